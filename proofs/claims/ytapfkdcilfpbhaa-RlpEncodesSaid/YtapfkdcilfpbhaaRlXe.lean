/- Functions of the program as plain functions, and their walks, printed by walk.py. -/
import Derived.Test.YtapfkdcilfpbhaaRlF
import Derived.Test.YtapfkdcilfpbhaaRlXf
import Derived.Test.YtapfkdcilfpbhaaRlC
import Derived.Test.YtapfkdcilfpbhaaRlE
import Derived.Test.YtapfkdcilfpbhaaRlS
namespace Go.Proofs.Ytapfkdcilfpbhaa
open Go.RowKit
set_option linter.unusedVariables false
set_option linter.unusedSimpArgs false
def smithylaw07_RlpEncodes (a0 : List ((Bool) × (List (BitVec 8)) × (Int))) : Option (Bool) :=
  (smithyref07_Great a0).bind fun x10 => (bif x10 then (smithylaw07_fixed).bind fun x11 => some x11 else (rlp_Encode a0).bind fun x14 => (smithyref07_Encode a0).bind fun x19 => (smithylaw07_fixed).bind fun x22 => Let (!x22) fun x23 => (bif x23 then some true else Let (strOf x14.1) fun x26 => Let (strOf x19.1) fun x28 => Let (!(x26.toList == x28.toList)) fun x29 => some x29).bind (fun x30 => (bif x30 then some true else Let (x14.2 != x19.2) fun x34 => some x34).bind (fun x35 => (bif x35 then some false else Let (x14.2 != 0) fun x37 => (bif x37 then some true else (rlp_Decode x14.1).bind fun x40 => Let (x40.2 == 0) fun x44 => (bif x44 then (smithyref07_Same x40.1 a0).bind fun x48 => some x48 else some false).bind (fun x49 => some x49))))))
set_option maxRecDepth 100000 in
theorem smithylaw07_RlpEncodes.calls  (a0 : List ((Bool) × (List (BitVec 8)) × (Int))) (A0 : Option Addr) (c0 : Nat) (r : Bool) (H : smithylaw07_RlpEncodes a0 = some r) (w : World) (hs0 : SlRW w R60 A0 a0) (hc0 : a0.length ≤ c0)  :
    Made Try.prog 5 #[.slice A0 a0.length c0] w (.bool r) := by
  unfold smithylaw07_RlpEncodes at H
  replace hs0 := hs0.toH
  have hM := Mm.start w (snap w) (snap_ok w)
  generalize snap w = h at *
  refine t_enter (vs := [.slice A0 a0.length c0]) (n := 50) Try.func5 rfl rfl rfl hM ?_
  clear hM
  change T 50 _ _ _
  refine t_seq ?_
  refine t_region (fun ops hops => ?_)
  clear hops
  refine z_val (v := .bool false) (val_assign rfl rfl) rfl rfl rfl (fun _ _ _ => trivial) ?_
  refine z_nil ?_
  refine t_seq ?_
  refine t_seq ?_
  refine t_region (fun ops hops => ?_)
  clear hops
  refine z_val (v := .slice A0 a0.length c0) (val_move rfl rfl) rfl rfl rfl (fun _ _ _ => trivial) ?_
  obtain ⟨x10, hx, H⟩ := Option.bind_eq_some_iff.1 H
  refine z_made (v := .bool x10) rfl Try.func23 nm23 bs23 rfl (fun w hw => smithyref07_Great.calls a0 A0 c0 x10 hx w (hs0.toW hw) hc0) rfl rfl rfl (fun _ _ _ => trivial) ?_
  clear hx
  refine z_nil ?_
  cases x10
  ·
    replace H := cond_f H
    refine t_cond_false rfl ?_
    refine t_skip ?_
    refine t_seq ?_
    refine t_region (fun ops hops => ?_)
    clear hops
    refine z_val (v := .slice A0 a0.length c0) (val_move rfl rfl) rfl rfl rfl (fun _ _ _ => trivial) ?_
    obtain ⟨x14, hx_1, H⟩ := Option.bind_eq_some_iff.1 H
    refine z_madeS (F := fun A_2 c_3 => .tuple #[.slice A_2 x14.1.length c_3, .int .i64 x14.2]) (xs := x14.1) rfl Try.func24 nm24 bs24 rfl (fun w hw => rlp_Encode.calls a0 A0 c0 x14 hx_1 w (hs0.toW hw) hc0) rfl rfl rfl (fun _ _ _ _ _ => trivial) (fun A_2 c_3 hs_4 => ?_)
    clear hx_1
    refine z_val (v := .tuple #[.slice A_2 x14.1.length c_3, .int .i64 x14.2]) (val_move rfl rfl) rfl rfl rfl (fun _ _ _ => trivial) ?_
    refine z_val (v := .slice A_2 x14.1.length c_3) (val_extract rfl rfl rfl) rfl rfl rfl (fun _ _ _ => trivial) ?_
    refine z_val (v := .int .i64 x14.2) (val_extract rfl rfl rfl) rfl rfl rfl (fun _ _ _ => trivial) ?_
    refine z_val (v := .slice A_2 x14.1.length c_3) (val_assign rfl rfl) rfl rfl rfl (fun _ _ _ => trivial) ?_
    refine z_val (v := .int .i64 x14.2) (val_assign rfl rfl) rfl rfl rfl (fun _ _ _ => trivial) ?_
    refine z_nil ?_
    refine t_seq ?_
    refine t_region (fun ops hops => ?_)
    clear hops
    refine z_val (v := .slice A0 a0.length c0) (val_move rfl rfl) rfl rfl rfl (fun _ _ _ => trivial) ?_
    obtain ⟨x19, hx_6, H⟩ := Option.bind_eq_some_iff.1 H
    refine z_madeS (F := fun A_7 c_8 => .tuple #[.slice A_7 x19.1.length c_8, .int .i64 x19.2]) (xs := x19.1) rfl Try.func25 nm25 bs25 rfl (fun w hw => smithyref07_Encode.calls a0 A0 c0 x19 hx_6 w (hs0.toW hw) hc0) rfl rfl rfl (fun _ _ _ _ _ => trivial) (fun A_7 c_8 hs_9 => ?_)
    clear hx_6
    refine z_val (v := .tuple #[.slice A_7 x19.1.length c_8, .int .i64 x19.2]) (val_move rfl rfl) rfl rfl rfl (fun _ _ _ => trivial) ?_
    refine z_val (v := .slice A_7 x19.1.length c_8) (val_extract rfl rfl rfl) rfl rfl rfl (fun _ _ _ => trivial) ?_
    refine z_val (v := .int .i64 x19.2) (val_extract rfl rfl rfl) rfl rfl rfl (fun _ _ _ => trivial) ?_
    refine z_val (v := .slice A_7 x19.1.length c_8) (val_assign rfl rfl) rfl rfl rfl (fun _ _ _ => trivial) ?_
    refine z_val (v := .int .i64 x19.2) (val_assign rfl rfl) rfl rfl rfl (fun _ _ _ => trivial) ?_
    refine z_nil ?_
    refine t_seq ?_
    refine t_seq ?_
    refine t_region (fun ops hops => ?_)
    obtain ⟨x22, hx_11, H⟩ := Option.bind_eq_some_iff.1 H
    refine z_made (v := .bool x22) rfl Try.func10 nm10 bs10 rfl (fun w hw => smithylaw07_fixed.calls x22 hx_11 w) rfl rfl rfl (fun _ _ _ => trivial) ?_
    clear hx_11
    obtain ⟨x23, hx23, H⟩ := Let_elim H
    refine z_val (v := .bool x23) (by subst hx23; exact val_un rfl rfl (bool_not _)) rfl rfl rfl (fun _ _ _ => trivial) ?_
    clear hx23
    refine z_val (v := .bool x23) (val_move rfl rfl) rfl rfl rfl (fun _ _ _ => trivial) ?_
    refine z_bind H 6 (fun (s : Bool) (_ : Unit) => [(0, .slice A0 a0.length c0), (3, .slice A_2 x14.1.length c_3), (4, .int .i64 x14.2), (6, .int .i64 x19.2), (30, .bool s)]) (fun _ _ => Mm w [] h [.row (.slice A_7 x19.1.length c_8) 5 1 (x19.1.map U8), .row (.slice A_2 x14.1.length c_3) 5 1 (x14.1.map U8)]) (fun _ _ => True) (fun Gr K s he HJ => ?_) (fun s g HB _ => ?_)
    ·
      clear H
      cases x23
      ·
        have H := cond_f he
        clear he
        refine z_val (v := .slice A_2 x14.1.length c_3) (val_move rfl rfl) rfl rfl (by rw [hops]; rfl) (fun _ _ _ => trivial) ?_
        obtain ⟨x26, hx26, H⟩ := Let_elim H
        refine z_val (v := .string x26) (by subst hx26; exact val_convS rfl rfl Try.underlying25 Try.underlying5 Try.underlying9 (fun w hw => (row_w hw (j := 1) rfl))) rfl rfl (by rw [hops]; rfl) (fun _ _ _ => trivial) ?_
        clear hx26
        refine z_val (v := .slice A_7 x19.1.length c_8) (val_move rfl rfl) rfl rfl (by rw [hops]; rfl) (fun _ _ _ => trivial) ?_
        obtain ⟨x28, hx28, H⟩ := Let_elim H
        refine z_val (v := .string x28) (by subst hx28; exact val_convS rfl rfl Try.underlying25 Try.underlying5 Try.underlying9 (fun w hw => (row_w hw (j := 0) rfl))) rfl rfl (by rw [hops]; rfl) (fun _ _ _ => trivial) ?_
        clear hx28
        obtain ⟨x29, hx29, H⟩ := Let_elim H
        refine z_val (v := .bool x29) (by subst hx29; exact val_bin rfl rfl rfl rfl (str_neq _ _ _)) rfl rfl (by rw [hops]; rfl) (fun _ _ _ => trivial) ?_
        clear hx29
        refine z_val (v := .bool x29) (val_pick rfl rfl rfl) rfl rfl rfl (fun _ _ _ => trivial) ?_
        obtain rfl := Option.some.inj H
        exact z_nil ((K _ () HJ trivial).weak (fun a ha => ha.cons rfl (ha.cons rfl (ha.cons rfl (ha.cons rfl (ha.cons rfl (ha.nil)))))) (fun w hw => hw))
      ·
        have H := cond_t he
        clear he
        refine z_skip rfl rfl (by rw [hops]; rfl) (fun _ _ _ => trivial) ?_
        refine z_skip rfl rfl (by rw [hops]; rfl) (fun _ _ _ => trivial) ?_
        refine z_skip rfl rfl (by rw [hops]; rfl) (fun _ _ _ => trivial) ?_
        refine z_skip rfl rfl (by rw [hops]; rfl) (fun _ _ _ => trivial) ?_
        refine z_skip rfl rfl (by rw [hops]; rfl) (fun _ _ _ => trivial) ?_
        refine z_val (v := .bool true) (val_pick rfl rfl rfl) rfl rfl rfl (fun _ _ _ => trivial) ?_
        obtain rfl := Option.some.inj H
        exact z_nil ((K _ () HJ trivial).weak (fun a ha => ha.cons rfl (ha.cons rfl (ha.cons rfl (ha.cons rfl (ha.cons rfl (ha.nil)))))) (fun w hw => hw))
    ·
      replace H := HB
      clear HB
      obtain ⟨x30, rfl⟩ : ∃ x, x = s := ⟨_, rfl⟩
      change T 50 _ _ _
      refine z_val (v := .bool x30) (val_move rfl rfl) rfl rfl rfl (fun _ _ _ => trivial) ?_
      refine z_bind H 4 (fun (s : Bool) (_ : Unit) => [(0, .slice A0 a0.length c0), (3, .slice A_2 x14.1.length c_3), (4, .int .i64 x14.2), (35, .bool s)]) (fun _ _ => Mm w [] h [.row (.slice A_7 x19.1.length c_8) 5 1 (x19.1.map U8), .row (.slice A_2 x14.1.length c_3) 5 1 (x14.1.map U8)]) (fun _ _ => True) (fun Gr K s he HJ => ?_) (fun s g HB _ => ?_)
      ·
        clear H
        cases x30
        ·
          have H := cond_f he
          clear he
          refine z_val (v := .int .i64 x14.2) (val_move rfl rfl) rfl rfl (by rw [hops]; rfl) (fun _ _ _ => trivial) ?_
          refine z_val (v := .int .i64 x19.2) (val_move rfl rfl) rfl rfl (by rw [hops]; rfl) (fun _ _ _ => trivial) ?_
          obtain ⟨x34, hx34, H⟩ := Let_elim H
          refine z_val (v := .bool x34) (by subst hx34; exact val_bin rfl rfl rfl rfl (i64_neq _ _ _)) rfl rfl (by rw [hops]; rfl) (fun _ _ _ => trivial) ?_
          clear hx34
          refine z_val (v := .bool x34) (val_pick rfl rfl rfl) rfl rfl rfl (fun _ _ _ => trivial) ?_
          obtain rfl := Option.some.inj H
          exact z_nil ((K _ () HJ trivial).weak (fun a ha => ha.cons rfl (ha.cons rfl (ha.cons rfl (ha.cons rfl (ha.nil))))) (fun w hw => hw))
        ·
          have H := cond_t he
          clear he
          refine z_skip rfl rfl (by rw [hops]; rfl) (fun _ _ _ => trivial) ?_
          refine z_skip rfl rfl (by rw [hops]; rfl) (fun _ _ _ => trivial) ?_
          refine z_skip rfl rfl (by rw [hops]; rfl) (fun _ _ _ => trivial) ?_
          refine z_val (v := .bool true) (val_pick rfl rfl rfl) rfl rfl rfl (fun _ _ _ => trivial) ?_
          obtain rfl := Option.some.inj H
          exact z_nil ((K _ () HJ trivial).weak (fun a ha => ha.cons rfl (ha.cons rfl (ha.cons rfl (ha.cons rfl (ha.nil))))) (fun w hw => hw))
      ·
        replace H := HB
        clear HB
        obtain ⟨x35, rfl⟩ : ∃ x, x = s := ⟨_, rfl⟩
        change T 50 _ _ _
        refine z_nil ?_
        cases x35
        ·
          replace H := cond_f H
          refine t_cond_false rfl ?_
          refine t_skip ?_
          refine t_seq ?_
          refine t_seq ?_
          refine t_region (fun ops hops => ?_)
          clear hops
          refine z_val (v := .int .i64 x14.2) (val_move rfl rfl) rfl rfl rfl (fun _ _ _ => trivial) ?_
          obtain ⟨x37, hx37, H⟩ := Let_elim H
          refine z_val (v := .bool x37) (by subst hx37; exact val_bin rfl rfl rfl rfl (i64_neq _ _ _)) rfl rfl rfl (fun _ _ _ => trivial) ?_
          clear hx37
          refine z_nil ?_
          cases x37
          ·
            replace H := cond_f H
            refine t_cond_false rfl ?_
            refine t_skip ?_
            refine t_seq ?_
            refine T.sel [1, 0] rfl rfl ?_
            refine t_seal (fun h_12 hS hs_13 => ?_)
            have hc_14 := hs_4.le
            replace hs0 := hs0.up hS
            refine t_region (fun ops hops => ?_)
            clear hops
            refine z_val (v := .slice A_2 x14.1.length c_3) (val_move rfl rfl) rfl rfl rfl (fun _ _ _ => trivial) ?_
            obtain ⟨x40, hx_15, H⟩ := Option.bind_eq_some_iff.1 H
            refine z_callG rfl Try.func26 nm26 bs26 rfl (fun w hw => rlp_Decode.calls x14.1 A_2 c_3 x40 hx_15 hs_13 hc_14 hw) rfl rfl rfl (fun _ _ _ _ _ => trivial) (fun g hφ => ?_)
            obtain ⟨h_16, A_19, c_20, cs⟩ := g
            try dsimp only at hφ
            obtain ⟨hS_17, hs_21, hr⟩ := hφ
            clear hx_15
            change T 50 _ _ _
            replace hs0 := hs0.up hS_17
            replace hs_13 := hs_13.up hS_17
            refine z_val (v := .tuple #[.slice A_19 x40.1.length c_20, .int .i64 x40.2]) (val_move rfl rfl) rfl rfl rfl (fun _ _ _ => trivial) ?_
            refine z_val (v := .slice A_19 x40.1.length c_20) (val_extract rfl rfl rfl) rfl rfl rfl (fun _ _ _ => trivial) ?_
            refine z_val (v := .int .i64 x40.2) (val_extract rfl rfl rfl) rfl rfl rfl (fun _ _ _ => trivial) ?_
            refine z_val (v := .slice A_19 x40.1.length c_20) (val_assign rfl rfl) rfl rfl rfl (fun _ _ _ => trivial) ?_
            refine z_val (v := .int .i64 x40.2) (val_assign rfl rfl) rfl rfl rfl (fun _ _ _ => trivial) ?_
            refine z_nil ?_
            refine t_seq ?_
            refine t_region (fun ops hops => ?_)
            refine z_val (v := .int .i64 x40.2) (val_move rfl rfl) rfl rfl rfl (fun _ _ _ => trivial) ?_
            obtain ⟨x44, hx44, H⟩ := Let_elim H
            refine z_val (v := .bool x44) (by subst hx44; exact val_bin rfl rfl rfl rfl (i64_eql _ _ _)) rfl rfl rfl (fun _ _ _ => trivial) ?_
            clear hx44
            refine z_val (v := .bool x44) (val_move rfl rfl) rfl rfl rfl (fun _ _ _ => trivial) ?_
            refine z_bind H 4 (fun (s : Bool) (_ : Unit) => [(49, .bool s)]) (fun _ _ => Mm w [] h_16 [.row (.slice A_19 x40.1.length c_20) 60 3 cs, .row (.slice A_7 x19.1.length c_8) 5 1 (x19.1.map U8)]) (fun _ _ => True) (fun Gr K s he HJ => ?_) (fun s g HB _ => ?_)
            ·
              clear H
              cases x44
              ·
                have H := cond_f he
                clear he
                refine z_skip rfl rfl (by rw [hops]; rfl) (fun _ _ _ => trivial) ?_
                refine z_skip rfl rfl (by rw [hops]; rfl) (fun _ _ _ => trivial) ?_
                refine z_skip rfl rfl (by rw [hops]; rfl) (fun _ _ _ => trivial) ?_
                refine z_val (v := .bool false) (val_pick rfl rfl rfl) rfl rfl rfl (fun _ _ _ => trivial) ?_
                obtain rfl := Option.some.inj H
                exact z_nil ((K _ () HJ trivial).weak (fun a ha => ha.cons rfl (ha.nil)) (fun w hw => hw))
              ·
                have H := cond_t he
                clear he
                refine z_val (v := .slice A_19 x40.1.length c_20) (val_move rfl rfl) rfl rfl (by rw [hops]; rfl) (fun _ _ _ => trivial) ?_
                refine z_val (v := .slice A0 a0.length c0) (val_move rfl rfl) rfl rfl (by rw [hops]; rfl) (fun _ _ _ => trivial) ?_
                obtain ⟨x48, hx_22, H⟩ := Option.bind_eq_some_iff.1 H
                refine z_made (v := .bool x48) rfl Try.func27 nm27 bs27 rfl (fun w hw => smithyref07_Same.calls x40.1 a0 A_19 c_20 A0 c0 x48 hx_22 w (own_rw hw (j := 0) rfl hr hs_21) hs_21.le (hs0.toW hw) hc0) rfl rfl (by rw [hops]; rfl) (fun _ _ _ => trivial) ?_
                clear hx_22
                refine z_val (v := .bool x48) (val_pick rfl rfl rfl) rfl rfl rfl (fun _ _ _ => trivial) ?_
                obtain rfl := Option.some.inj H
                exact z_nil ((K _ () HJ trivial).weak (fun a ha => ha.cons rfl (ha.nil)) (fun w hw => hw))
            ·
              replace H := HB
              clear HB
              obtain ⟨x49, rfl⟩ : ∃ x, x = s := ⟨_, rfl⟩
              change T 50 _ _ _
              refine z_val (v := .bool x49) (val_assign rfl rfl) rfl rfl rfl (fun _ _ _ => trivial) ?_
              refine z_nil ?_
              refine t_ret ?_
              obtain rfl := Option.some.inj H
              exact ret1 rfl (res_tmp rfl) (fun _ hw => ⟨rfl, hw.below⟩)
          ·
            replace H := cond_t H
            refine t_cond_true rfl ?_
            refine t_seq ?_
            refine t_region (fun ops hops => ?_)
            clear hops
            refine z_val (v := .bool true) (val_assign rfl rfl) rfl rfl rfl (fun _ _ _ => trivial) ?_
            refine z_nil ?_
            refine t_ret ?_
            obtain rfl := Option.some.inj H
            exact ret1 rfl (res_tmp rfl) (fun _ hw => ⟨rfl, hw.below⟩)
        ·
          replace H := cond_t H
          refine t_cond_true rfl ?_
          refine t_seq ?_
          refine t_region (fun ops hops => ?_)
          clear hops
          refine z_val (v := .bool false) (val_assign rfl rfl) rfl rfl rfl (fun _ _ _ => trivial) ?_
          refine z_nil ?_
          refine t_ret ?_
          obtain rfl := Option.some.inj H
          exact ret1 rfl (res_tmp rfl) (fun _ hw => ⟨rfl, hw.below⟩)
  ·
    replace H := cond_t H
    refine t_cond_true rfl ?_
    refine t_seq ?_
    refine t_region (fun ops hops => ?_)
    clear hops
    obtain ⟨x11, hx_23, H⟩ := Option.bind_eq_some_iff.1 H
    refine z_made (v := .bool x11) rfl Try.func10 nm10 bs10 rfl (fun w hw => smithylaw07_fixed.calls x11 hx_23 w) rfl rfl rfl (fun _ _ _ => trivial) ?_
    clear hx_23
    refine z_val (v := .bool x11) (val_assign rfl rfl) rfl rfl rfl (fun _ _ _ => trivial) ?_
    refine z_nil ?_
    refine t_ret ?_
    obtain rfl := Option.some.inj H
    exact ret1 rfl (res_tmp rfl) (fun _ hw => ⟨rfl, hw.below⟩)
end Go.Proofs.Ytapfkdcilfpbhaa
