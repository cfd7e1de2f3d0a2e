/- Functions of the program as plain functions, and their walks, printed by walk.py. -/
import Derived.Test.YtapfkdcilfpbhaaRlF
import Derived.Test.YtapfkdcilfpbhaaRlXf
import Derived.Test.YtapfkdcilfpbhaaRlC
import Derived.Test.YtapfkdcilfpbhaaRlG
import Derived.Test.YtapfkdcilfpbhaaRlS
namespace Go.Proofs.Ytapfkdcilfpbhaa
open Go.RowKit
set_option linter.unusedVariables false
set_option linter.unusedSimpArgs false
def smithylaw07_RlpDecodes (a0 : List (BitVec 8)) : Option (Bool) :=
  Let ((a0.length : Int)) fun x11 => Let (decide (4000 < x11)) fun x12 => (bif x12 then (smithylaw07_fixed).bind fun x13 => some x13 else Let (([] : List (BitVec 8))) fun x14 => Chk ((x14.length + a0.length) * 1 ≤ 140737488355328) <| Let (x14 ++ a0) fun x16 => (rlp_Decode x16).bind fun x19 => (smithyref07_Decode a0).bind fun x24 => (smithylaw07_fixed).bind fun x27 => Let (!x27) fun x28 => (bif x28 then some true else (smithyref07_Same x19.1 x24.1).bind fun x32 => Let (!x32) fun x33 => some x33).bind (fun x34 => (bif x34 then some true else Let (x19.2 != x24.2) fun x38 => some x38).bind (fun x39 => (bif x39 then some true else Let (strOf x16) fun x42 => Let (strOf a0) fun x44 => Let (!(x42.toList == x44.toList)) fun x45 => some x45).bind (fun x46 => (bif x46 then some false else Let (x19.2 != 0) fun x48 => (bif x48 then some true else (rlp_Encode x19.1).bind fun x51 => Let (x51.2 == 0) fun x55 => (bif x55 then Let (strOf x51.1) fun x58 => Let (strOf a0) fun x60 => Let (x58.toList == x60.toList) fun x61 => some x61 else some false).bind (fun x62 => some x62)))))))
set_option maxRecDepth 100000 in
theorem smithylaw07_RlpDecodes.calls  (a0 : List (BitVec 8)) (A0 : Option Addr) (c0 : Nat) (r : Bool) (H : smithylaw07_RlpDecodes a0 = some r) (w : World) (hs0 : SlW w U8 A0 a0) (hc0 : a0.length ≤ c0)  :
    Made Try.prog 6 #[.slice A0 a0.length c0] w (.bool r) := by
  unfold smithylaw07_RlpDecodes at H
  replace hs0 := hs0.toH
  have hM := Mm.start w (snap w) (snap_ok w)
  generalize snap w = h at *
  refine t_enter (vs := [.slice A0 a0.length c0]) (n := 63) Try.func6 rfl rfl rfl hM ?_
  clear hM
  change T 63 _ _ _
  refine t_seq ?_
  refine t_region (fun ops hops => ?_)
  clear hops
  refine z_val (v := .bool false) (val_assign rfl rfl) rfl rfl rfl (fun _ _ _ => trivial) ?_
  refine z_nil ?_
  refine t_seq ?_
  refine t_seq ?_
  refine t_region (fun ops hops => ?_)
  clear hops
  refine z_val (v := .slice A0 a0.length c0) (val_move rfl rfl) rfl rfl rfl (fun _ _ _ => trivial) ?_
  obtain ⟨x11, hx11, H⟩ := Let_elim H
  refine z_val (v := .int .i64 x11) (by subst hx11; exact val_len rfl rfl rfl Try.underlying25) rfl rfl rfl (fun _ _ _ => trivial) ?_
  clear hx11
  obtain ⟨x12, hx12, H⟩ := Let_elim H
  refine z_val (v := .bool x12) (by subst hx12; exact val_bin rfl rfl rfl rfl (i64_gtr _ _ _)) rfl rfl rfl (fun _ _ _ => trivial) ?_
  clear hx12
  refine z_nil ?_
  cases x12
  ·
    replace H := cond_f H
    refine t_cond_false rfl ?_
    refine t_skip ?_
    refine t_seq ?_
    refine t_region (fun ops hops => ?_)
    clear hops
    obtain ⟨x14, hx14, H⟩ := Let_elim H
    have hlx14 : x14.length = 0 := by subst hx14; rfl
    refine z_buildSlice' (e := 5) (f := U8) (xs := x14) (vs := []) rfl rfl (by subst hx14; intro w; kernel_rfl) hlx14 (by decide) rfl rfl rfl (fun _ _ _ _ => trivial) (fun g_1 hs_3 => ?_)
    clear hx14 hlx14
    refine z_val (v := .slice A0 a0.length c0) (val_move rfl rfl) rfl rfl rfl (fun _ _ _ => trivial) ?_
    obtain ⟨hq_4, H⟩ := Chk_elim H
    obtain ⟨x16, hx16, H⟩ := Let_elim H
    refine z_append (f := U8) (j := 0) (xs := x14) (ys := a0) (zs := x16) rfl rfl Try.underlying25 in5 rfl rfl rfl rfl (fun w hw => (hs0.toW hw)) (fun _ => rfl) hq_4 (by decide) hx16 (fun A_5 c_6 => [.row (.slice A_5 x16.length c_6) 5 1 (x16.map U8)]) (fun _ _ => rfl) rfl rfl rfl (fun _ _ _ _ _ => trivial) (fun A_5 c_6 hs_7 => ?_)
    clear hx16
    refine z_val (v := .slice A_5 x16.length c_6) (val_assign rfl rfl) rfl rfl rfl (fun _ _ _ => trivial) ?_
    refine z_nil ?_
    refine t_seq ?_
    refine t_seal (fun h_8 hS hs_9 => ?_)
    have hc_10 := hs_7.le
    replace hs0 := hs0.up hS
    refine t_region (fun ops hops => ?_)
    clear hops
    refine z_val (v := .slice A_5 x16.length c_6) (val_move rfl rfl) rfl rfl rfl (fun _ _ _ => trivial) ?_
    obtain ⟨x19, hx, H⟩ := Option.bind_eq_some_iff.1 H
    refine z_callG rfl Try.func26 nm26 bs26 rfl (fun w hw => rlp_Decode.calls x16 A_5 c_6 x19 hx hs_9 hc_10 hw) rfl rfl rfl (fun _ _ _ _ _ => trivial) (fun g hφ => ?_)
    obtain ⟨h_11, A_14, c_15, cs⟩ := g
    try dsimp only at hφ
    obtain ⟨hS_12, hs_16, hr⟩ := hφ
    clear hx
    change T 63 _ _ _
    replace hs0 := hs0.up hS_12
    replace hs_9 := hs_9.up hS_12
    refine z_val (v := .tuple #[.slice A_14 x19.1.length c_15, .int .i64 x19.2]) (val_move rfl rfl) rfl rfl rfl (fun _ _ _ => trivial) ?_
    refine z_val (v := .slice A_14 x19.1.length c_15) (val_extract rfl rfl rfl) rfl rfl rfl (fun _ _ _ => trivial) ?_
    refine z_val (v := .int .i64 x19.2) (val_extract rfl rfl rfl) rfl rfl rfl (fun _ _ _ => trivial) ?_
    refine z_val (v := .slice A_14 x19.1.length c_15) (val_assign rfl rfl) rfl rfl rfl (fun _ _ _ => trivial) ?_
    refine z_val (v := .int .i64 x19.2) (val_assign rfl rfl) rfl rfl rfl (fun _ _ _ => trivial) ?_
    refine z_nil ?_
    refine t_seq ?_
    refine t_region (fun ops hops => ?_)
    clear hops
    refine z_val (v := .slice A0 a0.length c0) (val_move rfl rfl) rfl rfl rfl (fun _ _ _ => trivial) ?_
    obtain ⟨x24, hx_17, H⟩ := Option.bind_eq_some_iff.1 H
    refine z_callG rfl Try.func28 nm28 bs28 rfl (fun w hw => smithyref07_Decode.calls a0 A0 c0 x24 hx_17 hs0 hc0 hw) rfl rfl rfl (fun _ _ _ _ _ => trivial) (fun g hφ => ?_)
    obtain ⟨h_18, A_21, c_22, cs_24⟩ := g
    try dsimp only at hφ
    obtain ⟨hS_19, hs_23, hr_25⟩ := hφ
    clear hx_17
    change T 63 _ _ _
    replace hs0 := hs0.up hS_19
    replace hs_9 := hs_9.up hS_19
    replace hr := RpL.up hS_19 hr
    refine z_val (v := .tuple #[.slice A_21 x24.1.length c_22, .int .i64 x24.2]) (val_move rfl rfl) rfl rfl rfl (fun _ _ _ => trivial) ?_
    refine z_val (v := .slice A_21 x24.1.length c_22) (val_extract rfl rfl rfl) rfl rfl rfl (fun _ _ _ => trivial) ?_
    refine z_val (v := .int .i64 x24.2) (val_extract rfl rfl rfl) rfl rfl rfl (fun _ _ _ => trivial) ?_
    refine z_val (v := .slice A_21 x24.1.length c_22) (val_assign rfl rfl) rfl rfl rfl (fun _ _ _ => trivial) ?_
    refine z_val (v := .int .i64 x24.2) (val_assign rfl rfl) rfl rfl rfl (fun _ _ _ => trivial) ?_
    refine z_nil ?_
    refine t_seq ?_
    refine t_seq ?_
    refine t_region (fun ops hops => ?_)
    obtain ⟨x27, hx_26, H⟩ := Option.bind_eq_some_iff.1 H
    refine z_made (v := .bool x27) rfl Try.func10 nm10 bs10 rfl (fun w hw => smithylaw07_fixed.calls x27 hx_26 w) rfl rfl rfl (fun _ _ _ => trivial) ?_
    clear hx_26
    obtain ⟨x28, hx28, H⟩ := Let_elim H
    refine z_val (v := .bool x28) (by subst hx28; exact val_un rfl rfl (bool_not _)) rfl rfl rfl (fun _ _ _ => trivial) ?_
    clear hx28
    refine z_val (v := .bool x28) (val_move rfl rfl) rfl rfl rfl (fun _ _ _ => trivial) ?_
    refine z_bind H 5 (fun (s : Bool) (_ : Unit) => [(0, .slice A0 a0.length c0), (3, .slice A_5 x16.length c_6), (4, .slice A_14 x19.1.length c_15), (5, .int .i64 x19.2), (7, .int .i64 x24.2), (34, .bool s)]) (fun _ _ => Mm w [] h_18 [.row (.slice A_21 x24.1.length c_22) 60 3 cs_24, .row (.slice A_14 x19.1.length c_15) 60 3 cs]) (fun _ _ => True) (fun Gr K s he HJ => ?_) (fun s g HB _ => ?_)
    ·
      clear H
      cases x28
      ·
        have H := cond_f he
        clear he
        refine z_val (v := .slice A_14 x19.1.length c_15) (val_move rfl rfl) rfl rfl (by rw [hops]; rfl) (fun _ _ _ => trivial) ?_
        refine z_val (v := .slice A_21 x24.1.length c_22) (val_move rfl rfl) rfl rfl (by rw [hops]; rfl) (fun _ _ _ => trivial) ?_
        obtain ⟨x32, hx_27, H⟩ := Option.bind_eq_some_iff.1 H
        refine z_made (v := .bool x32) rfl Try.func27 nm27 bs27 rfl (fun w hw => smithyref07_Same.calls x19.1 x24.1 A_14 c_15 A_21 c_22 x32 hx_27 w (own_rw hw (j := 1) rfl hr hs_16) hs_16.le (own_rw hw (j := 0) rfl hr_25 hs_23) hs_23.le) rfl rfl (by rw [hops]; rfl) (fun _ _ _ => trivial) ?_
        clear hx_27
        obtain ⟨x33, hx33, H⟩ := Let_elim H
        refine z_val (v := .bool x33) (by subst hx33; exact val_un rfl rfl (bool_not _)) rfl rfl (by rw [hops]; rfl) (fun _ _ _ => trivial) ?_
        clear hx33
        refine z_val (v := .bool x33) (val_pick rfl rfl rfl) rfl rfl rfl (fun _ _ _ => trivial) ?_
        obtain rfl := Option.some.inj H
        exact z_nil ((K _ () HJ trivial).weak (fun a ha => ha.cons rfl (ha.cons rfl (ha.cons rfl (ha.cons rfl (ha.cons rfl (ha.cons rfl (ha.nil))))))) (fun w hw => hw))
      ·
        have H := cond_t he
        clear he
        refine z_skip rfl rfl (by rw [hops]; rfl) (fun _ _ _ => trivial) ?_
        refine z_skip rfl rfl (by rw [hops]; rfl) (fun _ _ _ => trivial) ?_
        refine z_skip rfl rfl (by rw [hops]; rfl) (fun _ _ _ => trivial) ?_
        refine z_skip rfl rfl (by rw [hops]; rfl) (fun _ _ _ => trivial) ?_
        refine z_val (v := .bool true) (val_pick rfl rfl rfl) rfl rfl rfl (fun _ _ _ => trivial) ?_
        obtain rfl := Option.some.inj H
        exact z_nil ((K _ () HJ trivial).weak (fun a ha => ha.cons rfl (ha.cons rfl (ha.cons rfl (ha.cons rfl (ha.cons rfl (ha.cons rfl (ha.nil))))))) (fun w hw => hw))
    ·
      replace H := HB
      clear HB
      obtain ⟨x34, rfl⟩ : ∃ x, x = s := ⟨_, rfl⟩
      change T 63 _ _ _
      refine z_val (v := .bool x34) (val_move rfl rfl) rfl rfl rfl (fun _ _ _ => trivial) ?_
      refine z_bind H 4 (fun (s : Bool) (_ : Unit) => [(0, .slice A0 a0.length c0), (3, .slice A_5 x16.length c_6), (4, .slice A_14 x19.1.length c_15), (5, .int .i64 x19.2), (39, .bool s)]) (fun _ _ => Mm w [] h_18 [.row (.slice A_21 x24.1.length c_22) 60 3 cs_24, .row (.slice A_14 x19.1.length c_15) 60 3 cs]) (fun _ _ => True) (fun Gr K s he HJ => ?_) (fun s g HB _ => ?_)
      ·
        clear H
        cases x34
        ·
          have H := cond_f he
          clear he
          refine z_val (v := .int .i64 x19.2) (val_move rfl rfl) rfl rfl (by rw [hops]; rfl) (fun _ _ _ => trivial) ?_
          refine z_val (v := .int .i64 x24.2) (val_move rfl rfl) rfl rfl (by rw [hops]; rfl) (fun _ _ _ => trivial) ?_
          obtain ⟨x38, hx38, H⟩ := Let_elim H
          refine z_val (v := .bool x38) (by subst hx38; exact val_bin rfl rfl rfl rfl (i64_neq _ _ _)) rfl rfl (by rw [hops]; rfl) (fun _ _ _ => trivial) ?_
          clear hx38
          refine z_val (v := .bool x38) (val_pick rfl rfl rfl) rfl rfl rfl (fun _ _ _ => trivial) ?_
          obtain rfl := Option.some.inj H
          exact z_nil ((K _ () HJ trivial).weak (fun a ha => ha.cons rfl (ha.cons rfl (ha.cons rfl (ha.cons rfl (ha.cons rfl (ha.nil)))))) (fun w hw => hw))
        ·
          have H := cond_t he
          clear he
          refine z_skip rfl rfl (by rw [hops]; rfl) (fun _ _ _ => trivial) ?_
          refine z_skip rfl rfl (by rw [hops]; rfl) (fun _ _ _ => trivial) ?_
          refine z_skip rfl rfl (by rw [hops]; rfl) (fun _ _ _ => trivial) ?_
          refine z_val (v := .bool true) (val_pick rfl rfl rfl) rfl rfl rfl (fun _ _ _ => trivial) ?_
          obtain rfl := Option.some.inj H
          exact z_nil ((K _ () HJ trivial).weak (fun a ha => ha.cons rfl (ha.cons rfl (ha.cons rfl (ha.cons rfl (ha.cons rfl (ha.nil)))))) (fun w hw => hw))
      ·
        replace H := HB
        clear HB
        obtain ⟨x39, rfl⟩ : ∃ x, x = s := ⟨_, rfl⟩
        change T 63 _ _ _
        refine z_val (v := .bool x39) (val_move rfl rfl) rfl rfl rfl (fun _ _ _ => trivial) ?_
        refine z_bind H 6 (fun (s : Bool) (_ : Unit) => [(0, .slice A0 a0.length c0), (4, .slice A_14 x19.1.length c_15), (5, .int .i64 x19.2), (46, .bool s)]) (fun _ _ => Mm w [] h_18 [.row (.slice A_21 x24.1.length c_22) 60 3 cs_24, .row (.slice A_14 x19.1.length c_15) 60 3 cs]) (fun _ _ => True) (fun Gr K s he HJ => ?_) (fun s g HB _ => ?_)
        ·
          clear H
          cases x39
          ·
            have H := cond_f he
            clear he
            refine z_val (v := .slice A_5 x16.length c_6) (val_move rfl rfl) rfl rfl (by rw [hops]; rfl) (fun _ _ _ => trivial) ?_
            obtain ⟨x42, hx42, H⟩ := Let_elim H
            refine z_val (v := .string x42) (by subst hx42; exact val_convS rfl rfl Try.underlying25 Try.underlying5 Try.underlying9 (fun w hw => (hs_9.toW hw))) rfl rfl (by rw [hops]; rfl) (fun _ _ _ => trivial) ?_
            clear hx42
            refine z_val (v := .slice A0 a0.length c0) (val_move rfl rfl) rfl rfl (by rw [hops]; rfl) (fun _ _ _ => trivial) ?_
            obtain ⟨x44, hx44, H⟩ := Let_elim H
            refine z_val (v := .string x44) (by subst hx44; exact val_convS rfl rfl Try.underlying25 Try.underlying5 Try.underlying9 (fun w hw => (hs0.toW hw))) rfl rfl (by rw [hops]; rfl) (fun _ _ _ => trivial) ?_
            clear hx44
            obtain ⟨x45, hx45, H⟩ := Let_elim H
            refine z_val (v := .bool x45) (by subst hx45; exact val_bin rfl rfl rfl rfl (str_neq _ _ _)) rfl rfl (by rw [hops]; rfl) (fun _ _ _ => trivial) ?_
            clear hx45
            refine z_val (v := .bool x45) (val_pick rfl rfl rfl) rfl rfl rfl (fun _ _ _ => trivial) ?_
            obtain rfl := Option.some.inj H
            exact z_nil ((K _ () HJ trivial).weak (fun a ha => ha.cons rfl (ha.cons rfl (ha.cons rfl (ha.cons rfl (ha.nil))))) (fun w hw => hw))
          ·
            have H := cond_t he
            clear he
            refine z_skip rfl rfl (by rw [hops]; rfl) (fun _ _ _ => trivial) ?_
            refine z_skip rfl rfl (by rw [hops]; rfl) (fun _ _ _ => trivial) ?_
            refine z_skip rfl rfl (by rw [hops]; rfl) (fun _ _ _ => trivial) ?_
            refine z_skip rfl rfl (by rw [hops]; rfl) (fun _ _ _ => trivial) ?_
            refine z_skip rfl rfl (by rw [hops]; rfl) (fun _ _ _ => trivial) ?_
            refine z_val (v := .bool true) (val_pick rfl rfl rfl) rfl rfl rfl (fun _ _ _ => trivial) ?_
            obtain rfl := Option.some.inj H
            exact z_nil ((K _ () HJ trivial).weak (fun a ha => ha.cons rfl (ha.cons rfl (ha.cons rfl (ha.cons rfl (ha.nil))))) (fun w hw => hw))
        ·
          replace H := HB
          clear HB
          obtain ⟨x46, rfl⟩ : ∃ x, x = s := ⟨_, rfl⟩
          change T 63 _ _ _
          refine z_nil ?_
          cases x46
          ·
            replace H := cond_f H
            refine t_cond_false rfl ?_
            refine t_skip ?_
            refine t_seq ?_
            refine t_seq ?_
            refine t_region (fun ops hops => ?_)
            clear hops
            refine z_val (v := .int .i64 x19.2) (val_move rfl rfl) rfl rfl rfl (fun _ _ _ => trivial) ?_
            obtain ⟨x48, hx48, H⟩ := Let_elim H
            refine z_val (v := .bool x48) (by subst hx48; exact val_bin rfl rfl rfl rfl (i64_neq _ _ _)) rfl rfl rfl (fun _ _ _ => trivial) ?_
            clear hx48
            refine z_nil ?_
            cases x48
            ·
              replace H := cond_f H
              refine t_cond_false rfl ?_
              refine t_skip ?_
              refine t_seq ?_
              refine t_region (fun ops hops => ?_)
              clear hops
              refine z_val (v := .slice A_14 x19.1.length c_15) (val_move rfl rfl) rfl rfl rfl (fun _ _ _ => trivial) ?_
              obtain ⟨x51, hx_28, H⟩ := Option.bind_eq_some_iff.1 H
              refine z_madeS (F := fun A_29 c_30 => .tuple #[.slice A_29 x51.1.length c_30, .int .i64 x51.2]) (xs := x51.1) rfl Try.func24 nm24 bs24 rfl (fun w hw => rlp_Encode.calls x19.1 A_14 c_15 x51 hx_28 w (own_rw hw (j := 1) rfl hr hs_16) hs_16.le) rfl rfl rfl (fun _ _ _ _ _ => trivial) (fun A_29 c_30 hs_31 => ?_)
              clear hx_28
              refine z_val (v := .tuple #[.slice A_29 x51.1.length c_30, .int .i64 x51.2]) (val_move rfl rfl) rfl rfl rfl (fun _ _ _ => trivial) ?_
              refine z_val (v := .slice A_29 x51.1.length c_30) (val_extract rfl rfl rfl) rfl rfl rfl (fun _ _ _ => trivial) ?_
              refine z_val (v := .int .i64 x51.2) (val_extract rfl rfl rfl) rfl rfl rfl (fun _ _ _ => trivial) ?_
              refine z_val (v := .slice A_29 x51.1.length c_30) (val_assign rfl rfl) rfl rfl rfl (fun _ _ _ => trivial) ?_
              refine z_val (v := .int .i64 x51.2) (val_assign rfl rfl) rfl rfl rfl (fun _ _ _ => trivial) ?_
              refine z_nil ?_
              refine t_seq ?_
              refine t_region (fun ops hops => ?_)
              refine z_val (v := .int .i64 x51.2) (val_move rfl rfl) rfl rfl rfl (fun _ _ _ => trivial) ?_
              obtain ⟨x55, hx55, H⟩ := Let_elim H
              refine z_val (v := .bool x55) (by subst hx55; exact val_bin rfl rfl rfl rfl (i64_eql _ _ _)) rfl rfl rfl (fun _ _ _ => trivial) ?_
              clear hx55
              refine z_val (v := .bool x55) (val_move rfl rfl) rfl rfl rfl (fun _ _ _ => trivial) ?_
              refine z_bind H 6 (fun (s : Bool) (_ : Unit) => [(62, .bool s)]) (fun _ _ => Mm w [] h_18 [.row (.slice A_29 x51.1.length c_30) 5 1 (x51.1.map U8), .row (.slice A_21 x24.1.length c_22) 60 3 cs_24, .row (.slice A_14 x19.1.length c_15) 60 3 cs]) (fun _ _ => True) (fun Gr K s he HJ => ?_) (fun s g HB _ => ?_)
              ·
                clear H
                cases x55
                ·
                  have H := cond_f he
                  clear he
                  refine z_skip rfl rfl (by rw [hops]; rfl) (fun _ _ _ => trivial) ?_
                  refine z_skip rfl rfl (by rw [hops]; rfl) (fun _ _ _ => trivial) ?_
                  refine z_skip rfl rfl (by rw [hops]; rfl) (fun _ _ _ => trivial) ?_
                  refine z_skip rfl rfl (by rw [hops]; rfl) (fun _ _ _ => trivial) ?_
                  refine z_skip rfl rfl (by rw [hops]; rfl) (fun _ _ _ => trivial) ?_
                  refine z_val (v := .bool false) (val_pick rfl rfl rfl) rfl rfl rfl (fun _ _ _ => trivial) ?_
                  obtain rfl := Option.some.inj H
                  exact z_nil ((K _ () HJ trivial).weak (fun a ha => ha.cons rfl (ha.nil)) (fun w hw => hw))
                ·
                  have H := cond_t he
                  clear he
                  refine z_val (v := .slice A_29 x51.1.length c_30) (val_move rfl rfl) rfl rfl (by rw [hops]; rfl) (fun _ _ _ => trivial) ?_
                  obtain ⟨x58, hx58, H⟩ := Let_elim H
                  refine z_val (v := .string x58) (by subst hx58; exact val_convS rfl rfl Try.underlying25 Try.underlying5 Try.underlying9 (fun w hw => (row_w hw (j := 0) rfl))) rfl rfl (by rw [hops]; rfl) (fun _ _ _ => trivial) ?_
                  clear hx58
                  refine z_val (v := .slice A0 a0.length c0) (val_move rfl rfl) rfl rfl (by rw [hops]; rfl) (fun _ _ _ => trivial) ?_
                  obtain ⟨x60, hx60, H⟩ := Let_elim H
                  refine z_val (v := .string x60) (by subst hx60; exact val_convS rfl rfl Try.underlying25 Try.underlying5 Try.underlying9 (fun w hw => (hs0.toW hw))) rfl rfl (by rw [hops]; rfl) (fun _ _ _ => trivial) ?_
                  clear hx60
                  obtain ⟨x61, hx61, H⟩ := Let_elim H
                  refine z_val (v := .bool x61) (by subst hx61; exact val_bin rfl rfl rfl rfl (str_eql _ _ _)) rfl rfl (by rw [hops]; rfl) (fun _ _ _ => trivial) ?_
                  clear hx61
                  refine z_val (v := .bool x61) (val_pick rfl rfl rfl) rfl rfl rfl (fun _ _ _ => trivial) ?_
                  obtain rfl := Option.some.inj H
                  exact z_nil ((K _ () HJ trivial).weak (fun a ha => ha.cons rfl (ha.nil)) (fun w hw => hw))
              ·
                replace H := HB
                clear HB
                obtain ⟨x62, rfl⟩ : ∃ x, x = s := ⟨_, rfl⟩
                change T 63 _ _ _
                refine z_val (v := .bool x62) (val_assign rfl rfl) rfl rfl rfl (fun _ _ _ => trivial) ?_
                refine z_nil ?_
                refine t_ret ?_
                obtain rfl := Option.some.inj H
                exact ret1 rfl (res_tmp rfl) (fun _ hw => ⟨rfl, hw.below⟩)
            ·
              replace H := cond_t H
              refine t_cond_true rfl ?_
              refine t_seq ?_
              refine t_region (fun ops hops => ?_)
              clear hops
              refine z_val (v := .bool true) (val_assign rfl rfl) rfl rfl rfl (fun _ _ _ => trivial) ?_
              refine z_nil ?_
              refine t_ret ?_
              obtain rfl := Option.some.inj H
              exact ret1 rfl (res_tmp rfl) (fun _ hw => ⟨rfl, hw.below⟩)
          ·
            replace H := cond_t H
            refine t_cond_true rfl ?_
            refine t_seq ?_
            refine t_region (fun ops hops => ?_)
            clear hops
            refine z_val (v := .bool false) (val_assign rfl rfl) rfl rfl rfl (fun _ _ _ => trivial) ?_
            refine z_nil ?_
            refine t_ret ?_
            obtain rfl := Option.some.inj H
            exact ret1 rfl (res_tmp rfl) (fun _ hw => ⟨rfl, hw.below⟩)
  ·
    replace H := cond_t H
    refine t_cond_true rfl ?_
    refine t_seq ?_
    refine t_region (fun ops hops => ?_)
    clear hops
    obtain ⟨x13, hx_33, H⟩ := Option.bind_eq_some_iff.1 H
    refine z_made (v := .bool x13) rfl Try.func10 nm10 bs10 rfl (fun w hw => smithylaw07_fixed.calls x13 hx_33 w) rfl rfl rfl (fun _ _ _ => trivial) ?_
    clear hx_33
    refine z_val (v := .bool x13) (val_assign rfl rfl) rfl rfl rfl (fun _ _ _ => trivial) ?_
    refine z_nil ?_
    refine t_ret ?_
    obtain rfl := Option.some.inj H
    exact ret1 rfl (res_tmp rfl) (fun _ hw => ⟨rfl, hw.below⟩)
end Go.Proofs.Ytapfkdcilfpbhaa
