/- Functions of the program as plain functions, and their walks, printed by walk.py. -/
import Derived.Test.YtccilbklafhjiaaMcF
import Derived.Test.YtccilbklafhjiaaMcD
import Derived.Test.YtccilbklafhjiaaMcP
namespace Go.Proofs.Ytccilbklafhjiaa
open Go.RowKit
set_option linter.unusedVariables false
set_option linter.unusedSimpArgs false
def smithylaw09_ModexpPowers (a0 : List (BitVec 8)) (a1 : List (BitVec 8)) (a2 : List (BitVec 8)) : Option (Bool) :=
  (modexp_Pow a0 a1 a2).bind fun x13 => Let (([a0, a1, a2] : List (List (BitVec 8)))) fun x19 => (smithylaw09_long x19).bind fun x20 => (bif x20 then (smithylaw09_fixed).bind fun x21 => (bif x21 then Let ((x13.1.length : Int)) fun x24 => Let (x24 == 0) fun x25 => some x25 else some false).bind (fun x26 => (bif x26 then Let (x13.2 == 4) fun x29 => some x29 else some false).bind (fun x30 => some x30)) else Let ((a0.length : Int)) fun x32 => Let (decide (20 < x32)) fun x33 => (bif x33 then some true else Let ((a1.length : Int)) fun x36 => Let (decide (9 < x36)) fun x37 => some x37).bind (fun x38 => (bif x38 then some true else Let ((a2.length : Int)) fun x41 => Let (decide (9 < x41)) fun x42 => some x42).bind (fun x43 => (bif x43 then (smithylaw09_fixed).bind fun x44 => (bif x44 then Let (x13.2 == 0) fun x47 => some x47 else some false).bind (fun x48 => (bif x48 then Let ((x13.1.length : Int)) fun x51 => Let ((a2.length : Int)) fun x53 => Let (x51 == x53) fun x54 => some x54 else some false).bind (fun x55 => some x55)) else (smithylaw09_fixed).bind fun x56 => (bif x56 then Let (x13.2 == 0) fun x59 => some x59 else some false).bind (fun x60 => (bif x60 then Let (strOf x13.1) fun x63 => (smithyref09_Pow a0 a1 a2).bind fun x67 => Let (strOf x67) fun x68 => Let (x63.toList == x68.toList) fun x69 => some x69 else some false).bind (fun x70 => some x70))))))
set_option maxRecDepth 100000 in
theorem smithylaw09_ModexpPowers.calls  (a0 : List (BitVec 8)) (a1 : List (BitVec 8)) (a2 : List (BitVec 8)) (A0 : Option Addr) (c0 : Nat) (A1 : Option Addr) (c1 : Nat) (A2 : Option Addr) (c2 : Nat) (r : Bool) (H : smithylaw09_ModexpPowers a0 a1 a2 = some r) (w : World) (hs0 : SlW w U8 A0 a0) (hc0 : a0.length ≤ c0) (hs1 : SlW w U8 A1 a1) (hc1 : a1.length ≤ c1) (hs2 : SlW w U8 A2 a2) (hc2 : a2.length ≤ c2)  :
    Made Try.prog 3 #[.slice A0 a0.length c0, .slice A1 a1.length c1, .slice A2 a2.length c2] w (.bool r) := by
  unfold smithylaw09_ModexpPowers at H
  replace hs0 := hs0.toH
  replace hs1 := hs1.toH
  replace hs2 := hs2.toH
  have hM := Mm.start w (snap w) (snap_ok w)
  generalize snap w = h at *
  refine t_enter (vs := [.slice A0 a0.length c0, .slice A1 a1.length c1, .slice A2 a2.length c2]) (n := 71) Try.func3 rfl rfl rfl hM ?_
  clear hM
  change T 71 _ _ _
  refine t_seq ?_
  refine t_region (fun ops hops => ?_)
  clear hops
  refine z_val (v := .bool false) (val_assign rfl rfl) rfl rfl rfl (fun _ _ _ => trivial) ?_
  refine z_nil ?_
  refine t_seq ?_
  refine t_region (fun ops hops => ?_)
  clear hops
  refine z_val (v := .slice A0 a0.length c0) (val_move rfl rfl) rfl rfl rfl (fun _ _ _ => trivial) ?_
  refine z_val (v := .slice A1 a1.length c1) (val_move rfl rfl) rfl rfl rfl (fun _ _ _ => trivial) ?_
  refine z_val (v := .slice A2 a2.length c2) (val_move rfl rfl) rfl rfl rfl (fun _ _ _ => trivial) ?_
  obtain ⟨x13, hx, H⟩ := Option.bind_eq_some_iff.1 H
  refine z_madeS (F := fun A_1 c_2 => .tuple #[.slice A_1 x13.1.length c_2, .int .i64 x13.2]) (xs := x13.1) rfl Try.func8 nm8 bs8 rfl (fun w hw => modexp_Pow.calls a0 a1 a2 A0 c0 A1 c1 A2 c2 x13 hx w (hs0.toW hw) hc0 (hs1.toW hw) hc1 (hs2.toW hw) hc2) rfl rfl rfl (fun _ _ _ _ _ => trivial) (fun A_1 c_2 hs_3 => ?_)
  clear hx
  refine z_val (v := .tuple #[.slice A_1 x13.1.length c_2, .int .i64 x13.2]) (val_move rfl rfl) rfl rfl rfl (fun _ _ _ => trivial) ?_
  refine z_val (v := .slice A_1 x13.1.length c_2) (val_extract rfl rfl rfl) rfl rfl rfl (fun _ _ _ => trivial) ?_
  refine z_val (v := .int .i64 x13.2) (val_extract rfl rfl rfl) rfl rfl rfl (fun _ _ _ => trivial) ?_
  refine z_val (v := .slice A_1 x13.1.length c_2) (val_assign rfl rfl) rfl rfl rfl (fun _ _ _ => trivial) ?_
  refine z_val (v := .int .i64 x13.2) (val_assign rfl rfl) rfl rfl rfl (fun _ _ _ => trivial) ?_
  refine z_nil ?_
  refine t_seq ?_
  refine t_seq ?_
  refine t_region (fun ops hops => ?_)
  clear hops
  refine z_val (v := .slice A0 a0.length c0) (val_move rfl rfl) rfl rfl rfl (fun _ _ _ => trivial) ?_
  refine z_val (v := .slice A1 a1.length c1) (val_move rfl rfl) rfl rfl rfl (fun _ _ _ => trivial) ?_
  refine z_val (v := .slice A2 a2.length c2) (val_move rfl rfl) rfl rfl rfl (fun _ _ _ => trivial) ?_
  obtain ⟨x19, hx19, H⟩ := Let_elim H
  have hlx19 : x19.length = 3 := by subst hx19; rfl
  have hr : RpL h (slR U8) x19 (([(.slice A0 a0.length c0 : Value)]) ++ (([(.slice A1 a1.length c1 : Value)]) ++ (([(.slice A2 a2.length c2 : Value)]) ++ (([] : List Value))))) := by subst hx19; exact ⟨_, _, rfl, ⟨A0, c0, rfl, hs0, hc0⟩, ⟨_, _, rfl, ⟨A1, c1, rfl, hs1, hc1⟩, ⟨_, _, rfl, ⟨A2, c2, rfl, hs2, hc2⟩, rfl⟩⟩⟩
  refine z_buildR (e := 22) (cs := ([(.slice A0 a0.length c0 : Value)]) ++ (([(.slice A1 a1.length c1 : Value)]) ++ (([(.slice A2 a2.length c2 : Value)]) ++ (([] : List Value))))) (xs := x19) (vs := [(0, .slice A0 a0.length c0), (1, .slice A1 a1.length c1), (2, .slice A2 a2.length c2)]) rfl rfl (by intro w; kernel_rfl) hlx19 hr.len (by decide) rfl rfl rfl (fun _ _ _ _ => trivial) (fun g_5 hs_7 => ?_)
  generalize (([(.slice A0 a0.length c0 : Value)]) ++ (([(.slice A1 a1.length c1 : Value)]) ++ (([(.slice A2 a2.length c2 : Value)]) ++ (([] : List Value))))) = cs at *
  clear hx19 hlx19
  obtain ⟨x20, hx_8, H⟩ := Option.bind_eq_some_iff.1 H
  refine z_made (v := .bool x20) rfl Try.func9 nm9 bs9 rfl (fun w hw => smithylaw09_long.calls x19 ((some ⟨g_5, 0, none⟩)) 3 x20 hx_8 w (own_rw hw (j := 0) rfl hr hs_7) hs_7.le) rfl rfl rfl (fun _ _ _ => trivial) ?_
  clear hx_8
  refine z_nil ?_
  cases x20
  ·
    replace H := cond_f H
    refine t_cond_false rfl ?_
    refine t_skip ?_
    refine t_seq ?_
    refine t_seq ?_
    refine t_region (fun ops hops => ?_)
    refine z_val (v := .slice A0 a0.length c0) (val_move rfl rfl) rfl rfl rfl (fun _ _ _ => trivial) ?_
    obtain ⟨x32, hx32, H⟩ := Let_elim H
    refine z_val (v := .int .i64 x32) (by subst hx32; exact val_len rfl rfl rfl Try.underlying22) rfl rfl rfl (fun _ _ _ => trivial) ?_
    clear hx32
    obtain ⟨x33, hx33, H⟩ := Let_elim H
    refine z_val (v := .bool x33) (by subst hx33; exact val_bin rfl rfl rfl rfl (i64_gtr _ _ _)) rfl rfl rfl (fun _ _ _ => trivial) ?_
    clear hx33
    refine z_val (v := .bool x33) (val_move rfl rfl) rfl rfl rfl (fun _ _ _ => trivial) ?_
    refine z_bind H 4 (fun (s : Bool) (_ : Unit) => [(0, .slice A0 a0.length c0), (1, .slice A1 a1.length c1), (2, .slice A2 a2.length c2), (7, .slice A_1 x13.1.length c_2), (8, .int .i64 x13.2), (38, .bool s)]) (fun _ _ => Mm w [] h [.row (.slice (some ⟨g_5, 0, none⟩) x19.length 3) 22 1 cs, .row (.slice A_1 x13.1.length c_2) 5 1 (x13.1.map U8)]) (fun _ _ => True) (fun Gr K s he HJ => ?_) (fun s g HB _ => ?_)
    ·
      clear H
      cases x33
      ·
        have H := cond_f he
        clear he
        refine z_val (v := .slice A1 a1.length c1) (val_move rfl rfl) rfl rfl (by rw [hops]; rfl) (fun _ _ _ => trivial) ?_
        obtain ⟨x36, hx36, H⟩ := Let_elim H
        refine z_val (v := .int .i64 x36) (by subst hx36; exact val_len rfl rfl rfl Try.underlying22) rfl rfl (by rw [hops]; rfl) (fun _ _ _ => trivial) ?_
        clear hx36
        obtain ⟨x37, hx37, H⟩ := Let_elim H
        refine z_val (v := .bool x37) (by subst hx37; exact val_bin rfl rfl rfl rfl (i64_gtr _ _ _)) rfl rfl (by rw [hops]; rfl) (fun _ _ _ => trivial) ?_
        clear hx37
        refine z_val (v := .bool x37) (val_pick rfl rfl rfl) rfl rfl rfl (fun _ _ _ => trivial) ?_
        obtain rfl := Option.some.inj H
        exact z_nil ((K _ () HJ trivial).weak (fun a ha => ha.cons rfl (ha.cons rfl (ha.cons rfl (ha.cons rfl (ha.cons rfl (ha.cons rfl (ha.nil))))))) (fun w hw => hw))
      ·
        have H := cond_t he
        clear he
        refine z_skip rfl rfl (by rw [hops]; rfl) (fun _ _ _ => trivial) ?_
        refine z_skip rfl rfl (by rw [hops]; rfl) (fun _ _ _ => trivial) ?_
        refine z_skip rfl rfl (by rw [hops]; rfl) (fun _ _ _ => trivial) ?_
        refine z_val (v := .bool true) (val_pick rfl rfl rfl) rfl rfl rfl (fun _ _ _ => trivial) ?_
        obtain rfl := Option.some.inj H
        exact z_nil ((K _ () HJ trivial).weak (fun a ha => ha.cons rfl (ha.cons rfl (ha.cons rfl (ha.cons rfl (ha.cons rfl (ha.cons rfl (ha.nil))))))) (fun w hw => hw))
    ·
      replace H := HB
      clear HB
      obtain ⟨x38, rfl⟩ : ∃ x, x = s := ⟨_, rfl⟩
      change T 71 _ _ _
      refine z_val (v := .bool x38) (val_move rfl rfl) rfl rfl rfl (fun _ _ _ => trivial) ?_
      refine z_bind H 4 (fun (s : Bool) (_ : Unit) => [(0, .slice A0 a0.length c0), (1, .slice A1 a1.length c1), (2, .slice A2 a2.length c2), (7, .slice A_1 x13.1.length c_2), (8, .int .i64 x13.2), (43, .bool s)]) (fun _ _ => Mm w [] h [.row (.slice (some ⟨g_5, 0, none⟩) x19.length 3) 22 1 cs, .row (.slice A_1 x13.1.length c_2) 5 1 (x13.1.map U8)]) (fun _ _ => True) (fun Gr K s he HJ => ?_) (fun s g HB _ => ?_)
      ·
        clear H
        cases x38
        ·
          have H := cond_f he
          clear he
          refine z_val (v := .slice A2 a2.length c2) (val_move rfl rfl) rfl rfl (by rw [hops]; rfl) (fun _ _ _ => trivial) ?_
          obtain ⟨x41, hx41, H⟩ := Let_elim H
          refine z_val (v := .int .i64 x41) (by subst hx41; exact val_len rfl rfl rfl Try.underlying22) rfl rfl (by rw [hops]; rfl) (fun _ _ _ => trivial) ?_
          clear hx41
          obtain ⟨x42, hx42, H⟩ := Let_elim H
          refine z_val (v := .bool x42) (by subst hx42; exact val_bin rfl rfl rfl rfl (i64_gtr _ _ _)) rfl rfl (by rw [hops]; rfl) (fun _ _ _ => trivial) ?_
          clear hx42
          refine z_val (v := .bool x42) (val_pick rfl rfl rfl) rfl rfl rfl (fun _ _ _ => trivial) ?_
          obtain rfl := Option.some.inj H
          exact z_nil ((K _ () HJ trivial).weak (fun a ha => ha.cons rfl (ha.cons rfl (ha.cons rfl (ha.cons rfl (ha.cons rfl (ha.cons rfl (ha.nil))))))) (fun w hw => hw))
        ·
          have H := cond_t he
          clear he
          refine z_skip rfl rfl (by rw [hops]; rfl) (fun _ _ _ => trivial) ?_
          refine z_skip rfl rfl (by rw [hops]; rfl) (fun _ _ _ => trivial) ?_
          refine z_skip rfl rfl (by rw [hops]; rfl) (fun _ _ _ => trivial) ?_
          refine z_val (v := .bool true) (val_pick rfl rfl rfl) rfl rfl rfl (fun _ _ _ => trivial) ?_
          obtain rfl := Option.some.inj H
          exact z_nil ((K _ () HJ trivial).weak (fun a ha => ha.cons rfl (ha.cons rfl (ha.cons rfl (ha.cons rfl (ha.cons rfl (ha.cons rfl (ha.nil))))))) (fun w hw => hw))
      ·
        replace H := HB
        clear HB
        obtain ⟨x43, rfl⟩ : ∃ x, x = s := ⟨_, rfl⟩
        change T 71 _ _ _
        refine z_nil ?_
        cases x43
        ·
          replace H := cond_f H
          refine t_cond_false rfl ?_
          refine t_skip ?_
          refine t_seq ?_
          refine t_plan (C := Mm w [] h [.row (.slice (some ⟨g_5, 0, none⟩) x19.length 3) 22 1 cs, .row (.slice A_1 x13.1.length c_2) 5 1 (x13.1.map U8)]) [] [(0, false), (1, true), (2, true), (3, true), (4, true), (5, true), (6, true), (7, true), (8, true), (9, true), (10, true), (11, false), (12, false), (13, true), (14, true), (15, true)] (by kernel_rfl) (by kernel_rfl) (fun _ hw => hw.drew) (fun ops hops => ?_)
          obtain ⟨x56, hx_9, H⟩ := Option.bind_eq_some_iff.1 H
          refine z_made (v := .bool x56) rfl Try.func10 nm10 bs10 rfl (fun w hw => smithylaw09_fixed.calls x56 hx_9 w) rfl rfl rfl (fun _ _ hw => hw) ?_
          clear hx_9
          refine z_still (v := .bool x56) (val_move rfl rfl) rfl rfl rfl (fun _ hw => hw) ?_
          refine z_bind H 3 (fun (s : Bool) (_ : Unit) => [(0, .slice A0 a0.length c0), (1, .slice A1 a1.length c1), (2, .slice A2 a2.length c2), (7, .slice A_1 x13.1.length c_2), (60, .bool s)]) (fun _ _ => Mm w [] h [.row (.slice (some ⟨g_5, 0, none⟩) x19.length 3) 22 1 cs, .row (.slice A_1 x13.1.length c_2) 5 1 (x13.1.map U8)]) (fun _ _ => True) (fun Gr K s he HJ => ?_) (fun s g HB _ => ?_)
          ·
            clear H
            cases x56
            ·
              have H := cond_f he
              clear he
              refine z_skip_still rfl rfl (by rw [hops]; rfl) (fun _ hw => hw) ?_
              refine z_skip_still rfl rfl (by rw [hops]; rfl) (fun _ hw => hw) ?_
              refine z_still (v := .bool false) (val_pick rfl rfl rfl) rfl rfl rfl (fun _ hw => hw) ?_
              obtain rfl := Option.some.inj H
              exact z_nil ((K _ () HJ trivial).weak (fun a ha => ha.cons rfl (ha.cons rfl (ha.cons rfl (ha.cons rfl (ha.cons rfl (ha.nil)))))) (fun w hw => hw))
            ·
              have H := cond_t he
              clear he
              refine z_still (v := .int .i64 x13.2) (val_move rfl rfl) rfl rfl (by rw [hops]; rfl) (fun _ hw => hw) ?_
              obtain ⟨x59, hx59, H⟩ := Let_elim H
              refine z_still (v := .bool x59) (by subst hx59; exact val_bin rfl rfl rfl rfl (i64_eql _ _ _)) rfl rfl (by rw [hops]; rfl) (fun _ hw => hw) ?_
              clear hx59
              refine z_still (v := .bool x59) (val_pick rfl rfl rfl) rfl rfl rfl (fun _ hw => hw) ?_
              obtain rfl := Option.some.inj H
              exact z_nil ((K _ () HJ trivial).weak (fun a ha => ha.cons rfl (ha.cons rfl (ha.cons rfl (ha.cons rfl (ha.cons rfl (ha.nil)))))) (fun w hw => hw))
          ·
            replace H := HB
            clear HB
            obtain ⟨x60, rfl⟩ : ∃ x, x = s := ⟨_, rfl⟩
            change T 71 _ _ _
            refine z_still (v := .bool x60) (val_move rfl rfl) rfl rfl rfl (fun _ hw => hw) ?_
            refine z_bind H 9 (fun (s : Bool) (_ : Unit) => [(70, .bool s)]) (fun _ _ => Mm w [] h [.row (.slice (some ⟨g_5, 0, none⟩) x19.length 3) 22 1 cs, .row (.slice A_1 x13.1.length c_2) 5 1 (x13.1.map U8)]) (fun _ _ => True) (fun Gr K s he HJ => ?_) (fun s g HB _ => ?_)
            ·
              clear H
              cases x60
              ·
                have H := cond_f he
                clear he
                refine z_skip_still rfl rfl (by rw [hops]; rfl) (fun _ hw => hw) ?_
                refine z_skip_still rfl rfl (by rw [hops]; rfl) (fun _ hw => hw) ?_
                refine z_skip_still rfl rfl (by rw [hops]; rfl) (fun _ hw => hw) ?_
                refine z_skip_still rfl rfl (by rw [hops]; rfl) (fun _ hw => hw) ?_
                refine z_skip_still rfl rfl (by rw [hops]; rfl) (fun _ hw => hw) ?_
                refine z_skip rfl rfl (by rw [hops]; rfl) (fun _ _ hw => hw) ?_
                refine z_skip rfl rfl (by rw [hops]; rfl) (fun _ _ hw => hw) ?_
                refine z_skip_still rfl rfl (by rw [hops]; rfl) (fun _ hw => hw) ?_
                refine z_still (v := .bool false) (val_pick rfl rfl rfl) rfl rfl rfl (fun _ hw => hw) ?_
                obtain rfl := Option.some.inj H
                exact z_nil ((K _ () HJ trivial).weak (fun a ha => ha.cons rfl (ha.nil)) (fun w hw => hw))
              ·
                have H := cond_t he
                clear he
                refine z_still (v := .slice A_1 x13.1.length c_2) (val_move rfl rfl) rfl rfl (by rw [hops]; rfl) (fun _ hw => hw) ?_
                obtain ⟨x63, hx63, H⟩ := Let_elim H
                refine z_still (v := .string x63) (by subst hx63; exact val_convS rfl rfl Try.underlying22 Try.underlying5 Try.underlying9 (fun w hw => (row_w hw (j := 1) rfl))) rfl rfl (by rw [hops]; rfl) (fun _ hw => hw) ?_
                clear hx63
                refine z_still (v := .slice A0 a0.length c0) (val_move rfl rfl) rfl rfl (by rw [hops]; rfl) (fun _ hw => hw) ?_
                refine z_still (v := .slice A1 a1.length c1) (val_move rfl rfl) rfl rfl (by rw [hops]; rfl) (fun _ hw => hw) ?_
                refine z_still (v := .slice A2 a2.length c2) (val_move rfl rfl) rfl rfl (by rw [hops]; rfl) (fun _ hw => hw) ?_
                obtain ⟨x67, hx_10, H⟩ := Option.bind_eq_some_iff.1 H
                refine z_madeS (F := fun A_11 c_12 => .slice A_11 x67.length c_12) (xs := x67) rfl Try.func11 nm11 bs11 rfl (fun w hw => smithyref09_Pow.calls a0 a1 a2 A0 c0 A1 c1 A2 c2 x67 hx_10 w (hs0.toW hw) hc0 (hs1.toW hw) hc1 (hs2.toW hw) hc2) rfl rfl (by rw [hops]; rfl) (fun _ _ _ _ hw => hw.sel [1, 2] rfl rfl) (fun A_11 c_12 hs_13 => ?_)
                clear hx_10
                obtain ⟨x68, hx68, H⟩ := Let_elim H
                refine z_val (v := .string x68) (by subst hx68; exact val_convS rfl rfl Try.underlying22 Try.underlying5 Try.underlying9 (fun w hw => (row_w hw (j := 0) rfl))) rfl rfl (by rw [hops]; rfl) (fun _ _ hw => hw.sel [1, 2] rfl rfl) ?_
                clear hx68
                obtain ⟨x69, hx69, H⟩ := Let_elim H
                refine z_still (v := .bool x69) (by subst hx69; exact val_bin rfl rfl rfl rfl (str_eql _ _ _)) rfl rfl (by rw [hops]; rfl) (fun _ hw => hw.sel [1, 2] rfl rfl) ?_
                clear hx69
                refine z_still (v := .bool x69) (val_pick rfl rfl rfl) rfl rfl rfl (fun _ hw => hw.sel [1, 2] rfl rfl) ?_
                obtain rfl := Option.some.inj H
                exact z_nil ((K _ () HJ trivial).weak (fun a ha => ha.cons rfl (ha.nil)) (fun w hw => hw.sel [1, 2] rfl rfl))
            ·
              replace H := HB
              clear HB
              obtain ⟨x70, rfl⟩ : ∃ x, x = s := ⟨_, rfl⟩
              change T 71 _ _ _
              refine z_still (v := .bool x70) (val_assign rfl rfl) rfl rfl rfl (fun _ hw => hw) ?_
              refine z_nil ?_
              refine t_ret ?_
              obtain rfl := Option.some.inj H
              exact ret1 rfl (res_tmp rfl) (fun _ hw => ⟨rfl, hw.below⟩)
        ·
          replace H := cond_t H
          refine t_cond_true rfl ?_
          refine t_seq ?_
          refine t_region (fun ops hops => ?_)
          obtain ⟨x44, hx_15, H⟩ := Option.bind_eq_some_iff.1 H
          refine z_made (v := .bool x44) rfl Try.func10 nm10 bs10 rfl (fun w hw => smithylaw09_fixed.calls x44 hx_15 w) rfl rfl rfl (fun _ _ _ => trivial) ?_
          clear hx_15
          refine z_val (v := .bool x44) (val_move rfl rfl) rfl rfl rfl (fun _ _ _ => trivial) ?_
          refine z_bind H 3 (fun (s : Bool) (_ : Unit) => [(2, .slice A2 a2.length c2), (7, .slice A_1 x13.1.length c_2), (48, .bool s)]) (fun _ _ => Mm w [] h [.row (.slice (some ⟨g_5, 0, none⟩) x19.length 3) 22 1 cs, .row (.slice A_1 x13.1.length c_2) 5 1 (x13.1.map U8)]) (fun _ _ => True) (fun Gr K s he HJ => ?_) (fun s g HB _ => ?_)
          ·
            clear H
            cases x44
            ·
              have H := cond_f he
              clear he
              refine z_skip rfl rfl (by rw [hops]; rfl) (fun _ _ _ => trivial) ?_
              refine z_skip rfl rfl (by rw [hops]; rfl) (fun _ _ _ => trivial) ?_
              refine z_val (v := .bool false) (val_pick rfl rfl rfl) rfl rfl rfl (fun _ _ _ => trivial) ?_
              obtain rfl := Option.some.inj H
              exact z_nil ((K _ () HJ trivial).weak (fun a ha => ha.cons rfl (ha.cons rfl (ha.cons rfl (ha.nil)))) (fun w hw => hw))
            ·
              have H := cond_t he
              clear he
              refine z_val (v := .int .i64 x13.2) (val_move rfl rfl) rfl rfl (by rw [hops]; rfl) (fun _ _ _ => trivial) ?_
              obtain ⟨x47, hx47, H⟩ := Let_elim H
              refine z_val (v := .bool x47) (by subst hx47; exact val_bin rfl rfl rfl rfl (i64_eql _ _ _)) rfl rfl (by rw [hops]; rfl) (fun _ _ _ => trivial) ?_
              clear hx47
              refine z_val (v := .bool x47) (val_pick rfl rfl rfl) rfl rfl rfl (fun _ _ _ => trivial) ?_
              obtain rfl := Option.some.inj H
              exact z_nil ((K _ () HJ trivial).weak (fun a ha => ha.cons rfl (ha.cons rfl (ha.cons rfl (ha.nil)))) (fun w hw => hw))
          ·
            replace H := HB
            clear HB
            obtain ⟨x48, rfl⟩ : ∃ x, x = s := ⟨_, rfl⟩
            change T 71 _ _ _
            refine z_val (v := .bool x48) (val_move rfl rfl) rfl rfl rfl (fun _ _ _ => trivial) ?_
            refine z_bind H 6 (fun (s : Bool) (_ : Unit) => [(55, .bool s)]) (fun _ _ => Mm w [] h [.row (.slice (some ⟨g_5, 0, none⟩) x19.length 3) 22 1 cs, .row (.slice A_1 x13.1.length c_2) 5 1 (x13.1.map U8)]) (fun _ _ => True) (fun Gr K s he HJ => ?_) (fun s g HB _ => ?_)
            ·
              clear H
              cases x48
              ·
                have H := cond_f he
                clear he
                refine z_skip rfl rfl (by rw [hops]; rfl) (fun _ _ _ => trivial) ?_
                refine z_skip rfl rfl (by rw [hops]; rfl) (fun _ _ _ => trivial) ?_
                refine z_skip rfl rfl (by rw [hops]; rfl) (fun _ _ _ => trivial) ?_
                refine z_skip rfl rfl (by rw [hops]; rfl) (fun _ _ _ => trivial) ?_
                refine z_skip rfl rfl (by rw [hops]; rfl) (fun _ _ _ => trivial) ?_
                refine z_val (v := .bool false) (val_pick rfl rfl rfl) rfl rfl rfl (fun _ _ _ => trivial) ?_
                obtain rfl := Option.some.inj H
                exact z_nil ((K _ () HJ trivial).weak (fun a ha => ha.cons rfl (ha.nil)) (fun w hw => hw))
              ·
                have H := cond_t he
                clear he
                refine z_val (v := .slice A_1 x13.1.length c_2) (val_move rfl rfl) rfl rfl (by rw [hops]; rfl) (fun _ _ _ => trivial) ?_
                obtain ⟨x51, hx51, H⟩ := Let_elim H
                refine z_val (v := .int .i64 x51) (by subst hx51; exact val_len rfl rfl rfl Try.underlying22) rfl rfl (by rw [hops]; rfl) (fun _ _ _ => trivial) ?_
                clear hx51
                refine z_val (v := .slice A2 a2.length c2) (val_move rfl rfl) rfl rfl (by rw [hops]; rfl) (fun _ _ _ => trivial) ?_
                obtain ⟨x53, hx53, H⟩ := Let_elim H
                refine z_val (v := .int .i64 x53) (by subst hx53; exact val_len rfl rfl rfl Try.underlying22) rfl rfl (by rw [hops]; rfl) (fun _ _ _ => trivial) ?_
                clear hx53
                obtain ⟨x54, hx54, H⟩ := Let_elim H
                refine z_val (v := .bool x54) (by subst hx54; exact val_bin rfl rfl rfl rfl (i64_eql _ _ _)) rfl rfl (by rw [hops]; rfl) (fun _ _ _ => trivial) ?_
                clear hx54
                refine z_val (v := .bool x54) (val_pick rfl rfl rfl) rfl rfl rfl (fun _ _ _ => trivial) ?_
                obtain rfl := Option.some.inj H
                exact z_nil ((K _ () HJ trivial).weak (fun a ha => ha.cons rfl (ha.nil)) (fun w hw => hw))
            ·
              replace H := HB
              clear HB
              obtain ⟨x55, rfl⟩ : ∃ x, x = s := ⟨_, rfl⟩
              change T 71 _ _ _
              refine z_val (v := .bool x55) (val_assign rfl rfl) rfl rfl rfl (fun _ _ _ => trivial) ?_
              refine z_nil ?_
              refine t_ret ?_
              obtain rfl := Option.some.inj H
              exact ret1 rfl (res_tmp rfl) (fun _ hw => ⟨rfl, hw.below⟩)
  ·
    replace H := cond_t H
    refine t_cond_true rfl ?_
    refine t_seq ?_
    refine t_region (fun ops hops => ?_)
    obtain ⟨x21, hx_16, H⟩ := Option.bind_eq_some_iff.1 H
    refine z_made (v := .bool x21) rfl Try.func10 nm10 bs10 rfl (fun w hw => smithylaw09_fixed.calls x21 hx_16 w) rfl rfl rfl (fun _ _ _ => trivial) ?_
    clear hx_16
    refine z_val (v := .bool x21) (val_move rfl rfl) rfl rfl rfl (fun _ _ _ => trivial) ?_
    refine z_bind H 4 (fun (s : Bool) (_ : Unit) => [(8, .int .i64 x13.2), (26, .bool s)]) (fun _ _ => Mm w [] h [.row (.slice (some ⟨g_5, 0, none⟩) x19.length 3) 22 1 cs, .row (.slice A_1 x13.1.length c_2) 5 1 (x13.1.map U8)]) (fun _ _ => True) (fun Gr K s he HJ => ?_) (fun s g HB _ => ?_)
    ·
      clear H
      cases x21
      ·
        have H := cond_f he
        clear he
        refine z_skip rfl rfl (by rw [hops]; rfl) (fun _ _ _ => trivial) ?_
        refine z_skip rfl rfl (by rw [hops]; rfl) (fun _ _ _ => trivial) ?_
        refine z_skip rfl rfl (by rw [hops]; rfl) (fun _ _ _ => trivial) ?_
        refine z_val (v := .bool false) (val_pick rfl rfl rfl) rfl rfl rfl (fun _ _ _ => trivial) ?_
        obtain rfl := Option.some.inj H
        exact z_nil ((K _ () HJ trivial).weak (fun a ha => ha.cons rfl (ha.cons rfl (ha.nil))) (fun w hw => hw))
      ·
        have H := cond_t he
        clear he
        refine z_val (v := .slice A_1 x13.1.length c_2) (val_move rfl rfl) rfl rfl (by rw [hops]; rfl) (fun _ _ _ => trivial) ?_
        obtain ⟨x24, hx24, H⟩ := Let_elim H
        refine z_val (v := .int .i64 x24) (by subst hx24; exact val_len rfl rfl rfl Try.underlying22) rfl rfl (by rw [hops]; rfl) (fun _ _ _ => trivial) ?_
        clear hx24
        obtain ⟨x25, hx25, H⟩ := Let_elim H
        refine z_val (v := .bool x25) (by subst hx25; exact val_bin rfl rfl rfl rfl (i64_eql _ _ _)) rfl rfl (by rw [hops]; rfl) (fun _ _ _ => trivial) ?_
        clear hx25
        refine z_val (v := .bool x25) (val_pick rfl rfl rfl) rfl rfl rfl (fun _ _ _ => trivial) ?_
        obtain rfl := Option.some.inj H
        exact z_nil ((K _ () HJ trivial).weak (fun a ha => ha.cons rfl (ha.cons rfl (ha.nil))) (fun w hw => hw))
    ·
      replace H := HB
      clear HB
      obtain ⟨x26, rfl⟩ : ∃ x, x = s := ⟨_, rfl⟩
      change T 71 _ _ _
      refine z_val (v := .bool x26) (val_move rfl rfl) rfl rfl rfl (fun _ _ _ => trivial) ?_
      refine z_bind H 3 (fun (s : Bool) (_ : Unit) => [(30, .bool s)]) (fun _ _ => Mm w [] h [.row (.slice (some ⟨g_5, 0, none⟩) x19.length 3) 22 1 cs, .row (.slice A_1 x13.1.length c_2) 5 1 (x13.1.map U8)]) (fun _ _ => True) (fun Gr K s he HJ => ?_) (fun s g HB _ => ?_)
      ·
        clear H
        cases x26
        ·
          have H := cond_f he
          clear he
          refine z_skip rfl rfl (by rw [hops]; rfl) (fun _ _ _ => trivial) ?_
          refine z_skip rfl rfl (by rw [hops]; rfl) (fun _ _ _ => trivial) ?_
          refine z_val (v := .bool false) (val_pick rfl rfl rfl) rfl rfl rfl (fun _ _ _ => trivial) ?_
          obtain rfl := Option.some.inj H
          exact z_nil ((K _ () HJ trivial).weak (fun a ha => ha.cons rfl (ha.nil)) (fun w hw => hw))
        ·
          have H := cond_t he
          clear he
          refine z_val (v := .int .i64 x13.2) (val_move rfl rfl) rfl rfl (by rw [hops]; rfl) (fun _ _ _ => trivial) ?_
          obtain ⟨x29, hx29, H⟩ := Let_elim H
          refine z_val (v := .bool x29) (by subst hx29; exact val_bin rfl rfl rfl rfl (i64_eql _ _ _)) rfl rfl (by rw [hops]; rfl) (fun _ _ _ => trivial) ?_
          clear hx29
          refine z_val (v := .bool x29) (val_pick rfl rfl rfl) rfl rfl rfl (fun _ _ _ => trivial) ?_
          obtain rfl := Option.some.inj H
          exact z_nil ((K _ () HJ trivial).weak (fun a ha => ha.cons rfl (ha.nil)) (fun w hw => hw))
      ·
        replace H := HB
        clear HB
        obtain ⟨x30, rfl⟩ : ∃ x, x = s := ⟨_, rfl⟩
        change T 71 _ _ _
        refine z_val (v := .bool x30) (val_assign rfl rfl) rfl rfl rfl (fun _ _ _ => trivial) ?_
        refine z_nil ?_
        refine t_ret ?_
        obtain rfl := Option.some.inj H
        exact ret1 rfl (res_tmp rfl) (fun _ hw => ⟨rfl, hw.below⟩)
end Go.Proofs.Ytccilbklafhjiaa
