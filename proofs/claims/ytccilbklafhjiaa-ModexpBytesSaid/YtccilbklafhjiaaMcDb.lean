/- Functions of the program as plain functions, and their walks, printed by walk.py. -/
import Derived.Test.YtccilbklafhjiaaMcF
import Derived.Test.YtccilbklafhjiaaMcD
import Derived.Test.YtccilbklafhjiaaMcP
namespace Go.Proofs.Ytccilbklafhjiaa
open Go.RowKit
set_option linter.unusedVariables false
set_option linter.unusedSimpArgs false
def smithylaw09_ModexpBytes (a0 : List (BitVec 8)) (a1 : List (BitVec 8)) (a2 : List (BitVec 8)) (a3 : BitVec 8) : Option (Bool) :=
  Let (([a0, a1, a2] : List (List (BitVec 8)))) fun x21 => (smithylaw09_long x21).bind fun x22 => (bif x22 then some true else Let ((a1.length : Int)) fun x25 => Let (x25 == 64) fun x26 => some x26).bind (fun x27 => (bif x27 then some true else Let ((a2.length : Int)) fun x30 => Let (x30 == 0) fun x31 => some x31).bind (fun x32 => (bif x32 then (smithylaw09_fixed).bind fun x33 => some x33 else (modexp_Pow a0 a1 a2).bind fun x38 => Let (([] : List (BitVec 8))) fun x43 => Chk ((x43.length + a1.length) * 1 ≤ 140737488355328) <| Let (x43 ++ a1) fun x45 => Let ([a3]) fun x47 => Chk ((x45.length + x47.length) * 1 ≤ 140737488355328) <| Let (x45 ++ x47) fun x48 => (modexp_Pow a0 x48 a2).bind fun x50 => Let ([1#8, 0#8]) fun x55 => (modexp_Pow x38.1 x55 a2).bind fun x57 => Let ([a3]) fun x63 => (modexp_Pow a0 x63 a2).bind fun x65 => Let (x38.2 != 0) fun x69 => (bif x69 then some true else Let (x50.2 != 0) fun x72 => some x72).bind (fun x73 => (bif x73 then some true else Let (x57.2 != 0) fun x76 => some x76).bind (fun x77 => (bif x77 then some true else Let (x65.2 != 0) fun x80 => some x80).bind (fun x81 => (bif x81 then some false else (smithyref09_Of a2).bind fun x83 => (smithyref02_Zero x83).bind fun x85 => (bif x85 then (smithylaw09_fixed).bind fun x86 => (bif x86 then Let (strOf x50.1) fun x89 => Let ((a2.length : Int)) fun x91 => Chk ((0 : Int) ≤ x91 ∧ x91.toNat * 1 ≤ 140737488355328) <| Let (List.replicate x91.toNat 0#8) fun x92 => Let (strOf x92) fun x93 => Let (x89.toList == x93.toList) fun x94 => some x94 else some false).bind (fun x95 => some x95) else (smithylaw09_fixed).bind fun x96 => (bif x96 then Let (strOf x50.1) fun x99 => Let ((a2.length : Int)) fun x107 => (smithyref09_Of x57.1).bind fun x101 => (smithyref09_Of x65.1).bind fun x103 => (smithyref09_Mul x101 x103 x83).bind fun x105 => (smithyref09_Bytes x105 x107).bind fun x108 => Let (strOf x108) fun x109 => Let (x99.toList == x109.toList) fun x110 => some x110 else some false).bind (fun x111 => (bif x111 then (smithyref09_Of x50.1).bind fun x114 => (smithyref02_Less x114 x83).bind fun x116 => some x116 else some false).bind (fun x117 => some x117))))))))))
set_option maxRecDepth 100000 in
theorem smithylaw09_ModexpBytes.calls  (a0 : List (BitVec 8)) (a1 : List (BitVec 8)) (a2 : List (BitVec 8)) (a3 : BitVec 8) (A0 : Option Addr) (c0 : Nat) (A1 : Option Addr) (c1 : Nat) (A2 : Option Addr) (c2 : Nat) (r : Bool) (H : smithylaw09_ModexpBytes a0 a1 a2 a3 = some r) (w : World) (hs0 : SlW w U8 A0 a0) (hc0 : a0.length ≤ c0) (hs1 : SlW w U8 A1 a1) (hc1 : a1.length ≤ c1) (hs2 : SlW w U8 A2 a2) (hc2 : a2.length ≤ c2)  :
    Made Try.prog 4 #[.slice A0 a0.length c0, .slice A1 a1.length c1, .slice A2 a2.length c2, U8 a3] w (.bool r) := by
  unfold smithylaw09_ModexpBytes at H
  replace hs0 := hs0.toH
  replace hs1 := hs1.toH
  replace hs2 := hs2.toH
  have hM := Mm.start w (snap w) (snap_ok w)
  generalize snap w = h at *
  refine t_enter (vs := [.slice A0 a0.length c0, .slice A1 a1.length c1, .slice A2 a2.length c2, U8 a3]) (n := 118) Try.func4 rfl rfl rfl hM ?_
  clear hM
  change T 118 _ _ _
  refine t_seq ?_
  refine t_region (fun ops hops => ?_)
  clear hops
  refine z_val (v := .bool false) (val_assign rfl rfl) rfl rfl rfl (fun _ _ _ => trivial) ?_
  refine z_nil ?_
  refine t_seq ?_
  refine t_seq ?_
  refine t_region (fun ops hops => ?_)
  refine z_val (v := .slice A0 a0.length c0) (val_move rfl rfl) rfl rfl rfl (fun _ _ _ => trivial) ?_
  refine z_val (v := .slice A1 a1.length c1) (val_move rfl rfl) rfl rfl rfl (fun _ _ _ => trivial) ?_
  refine z_val (v := .slice A2 a2.length c2) (val_move rfl rfl) rfl rfl rfl (fun _ _ _ => trivial) ?_
  obtain ⟨x21, hx21, H⟩ := Let_elim H
  have hlx21 : x21.length = 3 := by subst hx21; rfl
  have hr : RpL h (slR U8) x21 (([(.slice A0 a0.length c0 : Value)]) ++ (([(.slice A1 a1.length c1 : Value)]) ++ (([(.slice A2 a2.length c2 : Value)]) ++ (([] : List Value))))) := by subst hx21; exact ⟨_, _, rfl, ⟨A0, c0, rfl, hs0, hc0⟩, ⟨_, _, rfl, ⟨A1, c1, rfl, hs1, hc1⟩, ⟨_, _, rfl, ⟨A2, c2, rfl, hs2, hc2⟩, rfl⟩⟩⟩
  refine z_buildR (e := 22) (cs := ([(.slice A0 a0.length c0 : Value)]) ++ (([(.slice A1 a1.length c1 : Value)]) ++ (([(.slice A2 a2.length c2 : Value)]) ++ (([] : List Value))))) (xs := x21) (vs := [(0, .slice A0 a0.length c0), (1, .slice A1 a1.length c1), (2, .slice A2 a2.length c2)]) rfl rfl (by intro w; kernel_rfl) hlx21 hr.len (by decide) rfl rfl rfl (fun _ _ _ _ => trivial) (fun g_1 hs_3 => ?_)
  generalize (([(.slice A0 a0.length c0 : Value)]) ++ (([(.slice A1 a1.length c1 : Value)]) ++ (([(.slice A2 a2.length c2 : Value)]) ++ (([] : List Value))))) = cs at *
  clear hx21 hlx21
  obtain ⟨x22, hx, H⟩ := Option.bind_eq_some_iff.1 H
  refine z_made (v := .bool x22) rfl Try.func9 nm9 bs9 rfl (fun w hw => smithylaw09_long.calls x21 ((some ⟨g_1, 0, none⟩)) 3 x22 hx w (own_rw hw (j := 0) rfl hr hs_3) hs_3.le) rfl rfl rfl (fun _ _ _ => trivial) ?_
  clear hx
  refine z_val (v := .bool x22) (val_move rfl rfl) rfl rfl rfl (fun _ _ _ => trivial) ?_
  refine z_bind H 4 (fun (s : Bool) (_ : Unit) => [(0, .slice A0 a0.length c0), (1, .slice A1 a1.length c1), (2, .slice A2 a2.length c2), (3, U8 a3), (27, .bool s)]) (fun _ _ => Mm w [] h [.row (.slice (some ⟨g_1, 0, none⟩) x21.length 3) 22 1 cs]) (fun _ _ => True) (fun Gr K s he HJ => ?_) (fun s g HB _ => ?_)
  ·
    clear H
    cases x22
    ·
      have H := cond_f he
      clear he
      refine z_val (v := .slice A1 a1.length c1) (val_move rfl rfl) rfl rfl (by rw [hops]; rfl) (fun _ _ _ => trivial) ?_
      obtain ⟨x25, hx25, H⟩ := Let_elim H
      refine z_val (v := .int .i64 x25) (by subst hx25; exact val_len rfl rfl rfl Try.underlying22) rfl rfl (by rw [hops]; rfl) (fun _ _ _ => trivial) ?_
      clear hx25
      obtain ⟨x26, hx26, H⟩ := Let_elim H
      refine z_val (v := .bool x26) (by subst hx26; exact val_bin rfl rfl rfl rfl (i64_eql _ _ _)) rfl rfl (by rw [hops]; rfl) (fun _ _ _ => trivial) ?_
      clear hx26
      refine z_val (v := .bool x26) (val_pick rfl rfl rfl) rfl rfl rfl (fun _ _ _ => trivial) ?_
      obtain rfl := Option.some.inj H
      exact z_nil ((K _ () HJ trivial).weak (fun a ha => ha.cons rfl (ha.cons rfl (ha.cons rfl (ha.cons rfl (ha.cons rfl (ha.nil)))))) (fun w hw => hw))
    ·
      have H := cond_t he
      clear he
      refine z_skip rfl rfl (by rw [hops]; rfl) (fun _ _ _ => trivial) ?_
      refine z_skip rfl rfl (by rw [hops]; rfl) (fun _ _ _ => trivial) ?_
      refine z_skip rfl rfl (by rw [hops]; rfl) (fun _ _ _ => trivial) ?_
      refine z_val (v := .bool true) (val_pick rfl rfl rfl) rfl rfl rfl (fun _ _ _ => trivial) ?_
      obtain rfl := Option.some.inj H
      exact z_nil ((K _ () HJ trivial).weak (fun a ha => ha.cons rfl (ha.cons rfl (ha.cons rfl (ha.cons rfl (ha.cons rfl (ha.nil)))))) (fun w hw => hw))
  ·
    replace H := HB
    clear HB
    obtain ⟨x27, rfl⟩ : ∃ x, x = s := ⟨_, rfl⟩
    change T 118 _ _ _
    refine z_val (v := .bool x27) (val_move rfl rfl) rfl rfl rfl (fun _ _ _ => trivial) ?_
    refine z_bind H 4 (fun (s : Bool) (_ : Unit) => [(0, .slice A0 a0.length c0), (1, .slice A1 a1.length c1), (2, .slice A2 a2.length c2), (3, U8 a3), (32, .bool s)]) (fun _ _ => Mm w [] h [.row (.slice (some ⟨g_1, 0, none⟩) x21.length 3) 22 1 cs]) (fun _ _ => True) (fun Gr K s he HJ => ?_) (fun s g HB _ => ?_)
    ·
      clear H
      cases x27
      ·
        have H := cond_f he
        clear he
        refine z_val (v := .slice A2 a2.length c2) (val_move rfl rfl) rfl rfl (by rw [hops]; rfl) (fun _ _ _ => trivial) ?_
        obtain ⟨x30, hx30, H⟩ := Let_elim H
        refine z_val (v := .int .i64 x30) (by subst hx30; exact val_len rfl rfl rfl Try.underlying22) rfl rfl (by rw [hops]; rfl) (fun _ _ _ => trivial) ?_
        clear hx30
        obtain ⟨x31, hx31, H⟩ := Let_elim H
        refine z_val (v := .bool x31) (by subst hx31; exact val_bin rfl rfl rfl rfl (i64_eql _ _ _)) rfl rfl (by rw [hops]; rfl) (fun _ _ _ => trivial) ?_
        clear hx31
        refine z_val (v := .bool x31) (val_pick rfl rfl rfl) rfl rfl rfl (fun _ _ _ => trivial) ?_
        obtain rfl := Option.some.inj H
        exact z_nil ((K _ () HJ trivial).weak (fun a ha => ha.cons rfl (ha.cons rfl (ha.cons rfl (ha.cons rfl (ha.cons rfl (ha.nil)))))) (fun w hw => hw))
      ·
        have H := cond_t he
        clear he
        refine z_skip rfl rfl (by rw [hops]; rfl) (fun _ _ _ => trivial) ?_
        refine z_skip rfl rfl (by rw [hops]; rfl) (fun _ _ _ => trivial) ?_
        refine z_skip rfl rfl (by rw [hops]; rfl) (fun _ _ _ => trivial) ?_
        refine z_val (v := .bool true) (val_pick rfl rfl rfl) rfl rfl rfl (fun _ _ _ => trivial) ?_
        obtain rfl := Option.some.inj H
        exact z_nil ((K _ () HJ trivial).weak (fun a ha => ha.cons rfl (ha.cons rfl (ha.cons rfl (ha.cons rfl (ha.cons rfl (ha.nil)))))) (fun w hw => hw))
    ·
      replace H := HB
      clear HB
      obtain ⟨x32, rfl⟩ : ∃ x, x = s := ⟨_, rfl⟩
      change T 118 _ _ _
      refine z_nil ?_
      cases x32
      ·
        replace H := cond_f H
        refine t_cond_false rfl ?_
        refine t_skip ?_
        refine t_seq ?_
        refine t_region (fun ops hops => ?_)
        clear hops
        refine z_val (v := .slice A0 a0.length c0) (val_move rfl rfl) rfl rfl rfl (fun _ _ _ => trivial) ?_
        refine z_val (v := .slice A1 a1.length c1) (val_move rfl rfl) rfl rfl rfl (fun _ _ _ => trivial) ?_
        refine z_val (v := .slice A2 a2.length c2) (val_move rfl rfl) rfl rfl rfl (fun _ _ _ => trivial) ?_
        obtain ⟨x38, hx_4, H⟩ := Option.bind_eq_some_iff.1 H
        refine z_madeS (F := fun A_5 c_6 => .tuple #[.slice A_5 x38.1.length c_6, .int .i64 x38.2]) (xs := x38.1) rfl Try.func8 nm8 bs8 rfl (fun w hw => modexp_Pow.calls a0 a1 a2 A0 c0 A1 c1 A2 c2 x38 hx_4 w (hs0.toW hw) hc0 (hs1.toW hw) hc1 (hs2.toW hw) hc2) rfl rfl rfl (fun _ _ _ _ _ => trivial) (fun A_5 c_6 hs_7 => ?_)
        clear hx_4
        refine z_val (v := .tuple #[.slice A_5 x38.1.length c_6, .int .i64 x38.2]) (val_move rfl rfl) rfl rfl rfl (fun _ _ _ => trivial) ?_
        refine z_val (v := .slice A_5 x38.1.length c_6) (val_extract rfl rfl rfl) rfl rfl rfl (fun _ _ _ => trivial) ?_
        refine z_val (v := .int .i64 x38.2) (val_extract rfl rfl rfl) rfl rfl rfl (fun _ _ _ => trivial) ?_
        refine z_val (v := .slice A_5 x38.1.length c_6) (val_assign rfl rfl) rfl rfl rfl (fun _ _ _ => trivial) ?_
        refine z_val (v := .int .i64 x38.2) (val_assign rfl rfl) rfl rfl rfl (fun _ _ _ => trivial) ?_
        refine z_nil ?_
        refine t_seq ?_
        refine t_region (fun ops hops => ?_)
        clear hops
        refine z_val (v := .slice A0 a0.length c0) (val_move rfl rfl) rfl rfl rfl (fun _ _ _ => trivial) ?_
        obtain ⟨x43, hx43, H⟩ := Let_elim H
        have hlx43 : x43.length = 0 := by subst hx43; rfl
        refine z_buildSlice' (e := 5) (f := U8) (xs := x43) (vs := []) rfl rfl (by subst hx43; intro w; kernel_rfl) hlx43 (by decide) rfl rfl rfl (fun _ _ _ _ => trivial) (fun g_9 hs_11 => ?_)
        clear hx43 hlx43
        refine z_val (v := .slice A1 a1.length c1) (val_move rfl rfl) rfl rfl rfl (fun _ _ _ => trivial) ?_
        obtain ⟨hq_12, H⟩ := Chk_elim H
        obtain ⟨x45, hx45, H⟩ := Let_elim H
        refine z_append (f := U8) (j := 0) (xs := x43) (ys := a1) (zs := x45) rfl rfl Try.underlying22 in5 rfl rfl rfl rfl (fun w hw => (hs1.toW hw)) (fun _ => rfl) hq_12 (by decide) hx45 (fun A_13 c_14 => [.row (.slice A_13 x45.length c_14) 5 1 (x45.map U8), .row (.slice A_5 x38.1.length c_6) 5 1 (x38.1.map U8), .row (.slice (some ⟨g_1, 0, none⟩) x21.length 3) 22 1 cs]) (fun _ _ => rfl) rfl rfl rfl (fun _ _ _ _ _ => trivial) (fun A_13 c_14 hs_15 => ?_)
        clear hx45
        refine z_val (v := U8 a3) (val_move rfl rfl) rfl rfl rfl (fun _ _ _ => trivial) ?_
        obtain ⟨x47, hx47, H⟩ := Let_elim H
        have hlx47 : x47.length = 1 := by subst hx47; rfl
        refine z_buildSlice' (e := 5) (f := U8) (xs := x47) (vs := [(0, U8 a3)]) rfl rfl (by subst hx47; intro w; kernel_rfl) hlx47 (by decide) rfl rfl rfl (fun _ _ _ _ => trivial) (fun g_16 hs_18 => ?_)
        clear hx47 hlx47
        obtain ⟨hq_19, H⟩ := Chk_elim H
        obtain ⟨x48, hx48, H⟩ := Let_elim H
        refine z_append (f := U8) (j := 1) (xs := x45) (ys := x47) (zs := x48) rfl rfl Try.underlying22 in5 rfl rfl rfl rfl (fun w hw => (row_w hw (j := 0) rfl)) (fun _ => rfl) hq_19 (by decide) hx48 (fun A_20 c_21 => [.row (.slice (some ⟨g_16, 0, none⟩) x47.length 1) 5 1 (x47.map U8), .row (.slice A_20 x48.length c_21) 5 1 (x48.map U8), .row (.slice A_5 x38.1.length c_6) 5 1 (x38.1.map U8), .row (.slice (some ⟨g_1, 0, none⟩) x21.length 3) 22 1 cs]) (fun _ _ => rfl) rfl rfl rfl (fun _ _ _ _ _ => trivial) (fun A_20 c_21 hs_22 => ?_)
        clear hx48
        refine z_val (v := .slice A2 a2.length c2) (val_move rfl rfl) rfl rfl rfl (fun _ _ _ => trivial) ?_
        obtain ⟨x50, hx_23, H⟩ := Option.bind_eq_some_iff.1 H
        refine z_madeS (F := fun A_24 c_25 => .tuple #[.slice A_24 x50.1.length c_25, .int .i64 x50.2]) (xs := x50.1) rfl Try.func8 nm8 bs8 rfl (fun w hw => modexp_Pow.calls a0 x48 a2 A0 c0 A_20 c_21 A2 c2 x50 hx_23 w (hs0.toW hw) hc0 (row_w hw (j := 1) rfl) hs_22.le (hs2.toW hw) hc2) rfl rfl rfl (fun _ _ _ _ _ => trivial) (fun A_24 c_25 hs_26 => ?_)
        clear hx_23
        refine z_val (v := .tuple #[.slice A_24 x50.1.length c_25, .int .i64 x50.2]) (val_move rfl rfl) rfl rfl rfl (fun _ _ _ => trivial) ?_
        refine z_val (v := .slice A_24 x50.1.length c_25) (val_extract rfl rfl rfl) rfl rfl rfl (fun _ _ _ => trivial) ?_
        refine z_val (v := .int .i64 x50.2) (val_extract rfl rfl rfl) rfl rfl rfl (fun _ _ _ => trivial) ?_
        refine z_val (v := .slice A_24 x50.1.length c_25) (val_assign rfl rfl) rfl rfl rfl (fun _ _ _ => trivial) ?_
        refine z_val (v := .int .i64 x50.2) (val_assign rfl rfl) rfl rfl rfl (fun _ _ _ => trivial) ?_
        refine z_nil ?_
        refine t_seq ?_
        refine t_region (fun ops hops => ?_)
        clear hops
        refine z_val (v := .slice A_5 x38.1.length c_6) (val_move rfl rfl) rfl rfl rfl (fun _ _ _ => trivial) ?_
        obtain ⟨x55, hx55, H⟩ := Let_elim H
        have hlx55 : x55.length = 2 := by subst hx55; rfl
        refine z_buildSlice' (e := 5) (f := U8) (xs := x55) (vs := [(0, .int .u8 1), (1, .int .u8 0)]) rfl rfl (by subst hx55; intro w; kernel_rfl) hlx55 (by decide) rfl rfl rfl (fun _ _ _ _ => trivial) (fun g_28 hs_30 => ?_)
        clear hx55 hlx55
        refine z_val (v := .slice A2 a2.length c2) (val_move rfl rfl) rfl rfl rfl (fun _ _ _ => trivial) ?_
        obtain ⟨x57, hx_31, H⟩ := Option.bind_eq_some_iff.1 H
        refine z_madeS (F := fun A_32 c_33 => .tuple #[.slice A_32 x57.1.length c_33, .int .i64 x57.2]) (xs := x57.1) rfl Try.func8 nm8 bs8 rfl (fun w hw => modexp_Pow.calls x38.1 x55 a2 A_5 c_6 ((some ⟨g_28, 0, none⟩)) 2 A2 c2 x57 hx_31 w (row_w hw (j := 4) rfl) hs_7.le (row_w hw (j := 0) rfl) hs_30.le (hs2.toW hw) hc2) rfl rfl rfl (fun _ _ _ _ _ => trivial) (fun A_32 c_33 hs_34 => ?_)
        clear hx_31
        refine z_val (v := .tuple #[.slice A_32 x57.1.length c_33, .int .i64 x57.2]) (val_move rfl rfl) rfl rfl rfl (fun _ _ _ => trivial) ?_
        refine z_val (v := .slice A_32 x57.1.length c_33) (val_extract rfl rfl rfl) rfl rfl rfl (fun _ _ _ => trivial) ?_
        refine z_val (v := .int .i64 x57.2) (val_extract rfl rfl rfl) rfl rfl rfl (fun _ _ _ => trivial) ?_
        refine z_val (v := .slice A_32 x57.1.length c_33) (val_assign rfl rfl) rfl rfl rfl (fun _ _ _ => trivial) ?_
        refine z_val (v := .int .i64 x57.2) (val_assign rfl rfl) rfl rfl rfl (fun _ _ _ => trivial) ?_
        refine z_nil ?_
        refine t_seq ?_
        refine t_region (fun ops hops => ?_)
        clear hops
        refine z_val (v := .slice A0 a0.length c0) (val_move rfl rfl) rfl rfl rfl (fun _ _ _ => trivial) ?_
        refine z_val (v := U8 a3) (val_move rfl rfl) rfl rfl rfl (fun _ _ _ => trivial) ?_
        obtain ⟨x63, hx63, H⟩ := Let_elim H
        have hlx63 : x63.length = 1 := by subst hx63; rfl
        refine z_buildSlice' (e := 5) (f := U8) (xs := x63) (vs := [(0, U8 a3)]) rfl rfl (by subst hx63; intro w; kernel_rfl) hlx63 (by decide) rfl rfl rfl (fun _ _ _ _ => trivial) (fun g_36 hs_38 => ?_)
        clear hx63 hlx63
        refine z_val (v := .slice A2 a2.length c2) (val_move rfl rfl) rfl rfl rfl (fun _ _ _ => trivial) ?_
        obtain ⟨x65, hx_39, H⟩ := Option.bind_eq_some_iff.1 H
        refine z_madeS (F := fun A_40 c_41 => .tuple #[.slice A_40 x65.1.length c_41, .int .i64 x65.2]) (xs := x65.1) rfl Try.func8 nm8 bs8 rfl (fun w hw => modexp_Pow.calls a0 x63 a2 A0 c0 ((some ⟨g_36, 0, none⟩)) 1 A2 c2 x65 hx_39 w (hs0.toW hw) hc0 (row_w hw (j := 0) rfl) hs_38.le (hs2.toW hw) hc2) rfl rfl rfl (fun _ _ _ _ _ => trivial) (fun A_40 c_41 hs_42 => ?_)
        clear hx_39
        refine z_val (v := .tuple #[.slice A_40 x65.1.length c_41, .int .i64 x65.2]) (val_move rfl rfl) rfl rfl rfl (fun _ _ _ => trivial) ?_
        refine z_val (v := .slice A_40 x65.1.length c_41) (val_extract rfl rfl rfl) rfl rfl rfl (fun _ _ _ => trivial) ?_
        refine z_val (v := .int .i64 x65.2) (val_extract rfl rfl rfl) rfl rfl rfl (fun _ _ _ => trivial) ?_
        refine z_val (v := .slice A_40 x65.1.length c_41) (val_assign rfl rfl) rfl rfl rfl (fun _ _ _ => trivial) ?_
        refine z_val (v := .int .i64 x65.2) (val_assign rfl rfl) rfl rfl rfl (fun _ _ _ => trivial) ?_
        refine z_nil ?_
        refine t_seq ?_
        refine t_seq ?_
        refine t_region (fun ops hops => ?_)
        refine z_val (v := .int .i64 x38.2) (val_move rfl rfl) rfl rfl rfl (fun _ _ _ => trivial) ?_
        obtain ⟨x69, hx69, H⟩ := Let_elim H
        refine z_val (v := .bool x69) (by subst hx69; exact val_bin rfl rfl rfl rfl (i64_neq _ _ _)) rfl rfl rfl (fun _ _ _ => trivial) ?_
        clear hx69
        refine z_val (v := .bool x69) (val_move rfl rfl) rfl rfl rfl (fun _ _ _ => trivial) ?_
        refine z_bind H 3 (fun (s : Bool) (_ : Unit) => [(2, .slice A2 a2.length c2), (11, .slice A_24 x50.1.length c_25), (13, .slice A_32 x57.1.length c_33), (14, .int .i64 x57.2), (15, .slice A_40 x65.1.length c_41), (16, .int .i64 x65.2), (73, .bool s)]) (fun _ _ => Mm w [] h [.row (.slice A_40 x65.1.length c_41) 5 1 (x65.1.map U8), .row (.slice (some ⟨g_36, 0, none⟩) x63.length 1) 5 1 (x63.map U8), .row (.slice A_32 x57.1.length c_33) 5 1 (x57.1.map U8), .row (.slice (some ⟨g_28, 0, none⟩) x55.length 2) 5 1 (x55.map U8), .row (.slice A_24 x50.1.length c_25) 5 1 (x50.1.map U8), .row (.slice (some ⟨g_16, 0, none⟩) x47.length 1) 5 1 (x47.map U8), .row (.slice A_20 x48.length c_21) 5 1 (x48.map U8), .row (.slice A_5 x38.1.length c_6) 5 1 (x38.1.map U8), .row (.slice (some ⟨g_1, 0, none⟩) x21.length 3) 22 1 cs]) (fun _ _ => True) (fun Gr K s he HJ => ?_) (fun s g HB _ => ?_)
        ·
          clear H
          cases x69
          ·
            have H := cond_f he
            clear he
            refine z_val (v := .int .i64 x50.2) (val_move rfl rfl) rfl rfl (by rw [hops]; rfl) (fun _ _ _ => trivial) ?_
            obtain ⟨x72, hx72, H⟩ := Let_elim H
            refine z_val (v := .bool x72) (by subst hx72; exact val_bin rfl rfl rfl rfl (i64_neq _ _ _)) rfl rfl (by rw [hops]; rfl) (fun _ _ _ => trivial) ?_
            clear hx72
            refine z_val (v := .bool x72) (val_pick rfl rfl rfl) rfl rfl rfl (fun _ _ _ => trivial) ?_
            obtain rfl := Option.some.inj H
            exact z_nil ((K _ () HJ trivial).weak (fun a ha => ha.cons rfl (ha.cons rfl (ha.cons rfl (ha.cons rfl (ha.cons rfl (ha.cons rfl (ha.cons rfl (ha.nil)))))))) (fun w hw => hw))
          ·
            have H := cond_t he
            clear he
            refine z_skip rfl rfl (by rw [hops]; rfl) (fun _ _ _ => trivial) ?_
            refine z_skip rfl rfl (by rw [hops]; rfl) (fun _ _ _ => trivial) ?_
            refine z_val (v := .bool true) (val_pick rfl rfl rfl) rfl rfl rfl (fun _ _ _ => trivial) ?_
            obtain rfl := Option.some.inj H
            exact z_nil ((K _ () HJ trivial).weak (fun a ha => ha.cons rfl (ha.cons rfl (ha.cons rfl (ha.cons rfl (ha.cons rfl (ha.cons rfl (ha.cons rfl (ha.nil)))))))) (fun w hw => hw))
        ·
          replace H := HB
          clear HB
          obtain ⟨x73, rfl⟩ : ∃ x, x = s := ⟨_, rfl⟩
          change T 118 _ _ _
          refine z_val (v := .bool x73) (val_move rfl rfl) rfl rfl rfl (fun _ _ _ => trivial) ?_
          refine z_bind H 3 (fun (s : Bool) (_ : Unit) => [(2, .slice A2 a2.length c2), (11, .slice A_24 x50.1.length c_25), (13, .slice A_32 x57.1.length c_33), (15, .slice A_40 x65.1.length c_41), (16, .int .i64 x65.2), (77, .bool s)]) (fun _ _ => Mm w [] h [.row (.slice A_40 x65.1.length c_41) 5 1 (x65.1.map U8), .row (.slice (some ⟨g_36, 0, none⟩) x63.length 1) 5 1 (x63.map U8), .row (.slice A_32 x57.1.length c_33) 5 1 (x57.1.map U8), .row (.slice (some ⟨g_28, 0, none⟩) x55.length 2) 5 1 (x55.map U8), .row (.slice A_24 x50.1.length c_25) 5 1 (x50.1.map U8), .row (.slice (some ⟨g_16, 0, none⟩) x47.length 1) 5 1 (x47.map U8), .row (.slice A_20 x48.length c_21) 5 1 (x48.map U8), .row (.slice A_5 x38.1.length c_6) 5 1 (x38.1.map U8), .row (.slice (some ⟨g_1, 0, none⟩) x21.length 3) 22 1 cs]) (fun _ _ => True) (fun Gr K s he HJ => ?_) (fun s g HB _ => ?_)
          ·
            clear H
            cases x73
            ·
              have H := cond_f he
              clear he
              refine z_val (v := .int .i64 x57.2) (val_move rfl rfl) rfl rfl (by rw [hops]; rfl) (fun _ _ _ => trivial) ?_
              obtain ⟨x76, hx76, H⟩ := Let_elim H
              refine z_val (v := .bool x76) (by subst hx76; exact val_bin rfl rfl rfl rfl (i64_neq _ _ _)) rfl rfl (by rw [hops]; rfl) (fun _ _ _ => trivial) ?_
              clear hx76
              refine z_val (v := .bool x76) (val_pick rfl rfl rfl) rfl rfl rfl (fun _ _ _ => trivial) ?_
              obtain rfl := Option.some.inj H
              exact z_nil ((K _ () HJ trivial).weak (fun a ha => ha.cons rfl (ha.cons rfl (ha.cons rfl (ha.cons rfl (ha.cons rfl (ha.cons rfl (ha.nil))))))) (fun w hw => hw))
            ·
              have H := cond_t he
              clear he
              refine z_skip rfl rfl (by rw [hops]; rfl) (fun _ _ _ => trivial) ?_
              refine z_skip rfl rfl (by rw [hops]; rfl) (fun _ _ _ => trivial) ?_
              refine z_val (v := .bool true) (val_pick rfl rfl rfl) rfl rfl rfl (fun _ _ _ => trivial) ?_
              obtain rfl := Option.some.inj H
              exact z_nil ((K _ () HJ trivial).weak (fun a ha => ha.cons rfl (ha.cons rfl (ha.cons rfl (ha.cons rfl (ha.cons rfl (ha.cons rfl (ha.nil))))))) (fun w hw => hw))
          ·
            replace H := HB
            clear HB
            obtain ⟨x77, rfl⟩ : ∃ x, x = s := ⟨_, rfl⟩
            change T 118 _ _ _
            refine z_val (v := .bool x77) (val_move rfl rfl) rfl rfl rfl (fun _ _ _ => trivial) ?_
            refine z_bind H 3 (fun (s : Bool) (_ : Unit) => [(2, .slice A2 a2.length c2), (11, .slice A_24 x50.1.length c_25), (13, .slice A_32 x57.1.length c_33), (15, .slice A_40 x65.1.length c_41), (81, .bool s)]) (fun _ _ => Mm w [] h [.row (.slice A_40 x65.1.length c_41) 5 1 (x65.1.map U8), .row (.slice (some ⟨g_36, 0, none⟩) x63.length 1) 5 1 (x63.map U8), .row (.slice A_32 x57.1.length c_33) 5 1 (x57.1.map U8), .row (.slice (some ⟨g_28, 0, none⟩) x55.length 2) 5 1 (x55.map U8), .row (.slice A_24 x50.1.length c_25) 5 1 (x50.1.map U8), .row (.slice (some ⟨g_16, 0, none⟩) x47.length 1) 5 1 (x47.map U8), .row (.slice A_20 x48.length c_21) 5 1 (x48.map U8), .row (.slice A_5 x38.1.length c_6) 5 1 (x38.1.map U8), .row (.slice (some ⟨g_1, 0, none⟩) x21.length 3) 22 1 cs]) (fun _ _ => True) (fun Gr K s he HJ => ?_) (fun s g HB _ => ?_)
            ·
              clear H
              cases x77
              ·
                have H := cond_f he
                clear he
                refine z_val (v := .int .i64 x65.2) (val_move rfl rfl) rfl rfl (by rw [hops]; rfl) (fun _ _ _ => trivial) ?_
                obtain ⟨x80, hx80, H⟩ := Let_elim H
                refine z_val (v := .bool x80) (by subst hx80; exact val_bin rfl rfl rfl rfl (i64_neq _ _ _)) rfl rfl (by rw [hops]; rfl) (fun _ _ _ => trivial) ?_
                clear hx80
                refine z_val (v := .bool x80) (val_pick rfl rfl rfl) rfl rfl rfl (fun _ _ _ => trivial) ?_
                obtain rfl := Option.some.inj H
                exact z_nil ((K _ () HJ trivial).weak (fun a ha => ha.cons rfl (ha.cons rfl (ha.cons rfl (ha.cons rfl (ha.cons rfl (ha.nil)))))) (fun w hw => hw))
              ·
                have H := cond_t he
                clear he
                refine z_skip rfl rfl (by rw [hops]; rfl) (fun _ _ _ => trivial) ?_
                refine z_skip rfl rfl (by rw [hops]; rfl) (fun _ _ _ => trivial) ?_
                refine z_val (v := .bool true) (val_pick rfl rfl rfl) rfl rfl rfl (fun _ _ _ => trivial) ?_
                obtain rfl := Option.some.inj H
                exact z_nil ((K _ () HJ trivial).weak (fun a ha => ha.cons rfl (ha.cons rfl (ha.cons rfl (ha.cons rfl (ha.cons rfl (ha.nil)))))) (fun w hw => hw))
            ·
              replace H := HB
              clear HB
              obtain ⟨x81, rfl⟩ : ∃ x, x = s := ⟨_, rfl⟩
              change T 118 _ _ _
              refine z_nil ?_
              cases x81
              ·
                replace H := cond_f H
                refine t_cond_false rfl ?_
                refine t_skip ?_
                refine t_seq ?_
                refine t_region (fun ops hops => ?_)
                clear hops
                refine z_val (v := .slice A2 a2.length c2) (val_move rfl rfl) rfl rfl rfl (fun _ _ _ => trivial) ?_
                obtain ⟨x83, hx_44, H⟩ := Option.bind_eq_some_iff.1 H
                refine z_madeS (F := fun A_45 c_46 => .slice A_45 x83.length c_46) (xs := x83) rfl Try.func12 nm12 bs12 rfl (fun w hw => smithyref09_Of.calls a2 A2 c2 x83 hx_44 w (hs2.toW hw) hc2) rfl rfl rfl (fun _ _ _ _ _ => trivial) (fun A_45 c_46 hs_47 => ?_)
                clear hx_44
                refine z_val (v := .slice A_45 x83.length c_46) (val_assign rfl rfl) rfl rfl rfl (fun _ _ _ => trivial) ?_
                refine z_nil ?_
                refine t_seq ?_
                refine t_seq ?_
                refine t_region (fun ops hops => ?_)
                clear hops
                refine z_val (v := .slice A_45 x83.length c_46) (val_move rfl rfl) rfl rfl rfl (fun _ _ _ => trivial) ?_
                obtain ⟨x85, hx_49, H⟩ := Option.bind_eq_some_iff.1 H
                refine z_made (v := .bool x85) rfl Try.func13 nm13 bs13 rfl (fun w hw => smithyref02_Zero.calls x83 A_45 c_46 x85 hx_49 w (row_w hw (j := 0) rfl) hs_47.le) rfl rfl rfl (fun _ _ _ => trivial) ?_
                clear hx_49
                refine z_nil ?_
                cases x85
                ·
                  replace H := cond_f H
                  refine t_cond_false rfl ?_
                  refine t_skip ?_
                  refine t_seq ?_
                  refine t_plan (C := Mm w [] h [.row (.slice A_45 x83.length c_46) 3 1 (x83.map (Value.int .i64)), .row (.slice A_40 x65.1.length c_41) 5 1 (x65.1.map U8), .row (.slice (some ⟨g_36, 0, none⟩) x63.length 1) 5 1 (x63.map U8), .row (.slice A_32 x57.1.length c_33) 5 1 (x57.1.map U8), .row (.slice (some ⟨g_28, 0, none⟩) x55.length 2) 5 1 (x55.map U8), .row (.slice A_24 x50.1.length c_25) 5 1 (x50.1.map U8), .row (.slice (some ⟨g_16, 0, none⟩) x47.length 1) 5 1 (x47.map U8), .row (.slice A_20 x48.length c_21) 5 1 (x48.map U8), .row (.slice A_5 x38.1.length c_6) 5 1 (x38.1.map U8), .row (.slice (some ⟨g_1, 0, none⟩) x21.length 3) 22 1 cs]) [] [(0, false), (1, true), (2, true), (3, true), (4, true), (6, true), (8, true), (10, true), (11, true), (5, false), (7, false), (9, false), (12, false), (13, false), (14, true), (15, true), (16, true), (17, true), (19, true), (18, false), (20, false), (21, true), (22, true)] (by kernel_rfl) (by kernel_rfl) (fun _ hw => hw.drew) (fun ops hops => ?_)
                  obtain ⟨x96, hx_50, H⟩ := Option.bind_eq_some_iff.1 H
                  refine z_made (v := .bool x96) rfl Try.func10 nm10 bs10 rfl (fun w hw => smithylaw09_fixed.calls x96 hx_50 w) rfl rfl rfl (fun _ _ hw => hw) ?_
                  clear hx_50
                  refine z_still (v := .bool x96) (val_move rfl rfl) rfl rfl rfl (fun _ hw => hw) ?_
                  refine z_bind H 14 (fun (s : Bool) (_ : Unit) => [(11, .slice A_24 x50.1.length c_25), (17, .slice A_45 x83.length c_46), (111, .bool s)]) (fun _ _ => Mm w [] h [.row (.slice A_45 x83.length c_46) 3 1 (x83.map (Value.int .i64)), .row (.slice A_40 x65.1.length c_41) 5 1 (x65.1.map U8), .row (.slice (some ⟨g_36, 0, none⟩) x63.length 1) 5 1 (x63.map U8), .row (.slice A_32 x57.1.length c_33) 5 1 (x57.1.map U8), .row (.slice (some ⟨g_28, 0, none⟩) x55.length 2) 5 1 (x55.map U8), .row (.slice A_24 x50.1.length c_25) 5 1 (x50.1.map U8), .row (.slice (some ⟨g_16, 0, none⟩) x47.length 1) 5 1 (x47.map U8), .row (.slice A_20 x48.length c_21) 5 1 (x48.map U8), .row (.slice A_5 x38.1.length c_6) 5 1 (x38.1.map U8), .row (.slice (some ⟨g_1, 0, none⟩) x21.length 3) 22 1 cs]) (fun _ _ => True) (fun Gr K s he HJ => ?_) (fun s g HB _ => ?_)
                  ·
                    clear H
                    cases x96
                    ·
                      have H := cond_f he
                      clear he
                      refine z_skip_still rfl rfl (by rw [hops]; rfl) (fun _ hw => hw) ?_
                      refine z_skip_still rfl rfl (by rw [hops]; rfl) (fun _ hw => hw) ?_
                      refine z_skip_still rfl rfl (by rw [hops]; rfl) (fun _ hw => hw) ?_
                      refine z_skip_still rfl rfl (by rw [hops]; rfl) (fun _ hw => hw) ?_
                      refine z_skip_still rfl rfl (by rw [hops]; rfl) (fun _ hw => hw) ?_
                      refine z_skip_still rfl rfl (by rw [hops]; rfl) (fun _ hw => hw) ?_
                      refine z_skip_still rfl rfl (by rw [hops]; rfl) (fun _ hw => hw) ?_
                      refine z_skip rfl rfl (by rw [hops]; rfl) (fun _ _ hw => hw) ?_
                      refine z_skip rfl rfl (by rw [hops]; rfl) (fun _ _ hw => hw) ?_
                      refine z_skip rfl rfl (by rw [hops]; rfl) (fun _ _ hw => hw) ?_
                      refine z_skip rfl rfl (by rw [hops]; rfl) (fun _ _ hw => hw) ?_
                      refine z_skip rfl rfl (by rw [hops]; rfl) (fun _ _ hw => hw) ?_
                      refine z_skip_still rfl rfl (by rw [hops]; rfl) (fun _ hw => hw) ?_
                      refine z_still (v := .bool false) (val_pick rfl rfl rfl) rfl rfl rfl (fun _ hw => hw) ?_
                      obtain rfl := Option.some.inj H
                      exact z_nil ((K _ () HJ trivial).weak (fun a ha => ha.cons rfl (ha.cons rfl (ha.cons rfl (ha.nil)))) (fun w hw => hw))
                    ·
                      have H := cond_t he
                      clear he
                      refine z_still (v := .slice A_24 x50.1.length c_25) (val_move rfl rfl) rfl rfl (by rw [hops]; rfl) (fun _ hw => hw) ?_
                      obtain ⟨x99, hx99, H⟩ := Let_elim H
                      refine z_still (v := .string x99) (by subst hx99; exact val_convS rfl rfl Try.underlying22 Try.underlying5 Try.underlying9 (fun w hw => (row_w hw (j := 5) rfl))) rfl rfl (by rw [hops]; rfl) (fun _ hw => hw) ?_
                      clear hx99
                      refine z_still (v := .slice A_32 x57.1.length c_33) (val_move rfl rfl) rfl rfl (by rw [hops]; rfl) (fun _ hw => hw) ?_
                      refine z_still (v := .slice A_40 x65.1.length c_41) (val_move rfl rfl) rfl rfl (by rw [hops]; rfl) (fun _ hw => hw) ?_
                      refine z_still (v := .slice A_45 x83.length c_46) (val_move rfl rfl) rfl rfl (by rw [hops]; rfl) (fun _ hw => hw) ?_
                      refine z_still (v := .slice A2 a2.length c2) (val_move rfl rfl) rfl rfl (by rw [hops]; rfl) (fun _ hw => hw) ?_
                      obtain ⟨x107, hx107, H⟩ := Let_elim H
                      refine z_still (v := .int .i64 x107) (by subst hx107; exact val_len rfl rfl rfl Try.underlying22) rfl rfl (by rw [hops]; rfl) (fun _ hw => hw) ?_
                      clear hx107
                      obtain ⟨x101, hx_51, H⟩ := Option.bind_eq_some_iff.1 H
                      refine z_madeS (F := fun A_52 c_53 => .slice A_52 x101.length c_53) (xs := x101) rfl Try.func12 nm12 bs12 rfl (fun w hw => smithyref09_Of.calls x57.1 A_32 c_33 x101 hx_51 w (row_w hw (j := 3) rfl) hs_34.le) rfl rfl (by rw [hops]; rfl) (fun _ _ _ _ hw => hw.sel [1, 2, 3, 4, 5, 6, 7, 8, 9, 10] rfl rfl) (fun A_52 c_53 hs_54 => ?_)
                      clear hx_51
                      obtain ⟨x103, hx_56, H⟩ := Option.bind_eq_some_iff.1 H
                      refine z_madeS (F := fun A_57 c_58 => .slice A_57 x103.length c_58) (xs := x103) rfl Try.func12 nm12 bs12 rfl (fun w hw => smithyref09_Of.calls x65.1 A_40 c_41 x103 hx_56 w (row_w hw (j := 2) rfl) hs_42.le) rfl rfl (by rw [hops]; rfl) (fun _ _ _ _ hw => hw.sel [2, 3, 4, 5, 6, 7, 8, 9, 10, 11] rfl rfl) (fun A_57 c_58 hs_59 => ?_)
                      clear hx_56
                      obtain ⟨x105, hx_61, H⟩ := Option.bind_eq_some_iff.1 H
                      refine z_madeS (F := fun A_62 c_63 => .slice A_62 x105.length c_63) (xs := x105) rfl Try.func15 nm15 bs15 rfl (fun w hw => smithyref09_Mul.calls x101 x103 x83 A_52 c_53 A_57 c_58 A_45 c_46 x105 hx_61 w (row_w hw (j := 1) rfl) hs_54.le (row_w hw (j := 0) rfl) hs_59.le (row_w hw (j := 2) rfl) hs_47.le) rfl rfl (by rw [hops]; rfl) (fun _ _ _ _ hw => hw.sel [3, 4, 5, 6, 7, 8, 9, 10, 11, 12] rfl rfl) (fun A_62 c_63 hs_64 => ?_)
                      clear hx_61
                      obtain ⟨x108, hx_66, H⟩ := Option.bind_eq_some_iff.1 H
                      refine z_madeS (F := fun A_67 c_68 => .slice A_67 x108.length c_68) (xs := x108) rfl Try.func14 nm14 bs14 rfl (fun w hw => smithyref09_Bytes.calls x105 x107 A_62 c_63 x108 hx_66 w (row_w hw (j := 0) rfl) hs_64.le) rfl rfl (by rw [hops]; rfl) (fun _ _ _ _ hw => hw.sel [4, 5, 6, 7, 8, 9, 10, 11, 12, 13] rfl rfl) (fun A_67 c_68 hs_69 => ?_)
                      clear hx_66
                      obtain ⟨x109, hx109, H⟩ := Let_elim H
                      refine z_val (v := .string x109) (by subst hx109; exact val_convS rfl rfl Try.underlying22 Try.underlying5 Try.underlying9 (fun w hw => (row_w hw (j := 0) rfl))) rfl rfl (by rw [hops]; rfl) (fun _ _ hw => hw.sel [4, 5, 6, 7, 8, 9, 10, 11, 12, 13] rfl rfl) ?_
                      clear hx109
                      obtain ⟨x110, hx110, H⟩ := Let_elim H
                      refine z_still (v := .bool x110) (by subst hx110; exact val_bin rfl rfl rfl rfl (str_eql _ _ _)) rfl rfl (by rw [hops]; rfl) (fun _ hw => hw.sel [4, 5, 6, 7, 8, 9, 10, 11, 12, 13] rfl rfl) ?_
                      clear hx110
                      refine z_still (v := .bool x110) (val_pick rfl rfl rfl) rfl rfl rfl (fun _ hw => hw.sel [4, 5, 6, 7, 8, 9, 10, 11, 12, 13] rfl rfl) ?_
                      obtain rfl := Option.some.inj H
                      exact z_nil ((K _ () HJ trivial).weak (fun a ha => ha.cons rfl (ha.cons rfl (ha.cons rfl (ha.nil)))) (fun w hw => hw.sel [4, 5, 6, 7, 8, 9, 10, 11, 12, 13] rfl rfl))
                  ·
                    replace H := HB
                    clear HB
                    obtain ⟨x111, rfl⟩ : ∃ x, x = s := ⟨_, rfl⟩
                    change T 118 _ _ _
                    refine z_still (v := .bool x111) (val_move rfl rfl) rfl rfl rfl (fun _ hw => hw) ?_
                    refine z_bind H 5 (fun (s : Bool) (_ : Unit) => [(117, .bool s)]) (fun _ _ => Mm w [] h [.row (.slice A_45 x83.length c_46) 3 1 (x83.map (Value.int .i64)), .row (.slice A_40 x65.1.length c_41) 5 1 (x65.1.map U8), .row (.slice (some ⟨g_36, 0, none⟩) x63.length 1) 5 1 (x63.map U8), .row (.slice A_32 x57.1.length c_33) 5 1 (x57.1.map U8), .row (.slice (some ⟨g_28, 0, none⟩) x55.length 2) 5 1 (x55.map U8), .row (.slice A_24 x50.1.length c_25) 5 1 (x50.1.map U8), .row (.slice (some ⟨g_16, 0, none⟩) x47.length 1) 5 1 (x47.map U8), .row (.slice A_20 x48.length c_21) 5 1 (x48.map U8), .row (.slice A_5 x38.1.length c_6) 5 1 (x38.1.map U8), .row (.slice (some ⟨g_1, 0, none⟩) x21.length 3) 22 1 cs]) (fun _ _ => True) (fun Gr K s he HJ => ?_) (fun s g HB _ => ?_)
                    ·
                      clear H
                      cases x111
                      ·
                        have H := cond_f he
                        clear he
                        refine z_skip_still rfl rfl (by rw [hops]; rfl) (fun _ hw => hw) ?_
                        refine z_skip_still rfl rfl (by rw [hops]; rfl) (fun _ hw => hw) ?_
                        refine z_skip rfl rfl (by rw [hops]; rfl) (fun _ _ hw => hw) ?_
                        refine z_skip rfl rfl (by rw [hops]; rfl) (fun _ _ hw => hw) ?_
                        refine z_still (v := .bool false) (val_pick rfl rfl rfl) rfl rfl rfl (fun _ hw => hw) ?_
                        obtain rfl := Option.some.inj H
                        exact z_nil ((K _ () HJ trivial).weak (fun a ha => ha.cons rfl (ha.nil)) (fun w hw => hw))
                      ·
                        have H := cond_t he
                        clear he
                        refine z_still (v := .slice A_24 x50.1.length c_25) (val_move rfl rfl) rfl rfl (by rw [hops]; rfl) (fun _ hw => hw) ?_
                        refine z_still (v := .slice A_45 x83.length c_46) (val_move rfl rfl) rfl rfl (by rw [hops]; rfl) (fun _ hw => hw) ?_
                        obtain ⟨x114, hx_71, H⟩ := Option.bind_eq_some_iff.1 H
                        refine z_madeS (F := fun A_72 c_73 => .slice A_72 x114.length c_73) (xs := x114) rfl Try.func12 nm12 bs12 rfl (fun w hw => smithyref09_Of.calls x50.1 A_24 c_25 x114 hx_71 w (row_w hw (j := 5) rfl) hs_26.le) rfl rfl (by rw [hops]; rfl) (fun _ _ _ _ hw => hw.sel [1, 2, 3, 4, 5, 6, 7, 8, 9, 10] rfl rfl) (fun A_72 c_73 hs_74 => ?_)
                        clear hx_71
                        obtain ⟨x116, hx_76, H⟩ := Option.bind_eq_some_iff.1 H
                        refine z_made (v := .bool x116) rfl Try.func16 nm16 bs16 rfl (fun w hw => smithyref02_Less.calls x114 x83 A_72 c_73 A_45 c_46 x116 hx_76 w (row_w hw (j := 0) rfl) hs_74.le (row_w hw (j := 1) rfl) hs_47.le) rfl rfl (by rw [hops]; rfl) (fun _ _ hw => hw.sel [1, 2, 3, 4, 5, 6, 7, 8, 9, 10] rfl rfl) ?_
                        clear hx_76
                        refine z_still (v := .bool x116) (val_pick rfl rfl rfl) rfl rfl rfl (fun _ hw => hw.sel [1, 2, 3, 4, 5, 6, 7, 8, 9, 10] rfl rfl) ?_
                        obtain rfl := Option.some.inj H
                        exact z_nil ((K _ () HJ trivial).weak (fun a ha => ha.cons rfl (ha.nil)) (fun w hw => hw.sel [1, 2, 3, 4, 5, 6, 7, 8, 9, 10] rfl rfl))
                    ·
                      replace H := HB
                      clear HB
                      obtain ⟨x117, rfl⟩ : ∃ x, x = s := ⟨_, rfl⟩
                      change T 118 _ _ _
                      refine z_still (v := .bool x117) (val_assign rfl rfl) rfl rfl rfl (fun _ hw => hw) ?_
                      refine z_nil ?_
                      refine t_ret ?_
                      obtain rfl := Option.some.inj H
                      exact ret1 rfl (res_tmp rfl) (fun _ hw => ⟨rfl, hw.below⟩)
                ·
                  replace H := cond_t H
                  refine t_cond_true rfl ?_
                  refine t_seq ?_
                  refine t_plan (C := Mm w [] h [.row (.slice A_45 x83.length c_46) 3 1 (x83.map (Value.int .i64)), .row (.slice A_40 x65.1.length c_41) 5 1 (x65.1.map U8), .row (.slice (some ⟨g_36, 0, none⟩) x63.length 1) 5 1 (x63.map U8), .row (.slice A_32 x57.1.length c_33) 5 1 (x57.1.map U8), .row (.slice (some ⟨g_28, 0, none⟩) x55.length 2) 5 1 (x55.map U8), .row (.slice A_24 x50.1.length c_25) 5 1 (x50.1.map U8), .row (.slice (some ⟨g_16, 0, none⟩) x47.length 1) 5 1 (x47.map U8), .row (.slice A_20 x48.length c_21) 5 1 (x48.map U8), .row (.slice A_5 x38.1.length c_6) 5 1 (x38.1.map U8), .row (.slice (some ⟨g_1, 0, none⟩) x21.length 3) 22 1 cs]) [] [(0, false), (1, true), (2, true), (3, true), (4, true), (5, true), (6, false), (7, false), (8, true), (9, true), (10, true)] (by kernel_rfl) (by kernel_rfl) (fun _ hw => hw.drew) (fun ops hops => ?_)
                  obtain ⟨x86, hx_77, H⟩ := Option.bind_eq_some_iff.1 H
                  refine z_made (v := .bool x86) rfl Try.func10 nm10 bs10 rfl (fun w hw => smithylaw09_fixed.calls x86 hx_77 w) rfl rfl rfl (fun _ _ hw => hw) ?_
                  clear hx_77
                  refine z_still (v := .bool x86) (val_move rfl rfl) rfl rfl rfl (fun _ hw => hw) ?_
                  refine z_bind H 8 (fun (s : Bool) (_ : Unit) => [(95, .bool s)]) (fun _ _ => Mm w [] h [.row (.slice A_45 x83.length c_46) 3 1 (x83.map (Value.int .i64)), .row (.slice A_40 x65.1.length c_41) 5 1 (x65.1.map U8), .row (.slice (some ⟨g_36, 0, none⟩) x63.length 1) 5 1 (x63.map U8), .row (.slice A_32 x57.1.length c_33) 5 1 (x57.1.map U8), .row (.slice (some ⟨g_28, 0, none⟩) x55.length 2) 5 1 (x55.map U8), .row (.slice A_24 x50.1.length c_25) 5 1 (x50.1.map U8), .row (.slice (some ⟨g_16, 0, none⟩) x47.length 1) 5 1 (x47.map U8), .row (.slice A_20 x48.length c_21) 5 1 (x48.map U8), .row (.slice A_5 x38.1.length c_6) 5 1 (x38.1.map U8), .row (.slice (some ⟨g_1, 0, none⟩) x21.length 3) 22 1 cs]) (fun _ _ => True) (fun Gr K s he HJ => ?_) (fun s g HB _ => ?_)
                  ·
                    clear H
                    cases x86
                    ·
                      have H := cond_f he
                      clear he
                      refine z_skip_still rfl rfl (by rw [hops]; rfl) (fun _ hw => hw) ?_
                      refine z_skip_still rfl rfl (by rw [hops]; rfl) (fun _ hw => hw) ?_
                      refine z_skip_still rfl rfl (by rw [hops]; rfl) (fun _ hw => hw) ?_
                      refine z_skip_still rfl rfl (by rw [hops]; rfl) (fun _ hw => hw) ?_
                      refine z_skip rfl rfl (by rw [hops]; rfl) (fun _ _ hw => hw) ?_
                      refine z_skip rfl rfl (by rw [hops]; rfl) (fun _ _ hw => hw) ?_
                      refine z_skip_still rfl rfl (by rw [hops]; rfl) (fun _ hw => hw) ?_
                      refine z_still (v := .bool false) (val_pick rfl rfl rfl) rfl rfl rfl (fun _ hw => hw) ?_
                      obtain rfl := Option.some.inj H
                      exact z_nil ((K _ () HJ trivial).weak (fun a ha => ha.cons rfl (ha.nil)) (fun w hw => hw))
                    ·
                      have H := cond_t he
                      clear he
                      refine z_still (v := .slice A_24 x50.1.length c_25) (val_move rfl rfl) rfl rfl (by rw [hops]; rfl) (fun _ hw => hw) ?_
                      obtain ⟨x89, hx89, H⟩ := Let_elim H
                      refine z_still (v := .string x89) (by subst hx89; exact val_convS rfl rfl Try.underlying22 Try.underlying5 Try.underlying9 (fun w hw => (row_w hw (j := 5) rfl))) rfl rfl (by rw [hops]; rfl) (fun _ hw => hw) ?_
                      clear hx89
                      refine z_still (v := .slice A2 a2.length c2) (val_move rfl rfl) rfl rfl (by rw [hops]; rfl) (fun _ hw => hw) ?_
                      obtain ⟨x91, hx91, H⟩ := Let_elim H
                      refine z_still (v := .int .i64 x91) (by subst hx91; exact val_len rfl rfl rfl Try.underlying22) rfl rfl (by rw [hops]; rfl) (fun _ hw => hw) ?_
                      clear hx91
                      obtain ⟨hq_78, H⟩ := Chk_elim H
                      obtain ⟨x92, hx92, H⟩ := Let_elim H
                      refine z_makeSlice (f := U8) (z0 := 0#8) (N := x91.toNat) rfl rfl rfl Try.underlying22 (in5.trans rfl) rfl hq_78.1 rfl hq_78.2 (by decide) hx92 rfl rfl (by rw [hops]; rfl) (fun _ _ _ hw => hw.sel [1, 2, 3, 4, 5, 6, 7, 8, 9, 10] rfl rfl) (fun g_79 hs_81 => ?_)
                      clear hx92
                      obtain ⟨x93, hx93, H⟩ := Let_elim H
                      refine z_val (v := .string x93) (by subst hx93; exact val_convS rfl rfl Try.underlying22 Try.underlying5 Try.underlying9 (fun w hw => (row_w hw (j := 0) rfl))) rfl rfl (by rw [hops]; rfl) (fun _ _ hw => hw.sel [1, 2, 3, 4, 5, 6, 7, 8, 9, 10] rfl rfl) ?_
                      clear hx93
                      obtain ⟨x94, hx94, H⟩ := Let_elim H
                      refine z_still (v := .bool x94) (by subst hx94; exact val_bin rfl rfl rfl rfl (str_eql _ _ _)) rfl rfl (by rw [hops]; rfl) (fun _ hw => hw.sel [1, 2, 3, 4, 5, 6, 7, 8, 9, 10] rfl rfl) ?_
                      clear hx94
                      refine z_still (v := .bool x94) (val_pick rfl rfl rfl) rfl rfl rfl (fun _ hw => hw.sel [1, 2, 3, 4, 5, 6, 7, 8, 9, 10] rfl rfl) ?_
                      obtain rfl := Option.some.inj H
                      exact z_nil ((K _ () HJ trivial).weak (fun a ha => ha.cons rfl (ha.nil)) (fun w hw => hw.sel [1, 2, 3, 4, 5, 6, 7, 8, 9, 10] rfl rfl))
                  ·
                    replace H := HB
                    clear HB
                    obtain ⟨x95, rfl⟩ : ∃ x, x = s := ⟨_, rfl⟩
                    change T 118 _ _ _
                    refine z_still (v := .bool x95) (val_assign rfl rfl) rfl rfl rfl (fun _ hw => hw) ?_
                    refine z_nil ?_
                    refine t_ret ?_
                    obtain rfl := Option.some.inj H
                    exact ret1 rfl (res_tmp rfl) (fun _ hw => ⟨rfl, hw.below⟩)
              ·
                replace H := cond_t H
                refine t_cond_true rfl ?_
                refine t_seq ?_
                refine t_region (fun ops hops => ?_)
                clear hops
                refine z_val (v := .bool false) (val_assign rfl rfl) rfl rfl rfl (fun _ _ _ => trivial) ?_
                refine z_nil ?_
                refine t_ret ?_
                obtain rfl := Option.some.inj H
                exact ret1 rfl (res_tmp rfl) (fun _ hw => ⟨rfl, hw.below⟩)
      ·
        replace H := cond_t H
        refine t_cond_true rfl ?_
        refine t_seq ?_
        refine t_region (fun ops hops => ?_)
        clear hops
        obtain ⟨x33, hx_82, H⟩ := Option.bind_eq_some_iff.1 H
        refine z_made (v := .bool x33) rfl Try.func10 nm10 bs10 rfl (fun w hw => smithylaw09_fixed.calls x33 hx_82 w) rfl rfl rfl (fun _ _ _ => trivial) ?_
        clear hx_82
        refine z_val (v := .bool x33) (val_assign rfl rfl) rfl rfl rfl (fun _ _ _ => trivial) ?_
        refine z_nil ?_
        refine t_ret ?_
        obtain rfl := Option.some.inj H
        exact ret1 rfl (res_tmp rfl) (fun _ hw => ⟨rfl, hw.below⟩)
end Go.Proofs.Ytccilbklafhjiaa
