/- Functions of the program as plain functions, and their walks, printed by walk.py. -/
import Derived.Test.YtccilbklafhjiaaMcF
import Derived.Test.YtccilbklafhjiaaMcB
namespace Go.Proofs.Ytccilbklafhjiaa
open Go.RowKit
set_option linter.unusedVariables false
set_option linter.unusedSimpArgs false
def smithylaw09_fixed  : Option (Bool) :=
  Let ([3#8]) fun x6 => Let ([5#8]) fun x7 => Let ([7#8]) fun x8 => (modexp_Pow x6 x7 x8).bind fun x9 => Let ([2#8]) fun x13 => Chk ((0 : Int) ≤ 64 ∧ 64 * 1 ≤ 140737488355328) <| Let (List.replicate 64 0#8) fun x14 => Let ([5#8]) fun x15 => (modexp_Pow x13 x14 x15).bind fun x16 => Let (strOf x9.1) fun x20 => Let (x20.toList == (⟨#[5]⟩ : ByteArray).toList) fun x21 => (bif x21 then Let (x9.2 == 0) fun x24 => some x24 else some false).bind (fun x25 => (bif x25 then Let (strOf x16.1) fun x28 => Let (x28.toList == (⟨#[1]⟩ : ByteArray).toList) fun x29 => some x29 else some false).bind (fun x30 => (bif x30 then Let (x16.2 == 0) fun x33 => some x33 else some false).bind (fun x34 => (bif x34 then (modexp_Gas []).bind fun x36 => Let ((x36.toNat : Int) == 200) fun x37 => some x37 else some false).bind (fun x38 => some x38))))
set_option maxRecDepth 100000 in
theorem smithylaw09_fixed.calls   (r : Bool) (H : smithylaw09_fixed = some r) (w : World)   :
    Made Try.prog 10 #[] w (.bool r) := by
  unfold smithylaw09_fixed at H
  have hM := Mm.start w (snap w) (snap_ok w)
  generalize snap w = h at *
  refine t_enter (vs := []) (n := 39) Try.func10 rfl rfl rfl hM ?_
  clear hM
  change T 39 _ _ _
  refine t_seq ?_
  refine t_region (fun ops hops => ?_)
  clear hops
  refine z_val (v := .bool false) (val_assign rfl rfl) rfl rfl rfl (fun _ _ _ => trivial) ?_
  refine z_nil ?_
  refine t_seq ?_
  refine t_region (fun ops hops => ?_)
  clear hops
  obtain ⟨x6, hx6, H⟩ := Let_elim H
  have hlx6 : x6.length = 1 := by subst hx6; rfl
  refine z_buildSlice' (e := 5) (f := U8) (xs := x6) (vs := [(0, .int .u8 3)]) rfl rfl (by subst hx6; intro w; kernel_rfl) hlx6 (by decide) rfl rfl rfl (fun _ _ _ _ => trivial) (fun g_1 hs_3 => ?_)
  clear hx6 hlx6
  obtain ⟨x7, hx7, H⟩ := Let_elim H
  have hlx7 : x7.length = 1 := by subst hx7; rfl
  refine z_buildSlice' (e := 5) (f := U8) (xs := x7) (vs := [(0, .int .u8 5)]) rfl rfl (by subst hx7; intro w; kernel_rfl) hlx7 (by decide) rfl rfl rfl (fun _ _ _ _ => trivial) (fun g_4 hs_6 => ?_)
  clear hx7 hlx7
  obtain ⟨x8, hx8, H⟩ := Let_elim H
  have hlx8 : x8.length = 1 := by subst hx8; rfl
  refine z_buildSlice' (e := 5) (f := U8) (xs := x8) (vs := [(0, .int .u8 7)]) rfl rfl (by subst hx8; intro w; kernel_rfl) hlx8 (by decide) rfl rfl rfl (fun _ _ _ _ => trivial) (fun g_7 hs_9 => ?_)
  clear hx8 hlx8
  obtain ⟨x9, hx, H⟩ := Option.bind_eq_some_iff.1 H
  refine z_madeS (F := fun A_10 c_11 => .tuple #[.slice A_10 x9.1.length c_11, .int .i64 x9.2]) (xs := x9.1) rfl Try.func8 nm8 bs8 rfl (fun w hw => modexp_Pow.calls x6 x7 x8 ((some ⟨g_1, 0, none⟩)) 1 ((some ⟨g_4, 0, none⟩)) 1 ((some ⟨g_7, 0, none⟩)) 1 x9 hx w (row_w hw (j := 2) rfl) hs_3.le (row_w hw (j := 1) rfl) hs_6.le (row_w hw (j := 0) rfl) hs_9.le) rfl rfl rfl (fun _ _ _ _ _ => trivial) (fun A_10 c_11 hs_12 => ?_)
  clear hx
  refine z_val (v := .tuple #[.slice A_10 x9.1.length c_11, .int .i64 x9.2]) (val_move rfl rfl) rfl rfl rfl (fun _ _ _ => trivial) ?_
  refine z_val (v := .slice A_10 x9.1.length c_11) (val_extract rfl rfl rfl) rfl rfl rfl (fun _ _ _ => trivial) ?_
  refine z_val (v := .int .i64 x9.2) (val_extract rfl rfl rfl) rfl rfl rfl (fun _ _ _ => trivial) ?_
  refine z_val (v := .slice A_10 x9.1.length c_11) (val_assign rfl rfl) rfl rfl rfl (fun _ _ _ => trivial) ?_
  refine z_val (v := .int .i64 x9.2) (val_assign rfl rfl) rfl rfl rfl (fun _ _ _ => trivial) ?_
  refine z_nil ?_
  refine t_seq ?_
  refine t_region (fun ops hops => ?_)
  clear hops
  obtain ⟨x13, hx13, H⟩ := Let_elim H
  have hlx13 : x13.length = 1 := by subst hx13; rfl
  refine z_buildSlice' (e := 5) (f := U8) (xs := x13) (vs := [(0, .int .u8 2)]) rfl rfl (by subst hx13; intro w; kernel_rfl) hlx13 (by decide) rfl rfl rfl (fun _ _ _ _ => trivial) (fun g_14 hs_16 => ?_)
  clear hx13 hlx13
  obtain ⟨hq_17, H⟩ := Chk_elim H
  obtain ⟨x14, hx14, H⟩ := Let_elim H
  refine z_makeSlice (f := U8) (z0 := 0#8) (N := 64) rfl rfl rfl Try.underlying22 (in5.trans rfl) rfl hq_17.1 rfl hq_17.2 (by decide) hx14 rfl rfl rfl (fun _ _ _ _ => trivial) (fun g_18 hs_20 => ?_)
  clear hx14
  obtain ⟨x15, hx15, H⟩ := Let_elim H
  have hlx15 : x15.length = 1 := by subst hx15; rfl
  refine z_buildSlice' (e := 5) (f := U8) (xs := x15) (vs := [(0, .int .u8 5)]) rfl rfl (by subst hx15; intro w; kernel_rfl) hlx15 (by decide) rfl rfl rfl (fun _ _ _ _ => trivial) (fun g_21 hs_23 => ?_)
  clear hx15 hlx15
  obtain ⟨x16, hx_24, H⟩ := Option.bind_eq_some_iff.1 H
  refine z_madeS (F := fun A_25 c_26 => .tuple #[.slice A_25 x16.1.length c_26, .int .i64 x16.2]) (xs := x16.1) rfl Try.func8 nm8 bs8 rfl (fun w hw => modexp_Pow.calls x13 x14 x15 ((some ⟨g_14, 0, none⟩)) 1 ((some ⟨g_18, 0, none⟩)) (64) ((some ⟨g_21, 0, none⟩)) 1 x16 hx_24 w (row_w hw (j := 2) rfl) hs_16.le (row_w hw (j := 1) rfl) hs_20.le (row_w hw (j := 0) rfl) hs_23.le) rfl rfl rfl (fun _ _ _ _ _ => trivial) (fun A_25 c_26 hs_27 => ?_)
  clear hx_24
  refine z_val (v := .tuple #[.slice A_25 x16.1.length c_26, .int .i64 x16.2]) (val_move rfl rfl) rfl rfl rfl (fun _ _ _ => trivial) ?_
  refine z_val (v := .slice A_25 x16.1.length c_26) (val_extract rfl rfl rfl) rfl rfl rfl (fun _ _ _ => trivial) ?_
  refine z_val (v := .int .i64 x16.2) (val_extract rfl rfl rfl) rfl rfl rfl (fun _ _ _ => trivial) ?_
  refine z_val (v := .slice A_25 x16.1.length c_26) (val_assign rfl rfl) rfl rfl rfl (fun _ _ _ => trivial) ?_
  refine z_val (v := .int .i64 x16.2) (val_assign rfl rfl) rfl rfl rfl (fun _ _ _ => trivial) ?_
  refine z_nil ?_
  refine t_seq ?_
  refine t_region (fun ops hops => ?_)
  refine z_val (v := .slice A_10 x9.1.length c_11) (val_move rfl rfl) rfl rfl rfl (fun _ _ _ => trivial) ?_
  obtain ⟨x20, hx20, H⟩ := Let_elim H
  refine z_val (v := .string x20) (by subst hx20; exact val_convS rfl rfl Try.underlying22 Try.underlying5 Try.underlying9 (fun w hw => (row_w hw (j := 4) rfl))) rfl rfl rfl (fun _ _ _ => trivial) ?_
  clear hx20
  obtain ⟨x21, hx21, H⟩ := Let_elim H
  refine z_val (v := .bool x21) (by subst hx21; exact val_bin rfl rfl rfl rfl (str_eql _ _ _)) rfl rfl rfl (fun _ _ _ => trivial) ?_
  clear hx21
  refine z_val (v := .bool x21) (val_move rfl rfl) rfl rfl rfl (fun _ _ _ => trivial) ?_
  refine z_bind H 3 (fun (s : Bool) (_ : Unit) => [(3, .slice A_25 x16.1.length c_26), (4, .int .i64 x16.2), (25, .bool s)]) (fun _ _ => Mm w [] h [.row (.slice A_25 x16.1.length c_26) 5 1 (x16.1.map U8), .row (.slice (some ⟨g_21, 0, none⟩) x15.length 1) 5 1 (x15.map U8), .row (.slice (some ⟨g_18, 0, none⟩) x14.length (64)) 5 1 (x14.map U8), .row (.slice (some ⟨g_14, 0, none⟩) x13.length 1) 5 1 (x13.map U8), .row (.slice A_10 x9.1.length c_11) 5 1 (x9.1.map U8), .row (.slice (some ⟨g_7, 0, none⟩) x8.length 1) 5 1 (x8.map U8), .row (.slice (some ⟨g_4, 0, none⟩) x7.length 1) 5 1 (x7.map U8), .row (.slice (some ⟨g_1, 0, none⟩) x6.length 1) 5 1 (x6.map U8)]) (fun _ _ => True) (fun Gr K s he HJ => ?_) (fun s g HB _ => ?_)
  ·
    clear H
    cases x21
    ·
      have H := cond_f he
      clear he
      refine z_skip rfl rfl (by rw [hops]; rfl) (fun _ _ _ => trivial) ?_
      refine z_skip rfl rfl (by rw [hops]; rfl) (fun _ _ _ => trivial) ?_
      refine z_val (v := .bool false) (val_pick rfl rfl rfl) rfl rfl rfl (fun _ _ _ => trivial) ?_
      obtain rfl := Option.some.inj H
      exact z_nil ((K _ () HJ trivial).weak (fun a ha => ha.cons rfl (ha.cons rfl (ha.cons rfl (ha.nil)))) (fun w hw => hw))
    ·
      have H := cond_t he
      clear he
      refine z_val (v := .int .i64 x9.2) (val_move rfl rfl) rfl rfl (by rw [hops]; rfl) (fun _ _ _ => trivial) ?_
      obtain ⟨x24, hx24, H⟩ := Let_elim H
      refine z_val (v := .bool x24) (by subst hx24; exact val_bin rfl rfl rfl rfl (i64_eql _ _ _)) rfl rfl (by rw [hops]; rfl) (fun _ _ _ => trivial) ?_
      clear hx24
      refine z_val (v := .bool x24) (val_pick rfl rfl rfl) rfl rfl rfl (fun _ _ _ => trivial) ?_
      obtain rfl := Option.some.inj H
      exact z_nil ((K _ () HJ trivial).weak (fun a ha => ha.cons rfl (ha.cons rfl (ha.cons rfl (ha.nil)))) (fun w hw => hw))
  ·
    replace H := HB
    clear HB
    obtain ⟨x25, rfl⟩ : ∃ x, x = s := ⟨_, rfl⟩
    change T 39 _ _ _
    refine z_val (v := .bool x25) (val_move rfl rfl) rfl rfl rfl (fun _ _ _ => trivial) ?_
    refine z_bind H 4 (fun (s : Bool) (_ : Unit) => [(4, .int .i64 x16.2), (30, .bool s)]) (fun _ _ => Mm w [] h [.row (.slice A_25 x16.1.length c_26) 5 1 (x16.1.map U8), .row (.slice (some ⟨g_21, 0, none⟩) x15.length 1) 5 1 (x15.map U8), .row (.slice (some ⟨g_18, 0, none⟩) x14.length (64)) 5 1 (x14.map U8), .row (.slice (some ⟨g_14, 0, none⟩) x13.length 1) 5 1 (x13.map U8), .row (.slice A_10 x9.1.length c_11) 5 1 (x9.1.map U8), .row (.slice (some ⟨g_7, 0, none⟩) x8.length 1) 5 1 (x8.map U8), .row (.slice (some ⟨g_4, 0, none⟩) x7.length 1) 5 1 (x7.map U8), .row (.slice (some ⟨g_1, 0, none⟩) x6.length 1) 5 1 (x6.map U8)]) (fun _ _ => True) (fun Gr K s he HJ => ?_) (fun s g HB _ => ?_)
    ·
      clear H
      cases x25
      ·
        have H := cond_f he
        clear he
        refine z_skip rfl rfl (by rw [hops]; rfl) (fun _ _ _ => trivial) ?_
        refine z_skip rfl rfl (by rw [hops]; rfl) (fun _ _ _ => trivial) ?_
        refine z_skip rfl rfl (by rw [hops]; rfl) (fun _ _ _ => trivial) ?_
        refine z_val (v := .bool false) (val_pick rfl rfl rfl) rfl rfl rfl (fun _ _ _ => trivial) ?_
        obtain rfl := Option.some.inj H
        exact z_nil ((K _ () HJ trivial).weak (fun a ha => ha.cons rfl (ha.cons rfl (ha.nil))) (fun w hw => hw))
      ·
        have H := cond_t he
        clear he
        refine z_val (v := .slice A_25 x16.1.length c_26) (val_move rfl rfl) rfl rfl (by rw [hops]; rfl) (fun _ _ _ => trivial) ?_
        obtain ⟨x28, hx28, H⟩ := Let_elim H
        refine z_val (v := .string x28) (by subst hx28; exact val_convS rfl rfl Try.underlying22 Try.underlying5 Try.underlying9 (fun w hw => (row_w hw (j := 0) rfl))) rfl rfl (by rw [hops]; rfl) (fun _ _ _ => trivial) ?_
        clear hx28
        obtain ⟨x29, hx29, H⟩ := Let_elim H
        refine z_val (v := .bool x29) (by subst hx29; exact val_bin rfl rfl rfl rfl (str_eql _ _ _)) rfl rfl (by rw [hops]; rfl) (fun _ _ _ => trivial) ?_
        clear hx29
        refine z_val (v := .bool x29) (val_pick rfl rfl rfl) rfl rfl rfl (fun _ _ _ => trivial) ?_
        obtain rfl := Option.some.inj H
        exact z_nil ((K _ () HJ trivial).weak (fun a ha => ha.cons rfl (ha.cons rfl (ha.nil))) (fun w hw => hw))
    ·
      replace H := HB
      clear HB
      obtain ⟨x30, rfl⟩ : ∃ x, x = s := ⟨_, rfl⟩
      change T 39 _ _ _
      refine z_val (v := .bool x30) (val_move rfl rfl) rfl rfl rfl (fun _ _ _ => trivial) ?_
      refine z_bind H 3 (fun (s : Bool) (_ : Unit) => [(34, .bool s)]) (fun _ _ => Mm w [] h [.row (.slice A_25 x16.1.length c_26) 5 1 (x16.1.map U8), .row (.slice (some ⟨g_21, 0, none⟩) x15.length 1) 5 1 (x15.map U8), .row (.slice (some ⟨g_18, 0, none⟩) x14.length (64)) 5 1 (x14.map U8), .row (.slice (some ⟨g_14, 0, none⟩) x13.length 1) 5 1 (x13.map U8), .row (.slice A_10 x9.1.length c_11) 5 1 (x9.1.map U8), .row (.slice (some ⟨g_7, 0, none⟩) x8.length 1) 5 1 (x8.map U8), .row (.slice (some ⟨g_4, 0, none⟩) x7.length 1) 5 1 (x7.map U8), .row (.slice (some ⟨g_1, 0, none⟩) x6.length 1) 5 1 (x6.map U8)]) (fun _ _ => True) (fun Gr K s he HJ => ?_) (fun s g HB _ => ?_)
      ·
        clear H
        cases x30
        ·
          have H := cond_f he
          clear he
          refine z_skip rfl rfl (by rw [hops]; rfl) (fun _ _ _ => trivial) ?_
          refine z_skip rfl rfl (by rw [hops]; rfl) (fun _ _ _ => trivial) ?_
          refine z_val (v := .bool false) (val_pick rfl rfl rfl) rfl rfl rfl (fun _ _ _ => trivial) ?_
          obtain rfl := Option.some.inj H
          exact z_nil ((K _ () HJ trivial).weak (fun a ha => ha.cons rfl (ha.nil)) (fun w hw => hw))
        ·
          have H := cond_t he
          clear he
          refine z_val (v := .int .i64 x16.2) (val_move rfl rfl) rfl rfl (by rw [hops]; rfl) (fun _ _ _ => trivial) ?_
          obtain ⟨x33, hx33, H⟩ := Let_elim H
          refine z_val (v := .bool x33) (by subst hx33; exact val_bin rfl rfl rfl rfl (i64_eql _ _ _)) rfl rfl (by rw [hops]; rfl) (fun _ _ _ => trivial) ?_
          clear hx33
          refine z_val (v := .bool x33) (val_pick rfl rfl rfl) rfl rfl rfl (fun _ _ _ => trivial) ?_
          obtain rfl := Option.some.inj H
          exact z_nil ((K _ () HJ trivial).weak (fun a ha => ha.cons rfl (ha.nil)) (fun w hw => hw))
      ·
        replace H := HB
        clear HB
        obtain ⟨x34, rfl⟩ : ∃ x, x = s := ⟨_, rfl⟩
        change T 39 _ _ _
        refine z_val (v := .bool x34) (val_move rfl rfl) rfl rfl rfl (fun _ _ _ => trivial) ?_
        refine z_bind H 3 (fun (s : Bool) (_ : Unit) => [(38, .bool s)]) (fun _ _ => Mm w [] h [.row (.slice A_25 x16.1.length c_26) 5 1 (x16.1.map U8), .row (.slice (some ⟨g_21, 0, none⟩) x15.length 1) 5 1 (x15.map U8), .row (.slice (some ⟨g_18, 0, none⟩) x14.length (64)) 5 1 (x14.map U8), .row (.slice (some ⟨g_14, 0, none⟩) x13.length 1) 5 1 (x13.map U8), .row (.slice A_10 x9.1.length c_11) 5 1 (x9.1.map U8), .row (.slice (some ⟨g_7, 0, none⟩) x8.length 1) 5 1 (x8.map U8), .row (.slice (some ⟨g_4, 0, none⟩) x7.length 1) 5 1 (x7.map U8), .row (.slice (some ⟨g_1, 0, none⟩) x6.length 1) 5 1 (x6.map U8)]) (fun _ _ => True) (fun Gr K s he HJ => ?_) (fun s g HB _ => ?_)
        ·
          clear H
          cases x34
          ·
            have H := cond_f he
            clear he
            refine z_skip rfl rfl (by rw [hops]; rfl) (fun _ _ _ => trivial) ?_
            refine z_skip rfl rfl (by rw [hops]; rfl) (fun _ _ _ => trivial) ?_
            refine z_val (v := .bool false) (val_pick rfl rfl rfl) rfl rfl rfl (fun _ _ _ => trivial) ?_
            obtain rfl := Option.some.inj H
            exact z_nil ((K _ () HJ trivial).weak (fun a ha => ha.cons rfl (ha.nil)) (fun w hw => hw))
          ·
            have H := cond_t he
            clear he
            obtain ⟨x36, hx_29, H⟩ := Option.bind_eq_some_iff.1 H
            refine z_made (v := U64 x36) rfl Try.func17 nm17 bs17 rfl (fun w hw => modexp_Gas.calls [] none 0 x36 hx_29 w (fun h => absurd h (by simp)) (Nat.le_refl _)) rfl rfl (by rw [hops]; rfl) (fun _ _ _ => trivial) ?_
            clear hx_29
            obtain ⟨x37, hx37, H⟩ := Let_elim H
            refine z_val (v := .bool x37) (by subst hx37; exact val_bin rfl rfl rfl rfl (u64_eql_r _ 200 x36)) rfl rfl (by rw [hops]; rfl) (fun _ _ _ => trivial) ?_
            clear hx37
            refine z_val (v := .bool x37) (val_pick rfl rfl rfl) rfl rfl rfl (fun _ _ _ => trivial) ?_
            obtain rfl := Option.some.inj H
            exact z_nil ((K _ () HJ trivial).weak (fun a ha => ha.cons rfl (ha.nil)) (fun w hw => hw))
        ·
          replace H := HB
          clear HB
          obtain ⟨x38, rfl⟩ : ∃ x, x = s := ⟨_, rfl⟩
          change T 39 _ _ _
          refine z_val (v := .bool x38) (val_assign rfl rfl) rfl rfl rfl (fun _ _ _ => trivial) ?_
          refine z_nil ?_
          refine t_ret ?_
          obtain rfl := Option.some.inj H
          exact ret1 rfl (res_tmp rfl) (fun _ hw => ⟨rfl, hw.below⟩)
def smithylaw09_long.b1 (x6 : Int) (a0 : List (List (BitVec 8))) (x7 : Int) : Option (Ctl ((Int)) (Bool)) :=
  Let (decide (x7 < x6)) fun x8 => (bif x8 then Chk ((0 : Int) ≤ x7 ∧ x7 < (a0.length : Int)) <| Let (lget a0 x7.toNat) fun x9 => Let ((x9.length : Int)) fun x12 => Let (decide (64 < x12)) fun x13 => (bif x13 then some (.ret true) else Let (wi (x7 + 1)) fun x14 => some (.next x14)) else some (.brk x7))
def smithylaw09_long (a0 : List (List (BitVec 8))) : Option (Bool) :=
  Let ((a0.length : Int)) fun x6 => (wlx (σ := (Int)) (fun s => smithylaw09_long.b1 x6 a0 s) 0).bind (Sum.elim (fun x7 => some false) (fun r => some r))
set_option maxRecDepth 100000 in
theorem smithylaw09_long.calls  (a0 : List (List (BitVec 8))) (A0 : Option Addr) (c0 : Nat) (r : Bool) (H : smithylaw09_long a0 = some r) (w : World) (hs0 : SlRW w (slR U8) A0 a0) (hc0 : a0.length ≤ c0)  :
    Made Try.prog 9 #[.slice A0 a0.length c0] w (.bool r) := by
  unfold smithylaw09_long at H
  replace hs0 := hs0.toH
  have hM := Mm.start w (snap w) (snap_ok w)
  generalize snap w = h at *
  refine t_enter (vs := [.slice A0 a0.length c0]) (n := 15) Try.func9 rfl rfl rfl hM ?_
  clear hM
  change T 15 _ _ _
  refine t_seq ?_
  refine t_region (fun ops hops => ?_)
  clear hops
  refine z_val (v := .bool false) (val_assign rfl rfl) rfl rfl rfl (fun _ _ _ => trivial) ?_
  refine z_nil ?_
  refine t_seq ?_
  refine t_seq ?_
  refine t_region (fun ops hops => ?_)
  clear hops
  refine z_val (v := .slice A0 a0.length c0) (val_move rfl rfl) rfl rfl rfl (fun _ _ _ => trivial) ?_
  obtain ⟨x6, hx6, H⟩ := Let_elim H
  refine z_val (v := .int .i64 x6) (by subst hx6; exact val_len rfl rfl rfl Try.underlying51) rfl rfl rfl (fun _ _ _ => trivial) ?_
  clear hx6
  refine z_val (v := .int .i64 0) (val_move rfl rfl) rfl rfl rfl (fun _ _ _ => trivial) ?_
  refine z_nil ?_
  refine t_block ?_
  obtain ⟨z1, hz1, HK1⟩ := Option.bind_eq_some_iff.1 H
  clear H
  refine t_while hz1 (fun (s : (Int)) (g : Unit) => [(5, .slice A0 a0.length c0), (6, .int .i64 x6), (7, .int .i64 s)]) (fun (s : (Int)) (g : Unit) => []) (fun (s : (Int)) (g : Unit) => Mm w [] h []) (fun (s : (Int)) (g : Unit) => Mm w [] h []) (fun (s : (Int)) (g : Unit) => True) (fun (s : (Int)) (g : Unit) => True) () trivial (fun a w ha hw => ⟨ha.cons rfl (ha.cons rfl (ha.cons rfl (ha.nil))), hw⟩) (fun Gn Gb s g e hφ H hn1 hb1 hr1 => ?_) (fun s g hzz hφ => ?_)
  ·
    obtain ⟨x7, rfl⟩ : ∃ x, x = s := ⟨_, rfl⟩
    change smithylaw09_long.b1 x6 a0 x7 = some e at H
    unfold smithylaw09_long.b1 at H
    clear hz1
    change T 15 _ _ _
    refine t_seq ?_
    refine t_region (fun ops hops => ?_)
    clear hops
    obtain ⟨x8, hx8, H⟩ := Let_elim H
    refine z_val (v := .bool x8) (by subst hx8; exact val_bin rfl rfl rfl rfl (i64_lss _ _ _)) rfl rfl rfl (fun _ _ _ => trivial) ?_
    clear hx8
    refine z_nil ?_
    refine t_seq ?_
    cases x8
    ·
      replace H := cond_f H
      refine t_cond_false rfl ?_
      refine t_exit rfl ?_
      obtain rfl := Option.some.inj H
      exact t_reach ((hb1 _ () rfl trivial).weak (fun a ha => ha.nil) (fun w hw => hw))
    ·
      replace H := cond_t H
      refine t_cond_true rfl ?_
      refine t_skip ?_
      refine t_seq ?_
      refine t_block ?_
      refine t_seq ?_
      refine t_region (fun ops hops => ?_)
      clear hops
      obtain ⟨hq_1, H⟩ := Chk_elim H
      obtain ⟨x9, hx9, H⟩ := Let_elim H
      obtain ⟨b_7, o_8, hA_9, cs, hr, hc_6⟩ := hs0.at_ (idx_lt hq_1)
      rw [← hx9] at hr
      clear hx9
      obtain ⟨A_2, c_3, rfl, hs_4, hc_5⟩ := hr
      refine z_val (v := .pointer (some ⟨b_7, o_8 + x7.toNat * 1, none⟩)) (val_idxR rfl rfl rfl Try.underlying51 sz22 hq_1 hA_9 rfl) rfl rfl rfl (fun _ _ _ => trivial) ?_
      refine z_val (v := .slice A_2 x9.length c_3) (val_load1 rfl rfl Try.underlying22 rfl (fun _ hw => cell_of hc_6 (k := 0) rfl hw)) rfl rfl rfl (fun _ _ _ => trivial) ?_
      refine z_val (v := .slice A_2 x9.length c_3) (val_assign rfl rfl) rfl rfl rfl (fun _ _ _ => trivial) ?_
      refine z_nil ?_
      refine t_seq ?_
      refine t_region (fun ops hops => ?_)
      clear hops
      refine z_val (v := .slice A_2 x9.length c_3) (val_move rfl rfl) rfl rfl rfl (fun _ _ _ => trivial) ?_
      obtain ⟨x12, hx12, H⟩ := Let_elim H
      refine z_val (v := .int .i64 x12) (by subst hx12; exact val_len rfl rfl rfl Try.underlying22) rfl rfl rfl (fun _ _ _ => trivial) ?_
      clear hx12
      obtain ⟨x13, hx13, H⟩ := Let_elim H
      refine z_val (v := .bool x13) (by subst hx13; exact val_bin rfl rfl rfl rfl (i64_gtr _ _ _)) rfl rfl rfl (fun _ _ _ => trivial) ?_
      clear hx13
      refine z_nil ?_
      cases x13
      ·
        replace H := cond_f H
        refine t_cond_false rfl ?_
        refine t_skip ?_
        refine t_fin ?_
        refine t_region (fun ops hops => ?_)
        clear hops
        obtain ⟨x14, hx14, H⟩ := Let_elim H
        refine z_val (v := .int .i64 x14) (by subst hx14; exact val_bin rfl rfl rfl rfl (i64_add _ _ _)) rfl rfl rfl (fun _ _ _ => trivial) ?_
        clear hx14
        refine z_val (v := .int .i64 x14) (val_move rfl rfl) rfl rfl rfl (fun _ _ _ => trivial) ?_
        refine z_nil ?_
        obtain rfl := Option.some.inj H
        exact t_reach ((hn1 _ () rfl trivial).weak (fun a ha => ha.cons rfl (ha.cons rfl (ha.cons rfl (ha.nil)))) (fun w hw => hw))
      ·
        replace H := cond_t H
        refine t_cond_true rfl ?_
        refine t_seq ?_
        refine t_region (fun ops hops => ?_)
        clear hops
        refine z_val (v := .bool true) (val_assign rfl rfl) rfl rfl rfl (fun _ _ _ => trivial) ?_
        refine z_nil ?_
        refine t_ret ?_
        obtain rfl := Option.some.inj H
        have hz := hr1 _ rfl
        subst hz
        obtain rfl := Option.some.inj HK1
        exact ret1 rfl (res_tmp rfl) (fun _ hw => ⟨rfl, hw.below⟩)
  ·
    obtain ⟨x7, rfl⟩ : ∃ x, x = s := ⟨_, rfl⟩
    subst hzz
    have H := HK1
    clear HK1 hz1
    replace H := sum_l H
    try dsimp only at H
    change T 15 _ _ _
    refine t_seq ?_
    refine t_region (fun ops hops => ?_)
    clear hops
    refine z_val (v := .bool false) (val_assign rfl rfl) rfl rfl rfl (fun _ _ _ => trivial) ?_
    refine z_nil ?_
    refine t_ret ?_
    obtain rfl := Option.some.inj H
    exact ret1 rfl (res_tmp rfl) (fun _ hw => ⟨rfl, hw.below⟩)
end Go.Proofs.Ytccilbklafhjiaa
