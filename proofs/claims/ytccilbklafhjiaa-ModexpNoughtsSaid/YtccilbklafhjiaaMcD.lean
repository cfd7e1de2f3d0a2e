/- Functions of the program as plain functions, and their walks, printed by walk.py. -/
import Derived.Test.YtccilbklafhjiaaMcF
import Derived.Test.YtccilbklafhjiaaMcB
import Derived.Test.YtccilbklafhjiaaMcC
namespace Go.Proofs.Ytccilbklafhjiaa
open Go.RowKit
set_option linter.unusedVariables false
set_option linter.unusedSimpArgs false
def smithylaw09_fixed  : Option (Bool) :=
  Let ([3#8]) fun x6 => Let ([5#8]) fun x7 => Let ([7#8]) fun x8 => (modexp_Pow x6 x7 x8).bind fun x9 => Let ([2#8]) fun x13 => Chk ((0 : Int) ≤ 64 ∧ 64 * 1 ≤ 140737488355328) <| Let (List.replicate 64 0#8) fun x14 => Let ([5#8]) fun x15 => (modexp_Pow x13 x14 x15).bind fun x16 => Let (strOf x9.1) fun x20 => Let (x20.toList == (⟨#[5]⟩ : ByteArray).toList) fun x21 => (bif x21 then Let (x9.2 == 0) fun x24 => some x24 else some false).bind (fun x25 => (bif x25 then Let (strOf x16.1) fun x28 => Let (x28.toList == (⟨#[1]⟩ : ByteArray).toList) fun x29 => some x29 else some false).bind (fun x30 => (bif x30 then Let (x16.2 == 0) fun x33 => some x33 else some false).bind (fun x34 => (bif x34 then (modexp_Gas []).bind fun x36 => Let ((x36.toNat : Int) == 200) fun x37 => some x37 else some false).bind (fun x38 => some x38))))
set_option maxRecDepth 100000 in
theorem smithylaw09_fixed.calls   (r : Bool) (H : smithylaw09_fixed = some r) (w : World)   :
    Made Try.prog 10 #[] w (.bool r) := by
  unfold smithylaw09_fixed at H
  have hM := Mm.start w (snap w) (snap_ok w)
  generalize snap w = h at *
  refine t_enter (vs := []) (n := 39) Try.func10 rfl rfl rfl hM ?_
  clear hM
  change T 39 _ _ _
  refine t_seq ?_
  refine t_region (fun ops hops => ?_)
  clear hops
  refine z_val (v := .bool false) (val_assign rfl rfl) rfl rfl rfl (fun _ _ _ => trivial) ?_
  refine z_nil ?_
  refine t_seq ?_
  refine t_region (fun ops hops => ?_)
  clear hops
  obtain ⟨x6, hx6, H⟩ := Let_elim H
  have hlx6 : x6.length = 1 := by subst hx6; rfl
  refine z_buildSlice' (e := 5) (f := U8) (xs := x6) (vs := [(0, .int .u8 3)]) rfl rfl (by subst hx6; intro w; kernel_rfl) hlx6 (by decide) rfl rfl rfl (fun _ _ _ _ => trivial) (fun g_1 hs_3 => ?_)
  clear hx6 hlx6
  obtain ⟨x7, hx7, H⟩ := Let_elim H
  have hlx7 : x7.length = 1 := by subst hx7; rfl
  refine z_buildSlice' (e := 5) (f := U8) (xs := x7) (vs := [(0, .int .u8 5)]) rfl rfl (by subst hx7; intro w; kernel_rfl) hlx7 (by decide) rfl rfl rfl (fun _ _ _ _ => trivial) (fun g_4 hs_6 => ?_)
  clear hx7 hlx7
  obtain ⟨x8, hx8, H⟩ := Let_elim H
  have hlx8 : x8.length = 1 := by subst hx8; rfl
  refine z_buildSlice' (e := 5) (f := U8) (xs := x8) (vs := [(0, .int .u8 7)]) rfl rfl (by subst hx8; intro w; kernel_rfl) hlx8 (by decide) rfl rfl rfl (fun _ _ _ _ => trivial) (fun g_7 hs_9 => ?_)
  clear hx8 hlx8
  obtain ⟨x9, hx, H⟩ := Option.bind_eq_some_iff.1 H
  refine z_madeS (F := fun A_10 c_11 => .tuple #[.slice A_10 x9.1.length c_11, .int .i64 x9.2]) (xs := x9.1) rfl Try.func8 nm8 bs8 rfl (fun w hw => modexp_Pow.calls x6 x7 x8 ((some ⟨g_1, 0, none⟩)) 1 ((some ⟨g_4, 0, none⟩)) 1 ((some ⟨g_7, 0, none⟩)) 1 x9 hx w (row_w hw (j := 2) rfl) hs_3.le (row_w hw (j := 1) rfl) hs_6.le (row_w hw (j := 0) rfl) hs_9.le) rfl rfl rfl (fun _ _ _ _ _ => trivial) (fun A_10 c_11 hs_12 => ?_)
  clear hx
  refine z_val (v := .tuple #[.slice A_10 x9.1.length c_11, .int .i64 x9.2]) (val_move rfl rfl) rfl rfl rfl (fun _ _ _ => trivial) ?_
  refine z_val (v := .slice A_10 x9.1.length c_11) (val_extract rfl rfl rfl) rfl rfl rfl (fun _ _ _ => trivial) ?_
  refine z_val (v := .int .i64 x9.2) (val_extract rfl rfl rfl) rfl rfl rfl (fun _ _ _ => trivial) ?_
  refine z_val (v := .slice A_10 x9.1.length c_11) (val_assign rfl rfl) rfl rfl rfl (fun _ _ _ => trivial) ?_
  refine z_val (v := .int .i64 x9.2) (val_assign rfl rfl) rfl rfl rfl (fun _ _ _ => trivial) ?_
  refine z_nil ?_
  refine t_seq ?_
  refine t_region (fun ops hops => ?_)
  clear hops
  obtain ⟨x13, hx13, H⟩ := Let_elim H
  have hlx13 : x13.length = 1 := by subst hx13; rfl
  refine z_buildSlice' (e := 5) (f := U8) (xs := x13) (vs := [(0, .int .u8 2)]) rfl rfl (by subst hx13; intro w; kernel_rfl) hlx13 (by decide) rfl rfl rfl (fun _ _ _ _ => trivial) (fun g_14 hs_16 => ?_)
  clear hx13 hlx13
  obtain ⟨hq_17, H⟩ := Chk_elim H
  obtain ⟨x14, hx14, H⟩ := Let_elim H
  refine z_makeSlice (f := U8) (z0 := 0#8) (N := 64) rfl rfl rfl Try.underlying22 (in5.trans rfl) rfl hq_17.1 rfl hq_17.2 (by decide) hx14 rfl rfl rfl (fun _ _ _ _ => trivial) (fun g_18 hs_20 => ?_)
  clear hx14
  obtain ⟨x15, hx15, H⟩ := Let_elim H
  have hlx15 : x15.length = 1 := by subst hx15; rfl
  refine z_buildSlice' (e := 5) (f := U8) (xs := x15) (vs := [(0, .int .u8 5)]) rfl rfl (by subst hx15; intro w; kernel_rfl) hlx15 (by decide) rfl rfl rfl (fun _ _ _ _ => trivial) (fun g_21 hs_23 => ?_)
  clear hx15 hlx15
  obtain ⟨x16, hx_24, H⟩ := Option.bind_eq_some_iff.1 H
  refine z_madeS (F := fun A_25 c_26 => .tuple #[.slice A_25 x16.1.length c_26, .int .i64 x16.2]) (xs := x16.1) rfl Try.func8 nm8 bs8 rfl (fun w hw => modexp_Pow.calls x13 x14 x15 ((some ⟨g_14, 0, none⟩)) 1 ((some ⟨g_18, 0, none⟩)) (64) ((some ⟨g_21, 0, none⟩)) 1 x16 hx_24 w (row_w hw (j := 2) rfl) hs_16.le (row_w hw (j := 1) rfl) hs_20.le (row_w hw (j := 0) rfl) hs_23.le) rfl rfl rfl (fun _ _ _ _ _ => trivial) (fun A_25 c_26 hs_27 => ?_)
  clear hx_24
  refine z_val (v := .tuple #[.slice A_25 x16.1.length c_26, .int .i64 x16.2]) (val_move rfl rfl) rfl rfl rfl (fun _ _ _ => trivial) ?_
  refine z_val (v := .slice A_25 x16.1.length c_26) (val_extract rfl rfl rfl) rfl rfl rfl (fun _ _ _ => trivial) ?_
  refine z_val (v := .int .i64 x16.2) (val_extract rfl rfl rfl) rfl rfl rfl (fun _ _ _ => trivial) ?_
  refine z_val (v := .slice A_25 x16.1.length c_26) (val_assign rfl rfl) rfl rfl rfl (fun _ _ _ => trivial) ?_
  refine z_val (v := .int .i64 x16.2) (val_assign rfl rfl) rfl rfl rfl (fun _ _ _ => trivial) ?_
  refine z_nil ?_
  refine t_seq ?_
  refine t_region (fun ops hops => ?_)
  refine z_val (v := .slice A_10 x9.1.length c_11) (val_move rfl rfl) rfl rfl rfl (fun _ _ _ => trivial) ?_
  obtain ⟨x20, hx20, H⟩ := Let_elim H
  refine z_val (v := .string x20) (by subst hx20; exact val_convS rfl rfl Try.underlying22 Try.underlying5 Try.underlying9 (fun w hw => (row_w hw (j := 4) rfl))) rfl rfl rfl (fun _ _ _ => trivial) ?_
  clear hx20
  obtain ⟨x21, hx21, H⟩ := Let_elim H
  refine z_val (v := .bool x21) (by subst hx21; exact val_bin rfl rfl rfl rfl (str_eql _ _ _)) rfl rfl rfl (fun _ _ _ => trivial) ?_
  clear hx21
  refine z_val (v := .bool x21) (val_move rfl rfl) rfl rfl rfl (fun _ _ _ => trivial) ?_
  refine z_bind H 3 (fun (s : Bool) (_ : Unit) => [(3, .slice A_25 x16.1.length c_26), (4, .int .i64 x16.2), (25, .bool s)]) (fun _ _ => Mm w [] h [.row (.slice A_25 x16.1.length c_26) 5 1 (x16.1.map U8), .row (.slice (some ⟨g_21, 0, none⟩) x15.length 1) 5 1 (x15.map U8), .row (.slice (some ⟨g_18, 0, none⟩) x14.length (64)) 5 1 (x14.map U8), .row (.slice (some ⟨g_14, 0, none⟩) x13.length 1) 5 1 (x13.map U8), .row (.slice A_10 x9.1.length c_11) 5 1 (x9.1.map U8), .row (.slice (some ⟨g_7, 0, none⟩) x8.length 1) 5 1 (x8.map U8), .row (.slice (some ⟨g_4, 0, none⟩) x7.length 1) 5 1 (x7.map U8), .row (.slice (some ⟨g_1, 0, none⟩) x6.length 1) 5 1 (x6.map U8)]) (fun _ _ => True) (fun Gr K s he HJ => ?_) (fun s g HB _ => ?_)
  ·
    clear H
    cases x21
    ·
      have H := cond_f he
      clear he
      refine z_skip rfl rfl (by rw [hops]; rfl) (fun _ _ _ => trivial) ?_
      refine z_skip rfl rfl (by rw [hops]; rfl) (fun _ _ _ => trivial) ?_
      refine z_val (v := .bool false) (val_pick rfl rfl rfl) rfl rfl rfl (fun _ _ _ => trivial) ?_
      obtain rfl := Option.some.inj H
      exact z_nil ((K _ () HJ trivial).weak (fun a ha => ha.cons rfl (ha.cons rfl (ha.cons rfl (ha.nil)))) (fun w hw => hw))
    ·
      have H := cond_t he
      clear he
      refine z_val (v := .int .i64 x9.2) (val_move rfl rfl) rfl rfl (by rw [hops]; rfl) (fun _ _ _ => trivial) ?_
      obtain ⟨x24, hx24, H⟩ := Let_elim H
      refine z_val (v := .bool x24) (by subst hx24; exact val_bin rfl rfl rfl rfl (i64_eql _ _ _)) rfl rfl (by rw [hops]; rfl) (fun _ _ _ => trivial) ?_
      clear hx24
      refine z_val (v := .bool x24) (val_pick rfl rfl rfl) rfl rfl rfl (fun _ _ _ => trivial) ?_
      obtain rfl := Option.some.inj H
      exact z_nil ((K _ () HJ trivial).weak (fun a ha => ha.cons rfl (ha.cons rfl (ha.cons rfl (ha.nil)))) (fun w hw => hw))
  ·
    replace H := HB
    clear HB
    obtain ⟨x25, rfl⟩ : ∃ x, x = s := ⟨_, rfl⟩
    change T 39 _ _ _
    refine z_val (v := .bool x25) (val_move rfl rfl) rfl rfl rfl (fun _ _ _ => trivial) ?_
    refine z_bind H 4 (fun (s : Bool) (_ : Unit) => [(4, .int .i64 x16.2), (30, .bool s)]) (fun _ _ => Mm w [] h [.row (.slice A_25 x16.1.length c_26) 5 1 (x16.1.map U8), .row (.slice (some ⟨g_21, 0, none⟩) x15.length 1) 5 1 (x15.map U8), .row (.slice (some ⟨g_18, 0, none⟩) x14.length (64)) 5 1 (x14.map U8), .row (.slice (some ⟨g_14, 0, none⟩) x13.length 1) 5 1 (x13.map U8), .row (.slice A_10 x9.1.length c_11) 5 1 (x9.1.map U8), .row (.slice (some ⟨g_7, 0, none⟩) x8.length 1) 5 1 (x8.map U8), .row (.slice (some ⟨g_4, 0, none⟩) x7.length 1) 5 1 (x7.map U8), .row (.slice (some ⟨g_1, 0, none⟩) x6.length 1) 5 1 (x6.map U8)]) (fun _ _ => True) (fun Gr K s he HJ => ?_) (fun s g HB _ => ?_)
    ·
      clear H
      cases x25
      ·
        have H := cond_f he
        clear he
        refine z_skip rfl rfl (by rw [hops]; rfl) (fun _ _ _ => trivial) ?_
        refine z_skip rfl rfl (by rw [hops]; rfl) (fun _ _ _ => trivial) ?_
        refine z_skip rfl rfl (by rw [hops]; rfl) (fun _ _ _ => trivial) ?_
        refine z_val (v := .bool false) (val_pick rfl rfl rfl) rfl rfl rfl (fun _ _ _ => trivial) ?_
        obtain rfl := Option.some.inj H
        exact z_nil ((K _ () HJ trivial).weak (fun a ha => ha.cons rfl (ha.cons rfl (ha.nil))) (fun w hw => hw))
      ·
        have H := cond_t he
        clear he
        refine z_val (v := .slice A_25 x16.1.length c_26) (val_move rfl rfl) rfl rfl (by rw [hops]; rfl) (fun _ _ _ => trivial) ?_
        obtain ⟨x28, hx28, H⟩ := Let_elim H
        refine z_val (v := .string x28) (by subst hx28; exact val_convS rfl rfl Try.underlying22 Try.underlying5 Try.underlying9 (fun w hw => (row_w hw (j := 0) rfl))) rfl rfl (by rw [hops]; rfl) (fun _ _ _ => trivial) ?_
        clear hx28
        obtain ⟨x29, hx29, H⟩ := Let_elim H
        refine z_val (v := .bool x29) (by subst hx29; exact val_bin rfl rfl rfl rfl (str_eql _ _ _)) rfl rfl (by rw [hops]; rfl) (fun _ _ _ => trivial) ?_
        clear hx29
        refine z_val (v := .bool x29) (val_pick rfl rfl rfl) rfl rfl rfl (fun _ _ _ => trivial) ?_
        obtain rfl := Option.some.inj H
        exact z_nil ((K _ () HJ trivial).weak (fun a ha => ha.cons rfl (ha.cons rfl (ha.nil))) (fun w hw => hw))
    ·
      replace H := HB
      clear HB
      obtain ⟨x30, rfl⟩ : ∃ x, x = s := ⟨_, rfl⟩
      change T 39 _ _ _
      refine z_val (v := .bool x30) (val_move rfl rfl) rfl rfl rfl (fun _ _ _ => trivial) ?_
      refine z_bind H 3 (fun (s : Bool) (_ : Unit) => [(34, .bool s)]) (fun _ _ => Mm w [] h [.row (.slice A_25 x16.1.length c_26) 5 1 (x16.1.map U8), .row (.slice (some ⟨g_21, 0, none⟩) x15.length 1) 5 1 (x15.map U8), .row (.slice (some ⟨g_18, 0, none⟩) x14.length (64)) 5 1 (x14.map U8), .row (.slice (some ⟨g_14, 0, none⟩) x13.length 1) 5 1 (x13.map U8), .row (.slice A_10 x9.1.length c_11) 5 1 (x9.1.map U8), .row (.slice (some ⟨g_7, 0, none⟩) x8.length 1) 5 1 (x8.map U8), .row (.slice (some ⟨g_4, 0, none⟩) x7.length 1) 5 1 (x7.map U8), .row (.slice (some ⟨g_1, 0, none⟩) x6.length 1) 5 1 (x6.map U8)]) (fun _ _ => True) (fun Gr K s he HJ => ?_) (fun s g HB _ => ?_)
      ·
        clear H
        cases x30
        ·
          have H := cond_f he
          clear he
          refine z_skip rfl rfl (by rw [hops]; rfl) (fun _ _ _ => trivial) ?_
          refine z_skip rfl rfl (by rw [hops]; rfl) (fun _ _ _ => trivial) ?_
          refine z_val (v := .bool false) (val_pick rfl rfl rfl) rfl rfl rfl (fun _ _ _ => trivial) ?_
          obtain rfl := Option.some.inj H
          exact z_nil ((K _ () HJ trivial).weak (fun a ha => ha.cons rfl (ha.nil)) (fun w hw => hw))
        ·
          have H := cond_t he
          clear he
          refine z_val (v := .int .i64 x16.2) (val_move rfl rfl) rfl rfl (by rw [hops]; rfl) (fun _ _ _ => trivial) ?_
          obtain ⟨x33, hx33, H⟩ := Let_elim H
          refine z_val (v := .bool x33) (by subst hx33; exact val_bin rfl rfl rfl rfl (i64_eql _ _ _)) rfl rfl (by rw [hops]; rfl) (fun _ _ _ => trivial) ?_
          clear hx33
          refine z_val (v := .bool x33) (val_pick rfl rfl rfl) rfl rfl rfl (fun _ _ _ => trivial) ?_
          obtain rfl := Option.some.inj H
          exact z_nil ((K _ () HJ trivial).weak (fun a ha => ha.cons rfl (ha.nil)) (fun w hw => hw))
      ·
        replace H := HB
        clear HB
        obtain ⟨x34, rfl⟩ : ∃ x, x = s := ⟨_, rfl⟩
        change T 39 _ _ _
        refine z_val (v := .bool x34) (val_move rfl rfl) rfl rfl rfl (fun _ _ _ => trivial) ?_
        refine z_bind H 3 (fun (s : Bool) (_ : Unit) => [(38, .bool s)]) (fun _ _ => Mm w [] h [.row (.slice A_25 x16.1.length c_26) 5 1 (x16.1.map U8), .row (.slice (some ⟨g_21, 0, none⟩) x15.length 1) 5 1 (x15.map U8), .row (.slice (some ⟨g_18, 0, none⟩) x14.length (64)) 5 1 (x14.map U8), .row (.slice (some ⟨g_14, 0, none⟩) x13.length 1) 5 1 (x13.map U8), .row (.slice A_10 x9.1.length c_11) 5 1 (x9.1.map U8), .row (.slice (some ⟨g_7, 0, none⟩) x8.length 1) 5 1 (x8.map U8), .row (.slice (some ⟨g_4, 0, none⟩) x7.length 1) 5 1 (x7.map U8), .row (.slice (some ⟨g_1, 0, none⟩) x6.length 1) 5 1 (x6.map U8)]) (fun _ _ => True) (fun Gr K s he HJ => ?_) (fun s g HB _ => ?_)
        ·
          clear H
          cases x34
          ·
            have H := cond_f he
            clear he
            refine z_skip rfl rfl (by rw [hops]; rfl) (fun _ _ _ => trivial) ?_
            refine z_skip rfl rfl (by rw [hops]; rfl) (fun _ _ _ => trivial) ?_
            refine z_val (v := .bool false) (val_pick rfl rfl rfl) rfl rfl rfl (fun _ _ _ => trivial) ?_
            obtain rfl := Option.some.inj H
            exact z_nil ((K _ () HJ trivial).weak (fun a ha => ha.cons rfl (ha.nil)) (fun w hw => hw))
          ·
            have H := cond_t he
            clear he
            obtain ⟨x36, hx_29, H⟩ := Option.bind_eq_some_iff.1 H
            refine z_made (v := U64 x36) rfl Try.func17 nm17 bs17 rfl (fun w hw => modexp_Gas.calls [] none 0 x36 hx_29 w (fun h => absurd h (by simp)) (Nat.le_refl _)) rfl rfl (by rw [hops]; rfl) (fun _ _ _ => trivial) ?_
            clear hx_29
            obtain ⟨x37, hx37, H⟩ := Let_elim H
            refine z_val (v := .bool x37) (by subst hx37; exact val_bin rfl rfl rfl rfl (u64_eql_r _ 200 x36)) rfl rfl (by rw [hops]; rfl) (fun _ _ _ => trivial) ?_
            clear hx37
            refine z_val (v := .bool x37) (val_pick rfl rfl rfl) rfl rfl rfl (fun _ _ _ => trivial) ?_
            obtain rfl := Option.some.inj H
            exact z_nil ((K _ () HJ trivial).weak (fun a ha => ha.cons rfl (ha.nil)) (fun w hw => hw))
        ·
          replace H := HB
          clear HB
          obtain ⟨x38, rfl⟩ : ∃ x, x = s := ⟨_, rfl⟩
          change T 39 _ _ _
          refine z_val (v := .bool x38) (val_assign rfl rfl) rfl rfl rfl (fun _ _ _ => trivial) ?_
          refine z_nil ?_
          refine t_ret ?_
          obtain rfl := Option.some.inj H
          exact ret1 rfl (res_tmp rfl) (fun _ hw => ⟨rfl, hw.below⟩)
def smithylaw09_long.b1 (x6 : Int) (a0 : List (List (BitVec 8))) (x7 : Int) : Option (Ctl ((Int)) (Bool)) :=
  Let (decide (x7 < x6)) fun x8 => (bif x8 then Chk ((0 : Int) ≤ x7 ∧ x7 < (a0.length : Int)) <| Let (lget a0 x7.toNat) fun x9 => Let ((x9.length : Int)) fun x12 => Let (decide (64 < x12)) fun x13 => (bif x13 then some (.ret true) else Let (wi (x7 + 1)) fun x14 => some (.next x14)) else some (.brk x7))
def smithylaw09_long (a0 : List (List (BitVec 8))) : Option (Bool) :=
  Let ((a0.length : Int)) fun x6 => (wlx (σ := (Int)) (fun s => smithylaw09_long.b1 x6 a0 s) 0).bind (Sum.elim (fun x7 => some false) (fun r => some r))
set_option maxRecDepth 100000 in
theorem smithylaw09_long.calls  (a0 : List (List (BitVec 8))) (A0 : Option Addr) (c0 : Nat) (r : Bool) (H : smithylaw09_long a0 = some r) (w : World) (hs0 : SlRW w (slR U8) A0 a0) (hc0 : a0.length ≤ c0)  :
    Made Try.prog 9 #[.slice A0 a0.length c0] w (.bool r) := by
  unfold smithylaw09_long at H
  replace hs0 := hs0.toH
  have hM := Mm.start w (snap w) (snap_ok w)
  generalize snap w = h at *
  refine t_enter (vs := [.slice A0 a0.length c0]) (n := 15) Try.func9 rfl rfl rfl hM ?_
  clear hM
  change T 15 _ _ _
  refine t_seq ?_
  refine t_region (fun ops hops => ?_)
  clear hops
  refine z_val (v := .bool false) (val_assign rfl rfl) rfl rfl rfl (fun _ _ _ => trivial) ?_
  refine z_nil ?_
  refine t_seq ?_
  refine t_seq ?_
  refine t_region (fun ops hops => ?_)
  clear hops
  refine z_val (v := .slice A0 a0.length c0) (val_move rfl rfl) rfl rfl rfl (fun _ _ _ => trivial) ?_
  obtain ⟨x6, hx6, H⟩ := Let_elim H
  refine z_val (v := .int .i64 x6) (by subst hx6; exact val_len rfl rfl rfl Try.underlying51) rfl rfl rfl (fun _ _ _ => trivial) ?_
  clear hx6
  refine z_val (v := .int .i64 0) (val_move rfl rfl) rfl rfl rfl (fun _ _ _ => trivial) ?_
  refine z_nil ?_
  refine t_block ?_
  obtain ⟨z1, hz1, HK1⟩ := Option.bind_eq_some_iff.1 H
  clear H
  refine t_while hz1 (fun (s : (Int)) (g : Unit) => [(5, .slice A0 a0.length c0), (6, .int .i64 x6), (7, .int .i64 s)]) (fun (s : (Int)) (g : Unit) => []) (fun (s : (Int)) (g : Unit) => Mm w [] h []) (fun (s : (Int)) (g : Unit) => Mm w [] h []) (fun (s : (Int)) (g : Unit) => True) (fun (s : (Int)) (g : Unit) => True) () trivial (fun a w ha hw => ⟨ha.cons rfl (ha.cons rfl (ha.cons rfl (ha.nil))), hw⟩) (fun Gn Gb s g e hφ H hn1 hb1 hr1 => ?_) (fun s g hzz hφ => ?_)
  ·
    obtain ⟨x7, rfl⟩ : ∃ x, x = s := ⟨_, rfl⟩
    change smithylaw09_long.b1 x6 a0 x7 = some e at H
    unfold smithylaw09_long.b1 at H
    clear hz1
    change T 15 _ _ _
    refine t_seq ?_
    refine t_region (fun ops hops => ?_)
    clear hops
    obtain ⟨x8, hx8, H⟩ := Let_elim H
    refine z_val (v := .bool x8) (by subst hx8; exact val_bin rfl rfl rfl rfl (i64_lss _ _ _)) rfl rfl rfl (fun _ _ _ => trivial) ?_
    clear hx8
    refine z_nil ?_
    refine t_seq ?_
    cases x8
    ·
      replace H := cond_f H
      refine t_cond_false rfl ?_
      refine t_exit rfl ?_
      obtain rfl := Option.some.inj H
      exact t_reach ((hb1 _ () rfl trivial).weak (fun a ha => ha.nil) (fun w hw => hw))
    ·
      replace H := cond_t H
      refine t_cond_true rfl ?_
      refine t_skip ?_
      refine t_seq ?_
      refine t_block ?_
      refine t_seq ?_
      refine t_region (fun ops hops => ?_)
      clear hops
      obtain ⟨hq_1, H⟩ := Chk_elim H
      obtain ⟨x9, hx9, H⟩ := Let_elim H
      obtain ⟨b_7, o_8, hA_9, cs, hr, hc_6⟩ := hs0.at_ (idx_lt hq_1)
      rw [← hx9] at hr
      clear hx9
      obtain ⟨A_2, c_3, rfl, hs_4, hc_5⟩ := hr
      refine z_val (v := .pointer (some ⟨b_7, o_8 + x7.toNat * 1, none⟩)) (val_idxR rfl rfl rfl Try.underlying51 sz22 hq_1 hA_9 rfl) rfl rfl rfl (fun _ _ _ => trivial) ?_
      refine z_val (v := .slice A_2 x9.length c_3) (val_load1 rfl rfl Try.underlying22 rfl (fun _ hw => cell_of hc_6 (k := 0) rfl hw)) rfl rfl rfl (fun _ _ _ => trivial) ?_
      refine z_val (v := .slice A_2 x9.length c_3) (val_assign rfl rfl) rfl rfl rfl (fun _ _ _ => trivial) ?_
      refine z_nil ?_
      refine t_seq ?_
      refine t_region (fun ops hops => ?_)
      clear hops
      refine z_val (v := .slice A_2 x9.length c_3) (val_move rfl rfl) rfl rfl rfl (fun _ _ _ => trivial) ?_
      obtain ⟨x12, hx12, H⟩ := Let_elim H
      refine z_val (v := .int .i64 x12) (by subst hx12; exact val_len rfl rfl rfl Try.underlying22) rfl rfl rfl (fun _ _ _ => trivial) ?_
      clear hx12
      obtain ⟨x13, hx13, H⟩ := Let_elim H
      refine z_val (v := .bool x13) (by subst hx13; exact val_bin rfl rfl rfl rfl (i64_gtr _ _ _)) rfl rfl rfl (fun _ _ _ => trivial) ?_
      clear hx13
      refine z_nil ?_
      cases x13
      ·
        replace H := cond_f H
        refine t_cond_false rfl ?_
        refine t_skip ?_
        refine t_fin ?_
        refine t_region (fun ops hops => ?_)
        clear hops
        obtain ⟨x14, hx14, H⟩ := Let_elim H
        refine z_val (v := .int .i64 x14) (by subst hx14; exact val_bin rfl rfl rfl rfl (i64_add _ _ _)) rfl rfl rfl (fun _ _ _ => trivial) ?_
        clear hx14
        refine z_val (v := .int .i64 x14) (val_move rfl rfl) rfl rfl rfl (fun _ _ _ => trivial) ?_
        refine z_nil ?_
        obtain rfl := Option.some.inj H
        exact t_reach ((hn1 _ () rfl trivial).weak (fun a ha => ha.cons rfl (ha.cons rfl (ha.cons rfl (ha.nil)))) (fun w hw => hw))
      ·
        replace H := cond_t H
        refine t_cond_true rfl ?_
        refine t_seq ?_
        refine t_region (fun ops hops => ?_)
        clear hops
        refine z_val (v := .bool true) (val_assign rfl rfl) rfl rfl rfl (fun _ _ _ => trivial) ?_
        refine z_nil ?_
        refine t_ret ?_
        obtain rfl := Option.some.inj H
        have hz := hr1 _ rfl
        subst hz
        obtain rfl := Option.some.inj HK1
        exact ret1 rfl (res_tmp rfl) (fun _ hw => ⟨rfl, hw.below⟩)
  ·
    obtain ⟨x7, rfl⟩ : ∃ x, x = s := ⟨_, rfl⟩
    subst hzz
    have H := HK1
    clear HK1 hz1
    replace H := sum_l H
    try dsimp only at H
    change T 15 _ _ _
    refine t_seq ?_
    refine t_region (fun ops hops => ?_)
    clear hops
    refine z_val (v := .bool false) (val_assign rfl rfl) rfl rfl rfl (fun _ _ _ => trivial) ?_
    refine z_nil ?_
    refine t_ret ?_
    obtain rfl := Option.some.inj H
    exact ret1 rfl (res_tmp rfl) (fun _ hw => ⟨rfl, hw.below⟩)
def smithylaw09_ModexpPowers (a0 : List (BitVec 8)) (a1 : List (BitVec 8)) (a2 : List (BitVec 8)) : Option (Bool) :=
  (modexp_Pow a0 a1 a2).bind fun x13 => Let (([a0, a1, a2] : List (List (BitVec 8)))) fun x19 => (smithylaw09_long x19).bind fun x20 => (bif x20 then (smithylaw09_fixed).bind fun x21 => (bif x21 then Let ((x13.1.length : Int)) fun x24 => Let (x24 == 0) fun x25 => some x25 else some false).bind (fun x26 => (bif x26 then Let (x13.2 == 4) fun x29 => some x29 else some false).bind (fun x30 => some x30)) else Let ((a0.length : Int)) fun x32 => Let (decide (20 < x32)) fun x33 => (bif x33 then some true else Let ((a1.length : Int)) fun x36 => Let (decide (9 < x36)) fun x37 => some x37).bind (fun x38 => (bif x38 then some true else Let ((a2.length : Int)) fun x41 => Let (decide (9 < x41)) fun x42 => some x42).bind (fun x43 => (bif x43 then (smithylaw09_fixed).bind fun x44 => (bif x44 then Let (x13.2 == 0) fun x47 => some x47 else some false).bind (fun x48 => (bif x48 then Let ((x13.1.length : Int)) fun x51 => Let ((a2.length : Int)) fun x53 => Let (x51 == x53) fun x54 => some x54 else some false).bind (fun x55 => some x55)) else (smithylaw09_fixed).bind fun x56 => (bif x56 then Let (x13.2 == 0) fun x59 => some x59 else some false).bind (fun x60 => (bif x60 then Let (strOf x13.1) fun x63 => (smithyref09_Pow a0 a1 a2).bind fun x67 => Let (strOf x67) fun x68 => Let (x63.toList == x68.toList) fun x69 => some x69 else some false).bind (fun x70 => some x70))))))
set_option maxRecDepth 100000 in
theorem smithylaw09_ModexpPowers.calls  (a0 : List (BitVec 8)) (a1 : List (BitVec 8)) (a2 : List (BitVec 8)) (A0 : Option Addr) (c0 : Nat) (A1 : Option Addr) (c1 : Nat) (A2 : Option Addr) (c2 : Nat) (r : Bool) (H : smithylaw09_ModexpPowers a0 a1 a2 = some r) (w : World) (hs0 : SlW w U8 A0 a0) (hc0 : a0.length ≤ c0) (hs1 : SlW w U8 A1 a1) (hc1 : a1.length ≤ c1) (hs2 : SlW w U8 A2 a2) (hc2 : a2.length ≤ c2)  :
    Made Try.prog 3 #[.slice A0 a0.length c0, .slice A1 a1.length c1, .slice A2 a2.length c2] w (.bool r) := by
  unfold smithylaw09_ModexpPowers at H
  replace hs0 := hs0.toH
  replace hs1 := hs1.toH
  replace hs2 := hs2.toH
  have hM := Mm.start w (snap w) (snap_ok w)
  generalize snap w = h at *
  refine t_enter (vs := [.slice A0 a0.length c0, .slice A1 a1.length c1, .slice A2 a2.length c2]) (n := 71) Try.func3 rfl rfl rfl hM ?_
  clear hM
  change T 71 _ _ _
  refine t_seq ?_
  refine t_region (fun ops hops => ?_)
  clear hops
  refine z_val (v := .bool false) (val_assign rfl rfl) rfl rfl rfl (fun _ _ _ => trivial) ?_
  refine z_nil ?_
  refine t_seq ?_
  refine t_region (fun ops hops => ?_)
  clear hops
  refine z_val (v := .slice A0 a0.length c0) (val_move rfl rfl) rfl rfl rfl (fun _ _ _ => trivial) ?_
  refine z_val (v := .slice A1 a1.length c1) (val_move rfl rfl) rfl rfl rfl (fun _ _ _ => trivial) ?_
  refine z_val (v := .slice A2 a2.length c2) (val_move rfl rfl) rfl rfl rfl (fun _ _ _ => trivial) ?_
  obtain ⟨x13, hx, H⟩ := Option.bind_eq_some_iff.1 H
  refine z_madeS (F := fun A_1 c_2 => .tuple #[.slice A_1 x13.1.length c_2, .int .i64 x13.2]) (xs := x13.1) rfl Try.func8 nm8 bs8 rfl (fun w hw => modexp_Pow.calls a0 a1 a2 A0 c0 A1 c1 A2 c2 x13 hx w (hs0.toW hw) hc0 (hs1.toW hw) hc1 (hs2.toW hw) hc2) rfl rfl rfl (fun _ _ _ _ _ => trivial) (fun A_1 c_2 hs_3 => ?_)
  clear hx
  refine z_val (v := .tuple #[.slice A_1 x13.1.length c_2, .int .i64 x13.2]) (val_move rfl rfl) rfl rfl rfl (fun _ _ _ => trivial) ?_
  refine z_val (v := .slice A_1 x13.1.length c_2) (val_extract rfl rfl rfl) rfl rfl rfl (fun _ _ _ => trivial) ?_
  refine z_val (v := .int .i64 x13.2) (val_extract rfl rfl rfl) rfl rfl rfl (fun _ _ _ => trivial) ?_
  refine z_val (v := .slice A_1 x13.1.length c_2) (val_assign rfl rfl) rfl rfl rfl (fun _ _ _ => trivial) ?_
  refine z_val (v := .int .i64 x13.2) (val_assign rfl rfl) rfl rfl rfl (fun _ _ _ => trivial) ?_
  refine z_nil ?_
  refine t_seq ?_
  refine t_seq ?_
  refine t_region (fun ops hops => ?_)
  clear hops
  refine z_val (v := .slice A0 a0.length c0) (val_move rfl rfl) rfl rfl rfl (fun _ _ _ => trivial) ?_
  refine z_val (v := .slice A1 a1.length c1) (val_move rfl rfl) rfl rfl rfl (fun _ _ _ => trivial) ?_
  refine z_val (v := .slice A2 a2.length c2) (val_move rfl rfl) rfl rfl rfl (fun _ _ _ => trivial) ?_
  obtain ⟨x19, hx19, H⟩ := Let_elim H
  have hlx19 : x19.length = 3 := by subst hx19; rfl
  have hr : RpL h (slR U8) x19 (([(.slice A0 a0.length c0 : Value)]) ++ (([(.slice A1 a1.length c1 : Value)]) ++ (([(.slice A2 a2.length c2 : Value)]) ++ (([] : List Value))))) := by subst hx19; exact ⟨_, _, rfl, ⟨A0, c0, rfl, hs0, hc0⟩, ⟨_, _, rfl, ⟨A1, c1, rfl, hs1, hc1⟩, ⟨_, _, rfl, ⟨A2, c2, rfl, hs2, hc2⟩, rfl⟩⟩⟩
  refine z_buildR (e := 22) (cs := ([(.slice A0 a0.length c0 : Value)]) ++ (([(.slice A1 a1.length c1 : Value)]) ++ (([(.slice A2 a2.length c2 : Value)]) ++ (([] : List Value))))) (xs := x19) (vs := [(0, .slice A0 a0.length c0), (1, .slice A1 a1.length c1), (2, .slice A2 a2.length c2)]) rfl rfl (by intro w; kernel_rfl) hlx19 hr.len (by decide) rfl rfl rfl (fun _ _ _ _ => trivial) (fun g_5 hs_7 => ?_)
  generalize (([(.slice A0 a0.length c0 : Value)]) ++ (([(.slice A1 a1.length c1 : Value)]) ++ (([(.slice A2 a2.length c2 : Value)]) ++ (([] : List Value))))) = cs at *
  clear hx19 hlx19
  obtain ⟨x20, hx_8, H⟩ := Option.bind_eq_some_iff.1 H
  refine z_made (v := .bool x20) rfl Try.func9 nm9 bs9 rfl (fun w hw => smithylaw09_long.calls x19 ((some ⟨g_5, 0, none⟩)) 3 x20 hx_8 w (own_rw hw (j := 0) rfl hr hs_7) hs_7.le) rfl rfl rfl (fun _ _ _ => trivial) ?_
  clear hx_8
  refine z_nil ?_
  cases x20
  ·
    replace H := cond_f H
    refine t_cond_false rfl ?_
    refine t_skip ?_
    refine t_seq ?_
    refine t_seq ?_
    refine t_region (fun ops hops => ?_)
    refine z_val (v := .slice A0 a0.length c0) (val_move rfl rfl) rfl rfl rfl (fun _ _ _ => trivial) ?_
    obtain ⟨x32, hx32, H⟩ := Let_elim H
    refine z_val (v := .int .i64 x32) (by subst hx32; exact val_len rfl rfl rfl Try.underlying22) rfl rfl rfl (fun _ _ _ => trivial) ?_
    clear hx32
    obtain ⟨x33, hx33, H⟩ := Let_elim H
    refine z_val (v := .bool x33) (by subst hx33; exact val_bin rfl rfl rfl rfl (i64_gtr _ _ _)) rfl rfl rfl (fun _ _ _ => trivial) ?_
    clear hx33
    refine z_val (v := .bool x33) (val_move rfl rfl) rfl rfl rfl (fun _ _ _ => trivial) ?_
    refine z_bind H 4 (fun (s : Bool) (_ : Unit) => [(0, .slice A0 a0.length c0), (1, .slice A1 a1.length c1), (2, .slice A2 a2.length c2), (7, .slice A_1 x13.1.length c_2), (8, .int .i64 x13.2), (38, .bool s)]) (fun _ _ => Mm w [] h [.row (.slice (some ⟨g_5, 0, none⟩) x19.length 3) 22 1 cs, .row (.slice A_1 x13.1.length c_2) 5 1 (x13.1.map U8)]) (fun _ _ => True) (fun Gr K s he HJ => ?_) (fun s g HB _ => ?_)
    ·
      clear H
      cases x33
      ·
        have H := cond_f he
        clear he
        refine z_val (v := .slice A1 a1.length c1) (val_move rfl rfl) rfl rfl (by rw [hops]; rfl) (fun _ _ _ => trivial) ?_
        obtain ⟨x36, hx36, H⟩ := Let_elim H
        refine z_val (v := .int .i64 x36) (by subst hx36; exact val_len rfl rfl rfl Try.underlying22) rfl rfl (by rw [hops]; rfl) (fun _ _ _ => trivial) ?_
        clear hx36
        obtain ⟨x37, hx37, H⟩ := Let_elim H
        refine z_val (v := .bool x37) (by subst hx37; exact val_bin rfl rfl rfl rfl (i64_gtr _ _ _)) rfl rfl (by rw [hops]; rfl) (fun _ _ _ => trivial) ?_
        clear hx37
        refine z_val (v := .bool x37) (val_pick rfl rfl rfl) rfl rfl rfl (fun _ _ _ => trivial) ?_
        obtain rfl := Option.some.inj H
        exact z_nil ((K _ () HJ trivial).weak (fun a ha => ha.cons rfl (ha.cons rfl (ha.cons rfl (ha.cons rfl (ha.cons rfl (ha.cons rfl (ha.nil))))))) (fun w hw => hw))
      ·
        have H := cond_t he
        clear he
        refine z_skip rfl rfl (by rw [hops]; rfl) (fun _ _ _ => trivial) ?_
        refine z_skip rfl rfl (by rw [hops]; rfl) (fun _ _ _ => trivial) ?_
        refine z_skip rfl rfl (by rw [hops]; rfl) (fun _ _ _ => trivial) ?_
        refine z_val (v := .bool true) (val_pick rfl rfl rfl) rfl rfl rfl (fun _ _ _ => trivial) ?_
        obtain rfl := Option.some.inj H
        exact z_nil ((K _ () HJ trivial).weak (fun a ha => ha.cons rfl (ha.cons rfl (ha.cons rfl (ha.cons rfl (ha.cons rfl (ha.cons rfl (ha.nil))))))) (fun w hw => hw))
    ·
      replace H := HB
      clear HB
      obtain ⟨x38, rfl⟩ : ∃ x, x = s := ⟨_, rfl⟩
      change T 71 _ _ _
      refine z_val (v := .bool x38) (val_move rfl rfl) rfl rfl rfl (fun _ _ _ => trivial) ?_
      refine z_bind H 4 (fun (s : Bool) (_ : Unit) => [(0, .slice A0 a0.length c0), (1, .slice A1 a1.length c1), (2, .slice A2 a2.length c2), (7, .slice A_1 x13.1.length c_2), (8, .int .i64 x13.2), (43, .bool s)]) (fun _ _ => Mm w [] h [.row (.slice (some ⟨g_5, 0, none⟩) x19.length 3) 22 1 cs, .row (.slice A_1 x13.1.length c_2) 5 1 (x13.1.map U8)]) (fun _ _ => True) (fun Gr K s he HJ => ?_) (fun s g HB _ => ?_)
      ·
        clear H
        cases x38
        ·
          have H := cond_f he
          clear he
          refine z_val (v := .slice A2 a2.length c2) (val_move rfl rfl) rfl rfl (by rw [hops]; rfl) (fun _ _ _ => trivial) ?_
          obtain ⟨x41, hx41, H⟩ := Let_elim H
          refine z_val (v := .int .i64 x41) (by subst hx41; exact val_len rfl rfl rfl Try.underlying22) rfl rfl (by rw [hops]; rfl) (fun _ _ _ => trivial) ?_
          clear hx41
          obtain ⟨x42, hx42, H⟩ := Let_elim H
          refine z_val (v := .bool x42) (by subst hx42; exact val_bin rfl rfl rfl rfl (i64_gtr _ _ _)) rfl rfl (by rw [hops]; rfl) (fun _ _ _ => trivial) ?_
          clear hx42
          refine z_val (v := .bool x42) (val_pick rfl rfl rfl) rfl rfl rfl (fun _ _ _ => trivial) ?_
          obtain rfl := Option.some.inj H
          exact z_nil ((K _ () HJ trivial).weak (fun a ha => ha.cons rfl (ha.cons rfl (ha.cons rfl (ha.cons rfl (ha.cons rfl (ha.cons rfl (ha.nil))))))) (fun w hw => hw))
        ·
          have H := cond_t he
          clear he
          refine z_skip rfl rfl (by rw [hops]; rfl) (fun _ _ _ => trivial) ?_
          refine z_skip rfl rfl (by rw [hops]; rfl) (fun _ _ _ => trivial) ?_
          refine z_skip rfl rfl (by rw [hops]; rfl) (fun _ _ _ => trivial) ?_
          refine z_val (v := .bool true) (val_pick rfl rfl rfl) rfl rfl rfl (fun _ _ _ => trivial) ?_
          obtain rfl := Option.some.inj H
          exact z_nil ((K _ () HJ trivial).weak (fun a ha => ha.cons rfl (ha.cons rfl (ha.cons rfl (ha.cons rfl (ha.cons rfl (ha.cons rfl (ha.nil))))))) (fun w hw => hw))
      ·
        replace H := HB
        clear HB
        obtain ⟨x43, rfl⟩ : ∃ x, x = s := ⟨_, rfl⟩
        change T 71 _ _ _
        refine z_nil ?_
        cases x43
        ·
          replace H := cond_f H
          refine t_cond_false rfl ?_
          refine t_skip ?_
          refine t_seq ?_
          refine t_plan (C := Mm w [] h [.row (.slice (some ⟨g_5, 0, none⟩) x19.length 3) 22 1 cs, .row (.slice A_1 x13.1.length c_2) 5 1 (x13.1.map U8)]) [] [(0, false), (1, true), (2, true), (3, true), (4, true), (5, true), (6, true), (7, true), (8, true), (9, true), (10, true), (11, false), (12, false), (13, true), (14, true), (15, true)] (by kernel_rfl) (by kernel_rfl) (fun _ hw => hw.drew) (fun ops hops => ?_)
          obtain ⟨x56, hx_9, H⟩ := Option.bind_eq_some_iff.1 H
          refine z_made (v := .bool x56) rfl Try.func10 nm10 bs10 rfl (fun w hw => smithylaw09_fixed.calls x56 hx_9 w) rfl rfl rfl (fun _ _ hw => hw) ?_
          clear hx_9
          refine z_still (v := .bool x56) (val_move rfl rfl) rfl rfl rfl (fun _ hw => hw) ?_
          refine z_bind H 3 (fun (s : Bool) (_ : Unit) => [(0, .slice A0 a0.length c0), (1, .slice A1 a1.length c1), (2, .slice A2 a2.length c2), (7, .slice A_1 x13.1.length c_2), (60, .bool s)]) (fun _ _ => Mm w [] h [.row (.slice (some ⟨g_5, 0, none⟩) x19.length 3) 22 1 cs, .row (.slice A_1 x13.1.length c_2) 5 1 (x13.1.map U8)]) (fun _ _ => True) (fun Gr K s he HJ => ?_) (fun s g HB _ => ?_)
          ·
            clear H
            cases x56
            ·
              have H := cond_f he
              clear he
              refine z_skip_still rfl rfl (by rw [hops]; rfl) (fun _ hw => hw) ?_
              refine z_skip_still rfl rfl (by rw [hops]; rfl) (fun _ hw => hw) ?_
              refine z_still (v := .bool false) (val_pick rfl rfl rfl) rfl rfl rfl (fun _ hw => hw) ?_
              obtain rfl := Option.some.inj H
              exact z_nil ((K _ () HJ trivial).weak (fun a ha => ha.cons rfl (ha.cons rfl (ha.cons rfl (ha.cons rfl (ha.cons rfl (ha.nil)))))) (fun w hw => hw))
            ·
              have H := cond_t he
              clear he
              refine z_still (v := .int .i64 x13.2) (val_move rfl rfl) rfl rfl (by rw [hops]; rfl) (fun _ hw => hw) ?_
              obtain ⟨x59, hx59, H⟩ := Let_elim H
              refine z_still (v := .bool x59) (by subst hx59; exact val_bin rfl rfl rfl rfl (i64_eql _ _ _)) rfl rfl (by rw [hops]; rfl) (fun _ hw => hw) ?_
              clear hx59
              refine z_still (v := .bool x59) (val_pick rfl rfl rfl) rfl rfl rfl (fun _ hw => hw) ?_
              obtain rfl := Option.some.inj H
              exact z_nil ((K _ () HJ trivial).weak (fun a ha => ha.cons rfl (ha.cons rfl (ha.cons rfl (ha.cons rfl (ha.cons rfl (ha.nil)))))) (fun w hw => hw))
          ·
            replace H := HB
            clear HB
            obtain ⟨x60, rfl⟩ : ∃ x, x = s := ⟨_, rfl⟩
            change T 71 _ _ _
            refine z_still (v := .bool x60) (val_move rfl rfl) rfl rfl rfl (fun _ hw => hw) ?_
            refine z_bind H 9 (fun (s : Bool) (_ : Unit) => [(70, .bool s)]) (fun _ _ => Mm w [] h [.row (.slice (some ⟨g_5, 0, none⟩) x19.length 3) 22 1 cs, .row (.slice A_1 x13.1.length c_2) 5 1 (x13.1.map U8)]) (fun _ _ => True) (fun Gr K s he HJ => ?_) (fun s g HB _ => ?_)
            ·
              clear H
              cases x60
              ·
                have H := cond_f he
                clear he
                refine z_skip_still rfl rfl (by rw [hops]; rfl) (fun _ hw => hw) ?_
                refine z_skip_still rfl rfl (by rw [hops]; rfl) (fun _ hw => hw) ?_
                refine z_skip_still rfl rfl (by rw [hops]; rfl) (fun _ hw => hw) ?_
                refine z_skip_still rfl rfl (by rw [hops]; rfl) (fun _ hw => hw) ?_
                refine z_skip_still rfl rfl (by rw [hops]; rfl) (fun _ hw => hw) ?_
                refine z_skip rfl rfl (by rw [hops]; rfl) (fun _ _ hw => hw) ?_
                refine z_skip rfl rfl (by rw [hops]; rfl) (fun _ _ hw => hw) ?_
                refine z_skip_still rfl rfl (by rw [hops]; rfl) (fun _ hw => hw) ?_
                refine z_still (v := .bool false) (val_pick rfl rfl rfl) rfl rfl rfl (fun _ hw => hw) ?_
                obtain rfl := Option.some.inj H
                exact z_nil ((K _ () HJ trivial).weak (fun a ha => ha.cons rfl (ha.nil)) (fun w hw => hw))
              ·
                have H := cond_t he
                clear he
                refine z_still (v := .slice A_1 x13.1.length c_2) (val_move rfl rfl) rfl rfl (by rw [hops]; rfl) (fun _ hw => hw) ?_
                obtain ⟨x63, hx63, H⟩ := Let_elim H
                refine z_still (v := .string x63) (by subst hx63; exact val_convS rfl rfl Try.underlying22 Try.underlying5 Try.underlying9 (fun w hw => (row_w hw (j := 1) rfl))) rfl rfl (by rw [hops]; rfl) (fun _ hw => hw) ?_
                clear hx63
                refine z_still (v := .slice A0 a0.length c0) (val_move rfl rfl) rfl rfl (by rw [hops]; rfl) (fun _ hw => hw) ?_
                refine z_still (v := .slice A1 a1.length c1) (val_move rfl rfl) rfl rfl (by rw [hops]; rfl) (fun _ hw => hw) ?_
                refine z_still (v := .slice A2 a2.length c2) (val_move rfl rfl) rfl rfl (by rw [hops]; rfl) (fun _ hw => hw) ?_
                obtain ⟨x67, hx_10, H⟩ := Option.bind_eq_some_iff.1 H
                refine z_madeS (F := fun A_11 c_12 => .slice A_11 x67.length c_12) (xs := x67) rfl Try.func11 nm11 bs11 rfl (fun w hw => smithyref09_Pow.calls a0 a1 a2 A0 c0 A1 c1 A2 c2 x67 hx_10 w (hs0.toW hw) hc0 (hs1.toW hw) hc1 (hs2.toW hw) hc2) rfl rfl (by rw [hops]; rfl) (fun _ _ _ _ hw => hw.sel [1, 2] rfl rfl) (fun A_11 c_12 hs_13 => ?_)
                clear hx_10
                obtain ⟨x68, hx68, H⟩ := Let_elim H
                refine z_val (v := .string x68) (by subst hx68; exact val_convS rfl rfl Try.underlying22 Try.underlying5 Try.underlying9 (fun w hw => (row_w hw (j := 0) rfl))) rfl rfl (by rw [hops]; rfl) (fun _ _ hw => hw.sel [1, 2] rfl rfl) ?_
                clear hx68
                obtain ⟨x69, hx69, H⟩ := Let_elim H
                refine z_still (v := .bool x69) (by subst hx69; exact val_bin rfl rfl rfl rfl (str_eql _ _ _)) rfl rfl (by rw [hops]; rfl) (fun _ hw => hw.sel [1, 2] rfl rfl) ?_
                clear hx69
                refine z_still (v := .bool x69) (val_pick rfl rfl rfl) rfl rfl rfl (fun _ hw => hw.sel [1, 2] rfl rfl) ?_
                obtain rfl := Option.some.inj H
                exact z_nil ((K _ () HJ trivial).weak (fun a ha => ha.cons rfl (ha.nil)) (fun w hw => hw.sel [1, 2] rfl rfl))
            ·
              replace H := HB
              clear HB
              obtain ⟨x70, rfl⟩ : ∃ x, x = s := ⟨_, rfl⟩
              change T 71 _ _ _
              refine z_still (v := .bool x70) (val_assign rfl rfl) rfl rfl rfl (fun _ hw => hw) ?_
              refine z_nil ?_
              refine t_ret ?_
              obtain rfl := Option.some.inj H
              exact ret1 rfl (res_tmp rfl) (fun _ hw => ⟨rfl, hw.below⟩)
        ·
          replace H := cond_t H
          refine t_cond_true rfl ?_
          refine t_seq ?_
          refine t_region (fun ops hops => ?_)
          obtain ⟨x44, hx_15, H⟩ := Option.bind_eq_some_iff.1 H
          refine z_made (v := .bool x44) rfl Try.func10 nm10 bs10 rfl (fun w hw => smithylaw09_fixed.calls x44 hx_15 w) rfl rfl rfl (fun _ _ _ => trivial) ?_
          clear hx_15
          refine z_val (v := .bool x44) (val_move rfl rfl) rfl rfl rfl (fun _ _ _ => trivial) ?_
          refine z_bind H 3 (fun (s : Bool) (_ : Unit) => [(2, .slice A2 a2.length c2), (7, .slice A_1 x13.1.length c_2), (48, .bool s)]) (fun _ _ => Mm w [] h [.row (.slice (some ⟨g_5, 0, none⟩) x19.length 3) 22 1 cs, .row (.slice A_1 x13.1.length c_2) 5 1 (x13.1.map U8)]) (fun _ _ => True) (fun Gr K s he HJ => ?_) (fun s g HB _ => ?_)
          ·
            clear H
            cases x44
            ·
              have H := cond_f he
              clear he
              refine z_skip rfl rfl (by rw [hops]; rfl) (fun _ _ _ => trivial) ?_
              refine z_skip rfl rfl (by rw [hops]; rfl) (fun _ _ _ => trivial) ?_
              refine z_val (v := .bool false) (val_pick rfl rfl rfl) rfl rfl rfl (fun _ _ _ => trivial) ?_
              obtain rfl := Option.some.inj H
              exact z_nil ((K _ () HJ trivial).weak (fun a ha => ha.cons rfl (ha.cons rfl (ha.cons rfl (ha.nil)))) (fun w hw => hw))
            ·
              have H := cond_t he
              clear he
              refine z_val (v := .int .i64 x13.2) (val_move rfl rfl) rfl rfl (by rw [hops]; rfl) (fun _ _ _ => trivial) ?_
              obtain ⟨x47, hx47, H⟩ := Let_elim H
              refine z_val (v := .bool x47) (by subst hx47; exact val_bin rfl rfl rfl rfl (i64_eql _ _ _)) rfl rfl (by rw [hops]; rfl) (fun _ _ _ => trivial) ?_
              clear hx47
              refine z_val (v := .bool x47) (val_pick rfl rfl rfl) rfl rfl rfl (fun _ _ _ => trivial) ?_
              obtain rfl := Option.some.inj H
              exact z_nil ((K _ () HJ trivial).weak (fun a ha => ha.cons rfl (ha.cons rfl (ha.cons rfl (ha.nil)))) (fun w hw => hw))
          ·
            replace H := HB
            clear HB
            obtain ⟨x48, rfl⟩ : ∃ x, x = s := ⟨_, rfl⟩
            change T 71 _ _ _
            refine z_val (v := .bool x48) (val_move rfl rfl) rfl rfl rfl (fun _ _ _ => trivial) ?_
            refine z_bind H 6 (fun (s : Bool) (_ : Unit) => [(55, .bool s)]) (fun _ _ => Mm w [] h [.row (.slice (some ⟨g_5, 0, none⟩) x19.length 3) 22 1 cs, .row (.slice A_1 x13.1.length c_2) 5 1 (x13.1.map U8)]) (fun _ _ => True) (fun Gr K s he HJ => ?_) (fun s g HB _ => ?_)
            ·
              clear H
              cases x48
              ·
                have H := cond_f he
                clear he
                refine z_skip rfl rfl (by rw [hops]; rfl) (fun _ _ _ => trivial) ?_
                refine z_skip rfl rfl (by rw [hops]; rfl) (fun _ _ _ => trivial) ?_
                refine z_skip rfl rfl (by rw [hops]; rfl) (fun _ _ _ => trivial) ?_
                refine z_skip rfl rfl (by rw [hops]; rfl) (fun _ _ _ => trivial) ?_
                refine z_skip rfl rfl (by rw [hops]; rfl) (fun _ _ _ => trivial) ?_
                refine z_val (v := .bool false) (val_pick rfl rfl rfl) rfl rfl rfl (fun _ _ _ => trivial) ?_
                obtain rfl := Option.some.inj H
                exact z_nil ((K _ () HJ trivial).weak (fun a ha => ha.cons rfl (ha.nil)) (fun w hw => hw))
              ·
                have H := cond_t he
                clear he
                refine z_val (v := .slice A_1 x13.1.length c_2) (val_move rfl rfl) rfl rfl (by rw [hops]; rfl) (fun _ _ _ => trivial) ?_
                obtain ⟨x51, hx51, H⟩ := Let_elim H
                refine z_val (v := .int .i64 x51) (by subst hx51; exact val_len rfl rfl rfl Try.underlying22) rfl rfl (by rw [hops]; rfl) (fun _ _ _ => trivial) ?_
                clear hx51
                refine z_val (v := .slice A2 a2.length c2) (val_move rfl rfl) rfl rfl (by rw [hops]; rfl) (fun _ _ _ => trivial) ?_
                obtain ⟨x53, hx53, H⟩ := Let_elim H
                refine z_val (v := .int .i64 x53) (by subst hx53; exact val_len rfl rfl rfl Try.underlying22) rfl rfl (by rw [hops]; rfl) (fun _ _ _ => trivial) ?_
                clear hx53
                obtain ⟨x54, hx54, H⟩ := Let_elim H
                refine z_val (v := .bool x54) (by subst hx54; exact val_bin rfl rfl rfl rfl (i64_eql _ _ _)) rfl rfl (by rw [hops]; rfl) (fun _ _ _ => trivial) ?_
                clear hx54
                refine z_val (v := .bool x54) (val_pick rfl rfl rfl) rfl rfl rfl (fun _ _ _ => trivial) ?_
                obtain rfl := Option.some.inj H
                exact z_nil ((K _ () HJ trivial).weak (fun a ha => ha.cons rfl (ha.nil)) (fun w hw => hw))
            ·
              replace H := HB
              clear HB
              obtain ⟨x55, rfl⟩ : ∃ x, x = s := ⟨_, rfl⟩
              change T 71 _ _ _
              refine z_val (v := .bool x55) (val_assign rfl rfl) rfl rfl rfl (fun _ _ _ => trivial) ?_
              refine z_nil ?_
              refine t_ret ?_
              obtain rfl := Option.some.inj H
              exact ret1 rfl (res_tmp rfl) (fun _ hw => ⟨rfl, hw.below⟩)
  ·
    replace H := cond_t H
    refine t_cond_true rfl ?_
    refine t_seq ?_
    refine t_region (fun ops hops => ?_)
    obtain ⟨x21, hx_16, H⟩ := Option.bind_eq_some_iff.1 H
    refine z_made (v := .bool x21) rfl Try.func10 nm10 bs10 rfl (fun w hw => smithylaw09_fixed.calls x21 hx_16 w) rfl rfl rfl (fun _ _ _ => trivial) ?_
    clear hx_16
    refine z_val (v := .bool x21) (val_move rfl rfl) rfl rfl rfl (fun _ _ _ => trivial) ?_
    refine z_bind H 4 (fun (s : Bool) (_ : Unit) => [(8, .int .i64 x13.2), (26, .bool s)]) (fun _ _ => Mm w [] h [.row (.slice (some ⟨g_5, 0, none⟩) x19.length 3) 22 1 cs, .row (.slice A_1 x13.1.length c_2) 5 1 (x13.1.map U8)]) (fun _ _ => True) (fun Gr K s he HJ => ?_) (fun s g HB _ => ?_)
    ·
      clear H
      cases x21
      ·
        have H := cond_f he
        clear he
        refine z_skip rfl rfl (by rw [hops]; rfl) (fun _ _ _ => trivial) ?_
        refine z_skip rfl rfl (by rw [hops]; rfl) (fun _ _ _ => trivial) ?_
        refine z_skip rfl rfl (by rw [hops]; rfl) (fun _ _ _ => trivial) ?_
        refine z_val (v := .bool false) (val_pick rfl rfl rfl) rfl rfl rfl (fun _ _ _ => trivial) ?_
        obtain rfl := Option.some.inj H
        exact z_nil ((K _ () HJ trivial).weak (fun a ha => ha.cons rfl (ha.cons rfl (ha.nil))) (fun w hw => hw))
      ·
        have H := cond_t he
        clear he
        refine z_val (v := .slice A_1 x13.1.length c_2) (val_move rfl rfl) rfl rfl (by rw [hops]; rfl) (fun _ _ _ => trivial) ?_
        obtain ⟨x24, hx24, H⟩ := Let_elim H
        refine z_val (v := .int .i64 x24) (by subst hx24; exact val_len rfl rfl rfl Try.underlying22) rfl rfl (by rw [hops]; rfl) (fun _ _ _ => trivial) ?_
        clear hx24
        obtain ⟨x25, hx25, H⟩ := Let_elim H
        refine z_val (v := .bool x25) (by subst hx25; exact val_bin rfl rfl rfl rfl (i64_eql _ _ _)) rfl rfl (by rw [hops]; rfl) (fun _ _ _ => trivial) ?_
        clear hx25
        refine z_val (v := .bool x25) (val_pick rfl rfl rfl) rfl rfl rfl (fun _ _ _ => trivial) ?_
        obtain rfl := Option.some.inj H
        exact z_nil ((K _ () HJ trivial).weak (fun a ha => ha.cons rfl (ha.cons rfl (ha.nil))) (fun w hw => hw))
    ·
      replace H := HB
      clear HB
      obtain ⟨x26, rfl⟩ : ∃ x, x = s := ⟨_, rfl⟩
      change T 71 _ _ _
      refine z_val (v := .bool x26) (val_move rfl rfl) rfl rfl rfl (fun _ _ _ => trivial) ?_
      refine z_bind H 3 (fun (s : Bool) (_ : Unit) => [(30, .bool s)]) (fun _ _ => Mm w [] h [.row (.slice (some ⟨g_5, 0, none⟩) x19.length 3) 22 1 cs, .row (.slice A_1 x13.1.length c_2) 5 1 (x13.1.map U8)]) (fun _ _ => True) (fun Gr K s he HJ => ?_) (fun s g HB _ => ?_)
      ·
        clear H
        cases x26
        ·
          have H := cond_f he
          clear he
          refine z_skip rfl rfl (by rw [hops]; rfl) (fun _ _ _ => trivial) ?_
          refine z_skip rfl rfl (by rw [hops]; rfl) (fun _ _ _ => trivial) ?_
          refine z_val (v := .bool false) (val_pick rfl rfl rfl) rfl rfl rfl (fun _ _ _ => trivial) ?_
          obtain rfl := Option.some.inj H
          exact z_nil ((K _ () HJ trivial).weak (fun a ha => ha.cons rfl (ha.nil)) (fun w hw => hw))
        ·
          have H := cond_t he
          clear he
          refine z_val (v := .int .i64 x13.2) (val_move rfl rfl) rfl rfl (by rw [hops]; rfl) (fun _ _ _ => trivial) ?_
          obtain ⟨x29, hx29, H⟩ := Let_elim H
          refine z_val (v := .bool x29) (by subst hx29; exact val_bin rfl rfl rfl rfl (i64_eql _ _ _)) rfl rfl (by rw [hops]; rfl) (fun _ _ _ => trivial) ?_
          clear hx29
          refine z_val (v := .bool x29) (val_pick rfl rfl rfl) rfl rfl rfl (fun _ _ _ => trivial) ?_
          obtain rfl := Option.some.inj H
          exact z_nil ((K _ () HJ trivial).weak (fun a ha => ha.cons rfl (ha.nil)) (fun w hw => hw))
      ·
        replace H := HB
        clear HB
        obtain ⟨x30, rfl⟩ : ∃ x, x = s := ⟨_, rfl⟩
        change T 71 _ _ _
        refine z_val (v := .bool x30) (val_assign rfl rfl) rfl rfl rfl (fun _ _ _ => trivial) ?_
        refine z_nil ?_
        refine t_ret ?_
        obtain rfl := Option.some.inj H
        exact ret1 rfl (res_tmp rfl) (fun _ hw => ⟨rfl, hw.below⟩)
def smithylaw09_ModexpBytes (a0 : List (BitVec 8)) (a1 : List (BitVec 8)) (a2 : List (BitVec 8)) (a3 : BitVec 8) : Option (Bool) :=
  Let (([a0, a1, a2] : List (List (BitVec 8)))) fun x21 => (smithylaw09_long x21).bind fun x22 => (bif x22 then some true else Let ((a1.length : Int)) fun x25 => Let (x25 == 64) fun x26 => some x26).bind (fun x27 => (bif x27 then some true else Let ((a2.length : Int)) fun x30 => Let (x30 == 0) fun x31 => some x31).bind (fun x32 => (bif x32 then (smithylaw09_fixed).bind fun x33 => some x33 else (modexp_Pow a0 a1 a2).bind fun x38 => Let (([] : List (BitVec 8))) fun x43 => Chk ((x43.length + a1.length) * 1 ≤ 140737488355328) <| Let (x43 ++ a1) fun x45 => Let ([a3]) fun x47 => Chk ((x45.length + x47.length) * 1 ≤ 140737488355328) <| Let (x45 ++ x47) fun x48 => (modexp_Pow a0 x48 a2).bind fun x50 => Let ([1#8, 0#8]) fun x55 => (modexp_Pow x38.1 x55 a2).bind fun x57 => Let ([a3]) fun x63 => (modexp_Pow a0 x63 a2).bind fun x65 => Let (x38.2 != 0) fun x69 => (bif x69 then some true else Let (x50.2 != 0) fun x72 => some x72).bind (fun x73 => (bif x73 then some true else Let (x57.2 != 0) fun x76 => some x76).bind (fun x77 => (bif x77 then some true else Let (x65.2 != 0) fun x80 => some x80).bind (fun x81 => (bif x81 then some false else (smithyref09_Of a2).bind fun x83 => (smithyref02_Zero x83).bind fun x85 => (bif x85 then (smithylaw09_fixed).bind fun x86 => (bif x86 then Let (strOf x50.1) fun x89 => Let ((a2.length : Int)) fun x91 => Chk ((0 : Int) ≤ x91 ∧ x91.toNat * 1 ≤ 140737488355328) <| Let (List.replicate x91.toNat 0#8) fun x92 => Let (strOf x92) fun x93 => Let (x89.toList == x93.toList) fun x94 => some x94 else some false).bind (fun x95 => some x95) else (smithylaw09_fixed).bind fun x96 => (bif x96 then Let (strOf x50.1) fun x99 => Let ((a2.length : Int)) fun x107 => (smithyref09_Of x57.1).bind fun x101 => (smithyref09_Of x65.1).bind fun x103 => (smithyref09_Mul x101 x103 x83).bind fun x105 => (smithyref09_Bytes x105 x107).bind fun x108 => Let (strOf x108) fun x109 => Let (x99.toList == x109.toList) fun x110 => some x110 else some false).bind (fun x111 => (bif x111 then (smithyref09_Of x50.1).bind fun x114 => (smithyref02_Less x114 x83).bind fun x116 => some x116 else some false).bind (fun x117 => some x117))))))))))
set_option maxRecDepth 100000 in
theorem smithylaw09_ModexpBytes.calls  (a0 : List (BitVec 8)) (a1 : List (BitVec 8)) (a2 : List (BitVec 8)) (a3 : BitVec 8) (A0 : Option Addr) (c0 : Nat) (A1 : Option Addr) (c1 : Nat) (A2 : Option Addr) (c2 : Nat) (r : Bool) (H : smithylaw09_ModexpBytes a0 a1 a2 a3 = some r) (w : World) (hs0 : SlW w U8 A0 a0) (hc0 : a0.length ≤ c0) (hs1 : SlW w U8 A1 a1) (hc1 : a1.length ≤ c1) (hs2 : SlW w U8 A2 a2) (hc2 : a2.length ≤ c2)  :
    Made Try.prog 4 #[.slice A0 a0.length c0, .slice A1 a1.length c1, .slice A2 a2.length c2, U8 a3] w (.bool r) := by
  unfold smithylaw09_ModexpBytes at H
  replace hs0 := hs0.toH
  replace hs1 := hs1.toH
  replace hs2 := hs2.toH
  have hM := Mm.start w (snap w) (snap_ok w)
  generalize snap w = h at *
  refine t_enter (vs := [.slice A0 a0.length c0, .slice A1 a1.length c1, .slice A2 a2.length c2, U8 a3]) (n := 118) Try.func4 rfl rfl rfl hM ?_
  clear hM
  change T 118 _ _ _
  refine t_seq ?_
  refine t_region (fun ops hops => ?_)
  clear hops
  refine z_val (v := .bool false) (val_assign rfl rfl) rfl rfl rfl (fun _ _ _ => trivial) ?_
  refine z_nil ?_
  refine t_seq ?_
  refine t_seq ?_
  refine t_region (fun ops hops => ?_)
  refine z_val (v := .slice A0 a0.length c0) (val_move rfl rfl) rfl rfl rfl (fun _ _ _ => trivial) ?_
  refine z_val (v := .slice A1 a1.length c1) (val_move rfl rfl) rfl rfl rfl (fun _ _ _ => trivial) ?_
  refine z_val (v := .slice A2 a2.length c2) (val_move rfl rfl) rfl rfl rfl (fun _ _ _ => trivial) ?_
  obtain ⟨x21, hx21, H⟩ := Let_elim H
  have hlx21 : x21.length = 3 := by subst hx21; rfl
  have hr : RpL h (slR U8) x21 (([(.slice A0 a0.length c0 : Value)]) ++ (([(.slice A1 a1.length c1 : Value)]) ++ (([(.slice A2 a2.length c2 : Value)]) ++ (([] : List Value))))) := by subst hx21; exact ⟨_, _, rfl, ⟨A0, c0, rfl, hs0, hc0⟩, ⟨_, _, rfl, ⟨A1, c1, rfl, hs1, hc1⟩, ⟨_, _, rfl, ⟨A2, c2, rfl, hs2, hc2⟩, rfl⟩⟩⟩
  refine z_buildR (e := 22) (cs := ([(.slice A0 a0.length c0 : Value)]) ++ (([(.slice A1 a1.length c1 : Value)]) ++ (([(.slice A2 a2.length c2 : Value)]) ++ (([] : List Value))))) (xs := x21) (vs := [(0, .slice A0 a0.length c0), (1, .slice A1 a1.length c1), (2, .slice A2 a2.length c2)]) rfl rfl (by intro w; kernel_rfl) hlx21 hr.len (by decide) rfl rfl rfl (fun _ _ _ _ => trivial) (fun g_1 hs_3 => ?_)
  generalize (([(.slice A0 a0.length c0 : Value)]) ++ (([(.slice A1 a1.length c1 : Value)]) ++ (([(.slice A2 a2.length c2 : Value)]) ++ (([] : List Value))))) = cs at *
  clear hx21 hlx21
  obtain ⟨x22, hx, H⟩ := Option.bind_eq_some_iff.1 H
  refine z_made (v := .bool x22) rfl Try.func9 nm9 bs9 rfl (fun w hw => smithylaw09_long.calls x21 ((some ⟨g_1, 0, none⟩)) 3 x22 hx w (own_rw hw (j := 0) rfl hr hs_3) hs_3.le) rfl rfl rfl (fun _ _ _ => trivial) ?_
  clear hx
  refine z_val (v := .bool x22) (val_move rfl rfl) rfl rfl rfl (fun _ _ _ => trivial) ?_
  refine z_bind H 4 (fun (s : Bool) (_ : Unit) => [(0, .slice A0 a0.length c0), (1, .slice A1 a1.length c1), (2, .slice A2 a2.length c2), (3, U8 a3), (27, .bool s)]) (fun _ _ => Mm w [] h [.row (.slice (some ⟨g_1, 0, none⟩) x21.length 3) 22 1 cs]) (fun _ _ => True) (fun Gr K s he HJ => ?_) (fun s g HB _ => ?_)
  ·
    clear H
    cases x22
    ·
      have H := cond_f he
      clear he
      refine z_val (v := .slice A1 a1.length c1) (val_move rfl rfl) rfl rfl (by rw [hops]; rfl) (fun _ _ _ => trivial) ?_
      obtain ⟨x25, hx25, H⟩ := Let_elim H
      refine z_val (v := .int .i64 x25) (by subst hx25; exact val_len rfl rfl rfl Try.underlying22) rfl rfl (by rw [hops]; rfl) (fun _ _ _ => trivial) ?_
      clear hx25
      obtain ⟨x26, hx26, H⟩ := Let_elim H
      refine z_val (v := .bool x26) (by subst hx26; exact val_bin rfl rfl rfl rfl (i64_eql _ _ _)) rfl rfl (by rw [hops]; rfl) (fun _ _ _ => trivial) ?_
      clear hx26
      refine z_val (v := .bool x26) (val_pick rfl rfl rfl) rfl rfl rfl (fun _ _ _ => trivial) ?_
      obtain rfl := Option.some.inj H
      exact z_nil ((K _ () HJ trivial).weak (fun a ha => ha.cons rfl (ha.cons rfl (ha.cons rfl (ha.cons rfl (ha.cons rfl (ha.nil)))))) (fun w hw => hw))
    ·
      have H := cond_t he
      clear he
      refine z_skip rfl rfl (by rw [hops]; rfl) (fun _ _ _ => trivial) ?_
      refine z_skip rfl rfl (by rw [hops]; rfl) (fun _ _ _ => trivial) ?_
      refine z_skip rfl rfl (by rw [hops]; rfl) (fun _ _ _ => trivial) ?_
      refine z_val (v := .bool true) (val_pick rfl rfl rfl) rfl rfl rfl (fun _ _ _ => trivial) ?_
      obtain rfl := Option.some.inj H
      exact z_nil ((K _ () HJ trivial).weak (fun a ha => ha.cons rfl (ha.cons rfl (ha.cons rfl (ha.cons rfl (ha.cons rfl (ha.nil)))))) (fun w hw => hw))
  ·
    replace H := HB
    clear HB
    obtain ⟨x27, rfl⟩ : ∃ x, x = s := ⟨_, rfl⟩
    change T 118 _ _ _
    refine z_val (v := .bool x27) (val_move rfl rfl) rfl rfl rfl (fun _ _ _ => trivial) ?_
    refine z_bind H 4 (fun (s : Bool) (_ : Unit) => [(0, .slice A0 a0.length c0), (1, .slice A1 a1.length c1), (2, .slice A2 a2.length c2), (3, U8 a3), (32, .bool s)]) (fun _ _ => Mm w [] h [.row (.slice (some ⟨g_1, 0, none⟩) x21.length 3) 22 1 cs]) (fun _ _ => True) (fun Gr K s he HJ => ?_) (fun s g HB _ => ?_)
    ·
      clear H
      cases x27
      ·
        have H := cond_f he
        clear he
        refine z_val (v := .slice A2 a2.length c2) (val_move rfl rfl) rfl rfl (by rw [hops]; rfl) (fun _ _ _ => trivial) ?_
        obtain ⟨x30, hx30, H⟩ := Let_elim H
        refine z_val (v := .int .i64 x30) (by subst hx30; exact val_len rfl rfl rfl Try.underlying22) rfl rfl (by rw [hops]; rfl) (fun _ _ _ => trivial) ?_
        clear hx30
        obtain ⟨x31, hx31, H⟩ := Let_elim H
        refine z_val (v := .bool x31) (by subst hx31; exact val_bin rfl rfl rfl rfl (i64_eql _ _ _)) rfl rfl (by rw [hops]; rfl) (fun _ _ _ => trivial) ?_
        clear hx31
        refine z_val (v := .bool x31) (val_pick rfl rfl rfl) rfl rfl rfl (fun _ _ _ => trivial) ?_
        obtain rfl := Option.some.inj H
        exact z_nil ((K _ () HJ trivial).weak (fun a ha => ha.cons rfl (ha.cons rfl (ha.cons rfl (ha.cons rfl (ha.cons rfl (ha.nil)))))) (fun w hw => hw))
      ·
        have H := cond_t he
        clear he
        refine z_skip rfl rfl (by rw [hops]; rfl) (fun _ _ _ => trivial) ?_
        refine z_skip rfl rfl (by rw [hops]; rfl) (fun _ _ _ => trivial) ?_
        refine z_skip rfl rfl (by rw [hops]; rfl) (fun _ _ _ => trivial) ?_
        refine z_val (v := .bool true) (val_pick rfl rfl rfl) rfl rfl rfl (fun _ _ _ => trivial) ?_
        obtain rfl := Option.some.inj H
        exact z_nil ((K _ () HJ trivial).weak (fun a ha => ha.cons rfl (ha.cons rfl (ha.cons rfl (ha.cons rfl (ha.cons rfl (ha.nil)))))) (fun w hw => hw))
    ·
      replace H := HB
      clear HB
      obtain ⟨x32, rfl⟩ : ∃ x, x = s := ⟨_, rfl⟩
      change T 118 _ _ _
      refine z_nil ?_
      cases x32
      ·
        replace H := cond_f H
        refine t_cond_false rfl ?_
        refine t_skip ?_
        refine t_seq ?_
        refine t_region (fun ops hops => ?_)
        clear hops
        refine z_val (v := .slice A0 a0.length c0) (val_move rfl rfl) rfl rfl rfl (fun _ _ _ => trivial) ?_
        refine z_val (v := .slice A1 a1.length c1) (val_move rfl rfl) rfl rfl rfl (fun _ _ _ => trivial) ?_
        refine z_val (v := .slice A2 a2.length c2) (val_move rfl rfl) rfl rfl rfl (fun _ _ _ => trivial) ?_
        obtain ⟨x38, hx_4, H⟩ := Option.bind_eq_some_iff.1 H
        refine z_madeS (F := fun A_5 c_6 => .tuple #[.slice A_5 x38.1.length c_6, .int .i64 x38.2]) (xs := x38.1) rfl Try.func8 nm8 bs8 rfl (fun w hw => modexp_Pow.calls a0 a1 a2 A0 c0 A1 c1 A2 c2 x38 hx_4 w (hs0.toW hw) hc0 (hs1.toW hw) hc1 (hs2.toW hw) hc2) rfl rfl rfl (fun _ _ _ _ _ => trivial) (fun A_5 c_6 hs_7 => ?_)
        clear hx_4
        refine z_val (v := .tuple #[.slice A_5 x38.1.length c_6, .int .i64 x38.2]) (val_move rfl rfl) rfl rfl rfl (fun _ _ _ => trivial) ?_
        refine z_val (v := .slice A_5 x38.1.length c_6) (val_extract rfl rfl rfl) rfl rfl rfl (fun _ _ _ => trivial) ?_
        refine z_val (v := .int .i64 x38.2) (val_extract rfl rfl rfl) rfl rfl rfl (fun _ _ _ => trivial) ?_
        refine z_val (v := .slice A_5 x38.1.length c_6) (val_assign rfl rfl) rfl rfl rfl (fun _ _ _ => trivial) ?_
        refine z_val (v := .int .i64 x38.2) (val_assign rfl rfl) rfl rfl rfl (fun _ _ _ => trivial) ?_
        refine z_nil ?_
        refine t_seq ?_
        refine t_region (fun ops hops => ?_)
        clear hops
        refine z_val (v := .slice A0 a0.length c0) (val_move rfl rfl) rfl rfl rfl (fun _ _ _ => trivial) ?_
        obtain ⟨x43, hx43, H⟩ := Let_elim H
        have hlx43 : x43.length = 0 := by subst hx43; rfl
        refine z_buildSlice' (e := 5) (f := U8) (xs := x43) (vs := []) rfl rfl (by subst hx43; intro w; kernel_rfl) hlx43 (by decide) rfl rfl rfl (fun _ _ _ _ => trivial) (fun g_9 hs_11 => ?_)
        clear hx43 hlx43
        refine z_val (v := .slice A1 a1.length c1) (val_move rfl rfl) rfl rfl rfl (fun _ _ _ => trivial) ?_
        obtain ⟨hq_12, H⟩ := Chk_elim H
        obtain ⟨x45, hx45, H⟩ := Let_elim H
        refine z_append (f := U8) (j := 0) (xs := x43) (ys := a1) (zs := x45) rfl rfl Try.underlying22 in5 rfl rfl rfl rfl (fun w hw => (hs1.toW hw)) (fun _ => rfl) hq_12 (by decide) hx45 (fun A_13 c_14 => [.row (.slice A_13 x45.length c_14) 5 1 (x45.map U8), .row (.slice A_5 x38.1.length c_6) 5 1 (x38.1.map U8), .row (.slice (some ⟨g_1, 0, none⟩) x21.length 3) 22 1 cs]) (fun _ _ => rfl) rfl rfl rfl (fun _ _ _ _ _ => trivial) (fun A_13 c_14 hs_15 => ?_)
        clear hx45
        refine z_val (v := U8 a3) (val_move rfl rfl) rfl rfl rfl (fun _ _ _ => trivial) ?_
        obtain ⟨x47, hx47, H⟩ := Let_elim H
        have hlx47 : x47.length = 1 := by subst hx47; rfl
        refine z_buildSlice' (e := 5) (f := U8) (xs := x47) (vs := [(0, U8 a3)]) rfl rfl (by subst hx47; intro w; kernel_rfl) hlx47 (by decide) rfl rfl rfl (fun _ _ _ _ => trivial) (fun g_16 hs_18 => ?_)
        clear hx47 hlx47
        obtain ⟨hq_19, H⟩ := Chk_elim H
        obtain ⟨x48, hx48, H⟩ := Let_elim H
        refine z_append (f := U8) (j := 1) (xs := x45) (ys := x47) (zs := x48) rfl rfl Try.underlying22 in5 rfl rfl rfl rfl (fun w hw => (row_w hw (j := 0) rfl)) (fun _ => rfl) hq_19 (by decide) hx48 (fun A_20 c_21 => [.row (.slice (some ⟨g_16, 0, none⟩) x47.length 1) 5 1 (x47.map U8), .row (.slice A_20 x48.length c_21) 5 1 (x48.map U8), .row (.slice A_5 x38.1.length c_6) 5 1 (x38.1.map U8), .row (.slice (some ⟨g_1, 0, none⟩) x21.length 3) 22 1 cs]) (fun _ _ => rfl) rfl rfl rfl (fun _ _ _ _ _ => trivial) (fun A_20 c_21 hs_22 => ?_)
        clear hx48
        refine z_val (v := .slice A2 a2.length c2) (val_move rfl rfl) rfl rfl rfl (fun _ _ _ => trivial) ?_
        obtain ⟨x50, hx_23, H⟩ := Option.bind_eq_some_iff.1 H
        refine z_madeS (F := fun A_24 c_25 => .tuple #[.slice A_24 x50.1.length c_25, .int .i64 x50.2]) (xs := x50.1) rfl Try.func8 nm8 bs8 rfl (fun w hw => modexp_Pow.calls a0 x48 a2 A0 c0 A_20 c_21 A2 c2 x50 hx_23 w (hs0.toW hw) hc0 (row_w hw (j := 1) rfl) hs_22.le (hs2.toW hw) hc2) rfl rfl rfl (fun _ _ _ _ _ => trivial) (fun A_24 c_25 hs_26 => ?_)
        clear hx_23
        refine z_val (v := .tuple #[.slice A_24 x50.1.length c_25, .int .i64 x50.2]) (val_move rfl rfl) rfl rfl rfl (fun _ _ _ => trivial) ?_
        refine z_val (v := .slice A_24 x50.1.length c_25) (val_extract rfl rfl rfl) rfl rfl rfl (fun _ _ _ => trivial) ?_
        refine z_val (v := .int .i64 x50.2) (val_extract rfl rfl rfl) rfl rfl rfl (fun _ _ _ => trivial) ?_
        refine z_val (v := .slice A_24 x50.1.length c_25) (val_assign rfl rfl) rfl rfl rfl (fun _ _ _ => trivial) ?_
        refine z_val (v := .int .i64 x50.2) (val_assign rfl rfl) rfl rfl rfl (fun _ _ _ => trivial) ?_
        refine z_nil ?_
        refine t_seq ?_
        refine t_region (fun ops hops => ?_)
        clear hops
        refine z_val (v := .slice A_5 x38.1.length c_6) (val_move rfl rfl) rfl rfl rfl (fun _ _ _ => trivial) ?_
        obtain ⟨x55, hx55, H⟩ := Let_elim H
        have hlx55 : x55.length = 2 := by subst hx55; rfl
        refine z_buildSlice' (e := 5) (f := U8) (xs := x55) (vs := [(0, .int .u8 1), (1, .int .u8 0)]) rfl rfl (by subst hx55; intro w; kernel_rfl) hlx55 (by decide) rfl rfl rfl (fun _ _ _ _ => trivial) (fun g_28 hs_30 => ?_)
        clear hx55 hlx55
        refine z_val (v := .slice A2 a2.length c2) (val_move rfl rfl) rfl rfl rfl (fun _ _ _ => trivial) ?_
        obtain ⟨x57, hx_31, H⟩ := Option.bind_eq_some_iff.1 H
        refine z_madeS (F := fun A_32 c_33 => .tuple #[.slice A_32 x57.1.length c_33, .int .i64 x57.2]) (xs := x57.1) rfl Try.func8 nm8 bs8 rfl (fun w hw => modexp_Pow.calls x38.1 x55 a2 A_5 c_6 ((some ⟨g_28, 0, none⟩)) 2 A2 c2 x57 hx_31 w (row_w hw (j := 4) rfl) hs_7.le (row_w hw (j := 0) rfl) hs_30.le (hs2.toW hw) hc2) rfl rfl rfl (fun _ _ _ _ _ => trivial) (fun A_32 c_33 hs_34 => ?_)
        clear hx_31
        refine z_val (v := .tuple #[.slice A_32 x57.1.length c_33, .int .i64 x57.2]) (val_move rfl rfl) rfl rfl rfl (fun _ _ _ => trivial) ?_
        refine z_val (v := .slice A_32 x57.1.length c_33) (val_extract rfl rfl rfl) rfl rfl rfl (fun _ _ _ => trivial) ?_
        refine z_val (v := .int .i64 x57.2) (val_extract rfl rfl rfl) rfl rfl rfl (fun _ _ _ => trivial) ?_
        refine z_val (v := .slice A_32 x57.1.length c_33) (val_assign rfl rfl) rfl rfl rfl (fun _ _ _ => trivial) ?_
        refine z_val (v := .int .i64 x57.2) (val_assign rfl rfl) rfl rfl rfl (fun _ _ _ => trivial) ?_
        refine z_nil ?_
        refine t_seq ?_
        refine t_region (fun ops hops => ?_)
        clear hops
        refine z_val (v := .slice A0 a0.length c0) (val_move rfl rfl) rfl rfl rfl (fun _ _ _ => trivial) ?_
        refine z_val (v := U8 a3) (val_move rfl rfl) rfl rfl rfl (fun _ _ _ => trivial) ?_
        obtain ⟨x63, hx63, H⟩ := Let_elim H
        have hlx63 : x63.length = 1 := by subst hx63; rfl
        refine z_buildSlice' (e := 5) (f := U8) (xs := x63) (vs := [(0, U8 a3)]) rfl rfl (by subst hx63; intro w; kernel_rfl) hlx63 (by decide) rfl rfl rfl (fun _ _ _ _ => trivial) (fun g_36 hs_38 => ?_)
        clear hx63 hlx63
        refine z_val (v := .slice A2 a2.length c2) (val_move rfl rfl) rfl rfl rfl (fun _ _ _ => trivial) ?_
        obtain ⟨x65, hx_39, H⟩ := Option.bind_eq_some_iff.1 H
        refine z_madeS (F := fun A_40 c_41 => .tuple #[.slice A_40 x65.1.length c_41, .int .i64 x65.2]) (xs := x65.1) rfl Try.func8 nm8 bs8 rfl (fun w hw => modexp_Pow.calls a0 x63 a2 A0 c0 ((some ⟨g_36, 0, none⟩)) 1 A2 c2 x65 hx_39 w (hs0.toW hw) hc0 (row_w hw (j := 0) rfl) hs_38.le (hs2.toW hw) hc2) rfl rfl rfl (fun _ _ _ _ _ => trivial) (fun A_40 c_41 hs_42 => ?_)
        clear hx_39
        refine z_val (v := .tuple #[.slice A_40 x65.1.length c_41, .int .i64 x65.2]) (val_move rfl rfl) rfl rfl rfl (fun _ _ _ => trivial) ?_
        refine z_val (v := .slice A_40 x65.1.length c_41) (val_extract rfl rfl rfl) rfl rfl rfl (fun _ _ _ => trivial) ?_
        refine z_val (v := .int .i64 x65.2) (val_extract rfl rfl rfl) rfl rfl rfl (fun _ _ _ => trivial) ?_
        refine z_val (v := .slice A_40 x65.1.length c_41) (val_assign rfl rfl) rfl rfl rfl (fun _ _ _ => trivial) ?_
        refine z_val (v := .int .i64 x65.2) (val_assign rfl rfl) rfl rfl rfl (fun _ _ _ => trivial) ?_
        refine z_nil ?_
        refine t_seq ?_
        refine t_seq ?_
        refine t_region (fun ops hops => ?_)
        refine z_val (v := .int .i64 x38.2) (val_move rfl rfl) rfl rfl rfl (fun _ _ _ => trivial) ?_
        obtain ⟨x69, hx69, H⟩ := Let_elim H
        refine z_val (v := .bool x69) (by subst hx69; exact val_bin rfl rfl rfl rfl (i64_neq _ _ _)) rfl rfl rfl (fun _ _ _ => trivial) ?_
        clear hx69
        refine z_val (v := .bool x69) (val_move rfl rfl) rfl rfl rfl (fun _ _ _ => trivial) ?_
        refine z_bind H 3 (fun (s : Bool) (_ : Unit) => [(2, .slice A2 a2.length c2), (11, .slice A_24 x50.1.length c_25), (13, .slice A_32 x57.1.length c_33), (14, .int .i64 x57.2), (15, .slice A_40 x65.1.length c_41), (16, .int .i64 x65.2), (73, .bool s)]) (fun _ _ => Mm w [] h [.row (.slice A_40 x65.1.length c_41) 5 1 (x65.1.map U8), .row (.slice (some ⟨g_36, 0, none⟩) x63.length 1) 5 1 (x63.map U8), .row (.slice A_32 x57.1.length c_33) 5 1 (x57.1.map U8), .row (.slice (some ⟨g_28, 0, none⟩) x55.length 2) 5 1 (x55.map U8), .row (.slice A_24 x50.1.length c_25) 5 1 (x50.1.map U8), .row (.slice (some ⟨g_16, 0, none⟩) x47.length 1) 5 1 (x47.map U8), .row (.slice A_20 x48.length c_21) 5 1 (x48.map U8), .row (.slice A_5 x38.1.length c_6) 5 1 (x38.1.map U8), .row (.slice (some ⟨g_1, 0, none⟩) x21.length 3) 22 1 cs]) (fun _ _ => True) (fun Gr K s he HJ => ?_) (fun s g HB _ => ?_)
        ·
          clear H
          cases x69
          ·
            have H := cond_f he
            clear he
            refine z_val (v := .int .i64 x50.2) (val_move rfl rfl) rfl rfl (by rw [hops]; rfl) (fun _ _ _ => trivial) ?_
            obtain ⟨x72, hx72, H⟩ := Let_elim H
            refine z_val (v := .bool x72) (by subst hx72; exact val_bin rfl rfl rfl rfl (i64_neq _ _ _)) rfl rfl (by rw [hops]; rfl) (fun _ _ _ => trivial) ?_
            clear hx72
            refine z_val (v := .bool x72) (val_pick rfl rfl rfl) rfl rfl rfl (fun _ _ _ => trivial) ?_
            obtain rfl := Option.some.inj H
            exact z_nil ((K _ () HJ trivial).weak (fun a ha => ha.cons rfl (ha.cons rfl (ha.cons rfl (ha.cons rfl (ha.cons rfl (ha.cons rfl (ha.cons rfl (ha.nil)))))))) (fun w hw => hw))
          ·
            have H := cond_t he
            clear he
            refine z_skip rfl rfl (by rw [hops]; rfl) (fun _ _ _ => trivial) ?_
            refine z_skip rfl rfl (by rw [hops]; rfl) (fun _ _ _ => trivial) ?_
            refine z_val (v := .bool true) (val_pick rfl rfl rfl) rfl rfl rfl (fun _ _ _ => trivial) ?_
            obtain rfl := Option.some.inj H
            exact z_nil ((K _ () HJ trivial).weak (fun a ha => ha.cons rfl (ha.cons rfl (ha.cons rfl (ha.cons rfl (ha.cons rfl (ha.cons rfl (ha.cons rfl (ha.nil)))))))) (fun w hw => hw))
        ·
          replace H := HB
          clear HB
          obtain ⟨x73, rfl⟩ : ∃ x, x = s := ⟨_, rfl⟩
          change T 118 _ _ _
          refine z_val (v := .bool x73) (val_move rfl rfl) rfl rfl rfl (fun _ _ _ => trivial) ?_
          refine z_bind H 3 (fun (s : Bool) (_ : Unit) => [(2, .slice A2 a2.length c2), (11, .slice A_24 x50.1.length c_25), (13, .slice A_32 x57.1.length c_33), (15, .slice A_40 x65.1.length c_41), (16, .int .i64 x65.2), (77, .bool s)]) (fun _ _ => Mm w [] h [.row (.slice A_40 x65.1.length c_41) 5 1 (x65.1.map U8), .row (.slice (some ⟨g_36, 0, none⟩) x63.length 1) 5 1 (x63.map U8), .row (.slice A_32 x57.1.length c_33) 5 1 (x57.1.map U8), .row (.slice (some ⟨g_28, 0, none⟩) x55.length 2) 5 1 (x55.map U8), .row (.slice A_24 x50.1.length c_25) 5 1 (x50.1.map U8), .row (.slice (some ⟨g_16, 0, none⟩) x47.length 1) 5 1 (x47.map U8), .row (.slice A_20 x48.length c_21) 5 1 (x48.map U8), .row (.slice A_5 x38.1.length c_6) 5 1 (x38.1.map U8), .row (.slice (some ⟨g_1, 0, none⟩) x21.length 3) 22 1 cs]) (fun _ _ => True) (fun Gr K s he HJ => ?_) (fun s g HB _ => ?_)
          ·
            clear H
            cases x73
            ·
              have H := cond_f he
              clear he
              refine z_val (v := .int .i64 x57.2) (val_move rfl rfl) rfl rfl (by rw [hops]; rfl) (fun _ _ _ => trivial) ?_
              obtain ⟨x76, hx76, H⟩ := Let_elim H
              refine z_val (v := .bool x76) (by subst hx76; exact val_bin rfl rfl rfl rfl (i64_neq _ _ _)) rfl rfl (by rw [hops]; rfl) (fun _ _ _ => trivial) ?_
              clear hx76
              refine z_val (v := .bool x76) (val_pick rfl rfl rfl) rfl rfl rfl (fun _ _ _ => trivial) ?_
              obtain rfl := Option.some.inj H
              exact z_nil ((K _ () HJ trivial).weak (fun a ha => ha.cons rfl (ha.cons rfl (ha.cons rfl (ha.cons rfl (ha.cons rfl (ha.cons rfl (ha.nil))))))) (fun w hw => hw))
            ·
              have H := cond_t he
              clear he
              refine z_skip rfl rfl (by rw [hops]; rfl) (fun _ _ _ => trivial) ?_
              refine z_skip rfl rfl (by rw [hops]; rfl) (fun _ _ _ => trivial) ?_
              refine z_val (v := .bool true) (val_pick rfl rfl rfl) rfl rfl rfl (fun _ _ _ => trivial) ?_
              obtain rfl := Option.some.inj H
              exact z_nil ((K _ () HJ trivial).weak (fun a ha => ha.cons rfl (ha.cons rfl (ha.cons rfl (ha.cons rfl (ha.cons rfl (ha.cons rfl (ha.nil))))))) (fun w hw => hw))
          ·
            replace H := HB
            clear HB
            obtain ⟨x77, rfl⟩ : ∃ x, x = s := ⟨_, rfl⟩
            change T 118 _ _ _
            refine z_val (v := .bool x77) (val_move rfl rfl) rfl rfl rfl (fun _ _ _ => trivial) ?_
            refine z_bind H 3 (fun (s : Bool) (_ : Unit) => [(2, .slice A2 a2.length c2), (11, .slice A_24 x50.1.length c_25), (13, .slice A_32 x57.1.length c_33), (15, .slice A_40 x65.1.length c_41), (81, .bool s)]) (fun _ _ => Mm w [] h [.row (.slice A_40 x65.1.length c_41) 5 1 (x65.1.map U8), .row (.slice (some ⟨g_36, 0, none⟩) x63.length 1) 5 1 (x63.map U8), .row (.slice A_32 x57.1.length c_33) 5 1 (x57.1.map U8), .row (.slice (some ⟨g_28, 0, none⟩) x55.length 2) 5 1 (x55.map U8), .row (.slice A_24 x50.1.length c_25) 5 1 (x50.1.map U8), .row (.slice (some ⟨g_16, 0, none⟩) x47.length 1) 5 1 (x47.map U8), .row (.slice A_20 x48.length c_21) 5 1 (x48.map U8), .row (.slice A_5 x38.1.length c_6) 5 1 (x38.1.map U8), .row (.slice (some ⟨g_1, 0, none⟩) x21.length 3) 22 1 cs]) (fun _ _ => True) (fun Gr K s he HJ => ?_) (fun s g HB _ => ?_)
            ·
              clear H
              cases x77
              ·
                have H := cond_f he
                clear he
                refine z_val (v := .int .i64 x65.2) (val_move rfl rfl) rfl rfl (by rw [hops]; rfl) (fun _ _ _ => trivial) ?_
                obtain ⟨x80, hx80, H⟩ := Let_elim H
                refine z_val (v := .bool x80) (by subst hx80; exact val_bin rfl rfl rfl rfl (i64_neq _ _ _)) rfl rfl (by rw [hops]; rfl) (fun _ _ _ => trivial) ?_
                clear hx80
                refine z_val (v := .bool x80) (val_pick rfl rfl rfl) rfl rfl rfl (fun _ _ _ => trivial) ?_
                obtain rfl := Option.some.inj H
                exact z_nil ((K _ () HJ trivial).weak (fun a ha => ha.cons rfl (ha.cons rfl (ha.cons rfl (ha.cons rfl (ha.cons rfl (ha.nil)))))) (fun w hw => hw))
              ·
                have H := cond_t he
                clear he
                refine z_skip rfl rfl (by rw [hops]; rfl) (fun _ _ _ => trivial) ?_
                refine z_skip rfl rfl (by rw [hops]; rfl) (fun _ _ _ => trivial) ?_
                refine z_val (v := .bool true) (val_pick rfl rfl rfl) rfl rfl rfl (fun _ _ _ => trivial) ?_
                obtain rfl := Option.some.inj H
                exact z_nil ((K _ () HJ trivial).weak (fun a ha => ha.cons rfl (ha.cons rfl (ha.cons rfl (ha.cons rfl (ha.cons rfl (ha.nil)))))) (fun w hw => hw))
            ·
              replace H := HB
              clear HB
              obtain ⟨x81, rfl⟩ : ∃ x, x = s := ⟨_, rfl⟩
              change T 118 _ _ _
              refine z_nil ?_
              cases x81
              ·
                replace H := cond_f H
                refine t_cond_false rfl ?_
                refine t_skip ?_
                refine t_seq ?_
                refine t_region (fun ops hops => ?_)
                clear hops
                refine z_val (v := .slice A2 a2.length c2) (val_move rfl rfl) rfl rfl rfl (fun _ _ _ => trivial) ?_
                obtain ⟨x83, hx_44, H⟩ := Option.bind_eq_some_iff.1 H
                refine z_madeS (F := fun A_45 c_46 => .slice A_45 x83.length c_46) (xs := x83) rfl Try.func12 nm12 bs12 rfl (fun w hw => smithyref09_Of.calls a2 A2 c2 x83 hx_44 w (hs2.toW hw) hc2) rfl rfl rfl (fun _ _ _ _ _ => trivial) (fun A_45 c_46 hs_47 => ?_)
                clear hx_44
                refine z_val (v := .slice A_45 x83.length c_46) (val_assign rfl rfl) rfl rfl rfl (fun _ _ _ => trivial) ?_
                refine z_nil ?_
                refine t_seq ?_
                refine t_seq ?_
                refine t_region (fun ops hops => ?_)
                clear hops
                refine z_val (v := .slice A_45 x83.length c_46) (val_move rfl rfl) rfl rfl rfl (fun _ _ _ => trivial) ?_
                obtain ⟨x85, hx_49, H⟩ := Option.bind_eq_some_iff.1 H
                refine z_made (v := .bool x85) rfl Try.func13 nm13 bs13 rfl (fun w hw => smithyref02_Zero.calls x83 A_45 c_46 x85 hx_49 w (row_w hw (j := 0) rfl) hs_47.le) rfl rfl rfl (fun _ _ _ => trivial) ?_
                clear hx_49
                refine z_nil ?_
                cases x85
                ·
                  replace H := cond_f H
                  refine t_cond_false rfl ?_
                  refine t_skip ?_
                  refine t_seq ?_
                  refine t_plan (C := Mm w [] h [.row (.slice A_45 x83.length c_46) 3 1 (x83.map (Value.int .i64)), .row (.slice A_40 x65.1.length c_41) 5 1 (x65.1.map U8), .row (.slice (some ⟨g_36, 0, none⟩) x63.length 1) 5 1 (x63.map U8), .row (.slice A_32 x57.1.length c_33) 5 1 (x57.1.map U8), .row (.slice (some ⟨g_28, 0, none⟩) x55.length 2) 5 1 (x55.map U8), .row (.slice A_24 x50.1.length c_25) 5 1 (x50.1.map U8), .row (.slice (some ⟨g_16, 0, none⟩) x47.length 1) 5 1 (x47.map U8), .row (.slice A_20 x48.length c_21) 5 1 (x48.map U8), .row (.slice A_5 x38.1.length c_6) 5 1 (x38.1.map U8), .row (.slice (some ⟨g_1, 0, none⟩) x21.length 3) 22 1 cs]) [] [(0, false), (1, true), (2, true), (3, true), (4, true), (6, true), (8, true), (10, true), (11, true), (5, false), (7, false), (9, false), (12, false), (13, false), (14, true), (15, true), (16, true), (17, true), (19, true), (18, false), (20, false), (21, true), (22, true)] (by kernel_rfl) (by kernel_rfl) (fun _ hw => hw.drew) (fun ops hops => ?_)
                  obtain ⟨x96, hx_50, H⟩ := Option.bind_eq_some_iff.1 H
                  refine z_made (v := .bool x96) rfl Try.func10 nm10 bs10 rfl (fun w hw => smithylaw09_fixed.calls x96 hx_50 w) rfl rfl rfl (fun _ _ hw => hw) ?_
                  clear hx_50
                  refine z_still (v := .bool x96) (val_move rfl rfl) rfl rfl rfl (fun _ hw => hw) ?_
                  refine z_bind H 14 (fun (s : Bool) (_ : Unit) => [(11, .slice A_24 x50.1.length c_25), (17, .slice A_45 x83.length c_46), (111, .bool s)]) (fun _ _ => Mm w [] h [.row (.slice A_45 x83.length c_46) 3 1 (x83.map (Value.int .i64)), .row (.slice A_40 x65.1.length c_41) 5 1 (x65.1.map U8), .row (.slice (some ⟨g_36, 0, none⟩) x63.length 1) 5 1 (x63.map U8), .row (.slice A_32 x57.1.length c_33) 5 1 (x57.1.map U8), .row (.slice (some ⟨g_28, 0, none⟩) x55.length 2) 5 1 (x55.map U8), .row (.slice A_24 x50.1.length c_25) 5 1 (x50.1.map U8), .row (.slice (some ⟨g_16, 0, none⟩) x47.length 1) 5 1 (x47.map U8), .row (.slice A_20 x48.length c_21) 5 1 (x48.map U8), .row (.slice A_5 x38.1.length c_6) 5 1 (x38.1.map U8), .row (.slice (some ⟨g_1, 0, none⟩) x21.length 3) 22 1 cs]) (fun _ _ => True) (fun Gr K s he HJ => ?_) (fun s g HB _ => ?_)
                  ·
                    clear H
                    cases x96
                    ·
                      have H := cond_f he
                      clear he
                      refine z_skip_still rfl rfl (by rw [hops]; rfl) (fun _ hw => hw) ?_
                      refine z_skip_still rfl rfl (by rw [hops]; rfl) (fun _ hw => hw) ?_
                      refine z_skip_still rfl rfl (by rw [hops]; rfl) (fun _ hw => hw) ?_
                      refine z_skip_still rfl rfl (by rw [hops]; rfl) (fun _ hw => hw) ?_
                      refine z_skip_still rfl rfl (by rw [hops]; rfl) (fun _ hw => hw) ?_
                      refine z_skip_still rfl rfl (by rw [hops]; rfl) (fun _ hw => hw) ?_
                      refine z_skip_still rfl rfl (by rw [hops]; rfl) (fun _ hw => hw) ?_
                      refine z_skip rfl rfl (by rw [hops]; rfl) (fun _ _ hw => hw) ?_
                      refine z_skip rfl rfl (by rw [hops]; rfl) (fun _ _ hw => hw) ?_
                      refine z_skip rfl rfl (by rw [hops]; rfl) (fun _ _ hw => hw) ?_
                      refine z_skip rfl rfl (by rw [hops]; rfl) (fun _ _ hw => hw) ?_
                      refine z_skip rfl rfl (by rw [hops]; rfl) (fun _ _ hw => hw) ?_
                      refine z_skip_still rfl rfl (by rw [hops]; rfl) (fun _ hw => hw) ?_
                      refine z_still (v := .bool false) (val_pick rfl rfl rfl) rfl rfl rfl (fun _ hw => hw) ?_
                      obtain rfl := Option.some.inj H
                      exact z_nil ((K _ () HJ trivial).weak (fun a ha => ha.cons rfl (ha.cons rfl (ha.cons rfl (ha.nil)))) (fun w hw => hw))
                    ·
                      have H := cond_t he
                      clear he
                      refine z_still (v := .slice A_24 x50.1.length c_25) (val_move rfl rfl) rfl rfl (by rw [hops]; rfl) (fun _ hw => hw) ?_
                      obtain ⟨x99, hx99, H⟩ := Let_elim H
                      refine z_still (v := .string x99) (by subst hx99; exact val_convS rfl rfl Try.underlying22 Try.underlying5 Try.underlying9 (fun w hw => (row_w hw (j := 5) rfl))) rfl rfl (by rw [hops]; rfl) (fun _ hw => hw) ?_
                      clear hx99
                      refine z_still (v := .slice A_32 x57.1.length c_33) (val_move rfl rfl) rfl rfl (by rw [hops]; rfl) (fun _ hw => hw) ?_
                      refine z_still (v := .slice A_40 x65.1.length c_41) (val_move rfl rfl) rfl rfl (by rw [hops]; rfl) (fun _ hw => hw) ?_
                      refine z_still (v := .slice A_45 x83.length c_46) (val_move rfl rfl) rfl rfl (by rw [hops]; rfl) (fun _ hw => hw) ?_
                      refine z_still (v := .slice A2 a2.length c2) (val_move rfl rfl) rfl rfl (by rw [hops]; rfl) (fun _ hw => hw) ?_
                      obtain ⟨x107, hx107, H⟩ := Let_elim H
                      refine z_still (v := .int .i64 x107) (by subst hx107; exact val_len rfl rfl rfl Try.underlying22) rfl rfl (by rw [hops]; rfl) (fun _ hw => hw) ?_
                      clear hx107
                      obtain ⟨x101, hx_51, H⟩ := Option.bind_eq_some_iff.1 H
                      refine z_madeS (F := fun A_52 c_53 => .slice A_52 x101.length c_53) (xs := x101) rfl Try.func12 nm12 bs12 rfl (fun w hw => smithyref09_Of.calls x57.1 A_32 c_33 x101 hx_51 w (row_w hw (j := 3) rfl) hs_34.le) rfl rfl (by rw [hops]; rfl) (fun _ _ _ _ hw => hw.sel [1, 2, 3, 4, 5, 6, 7, 8, 9, 10] rfl rfl) (fun A_52 c_53 hs_54 => ?_)
                      clear hx_51
                      obtain ⟨x103, hx_56, H⟩ := Option.bind_eq_some_iff.1 H
                      refine z_madeS (F := fun A_57 c_58 => .slice A_57 x103.length c_58) (xs := x103) rfl Try.func12 nm12 bs12 rfl (fun w hw => smithyref09_Of.calls x65.1 A_40 c_41 x103 hx_56 w (row_w hw (j := 2) rfl) hs_42.le) rfl rfl (by rw [hops]; rfl) (fun _ _ _ _ hw => hw.sel [2, 3, 4, 5, 6, 7, 8, 9, 10, 11] rfl rfl) (fun A_57 c_58 hs_59 => ?_)
                      clear hx_56
                      obtain ⟨x105, hx_61, H⟩ := Option.bind_eq_some_iff.1 H
                      refine z_madeS (F := fun A_62 c_63 => .slice A_62 x105.length c_63) (xs := x105) rfl Try.func15 nm15 bs15 rfl (fun w hw => smithyref09_Mul.calls x101 x103 x83 A_52 c_53 A_57 c_58 A_45 c_46 x105 hx_61 w (row_w hw (j := 1) rfl) hs_54.le (row_w hw (j := 0) rfl) hs_59.le (row_w hw (j := 2) rfl) hs_47.le) rfl rfl (by rw [hops]; rfl) (fun _ _ _ _ hw => hw.sel [3, 4, 5, 6, 7, 8, 9, 10, 11, 12] rfl rfl) (fun A_62 c_63 hs_64 => ?_)
                      clear hx_61
                      obtain ⟨x108, hx_66, H⟩ := Option.bind_eq_some_iff.1 H
                      refine z_madeS (F := fun A_67 c_68 => .slice A_67 x108.length c_68) (xs := x108) rfl Try.func14 nm14 bs14 rfl (fun w hw => smithyref09_Bytes.calls x105 x107 A_62 c_63 x108 hx_66 w (row_w hw (j := 0) rfl) hs_64.le) rfl rfl (by rw [hops]; rfl) (fun _ _ _ _ hw => hw.sel [4, 5, 6, 7, 8, 9, 10, 11, 12, 13] rfl rfl) (fun A_67 c_68 hs_69 => ?_)
                      clear hx_66
                      obtain ⟨x109, hx109, H⟩ := Let_elim H
                      refine z_val (v := .string x109) (by subst hx109; exact val_convS rfl rfl Try.underlying22 Try.underlying5 Try.underlying9 (fun w hw => (row_w hw (j := 0) rfl))) rfl rfl (by rw [hops]; rfl) (fun _ _ hw => hw.sel [4, 5, 6, 7, 8, 9, 10, 11, 12, 13] rfl rfl) ?_
                      clear hx109
                      obtain ⟨x110, hx110, H⟩ := Let_elim H
                      refine z_still (v := .bool x110) (by subst hx110; exact val_bin rfl rfl rfl rfl (str_eql _ _ _)) rfl rfl (by rw [hops]; rfl) (fun _ hw => hw.sel [4, 5, 6, 7, 8, 9, 10, 11, 12, 13] rfl rfl) ?_
                      clear hx110
                      refine z_still (v := .bool x110) (val_pick rfl rfl rfl) rfl rfl rfl (fun _ hw => hw.sel [4, 5, 6, 7, 8, 9, 10, 11, 12, 13] rfl rfl) ?_
                      obtain rfl := Option.some.inj H
                      exact z_nil ((K _ () HJ trivial).weak (fun a ha => ha.cons rfl (ha.cons rfl (ha.cons rfl (ha.nil)))) (fun w hw => hw.sel [4, 5, 6, 7, 8, 9, 10, 11, 12, 13] rfl rfl))
                  ·
                    replace H := HB
                    clear HB
                    obtain ⟨x111, rfl⟩ : ∃ x, x = s := ⟨_, rfl⟩
                    change T 118 _ _ _
                    refine z_still (v := .bool x111) (val_move rfl rfl) rfl rfl rfl (fun _ hw => hw) ?_
                    refine z_bind H 5 (fun (s : Bool) (_ : Unit) => [(117, .bool s)]) (fun _ _ => Mm w [] h [.row (.slice A_45 x83.length c_46) 3 1 (x83.map (Value.int .i64)), .row (.slice A_40 x65.1.length c_41) 5 1 (x65.1.map U8), .row (.slice (some ⟨g_36, 0, none⟩) x63.length 1) 5 1 (x63.map U8), .row (.slice A_32 x57.1.length c_33) 5 1 (x57.1.map U8), .row (.slice (some ⟨g_28, 0, none⟩) x55.length 2) 5 1 (x55.map U8), .row (.slice A_24 x50.1.length c_25) 5 1 (x50.1.map U8), .row (.slice (some ⟨g_16, 0, none⟩) x47.length 1) 5 1 (x47.map U8), .row (.slice A_20 x48.length c_21) 5 1 (x48.map U8), .row (.slice A_5 x38.1.length c_6) 5 1 (x38.1.map U8), .row (.slice (some ⟨g_1, 0, none⟩) x21.length 3) 22 1 cs]) (fun _ _ => True) (fun Gr K s he HJ => ?_) (fun s g HB _ => ?_)
                    ·
                      clear H
                      cases x111
                      ·
                        have H := cond_f he
                        clear he
                        refine z_skip_still rfl rfl (by rw [hops]; rfl) (fun _ hw => hw) ?_
                        refine z_skip_still rfl rfl (by rw [hops]; rfl) (fun _ hw => hw) ?_
                        refine z_skip rfl rfl (by rw [hops]; rfl) (fun _ _ hw => hw) ?_
                        refine z_skip rfl rfl (by rw [hops]; rfl) (fun _ _ hw => hw) ?_
                        refine z_still (v := .bool false) (val_pick rfl rfl rfl) rfl rfl rfl (fun _ hw => hw) ?_
                        obtain rfl := Option.some.inj H
                        exact z_nil ((K _ () HJ trivial).weak (fun a ha => ha.cons rfl (ha.nil)) (fun w hw => hw))
                      ·
                        have H := cond_t he
                        clear he
                        refine z_still (v := .slice A_24 x50.1.length c_25) (val_move rfl rfl) rfl rfl (by rw [hops]; rfl) (fun _ hw => hw) ?_
                        refine z_still (v := .slice A_45 x83.length c_46) (val_move rfl rfl) rfl rfl (by rw [hops]; rfl) (fun _ hw => hw) ?_
                        obtain ⟨x114, hx_71, H⟩ := Option.bind_eq_some_iff.1 H
                        refine z_madeS (F := fun A_72 c_73 => .slice A_72 x114.length c_73) (xs := x114) rfl Try.func12 nm12 bs12 rfl (fun w hw => smithyref09_Of.calls x50.1 A_24 c_25 x114 hx_71 w (row_w hw (j := 5) rfl) hs_26.le) rfl rfl (by rw [hops]; rfl) (fun _ _ _ _ hw => hw.sel [1, 2, 3, 4, 5, 6, 7, 8, 9, 10] rfl rfl) (fun A_72 c_73 hs_74 => ?_)
                        clear hx_71
                        obtain ⟨x116, hx_76, H⟩ := Option.bind_eq_some_iff.1 H
                        refine z_made (v := .bool x116) rfl Try.func16 nm16 bs16 rfl (fun w hw => smithyref02_Less.calls x114 x83 A_72 c_73 A_45 c_46 x116 hx_76 w (row_w hw (j := 0) rfl) hs_74.le (row_w hw (j := 1) rfl) hs_47.le) rfl rfl (by rw [hops]; rfl) (fun _ _ hw => hw.sel [1, 2, 3, 4, 5, 6, 7, 8, 9, 10] rfl rfl) ?_
                        clear hx_76
                        refine z_still (v := .bool x116) (val_pick rfl rfl rfl) rfl rfl rfl (fun _ hw => hw.sel [1, 2, 3, 4, 5, 6, 7, 8, 9, 10] rfl rfl) ?_
                        obtain rfl := Option.some.inj H
                        exact z_nil ((K _ () HJ trivial).weak (fun a ha => ha.cons rfl (ha.nil)) (fun w hw => hw.sel [1, 2, 3, 4, 5, 6, 7, 8, 9, 10] rfl rfl))
                    ·
                      replace H := HB
                      clear HB
                      obtain ⟨x117, rfl⟩ : ∃ x, x = s := ⟨_, rfl⟩
                      change T 118 _ _ _
                      refine z_still (v := .bool x117) (val_assign rfl rfl) rfl rfl rfl (fun _ hw => hw) ?_
                      refine z_nil ?_
                      refine t_ret ?_
                      obtain rfl := Option.some.inj H
                      exact ret1 rfl (res_tmp rfl) (fun _ hw => ⟨rfl, hw.below⟩)
                ·
                  replace H := cond_t H
                  refine t_cond_true rfl ?_
                  refine t_seq ?_
                  refine t_plan (C := Mm w [] h [.row (.slice A_45 x83.length c_46) 3 1 (x83.map (Value.int .i64)), .row (.slice A_40 x65.1.length c_41) 5 1 (x65.1.map U8), .row (.slice (some ⟨g_36, 0, none⟩) x63.length 1) 5 1 (x63.map U8), .row (.slice A_32 x57.1.length c_33) 5 1 (x57.1.map U8), .row (.slice (some ⟨g_28, 0, none⟩) x55.length 2) 5 1 (x55.map U8), .row (.slice A_24 x50.1.length c_25) 5 1 (x50.1.map U8), .row (.slice (some ⟨g_16, 0, none⟩) x47.length 1) 5 1 (x47.map U8), .row (.slice A_20 x48.length c_21) 5 1 (x48.map U8), .row (.slice A_5 x38.1.length c_6) 5 1 (x38.1.map U8), .row (.slice (some ⟨g_1, 0, none⟩) x21.length 3) 22 1 cs]) [] [(0, false), (1, true), (2, true), (3, true), (4, true), (5, true), (6, false), (7, false), (8, true), (9, true), (10, true)] (by kernel_rfl) (by kernel_rfl) (fun _ hw => hw.drew) (fun ops hops => ?_)
                  obtain ⟨x86, hx_77, H⟩ := Option.bind_eq_some_iff.1 H
                  refine z_made (v := .bool x86) rfl Try.func10 nm10 bs10 rfl (fun w hw => smithylaw09_fixed.calls x86 hx_77 w) rfl rfl rfl (fun _ _ hw => hw) ?_
                  clear hx_77
                  refine z_still (v := .bool x86) (val_move rfl rfl) rfl rfl rfl (fun _ hw => hw) ?_
                  refine z_bind H 8 (fun (s : Bool) (_ : Unit) => [(95, .bool s)]) (fun _ _ => Mm w [] h [.row (.slice A_45 x83.length c_46) 3 1 (x83.map (Value.int .i64)), .row (.slice A_40 x65.1.length c_41) 5 1 (x65.1.map U8), .row (.slice (some ⟨g_36, 0, none⟩) x63.length 1) 5 1 (x63.map U8), .row (.slice A_32 x57.1.length c_33) 5 1 (x57.1.map U8), .row (.slice (some ⟨g_28, 0, none⟩) x55.length 2) 5 1 (x55.map U8), .row (.slice A_24 x50.1.length c_25) 5 1 (x50.1.map U8), .row (.slice (some ⟨g_16, 0, none⟩) x47.length 1) 5 1 (x47.map U8), .row (.slice A_20 x48.length c_21) 5 1 (x48.map U8), .row (.slice A_5 x38.1.length c_6) 5 1 (x38.1.map U8), .row (.slice (some ⟨g_1, 0, none⟩) x21.length 3) 22 1 cs]) (fun _ _ => True) (fun Gr K s he HJ => ?_) (fun s g HB _ => ?_)
                  ·
                    clear H
                    cases x86
                    ·
                      have H := cond_f he
                      clear he
                      refine z_skip_still rfl rfl (by rw [hops]; rfl) (fun _ hw => hw) ?_
                      refine z_skip_still rfl rfl (by rw [hops]; rfl) (fun _ hw => hw) ?_
                      refine z_skip_still rfl rfl (by rw [hops]; rfl) (fun _ hw => hw) ?_
                      refine z_skip_still rfl rfl (by rw [hops]; rfl) (fun _ hw => hw) ?_
                      refine z_skip rfl rfl (by rw [hops]; rfl) (fun _ _ hw => hw) ?_
                      refine z_skip rfl rfl (by rw [hops]; rfl) (fun _ _ hw => hw) ?_
                      refine z_skip_still rfl rfl (by rw [hops]; rfl) (fun _ hw => hw) ?_
                      refine z_still (v := .bool false) (val_pick rfl rfl rfl) rfl rfl rfl (fun _ hw => hw) ?_
                      obtain rfl := Option.some.inj H
                      exact z_nil ((K _ () HJ trivial).weak (fun a ha => ha.cons rfl (ha.nil)) (fun w hw => hw))
                    ·
                      have H := cond_t he
                      clear he
                      refine z_still (v := .slice A_24 x50.1.length c_25) (val_move rfl rfl) rfl rfl (by rw [hops]; rfl) (fun _ hw => hw) ?_
                      obtain ⟨x89, hx89, H⟩ := Let_elim H
                      refine z_still (v := .string x89) (by subst hx89; exact val_convS rfl rfl Try.underlying22 Try.underlying5 Try.underlying9 (fun w hw => (row_w hw (j := 5) rfl))) rfl rfl (by rw [hops]; rfl) (fun _ hw => hw) ?_
                      clear hx89
                      refine z_still (v := .slice A2 a2.length c2) (val_move rfl rfl) rfl rfl (by rw [hops]; rfl) (fun _ hw => hw) ?_
                      obtain ⟨x91, hx91, H⟩ := Let_elim H
                      refine z_still (v := .int .i64 x91) (by subst hx91; exact val_len rfl rfl rfl Try.underlying22) rfl rfl (by rw [hops]; rfl) (fun _ hw => hw) ?_
                      clear hx91
                      obtain ⟨hq_78, H⟩ := Chk_elim H
                      obtain ⟨x92, hx92, H⟩ := Let_elim H
                      refine z_makeSlice (f := U8) (z0 := 0#8) (N := x91.toNat) rfl rfl rfl Try.underlying22 (in5.trans rfl) rfl hq_78.1 rfl hq_78.2 (by decide) hx92 rfl rfl (by rw [hops]; rfl) (fun _ _ _ hw => hw.sel [1, 2, 3, 4, 5, 6, 7, 8, 9, 10] rfl rfl) (fun g_79 hs_81 => ?_)
                      clear hx92
                      obtain ⟨x93, hx93, H⟩ := Let_elim H
                      refine z_val (v := .string x93) (by subst hx93; exact val_convS rfl rfl Try.underlying22 Try.underlying5 Try.underlying9 (fun w hw => (row_w hw (j := 0) rfl))) rfl rfl (by rw [hops]; rfl) (fun _ _ hw => hw.sel [1, 2, 3, 4, 5, 6, 7, 8, 9, 10] rfl rfl) ?_
                      clear hx93
                      obtain ⟨x94, hx94, H⟩ := Let_elim H
                      refine z_still (v := .bool x94) (by subst hx94; exact val_bin rfl rfl rfl rfl (str_eql _ _ _)) rfl rfl (by rw [hops]; rfl) (fun _ hw => hw.sel [1, 2, 3, 4, 5, 6, 7, 8, 9, 10] rfl rfl) ?_
                      clear hx94
                      refine z_still (v := .bool x94) (val_pick rfl rfl rfl) rfl rfl rfl (fun _ hw => hw.sel [1, 2, 3, 4, 5, 6, 7, 8, 9, 10] rfl rfl) ?_
                      obtain rfl := Option.some.inj H
                      exact z_nil ((K _ () HJ trivial).weak (fun a ha => ha.cons rfl (ha.nil)) (fun w hw => hw.sel [1, 2, 3, 4, 5, 6, 7, 8, 9, 10] rfl rfl))
                  ·
                    replace H := HB
                    clear HB
                    obtain ⟨x95, rfl⟩ : ∃ x, x = s := ⟨_, rfl⟩
                    change T 118 _ _ _
                    refine z_still (v := .bool x95) (val_assign rfl rfl) rfl rfl rfl (fun _ hw => hw) ?_
                    refine z_nil ?_
                    refine t_ret ?_
                    obtain rfl := Option.some.inj H
                    exact ret1 rfl (res_tmp rfl) (fun _ hw => ⟨rfl, hw.below⟩)
              ·
                replace H := cond_t H
                refine t_cond_true rfl ?_
                refine t_seq ?_
                refine t_region (fun ops hops => ?_)
                clear hops
                refine z_val (v := .bool false) (val_assign rfl rfl) rfl rfl rfl (fun _ _ _ => trivial) ?_
                refine z_nil ?_
                refine t_ret ?_
                obtain rfl := Option.some.inj H
                exact ret1 rfl (res_tmp rfl) (fun _ hw => ⟨rfl, hw.below⟩)
      ·
        replace H := cond_t H
        refine t_cond_true rfl ?_
        refine t_seq ?_
        refine t_region (fun ops hops => ?_)
        clear hops
        obtain ⟨x33, hx_82, H⟩ := Option.bind_eq_some_iff.1 H
        refine z_made (v := .bool x33) rfl Try.func10 nm10 bs10 rfl (fun w hw => smithylaw09_fixed.calls x33 hx_82 w) rfl rfl rfl (fun _ _ _ => trivial) ?_
        clear hx_82
        refine z_val (v := .bool x33) (val_assign rfl rfl) rfl rfl rfl (fun _ _ _ => trivial) ?_
        refine z_nil ?_
        refine t_ret ?_
        obtain rfl := Option.some.inj H
        exact ret1 rfl (res_tmp rfl) (fun _ hw => ⟨rfl, hw.below⟩)
def smithylaw09_ModexpNoughts (a0 : List (BitVec 8)) (a1 : List (BitVec 8)) (a2 : List (BitVec 8)) (a3 : BitVec 8) : Option (Bool) :=
  Let ((a3.toNat : Int)) fun x16 => Let (Int.tmod x16 8) fun x17 => Let ((a0.length : Int)) fun x19 => Let (wi (x19 + x17)) fun x21 => Let (decide (64 < x21)) fun x22 => (bif x22 then some true else Let ((a1.length : Int)) fun x25 => Let (wi (x25 + x17)) fun x27 => Let (decide (64 < x27)) fun x28 => some x28).bind (fun x29 => (bif x29 then some true else Let ((a2.length : Int)) fun x32 => Let (wi (x32 + x17)) fun x34 => Let (decide (64 < x34)) fun x35 => some x35).bind (fun x36 => (bif x36 then some true else Let ((a0.length : Int)) fun x39 => Let (decide (100 < x39)) fun x40 => some x40).bind (fun x41 => (bif x41 then some true else Let ((a1.length : Int)) fun x44 => Let (decide (100 < x44)) fun x45 => some x45).bind (fun x46 => (bif x46 then some true else Let ((a2.length : Int)) fun x49 => Let (decide (100 < x49)) fun x50 => some x50).bind (fun x51 => (bif x51 then (smithylaw09_fixed).bind fun x52 => some x52 else Chk ((0 : Int) ≤ x17 ∧ x17.toNat * 1 ≤ 140737488355328) <| Let (List.replicate x17.toNat 0#8) fun x54 => (modexp_Pow a0 a1 a2).bind fun x59 => Let (([] : List (BitVec 8))) fun x63 => Chk ((x63.length + x54.length) * 1 ≤ 140737488355328) <| Let (x63 ++ x54) fun x65 => Chk ((x65.length + a0.length) * 1 ≤ 140737488355328) <| Let (x65 ++ a0) fun x67 => Let (([] : List (BitVec 8))) fun x68 => Chk ((x68.length + x54.length) * 1 ≤ 140737488355328) <| Let (x68 ++ x54) fun x70 => Chk ((x70.length + a1.length) * 1 ≤ 140737488355328) <| Let (x70 ++ a1) fun x72 => Let (([] : List (BitVec 8))) fun x73 => Chk ((x73.length + x54.length) * 1 ≤ 140737488355328) <| Let (x73 ++ x54) fun x75 => Chk ((x75.length + a2.length) * 1 ≤ 140737488355328) <| Let (x75 ++ a2) fun x77 => (modexp_Pow x67 x72 x77).bind fun x78 => (smithylaw09_fixed).bind fun x81 => (bif x81 then Let (x59.2 == 0) fun x84 => some x84 else some false).bind (fun x85 => (bif x85 then Let (x78.2 == 0) fun x88 => some x88 else some false).bind (fun x89 => (bif x89 then Let (strOf x78.1) fun x92 => Let (strOf x54) fun x94 => Let (strOf x59.1) fun x96 => Chk (x94.size + x96.size ≤ 9223372036854775807) <| Let (x94 ++ x96) fun x97 => Let (x92.toList == x97.toList) fun x98 => some x98 else some false).bind (fun x99 => some x99)))))))))
set_option maxRecDepth 100000 in
theorem smithylaw09_ModexpNoughts.calls  (a0 : List (BitVec 8)) (a1 : List (BitVec 8)) (a2 : List (BitVec 8)) (a3 : BitVec 8) (A0 : Option Addr) (c0 : Nat) (A1 : Option Addr) (c1 : Nat) (A2 : Option Addr) (c2 : Nat) (r : Bool) (H : smithylaw09_ModexpNoughts a0 a1 a2 a3 = some r) (w : World) (hs0 : SlW w U8 A0 a0) (hc0 : a0.length ≤ c0) (hs1 : SlW w U8 A1 a1) (hc1 : a1.length ≤ c1) (hs2 : SlW w U8 A2 a2) (hc2 : a2.length ≤ c2)  :
    Made Try.prog 5 #[.slice A0 a0.length c0, .slice A1 a1.length c1, .slice A2 a2.length c2, U8 a3] w (.bool r) := by
  unfold smithylaw09_ModexpNoughts at H
  replace hs0 := hs0.toH
  replace hs1 := hs1.toH
  replace hs2 := hs2.toH
  have hM := Mm.start w (snap w) (snap_ok w)
  generalize snap w = h at *
  refine t_enter (vs := [.slice A0 a0.length c0, .slice A1 a1.length c1, .slice A2 a2.length c2, U8 a3]) (n := 100) Try.func5 rfl rfl rfl hM ?_
  clear hM
  change T 100 _ _ _
  refine t_seq ?_
  refine t_region (fun ops hops => ?_)
  clear hops
  refine z_val (v := .bool false) (val_assign rfl rfl) rfl rfl rfl (fun _ _ _ => trivial) ?_
  refine z_nil ?_
  refine t_seq ?_
  refine t_region (fun ops hops => ?_)
  clear hops
  refine z_val (v := U8 a3) (val_move rfl rfl) rfl rfl rfl (fun _ _ _ => trivial) ?_
  obtain ⟨x16, hx16, H⟩ := Let_elim H
  refine z_val (v := .int .i64 x16) (by subst hx16; exact val_conv rfl rfl (fun w => conv_u8_int w _ _ _ (by rw [Try.underlying5]; rfl) Try.underlying3)) rfl rfl rfl (fun _ _ _ => trivial) ?_
  clear hx16
  obtain ⟨x17, hx17, H⟩ := Let_elim H
  refine z_val (v := .int .i64 x17) (by subst hx17; exact val_bin rfl rfl rfl rfl (i64_rem _ _ _ (by decide))) rfl rfl rfl (fun _ _ _ => trivial) ?_
  clear hx17
  refine z_val (v := .int .i64 x17) (val_assign rfl rfl) rfl rfl rfl (fun _ _ _ => trivial) ?_
  refine z_nil ?_
  refine t_seq ?_
  refine t_seq ?_
  refine t_region (fun ops hops => ?_)
  refine z_val (v := .slice A0 a0.length c0) (val_move rfl rfl) rfl rfl rfl (fun _ _ _ => trivial) ?_
  obtain ⟨x19, hx19, H⟩ := Let_elim H
  refine z_val (v := .int .i64 x19) (by subst hx19; exact val_len rfl rfl rfl Try.underlying22) rfl rfl rfl (fun _ _ _ => trivial) ?_
  clear hx19
  refine z_val (v := .int .i64 x17) (val_move rfl rfl) rfl rfl rfl (fun _ _ _ => trivial) ?_
  obtain ⟨x21, hx21, H⟩ := Let_elim H
  refine z_val (v := .int .i64 x21) (by subst hx21; exact val_bin rfl rfl rfl rfl (i64_add _ _ _)) rfl rfl rfl (fun _ _ _ => trivial) ?_
  clear hx21
  obtain ⟨x22, hx22, H⟩ := Let_elim H
  refine z_val (v := .bool x22) (by subst hx22; exact val_bin rfl rfl rfl rfl (i64_gtr _ _ _)) rfl rfl rfl (fun _ _ _ => trivial) ?_
  clear hx22
  refine z_val (v := .bool x22) (val_move rfl rfl) rfl rfl rfl (fun _ _ _ => trivial) ?_
  refine z_bind H 6 (fun (s : Bool) (_ : Unit) => [(0, .slice A0 a0.length c0), (1, .slice A1 a1.length c1), (2, .slice A2 a2.length c2), (9, .int .i64 x17), (29, .bool s)]) (fun _ _ => Mm w [] h []) (fun _ _ => True) (fun Gr K s he HJ => ?_) (fun s g HB _ => ?_)
  ·
    clear H
    cases x22
    ·
      have H := cond_f he
      clear he
      refine z_val (v := .slice A1 a1.length c1) (val_move rfl rfl) rfl rfl (by rw [hops]; rfl) (fun _ _ _ => trivial) ?_
      obtain ⟨x25, hx25, H⟩ := Let_elim H
      refine z_val (v := .int .i64 x25) (by subst hx25; exact val_len rfl rfl rfl Try.underlying22) rfl rfl (by rw [hops]; rfl) (fun _ _ _ => trivial) ?_
      clear hx25
      refine z_val (v := .int .i64 x17) (val_move rfl rfl) rfl rfl (by rw [hops]; rfl) (fun _ _ _ => trivial) ?_
      obtain ⟨x27, hx27, H⟩ := Let_elim H
      refine z_val (v := .int .i64 x27) (by subst hx27; exact val_bin rfl rfl rfl rfl (i64_add _ _ _)) rfl rfl (by rw [hops]; rfl) (fun _ _ _ => trivial) ?_
      clear hx27
      obtain ⟨x28, hx28, H⟩ := Let_elim H
      refine z_val (v := .bool x28) (by subst hx28; exact val_bin rfl rfl rfl rfl (i64_gtr _ _ _)) rfl rfl (by rw [hops]; rfl) (fun _ _ _ => trivial) ?_
      clear hx28
      refine z_val (v := .bool x28) (val_pick rfl rfl rfl) rfl rfl rfl (fun _ _ _ => trivial) ?_
      obtain rfl := Option.some.inj H
      exact z_nil ((K _ () HJ trivial).weak (fun a ha => ha.cons rfl (ha.cons rfl (ha.cons rfl (ha.cons rfl (ha.cons rfl (ha.nil)))))) (fun w hw => hw))
    ·
      have H := cond_t he
      clear he
      refine z_skip rfl rfl (by rw [hops]; rfl) (fun _ _ _ => trivial) ?_
      refine z_skip rfl rfl (by rw [hops]; rfl) (fun _ _ _ => trivial) ?_
      refine z_skip rfl rfl (by rw [hops]; rfl) (fun _ _ _ => trivial) ?_
      refine z_skip rfl rfl (by rw [hops]; rfl) (fun _ _ _ => trivial) ?_
      refine z_skip rfl rfl (by rw [hops]; rfl) (fun _ _ _ => trivial) ?_
      refine z_val (v := .bool true) (val_pick rfl rfl rfl) rfl rfl rfl (fun _ _ _ => trivial) ?_
      obtain rfl := Option.some.inj H
      exact z_nil ((K _ () HJ trivial).weak (fun a ha => ha.cons rfl (ha.cons rfl (ha.cons rfl (ha.cons rfl (ha.cons rfl (ha.nil)))))) (fun w hw => hw))
  ·
    replace H := HB
    clear HB
    obtain ⟨x29, rfl⟩ : ∃ x, x = s := ⟨_, rfl⟩
    change T 100 _ _ _
    refine z_val (v := .bool x29) (val_move rfl rfl) rfl rfl rfl (fun _ _ _ => trivial) ?_
    refine z_bind H 6 (fun (s : Bool) (_ : Unit) => [(0, .slice A0 a0.length c0), (1, .slice A1 a1.length c1), (2, .slice A2 a2.length c2), (9, .int .i64 x17), (36, .bool s)]) (fun _ _ => Mm w [] h []) (fun _ _ => True) (fun Gr K s he HJ => ?_) (fun s g HB _ => ?_)
    ·
      clear H
      cases x29
      ·
        have H := cond_f he
        clear he
        refine z_val (v := .slice A2 a2.length c2) (val_move rfl rfl) rfl rfl (by rw [hops]; rfl) (fun _ _ _ => trivial) ?_
        obtain ⟨x32, hx32, H⟩ := Let_elim H
        refine z_val (v := .int .i64 x32) (by subst hx32; exact val_len rfl rfl rfl Try.underlying22) rfl rfl (by rw [hops]; rfl) (fun _ _ _ => trivial) ?_
        clear hx32
        refine z_val (v := .int .i64 x17) (val_move rfl rfl) rfl rfl (by rw [hops]; rfl) (fun _ _ _ => trivial) ?_
        obtain ⟨x34, hx34, H⟩ := Let_elim H
        refine z_val (v := .int .i64 x34) (by subst hx34; exact val_bin rfl rfl rfl rfl (i64_add _ _ _)) rfl rfl (by rw [hops]; rfl) (fun _ _ _ => trivial) ?_
        clear hx34
        obtain ⟨x35, hx35, H⟩ := Let_elim H
        refine z_val (v := .bool x35) (by subst hx35; exact val_bin rfl rfl rfl rfl (i64_gtr _ _ _)) rfl rfl (by rw [hops]; rfl) (fun _ _ _ => trivial) ?_
        clear hx35
        refine z_val (v := .bool x35) (val_pick rfl rfl rfl) rfl rfl rfl (fun _ _ _ => trivial) ?_
        obtain rfl := Option.some.inj H
        exact z_nil ((K _ () HJ trivial).weak (fun a ha => ha.cons rfl (ha.cons rfl (ha.cons rfl (ha.cons rfl (ha.cons rfl (ha.nil)))))) (fun w hw => hw))
      ·
        have H := cond_t he
        clear he
        refine z_skip rfl rfl (by rw [hops]; rfl) (fun _ _ _ => trivial) ?_
        refine z_skip rfl rfl (by rw [hops]; rfl) (fun _ _ _ => trivial) ?_
        refine z_skip rfl rfl (by rw [hops]; rfl) (fun _ _ _ => trivial) ?_
        refine z_skip rfl rfl (by rw [hops]; rfl) (fun _ _ _ => trivial) ?_
        refine z_skip rfl rfl (by rw [hops]; rfl) (fun _ _ _ => trivial) ?_
        refine z_val (v := .bool true) (val_pick rfl rfl rfl) rfl rfl rfl (fun _ _ _ => trivial) ?_
        obtain rfl := Option.some.inj H
        exact z_nil ((K _ () HJ trivial).weak (fun a ha => ha.cons rfl (ha.cons rfl (ha.cons rfl (ha.cons rfl (ha.cons rfl (ha.nil)))))) (fun w hw => hw))
    ·
      replace H := HB
      clear HB
      obtain ⟨x36, rfl⟩ : ∃ x, x = s := ⟨_, rfl⟩
      change T 100 _ _ _
      refine z_val (v := .bool x36) (val_move rfl rfl) rfl rfl rfl (fun _ _ _ => trivial) ?_
      refine z_bind H 4 (fun (s : Bool) (_ : Unit) => [(0, .slice A0 a0.length c0), (1, .slice A1 a1.length c1), (2, .slice A2 a2.length c2), (9, .int .i64 x17), (41, .bool s)]) (fun _ _ => Mm w [] h []) (fun _ _ => True) (fun Gr K s he HJ => ?_) (fun s g HB _ => ?_)
      ·
        clear H
        cases x36
        ·
          have H := cond_f he
          clear he
          refine z_val (v := .slice A0 a0.length c0) (val_move rfl rfl) rfl rfl (by rw [hops]; rfl) (fun _ _ _ => trivial) ?_
          obtain ⟨x39, hx39, H⟩ := Let_elim H
          refine z_val (v := .int .i64 x39) (by subst hx39; exact val_len rfl rfl rfl Try.underlying22) rfl rfl (by rw [hops]; rfl) (fun _ _ _ => trivial) ?_
          clear hx39
          obtain ⟨x40, hx40, H⟩ := Let_elim H
          refine z_val (v := .bool x40) (by subst hx40; exact val_bin rfl rfl rfl rfl (i64_gtr _ _ _)) rfl rfl (by rw [hops]; rfl) (fun _ _ _ => trivial) ?_
          clear hx40
          refine z_val (v := .bool x40) (val_pick rfl rfl rfl) rfl rfl rfl (fun _ _ _ => trivial) ?_
          obtain rfl := Option.some.inj H
          exact z_nil ((K _ () HJ trivial).weak (fun a ha => ha.cons rfl (ha.cons rfl (ha.cons rfl (ha.cons rfl (ha.cons rfl (ha.nil)))))) (fun w hw => hw))
        ·
          have H := cond_t he
          clear he
          refine z_skip rfl rfl (by rw [hops]; rfl) (fun _ _ _ => trivial) ?_
          refine z_skip rfl rfl (by rw [hops]; rfl) (fun _ _ _ => trivial) ?_
          refine z_skip rfl rfl (by rw [hops]; rfl) (fun _ _ _ => trivial) ?_
          refine z_val (v := .bool true) (val_pick rfl rfl rfl) rfl rfl rfl (fun _ _ _ => trivial) ?_
          obtain rfl := Option.some.inj H
          exact z_nil ((K _ () HJ trivial).weak (fun a ha => ha.cons rfl (ha.cons rfl (ha.cons rfl (ha.cons rfl (ha.cons rfl (ha.nil)))))) (fun w hw => hw))
      ·
        replace H := HB
        clear HB
        obtain ⟨x41, rfl⟩ : ∃ x, x = s := ⟨_, rfl⟩
        change T 100 _ _ _
        refine z_val (v := .bool x41) (val_move rfl rfl) rfl rfl rfl (fun _ _ _ => trivial) ?_
        refine z_bind H 4 (fun (s : Bool) (_ : Unit) => [(0, .slice A0 a0.length c0), (1, .slice A1 a1.length c1), (2, .slice A2 a2.length c2), (9, .int .i64 x17), (46, .bool s)]) (fun _ _ => Mm w [] h []) (fun _ _ => True) (fun Gr K s he HJ => ?_) (fun s g HB _ => ?_)
        ·
          clear H
          cases x41
          ·
            have H := cond_f he
            clear he
            refine z_val (v := .slice A1 a1.length c1) (val_move rfl rfl) rfl rfl (by rw [hops]; rfl) (fun _ _ _ => trivial) ?_
            obtain ⟨x44, hx44, H⟩ := Let_elim H
            refine z_val (v := .int .i64 x44) (by subst hx44; exact val_len rfl rfl rfl Try.underlying22) rfl rfl (by rw [hops]; rfl) (fun _ _ _ => trivial) ?_
            clear hx44
            obtain ⟨x45, hx45, H⟩ := Let_elim H
            refine z_val (v := .bool x45) (by subst hx45; exact val_bin rfl rfl rfl rfl (i64_gtr _ _ _)) rfl rfl (by rw [hops]; rfl) (fun _ _ _ => trivial) ?_
            clear hx45
            refine z_val (v := .bool x45) (val_pick rfl rfl rfl) rfl rfl rfl (fun _ _ _ => trivial) ?_
            obtain rfl := Option.some.inj H
            exact z_nil ((K _ () HJ trivial).weak (fun a ha => ha.cons rfl (ha.cons rfl (ha.cons rfl (ha.cons rfl (ha.cons rfl (ha.nil)))))) (fun w hw => hw))
          ·
            have H := cond_t he
            clear he
            refine z_skip rfl rfl (by rw [hops]; rfl) (fun _ _ _ => trivial) ?_
            refine z_skip rfl rfl (by rw [hops]; rfl) (fun _ _ _ => trivial) ?_
            refine z_skip rfl rfl (by rw [hops]; rfl) (fun _ _ _ => trivial) ?_
            refine z_val (v := .bool true) (val_pick rfl rfl rfl) rfl rfl rfl (fun _ _ _ => trivial) ?_
            obtain rfl := Option.some.inj H
            exact z_nil ((K _ () HJ trivial).weak (fun a ha => ha.cons rfl (ha.cons rfl (ha.cons rfl (ha.cons rfl (ha.cons rfl (ha.nil)))))) (fun w hw => hw))
        ·
          replace H := HB
          clear HB
          obtain ⟨x46, rfl⟩ : ∃ x, x = s := ⟨_, rfl⟩
          change T 100 _ _ _
          refine z_val (v := .bool x46) (val_move rfl rfl) rfl rfl rfl (fun _ _ _ => trivial) ?_
          refine z_bind H 4 (fun (s : Bool) (_ : Unit) => [(0, .slice A0 a0.length c0), (1, .slice A1 a1.length c1), (2, .slice A2 a2.length c2), (9, .int .i64 x17), (51, .bool s)]) (fun _ _ => Mm w [] h []) (fun _ _ => True) (fun Gr K s he HJ => ?_) (fun s g HB _ => ?_)
          ·
            clear H
            cases x46
            ·
              have H := cond_f he
              clear he
              refine z_val (v := .slice A2 a2.length c2) (val_move rfl rfl) rfl rfl (by rw [hops]; rfl) (fun _ _ _ => trivial) ?_
              obtain ⟨x49, hx49, H⟩ := Let_elim H
              refine z_val (v := .int .i64 x49) (by subst hx49; exact val_len rfl rfl rfl Try.underlying22) rfl rfl (by rw [hops]; rfl) (fun _ _ _ => trivial) ?_
              clear hx49
              obtain ⟨x50, hx50, H⟩ := Let_elim H
              refine z_val (v := .bool x50) (by subst hx50; exact val_bin rfl rfl rfl rfl (i64_gtr _ _ _)) rfl rfl (by rw [hops]; rfl) (fun _ _ _ => trivial) ?_
              clear hx50
              refine z_val (v := .bool x50) (val_pick rfl rfl rfl) rfl rfl rfl (fun _ _ _ => trivial) ?_
              obtain rfl := Option.some.inj H
              exact z_nil ((K _ () HJ trivial).weak (fun a ha => ha.cons rfl (ha.cons rfl (ha.cons rfl (ha.cons rfl (ha.cons rfl (ha.nil)))))) (fun w hw => hw))
            ·
              have H := cond_t he
              clear he
              refine z_skip rfl rfl (by rw [hops]; rfl) (fun _ _ _ => trivial) ?_
              refine z_skip rfl rfl (by rw [hops]; rfl) (fun _ _ _ => trivial) ?_
              refine z_skip rfl rfl (by rw [hops]; rfl) (fun _ _ _ => trivial) ?_
              refine z_val (v := .bool true) (val_pick rfl rfl rfl) rfl rfl rfl (fun _ _ _ => trivial) ?_
              obtain rfl := Option.some.inj H
              exact z_nil ((K _ () HJ trivial).weak (fun a ha => ha.cons rfl (ha.cons rfl (ha.cons rfl (ha.cons rfl (ha.cons rfl (ha.nil)))))) (fun w hw => hw))
          ·
            replace H := HB
            clear HB
            obtain ⟨x51, rfl⟩ : ∃ x, x = s := ⟨_, rfl⟩
            change T 100 _ _ _
            refine z_nil ?_
            cases x51
            ·
              replace H := cond_f H
              refine t_cond_false rfl ?_
              refine t_skip ?_
              refine t_seq ?_
              refine t_region (fun ops hops => ?_)
              clear hops
              refine z_val (v := .int .i64 x17) (val_move rfl rfl) rfl rfl rfl (fun _ _ _ => trivial) ?_
              obtain ⟨hq_1, H⟩ := Chk_elim H
              obtain ⟨x54, hx54, H⟩ := Let_elim H
              refine z_makeSlice (f := U8) (z0 := 0#8) (N := x17.toNat) rfl rfl rfl Try.underlying22 (in5.trans rfl) rfl hq_1.1 rfl hq_1.2 (by decide) hx54 rfl rfl rfl (fun _ _ _ _ => trivial) (fun g_2 hs_4 => ?_)
              clear hx54
              refine z_val (v := .slice (some ⟨g_2, 0, none⟩) x54.length (x17.toNat)) (val_assign rfl rfl) rfl rfl rfl (fun _ _ _ => trivial) ?_
              refine z_nil ?_
              refine t_seq ?_
              refine t_region (fun ops hops => ?_)
              clear hops
              refine z_val (v := .slice A0 a0.length c0) (val_move rfl rfl) rfl rfl rfl (fun _ _ _ => trivial) ?_
              refine z_val (v := .slice A1 a1.length c1) (val_move rfl rfl) rfl rfl rfl (fun _ _ _ => trivial) ?_
              refine z_val (v := .slice A2 a2.length c2) (val_move rfl rfl) rfl rfl rfl (fun _ _ _ => trivial) ?_
              obtain ⟨x59, hx, H⟩ := Option.bind_eq_some_iff.1 H
              refine z_madeS (F := fun A_5 c_6 => .tuple #[.slice A_5 x59.1.length c_6, .int .i64 x59.2]) (xs := x59.1) rfl Try.func8 nm8 bs8 rfl (fun w hw => modexp_Pow.calls a0 a1 a2 A0 c0 A1 c1 A2 c2 x59 hx w (hs0.toW hw) hc0 (hs1.toW hw) hc1 (hs2.toW hw) hc2) rfl rfl rfl (fun _ _ _ _ _ => trivial) (fun A_5 c_6 hs_7 => ?_)
              clear hx
              refine z_val (v := .tuple #[.slice A_5 x59.1.length c_6, .int .i64 x59.2]) (val_move rfl rfl) rfl rfl rfl (fun _ _ _ => trivial) ?_
              refine z_val (v := .slice A_5 x59.1.length c_6) (val_extract rfl rfl rfl) rfl rfl rfl (fun _ _ _ => trivial) ?_
              refine z_val (v := .int .i64 x59.2) (val_extract rfl rfl rfl) rfl rfl rfl (fun _ _ _ => trivial) ?_
              refine z_val (v := .slice A_5 x59.1.length c_6) (val_assign rfl rfl) rfl rfl rfl (fun _ _ _ => trivial) ?_
              refine z_val (v := .int .i64 x59.2) (val_assign rfl rfl) rfl rfl rfl (fun _ _ _ => trivial) ?_
              refine z_nil ?_
              refine t_seq ?_
              refine t_region (fun ops hops => ?_)
              clear hops
              obtain ⟨x63, hx63, H⟩ := Let_elim H
              have hlx63 : x63.length = 0 := by subst hx63; rfl
              refine z_buildSlice' (e := 5) (f := U8) (xs := x63) (vs := []) rfl rfl (by subst hx63; intro w; kernel_rfl) hlx63 (by decide) rfl rfl rfl (fun _ _ _ _ => trivial) (fun g_9 hs_11 => ?_)
              clear hx63 hlx63
              refine z_val (v := .slice (some ⟨g_2, 0, none⟩) x54.length (x17.toNat)) (val_move rfl rfl) rfl rfl rfl (fun _ _ _ => trivial) ?_
              obtain ⟨hq_12, H⟩ := Chk_elim H
              obtain ⟨x65, hx65, H⟩ := Let_elim H
              refine z_append (f := U8) (j := 0) (xs := x63) (ys := x54) (zs := x65) rfl rfl Try.underlying22 in5 rfl rfl rfl rfl (fun w hw => (row_w hw (j := 2) rfl)) (fun _ => rfl) hq_12 (by decide) hx65 (fun A_13 c_14 => [.row (.slice A_13 x65.length c_14) 5 1 (x65.map U8), .row (.slice A_5 x59.1.length c_6) 5 1 (x59.1.map U8), .row (.slice (some ⟨g_2, 0, none⟩) x54.length (x17.toNat)) 5 1 (x54.map U8)]) (fun _ _ => rfl) rfl rfl rfl (fun _ _ _ _ _ => trivial) (fun A_13 c_14 hs_15 => ?_)
              clear hx65
              refine z_val (v := .slice A0 a0.length c0) (val_move rfl rfl) rfl rfl rfl (fun _ _ _ => trivial) ?_
              obtain ⟨hq_16, H⟩ := Chk_elim H
              obtain ⟨x67, hx67, H⟩ := Let_elim H
              refine z_append (f := U8) (j := 0) (xs := x65) (ys := a0) (zs := x67) rfl rfl Try.underlying22 in5 rfl rfl rfl rfl (fun w hw => (hs0.toW hw)) (fun _ => rfl) hq_16 (by decide) hx67 (fun A_17 c_18 => [.row (.slice A_17 x67.length c_18) 5 1 (x67.map U8), .row (.slice A_5 x59.1.length c_6) 5 1 (x59.1.map U8), .row (.slice (some ⟨g_2, 0, none⟩) x54.length (x17.toNat)) 5 1 (x54.map U8)]) (fun _ _ => rfl) rfl rfl rfl (fun _ _ _ _ _ => trivial) (fun A_17 c_18 hs_19 => ?_)
              clear hx67
              obtain ⟨x68, hx68, H⟩ := Let_elim H
              have hlx68 : x68.length = 0 := by subst hx68; rfl
              refine z_buildSlice' (e := 5) (f := U8) (xs := x68) (vs := []) rfl rfl (by subst hx68; intro w; kernel_rfl) hlx68 (by decide) rfl rfl rfl (fun _ _ _ _ => trivial) (fun g_20 hs_22 => ?_)
              clear hx68 hlx68
              refine z_val (v := .slice (some ⟨g_2, 0, none⟩) x54.length (x17.toNat)) (val_move rfl rfl) rfl rfl rfl (fun _ _ _ => trivial) ?_
              obtain ⟨hq_23, H⟩ := Chk_elim H
              obtain ⟨x70, hx70, H⟩ := Let_elim H
              refine z_append (f := U8) (j := 0) (xs := x68) (ys := x54) (zs := x70) rfl rfl Try.underlying22 in5 rfl rfl rfl rfl (fun w hw => (row_w hw (j := 3) rfl)) (fun _ => rfl) hq_23 (by decide) hx70 (fun A_24 c_25 => [.row (.slice A_24 x70.length c_25) 5 1 (x70.map U8), .row (.slice A_17 x67.length c_18) 5 1 (x67.map U8), .row (.slice A_5 x59.1.length c_6) 5 1 (x59.1.map U8), .row (.slice (some ⟨g_2, 0, none⟩) x54.length (x17.toNat)) 5 1 (x54.map U8)]) (fun _ _ => rfl) rfl rfl rfl (fun _ _ _ _ _ => trivial) (fun A_24 c_25 hs_26 => ?_)
              clear hx70
              refine z_val (v := .slice A1 a1.length c1) (val_move rfl rfl) rfl rfl rfl (fun _ _ _ => trivial) ?_
              obtain ⟨hq_27, H⟩ := Chk_elim H
              obtain ⟨x72, hx72, H⟩ := Let_elim H
              refine z_append (f := U8) (j := 0) (xs := x70) (ys := a1) (zs := x72) rfl rfl Try.underlying22 in5 rfl rfl rfl rfl (fun w hw => (hs1.toW hw)) (fun _ => rfl) hq_27 (by decide) hx72 (fun A_28 c_29 => [.row (.slice A_28 x72.length c_29) 5 1 (x72.map U8), .row (.slice A_17 x67.length c_18) 5 1 (x67.map U8), .row (.slice A_5 x59.1.length c_6) 5 1 (x59.1.map U8), .row (.slice (some ⟨g_2, 0, none⟩) x54.length (x17.toNat)) 5 1 (x54.map U8)]) (fun _ _ => rfl) rfl rfl rfl (fun _ _ _ _ _ => trivial) (fun A_28 c_29 hs_30 => ?_)
              clear hx72
              obtain ⟨x73, hx73, H⟩ := Let_elim H
              have hlx73 : x73.length = 0 := by subst hx73; rfl
              refine z_buildSlice' (e := 5) (f := U8) (xs := x73) (vs := []) rfl rfl (by subst hx73; intro w; kernel_rfl) hlx73 (by decide) rfl rfl rfl (fun _ _ _ _ => trivial) (fun g_31 hs_33 => ?_)
              clear hx73 hlx73
              refine z_val (v := .slice (some ⟨g_2, 0, none⟩) x54.length (x17.toNat)) (val_move rfl rfl) rfl rfl rfl (fun _ _ _ => trivial) ?_
              obtain ⟨hq_34, H⟩ := Chk_elim H
              obtain ⟨x75, hx75, H⟩ := Let_elim H
              refine z_append (f := U8) (j := 0) (xs := x73) (ys := x54) (zs := x75) rfl rfl Try.underlying22 in5 rfl rfl rfl rfl (fun w hw => (row_w hw (j := 4) rfl)) (fun _ => rfl) hq_34 (by decide) hx75 (fun A_35 c_36 => [.row (.slice A_35 x75.length c_36) 5 1 (x75.map U8), .row (.slice A_28 x72.length c_29) 5 1 (x72.map U8), .row (.slice A_17 x67.length c_18) 5 1 (x67.map U8), .row (.slice A_5 x59.1.length c_6) 5 1 (x59.1.map U8), .row (.slice (some ⟨g_2, 0, none⟩) x54.length (x17.toNat)) 5 1 (x54.map U8)]) (fun _ _ => rfl) rfl rfl rfl (fun _ _ _ _ _ => trivial) (fun A_35 c_36 hs_37 => ?_)
              clear hx75
              refine z_val (v := .slice A2 a2.length c2) (val_move rfl rfl) rfl rfl rfl (fun _ _ _ => trivial) ?_
              obtain ⟨hq_38, H⟩ := Chk_elim H
              obtain ⟨x77, hx77, H⟩ := Let_elim H
              refine z_append (f := U8) (j := 0) (xs := x75) (ys := a2) (zs := x77) rfl rfl Try.underlying22 in5 rfl rfl rfl rfl (fun w hw => (hs2.toW hw)) (fun _ => rfl) hq_38 (by decide) hx77 (fun A_39 c_40 => [.row (.slice A_39 x77.length c_40) 5 1 (x77.map U8), .row (.slice A_28 x72.length c_29) 5 1 (x72.map U8), .row (.slice A_17 x67.length c_18) 5 1 (x67.map U8), .row (.slice A_5 x59.1.length c_6) 5 1 (x59.1.map U8), .row (.slice (some ⟨g_2, 0, none⟩) x54.length (x17.toNat)) 5 1 (x54.map U8)]) (fun _ _ => rfl) rfl rfl rfl (fun _ _ _ _ _ => trivial) (fun A_39 c_40 hs_41 => ?_)
              clear hx77
              obtain ⟨x78, hx_42, H⟩ := Option.bind_eq_some_iff.1 H
              refine z_madeS (F := fun A_43 c_44 => .tuple #[.slice A_43 x78.1.length c_44, .int .i64 x78.2]) (xs := x78.1) rfl Try.func8 nm8 bs8 rfl (fun w hw => modexp_Pow.calls x67 x72 x77 A_17 c_18 A_28 c_29 A_39 c_40 x78 hx_42 w (row_w hw (j := 2) rfl) hs_19.le (row_w hw (j := 1) rfl) hs_30.le (row_w hw (j := 0) rfl) hs_41.le) rfl rfl rfl (fun _ _ _ _ _ => trivial) (fun A_43 c_44 hs_45 => ?_)
              clear hx_42
              refine z_val (v := .tuple #[.slice A_43 x78.1.length c_44, .int .i64 x78.2]) (val_move rfl rfl) rfl rfl rfl (fun _ _ _ => trivial) ?_
              refine z_val (v := .slice A_43 x78.1.length c_44) (val_extract rfl rfl rfl) rfl rfl rfl (fun _ _ _ => trivial) ?_
              refine z_val (v := .int .i64 x78.2) (val_extract rfl rfl rfl) rfl rfl rfl (fun _ _ _ => trivial) ?_
              refine z_val (v := .slice A_43 x78.1.length c_44) (val_assign rfl rfl) rfl rfl rfl (fun _ _ _ => trivial) ?_
              refine z_val (v := .int .i64 x78.2) (val_assign rfl rfl) rfl rfl rfl (fun _ _ _ => trivial) ?_
              refine z_nil ?_
              refine t_seq ?_
              refine t_region (fun ops hops => ?_)
              obtain ⟨x81, hx_47, H⟩ := Option.bind_eq_some_iff.1 H
              refine z_made (v := .bool x81) rfl Try.func10 nm10 bs10 rfl (fun w hw => smithylaw09_fixed.calls x81 hx_47 w) rfl rfl rfl (fun _ _ _ => trivial) ?_
              clear hx_47
              refine z_val (v := .bool x81) (val_move rfl rfl) rfl rfl rfl (fun _ _ _ => trivial) ?_
              refine z_bind H 3 (fun (s : Bool) (_ : Unit) => [(10, .slice (some ⟨g_2, 0, none⟩) x54.length (x17.toNat)), (11, .slice A_5 x59.1.length c_6), (13, .slice A_43 x78.1.length c_44), (14, .int .i64 x78.2), (85, .bool s)]) (fun _ _ => Mm w [] h [.row (.slice A_43 x78.1.length c_44) 5 1 (x78.1.map U8), .row (.slice A_39 x77.length c_40) 5 1 (x77.map U8), .row (.slice A_28 x72.length c_29) 5 1 (x72.map U8), .row (.slice A_17 x67.length c_18) 5 1 (x67.map U8), .row (.slice A_5 x59.1.length c_6) 5 1 (x59.1.map U8), .row (.slice (some ⟨g_2, 0, none⟩) x54.length (x17.toNat)) 5 1 (x54.map U8)]) (fun _ _ => True) (fun Gr K s he HJ => ?_) (fun s g HB _ => ?_)
              ·
                clear H
                cases x81
                ·
                  have H := cond_f he
                  clear he
                  refine z_skip rfl rfl (by rw [hops]; rfl) (fun _ _ _ => trivial) ?_
                  refine z_skip rfl rfl (by rw [hops]; rfl) (fun _ _ _ => trivial) ?_
                  refine z_val (v := .bool false) (val_pick rfl rfl rfl) rfl rfl rfl (fun _ _ _ => trivial) ?_
                  obtain rfl := Option.some.inj H
                  exact z_nil ((K _ () HJ trivial).weak (fun a ha => ha.cons rfl (ha.cons rfl (ha.cons rfl (ha.cons rfl (ha.cons rfl (ha.nil)))))) (fun w hw => hw))
                ·
                  have H := cond_t he
                  clear he
                  refine z_val (v := .int .i64 x59.2) (val_move rfl rfl) rfl rfl (by rw [hops]; rfl) (fun _ _ _ => trivial) ?_
                  obtain ⟨x84, hx84, H⟩ := Let_elim H
                  refine z_val (v := .bool x84) (by subst hx84; exact val_bin rfl rfl rfl rfl (i64_eql _ _ _)) rfl rfl (by rw [hops]; rfl) (fun _ _ _ => trivial) ?_
                  clear hx84
                  refine z_val (v := .bool x84) (val_pick rfl rfl rfl) rfl rfl rfl (fun _ _ _ => trivial) ?_
                  obtain rfl := Option.some.inj H
                  exact z_nil ((K _ () HJ trivial).weak (fun a ha => ha.cons rfl (ha.cons rfl (ha.cons rfl (ha.cons rfl (ha.cons rfl (ha.nil)))))) (fun w hw => hw))
              ·
                replace H := HB
                clear HB
                obtain ⟨x85, rfl⟩ : ∃ x, x = s := ⟨_, rfl⟩
                change T 100 _ _ _
                refine z_val (v := .bool x85) (val_move rfl rfl) rfl rfl rfl (fun _ _ _ => trivial) ?_
                refine z_bind H 3 (fun (s : Bool) (_ : Unit) => [(10, .slice (some ⟨g_2, 0, none⟩) x54.length (x17.toNat)), (11, .slice A_5 x59.1.length c_6), (13, .slice A_43 x78.1.length c_44), (89, .bool s)]) (fun _ _ => Mm w [] h [.row (.slice A_43 x78.1.length c_44) 5 1 (x78.1.map U8), .row (.slice A_39 x77.length c_40) 5 1 (x77.map U8), .row (.slice A_28 x72.length c_29) 5 1 (x72.map U8), .row (.slice A_17 x67.length c_18) 5 1 (x67.map U8), .row (.slice A_5 x59.1.length c_6) 5 1 (x59.1.map U8), .row (.slice (some ⟨g_2, 0, none⟩) x54.length (x17.toNat)) 5 1 (x54.map U8)]) (fun _ _ => True) (fun Gr K s he HJ => ?_) (fun s g HB _ => ?_)
                ·
                  clear H
                  cases x85
                  ·
                    have H := cond_f he
                    clear he
                    refine z_skip rfl rfl (by rw [hops]; rfl) (fun _ _ _ => trivial) ?_
                    refine z_skip rfl rfl (by rw [hops]; rfl) (fun _ _ _ => trivial) ?_
                    refine z_val (v := .bool false) (val_pick rfl rfl rfl) rfl rfl rfl (fun _ _ _ => trivial) ?_
                    obtain rfl := Option.some.inj H
                    exact z_nil ((K _ () HJ trivial).weak (fun a ha => ha.cons rfl (ha.cons rfl (ha.cons rfl (ha.cons rfl (ha.nil))))) (fun w hw => hw))
                  ·
                    have H := cond_t he
                    clear he
                    refine z_val (v := .int .i64 x78.2) (val_move rfl rfl) rfl rfl (by rw [hops]; rfl) (fun _ _ _ => trivial) ?_
                    obtain ⟨x88, hx88, H⟩ := Let_elim H
                    refine z_val (v := .bool x88) (by subst hx88; exact val_bin rfl rfl rfl rfl (i64_eql _ _ _)) rfl rfl (by rw [hops]; rfl) (fun _ _ _ => trivial) ?_
                    clear hx88
                    refine z_val (v := .bool x88) (val_pick rfl rfl rfl) rfl rfl rfl (fun _ _ _ => trivial) ?_
                    obtain rfl := Option.some.inj H
                    exact z_nil ((K _ () HJ trivial).weak (fun a ha => ha.cons rfl (ha.cons rfl (ha.cons rfl (ha.cons rfl (ha.nil))))) (fun w hw => hw))
                ·
                  replace H := HB
                  clear HB
                  obtain ⟨x89, rfl⟩ : ∃ x, x = s := ⟨_, rfl⟩
                  change T 100 _ _ _
                  refine z_val (v := .bool x89) (val_move rfl rfl) rfl rfl rfl (fun _ _ _ => trivial) ?_
                  refine z_bind H 9 (fun (s : Bool) (_ : Unit) => [(99, .bool s)]) (fun _ _ => Mm w [] h [.row (.slice A_43 x78.1.length c_44) 5 1 (x78.1.map U8), .row (.slice A_39 x77.length c_40) 5 1 (x77.map U8), .row (.slice A_28 x72.length c_29) 5 1 (x72.map U8), .row (.slice A_17 x67.length c_18) 5 1 (x67.map U8), .row (.slice A_5 x59.1.length c_6) 5 1 (x59.1.map U8), .row (.slice (some ⟨g_2, 0, none⟩) x54.length (x17.toNat)) 5 1 (x54.map U8)]) (fun _ _ => True) (fun Gr K s he HJ => ?_) (fun s g HB _ => ?_)
                  ·
                    clear H
                    cases x89
                    ·
                      have H := cond_f he
                      clear he
                      refine z_skip rfl rfl (by rw [hops]; rfl) (fun _ _ _ => trivial) ?_
                      refine z_skip rfl rfl (by rw [hops]; rfl) (fun _ _ _ => trivial) ?_
                      refine z_skip rfl rfl (by rw [hops]; rfl) (fun _ _ _ => trivial) ?_
                      refine z_skip rfl rfl (by rw [hops]; rfl) (fun _ _ _ => trivial) ?_
                      refine z_skip rfl rfl (by rw [hops]; rfl) (fun _ _ _ => trivial) ?_
                      refine z_skip rfl rfl (by rw [hops]; rfl) (fun _ _ _ => trivial) ?_
                      refine z_skip rfl rfl (by rw [hops]; rfl) (fun _ _ _ => trivial) ?_
                      refine z_skip rfl rfl (by rw [hops]; rfl) (fun _ _ _ => trivial) ?_
                      refine z_val (v := .bool false) (val_pick rfl rfl rfl) rfl rfl rfl (fun _ _ _ => trivial) ?_
                      obtain rfl := Option.some.inj H
                      exact z_nil ((K _ () HJ trivial).weak (fun a ha => ha.cons rfl (ha.nil)) (fun w hw => hw))
                    ·
                      have H := cond_t he
                      clear he
                      refine z_val (v := .slice A_43 x78.1.length c_44) (val_move rfl rfl) rfl rfl (by rw [hops]; rfl) (fun _ _ _ => trivial) ?_
                      obtain ⟨x92, hx92, H⟩ := Let_elim H
                      refine z_val (v := .string x92) (by subst hx92; exact val_convS rfl rfl Try.underlying22 Try.underlying5 Try.underlying9 (fun w hw => (row_w hw (j := 0) rfl))) rfl rfl (by rw [hops]; rfl) (fun _ _ _ => trivial) ?_
                      clear hx92
                      refine z_val (v := .slice (some ⟨g_2, 0, none⟩) x54.length (x17.toNat)) (val_move rfl rfl) rfl rfl (by rw [hops]; rfl) (fun _ _ _ => trivial) ?_
                      obtain ⟨x94, hx94, H⟩ := Let_elim H
                      refine z_val (v := .string x94) (by subst hx94; exact val_convS rfl rfl Try.underlying22 Try.underlying5 Try.underlying9 (fun w hw => (row_w hw (j := 5) rfl))) rfl rfl (by rw [hops]; rfl) (fun _ _ _ => trivial) ?_
                      clear hx94
                      refine z_val (v := .slice A_5 x59.1.length c_6) (val_move rfl rfl) rfl rfl (by rw [hops]; rfl) (fun _ _ _ => trivial) ?_
                      obtain ⟨x96, hx96, H⟩ := Let_elim H
                      refine z_val (v := .string x96) (by subst hx96; exact val_convS rfl rfl Try.underlying22 Try.underlying5 Try.underlying9 (fun w hw => (row_w hw (j := 4) rfl))) rfl rfl (by rw [hops]; rfl) (fun _ _ _ => trivial) ?_
                      clear hx96
                      obtain ⟨hq_48, H⟩ := Chk_elim H
                      obtain ⟨x97, hx97, H⟩ := Let_elim H
                      refine z_val (v := .string x97) (by subst hx97; exact val_bin rfl rfl rfl rfl (str_add _ _ _ hq_48)) rfl rfl (by rw [hops]; rfl) (fun _ _ _ => trivial) ?_
                      clear hx97
                      obtain ⟨x98, hx98, H⟩ := Let_elim H
                      refine z_val (v := .bool x98) (by subst hx98; exact val_bin rfl rfl rfl rfl (str_eql _ _ _)) rfl rfl (by rw [hops]; rfl) (fun _ _ _ => trivial) ?_
                      clear hx98
                      refine z_val (v := .bool x98) (val_pick rfl rfl rfl) rfl rfl rfl (fun _ _ _ => trivial) ?_
                      obtain rfl := Option.some.inj H
                      exact z_nil ((K _ () HJ trivial).weak (fun a ha => ha.cons rfl (ha.nil)) (fun w hw => hw))
                  ·
                    replace H := HB
                    clear HB
                    obtain ⟨x99, rfl⟩ : ∃ x, x = s := ⟨_, rfl⟩
                    change T 100 _ _ _
                    refine z_val (v := .bool x99) (val_assign rfl rfl) rfl rfl rfl (fun _ _ _ => trivial) ?_
                    refine z_nil ?_
                    refine t_ret ?_
                    obtain rfl := Option.some.inj H
                    exact ret1 rfl (res_tmp rfl) (fun _ hw => ⟨rfl, hw.below⟩)
            ·
              replace H := cond_t H
              refine t_cond_true rfl ?_
              refine t_seq ?_
              refine t_region (fun ops hops => ?_)
              clear hops
              obtain ⟨x52, hx_49, H⟩ := Option.bind_eq_some_iff.1 H
              refine z_made (v := .bool x52) rfl Try.func10 nm10 bs10 rfl (fun w hw => smithylaw09_fixed.calls x52 hx_49 w) rfl rfl rfl (fun _ _ _ => trivial) ?_
              clear hx_49
              refine z_val (v := .bool x52) (val_assign rfl rfl) rfl rfl rfl (fun _ _ _ => trivial) ?_
              refine z_nil ?_
              refine t_ret ?_
              obtain rfl := Option.some.inj H
              exact ret1 rfl (res_tmp rfl) (fun _ hw => ⟨rfl, hw.below⟩)
def smithylaw09_ModexpGas (a0 : List (BitVec 8)) : Option (Bool) :=
  Let ((a0.length : Int)) fun x4 => Let (decide (2000 < x4)) fun x5 => (bif x5 then (smithylaw09_fixed).bind fun x6 => some x6 else (smithylaw09_fixed).bind fun x7 => (bif x7 then (modexp_Gas a0).bind fun x10 => (smithyref09_Gas a0).bind fun x12 => Let (x10 == x12) fun x13 => some x13 else some false).bind (fun x14 => some x14))
set_option maxRecDepth 100000 in
theorem smithylaw09_ModexpGas.calls  (a0 : List (BitVec 8)) (A0 : Option Addr) (c0 : Nat) (r : Bool) (H : smithylaw09_ModexpGas a0 = some r) (w : World) (hs0 : SlW w U8 A0 a0) (hc0 : a0.length ≤ c0)  :
    Made Try.prog 6 #[.slice A0 a0.length c0] w (.bool r) := by
  unfold smithylaw09_ModexpGas at H
  replace hs0 := hs0.toH
  have hM := Mm.start w (snap w) (snap_ok w)
  generalize snap w = h at *
  refine t_enter (vs := [.slice A0 a0.length c0]) (n := 15) Try.func6 rfl rfl rfl hM ?_
  clear hM
  change T 15 _ _ _
  refine t_seq ?_
  refine t_region (fun ops hops => ?_)
  clear hops
  refine z_val (v := .bool false) (val_assign rfl rfl) rfl rfl rfl (fun _ _ _ => trivial) ?_
  refine z_nil ?_
  refine t_seq ?_
  refine t_seq ?_
  refine t_region (fun ops hops => ?_)
  clear hops
  refine z_val (v := .slice A0 a0.length c0) (val_move rfl rfl) rfl rfl rfl (fun _ _ _ => trivial) ?_
  obtain ⟨x4, hx4, H⟩ := Let_elim H
  refine z_val (v := .int .i64 x4) (by subst hx4; exact val_len rfl rfl rfl Try.underlying22) rfl rfl rfl (fun _ _ _ => trivial) ?_
  clear hx4
  obtain ⟨x5, hx5, H⟩ := Let_elim H
  refine z_val (v := .bool x5) (by subst hx5; exact val_bin rfl rfl rfl rfl (i64_gtr _ _ _)) rfl rfl rfl (fun _ _ _ => trivial) ?_
  clear hx5
  refine z_nil ?_
  cases x5
  ·
    replace H := cond_f H
    refine t_cond_false rfl ?_
    refine t_skip ?_
    refine t_seq ?_
    refine t_region (fun ops hops => ?_)
    obtain ⟨x7, hx, H⟩ := Option.bind_eq_some_iff.1 H
    refine z_made (v := .bool x7) rfl Try.func10 nm10 bs10 rfl (fun w hw => smithylaw09_fixed.calls x7 hx w) rfl rfl rfl (fun _ _ _ => trivial) ?_
    clear hx
    refine z_val (v := .bool x7) (val_move rfl rfl) rfl rfl rfl (fun _ _ _ => trivial) ?_
    refine z_bind H 6 (fun (s : Bool) (_ : Unit) => [(14, .bool s)]) (fun _ _ => Mm w [] h []) (fun _ _ => True) (fun Gr K s he HJ => ?_) (fun s g HB _ => ?_)
    ·
      clear H
      cases x7
      ·
        have H := cond_f he
        clear he
        refine z_skip rfl rfl (by rw [hops]; rfl) (fun _ _ _ => trivial) ?_
        refine z_skip rfl rfl (by rw [hops]; rfl) (fun _ _ _ => trivial) ?_
        refine z_skip rfl rfl (by rw [hops]; rfl) (fun _ _ _ => trivial) ?_
        refine z_skip rfl rfl (by rw [hops]; rfl) (fun _ _ _ => trivial) ?_
        refine z_skip rfl rfl (by rw [hops]; rfl) (fun _ _ _ => trivial) ?_
        refine z_val (v := .bool false) (val_pick rfl rfl rfl) rfl rfl rfl (fun _ _ _ => trivial) ?_
        obtain rfl := Option.some.inj H
        exact z_nil ((K _ () HJ trivial).weak (fun a ha => ha.cons rfl (ha.nil)) (fun w hw => hw))
      ·
        have H := cond_t he
        clear he
        refine z_val (v := .slice A0 a0.length c0) (val_move rfl rfl) rfl rfl (by rw [hops]; rfl) (fun _ _ _ => trivial) ?_
        obtain ⟨x10, hx_1, H⟩ := Option.bind_eq_some_iff.1 H
        refine z_made (v := U64 x10) rfl Try.func17 nm17 bs17 rfl (fun w hw => modexp_Gas.calls a0 A0 c0 x10 hx_1 w (hs0.toW hw) hc0) rfl rfl (by rw [hops]; rfl) (fun _ _ _ => trivial) ?_
        clear hx_1
        refine z_val (v := .slice A0 a0.length c0) (val_move rfl rfl) rfl rfl (by rw [hops]; rfl) (fun _ _ _ => trivial) ?_
        obtain ⟨x12, hx_2, H⟩ := Option.bind_eq_some_iff.1 H
        refine z_made (v := U64 x12) rfl Try.func18 nm18 bs18 rfl (fun w hw => smithyref09_Gas.calls a0 A0 c0 x12 hx_2 w (hs0.toW hw) hc0) rfl rfl (by rw [hops]; rfl) (fun _ _ _ => trivial) ?_
        clear hx_2
        obtain ⟨x13, hx13, H⟩ := Let_elim H
        refine z_val (v := .bool x13) (by subst hx13; exact val_bin rfl rfl rfl rfl (u64_eql _ _ _)) rfl rfl (by rw [hops]; rfl) (fun _ _ _ => trivial) ?_
        clear hx13
        refine z_val (v := .bool x13) (val_pick rfl rfl rfl) rfl rfl rfl (fun _ _ _ => trivial) ?_
        obtain rfl := Option.some.inj H
        exact z_nil ((K _ () HJ trivial).weak (fun a ha => ha.cons rfl (ha.nil)) (fun w hw => hw))
    ·
      replace H := HB
      clear HB
      obtain ⟨x14, rfl⟩ : ∃ x, x = s := ⟨_, rfl⟩
      change T 15 _ _ _
      refine z_val (v := .bool x14) (val_assign rfl rfl) rfl rfl rfl (fun _ _ _ => trivial) ?_
      refine z_nil ?_
      refine t_ret ?_
      obtain rfl := Option.some.inj H
      exact ret1 rfl (res_tmp rfl) (fun _ hw => ⟨rfl, hw.below⟩)
  ·
    replace H := cond_t H
    refine t_cond_true rfl ?_
    refine t_seq ?_
    refine t_region (fun ops hops => ?_)
    clear hops
    obtain ⟨x6, hx_3, H⟩ := Option.bind_eq_some_iff.1 H
    refine z_made (v := .bool x6) rfl Try.func10 nm10 bs10 rfl (fun w hw => smithylaw09_fixed.calls x6 hx_3 w) rfl rfl rfl (fun _ _ _ => trivial) ?_
    clear hx_3
    refine z_val (v := .bool x6) (val_assign rfl rfl) rfl rfl rfl (fun _ _ _ => trivial) ?_
    refine z_nil ?_
    refine t_ret ?_
    obtain rfl := Option.some.inj H
    exact ret1 rfl (res_tmp rfl) (fun _ hw => ⟨rfl, hw.below⟩)
def smithylaw09_ModexpRuns (a0 : List (BitVec 8)) : Option (Bool) :=
  Let ((a0.length : Int)) fun x18 => Let (decide (2000 < x18)) fun x19 => (bif x19 then (smithylaw09_fixed).bind fun x20 => some x20 else Let (([] : List (BitVec 8))) fun x21 => Chk ((x21.length + a0.length) * 1 ≤ 140737488355328) <| Let (x21 ++ a0) fun x23 => (modexp_Run x23).bind fun x26 => (smithyref09_Length a0 0).bind fun x31 => (smithyref09_Length a0 1).bind fun x36 => (smithyref09_Length a0 2).bind fun x41 => (smithylaw09_fixed).bind fun x44 => Let (!x44) fun x45 => (bif x45 then some true else Let (strOf x23) fun x48 => Let (strOf a0) fun x50 => Let (!(x48.toList == x50.toList)) fun x51 => some x51).bind (fun x52 => (bif x52 then some false else (bif x31.2 then some x41.2 else some false).bind (fun x56 => (bif x56 then Let ((x31.1.toNat : Int) == 0) fun x59 => some x59 else some false).bind (fun x60 => (bif x60 then Let ((x41.1.toNat : Int) == 0) fun x63 => some x63 else some false).bind (fun x64 => (bif x64 then Let ((x26.1.length : Int)) fun x66 => Let (x66 == 0) fun x67 => (bif x67 then Let (x26.2 == 0) fun x70 => some x70 else some false).bind (fun x71 => some x71) else Let (!x31.2) fun x73 => (bif x73 then some true else Let (!x36.2) fun x76 => some x76).bind (fun x77 => (bif x77 then some true else Let (!x41.2) fun x80 => some x80).bind (fun x81 => (bif x81 then some true else Let (decide ((x31.1.toNat : Int) > 64)) fun x84 => some x84).bind (fun x85 => (bif x85 then some true else Let (decide ((x36.1.toNat : Int) > 64)) fun x88 => some x88).bind (fun x89 => (bif x89 then some true else Let (decide ((x41.1.toNat : Int) > 64)) fun x92 => some x92).bind (fun x93 => (bif x93 then Let ((x26.1.length : Int)) fun x95 => Let (x95 == 0) fun x96 => (bif x96 then Let (x26.2 == 4) fun x99 => some x99 else some false).bind (fun x100 => some x100) else Let (IntKind.i64.wrap x31.1.toNat) fun x102 => Let (IntKind.i64.wrap x36.1.toNat) fun x104 => Let (IntKind.i64.wrap x41.1.toNat) fun x106 => (smithyref09_Part a0 96 x102).bind fun x110 => Let (wi (96 + x102)) fun x113 => (smithyref09_Part a0 x113 x104).bind fun x115 => Let (wi (96 + x102)) fun x118 => Let (wi (x118 + x104)) fun x120 => (smithyref09_Part a0 x120 x106).bind fun x122 => (modexp_Pow x110 x115 x122).bind fun x123 => Let (x26.2 == 0) fun x127 => (bif x127 then Let (x123.2 == 0) fun x130 => some x130 else some false).bind (fun x131 => (bif x131 then Let (strOf x26.1) fun x134 => Let (strOf x123.1) fun x136 => Let (x134.toList == x136.toList) fun x137 => some x137 else some false).bind (fun x138 => (bif x138 then Let ((x26.1.length : Int)) fun x141 => Let (x141 == x106) fun x143 => some x143 else some false).bind (fun x144 => some x144))))))))))))))))
set_option maxRecDepth 100000 in
theorem smithylaw09_ModexpRuns.calls  (a0 : List (BitVec 8)) (A0 : Option Addr) (c0 : Nat) (r : Bool) (H : smithylaw09_ModexpRuns a0 = some r) (w : World) (hs0 : SlW w U8 A0 a0) (hc0 : a0.length ≤ c0)  :
    Made Try.prog 7 #[.slice A0 a0.length c0] w (.bool r) := by
  unfold smithylaw09_ModexpRuns at H
  replace hs0 := hs0.toH
  have hM := Mm.start w (snap w) (snap_ok w)
  generalize snap w = h at *
  refine t_enter (vs := [.slice A0 a0.length c0]) (n := 145) Try.func7 rfl rfl rfl hM ?_
  clear hM
  change T 145 _ _ _
  refine t_seq ?_
  refine t_region (fun ops hops => ?_)
  clear hops
  refine z_val (v := .bool false) (val_assign rfl rfl) rfl rfl rfl (fun _ _ _ => trivial) ?_
  refine z_nil ?_
  refine t_seq ?_
  refine t_seq ?_
  refine t_region (fun ops hops => ?_)
  clear hops
  refine z_val (v := .slice A0 a0.length c0) (val_move rfl rfl) rfl rfl rfl (fun _ _ _ => trivial) ?_
  obtain ⟨x18, hx18, H⟩ := Let_elim H
  refine z_val (v := .int .i64 x18) (by subst hx18; exact val_len rfl rfl rfl Try.underlying22) rfl rfl rfl (fun _ _ _ => trivial) ?_
  clear hx18
  obtain ⟨x19, hx19, H⟩ := Let_elim H
  refine z_val (v := .bool x19) (by subst hx19; exact val_bin rfl rfl rfl rfl (i64_gtr _ _ _)) rfl rfl rfl (fun _ _ _ => trivial) ?_
  clear hx19
  refine z_nil ?_
  cases x19
  ·
    replace H := cond_f H
    refine t_cond_false rfl ?_
    refine t_skip ?_
    refine t_seq ?_
    refine t_region (fun ops hops => ?_)
    clear hops
    obtain ⟨x21, hx21, H⟩ := Let_elim H
    have hlx21 : x21.length = 0 := by subst hx21; rfl
    refine z_buildSlice' (e := 5) (f := U8) (xs := x21) (vs := []) rfl rfl (by subst hx21; intro w; kernel_rfl) hlx21 (by decide) rfl rfl rfl (fun _ _ _ _ => trivial) (fun g_1 hs_3 => ?_)
    clear hx21 hlx21
    refine z_val (v := .slice A0 a0.length c0) (val_move rfl rfl) rfl rfl rfl (fun _ _ _ => trivial) ?_
    obtain ⟨hq_4, H⟩ := Chk_elim H
    obtain ⟨x23, hx23, H⟩ := Let_elim H
    refine z_append (f := U8) (j := 0) (xs := x21) (ys := a0) (zs := x23) rfl rfl Try.underlying22 in5 rfl rfl rfl rfl (fun w hw => (hs0.toW hw)) (fun _ => rfl) hq_4 (by decide) hx23 (fun A_5 c_6 => [.row (.slice A_5 x23.length c_6) 5 1 (x23.map U8)]) (fun _ _ => rfl) rfl rfl rfl (fun _ _ _ _ _ => trivial) (fun A_5 c_6 hs_7 => ?_)
    clear hx23
    refine z_val (v := .slice A_5 x23.length c_6) (val_assign rfl rfl) rfl rfl rfl (fun _ _ _ => trivial) ?_
    refine z_nil ?_
    refine t_seq ?_
    refine t_region (fun ops hops => ?_)
    clear hops
    refine z_val (v := .slice A_5 x23.length c_6) (val_move rfl rfl) rfl rfl rfl (fun _ _ _ => trivial) ?_
    obtain ⟨x26, hx, H⟩ := Option.bind_eq_some_iff.1 H
    refine z_madeS (F := fun A_8 c_9 => .tuple #[.slice A_8 x26.1.length c_9, .int .i64 x26.2]) (xs := x26.1) rfl Try.func19 nm19 bs19 rfl (fun w hw => modexp_Run.calls x23 A_5 c_6 x26 hx w (row_w hw (j := 0) rfl) hs_7.le) rfl rfl rfl (fun _ _ _ _ _ => trivial) (fun A_8 c_9 hs_10 => ?_)
    clear hx
    refine z_val (v := .tuple #[.slice A_8 x26.1.length c_9, .int .i64 x26.2]) (val_move rfl rfl) rfl rfl rfl (fun _ _ _ => trivial) ?_
    refine z_val (v := .slice A_8 x26.1.length c_9) (val_extract rfl rfl rfl) rfl rfl rfl (fun _ _ _ => trivial) ?_
    refine z_val (v := .int .i64 x26.2) (val_extract rfl rfl rfl) rfl rfl rfl (fun _ _ _ => trivial) ?_
    refine z_val (v := .slice A_8 x26.1.length c_9) (val_assign rfl rfl) rfl rfl rfl (fun _ _ _ => trivial) ?_
    refine z_val (v := .int .i64 x26.2) (val_assign rfl rfl) rfl rfl rfl (fun _ _ _ => trivial) ?_
    refine z_nil ?_
    refine t_seq ?_
    refine t_region (fun ops hops => ?_)
    clear hops
    refine z_val (v := .slice A0 a0.length c0) (val_move rfl rfl) rfl rfl rfl (fun _ _ _ => trivial) ?_
    obtain ⟨x31, hx_12, H⟩ := Option.bind_eq_some_iff.1 H
    refine z_made (v := .tuple #[U64 x31.1, .bool x31.2]) rfl Try.func20 nm20 bs20 rfl (fun w hw => smithyref09_Length.calls a0 0 A0 c0 x31 hx_12 w (hs0.toW hw) hc0) rfl rfl rfl (fun _ _ _ => trivial) ?_
    clear hx_12
    refine z_val (v := .tuple #[U64 x31.1, .bool x31.2]) (val_move rfl rfl) rfl rfl rfl (fun _ _ _ => trivial) ?_
    refine z_val (v := U64 x31.1) (val_extract rfl rfl rfl) rfl rfl rfl (fun _ _ _ => trivial) ?_
    refine z_val (v := .bool x31.2) (val_extract rfl rfl rfl) rfl rfl rfl (fun _ _ _ => trivial) ?_
    refine z_val (v := U64 x31.1) (val_assign rfl rfl) rfl rfl rfl (fun _ _ _ => trivial) ?_
    refine z_val (v := .bool x31.2) (val_assign rfl rfl) rfl rfl rfl (fun _ _ _ => trivial) ?_
    refine z_nil ?_
    refine t_seq ?_
    refine t_region (fun ops hops => ?_)
    clear hops
    refine z_val (v := .slice A0 a0.length c0) (val_move rfl rfl) rfl rfl rfl (fun _ _ _ => trivial) ?_
    obtain ⟨x36, hx_13, H⟩ := Option.bind_eq_some_iff.1 H
    refine z_made (v := .tuple #[U64 x36.1, .bool x36.2]) rfl Try.func20 nm20 bs20 rfl (fun w hw => smithyref09_Length.calls a0 1 A0 c0 x36 hx_13 w (hs0.toW hw) hc0) rfl rfl rfl (fun _ _ _ => trivial) ?_
    clear hx_13
    refine z_val (v := .tuple #[U64 x36.1, .bool x36.2]) (val_move rfl rfl) rfl rfl rfl (fun _ _ _ => trivial) ?_
    refine z_val (v := U64 x36.1) (val_extract rfl rfl rfl) rfl rfl rfl (fun _ _ _ => trivial) ?_
    refine z_val (v := .bool x36.2) (val_extract rfl rfl rfl) rfl rfl rfl (fun _ _ _ => trivial) ?_
    refine z_val (v := U64 x36.1) (val_assign rfl rfl) rfl rfl rfl (fun _ _ _ => trivial) ?_
    refine z_val (v := .bool x36.2) (val_assign rfl rfl) rfl rfl rfl (fun _ _ _ => trivial) ?_
    refine z_nil ?_
    refine t_seq ?_
    refine t_region (fun ops hops => ?_)
    clear hops
    refine z_val (v := .slice A0 a0.length c0) (val_move rfl rfl) rfl rfl rfl (fun _ _ _ => trivial) ?_
    obtain ⟨x41, hx_14, H⟩ := Option.bind_eq_some_iff.1 H
    refine z_made (v := .tuple #[U64 x41.1, .bool x41.2]) rfl Try.func20 nm20 bs20 rfl (fun w hw => smithyref09_Length.calls a0 2 A0 c0 x41 hx_14 w (hs0.toW hw) hc0) rfl rfl rfl (fun _ _ _ => trivial) ?_
    clear hx_14
    refine z_val (v := .tuple #[U64 x41.1, .bool x41.2]) (val_move rfl rfl) rfl rfl rfl (fun _ _ _ => trivial) ?_
    refine z_val (v := U64 x41.1) (val_extract rfl rfl rfl) rfl rfl rfl (fun _ _ _ => trivial) ?_
    refine z_val (v := .bool x41.2) (val_extract rfl rfl rfl) rfl rfl rfl (fun _ _ _ => trivial) ?_
    refine z_val (v := U64 x41.1) (val_assign rfl rfl) rfl rfl rfl (fun _ _ _ => trivial) ?_
    refine z_val (v := .bool x41.2) (val_assign rfl rfl) rfl rfl rfl (fun _ _ _ => trivial) ?_
    refine z_nil ?_
    refine t_seq ?_
    refine t_seq ?_
    refine t_region (fun ops hops => ?_)
    obtain ⟨x44, hx_15, H⟩ := Option.bind_eq_some_iff.1 H
    refine z_made (v := .bool x44) rfl Try.func10 nm10 bs10 rfl (fun w hw => smithylaw09_fixed.calls x44 hx_15 w) rfl rfl rfl (fun _ _ _ => trivial) ?_
    clear hx_15
    obtain ⟨x45, hx45, H⟩ := Let_elim H
    refine z_val (v := .bool x45) (by subst hx45; exact val_un rfl rfl (bool_not _)) rfl rfl rfl (fun _ _ _ => trivial) ?_
    clear hx45
    refine z_val (v := .bool x45) (val_move rfl rfl) rfl rfl rfl (fun _ _ _ => trivial) ?_
    refine z_bind H 6 (fun (s : Bool) (_ : Unit) => [(0, .slice A0 a0.length c0), (4, .slice A_8 x26.1.length c_9), (5, .int .i64 x26.2), (6, U64 x31.1), (7, .bool x31.2), (8, U64 x36.1), (9, .bool x36.2), (10, U64 x41.1), (11, .bool x41.2), (52, .bool s)]) (fun _ _ => Mm w [] h [.row (.slice A_8 x26.1.length c_9) 5 1 (x26.1.map U8), .row (.slice A_5 x23.length c_6) 5 1 (x23.map U8)]) (fun _ _ => True) (fun Gr K s he HJ => ?_) (fun s g HB _ => ?_)
    ·
      clear H
      cases x45
      ·
        have H := cond_f he
        clear he
        refine z_val (v := .slice A_5 x23.length c_6) (val_move rfl rfl) rfl rfl (by rw [hops]; rfl) (fun _ _ _ => trivial) ?_
        obtain ⟨x48, hx48, H⟩ := Let_elim H
        refine z_val (v := .string x48) (by subst hx48; exact val_convS rfl rfl Try.underlying22 Try.underlying5 Try.underlying9 (fun w hw => (row_w hw (j := 1) rfl))) rfl rfl (by rw [hops]; rfl) (fun _ _ _ => trivial) ?_
        clear hx48
        refine z_val (v := .slice A0 a0.length c0) (val_move rfl rfl) rfl rfl (by rw [hops]; rfl) (fun _ _ _ => trivial) ?_
        obtain ⟨x50, hx50, H⟩ := Let_elim H
        refine z_val (v := .string x50) (by subst hx50; exact val_convS rfl rfl Try.underlying22 Try.underlying5 Try.underlying9 (fun w hw => (hs0.toW hw))) rfl rfl (by rw [hops]; rfl) (fun _ _ _ => trivial) ?_
        clear hx50
        obtain ⟨x51, hx51, H⟩ := Let_elim H
        refine z_val (v := .bool x51) (by subst hx51; exact val_bin rfl rfl rfl rfl (str_neq _ _ _)) rfl rfl (by rw [hops]; rfl) (fun _ _ _ => trivial) ?_
        clear hx51
        refine z_val (v := .bool x51) (val_pick rfl rfl rfl) rfl rfl rfl (fun _ _ _ => trivial) ?_
        obtain rfl := Option.some.inj H
        exact z_nil ((K _ () HJ trivial).weak (fun a ha => ha.cons rfl (ha.cons rfl (ha.cons rfl (ha.cons rfl (ha.cons rfl (ha.cons rfl (ha.cons rfl (ha.cons rfl (ha.cons rfl (ha.cons rfl (ha.nil))))))))))) (fun w hw => hw))
      ·
        have H := cond_t he
        clear he
        refine z_skip rfl rfl (by rw [hops]; rfl) (fun _ _ _ => trivial) ?_
        refine z_skip rfl rfl (by rw [hops]; rfl) (fun _ _ _ => trivial) ?_
        refine z_skip rfl rfl (by rw [hops]; rfl) (fun _ _ _ => trivial) ?_
        refine z_skip rfl rfl (by rw [hops]; rfl) (fun _ _ _ => trivial) ?_
        refine z_skip rfl rfl (by rw [hops]; rfl) (fun _ _ _ => trivial) ?_
        refine z_val (v := .bool true) (val_pick rfl rfl rfl) rfl rfl rfl (fun _ _ _ => trivial) ?_
        obtain rfl := Option.some.inj H
        exact z_nil ((K _ () HJ trivial).weak (fun a ha => ha.cons rfl (ha.cons rfl (ha.cons rfl (ha.cons rfl (ha.cons rfl (ha.cons rfl (ha.cons rfl (ha.cons rfl (ha.cons rfl (ha.cons rfl (ha.nil))))))))))) (fun w hw => hw))
    ·
      replace H := HB
      clear HB
      obtain ⟨x52, rfl⟩ : ∃ x, x = s := ⟨_, rfl⟩
      change T 145 _ _ _
      refine z_nil ?_
      cases x52
      ·
        replace H := cond_f H
        refine t_cond_false rfl ?_
        refine t_skip ?_
        refine t_seq ?_
        refine t_seq ?_
        refine t_region (fun ops hops => ?_)
        refine z_val (v := .bool x31.2) (val_move rfl rfl) rfl rfl rfl (fun _ _ _ => trivial) ?_
        refine z_val (v := .bool x31.2) (val_move rfl rfl) rfl rfl rfl (fun _ _ _ => trivial) ?_
        refine z_bind H 2 (fun (s : Bool) (_ : Unit) => [(0, .slice A0 a0.length c0), (4, .slice A_8 x26.1.length c_9), (5, .int .i64 x26.2), (6, U64 x31.1), (7, .bool x31.2), (8, U64 x36.1), (9, .bool x36.2), (10, U64 x41.1), (11, .bool x41.2), (56, .bool s)]) (fun _ _ => Mm w [] h [.row (.slice A_8 x26.1.length c_9) 5 1 (x26.1.map U8), .row (.slice A_5 x23.length c_6) 5 1 (x23.map U8)]) (fun _ _ => True) (fun Gr K s he HJ => ?_) (fun s g HB _ => ?_)
        ·
          clear H
          generalize x31.2 = bb at *
          cases bb
          ·
            have H := cond_f he
            clear he
            refine z_skip rfl rfl (by rw [hops]; rfl) (fun _ _ _ => trivial) ?_
            refine z_val (v := .bool false) (val_pick rfl rfl rfl) rfl rfl rfl (fun _ _ _ => trivial) ?_
            obtain rfl := Option.some.inj H
            exact z_nil ((K _ () HJ trivial).weak (fun a ha => ha.cons rfl (ha.cons rfl (ha.cons rfl (ha.cons rfl (ha.cons rfl (ha.cons rfl (ha.cons rfl (ha.cons rfl (ha.cons rfl (ha.cons rfl (ha.nil))))))))))) (fun w hw => hw))
          ·
            have H := cond_t he
            clear he
            refine z_val (v := .bool x41.2) (val_move rfl rfl) rfl rfl (by rw [hops]; rfl) (fun _ _ _ => trivial) ?_
            refine z_val (v := .bool x41.2) (val_pick rfl rfl rfl) rfl rfl rfl (fun _ _ _ => trivial) ?_
            obtain rfl := Option.some.inj H
            exact z_nil ((K _ () HJ trivial).weak (fun a ha => ha.cons rfl (ha.cons rfl (ha.cons rfl (ha.cons rfl (ha.cons rfl (ha.cons rfl (ha.cons rfl (ha.cons rfl (ha.cons rfl (ha.cons rfl (ha.nil))))))))))) (fun w hw => hw))
        ·
          replace H := HB
          clear HB
          obtain ⟨x56, rfl⟩ : ∃ x, x = s := ⟨_, rfl⟩
          change T 145 _ _ _
          refine z_val (v := .bool x56) (val_move rfl rfl) rfl rfl rfl (fun _ _ _ => trivial) ?_
          refine z_bind H 3 (fun (s : Bool) (_ : Unit) => [(0, .slice A0 a0.length c0), (4, .slice A_8 x26.1.length c_9), (5, .int .i64 x26.2), (6, U64 x31.1), (7, .bool x31.2), (8, U64 x36.1), (9, .bool x36.2), (10, U64 x41.1), (11, .bool x41.2), (60, .bool s)]) (fun _ _ => Mm w [] h [.row (.slice A_8 x26.1.length c_9) 5 1 (x26.1.map U8), .row (.slice A_5 x23.length c_6) 5 1 (x23.map U8)]) (fun _ _ => True) (fun Gr K s he HJ => ?_) (fun s g HB _ => ?_)
          ·
            clear H
            cases x56
            ·
              have H := cond_f he
              clear he
              refine z_skip rfl rfl (by rw [hops]; rfl) (fun _ _ _ => trivial) ?_
              refine z_skip rfl rfl (by rw [hops]; rfl) (fun _ _ _ => trivial) ?_
              refine z_val (v := .bool false) (val_pick rfl rfl rfl) rfl rfl rfl (fun _ _ _ => trivial) ?_
              obtain rfl := Option.some.inj H
              exact z_nil ((K _ () HJ trivial).weak (fun a ha => ha.cons rfl (ha.cons rfl (ha.cons rfl (ha.cons rfl (ha.cons rfl (ha.cons rfl (ha.cons rfl (ha.cons rfl (ha.cons rfl (ha.cons rfl (ha.nil))))))))))) (fun w hw => hw))
            ·
              have H := cond_t he
              clear he
              refine z_val (v := U64 x31.1) (val_move rfl rfl) rfl rfl (by rw [hops]; rfl) (fun _ _ _ => trivial) ?_
              obtain ⟨x59, hx59, H⟩ := Let_elim H
              refine z_val (v := .bool x59) (by subst hx59; exact val_bin rfl rfl rfl rfl (u64_eql_r _ 0 x31.1)) rfl rfl (by rw [hops]; rfl) (fun _ _ _ => trivial) ?_
              clear hx59
              refine z_val (v := .bool x59) (val_pick rfl rfl rfl) rfl rfl rfl (fun _ _ _ => trivial) ?_
              obtain rfl := Option.some.inj H
              exact z_nil ((K _ () HJ trivial).weak (fun a ha => ha.cons rfl (ha.cons rfl (ha.cons rfl (ha.cons rfl (ha.cons rfl (ha.cons rfl (ha.cons rfl (ha.cons rfl (ha.cons rfl (ha.cons rfl (ha.nil))))))))))) (fun w hw => hw))
          ·
            replace H := HB
            clear HB
            obtain ⟨x60, rfl⟩ : ∃ x, x = s := ⟨_, rfl⟩
            change T 145 _ _ _
            refine z_val (v := .bool x60) (val_move rfl rfl) rfl rfl rfl (fun _ _ _ => trivial) ?_
            refine z_bind H 3 (fun (s : Bool) (_ : Unit) => [(0, .slice A0 a0.length c0), (4, .slice A_8 x26.1.length c_9), (5, .int .i64 x26.2), (6, U64 x31.1), (7, .bool x31.2), (8, U64 x36.1), (9, .bool x36.2), (10, U64 x41.1), (11, .bool x41.2), (64, .bool s)]) (fun _ _ => Mm w [] h [.row (.slice A_8 x26.1.length c_9) 5 1 (x26.1.map U8), .row (.slice A_5 x23.length c_6) 5 1 (x23.map U8)]) (fun _ _ => True) (fun Gr K s he HJ => ?_) (fun s g HB _ => ?_)
            ·
              clear H
              cases x60
              ·
                have H := cond_f he
                clear he
                refine z_skip rfl rfl (by rw [hops]; rfl) (fun _ _ _ => trivial) ?_
                refine z_skip rfl rfl (by rw [hops]; rfl) (fun _ _ _ => trivial) ?_
                refine z_val (v := .bool false) (val_pick rfl rfl rfl) rfl rfl rfl (fun _ _ _ => trivial) ?_
                obtain rfl := Option.some.inj H
                exact z_nil ((K _ () HJ trivial).weak (fun a ha => ha.cons rfl (ha.cons rfl (ha.cons rfl (ha.cons rfl (ha.cons rfl (ha.cons rfl (ha.cons rfl (ha.cons rfl (ha.cons rfl (ha.cons rfl (ha.nil))))))))))) (fun w hw => hw))
              ·
                have H := cond_t he
                clear he
                refine z_val (v := U64 x41.1) (val_move rfl rfl) rfl rfl (by rw [hops]; rfl) (fun _ _ _ => trivial) ?_
                obtain ⟨x63, hx63, H⟩ := Let_elim H
                refine z_val (v := .bool x63) (by subst hx63; exact val_bin rfl rfl rfl rfl (u64_eql_r _ 0 x41.1)) rfl rfl (by rw [hops]; rfl) (fun _ _ _ => trivial) ?_
                clear hx63
                refine z_val (v := .bool x63) (val_pick rfl rfl rfl) rfl rfl rfl (fun _ _ _ => trivial) ?_
                obtain rfl := Option.some.inj H
                exact z_nil ((K _ () HJ trivial).weak (fun a ha => ha.cons rfl (ha.cons rfl (ha.cons rfl (ha.cons rfl (ha.cons rfl (ha.cons rfl (ha.cons rfl (ha.cons rfl (ha.cons rfl (ha.cons rfl (ha.nil))))))))))) (fun w hw => hw))
            ·
              replace H := HB
              clear HB
              obtain ⟨x64, rfl⟩ : ∃ x, x = s := ⟨_, rfl⟩
              change T 145 _ _ _
              refine z_nil ?_
              cases x64
              ·
                replace H := cond_f H
                refine t_cond_false rfl ?_
                refine t_skip ?_
                refine t_seq ?_
                refine t_seq ?_
                refine t_region (fun ops hops => ?_)
                refine z_val (v := .bool x31.2) (val_move rfl rfl) rfl rfl rfl (fun _ _ _ => trivial) ?_
                obtain ⟨x73, hx73, H⟩ := Let_elim H
                refine z_val (v := .bool x73) (by subst hx73; exact val_un rfl rfl (bool_not _)) rfl rfl rfl (fun _ _ _ => trivial) ?_
                clear hx73
                refine z_val (v := .bool x73) (val_move rfl rfl) rfl rfl rfl (fun _ _ _ => trivial) ?_
                refine z_bind H 3 (fun (s : Bool) (_ : Unit) => [(0, .slice A0 a0.length c0), (4, .slice A_8 x26.1.length c_9), (5, .int .i64 x26.2), (6, U64 x31.1), (8, U64 x36.1), (10, U64 x41.1), (11, .bool x41.2), (77, .bool s)]) (fun _ _ => Mm w [] h [.row (.slice A_8 x26.1.length c_9) 5 1 (x26.1.map U8), .row (.slice A_5 x23.length c_6) 5 1 (x23.map U8)]) (fun _ _ => True) (fun Gr K s he HJ => ?_) (fun s g HB _ => ?_)
                ·
                  clear H
                  cases x73
                  ·
                    have H := cond_f he
                    clear he
                    refine z_val (v := .bool x36.2) (val_move rfl rfl) rfl rfl (by rw [hops]; rfl) (fun _ _ _ => trivial) ?_
                    obtain ⟨x76, hx76, H⟩ := Let_elim H
                    refine z_val (v := .bool x76) (by subst hx76; exact val_un rfl rfl (bool_not _)) rfl rfl (by rw [hops]; rfl) (fun _ _ _ => trivial) ?_
                    clear hx76
                    refine z_val (v := .bool x76) (val_pick rfl rfl rfl) rfl rfl rfl (fun _ _ _ => trivial) ?_
                    obtain rfl := Option.some.inj H
                    exact z_nil ((K _ () HJ trivial).weak (fun a ha => ha.cons rfl (ha.cons rfl (ha.cons rfl (ha.cons rfl (ha.cons rfl (ha.cons rfl (ha.cons rfl (ha.cons rfl (ha.nil))))))))) (fun w hw => hw))
                  ·
                    have H := cond_t he
                    clear he
                    refine z_skip rfl rfl (by rw [hops]; rfl) (fun _ _ _ => trivial) ?_
                    refine z_skip rfl rfl (by rw [hops]; rfl) (fun _ _ _ => trivial) ?_
                    refine z_val (v := .bool true) (val_pick rfl rfl rfl) rfl rfl rfl (fun _ _ _ => trivial) ?_
                    obtain rfl := Option.some.inj H
                    exact z_nil ((K _ () HJ trivial).weak (fun a ha => ha.cons rfl (ha.cons rfl (ha.cons rfl (ha.cons rfl (ha.cons rfl (ha.cons rfl (ha.cons rfl (ha.cons rfl (ha.nil))))))))) (fun w hw => hw))
                ·
                  replace H := HB
                  clear HB
                  obtain ⟨x77, rfl⟩ : ∃ x, x = s := ⟨_, rfl⟩
                  change T 145 _ _ _
                  refine z_val (v := .bool x77) (val_move rfl rfl) rfl rfl rfl (fun _ _ _ => trivial) ?_
                  refine z_bind H 3 (fun (s : Bool) (_ : Unit) => [(0, .slice A0 a0.length c0), (4, .slice A_8 x26.1.length c_9), (5, .int .i64 x26.2), (6, U64 x31.1), (8, U64 x36.1), (10, U64 x41.1), (81, .bool s)]) (fun _ _ => Mm w [] h [.row (.slice A_8 x26.1.length c_9) 5 1 (x26.1.map U8), .row (.slice A_5 x23.length c_6) 5 1 (x23.map U8)]) (fun _ _ => True) (fun Gr K s he HJ => ?_) (fun s g HB _ => ?_)
                  ·
                    clear H
                    cases x77
                    ·
                      have H := cond_f he
                      clear he
                      refine z_val (v := .bool x41.2) (val_move rfl rfl) rfl rfl (by rw [hops]; rfl) (fun _ _ _ => trivial) ?_
                      obtain ⟨x80, hx80, H⟩ := Let_elim H
                      refine z_val (v := .bool x80) (by subst hx80; exact val_un rfl rfl (bool_not _)) rfl rfl (by rw [hops]; rfl) (fun _ _ _ => trivial) ?_
                      clear hx80
                      refine z_val (v := .bool x80) (val_pick rfl rfl rfl) rfl rfl rfl (fun _ _ _ => trivial) ?_
                      obtain rfl := Option.some.inj H
                      exact z_nil ((K _ () HJ trivial).weak (fun a ha => ha.cons rfl (ha.cons rfl (ha.cons rfl (ha.cons rfl (ha.cons rfl (ha.cons rfl (ha.cons rfl (ha.nil)))))))) (fun w hw => hw))
                    ·
                      have H := cond_t he
                      clear he
                      refine z_skip rfl rfl (by rw [hops]; rfl) (fun _ _ _ => trivial) ?_
                      refine z_skip rfl rfl (by rw [hops]; rfl) (fun _ _ _ => trivial) ?_
                      refine z_val (v := .bool true) (val_pick rfl rfl rfl) rfl rfl rfl (fun _ _ _ => trivial) ?_
                      obtain rfl := Option.some.inj H
                      exact z_nil ((K _ () HJ trivial).weak (fun a ha => ha.cons rfl (ha.cons rfl (ha.cons rfl (ha.cons rfl (ha.cons rfl (ha.cons rfl (ha.cons rfl (ha.nil)))))))) (fun w hw => hw))
                  ·
                    replace H := HB
                    clear HB
                    obtain ⟨x81, rfl⟩ : ∃ x, x = s := ⟨_, rfl⟩
                    change T 145 _ _ _
                    refine z_val (v := .bool x81) (val_move rfl rfl) rfl rfl rfl (fun _ _ _ => trivial) ?_
                    refine z_bind H 3 (fun (s : Bool) (_ : Unit) => [(0, .slice A0 a0.length c0), (4, .slice A_8 x26.1.length c_9), (5, .int .i64 x26.2), (6, U64 x31.1), (8, U64 x36.1), (10, U64 x41.1), (85, .bool s)]) (fun _ _ => Mm w [] h [.row (.slice A_8 x26.1.length c_9) 5 1 (x26.1.map U8), .row (.slice A_5 x23.length c_6) 5 1 (x23.map U8)]) (fun _ _ => True) (fun Gr K s he HJ => ?_) (fun s g HB _ => ?_)
                    ·
                      clear H
                      cases x81
                      ·
                        have H := cond_f he
                        clear he
                        refine z_val (v := U64 x31.1) (val_move rfl rfl) rfl rfl (by rw [hops]; rfl) (fun _ _ _ => trivial) ?_
                        obtain ⟨x84, hx84, H⟩ := Let_elim H
                        refine z_val (v := .bool x84) (by subst hx84; exact val_bin rfl rfl rfl rfl (u64_gtr_r _ 64 x31.1)) rfl rfl (by rw [hops]; rfl) (fun _ _ _ => trivial) ?_
                        clear hx84
                        refine z_val (v := .bool x84) (val_pick rfl rfl rfl) rfl rfl rfl (fun _ _ _ => trivial) ?_
                        obtain rfl := Option.some.inj H
                        exact z_nil ((K _ () HJ trivial).weak (fun a ha => ha.cons rfl (ha.cons rfl (ha.cons rfl (ha.cons rfl (ha.cons rfl (ha.cons rfl (ha.cons rfl (ha.nil)))))))) (fun w hw => hw))
                      ·
                        have H := cond_t he
                        clear he
                        refine z_skip rfl rfl (by rw [hops]; rfl) (fun _ _ _ => trivial) ?_
                        refine z_skip rfl rfl (by rw [hops]; rfl) (fun _ _ _ => trivial) ?_
                        refine z_val (v := .bool true) (val_pick rfl rfl rfl) rfl rfl rfl (fun _ _ _ => trivial) ?_
                        obtain rfl := Option.some.inj H
                        exact z_nil ((K _ () HJ trivial).weak (fun a ha => ha.cons rfl (ha.cons rfl (ha.cons rfl (ha.cons rfl (ha.cons rfl (ha.cons rfl (ha.cons rfl (ha.nil)))))))) (fun w hw => hw))
                    ·
                      replace H := HB
                      clear HB
                      obtain ⟨x85, rfl⟩ : ∃ x, x = s := ⟨_, rfl⟩
                      change T 145 _ _ _
                      refine z_val (v := .bool x85) (val_move rfl rfl) rfl rfl rfl (fun _ _ _ => trivial) ?_
                      refine z_bind H 3 (fun (s : Bool) (_ : Unit) => [(0, .slice A0 a0.length c0), (4, .slice A_8 x26.1.length c_9), (5, .int .i64 x26.2), (6, U64 x31.1), (8, U64 x36.1), (10, U64 x41.1), (89, .bool s)]) (fun _ _ => Mm w [] h [.row (.slice A_8 x26.1.length c_9) 5 1 (x26.1.map U8), .row (.slice A_5 x23.length c_6) 5 1 (x23.map U8)]) (fun _ _ => True) (fun Gr K s he HJ => ?_) (fun s g HB _ => ?_)
                      ·
                        clear H
                        cases x85
                        ·
                          have H := cond_f he
                          clear he
                          refine z_val (v := U64 x36.1) (val_move rfl rfl) rfl rfl (by rw [hops]; rfl) (fun _ _ _ => trivial) ?_
                          obtain ⟨x88, hx88, H⟩ := Let_elim H
                          refine z_val (v := .bool x88) (by subst hx88; exact val_bin rfl rfl rfl rfl (u64_gtr_r _ 64 x36.1)) rfl rfl (by rw [hops]; rfl) (fun _ _ _ => trivial) ?_
                          clear hx88
                          refine z_val (v := .bool x88) (val_pick rfl rfl rfl) rfl rfl rfl (fun _ _ _ => trivial) ?_
                          obtain rfl := Option.some.inj H
                          exact z_nil ((K _ () HJ trivial).weak (fun a ha => ha.cons rfl (ha.cons rfl (ha.cons rfl (ha.cons rfl (ha.cons rfl (ha.cons rfl (ha.cons rfl (ha.nil)))))))) (fun w hw => hw))
                        ·
                          have H := cond_t he
                          clear he
                          refine z_skip rfl rfl (by rw [hops]; rfl) (fun _ _ _ => trivial) ?_
                          refine z_skip rfl rfl (by rw [hops]; rfl) (fun _ _ _ => trivial) ?_
                          refine z_val (v := .bool true) (val_pick rfl rfl rfl) rfl rfl rfl (fun _ _ _ => trivial) ?_
                          obtain rfl := Option.some.inj H
                          exact z_nil ((K _ () HJ trivial).weak (fun a ha => ha.cons rfl (ha.cons rfl (ha.cons rfl (ha.cons rfl (ha.cons rfl (ha.cons rfl (ha.cons rfl (ha.nil)))))))) (fun w hw => hw))
                      ·
                        replace H := HB
                        clear HB
                        obtain ⟨x89, rfl⟩ : ∃ x, x = s := ⟨_, rfl⟩
                        change T 145 _ _ _
                        refine z_val (v := .bool x89) (val_move rfl rfl) rfl rfl rfl (fun _ _ _ => trivial) ?_
                        refine z_bind H 3 (fun (s : Bool) (_ : Unit) => [(0, .slice A0 a0.length c0), (4, .slice A_8 x26.1.length c_9), (5, .int .i64 x26.2), (6, U64 x31.1), (8, U64 x36.1), (10, U64 x41.1), (93, .bool s)]) (fun _ _ => Mm w [] h [.row (.slice A_8 x26.1.length c_9) 5 1 (x26.1.map U8), .row (.slice A_5 x23.length c_6) 5 1 (x23.map U8)]) (fun _ _ => True) (fun Gr K s he HJ => ?_) (fun s g HB _ => ?_)
                        ·
                          clear H
                          cases x89
                          ·
                            have H := cond_f he
                            clear he
                            refine z_val (v := U64 x41.1) (val_move rfl rfl) rfl rfl (by rw [hops]; rfl) (fun _ _ _ => trivial) ?_
                            obtain ⟨x92, hx92, H⟩ := Let_elim H
                            refine z_val (v := .bool x92) (by subst hx92; exact val_bin rfl rfl rfl rfl (u64_gtr_r _ 64 x41.1)) rfl rfl (by rw [hops]; rfl) (fun _ _ _ => trivial) ?_
                            clear hx92
                            refine z_val (v := .bool x92) (val_pick rfl rfl rfl) rfl rfl rfl (fun _ _ _ => trivial) ?_
                            obtain rfl := Option.some.inj H
                            exact z_nil ((K _ () HJ trivial).weak (fun a ha => ha.cons rfl (ha.cons rfl (ha.cons rfl (ha.cons rfl (ha.cons rfl (ha.cons rfl (ha.cons rfl (ha.nil)))))))) (fun w hw => hw))
                          ·
                            have H := cond_t he
                            clear he
                            refine z_skip rfl rfl (by rw [hops]; rfl) (fun _ _ _ => trivial) ?_
                            refine z_skip rfl rfl (by rw [hops]; rfl) (fun _ _ _ => trivial) ?_
                            refine z_val (v := .bool true) (val_pick rfl rfl rfl) rfl rfl rfl (fun _ _ _ => trivial) ?_
                            obtain rfl := Option.some.inj H
                            exact z_nil ((K _ () HJ trivial).weak (fun a ha => ha.cons rfl (ha.cons rfl (ha.cons rfl (ha.cons rfl (ha.cons rfl (ha.cons rfl (ha.cons rfl (ha.nil)))))))) (fun w hw => hw))
                        ·
                          replace H := HB
                          clear HB
                          obtain ⟨x93, rfl⟩ : ∃ x, x = s := ⟨_, rfl⟩
                          change T 145 _ _ _
                          refine z_nil ?_
                          cases x93
                          ·
                            replace H := cond_f H
                            refine t_cond_false rfl ?_
                            refine t_skip ?_
                            refine t_seq ?_
                            refine t_region (fun ops hops => ?_)
                            clear hops
                            refine z_val (v := U64 x31.1) (val_move rfl rfl) rfl rfl rfl (fun _ _ _ => trivial) ?_
                            obtain ⟨x102, hx102, H⟩ := Let_elim H
                            refine z_val (v := .int .i64 x102) (by subst hx102; exact val_conv rfl rfl (fun w => conv_u64_int w _ _ _ (by rw [Try.underlying38]; rfl) Try.underlying3)) rfl rfl rfl (fun _ _ _ => trivial) ?_
                            clear hx102
                            refine z_val (v := U64 x36.1) (val_move rfl rfl) rfl rfl rfl (fun _ _ _ => trivial) ?_
                            obtain ⟨x104, hx104, H⟩ := Let_elim H
                            refine z_val (v := .int .i64 x104) (by subst hx104; exact val_conv rfl rfl (fun w => conv_u64_int w _ _ _ (by rw [Try.underlying38]; rfl) Try.underlying3)) rfl rfl rfl (fun _ _ _ => trivial) ?_
                            clear hx104
                            refine z_val (v := U64 x41.1) (val_move rfl rfl) rfl rfl rfl (fun _ _ _ => trivial) ?_
                            obtain ⟨x106, hx106, H⟩ := Let_elim H
                            refine z_val (v := .int .i64 x106) (by subst hx106; exact val_conv rfl rfl (fun w => conv_u64_int w _ _ _ (by rw [Try.underlying38]; rfl) Try.underlying3)) rfl rfl rfl (fun _ _ _ => trivial) ?_
                            clear hx106
                            refine z_val (v := .int .i64 x102) (val_assign rfl rfl) rfl rfl rfl (fun _ _ _ => trivial) ?_
                            refine z_val (v := .int .i64 x104) (val_assign rfl rfl) rfl rfl rfl (fun _ _ _ => trivial) ?_
                            refine z_val (v := .int .i64 x106) (val_assign rfl rfl) rfl rfl rfl (fun _ _ _ => trivial) ?_
                            refine z_nil ?_
                            refine t_seq ?_
                            refine t_region (fun ops hops => ?_)
                            clear hops
                            refine z_val (v := .slice A0 a0.length c0) (val_move rfl rfl) rfl rfl rfl (fun _ _ _ => trivial) ?_
                            refine z_val (v := .int .i64 x102) (val_move rfl rfl) rfl rfl rfl (fun _ _ _ => trivial) ?_
                            obtain ⟨x110, hx_16, H⟩ := Option.bind_eq_some_iff.1 H
                            refine z_madeS (F := fun A_17 c_18 => .slice A_17 x110.length c_18) (xs := x110) rfl Try.func21 nm21 bs21 rfl (fun w hw => smithyref09_Part.calls a0 96 x102 A0 c0 x110 hx_16 w (hs0.toW hw) hc0) rfl rfl rfl (fun _ _ _ _ _ => trivial) (fun A_17 c_18 hs_19 => ?_)
                            clear hx_16
                            refine z_val (v := .slice A0 a0.length c0) (val_move rfl rfl) rfl rfl rfl (fun _ _ _ => trivial) ?_
                            refine z_val (v := .int .i64 x102) (val_move rfl rfl) rfl rfl rfl (fun _ _ _ => trivial) ?_
                            obtain ⟨x113, hx113, H⟩ := Let_elim H
                            refine z_val (v := .int .i64 x113) (by subst hx113; exact val_bin rfl rfl rfl rfl (i64_add _ _ _)) rfl rfl rfl (fun _ _ _ => trivial) ?_
                            clear hx113
                            refine z_val (v := .int .i64 x104) (val_move rfl rfl) rfl rfl rfl (fun _ _ _ => trivial) ?_
                            obtain ⟨x115, hx_21, H⟩ := Option.bind_eq_some_iff.1 H
                            refine z_madeS (F := fun A_22 c_23 => .slice A_22 x115.length c_23) (xs := x115) rfl Try.func21 nm21 bs21 rfl (fun w hw => smithyref09_Part.calls a0 x113 x104 A0 c0 x115 hx_21 w (hs0.toW hw) hc0) rfl rfl rfl (fun _ _ _ _ _ => trivial) (fun A_22 c_23 hs_24 => ?_)
                            clear hx_21
                            refine z_val (v := .slice A0 a0.length c0) (val_move rfl rfl) rfl rfl rfl (fun _ _ _ => trivial) ?_
                            refine z_val (v := .int .i64 x102) (val_move rfl rfl) rfl rfl rfl (fun _ _ _ => trivial) ?_
                            obtain ⟨x118, hx118, H⟩ := Let_elim H
                            refine z_val (v := .int .i64 x118) (by subst hx118; exact val_bin rfl rfl rfl rfl (i64_add _ _ _)) rfl rfl rfl (fun _ _ _ => trivial) ?_
                            clear hx118
                            refine z_val (v := .int .i64 x104) (val_move rfl rfl) rfl rfl rfl (fun _ _ _ => trivial) ?_
                            obtain ⟨x120, hx120, H⟩ := Let_elim H
                            refine z_val (v := .int .i64 x120) (by subst hx120; exact val_bin rfl rfl rfl rfl (i64_add _ _ _)) rfl rfl rfl (fun _ _ _ => trivial) ?_
                            clear hx120
                            refine z_val (v := .int .i64 x106) (val_move rfl rfl) rfl rfl rfl (fun _ _ _ => trivial) ?_
                            obtain ⟨x122, hx_26, H⟩ := Option.bind_eq_some_iff.1 H
                            refine z_madeS (F := fun A_27 c_28 => .slice A_27 x122.length c_28) (xs := x122) rfl Try.func21 nm21 bs21 rfl (fun w hw => smithyref09_Part.calls a0 x120 x106 A0 c0 x122 hx_26 w (hs0.toW hw) hc0) rfl rfl rfl (fun _ _ _ _ _ => trivial) (fun A_27 c_28 hs_29 => ?_)
                            clear hx_26
                            obtain ⟨x123, hx_31, H⟩ := Option.bind_eq_some_iff.1 H
                            refine z_madeS (F := fun A_32 c_33 => .tuple #[.slice A_32 x123.1.length c_33, .int .i64 x123.2]) (xs := x123.1) rfl Try.func8 nm8 bs8 rfl (fun w hw => modexp_Pow.calls x110 x115 x122 A_17 c_18 A_22 c_23 A_27 c_28 x123 hx_31 w (row_w hw (j := 2) rfl) hs_19.le (row_w hw (j := 1) rfl) hs_24.le (row_w hw (j := 0) rfl) hs_29.le) rfl rfl rfl (fun _ _ _ _ _ => trivial) (fun A_32 c_33 hs_34 => ?_)
                            clear hx_31
                            refine z_val (v := .tuple #[.slice A_32 x123.1.length c_33, .int .i64 x123.2]) (val_move rfl rfl) rfl rfl rfl (fun _ _ _ => trivial) ?_
                            refine z_val (v := .slice A_32 x123.1.length c_33) (val_extract rfl rfl rfl) rfl rfl rfl (fun _ _ _ => trivial) ?_
                            refine z_val (v := .int .i64 x123.2) (val_extract rfl rfl rfl) rfl rfl rfl (fun _ _ _ => trivial) ?_
                            refine z_val (v := .slice A_32 x123.1.length c_33) (val_assign rfl rfl) rfl rfl rfl (fun _ _ _ => trivial) ?_
                            refine z_val (v := .int .i64 x123.2) (val_assign rfl rfl) rfl rfl rfl (fun _ _ _ => trivial) ?_
                            refine z_nil ?_
                            refine t_seq ?_
                            refine t_region (fun ops hops => ?_)
                            refine z_val (v := .int .i64 x26.2) (val_move rfl rfl) rfl rfl rfl (fun _ _ _ => trivial) ?_
                            obtain ⟨x127, hx127, H⟩ := Let_elim H
                            refine z_val (v := .bool x127) (by subst hx127; exact val_bin rfl rfl rfl rfl (i64_eql _ _ _)) rfl rfl rfl (fun _ _ _ => trivial) ?_
                            clear hx127
                            refine z_val (v := .bool x127) (val_move rfl rfl) rfl rfl rfl (fun _ _ _ => trivial) ?_
                            refine z_bind H 3 (fun (s : Bool) (_ : Unit) => [(4, .slice A_8 x26.1.length c_9), (14, .int .i64 x106), (15, .slice A_32 x123.1.length c_33), (131, .bool s)]) (fun _ _ => Mm w [] h [.row (.slice A_32 x123.1.length c_33) 5 1 (x123.1.map U8), .row (.slice A_27 x122.length c_28) 5 1 (x122.map U8), .row (.slice A_22 x115.length c_23) 5 1 (x115.map U8), .row (.slice A_17 x110.length c_18) 5 1 (x110.map U8), .row (.slice A_8 x26.1.length c_9) 5 1 (x26.1.map U8), .row (.slice A_5 x23.length c_6) 5 1 (x23.map U8)]) (fun _ _ => True) (fun Gr K s he HJ => ?_) (fun s g HB _ => ?_)
                            ·
                              clear H
                              cases x127
                              ·
                                have H := cond_f he
                                clear he
                                refine z_skip rfl rfl (by rw [hops]; rfl) (fun _ _ _ => trivial) ?_
                                refine z_skip rfl rfl (by rw [hops]; rfl) (fun _ _ _ => trivial) ?_
                                refine z_val (v := .bool false) (val_pick rfl rfl rfl) rfl rfl rfl (fun _ _ _ => trivial) ?_
                                obtain rfl := Option.some.inj H
                                exact z_nil ((K _ () HJ trivial).weak (fun a ha => ha.cons rfl (ha.cons rfl (ha.cons rfl (ha.cons rfl (ha.nil))))) (fun w hw => hw))
                              ·
                                have H := cond_t he
                                clear he
                                refine z_val (v := .int .i64 x123.2) (val_move rfl rfl) rfl rfl (by rw [hops]; rfl) (fun _ _ _ => trivial) ?_
                                obtain ⟨x130, hx130, H⟩ := Let_elim H
                                refine z_val (v := .bool x130) (by subst hx130; exact val_bin rfl rfl rfl rfl (i64_eql _ _ _)) rfl rfl (by rw [hops]; rfl) (fun _ _ _ => trivial) ?_
                                clear hx130
                                refine z_val (v := .bool x130) (val_pick rfl rfl rfl) rfl rfl rfl (fun _ _ _ => trivial) ?_
                                obtain rfl := Option.some.inj H
                                exact z_nil ((K _ () HJ trivial).weak (fun a ha => ha.cons rfl (ha.cons rfl (ha.cons rfl (ha.cons rfl (ha.nil))))) (fun w hw => hw))
                            ·
                              replace H := HB
                              clear HB
                              obtain ⟨x131, rfl⟩ : ∃ x, x = s := ⟨_, rfl⟩
                              change T 145 _ _ _
                              refine z_val (v := .bool x131) (val_move rfl rfl) rfl rfl rfl (fun _ _ _ => trivial) ?_
                              refine z_bind H 6 (fun (s : Bool) (_ : Unit) => [(4, .slice A_8 x26.1.length c_9), (14, .int .i64 x106), (138, .bool s)]) (fun _ _ => Mm w [] h [.row (.slice A_32 x123.1.length c_33) 5 1 (x123.1.map U8), .row (.slice A_27 x122.length c_28) 5 1 (x122.map U8), .row (.slice A_22 x115.length c_23) 5 1 (x115.map U8), .row (.slice A_17 x110.length c_18) 5 1 (x110.map U8), .row (.slice A_8 x26.1.length c_9) 5 1 (x26.1.map U8), .row (.slice A_5 x23.length c_6) 5 1 (x23.map U8)]) (fun _ _ => True) (fun Gr K s he HJ => ?_) (fun s g HB _ => ?_)
                              ·
                                clear H
                                cases x131
                                ·
                                  have H := cond_f he
                                  clear he
                                  refine z_skip rfl rfl (by rw [hops]; rfl) (fun _ _ _ => trivial) ?_
                                  refine z_skip rfl rfl (by rw [hops]; rfl) (fun _ _ _ => trivial) ?_
                                  refine z_skip rfl rfl (by rw [hops]; rfl) (fun _ _ _ => trivial) ?_
                                  refine z_skip rfl rfl (by rw [hops]; rfl) (fun _ _ _ => trivial) ?_
                                  refine z_skip rfl rfl (by rw [hops]; rfl) (fun _ _ _ => trivial) ?_
                                  refine z_val (v := .bool false) (val_pick rfl rfl rfl) rfl rfl rfl (fun _ _ _ => trivial) ?_
                                  obtain rfl := Option.some.inj H
                                  exact z_nil ((K _ () HJ trivial).weak (fun a ha => ha.cons rfl (ha.cons rfl (ha.cons rfl (ha.nil)))) (fun w hw => hw))
                                ·
                                  have H := cond_t he
                                  clear he
                                  refine z_val (v := .slice A_8 x26.1.length c_9) (val_move rfl rfl) rfl rfl (by rw [hops]; rfl) (fun _ _ _ => trivial) ?_
                                  obtain ⟨x134, hx134, H⟩ := Let_elim H
                                  refine z_val (v := .string x134) (by subst hx134; exact val_convS rfl rfl Try.underlying22 Try.underlying5 Try.underlying9 (fun w hw => (row_w hw (j := 4) rfl))) rfl rfl (by rw [hops]; rfl) (fun _ _ _ => trivial) ?_
                                  clear hx134
                                  refine z_val (v := .slice A_32 x123.1.length c_33) (val_move rfl rfl) rfl rfl (by rw [hops]; rfl) (fun _ _ _ => trivial) ?_
                                  obtain ⟨x136, hx136, H⟩ := Let_elim H
                                  refine z_val (v := .string x136) (by subst hx136; exact val_convS rfl rfl Try.underlying22 Try.underlying5 Try.underlying9 (fun w hw => (row_w hw (j := 0) rfl))) rfl rfl (by rw [hops]; rfl) (fun _ _ _ => trivial) ?_
                                  clear hx136
                                  obtain ⟨x137, hx137, H⟩ := Let_elim H
                                  refine z_val (v := .bool x137) (by subst hx137; exact val_bin rfl rfl rfl rfl (str_eql _ _ _)) rfl rfl (by rw [hops]; rfl) (fun _ _ _ => trivial) ?_
                                  clear hx137
                                  refine z_val (v := .bool x137) (val_pick rfl rfl rfl) rfl rfl rfl (fun _ _ _ => trivial) ?_
                                  obtain rfl := Option.some.inj H
                                  exact z_nil ((K _ () HJ trivial).weak (fun a ha => ha.cons rfl (ha.cons rfl (ha.cons rfl (ha.nil)))) (fun w hw => hw))
                              ·
                                replace H := HB
                                clear HB
                                obtain ⟨x138, rfl⟩ : ∃ x, x = s := ⟨_, rfl⟩
                                change T 145 _ _ _
                                refine z_val (v := .bool x138) (val_move rfl rfl) rfl rfl rfl (fun _ _ _ => trivial) ?_
                                refine z_bind H 5 (fun (s : Bool) (_ : Unit) => [(144, .bool s)]) (fun _ _ => Mm w [] h [.row (.slice A_32 x123.1.length c_33) 5 1 (x123.1.map U8), .row (.slice A_27 x122.length c_28) 5 1 (x122.map U8), .row (.slice A_22 x115.length c_23) 5 1 (x115.map U8), .row (.slice A_17 x110.length c_18) 5 1 (x110.map U8), .row (.slice A_8 x26.1.length c_9) 5 1 (x26.1.map U8), .row (.slice A_5 x23.length c_6) 5 1 (x23.map U8)]) (fun _ _ => True) (fun Gr K s he HJ => ?_) (fun s g HB _ => ?_)
                                ·
                                  clear H
                                  cases x138
                                  ·
                                    have H := cond_f he
                                    clear he
                                    refine z_skip rfl rfl (by rw [hops]; rfl) (fun _ _ _ => trivial) ?_
                                    refine z_skip rfl rfl (by rw [hops]; rfl) (fun _ _ _ => trivial) ?_
                                    refine z_skip rfl rfl (by rw [hops]; rfl) (fun _ _ _ => trivial) ?_
                                    refine z_skip rfl rfl (by rw [hops]; rfl) (fun _ _ _ => trivial) ?_
                                    refine z_val (v := .bool false) (val_pick rfl rfl rfl) rfl rfl rfl (fun _ _ _ => trivial) ?_
                                    obtain rfl := Option.some.inj H
                                    exact z_nil ((K _ () HJ trivial).weak (fun a ha => ha.cons rfl (ha.nil)) (fun w hw => hw))
                                  ·
                                    have H := cond_t he
                                    clear he
                                    refine z_val (v := .slice A_8 x26.1.length c_9) (val_move rfl rfl) rfl rfl (by rw [hops]; rfl) (fun _ _ _ => trivial) ?_
                                    obtain ⟨x141, hx141, H⟩ := Let_elim H
                                    refine z_val (v := .int .i64 x141) (by subst hx141; exact val_len rfl rfl rfl Try.underlying22) rfl rfl (by rw [hops]; rfl) (fun _ _ _ => trivial) ?_
                                    clear hx141
                                    refine z_val (v := .int .i64 x106) (val_move rfl rfl) rfl rfl (by rw [hops]; rfl) (fun _ _ _ => trivial) ?_
                                    obtain ⟨x143, hx143, H⟩ := Let_elim H
                                    refine z_val (v := .bool x143) (by subst hx143; exact val_bin rfl rfl rfl rfl (i64_eql _ _ _)) rfl rfl (by rw [hops]; rfl) (fun _ _ _ => trivial) ?_
                                    clear hx143
                                    refine z_val (v := .bool x143) (val_pick rfl rfl rfl) rfl rfl rfl (fun _ _ _ => trivial) ?_
                                    obtain rfl := Option.some.inj H
                                    exact z_nil ((K _ () HJ trivial).weak (fun a ha => ha.cons rfl (ha.nil)) (fun w hw => hw))
                                ·
                                  replace H := HB
                                  clear HB
                                  obtain ⟨x144, rfl⟩ : ∃ x, x = s := ⟨_, rfl⟩
                                  change T 145 _ _ _
                                  refine z_val (v := .bool x144) (val_assign rfl rfl) rfl rfl rfl (fun _ _ _ => trivial) ?_
                                  refine z_nil ?_
                                  refine t_ret ?_
                                  obtain rfl := Option.some.inj H
                                  exact ret1 rfl (res_tmp rfl) (fun _ hw => ⟨rfl, hw.below⟩)
                          ·
                            replace H := cond_t H
                            refine t_cond_true rfl ?_
                            refine t_seq ?_
                            refine t_region (fun ops hops => ?_)
                            refine z_val (v := .slice A_8 x26.1.length c_9) (val_move rfl rfl) rfl rfl rfl (fun _ _ _ => trivial) ?_
                            obtain ⟨x95, hx95, H⟩ := Let_elim H
                            refine z_val (v := .int .i64 x95) (by subst hx95; exact val_len rfl rfl rfl Try.underlying22) rfl rfl rfl (fun _ _ _ => trivial) ?_
                            clear hx95
                            obtain ⟨x96, hx96, H⟩ := Let_elim H
                            refine z_val (v := .bool x96) (by subst hx96; exact val_bin rfl rfl rfl rfl (i64_eql _ _ _)) rfl rfl rfl (fun _ _ _ => trivial) ?_
                            clear hx96
                            refine z_val (v := .bool x96) (val_move rfl rfl) rfl rfl rfl (fun _ _ _ => trivial) ?_
                            refine z_bind H 3 (fun (s : Bool) (_ : Unit) => [(100, .bool s)]) (fun _ _ => Mm w [] h [.row (.slice A_8 x26.1.length c_9) 5 1 (x26.1.map U8), .row (.slice A_5 x23.length c_6) 5 1 (x23.map U8)]) (fun _ _ => True) (fun Gr K s he HJ => ?_) (fun s g HB _ => ?_)
                            ·
                              clear H
                              cases x96
                              ·
                                have H := cond_f he
                                clear he
                                refine z_skip rfl rfl (by rw [hops]; rfl) (fun _ _ _ => trivial) ?_
                                refine z_skip rfl rfl (by rw [hops]; rfl) (fun _ _ _ => trivial) ?_
                                refine z_val (v := .bool false) (val_pick rfl rfl rfl) rfl rfl rfl (fun _ _ _ => trivial) ?_
                                obtain rfl := Option.some.inj H
                                exact z_nil ((K _ () HJ trivial).weak (fun a ha => ha.cons rfl (ha.nil)) (fun w hw => hw))
                              ·
                                have H := cond_t he
                                clear he
                                refine z_val (v := .int .i64 x26.2) (val_move rfl rfl) rfl rfl (by rw [hops]; rfl) (fun _ _ _ => trivial) ?_
                                obtain ⟨x99, hx99, H⟩ := Let_elim H
                                refine z_val (v := .bool x99) (by subst hx99; exact val_bin rfl rfl rfl rfl (i64_eql _ _ _)) rfl rfl (by rw [hops]; rfl) (fun _ _ _ => trivial) ?_
                                clear hx99
                                refine z_val (v := .bool x99) (val_pick rfl rfl rfl) rfl rfl rfl (fun _ _ _ => trivial) ?_
                                obtain rfl := Option.some.inj H
                                exact z_nil ((K _ () HJ trivial).weak (fun a ha => ha.cons rfl (ha.nil)) (fun w hw => hw))
                            ·
                              replace H := HB
                              clear HB
                              obtain ⟨x100, rfl⟩ : ∃ x, x = s := ⟨_, rfl⟩
                              change T 145 _ _ _
                              refine z_val (v := .bool x100) (val_assign rfl rfl) rfl rfl rfl (fun _ _ _ => trivial) ?_
                              refine z_nil ?_
                              refine t_ret ?_
                              obtain rfl := Option.some.inj H
                              exact ret1 rfl (res_tmp rfl) (fun _ hw => ⟨rfl, hw.below⟩)
              ·
                replace H := cond_t H
                refine t_cond_true rfl ?_
                refine t_seq ?_
                refine t_region (fun ops hops => ?_)
                refine z_val (v := .slice A_8 x26.1.length c_9) (val_move rfl rfl) rfl rfl rfl (fun _ _ _ => trivial) ?_
                obtain ⟨x66, hx66, H⟩ := Let_elim H
                refine z_val (v := .int .i64 x66) (by subst hx66; exact val_len rfl rfl rfl Try.underlying22) rfl rfl rfl (fun _ _ _ => trivial) ?_
                clear hx66
                obtain ⟨x67, hx67, H⟩ := Let_elim H
                refine z_val (v := .bool x67) (by subst hx67; exact val_bin rfl rfl rfl rfl (i64_eql _ _ _)) rfl rfl rfl (fun _ _ _ => trivial) ?_
                clear hx67
                refine z_val (v := .bool x67) (val_move rfl rfl) rfl rfl rfl (fun _ _ _ => trivial) ?_
                refine z_bind H 3 (fun (s : Bool) (_ : Unit) => [(71, .bool s)]) (fun _ _ => Mm w [] h [.row (.slice A_8 x26.1.length c_9) 5 1 (x26.1.map U8), .row (.slice A_5 x23.length c_6) 5 1 (x23.map U8)]) (fun _ _ => True) (fun Gr K s he HJ => ?_) (fun s g HB _ => ?_)
                ·
                  clear H
                  cases x67
                  ·
                    have H := cond_f he
                    clear he
                    refine z_skip rfl rfl (by rw [hops]; rfl) (fun _ _ _ => trivial) ?_
                    refine z_skip rfl rfl (by rw [hops]; rfl) (fun _ _ _ => trivial) ?_
                    refine z_val (v := .bool false) (val_pick rfl rfl rfl) rfl rfl rfl (fun _ _ _ => trivial) ?_
                    obtain rfl := Option.some.inj H
                    exact z_nil ((K _ () HJ trivial).weak (fun a ha => ha.cons rfl (ha.nil)) (fun w hw => hw))
                  ·
                    have H := cond_t he
                    clear he
                    refine z_val (v := .int .i64 x26.2) (val_move rfl rfl) rfl rfl (by rw [hops]; rfl) (fun _ _ _ => trivial) ?_
                    obtain ⟨x70, hx70, H⟩ := Let_elim H
                    refine z_val (v := .bool x70) (by subst hx70; exact val_bin rfl rfl rfl rfl (i64_eql _ _ _)) rfl rfl (by rw [hops]; rfl) (fun _ _ _ => trivial) ?_
                    clear hx70
                    refine z_val (v := .bool x70) (val_pick rfl rfl rfl) rfl rfl rfl (fun _ _ _ => trivial) ?_
                    obtain rfl := Option.some.inj H
                    exact z_nil ((K _ () HJ trivial).weak (fun a ha => ha.cons rfl (ha.nil)) (fun w hw => hw))
                ·
                  replace H := HB
                  clear HB
                  obtain ⟨x71, rfl⟩ : ∃ x, x = s := ⟨_, rfl⟩
                  change T 145 _ _ _
                  refine z_val (v := .bool x71) (val_assign rfl rfl) rfl rfl rfl (fun _ _ _ => trivial) ?_
                  refine z_nil ?_
                  refine t_ret ?_
                  obtain rfl := Option.some.inj H
                  exact ret1 rfl (res_tmp rfl) (fun _ hw => ⟨rfl, hw.below⟩)
      ·
        replace H := cond_t H
        refine t_cond_true rfl ?_
        refine t_seq ?_
        refine t_region (fun ops hops => ?_)
        clear hops
        refine z_val (v := .bool false) (val_assign rfl rfl) rfl rfl rfl (fun _ _ _ => trivial) ?_
        refine z_nil ?_
        refine t_ret ?_
        obtain rfl := Option.some.inj H
        exact ret1 rfl (res_tmp rfl) (fun _ hw => ⟨rfl, hw.below⟩)
  ·
    replace H := cond_t H
    refine t_cond_true rfl ?_
    refine t_seq ?_
    refine t_region (fun ops hops => ?_)
    clear hops
    obtain ⟨x20, hx_36, H⟩ := Option.bind_eq_some_iff.1 H
    refine z_made (v := .bool x20) rfl Try.func10 nm10 bs10 rfl (fun w hw => smithylaw09_fixed.calls x20 hx_36 w) rfl rfl rfl (fun _ _ _ => trivial) ?_
    clear hx_36
    refine z_val (v := .bool x20) (val_assign rfl rfl) rfl rfl rfl (fun _ _ _ => trivial) ?_
    refine z_nil ?_
    refine t_ret ?_
    obtain rfl := Option.some.inj H
    exact ret1 rfl (res_tmp rfl) (fun _ hw => ⟨rfl, hw.below⟩)
end Go.Proofs.Ytccilbklafhjiaa
