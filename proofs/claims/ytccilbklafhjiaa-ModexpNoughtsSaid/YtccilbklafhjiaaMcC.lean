/- Functions of the program as plain functions, and their walks, printed by walk.py. -/
import Derived.Test.YtccilbklafhjiaaMcF
import Derived.Test.YtccilbklafhjiaaMcA
namespace Go.Proofs.Ytccilbklafhjiaa
open Go.RowKit
set_option linter.unusedVariables false
set_option linter.unusedSimpArgs false
def smithyref02_at (a0 : List (Int)) (a1 : Int) : Option (Int) :=
  Let ((a0.length : Int)) fun x7 => Let (decide (a1 < x7)) fun x8 => (bif x8 then Chk ((0 : Int) ≤ a1 ∧ a1 < (a0.length : Int)) <| Let (lget a0 a1.toNat) fun x12 => some x12 else some 0)
set_option maxRecDepth 100000 in
theorem smithyref02_at.calls  (a0 : List (Int)) (a1 : Int) (A0 : Option Addr) (c0 : Nat) (r : Int) (H : smithyref02_at a0 a1 = some r) (w : World) (hs0 : SlW w (Value.int .i64) A0 a0) (hc0 : a0.length ≤ c0)  :
    Made Try.prog 28 #[.slice A0 a0.length c0, .int .i64 a1] w (.int .i64 r) := by
  unfold smithyref02_at at H
  replace hs0 := hs0.toH
  have hM := Mm.start w (snap w) (snap_ok w)
  generalize snap w = h at *
  refine t_enter (vs := [.slice A0 a0.length c0, .int .i64 a1]) (n := 13) Try.func28 rfl rfl rfl hM ?_
  clear hM
  change T 13 _ _ _
  refine t_seq ?_
  refine t_region (fun ops hops => ?_)
  clear hops
  refine z_val (v := .int .i64 0) (val_assign rfl rfl) rfl rfl rfl (fun _ _ _ => trivial) ?_
  refine z_nil ?_
  refine t_seq ?_
  refine t_seq ?_
  refine t_region (fun ops hops => ?_)
  clear hops
  refine z_val (v := .int .i64 a1) (val_move rfl rfl) rfl rfl rfl (fun _ _ _ => trivial) ?_
  refine z_val (v := .slice A0 a0.length c0) (val_move rfl rfl) rfl rfl rfl (fun _ _ _ => trivial) ?_
  obtain ⟨x7, hx7, H⟩ := Let_elim H
  refine z_val (v := .int .i64 x7) (by subst hx7; exact val_len rfl rfl rfl Try.underlying31) rfl rfl rfl (fun _ _ _ => trivial) ?_
  clear hx7
  obtain ⟨x8, hx8, H⟩ := Let_elim H
  refine z_val (v := .bool x8) (by subst hx8; exact val_bin rfl rfl rfl rfl (i64_lss _ _ _)) rfl rfl rfl (fun _ _ _ => trivial) ?_
  clear hx8
  refine z_nil ?_
  cases x8
  ·
    replace H := cond_f H
    refine t_cond_false rfl ?_
    refine t_skip ?_
    refine t_seq ?_
    refine t_region (fun ops hops => ?_)
    clear hops
    refine z_val (v := .int .i64 0) (val_assign rfl rfl) rfl rfl rfl (fun _ _ _ => trivial) ?_
    refine z_nil ?_
    refine t_ret ?_
    obtain rfl := Option.some.inj H
    exact ret1 rfl (res_tmp rfl) (fun _ hw => ⟨rfl, hw.below⟩)
  ·
    replace H := cond_t H
    refine t_cond_true rfl ?_
    refine t_seq ?_
    refine t_region (fun ops hops => ?_)
    clear hops
    refine z_val (v := .slice A0 a0.length c0) (val_move rfl rfl) rfl rfl rfl (fun _ _ _ => trivial) ?_
    refine z_val (v := .int .i64 a1) (val_move rfl rfl) rfl rfl rfl (fun _ _ _ => trivial) ?_
    obtain ⟨hq_1, H⟩ := Chk_elim H
    obtain ⟨b_2, o_3, hA_4, hc_5⟩ := hs0.at_ (idx_lt hq_1)
    refine z_val (v := .pointer (some ⟨b_2, o_3 + a1.toNat, none⟩)) (val_idxS0 rfl rfl rfl Try.underlying31 sz3 hq_1 hA_4 rfl) rfl rfl rfl (fun _ _ _ => trivial) ?_
    obtain ⟨x12, hx12, H⟩ := Let_elim H
    refine z_val (v := .int .i64 x12) (by subst hx12; exact val_load1 rfl rfl Try.underlying3 rfl (fun _ hw => hc_5.cell hw)) rfl rfl rfl (fun _ _ _ => trivial) ?_
    clear hx12
    refine z_val (v := .int .i64 x12) (val_assign rfl rfl) rfl rfl rfl (fun _ _ _ => trivial) ?_
    refine z_nil ?_
    refine t_ret ?_
    obtain rfl := Option.some.inj H
    exact ret1 rfl (res_tmp rfl) (fun _ hw => ⟨rfl, hw.below⟩)
def smithyref02_Zero.b1 (x5 : Int) (a0 : List (Int)) (x6 : Int) : Option (Ctl ((Int)) (Bool)) :=
  Let (decide (x6 < x5)) fun x7 => (bif x7 then Chk ((0 : Int) ≤ x6 ∧ x6 < (a0.length : Int)) <| Let (lget a0 x6.toNat) fun x12 => Let (x12 != 0) fun x13 => (bif x13 then some (.ret false) else Let (wi (x6 + 1)) fun x14 => some (.next x14)) else some (.brk x6))
def smithyref02_Zero (a0 : List (Int)) : Option (Bool) :=
  Let ((a0.length : Int)) fun x5 => (wlx (σ := (Int)) (fun s => smithyref02_Zero.b1 x5 a0 s) 0).bind (Sum.elim (fun x6 => some true) (fun r => some r))
set_option maxRecDepth 100000 in
theorem smithyref02_Zero.calls  (a0 : List (Int)) (A0 : Option Addr) (c0 : Nat) (r : Bool) (H : smithyref02_Zero a0 = some r) (w : World) (hs0 : SlW w (Value.int .i64) A0 a0) (hc0 : a0.length ≤ c0)  :
    Made Try.prog 13 #[.slice A0 a0.length c0] w (.bool r) := by
  unfold smithyref02_Zero at H
  replace hs0 := hs0.toH
  have hM := Mm.start w (snap w) (snap_ok w)
  generalize snap w = h at *
  refine t_enter (vs := [.slice A0 a0.length c0]) (n := 15) Try.func13 rfl rfl rfl hM ?_
  clear hM
  change T 15 _ _ _
  refine t_seq ?_
  refine t_region (fun ops hops => ?_)
  clear hops
  refine z_val (v := .bool false) (val_assign rfl rfl) rfl rfl rfl (fun _ _ _ => trivial) ?_
  refine z_nil ?_
  refine t_seq ?_
  refine t_seq ?_
  refine t_region (fun ops hops => ?_)
  clear hops
  refine z_val (v := .slice A0 a0.length c0) (val_move rfl rfl) rfl rfl rfl (fun _ _ _ => trivial) ?_
  obtain ⟨x5, hx5, H⟩ := Let_elim H
  refine z_val (v := .int .i64 x5) (by subst hx5; exact val_len rfl rfl rfl Try.underlying31) rfl rfl rfl (fun _ _ _ => trivial) ?_
  clear hx5
  refine z_val (v := .int .i64 0) (val_move rfl rfl) rfl rfl rfl (fun _ _ _ => trivial) ?_
  refine z_nil ?_
  refine t_block ?_
  obtain ⟨z1, hz1, HK1⟩ := Option.bind_eq_some_iff.1 H
  clear H
  refine t_while hz1 (fun (s : (Int)) (g : Unit) => [(0, .slice A0 a0.length c0), (5, .int .i64 x5), (6, .int .i64 s)]) (fun (s : (Int)) (g : Unit) => []) (fun (s : (Int)) (g : Unit) => Mm w [] h []) (fun (s : (Int)) (g : Unit) => Mm w [] h []) (fun (s : (Int)) (g : Unit) => True) (fun (s : (Int)) (g : Unit) => True) () trivial (fun a w ha hw => ⟨ha.cons rfl (ha.cons rfl (ha.cons rfl (ha.nil))), hw⟩) (fun Gn Gb s g e hφ H hn1 hb1 hr1 => ?_) (fun s g hzz hφ => ?_)
  ·
    obtain ⟨x6, rfl⟩ : ∃ x, x = s := ⟨_, rfl⟩
    change smithyref02_Zero.b1 x5 a0 x6 = some e at H
    unfold smithyref02_Zero.b1 at H
    clear hz1
    change T 15 _ _ _
    refine t_seq ?_
    refine t_region (fun ops hops => ?_)
    clear hops
    obtain ⟨x7, hx7, H⟩ := Let_elim H
    refine z_val (v := .bool x7) (by subst hx7; exact val_bin rfl rfl rfl rfl (i64_lss _ _ _)) rfl rfl rfl (fun _ _ _ => trivial) ?_
    clear hx7
    refine z_nil ?_
    refine t_seq ?_
    cases x7
    ·
      replace H := cond_f H
      refine t_cond_false rfl ?_
      refine t_exit rfl ?_
      obtain rfl := Option.some.inj H
      exact t_reach ((hb1 _ () rfl trivial).weak (fun a ha => ha.nil) (fun w hw => hw))
    ·
      replace H := cond_t H
      refine t_cond_true rfl ?_
      refine t_skip ?_
      refine t_seq ?_
      refine t_block ?_
      refine t_seq ?_
      refine t_region (fun ops hops => ?_)
      clear hops
      refine z_val (v := .int .i64 x6) (val_move rfl rfl) rfl rfl rfl (fun _ _ _ => trivial) ?_
      refine z_val (v := .int .i64 x6) (val_assign rfl rfl) rfl rfl rfl (fun _ _ _ => trivial) ?_
      refine z_nil ?_
      refine t_seq ?_
      refine t_region (fun ops hops => ?_)
      clear hops
      refine z_val (v := .slice A0 a0.length c0) (val_move rfl rfl) rfl rfl rfl (fun _ _ _ => trivial) ?_
      refine z_val (v := .int .i64 x6) (val_move rfl rfl) rfl rfl rfl (fun _ _ _ => trivial) ?_
      obtain ⟨hq_1, H⟩ := Chk_elim H
      obtain ⟨b_2, o_3, hA_4, hc_5⟩ := hs0.at_ (idx_lt hq_1)
      refine z_val (v := .pointer (some ⟨b_2, o_3 + x6.toNat, none⟩)) (val_idxS0 rfl rfl rfl Try.underlying31 sz3 hq_1 hA_4 rfl) rfl rfl rfl (fun _ _ _ => trivial) ?_
      obtain ⟨x12, hx12, H⟩ := Let_elim H
      refine z_val (v := .int .i64 x12) (by subst hx12; exact val_load1 rfl rfl Try.underlying3 rfl (fun _ hw => hc_5.cell hw)) rfl rfl rfl (fun _ _ _ => trivial) ?_
      clear hx12
      obtain ⟨x13, hx13, H⟩ := Let_elim H
      refine z_val (v := .bool x13) (by subst hx13; exact val_bin rfl rfl rfl rfl (i64_neq _ _ _)) rfl rfl rfl (fun _ _ _ => trivial) ?_
      clear hx13
      refine z_nil ?_
      cases x13
      ·
        replace H := cond_f H
        refine t_cond_false rfl ?_
        refine t_skip ?_
        refine t_fin ?_
        refine t_region (fun ops hops => ?_)
        clear hops
        obtain ⟨x14, hx14, H⟩ := Let_elim H
        refine z_val (v := .int .i64 x14) (by subst hx14; exact val_bin rfl rfl rfl rfl (i64_add _ _ _)) rfl rfl rfl (fun _ _ _ => trivial) ?_
        clear hx14
        refine z_val (v := .int .i64 x14) (val_move rfl rfl) rfl rfl rfl (fun _ _ _ => trivial) ?_
        refine z_nil ?_
        obtain rfl := Option.some.inj H
        exact t_reach ((hn1 _ () rfl trivial).weak (fun a ha => ha.cons rfl (ha.cons rfl (ha.cons rfl (ha.nil)))) (fun w hw => hw))
      ·
        replace H := cond_t H
        refine t_cond_true rfl ?_
        refine t_seq ?_
        refine t_region (fun ops hops => ?_)
        clear hops
        refine z_val (v := .bool false) (val_assign rfl rfl) rfl rfl rfl (fun _ _ _ => trivial) ?_
        refine z_nil ?_
        refine t_ret ?_
        obtain rfl := Option.some.inj H
        have hz := hr1 _ rfl
        subst hz
        obtain rfl := Option.some.inj HK1
        exact ret1 rfl (res_tmp rfl) (fun _ hw => ⟨rfl, hw.below⟩)
  ·
    obtain ⟨x6, rfl⟩ : ∃ x, x = s := ⟨_, rfl⟩
    subst hzz
    have H := HK1
    clear HK1 hz1
    replace H := sum_l H
    try dsimp only at H
    change T 15 _ _ _
    refine t_seq ?_
    refine t_region (fun ops hops => ?_)
    clear hops
    refine z_val (v := .bool true) (val_assign rfl rfl) rfl rfl rfl (fun _ _ _ => trivial) ?_
    refine z_nil ?_
    refine t_ret ?_
    obtain rfl := Option.some.inj H
    exact ret1 rfl (res_tmp rfl) (fun _ hw => ⟨rfl, hw.below⟩)
def smithyref02_Plus.b1 (a0 : List (Int)) (a1 : List (Int)) (x5 : List (Int)) (x6 : Int) (x7 : Int) : Option (Ctl ((List (Int)) × (Int) × (Int)) (List (Int))) :=
  Let ((a0.length : Int)) fun x12 => Let ((a1.length : Int)) fun x14 => Let (if x12 < x14 then x14 else x12) fun x15 => Let (wi (x15 + 1)) fun x16 => Let (decide (x7 < x16)) fun x17 => (bif x17 then (smithyref02_at a0 x7).bind fun x22 => (smithyref02_at a1 x7).bind fun x25 => Let (wi (x22 + x25)) fun x26 => Let (wi (x26 + x6)) fun x28 => Let (Int.tmod x28 256) fun x31 => Let ([x31]) fun x32 => Chk ((x5.length + x32.length) * 8 ≤ 140737488355328) <| Let (x5 ++ x32) fun x33 => Let (wi (Int.tdiv x28 256)) fun x35 => Let (wi (x7 + 1)) fun x19 => some (.next (x33, x35, x19)) else some (.brk (x5, x6, x7)))
def smithyref02_Plus (a0 : List (Int)) (a1 : List (Int)) : Option (List (Int)) :=
  Let (([] : List (Int))) fun x9 => (wlx (σ := (List (Int)) × (Int) × (Int)) (fun s => smithyref02_Plus.b1 a0 a1 s.1 s.2.1 s.2.2) (x9, 0, 0)).bind (Sum.elim (fun s => (fun x5 x6 x7 => some x5) s.1 s.2.1 s.2.2) (fun r => some r))
set_option maxRecDepth 100000 in
theorem smithyref02_Plus.calls  (a0 : List (Int)) (a1 : List (Int)) (A0 : Option Addr) (c0 : Nat) (A1 : Option Addr) (c1 : Nat) (r : List (Int)) (H : smithyref02_Plus a0 a1 = some r) (w : World) (hs0 : SlW w (Value.int .i64) A0 a0) (hc0 : a0.length ≤ c0) (hs1 : SlW w (Value.int .i64) A1 a1) (hc1 : a1.length ≤ c1)  :
    Calls Try.prog 41 #[.slice A0 a0.length c0, .slice A1 a1.length c1] w fun e w' => ∃ A c, e = .returned (.slice A r.length c) ∧ Below w.heap.size w w' ∧ OwnR w w' 3 (Value.int .i64) A c r := by
  unfold smithyref02_Plus at H
  replace hs0 := hs0.toH
  replace hs1 := hs1.toH
  have hM := Mm.start w (snap w) (snap_ok w)
  generalize snap w = h at *
  refine t_enter (vs := [.slice A0 a0.length c0, .slice A1 a1.length c1]) (n := 37) Try.func41 rfl rfl rfl hM ?_
  clear hM
  change T 37 _ _ _
  refine t_seq ?_
  refine t_region (fun ops hops => ?_)
  clear hops
  refine z_val (v := .slice none 0 0) (val_assign rfl rfl) rfl rfl rfl (fun _ _ _ => trivial) ?_
  refine z_nil ?_
  refine t_seq ?_
  refine t_region (fun ops hops => ?_)
  clear hops
  obtain ⟨x9, hx9, H⟩ := Let_elim H
  have hlx9 : x9.length = 0 := by subst hx9; rfl
  refine z_buildSlice' (e := 3) (f := (Value.int .i64)) (xs := x9) (vs := []) rfl rfl (by subst hx9; intro w; kernel_rfl) hlx9 (by decide) rfl rfl rfl (fun _ _ _ _ => trivial) (fun g_1 hs_3 => ?_)
  clear hx9 hlx9
  refine z_val (v := .slice (some ⟨g_1, 0, none⟩) x9.length 0) (val_assign rfl rfl) rfl rfl rfl (fun _ _ _ => trivial) ?_
  refine z_nil ?_
  refine t_seq ?_
  refine t_region (fun ops hops => ?_)
  clear hops
  refine z_val (v := .int .i64 0) (val_assign rfl rfl) rfl rfl rfl (fun _ _ _ => trivial) ?_
  refine z_nil ?_
  refine t_seq ?_
  refine t_seq ?_
  refine t_region (fun ops hops => ?_)
  clear hops
  refine z_val (v := .int .i64 0) (val_assign rfl rfl) rfl rfl rfl (fun _ _ _ => trivial) ?_
  refine z_nil ?_
  refine t_block ?_
  obtain ⟨z1, hz1, HK1⟩ := Option.bind_eq_some_iff.1 H
  clear H
  refine t_while hz1 (fun (s : (List (Int)) × (Int) × (Int)) (g : (Option Addr) × (Nat)) => [(0, .slice A0 a0.length c0), (1, .slice A1 a1.length c1), (5, .slice g.1 s.1.length g.2), (6, .int .i64 s.2.1), (7, .int .i64 s.2.2)]) (fun (s : (List (Int)) × (Int) × (Int)) (g : (Option Addr) × (Nat)) => [(5, .slice g.1 s.1.length g.2)]) (fun (s : (List (Int)) × (Int) × (Int)) (g : (Option Addr) × (Nat)) => Mm w [] h [.row (.slice g.1 s.1.length g.2) 3 1 (s.1.map (Value.int .i64))]) (fun (s : (List (Int)) × (Int) × (Int)) (g : (Option Addr) × (Nat)) => Mm w [] h [.row (.slice g.1 s.1.length g.2) 3 1 (s.1.map (Value.int .i64))]) (fun (s : (List (Int)) × (Int) × (Int)) (g : (Option Addr) × (Nat)) => Shp g.1 s.1.length g.2) (fun (s : (List (Int)) × (Int) × (Int)) (g : (Option Addr) × (Nat)) => Shp g.1 s.1.length g.2) ⟨(some ⟨g_1, 0, none⟩), 0⟩ hs_3 (fun a w ha hw => ⟨ha.cons rfl (ha.cons rfl (ha.cons rfl (ha.cons rfl (ha.cons rfl (ha.nil))))), hw⟩) (fun Gn Gb s g e hφ H hn1 hb1 hr1 => ?_) (fun s g hzz hφ => ?_)
  ·
    obtain ⟨x5, x6, x7⟩ := s
    obtain ⟨A_4, c_5⟩ := g
    try dsimp only at hφ
    have hs_6 := hφ; clear hφ
    change smithyref02_Plus.b1 a0 a1 x5 x6 x7 = some e at H
    unfold smithyref02_Plus.b1 at H
    clear hz1
    change T 37 _ _ _
    refine t_seq ?_
    refine t_seq ?_
    refine t_region (fun ops hops => ?_)
    clear hops
    refine z_val (v := .int .i64 x7) (val_move rfl rfl) rfl rfl rfl (fun _ _ _ => trivial) ?_
    refine z_val (v := .slice A0 a0.length c0) (val_move rfl rfl) rfl rfl rfl (fun _ _ _ => trivial) ?_
    obtain ⟨x12, hx12, H⟩ := Let_elim H
    refine z_val (v := .int .i64 x12) (by subst hx12; exact val_len rfl rfl rfl Try.underlying31) rfl rfl rfl (fun _ _ _ => trivial) ?_
    clear hx12
    refine z_val (v := .slice A1 a1.length c1) (val_move rfl rfl) rfl rfl rfl (fun _ _ _ => trivial) ?_
    obtain ⟨x14, hx14, H⟩ := Let_elim H
    refine z_val (v := .int .i64 x14) (by subst hx14; exact val_len rfl rfl rfl Try.underlying31) rfl rfl rfl (fun _ _ _ => trivial) ?_
    clear hx14
    obtain ⟨x15, hx15, H⟩ := Let_elim H
    refine z_val (v := .int .i64 x15) (by subst hx15; exact val_max rfl rfl rfl) rfl rfl rfl (fun _ _ _ => trivial) ?_
    clear hx15
    obtain ⟨x16, hx16, H⟩ := Let_elim H
    refine z_val (v := .int .i64 x16) (by subst hx16; exact val_bin rfl rfl rfl rfl (i64_add _ _ _)) rfl rfl rfl (fun _ _ _ => trivial) ?_
    clear hx16
    obtain ⟨x17, hx17, H⟩ := Let_elim H
    refine z_val (v := .bool x17) (by subst hx17; exact val_bin rfl rfl rfl rfl (i64_lss _ _ _)) rfl rfl rfl (fun _ _ _ => trivial) ?_
    clear hx17
    refine z_nil ?_
    cases x17
    ·
      replace H := cond_f H
      refine t_cond_false rfl ?_
      refine t_exit rfl ?_
      obtain rfl := Option.some.inj H
      exact t_reach ((hb1 _ ⟨A_4, c_5⟩ rfl hs_6).weak (fun a ha => ha.cons rfl (ha.nil)) (fun w hw => hw))
    ·
      replace H := cond_t H
      refine t_cond_true rfl ?_
      refine t_skip ?_
      refine t_seq ?_
      refine t_block ?_
      refine t_seq ?_
      refine t_region (fun ops hops => ?_)
      clear hops
      refine z_val (v := .slice A0 a0.length c0) (val_move rfl rfl) rfl rfl rfl (fun _ _ _ => trivial) ?_
      refine z_val (v := .int .i64 x7) (val_move rfl rfl) rfl rfl rfl (fun _ _ _ => trivial) ?_
      obtain ⟨x22, hx, H⟩ := Option.bind_eq_some_iff.1 H
      refine z_made (v := .int .i64 x22) rfl Try.func28 nm28 bs28 rfl (fun w hw => smithyref02_at.calls a0 x7 A0 c0 x22 hx w (hs0.toW hw) hc0) rfl rfl rfl (fun _ _ _ => trivial) ?_
      clear hx
      refine z_val (v := .slice A1 a1.length c1) (val_move rfl rfl) rfl rfl rfl (fun _ _ _ => trivial) ?_
      refine z_val (v := .int .i64 x7) (val_move rfl rfl) rfl rfl rfl (fun _ _ _ => trivial) ?_
      obtain ⟨x25, hx_7, H⟩ := Option.bind_eq_some_iff.1 H
      refine z_made (v := .int .i64 x25) rfl Try.func28 nm28 bs28 rfl (fun w hw => smithyref02_at.calls a1 x7 A1 c1 x25 hx_7 w (hs1.toW hw) hc1) rfl rfl rfl (fun _ _ _ => trivial) ?_
      clear hx_7
      obtain ⟨x26, hx26, H⟩ := Let_elim H
      refine z_val (v := .int .i64 x26) (by subst hx26; exact val_bin rfl rfl rfl rfl (i64_add _ _ _)) rfl rfl rfl (fun _ _ _ => trivial) ?_
      clear hx26
      refine z_val (v := .int .i64 x6) (val_move rfl rfl) rfl rfl rfl (fun _ _ _ => trivial) ?_
      obtain ⟨x28, hx28, H⟩ := Let_elim H
      refine z_val (v := .int .i64 x28) (by subst hx28; exact val_bin rfl rfl rfl rfl (i64_add _ _ _)) rfl rfl rfl (fun _ _ _ => trivial) ?_
      clear hx28
      refine z_val (v := .int .i64 x28) (val_assign rfl rfl) rfl rfl rfl (fun _ _ _ => trivial) ?_
      refine z_nil ?_
      refine t_seq ?_
      refine t_region (fun ops hops => ?_)
      clear hops
      refine z_val (v := .slice A_4 x5.length c_5) (val_move rfl rfl) rfl rfl rfl (fun _ _ _ => trivial) ?_
      refine z_val (v := .int .i64 x28) (val_move rfl rfl) rfl rfl rfl (fun _ _ _ => trivial) ?_
      obtain ⟨x31, hx31, H⟩ := Let_elim H
      refine z_val (v := .int .i64 x31) (by subst hx31; exact val_bin rfl rfl rfl rfl (i64_rem _ _ _ (by decide))) rfl rfl rfl (fun _ _ _ => trivial) ?_
      clear hx31
      obtain ⟨x32, hx32, H⟩ := Let_elim H
      have hlx32 : x32.length = 1 := by subst hx32; rfl
      refine z_buildSlice' (e := 3) (f := (Value.int .i64)) (xs := x32) (vs := [(0, .int .i64 x31)]) rfl rfl (by subst hx32; intro w; kernel_rfl) hlx32 (by decide) rfl rfl rfl (fun _ _ _ _ => trivial) (fun g_8 hs_10 => ?_)
      clear hx32 hlx32
      obtain ⟨hq_11, H⟩ := Chk_elim H
      obtain ⟨x33, hx33, H⟩ := Let_elim H
      refine z_append (f := (Value.int .i64)) (j := 1) (xs := x5) (ys := x32) (zs := x33) rfl rfl Try.underlying31 in3 rfl rfl rfl rfl (fun w hw => (row_w hw (j := 0) rfl)) (fun _ => rfl) hq_11 (by decide) hx33 (fun A_12 c_13 => [.row (.slice (some ⟨g_8, 0, none⟩) x32.length 1) 3 1 (x32.map (Value.int .i64)), .row (.slice A_12 x33.length c_13) 3 1 (x33.map (Value.int .i64))]) (fun _ _ => rfl) rfl rfl rfl (fun _ _ _ _ _ => trivial) (fun A_12 c_13 hs_14 => ?_)
      clear hx33
      refine z_val (v := .slice A_12 x33.length c_13) (val_assign rfl rfl) rfl rfl rfl (fun _ _ _ => trivial) ?_
      refine z_nil ?_
      refine t_region (fun ops hops => ?_)
      clear hops
      refine z_val (v := .int .i64 x28) (val_move rfl rfl) rfl rfl rfl (fun _ _ _ => trivial) ?_
      obtain ⟨x35, hx35, H⟩ := Let_elim H
      refine z_val (v := .int .i64 x35) (by subst hx35; exact val_bin rfl rfl rfl rfl (i64_quo _ _ _ (by decide))) rfl rfl rfl (fun _ _ _ => trivial) ?_
      clear hx35
      refine z_val (v := .int .i64 x35) (val_assign rfl rfl) rfl rfl rfl (fun _ _ _ => trivial) ?_
      refine z_nil ?_
      refine t_fin ?_
      refine t_region (fun ops hops => ?_)
      clear hops
      refine z_val (v := .int .i64 x7) (val_move rfl rfl) rfl rfl rfl (fun _ _ _ => trivial) ?_
      obtain ⟨x19, hx19, H⟩ := Let_elim H
      refine z_val (v := .int .i64 x19) (by subst hx19; exact val_bin rfl rfl rfl rfl (i64_add _ _ _)) rfl rfl rfl (fun _ _ _ => trivial) ?_
      clear hx19
      refine z_val (v := .int .i64 x19) (val_assign rfl rfl) rfl rfl rfl (fun _ _ _ => trivial) ?_
      refine z_nil ?_
      obtain rfl := Option.some.inj H
      exact t_reach ((hn1 _ ⟨A_12, c_13⟩ rfl hs_14).weak (fun a ha => ha.cons rfl (ha.cons rfl (ha.cons rfl (ha.cons rfl (ha.cons rfl (ha.nil)))))) (fun w hw => hw.sel [1] rfl rfl))
  ·
    obtain ⟨x5, x6, x7⟩ := s
    obtain ⟨A_4, c_5⟩ := g
    try dsimp only at hφ
    have hs_6 := hφ; clear hφ
    subst hzz
    have H := HK1
    clear HK1 hz1
    replace H := sum_l H
    try dsimp only at H
    change T 37 _ _ _
    refine t_seq ?_
    refine t_region (fun ops hops => ?_)
    clear hops
    refine z_val (v := .slice A_4 x5.length c_5) (val_move rfl rfl) rfl rfl rfl (fun _ _ _ => trivial) ?_
    refine z_val (v := .slice A_4 x5.length c_5) (val_assign rfl rfl) rfl rfl rfl (fun _ _ _ => trivial) ?_
    refine z_nil ?_
    refine t_ret ?_
    obtain rfl := Option.some.inj H
    exact ret1 rfl (res_tmp rfl) (fun _ hw => ⟨A_4, c_5, rfl, hw.below, (row_out hw (j := 0) rfl hs_6)⟩)
def smithyref02_Times.b2 (a1 : List (Int)) (x19 : Int) (a0 : List (Int)) (y_3_6 : List (Int)) (x7 : Int) (x8 : Int) : Option (Ctl ((List (Int)) × (Int) × (Int)) (List (Int))) :=
  Let ((a1.length : Int)) fun x24 => Let (decide (x8 < x24)) fun x25 => (bif x25 then some true else Let (decide (0 < x7)) fun x28 => some x28).bind (fun x29 => (bif x29 then Let (wi (x19 + x8)) fun x35 => Chk ((0 : Int) ≤ x35 ∧ x35 < (y_3_6.length : Int)) <| Let (lget y_3_6 x35.toNat) fun x37 => Chk ((0 : Int) ≤ x19 ∧ x19 < (a0.length : Int)) <| Let (lget a0 x19.toNat) fun x41 => (smithyref02_at a1 x8).bind fun x44 => Let (wi (x41 * x44)) fun x45 => Let (wi (x37 + x45)) fun x46 => Let (wi (x46 + x7)) fun x48 => Let (wi (x19 + x8)) fun x52 => Let (Int.tmod x48 256) fun x54 => Chk ((0 : Int) ≤ x52 ∧ x52 < (y_3_6.length : Int)) <| Let (y_3_6.set x52.toNat x54) fun x_19 => Let (wi (Int.tdiv x48 256)) fun x57 => Let (wi (x8 + 1)) fun x31 => some (.next (x_19, x57, x31)) else some (.brk (y_3_6, x7, x8))))
def smithyref02_Times.b1 (x18 : Int) (a1 : List (Int)) (a0 : List (Int)) (y_3 : List (Int)) (x19 : Int) : Option (Ctl ((List (Int)) × (Int)) (List (Int))) :=
  Let (decide (x19 < x18)) fun x20 => (bif x20 then (wlx (σ := (List (Int)) × (Int) × (Int)) (fun s => smithyref02_Times.b2 a1 x19 a0 s.1 s.2.1 s.2.2) (y_3, 0, 0)).bind (Sum.elim (fun s => (fun y_3_6 x7 x8 => Let (wi (x19 + 1)) fun x58 => some (.next (y_3_6, x58))) s.1 s.2.1 s.2.2) (fun r => some (.ret r))) else some (.brk (y_3, x19)))
def smithyref02_Times (a0 : List (Int)) (a1 : List (Int)) : Option (List (Int)) :=
  Let ((a0.length : Int)) fun x11 => Let ((a1.length : Int)) fun x13 => Let (wi (x11 + x13)) fun x14 => Let (wi (x14 + 1)) fun x15 => Chk ((0 : Int) ≤ x15 ∧ x15.toNat * 8 ≤ 140737488355328) <| Let (List.replicate x15.toNat 0) fun x16 => Let ((a0.length : Int)) fun x18 => (wlx (σ := (List (Int)) × (Int)) (fun s => smithyref02_Times.b1 x18 a1 a0 s.1 s.2) (x16, 0)).bind (Sum.elim (fun s => (fun y_3 x19 => some y_3) s.1 s.2) (fun r => some r))
set_option maxRecDepth 100000 in
theorem smithyref02_Times.calls  (a0 : List (Int)) (a1 : List (Int)) (A0 : Option Addr) (c0 : Nat) (A1 : Option Addr) (c1 : Nat) (r : List (Int)) (H : smithyref02_Times a0 a1 = some r) (w : World) (hs0 : SlW w (Value.int .i64) A0 a0) (hc0 : a0.length ≤ c0) (hs1 : SlW w (Value.int .i64) A1 a1) (hc1 : a1.length ≤ c1)  :
    Calls Try.prog 27 #[.slice A0 a0.length c0, .slice A1 a1.length c1] w fun e w' => ∃ A c, e = .returned (.slice A r.length c) ∧ Below w.heap.size w w' ∧ OwnR w w' 3 (Value.int .i64) A c r := by
  unfold smithyref02_Times at H
  replace hs0 := hs0.toH
  replace hs1 := hs1.toH
  have hM := Mm.start w (snap w) (snap_ok w)
  generalize snap w = h at *
  refine t_enter (vs := [.slice A0 a0.length c0, .slice A1 a1.length c1]) (n := 60) Try.func27 rfl rfl rfl hM ?_
  clear hM
  change T 60 _ _ _
  refine t_seq ?_
  refine t_region (fun ops hops => ?_)
  clear hops
  refine z_val (v := .slice none 0 0) (val_assign rfl rfl) rfl rfl rfl (fun _ _ _ => trivial) ?_
  refine z_nil ?_
  refine t_seq ?_
  refine t_region (fun ops hops => ?_)
  clear hops
  refine z_val (v := .slice A0 a0.length c0) (val_move rfl rfl) rfl rfl rfl (fun _ _ _ => trivial) ?_
  obtain ⟨x11, hx11, H⟩ := Let_elim H
  refine z_val (v := .int .i64 x11) (by subst hx11; exact val_len rfl rfl rfl Try.underlying31) rfl rfl rfl (fun _ _ _ => trivial) ?_
  clear hx11
  refine z_val (v := .slice A1 a1.length c1) (val_move rfl rfl) rfl rfl rfl (fun _ _ _ => trivial) ?_
  obtain ⟨x13, hx13, H⟩ := Let_elim H
  refine z_val (v := .int .i64 x13) (by subst hx13; exact val_len rfl rfl rfl Try.underlying31) rfl rfl rfl (fun _ _ _ => trivial) ?_
  clear hx13
  obtain ⟨x14, hx14, H⟩ := Let_elim H
  refine z_val (v := .int .i64 x14) (by subst hx14; exact val_bin rfl rfl rfl rfl (i64_add _ _ _)) rfl rfl rfl (fun _ _ _ => trivial) ?_
  clear hx14
  obtain ⟨x15, hx15, H⟩ := Let_elim H
  refine z_val (v := .int .i64 x15) (by subst hx15; exact val_bin rfl rfl rfl rfl (i64_add _ _ _)) rfl rfl rfl (fun _ _ _ => trivial) ?_
  clear hx15
  obtain ⟨hq_1, H⟩ := Chk_elim H
  obtain ⟨x16, hx16, H⟩ := Let_elim H
  refine z_makeSlice (f := (Value.int .i64)) (z0 := 0) (N := x15.toNat) rfl rfl rfl Try.underlying31 (in3.trans rfl) rfl hq_1.1 rfl hq_1.2 (by decide) hx16 rfl rfl rfl (fun _ _ _ _ => trivial) (fun g_2 hs_4 => ?_)
  clear hx16
  refine z_val (v := .slice (some ⟨g_2, 0, none⟩) x16.length (x15.toNat)) (val_assign rfl rfl) rfl rfl rfl (fun _ _ _ => trivial) ?_
  refine z_nil ?_
  refine t_seq ?_
  refine t_seq ?_
  refine t_region (fun ops hops => ?_)
  clear hops
  refine z_val (v := .slice A0 a0.length c0) (val_move rfl rfl) rfl rfl rfl (fun _ _ _ => trivial) ?_
  obtain ⟨x18, hx18, H⟩ := Let_elim H
  refine z_val (v := .int .i64 x18) (by subst hx18; exact val_len rfl rfl rfl Try.underlying31) rfl rfl rfl (fun _ _ _ => trivial) ?_
  clear hx18
  refine z_val (v := .int .i64 0) (val_move rfl rfl) rfl rfl rfl (fun _ _ _ => trivial) ?_
  refine z_nil ?_
  refine t_block ?_
  obtain ⟨z1, hz1, HK1⟩ := Option.bind_eq_some_iff.1 H
  clear H
  refine t_while hz1 (fun (s : (List (Int)) × (Int)) (g : Unit) => [(0, .slice A0 a0.length c0), (1, .slice A1 a1.length c1), (5, .slice (some ⟨g_2, 0, none⟩) s.1.length (x15.toNat)), (18, .int .i64 x18), (19, .int .i64 s.2)]) (fun (s : (List (Int)) × (Int)) (g : Unit) => [(5, .slice (some ⟨g_2, 0, none⟩) s.1.length (x15.toNat))]) (fun (s : (List (Int)) × (Int)) (g : Unit) => Mm w [] h [.row (.slice (some ⟨g_2, 0, none⟩) s.1.length (x15.toNat)) 3 1 (s.1.map (Value.int .i64))]) (fun (s : (List (Int)) × (Int)) (g : Unit) => Mm w [] h [.row (.slice (some ⟨g_2, 0, none⟩) s.1.length (x15.toNat)) 3 1 (s.1.map (Value.int .i64))]) (fun (s : (List (Int)) × (Int)) (g : Unit) => Shp ((some ⟨g_2, 0, none⟩)) s.1.length (x15.toNat)) (fun (s : (List (Int)) × (Int)) (g : Unit) => Shp ((some ⟨g_2, 0, none⟩)) s.1.length (x15.toNat)) () hs_4 (fun a w ha hw => ⟨ha.cons rfl (ha.cons rfl (ha.cons rfl (ha.cons rfl (ha.cons rfl (ha.nil))))), hw⟩) (fun Gn Gb s g e hφ H hn1 hb1 hr1 => ?_) (fun s g hzz hφ => ?_)
  ·
    obtain ⟨y_3, x19⟩ := s
    try dsimp only at hφ
    have hs_5 := hφ; clear hφ
    change smithyref02_Times.b1 x18 a1 a0 y_3 x19 = some e at H
    unfold smithyref02_Times.b1 at H
    clear hz1
    change T 60 _ _ _
    refine t_seq ?_
    refine t_region (fun ops hops => ?_)
    clear hops
    obtain ⟨x20, hx20, H⟩ := Let_elim H
    refine z_val (v := .bool x20) (by subst hx20; exact val_bin rfl rfl rfl rfl (i64_lss _ _ _)) rfl rfl rfl (fun _ _ _ => trivial) ?_
    clear hx20
    refine z_nil ?_
    refine t_seq ?_
    cases x20
    ·
      replace H := cond_f H
      refine t_cond_false rfl ?_
      refine t_exit rfl ?_
      obtain rfl := Option.some.inj H
      exact t_reach ((hb1 _ () rfl hs_5).weak (fun a ha => ha.cons rfl (ha.nil)) (fun w hw => hw))
    ·
      replace H := cond_t H
      refine t_cond_true rfl ?_
      refine t_skip ?_
      refine t_seq ?_
      refine t_block ?_
      refine t_seq ?_
      refine t_region (fun ops hops => ?_)
      clear hops
      refine z_val (v := .int .i64 x19) (val_move rfl rfl) rfl rfl rfl (fun _ _ _ => trivial) ?_
      refine z_val (v := .int .i64 x19) (val_assign rfl rfl) rfl rfl rfl (fun _ _ _ => trivial) ?_
      refine z_nil ?_
      refine t_seq ?_
      refine t_region (fun ops hops => ?_)
      clear hops
      refine z_val (v := .int .i64 0) (val_assign rfl rfl) rfl rfl rfl (fun _ _ _ => trivial) ?_
      refine z_nil ?_
      refine t_seq ?_
      refine t_region (fun ops hops => ?_)
      clear hops
      refine z_val (v := .int .i64 0) (val_assign rfl rfl) rfl rfl rfl (fun _ _ _ => trivial) ?_
      refine z_nil ?_
      refine t_block ?_
      obtain ⟨z2, hz2, HK2⟩ := Option.bind_eq_some_iff.1 H
      clear H
      refine t_while hz2 (fun (s : (List (Int)) × (Int) × (Int)) (g : Unit) => [(0, .slice A0 a0.length c0), (1, .slice A1 a1.length c1), (5, .slice (some ⟨g_2, 0, none⟩) s.1.length (x15.toNat)), (6, .int .i64 x19), (7, .int .i64 s.2.1), (8, .int .i64 s.2.2), (18, .int .i64 x18), (19, .int .i64 x19)]) (fun (s : (List (Int)) × (Int) × (Int)) (g : Unit) => [(0, .slice A0 a0.length c0), (1, .slice A1 a1.length c1), (5, .slice (some ⟨g_2, 0, none⟩) s.1.length (x15.toNat)), (18, .int .i64 x18), (19, .int .i64 x19)]) (fun (s : (List (Int)) × (Int) × (Int)) (g : Unit) => Mm w [] h [.row (.slice (some ⟨g_2, 0, none⟩) s.1.length (x15.toNat)) 3 1 (s.1.map (Value.int .i64))]) (fun (s : (List (Int)) × (Int) × (Int)) (g : Unit) => Mm w [] h [.row (.slice (some ⟨g_2, 0, none⟩) s.1.length (x15.toNat)) 3 1 (s.1.map (Value.int .i64))]) (fun (s : (List (Int)) × (Int) × (Int)) (g : Unit) => Shp ((some ⟨g_2, 0, none⟩)) s.1.length (x15.toNat)) (fun (s : (List (Int)) × (Int) × (Int)) (g : Unit) => Shp ((some ⟨g_2, 0, none⟩)) s.1.length (x15.toNat)) () hs_5 (fun a w ha hw => ⟨ha.cons rfl (ha.cons rfl (ha.cons rfl (ha.cons rfl (ha.cons rfl (ha.cons rfl (ha.cons rfl (ha.cons rfl (ha.nil)))))))), hw⟩) (fun Gn Gb s g e hφ H hn2 hb2 hr2 => ?_) (fun s g hzz hφ => ?_)
      ·
        obtain ⟨y_3_6, x7, x8⟩ := s
        try dsimp only at hφ
        have hs_7 := hφ; clear hφ
        change smithyref02_Times.b2 a1 x19 a0 y_3_6 x7 x8 = some e at H
        unfold smithyref02_Times.b2 at H
        clear hz2
        change T 60 _ _ _
        refine t_seq ?_
        refine t_seq ?_
        refine t_region (fun ops hops => ?_)
        refine z_val (v := .int .i64 x8) (val_move rfl rfl) rfl rfl rfl (fun _ _ _ => trivial) ?_
        refine z_val (v := .slice A1 a1.length c1) (val_move rfl rfl) rfl rfl rfl (fun _ _ _ => trivial) ?_
        obtain ⟨x24, hx24, H⟩ := Let_elim H
        refine z_val (v := .int .i64 x24) (by subst hx24; exact val_len rfl rfl rfl Try.underlying31) rfl rfl rfl (fun _ _ _ => trivial) ?_
        clear hx24
        obtain ⟨x25, hx25, H⟩ := Let_elim H
        refine z_val (v := .bool x25) (by subst hx25; exact val_bin rfl rfl rfl rfl (i64_lss _ _ _)) rfl rfl rfl (fun _ _ _ => trivial) ?_
        clear hx25
        refine z_val (v := .bool x25) (val_move rfl rfl) rfl rfl rfl (fun _ _ _ => trivial) ?_
        refine z_bind H 3 (fun (s : Bool) (_ : Unit) => [(0, .slice A0 a0.length c0), (1, .slice A1 a1.length c1), (5, .slice (some ⟨g_2, 0, none⟩) y_3_6.length (x15.toNat)), (6, .int .i64 x19), (7, .int .i64 x7), (8, .int .i64 x8), (18, .int .i64 x18), (19, .int .i64 x19), (29, .bool s)]) (fun _ _ => Mm w [] h [.row (.slice (some ⟨g_2, 0, none⟩) y_3_6.length (x15.toNat)) 3 1 (y_3_6.map (Value.int .i64))]) (fun _ _ => True) (fun Gr K s he HJ => ?_) (fun s g HB _ => ?_)
        ·
          clear H
          cases x25
          ·
            have H := cond_f he
            clear he
            refine z_val (v := .int .i64 x7) (val_move rfl rfl) rfl rfl (by rw [hops]; rfl) (fun _ _ _ => trivial) ?_
            obtain ⟨x28, hx28, H⟩ := Let_elim H
            refine z_val (v := .bool x28) (by subst hx28; exact val_bin rfl rfl rfl rfl (i64_gtr _ _ _)) rfl rfl (by rw [hops]; rfl) (fun _ _ _ => trivial) ?_
            clear hx28
            refine z_val (v := .bool x28) (val_pick rfl rfl rfl) rfl rfl rfl (fun _ _ _ => trivial) ?_
            obtain rfl := Option.some.inj H
            exact z_nil ((K _ () HJ trivial).weak (fun a ha => ha.cons rfl (ha.cons rfl (ha.cons rfl (ha.cons rfl (ha.cons rfl (ha.cons rfl (ha.cons rfl (ha.cons rfl (ha.cons rfl (ha.nil)))))))))) (fun w hw => hw))
          ·
            have H := cond_t he
            clear he
            refine z_skip rfl rfl (by rw [hops]; rfl) (fun _ _ _ => trivial) ?_
            refine z_skip rfl rfl (by rw [hops]; rfl) (fun _ _ _ => trivial) ?_
            refine z_val (v := .bool true) (val_pick rfl rfl rfl) rfl rfl rfl (fun _ _ _ => trivial) ?_
            obtain rfl := Option.some.inj H
            exact z_nil ((K _ () HJ trivial).weak (fun a ha => ha.cons rfl (ha.cons rfl (ha.cons rfl (ha.cons rfl (ha.cons rfl (ha.cons rfl (ha.cons rfl (ha.cons rfl (ha.cons rfl (ha.nil)))))))))) (fun w hw => hw))
        ·
          replace H := HB
          clear HB
          obtain ⟨x29, rfl⟩ : ∃ x, x = s := ⟨_, rfl⟩
          change T 60 _ _ _
          refine z_nil ?_
          cases x29
          ·
            replace H := cond_f H
            refine t_cond_false rfl ?_
            refine t_exit rfl ?_
            obtain rfl := Option.some.inj H
            exact t_reach ((hb2 _ () rfl hs_7).weak (fun a ha => ha.cons rfl (ha.cons rfl (ha.cons rfl (ha.cons rfl (ha.cons rfl (ha.nil)))))) (fun w hw => hw))
          ·
            replace H := cond_t H
            refine t_cond_true rfl ?_
            refine t_skip ?_
            refine t_seq ?_
            refine t_block ?_
            refine t_seq ?_
            refine t_plan (C := Mm w [] h [.row (.slice (some ⟨g_2, 0, none⟩) y_3_6.length (x15.toNat)) 3 1 (y_3_6.map (Value.int .i64))]) [] [(0, true), (1, true), (2, true), (3, true), (4, true), (5, true), (6, true), (7, true), (8, true), (9, true), (10, true), (11, true), (15, true), (12, false), (13, true), (14, true), (16, true), (17, true)] (by kernel_rfl) (by kernel_rfl) (fun _ hw => hw.drew) (fun ops hops => ?_)
            clear hops
            refine z_still (v := .slice (some ⟨g_2, 0, none⟩) y_3_6.length (x15.toNat)) (val_move rfl rfl) rfl rfl rfl (fun _ hw => hw) ?_
            refine z_still (v := .int .i64 x19) (val_move rfl rfl) rfl rfl rfl (fun _ hw => hw) ?_
            refine z_still (v := .int .i64 x8) (val_move rfl rfl) rfl rfl rfl (fun _ hw => hw) ?_
            obtain ⟨x35, hx35, H⟩ := Let_elim H
            refine z_still (v := .int .i64 x35) (by subst hx35; exact val_bin rfl rfl rfl rfl (i64_add _ _ _)) rfl rfl rfl (fun _ hw => hw) ?_
            clear hx35
            obtain ⟨hq_8, H⟩ := Chk_elim H
            obtain ⟨g_9, hA_10⟩ := hs_7.blk (by omega)
            refine z_still (v := .pointer (some ⟨g_9, x35.toNat, none⟩)) (val_idxS1 rfl rfl rfl Try.underlying31 sz3 hq_8 hA_10 rfl) rfl rfl rfl (fun _ hw => hw) ?_
            obtain ⟨x37, hx37, H⟩ := Let_elim H
            refine z_still (v := .int .i64 x37) (by subst hx37; exact val_load1 rfl rfl Try.underlying3 rfl (fun _ hw => row_cell' hw (j := 0) rfl hA_10 (idx_lt hq_8))) rfl rfl rfl (fun _ hw => hw) ?_
            clear hx37
            refine z_still (v := .slice A0 a0.length c0) (val_move rfl rfl) rfl rfl rfl (fun _ hw => hw) ?_
            refine z_still (v := .int .i64 x19) (val_move rfl rfl) rfl rfl rfl (fun _ hw => hw) ?_
            obtain ⟨hq_11, H⟩ := Chk_elim H
            obtain ⟨b_12, o_13, hA_14, hc_15⟩ := hs0.at_ (idx_lt hq_11)
            refine z_still (v := .pointer (some ⟨b_12, o_13 + x19.toNat, none⟩)) (val_idxS0 rfl rfl rfl Try.underlying31 sz3 hq_11 hA_14 rfl) rfl rfl rfl (fun _ hw => hw) ?_
            obtain ⟨x41, hx41, H⟩ := Let_elim H
            refine z_still (v := .int .i64 x41) (by subst hx41; exact val_load1 rfl rfl Try.underlying3 rfl (fun _ hw => hc_15.cell hw)) rfl rfl rfl (fun _ hw => hw) ?_
            clear hx41
            refine z_still (v := .slice A1 a1.length c1) (val_move rfl rfl) rfl rfl rfl (fun _ hw => hw) ?_
            refine z_still (v := .int .i64 x8) (val_move rfl rfl) rfl rfl rfl (fun _ hw => hw) ?_
            refine z_still (v := .int .i64 x7) (val_move rfl rfl) rfl rfl rfl (fun _ hw => hw) ?_
            obtain ⟨x44, hx, H⟩ := Option.bind_eq_some_iff.1 H
            refine z_made (v := .int .i64 x44) rfl Try.func28 nm28 bs28 rfl (fun w hw => smithyref02_at.calls a1 x8 A1 c1 x44 hx w (hs1.toW hw) hc1) rfl rfl rfl (fun _ _ hw => hw) ?_
            clear hx
            obtain ⟨x45, hx45, H⟩ := Let_elim H
            refine z_still (v := .int .i64 x45) (by subst hx45; exact val_bin rfl rfl rfl rfl (i64_mul _ _ _)) rfl rfl rfl (fun _ hw => hw) ?_
            clear hx45
            obtain ⟨x46, hx46, H⟩ := Let_elim H
            refine z_still (v := .int .i64 x46) (by subst hx46; exact val_bin rfl rfl rfl rfl (i64_add _ _ _)) rfl rfl rfl (fun _ hw => hw) ?_
            clear hx46
            obtain ⟨x48, hx48, H⟩ := Let_elim H
            refine z_still (v := .int .i64 x48) (by subst hx48; exact val_bin rfl rfl rfl rfl (i64_add _ _ _)) rfl rfl rfl (fun _ hw => hw) ?_
            clear hx48
            refine z_still (v := .int .i64 x48) (val_assign rfl rfl) rfl rfl rfl (fun _ hw => hw) ?_
            refine z_nil ?_
            refine t_seq ?_
            refine t_region (fun ops hops => ?_)
            clear hops
            refine z_val (v := .slice (some ⟨g_2, 0, none⟩) y_3_6.length (x15.toNat)) (val_move rfl rfl) rfl rfl rfl (fun _ _ _ => trivial) ?_
            refine z_val (v := .int .i64 x19) (val_move rfl rfl) rfl rfl rfl (fun _ _ _ => trivial) ?_
            refine z_val (v := .int .i64 x8) (val_move rfl rfl) rfl rfl rfl (fun _ _ _ => trivial) ?_
            obtain ⟨x52, hx52, H⟩ := Let_elim H
            refine z_val (v := .int .i64 x52) (by subst hx52; exact val_bin rfl rfl rfl rfl (i64_add _ _ _)) rfl rfl rfl (fun _ _ _ => trivial) ?_
            clear hx52
            refine z_val (v := .int .i64 x48) (val_move rfl rfl) rfl rfl rfl (fun _ _ _ => trivial) ?_
            obtain ⟨x54, hx54, H⟩ := Let_elim H
            refine z_val (v := .int .i64 x54) (by subst hx54; exact val_bin rfl rfl rfl rfl (i64_rem _ _ _ (by decide))) rfl rfl rfl (fun _ _ _ => trivial) ?_
            clear hx54
            obtain ⟨hq_16, H⟩ := Chk_elim H
            obtain ⟨g_17, hA_18⟩ := hs_7.blk (by omega)
            refine z_val (v := .pointer (some ⟨g_17, x52.toNat, none⟩)) (val_idxS1 rfl rfl rfl Try.underlying31 sz3 hq_16 hA_18 rfl) rfl rfl rfl (fun _ _ _ => trivial) ?_
            obtain ⟨x_19, hx_19, H⟩ := Let_elim H
            have hs_20 : Shp ((some ⟨g_2, 0, none⟩)) x_19.length (x15.toNat) := by subst hx_19; rw [List.length_set]; exact hs_7
            refine z_storeRow' (j := 0) (zs := x_19) (L' := [.row (.slice (some ⟨g_2, 0, none⟩) x_19.length (x15.toNat)) 3 1 (x_19.map (Value.int .i64))]) rfl rfl rfl rfl rfl rfl sz3 rfl hA_18 (idx_lt hq_16) (by subst hx_19; rfl) rfl rfl rfl (fun _ _ _ => trivial) ?_
            have hl : y_3_6.length = x_19.length := by subst hx_19; rw [List.length_set]
            refine t_len (show y_3_6.length = x_19.length from hl) (fun z => [(0, .slice A0 a0.length c0), (1, .slice A1 a1.length c1), (5, .slice (some ⟨g_2, 0, none⟩) z (x15.toNat)), (6, .int .i64 x19), (7, .int .i64 x7), (8, .int .i64 x8), (9, .int .i64 x48), (18, .int .i64 x18), (19, .int .i64 x19), (29, .bool true), (32, .slice (some ⟨g_2, 0, none⟩) z (x15.toNat)), (33, .int .i64 x19), (34, .int .i64 x8), (35, .int .i64 x35), (36, .pointer (some ⟨g_9, x35.toNat, none⟩)), (37, .int .i64 x37), (38, .slice A0 a0.length c0), (39, .int .i64 x19), (40, .pointer (some ⟨b_12, o_13 + x19.toNat, none⟩)), (41, .int .i64 x41), (42, .slice A1 a1.length c1), (43, .int .i64 x8), (44, .int .i64 x44), (45, .int .i64 x45), (46, .int .i64 x46), (47, .int .i64 x7), (48, .int .i64 x48), (49, .slice (some ⟨g_2, 0, none⟩) z (x15.toNat)), (50, .int .i64 x19), (51, .int .i64 x8), (52, .int .i64 x52), (53, .int .i64 x48), (54, .int .i64 x54), (55, .pointer (some ⟨g_17, x52.toNat, none⟩))]) (fun a ha => ha.cons rfl (ha.cons rfl (ha.cons rfl (ha.cons rfl (ha.cons rfl (ha.cons rfl (ha.cons rfl (ha.cons rfl (ha.cons rfl (ha.cons rfl (ha.cons rfl (ha.cons rfl (ha.cons rfl (ha.cons rfl (ha.cons rfl (ha.cons rfl (ha.cons rfl (ha.cons rfl (ha.cons rfl (ha.cons rfl (ha.cons rfl (ha.cons rfl (ha.cons rfl (ha.cons rfl (ha.cons rfl (ha.cons rfl (ha.cons rfl (ha.cons rfl (ha.cons rfl (ha.cons rfl (ha.cons rfl (ha.cons rfl (ha.cons rfl (ha.cons rfl (ha.nil))))))))))))))))))))))))))))))))))) ?_
            change T 60 _ _ _
            clear hx_19 hl
            refine z_nil ?_
            refine t_region (fun ops hops => ?_)
            clear hops
            refine z_val (v := .int .i64 x48) (val_move rfl rfl) rfl rfl rfl (fun _ _ _ => trivial) ?_
            obtain ⟨x57, hx57, H⟩ := Let_elim H
            refine z_val (v := .int .i64 x57) (by subst hx57; exact val_bin rfl rfl rfl rfl (i64_quo _ _ _ (by decide))) rfl rfl rfl (fun _ _ _ => trivial) ?_
            clear hx57
            refine z_val (v := .int .i64 x57) (val_assign rfl rfl) rfl rfl rfl (fun _ _ _ => trivial) ?_
            refine z_nil ?_
            refine t_fin ?_
            refine t_region (fun ops hops => ?_)
            clear hops
            refine z_val (v := .int .i64 x8) (val_move rfl rfl) rfl rfl rfl (fun _ _ _ => trivial) ?_
            obtain ⟨x31, hx31, H⟩ := Let_elim H
            refine z_val (v := .int .i64 x31) (by subst hx31; exact val_bin rfl rfl rfl rfl (i64_add _ _ _)) rfl rfl rfl (fun _ _ _ => trivial) ?_
            clear hx31
            refine z_val (v := .int .i64 x31) (val_assign rfl rfl) rfl rfl rfl (fun _ _ _ => trivial) ?_
            refine z_nil ?_
            obtain rfl := Option.some.inj H
            exact t_reach ((hn2 _ () rfl hs_20).weak (fun a ha => ha.cons rfl (ha.cons rfl (ha.cons rfl (ha.cons rfl (ha.cons rfl (ha.cons rfl (ha.cons rfl (ha.cons rfl (ha.nil))))))))) (fun w hw => hw))
      ·
        obtain ⟨y_3_6, x7, x8⟩ := s
        try dsimp only at hφ
        have hs_7 := hφ; clear hφ
        subst hzz
        have H := HK2
        clear HK2 hz2
        replace H := sum_l H
        try dsimp only at H
        change T 60 _ _ _
        refine t_fin ?_
        refine t_region (fun ops hops => ?_)
        clear hops
        obtain ⟨x58, hx58, H⟩ := Let_elim H
        refine z_val (v := .int .i64 x58) (by subst hx58; exact val_bin rfl rfl rfl rfl (i64_add _ _ _)) rfl rfl rfl (fun _ _ _ => trivial) ?_
        clear hx58
        refine z_val (v := .int .i64 x58) (val_move rfl rfl) rfl rfl rfl (fun _ _ _ => trivial) ?_
        refine z_nil ?_
        obtain rfl := Option.some.inj H
        exact t_reach ((hn1 _ () rfl hs_7).weak (fun a ha => ha.cons rfl (ha.cons rfl (ha.cons rfl (ha.cons rfl (ha.cons rfl (ha.nil)))))) (fun w hw => hw))
  ·
    obtain ⟨y_3, x19⟩ := s
    try dsimp only at hφ
    have hs_5 := hφ; clear hφ
    subst hzz
    have H := HK1
    clear HK1 hz1
    replace H := sum_l H
    try dsimp only at H
    change T 60 _ _ _
    refine t_seq ?_
    refine t_region (fun ops hops => ?_)
    clear hops
    refine z_val (v := .slice (some ⟨g_2, 0, none⟩) y_3.length (x15.toNat)) (val_move rfl rfl) rfl rfl rfl (fun _ _ _ => trivial) ?_
    refine z_val (v := .slice (some ⟨g_2, 0, none⟩) y_3.length (x15.toNat)) (val_assign rfl rfl) rfl rfl rfl (fun _ _ _ => trivial) ?_
    refine z_nil ?_
    refine t_ret ?_
    obtain rfl := Option.some.inj H
    exact ret1 rfl (res_tmp rfl) (fun _ hw => ⟨(some ⟨g_2, 0, none⟩), (x15.toNat), rfl, hw.below, (row_out hw (j := 0) rfl hs_5)⟩)
def smithyref02_Less.b1 (a0 : List (Int)) (a1 : List (Int)) (x5 : Int) : Option (Ctl ((Int)) (Bool)) :=
  Let (decide (0 ≤ x5)) fun x13 => (bif x13 then (smithyref02_at a0 x5).bind fun x18 => (smithyref02_at a1 x5).bind fun x21 => Let (x18 != x21) fun x22 => (bif x22 then (smithyref02_at a0 x5).bind fun x25 => (smithyref02_at a1 x5).bind fun x28 => Let (decide (x25 < x28)) fun x29 => some (.ret x29) else Let (wi (x5 - 1)) fun x15 => some (.next x15)) else some (.brk x5))
def smithyref02_Less (a0 : List (Int)) (a1 : List (Int)) : Option (Bool) :=
  Let ((a0.length : Int)) fun x7 => Let ((a1.length : Int)) fun x9 => Let (if x7 < x9 then x9 else x7) fun x10 => Let (wi (x10 - 1)) fun x11 => (wlx (σ := (Int)) (fun s => smithyref02_Less.b1 a0 a1 s) x11).bind (Sum.elim (fun x5 => some false) (fun r => some r))
set_option maxRecDepth 100000 in
theorem smithyref02_Less.calls  (a0 : List (Int)) (a1 : List (Int)) (A0 : Option Addr) (c0 : Nat) (A1 : Option Addr) (c1 : Nat) (r : Bool) (H : smithyref02_Less a0 a1 = some r) (w : World) (hs0 : SlW w (Value.int .i64) A0 a0) (hc0 : a0.length ≤ c0) (hs1 : SlW w (Value.int .i64) A1 a1) (hc1 : a1.length ≤ c1)  :
    Made Try.prog 16 #[.slice A0 a0.length c0, .slice A1 a1.length c1] w (.bool r) := by
  unfold smithyref02_Less at H
  replace hs0 := hs0.toH
  replace hs1 := hs1.toH
  have hM := Mm.start w (snap w) (snap_ok w)
  generalize snap w = h at *
  refine t_enter (vs := [.slice A0 a0.length c0, .slice A1 a1.length c1]) (n := 30) Try.func16 rfl rfl rfl hM ?_
  clear hM
  change T 30 _ _ _
  refine t_seq ?_
  refine t_region (fun ops hops => ?_)
  clear hops
  refine z_val (v := .bool false) (val_assign rfl rfl) rfl rfl rfl (fun _ _ _ => trivial) ?_
  refine z_nil ?_
  refine t_seq ?_
  refine t_seq ?_
  refine t_region (fun ops hops => ?_)
  clear hops
  refine z_val (v := .slice A0 a0.length c0) (val_move rfl rfl) rfl rfl rfl (fun _ _ _ => trivial) ?_
  obtain ⟨x7, hx7, H⟩ := Let_elim H
  refine z_val (v := .int .i64 x7) (by subst hx7; exact val_len rfl rfl rfl Try.underlying31) rfl rfl rfl (fun _ _ _ => trivial) ?_
  clear hx7
  refine z_val (v := .slice A1 a1.length c1) (val_move rfl rfl) rfl rfl rfl (fun _ _ _ => trivial) ?_
  obtain ⟨x9, hx9, H⟩ := Let_elim H
  refine z_val (v := .int .i64 x9) (by subst hx9; exact val_len rfl rfl rfl Try.underlying31) rfl rfl rfl (fun _ _ _ => trivial) ?_
  clear hx9
  obtain ⟨x10, hx10, H⟩ := Let_elim H
  refine z_val (v := .int .i64 x10) (by subst hx10; exact val_max rfl rfl rfl) rfl rfl rfl (fun _ _ _ => trivial) ?_
  clear hx10
  obtain ⟨x11, hx11, H⟩ := Let_elim H
  refine z_val (v := .int .i64 x11) (by subst hx11; exact val_bin rfl rfl rfl rfl (i64_sub _ _ _)) rfl rfl rfl (fun _ _ _ => trivial) ?_
  clear hx11
  refine z_val (v := .int .i64 x11) (val_assign rfl rfl) rfl rfl rfl (fun _ _ _ => trivial) ?_
  refine z_nil ?_
  refine t_block ?_
  obtain ⟨z1, hz1, HK1⟩ := Option.bind_eq_some_iff.1 H
  clear H
  refine t_while hz1 (fun (s : (Int)) (g : Unit) => [(0, .slice A0 a0.length c0), (1, .slice A1 a1.length c1), (5, .int .i64 s)]) (fun (s : (Int)) (g : Unit) => []) (fun (s : (Int)) (g : Unit) => Mm w [] h []) (fun (s : (Int)) (g : Unit) => Mm w [] h []) (fun (s : (Int)) (g : Unit) => True) (fun (s : (Int)) (g : Unit) => True) () trivial (fun a w ha hw => ⟨ha.cons rfl (ha.cons rfl (ha.cons rfl (ha.nil))), hw⟩) (fun Gn Gb s g e hφ H hn1 hb1 hr1 => ?_) (fun s g hzz hφ => ?_)
  ·
    obtain ⟨x5, rfl⟩ : ∃ x, x = s := ⟨_, rfl⟩
    change smithyref02_Less.b1 a0 a1 x5 = some e at H
    unfold smithyref02_Less.b1 at H
    clear hz1
    change T 30 _ _ _
    refine t_seq ?_
    refine t_seq ?_
    refine t_region (fun ops hops => ?_)
    clear hops
    refine z_val (v := .int .i64 x5) (val_move rfl rfl) rfl rfl rfl (fun _ _ _ => trivial) ?_
    obtain ⟨x13, hx13, H⟩ := Let_elim H
    refine z_val (v := .bool x13) (by subst hx13; exact val_bin rfl rfl rfl rfl (i64_geq _ _ _)) rfl rfl rfl (fun _ _ _ => trivial) ?_
    clear hx13
    refine z_nil ?_
    cases x13
    ·
      replace H := cond_f H
      refine t_cond_false rfl ?_
      refine t_exit rfl ?_
      obtain rfl := Option.some.inj H
      exact t_reach ((hb1 _ () rfl trivial).weak (fun a ha => ha.nil) (fun w hw => hw))
    ·
      replace H := cond_t H
      refine t_cond_true rfl ?_
      refine t_skip ?_
      refine t_seq ?_
      refine t_block ?_
      refine t_seq ?_
      refine t_region (fun ops hops => ?_)
      clear hops
      refine z_val (v := .slice A0 a0.length c0) (val_move rfl rfl) rfl rfl rfl (fun _ _ _ => trivial) ?_
      refine z_val (v := .int .i64 x5) (val_move rfl rfl) rfl rfl rfl (fun _ _ _ => trivial) ?_
      obtain ⟨x18, hx, H⟩ := Option.bind_eq_some_iff.1 H
      refine z_made (v := .int .i64 x18) rfl Try.func28 nm28 bs28 rfl (fun w hw => smithyref02_at.calls a0 x5 A0 c0 x18 hx w (hs0.toW hw) hc0) rfl rfl rfl (fun _ _ _ => trivial) ?_
      clear hx
      refine z_val (v := .slice A1 a1.length c1) (val_move rfl rfl) rfl rfl rfl (fun _ _ _ => trivial) ?_
      refine z_val (v := .int .i64 x5) (val_move rfl rfl) rfl rfl rfl (fun _ _ _ => trivial) ?_
      obtain ⟨x21, hx_1, H⟩ := Option.bind_eq_some_iff.1 H
      refine z_made (v := .int .i64 x21) rfl Try.func28 nm28 bs28 rfl (fun w hw => smithyref02_at.calls a1 x5 A1 c1 x21 hx_1 w (hs1.toW hw) hc1) rfl rfl rfl (fun _ _ _ => trivial) ?_
      clear hx_1
      obtain ⟨x22, hx22, H⟩ := Let_elim H
      refine z_val (v := .bool x22) (by subst hx22; exact val_bin rfl rfl rfl rfl (i64_neq _ _ _)) rfl rfl rfl (fun _ _ _ => trivial) ?_
      clear hx22
      refine z_nil ?_
      cases x22
      ·
        replace H := cond_f H
        refine t_cond_false rfl ?_
        refine t_skip ?_
        refine t_fin ?_
        refine t_region (fun ops hops => ?_)
        clear hops
        refine z_val (v := .int .i64 x5) (val_move rfl rfl) rfl rfl rfl (fun _ _ _ => trivial) ?_
        obtain ⟨x15, hx15, H⟩ := Let_elim H
        refine z_val (v := .int .i64 x15) (by subst hx15; exact val_bin rfl rfl rfl rfl (i64_sub _ _ _)) rfl rfl rfl (fun _ _ _ => trivial) ?_
        clear hx15
        refine z_val (v := .int .i64 x15) (val_assign rfl rfl) rfl rfl rfl (fun _ _ _ => trivial) ?_
        refine z_nil ?_
        obtain rfl := Option.some.inj H
        exact t_reach ((hn1 _ () rfl trivial).weak (fun a ha => ha.cons rfl (ha.cons rfl (ha.cons rfl (ha.nil)))) (fun w hw => hw))
      ·
        replace H := cond_t H
        refine t_cond_true rfl ?_
        refine t_seq ?_
        refine t_region (fun ops hops => ?_)
        clear hops
        refine z_val (v := .slice A0 a0.length c0) (val_move rfl rfl) rfl rfl rfl (fun _ _ _ => trivial) ?_
        refine z_val (v := .int .i64 x5) (val_move rfl rfl) rfl rfl rfl (fun _ _ _ => trivial) ?_
        obtain ⟨x25, hx_2, H⟩ := Option.bind_eq_some_iff.1 H
        refine z_made (v := .int .i64 x25) rfl Try.func28 nm28 bs28 rfl (fun w hw => smithyref02_at.calls a0 x5 A0 c0 x25 hx_2 w (hs0.toW hw) hc0) rfl rfl rfl (fun _ _ _ => trivial) ?_
        clear hx_2
        refine z_val (v := .slice A1 a1.length c1) (val_move rfl rfl) rfl rfl rfl (fun _ _ _ => trivial) ?_
        refine z_val (v := .int .i64 x5) (val_move rfl rfl) rfl rfl rfl (fun _ _ _ => trivial) ?_
        obtain ⟨x28, hx_3, H⟩ := Option.bind_eq_some_iff.1 H
        refine z_made (v := .int .i64 x28) rfl Try.func28 nm28 bs28 rfl (fun w hw => smithyref02_at.calls a1 x5 A1 c1 x28 hx_3 w (hs1.toW hw) hc1) rfl rfl rfl (fun _ _ _ => trivial) ?_
        clear hx_3
        obtain ⟨x29, hx29, H⟩ := Let_elim H
        refine z_val (v := .bool x29) (by subst hx29; exact val_bin rfl rfl rfl rfl (i64_lss _ _ _)) rfl rfl rfl (fun _ _ _ => trivial) ?_
        clear hx29
        refine z_val (v := .bool x29) (val_assign rfl rfl) rfl rfl rfl (fun _ _ _ => trivial) ?_
        refine z_nil ?_
        refine t_ret ?_
        obtain rfl := Option.some.inj H
        have hz := hr1 _ rfl
        subst hz
        obtain rfl := Option.some.inj HK1
        exact ret1 rfl (res_tmp rfl) (fun _ hw => ⟨rfl, hw.below⟩)
  ·
    obtain ⟨x5, rfl⟩ : ∃ x, x = s := ⟨_, rfl⟩
    subst hzz
    have H := HK1
    clear HK1 hz1
    replace H := sum_l H
    try dsimp only at H
    change T 30 _ _ _
    refine t_seq ?_
    refine t_region (fun ops hops => ?_)
    clear hops
    refine z_val (v := .bool false) (val_assign rfl rfl) rfl rfl rfl (fun _ _ _ => trivial) ?_
    refine z_nil ?_
    refine t_ret ?_
    obtain rfl := Option.some.inj H
    exact ret1 rfl (res_tmp rfl) (fun _ hw => ⟨rfl, hw.below⟩)
def smithyref02_Minus.b1 (x11 : Int) (a0 : List (Int)) (a1 : List (Int)) (x5 : List (Int)) (x6 : Int) (x12 : Int) : Option (Ctl ((List (Int)) × (Int) × (Int)) (List (Int))) :=
  Let (decide (x12 < x11)) fun x13 => (bif x13 then Chk ((0 : Int) ≤ x12 ∧ x12 < (a0.length : Int)) <| Let (lget a0 x12.toNat) fun x18 => (smithyref02_at a1 x12).bind fun x21 => Let (wi (x18 - x21)) fun x22 => Let (wi (x22 - x6)) fun x24 => Let (decide (x24 < 0)) fun x26 => (bif x26 then Let (wi (x24 + 256)) fun x28 => some (1, x28) else some (0, x24)).bind (fun (s : (Int) × (Int)) => (fun (x6_12 : Int) (x8 : Int) => Let ([x8]) fun x31 => Chk ((x5.length + x31.length) * 8 ≤ 140737488355328) <| Let (x5 ++ x31) fun x32 => Let (wi (x12 + 1)) fun x33 => some (.next (x32, x6_12, x33))) s.1 s.2) else some (.brk (x5, x6, x12)))
def smithyref02_Minus (a0 : List (Int)) (a1 : List (Int)) : Option (List (Int)) :=
  Let (([] : List (Int))) fun x9 => Let ((a0.length : Int)) fun x11 => (wlx (σ := (List (Int)) × (Int) × (Int)) (fun s => smithyref02_Minus.b1 x11 a0 a1 s.1 s.2.1 s.2.2) (x9, 0, 0)).bind (Sum.elim (fun s => (fun x5 x6 x12 => some x5) s.1 s.2.1 s.2.2) (fun r => some r))
set_option maxRecDepth 100000 in
theorem smithyref02_Minus.calls  (a0 : List (Int)) (a1 : List (Int)) (A0 : Option Addr) (c0 : Nat) (A1 : Option Addr) (c1 : Nat) (r : List (Int)) (H : smithyref02_Minus a0 a1 = some r) (w : World) (hs0 : SlW w (Value.int .i64) A0 a0) (hc0 : a0.length ≤ c0) (hs1 : SlW w (Value.int .i64) A1 a1) (hc1 : a1.length ≤ c1)  :
    Calls Try.prog 46 #[.slice A0 a0.length c0, .slice A1 a1.length c1] w fun e w' => ∃ A c, e = .returned (.slice A r.length c) ∧ Below w.heap.size w w' ∧ OwnR w w' 3 (Value.int .i64) A c r := by
  unfold smithyref02_Minus at H
  replace hs0 := hs0.toH
  replace hs1 := hs1.toH
  have hM := Mm.start w (snap w) (snap_ok w)
  generalize snap w = h at *
  refine t_enter (vs := [.slice A0 a0.length c0, .slice A1 a1.length c1]) (n := 35) Try.func46 rfl rfl rfl hM ?_
  clear hM
  change T 35 _ _ _
  refine t_seq ?_
  refine t_region (fun ops hops => ?_)
  clear hops
  refine z_val (v := .slice none 0 0) (val_assign rfl rfl) rfl rfl rfl (fun _ _ _ => trivial) ?_
  refine z_nil ?_
  refine t_seq ?_
  refine t_region (fun ops hops => ?_)
  clear hops
  obtain ⟨x9, hx9, H⟩ := Let_elim H
  have hlx9 : x9.length = 0 := by subst hx9; rfl
  refine z_buildSlice' (e := 3) (f := (Value.int .i64)) (xs := x9) (vs := []) rfl rfl (by subst hx9; intro w; kernel_rfl) hlx9 (by decide) rfl rfl rfl (fun _ _ _ _ => trivial) (fun g_1 hs_3 => ?_)
  clear hx9 hlx9
  refine z_val (v := .slice (some ⟨g_1, 0, none⟩) x9.length 0) (val_assign rfl rfl) rfl rfl rfl (fun _ _ _ => trivial) ?_
  refine z_nil ?_
  refine t_seq ?_
  refine t_region (fun ops hops => ?_)
  clear hops
  refine z_val (v := .int .i64 0) (val_assign rfl rfl) rfl rfl rfl (fun _ _ _ => trivial) ?_
  refine z_nil ?_
  refine t_seq ?_
  refine t_seq ?_
  refine t_region (fun ops hops => ?_)
  clear hops
  refine z_val (v := .slice A0 a0.length c0) (val_move rfl rfl) rfl rfl rfl (fun _ _ _ => trivial) ?_
  obtain ⟨x11, hx11, H⟩ := Let_elim H
  refine z_val (v := .int .i64 x11) (by subst hx11; exact val_len rfl rfl rfl Try.underlying31) rfl rfl rfl (fun _ _ _ => trivial) ?_
  clear hx11
  refine z_val (v := .int .i64 0) (val_move rfl rfl) rfl rfl rfl (fun _ _ _ => trivial) ?_
  refine z_nil ?_
  refine t_block ?_
  obtain ⟨z1, hz1, HK1⟩ := Option.bind_eq_some_iff.1 H
  clear H
  refine t_while hz1 (fun (s : (List (Int)) × (Int) × (Int)) (g : (Option Addr) × (Nat)) => [(0, .slice A0 a0.length c0), (1, .slice A1 a1.length c1), (5, .slice g.1 s.1.length g.2), (6, .int .i64 s.2.1), (11, .int .i64 x11), (12, .int .i64 s.2.2)]) (fun (s : (List (Int)) × (Int) × (Int)) (g : (Option Addr) × (Nat)) => [(5, .slice g.1 s.1.length g.2)]) (fun (s : (List (Int)) × (Int) × (Int)) (g : (Option Addr) × (Nat)) => Mm w [] h [.row (.slice g.1 s.1.length g.2) 3 1 (s.1.map (Value.int .i64))]) (fun (s : (List (Int)) × (Int) × (Int)) (g : (Option Addr) × (Nat)) => Mm w [] h [.row (.slice g.1 s.1.length g.2) 3 1 (s.1.map (Value.int .i64))]) (fun (s : (List (Int)) × (Int) × (Int)) (g : (Option Addr) × (Nat)) => Shp g.1 s.1.length g.2) (fun (s : (List (Int)) × (Int) × (Int)) (g : (Option Addr) × (Nat)) => Shp g.1 s.1.length g.2) ⟨(some ⟨g_1, 0, none⟩), 0⟩ hs_3 (fun a w ha hw => ⟨ha.cons rfl (ha.cons rfl (ha.cons rfl (ha.cons rfl (ha.cons rfl (ha.cons rfl (ha.nil)))))), hw⟩) (fun Gn Gb s g e hφ H hn1 hb1 hr1 => ?_) (fun s g hzz hφ => ?_)
  ·
    obtain ⟨x5, x6, x12⟩ := s
    obtain ⟨A_4, c_5⟩ := g
    try dsimp only at hφ
    have hs_6 := hφ; clear hφ
    change smithyref02_Minus.b1 x11 a0 a1 x5 x6 x12 = some e at H
    unfold smithyref02_Minus.b1 at H
    clear hz1
    change T 35 _ _ _
    refine t_seq ?_
    refine t_region (fun ops hops => ?_)
    clear hops
    obtain ⟨x13, hx13, H⟩ := Let_elim H
    refine z_val (v := .bool x13) (by subst hx13; exact val_bin rfl rfl rfl rfl (i64_lss _ _ _)) rfl rfl rfl (fun _ _ _ => trivial) ?_
    clear hx13
    refine z_nil ?_
    refine t_seq ?_
    cases x13
    ·
      replace H := cond_f H
      refine t_cond_false rfl ?_
      refine t_exit rfl ?_
      obtain rfl := Option.some.inj H
      exact t_reach ((hb1 _ ⟨A_4, c_5⟩ rfl hs_6).weak (fun a ha => ha.cons rfl (ha.nil)) (fun w hw => hw))
    ·
      replace H := cond_t H
      refine t_cond_true rfl ?_
      refine t_skip ?_
      refine t_seq ?_
      refine t_block ?_
      refine t_seq ?_
      refine t_region (fun ops hops => ?_)
      clear hops
      refine z_val (v := .int .i64 x12) (val_move rfl rfl) rfl rfl rfl (fun _ _ _ => trivial) ?_
      refine z_val (v := .int .i64 x12) (val_assign rfl rfl) rfl rfl rfl (fun _ _ _ => trivial) ?_
      refine z_nil ?_
      refine t_seq ?_
      refine t_plan (C := Mm w [] h [.row (.slice A_4 x5.length c_5) 3 1 (x5.map (Value.int .i64))]) [] [(0, true), (1, true), (2, true), (3, true), (4, true), (5, true), (8, true), (6, false), (7, true), (9, true), (10, true)] (by kernel_rfl) (by kernel_rfl) (fun _ hw => hw.drew) (fun ops hops => ?_)
      clear hops
      refine z_still (v := .slice A0 a0.length c0) (val_move rfl rfl) rfl rfl rfl (fun _ hw => hw) ?_
      refine z_still (v := .int .i64 x12) (val_move rfl rfl) rfl rfl rfl (fun _ hw => hw) ?_
      obtain ⟨hq_7, H⟩ := Chk_elim H
      obtain ⟨b_8, o_9, hA_10, hc_11⟩ := hs0.at_ (idx_lt hq_7)
      refine z_still (v := .pointer (some ⟨b_8, o_9 + x12.toNat, none⟩)) (val_idxS0 rfl rfl rfl Try.underlying31 sz3 hq_7 hA_10 rfl) rfl rfl rfl (fun _ hw => hw) ?_
      obtain ⟨x18, hx18, H⟩ := Let_elim H
      refine z_still (v := .int .i64 x18) (by subst hx18; exact val_load1 rfl rfl Try.underlying3 rfl (fun _ hw => hc_11.cell hw)) rfl rfl rfl (fun _ hw => hw) ?_
      clear hx18
      refine z_still (v := .slice A1 a1.length c1) (val_move rfl rfl) rfl rfl rfl (fun _ hw => hw) ?_
      refine z_still (v := .int .i64 x12) (val_move rfl rfl) rfl rfl rfl (fun _ hw => hw) ?_
      refine z_still (v := .int .i64 x6) (val_move rfl rfl) rfl rfl rfl (fun _ hw => hw) ?_
      obtain ⟨x21, hx, H⟩ := Option.bind_eq_some_iff.1 H
      refine z_made (v := .int .i64 x21) rfl Try.func28 nm28 bs28 rfl (fun w hw => smithyref02_at.calls a1 x12 A1 c1 x21 hx w (hs1.toW hw) hc1) rfl rfl rfl (fun _ _ hw => hw) ?_
      clear hx
      obtain ⟨x22, hx22, H⟩ := Let_elim H
      refine z_still (v := .int .i64 x22) (by subst hx22; exact val_bin rfl rfl rfl rfl (i64_sub _ _ _)) rfl rfl rfl (fun _ hw => hw) ?_
      clear hx22
      obtain ⟨x24, hx24, H⟩ := Let_elim H
      refine z_still (v := .int .i64 x24) (by subst hx24; exact val_bin rfl rfl rfl rfl (i64_sub _ _ _)) rfl rfl rfl (fun _ hw => hw) ?_
      clear hx24
      refine z_still (v := .int .i64 x24) (val_assign rfl rfl) rfl rfl rfl (fun _ hw => hw) ?_
      refine z_nil ?_
      refine t_seq ?_
      refine t_region (fun ops hops => ?_)
      clear hops
      refine z_val (v := .int .i64 0) (val_assign rfl rfl) rfl rfl rfl (fun _ _ _ => trivial) ?_
      refine z_nil ?_
      refine t_seq ?_
      refine t_seq ?_
      refine t_region (fun ops hops => ?_)
      clear hops
      refine z_val (v := .int .i64 x24) (val_move rfl rfl) rfl rfl rfl (fun _ _ _ => trivial) ?_
      obtain ⟨x26, hx26, H⟩ := Let_elim H
      refine z_val (v := .bool x26) (by subst hx26; exact val_bin rfl rfl rfl rfl (i64_lss _ _ _)) rfl rfl rfl (fun _ _ _ => trivial) ?_
      clear hx26
      refine z_nil ?_
      refine t_bind H (fun (s : (Int) × (Int)) (g : Unit) => [(0, .slice A0 a0.length c0), (1, .slice A1 a1.length c1), (5, .slice A_4 x5.length c_5), (6, .int .i64 s.1), (8, .int .i64 s.2), (11, .int .i64 x11), (12, .int .i64 x12)]) (fun (s : (Int) × (Int)) (g : Unit) => Mm w [] h [.row (.slice A_4 x5.length c_5) 3 1 (x5.map (Value.int .i64))]) (fun (s : (Int) × (Int)) (g : Unit) => True) (fun Gr K s he HJ => ?_) (fun s g HB hφ => ?_)
      ·
        clear H
        cases x26
        ·
          have H := cond_f he
          clear he
          refine t_cond_false rfl ?_
          refine t_skip ?_
          obtain rfl := Option.some.inj H
          exact t_reach ((K _ () HJ trivial).weak (fun a ha => ha.cons rfl (ha.cons rfl (ha.cons rfl (ha.cons rfl (ha.cons rfl (ha.cons rfl (ha.cons rfl (ha.nil)))))))) (fun w hw => hw))
        ·
          have H := cond_t he
          clear he
          refine t_cond_true rfl ?_
          refine t_seq ?_
          refine t_region (fun ops hops => ?_)
          clear hops
          refine z_val (v := .int .i64 x24) (val_move rfl rfl) rfl rfl rfl (fun _ _ _ => trivial) ?_
          obtain ⟨x28, hx28, H⟩ := Let_elim H
          refine z_val (v := .int .i64 x28) (by subst hx28; exact val_bin rfl rfl rfl rfl (i64_add _ _ _)) rfl rfl rfl (fun _ _ _ => trivial) ?_
          clear hx28
          refine z_val (v := .int .i64 x28) (val_assign rfl rfl) rfl rfl rfl (fun _ _ _ => trivial) ?_
          refine z_nil ?_
          refine t_region (fun ops hops => ?_)
          clear hops
          refine z_val (v := .int .i64 1) (val_assign rfl rfl) rfl rfl rfl (fun _ _ _ => trivial) ?_
          refine z_nil ?_
          obtain rfl := Option.some.inj H
          exact t_reach ((K _ () HJ trivial).weak (fun a ha => ha.cons rfl (ha.cons rfl (ha.cons rfl (ha.cons rfl (ha.cons rfl (ha.cons rfl (ha.cons rfl (ha.nil)))))))) (fun w hw => hw))
      ·
        replace H := HB
        clear HB
        obtain ⟨x6_12, x8⟩ := s
        try dsimp only at H
        change T 35 _ _ _
        refine t_region (fun ops hops => ?_)
        clear hops
        refine z_val (v := .slice A_4 x5.length c_5) (val_move rfl rfl) rfl rfl rfl (fun _ _ _ => trivial) ?_
        refine z_val (v := .int .i64 x8) (val_move rfl rfl) rfl rfl rfl (fun _ _ _ => trivial) ?_
        obtain ⟨x31, hx31, H⟩ := Let_elim H
        have hlx31 : x31.length = 1 := by subst hx31; rfl
        refine z_buildSlice' (e := 3) (f := (Value.int .i64)) (xs := x31) (vs := [(0, .int .i64 x8)]) rfl rfl (by subst hx31; intro w; kernel_rfl) hlx31 (by decide) rfl rfl rfl (fun _ _ _ _ => trivial) (fun g_13 hs_15 => ?_)
        clear hx31 hlx31
        obtain ⟨hq_16, H⟩ := Chk_elim H
        obtain ⟨x32, hx32, H⟩ := Let_elim H
        refine z_append (f := (Value.int .i64)) (j := 1) (xs := x5) (ys := x31) (zs := x32) rfl rfl Try.underlying31 in3 rfl rfl rfl rfl (fun w hw => (row_w hw (j := 0) rfl)) (fun _ => rfl) hq_16 (by decide) hx32 (fun A_17 c_18 => [.row (.slice (some ⟨g_13, 0, none⟩) x31.length 1) 3 1 (x31.map (Value.int .i64)), .row (.slice A_17 x32.length c_18) 3 1 (x32.map (Value.int .i64))]) (fun _ _ => rfl) rfl rfl rfl (fun _ _ _ _ _ => trivial) (fun A_17 c_18 hs_19 => ?_)
        clear hx32
        refine z_val (v := .slice A_17 x32.length c_18) (val_assign rfl rfl) rfl rfl rfl (fun _ _ _ => trivial) ?_
        refine z_nil ?_
        refine t_fin ?_
        refine t_region (fun ops hops => ?_)
        clear hops
        obtain ⟨x33, hx33, H⟩ := Let_elim H
        refine z_val (v := .int .i64 x33) (by subst hx33; exact val_bin rfl rfl rfl rfl (i64_add _ _ _)) rfl rfl rfl (fun _ _ _ => trivial) ?_
        clear hx33
        refine z_val (v := .int .i64 x33) (val_move rfl rfl) rfl rfl rfl (fun _ _ _ => trivial) ?_
        refine z_nil ?_
        obtain rfl := Option.some.inj H
        exact t_reach ((hn1 _ ⟨A_17, c_18⟩ rfl hs_19).weak (fun a ha => ha.cons rfl (ha.cons rfl (ha.cons rfl (ha.cons rfl (ha.cons rfl (ha.cons rfl (ha.nil))))))) (fun w hw => hw.sel [1] rfl rfl))
  ·
    obtain ⟨x5, x6, x12⟩ := s
    obtain ⟨A_4, c_5⟩ := g
    try dsimp only at hφ
    have hs_6 := hφ; clear hφ
    subst hzz
    have H := HK1
    clear HK1 hz1
    replace H := sum_l H
    try dsimp only at H
    change T 35 _ _ _
    refine t_seq ?_
    refine t_region (fun ops hops => ?_)
    clear hops
    refine z_val (v := .slice A_4 x5.length c_5) (val_move rfl rfl) rfl rfl rfl (fun _ _ _ => trivial) ?_
    refine z_val (v := .slice A_4 x5.length c_5) (val_assign rfl rfl) rfl rfl rfl (fun _ _ _ => trivial) ?_
    refine z_nil ?_
    refine t_ret ?_
    obtain rfl := Option.some.inj H
    exact ret1 rfl (res_tmp rfl) (fun _ hw => ⟨A_4, c_5, rfl, hw.below, (row_out hw (j := 0) rfl hs_6)⟩)
def smithyref02_Div.b2 (a1 : List (Int)) (x8 : Int) (y_3_24 : List (Int)) (x7_26 : List (Int)) : Option (Ctl ((List (Int)) × (List (Int))) ((List (Int)) × (List (Int)))) :=
  (smithyref02_Less x7_26 a1).bind fun x36 => Let (!x36) fun x37 => (bif x37 then (smithyref02_Minus x7_26 a1).bind fun x40 => Chk ((0 : Int) ≤ x8 ∧ x8 < (y_3_24.length : Int)) <| Let (lget y_3_24 x8.toNat) fun x44 => Let (wi (x44 + 1)) fun x45 => Chk ((0 : Int) ≤ x8 ∧ x8 < (y_3_24.length : Int)) <| Let (y_3_24.set x8.toNat x45) fun x_42 => some (.next (x_42, x40)) else some (.brk (y_3_24, x7_26)))
def smithyref02_Div.b3  (x7_44 : List (Int)) : Option (Ctl ((List (Int))) ((List (Int)) × (List (Int)))) :=
  Let ((x7_44.length : Int)) fun x48 => Let (decide (0 < x48)) fun x49 => (bif x49 then Let ((x7_44.length : Int)) fun x53 => Let (wi (x53 - 1)) fun x54 => Chk ((0 : Int) ≤ x54 ∧ x54 < (x7_44.length : Int)) <| Let (lget x7_44 x54.toNat) fun x56 => Let (x56 == 0) fun x57 => some x57 else some false).bind (fun x58 => (bif x58 then Let ((x7_44.length : Int)) fun x61 => Let (wi (x61 - 1)) fun x62 => Chk ((0 : Int) ≤ x62 ∧ x62 ≤ (x7_44.length : Int)) <| Let (x7_44.take x62.toNat) fun x63 => some (.next x63) else some (.brk x7_44)))
def smithyref02_Div.b1 (a0 : List (Int)) (a1 : List (Int)) (y_3 : List (Int)) (x7 : List (Int)) (x8 : Int) : Option (Ctl ((List (Int)) × (List (Int)) × (Int)) ((List (Int)) × (List (Int)))) :=
  Let (decide (0 ≤ x8)) fun x22 => (bif x22 then Chk ((0 : Int) ≤ x8 ∧ x8 < (a0.length : Int)) <| Let (lget a0 x8.toNat) fun x28 => Let ([x28]) fun x29 => Chk ((x29.length + x7.length) * 8 ≤ 140737488355328) <| Let (x29 ++ x7) fun x32 => (wlx (σ := (List (Int)) × (List (Int))) (fun s => smithyref02_Div.b2 a1 x8 s.1 s.2) (y_3, x32)).bind (Sum.elim (fun s => (fun y_3_24 x7_26 => (wlx (σ := (List (Int))) (fun s => smithyref02_Div.b3 s) x7_26).bind (Sum.elim (fun x7_44 => Let (wi (x8 - 1)) fun x24 => some (.next (y_3_24, x7_44, x24))) (fun r => some (.ret r)))) s.1 s.2) (fun r => some (.ret r))) else some (.brk (y_3, x7, x8)))
def smithyref02_Div (a0 : List (Int)) (a1 : List (Int)) : Option ((List (Int)) × (List (Int))) :=
  Let ((a0.length : Int)) fun x11 => Chk ((0 : Int) ≤ x11 ∧ x11.toNat * 8 ≤ 140737488355328) <| Let (List.replicate x11.toNat 0) fun x12 => Let (([] : List (Int))) fun x13 => (smithyref02_Zero a1).bind fun x15 => (bif x15 then some (x12, x13) else Let ((a0.length : Int)) fun x19 => Let (wi (x19 - 1)) fun x20 => (wlx (σ := (List (Int)) × (List (Int)) × (Int)) (fun s => smithyref02_Div.b1 a0 a1 s.1 s.2.1 s.2.2) (x12, x13, x20)).bind (Sum.elim (fun s => (fun y_3 x7 x8 => some (y_3, x7)) s.1 s.2.1 s.2.2) (fun r => some r)))
set_option maxRecDepth 100000 in
theorem smithyref02_Div.calls  (a0 : List (Int)) (a1 : List (Int)) (A0 : Option Addr) (c0 : Nat) (A1 : Option Addr) (c1 : Nat) (r : (List (Int)) × (List (Int))) (H : smithyref02_Div a0 a1 = some r) {w0 : World} {Ex : List Nat} {h : Frag} {Lr : List Ent} {w : World} (hs0 : SlH h (Value.int .i64) A0 a0) (hc0 : a0.length ≤ c0) (hs1 : SlH h (Value.int .i64) A1 a1) (hc1 : a1.length ≤ c1)  (hM : Mm w0 Ex h (Lr) w) :
    Calls Try.prog 26 #[.slice A0 a0.length c0, .slice A1 a1.length c1] w fun e w' => ∃ (g : (Frag) × (Option Addr) × (Nat) × (Option Addr) × (Nat)), e = .returned (.tuple #[.slice g.2.1 r.1.length g.2.2.1, .slice g.2.2.2.1 r.2.length g.2.2.2.2]) ∧ (Sub h g.1 ∧ Shp g.2.1 r.1.length g.2.2.1 ∧ Shp g.2.2.2.1 r.2.length g.2.2.2.2) ∧ Mm w0 Ex g.1 ((.row (.slice g.2.1 r.1.length g.2.2.1) 3 1 (r.1.map (Value.int .i64))) :: (.row (.slice g.2.2.2.1 r.2.length g.2.2.2.2) 3 1 (r.2.map (Value.int .i64))) :: Lr) w' := by
  unfold smithyref02_Div at H
  refine t_enter (vs := [.slice A0 a0.length c0, .slice A1 a1.length c1]) (n := 66) Try.func26 rfl rfl rfl hM ?_
  clear hM
  change T 66 _ _ _
  refine t_seq ?_
  refine t_region (fun ops hops => ?_)
  clear hops
  refine z_val (v := .slice none 0 0) (val_assign rfl rfl) rfl rfl rfl (fun _ _ _ => trivial) ?_
  refine z_val (v := .slice none 0 0) (val_assign rfl rfl) rfl rfl rfl (fun _ _ _ => trivial) ?_
  refine z_nil ?_
  refine t_seq ?_
  refine t_region (fun ops hops => ?_)
  clear hops
  refine z_val (v := .slice A0 a0.length c0) (val_move rfl rfl) rfl rfl rfl (fun _ _ _ => trivial) ?_
  obtain ⟨x11, hx11, H⟩ := Let_elim H
  refine z_val (v := .int .i64 x11) (by subst hx11; exact val_len rfl rfl rfl Try.underlying31) rfl rfl rfl (fun _ _ _ => trivial) ?_
  clear hx11
  obtain ⟨hq_1, H⟩ := Chk_elim H
  obtain ⟨x12, hx12, H⟩ := Let_elim H
  refine z_makeSlice (f := (Value.int .i64)) (z0 := 0) (N := x11.toNat) rfl rfl rfl Try.underlying31 (in3.trans rfl) rfl hq_1.1 rfl hq_1.2 (by decide) hx12 rfl rfl rfl (fun _ _ _ _ => trivial) (fun g_2 hs_4 => ?_)
  clear hx12
  refine z_val (v := .slice (some ⟨g_2, 0, none⟩) x12.length (x11.toNat)) (val_assign rfl rfl) rfl rfl rfl (fun _ _ _ => trivial) ?_
  refine z_nil ?_
  refine t_seq ?_
  refine t_region (fun ops hops => ?_)
  clear hops
  obtain ⟨x13, hx13, H⟩ := Let_elim H
  have hlx13 : x13.length = 0 := by subst hx13; rfl
  refine z_buildSlice' (e := 3) (f := (Value.int .i64)) (xs := x13) (vs := []) rfl rfl (by subst hx13; intro w; kernel_rfl) hlx13 (by decide) rfl rfl rfl (fun _ _ _ _ => trivial) (fun g_5 hs_7 => ?_)
  clear hx13 hlx13
  refine z_val (v := .slice (some ⟨g_5, 0, none⟩) x13.length 0) (val_assign rfl rfl) rfl rfl rfl (fun _ _ _ => trivial) ?_
  refine z_nil ?_
  refine t_seq ?_
  refine t_seq ?_
  refine t_region (fun ops hops => ?_)
  clear hops
  refine z_val (v := .slice A1 a1.length c1) (val_move rfl rfl) rfl rfl rfl (fun _ _ _ => trivial) ?_
  obtain ⟨x15, hx, H⟩ := Option.bind_eq_some_iff.1 H
  refine z_made (v := .bool x15) rfl Try.func13 nm13 bs13 rfl (fun w hw => smithyref02_Zero.calls a1 A1 c1 x15 hx w (hs1.toW hw) hc1) rfl rfl rfl (fun _ _ _ => trivial) ?_
  clear hx
  refine z_nil ?_
  cases x15
  ·
    replace H := cond_f H
    refine t_cond_false rfl ?_
    refine t_skip ?_
    refine t_seq ?_
    refine t_seq ?_
    refine t_region (fun ops hops => ?_)
    clear hops
    refine z_val (v := .slice A0 a0.length c0) (val_move rfl rfl) rfl rfl rfl (fun _ _ _ => trivial) ?_
    obtain ⟨x19, hx19, H⟩ := Let_elim H
    refine z_val (v := .int .i64 x19) (by subst hx19; exact val_len rfl rfl rfl Try.underlying31) rfl rfl rfl (fun _ _ _ => trivial) ?_
    clear hx19
    obtain ⟨x20, hx20, H⟩ := Let_elim H
    refine z_val (v := .int .i64 x20) (by subst hx20; exact val_bin rfl rfl rfl rfl (i64_sub _ _ _)) rfl rfl rfl (fun _ _ _ => trivial) ?_
    clear hx20
    refine z_val (v := .int .i64 x20) (val_assign rfl rfl) rfl rfl rfl (fun _ _ _ => trivial) ?_
    refine z_nil ?_
    refine t_block ?_
    obtain ⟨z1, hz1, HK1⟩ := Option.bind_eq_some_iff.1 H
    clear H
    refine t_while hz1 (fun (s : (List (Int)) × (List (Int)) × (Int)) (g : (Option Addr) × (Nat)) => [(0, .slice A0 a0.length c0), (1, .slice A1 a1.length c1), (6, .slice (some ⟨g_2, 0, none⟩) s.1.length (x11.toNat)), (7, .slice g.1 s.2.1.length g.2), (8, .int .i64 s.2.2)]) (fun (s : (List (Int)) × (List (Int)) × (Int)) (g : (Option Addr) × (Nat)) => [(6, .slice (some ⟨g_2, 0, none⟩) s.1.length (x11.toNat)), (7, .slice g.1 s.2.1.length g.2)]) (fun (s : (List (Int)) × (List (Int)) × (Int)) (g : (Option Addr) × (Nat)) => Mm w0 Ex h ((.row (.slice g.1 s.2.1.length g.2) 3 1 (s.2.1.map (Value.int .i64))) :: (.row (.slice (some ⟨g_2, 0, none⟩) s.1.length (x11.toNat)) 3 1 (s.1.map (Value.int .i64))) :: Lr)) (fun (s : (List (Int)) × (List (Int)) × (Int)) (g : (Option Addr) × (Nat)) => Mm w0 Ex h ((.row (.slice g.1 s.2.1.length g.2) 3 1 (s.2.1.map (Value.int .i64))) :: (.row (.slice (some ⟨g_2, 0, none⟩) s.1.length (x11.toNat)) 3 1 (s.1.map (Value.int .i64))) :: Lr)) (fun (s : (List (Int)) × (List (Int)) × (Int)) (g : (Option Addr) × (Nat)) => Shp ((some ⟨g_2, 0, none⟩)) s.1.length (x11.toNat) ∧ Shp g.1 s.2.1.length g.2) (fun (s : (List (Int)) × (List (Int)) × (Int)) (g : (Option Addr) × (Nat)) => Shp ((some ⟨g_2, 0, none⟩)) s.1.length (x11.toNat) ∧ Shp g.1 s.2.1.length g.2) ⟨(some ⟨g_5, 0, none⟩), 0⟩ ⟨hs_4, hs_7⟩ (fun a w ha hw => ⟨ha.cons rfl (ha.cons rfl (ha.cons rfl (ha.cons rfl (ha.cons rfl (ha.nil))))), hw⟩) (fun Gn Gb s g e hφ H hn1 hb1 hr1 => ?_) (fun s g hzz hφ => ?_)
    ·
      obtain ⟨y_3, x7, x8⟩ := s
      obtain ⟨A_9, c_10⟩ := g
      try dsimp only at hφ
      obtain ⟨hs_8, hs_11⟩ := hφ
      change smithyref02_Div.b1 a0 a1 y_3 x7 x8 = some e at H
      unfold smithyref02_Div.b1 at H
      clear hz1
      change T 66 _ _ _
      refine t_seq ?_
      refine t_seq ?_
      refine t_region (fun ops hops => ?_)
      clear hops
      refine z_val (v := .int .i64 x8) (val_move rfl rfl) rfl rfl rfl (fun _ _ _ => trivial) ?_
      obtain ⟨x22, hx22, H⟩ := Let_elim H
      refine z_val (v := .bool x22) (by subst hx22; exact val_bin rfl rfl rfl rfl (i64_geq _ _ _)) rfl rfl rfl (fun _ _ _ => trivial) ?_
      clear hx22
      refine z_nil ?_
      cases x22
      ·
        replace H := cond_f H
        refine t_cond_false rfl ?_
        refine t_exit rfl ?_
        obtain rfl := Option.some.inj H
        exact t_reach ((hb1 _ ⟨A_9, c_10⟩ rfl ⟨hs_8, hs_11⟩).weak (fun a ha => ha.cons rfl (ha.cons rfl (ha.nil))) (fun w hw => hw))
      ·
        replace H := cond_t H
        refine t_cond_true rfl ?_
        refine t_skip ?_
        refine t_seq ?_
        refine t_block ?_
        refine t_seq ?_
        refine t_region (fun ops hops => ?_)
        clear hops
        refine z_val (v := .slice A0 a0.length c0) (val_move rfl rfl) rfl rfl rfl (fun _ _ _ => trivial) ?_
        refine z_val (v := .int .i64 x8) (val_move rfl rfl) rfl rfl rfl (fun _ _ _ => trivial) ?_
        obtain ⟨hq_12, H⟩ := Chk_elim H
        obtain ⟨b_13, o_14, hA_15, hc_16⟩ := hs0.at_ (idx_lt hq_12)
        refine z_val (v := .pointer (some ⟨b_13, o_14 + x8.toNat, none⟩)) (val_idxS0 rfl rfl rfl Try.underlying31 sz3 hq_12 hA_15 rfl) rfl rfl rfl (fun _ _ _ => trivial) ?_
        obtain ⟨x28, hx28, H⟩ := Let_elim H
        refine z_val (v := .int .i64 x28) (by subst hx28; exact val_load1 rfl rfl Try.underlying3 rfl (fun _ hw => hc_16.cell hw)) rfl rfl rfl (fun _ _ _ => trivial) ?_
        clear hx28
        obtain ⟨x29, hx29, H⟩ := Let_elim H
        have hlx29 : x29.length = 1 := by subst hx29; rfl
        refine z_buildSlice' (e := 3) (f := (Value.int .i64)) (xs := x29) (vs := [(0, .int .i64 x28)]) rfl rfl (by subst hx29; intro w; kernel_rfl) hlx29 (by decide) rfl rfl rfl (fun _ _ _ _ => trivial) (fun g_17 hs_19 => ?_)
        clear hx29 hlx29
        refine z_val (v := .slice (some ⟨g_17, 0, none⟩) x29.length 1) (val_assign rfl rfl) rfl rfl rfl (fun _ _ _ => trivial) ?_
        refine z_nil ?_
        refine t_seq ?_
        refine t_region (fun ops hops => ?_)
        clear hops
        refine z_val (v := .slice (some ⟨g_17, 0, none⟩) x29.length 1) (val_move rfl rfl) rfl rfl rfl (fun _ _ _ => trivial) ?_
        refine z_val (v := .slice A_9 x7.length c_10) (val_move rfl rfl) rfl rfl rfl (fun _ _ _ => trivial) ?_
        obtain ⟨hq_20, H⟩ := Chk_elim H
        obtain ⟨x32, hx32, H⟩ := Let_elim H
        refine z_append (f := (Value.int .i64)) (j := 0) (xs := x29) (ys := x7) (zs := x32) rfl rfl Try.underlying31 in3 rfl rfl rfl rfl (fun w hw => (row_w hw (j := 1) rfl)) (fun _ => rfl) hq_20 (by decide) hx32 (fun A_21 c_22 => (.row (.slice A_21 x32.length c_22) 3 1 (x32.map (Value.int .i64))) :: (.row (.slice A_9 x7.length c_10) 3 1 (x7.map (Value.int .i64))) :: (.row (.slice (some ⟨g_2, 0, none⟩) y_3.length (x11.toNat)) 3 1 (y_3.map (Value.int .i64))) :: Lr) (fun _ _ => rfl) rfl rfl rfl (fun _ _ _ _ _ => trivial) (fun A_21 c_22 hs_23 => ?_)
        clear hx32
        refine z_val (v := .slice A_21 x32.length c_22) (val_assign rfl rfl) rfl rfl rfl (fun _ _ _ => trivial) ?_
        refine z_nil ?_
        refine t_seq ?_
        refine t_region (fun ops hops => ?_)
        clear hops
        refine z_val (v := .slice A_21 x32.length c_22) (val_move rfl rfl) rfl rfl rfl (fun _ _ _ => trivial) ?_
        refine z_val (v := .slice A_21 x32.length c_22) (val_assign rfl rfl) rfl rfl rfl (fun _ _ _ => trivial) ?_
        refine z_nil ?_
        refine t_seq ?_
        refine t_block ?_
        obtain ⟨z2, hz2, HK2⟩ := Option.bind_eq_some_iff.1 H
        clear H
        refine t_while hz2 (fun (s : (List (Int)) × (List (Int))) (g : (Option Addr) × (Nat)) => [(0, .slice A0 a0.length c0), (1, .slice A1 a1.length c1), (6, .slice (some ⟨g_2, 0, none⟩) s.1.length (x11.toNat)), (7, .slice g.1 s.2.length g.2), (8, .int .i64 x8)]) (fun (s : (List (Int)) × (List (Int))) (g : (Option Addr) × (Nat)) => [(0, .slice A0 a0.length c0), (1, .slice A1 a1.length c1), (6, .slice (some ⟨g_2, 0, none⟩) s.1.length (x11.toNat)), (7, .slice g.1 s.2.length g.2), (8, .int .i64 x8)]) (fun (s : (List (Int)) × (List (Int))) (g : (Option Addr) × (Nat)) => Mm w0 Ex h ((.row (.slice g.1 s.2.length g.2) 3 1 (s.2.map (Value.int .i64))) :: (.row (.slice (some ⟨g_2, 0, none⟩) s.1.length (x11.toNat)) 3 1 (s.1.map (Value.int .i64))) :: Lr)) (fun (s : (List (Int)) × (List (Int))) (g : (Option Addr) × (Nat)) => Mm w0 Ex h ((.row (.slice g.1 s.2.length g.2) 3 1 (s.2.map (Value.int .i64))) :: (.row (.slice (some ⟨g_2, 0, none⟩) s.1.length (x11.toNat)) 3 1 (s.1.map (Value.int .i64))) :: Lr)) (fun (s : (List (Int)) × (List (Int))) (g : (Option Addr) × (Nat)) => Shp ((some ⟨g_2, 0, none⟩)) s.1.length (x11.toNat) ∧ Shp g.1 s.2.length g.2) (fun (s : (List (Int)) × (List (Int))) (g : (Option Addr) × (Nat)) => Shp ((some ⟨g_2, 0, none⟩)) s.1.length (x11.toNat) ∧ Shp g.1 s.2.length g.2) ⟨A_21, c_22⟩ ⟨hs_8, hs_23⟩ (fun a w ha hw => ⟨ha.cons rfl (ha.cons rfl (ha.cons rfl (ha.cons rfl (ha.cons rfl (ha.nil))))), hw.selK 3 [0, 2] rfl rfl⟩) (fun Gn Gb s g e hφ H hn2 hb2 hr2 => ?_) (fun s g hzz hφ => ?_)
        ·
          obtain ⟨y_3_24, x7_26⟩ := s
          obtain ⟨A_27, c_28⟩ := g
          try dsimp only at hφ
          obtain ⟨hs_25, hs_29⟩ := hφ
          change smithyref02_Div.b2 a1 x8 y_3_24 x7_26 = some e at H
          unfold smithyref02_Div.b2 at H
          clear hz2
          change T 66 _ _ _
          refine t_seq ?_
          refine t_seq ?_
          refine t_region (fun ops hops => ?_)
          clear hops
          refine z_val (v := .slice A_27 x7_26.length c_28) (val_move rfl rfl) rfl rfl rfl (fun _ _ _ => trivial) ?_
          refine z_val (v := .slice A1 a1.length c1) (val_move rfl rfl) rfl rfl rfl (fun _ _ _ => trivial) ?_
          obtain ⟨x36, hx_30, H⟩ := Option.bind_eq_some_iff.1 H
          refine z_made (v := .bool x36) rfl Try.func16 nm16 bs16 rfl (fun w hw => smithyref02_Less.calls x7_26 a1 A_27 c_28 A1 c1 x36 hx_30 w (row_w hw (j := 0) rfl) hs_29.le (hs1.toW hw) hc1) rfl rfl rfl (fun _ _ _ => trivial) ?_
          clear hx_30
          obtain ⟨x37, hx37, H⟩ := Let_elim H
          refine z_val (v := .bool x37) (by subst hx37; exact val_un rfl rfl (bool_not _)) rfl rfl rfl (fun _ _ _ => trivial) ?_
          clear hx37
          refine z_nil ?_
          cases x37
          ·
            replace H := cond_f H
            refine t_cond_false rfl ?_
            refine t_exit rfl ?_
            obtain rfl := Option.some.inj H
            exact t_reach ((hb2 _ ⟨A_27, c_28⟩ rfl ⟨hs_25, hs_29⟩).weak (fun a ha => ha.cons rfl (ha.cons rfl (ha.cons rfl (ha.cons rfl (ha.cons rfl (ha.nil)))))) (fun w hw => hw))
          ·
            replace H := cond_t H
            refine t_cond_true rfl ?_
            refine t_skip ?_
            refine t_block ?_
            refine t_seq ?_
            refine t_region (fun ops hops => ?_)
            clear hops
            refine z_val (v := .slice A_27 x7_26.length c_28) (val_move rfl rfl) rfl rfl rfl (fun _ _ _ => trivial) ?_
            refine z_val (v := .slice A1 a1.length c1) (val_move rfl rfl) rfl rfl rfl (fun _ _ _ => trivial) ?_
            obtain ⟨x40, hx_31, H⟩ := Option.bind_eq_some_iff.1 H
            refine z_madeS (F := fun A_32 c_33 => .slice A_32 x40.length c_33) (xs := x40) rfl Try.func46 nm46 bs46 rfl (fun w hw => smithyref02_Minus.calls x7_26 a1 A_27 c_28 A1 c1 x40 hx_31 w (row_w hw (j := 0) rfl) hs_29.le (hs1.toW hw) hc1) rfl rfl rfl (fun _ _ _ _ _ => trivial) (fun A_32 c_33 hs_34 => ?_)
            clear hx_31
            refine z_val (v := .slice A_32 x40.length c_33) (val_assign rfl rfl) rfl rfl rfl (fun _ _ _ => trivial) ?_
            refine z_nil ?_
            refine t_region (fun ops hops => ?_)
            clear hops
            refine z_val (v := .slice (some ⟨g_2, 0, none⟩) y_3_24.length (x11.toNat)) (val_move rfl rfl) rfl rfl rfl (fun _ _ _ => trivial) ?_
            refine z_val (v := .int .i64 x8) (val_move rfl rfl) rfl rfl rfl (fun _ _ _ => trivial) ?_
            obtain ⟨hq_36, H⟩ := Chk_elim H
            obtain ⟨g_37, hA_38⟩ := hs_25.blk (by omega)
            refine z_val (v := .pointer (some ⟨g_37, x8.toNat, none⟩)) (val_idxS1 rfl rfl rfl Try.underlying31 sz3 hq_36 hA_38 rfl) rfl rfl rfl (fun _ _ _ => trivial) ?_
            obtain ⟨x44, hx44, H⟩ := Let_elim H
            refine z_val (v := .int .i64 x44) (by subst hx44; exact val_load1 rfl rfl Try.underlying3 rfl (fun _ hw => row_cell' hw (j := 2) rfl hA_38 (idx_lt hq_36))) rfl rfl rfl (fun _ _ _ => trivial) ?_
            clear hx44
            obtain ⟨x45, hx45, H⟩ := Let_elim H
            refine z_val (v := .int .i64 x45) (by subst hx45; exact val_bin rfl rfl rfl rfl (i64_add _ _ _)) rfl rfl rfl (fun _ _ _ => trivial) ?_
            clear hx45
            obtain ⟨hq_39, H⟩ := Chk_elim H
            obtain ⟨g_40, hA_41⟩ := hs_25.blk (by omega)
            refine z_val (v := .pointer (some ⟨g_40, x8.toNat, none⟩)) (val_idxS1 rfl rfl rfl Try.underlying31 sz3 hq_39 hA_41 rfl) rfl rfl rfl (fun _ _ _ => trivial) ?_
            obtain ⟨x_42, hx_42, H⟩ := Let_elim H
            have hs_43 : Shp ((some ⟨g_2, 0, none⟩)) x_42.length (x11.toNat) := by subst hx_42; rw [List.length_set]; exact hs_25
            refine z_storeRow' (j := 2) (zs := x_42) (L' := (.row (.slice A_32 x40.length c_33) 3 1 (x40.map (Value.int .i64))) :: (.row (.slice A_27 x7_26.length c_28) 3 1 (x7_26.map (Value.int .i64))) :: (.row (.slice (some ⟨g_2, 0, none⟩) x_42.length (x11.toNat)) 3 1 (x_42.map (Value.int .i64))) :: Lr) rfl rfl rfl rfl rfl rfl sz3 rfl hA_41 (idx_lt hq_39) (by subst hx_42; rfl) rfl rfl rfl (fun _ _ _ => trivial) ?_
            have hl : y_3_24.length = x_42.length := by subst hx_42; rw [List.length_set]
            refine t_len (show y_3_24.length = x_42.length from hl) (fun z => [(0, .slice A0 a0.length c0), (1, .slice A1 a1.length c1), (6, .slice (some ⟨g_2, 0, none⟩) z (x11.toNat)), (7, .slice A_32 x40.length c_33), (8, .int .i64 x8), (34, .slice A_27 x7_26.length c_28), (35, .slice A1 a1.length c1), (36, .bool x36), (37, .bool true), (38, .slice A_27 x7_26.length c_28), (39, .slice A1 a1.length c1), (40, .slice A_32 x40.length c_33), (41, .slice (some ⟨g_2, 0, none⟩) z (x11.toNat)), (42, .int .i64 x8), (43, .pointer (some ⟨g_37, x8.toNat, none⟩)), (44, .int .i64 x44), (45, .int .i64 x45), (46, .pointer (some ⟨g_40, x8.toNat, none⟩))]) (fun a ha => ha.cons rfl (ha.cons rfl (ha.cons rfl (ha.cons rfl (ha.cons rfl (ha.cons rfl (ha.cons rfl (ha.cons rfl (ha.cons rfl (ha.cons rfl (ha.cons rfl (ha.cons rfl (ha.cons rfl (ha.cons rfl (ha.cons rfl (ha.cons rfl (ha.cons rfl (ha.cons rfl (ha.nil))))))))))))))))))) ?_
            change T 66 _ _ _
            clear hx_42 hl
            refine z_nil ?_
            refine t_fin ?_
            obtain rfl := Option.some.inj H
            exact t_reach ((hn2 _ ⟨A_32, c_33⟩ rfl ⟨hs_43, hs_34⟩).weak (fun a ha => ha.cons rfl (ha.cons rfl (ha.cons rfl (ha.cons rfl (ha.cons rfl (ha.nil)))))) (fun w hw => hw.selK 3 [0, 2] rfl rfl))
        ·
          obtain ⟨y_3_24, x7_26⟩ := s
          obtain ⟨A_27, c_28⟩ := g
          try dsimp only at hφ
          obtain ⟨hs_25, hs_29⟩ := hφ
          subst hzz
          have H := HK2
          clear HK2 hz2
          replace H := sum_l H
          try dsimp only at H
          change T 66 _ _ _
          refine t_block ?_
          obtain ⟨z2, hz2, HK2⟩ := Option.bind_eq_some_iff.1 H
          clear H
          refine t_while hz2 (fun (s : (List (Int))) (g : (Option Addr) × (Nat)) => [(0, .slice A0 a0.length c0), (1, .slice A1 a1.length c1), (6, .slice (some ⟨g_2, 0, none⟩) y_3_24.length (x11.toNat)), (7, .slice g.1 s.length g.2), (8, .int .i64 x8)]) (fun (s : (List (Int))) (g : (Option Addr) × (Nat)) => [(0, .slice A0 a0.length c0), (1, .slice A1 a1.length c1), (6, .slice (some ⟨g_2, 0, none⟩) y_3_24.length (x11.toNat)), (7, .slice g.1 s.length g.2), (8, .int .i64 x8)]) (fun (s : (List (Int))) (g : (Option Addr) × (Nat)) => Mm w0 Ex h ((.row (.slice g.1 s.length g.2) 3 1 (s.map (Value.int .i64))) :: (.row (.slice (some ⟨g_2, 0, none⟩) y_3_24.length (x11.toNat)) 3 1 (y_3_24.map (Value.int .i64))) :: Lr)) (fun (s : (List (Int))) (g : (Option Addr) × (Nat)) => Mm w0 Ex h ((.row (.slice g.1 s.length g.2) 3 1 (s.map (Value.int .i64))) :: (.row (.slice (some ⟨g_2, 0, none⟩) y_3_24.length (x11.toNat)) 3 1 (y_3_24.map (Value.int .i64))) :: Lr)) (fun (s : (List (Int))) (g : (Option Addr) × (Nat)) => Shp g.1 s.length g.2) (fun (s : (List (Int))) (g : (Option Addr) × (Nat)) => Shp g.1 s.length g.2) ⟨A_27, c_28⟩ hs_29 (fun a w ha hw => ⟨ha.cons rfl (ha.cons rfl (ha.cons rfl (ha.cons rfl (ha.cons rfl (ha.nil))))), hw⟩) (fun Gn Gb s g e hφ H hn2 hb2 hr2 => ?_) (fun s g hzz hφ => ?_)
          ·
            obtain ⟨x7_44, rfl⟩ : ∃ x, x = s := ⟨_, rfl⟩
            obtain ⟨A_45, c_46⟩ := g
            try dsimp only at hφ
            have hs_47 := hφ; clear hφ
            change smithyref02_Div.b3 x7_44 = some e at H
            unfold smithyref02_Div.b3 at H
            clear hz2
            change T 66 _ _ _
            refine t_seq ?_
            refine t_seq ?_
            refine t_region (fun ops hops => ?_)
            refine z_val (v := .slice A_45 x7_44.length c_46) (val_move rfl rfl) rfl rfl rfl (fun _ _ _ => trivial) ?_
            obtain ⟨x48, hx48, H⟩ := Let_elim H
            refine z_val (v := .int .i64 x48) (by subst hx48; exact val_len rfl rfl rfl Try.underlying31) rfl rfl rfl (fun _ _ _ => trivial) ?_
            clear hx48
            obtain ⟨x49, hx49, H⟩ := Let_elim H
            refine z_val (v := .bool x49) (by subst hx49; exact val_bin rfl rfl rfl rfl (i64_gtr _ _ _)) rfl rfl rfl (fun _ _ _ => trivial) ?_
            clear hx49
            refine z_val (v := .bool x49) (val_move rfl rfl) rfl rfl rfl (fun _ _ _ => trivial) ?_
            refine z_bind H 8 (fun (s : Bool) (_ : Unit) => [(0, .slice A0 a0.length c0), (1, .slice A1 a1.length c1), (6, .slice (some ⟨g_2, 0, none⟩) y_3_24.length (x11.toNat)), (7, .slice A_45 x7_44.length c_46), (8, .int .i64 x8), (58, .bool s)]) (fun _ _ => Mm w0 Ex h ((.row (.slice A_45 x7_44.length c_46) 3 1 (x7_44.map (Value.int .i64))) :: (.row (.slice (some ⟨g_2, 0, none⟩) y_3_24.length (x11.toNat)) 3 1 (y_3_24.map (Value.int .i64))) :: Lr)) (fun _ _ => True) (fun Gr K s he HJ => ?_) (fun s g HB _ => ?_)
            ·
              clear H
              cases x49
              ·
                have H := cond_f he
                clear he
                refine z_skip rfl rfl (by rw [hops]; rfl) (fun _ _ _ => trivial) ?_
                refine z_skip rfl rfl (by rw [hops]; rfl) (fun _ _ _ => trivial) ?_
                refine z_skip rfl rfl (by rw [hops]; rfl) (fun _ _ _ => trivial) ?_
                refine z_skip rfl rfl (by rw [hops]; rfl) (fun _ _ _ => trivial) ?_
                refine z_skip rfl rfl (by rw [hops]; rfl) (fun _ _ _ => trivial) ?_
                refine z_skip rfl rfl (by rw [hops]; rfl) (fun _ _ _ => trivial) ?_
                refine z_skip rfl rfl (by rw [hops]; rfl) (fun _ _ _ => trivial) ?_
                refine z_val (v := .bool false) (val_pick rfl rfl rfl) rfl rfl rfl (fun _ _ _ => trivial) ?_
                obtain rfl := Option.some.inj H
                exact z_nil ((K _ () HJ trivial).weak (fun a ha => ha.cons rfl (ha.cons rfl (ha.cons rfl (ha.cons rfl (ha.cons rfl (ha.cons rfl (ha.nil))))))) (fun w hw => hw))
              ·
                have H := cond_t he
                clear he
                refine z_val (v := .slice A_45 x7_44.length c_46) (val_move rfl rfl) rfl rfl (by rw [hops]; rfl) (fun _ _ _ => trivial) ?_
                refine z_val (v := .slice A_45 x7_44.length c_46) (val_move rfl rfl) rfl rfl (by rw [hops]; rfl) (fun _ _ _ => trivial) ?_
                obtain ⟨x53, hx53, H⟩ := Let_elim H
                refine z_val (v := .int .i64 x53) (by subst hx53; exact val_len rfl rfl rfl Try.underlying31) rfl rfl (by rw [hops]; rfl) (fun _ _ _ => trivial) ?_
                clear hx53
                obtain ⟨x54, hx54, H⟩ := Let_elim H
                refine z_val (v := .int .i64 x54) (by subst hx54; exact val_bin rfl rfl rfl rfl (i64_sub _ _ _)) rfl rfl (by rw [hops]; rfl) (fun _ _ _ => trivial) ?_
                clear hx54
                obtain ⟨hq_48, H⟩ := Chk_elim H
                obtain ⟨g_49, hA_50⟩ := hs_47.blk (by omega)
                refine z_val (v := .pointer (some ⟨g_49, x54.toNat, none⟩)) (val_idxS1 rfl rfl rfl Try.underlying31 sz3 hq_48 hA_50 rfl) rfl rfl (by rw [hops]; rfl) (fun _ _ _ => trivial) ?_
                obtain ⟨x56, hx56, H⟩ := Let_elim H
                refine z_val (v := .int .i64 x56) (by subst hx56; exact val_load1 rfl rfl Try.underlying3 rfl (fun _ hw => row_cell' hw (j := 0) rfl hA_50 (idx_lt hq_48))) rfl rfl (by rw [hops]; rfl) (fun _ _ _ => trivial) ?_
                clear hx56
                obtain ⟨x57, hx57, H⟩ := Let_elim H
                refine z_val (v := .bool x57) (by subst hx57; exact val_bin rfl rfl rfl rfl (i64_eql _ _ _)) rfl rfl (by rw [hops]; rfl) (fun _ _ _ => trivial) ?_
                clear hx57
                refine z_val (v := .bool x57) (val_pick rfl rfl rfl) rfl rfl rfl (fun _ _ _ => trivial) ?_
                obtain rfl := Option.some.inj H
                exact z_nil ((K _ () HJ trivial).weak (fun a ha => ha.cons rfl (ha.cons rfl (ha.cons rfl (ha.cons rfl (ha.cons rfl (ha.cons rfl (ha.nil))))))) (fun w hw => hw))
            ·
              replace H := HB
              clear HB
              obtain ⟨x58, rfl⟩ : ∃ x, x = s := ⟨_, rfl⟩
              change T 66 _ _ _
              refine z_nil ?_
              cases x58
              ·
                replace H := cond_f H
                refine t_cond_false rfl ?_
                refine t_exit rfl ?_
                obtain rfl := Option.some.inj H
                exact t_reach ((hb2 _ ⟨A_45, c_46⟩ rfl hs_47).weak (fun a ha => ha.cons rfl (ha.cons rfl (ha.cons rfl (ha.cons rfl (ha.cons rfl (ha.nil)))))) (fun w hw => hw))
              ·
                replace H := cond_t H
                refine t_cond_true rfl ?_
                refine t_skip ?_
                refine t_block ?_
                refine t_region (fun ops hops => ?_)
                clear hops
                refine z_val (v := .slice A_45 x7_44.length c_46) (val_move rfl rfl) rfl rfl rfl (fun _ _ _ => trivial) ?_
                refine z_val (v := .slice A_45 x7_44.length c_46) (val_move rfl rfl) rfl rfl rfl (fun _ _ _ => trivial) ?_
                obtain ⟨x61, hx61, H⟩ := Let_elim H
                refine z_val (v := .int .i64 x61) (by subst hx61; exact val_len rfl rfl rfl Try.underlying31) rfl rfl rfl (fun _ _ _ => trivial) ?_
                clear hx61
                obtain ⟨x62, hx62, H⟩ := Let_elim H
                refine z_val (v := .int .i64 x62) (by subst hx62; exact val_bin rfl rfl rfl rfl (i64_sub _ _ _)) rfl rfl rfl (fun _ _ _ => trivial) ?_
                clear hx62
                obtain ⟨hq_51, H⟩ := Chk_elim H
                obtain ⟨x63, hx63, H⟩ := Let_elim H
                have hl_52 : x63.length = x62.toNat := by subst hx63; rw [List.length_take]; omega
                have hs_53 : Shp A_45 x63.length c_46 := by rw [hl_52]; exact hs_47.take (by omega)
                refine z_val (v := .slice A_45 x63.length c_46) (val_sliceHz rfl rfl rfl Try.underlying31 sz3 hq_51.1 (by have := hs_47.le; omega) (by rw [hl_52, own_cut hs_47]; rfl)) rfl rfl rfl (fun _ _ _ => trivial) ?_
                refine z_val (v := .slice A_45 x63.length c_46) (val_assign rfl rfl) rfl rfl rfl (fun _ _ _ => trivial) ?_
                refine z_nil ?_
                refine t_trunc (f := (Value.int .i64)) (j := 0) (ys := x63) rfl (by omega) hx63 (L' := (.row (.slice A_45 x63.length c_46) 3 1 (x63.map (Value.int .i64))) :: (.row (.slice (some ⟨g_2, 0, none⟩) y_3_24.length (x11.toNat)) 3 1 (y_3_24.map (Value.int .i64))) :: Lr) rfl ?_
                refine t_fin ?_
                obtain rfl := Option.some.inj H
                exact t_reach ((hn2 _ ⟨A_45, c_46⟩ rfl hs_53).weak (fun a ha => ha.cons rfl (ha.cons rfl (ha.cons rfl (ha.cons rfl (ha.cons rfl (ha.nil)))))) (fun w hw => hw))
          ·
            obtain ⟨x7_44, rfl⟩ : ∃ x, x = s := ⟨_, rfl⟩
            obtain ⟨A_45, c_46⟩ := g
            try dsimp only at hφ
            have hs_47 := hφ; clear hφ
            subst hzz
            have H := HK2
            clear HK2 hz2
            replace H := sum_l H
            try dsimp only at H
            change T 66 _ _ _
            refine t_fin ?_
            refine t_region (fun ops hops => ?_)
            clear hops
            refine z_val (v := .int .i64 x8) (val_move rfl rfl) rfl rfl rfl (fun _ _ _ => trivial) ?_
            obtain ⟨x24, hx24, H⟩ := Let_elim H
            refine z_val (v := .int .i64 x24) (by subst hx24; exact val_bin rfl rfl rfl rfl (i64_sub _ _ _)) rfl rfl rfl (fun _ _ _ => trivial) ?_
            clear hx24
            refine z_val (v := .int .i64 x24) (val_assign rfl rfl) rfl rfl rfl (fun _ _ _ => trivial) ?_
            refine z_nil ?_
            obtain rfl := Option.some.inj H
            exact t_reach ((hn1 _ ⟨A_45, c_46⟩ rfl ⟨hs_25, hs_47⟩).weak (fun a ha => ha.cons rfl (ha.cons rfl (ha.cons rfl (ha.cons rfl (ha.cons rfl (ha.nil)))))) (fun w hw => hw))
    ·
      obtain ⟨y_3, x7, x8⟩ := s
      obtain ⟨A_9, c_10⟩ := g
      try dsimp only at hφ
      obtain ⟨hs_8, hs_11⟩ := hφ
      subst hzz
      have H := HK1
      clear HK1 hz1
      replace H := sum_l H
      try dsimp only at H
      change T 66 _ _ _
      refine t_seq ?_
      refine t_region (fun ops hops => ?_)
      clear hops
      refine z_val (v := .slice (some ⟨g_2, 0, none⟩) y_3.length (x11.toNat)) (val_move rfl rfl) rfl rfl rfl (fun _ _ _ => trivial) ?_
      refine z_val (v := .slice A_9 x7.length c_10) (val_move rfl rfl) rfl rfl rfl (fun _ _ _ => trivial) ?_
      refine z_val (v := .slice (some ⟨g_2, 0, none⟩) y_3.length (x11.toNat)) (val_assign rfl rfl) rfl rfl rfl (fun _ _ _ => trivial) ?_
      refine z_val (v := .slice A_9 x7.length c_10) (val_assign rfl rfl) rfl rfl rfl (fun _ _ _ => trivial) ?_
      refine z_nil ?_
      refine t_ret ?_
      obtain rfl := Option.some.inj H
      exact ret2 rfl (res_tmp rfl) (res_tmp rfl) (fun _ hw => ⟨⟨h, (some ⟨g_2, 0, none⟩), (x11.toNat), A_9, c_10⟩, rfl, ⟨(Sub.refl _), hs_8, hs_11⟩, hw.selK 2 [1, 0] rfl rfl⟩)
  ·
    replace H := cond_t H
    refine t_cond_true rfl ?_
    refine t_seq ?_
    refine t_region (fun ops hops => ?_)
    clear hops
    refine z_val (v := .slice (some ⟨g_2, 0, none⟩) x12.length (x11.toNat)) (val_move rfl rfl) rfl rfl rfl (fun _ _ _ => trivial) ?_
    refine z_val (v := .slice (some ⟨g_5, 0, none⟩) x13.length 0) (val_move rfl rfl) rfl rfl rfl (fun _ _ _ => trivial) ?_
    refine z_val (v := .slice (some ⟨g_2, 0, none⟩) x12.length (x11.toNat)) (val_assign rfl rfl) rfl rfl rfl (fun _ _ _ => trivial) ?_
    refine z_val (v := .slice (some ⟨g_5, 0, none⟩) x13.length 0) (val_assign rfl rfl) rfl rfl rfl (fun _ _ _ => trivial) ?_
    refine z_nil ?_
    refine t_ret ?_
    obtain rfl := Option.some.inj H
    exact ret2 rfl (res_tmp rfl) (res_tmp rfl) (fun _ hw => ⟨⟨h, (some ⟨g_2, 0, none⟩), (x11.toNat), (some ⟨g_5, 0, none⟩), 0⟩, rfl, ⟨(Sub.refl _), hs_4, hs_7⟩, hw.selK 2 [1, 0] rfl rfl⟩)
def smithyref01_From.b1 (a0 : List (BitVec 8)) (y_2 : Vec (Int) 32) (x4 : Int) : Option (Ctl ((Vec (Int) 32) × (Int)) (Vec (Int) 32)) :=
  Let (decide (x4 < 32)) fun x7 => (bif x7 then Let ((a0.length : Int)) fun x11 => Let (decide (x4 < x11)) fun x12 => some x12 else some false).bind (fun x13 => (bif x13 then Let ((a0.length : Int)) fun x19 => Let (wi (x19 - 1)) fun x20 => Let (wi (x20 - x4)) fun x22 => Chk ((0 : Int) ≤ x22 ∧ x22 < (a0.length : Int)) <| Let (lget a0 x22.toNat) fun x24 => Let ((x24.toNat : Int)) fun x25 => Chk (0 ≤ x4 ∧ x4 < ((32 : Nat) : Int)) <| Let (y_2.set x4.toNat x25) fun y_2_9 => Let (wi (x4 + 1)) fun x15 => some (.next (y_2_9, x15)) else some (.brk (y_2, x4))))
def smithyref01_From (a0 : List (BitVec 8)) : Option (Vec (Int) 32) :=
  Let (Vec.rep 32 0) fun x5 => (wlx (σ := (Vec (Int) 32) × (Int)) (fun s => smithyref01_From.b1 a0 s.1 s.2) (x5, 0)).bind (Sum.elim (fun s => (fun y_2 x4 => some y_2) s.1 s.2) (fun r => some r))
set_option maxRecDepth 100000 in
theorem smithyref01_From.calls  (a0 : List (BitVec 8)) (A0 : Option Addr) (c0 : Nat) (r : Vec (Int) 32) (H : smithyref01_From a0 = some r) (w : World) (hs0 : SlW w U8 A0 a0) (hc0 : a0.length ≤ c0)  :
    Made Try.prog 53 #[.slice A0 a0.length c0] w (.agg (cV (Value.int .i64) r).toArray) := by
  unfold smithyref01_From at H
  replace hs0 := hs0.toH
  have hM := Mm.start w (snap w) (snap_ok w)
  generalize snap w = h at *
  refine t_enter (vs := [.slice A0 a0.length c0]) (n := 28) Try.func53 rfl rfl rfl hM ?_
  clear hM
  change T 28 _ _ _
  refine t_seq ?_
  refine t_region (fun ops hops => ?_)
  clear hops
  refine z_alloc (cs := cV (Value.int .i64) (Vec.rep 32 0)) (room := 32) rfl ze86 rfl (cV_len _) rfl rfl rfl (fun _ _ _ _ => trivial) (fun g_1 => ?_)
  refine z_nil ?_
  refine t_seq ?_
  refine t_region (fun ops hops => ?_)
  clear hops
  obtain ⟨x5, hx5, H⟩ := Let_elim H
  refine z_val (v := .agg (cV (Value.int .i64) x5).toArray) (by subst hx5; exact val_build (vs := []) rfl rfl (fun w => by kernel_rfl)) rfl rfl rfl (fun _ _ _ => trivial) ?_
  clear hx5
  refine z_alloc (cs := cV (Value.int .i64) (Vec.rep 32 0)) (room := 32) rfl ze86 rfl (cV_len _) rfl rfl rfl (fun _ _ _ _ => trivial) (fun g_2 => ?_)
  refine z_storeA (j := 0) (cs' := cV (Value.int .i64) x5) (L' := [.blk g_2 86 (cV (Value.int .i64) x5) 32, .blk g_1 86 (cV (Value.int .i64) (Vec.rep 32 0)) 32]) rfl rfl rfl (cV_one (fun _ => rfl) _) sz86 rfl (cV_len _) rfl rfl rfl (fun _ _ _ => trivial) ?_
  refine z_nil ?_
  refine t_seq ?_
  refine t_seq ?_
  refine t_region (fun ops hops => ?_)
  clear hops
  refine z_val (v := .int .i64 0) (val_assign rfl rfl) rfl rfl rfl (fun _ _ _ => trivial) ?_
  refine z_nil ?_
  refine t_block ?_
  obtain ⟨z1, hz1, HK1⟩ := Option.bind_eq_some_iff.1 H
  clear H
  refine t_while hz1 (fun (s : (Vec (Int) 32) × (Int)) (g : Unit) => [(0, .slice A0 a0.length c0), (2, .pointer (some ⟨g_1, 0, none⟩)), (3, .pointer (some ⟨g_2, 0, none⟩)), (4, .int .i64 s.2)]) (fun (s : (Vec (Int) 32) × (Int)) (g : Unit) => [(2, .pointer (some ⟨g_1, 0, none⟩)), (3, .pointer (some ⟨g_2, 0, none⟩))]) (fun (s : (Vec (Int) 32) × (Int)) (g : Unit) => Mm w [] h [.blk g_2 86 (cV (Value.int .i64) s.1) 32, .blk g_1 86 (cV (Value.int .i64) (Vec.rep 32 0)) 32]) (fun (s : (Vec (Int) 32) × (Int)) (g : Unit) => Mm w [] h [.blk g_2 86 (cV (Value.int .i64) s.1) 32, .blk g_1 86 (cV (Value.int .i64) (Vec.rep 32 0)) 32]) (fun (s : (Vec (Int) 32) × (Int)) (g : Unit) => True) (fun (s : (Vec (Int) 32) × (Int)) (g : Unit) => True) () trivial (fun a w ha hw => ⟨ha.cons rfl (ha.cons rfl (ha.cons rfl (ha.cons rfl (ha.nil)))), hw⟩) (fun Gn Gb s g e hφ H hn1 hb1 hr1 => ?_) (fun s g hzz hφ => ?_)
  ·
    obtain ⟨y_2, x4⟩ := s
    change smithyref01_From.b1 a0 y_2 x4 = some e at H
    unfold smithyref01_From.b1 at H
    clear hz1
    change T 28 _ _ _
    refine t_seq ?_
    refine t_seq ?_
    refine t_region (fun ops hops => ?_)
    refine z_val (v := .int .i64 x4) (val_move rfl rfl) rfl rfl rfl (fun _ _ _ => trivial) ?_
    obtain ⟨x7, hx7, H⟩ := Let_elim H
    refine z_val (v := .bool x7) (by subst hx7; exact val_bin rfl rfl rfl rfl (i64_lss _ _ _)) rfl rfl rfl (fun _ _ _ => trivial) ?_
    clear hx7
    refine z_val (v := .bool x7) (val_move rfl rfl) rfl rfl rfl (fun _ _ _ => trivial) ?_
    refine z_bind H 5 (fun (s : Bool) (_ : Unit) => [(0, .slice A0 a0.length c0), (2, .pointer (some ⟨g_1, 0, none⟩)), (3, .pointer (some ⟨g_2, 0, none⟩)), (4, .int .i64 x4), (13, .bool s)]) (fun _ _ => Mm w [] h [.blk g_2 86 (cV (Value.int .i64) y_2) 32, .blk g_1 86 (cV (Value.int .i64) (Vec.rep 32 0)) 32]) (fun _ _ => True) (fun Gr K s he HJ => ?_) (fun s g HB _ => ?_)
    ·
      clear H
      cases x7
      ·
        have H := cond_f he
        clear he
        refine z_skip rfl rfl (by rw [hops]; rfl) (fun _ _ _ => trivial) ?_
        refine z_skip rfl rfl (by rw [hops]; rfl) (fun _ _ _ => trivial) ?_
        refine z_skip rfl rfl (by rw [hops]; rfl) (fun _ _ _ => trivial) ?_
        refine z_skip rfl rfl (by rw [hops]; rfl) (fun _ _ _ => trivial) ?_
        refine z_val (v := .bool false) (val_pick rfl rfl rfl) rfl rfl rfl (fun _ _ _ => trivial) ?_
        obtain rfl := Option.some.inj H
        exact z_nil ((K _ () HJ trivial).weak (fun a ha => ha.cons rfl (ha.cons rfl (ha.cons rfl (ha.cons rfl (ha.cons rfl (ha.nil)))))) (fun w hw => hw))
      ·
        have H := cond_t he
        clear he
        refine z_val (v := .int .i64 x4) (val_move rfl rfl) rfl rfl (by rw [hops]; rfl) (fun _ _ _ => trivial) ?_
        refine z_val (v := .slice A0 a0.length c0) (val_move rfl rfl) rfl rfl (by rw [hops]; rfl) (fun _ _ _ => trivial) ?_
        obtain ⟨x11, hx11, H⟩ := Let_elim H
        refine z_val (v := .int .i64 x11) (by subst hx11; exact val_len rfl rfl rfl Try.underlying22) rfl rfl (by rw [hops]; rfl) (fun _ _ _ => trivial) ?_
        clear hx11
        obtain ⟨x12, hx12, H⟩ := Let_elim H
        refine z_val (v := .bool x12) (by subst hx12; exact val_bin rfl rfl rfl rfl (i64_lss _ _ _)) rfl rfl (by rw [hops]; rfl) (fun _ _ _ => trivial) ?_
        clear hx12
        refine z_val (v := .bool x12) (val_pick rfl rfl rfl) rfl rfl rfl (fun _ _ _ => trivial) ?_
        obtain rfl := Option.some.inj H
        exact z_nil ((K _ () HJ trivial).weak (fun a ha => ha.cons rfl (ha.cons rfl (ha.cons rfl (ha.cons rfl (ha.cons rfl (ha.nil)))))) (fun w hw => hw))
    ·
      replace H := HB
      clear HB
      obtain ⟨x13, rfl⟩ : ∃ x, x = s := ⟨_, rfl⟩
      change T 28 _ _ _
      refine z_nil ?_
      cases x13
      ·
        replace H := cond_f H
        refine t_cond_false rfl ?_
        refine t_exit rfl ?_
        obtain rfl := Option.some.inj H
        exact t_reach ((hb1 _ () rfl trivial).weak (fun a ha => ha.cons rfl (ha.cons rfl (ha.nil))) (fun w hw => hw))
      ·
        replace H := cond_t H
        refine t_cond_true rfl ?_
        refine t_skip ?_
        refine t_seq ?_
        refine t_block ?_
        refine t_region (fun ops hops => ?_)
        clear hops
        refine z_val (v := .int .i64 x4) (val_move rfl rfl) rfl rfl rfl (fun _ _ _ => trivial) ?_
        refine z_val (v := .slice A0 a0.length c0) (val_move rfl rfl) rfl rfl rfl (fun _ _ _ => trivial) ?_
        refine z_val (v := .slice A0 a0.length c0) (val_move rfl rfl) rfl rfl rfl (fun _ _ _ => trivial) ?_
        obtain ⟨x19, hx19, H⟩ := Let_elim H
        refine z_val (v := .int .i64 x19) (by subst hx19; exact val_len rfl rfl rfl Try.underlying22) rfl rfl rfl (fun _ _ _ => trivial) ?_
        clear hx19
        obtain ⟨x20, hx20, H⟩ := Let_elim H
        refine z_val (v := .int .i64 x20) (by subst hx20; exact val_bin rfl rfl rfl rfl (i64_sub _ _ _)) rfl rfl rfl (fun _ _ _ => trivial) ?_
        clear hx20
        refine z_val (v := .int .i64 x4) (val_move rfl rfl) rfl rfl rfl (fun _ _ _ => trivial) ?_
        obtain ⟨x22, hx22, H⟩ := Let_elim H
        refine z_val (v := .int .i64 x22) (by subst hx22; exact val_bin rfl rfl rfl rfl (i64_sub _ _ _)) rfl rfl rfl (fun _ _ _ => trivial) ?_
        clear hx22
        obtain ⟨hq_3, H⟩ := Chk_elim H
        obtain ⟨b_4, o_5, hA_6, hc_7⟩ := hs0.at_ (idx_lt hq_3)
        refine z_val (v := .pointer (some ⟨b_4, o_5 + x22.toNat, none⟩)) (val_idxS0 rfl rfl rfl Try.underlying22 sz5 hq_3 hA_6 rfl) rfl rfl rfl (fun _ _ _ => trivial) ?_
        obtain ⟨x24, hx24, H⟩ := Let_elim H
        refine z_val (v := U8 x24) (by subst hx24; exact val_load1 rfl rfl Try.underlying5 rfl (fun _ hw => hc_7.cell hw)) rfl rfl rfl (fun _ _ _ => trivial) ?_
        clear hx24
        obtain ⟨x25, hx25, H⟩ := Let_elim H
        refine z_val (v := .int .i64 x25) (by subst hx25; exact val_conv rfl rfl (fun w => conv_u8_int w _ _ _ (by rw [Try.underlying5]; rfl) Try.underlying3)) rfl rfl rfl (fun _ _ _ => trivial) ?_
        clear hx25
        obtain ⟨hq_8, H⟩ := Chk_elim H
        refine z_val (v := .pointer (some ⟨g_2, x4.toNat, none⟩)) (val_idx0 rfl rfl rfl Try.underlying86 sz3 hq_8 rfl) rfl rfl rfl (fun _ _ _ => trivial) ?_
        obtain ⟨y_2_9, hy_2_9, H⟩ := Let_elim H
        refine z_store1 (j := 0) (cs' := cV (Value.int .i64) y_2_9) (L' := [.blk g_2 86 (cV (Value.int .i64) y_2_9) 32, .blk g_1 86 (cV (Value.int .i64) (Vec.rep 32 0)) 32]) rfl rfl rfl rfl rfl sz3 rfl (by rw [cV_len]; exact (idx_lt hq_8)) (by subst hy_2_9; exact cV_set (f := (Value.int .i64)) _ _ x25) rfl rfl rfl (fun _ _ _ => trivial) ?_
        clear hy_2_9
        refine z_nil ?_
        refine t_fin ?_
        refine t_region (fun ops hops => ?_)
        clear hops
        refine z_val (v := .int .i64 x4) (val_move rfl rfl) rfl rfl rfl (fun _ _ _ => trivial) ?_
        obtain ⟨x15, hx15, H⟩ := Let_elim H
        refine z_val (v := .int .i64 x15) (by subst hx15; exact val_bin rfl rfl rfl rfl (i64_add _ _ _)) rfl rfl rfl (fun _ _ _ => trivial) ?_
        clear hx15
        refine z_val (v := .int .i64 x15) (val_assign rfl rfl) rfl rfl rfl (fun _ _ _ => trivial) ?_
        refine z_nil ?_
        obtain rfl := Option.some.inj H
        exact t_reach ((hn1 _ () rfl trivial).weak (fun a ha => ha.cons rfl (ha.cons rfl (ha.cons rfl (ha.cons rfl (ha.nil))))) (fun w hw => hw))
  ·
    obtain ⟨y_2, x4⟩ := s
    subst hzz
    have H := HK1
    clear HK1 hz1
    replace H := sum_l H
    try dsimp only at H
    change T 28 _ _ _
    refine t_seq ?_
    refine t_region (fun ops hops => ?_)
    clear hops
    refine z_val (v := .agg (cV (Value.int .i64) y_2).toArray) (val_loadR (off := 0) (cs := cV (Value.int .i64) y_2) rfl rfl Try.underlying86 rfl (sz86.trans (congrArg some (cV_len _).symm)) (fun _ hw => hw.whole (j := 0) rfl)) rfl rfl rfl (fun _ _ _ => trivial) ?_
    refine z_storeA (j := 1) (cs' := cV (Value.int .i64) y_2) (L' := [.blk g_2 86 (cV (Value.int .i64) y_2) 32, .blk g_1 86 (cV (Value.int .i64) y_2) 32]) rfl rfl rfl (cV_one (fun _ => rfl) _) sz86 rfl (cV_len _) rfl rfl rfl (fun _ _ _ => trivial) ?_
    refine z_nil ?_
    refine t_ret ?_
    obtain rfl := Option.some.inj H
    exact ret1 rfl (res_row (j := 1) rfl Try.underlying86 rfl sz86 rfl (cV_len _)) (fun _ hw => ⟨rfl, hw.below⟩)
def smithyref01_D_Bit.b1 (a1 : Int) (x5 : Int) (x6 : Int) : Option (Ctl ((Int) × (Int)) (Int)) :=
  Let (Int.tmod a1 8) fun x19 => Let (decide (x6 < x19)) fun x20 => (bif x20 then Let (wi (Int.tdiv x5 2)) fun x24 => Let (wi (x6 + 1)) fun x22 => some (.next (x24, x22)) else some (.brk (x5, x6)))
def smithyref01_D_Bit (a0 : Vec (Int) 32) (a1 : Int) : Option (Int) :=
  Let (decide (a1 < 0)) fun x8 => (bif x8 then some true else Let (decide (255 < a1)) fun x11 => some x11).bind (fun x12 => (bif x12 then some 0 else Let (wi (Int.tdiv a1 8)) fun x14 => Chk (0 ≤ x14 ∧ x14 < ((32 : Nat) : Int)) <| Let (a0.get x14.toNat) fun x16 => (wlx (σ := (Int) × (Int)) (fun s => smithyref01_D_Bit.b1 a1 s.1 s.2) (x16, 0)).bind (Sum.elim (fun s => (fun x5 x6 => Let (Int.tmod x5 2) fun x26 => some x26) s.1 s.2) (fun r => some r))))
set_option maxRecDepth 100000 in
theorem smithyref01_D_Bit.calls  (a0 : Vec (Int) 32) (a1 : Int) (r : Int) (H : smithyref01_D_Bit a0 a1 = some r) (w : World)   :
    Made Try.prog 60 #[.agg (cV (Value.int .i64) a0).toArray, .int .i64 a1] w (.int .i64 r) := by
  unfold smithyref01_D_Bit at H
  have hM := Mm.start w (snap w) (snap_ok w)
  generalize snap w = h at *
  refine t_enter (vs := [.agg (cV (Value.int .i64) a0).toArray, .int .i64 a1]) (n := 27) Try.func60 rfl rfl rfl hM ?_
  clear hM
  change T 27 _ _ _
  refine t_seq ?_
  refine t_region (fun ops hops => ?_)
  clear hops
  refine z_box (cs := cV (Value.int .i64) a0) (room := 32) rfl rfl rfl (cV_len _) rfl rfl rfl (fun _ _ _ _ => trivial) (fun g_1 => ?_)
  refine z_val (v := .int .i64 0) (val_assign rfl rfl) rfl rfl rfl (fun _ _ _ => trivial) ?_
  refine z_nil ?_
  refine t_seq ?_
  refine t_seq ?_
  refine t_region (fun ops hops => ?_)
  refine z_val (v := .int .i64 a1) (val_move rfl rfl) rfl rfl rfl (fun _ _ _ => trivial) ?_
  obtain ⟨x8, hx8, H⟩ := Let_elim H
  refine z_val (v := .bool x8) (by subst hx8; exact val_bin rfl rfl rfl rfl (i64_lss _ _ _)) rfl rfl rfl (fun _ _ _ => trivial) ?_
  clear hx8
  refine z_val (v := .bool x8) (val_move rfl rfl) rfl rfl rfl (fun _ _ _ => trivial) ?_
  refine z_bind H 3 (fun (s : Bool) (_ : Unit) => [(1, .int .i64 a1), (2, .pointer (some ⟨g_1, 0, none⟩)), (12, .bool s)]) (fun _ _ => Mm w [] h [.blk g_1 86 (cV (Value.int .i64) a0) 32]) (fun _ _ => True) (fun Gr K s he HJ => ?_) (fun s g HB _ => ?_)
  ·
    clear H
    cases x8
    ·
      have H := cond_f he
      clear he
      refine z_val (v := .int .i64 a1) (val_move rfl rfl) rfl rfl (by rw [hops]; rfl) (fun _ _ _ => trivial) ?_
      obtain ⟨x11, hx11, H⟩ := Let_elim H
      refine z_val (v := .bool x11) (by subst hx11; exact val_bin rfl rfl rfl rfl (i64_gtr _ _ _)) rfl rfl (by rw [hops]; rfl) (fun _ _ _ => trivial) ?_
      clear hx11
      refine z_val (v := .bool x11) (val_pick rfl rfl rfl) rfl rfl rfl (fun _ _ _ => trivial) ?_
      obtain rfl := Option.some.inj H
      exact z_nil ((K _ () HJ trivial).weak (fun a ha => ha.cons rfl (ha.cons rfl (ha.cons rfl (ha.nil)))) (fun w hw => hw))
    ·
      have H := cond_t he
      clear he
      refine z_skip rfl rfl (by rw [hops]; rfl) (fun _ _ _ => trivial) ?_
      refine z_skip rfl rfl (by rw [hops]; rfl) (fun _ _ _ => trivial) ?_
      refine z_val (v := .bool true) (val_pick rfl rfl rfl) rfl rfl rfl (fun _ _ _ => trivial) ?_
      obtain rfl := Option.some.inj H
      exact z_nil ((K _ () HJ trivial).weak (fun a ha => ha.cons rfl (ha.cons rfl (ha.cons rfl (ha.nil)))) (fun w hw => hw))
  ·
    replace H := HB
    clear HB
    obtain ⟨x12, rfl⟩ : ∃ x, x = s := ⟨_, rfl⟩
    change T 27 _ _ _
    refine z_nil ?_
    cases x12
    ·
      replace H := cond_f H
      refine t_cond_false rfl ?_
      refine t_skip ?_
      refine t_seq ?_
      refine t_region (fun ops hops => ?_)
      clear hops
      refine z_val (v := .int .i64 a1) (val_move rfl rfl) rfl rfl rfl (fun _ _ _ => trivial) ?_
      obtain ⟨x14, hx14, H⟩ := Let_elim H
      refine z_val (v := .int .i64 x14) (by subst hx14; exact val_bin rfl rfl rfl rfl (i64_quo _ _ _ (by decide))) rfl rfl rfl (fun _ _ _ => trivial) ?_
      clear hx14
      obtain ⟨hq_2, H⟩ := Chk_elim H
      refine z_val (v := .pointer (some ⟨g_1, x14.toNat, none⟩)) (val_idx0 rfl rfl rfl Try.underlying86 sz3 hq_2 rfl) rfl rfl rfl (fun _ _ _ => trivial) ?_
      obtain ⟨x16, hx16, H⟩ := Let_elim H
      refine z_val (v := .int .i64 x16) (by subst hx16; exact val_load1 rfl rfl Try.underlying3 rfl (fun _ hw => hw.cell (j := 0) rfl (cV_at _ (idx_lt hq_2)))) rfl rfl rfl (fun _ _ _ => trivial) ?_
      clear hx16
      refine z_val (v := .int .i64 x16) (val_assign rfl rfl) rfl rfl rfl (fun _ _ _ => trivial) ?_
      refine z_nil ?_
      refine t_seq ?_
      refine t_seq ?_
      refine t_region (fun ops hops => ?_)
      clear hops
      refine z_val (v := .int .i64 0) (val_assign rfl rfl) rfl rfl rfl (fun _ _ _ => trivial) ?_
      refine z_nil ?_
      refine t_block ?_
      obtain ⟨z1, hz1, HK1⟩ := Option.bind_eq_some_iff.1 H
      clear H
      refine t_while hz1 (fun (s : (Int) × (Int)) (g : Unit) => [(1, .int .i64 a1), (5, .int .i64 s.1), (6, .int .i64 s.2)]) (fun (s : (Int) × (Int)) (g : Unit) => [(5, .int .i64 s.1)]) (fun (s : (Int) × (Int)) (g : Unit) => Mm w [] h []) (fun (s : (Int) × (Int)) (g : Unit) => Mm w [] h []) (fun (s : (Int) × (Int)) (g : Unit) => True) (fun (s : (Int) × (Int)) (g : Unit) => True) () trivial (fun a w ha hw => ⟨ha.cons rfl (ha.cons rfl (ha.cons rfl (ha.nil))), hw.sel [] rfl rfl⟩) (fun Gn Gb s g e hφ H hn1 hb1 hr1 => ?_) (fun s g hzz hφ => ?_)
      ·
        obtain ⟨x5, x6⟩ := s
        change smithyref01_D_Bit.b1 a1 x5 x6 = some e at H
        unfold smithyref01_D_Bit.b1 at H
        clear hz1
        change T 27 _ _ _
        refine t_seq ?_
        refine t_seq ?_
        refine t_region (fun ops hops => ?_)
        clear hops
        refine z_val (v := .int .i64 x6) (val_move rfl rfl) rfl rfl rfl (fun _ _ _ => trivial) ?_
        refine z_val (v := .int .i64 a1) (val_move rfl rfl) rfl rfl rfl (fun _ _ _ => trivial) ?_
        obtain ⟨x19, hx19, H⟩ := Let_elim H
        refine z_val (v := .int .i64 x19) (by subst hx19; exact val_bin rfl rfl rfl rfl (i64_rem _ _ _ (by decide))) rfl rfl rfl (fun _ _ _ => trivial) ?_
        clear hx19
        obtain ⟨x20, hx20, H⟩ := Let_elim H
        refine z_val (v := .bool x20) (by subst hx20; exact val_bin rfl rfl rfl rfl (i64_lss _ _ _)) rfl rfl rfl (fun _ _ _ => trivial) ?_
        clear hx20
        refine z_nil ?_
        cases x20
        ·
          replace H := cond_f H
          refine t_cond_false rfl ?_
          refine t_exit rfl ?_
          obtain rfl := Option.some.inj H
          exact t_reach ((hb1 _ () rfl trivial).weak (fun a ha => ha.cons rfl (ha.nil)) (fun w hw => hw))
        ·
          replace H := cond_t H
          refine t_cond_true rfl ?_
          refine t_skip ?_
          refine t_seq ?_
          refine t_block ?_
          refine t_region (fun ops hops => ?_)
          clear hops
          refine z_val (v := .int .i64 x5) (val_move rfl rfl) rfl rfl rfl (fun _ _ _ => trivial) ?_
          obtain ⟨x24, hx24, H⟩ := Let_elim H
          refine z_val (v := .int .i64 x24) (by subst hx24; exact val_bin rfl rfl rfl rfl (i64_quo _ _ _ (by decide))) rfl rfl rfl (fun _ _ _ => trivial) ?_
          clear hx24
          refine z_val (v := .int .i64 x24) (val_assign rfl rfl) rfl rfl rfl (fun _ _ _ => trivial) ?_
          refine z_nil ?_
          refine t_fin ?_
          refine t_region (fun ops hops => ?_)
          clear hops
          refine z_val (v := .int .i64 x6) (val_move rfl rfl) rfl rfl rfl (fun _ _ _ => trivial) ?_
          obtain ⟨x22, hx22, H⟩ := Let_elim H
          refine z_val (v := .int .i64 x22) (by subst hx22; exact val_bin rfl rfl rfl rfl (i64_add _ _ _)) rfl rfl rfl (fun _ _ _ => trivial) ?_
          clear hx22
          refine z_val (v := .int .i64 x22) (val_assign rfl rfl) rfl rfl rfl (fun _ _ _ => trivial) ?_
          refine z_nil ?_
          obtain rfl := Option.some.inj H
          exact t_reach ((hn1 _ () rfl trivial).weak (fun a ha => ha.cons rfl (ha.cons rfl (ha.cons rfl (ha.nil)))) (fun w hw => hw))
      ·
        obtain ⟨x5, x6⟩ := s
        subst hzz
        have H := HK1
        clear HK1 hz1
        replace H := sum_l H
        try dsimp only at H
        change T 27 _ _ _
        refine t_seq ?_
        refine t_region (fun ops hops => ?_)
        clear hops
        refine z_val (v := .int .i64 x5) (val_move rfl rfl) rfl rfl rfl (fun _ _ _ => trivial) ?_
        obtain ⟨x26, hx26, H⟩ := Let_elim H
        refine z_val (v := .int .i64 x26) (by subst hx26; exact val_bin rfl rfl rfl rfl (i64_rem _ _ _ (by decide))) rfl rfl rfl (fun _ _ _ => trivial) ?_
        clear hx26
        refine z_val (v := .int .i64 x26) (val_assign rfl rfl) rfl rfl rfl (fun _ _ _ => trivial) ?_
        refine z_nil ?_
        refine t_ret ?_
        obtain rfl := Option.some.inj H
        exact ret1 rfl (res_tmp rfl) (fun _ hw => ⟨rfl, hw.below⟩)
    ·
      replace H := cond_t H
      refine t_cond_true rfl ?_
      refine t_seq ?_
      refine t_region (fun ops hops => ?_)
      clear hops
      refine z_val (v := .int .i64 0) (val_assign rfl rfl) rfl rfl rfl (fun _ _ _ => trivial) ?_
      refine z_nil ?_
      refine t_ret ?_
      obtain rfl := Option.some.inj H
      exact ret1 rfl (res_tmp rfl) (fun _ hw => ⟨rfl, hw.below⟩)
def smithyref01_D_Len.b1 (a0 : Vec (Int) 32) (x3 : Int) (x4 : Int) : Option (Ctl ((Int) × (Int)) (Int)) :=
  Let (decide (x4 < 256)) fun x6 => (bif x6 then (smithyref01_D_Bit a0 x4).bind fun x11 => Let (x11 == 1) fun x12 => (bif x12 then Let (wi (x4 + 1)) fun x14 => some x14 else some x3).bind (fun (x3_2 : Int) => Let (wi (x4 + 1)) fun x8 => some (.next (x3_2, x8))) else some (.brk (x3, x4)))
def smithyref01_D_Len (a0 : Vec (Int) 32) : Option (Int) :=
  (wlx (σ := (Int) × (Int)) (fun s => smithyref01_D_Len.b1 a0 s.1 s.2) (0, 0)).bind (Sum.elim (fun s => (fun x3 x4 => some x3) s.1 s.2) (fun r => some r))
set_option maxRecDepth 100000 in
theorem smithyref01_D_Len.calls  (a0 : Vec (Int) 32) (r : Int) (H : smithyref01_D_Len a0 = some r) (w : World)   :
    Made Try.prog 54 #[.agg (cV (Value.int .i64) a0).toArray] w (.int .i64 r) := by
  unfold smithyref01_D_Len at H
  have hM := Mm.start w (snap w) (snap_ok w)
  generalize snap w = h at *
  refine t_enter (vs := [.agg (cV (Value.int .i64) a0).toArray]) (n := 16) Try.func54 rfl rfl rfl hM ?_
  clear hM
  change T 16 _ _ _
  refine t_seq ?_
  refine t_region (fun ops hops => ?_)
  clear hops
  refine z_box (cs := cV (Value.int .i64) a0) (room := 32) rfl rfl rfl (cV_len _) rfl rfl rfl (fun _ _ _ _ => trivial) (fun g_1 => ?_)
  refine z_val (v := .int .i64 0) (val_assign rfl rfl) rfl rfl rfl (fun _ _ _ => trivial) ?_
  refine z_nil ?_
  refine t_seq ?_
  refine t_region (fun ops hops => ?_)
  clear hops
  refine z_val (v := .int .i64 0) (val_assign rfl rfl) rfl rfl rfl (fun _ _ _ => trivial) ?_
  refine z_nil ?_
  refine t_seq ?_
  refine t_seq ?_
  refine t_region (fun ops hops => ?_)
  clear hops
  refine z_val (v := .int .i64 0) (val_assign rfl rfl) rfl rfl rfl (fun _ _ _ => trivial) ?_
  refine z_nil ?_
  refine t_block ?_
  obtain ⟨z1, hz1, HK1⟩ := Option.bind_eq_some_iff.1 H
  clear H
  refine t_while hz1 (fun (s : (Int) × (Int)) (g : Unit) => [(1, .pointer (some ⟨g_1, 0, none⟩)), (3, .int .i64 s.1), (4, .int .i64 s.2)]) (fun (s : (Int) × (Int)) (g : Unit) => [(3, .int .i64 s.1)]) (fun (s : (Int) × (Int)) (g : Unit) => Mm w [] h [.blk g_1 86 (cV (Value.int .i64) a0) 32]) (fun (s : (Int) × (Int)) (g : Unit) => Mm w [] h []) (fun (s : (Int) × (Int)) (g : Unit) => True) (fun (s : (Int) × (Int)) (g : Unit) => True) () trivial (fun a w ha hw => ⟨ha.cons rfl (ha.cons rfl (ha.cons rfl (ha.nil))), hw⟩) (fun Gn Gb s g e hφ H hn1 hb1 hr1 => ?_) (fun s g hzz hφ => ?_)
  ·
    obtain ⟨x3, x4⟩ := s
    change smithyref01_D_Len.b1 a0 x3 x4 = some e at H
    unfold smithyref01_D_Len.b1 at H
    clear hz1
    change T 16 _ _ _
    refine t_seq ?_
    refine t_seq ?_
    refine t_region (fun ops hops => ?_)
    clear hops
    refine z_val (v := .int .i64 x4) (val_move rfl rfl) rfl rfl rfl (fun _ _ _ => trivial) ?_
    obtain ⟨x6, hx6, H⟩ := Let_elim H
    refine z_val (v := .bool x6) (by subst hx6; exact val_bin rfl rfl rfl rfl (i64_lss _ _ _)) rfl rfl rfl (fun _ _ _ => trivial) ?_
    clear hx6
    refine z_nil ?_
    cases x6
    ·
      replace H := cond_f H
      refine t_cond_false rfl ?_
      refine t_exit rfl ?_
      obtain rfl := Option.some.inj H
      exact t_reach ((hb1 _ () rfl trivial).weak (fun a ha => ha.cons rfl (ha.nil)) (fun w hw => hw.sel [] rfl rfl))
    ·
      replace H := cond_t H
      refine t_cond_true rfl ?_
      refine t_skip ?_
      refine t_seq ?_
      refine t_block ?_
      refine t_seq ?_
      refine t_region (fun ops hops => ?_)
      clear hops
      refine z_val (v := .agg (cV (Value.int .i64) a0).toArray) (val_loadR (off := 0) (cs := cV (Value.int .i64) a0) rfl rfl Try.underlying86 rfl (sz86.trans (congrArg some (cV_len _).symm)) (fun _ hw => hw.whole (j := 0) rfl)) rfl rfl rfl (fun _ _ _ => trivial) ?_
      refine z_val (v := .int .i64 x4) (val_move rfl rfl) rfl rfl rfl (fun _ _ _ => trivial) ?_
      obtain ⟨x11, hx, H⟩ := Option.bind_eq_some_iff.1 H
      refine z_made (v := .int .i64 x11) rfl Try.func60 nm60 bs60 rfl (fun w hw => smithyref01_D_Bit.calls a0 x4 x11 hx w) rfl rfl rfl (fun _ _ _ => trivial) ?_
      clear hx
      obtain ⟨x12, hx12, H⟩ := Let_elim H
      refine z_val (v := .bool x12) (by subst hx12; exact val_bin rfl rfl rfl rfl (i64_eql _ _ _)) rfl rfl rfl (fun _ _ _ => trivial) ?_
      clear hx12
      refine z_nil ?_
      refine t_bind H (fun (s : (Int)) (g : Unit) => [(1, .pointer (some ⟨g_1, 0, none⟩)), (3, .int .i64 s), (4, .int .i64 x4)]) (fun (s : (Int)) (g : Unit) => Mm w [] h [.blk g_1 86 (cV (Value.int .i64) a0) 32]) (fun (s : (Int)) (g : Unit) => True) (fun Gr K s he HJ => ?_) (fun s g HB hφ => ?_)
      ·
        clear H
        cases x12
        ·
          have H := cond_f he
          clear he
          refine t_cond_false rfl ?_
          refine t_skip ?_
          obtain rfl := Option.some.inj H
          exact t_reach ((K _ () HJ trivial).weak (fun a ha => ha.cons rfl (ha.cons rfl (ha.cons rfl (ha.nil)))) (fun w hw => hw))
        ·
          have H := cond_t he
          clear he
          refine t_cond_true rfl ?_
          refine t_region (fun ops hops => ?_)
          clear hops
          refine z_val (v := .int .i64 x4) (val_move rfl rfl) rfl rfl rfl (fun _ _ _ => trivial) ?_
          obtain ⟨x14, hx14, H⟩ := Let_elim H
          refine z_val (v := .int .i64 x14) (by subst hx14; exact val_bin rfl rfl rfl rfl (i64_add _ _ _)) rfl rfl rfl (fun _ _ _ => trivial) ?_
          clear hx14
          refine z_val (v := .int .i64 x14) (val_assign rfl rfl) rfl rfl rfl (fun _ _ _ => trivial) ?_
          refine z_nil ?_
          obtain rfl := Option.some.inj H
          exact t_reach ((K _ () HJ trivial).weak (fun a ha => ha.cons rfl (ha.cons rfl (ha.cons rfl (ha.nil)))) (fun w hw => hw))
      ·
        replace H := HB
        clear HB
        obtain ⟨x3_2, rfl⟩ : ∃ x, x = s := ⟨_, rfl⟩
        try dsimp only at H
        change T 16 _ _ _
        refine t_fin ?_
        refine t_region (fun ops hops => ?_)
        clear hops
        refine z_val (v := .int .i64 x4) (val_move rfl rfl) rfl rfl rfl (fun _ _ _ => trivial) ?_
        obtain ⟨x8, hx8, H⟩ := Let_elim H
        refine z_val (v := .int .i64 x8) (by subst hx8; exact val_bin rfl rfl rfl rfl (i64_add _ _ _)) rfl rfl rfl (fun _ _ _ => trivial) ?_
        clear hx8
        refine z_val (v := .int .i64 x8) (val_assign rfl rfl) rfl rfl rfl (fun _ _ _ => trivial) ?_
        refine z_nil ?_
        obtain rfl := Option.some.inj H
        exact t_reach ((hn1 _ () rfl trivial).weak (fun a ha => ha.cons rfl (ha.cons rfl (ha.cons rfl (ha.nil)))) (fun w hw => hw))
  ·
    obtain ⟨x3, x4⟩ := s
    subst hzz
    have H := HK1
    clear HK1 hz1
    replace H := sum_l H
    try dsimp only at H
    change T 16 _ _ _
    refine t_seq ?_
    refine t_region (fun ops hops => ?_)
    clear hops
    refine z_val (v := .int .i64 x3) (val_move rfl rfl) rfl rfl rfl (fun _ _ _ => trivial) ?_
    refine z_val (v := .int .i64 x3) (val_assign rfl rfl) rfl rfl rfl (fun _ _ _ => trivial) ?_
    refine z_nil ?_
    refine t_ret ?_
    obtain rfl := Option.some.inj H
    exact ret1 rfl (res_tmp rfl) (fun _ hw => ⟨rfl, hw.below⟩)
def smithyref09_Of.b1 (a0 : List (BitVec 8)) (x3 : List (Int)) (x4 : Int) : Option (Ctl ((List (Int)) × (Int)) (List (Int))) :=
  Let (decide (0 ≤ x4)) fun x10 => (bif x10 then Chk ((0 : Int) ≤ x4 ∧ x4 < (a0.length : Int)) <| Let (lget a0 x4.toNat) fun x17 => Let ((x17.toNat : Int)) fun x18 => Let ([x18]) fun x19 => Chk ((x3.length + x19.length) * 8 ≤ 140737488355328) <| Let (x3 ++ x19) fun x20 => Let (wi (x4 - 1)) fun x12 => some (.next (x20, x12)) else some (.brk (x3, x4)))
def smithyref09_Of (a0 : List (BitVec 8)) : Option (List (Int)) :=
  Let (([] : List (Int))) fun x5 => Let ((a0.length : Int)) fun x7 => Let (wi (x7 - 1)) fun x8 => (wlx (σ := (List (Int)) × (Int)) (fun s => smithyref09_Of.b1 a0 s.1 s.2) (x5, x8)).bind (Sum.elim (fun s => (fun x3 x4 => some x3) s.1 s.2) (fun r => some r))
set_option maxRecDepth 100000 in
theorem smithyref09_Of.calls  (a0 : List (BitVec 8)) (A0 : Option Addr) (c0 : Nat) (r : List (Int)) (H : smithyref09_Of a0 = some r) (w : World) (hs0 : SlW w U8 A0 a0) (hc0 : a0.length ≤ c0)  :
    Calls Try.prog 12 #[.slice A0 a0.length c0] w fun e w' => ∃ A c, e = .returned (.slice A r.length c) ∧ Below w.heap.size w w' ∧ OwnR w w' 3 (Value.int .i64) A c r := by
  unfold smithyref09_Of at H
  replace hs0 := hs0.toH
  have hM := Mm.start w (snap w) (snap_ok w)
  generalize snap w = h at *
  refine t_enter (vs := [.slice A0 a0.length c0]) (n := 22) Try.func12 rfl rfl rfl hM ?_
  clear hM
  change T 22 _ _ _
  refine t_seq ?_
  refine t_region (fun ops hops => ?_)
  clear hops
  refine z_val (v := .slice none 0 0) (val_assign rfl rfl) rfl rfl rfl (fun _ _ _ => trivial) ?_
  refine z_nil ?_
  refine t_seq ?_
  refine t_region (fun ops hops => ?_)
  clear hops
  obtain ⟨x5, hx5, H⟩ := Let_elim H
  have hlx5 : x5.length = 0 := by subst hx5; rfl
  refine z_buildSlice' (e := 3) (f := (Value.int .i64)) (xs := x5) (vs := []) rfl rfl (by subst hx5; intro w; kernel_rfl) hlx5 (by decide) rfl rfl rfl (fun _ _ _ _ => trivial) (fun g_1 hs_3 => ?_)
  clear hx5 hlx5
  refine z_val (v := .slice (some ⟨g_1, 0, none⟩) x5.length 0) (val_assign rfl rfl) rfl rfl rfl (fun _ _ _ => trivial) ?_
  refine z_nil ?_
  refine t_seq ?_
  refine t_seq ?_
  refine t_region (fun ops hops => ?_)
  clear hops
  refine z_val (v := .slice A0 a0.length c0) (val_move rfl rfl) rfl rfl rfl (fun _ _ _ => trivial) ?_
  obtain ⟨x7, hx7, H⟩ := Let_elim H
  refine z_val (v := .int .i64 x7) (by subst hx7; exact val_len rfl rfl rfl Try.underlying22) rfl rfl rfl (fun _ _ _ => trivial) ?_
  clear hx7
  obtain ⟨x8, hx8, H⟩ := Let_elim H
  refine z_val (v := .int .i64 x8) (by subst hx8; exact val_bin rfl rfl rfl rfl (i64_sub _ _ _)) rfl rfl rfl (fun _ _ _ => trivial) ?_
  clear hx8
  refine z_val (v := .int .i64 x8) (val_assign rfl rfl) rfl rfl rfl (fun _ _ _ => trivial) ?_
  refine z_nil ?_
  refine t_block ?_
  obtain ⟨z1, hz1, HK1⟩ := Option.bind_eq_some_iff.1 H
  clear H
  refine t_while hz1 (fun (s : (List (Int)) × (Int)) (g : (Option Addr) × (Nat)) => [(0, .slice A0 a0.length c0), (3, .slice g.1 s.1.length g.2), (4, .int .i64 s.2)]) (fun (s : (List (Int)) × (Int)) (g : (Option Addr) × (Nat)) => [(3, .slice g.1 s.1.length g.2)]) (fun (s : (List (Int)) × (Int)) (g : (Option Addr) × (Nat)) => Mm w [] h [.row (.slice g.1 s.1.length g.2) 3 1 (s.1.map (Value.int .i64))]) (fun (s : (List (Int)) × (Int)) (g : (Option Addr) × (Nat)) => Mm w [] h [.row (.slice g.1 s.1.length g.2) 3 1 (s.1.map (Value.int .i64))]) (fun (s : (List (Int)) × (Int)) (g : (Option Addr) × (Nat)) => Shp g.1 s.1.length g.2) (fun (s : (List (Int)) × (Int)) (g : (Option Addr) × (Nat)) => Shp g.1 s.1.length g.2) ⟨(some ⟨g_1, 0, none⟩), 0⟩ hs_3 (fun a w ha hw => ⟨ha.cons rfl (ha.cons rfl (ha.cons rfl (ha.nil))), hw⟩) (fun Gn Gb s g e hφ H hn1 hb1 hr1 => ?_) (fun s g hzz hφ => ?_)
  ·
    obtain ⟨x3, x4⟩ := s
    obtain ⟨A_4, c_5⟩ := g
    try dsimp only at hφ
    have hs_6 := hφ; clear hφ
    change smithyref09_Of.b1 a0 x3 x4 = some e at H
    unfold smithyref09_Of.b1 at H
    clear hz1
    change T 22 _ _ _
    refine t_seq ?_
    refine t_seq ?_
    refine t_region (fun ops hops => ?_)
    clear hops
    refine z_val (v := .int .i64 x4) (val_move rfl rfl) rfl rfl rfl (fun _ _ _ => trivial) ?_
    obtain ⟨x10, hx10, H⟩ := Let_elim H
    refine z_val (v := .bool x10) (by subst hx10; exact val_bin rfl rfl rfl rfl (i64_geq _ _ _)) rfl rfl rfl (fun _ _ _ => trivial) ?_
    clear hx10
    refine z_nil ?_
    cases x10
    ·
      replace H := cond_f H
      refine t_cond_false rfl ?_
      refine t_exit rfl ?_
      obtain rfl := Option.some.inj H
      exact t_reach ((hb1 _ ⟨A_4, c_5⟩ rfl hs_6).weak (fun a ha => ha.cons rfl (ha.nil)) (fun w hw => hw))
    ·
      replace H := cond_t H
      refine t_cond_true rfl ?_
      refine t_skip ?_
      refine t_seq ?_
      refine t_block ?_
      refine t_region (fun ops hops => ?_)
      clear hops
      refine z_val (v := .slice A_4 x3.length c_5) (val_move rfl rfl) rfl rfl rfl (fun _ _ _ => trivial) ?_
      refine z_val (v := .slice A0 a0.length c0) (val_move rfl rfl) rfl rfl rfl (fun _ _ _ => trivial) ?_
      refine z_val (v := .int .i64 x4) (val_move rfl rfl) rfl rfl rfl (fun _ _ _ => trivial) ?_
      obtain ⟨hq_7, H⟩ := Chk_elim H
      obtain ⟨b_8, o_9, hA_10, hc_11⟩ := hs0.at_ (idx_lt hq_7)
      refine z_val (v := .pointer (some ⟨b_8, o_9 + x4.toNat, none⟩)) (val_idxS0 rfl rfl rfl Try.underlying22 sz5 hq_7 hA_10 rfl) rfl rfl rfl (fun _ _ _ => trivial) ?_
      obtain ⟨x17, hx17, H⟩ := Let_elim H
      refine z_val (v := U8 x17) (by subst hx17; exact val_load1 rfl rfl Try.underlying5 rfl (fun _ hw => hc_11.cell hw)) rfl rfl rfl (fun _ _ _ => trivial) ?_
      clear hx17
      obtain ⟨x18, hx18, H⟩ := Let_elim H
      refine z_val (v := .int .i64 x18) (by subst hx18; exact val_conv rfl rfl (fun w => conv_u8_int w _ _ _ (by rw [Try.underlying5]; rfl) Try.underlying3)) rfl rfl rfl (fun _ _ _ => trivial) ?_
      clear hx18
      obtain ⟨x19, hx19, H⟩ := Let_elim H
      have hlx19 : x19.length = 1 := by subst hx19; rfl
      refine z_buildSlice' (e := 3) (f := (Value.int .i64)) (xs := x19) (vs := [(0, .int .i64 x18)]) rfl rfl (by subst hx19; intro w; kernel_rfl) hlx19 (by decide) rfl rfl rfl (fun _ _ _ _ => trivial) (fun g_12 hs_14 => ?_)
      clear hx19 hlx19
      obtain ⟨hq_15, H⟩ := Chk_elim H
      obtain ⟨x20, hx20, H⟩ := Let_elim H
      refine z_append (f := (Value.int .i64)) (j := 1) (xs := x3) (ys := x19) (zs := x20) rfl rfl Try.underlying31 in3 rfl rfl rfl rfl (fun w hw => (row_w hw (j := 0) rfl)) (fun _ => rfl) hq_15 (by decide) hx20 (fun A_16 c_17 => [.row (.slice (some ⟨g_12, 0, none⟩) x19.length 1) 3 1 (x19.map (Value.int .i64)), .row (.slice A_16 x20.length c_17) 3 1 (x20.map (Value.int .i64))]) (fun _ _ => rfl) rfl rfl rfl (fun _ _ _ _ _ => trivial) (fun A_16 c_17 hs_18 => ?_)
      clear hx20
      refine z_val (v := .slice A_16 x20.length c_17) (val_assign rfl rfl) rfl rfl rfl (fun _ _ _ => trivial) ?_
      refine z_nil ?_
      refine t_fin ?_
      refine t_region (fun ops hops => ?_)
      clear hops
      refine z_val (v := .int .i64 x4) (val_move rfl rfl) rfl rfl rfl (fun _ _ _ => trivial) ?_
      obtain ⟨x12, hx12, H⟩ := Let_elim H
      refine z_val (v := .int .i64 x12) (by subst hx12; exact val_bin rfl rfl rfl rfl (i64_sub _ _ _)) rfl rfl rfl (fun _ _ _ => trivial) ?_
      clear hx12
      refine z_val (v := .int .i64 x12) (val_assign rfl rfl) rfl rfl rfl (fun _ _ _ => trivial) ?_
      refine z_nil ?_
      obtain rfl := Option.some.inj H
      exact t_reach ((hn1 _ ⟨A_16, c_17⟩ rfl hs_18).weak (fun a ha => ha.cons rfl (ha.cons rfl (ha.cons rfl (ha.nil)))) (fun w hw => hw.sel [1] rfl rfl))
  ·
    obtain ⟨x3, x4⟩ := s
    obtain ⟨A_4, c_5⟩ := g
    try dsimp only at hφ
    have hs_6 := hφ; clear hφ
    subst hzz
    have H := HK1
    clear HK1 hz1
    replace H := sum_l H
    try dsimp only at H
    change T 22 _ _ _
    refine t_seq ?_
    refine t_region (fun ops hops => ?_)
    clear hops
    refine z_val (v := .slice A_4 x3.length c_5) (val_move rfl rfl) rfl rfl rfl (fun _ _ _ => trivial) ?_
    refine z_val (v := .slice A_4 x3.length c_5) (val_assign rfl rfl) rfl rfl rfl (fun _ _ _ => trivial) ?_
    refine z_nil ?_
    refine t_ret ?_
    obtain rfl := Option.some.inj H
    exact ret1 rfl (res_tmp rfl) (fun _ hw => ⟨A_4, c_5, rfl, hw.below, (row_out hw (j := 0) rfl hs_6)⟩)
def smithyref09_Bytes.b1 (a0 : List (Int)) (x5 : List (BitVec 8)) (x6 : Int) : Option (Ctl ((List (BitVec 8)) × (Int)) (List (BitVec 8))) :=
  Let (decide (0 ≤ x6)) fun x12 => (bif x12 then Let ((a0.length : Int)) fun x17 => Let (decide (x6 < x17)) fun x18 => (bif x18 then Chk ((0 : Int) ≤ x6 ∧ x6 < (a0.length : Int)) <| Let (lget a0 x6.toNat) fun x22 => some x22 else some 0).bind (fun (x7 : Int) => Let (BitVec.ofInt 8 x7) fun x25 => Let ([x25]) fun x26 => Chk ((x5.length + x26.length) * 1 ≤ 140737488355328) <| Let (x5 ++ x26) fun x27 => Let (wi (x6 - 1)) fun x14 => some (.next (x27, x14))) else some (.brk (x5, x6)))
def smithyref09_Bytes (a0 : List (Int)) (a1 : Int) : Option (List (BitVec 8)) :=
  Let (([] : List (BitVec 8))) fun x8 => Let (wi (a1 - 1)) fun x10 => (wlx (σ := (List (BitVec 8)) × (Int)) (fun s => smithyref09_Bytes.b1 a0 s.1 s.2) (x8, x10)).bind (Sum.elim (fun s => (fun x5 x6 => some x5) s.1 s.2) (fun r => some r))
set_option maxRecDepth 100000 in
theorem smithyref09_Bytes.calls  (a0 : List (Int)) (a1 : Int) (A0 : Option Addr) (c0 : Nat) (r : List (BitVec 8)) (H : smithyref09_Bytes a0 a1 = some r) (w : World) (hs0 : SlW w (Value.int .i64) A0 a0) (hc0 : a0.length ≤ c0)  :
    Calls Try.prog 14 #[.slice A0 a0.length c0, .int .i64 a1] w fun e w' => ∃ A c, e = .returned (.slice A r.length c) ∧ Below w.heap.size w w' ∧ OwnR w w' 5 U8 A c r := by
  unfold smithyref09_Bytes at H
  replace hs0 := hs0.toH
  have hM := Mm.start w (snap w) (snap_ok w)
  generalize snap w = h at *
  refine t_enter (vs := [.slice A0 a0.length c0, .int .i64 a1]) (n := 29) Try.func14 rfl rfl rfl hM ?_
  clear hM
  change T 29 _ _ _
  refine t_seq ?_
  refine t_region (fun ops hops => ?_)
  clear hops
  refine z_val (v := .slice none 0 0) (val_assign rfl rfl) rfl rfl rfl (fun _ _ _ => trivial) ?_
  refine z_nil ?_
  refine t_seq ?_
  refine t_region (fun ops hops => ?_)
  clear hops
  obtain ⟨x8, hx8, H⟩ := Let_elim H
  have hlx8 : x8.length = 0 := by subst hx8; rfl
  refine z_buildSlice' (e := 5) (f := U8) (xs := x8) (vs := []) rfl rfl (by subst hx8; intro w; kernel_rfl) hlx8 (by decide) rfl rfl rfl (fun _ _ _ _ => trivial) (fun g_1 hs_3 => ?_)
  clear hx8 hlx8
  refine z_val (v := .slice (some ⟨g_1, 0, none⟩) x8.length 0) (val_assign rfl rfl) rfl rfl rfl (fun _ _ _ => trivial) ?_
  refine z_nil ?_
  refine t_seq ?_
  refine t_seq ?_
  refine t_region (fun ops hops => ?_)
  clear hops
  refine z_val (v := .int .i64 a1) (val_move rfl rfl) rfl rfl rfl (fun _ _ _ => trivial) ?_
  obtain ⟨x10, hx10, H⟩ := Let_elim H
  refine z_val (v := .int .i64 x10) (by subst hx10; exact val_bin rfl rfl rfl rfl (i64_sub _ _ _)) rfl rfl rfl (fun _ _ _ => trivial) ?_
  clear hx10
  refine z_val (v := .int .i64 x10) (val_assign rfl rfl) rfl rfl rfl (fun _ _ _ => trivial) ?_
  refine z_nil ?_
  refine t_block ?_
  obtain ⟨z1, hz1, HK1⟩ := Option.bind_eq_some_iff.1 H
  clear H
  refine t_while hz1 (fun (s : (List (BitVec 8)) × (Int)) (g : (Option Addr) × (Nat)) => [(0, .slice A0 a0.length c0), (5, .slice g.1 s.1.length g.2), (6, .int .i64 s.2)]) (fun (s : (List (BitVec 8)) × (Int)) (g : (Option Addr) × (Nat)) => [(5, .slice g.1 s.1.length g.2)]) (fun (s : (List (BitVec 8)) × (Int)) (g : (Option Addr) × (Nat)) => Mm w [] h [.row (.slice g.1 s.1.length g.2) 5 1 (s.1.map U8)]) (fun (s : (List (BitVec 8)) × (Int)) (g : (Option Addr) × (Nat)) => Mm w [] h [.row (.slice g.1 s.1.length g.2) 5 1 (s.1.map U8)]) (fun (s : (List (BitVec 8)) × (Int)) (g : (Option Addr) × (Nat)) => Shp g.1 s.1.length g.2) (fun (s : (List (BitVec 8)) × (Int)) (g : (Option Addr) × (Nat)) => Shp g.1 s.1.length g.2) ⟨(some ⟨g_1, 0, none⟩), 0⟩ hs_3 (fun a w ha hw => ⟨ha.cons rfl (ha.cons rfl (ha.cons rfl (ha.nil))), hw⟩) (fun Gn Gb s g e hφ H hn1 hb1 hr1 => ?_) (fun s g hzz hφ => ?_)
  ·
    obtain ⟨x5, x6⟩ := s
    obtain ⟨A_4, c_5⟩ := g
    try dsimp only at hφ
    have hs_6 := hφ; clear hφ
    change smithyref09_Bytes.b1 a0 x5 x6 = some e at H
    unfold smithyref09_Bytes.b1 at H
    clear hz1
    change T 29 _ _ _
    refine t_seq ?_
    refine t_seq ?_
    refine t_region (fun ops hops => ?_)
    clear hops
    refine z_val (v := .int .i64 x6) (val_move rfl rfl) rfl rfl rfl (fun _ _ _ => trivial) ?_
    obtain ⟨x12, hx12, H⟩ := Let_elim H
    refine z_val (v := .bool x12) (by subst hx12; exact val_bin rfl rfl rfl rfl (i64_geq _ _ _)) rfl rfl rfl (fun _ _ _ => trivial) ?_
    clear hx12
    refine z_nil ?_
    cases x12
    ·
      replace H := cond_f H
      refine t_cond_false rfl ?_
      refine t_exit rfl ?_
      obtain rfl := Option.some.inj H
      exact t_reach ((hb1 _ ⟨A_4, c_5⟩ rfl hs_6).weak (fun a ha => ha.cons rfl (ha.nil)) (fun w hw => hw))
    ·
      replace H := cond_t H
      refine t_cond_true rfl ?_
      refine t_skip ?_
      refine t_seq ?_
      refine t_block ?_
      refine t_seq ?_
      refine t_region (fun ops hops => ?_)
      clear hops
      refine z_val (v := .int .i64 0) (val_assign rfl rfl) rfl rfl rfl (fun _ _ _ => trivial) ?_
      refine z_nil ?_
      refine t_seq ?_
      refine t_seq ?_
      refine t_region (fun ops hops => ?_)
      clear hops
      refine z_val (v := .int .i64 x6) (val_move rfl rfl) rfl rfl rfl (fun _ _ _ => trivial) ?_
      refine z_val (v := .slice A0 a0.length c0) (val_move rfl rfl) rfl rfl rfl (fun _ _ _ => trivial) ?_
      obtain ⟨x17, hx17, H⟩ := Let_elim H
      refine z_val (v := .int .i64 x17) (by subst hx17; exact val_len rfl rfl rfl Try.underlying31) rfl rfl rfl (fun _ _ _ => trivial) ?_
      clear hx17
      obtain ⟨x18, hx18, H⟩ := Let_elim H
      refine z_val (v := .bool x18) (by subst hx18; exact val_bin rfl rfl rfl rfl (i64_lss _ _ _)) rfl rfl rfl (fun _ _ _ => trivial) ?_
      clear hx18
      refine z_nil ?_
      refine t_bind H (fun (s : (Int)) (g : Unit) => [(0, .slice A0 a0.length c0), (5, .slice A_4 x5.length c_5), (6, .int .i64 x6), (7, .int .i64 s)]) (fun (s : (Int)) (g : Unit) => Mm w [] h [.row (.slice A_4 x5.length c_5) 5 1 (x5.map U8)]) (fun (s : (Int)) (g : Unit) => True) (fun Gr K s he HJ => ?_) (fun s g HB hφ => ?_)
      ·
        clear H
        cases x18
        ·
          have H := cond_f he
          clear he
          refine t_cond_false rfl ?_
          refine t_skip ?_
          obtain rfl := Option.some.inj H
          exact t_reach ((K _ () HJ trivial).weak (fun a ha => ha.cons rfl (ha.cons rfl (ha.cons rfl (ha.cons rfl (ha.nil))))) (fun w hw => hw))
        ·
          have H := cond_t he
          clear he
          refine t_cond_true rfl ?_
          refine t_region (fun ops hops => ?_)
          clear hops
          refine z_val (v := .slice A0 a0.length c0) (val_move rfl rfl) rfl rfl rfl (fun _ _ _ => trivial) ?_
          refine z_val (v := .int .i64 x6) (val_move rfl rfl) rfl rfl rfl (fun _ _ _ => trivial) ?_
          obtain ⟨hq_7, H⟩ := Chk_elim H
          obtain ⟨b_8, o_9, hA_10, hc_11⟩ := hs0.at_ (idx_lt hq_7)
          refine z_val (v := .pointer (some ⟨b_8, o_9 + x6.toNat, none⟩)) (val_idxS0 rfl rfl rfl Try.underlying31 sz3 hq_7 hA_10 rfl) rfl rfl rfl (fun _ _ _ => trivial) ?_
          obtain ⟨x22, hx22, H⟩ := Let_elim H
          refine z_val (v := .int .i64 x22) (by subst hx22; exact val_load1 rfl rfl Try.underlying3 rfl (fun _ hw => hc_11.cell hw)) rfl rfl rfl (fun _ _ _ => trivial) ?_
          clear hx22
          refine z_val (v := .int .i64 x22) (val_assign rfl rfl) rfl rfl rfl (fun _ _ _ => trivial) ?_
          refine z_nil ?_
          obtain rfl := Option.some.inj H
          exact t_reach ((K _ () HJ trivial).weak (fun a ha => ha.cons rfl (ha.cons rfl (ha.cons rfl (ha.cons rfl (ha.nil))))) (fun w hw => hw))
      ·
        replace H := HB
        clear HB
        obtain ⟨x7, rfl⟩ : ∃ x, x = s := ⟨_, rfl⟩
        try dsimp only at H
        change T 29 _ _ _
        refine t_region (fun ops hops => ?_)
        clear hops
        refine z_val (v := .slice A_4 x5.length c_5) (val_move rfl rfl) rfl rfl rfl (fun _ _ _ => trivial) ?_
        refine z_val (v := .int .i64 x7) (val_move rfl rfl) rfl rfl rfl (fun _ _ _ => trivial) ?_
        obtain ⟨x25, hx25, H⟩ := Let_elim H
        refine z_val (v := U8 x25) (by subst hx25; exact val_conv rfl rfl (fun w => conv_int_u8 w _ _ .i64 _ (by rw [Try.underlying3]; rfl) Try.underlying5)) rfl rfl rfl (fun _ _ _ => trivial) ?_
        clear hx25
        obtain ⟨x26, hx26, H⟩ := Let_elim H
        have hlx26 : x26.length = 1 := by subst hx26; rfl
        refine z_buildSlice' (e := 5) (f := U8) (xs := x26) (vs := [(0, U8 x25)]) rfl rfl (by subst hx26; intro w; kernel_rfl) hlx26 (by decide) rfl rfl rfl (fun _ _ _ _ => trivial) (fun g_12 hs_14 => ?_)
        clear hx26 hlx26
        obtain ⟨hq_15, H⟩ := Chk_elim H
        obtain ⟨x27, hx27, H⟩ := Let_elim H
        refine z_append (f := U8) (j := 1) (xs := x5) (ys := x26) (zs := x27) rfl rfl Try.underlying22 in5 rfl rfl rfl rfl (fun w hw => (row_w hw (j := 0) rfl)) (fun _ => rfl) hq_15 (by decide) hx27 (fun A_16 c_17 => [.row (.slice (some ⟨g_12, 0, none⟩) x26.length 1) 5 1 (x26.map U8), .row (.slice A_16 x27.length c_17) 5 1 (x27.map U8)]) (fun _ _ => rfl) rfl rfl rfl (fun _ _ _ _ _ => trivial) (fun A_16 c_17 hs_18 => ?_)
        clear hx27
        refine z_val (v := .slice A_16 x27.length c_17) (val_assign rfl rfl) rfl rfl rfl (fun _ _ _ => trivial) ?_
        refine z_nil ?_
        refine t_fin ?_
        refine t_region (fun ops hops => ?_)
        clear hops
        refine z_val (v := .int .i64 x6) (val_move rfl rfl) rfl rfl rfl (fun _ _ _ => trivial) ?_
        obtain ⟨x14, hx14, H⟩ := Let_elim H
        refine z_val (v := .int .i64 x14) (by subst hx14; exact val_bin rfl rfl rfl rfl (i64_sub _ _ _)) rfl rfl rfl (fun _ _ _ => trivial) ?_
        clear hx14
        refine z_val (v := .int .i64 x14) (val_assign rfl rfl) rfl rfl rfl (fun _ _ _ => trivial) ?_
        refine z_nil ?_
        obtain rfl := Option.some.inj H
        exact t_reach ((hn1 _ ⟨A_16, c_17⟩ rfl hs_18).weak (fun a ha => ha.cons rfl (ha.cons rfl (ha.cons rfl (ha.nil)))) (fun w hw => hw.sel [1] rfl rfl))
  ·
    obtain ⟨x5, x6⟩ := s
    obtain ⟨A_4, c_5⟩ := g
    try dsimp only at hφ
    have hs_6 := hφ; clear hφ
    subst hzz
    have H := HK1
    clear HK1 hz1
    replace H := sum_l H
    try dsimp only at H
    change T 29 _ _ _
    refine t_seq ?_
    refine t_region (fun ops hops => ?_)
    clear hops
    refine z_val (v := .slice A_4 x5.length c_5) (val_move rfl rfl) rfl rfl rfl (fun _ _ _ => trivial) ?_
    refine z_val (v := .slice A_4 x5.length c_5) (val_assign rfl rfl) rfl rfl rfl (fun _ _ _ => trivial) ?_
    refine z_nil ?_
    refine t_ret ?_
    obtain rfl := Option.some.inj H
    exact ret1 rfl (res_tmp rfl) (fun _ hw => ⟨A_4, c_5, rfl, hw.below, (row_out hw (j := 0) rfl hs_6)⟩)
def smithyref09_Mul (a0 : List (Int)) (a1 : List (Int)) (a2 : List (Int)) : Option (List (Int)) :=
  (smithyref02_Times a0 a1).bind fun x12 => (smithyref02_Div x12 a2).bind fun x14 => some x14.2
set_option maxRecDepth 100000 in
theorem smithyref09_Mul.calls  (a0 : List (Int)) (a1 : List (Int)) (a2 : List (Int)) (A0 : Option Addr) (c0 : Nat) (A1 : Option Addr) (c1 : Nat) (A2 : Option Addr) (c2 : Nat) (r : List (Int)) (H : smithyref09_Mul a0 a1 a2 = some r) (w : World) (hs0 : SlW w (Value.int .i64) A0 a0) (hc0 : a0.length ≤ c0) (hs1 : SlW w (Value.int .i64) A1 a1) (hc1 : a1.length ≤ c1) (hs2 : SlW w (Value.int .i64) A2 a2) (hc2 : a2.length ≤ c2)  :
    Calls Try.prog 15 #[.slice A0 a0.length c0, .slice A1 a1.length c1, .slice A2 a2.length c2] w fun e w' => ∃ A c, e = .returned (.slice A r.length c) ∧ Below w.heap.size w w' ∧ OwnR w w' 3 (Value.int .i64) A c r := by
  unfold smithyref09_Mul at H
  replace hs0 := hs0.toH
  replace hs1 := hs1.toH
  replace hs2 := hs2.toH
  have hM := Mm.start w (snap w) (snap_ok w)
  generalize snap w = h at *
  refine t_enter (vs := [.slice A0 a0.length c0, .slice A1 a1.length c1, .slice A2 a2.length c2]) (n := 18) Try.func15 rfl rfl rfl hM ?_
  clear hM
  change T 18 _ _ _
  refine t_seq ?_
  refine t_region (fun ops hops => ?_)
  clear hops
  refine z_val (v := .slice none 0 0) (val_assign rfl rfl) rfl rfl rfl (fun _ _ _ => trivial) ?_
  refine z_nil ?_
  refine t_seq ?_
  refine t_region (fun ops hops => ?_)
  clear hops
  refine z_val (v := .slice A0 a0.length c0) (val_move rfl rfl) rfl rfl rfl (fun _ _ _ => trivial) ?_
  refine z_val (v := .slice A1 a1.length c1) (val_move rfl rfl) rfl rfl rfl (fun _ _ _ => trivial) ?_
  obtain ⟨x12, hx, H⟩ := Option.bind_eq_some_iff.1 H
  refine z_madeS (F := fun A_1 c_2 => .slice A_1 x12.length c_2) (xs := x12) rfl Try.func27 nm27 bs27 rfl (fun w hw => smithyref02_Times.calls a0 a1 A0 c0 A1 c1 x12 hx w (hs0.toW hw) hc0 (hs1.toW hw) hc1) rfl rfl rfl (fun _ _ _ _ _ => trivial) (fun A_1 c_2 hs_3 => ?_)
  clear hx
  refine z_val (v := .slice A2 a2.length c2) (val_move rfl rfl) rfl rfl rfl (fun _ _ _ => trivial) ?_
  refine t_seal (fun h_5 hS hs_6 => ?_)
  have hc_7 := hs_3.le
  replace hs0 := hs0.up hS
  replace hs1 := hs1.up hS
  replace hs2 := hs2.up hS
  obtain ⟨x14, hx_8, H⟩ := Option.bind_eq_some_iff.1 H
  refine z_callG rfl Try.func26 nm26 bs26 rfl (fun w hw => smithyref02_Div.calls x12 a2 A_1 c_2 A2 c2 x14 hx_8 hs_6 hc_7 hs2 hc2 hw) rfl rfl rfl (fun _ _ _ _ _ => trivial) (fun g hφ => ?_)
  obtain ⟨h_9, A_12, c_13, A_16, c_17⟩ := g
  try dsimp only at hφ
  obtain ⟨hS_10, hs_14, hs_18⟩ := hφ
  clear hx_8
  change T 18 _ _ _
  replace hs0 := hs0.up hS_10
  replace hs1 := hs1.up hS_10
  replace hs2 := hs2.up hS_10
  replace hs_6 := hs_6.up hS_10
  refine z_val (v := .tuple #[.slice A_12 x14.1.length c_13, .slice A_16 x14.2.length c_17]) (val_move rfl rfl) rfl rfl rfl (fun _ _ _ => trivial) ?_
  refine z_val (v := .slice A_12 x14.1.length c_13) (val_extract rfl rfl rfl) rfl rfl rfl (fun _ _ _ => trivial) ?_
  refine z_val (v := .slice A_16 x14.2.length c_17) (val_extract rfl rfl rfl) rfl rfl rfl (fun _ _ _ => trivial) ?_
  refine z_val (v := .slice A_12 x14.1.length c_13) (val_assign rfl rfl) rfl rfl rfl (fun _ _ _ => trivial) ?_
  refine z_val (v := .slice A_16 x14.2.length c_17) (val_assign rfl rfl) rfl rfl rfl (fun _ _ _ => trivial) ?_
  refine z_nil ?_
  refine t_seq ?_
  refine t_region (fun ops hops => ?_)
  clear hops
  refine z_val (v := .slice A_16 x14.2.length c_17) (val_move rfl rfl) rfl rfl rfl (fun _ _ _ => trivial) ?_
  refine z_val (v := .slice A_16 x14.2.length c_17) (val_assign rfl rfl) rfl rfl rfl (fun _ _ _ => trivial) ?_
  refine z_nil ?_
  refine t_ret ?_
  obtain rfl := Option.some.inj H
  exact ret1 rfl (res_tmp rfl) (fun _ hw => ⟨A_16, c_17, rfl, hw.below, (row_out hw (j := 1) rfl hs_18)⟩)
def smithyref09_Pow.b2 (x16 : List (Int)) (x9_58 : List (Int)) (x11_62 : List (Int)) (x13 : BitVec 8) (x14 : Int) : Option (Ctl ((List (Int)) × (List (Int)) × (BitVec 8) × (Int)) (List (BitVec 8))) :=
  Let (decide (x14 < 8)) fun x47 => (bif x47 then Let (x13 % 2#8) fun x51 => Let ((x51.toNat : Int) == 1) fun x52 => (bif x52 then (smithyref09_Mul x11_62 x9_58 x16).bind fun x56 => some x56 else some x11_62).bind (fun (x11_66 : List (Int)) => Let (x13 / 2#8) fun x58 => (smithyref09_Mul x9_58 x9_58 x16).bind fun x62 => Let (wi (x14 + 1)) fun x49 => some (.next (x62, x11_66, x58, x49))) else some (.brk (x9_58, x11_62, x13, x14)))
def smithyref09_Pow.b1 (a1 : List (BitVec 8)) (x16 : List (Int)) (x9 : List (Int)) (x11 : List (Int)) (x12 : Int) : Option (Ctl ((List (Int)) × (List (Int)) × (Int)) (List (BitVec 8))) :=
  Let (decide (0 ≤ x12)) fun x39 => (bif x39 then Chk ((0 : Int) ≤ x12 ∧ x12 < (a1.length : Int)) <| Let (lget a1 x12.toNat) fun x45 => (wlx (σ := (List (Int)) × (List (Int)) × (BitVec 8) × (Int)) (fun s => smithyref09_Pow.b2 x16 s.1 s.2.1 s.2.2.1 s.2.2.2) (x9, x11, x45, 0)).bind (Sum.elim (fun s => (fun x9_58 x11_62 x13 x14 => Let (wi (x12 - 1)) fun x41 => some (.next (x9_58, x11_62, x41))) s.1 s.2.1 s.2.2.1 s.2.2.2) (fun r => some (.ret r))) else some (.brk (x9, x11, x12)))
def smithyref09_Pow (a0 : List (BitVec 8)) (a1 : List (BitVec 8)) (a2 : List (BitVec 8)) : Option (List (BitVec 8)) :=
  (smithyref09_Of a2).bind fun x16 => (smithyref02_Zero x16).bind fun x18 => (bif x18 then Let ((a2.length : Int)) fun x20 => Chk ((0 : Int) ≤ x20 ∧ x20.toNat * 1 ≤ 140737488355328) <| Let (List.replicate x20.toNat 0#8) fun x21 => some x21 else (smithyref09_Of a0).bind fun x24 => (smithyref02_Div x24 x16).bind fun x26 => Let ([1]) fun x30 => (smithyref02_Div x30 x16).bind fun x32 => Let ((a1.length : Int)) fun x36 => Let (wi (x36 - 1)) fun x37 => (wlx (σ := (List (Int)) × (List (Int)) × (Int)) (fun s => smithyref09_Pow.b1 a1 x16 s.1 s.2.1 s.2.2) (x26.2, x32.2, x37)).bind (Sum.elim (fun s => (fun x9 x11 x12 => Let ((a2.length : Int)) fun x65 => (smithyref09_Bytes x11 x65).bind fun x66 => some x66) s.1 s.2.1 s.2.2) (fun r => some r)))
set_option maxRecDepth 100000 in
theorem smithyref09_Pow.calls  (a0 : List (BitVec 8)) (a1 : List (BitVec 8)) (a2 : List (BitVec 8)) (A0 : Option Addr) (c0 : Nat) (A1 : Option Addr) (c1 : Nat) (A2 : Option Addr) (c2 : Nat) (r : List (BitVec 8)) (H : smithyref09_Pow a0 a1 a2 = some r) (w : World) (hs0 : SlW w U8 A0 a0) (hc0 : a0.length ≤ c0) (hs1 : SlW w U8 A1 a1) (hc1 : a1.length ≤ c1) (hs2 : SlW w U8 A2 a2) (hc2 : a2.length ≤ c2)  :
    Calls Try.prog 11 #[.slice A0 a0.length c0, .slice A1 a1.length c1, .slice A2 a2.length c2] w fun e w' => ∃ A c, e = .returned (.slice A r.length c) ∧ Below w.heap.size w w' ∧ OwnR w w' 5 U8 A c r := by
  unfold smithyref09_Pow at H
  replace hs0 := hs0.toH
  replace hs1 := hs1.toH
  replace hs2 := hs2.toH
  have hM := Mm.start w (snap w) (snap_ok w)
  generalize snap w = h at *
  refine t_enter (vs := [.slice A0 a0.length c0, .slice A1 a1.length c1, .slice A2 a2.length c2]) (n := 67) Try.func11 rfl rfl rfl hM ?_
  clear hM
  change T 67 _ _ _
  refine t_seq ?_
  refine t_region (fun ops hops => ?_)
  clear hops
  refine z_val (v := .slice none 0 0) (val_assign rfl rfl) rfl rfl rfl (fun _ _ _ => trivial) ?_
  refine z_nil ?_
  refine t_seq ?_
  refine t_region (fun ops hops => ?_)
  clear hops
  refine z_val (v := .slice A2 a2.length c2) (val_move rfl rfl) rfl rfl rfl (fun _ _ _ => trivial) ?_
  obtain ⟨x16, hx, H⟩ := Option.bind_eq_some_iff.1 H
  refine z_madeS (F := fun A_1 c_2 => .slice A_1 x16.length c_2) (xs := x16) rfl Try.func12 nm12 bs12 rfl (fun w hw => smithyref09_Of.calls a2 A2 c2 x16 hx w (hs2.toW hw) hc2) rfl rfl rfl (fun _ _ _ _ _ => trivial) (fun A_1 c_2 hs_3 => ?_)
  clear hx
  refine z_val (v := .slice A_1 x16.length c_2) (val_assign rfl rfl) rfl rfl rfl (fun _ _ _ => trivial) ?_
  refine z_nil ?_
  refine t_seq ?_
  refine t_seq ?_
  refine t_region (fun ops hops => ?_)
  clear hops
  refine z_val (v := .slice A_1 x16.length c_2) (val_move rfl rfl) rfl rfl rfl (fun _ _ _ => trivial) ?_
  obtain ⟨x18, hx_5, H⟩ := Option.bind_eq_some_iff.1 H
  refine z_made (v := .bool x18) rfl Try.func13 nm13 bs13 rfl (fun w hw => smithyref02_Zero.calls x16 A_1 c_2 x18 hx_5 w (row_w hw (j := 0) rfl) hs_3.le) rfl rfl rfl (fun _ _ _ => trivial) ?_
  clear hx_5
  refine z_nil ?_
  cases x18
  ·
    replace H := cond_f H
    refine t_cond_false rfl ?_
    refine t_skip ?_
    refine t_seq ?_
    refine t_seal (fun h_6 hS hs_7 => ?_)
    have hc_8 := hs_3.le
    replace hs0 := hs0.up hS
    replace hs1 := hs1.up hS
    replace hs2 := hs2.up hS
    refine t_region (fun ops hops => ?_)
    clear hops
    refine z_val (v := .slice A0 a0.length c0) (val_move rfl rfl) rfl rfl rfl (fun _ _ _ => trivial) ?_
    obtain ⟨x24, hx_9, H⟩ := Option.bind_eq_some_iff.1 H
    refine z_madeS (F := fun A_10 c_11 => .slice A_10 x24.length c_11) (xs := x24) rfl Try.func12 nm12 bs12 rfl (fun w hw => smithyref09_Of.calls a0 A0 c0 x24 hx_9 w (hs0.toW hw) hc0) rfl rfl rfl (fun _ _ _ _ _ => trivial) (fun A_10 c_11 hs_12 => ?_)
    clear hx_9
    refine z_val (v := .slice A_1 x16.length c_2) (val_move rfl rfl) rfl rfl rfl (fun _ _ _ => trivial) ?_
    refine t_seal (fun h_14 hS_15 hs_16 => ?_)
    have hc_17 := hs_12.le
    replace hs0 := hs0.up hS_15
    replace hs1 := hs1.up hS_15
    replace hs2 := hs2.up hS_15
    replace hs_7 := hs_7.up hS_15
    obtain ⟨x26, hx_18, H⟩ := Option.bind_eq_some_iff.1 H
    refine z_callG rfl Try.func26 nm26 bs26 rfl (fun w hw => smithyref02_Div.calls x24 x16 A_10 c_11 A_1 c_2 x26 hx_18 hs_16 hc_17 hs_7 hc_8 hw) rfl rfl rfl (fun _ _ _ _ _ => trivial) (fun g hφ => ?_)
    obtain ⟨h_19, A_22, c_23, A_26, c_27⟩ := g
    try dsimp only at hφ
    obtain ⟨hS_20, hs_24, hs_28⟩ := hφ
    clear hx_18
    change T 67 _ _ _
    replace hs0 := hs0.up hS_20
    replace hs1 := hs1.up hS_20
    replace hs2 := hs2.up hS_20
    replace hs_7 := hs_7.up hS_20
    replace hs_16 := hs_16.up hS_20
    refine z_val (v := .tuple #[.slice A_22 x26.1.length c_23, .slice A_26 x26.2.length c_27]) (val_move rfl rfl) rfl rfl rfl (fun _ _ _ => trivial) ?_
    refine z_val (v := .slice A_22 x26.1.length c_23) (val_extract rfl rfl rfl) rfl rfl rfl (fun _ _ _ => trivial) ?_
    refine z_val (v := .slice A_26 x26.2.length c_27) (val_extract rfl rfl rfl) rfl rfl rfl (fun _ _ _ => trivial) ?_
    refine z_val (v := .slice A_22 x26.1.length c_23) (val_assign rfl rfl) rfl rfl rfl (fun _ _ _ => trivial) ?_
    refine z_val (v := .slice A_26 x26.2.length c_27) (val_assign rfl rfl) rfl rfl rfl (fun _ _ _ => trivial) ?_
    refine z_nil ?_
    refine t_seq ?_
    refine t_region (fun ops hops => ?_)
    clear hops
    obtain ⟨x30, hx30, H⟩ := Let_elim H
    have hlx30 : x30.length = 1 := by subst hx30; rfl
    refine z_buildSlice' (e := 3) (f := (Value.int .i64)) (xs := x30) (vs := [(0, .int .i64 1)]) rfl rfl (by subst hx30; intro w; kernel_rfl) hlx30 (by decide) rfl rfl rfl (fun _ _ _ _ => trivial) (fun g_29 hs_31 => ?_)
    clear hx30 hlx30
    refine z_val (v := .slice A_1 x16.length c_2) (val_move rfl rfl) rfl rfl rfl (fun _ _ _ => trivial) ?_
    refine t_seal (fun h_32 hS_33 hs_34 => ?_)
    have hc_35 := hs_31.le
    replace hs0 := hs0.up hS_33
    replace hs1 := hs1.up hS_33
    replace hs2 := hs2.up hS_33
    replace hs_7 := hs_7.up hS_33
    replace hs_16 := hs_16.up hS_33
    obtain ⟨x32, hx_36, H⟩ := Option.bind_eq_some_iff.1 H
    refine z_callG rfl Try.func26 nm26 bs26 rfl (fun w hw => smithyref02_Div.calls x30 x16 ((some ⟨g_29, 0, none⟩)) 1 A_1 c_2 x32 hx_36 hs_34 hc_35 hs_7 hc_8 hw) rfl rfl rfl (fun _ _ _ _ _ => trivial) (fun g hφ => ?_)
    obtain ⟨h_37, A_40, c_41, A_44, c_45⟩ := g
    try dsimp only at hφ
    obtain ⟨hS_38, hs_42, hs_46⟩ := hφ
    clear hx_36
    change T 67 _ _ _
    replace hs0 := hs0.up hS_38
    replace hs1 := hs1.up hS_38
    replace hs2 := hs2.up hS_38
    replace hs_7 := hs_7.up hS_38
    replace hs_16 := hs_16.up hS_38
    replace hs_34 := hs_34.up hS_38
    refine z_val (v := .tuple #[.slice A_40 x32.1.length c_41, .slice A_44 x32.2.length c_45]) (val_move rfl rfl) rfl rfl rfl (fun _ _ _ => trivial) ?_
    refine z_val (v := .slice A_40 x32.1.length c_41) (val_extract rfl rfl rfl) rfl rfl rfl (fun _ _ _ => trivial) ?_
    refine z_val (v := .slice A_44 x32.2.length c_45) (val_extract rfl rfl rfl) rfl rfl rfl (fun _ _ _ => trivial) ?_
    refine z_val (v := .slice A_40 x32.1.length c_41) (val_assign rfl rfl) rfl rfl rfl (fun _ _ _ => trivial) ?_
    refine z_val (v := .slice A_44 x32.2.length c_45) (val_assign rfl rfl) rfl rfl rfl (fun _ _ _ => trivial) ?_
    refine z_nil ?_
    refine t_seq ?_
    refine t_seq ?_
    refine t_region (fun ops hops => ?_)
    clear hops
    refine z_val (v := .slice A1 a1.length c1) (val_move rfl rfl) rfl rfl rfl (fun _ _ _ => trivial) ?_
    obtain ⟨x36, hx36, H⟩ := Let_elim H
    refine z_val (v := .int .i64 x36) (by subst hx36; exact val_len rfl rfl rfl Try.underlying22) rfl rfl rfl (fun _ _ _ => trivial) ?_
    clear hx36
    obtain ⟨x37, hx37, H⟩ := Let_elim H
    refine z_val (v := .int .i64 x37) (by subst hx37; exact val_bin rfl rfl rfl rfl (i64_sub _ _ _)) rfl rfl rfl (fun _ _ _ => trivial) ?_
    clear hx37
    refine z_val (v := .int .i64 x37) (val_assign rfl rfl) rfl rfl rfl (fun _ _ _ => trivial) ?_
    refine z_nil ?_
    refine t_block ?_
    obtain ⟨z1, hz1, HK1⟩ := Option.bind_eq_some_iff.1 H
    clear H
    refine t_while hz1 (fun (s : (List (Int)) × (List (Int)) × (Int)) (g : (Option Addr) × (Nat) × (Option Addr) × (Nat)) => [(1, .slice A1 a1.length c1), (2, .slice A2 a2.length c2), (7, .slice A_1 x16.length c_2), (9, .slice g.1 s.1.length g.2.1), (11, .slice g.2.2.1 s.2.1.length g.2.2.2), (12, .int .i64 s.2.2)]) (fun (s : (List (Int)) × (List (Int)) × (Int)) (g : (Option Addr) × (Nat) × (Option Addr) × (Nat)) => [(2, .slice A2 a2.length c2), (11, .slice g.2.2.1 s.2.1.length g.2.2.2)]) (fun (s : (List (Int)) × (List (Int)) × (Int)) (g : (Option Addr) × (Nat) × (Option Addr) × (Nat)) => Mm w [] h_37 [.row (.slice g.2.2.1 s.2.1.length g.2.2.2) 3 1 (s.2.1.map (Value.int .i64)), .row (.slice g.1 s.1.length g.2.1) 3 1 (s.1.map (Value.int .i64))]) (fun (s : (List (Int)) × (List (Int)) × (Int)) (g : (Option Addr) × (Nat) × (Option Addr) × (Nat)) => Mm w [] h_37 [.row (.slice g.2.2.1 s.2.1.length g.2.2.2) 3 1 (s.2.1.map (Value.int .i64))]) (fun (s : (List (Int)) × (List (Int)) × (Int)) (g : (Option Addr) × (Nat) × (Option Addr) × (Nat)) => Shp g.1 s.1.length g.2.1 ∧ Shp g.2.2.1 s.2.1.length g.2.2.2) (fun (s : (List (Int)) × (List (Int)) × (Int)) (g : (Option Addr) × (Nat) × (Option Addr) × (Nat)) => Shp g.1 s.1.length g.2.1 ∧ Shp g.2.2.1 s.2.1.length g.2.2.2) ⟨A_26, c_27, A_44, c_45⟩ ⟨hs_28, hs_46⟩ (fun a w ha hw => ⟨ha.cons rfl (ha.cons rfl (ha.cons rfl (ha.cons rfl (ha.cons rfl (ha.cons rfl (ha.nil)))))), hw.sel [1, 3] rfl rfl⟩) (fun Gn Gb s g e hφ H hn1 hb1 hr1 => ?_) (fun s g hzz hφ => ?_)
    ·
      obtain ⟨x9, x11, x12⟩ := s
      obtain ⟨A_47, c_48, A_50, c_51⟩ := g
      try dsimp only at hφ
      obtain ⟨hs_49, hs_52⟩ := hφ
      change smithyref09_Pow.b1 a1 x16 x9 x11 x12 = some e at H
      unfold smithyref09_Pow.b1 at H
      clear hz1
      change T 67 _ _ _
      refine t_seq ?_
      refine t_seq ?_
      refine t_region (fun ops hops => ?_)
      clear hops
      refine z_val (v := .int .i64 x12) (val_move rfl rfl) rfl rfl rfl (fun _ _ _ => trivial) ?_
      obtain ⟨x39, hx39, H⟩ := Let_elim H
      refine z_val (v := .bool x39) (by subst hx39; exact val_bin rfl rfl rfl rfl (i64_geq _ _ _)) rfl rfl rfl (fun _ _ _ => trivial) ?_
      clear hx39
      refine z_nil ?_
      cases x39
      ·
        replace H := cond_f H
        refine t_cond_false rfl ?_
        refine t_exit rfl ?_
        obtain rfl := Option.some.inj H
        exact t_reach ((hb1 _ ⟨A_47, c_48, A_50, c_51⟩ rfl ⟨hs_49, hs_52⟩).weak (fun a ha => ha.cons rfl (ha.cons rfl (ha.nil))) (fun w hw => hw.sel [0] rfl rfl))
      ·
        replace H := cond_t H
        refine t_cond_true rfl ?_
        refine t_skip ?_
        refine t_seq ?_
        refine t_block ?_
        refine t_seq ?_
        refine t_region (fun ops hops => ?_)
        clear hops
        refine z_val (v := .slice A1 a1.length c1) (val_move rfl rfl) rfl rfl rfl (fun _ _ _ => trivial) ?_
        refine z_val (v := .int .i64 x12) (val_move rfl rfl) rfl rfl rfl (fun _ _ _ => trivial) ?_
        obtain ⟨hq_53, H⟩ := Chk_elim H
        obtain ⟨b_54, o_55, hA_56, hc_57⟩ := hs1.at_ (idx_lt hq_53)
        refine z_val (v := .pointer (some ⟨b_54, o_55 + x12.toNat, none⟩)) (val_idxS0 rfl rfl rfl Try.underlying22 sz5 hq_53 hA_56 rfl) rfl rfl rfl (fun _ _ _ => trivial) ?_
        obtain ⟨x45, hx45, H⟩ := Let_elim H
        refine z_val (v := U8 x45) (by subst hx45; exact val_load1 rfl rfl Try.underlying5 rfl (fun _ hw => hc_57.cell hw)) rfl rfl rfl (fun _ _ _ => trivial) ?_
        clear hx45
        refine z_val (v := U8 x45) (val_assign rfl rfl) rfl rfl rfl (fun _ _ _ => trivial) ?_
        refine z_nil ?_
        refine t_seq ?_
        refine t_region (fun ops hops => ?_)
        clear hops
        refine z_val (v := .int .i64 0) (val_assign rfl rfl) rfl rfl rfl (fun _ _ _ => trivial) ?_
        refine z_nil ?_
        refine t_block ?_
        obtain ⟨z2, hz2, HK2⟩ := Option.bind_eq_some_iff.1 H
        clear H
        refine t_while hz2 (fun (s : (List (Int)) × (List (Int)) × (BitVec 8) × (Int)) (g : (Option Addr) × (Nat) × (Option Addr) × (Nat)) => [(1, .slice A1 a1.length c1), (2, .slice A2 a2.length c2), (7, .slice A_1 x16.length c_2), (9, .slice g.1 s.1.length g.2.1), (11, .slice g.2.2.1 s.2.1.length g.2.2.2), (12, .int .i64 x12), (13, U8 s.2.2.1), (14, .int .i64 s.2.2.2)]) (fun (s : (List (Int)) × (List (Int)) × (BitVec 8) × (Int)) (g : (Option Addr) × (Nat) × (Option Addr) × (Nat)) => [(1, .slice A1 a1.length c1), (2, .slice A2 a2.length c2), (7, .slice A_1 x16.length c_2), (9, .slice g.1 s.1.length g.2.1), (11, .slice g.2.2.1 s.2.1.length g.2.2.2), (12, .int .i64 x12)]) (fun (s : (List (Int)) × (List (Int)) × (BitVec 8) × (Int)) (g : (Option Addr) × (Nat) × (Option Addr) × (Nat)) => Mm w [] h_37 [.row (.slice g.2.2.1 s.2.1.length g.2.2.2) 3 1 (s.2.1.map (Value.int .i64)), .row (.slice g.1 s.1.length g.2.1) 3 1 (s.1.map (Value.int .i64))]) (fun (s : (List (Int)) × (List (Int)) × (BitVec 8) × (Int)) (g : (Option Addr) × (Nat) × (Option Addr) × (Nat)) => Mm w [] h_37 [.row (.slice g.2.2.1 s.2.1.length g.2.2.2) 3 1 (s.2.1.map (Value.int .i64)), .row (.slice g.1 s.1.length g.2.1) 3 1 (s.1.map (Value.int .i64))]) (fun (s : (List (Int)) × (List (Int)) × (BitVec 8) × (Int)) (g : (Option Addr) × (Nat) × (Option Addr) × (Nat)) => Shp g.1 s.1.length g.2.1 ∧ Shp g.2.2.1 s.2.1.length g.2.2.2) (fun (s : (List (Int)) × (List (Int)) × (BitVec 8) × (Int)) (g : (Option Addr) × (Nat) × (Option Addr) × (Nat)) => Shp g.1 s.1.length g.2.1 ∧ Shp g.2.2.1 s.2.1.length g.2.2.2) ⟨A_47, c_48, A_50, c_51⟩ ⟨hs_49, hs_52⟩ (fun a w ha hw => ⟨ha.cons rfl (ha.cons rfl (ha.cons rfl (ha.cons rfl (ha.cons rfl (ha.cons rfl (ha.cons rfl (ha.cons rfl (ha.nil)))))))), hw⟩) (fun Gn Gb s g e hφ H hn2 hb2 hr2 => ?_) (fun s g hzz hφ => ?_)
        ·
          obtain ⟨x9_58, x11_62, x13, x14⟩ := s
          obtain ⟨A_59, c_60, A_63, c_64⟩ := g
          try dsimp only at hφ
          obtain ⟨hs_61, hs_65⟩ := hφ
          change smithyref09_Pow.b2 x16 x9_58 x11_62 x13 x14 = some e at H
          unfold smithyref09_Pow.b2 at H
          clear hz2
          change T 67 _ _ _
          refine t_seq ?_
          refine t_seq ?_
          refine t_region (fun ops hops => ?_)
          clear hops
          refine z_val (v := .int .i64 x14) (val_move rfl rfl) rfl rfl rfl (fun _ _ _ => trivial) ?_
          obtain ⟨x47, hx47, H⟩ := Let_elim H
          refine z_val (v := .bool x47) (by subst hx47; exact val_bin rfl rfl rfl rfl (i64_lss _ _ _)) rfl rfl rfl (fun _ _ _ => trivial) ?_
          clear hx47
          refine z_nil ?_
          cases x47
          ·
            replace H := cond_f H
            refine t_cond_false rfl ?_
            refine t_exit rfl ?_
            obtain rfl := Option.some.inj H
            exact t_reach ((hb2 _ ⟨A_59, c_60, A_63, c_64⟩ rfl ⟨hs_61, hs_65⟩).weak (fun a ha => ha.cons rfl (ha.cons rfl (ha.cons rfl (ha.cons rfl (ha.cons rfl (ha.cons rfl (ha.nil))))))) (fun w hw => hw))
          ·
            replace H := cond_t H
            refine t_cond_true rfl ?_
            refine t_skip ?_
            refine t_seq ?_
            refine t_block ?_
            refine t_seq ?_
            refine t_seq ?_
            refine t_region (fun ops hops => ?_)
            clear hops
            refine z_val (v := U8 x13) (val_move rfl rfl) rfl rfl rfl (fun _ _ _ => trivial) ?_
            obtain ⟨x51, hx51, H⟩ := Let_elim H
            refine z_val (v := U8 x51) (by subst hx51; exact val_bin rfl rfl rfl rfl (u8_rem_r _ _ _ (by decide) (by decide))) rfl rfl rfl (fun _ _ _ => trivial) ?_
            clear hx51
            obtain ⟨x52, hx52, H⟩ := Let_elim H
            refine z_val (v := .bool x52) (by subst hx52; exact val_bin rfl rfl rfl rfl (u8_eql_r _ 1 x51)) rfl rfl rfl (fun _ _ _ => trivial) ?_
            clear hx52
            refine z_nil ?_
            refine t_bind H (fun (s : (List (Int))) (g : (Option Addr) × (Nat)) => [(1, .slice A1 a1.length c1), (2, .slice A2 a2.length c2), (7, .slice A_1 x16.length c_2), (9, .slice A_59 x9_58.length c_60), (11, .slice g.1 s.length g.2), (12, .int .i64 x12), (13, U8 x13), (14, .int .i64 x14)]) (fun (s : (List (Int))) (g : (Option Addr) × (Nat)) => Mm w [] h_37 [.row (.slice A_59 x9_58.length c_60) 3 1 (x9_58.map (Value.int .i64)), .row (.slice g.1 s.length g.2) 3 1 (s.map (Value.int .i64))]) (fun (s : (List (Int))) (g : (Option Addr) × (Nat)) => Shp g.1 s.length g.2) (fun Gr K s he HJ => ?_) (fun s g HB hφ => ?_)
            ·
              clear H
              cases x52
              ·
                have H := cond_f he
                clear he
                refine t_cond_false rfl ?_
                refine t_skip ?_
                obtain rfl := Option.some.inj H
                exact t_reach ((K _ ⟨A_63, c_64⟩ HJ hs_65).weak (fun a ha => ha.cons rfl (ha.cons rfl (ha.cons rfl (ha.cons rfl (ha.cons rfl (ha.cons rfl (ha.cons rfl (ha.cons rfl (ha.nil))))))))) (fun w hw => hw.sel [1, 0] rfl rfl))
              ·
                have H := cond_t he
                clear he
                refine t_cond_true rfl ?_
                refine t_region (fun ops hops => ?_)
                clear hops
                refine z_val (v := .slice A_63 x11_62.length c_64) (val_move rfl rfl) rfl rfl rfl (fun _ _ _ => trivial) ?_
                refine z_val (v := .slice A_59 x9_58.length c_60) (val_move rfl rfl) rfl rfl rfl (fun _ _ _ => trivial) ?_
                refine z_val (v := .slice A_1 x16.length c_2) (val_move rfl rfl) rfl rfl rfl (fun _ _ _ => trivial) ?_
                obtain ⟨x56, hx_71, H⟩ := Option.bind_eq_some_iff.1 H
                refine z_madeS (F := fun A_72 c_73 => .slice A_72 x56.length c_73) (xs := x56) rfl Try.func15 nm15 bs15 rfl (fun w hw => smithyref09_Mul.calls x11_62 x9_58 x16 A_63 c_64 A_59 c_60 A_1 c_2 x56 hx_71 w (row_w hw (j := 0) rfl) hs_65.le (row_w hw (j := 1) rfl) hs_61.le (hs_7.toW hw) hc_8) rfl rfl rfl (fun _ _ _ _ _ => trivial) (fun A_72 c_73 hs_74 => ?_)
                clear hx_71
                refine z_val (v := .slice A_72 x56.length c_73) (val_assign rfl rfl) rfl rfl rfl (fun _ _ _ => trivial) ?_
                refine z_nil ?_
                obtain rfl := Option.some.inj H
                exact t_reach ((K _ ⟨A_72, c_73⟩ HJ hs_74).weak (fun a ha => ha.cons rfl (ha.cons rfl (ha.cons rfl (ha.cons rfl (ha.cons rfl (ha.cons rfl (ha.cons rfl (ha.cons rfl (ha.nil))))))))) (fun w hw => hw.sel [2, 0] rfl rfl))
            ·
              replace H := HB
              clear HB
              obtain ⟨x11_66, rfl⟩ : ∃ x, x = s := ⟨_, rfl⟩
              obtain ⟨A_67, c_68⟩ := g
              try dsimp only at hφ
              have hs_69 := hφ; clear hφ
              try dsimp only at H
              change T 67 _ _ _
              refine t_seq ?_
              refine t_region (fun ops hops => ?_)
              clear hops
              refine z_val (v := U8 x13) (val_move rfl rfl) rfl rfl rfl (fun _ _ _ => trivial) ?_
              obtain ⟨x58, hx58, H⟩ := Let_elim H
              refine z_val (v := U8 x58) (by subst hx58; exact val_bin rfl rfl rfl rfl (u8_quo_r _ _ _ (by decide) (by decide))) rfl rfl rfl (fun _ _ _ => trivial) ?_
              clear hx58
              refine z_val (v := U8 x58) (val_assign rfl rfl) rfl rfl rfl (fun _ _ _ => trivial) ?_
              refine z_nil ?_
              refine t_region (fun ops hops => ?_)
              clear hops
              refine z_val (v := .slice A_59 x9_58.length c_60) (val_move rfl rfl) rfl rfl rfl (fun _ _ _ => trivial) ?_
              refine z_val (v := .slice A_59 x9_58.length c_60) (val_move rfl rfl) rfl rfl rfl (fun _ _ _ => trivial) ?_
              refine z_val (v := .slice A_1 x16.length c_2) (val_move rfl rfl) rfl rfl rfl (fun _ _ _ => trivial) ?_
              obtain ⟨x62, hx_76, H⟩ := Option.bind_eq_some_iff.1 H
              refine z_madeS (F := fun A_77 c_78 => .slice A_77 x62.length c_78) (xs := x62) rfl Try.func15 nm15 bs15 rfl (fun w hw => smithyref09_Mul.calls x9_58 x9_58 x16 A_59 c_60 A_59 c_60 A_1 c_2 x62 hx_76 w (row_w hw (j := 0) rfl) hs_61.le (row_w hw (j := 0) rfl) hs_61.le (hs_7.toW hw) hc_8) rfl rfl rfl (fun _ _ _ _ _ => trivial) (fun A_77 c_78 hs_79 => ?_)
              clear hx_76
              refine z_val (v := .slice A_77 x62.length c_78) (val_assign rfl rfl) rfl rfl rfl (fun _ _ _ => trivial) ?_
              refine z_nil ?_
              refine t_fin ?_
              refine t_region (fun ops hops => ?_)
              clear hops
              refine z_val (v := .int .i64 x14) (val_move rfl rfl) rfl rfl rfl (fun _ _ _ => trivial) ?_
              obtain ⟨x49, hx49, H⟩ := Let_elim H
              refine z_val (v := .int .i64 x49) (by subst hx49; exact val_bin rfl rfl rfl rfl (i64_add _ _ _)) rfl rfl rfl (fun _ _ _ => trivial) ?_
              clear hx49
              refine z_val (v := .int .i64 x49) (val_assign rfl rfl) rfl rfl rfl (fun _ _ _ => trivial) ?_
              refine z_nil ?_
              obtain rfl := Option.some.inj H
              exact t_reach ((hn2 _ ⟨A_77, c_78, A_67, c_68⟩ rfl ⟨hs_79, hs_69⟩).weak (fun a ha => ha.cons rfl (ha.cons rfl (ha.cons rfl (ha.cons rfl (ha.cons rfl (ha.cons rfl (ha.cons rfl (ha.cons rfl (ha.nil))))))))) (fun w hw => hw.sel [2, 0] rfl rfl))
        ·
          obtain ⟨x9_58, x11_62, x13, x14⟩ := s
          obtain ⟨A_59, c_60, A_63, c_64⟩ := g
          try dsimp only at hφ
          obtain ⟨hs_61, hs_65⟩ := hφ
          subst hzz
          have H := HK2
          clear HK2 hz2
          replace H := sum_l H
          try dsimp only at H
          change T 67 _ _ _
          refine t_fin ?_
          refine t_region (fun ops hops => ?_)
          clear hops
          refine z_val (v := .int .i64 x12) (val_move rfl rfl) rfl rfl rfl (fun _ _ _ => trivial) ?_
          obtain ⟨x41, hx41, H⟩ := Let_elim H
          refine z_val (v := .int .i64 x41) (by subst hx41; exact val_bin rfl rfl rfl rfl (i64_sub _ _ _)) rfl rfl rfl (fun _ _ _ => trivial) ?_
          clear hx41
          refine z_val (v := .int .i64 x41) (val_assign rfl rfl) rfl rfl rfl (fun _ _ _ => trivial) ?_
          refine z_nil ?_
          obtain rfl := Option.some.inj H
          exact t_reach ((hn1 _ ⟨A_59, c_60, A_63, c_64⟩ rfl ⟨hs_61, hs_65⟩).weak (fun a ha => ha.cons rfl (ha.cons rfl (ha.cons rfl (ha.cons rfl (ha.cons rfl (ha.cons rfl (ha.nil))))))) (fun w hw => hw))
    ·
      obtain ⟨x9, x11, x12⟩ := s
      obtain ⟨A_47, c_48, A_50, c_51⟩ := g
      try dsimp only at hφ
      obtain ⟨hs_49, hs_52⟩ := hφ
      subst hzz
      have H := HK1
      clear HK1 hz1
      replace H := sum_l H
      try dsimp only at H
      change T 67 _ _ _
      refine t_seq ?_
      refine t_region (fun ops hops => ?_)
      clear hops
      refine z_val (v := .slice A_50 x11.length c_51) (val_move rfl rfl) rfl rfl rfl (fun _ _ _ => trivial) ?_
      refine z_val (v := .slice A2 a2.length c2) (val_move rfl rfl) rfl rfl rfl (fun _ _ _ => trivial) ?_
      obtain ⟨x65, hx65, H⟩ := Let_elim H
      refine z_val (v := .int .i64 x65) (by subst hx65; exact val_len rfl rfl rfl Try.underlying22) rfl rfl rfl (fun _ _ _ => trivial) ?_
      clear hx65
      obtain ⟨x66, hx_81, H⟩ := Option.bind_eq_some_iff.1 H
      refine z_madeS (F := fun A_82 c_83 => .slice A_82 x66.length c_83) (xs := x66) rfl Try.func14 nm14 bs14 rfl (fun w hw => smithyref09_Bytes.calls x11 x65 A_50 c_51 x66 hx_81 w (row_w hw (j := 0) rfl) hs_52.le) rfl rfl rfl (fun _ _ _ _ _ => trivial) (fun A_82 c_83 hs_84 => ?_)
      clear hx_81
      refine z_val (v := .slice A_82 x66.length c_83) (val_assign rfl rfl) rfl rfl rfl (fun _ _ _ => trivial) ?_
      refine z_nil ?_
      refine t_ret ?_
      obtain rfl := Option.some.inj H
      exact ret1 rfl (res_tmp rfl) (fun _ hw => ⟨A_82, c_83, rfl, hw.below, (row_out hw (j := 0) rfl hs_84)⟩)
  ·
    replace H := cond_t H
    refine t_cond_true rfl ?_
    refine t_seq ?_
    refine t_region (fun ops hops => ?_)
    clear hops
    refine z_val (v := .slice A2 a2.length c2) (val_move rfl rfl) rfl rfl rfl (fun _ _ _ => trivial) ?_
    obtain ⟨x20, hx20, H⟩ := Let_elim H
    refine z_val (v := .int .i64 x20) (by subst hx20; exact val_len rfl rfl rfl Try.underlying22) rfl rfl rfl (fun _ _ _ => trivial) ?_
    clear hx20
    obtain ⟨hq_86, H⟩ := Chk_elim H
    obtain ⟨x21, hx21, H⟩ := Let_elim H
    refine z_makeSlice (f := U8) (z0 := 0#8) (N := x20.toNat) rfl rfl rfl Try.underlying22 (in5.trans rfl) rfl hq_86.1 rfl hq_86.2 (by decide) hx21 rfl rfl rfl (fun _ _ _ _ => trivial) (fun g_87 hs_89 => ?_)
    clear hx21
    refine z_val (v := .slice (some ⟨g_87, 0, none⟩) x21.length (x20.toNat)) (val_assign rfl rfl) rfl rfl rfl (fun _ _ _ => trivial) ?_
    refine z_nil ?_
    refine t_ret ?_
    obtain rfl := Option.some.inj H
    exact ret1 rfl (res_tmp rfl) (fun _ hw => ⟨(some ⟨g_87, 0, none⟩), (x20.toNat), rfl, hw.below, (row_out hw (j := 0) rfl hs_89)⟩)
def smithyref09_Part.b1 (a2 : Int) (a1 : Int) (a0 : List (BitVec 8)) (x7 : List (BitVec 8)) (x8 : Int) : Option (Ctl ((List (BitVec 8)) × (Int)) (List (BitVec 8))) :=
  Let (decide (x8 < a2)) fun x12 => (bif x12 then Let (wi (a1 + x8)) fun x17 => Let ((a0.length : Int)) fun x19 => Let (decide (x17 < x19)) fun x20 => (bif x20 then Let (wi (a1 + x8)) fun x25 => Chk ((0 : Int) ≤ x25 ∧ x25 < (a0.length : Int)) <| Let (lget a0 x25.toNat) fun x27 => Let ([x27]) fun x28 => Chk ((x7.length + x28.length) * 1 ≤ 140737488355328) <| Let (x7 ++ x28) fun x29 => some x29 else Let ([0#8]) fun x31 => Chk ((x7.length + x31.length) * 1 ≤ 140737488355328) <| Let (x7 ++ x31) fun x32 => some x32).bind (fun (x7_7 : List (BitVec 8)) => Let (wi (x8 + 1)) fun x14 => some (.next (x7_7, x14))) else some (.brk (x7, x8)))
def smithyref09_Part (a0 : List (BitVec 8)) (a1 : Int) (a2 : Int) : Option (List (BitVec 8)) :=
  Let (([] : List (BitVec 8))) fun x9 => (wlx (σ := (List (BitVec 8)) × (Int)) (fun s => smithyref09_Part.b1 a2 a1 a0 s.1 s.2) (x9, 0)).bind (Sum.elim (fun s => (fun x7 x8 => some x7) s.1 s.2) (fun r => some r))
set_option maxRecDepth 100000 in
theorem smithyref09_Part.calls  (a0 : List (BitVec 8)) (a1 : Int) (a2 : Int) (A0 : Option Addr) (c0 : Nat) (r : List (BitVec 8)) (H : smithyref09_Part a0 a1 a2 = some r) (w : World) (hs0 : SlW w U8 A0 a0) (hc0 : a0.length ≤ c0)  :
    Calls Try.prog 21 #[.slice A0 a0.length c0, .int .i64 a1, .int .i64 a2] w fun e w' => ∃ A c, e = .returned (.slice A r.length c) ∧ Below w.heap.size w w' ∧ OwnR w w' 5 U8 A c r := by
  unfold smithyref09_Part at H
  replace hs0 := hs0.toH
  have hM := Mm.start w (snap w) (snap_ok w)
  generalize snap w = h at *
  refine t_enter (vs := [.slice A0 a0.length c0, .int .i64 a1, .int .i64 a2]) (n := 34) Try.func21 rfl rfl rfl hM ?_
  clear hM
  change T 34 _ _ _
  refine t_seq ?_
  refine t_region (fun ops hops => ?_)
  clear hops
  refine z_val (v := .slice none 0 0) (val_assign rfl rfl) rfl rfl rfl (fun _ _ _ => trivial) ?_
  refine z_nil ?_
  refine t_seq ?_
  refine t_region (fun ops hops => ?_)
  clear hops
  obtain ⟨x9, hx9, H⟩ := Let_elim H
  have hlx9 : x9.length = 0 := by subst hx9; rfl
  refine z_buildSlice' (e := 5) (f := U8) (xs := x9) (vs := []) rfl rfl (by subst hx9; intro w; kernel_rfl) hlx9 (by decide) rfl rfl rfl (fun _ _ _ _ => trivial) (fun g_1 hs_3 => ?_)
  clear hx9 hlx9
  refine z_val (v := .slice (some ⟨g_1, 0, none⟩) x9.length 0) (val_assign rfl rfl) rfl rfl rfl (fun _ _ _ => trivial) ?_
  refine z_nil ?_
  refine t_seq ?_
  refine t_seq ?_
  refine t_region (fun ops hops => ?_)
  clear hops
  refine z_val (v := .int .i64 0) (val_assign rfl rfl) rfl rfl rfl (fun _ _ _ => trivial) ?_
  refine z_nil ?_
  refine t_block ?_
  obtain ⟨z1, hz1, HK1⟩ := Option.bind_eq_some_iff.1 H
  clear H
  refine t_while hz1 (fun (s : (List (BitVec 8)) × (Int)) (g : (Option Addr) × (Nat)) => [(0, .slice A0 a0.length c0), (1, .int .i64 a1), (2, .int .i64 a2), (7, .slice g.1 s.1.length g.2), (8, .int .i64 s.2)]) (fun (s : (List (BitVec 8)) × (Int)) (g : (Option Addr) × (Nat)) => [(7, .slice g.1 s.1.length g.2)]) (fun (s : (List (BitVec 8)) × (Int)) (g : (Option Addr) × (Nat)) => Mm w [] h [.row (.slice g.1 s.1.length g.2) 5 1 (s.1.map U8)]) (fun (s : (List (BitVec 8)) × (Int)) (g : (Option Addr) × (Nat)) => Mm w [] h [.row (.slice g.1 s.1.length g.2) 5 1 (s.1.map U8)]) (fun (s : (List (BitVec 8)) × (Int)) (g : (Option Addr) × (Nat)) => Shp g.1 s.1.length g.2) (fun (s : (List (BitVec 8)) × (Int)) (g : (Option Addr) × (Nat)) => Shp g.1 s.1.length g.2) ⟨(some ⟨g_1, 0, none⟩), 0⟩ hs_3 (fun a w ha hw => ⟨ha.cons rfl (ha.cons rfl (ha.cons rfl (ha.cons rfl (ha.cons rfl (ha.nil))))), hw⟩) (fun Gn Gb s g e hφ H hn1 hb1 hr1 => ?_) (fun s g hzz hφ => ?_)
  ·
    obtain ⟨x7, x8⟩ := s
    obtain ⟨A_4, c_5⟩ := g
    try dsimp only at hφ
    have hs_6 := hφ; clear hφ
    change smithyref09_Part.b1 a2 a1 a0 x7 x8 = some e at H
    unfold smithyref09_Part.b1 at H
    clear hz1
    change T 34 _ _ _
    refine t_seq ?_
    refine t_seq ?_
    refine t_region (fun ops hops => ?_)
    clear hops
    refine z_val (v := .int .i64 x8) (val_move rfl rfl) rfl rfl rfl (fun _ _ _ => trivial) ?_
    refine z_val (v := .int .i64 a2) (val_move rfl rfl) rfl rfl rfl (fun _ _ _ => trivial) ?_
    obtain ⟨x12, hx12, H⟩ := Let_elim H
    refine z_val (v := .bool x12) (by subst hx12; exact val_bin rfl rfl rfl rfl (i64_lss _ _ _)) rfl rfl rfl (fun _ _ _ => trivial) ?_
    clear hx12
    refine z_nil ?_
    cases x12
    ·
      replace H := cond_f H
      refine t_cond_false rfl ?_
      refine t_exit rfl ?_
      obtain rfl := Option.some.inj H
      exact t_reach ((hb1 _ ⟨A_4, c_5⟩ rfl hs_6).weak (fun a ha => ha.cons rfl (ha.nil)) (fun w hw => hw))
    ·
      replace H := cond_t H
      refine t_cond_true rfl ?_
      refine t_skip ?_
      refine t_seq ?_
      refine t_block ?_
      refine t_seq ?_
      refine t_region (fun ops hops => ?_)
      clear hops
      refine z_val (v := .int .i64 a1) (val_move rfl rfl) rfl rfl rfl (fun _ _ _ => trivial) ?_
      refine z_val (v := .int .i64 x8) (val_move rfl rfl) rfl rfl rfl (fun _ _ _ => trivial) ?_
      obtain ⟨x17, hx17, H⟩ := Let_elim H
      refine z_val (v := .int .i64 x17) (by subst hx17; exact val_bin rfl rfl rfl rfl (i64_add _ _ _)) rfl rfl rfl (fun _ _ _ => trivial) ?_
      clear hx17
      refine z_val (v := .slice A0 a0.length c0) (val_move rfl rfl) rfl rfl rfl (fun _ _ _ => trivial) ?_
      obtain ⟨x19, hx19, H⟩ := Let_elim H
      refine z_val (v := .int .i64 x19) (by subst hx19; exact val_len rfl rfl rfl Try.underlying22) rfl rfl rfl (fun _ _ _ => trivial) ?_
      clear hx19
      obtain ⟨x20, hx20, H⟩ := Let_elim H
      refine z_val (v := .bool x20) (by subst hx20; exact val_bin rfl rfl rfl rfl (i64_lss _ _ _)) rfl rfl rfl (fun _ _ _ => trivial) ?_
      clear hx20
      refine z_nil ?_
      refine t_bind H (fun (s : (List (BitVec 8))) (g : (Option Addr) × (Nat)) => [(0, .slice A0 a0.length c0), (1, .int .i64 a1), (2, .int .i64 a2), (7, .slice g.1 s.length g.2), (8, .int .i64 x8)]) (fun (s : (List (BitVec 8))) (g : (Option Addr) × (Nat)) => Mm w [] h [.row (.slice g.1 s.length g.2) 5 1 (s.map U8)]) (fun (s : (List (BitVec 8))) (g : (Option Addr) × (Nat)) => Shp g.1 s.length g.2) (fun Gr K s he HJ => ?_) (fun s g HB hφ => ?_)
      ·
        clear H
        cases x20
        ·
          have H := cond_f he
          clear he
          refine t_cond_false rfl ?_
          refine t_region (fun ops hops => ?_)
          clear hops
          refine z_val (v := .slice A_4 x7.length c_5) (val_move rfl rfl) rfl rfl rfl (fun _ _ _ => trivial) ?_
          obtain ⟨x31, hx31, H⟩ := Let_elim H
          have hlx31 : x31.length = 1 := by subst hx31; rfl
          refine z_buildSlice' (e := 5) (f := U8) (xs := x31) (vs := [(0, .int .u8 0)]) rfl rfl (by subst hx31; intro w; kernel_rfl) hlx31 (by decide) rfl rfl rfl (fun _ _ _ _ => trivial) (fun g_12 hs_14 => ?_)
          clear hx31 hlx31
          obtain ⟨hq_15, H⟩ := Chk_elim H
          obtain ⟨x32, hx32, H⟩ := Let_elim H
          refine z_append (f := U8) (j := 1) (xs := x7) (ys := x31) (zs := x32) rfl rfl Try.underlying22 in5 rfl rfl rfl rfl (fun w hw => (row_w hw (j := 0) rfl)) (fun _ => rfl) hq_15 (by decide) hx32 (fun A_16 c_17 => [.row (.slice (some ⟨g_12, 0, none⟩) x31.length 1) 5 1 (x31.map U8), .row (.slice A_16 x32.length c_17) 5 1 (x32.map U8)]) (fun _ _ => rfl) rfl rfl rfl (fun _ _ _ _ _ => trivial) (fun A_16 c_17 hs_18 => ?_)
          clear hx32
          refine z_val (v := .slice A_16 x32.length c_17) (val_assign rfl rfl) rfl rfl rfl (fun _ _ _ => trivial) ?_
          refine z_nil ?_
          obtain rfl := Option.some.inj H
          exact t_reach ((K _ ⟨A_16, c_17⟩ HJ hs_18).weak (fun a ha => ha.cons rfl (ha.cons rfl (ha.cons rfl (ha.cons rfl (ha.cons rfl (ha.nil)))))) (fun w hw => hw.sel [1] rfl rfl))
        ·
          have H := cond_t he
          clear he
          refine t_cond_true rfl ?_
          refine t_region (fun ops hops => ?_)
          clear hops
          refine z_val (v := .slice A_4 x7.length c_5) (val_move rfl rfl) rfl rfl rfl (fun _ _ _ => trivial) ?_
          refine z_val (v := .slice A0 a0.length c0) (val_move rfl rfl) rfl rfl rfl (fun _ _ _ => trivial) ?_
          refine z_val (v := .int .i64 a1) (val_move rfl rfl) rfl rfl rfl (fun _ _ _ => trivial) ?_
          refine z_val (v := .int .i64 x8) (val_move rfl rfl) rfl rfl rfl (fun _ _ _ => trivial) ?_
          obtain ⟨x25, hx25, H⟩ := Let_elim H
          refine z_val (v := .int .i64 x25) (by subst hx25; exact val_bin rfl rfl rfl rfl (i64_add _ _ _)) rfl rfl rfl (fun _ _ _ => trivial) ?_
          clear hx25
          obtain ⟨hq_19, H⟩ := Chk_elim H
          obtain ⟨b_20, o_21, hA_22, hc_23⟩ := hs0.at_ (idx_lt hq_19)
          refine z_val (v := .pointer (some ⟨b_20, o_21 + x25.toNat, none⟩)) (val_idxS0 rfl rfl rfl Try.underlying22 sz5 hq_19 hA_22 rfl) rfl rfl rfl (fun _ _ _ => trivial) ?_
          obtain ⟨x27, hx27, H⟩ := Let_elim H
          refine z_val (v := U8 x27) (by subst hx27; exact val_load1 rfl rfl Try.underlying5 rfl (fun _ hw => hc_23.cell hw)) rfl rfl rfl (fun _ _ _ => trivial) ?_
          clear hx27
          obtain ⟨x28, hx28, H⟩ := Let_elim H
          have hlx28 : x28.length = 1 := by subst hx28; rfl
          refine z_buildSlice' (e := 5) (f := U8) (xs := x28) (vs := [(0, U8 x27)]) rfl rfl (by subst hx28; intro w; kernel_rfl) hlx28 (by decide) rfl rfl rfl (fun _ _ _ _ => trivial) (fun g_24 hs_26 => ?_)
          clear hx28 hlx28
          obtain ⟨hq_27, H⟩ := Chk_elim H
          obtain ⟨x29, hx29, H⟩ := Let_elim H
          refine z_append (f := U8) (j := 1) (xs := x7) (ys := x28) (zs := x29) rfl rfl Try.underlying22 in5 rfl rfl rfl rfl (fun w hw => (row_w hw (j := 0) rfl)) (fun _ => rfl) hq_27 (by decide) hx29 (fun A_28 c_29 => [.row (.slice (some ⟨g_24, 0, none⟩) x28.length 1) 5 1 (x28.map U8), .row (.slice A_28 x29.length c_29) 5 1 (x29.map U8)]) (fun _ _ => rfl) rfl rfl rfl (fun _ _ _ _ _ => trivial) (fun A_28 c_29 hs_30 => ?_)
          clear hx29
          refine z_val (v := .slice A_28 x29.length c_29) (val_assign rfl rfl) rfl rfl rfl (fun _ _ _ => trivial) ?_
          refine z_nil ?_
          obtain rfl := Option.some.inj H
          exact t_reach ((K _ ⟨A_28, c_29⟩ HJ hs_30).weak (fun a ha => ha.cons rfl (ha.cons rfl (ha.cons rfl (ha.cons rfl (ha.cons rfl (ha.nil)))))) (fun w hw => hw.sel [1] rfl rfl))
      ·
        replace H := HB
        clear HB
        obtain ⟨x7_7, rfl⟩ : ∃ x, x = s := ⟨_, rfl⟩
        obtain ⟨A_8, c_9⟩ := g
        try dsimp only at hφ
        have hs_10 := hφ; clear hφ
        try dsimp only at H
        change T 34 _ _ _
        refine t_fin ?_
        refine t_region (fun ops hops => ?_)
        clear hops
        refine z_val (v := .int .i64 x8) (val_move rfl rfl) rfl rfl rfl (fun _ _ _ => trivial) ?_
        obtain ⟨x14, hx14, H⟩ := Let_elim H
        refine z_val (v := .int .i64 x14) (by subst hx14; exact val_bin rfl rfl rfl rfl (i64_add _ _ _)) rfl rfl rfl (fun _ _ _ => trivial) ?_
        clear hx14
        refine z_val (v := .int .i64 x14) (val_assign rfl rfl) rfl rfl rfl (fun _ _ _ => trivial) ?_
        refine z_nil ?_
        obtain rfl := Option.some.inj H
        exact t_reach ((hn1 _ ⟨A_8, c_9⟩ rfl hs_10).weak (fun a ha => ha.cons rfl (ha.cons rfl (ha.cons rfl (ha.cons rfl (ha.cons rfl (ha.nil)))))) (fun w hw => hw))
  ·
    obtain ⟨x7, x8⟩ := s
    obtain ⟨A_4, c_5⟩ := g
    try dsimp only at hφ
    have hs_6 := hφ; clear hφ
    subst hzz
    have H := HK1
    clear HK1 hz1
    replace H := sum_l H
    try dsimp only at H
    change T 34 _ _ _
    refine t_seq ?_
    refine t_region (fun ops hops => ?_)
    clear hops
    refine z_val (v := .slice A_4 x7.length c_5) (val_move rfl rfl) rfl rfl rfl (fun _ _ _ => trivial) ?_
    refine z_val (v := .slice A_4 x7.length c_5) (val_assign rfl rfl) rfl rfl rfl (fun _ _ _ => trivial) ?_
    refine z_nil ?_
    refine t_ret ?_
    obtain rfl := Option.some.inj H
    exact ret1 rfl (res_tmp rfl) (fun _ hw => ⟨A_4, c_5, rfl, hw.below, (row_out hw (j := 0) rfl hs_6)⟩)
def smithyref09_Length.b1 (x12 : List (BitVec 8)) (x7 : BitVec 64) (x8 : Int) : Option (Ctl ((BitVec 64) × (Int)) ((BitVec 64) × (Bool))) :=
  Let (decide (x8 < 32)) fun x14 => (bif x14 then Let (decide (x8 < 24)) fun x18 => (bif x18 then Chk ((0 : Int) ≤ x8 ∧ x8 < (x12.length : Int)) <| Let (lget x12 x8.toNat) fun x23 => Let ((x23.toNat : Int) != 0) fun x24 => some x24 else some false).bind (fun x25 => (bif x25 then some (.ret (0#64, false)) else Let (x7 * 256#64) fun x27 => Chk ((0 : Int) ≤ x8 ∧ x8 < (x12.length : Int)) <| Let (lget x12 x8.toNat) fun x31 => Let (x31.setWidth 64) fun x32 => Let (x27 + x32) fun x33 => Let (wi (x8 + 1)) fun x16 => some (.next (x33, x16)))) else some (.brk (x7, x8)))
def smithyref09_Length (a0 : List (BitVec 8)) (a1 : Int) : Option ((BitVec 64) × (Bool)) :=
  Let (wi (32 * a1)) fun x11 => (smithyref09_Part a0 x11 32).bind fun x12 => (wlx (σ := (BitVec 64) × (Int)) (fun s => smithyref09_Length.b1 x12 s.1 s.2) (0#64, 0)).bind (Sum.elim (fun s => (fun x7 x8 => some (x7, true)) s.1 s.2) (fun r => some r))
set_option maxRecDepth 100000 in
theorem smithyref09_Length.calls  (a0 : List (BitVec 8)) (a1 : Int) (A0 : Option Addr) (c0 : Nat) (r : (BitVec 64) × (Bool)) (H : smithyref09_Length a0 a1 = some r) (w : World) (hs0 : SlW w U8 A0 a0) (hc0 : a0.length ≤ c0)  :
    Made Try.prog 20 #[.slice A0 a0.length c0, .int .i64 a1] w (.tuple #[U64 r.1, .bool r.2]) := by
  unfold smithyref09_Length at H
  replace hs0 := hs0.toH
  have hM := Mm.start w (snap w) (snap_ok w)
  generalize snap w = h at *
  refine t_enter (vs := [.slice A0 a0.length c0, .int .i64 a1]) (n := 35) Try.func20 rfl rfl rfl hM ?_
  clear hM
  change T 35 _ _ _
  refine t_seq ?_
  refine t_region (fun ops hops => ?_)
  clear hops
  refine z_val (v := .int .u64 0) (val_assign rfl rfl) rfl rfl rfl (fun _ _ _ => trivial) ?_
  refine z_val (v := .bool false) (val_assign rfl rfl) rfl rfl rfl (fun _ _ _ => trivial) ?_
  refine z_nil ?_
  refine t_seq ?_
  refine t_region (fun ops hops => ?_)
  clear hops
  refine z_val (v := .slice A0 a0.length c0) (val_move rfl rfl) rfl rfl rfl (fun _ _ _ => trivial) ?_
  refine z_val (v := .int .i64 a1) (val_move rfl rfl) rfl rfl rfl (fun _ _ _ => trivial) ?_
  obtain ⟨x11, hx11, H⟩ := Let_elim H
  refine z_val (v := .int .i64 x11) (by subst hx11; exact val_bin rfl rfl rfl rfl (i64_mul _ _ _)) rfl rfl rfl (fun _ _ _ => trivial) ?_
  clear hx11
  obtain ⟨x12, hx, H⟩ := Option.bind_eq_some_iff.1 H
  refine z_madeS (F := fun A_1 c_2 => .slice A_1 x12.length c_2) (xs := x12) rfl Try.func21 nm21 bs21 rfl (fun w hw => smithyref09_Part.calls a0 x11 32 A0 c0 x12 hx w (hs0.toW hw) hc0) rfl rfl rfl (fun _ _ _ _ _ => trivial) (fun A_1 c_2 hs_3 => ?_)
  clear hx
  refine z_val (v := .slice A_1 x12.length c_2) (val_assign rfl rfl) rfl rfl rfl (fun _ _ _ => trivial) ?_
  refine z_nil ?_
  refine t_seq ?_
  refine t_region (fun ops hops => ?_)
  clear hops
  refine z_val (v := .int .u64 0) (val_assign rfl rfl) rfl rfl rfl (fun _ _ _ => trivial) ?_
  refine z_nil ?_
  refine t_seq ?_
  refine t_seq ?_
  refine t_region (fun ops hops => ?_)
  clear hops
  refine z_val (v := .int .i64 0) (val_assign rfl rfl) rfl rfl rfl (fun _ _ _ => trivial) ?_
  refine z_nil ?_
  refine t_block ?_
  obtain ⟨z1, hz1, HK1⟩ := Option.bind_eq_some_iff.1 H
  clear H
  refine t_while hz1 (fun (s : (BitVec 64) × (Int)) (g : Unit) => [(6, .slice A_1 x12.length c_2), (7, U64 s.1), (8, .int .i64 s.2)]) (fun (s : (BitVec 64) × (Int)) (g : Unit) => [(7, U64 s.1)]) (fun (s : (BitVec 64) × (Int)) (g : Unit) => Mm w [] h [.row (.slice A_1 x12.length c_2) 5 1 (x12.map U8)]) (fun (s : (BitVec 64) × (Int)) (g : Unit) => Mm w [] h []) (fun (s : (BitVec 64) × (Int)) (g : Unit) => True) (fun (s : (BitVec 64) × (Int)) (g : Unit) => True) () trivial (fun a w ha hw => ⟨ha.cons rfl (ha.cons rfl (ha.cons rfl (ha.nil))), hw⟩) (fun Gn Gb s g e hφ H hn1 hb1 hr1 => ?_) (fun s g hzz hφ => ?_)
  ·
    obtain ⟨x7, x8⟩ := s
    change smithyref09_Length.b1 x12 x7 x8 = some e at H
    unfold smithyref09_Length.b1 at H
    clear hz1
    change T 35 _ _ _
    refine t_seq ?_
    refine t_seq ?_
    refine t_region (fun ops hops => ?_)
    clear hops
    refine z_val (v := .int .i64 x8) (val_move rfl rfl) rfl rfl rfl (fun _ _ _ => trivial) ?_
    obtain ⟨x14, hx14, H⟩ := Let_elim H
    refine z_val (v := .bool x14) (by subst hx14; exact val_bin rfl rfl rfl rfl (i64_lss _ _ _)) rfl rfl rfl (fun _ _ _ => trivial) ?_
    clear hx14
    refine z_nil ?_
    cases x14
    ·
      replace H := cond_f H
      refine t_cond_false rfl ?_
      refine t_exit rfl ?_
      obtain rfl := Option.some.inj H
      exact t_reach ((hb1 _ () rfl trivial).weak (fun a ha => ha.cons rfl (ha.nil)) (fun w hw => hw.sel [] rfl rfl))
    ·
      replace H := cond_t H
      refine t_cond_true rfl ?_
      refine t_skip ?_
      refine t_seq ?_
      refine t_block ?_
      refine t_seq ?_
      refine t_seq ?_
      refine t_region (fun ops hops => ?_)
      refine z_val (v := .int .i64 x8) (val_move rfl rfl) rfl rfl rfl (fun _ _ _ => trivial) ?_
      obtain ⟨x18, hx18, H⟩ := Let_elim H
      refine z_val (v := .bool x18) (by subst hx18; exact val_bin rfl rfl rfl rfl (i64_lss _ _ _)) rfl rfl rfl (fun _ _ _ => trivial) ?_
      clear hx18
      refine z_val (v := .bool x18) (val_move rfl rfl) rfl rfl rfl (fun _ _ _ => trivial) ?_
      refine z_bind H 6 (fun (s : Bool) (_ : Unit) => [(6, .slice A_1 x12.length c_2), (7, U64 x7), (8, .int .i64 x8), (25, .bool s)]) (fun _ _ => Mm w [] h [.row (.slice A_1 x12.length c_2) 5 1 (x12.map U8)]) (fun _ _ => True) (fun Gr K s he HJ => ?_) (fun s g HB _ => ?_)
      ·
        clear H
        cases x18
        ·
          have H := cond_f he
          clear he
          refine z_skip rfl rfl (by rw [hops]; rfl) (fun _ _ _ => trivial) ?_
          refine z_skip rfl rfl (by rw [hops]; rfl) (fun _ _ _ => trivial) ?_
          refine z_skip rfl rfl (by rw [hops]; rfl) (fun _ _ _ => trivial) ?_
          refine z_skip rfl rfl (by rw [hops]; rfl) (fun _ _ _ => trivial) ?_
          refine z_skip rfl rfl (by rw [hops]; rfl) (fun _ _ _ => trivial) ?_
          refine z_val (v := .bool false) (val_pick rfl rfl rfl) rfl rfl rfl (fun _ _ _ => trivial) ?_
          obtain rfl := Option.some.inj H
          exact z_nil ((K _ () HJ trivial).weak (fun a ha => ha.cons rfl (ha.cons rfl (ha.cons rfl (ha.cons rfl (ha.nil))))) (fun w hw => hw))
        ·
          have H := cond_t he
          clear he
          refine z_val (v := .slice A_1 x12.length c_2) (val_move rfl rfl) rfl rfl (by rw [hops]; rfl) (fun _ _ _ => trivial) ?_
          refine z_val (v := .int .i64 x8) (val_move rfl rfl) rfl rfl (by rw [hops]; rfl) (fun _ _ _ => trivial) ?_
          obtain ⟨hq_5, H⟩ := Chk_elim H
          obtain ⟨g_6, hA_7⟩ := hs_3.blk (by omega)
          refine z_val (v := .pointer (some ⟨g_6, x8.toNat, none⟩)) (val_idxS1 rfl rfl rfl Try.underlying22 sz5 hq_5 hA_7 rfl) rfl rfl (by rw [hops]; rfl) (fun _ _ _ => trivial) ?_
          obtain ⟨x23, hx23, H⟩ := Let_elim H
          refine z_val (v := U8 x23) (by subst hx23; exact val_load1 rfl rfl Try.underlying5 rfl (fun _ hw => row_cell' hw (j := 0) rfl hA_7 (idx_lt hq_5))) rfl rfl (by rw [hops]; rfl) (fun _ _ _ => trivial) ?_
          clear hx23
          obtain ⟨x24, hx24, H⟩ := Let_elim H
          refine z_val (v := .bool x24) (by subst hx24; exact val_bin rfl rfl rfl rfl (u8_neq_r _ 0 x23)) rfl rfl (by rw [hops]; rfl) (fun _ _ _ => trivial) ?_
          clear hx24
          refine z_val (v := .bool x24) (val_pick rfl rfl rfl) rfl rfl rfl (fun _ _ _ => trivial) ?_
          obtain rfl := Option.some.inj H
          exact z_nil ((K _ () HJ trivial).weak (fun a ha => ha.cons rfl (ha.cons rfl (ha.cons rfl (ha.cons rfl (ha.nil))))) (fun w hw => hw))
      ·
        replace H := HB
        clear HB
        obtain ⟨x25, rfl⟩ : ∃ x, x = s := ⟨_, rfl⟩
        change T 35 _ _ _
        refine z_nil ?_
        cases x25
        ·
          replace H := cond_f H
          refine t_cond_false rfl ?_
          refine t_skip ?_
          refine t_region (fun ops hops => ?_)
          clear hops
          refine z_val (v := U64 x7) (val_move rfl rfl) rfl rfl rfl (fun _ _ _ => trivial) ?_
          obtain ⟨x27, hx27, H⟩ := Let_elim H
          refine z_val (v := U64 x27) (by subst hx27; exact val_bin rfl rfl rfl rfl (u64_mul_r _ _ _)) rfl rfl rfl (fun _ _ _ => trivial) ?_
          clear hx27
          refine z_val (v := .slice A_1 x12.length c_2) (val_move rfl rfl) rfl rfl rfl (fun _ _ _ => trivial) ?_
          refine z_val (v := .int .i64 x8) (val_move rfl rfl) rfl rfl rfl (fun _ _ _ => trivial) ?_
          obtain ⟨hq_8, H⟩ := Chk_elim H
          obtain ⟨g_9, hA_10⟩ := hs_3.blk (by omega)
          refine z_val (v := .pointer (some ⟨g_9, x8.toNat, none⟩)) (val_idxS1 rfl rfl rfl Try.underlying22 sz5 hq_8 hA_10 rfl) rfl rfl rfl (fun _ _ _ => trivial) ?_
          obtain ⟨x31, hx31, H⟩ := Let_elim H
          refine z_val (v := U8 x31) (by subst hx31; exact val_load1 rfl rfl Try.underlying5 rfl (fun _ hw => row_cell' hw (j := 0) rfl hA_10 (idx_lt hq_8))) rfl rfl rfl (fun _ _ _ => trivial) ?_
          clear hx31
          obtain ⟨x32, hx32, H⟩ := Let_elim H
          refine z_val (v := U64 x32) (by subst hx32; exact val_conv rfl rfl (fun w => conv_u8_u64 w _ _ _ (by rw [Try.underlying5]; rfl) Try.underlying38)) rfl rfl rfl (fun _ _ _ => trivial) ?_
          clear hx32
          obtain ⟨x33, hx33, H⟩ := Let_elim H
          refine z_val (v := U64 x33) (by subst hx33; exact val_bin rfl rfl rfl rfl (u64_add _ _ _)) rfl rfl rfl (fun _ _ _ => trivial) ?_
          clear hx33
          refine z_val (v := U64 x33) (val_assign rfl rfl) rfl rfl rfl (fun _ _ _ => trivial) ?_
          refine z_nil ?_
          refine t_fin ?_
          refine t_region (fun ops hops => ?_)
          clear hops
          refine z_val (v := .int .i64 x8) (val_move rfl rfl) rfl rfl rfl (fun _ _ _ => trivial) ?_
          obtain ⟨x16, hx16, H⟩ := Let_elim H
          refine z_val (v := .int .i64 x16) (by subst hx16; exact val_bin rfl rfl rfl rfl (i64_add _ _ _)) rfl rfl rfl (fun _ _ _ => trivial) ?_
          clear hx16
          refine z_val (v := .int .i64 x16) (val_assign rfl rfl) rfl rfl rfl (fun _ _ _ => trivial) ?_
          refine z_nil ?_
          obtain rfl := Option.some.inj H
          exact t_reach ((hn1 _ () rfl trivial).weak (fun a ha => ha.cons rfl (ha.cons rfl (ha.cons rfl (ha.nil)))) (fun w hw => hw))
        ·
          replace H := cond_t H
          refine t_cond_true rfl ?_
          refine t_seq ?_
          refine t_region (fun ops hops => ?_)
          clear hops
          refine z_val (v := .int .u64 0) (val_assign rfl rfl) rfl rfl rfl (fun _ _ _ => trivial) ?_
          refine z_val (v := .bool false) (val_assign rfl rfl) rfl rfl rfl (fun _ _ _ => trivial) ?_
          refine z_nil ?_
          refine t_ret ?_
          obtain rfl := Option.some.inj H
          have hz := hr1 _ rfl
          subst hz
          obtain rfl := Option.some.inj HK1
          exact ret2 rfl (res_tmp rfl) (res_tmp rfl) (fun _ hw => ⟨rfl, hw.below⟩)
  ·
    obtain ⟨x7, x8⟩ := s
    subst hzz
    have H := HK1
    clear HK1 hz1
    replace H := sum_l H
    try dsimp only at H
    change T 35 _ _ _
    refine t_seq ?_
    refine t_region (fun ops hops => ?_)
    clear hops
    refine z_val (v := U64 x7) (val_move rfl rfl) rfl rfl rfl (fun _ _ _ => trivial) ?_
    refine z_val (v := U64 x7) (val_assign rfl rfl) rfl rfl rfl (fun _ _ _ => trivial) ?_
    refine z_val (v := .bool true) (val_assign rfl rfl) rfl rfl rfl (fun _ _ _ => trivial) ?_
    refine z_nil ?_
    refine t_ret ?_
    obtain rfl := Option.some.inj H
    exact ret2 rfl (res_tmp rfl) (res_tmp rfl) (fun _ hw => ⟨rfl, hw.below⟩)
def smithyref09_top (a0 : List (BitVec 8)) : Option (BitVec 64) :=
  (smithyref01_From a0).bind fun x5 => (smithyref01_D_Len x5).bind fun x6 => Let (x6 == 0) fun x8 => (bif x8 then some 0#64 else Let (wi (x6 - 1)) fun x10 => Let (BitVec.ofInt 64 x10) fun x11 => some x11)
set_option maxRecDepth 100000 in
theorem smithyref09_top.calls  (a0 : List (BitVec 8)) (A0 : Option Addr) (c0 : Nat) (r : BitVec 64) (H : smithyref09_top a0 = some r) (w : World) (hs0 : SlW w U8 A0 a0) (hc0 : a0.length ≤ c0)  :
    Made Try.prog 39 #[.slice A0 a0.length c0] w (U64 r) := by
  unfold smithyref09_top at H
  replace hs0 := hs0.toH
  have hM := Mm.start w (snap w) (snap_ok w)
  generalize snap w = h at *
  refine t_enter (vs := [.slice A0 a0.length c0]) (n := 12) Try.func39 rfl rfl rfl hM ?_
  clear hM
  change T 12 _ _ _
  refine t_seq ?_
  refine t_region (fun ops hops => ?_)
  clear hops
  refine z_val (v := .int .u64 0) (val_assign rfl rfl) rfl rfl rfl (fun _ _ _ => trivial) ?_
  refine z_nil ?_
  refine t_seq ?_
  refine t_region (fun ops hops => ?_)
  clear hops
  refine z_val (v := .slice A0 a0.length c0) (val_move rfl rfl) rfl rfl rfl (fun _ _ _ => trivial) ?_
  obtain ⟨x5, hx, H⟩ := Option.bind_eq_some_iff.1 H
  refine z_made (v := .agg (cV (Value.int .i64) x5).toArray) rfl Try.func53 nm53 bs53 rfl (fun w hw => smithyref01_From.calls a0 A0 c0 x5 hx w (hs0.toW hw) hc0) rfl rfl rfl (fun _ _ _ => trivial) ?_
  clear hx
  obtain ⟨x6, hx_1, H⟩ := Option.bind_eq_some_iff.1 H
  refine z_made (v := .int .i64 x6) rfl Try.func54 nm54 bs54 rfl (fun w hw => smithyref01_D_Len.calls x5 x6 hx_1 w) rfl rfl rfl (fun _ _ _ => trivial) ?_
  clear hx_1
  refine z_val (v := .int .i64 x6) (val_assign rfl rfl) rfl rfl rfl (fun _ _ _ => trivial) ?_
  refine z_nil ?_
  refine t_seq ?_
  refine t_seq ?_
  refine t_region (fun ops hops => ?_)
  clear hops
  refine z_val (v := .int .i64 x6) (val_move rfl rfl) rfl rfl rfl (fun _ _ _ => trivial) ?_
  obtain ⟨x8, hx8, H⟩ := Let_elim H
  refine z_val (v := .bool x8) (by subst hx8; exact val_bin rfl rfl rfl rfl (i64_eql _ _ _)) rfl rfl rfl (fun _ _ _ => trivial) ?_
  clear hx8
  refine z_nil ?_
  cases x8
  ·
    replace H := cond_f H
    refine t_cond_false rfl ?_
    refine t_skip ?_
    refine t_seq ?_
    refine t_region (fun ops hops => ?_)
    clear hops
    refine z_val (v := .int .i64 x6) (val_move rfl rfl) rfl rfl rfl (fun _ _ _ => trivial) ?_
    obtain ⟨x10, hx10, H⟩ := Let_elim H
    refine z_val (v := .int .i64 x10) (by subst hx10; exact val_bin rfl rfl rfl rfl (i64_sub _ _ _)) rfl rfl rfl (fun _ _ _ => trivial) ?_
    clear hx10
    obtain ⟨x11, hx11, H⟩ := Let_elim H
    refine z_val (v := U64 x11) (by subst hx11; exact val_conv rfl rfl (fun w => conv_int_u64 w _ _ .i64 _ (by rw [Try.underlying3]; rfl) Try.underlying38)) rfl rfl rfl (fun _ _ _ => trivial) ?_
    clear hx11
    refine z_val (v := U64 x11) (val_assign rfl rfl) rfl rfl rfl (fun _ _ _ => trivial) ?_
    refine z_nil ?_
    refine t_ret ?_
    obtain rfl := Option.some.inj H
    exact ret1 rfl (res_tmp rfl) (fun _ hw => ⟨rfl, hw.below⟩)
  ·
    replace H := cond_t H
    refine t_cond_true rfl ?_
    refine t_seq ?_
    refine t_region (fun ops hops => ?_)
    clear hops
    refine z_val (v := .int .u64 0) (val_assign rfl rfl) rfl rfl rfl (fun _ _ _ => trivial) ?_
    refine z_nil ?_
    refine t_ret ?_
    obtain rfl := Option.some.inj H
    exact ret1 rfl (res_tmp rfl) (fun _ hw => ⟨rfl, hw.below⟩)
def smithyref09_digits.b1  (x0 : BitVec 64) (x3 : List (Int)) : Option (Ctl ((BitVec 64) × (List (Int))) (List (Int))) :=
  Let (decide ((x0.toNat : Int) > 0)) fun x6 => (bif x6 then Let (x0 % 256#64) fun x9 => Let (IntKind.i64.wrap x9.toNat) fun x10 => Let ([x10]) fun x11 => Chk ((x3.length + x11.length) * 8 ≤ 140737488355328) <| Let (x3 ++ x11) fun x12 => Let (x0 / 256#64) fun x14 => some (.next (x14, x12)) else some (.brk (x0, x3)))
def smithyref09_digits (a0 : BitVec 64) : Option (List (Int)) :=
  Let (([] : List (Int))) fun x4 => (wlx (σ := (BitVec 64) × (List (Int))) (fun s => smithyref09_digits.b1 s.1 s.2) (a0, x4)).bind (Sum.elim (fun s => (fun x0 x3 => some x3) s.1 s.2) (fun r => some r))
set_option maxRecDepth 100000 in
theorem smithyref09_digits.calls  (a0 : BitVec 64) (r : List (Int)) (H : smithyref09_digits a0 = some r) (w : World)   :
    Calls Try.prog 40 #[U64 a0] w fun e w' => ∃ A c, e = .returned (.slice A r.length c) ∧ Below w.heap.size w w' ∧ OwnR w w' 3 (Value.int .i64) A c r := by
  unfold smithyref09_digits at H
  have hM := Mm.start w (snap w) (snap_ok w)
  generalize snap w = h at *
  refine t_enter (vs := [U64 a0]) (n := 16) Try.func40 rfl rfl rfl hM ?_
  clear hM
  change T 16 _ _ _
  refine t_seq ?_
  refine t_region (fun ops hops => ?_)
  clear hops
  refine z_val (v := .slice none 0 0) (val_assign rfl rfl) rfl rfl rfl (fun _ _ _ => trivial) ?_
  refine z_nil ?_
  refine t_seq ?_
  refine t_region (fun ops hops => ?_)
  clear hops
  obtain ⟨x4, hx4, H⟩ := Let_elim H
  have hlx4 : x4.length = 0 := by subst hx4; rfl
  refine z_buildSlice' (e := 3) (f := (Value.int .i64)) (xs := x4) (vs := []) rfl rfl (by subst hx4; intro w; kernel_rfl) hlx4 (by decide) rfl rfl rfl (fun _ _ _ _ => trivial) (fun g_1 hs_3 => ?_)
  clear hx4 hlx4
  refine z_val (v := .slice (some ⟨g_1, 0, none⟩) x4.length 0) (val_assign rfl rfl) rfl rfl rfl (fun _ _ _ => trivial) ?_
  refine z_nil ?_
  refine t_seq ?_
  refine t_block ?_
  obtain ⟨z1, hz1, HK1⟩ := Option.bind_eq_some_iff.1 H
  clear H
  refine t_while hz1 (fun (s : (BitVec 64) × (List (Int))) (g : (Option Addr) × (Nat)) => [(0, U64 s.1), (3, .slice g.1 s.2.length g.2)]) (fun (s : (BitVec 64) × (List (Int))) (g : (Option Addr) × (Nat)) => [(3, .slice g.1 s.2.length g.2)]) (fun (s : (BitVec 64) × (List (Int))) (g : (Option Addr) × (Nat)) => Mm w [] h [.row (.slice g.1 s.2.length g.2) 3 1 (s.2.map (Value.int .i64))]) (fun (s : (BitVec 64) × (List (Int))) (g : (Option Addr) × (Nat)) => Mm w [] h [.row (.slice g.1 s.2.length g.2) 3 1 (s.2.map (Value.int .i64))]) (fun (s : (BitVec 64) × (List (Int))) (g : (Option Addr) × (Nat)) => Shp g.1 s.2.length g.2) (fun (s : (BitVec 64) × (List (Int))) (g : (Option Addr) × (Nat)) => Shp g.1 s.2.length g.2) ⟨(some ⟨g_1, 0, none⟩), 0⟩ hs_3 (fun a w ha hw => ⟨ha.cons rfl (ha.cons rfl (ha.nil)), hw⟩) (fun Gn Gb s g e hφ H hn1 hb1 hr1 => ?_) (fun s g hzz hφ => ?_)
  ·
    obtain ⟨x0, x3⟩ := s
    obtain ⟨A_4, c_5⟩ := g
    try dsimp only at hφ
    have hs_6 := hφ; clear hφ
    change smithyref09_digits.b1 x0 x3 = some e at H
    unfold smithyref09_digits.b1 at H
    clear hz1
    change T 16 _ _ _
    refine t_seq ?_
    refine t_seq ?_
    refine t_region (fun ops hops => ?_)
    clear hops
    refine z_val (v := U64 x0) (val_move rfl rfl) rfl rfl rfl (fun _ _ _ => trivial) ?_
    obtain ⟨x6, hx6, H⟩ := Let_elim H
    refine z_val (v := .bool x6) (by subst hx6; exact val_bin rfl rfl rfl rfl (u64_gtr_r _ 0 x0)) rfl rfl rfl (fun _ _ _ => trivial) ?_
    clear hx6
    refine z_nil ?_
    cases x6
    ·
      replace H := cond_f H
      refine t_cond_false rfl ?_
      refine t_exit rfl ?_
      obtain rfl := Option.some.inj H
      exact t_reach ((hb1 _ ⟨A_4, c_5⟩ rfl hs_6).weak (fun a ha => ha.cons rfl (ha.nil)) (fun w hw => hw))
    ·
      replace H := cond_t H
      refine t_cond_true rfl ?_
      refine t_skip ?_
      refine t_block ?_
      refine t_seq ?_
      refine t_region (fun ops hops => ?_)
      clear hops
      refine z_val (v := .slice A_4 x3.length c_5) (val_move rfl rfl) rfl rfl rfl (fun _ _ _ => trivial) ?_
      refine z_val (v := U64 x0) (val_move rfl rfl) rfl rfl rfl (fun _ _ _ => trivial) ?_
      obtain ⟨x9, hx9, H⟩ := Let_elim H
      refine z_val (v := U64 x9) (by subst hx9; exact val_bin rfl rfl rfl rfl (u64_rem_r _ _ _ (by decide) (by decide))) rfl rfl rfl (fun _ _ _ => trivial) ?_
      clear hx9
      obtain ⟨x10, hx10, H⟩ := Let_elim H
      refine z_val (v := .int .i64 x10) (by subst hx10; exact val_conv rfl rfl (fun w => conv_u64_int w _ _ _ (by rw [Try.underlying38]; rfl) Try.underlying3)) rfl rfl rfl (fun _ _ _ => trivial) ?_
      clear hx10
      obtain ⟨x11, hx11, H⟩ := Let_elim H
      have hlx11 : x11.length = 1 := by subst hx11; rfl
      refine z_buildSlice' (e := 3) (f := (Value.int .i64)) (xs := x11) (vs := [(0, .int .i64 x10)]) rfl rfl (by subst hx11; intro w; kernel_rfl) hlx11 (by decide) rfl rfl rfl (fun _ _ _ _ => trivial) (fun g_7 hs_9 => ?_)
      clear hx11 hlx11
      obtain ⟨hq_10, H⟩ := Chk_elim H
      obtain ⟨x12, hx12, H⟩ := Let_elim H
      refine z_append (f := (Value.int .i64)) (j := 1) (xs := x3) (ys := x11) (zs := x12) rfl rfl Try.underlying31 in3 rfl rfl rfl rfl (fun w hw => (row_w hw (j := 0) rfl)) (fun _ => rfl) hq_10 (by decide) hx12 (fun A_11 c_12 => [.row (.slice (some ⟨g_7, 0, none⟩) x11.length 1) 3 1 (x11.map (Value.int .i64)), .row (.slice A_11 x12.length c_12) 3 1 (x12.map (Value.int .i64))]) (fun _ _ => rfl) rfl rfl rfl (fun _ _ _ _ _ => trivial) (fun A_11 c_12 hs_13 => ?_)
      clear hx12
      refine z_val (v := .slice A_11 x12.length c_12) (val_assign rfl rfl) rfl rfl rfl (fun _ _ _ => trivial) ?_
      refine z_nil ?_
      refine t_region (fun ops hops => ?_)
      clear hops
      refine z_val (v := U64 x0) (val_move rfl rfl) rfl rfl rfl (fun _ _ _ => trivial) ?_
      obtain ⟨x14, hx14, H⟩ := Let_elim H
      refine z_val (v := U64 x14) (by subst hx14; exact val_bin rfl rfl rfl rfl (u64_quo_r _ _ _ (by decide) (by decide))) rfl rfl rfl (fun _ _ _ => trivial) ?_
      clear hx14
      refine z_val (v := U64 x14) (val_assign rfl rfl) rfl rfl rfl (fun _ _ _ => trivial) ?_
      refine z_nil ?_
      refine t_fin ?_
      obtain rfl := Option.some.inj H
      exact t_reach ((hn1 _ ⟨A_11, c_12⟩ rfl hs_13).weak (fun a ha => ha.cons rfl (ha.cons rfl (ha.nil))) (fun w hw => hw.sel [1] rfl rfl))
  ·
    obtain ⟨x0, x3⟩ := s
    obtain ⟨A_4, c_5⟩ := g
    try dsimp only at hφ
    have hs_6 := hφ; clear hφ
    subst hzz
    have H := HK1
    clear HK1 hz1
    replace H := sum_l H
    try dsimp only at H
    change T 16 _ _ _
    refine t_seq ?_
    refine t_region (fun ops hops => ?_)
    clear hops
    refine z_val (v := .slice A_4 x3.length c_5) (val_move rfl rfl) rfl rfl rfl (fun _ _ _ => trivial) ?_
    refine z_val (v := .slice A_4 x3.length c_5) (val_assign rfl rfl) rfl rfl rfl (fun _ _ _ => trivial) ?_
    refine z_nil ?_
    refine t_ret ?_
    obtain rfl := Option.some.inj H
    exact ret1 rfl (res_tmp rfl) (fun _ hw => ⟨A_4, c_5, rfl, hw.below, (row_out hw (j := 0) rfl hs_6)⟩)
def smithyref09_Gas.b1 (x103 : (List (Int)) × (List (Int))) (x16 : BitVec 64) (x17 : Int) : Option (Ctl ((BitVec 64) × (Int)) (BitVec 64)) :=
  Let (decide (0 ≤ x17)) fun x116 => (bif x116 then Let (x16 * 256#64) fun x120 => Chk ((0 : Int) ≤ x17 ∧ x17 < (x103.1.length : Int)) <| Let (lget x103.1 x17.toNat) fun x124 => Let (BitVec.ofInt 64 x124) fun x125 => Let (x120 + x125) fun x126 => Let (wi (x17 - 1)) fun x118 => some (.next (x126, x118)) else some (.brk (x16, x17)))
def smithyref09_Gas (a0 : List (BitVec 8)) : Option (BitVec 64) :=
  (smithyref09_Length a0 0).bind fun x20 => (smithyref09_Length a0 1).bind fun x25 => (smithyref09_Length a0 2).bind fun x30 => (bif x20.2 then some x30.2 else some false).bind (fun x36 => (bif x36 then Let ((x20.1.toNat : Int) == 0) fun x39 => some x39 else some false).bind (fun x40 => (bif x40 then Let ((x30.1.toNat : Int) == 0) fun x43 => some x43 else some false).bind (fun x44 => (bif x44 then some 200#64 else Let (!x20.2) fun x46 => (bif x46 then some true else Let (!x25.2) fun x49 => some x49).bind (fun x50 => (bif x50 then some true else Let (!x30.2) fun x53 => some x53).bind (fun x54 => (bif x54 then some 18446744073709551615#64 else Let (([] : List (BitVec 8))) fun x56 => Let (decide ((x20.1.toNat : Int) < 1099511627776)) fun x58 => (bif x58 then Let (IntKind.i64.wrap x20.1.toNat) fun x61 => Let (wi (96 + x61)) fun x62 => Let (if (32#64).toNat < x25.1.toNat then (32#64) else x25.1) fun x64 => Let (IntKind.i64.wrap x64.toNat) fun x65 => (smithyref09_Part a0 x62 x65).bind fun x66 => some x66 else some x56).bind (fun (x10 : List (BitVec 8)) => (smithyref09_top x10).bind fun x68 => Let (if x20.1.toNat < x30.1.toNat then x30.1 else x20.1) fun x71 => Let (x71 / 8#64) fun x72 => Let (if x20.1.toNat < x30.1.toNat then x30.1 else x20.1) fun x75 => Let (x75 % 8#64) fun x76 => Let ((x76.toNat : Int) != 0) fun x77 => (bif x77 then Let (x72 + 1#64) fun x79 => some x79 else some x72).bind (fun (x12 : BitVec 64) => (smithyref09_digits x68).bind fun x81 => Let (decide ((x25.1.toNat : Int) > 32)) fun x83 => (bif x83 then Let (x25.1 - 32#64) fun x86 => (smithyref09_digits x86).bind fun x87 => (smithyref09_digits 8#64).bind fun x88 => (smithyref02_Times x87 x88).bind fun x89 => (smithyref02_Plus x81 x89).bind fun x90 => some x90 else some x81).bind (fun (x13 : List (Int)) => (smithyref02_Zero x13).bind fun x92 => (bif x92 then (smithyref09_digits 1#64).bind fun x93 => some x93 else some x13).bind (fun (x13_46 : List (Int)) => (smithyref09_digits x12).bind fun x96 => (smithyref09_digits x12).bind fun x98 => (smithyref02_Times x96 x98).bind fun x99 => (smithyref02_Times x99 x13_46).bind fun x101 => (smithyref09_digits 3#64).bind fun x102 => (smithyref02_Div x101 x102).bind fun x103 => (smithyref09_digits 18446744073709551615#64).bind fun x108 => (smithyref02_Less x103.1 x108).bind fun x109 => Let (!x109) fun x110 => (bif x110 then some 18446744073709551615#64 else Let ((x103.1.length : Int)) fun x113 => Let (wi (x113 - 1)) fun x114 => (wlx (σ := (BitVec 64) × (Int)) (fun s => smithyref09_Gas.b1 x103 s.1 s.2) (0#64, x114)).bind (Sum.elim (fun s => (fun x16 x17 => Let (if x16.toNat < (200#64).toNat then (200#64) else x16) fun x128 => some x128) s.1 s.2) (fun r => some r))))))))))))))
set_option maxRecDepth 100000 in
theorem smithyref09_Gas.calls  (a0 : List (BitVec 8)) (A0 : Option Addr) (c0 : Nat) (r : BitVec 64) (H : smithyref09_Gas a0 = some r) (w : World) (hs0 : SlW w U8 A0 a0) (hc0 : a0.length ≤ c0)  :
    Made Try.prog 18 #[.slice A0 a0.length c0] w (U64 r) := by
  unfold smithyref09_Gas at H
  replace hs0 := hs0.toH
  have hM := Mm.start w (snap w) (snap_ok w)
  generalize snap w = h at *
  refine t_enter (vs := [.slice A0 a0.length c0]) (n := 129) Try.func18 rfl rfl rfl hM ?_
  clear hM
  change T 129 _ _ _
  refine t_seq ?_
  refine t_region (fun ops hops => ?_)
  clear hops
  refine z_val (v := .int .u64 0) (val_assign rfl rfl) rfl rfl rfl (fun _ _ _ => trivial) ?_
  refine z_nil ?_
  refine t_seq ?_
  refine t_region (fun ops hops => ?_)
  clear hops
  refine z_val (v := .int .u64 18446744073709551615) (val_assign rfl rfl) rfl rfl rfl (fun _ _ _ => trivial) ?_
  refine z_nil ?_
  refine t_seq ?_
  refine t_region (fun ops hops => ?_)
  clear hops
  refine z_val (v := .slice A0 a0.length c0) (val_move rfl rfl) rfl rfl rfl (fun _ _ _ => trivial) ?_
  obtain ⟨x20, hx, H⟩ := Option.bind_eq_some_iff.1 H
  refine z_made (v := .tuple #[U64 x20.1, .bool x20.2]) rfl Try.func20 nm20 bs20 rfl (fun w hw => smithyref09_Length.calls a0 0 A0 c0 x20 hx w (hs0.toW hw) hc0) rfl rfl rfl (fun _ _ _ => trivial) ?_
  clear hx
  refine z_val (v := .tuple #[U64 x20.1, .bool x20.2]) (val_move rfl rfl) rfl rfl rfl (fun _ _ _ => trivial) ?_
  refine z_val (v := U64 x20.1) (val_extract rfl rfl rfl) rfl rfl rfl (fun _ _ _ => trivial) ?_
  refine z_val (v := .bool x20.2) (val_extract rfl rfl rfl) rfl rfl rfl (fun _ _ _ => trivial) ?_
  refine z_val (v := U64 x20.1) (val_assign rfl rfl) rfl rfl rfl (fun _ _ _ => trivial) ?_
  refine z_val (v := .bool x20.2) (val_assign rfl rfl) rfl rfl rfl (fun _ _ _ => trivial) ?_
  refine z_nil ?_
  refine t_seq ?_
  refine t_region (fun ops hops => ?_)
  clear hops
  refine z_val (v := .slice A0 a0.length c0) (val_move rfl rfl) rfl rfl rfl (fun _ _ _ => trivial) ?_
  obtain ⟨x25, hx_1, H⟩ := Option.bind_eq_some_iff.1 H
  refine z_made (v := .tuple #[U64 x25.1, .bool x25.2]) rfl Try.func20 nm20 bs20 rfl (fun w hw => smithyref09_Length.calls a0 1 A0 c0 x25 hx_1 w (hs0.toW hw) hc0) rfl rfl rfl (fun _ _ _ => trivial) ?_
  clear hx_1
  refine z_val (v := .tuple #[U64 x25.1, .bool x25.2]) (val_move rfl rfl) rfl rfl rfl (fun _ _ _ => trivial) ?_
  refine z_val (v := U64 x25.1) (val_extract rfl rfl rfl) rfl rfl rfl (fun _ _ _ => trivial) ?_
  refine z_val (v := .bool x25.2) (val_extract rfl rfl rfl) rfl rfl rfl (fun _ _ _ => trivial) ?_
  refine z_val (v := U64 x25.1) (val_assign rfl rfl) rfl rfl rfl (fun _ _ _ => trivial) ?_
  refine z_val (v := .bool x25.2) (val_assign rfl rfl) rfl rfl rfl (fun _ _ _ => trivial) ?_
  refine z_nil ?_
  refine t_seq ?_
  refine t_region (fun ops hops => ?_)
  clear hops
  refine z_val (v := .slice A0 a0.length c0) (val_move rfl rfl) rfl rfl rfl (fun _ _ _ => trivial) ?_
  obtain ⟨x30, hx_2, H⟩ := Option.bind_eq_some_iff.1 H
  refine z_made (v := .tuple #[U64 x30.1, .bool x30.2]) rfl Try.func20 nm20 bs20 rfl (fun w hw => smithyref09_Length.calls a0 2 A0 c0 x30 hx_2 w (hs0.toW hw) hc0) rfl rfl rfl (fun _ _ _ => trivial) ?_
  clear hx_2
  refine z_val (v := .tuple #[U64 x30.1, .bool x30.2]) (val_move rfl rfl) rfl rfl rfl (fun _ _ _ => trivial) ?_
  refine z_val (v := U64 x30.1) (val_extract rfl rfl rfl) rfl rfl rfl (fun _ _ _ => trivial) ?_
  refine z_val (v := .bool x30.2) (val_extract rfl rfl rfl) rfl rfl rfl (fun _ _ _ => trivial) ?_
  refine z_val (v := U64 x30.1) (val_assign rfl rfl) rfl rfl rfl (fun _ _ _ => trivial) ?_
  refine z_val (v := .bool x30.2) (val_assign rfl rfl) rfl rfl rfl (fun _ _ _ => trivial) ?_
  refine z_nil ?_
  refine t_seq ?_
  refine t_seq ?_
  refine t_region (fun ops hops => ?_)
  refine z_val (v := .bool x20.2) (val_move rfl rfl) rfl rfl rfl (fun _ _ _ => trivial) ?_
  refine z_val (v := .bool x20.2) (val_move rfl rfl) rfl rfl rfl (fun _ _ _ => trivial) ?_
  refine z_bind H 2 (fun (s : Bool) (_ : Unit) => [(0, .slice A0 a0.length c0), (3, .int .u64 18446744073709551615), (4, U64 x20.1), (5, .bool x20.2), (6, U64 x25.1), (7, .bool x25.2), (8, U64 x30.1), (9, .bool x30.2), (36, .bool s)]) (fun _ _ => Mm w [] h []) (fun _ _ => True) (fun Gr K s he HJ => ?_) (fun s g HB _ => ?_)
  ·
    clear H
    generalize x20.2 = bb at *
    cases bb
    ·
      have H := cond_f he
      clear he
      refine z_skip rfl rfl (by rw [hops]; rfl) (fun _ _ _ => trivial) ?_
      refine z_val (v := .bool false) (val_pick rfl rfl rfl) rfl rfl rfl (fun _ _ _ => trivial) ?_
      obtain rfl := Option.some.inj H
      exact z_nil ((K _ () HJ trivial).weak (fun a ha => ha.cons rfl (ha.cons rfl (ha.cons rfl (ha.cons rfl (ha.cons rfl (ha.cons rfl (ha.cons rfl (ha.cons rfl (ha.cons rfl (ha.nil)))))))))) (fun w hw => hw))
    ·
      have H := cond_t he
      clear he
      refine z_val (v := .bool x30.2) (val_move rfl rfl) rfl rfl (by rw [hops]; rfl) (fun _ _ _ => trivial) ?_
      refine z_val (v := .bool x30.2) (val_pick rfl rfl rfl) rfl rfl rfl (fun _ _ _ => trivial) ?_
      obtain rfl := Option.some.inj H
      exact z_nil ((K _ () HJ trivial).weak (fun a ha => ha.cons rfl (ha.cons rfl (ha.cons rfl (ha.cons rfl (ha.cons rfl (ha.cons rfl (ha.cons rfl (ha.cons rfl (ha.cons rfl (ha.nil)))))))))) (fun w hw => hw))
  ·
    replace H := HB
    clear HB
    obtain ⟨x36, rfl⟩ : ∃ x, x = s := ⟨_, rfl⟩
    change T 129 _ _ _
    refine z_val (v := .bool x36) (val_move rfl rfl) rfl rfl rfl (fun _ _ _ => trivial) ?_
    refine z_bind H 3 (fun (s : Bool) (_ : Unit) => [(0, .slice A0 a0.length c0), (3, .int .u64 18446744073709551615), (4, U64 x20.1), (5, .bool x20.2), (6, U64 x25.1), (7, .bool x25.2), (8, U64 x30.1), (9, .bool x30.2), (40, .bool s)]) (fun _ _ => Mm w [] h []) (fun _ _ => True) (fun Gr K s he HJ => ?_) (fun s g HB _ => ?_)
    ·
      clear H
      cases x36
      ·
        have H := cond_f he
        clear he
        refine z_skip rfl rfl (by rw [hops]; rfl) (fun _ _ _ => trivial) ?_
        refine z_skip rfl rfl (by rw [hops]; rfl) (fun _ _ _ => trivial) ?_
        refine z_val (v := .bool false) (val_pick rfl rfl rfl) rfl rfl rfl (fun _ _ _ => trivial) ?_
        obtain rfl := Option.some.inj H
        exact z_nil ((K _ () HJ trivial).weak (fun a ha => ha.cons rfl (ha.cons rfl (ha.cons rfl (ha.cons rfl (ha.cons rfl (ha.cons rfl (ha.cons rfl (ha.cons rfl (ha.cons rfl (ha.nil)))))))))) (fun w hw => hw))
      ·
        have H := cond_t he
        clear he
        refine z_val (v := U64 x20.1) (val_move rfl rfl) rfl rfl (by rw [hops]; rfl) (fun _ _ _ => trivial) ?_
        obtain ⟨x39, hx39, H⟩ := Let_elim H
        refine z_val (v := .bool x39) (by subst hx39; exact val_bin rfl rfl rfl rfl (u64_eql_r _ 0 x20.1)) rfl rfl (by rw [hops]; rfl) (fun _ _ _ => trivial) ?_
        clear hx39
        refine z_val (v := .bool x39) (val_pick rfl rfl rfl) rfl rfl rfl (fun _ _ _ => trivial) ?_
        obtain rfl := Option.some.inj H
        exact z_nil ((K _ () HJ trivial).weak (fun a ha => ha.cons rfl (ha.cons rfl (ha.cons rfl (ha.cons rfl (ha.cons rfl (ha.cons rfl (ha.cons rfl (ha.cons rfl (ha.cons rfl (ha.nil)))))))))) (fun w hw => hw))
    ·
      replace H := HB
      clear HB
      obtain ⟨x40, rfl⟩ : ∃ x, x = s := ⟨_, rfl⟩
      change T 129 _ _ _
      refine z_val (v := .bool x40) (val_move rfl rfl) rfl rfl rfl (fun _ _ _ => trivial) ?_
      refine z_bind H 3 (fun (s : Bool) (_ : Unit) => [(0, .slice A0 a0.length c0), (3, .int .u64 18446744073709551615), (4, U64 x20.1), (5, .bool x20.2), (6, U64 x25.1), (7, .bool x25.2), (8, U64 x30.1), (9, .bool x30.2), (44, .bool s)]) (fun _ _ => Mm w [] h []) (fun _ _ => True) (fun Gr K s he HJ => ?_) (fun s g HB _ => ?_)
      ·
        clear H
        cases x40
        ·
          have H := cond_f he
          clear he
          refine z_skip rfl rfl (by rw [hops]; rfl) (fun _ _ _ => trivial) ?_
          refine z_skip rfl rfl (by rw [hops]; rfl) (fun _ _ _ => trivial) ?_
          refine z_val (v := .bool false) (val_pick rfl rfl rfl) rfl rfl rfl (fun _ _ _ => trivial) ?_
          obtain rfl := Option.some.inj H
          exact z_nil ((K _ () HJ trivial).weak (fun a ha => ha.cons rfl (ha.cons rfl (ha.cons rfl (ha.cons rfl (ha.cons rfl (ha.cons rfl (ha.cons rfl (ha.cons rfl (ha.cons rfl (ha.nil)))))))))) (fun w hw => hw))
        ·
          have H := cond_t he
          clear he
          refine z_val (v := U64 x30.1) (val_move rfl rfl) rfl rfl (by rw [hops]; rfl) (fun _ _ _ => trivial) ?_
          obtain ⟨x43, hx43, H⟩ := Let_elim H
          refine z_val (v := .bool x43) (by subst hx43; exact val_bin rfl rfl rfl rfl (u64_eql_r _ 0 x30.1)) rfl rfl (by rw [hops]; rfl) (fun _ _ _ => trivial) ?_
          clear hx43
          refine z_val (v := .bool x43) (val_pick rfl rfl rfl) rfl rfl rfl (fun _ _ _ => trivial) ?_
          obtain rfl := Option.some.inj H
          exact z_nil ((K _ () HJ trivial).weak (fun a ha => ha.cons rfl (ha.cons rfl (ha.cons rfl (ha.cons rfl (ha.cons rfl (ha.cons rfl (ha.cons rfl (ha.cons rfl (ha.cons rfl (ha.nil)))))))))) (fun w hw => hw))
      ·
        replace H := HB
        clear HB
        obtain ⟨x44, rfl⟩ : ∃ x, x = s := ⟨_, rfl⟩
        change T 129 _ _ _
        refine z_nil ?_
        cases x44
        ·
          replace H := cond_f H
          refine t_cond_false rfl ?_
          refine t_skip ?_
          refine t_seq ?_
          refine t_seq ?_
          refine t_region (fun ops hops => ?_)
          refine z_val (v := .bool x20.2) (val_move rfl rfl) rfl rfl rfl (fun _ _ _ => trivial) ?_
          obtain ⟨x46, hx46, H⟩ := Let_elim H
          refine z_val (v := .bool x46) (by subst hx46; exact val_un rfl rfl (bool_not _)) rfl rfl rfl (fun _ _ _ => trivial) ?_
          clear hx46
          refine z_val (v := .bool x46) (val_move rfl rfl) rfl rfl rfl (fun _ _ _ => trivial) ?_
          refine z_bind H 3 (fun (s : Bool) (_ : Unit) => [(0, .slice A0 a0.length c0), (3, .int .u64 18446744073709551615), (4, U64 x20.1), (6, U64 x25.1), (8, U64 x30.1), (9, .bool x30.2), (50, .bool s)]) (fun _ _ => Mm w [] h []) (fun _ _ => True) (fun Gr K s he HJ => ?_) (fun s g HB _ => ?_)
          ·
            clear H
            cases x46
            ·
              have H := cond_f he
              clear he
              refine z_val (v := .bool x25.2) (val_move rfl rfl) rfl rfl (by rw [hops]; rfl) (fun _ _ _ => trivial) ?_
              obtain ⟨x49, hx49, H⟩ := Let_elim H
              refine z_val (v := .bool x49) (by subst hx49; exact val_un rfl rfl (bool_not _)) rfl rfl (by rw [hops]; rfl) (fun _ _ _ => trivial) ?_
              clear hx49
              refine z_val (v := .bool x49) (val_pick rfl rfl rfl) rfl rfl rfl (fun _ _ _ => trivial) ?_
              obtain rfl := Option.some.inj H
              exact z_nil ((K _ () HJ trivial).weak (fun a ha => ha.cons rfl (ha.cons rfl (ha.cons rfl (ha.cons rfl (ha.cons rfl (ha.cons rfl (ha.cons rfl (ha.nil)))))))) (fun w hw => hw))
            ·
              have H := cond_t he
              clear he
              refine z_skip rfl rfl (by rw [hops]; rfl) (fun _ _ _ => trivial) ?_
              refine z_skip rfl rfl (by rw [hops]; rfl) (fun _ _ _ => trivial) ?_
              refine z_val (v := .bool true) (val_pick rfl rfl rfl) rfl rfl rfl (fun _ _ _ => trivial) ?_
              obtain rfl := Option.some.inj H
              exact z_nil ((K _ () HJ trivial).weak (fun a ha => ha.cons rfl (ha.cons rfl (ha.cons rfl (ha.cons rfl (ha.cons rfl (ha.cons rfl (ha.cons rfl (ha.nil)))))))) (fun w hw => hw))
          ·
            replace H := HB
            clear HB
            obtain ⟨x50, rfl⟩ : ∃ x, x = s := ⟨_, rfl⟩
            change T 129 _ _ _
            refine z_val (v := .bool x50) (val_move rfl rfl) rfl rfl rfl (fun _ _ _ => trivial) ?_
            refine z_bind H 3 (fun (s : Bool) (_ : Unit) => [(0, .slice A0 a0.length c0), (3, .int .u64 18446744073709551615), (4, U64 x20.1), (6, U64 x25.1), (8, U64 x30.1), (54, .bool s)]) (fun _ _ => Mm w [] h []) (fun _ _ => True) (fun Gr K s he HJ => ?_) (fun s g HB _ => ?_)
            ·
              clear H
              cases x50
              ·
                have H := cond_f he
                clear he
                refine z_val (v := .bool x30.2) (val_move rfl rfl) rfl rfl (by rw [hops]; rfl) (fun _ _ _ => trivial) ?_
                obtain ⟨x53, hx53, H⟩ := Let_elim H
                refine z_val (v := .bool x53) (by subst hx53; exact val_un rfl rfl (bool_not _)) rfl rfl (by rw [hops]; rfl) (fun _ _ _ => trivial) ?_
                clear hx53
                refine z_val (v := .bool x53) (val_pick rfl rfl rfl) rfl rfl rfl (fun _ _ _ => trivial) ?_
                obtain rfl := Option.some.inj H
                exact z_nil ((K _ () HJ trivial).weak (fun a ha => ha.cons rfl (ha.cons rfl (ha.cons rfl (ha.cons rfl (ha.cons rfl (ha.cons rfl (ha.nil))))))) (fun w hw => hw))
              ·
                have H := cond_t he
                clear he
                refine z_skip rfl rfl (by rw [hops]; rfl) (fun _ _ _ => trivial) ?_
                refine z_skip rfl rfl (by rw [hops]; rfl) (fun _ _ _ => trivial) ?_
                refine z_val (v := .bool true) (val_pick rfl rfl rfl) rfl rfl rfl (fun _ _ _ => trivial) ?_
                obtain rfl := Option.some.inj H
                exact z_nil ((K _ () HJ trivial).weak (fun a ha => ha.cons rfl (ha.cons rfl (ha.cons rfl (ha.cons rfl (ha.cons rfl (ha.cons rfl (ha.nil))))))) (fun w hw => hw))
            ·
              replace H := HB
              clear HB
              obtain ⟨x54, rfl⟩ : ∃ x, x = s := ⟨_, rfl⟩
              change T 129 _ _ _
              refine z_nil ?_
              cases x54
              ·
                replace H := cond_f H
                refine t_cond_false rfl ?_
                refine t_skip ?_
                refine t_seq ?_
                refine t_region (fun ops hops => ?_)
                clear hops
                obtain ⟨x56, hx56, H⟩ := Let_elim H
                have hlx56 : x56.length = 0 := by subst hx56; rfl
                refine z_buildSlice' (e := 5) (f := U8) (xs := x56) (vs := []) rfl rfl (by subst hx56; intro w; kernel_rfl) hlx56 (by decide) rfl rfl rfl (fun _ _ _ _ => trivial) (fun g_3 hs_5 => ?_)
                clear hx56 hlx56
                refine z_val (v := .slice (some ⟨g_3, 0, none⟩) x56.length 0) (val_assign rfl rfl) rfl rfl rfl (fun _ _ _ => trivial) ?_
                refine z_nil ?_
                refine t_seq ?_
                refine t_seq ?_
                refine t_region (fun ops hops => ?_)
                clear hops
                refine z_val (v := U64 x20.1) (val_move rfl rfl) rfl rfl rfl (fun _ _ _ => trivial) ?_
                obtain ⟨x58, hx58, H⟩ := Let_elim H
                refine z_val (v := .bool x58) (by rw [hx58]; exact val_bin rfl rfl rfl rfl (u64_lss_r _ 1099511627776 x20.1)) rfl rfl rfl (fun _ _ _ => trivial) ?_
                clear hx58
                refine z_nil ?_
                refine t_bind H (fun (s : (List (BitVec 8))) (g : (Option Addr) × (Nat)) => [(3, .int .u64 18446744073709551615), (4, U64 x20.1), (6, U64 x25.1), (8, U64 x30.1), (10, .slice g.1 s.length g.2)]) (fun (s : (List (BitVec 8))) (g : (Option Addr) × (Nat)) => Mm w [] h [.row (.slice g.1 s.length g.2) 5 1 (s.map U8)]) (fun (s : (List (BitVec 8))) (g : (Option Addr) × (Nat)) => Shp g.1 s.length g.2) (fun Gr K s he HJ => ?_) (fun s g HB hφ => ?_)
                ·
                  clear H
                  cases x58
                  ·
                    have H := cond_f he
                    clear he
                    refine t_cond_false rfl ?_
                    refine t_skip ?_
                    obtain rfl := Option.some.inj H
                    exact t_reach ((K _ ⟨(some ⟨g_3, 0, none⟩), 0⟩ HJ hs_5).weak (fun a ha => ha.cons rfl (ha.cons rfl (ha.cons rfl (ha.cons rfl (ha.cons rfl (ha.nil)))))) (fun w hw => hw))
                  ·
                    have H := cond_t he
                    clear he
                    refine t_cond_true rfl ?_
                    refine t_region (fun ops hops => ?_)
                    clear hops
                    refine z_val (v := .slice A0 a0.length c0) (val_move rfl rfl) rfl rfl rfl (fun _ _ _ => trivial) ?_
                    refine z_val (v := U64 x20.1) (val_move rfl rfl) rfl rfl rfl (fun _ _ _ => trivial) ?_
                    obtain ⟨x61, hx61, H⟩ := Let_elim H
                    refine z_val (v := .int .i64 x61) (by subst hx61; exact val_conv rfl rfl (fun w => conv_u64_int w _ _ _ (by rw [Try.underlying38]; rfl) Try.underlying3)) rfl rfl rfl (fun _ _ _ => trivial) ?_
                    clear hx61
                    obtain ⟨x62, hx62, H⟩ := Let_elim H
                    refine z_val (v := .int .i64 x62) (by subst hx62; exact val_bin rfl rfl rfl rfl (i64_add _ _ _)) rfl rfl rfl (fun _ _ _ => trivial) ?_
                    clear hx62
                    refine z_val (v := U64 x25.1) (val_move rfl rfl) rfl rfl rfl (fun _ _ _ => trivial) ?_
                    obtain ⟨x64, hx64, H⟩ := Let_elim H
                    refine z_val (v := U64 x64) (by subst hx64; exact val_minU (f := U64) (kk := .u64) rfl rfl (fun _ => rfl) rfl) rfl rfl rfl (fun _ _ _ => trivial) ?_
                    clear hx64
                    obtain ⟨x65, hx65, H⟩ := Let_elim H
                    refine z_val (v := .int .i64 x65) (by subst hx65; exact val_conv rfl rfl (fun w => conv_u64_int w _ _ _ (by rw [Try.underlying38]; rfl) Try.underlying3)) rfl rfl rfl (fun _ _ _ => trivial) ?_
                    clear hx65
                    obtain ⟨x66, hx_10, H⟩ := Option.bind_eq_some_iff.1 H
                    refine z_madeS (F := fun A_11 c_12 => .slice A_11 x66.length c_12) (xs := x66) rfl Try.func21 nm21 bs21 rfl (fun w hw => smithyref09_Part.calls a0 x62 x65 A0 c0 x66 hx_10 w (hs0.toW hw) hc0) rfl rfl rfl (fun _ _ _ _ _ => trivial) (fun A_11 c_12 hs_13 => ?_)
                    clear hx_10
                    refine z_val (v := .slice A_11 x66.length c_12) (val_assign rfl rfl) rfl rfl rfl (fun _ _ _ => trivial) ?_
                    refine z_nil ?_
                    obtain rfl := Option.some.inj H
                    exact t_reach ((K _ ⟨A_11, c_12⟩ HJ hs_13).weak (fun a ha => ha.cons rfl (ha.cons rfl (ha.cons rfl (ha.cons rfl (ha.cons rfl (ha.nil)))))) (fun w hw => hw.sel [0] rfl rfl))
                ·
                  replace H := HB
                  clear HB
                  obtain ⟨x10, rfl⟩ : ∃ x, x = s := ⟨_, rfl⟩
                  obtain ⟨A_6, c_7⟩ := g
                  try dsimp only at hφ
                  have hs_8 := hφ; clear hφ
                  try dsimp only at H
                  change T 129 _ _ _
                  refine t_seq ?_
                  refine t_region (fun ops hops => ?_)
                  clear hops
                  refine z_val (v := .slice A_6 x10.length c_7) (val_move rfl rfl) rfl rfl rfl (fun _ _ _ => trivial) ?_
                  obtain ⟨x68, hx_15, H⟩ := Option.bind_eq_some_iff.1 H
                  refine z_made (v := U64 x68) rfl Try.func39 nm39 bs39 rfl (fun w hw => smithyref09_top.calls x10 A_6 c_7 x68 hx_15 w (row_w hw (j := 0) rfl) hs_8.le) rfl rfl rfl (fun _ _ _ => trivial) ?_
                  clear hx_15
                  refine z_val (v := U64 x68) (val_assign rfl rfl) rfl rfl rfl (fun _ _ _ => trivial) ?_
                  refine z_nil ?_
                  refine t_seq ?_
                  refine t_region (fun ops hops => ?_)
                  clear hops
                  refine z_val (v := U64 x20.1) (val_move rfl rfl) rfl rfl rfl (fun _ _ _ => trivial) ?_
                  refine z_val (v := U64 x30.1) (val_move rfl rfl) rfl rfl rfl (fun _ _ _ => trivial) ?_
                  obtain ⟨x71, hx71, H⟩ := Let_elim H
                  refine z_val (v := U64 x71) (by subst hx71; exact val_maxU (f := U64) (kk := .u64) rfl rfl (fun _ => rfl) rfl) rfl rfl rfl (fun _ _ _ => trivial) ?_
                  clear hx71
                  obtain ⟨x72, hx72, H⟩ := Let_elim H
                  refine z_val (v := U64 x72) (by subst hx72; exact val_bin rfl rfl rfl rfl (u64_quo_r _ _ _ (by decide) (by decide))) rfl rfl rfl (fun _ _ _ => trivial) ?_
                  clear hx72
                  refine z_val (v := U64 x72) (val_assign rfl rfl) rfl rfl rfl (fun _ _ _ => trivial) ?_
                  refine z_nil ?_
                  refine t_seq ?_
                  refine t_seq ?_
                  refine t_region (fun ops hops => ?_)
                  clear hops
                  refine z_val (v := U64 x20.1) (val_move rfl rfl) rfl rfl rfl (fun _ _ _ => trivial) ?_
                  refine z_val (v := U64 x30.1) (val_move rfl rfl) rfl rfl rfl (fun _ _ _ => trivial) ?_
                  obtain ⟨x75, hx75, H⟩ := Let_elim H
                  refine z_val (v := U64 x75) (by subst hx75; exact val_maxU (f := U64) (kk := .u64) rfl rfl (fun _ => rfl) rfl) rfl rfl rfl (fun _ _ _ => trivial) ?_
                  clear hx75
                  obtain ⟨x76, hx76, H⟩ := Let_elim H
                  refine z_val (v := U64 x76) (by subst hx76; exact val_bin rfl rfl rfl rfl (u64_rem_r _ _ _ (by decide) (by decide))) rfl rfl rfl (fun _ _ _ => trivial) ?_
                  clear hx76
                  obtain ⟨x77, hx77, H⟩ := Let_elim H
                  refine z_val (v := .bool x77) (by subst hx77; exact val_bin rfl rfl rfl rfl (u64_neq_r _ 0 x76)) rfl rfl rfl (fun _ _ _ => trivial) ?_
                  clear hx77
                  refine z_nil ?_
                  refine t_bind H (fun (s : (BitVec 64)) (g : Unit) => [(3, .int .u64 18446744073709551615), (6, U64 x25.1), (11, U64 x68), (12, U64 s)]) (fun (s : (BitVec 64)) (g : Unit) => Mm w [] h []) (fun (s : (BitVec 64)) (g : Unit) => True) (fun Gr K s he HJ => ?_) (fun s g HB hφ => ?_)
                  ·
                    clear H
                    cases x77
                    ·
                      have H := cond_f he
                      clear he
                      refine t_cond_false rfl ?_
                      refine t_skip ?_
                      obtain rfl := Option.some.inj H
                      exact t_reach ((K _ () HJ trivial).weak (fun a ha => ha.cons rfl (ha.cons rfl (ha.cons rfl (ha.cons rfl (ha.nil))))) (fun w hw => hw.sel [] rfl rfl))
                    ·
                      have H := cond_t he
                      clear he
                      refine t_cond_true rfl ?_
                      refine t_region (fun ops hops => ?_)
                      clear hops
                      refine z_val (v := U64 x72) (val_move rfl rfl) rfl rfl rfl (fun _ _ _ => trivial) ?_
                      obtain ⟨x79, hx79, H⟩ := Let_elim H
                      refine z_val (v := U64 x79) (by subst hx79; exact val_bin rfl rfl rfl rfl (u64_add_r _ _ _)) rfl rfl rfl (fun _ _ _ => trivial) ?_
                      clear hx79
                      refine z_val (v := U64 x79) (val_assign rfl rfl) rfl rfl rfl (fun _ _ _ => trivial) ?_
                      refine z_nil ?_
                      obtain rfl := Option.some.inj H
                      exact t_reach ((K _ () HJ trivial).weak (fun a ha => ha.cons rfl (ha.cons rfl (ha.cons rfl (ha.cons rfl (ha.nil))))) (fun w hw => hw.sel [] rfl rfl))
                  ·
                    replace H := HB
                    clear HB
                    obtain ⟨x12, rfl⟩ : ∃ x, x = s := ⟨_, rfl⟩
                    try dsimp only at H
                    change T 129 _ _ _
                    refine t_seq ?_
                    refine t_region (fun ops hops => ?_)
                    clear hops
                    refine z_val (v := U64 x68) (val_move rfl rfl) rfl rfl rfl (fun _ _ _ => trivial) ?_
                    obtain ⟨x81, hx_16, H⟩ := Option.bind_eq_some_iff.1 H
                    refine z_madeS (F := fun A_17 c_18 => .slice A_17 x81.length c_18) (xs := x81) rfl Try.func40 nm40 bs40 rfl (fun w hw => smithyref09_digits.calls x68 x81 hx_16 w) rfl rfl rfl (fun _ _ _ _ _ => trivial) (fun A_17 c_18 hs_19 => ?_)
                    clear hx_16
                    refine z_val (v := .slice A_17 x81.length c_18) (val_assign rfl rfl) rfl rfl rfl (fun _ _ _ => trivial) ?_
                    refine z_nil ?_
                    refine t_seq ?_
                    refine t_seq ?_
                    refine t_region (fun ops hops => ?_)
                    clear hops
                    refine z_val (v := U64 x25.1) (val_move rfl rfl) rfl rfl rfl (fun _ _ _ => trivial) ?_
                    obtain ⟨x83, hx83, H⟩ := Let_elim H
                    refine z_val (v := .bool x83) (by subst hx83; exact val_bin rfl rfl rfl rfl (u64_gtr_r _ 32 x25.1)) rfl rfl rfl (fun _ _ _ => trivial) ?_
                    clear hx83
                    refine z_nil ?_
                    refine t_bind H (fun (s : (List (Int))) (g : (Option Addr) × (Nat)) => [(3, .int .u64 18446744073709551615), (12, U64 x12), (13, .slice g.1 s.length g.2)]) (fun (s : (List (Int))) (g : (Option Addr) × (Nat)) => Mm w [] h [.row (.slice g.1 s.length g.2) 3 1 (s.map (Value.int .i64))]) (fun (s : (List (Int))) (g : (Option Addr) × (Nat)) => Shp g.1 s.length g.2) (fun Gr K s he HJ => ?_) (fun s g HB hφ => ?_)
                    ·
                      clear H
                      cases x83
                      ·
                        have H := cond_f he
                        clear he
                        refine t_cond_false rfl ?_
                        refine t_skip ?_
                        obtain rfl := Option.some.inj H
                        exact t_reach ((K _ ⟨A_17, c_18⟩ HJ hs_19).weak (fun a ha => ha.cons rfl (ha.cons rfl (ha.cons rfl (ha.nil)))) (fun w hw => hw))
                      ·
                        have H := cond_t he
                        clear he
                        refine t_cond_true rfl ?_
                        refine t_region (fun ops hops => ?_)
                        clear hops
                        refine z_val (v := .slice A_17 x81.length c_18) (val_move rfl rfl) rfl rfl rfl (fun _ _ _ => trivial) ?_
                        refine z_val (v := U64 x25.1) (val_move rfl rfl) rfl rfl rfl (fun _ _ _ => trivial) ?_
                        obtain ⟨x86, hx86, H⟩ := Let_elim H
                        refine z_val (v := U64 x86) (by subst hx86; exact val_bin rfl rfl rfl rfl (u64_sub_r _ _ _)) rfl rfl rfl (fun _ _ _ => trivial) ?_
                        clear hx86
                        obtain ⟨x87, hx_25, H⟩ := Option.bind_eq_some_iff.1 H
                        refine z_madeS (F := fun A_26 c_27 => .slice A_26 x87.length c_27) (xs := x87) rfl Try.func40 nm40 bs40 rfl (fun w hw => smithyref09_digits.calls x86 x87 hx_25 w) rfl rfl rfl (fun _ _ _ _ _ => trivial) (fun A_26 c_27 hs_28 => ?_)
                        clear hx_25
                        obtain ⟨x88, hx_30, H⟩ := Option.bind_eq_some_iff.1 H
                        refine z_madeS (F := fun A_31 c_32 => .slice A_31 x88.length c_32) (xs := x88) rfl Try.func40 nm40 bs40 rfl (fun w hw => smithyref09_digits.calls 8#64 x88 hx_30 w) rfl rfl rfl (fun _ _ _ _ _ => trivial) (fun A_31 c_32 hs_33 => ?_)
                        clear hx_30
                        obtain ⟨x89, hx_35, H⟩ := Option.bind_eq_some_iff.1 H
                        refine z_madeS (F := fun A_36 c_37 => .slice A_36 x89.length c_37) (xs := x89) rfl Try.func27 nm27 bs27 rfl (fun w hw => smithyref02_Times.calls x87 x88 A_26 c_27 A_31 c_32 x89 hx_35 w (row_w hw (j := 1) rfl) hs_28.le (row_w hw (j := 0) rfl) hs_33.le) rfl rfl rfl (fun _ _ _ _ _ => trivial) (fun A_36 c_37 hs_38 => ?_)
                        clear hx_35
                        obtain ⟨x90, hx_40, H⟩ := Option.bind_eq_some_iff.1 H
                        refine z_madeS (F := fun A_41 c_42 => .slice A_41 x90.length c_42) (xs := x90) rfl Try.func41 nm41 bs41 rfl (fun w hw => smithyref02_Plus.calls x81 x89 A_17 c_18 A_36 c_37 x90 hx_40 w (row_w hw (j := 3) rfl) hs_19.le (row_w hw (j := 0) rfl) hs_38.le) rfl rfl rfl (fun _ _ _ _ _ => trivial) (fun A_41 c_42 hs_43 => ?_)
                        clear hx_40
                        refine z_val (v := .slice A_41 x90.length c_42) (val_assign rfl rfl) rfl rfl rfl (fun _ _ _ => trivial) ?_
                        refine z_nil ?_
                        obtain rfl := Option.some.inj H
                        exact t_reach ((K _ ⟨A_41, c_42⟩ HJ hs_43).weak (fun a ha => ha.cons rfl (ha.cons rfl (ha.cons rfl (ha.nil)))) (fun w hw => hw.sel [0] rfl rfl))
                    ·
                      replace H := HB
                      clear HB
                      obtain ⟨x13, rfl⟩ : ∃ x, x = s := ⟨_, rfl⟩
                      obtain ⟨A_21, c_22⟩ := g
                      try dsimp only at hφ
                      have hs_23 := hφ; clear hφ
                      try dsimp only at H
                      change T 129 _ _ _
                      refine t_seq ?_
                      refine t_seq ?_
                      refine t_region (fun ops hops => ?_)
                      clear hops
                      refine z_val (v := .slice A_21 x13.length c_22) (val_move rfl rfl) rfl rfl rfl (fun _ _ _ => trivial) ?_
                      obtain ⟨x92, hx_45, H⟩ := Option.bind_eq_some_iff.1 H
                      refine z_made (v := .bool x92) rfl Try.func13 nm13 bs13 rfl (fun w hw => smithyref02_Zero.calls x13 A_21 c_22 x92 hx_45 w (row_w hw (j := 0) rfl) hs_23.le) rfl rfl rfl (fun _ _ _ => trivial) ?_
                      clear hx_45
                      refine z_nil ?_
                      refine t_bind H (fun (s : (List (Int))) (g : (Option Addr) × (Nat)) => [(3, .int .u64 18446744073709551615), (12, U64 x12), (13, .slice g.1 s.length g.2)]) (fun (s : (List (Int))) (g : (Option Addr) × (Nat)) => Mm w [] h [.row (.slice g.1 s.length g.2) 3 1 (s.map (Value.int .i64))]) (fun (s : (List (Int))) (g : (Option Addr) × (Nat)) => Shp g.1 s.length g.2) (fun Gr K s he HJ => ?_) (fun s g HB hφ => ?_)
                      ·
                        clear H
                        cases x92
                        ·
                          have H := cond_f he
                          clear he
                          refine t_cond_false rfl ?_
                          refine t_skip ?_
                          obtain rfl := Option.some.inj H
                          exact t_reach ((K _ ⟨A_21, c_22⟩ HJ hs_23).weak (fun a ha => ha.cons rfl (ha.cons rfl (ha.cons rfl (ha.nil)))) (fun w hw => hw))
                        ·
                          have H := cond_t he
                          clear he
                          refine t_cond_true rfl ?_
                          refine t_region (fun ops hops => ?_)
                          clear hops
                          obtain ⟨x93, hx_51, H⟩ := Option.bind_eq_some_iff.1 H
                          refine z_madeS (F := fun A_52 c_53 => .slice A_52 x93.length c_53) (xs := x93) rfl Try.func40 nm40 bs40 rfl (fun w hw => smithyref09_digits.calls 1#64 x93 hx_51 w) rfl rfl rfl (fun _ _ _ _ _ => trivial) (fun A_52 c_53 hs_54 => ?_)
                          clear hx_51
                          refine z_val (v := .slice A_52 x93.length c_53) (val_assign rfl rfl) rfl rfl rfl (fun _ _ _ => trivial) ?_
                          refine z_nil ?_
                          obtain rfl := Option.some.inj H
                          exact t_reach ((K _ ⟨A_52, c_53⟩ HJ hs_54).weak (fun a ha => ha.cons rfl (ha.cons rfl (ha.cons rfl (ha.nil)))) (fun w hw => hw.sel [0] rfl rfl))
                      ·
                        replace H := HB
                        clear HB
                        obtain ⟨x13_46, rfl⟩ : ∃ x, x = s := ⟨_, rfl⟩
                        obtain ⟨A_47, c_48⟩ := g
                        try dsimp only at hφ
                        have hs_49 := hφ; clear hφ
                        try dsimp only at H
                        change T 129 _ _ _
                        refine t_seq ?_
                        refine t_region (fun ops hops => ?_)
                        clear hops
                        refine z_val (v := U64 x12) (val_move rfl rfl) rfl rfl rfl (fun _ _ _ => trivial) ?_
                        obtain ⟨x96, hx_56, H⟩ := Option.bind_eq_some_iff.1 H
                        refine z_madeS (F := fun A_57 c_58 => .slice A_57 x96.length c_58) (xs := x96) rfl Try.func40 nm40 bs40 rfl (fun w hw => smithyref09_digits.calls x12 x96 hx_56 w) rfl rfl rfl (fun _ _ _ _ _ => trivial) (fun A_57 c_58 hs_59 => ?_)
                        clear hx_56
                        refine z_val (v := U64 x12) (val_move rfl rfl) rfl rfl rfl (fun _ _ _ => trivial) ?_
                        obtain ⟨x98, hx_61, H⟩ := Option.bind_eq_some_iff.1 H
                        refine z_madeS (F := fun A_62 c_63 => .slice A_62 x98.length c_63) (xs := x98) rfl Try.func40 nm40 bs40 rfl (fun w hw => smithyref09_digits.calls x12 x98 hx_61 w) rfl rfl rfl (fun _ _ _ _ _ => trivial) (fun A_62 c_63 hs_64 => ?_)
                        clear hx_61
                        obtain ⟨x99, hx_66, H⟩ := Option.bind_eq_some_iff.1 H
                        refine z_madeS (F := fun A_67 c_68 => .slice A_67 x99.length c_68) (xs := x99) rfl Try.func27 nm27 bs27 rfl (fun w hw => smithyref02_Times.calls x96 x98 A_57 c_58 A_62 c_63 x99 hx_66 w (row_w hw (j := 1) rfl) hs_59.le (row_w hw (j := 0) rfl) hs_64.le) rfl rfl rfl (fun _ _ _ _ _ => trivial) (fun A_67 c_68 hs_69 => ?_)
                        clear hx_66
                        refine z_val (v := .slice A_47 x13_46.length c_48) (val_move rfl rfl) rfl rfl rfl (fun _ _ _ => trivial) ?_
                        obtain ⟨x101, hx_71, H⟩ := Option.bind_eq_some_iff.1 H
                        refine z_madeS (F := fun A_72 c_73 => .slice A_72 x101.length c_73) (xs := x101) rfl Try.func27 nm27 bs27 rfl (fun w hw => smithyref02_Times.calls x99 x13_46 A_67 c_68 A_47 c_48 x101 hx_71 w (row_w hw (j := 0) rfl) hs_69.le (row_w hw (j := 3) rfl) hs_49.le) rfl rfl rfl (fun _ _ _ _ _ => trivial) (fun A_72 c_73 hs_74 => ?_)
                        clear hx_71
                        obtain ⟨x102, hx_76, H⟩ := Option.bind_eq_some_iff.1 H
                        refine z_madeS (F := fun A_77 c_78 => .slice A_77 x102.length c_78) (xs := x102) rfl Try.func40 nm40 bs40 rfl (fun w hw => smithyref09_digits.calls 3#64 x102 hx_76 w) rfl rfl rfl (fun _ _ _ _ _ => trivial) (fun A_77 c_78 hs_79 => ?_)
                        clear hx_76
                        refine T.sel [1, 0, 2, 3, 4, 5] rfl rfl ?_
                        refine t_seal (fun h_81 hS hs_82 => ?_)
                        have hc_83 := hs_74.le
                        refine t_seal (fun h_84 hS_85 hs_86 => ?_)
                        have hc_87 := hs_79.le
                        replace hs_82 := hs_82.up hS_85
                        obtain ⟨x103, hx_88, H⟩ := Option.bind_eq_some_iff.1 H
                        refine z_callG rfl Try.func26 nm26 bs26 rfl (fun w hw => smithyref02_Div.calls x101 x102 A_72 c_73 A_77 c_78 x103 hx_88 hs_82 hc_83 hs_86 hc_87 hw) rfl rfl rfl (fun _ _ _ _ _ => trivial) (fun g hφ => ?_)
                        obtain ⟨h_89, A_92, c_93, A_96, c_97⟩ := g
                        try dsimp only at hφ
                        obtain ⟨hS_90, hs_94, hs_98⟩ := hφ
                        clear hx_88
                        change T 129 _ _ _
                        replace hs_82 := hs_82.up hS_90
                        replace hs_86 := hs_86.up hS_90
                        refine z_val (v := .tuple #[.slice A_92 x103.1.length c_93, .slice A_96 x103.2.length c_97]) (val_move rfl rfl) rfl rfl rfl (fun _ _ _ => trivial) ?_
                        refine z_val (v := .slice A_92 x103.1.length c_93) (val_extract rfl rfl rfl) rfl rfl rfl (fun _ _ _ => trivial) ?_
                        refine z_val (v := .slice A_96 x103.2.length c_97) (val_extract rfl rfl rfl) rfl rfl rfl (fun _ _ _ => trivial) ?_
                        refine z_val (v := .slice A_92 x103.1.length c_93) (val_assign rfl rfl) rfl rfl rfl (fun _ _ _ => trivial) ?_
                        refine z_val (v := .slice A_96 x103.2.length c_97) (val_assign rfl rfl) rfl rfl rfl (fun _ _ _ => trivial) ?_
                        refine z_nil ?_
                        refine t_seq ?_
                        refine t_seq ?_
                        refine t_region (fun ops hops => ?_)
                        clear hops
                        refine z_val (v := .slice A_92 x103.1.length c_93) (val_move rfl rfl) rfl rfl rfl (fun _ _ _ => trivial) ?_
                        refine z_val (v := .int .u64 18446744073709551615) (val_move rfl rfl) rfl rfl rfl (fun _ _ _ => trivial) ?_
                        obtain ⟨x108, hx_99, H⟩ := Option.bind_eq_some_iff.1 H
                        refine z_madeS (F := fun A_100 c_101 => .slice A_100 x108.length c_101) (xs := x108) rfl Try.func40 nm40 bs40 rfl (fun w hw => smithyref09_digits.calls 18446744073709551615#64 x108 hx_99 w) rfl rfl rfl (fun _ _ _ _ _ => trivial) (fun A_100 c_101 hs_102 => ?_)
                        clear hx_99
                        obtain ⟨x109, hx_104, H⟩ := Option.bind_eq_some_iff.1 H
                        refine z_made (v := .bool x109) rfl Try.func16 nm16 bs16 rfl (fun w hw => smithyref02_Less.calls x103.1 x108 A_92 c_93 A_100 c_101 x109 hx_104 w (row_w hw (j := 1) rfl) hs_94.le (row_w hw (j := 0) rfl) hs_102.le) rfl rfl rfl (fun _ _ _ => trivial) ?_
                        clear hx_104
                        obtain ⟨x110, hx110, H⟩ := Let_elim H
                        refine z_val (v := .bool x110) (by subst hx110; exact val_un rfl rfl (bool_not _)) rfl rfl rfl (fun _ _ _ => trivial) ?_
                        clear hx110
                        refine z_nil ?_
                        cases x110
                        ·
                          replace H := cond_f H
                          refine t_cond_false rfl ?_
                          refine t_skip ?_
                          refine t_seq ?_
                          refine t_region (fun ops hops => ?_)
                          clear hops
                          refine z_val (v := .int .u64 0) (val_assign rfl rfl) rfl rfl rfl (fun _ _ _ => trivial) ?_
                          refine z_nil ?_
                          refine t_seq ?_
                          refine t_seq ?_
                          refine t_region (fun ops hops => ?_)
                          clear hops
                          refine z_val (v := .slice A_92 x103.1.length c_93) (val_move rfl rfl) rfl rfl rfl (fun _ _ _ => trivial) ?_
                          obtain ⟨x113, hx113, H⟩ := Let_elim H
                          refine z_val (v := .int .i64 x113) (by subst hx113; exact val_len rfl rfl rfl Try.underlying31) rfl rfl rfl (fun _ _ _ => trivial) ?_
                          clear hx113
                          obtain ⟨x114, hx114, H⟩ := Let_elim H
                          refine z_val (v := .int .i64 x114) (by subst hx114; exact val_bin rfl rfl rfl rfl (i64_sub _ _ _)) rfl rfl rfl (fun _ _ _ => trivial) ?_
                          clear hx114
                          refine z_val (v := .int .i64 x114) (val_assign rfl rfl) rfl rfl rfl (fun _ _ _ => trivial) ?_
                          refine z_nil ?_
                          refine t_block ?_
                          obtain ⟨z1, hz1, HK1⟩ := Option.bind_eq_some_iff.1 H
                          clear H
                          refine t_while hz1 (fun (s : (BitVec 64) × (Int)) (g : Unit) => [(14, .slice A_92 x103.1.length c_93), (16, U64 s.1), (17, .int .i64 s.2)]) (fun (s : (BitVec 64) × (Int)) (g : Unit) => [(16, U64 s.1)]) (fun (s : (BitVec 64) × (Int)) (g : Unit) => Mm w [] h_89 [.row (.slice A_92 x103.1.length c_93) 3 1 (x103.1.map (Value.int .i64))]) (fun (s : (BitVec 64) × (Int)) (g : Unit) => Mm w [] h_89 []) (fun (s : (BitVec 64) × (Int)) (g : Unit) => True) (fun (s : (BitVec 64) × (Int)) (g : Unit) => True) () trivial (fun a w ha hw => ⟨ha.cons rfl (ha.cons rfl (ha.cons rfl (ha.nil))), hw.sel [1] rfl rfl⟩) (fun Gn Gb s g e hφ H hn1 hb1 hr1 => ?_) (fun s g hzz hφ => ?_)
                          ·
                            obtain ⟨x16, x17⟩ := s
                            change smithyref09_Gas.b1 x103 x16 x17 = some e at H
                            unfold smithyref09_Gas.b1 at H
                            clear hz1
                            change T 129 _ _ _
                            refine t_seq ?_
                            refine t_seq ?_
                            refine t_region (fun ops hops => ?_)
                            clear hops
                            refine z_val (v := .int .i64 x17) (val_move rfl rfl) rfl rfl rfl (fun _ _ _ => trivial) ?_
                            obtain ⟨x116, hx116, H⟩ := Let_elim H
                            refine z_val (v := .bool x116) (by subst hx116; exact val_bin rfl rfl rfl rfl (i64_geq _ _ _)) rfl rfl rfl (fun _ _ _ => trivial) ?_
                            clear hx116
                            refine z_nil ?_
                            cases x116
                            ·
                              replace H := cond_f H
                              refine t_cond_false rfl ?_
                              refine t_exit rfl ?_
                              obtain rfl := Option.some.inj H
                              exact t_reach ((hb1 _ () rfl trivial).weak (fun a ha => ha.cons rfl (ha.nil)) (fun w hw => hw.sel [] rfl rfl))
                            ·
                              replace H := cond_t H
                              refine t_cond_true rfl ?_
                              refine t_skip ?_
                              refine t_seq ?_
                              refine t_block ?_
                              refine t_region (fun ops hops => ?_)
                              clear hops
                              refine z_val (v := U64 x16) (val_move rfl rfl) rfl rfl rfl (fun _ _ _ => trivial) ?_
                              obtain ⟨x120, hx120, H⟩ := Let_elim H
                              refine z_val (v := U64 x120) (by subst hx120; exact val_bin rfl rfl rfl rfl (u64_mul_r _ _ _)) rfl rfl rfl (fun _ _ _ => trivial) ?_
                              clear hx120
                              refine z_val (v := .slice A_92 x103.1.length c_93) (val_move rfl rfl) rfl rfl rfl (fun _ _ _ => trivial) ?_
                              refine z_val (v := .int .i64 x17) (val_move rfl rfl) rfl rfl rfl (fun _ _ _ => trivial) ?_
                              obtain ⟨hq_105, H⟩ := Chk_elim H
                              obtain ⟨g_106, hA_107⟩ := hs_94.blk (by omega)
                              refine z_val (v := .pointer (some ⟨g_106, x17.toNat, none⟩)) (val_idxS1 rfl rfl rfl Try.underlying31 sz3 hq_105 hA_107 rfl) rfl rfl rfl (fun _ _ _ => trivial) ?_
                              obtain ⟨x124, hx124, H⟩ := Let_elim H
                              refine z_val (v := .int .i64 x124) (by subst hx124; exact val_load1 rfl rfl Try.underlying3 rfl (fun _ hw => row_cell' hw (j := 0) rfl hA_107 (idx_lt hq_105))) rfl rfl rfl (fun _ _ _ => trivial) ?_
                              clear hx124
                              obtain ⟨x125, hx125, H⟩ := Let_elim H
                              refine z_val (v := U64 x125) (by subst hx125; exact val_conv rfl rfl (fun w => conv_int_u64 w _ _ .i64 _ (by rw [Try.underlying3]; rfl) Try.underlying38)) rfl rfl rfl (fun _ _ _ => trivial) ?_
                              clear hx125
                              obtain ⟨x126, hx126, H⟩ := Let_elim H
                              refine z_val (v := U64 x126) (by subst hx126; exact val_bin rfl rfl rfl rfl (u64_add _ _ _)) rfl rfl rfl (fun _ _ _ => trivial) ?_
                              clear hx126
                              refine z_val (v := U64 x126) (val_assign rfl rfl) rfl rfl rfl (fun _ _ _ => trivial) ?_
                              refine z_nil ?_
                              refine t_fin ?_
                              refine t_region (fun ops hops => ?_)
                              clear hops
                              refine z_val (v := .int .i64 x17) (val_move rfl rfl) rfl rfl rfl (fun _ _ _ => trivial) ?_
                              obtain ⟨x118, hx118, H⟩ := Let_elim H
                              refine z_val (v := .int .i64 x118) (by subst hx118; exact val_bin rfl rfl rfl rfl (i64_sub _ _ _)) rfl rfl rfl (fun _ _ _ => trivial) ?_
                              clear hx118
                              refine z_val (v := .int .i64 x118) (val_assign rfl rfl) rfl rfl rfl (fun _ _ _ => trivial) ?_
                              refine z_nil ?_
                              obtain rfl := Option.some.inj H
                              exact t_reach ((hn1 _ () rfl trivial).weak (fun a ha => ha.cons rfl (ha.cons rfl (ha.cons rfl (ha.nil)))) (fun w hw => hw))
                          ·
                            obtain ⟨x16, x17⟩ := s
                            subst hzz
                            have H := HK1
                            clear HK1 hz1
                            replace H := sum_l H
                            try dsimp only at H
                            change T 129 _ _ _
                            refine t_seq ?_
                            refine t_region (fun ops hops => ?_)
                            clear hops
                            refine z_val (v := U64 x16) (val_move rfl rfl) rfl rfl rfl (fun _ _ _ => trivial) ?_
                            obtain ⟨x128, hx128, H⟩ := Let_elim H
                            refine z_val (v := U64 x128) (by subst hx128; exact val_maxU (f := U64) (kk := .u64) rfl rfl (fun _ => rfl) rfl) rfl rfl rfl (fun _ _ _ => trivial) ?_
                            clear hx128
                            refine z_val (v := U64 x128) (val_assign rfl rfl) rfl rfl rfl (fun _ _ _ => trivial) ?_
                            refine z_nil ?_
                            refine t_ret ?_
                            obtain rfl := Option.some.inj H
                            exact ret1 rfl (res_tmp rfl) (fun _ hw => ⟨rfl, hw.below⟩)
                        ·
                          replace H := cond_t H
                          refine t_cond_true rfl ?_
                          refine t_seq ?_
                          refine t_region (fun ops hops => ?_)
                          clear hops
                          refine z_val (v := .int .u64 18446744073709551615) (val_move rfl rfl) rfl rfl rfl (fun _ _ _ => trivial) ?_
                          refine z_val (v := .int .u64 18446744073709551615) (val_assign rfl rfl) rfl rfl rfl (fun _ _ _ => trivial) ?_
                          refine z_nil ?_
                          refine t_ret ?_
                          obtain rfl := Option.some.inj H
                          exact ret1 rfl (res_tmp rfl) (fun _ hw => ⟨rfl, hw.below⟩)
              ·
                replace H := cond_t H
                refine t_cond_true rfl ?_
                refine t_seq ?_
                refine t_region (fun ops hops => ?_)
                clear hops
                refine z_val (v := .int .u64 18446744073709551615) (val_move rfl rfl) rfl rfl rfl (fun _ _ _ => trivial) ?_
                refine z_val (v := .int .u64 18446744073709551615) (val_assign rfl rfl) rfl rfl rfl (fun _ _ _ => trivial) ?_
                refine z_nil ?_
                refine t_ret ?_
                obtain rfl := Option.some.inj H
                exact ret1 rfl (res_tmp rfl) (fun _ hw => ⟨rfl, hw.below⟩)
        ·
          replace H := cond_t H
          refine t_cond_true rfl ?_
          refine t_seq ?_
          refine t_region (fun ops hops => ?_)
          clear hops
          refine z_val (v := .int .u64 200) (val_assign rfl rfl) rfl rfl rfl (fun _ _ _ => trivial) ?_
          refine z_nil ?_
          refine t_ret ?_
          obtain rfl := Option.some.inj H
          exact ret1 rfl (res_tmp rfl) (fun _ hw => ⟨rfl, hw.below⟩)
end Go.Proofs.Ytccilbklafhjiaa
