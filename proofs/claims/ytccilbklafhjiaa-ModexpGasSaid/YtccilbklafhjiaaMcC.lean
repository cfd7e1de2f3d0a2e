/- Functions of the program as plain functions, and their walks, printed by walk.py. -/
import Derived.Test.YtccilbklafhjiaaMcF
namespace Go.Proofs.Ytccilbklafhjiaa
open Go.RowKit
set_option linter.unusedVariables false
set_option linter.unusedSimpArgs false
def smithyref02_at (a0 : List (Int)) (a1 : Int) : Option (Int) :=
  Let ((a0.length : Int)) fun x7 => Let (decide (a1 < x7)) fun x8 => (bif x8 then Chk ((0 : Int) ≤ a1 ∧ a1 < (a0.length : Int)) <| Let (lget a0 a1.toNat) fun x12 => some x12 else some 0)
set_option maxRecDepth 100000 in
theorem smithyref02_at.calls  (a0 : List (Int)) (a1 : Int) (A0 : Option Addr) (c0 : Nat) (r : Int) (H : smithyref02_at a0 a1 = some r) (w : World) (hs0 : SlW w (Value.int .i64) A0 a0) (hc0 : a0.length ≤ c0)  :
    Made Try.prog 28 #[.slice A0 a0.length c0, .int .i64 a1] w (.int .i64 r) := by
  unfold smithyref02_at at H
  replace hs0 := hs0.toH
  have hM := Mm.start w (snap w) (snap_ok w)
  generalize snap w = h at *
  refine t_enter (vs := [.slice A0 a0.length c0, .int .i64 a1]) (n := 13) Try.func28 rfl rfl rfl hM ?_
  clear hM
  change T 13 _ _ _
  refine t_seq ?_
  refine t_region (fun ops hops => ?_)
  clear hops
  refine z_val (v := .int .i64 0) (val_assign rfl rfl) rfl rfl rfl (fun _ _ _ => trivial) ?_
  refine z_nil ?_
  refine t_seq ?_
  refine t_seq ?_
  refine t_region (fun ops hops => ?_)
  clear hops
  refine z_val (v := .int .i64 a1) (val_move rfl rfl) rfl rfl rfl (fun _ _ _ => trivial) ?_
  refine z_val (v := .slice A0 a0.length c0) (val_move rfl rfl) rfl rfl rfl (fun _ _ _ => trivial) ?_
  obtain ⟨x7, hx7, H⟩ := Let_elim H
  refine z_val (v := .int .i64 x7) (by subst hx7; exact val_len rfl rfl rfl Try.underlying31) rfl rfl rfl (fun _ _ _ => trivial) ?_
  clear hx7
  obtain ⟨x8, hx8, H⟩ := Let_elim H
  refine z_val (v := .bool x8) (by subst hx8; exact val_bin rfl rfl rfl rfl (i64_lss _ _ _)) rfl rfl rfl (fun _ _ _ => trivial) ?_
  clear hx8
  refine z_nil ?_
  cases x8
  ·
    replace H := cond_f H
    refine t_cond_false rfl ?_
    refine t_skip ?_
    refine t_seq ?_
    refine t_region (fun ops hops => ?_)
    clear hops
    refine z_val (v := .int .i64 0) (val_assign rfl rfl) rfl rfl rfl (fun _ _ _ => trivial) ?_
    refine z_nil ?_
    refine t_ret ?_
    obtain rfl := Option.some.inj H
    exact ret1 rfl (res_tmp rfl) (fun _ hw => ⟨rfl, hw.below⟩)
  ·
    replace H := cond_t H
    refine t_cond_true rfl ?_
    refine t_seq ?_
    refine t_region (fun ops hops => ?_)
    clear hops
    refine z_val (v := .slice A0 a0.length c0) (val_move rfl rfl) rfl rfl rfl (fun _ _ _ => trivial) ?_
    refine z_val (v := .int .i64 a1) (val_move rfl rfl) rfl rfl rfl (fun _ _ _ => trivial) ?_
    obtain ⟨hq_1, H⟩ := Chk_elim H
    obtain ⟨b_2, o_3, hA_4, hc_5⟩ := hs0.at_ (idx_lt hq_1)
    refine z_val (v := .pointer (some ⟨b_2, o_3 + a1.toNat, none⟩)) (val_idxS0 rfl rfl rfl Try.underlying31 sz3 hq_1 hA_4 rfl) rfl rfl rfl (fun _ _ _ => trivial) ?_
    obtain ⟨x12, hx12, H⟩ := Let_elim H
    refine z_val (v := .int .i64 x12) (by subst hx12; exact val_load1 rfl rfl Try.underlying3 rfl (fun _ hw => hc_5.cell hw)) rfl rfl rfl (fun _ _ _ => trivial) ?_
    clear hx12
    refine z_val (v := .int .i64 x12) (val_assign rfl rfl) rfl rfl rfl (fun _ _ _ => trivial) ?_
    refine z_nil ?_
    refine t_ret ?_
    obtain rfl := Option.some.inj H
    exact ret1 rfl (res_tmp rfl) (fun _ hw => ⟨rfl, hw.below⟩)
def smithyref02_Zero.b1 (x5 : Int) (a0 : List (Int)) (x6 : Int) : Option (Ctl ((Int)) (Bool)) :=
  Let (decide (x6 < x5)) fun x7 => (bif x7 then Chk ((0 : Int) ≤ x6 ∧ x6 < (a0.length : Int)) <| Let (lget a0 x6.toNat) fun x12 => Let (x12 != 0) fun x13 => (bif x13 then some (.ret false) else Let (wi (x6 + 1)) fun x14 => some (.next x14)) else some (.brk x6))
def smithyref02_Zero (a0 : List (Int)) : Option (Bool) :=
  Let ((a0.length : Int)) fun x5 => (wlx (σ := (Int)) (fun s => smithyref02_Zero.b1 x5 a0 s) 0).bind (Sum.elim (fun x6 => some true) (fun r => some r))
set_option maxRecDepth 100000 in
theorem smithyref02_Zero.calls  (a0 : List (Int)) (A0 : Option Addr) (c0 : Nat) (r : Bool) (H : smithyref02_Zero a0 = some r) (w : World) (hs0 : SlW w (Value.int .i64) A0 a0) (hc0 : a0.length ≤ c0)  :
    Made Try.prog 13 #[.slice A0 a0.length c0] w (.bool r) := by
  unfold smithyref02_Zero at H
  replace hs0 := hs0.toH
  have hM := Mm.start w (snap w) (snap_ok w)
  generalize snap w = h at *
  refine t_enter (vs := [.slice A0 a0.length c0]) (n := 15) Try.func13 rfl rfl rfl hM ?_
  clear hM
  change T 15 _ _ _
  refine t_seq ?_
  refine t_region (fun ops hops => ?_)
  clear hops
  refine z_val (v := .bool false) (val_assign rfl rfl) rfl rfl rfl (fun _ _ _ => trivial) ?_
  refine z_nil ?_
  refine t_seq ?_
  refine t_seq ?_
  refine t_region (fun ops hops => ?_)
  clear hops
  refine z_val (v := .slice A0 a0.length c0) (val_move rfl rfl) rfl rfl rfl (fun _ _ _ => trivial) ?_
  obtain ⟨x5, hx5, H⟩ := Let_elim H
  refine z_val (v := .int .i64 x5) (by subst hx5; exact val_len rfl rfl rfl Try.underlying31) rfl rfl rfl (fun _ _ _ => trivial) ?_
  clear hx5
  refine z_val (v := .int .i64 0) (val_move rfl rfl) rfl rfl rfl (fun _ _ _ => trivial) ?_
  refine z_nil ?_
  refine t_block ?_
  obtain ⟨z1, hz1, HK1⟩ := Option.bind_eq_some_iff.1 H
  clear H
  refine t_while hz1 (fun (s : (Int)) (g : Unit) => [(0, .slice A0 a0.length c0), (5, .int .i64 x5), (6, .int .i64 s)]) (fun (s : (Int)) (g : Unit) => []) (fun (s : (Int)) (g : Unit) => Mm w [] h []) (fun (s : (Int)) (g : Unit) => Mm w [] h []) (fun (s : (Int)) (g : Unit) => True) (fun (s : (Int)) (g : Unit) => True) () trivial (fun a w ha hw => ⟨ha.cons rfl (ha.cons rfl (ha.cons rfl (ha.nil))), hw⟩) (fun Gn Gb s g e hφ H hn1 hb1 hr1 => ?_) (fun s g hzz hφ => ?_)
  ·
    obtain ⟨x6, rfl⟩ : ∃ x, x = s := ⟨_, rfl⟩
    change smithyref02_Zero.b1 x5 a0 x6 = some e at H
    unfold smithyref02_Zero.b1 at H
    clear hz1
    change T 15 _ _ _
    refine t_seq ?_
    refine t_region (fun ops hops => ?_)
    clear hops
    obtain ⟨x7, hx7, H⟩ := Let_elim H
    refine z_val (v := .bool x7) (by subst hx7; exact val_bin rfl rfl rfl rfl (i64_lss _ _ _)) rfl rfl rfl (fun _ _ _ => trivial) ?_
    clear hx7
    refine z_nil ?_
    refine t_seq ?_
    cases x7
    ·
      replace H := cond_f H
      refine t_cond_false rfl ?_
      refine t_exit rfl ?_
      obtain rfl := Option.some.inj H
      exact t_reach ((hb1 _ () rfl trivial).weak (fun a ha => ha.nil) (fun w hw => hw))
    ·
      replace H := cond_t H
      refine t_cond_true rfl ?_
      refine t_skip ?_
      refine t_seq ?_
      refine t_block ?_
      refine t_seq ?_
      refine t_region (fun ops hops => ?_)
      clear hops
      refine z_val (v := .int .i64 x6) (val_move rfl rfl) rfl rfl rfl (fun _ _ _ => trivial) ?_
      refine z_val (v := .int .i64 x6) (val_assign rfl rfl) rfl rfl rfl (fun _ _ _ => trivial) ?_
      refine z_nil ?_
      refine t_seq ?_
      refine t_region (fun ops hops => ?_)
      clear hops
      refine z_val (v := .slice A0 a0.length c0) (val_move rfl rfl) rfl rfl rfl (fun _ _ _ => trivial) ?_
      refine z_val (v := .int .i64 x6) (val_move rfl rfl) rfl rfl rfl (fun _ _ _ => trivial) ?_
      obtain ⟨hq_1, H⟩ := Chk_elim H
      obtain ⟨b_2, o_3, hA_4, hc_5⟩ := hs0.at_ (idx_lt hq_1)
      refine z_val (v := .pointer (some ⟨b_2, o_3 + x6.toNat, none⟩)) (val_idxS0 rfl rfl rfl Try.underlying31 sz3 hq_1 hA_4 rfl) rfl rfl rfl (fun _ _ _ => trivial) ?_
      obtain ⟨x12, hx12, H⟩ := Let_elim H
      refine z_val (v := .int .i64 x12) (by subst hx12; exact val_load1 rfl rfl Try.underlying3 rfl (fun _ hw => hc_5.cell hw)) rfl rfl rfl (fun _ _ _ => trivial) ?_
      clear hx12
      obtain ⟨x13, hx13, H⟩ := Let_elim H
      refine z_val (v := .bool x13) (by subst hx13; exact val_bin rfl rfl rfl rfl (i64_neq _ _ _)) rfl rfl rfl (fun _ _ _ => trivial) ?_
      clear hx13
      refine z_nil ?_
      cases x13
      ·
        replace H := cond_f H
        refine t_cond_false rfl ?_
        refine t_skip ?_
        refine t_fin ?_
        refine t_region (fun ops hops => ?_)
        clear hops
        obtain ⟨x14, hx14, H⟩ := Let_elim H
        refine z_val (v := .int .i64 x14) (by subst hx14; exact val_bin rfl rfl rfl rfl (i64_add _ _ _)) rfl rfl rfl (fun _ _ _ => trivial) ?_
        clear hx14
        refine z_val (v := .int .i64 x14) (val_move rfl rfl) rfl rfl rfl (fun _ _ _ => trivial) ?_
        refine z_nil ?_
        obtain rfl := Option.some.inj H
        exact t_reach ((hn1 _ () rfl trivial).weak (fun a ha => ha.cons rfl (ha.cons rfl (ha.cons rfl (ha.nil)))) (fun w hw => hw))
      ·
        replace H := cond_t H
        refine t_cond_true rfl ?_
        refine t_seq ?_
        refine t_region (fun ops hops => ?_)
        clear hops
        refine z_val (v := .bool false) (val_assign rfl rfl) rfl rfl rfl (fun _ _ _ => trivial) ?_
        refine z_nil ?_
        refine t_ret ?_
        obtain rfl := Option.some.inj H
        have hz := hr1 _ rfl
        subst hz
        obtain rfl := Option.some.inj HK1
        exact ret1 rfl (res_tmp rfl) (fun _ hw => ⟨rfl, hw.below⟩)
  ·
    obtain ⟨x6, rfl⟩ : ∃ x, x = s := ⟨_, rfl⟩
    subst hzz
    have H := HK1
    clear HK1 hz1
    replace H := sum_l H
    try dsimp only at H
    change T 15 _ _ _
    refine t_seq ?_
    refine t_region (fun ops hops => ?_)
    clear hops
    refine z_val (v := .bool true) (val_assign rfl rfl) rfl rfl rfl (fun _ _ _ => trivial) ?_
    refine z_nil ?_
    refine t_ret ?_
    obtain rfl := Option.some.inj H
    exact ret1 rfl (res_tmp rfl) (fun _ hw => ⟨rfl, hw.below⟩)
def smithyref02_Plus.b1 (a0 : List (Int)) (a1 : List (Int)) (x5 : List (Int)) (x6 : Int) (x7 : Int) : Option (Ctl ((List (Int)) × (Int) × (Int)) (List (Int))) :=
  Let ((a0.length : Int)) fun x12 => Let ((a1.length : Int)) fun x14 => Let (if x12 < x14 then x14 else x12) fun x15 => Let (wi (x15 + 1)) fun x16 => Let (decide (x7 < x16)) fun x17 => (bif x17 then (smithyref02_at a0 x7).bind fun x22 => (smithyref02_at a1 x7).bind fun x25 => Let (wi (x22 + x25)) fun x26 => Let (wi (x26 + x6)) fun x28 => Let (Int.tmod x28 256) fun x31 => Let ([x31]) fun x32 => Chk ((x5.length + x32.length) * 8 ≤ 140737488355328) <| Let (x5 ++ x32) fun x33 => Let (wi (Int.tdiv x28 256)) fun x35 => Let (wi (x7 + 1)) fun x19 => some (.next (x33, x35, x19)) else some (.brk (x5, x6, x7)))
def smithyref02_Plus (a0 : List (Int)) (a1 : List (Int)) : Option (List (Int)) :=
  Let (([] : List (Int))) fun x9 => (wlx (σ := (List (Int)) × (Int) × (Int)) (fun s => smithyref02_Plus.b1 a0 a1 s.1 s.2.1 s.2.2) (x9, 0, 0)).bind (Sum.elim (fun s => (fun x5 x6 x7 => some x5) s.1 s.2.1 s.2.2) (fun r => some r))
set_option maxRecDepth 100000 in
theorem smithyref02_Plus.calls  (a0 : List (Int)) (a1 : List (Int)) (A0 : Option Addr) (c0 : Nat) (A1 : Option Addr) (c1 : Nat) (r : List (Int)) (H : smithyref02_Plus a0 a1 = some r) (w : World) (hs0 : SlW w (Value.int .i64) A0 a0) (hc0 : a0.length ≤ c0) (hs1 : SlW w (Value.int .i64) A1 a1) (hc1 : a1.length ≤ c1)  :
    Calls Try.prog 41 #[.slice A0 a0.length c0, .slice A1 a1.length c1] w fun e w' => ∃ A c, e = .returned (.slice A r.length c) ∧ Below w.heap.size w w' ∧ OwnR w w' 3 (Value.int .i64) A c r := by
  unfold smithyref02_Plus at H
  replace hs0 := hs0.toH
  replace hs1 := hs1.toH
  have hM := Mm.start w (snap w) (snap_ok w)
  generalize snap w = h at *
  refine t_enter (vs := [.slice A0 a0.length c0, .slice A1 a1.length c1]) (n := 37) Try.func41 rfl rfl rfl hM ?_
  clear hM
  change T 37 _ _ _
  refine t_seq ?_
  refine t_region (fun ops hops => ?_)
  clear hops
  refine z_val (v := .slice none 0 0) (val_assign rfl rfl) rfl rfl rfl (fun _ _ _ => trivial) ?_
  refine z_nil ?_
  refine t_seq ?_
  refine t_region (fun ops hops => ?_)
  clear hops
  obtain ⟨x9, hx9, H⟩ := Let_elim H
  have hlx9 : x9.length = 0 := by subst hx9; rfl
  refine z_buildSlice' (e := 3) (f := (Value.int .i64)) (xs := x9) (vs := []) rfl rfl (by subst hx9; intro w; kernel_rfl) hlx9 (by decide) rfl rfl rfl (fun _ _ _ _ => trivial) (fun g_1 hs_3 => ?_)
  clear hx9 hlx9
  refine z_val (v := .slice (some ⟨g_1, 0, none⟩) x9.length 0) (val_assign rfl rfl) rfl rfl rfl (fun _ _ _ => trivial) ?_
  refine z_nil ?_
  refine t_seq ?_
  refine t_region (fun ops hops => ?_)
  clear hops
  refine z_val (v := .int .i64 0) (val_assign rfl rfl) rfl rfl rfl (fun _ _ _ => trivial) ?_
  refine z_nil ?_
  refine t_seq ?_
  refine t_seq ?_
  refine t_region (fun ops hops => ?_)
  clear hops
  refine z_val (v := .int .i64 0) (val_assign rfl rfl) rfl rfl rfl (fun _ _ _ => trivial) ?_
  refine z_nil ?_
  refine t_block ?_
  obtain ⟨z1, hz1, HK1⟩ := Option.bind_eq_some_iff.1 H
  clear H
  refine t_while hz1 (fun (s : (List (Int)) × (Int) × (Int)) (g : (Option Addr) × (Nat)) => [(0, .slice A0 a0.length c0), (1, .slice A1 a1.length c1), (5, .slice g.1 s.1.length g.2), (6, .int .i64 s.2.1), (7, .int .i64 s.2.2)]) (fun (s : (List (Int)) × (Int) × (Int)) (g : (Option Addr) × (Nat)) => [(5, .slice g.1 s.1.length g.2)]) (fun (s : (List (Int)) × (Int) × (Int)) (g : (Option Addr) × (Nat)) => Mm w [] h [.row (.slice g.1 s.1.length g.2) 3 1 (s.1.map (Value.int .i64))]) (fun (s : (List (Int)) × (Int) × (Int)) (g : (Option Addr) × (Nat)) => Mm w [] h [.row (.slice g.1 s.1.length g.2) 3 1 (s.1.map (Value.int .i64))]) (fun (s : (List (Int)) × (Int) × (Int)) (g : (Option Addr) × (Nat)) => Shp g.1 s.1.length g.2) (fun (s : (List (Int)) × (Int) × (Int)) (g : (Option Addr) × (Nat)) => Shp g.1 s.1.length g.2) ⟨(some ⟨g_1, 0, none⟩), 0⟩ hs_3 (fun a w ha hw => ⟨ha.cons rfl (ha.cons rfl (ha.cons rfl (ha.cons rfl (ha.cons rfl (ha.nil))))), hw⟩) (fun Gn Gb s g e hφ H hn1 hb1 hr1 => ?_) (fun s g hzz hφ => ?_)
  ·
    obtain ⟨x5, x6, x7⟩ := s
    obtain ⟨A_4, c_5⟩ := g
    try dsimp only at hφ
    have hs_6 := hφ; clear hφ
    change smithyref02_Plus.b1 a0 a1 x5 x6 x7 = some e at H
    unfold smithyref02_Plus.b1 at H
    clear hz1
    change T 37 _ _ _
    refine t_seq ?_
    refine t_seq ?_
    refine t_region (fun ops hops => ?_)
    clear hops
    refine z_val (v := .int .i64 x7) (val_move rfl rfl) rfl rfl rfl (fun _ _ _ => trivial) ?_
    refine z_val (v := .slice A0 a0.length c0) (val_move rfl rfl) rfl rfl rfl (fun _ _ _ => trivial) ?_
    obtain ⟨x12, hx12, H⟩ := Let_elim H
    refine z_val (v := .int .i64 x12) (by subst hx12; exact val_len rfl rfl rfl Try.underlying31) rfl rfl rfl (fun _ _ _ => trivial) ?_
    clear hx12
    refine z_val (v := .slice A1 a1.length c1) (val_move rfl rfl) rfl rfl rfl (fun _ _ _ => trivial) ?_
    obtain ⟨x14, hx14, H⟩ := Let_elim H
    refine z_val (v := .int .i64 x14) (by subst hx14; exact val_len rfl rfl rfl Try.underlying31) rfl rfl rfl (fun _ _ _ => trivial) ?_
    clear hx14
    obtain ⟨x15, hx15, H⟩ := Let_elim H
    refine z_val (v := .int .i64 x15) (by subst hx15; exact val_max rfl rfl rfl) rfl rfl rfl (fun _ _ _ => trivial) ?_
    clear hx15
    obtain ⟨x16, hx16, H⟩ := Let_elim H
    refine z_val (v := .int .i64 x16) (by subst hx16; exact val_bin rfl rfl rfl rfl (i64_add _ _ _)) rfl rfl rfl (fun _ _ _ => trivial) ?_
    clear hx16
    obtain ⟨x17, hx17, H⟩ := Let_elim H
    refine z_val (v := .bool x17) (by subst hx17; exact val_bin rfl rfl rfl rfl (i64_lss _ _ _)) rfl rfl rfl (fun _ _ _ => trivial) ?_
    clear hx17
    refine z_nil ?_
    cases x17
    ·
      replace H := cond_f H
      refine t_cond_false rfl ?_
      refine t_exit rfl ?_
      obtain rfl := Option.some.inj H
      exact t_reach ((hb1 _ ⟨A_4, c_5⟩ rfl hs_6).weak (fun a ha => ha.cons rfl (ha.nil)) (fun w hw => hw))
    ·
      replace H := cond_t H
      refine t_cond_true rfl ?_
      refine t_skip ?_
      refine t_seq ?_
      refine t_block ?_
      refine t_seq ?_
      refine t_region (fun ops hops => ?_)
      clear hops
      refine z_val (v := .slice A0 a0.length c0) (val_move rfl rfl) rfl rfl rfl (fun _ _ _ => trivial) ?_
      refine z_val (v := .int .i64 x7) (val_move rfl rfl) rfl rfl rfl (fun _ _ _ => trivial) ?_
      obtain ⟨x22, hx, H⟩ := Option.bind_eq_some_iff.1 H
      refine z_made (v := .int .i64 x22) rfl Try.func28 nm28 bs28 rfl (fun w hw => smithyref02_at.calls a0 x7 A0 c0 x22 hx w (hs0.toW hw) hc0) rfl rfl rfl (fun _ _ _ => trivial) ?_
      clear hx
      refine z_val (v := .slice A1 a1.length c1) (val_move rfl rfl) rfl rfl rfl (fun _ _ _ => trivial) ?_
      refine z_val (v := .int .i64 x7) (val_move rfl rfl) rfl rfl rfl (fun _ _ _ => trivial) ?_
      obtain ⟨x25, hx_7, H⟩ := Option.bind_eq_some_iff.1 H
      refine z_made (v := .int .i64 x25) rfl Try.func28 nm28 bs28 rfl (fun w hw => smithyref02_at.calls a1 x7 A1 c1 x25 hx_7 w (hs1.toW hw) hc1) rfl rfl rfl (fun _ _ _ => trivial) ?_
      clear hx_7
      obtain ⟨x26, hx26, H⟩ := Let_elim H
      refine z_val (v := .int .i64 x26) (by subst hx26; exact val_bin rfl rfl rfl rfl (i64_add _ _ _)) rfl rfl rfl (fun _ _ _ => trivial) ?_
      clear hx26
      refine z_val (v := .int .i64 x6) (val_move rfl rfl) rfl rfl rfl (fun _ _ _ => trivial) ?_
      obtain ⟨x28, hx28, H⟩ := Let_elim H
      refine z_val (v := .int .i64 x28) (by subst hx28; exact val_bin rfl rfl rfl rfl (i64_add _ _ _)) rfl rfl rfl (fun _ _ _ => trivial) ?_
      clear hx28
      refine z_val (v := .int .i64 x28) (val_assign rfl rfl) rfl rfl rfl (fun _ _ _ => trivial) ?_
      refine z_nil ?_
      refine t_seq ?_
      refine t_region (fun ops hops => ?_)
      clear hops
      refine z_val (v := .slice A_4 x5.length c_5) (val_move rfl rfl) rfl rfl rfl (fun _ _ _ => trivial) ?_
      refine z_val (v := .int .i64 x28) (val_move rfl rfl) rfl rfl rfl (fun _ _ _ => trivial) ?_
      obtain ⟨x31, hx31, H⟩ := Let_elim H
      refine z_val (v := .int .i64 x31) (by subst hx31; exact val_bin rfl rfl rfl rfl (i64_rem _ _ _ (by decide))) rfl rfl rfl (fun _ _ _ => trivial) ?_
      clear hx31
      obtain ⟨x32, hx32, H⟩ := Let_elim H
      have hlx32 : x32.length = 1 := by subst hx32; rfl
      refine z_buildSlice' (e := 3) (f := (Value.int .i64)) (xs := x32) (vs := [(0, .int .i64 x31)]) rfl rfl (by subst hx32; intro w; kernel_rfl) hlx32 (by decide) rfl rfl rfl (fun _ _ _ _ => trivial) (fun g_8 hs_10 => ?_)
      clear hx32 hlx32
      obtain ⟨hq_11, H⟩ := Chk_elim H
      obtain ⟨x33, hx33, H⟩ := Let_elim H
      refine z_append (f := (Value.int .i64)) (j := 1) (xs := x5) (ys := x32) (zs := x33) rfl rfl Try.underlying31 in3 rfl rfl rfl rfl (fun w hw => (row_w hw (j := 0) rfl)) (fun _ => rfl) hq_11 (by decide) hx33 (fun A_12 c_13 => [.row (.slice (some ⟨g_8, 0, none⟩) x32.length 1) 3 1 (x32.map (Value.int .i64)), .row (.slice A_12 x33.length c_13) 3 1 (x33.map (Value.int .i64))]) (fun _ _ => rfl) rfl rfl rfl (fun _ _ _ _ _ => trivial) (fun A_12 c_13 hs_14 => ?_)
      clear hx33
      refine z_val (v := .slice A_12 x33.length c_13) (val_assign rfl rfl) rfl rfl rfl (fun _ _ _ => trivial) ?_
      refine z_nil ?_
      refine t_region (fun ops hops => ?_)
      clear hops
      refine z_val (v := .int .i64 x28) (val_move rfl rfl) rfl rfl rfl (fun _ _ _ => trivial) ?_
      obtain ⟨x35, hx35, H⟩ := Let_elim H
      refine z_val (v := .int .i64 x35) (by subst hx35; exact val_bin rfl rfl rfl rfl (i64_quo _ _ _ (by decide))) rfl rfl rfl (fun _ _ _ => trivial) ?_
      clear hx35
      refine z_val (v := .int .i64 x35) (val_assign rfl rfl) rfl rfl rfl (fun _ _ _ => trivial) ?_
      refine z_nil ?_
      refine t_fin ?_
      refine t_region (fun ops hops => ?_)
      clear hops
      refine z_val (v := .int .i64 x7) (val_move rfl rfl) rfl rfl rfl (fun _ _ _ => trivial) ?_
      obtain ⟨x19, hx19, H⟩ := Let_elim H
      refine z_val (v := .int .i64 x19) (by subst hx19; exact val_bin rfl rfl rfl rfl (i64_add _ _ _)) rfl rfl rfl (fun _ _ _ => trivial) ?_
      clear hx19
      refine z_val (v := .int .i64 x19) (val_assign rfl rfl) rfl rfl rfl (fun _ _ _ => trivial) ?_
      refine z_nil ?_
      obtain rfl := Option.some.inj H
      exact t_reach ((hn1 _ ⟨A_12, c_13⟩ rfl hs_14).weak (fun a ha => ha.cons rfl (ha.cons rfl (ha.cons rfl (ha.cons rfl (ha.cons rfl (ha.nil)))))) (fun w hw => hw.sel [1] rfl rfl))
  ·
    obtain ⟨x5, x6, x7⟩ := s
    obtain ⟨A_4, c_5⟩ := g
    try dsimp only at hφ
    have hs_6 := hφ; clear hφ
    subst hzz
    have H := HK1
    clear HK1 hz1
    replace H := sum_l H
    try dsimp only at H
    change T 37 _ _ _
    refine t_seq ?_
    refine t_region (fun ops hops => ?_)
    clear hops
    refine z_val (v := .slice A_4 x5.length c_5) (val_move rfl rfl) rfl rfl rfl (fun _ _ _ => trivial) ?_
    refine z_val (v := .slice A_4 x5.length c_5) (val_assign rfl rfl) rfl rfl rfl (fun _ _ _ => trivial) ?_
    refine z_nil ?_
    refine t_ret ?_
    obtain rfl := Option.some.inj H
    exact ret1 rfl (res_tmp rfl) (fun _ hw => ⟨A_4, c_5, rfl, hw.below, (row_out hw (j := 0) rfl hs_6)⟩)
def smithyref02_Times.b2 (a1 : List (Int)) (x19 : Int) (a0 : List (Int)) (y_3_6 : List (Int)) (x7 : Int) (x8 : Int) : Option (Ctl ((List (Int)) × (Int) × (Int)) (List (Int))) :=
  Let ((a1.length : Int)) fun x24 => Let (decide (x8 < x24)) fun x25 => (bif x25 then some true else Let (decide (0 < x7)) fun x28 => some x28).bind (fun x29 => (bif x29 then Let (wi (x19 + x8)) fun x35 => Chk ((0 : Int) ≤ x35 ∧ x35 < (y_3_6.length : Int)) <| Let (lget y_3_6 x35.toNat) fun x37 => Chk ((0 : Int) ≤ x19 ∧ x19 < (a0.length : Int)) <| Let (lget a0 x19.toNat) fun x41 => (smithyref02_at a1 x8).bind fun x44 => Let (wi (x41 * x44)) fun x45 => Let (wi (x37 + x45)) fun x46 => Let (wi (x46 + x7)) fun x48 => Let (wi (x19 + x8)) fun x52 => Let (Int.tmod x48 256) fun x54 => Chk ((0 : Int) ≤ x52 ∧ x52 < (y_3_6.length : Int)) <| Let (y_3_6.set x52.toNat x54) fun x_19 => Let (wi (Int.tdiv x48 256)) fun x57 => Let (wi (x8 + 1)) fun x31 => some (.next (x_19, x57, x31)) else some (.brk (y_3_6, x7, x8))))
def smithyref02_Times.b1 (x18 : Int) (a1 : List (Int)) (a0 : List (Int)) (y_3 : List (Int)) (x19 : Int) : Option (Ctl ((List (Int)) × (Int)) (List (Int))) :=
  Let (decide (x19 < x18)) fun x20 => (bif x20 then (wlx (σ := (List (Int)) × (Int) × (Int)) (fun s => smithyref02_Times.b2 a1 x19 a0 s.1 s.2.1 s.2.2) (y_3, 0, 0)).bind (Sum.elim (fun s => (fun y_3_6 x7 x8 => Let (wi (x19 + 1)) fun x58 => some (.next (y_3_6, x58))) s.1 s.2.1 s.2.2) (fun r => some (.ret r))) else some (.brk (y_3, x19)))
def smithyref02_Times (a0 : List (Int)) (a1 : List (Int)) : Option (List (Int)) :=
  Let ((a0.length : Int)) fun x11 => Let ((a1.length : Int)) fun x13 => Let (wi (x11 + x13)) fun x14 => Let (wi (x14 + 1)) fun x15 => Chk ((0 : Int) ≤ x15 ∧ x15.toNat * 8 ≤ 140737488355328) <| Let (List.replicate x15.toNat 0) fun x16 => Let ((a0.length : Int)) fun x18 => (wlx (σ := (List (Int)) × (Int)) (fun s => smithyref02_Times.b1 x18 a1 a0 s.1 s.2) (x16, 0)).bind (Sum.elim (fun s => (fun y_3 x19 => some y_3) s.1 s.2) (fun r => some r))
set_option maxRecDepth 100000 in
theorem smithyref02_Times.calls  (a0 : List (Int)) (a1 : List (Int)) (A0 : Option Addr) (c0 : Nat) (A1 : Option Addr) (c1 : Nat) (r : List (Int)) (H : smithyref02_Times a0 a1 = some r) (w : World) (hs0 : SlW w (Value.int .i64) A0 a0) (hc0 : a0.length ≤ c0) (hs1 : SlW w (Value.int .i64) A1 a1) (hc1 : a1.length ≤ c1)  :
    Calls Try.prog 27 #[.slice A0 a0.length c0, .slice A1 a1.length c1] w fun e w' => ∃ A c, e = .returned (.slice A r.length c) ∧ Below w.heap.size w w' ∧ OwnR w w' 3 (Value.int .i64) A c r := by
  unfold smithyref02_Times at H
  replace hs0 := hs0.toH
  replace hs1 := hs1.toH
  have hM := Mm.start w (snap w) (snap_ok w)
  generalize snap w = h at *
  refine t_enter (vs := [.slice A0 a0.length c0, .slice A1 a1.length c1]) (n := 60) Try.func27 rfl rfl rfl hM ?_
  clear hM
  change T 60 _ _ _
  refine t_seq ?_
  refine t_region (fun ops hops => ?_)
  clear hops
  refine z_val (v := .slice none 0 0) (val_assign rfl rfl) rfl rfl rfl (fun _ _ _ => trivial) ?_
  refine z_nil ?_
  refine t_seq ?_
  refine t_region (fun ops hops => ?_)
  clear hops
  refine z_val (v := .slice A0 a0.length c0) (val_move rfl rfl) rfl rfl rfl (fun _ _ _ => trivial) ?_
  obtain ⟨x11, hx11, H⟩ := Let_elim H
  refine z_val (v := .int .i64 x11) (by subst hx11; exact val_len rfl rfl rfl Try.underlying31) rfl rfl rfl (fun _ _ _ => trivial) ?_
  clear hx11
  refine z_val (v := .slice A1 a1.length c1) (val_move rfl rfl) rfl rfl rfl (fun _ _ _ => trivial) ?_
  obtain ⟨x13, hx13, H⟩ := Let_elim H
  refine z_val (v := .int .i64 x13) (by subst hx13; exact val_len rfl rfl rfl Try.underlying31) rfl rfl rfl (fun _ _ _ => trivial) ?_
  clear hx13
  obtain ⟨x14, hx14, H⟩ := Let_elim H
  refine z_val (v := .int .i64 x14) (by subst hx14; exact val_bin rfl rfl rfl rfl (i64_add _ _ _)) rfl rfl rfl (fun _ _ _ => trivial) ?_
  clear hx14
  obtain ⟨x15, hx15, H⟩ := Let_elim H
  refine z_val (v := .int .i64 x15) (by subst hx15; exact val_bin rfl rfl rfl rfl (i64_add _ _ _)) rfl rfl rfl (fun _ _ _ => trivial) ?_
  clear hx15
  obtain ⟨hq_1, H⟩ := Chk_elim H
  obtain ⟨x16, hx16, H⟩ := Let_elim H
  refine z_makeSlice (f := (Value.int .i64)) (z0 := 0) (N := x15.toNat) rfl rfl rfl Try.underlying31 (in3.trans rfl) rfl hq_1.1 rfl hq_1.2 (by decide) hx16 rfl rfl rfl (fun _ _ _ _ => trivial) (fun g_2 hs_4 => ?_)
  clear hx16
  refine z_val (v := .slice (some ⟨g_2, 0, none⟩) x16.length (x15.toNat)) (val_assign rfl rfl) rfl rfl rfl (fun _ _ _ => trivial) ?_
  refine z_nil ?_
  refine t_seq ?_
  refine t_seq ?_
  refine t_region (fun ops hops => ?_)
  clear hops
  refine z_val (v := .slice A0 a0.length c0) (val_move rfl rfl) rfl rfl rfl (fun _ _ _ => trivial) ?_
  obtain ⟨x18, hx18, H⟩ := Let_elim H
  refine z_val (v := .int .i64 x18) (by subst hx18; exact val_len rfl rfl rfl Try.underlying31) rfl rfl rfl (fun _ _ _ => trivial) ?_
  clear hx18
  refine z_val (v := .int .i64 0) (val_move rfl rfl) rfl rfl rfl (fun _ _ _ => trivial) ?_
  refine z_nil ?_
  refine t_block ?_
  obtain ⟨z1, hz1, HK1⟩ := Option.bind_eq_some_iff.1 H
  clear H
  refine t_while hz1 (fun (s : (List (Int)) × (Int)) (g : Unit) => [(0, .slice A0 a0.length c0), (1, .slice A1 a1.length c1), (5, .slice (some ⟨g_2, 0, none⟩) s.1.length (x15.toNat)), (18, .int .i64 x18), (19, .int .i64 s.2)]) (fun (s : (List (Int)) × (Int)) (g : Unit) => [(5, .slice (some ⟨g_2, 0, none⟩) s.1.length (x15.toNat))]) (fun (s : (List (Int)) × (Int)) (g : Unit) => Mm w [] h [.row (.slice (some ⟨g_2, 0, none⟩) s.1.length (x15.toNat)) 3 1 (s.1.map (Value.int .i64))]) (fun (s : (List (Int)) × (Int)) (g : Unit) => Mm w [] h [.row (.slice (some ⟨g_2, 0, none⟩) s.1.length (x15.toNat)) 3 1 (s.1.map (Value.int .i64))]) (fun (s : (List (Int)) × (Int)) (g : Unit) => Shp ((some ⟨g_2, 0, none⟩)) s.1.length (x15.toNat)) (fun (s : (List (Int)) × (Int)) (g : Unit) => Shp ((some ⟨g_2, 0, none⟩)) s.1.length (x15.toNat)) () hs_4 (fun a w ha hw => ⟨ha.cons rfl (ha.cons rfl (ha.cons rfl (ha.cons rfl (ha.cons rfl (ha.nil))))), hw⟩) (fun Gn Gb s g e hφ H hn1 hb1 hr1 => ?_) (fun s g hzz hφ => ?_)
  ·
    obtain ⟨y_3, x19⟩ := s
    try dsimp only at hφ
    have hs_5 := hφ; clear hφ
    change smithyref02_Times.b1 x18 a1 a0 y_3 x19 = some e at H
    unfold smithyref02_Times.b1 at H
    clear hz1
    change T 60 _ _ _
    refine t_seq ?_
    refine t_region (fun ops hops => ?_)
    clear hops
    obtain ⟨x20, hx20, H⟩ := Let_elim H
    refine z_val (v := .bool x20) (by subst hx20; exact val_bin rfl rfl rfl rfl (i64_lss _ _ _)) rfl rfl rfl (fun _ _ _ => trivial) ?_
    clear hx20
    refine z_nil ?_
    refine t_seq ?_
    cases x20
    ·
      replace H := cond_f H
      refine t_cond_false rfl ?_
      refine t_exit rfl ?_
      obtain rfl := Option.some.inj H
      exact t_reach ((hb1 _ () rfl hs_5).weak (fun a ha => ha.cons rfl (ha.nil)) (fun w hw => hw))
    ·
      replace H := cond_t H
      refine t_cond_true rfl ?_
      refine t_skip ?_
      refine t_seq ?_
      refine t_block ?_
      refine t_seq ?_
      refine t_region (fun ops hops => ?_)
      clear hops
      refine z_val (v := .int .i64 x19) (val_move rfl rfl) rfl rfl rfl (fun _ _ _ => trivial) ?_
      refine z_val (v := .int .i64 x19) (val_assign rfl rfl) rfl rfl rfl (fun _ _ _ => trivial) ?_
      refine z_nil ?_
      refine t_seq ?_
      refine t_region (fun ops hops => ?_)
      clear hops
      refine z_val (v := .int .i64 0) (val_assign rfl rfl) rfl rfl rfl (fun _ _ _ => trivial) ?_
      refine z_nil ?_
      refine t_seq ?_
      refine t_region (fun ops hops => ?_)
      clear hops
      refine z_val (v := .int .i64 0) (val_assign rfl rfl) rfl rfl rfl (fun _ _ _ => trivial) ?_
      refine z_nil ?_
      refine t_block ?_
      obtain ⟨z2, hz2, HK2⟩ := Option.bind_eq_some_iff.1 H
      clear H
      refine t_while hz2 (fun (s : (List (Int)) × (Int) × (Int)) (g : Unit) => [(0, .slice A0 a0.length c0), (1, .slice A1 a1.length c1), (5, .slice (some ⟨g_2, 0, none⟩) s.1.length (x15.toNat)), (6, .int .i64 x19), (7, .int .i64 s.2.1), (8, .int .i64 s.2.2), (18, .int .i64 x18), (19, .int .i64 x19)]) (fun (s : (List (Int)) × (Int) × (Int)) (g : Unit) => [(0, .slice A0 a0.length c0), (1, .slice A1 a1.length c1), (5, .slice (some ⟨g_2, 0, none⟩) s.1.length (x15.toNat)), (18, .int .i64 x18), (19, .int .i64 x19)]) (fun (s : (List (Int)) × (Int) × (Int)) (g : Unit) => Mm w [] h [.row (.slice (some ⟨g_2, 0, none⟩) s.1.length (x15.toNat)) 3 1 (s.1.map (Value.int .i64))]) (fun (s : (List (Int)) × (Int) × (Int)) (g : Unit) => Mm w [] h [.row (.slice (some ⟨g_2, 0, none⟩) s.1.length (x15.toNat)) 3 1 (s.1.map (Value.int .i64))]) (fun (s : (List (Int)) × (Int) × (Int)) (g : Unit) => Shp ((some ⟨g_2, 0, none⟩)) s.1.length (x15.toNat)) (fun (s : (List (Int)) × (Int) × (Int)) (g : Unit) => Shp ((some ⟨g_2, 0, none⟩)) s.1.length (x15.toNat)) () hs_5 (fun a w ha hw => ⟨ha.cons rfl (ha.cons rfl (ha.cons rfl (ha.cons rfl (ha.cons rfl (ha.cons rfl (ha.cons rfl (ha.cons rfl (ha.nil)))))))), hw⟩) (fun Gn Gb s g e hφ H hn2 hb2 hr2 => ?_) (fun s g hzz hφ => ?_)
      ·
        obtain ⟨y_3_6, x7, x8⟩ := s
        try dsimp only at hφ
        have hs_7 := hφ; clear hφ
        change smithyref02_Times.b2 a1 x19 a0 y_3_6 x7 x8 = some e at H
        unfold smithyref02_Times.b2 at H
        clear hz2
        change T 60 _ _ _
        refine t_seq ?_
        refine t_seq ?_
        refine t_region (fun ops hops => ?_)
        refine z_val (v := .int .i64 x8) (val_move rfl rfl) rfl rfl rfl (fun _ _ _ => trivial) ?_
        refine z_val (v := .slice A1 a1.length c1) (val_move rfl rfl) rfl rfl rfl (fun _ _ _ => trivial) ?_
        obtain ⟨x24, hx24, H⟩ := Let_elim H
        refine z_val (v := .int .i64 x24) (by subst hx24; exact val_len rfl rfl rfl Try.underlying31) rfl rfl rfl (fun _ _ _ => trivial) ?_
        clear hx24
        obtain ⟨x25, hx25, H⟩ := Let_elim H
        refine z_val (v := .bool x25) (by subst hx25; exact val_bin rfl rfl rfl rfl (i64_lss _ _ _)) rfl rfl rfl (fun _ _ _ => trivial) ?_
        clear hx25
        refine z_val (v := .bool x25) (val_move rfl rfl) rfl rfl rfl (fun _ _ _ => trivial) ?_
        refine z_bind H 3 (fun (s : Bool) (_ : Unit) => [(0, .slice A0 a0.length c0), (1, .slice A1 a1.length c1), (5, .slice (some ⟨g_2, 0, none⟩) y_3_6.length (x15.toNat)), (6, .int .i64 x19), (7, .int .i64 x7), (8, .int .i64 x8), (18, .int .i64 x18), (19, .int .i64 x19), (29, .bool s)]) (fun _ _ => Mm w [] h [.row (.slice (some ⟨g_2, 0, none⟩) y_3_6.length (x15.toNat)) 3 1 (y_3_6.map (Value.int .i64))]) (fun _ _ => True) (fun Gr K s he HJ => ?_) (fun s g HB _ => ?_)
        ·
          clear H
          cases x25
          ·
            have H := cond_f he
            clear he
            refine z_val (v := .int .i64 x7) (val_move rfl rfl) rfl rfl (by rw [hops]; rfl) (fun _ _ _ => trivial) ?_
            obtain ⟨x28, hx28, H⟩ := Let_elim H
            refine z_val (v := .bool x28) (by subst hx28; exact val_bin rfl rfl rfl rfl (i64_gtr _ _ _)) rfl rfl (by rw [hops]; rfl) (fun _ _ _ => trivial) ?_
            clear hx28
            refine z_val (v := .bool x28) (val_pick rfl rfl rfl) rfl rfl rfl (fun _ _ _ => trivial) ?_
            obtain rfl := Option.some.inj H
            exact z_nil ((K _ () HJ trivial).weak (fun a ha => ha.cons rfl (ha.cons rfl (ha.cons rfl (ha.cons rfl (ha.cons rfl (ha.cons rfl (ha.cons rfl (ha.cons rfl (ha.cons rfl (ha.nil)))))))))) (fun w hw => hw))
          ·
            have H := cond_t he
            clear he
            refine z_skip rfl rfl (by rw [hops]; rfl) (fun _ _ _ => trivial) ?_
            refine z_skip rfl rfl (by rw [hops]; rfl) (fun _ _ _ => trivial) ?_
            refine z_val (v := .bool true) (val_pick rfl rfl rfl) rfl rfl rfl (fun _ _ _ => trivial) ?_
            obtain rfl := Option.some.inj H
            exact z_nil ((K _ () HJ trivial).weak (fun a ha => ha.cons rfl (ha.cons rfl (ha.cons rfl (ha.cons rfl (ha.cons rfl (ha.cons rfl (ha.cons rfl (ha.cons rfl (ha.cons rfl (ha.nil)))))))))) (fun w hw => hw))
        ·
          replace H := HB
          clear HB
          obtain ⟨x29, rfl⟩ : ∃ x, x = s := ⟨_, rfl⟩
          change T 60 _ _ _
          refine z_nil ?_
          cases x29
          ·
            replace H := cond_f H
            refine t_cond_false rfl ?_
            refine t_exit rfl ?_
            obtain rfl := Option.some.inj H
            exact t_reach ((hb2 _ () rfl hs_7).weak (fun a ha => ha.cons rfl (ha.cons rfl (ha.cons rfl (ha.cons rfl (ha.cons rfl (ha.nil)))))) (fun w hw => hw))
          ·
            replace H := cond_t H
            refine t_cond_true rfl ?_
            refine t_skip ?_
            refine t_seq ?_
            refine t_block ?_
            refine t_seq ?_
            refine t_plan (C := Mm w [] h [.row (.slice (some ⟨g_2, 0, none⟩) y_3_6.length (x15.toNat)) 3 1 (y_3_6.map (Value.int .i64))]) [] [(0, true), (1, true), (2, true), (3, true), (4, true), (5, true), (6, true), (7, true), (8, true), (9, true), (10, true), (11, true), (15, true), (12, false), (13, true), (14, true), (16, true), (17, true)] (by kernel_rfl) (by kernel_rfl) (fun _ hw => hw.drew) (fun ops hops => ?_)
            clear hops
            refine z_still (v := .slice (some ⟨g_2, 0, none⟩) y_3_6.length (x15.toNat)) (val_move rfl rfl) rfl rfl rfl (fun _ hw => hw) ?_
            refine z_still (v := .int .i64 x19) (val_move rfl rfl) rfl rfl rfl (fun _ hw => hw) ?_
            refine z_still (v := .int .i64 x8) (val_move rfl rfl) rfl rfl rfl (fun _ hw => hw) ?_
            obtain ⟨x35, hx35, H⟩ := Let_elim H
            refine z_still (v := .int .i64 x35) (by subst hx35; exact val_bin rfl rfl rfl rfl (i64_add _ _ _)) rfl rfl rfl (fun _ hw => hw) ?_
            clear hx35
            obtain ⟨hq_8, H⟩ := Chk_elim H
            obtain ⟨g_9, hA_10⟩ := hs_7.blk (by omega)
            refine z_still (v := .pointer (some ⟨g_9, x35.toNat, none⟩)) (val_idxS1 rfl rfl rfl Try.underlying31 sz3 hq_8 hA_10 rfl) rfl rfl rfl (fun _ hw => hw) ?_
            obtain ⟨x37, hx37, H⟩ := Let_elim H
            refine z_still (v := .int .i64 x37) (by subst hx37; exact val_load1 rfl rfl Try.underlying3 rfl (fun _ hw => row_cell' hw (j := 0) rfl hA_10 (idx_lt hq_8))) rfl rfl rfl (fun _ hw => hw) ?_
            clear hx37
            refine z_still (v := .slice A0 a0.length c0) (val_move rfl rfl) rfl rfl rfl (fun _ hw => hw) ?_
            refine z_still (v := .int .i64 x19) (val_move rfl rfl) rfl rfl rfl (fun _ hw => hw) ?_
            obtain ⟨hq_11, H⟩ := Chk_elim H
            obtain ⟨b_12, o_13, hA_14, hc_15⟩ := hs0.at_ (idx_lt hq_11)
            refine z_still (v := .pointer (some ⟨b_12, o_13 + x19.toNat, none⟩)) (val_idxS0 rfl rfl rfl Try.underlying31 sz3 hq_11 hA_14 rfl) rfl rfl rfl (fun _ hw => hw) ?_
            obtain ⟨x41, hx41, H⟩ := Let_elim H
            refine z_still (v := .int .i64 x41) (by subst hx41; exact val_load1 rfl rfl Try.underlying3 rfl (fun _ hw => hc_15.cell hw)) rfl rfl rfl (fun _ hw => hw) ?_
            clear hx41
            refine z_still (v := .slice A1 a1.length c1) (val_move rfl rfl) rfl rfl rfl (fun _ hw => hw) ?_
            refine z_still (v := .int .i64 x8) (val_move rfl rfl) rfl rfl rfl (fun _ hw => hw) ?_
            refine z_still (v := .int .i64 x7) (val_move rfl rfl) rfl rfl rfl (fun _ hw => hw) ?_
            obtain ⟨x44, hx, H⟩ := Option.bind_eq_some_iff.1 H
            refine z_made (v := .int .i64 x44) rfl Try.func28 nm28 bs28 rfl (fun w hw => smithyref02_at.calls a1 x8 A1 c1 x44 hx w (hs1.toW hw) hc1) rfl rfl rfl (fun _ _ hw => hw) ?_
            clear hx
            obtain ⟨x45, hx45, H⟩ := Let_elim H
            refine z_still (v := .int .i64 x45) (by subst hx45; exact val_bin rfl rfl rfl rfl (i64_mul _ _ _)) rfl rfl rfl (fun _ hw => hw) ?_
            clear hx45
            obtain ⟨x46, hx46, H⟩ := Let_elim H
            refine z_still (v := .int .i64 x46) (by subst hx46; exact val_bin rfl rfl rfl rfl (i64_add _ _ _)) rfl rfl rfl (fun _ hw => hw) ?_
            clear hx46
            obtain ⟨x48, hx48, H⟩ := Let_elim H
            refine z_still (v := .int .i64 x48) (by subst hx48; exact val_bin rfl rfl rfl rfl (i64_add _ _ _)) rfl rfl rfl (fun _ hw => hw) ?_
            clear hx48
            refine z_still (v := .int .i64 x48) (val_assign rfl rfl) rfl rfl rfl (fun _ hw => hw) ?_
            refine z_nil ?_
            refine t_seq ?_
            refine t_region (fun ops hops => ?_)
            clear hops
            refine z_val (v := .slice (some ⟨g_2, 0, none⟩) y_3_6.length (x15.toNat)) (val_move rfl rfl) rfl rfl rfl (fun _ _ _ => trivial) ?_
            refine z_val (v := .int .i64 x19) (val_move rfl rfl) rfl rfl rfl (fun _ _ _ => trivial) ?_
            refine z_val (v := .int .i64 x8) (val_move rfl rfl) rfl rfl rfl (fun _ _ _ => trivial) ?_
            obtain ⟨x52, hx52, H⟩ := Let_elim H
            refine z_val (v := .int .i64 x52) (by subst hx52; exact val_bin rfl rfl rfl rfl (i64_add _ _ _)) rfl rfl rfl (fun _ _ _ => trivial) ?_
            clear hx52
            refine z_val (v := .int .i64 x48) (val_move rfl rfl) rfl rfl rfl (fun _ _ _ => trivial) ?_
            obtain ⟨x54, hx54, H⟩ := Let_elim H
            refine z_val (v := .int .i64 x54) (by subst hx54; exact val_bin rfl rfl rfl rfl (i64_rem _ _ _ (by decide))) rfl rfl rfl (fun _ _ _ => trivial) ?_
            clear hx54
            obtain ⟨hq_16, H⟩ := Chk_elim H
            obtain ⟨g_17, hA_18⟩ := hs_7.blk (by omega)
            refine z_val (v := .pointer (some ⟨g_17, x52.toNat, none⟩)) (val_idxS1 rfl rfl rfl Try.underlying31 sz3 hq_16 hA_18 rfl) rfl rfl rfl (fun _ _ _ => trivial) ?_
            obtain ⟨x_19, hx_19, H⟩ := Let_elim H
            have hs_20 : Shp ((some ⟨g_2, 0, none⟩)) x_19.length (x15.toNat) := by subst hx_19; rw [List.length_set]; exact hs_7
            refine z_storeRow' (j := 0) (zs := x_19) (L' := [.row (.slice (some ⟨g_2, 0, none⟩) x_19.length (x15.toNat)) 3 1 (x_19.map (Value.int .i64))]) rfl rfl rfl rfl rfl rfl sz3 rfl hA_18 (idx_lt hq_16) (by subst hx_19; rfl) rfl rfl rfl (fun _ _ _ => trivial) ?_
            have hl : y_3_6.length = x_19.length := by subst hx_19; rw [List.length_set]
            refine t_len (show y_3_6.length = x_19.length from hl) (fun z => [(0, .slice A0 a0.length c0), (1, .slice A1 a1.length c1), (5, .slice (some ⟨g_2, 0, none⟩) z (x15.toNat)), (6, .int .i64 x19), (7, .int .i64 x7), (8, .int .i64 x8), (9, .int .i64 x48), (18, .int .i64 x18), (19, .int .i64 x19), (29, .bool true), (32, .slice (some ⟨g_2, 0, none⟩) z (x15.toNat)), (33, .int .i64 x19), (34, .int .i64 x8), (35, .int .i64 x35), (36, .pointer (some ⟨g_9, x35.toNat, none⟩)), (37, .int .i64 x37), (38, .slice A0 a0.length c0), (39, .int .i64 x19), (40, .pointer (some ⟨b_12, o_13 + x19.toNat, none⟩)), (41, .int .i64 x41), (42, .slice A1 a1.length c1), (43, .int .i64 x8), (44, .int .i64 x44), (45, .int .i64 x45), (46, .int .i64 x46), (47, .int .i64 x7), (48, .int .i64 x48), (49, .slice (some ⟨g_2, 0, none⟩) z (x15.toNat)), (50, .int .i64 x19), (51, .int .i64 x8), (52, .int .i64 x52), (53, .int .i64 x48), (54, .int .i64 x54), (55, .pointer (some ⟨g_17, x52.toNat, none⟩))]) (fun a ha => ha.cons rfl (ha.cons rfl (ha.cons rfl (ha.cons rfl (ha.cons rfl (ha.cons rfl (ha.cons rfl (ha.cons rfl (ha.cons rfl (ha.cons rfl (ha.cons rfl (ha.cons rfl (ha.cons rfl (ha.cons rfl (ha.cons rfl (ha.cons rfl (ha.cons rfl (ha.cons rfl (ha.cons rfl (ha.cons rfl (ha.cons rfl (ha.cons rfl (ha.cons rfl (ha.cons rfl (ha.cons rfl (ha.cons rfl (ha.cons rfl (ha.cons rfl (ha.cons rfl (ha.cons rfl (ha.cons rfl (ha.cons rfl (ha.cons rfl (ha.cons rfl (ha.nil))))))))))))))))))))))))))))))))))) ?_
            change T 60 _ _ _
            clear hx_19 hl
            refine z_nil ?_
            refine t_region (fun ops hops => ?_)
            clear hops
            refine z_val (v := .int .i64 x48) (val_move rfl rfl) rfl rfl rfl (fun _ _ _ => trivial) ?_
            obtain ⟨x57, hx57, H⟩ := Let_elim H
            refine z_val (v := .int .i64 x57) (by subst hx57; exact val_bin rfl rfl rfl rfl (i64_quo _ _ _ (by decide))) rfl rfl rfl (fun _ _ _ => trivial) ?_
            clear hx57
            refine z_val (v := .int .i64 x57) (val_assign rfl rfl) rfl rfl rfl (fun _ _ _ => trivial) ?_
            refine z_nil ?_
            refine t_fin ?_
            refine t_region (fun ops hops => ?_)
            clear hops
            refine z_val (v := .int .i64 x8) (val_move rfl rfl) rfl rfl rfl (fun _ _ _ => trivial) ?_
            obtain ⟨x31, hx31, H⟩ := Let_elim H
            refine z_val (v := .int .i64 x31) (by subst hx31; exact val_bin rfl rfl rfl rfl (i64_add _ _ _)) rfl rfl rfl (fun _ _ _ => trivial) ?_
            clear hx31
            refine z_val (v := .int .i64 x31) (val_assign rfl rfl) rfl rfl rfl (fun _ _ _ => trivial) ?_
            refine z_nil ?_
            obtain rfl := Option.some.inj H
            exact t_reach ((hn2 _ () rfl hs_20).weak (fun a ha => ha.cons rfl (ha.cons rfl (ha.cons rfl (ha.cons rfl (ha.cons rfl (ha.cons rfl (ha.cons rfl (ha.cons rfl (ha.nil))))))))) (fun w hw => hw))
      ·
        obtain ⟨y_3_6, x7, x8⟩ := s
        try dsimp only at hφ
        have hs_7 := hφ; clear hφ
        subst hzz
        have H := HK2
        clear HK2 hz2
        replace H := sum_l H
        try dsimp only at H
        change T 60 _ _ _
        refine t_fin ?_
        refine t_region (fun ops hops => ?_)
        clear hops
        obtain ⟨x58, hx58, H⟩ := Let_elim H
        refine z_val (v := .int .i64 x58) (by subst hx58; exact val_bin rfl rfl rfl rfl (i64_add _ _ _)) rfl rfl rfl (fun _ _ _ => trivial) ?_
        clear hx58
        refine z_val (v := .int .i64 x58) (val_move rfl rfl) rfl rfl rfl (fun _ _ _ => trivial) ?_
        refine z_nil ?_
        obtain rfl := Option.some.inj H
        exact t_reach ((hn1 _ () rfl hs_7).weak (fun a ha => ha.cons rfl (ha.cons rfl (ha.cons rfl (ha.cons rfl (ha.cons rfl (ha.nil)))))) (fun w hw => hw))
  ·
    obtain ⟨y_3, x19⟩ := s
    try dsimp only at hφ
    have hs_5 := hφ; clear hφ
    subst hzz
    have H := HK1
    clear HK1 hz1
    replace H := sum_l H
    try dsimp only at H
    change T 60 _ _ _
    refine t_seq ?_
    refine t_region (fun ops hops => ?_)
    clear hops
    refine z_val (v := .slice (some ⟨g_2, 0, none⟩) y_3.length (x15.toNat)) (val_move rfl rfl) rfl rfl rfl (fun _ _ _ => trivial) ?_
    refine z_val (v := .slice (some ⟨g_2, 0, none⟩) y_3.length (x15.toNat)) (val_assign rfl rfl) rfl rfl rfl (fun _ _ _ => trivial) ?_
    refine z_nil ?_
    refine t_ret ?_
    obtain rfl := Option.some.inj H
    exact ret1 rfl (res_tmp rfl) (fun _ hw => ⟨(some ⟨g_2, 0, none⟩), (x15.toNat), rfl, hw.below, (row_out hw (j := 0) rfl hs_5)⟩)
def smithyref02_Less.b1 (a0 : List (Int)) (a1 : List (Int)) (x5 : Int) : Option (Ctl ((Int)) (Bool)) :=
  Let (decide (0 ≤ x5)) fun x13 => (bif x13 then (smithyref02_at a0 x5).bind fun x18 => (smithyref02_at a1 x5).bind fun x21 => Let (x18 != x21) fun x22 => (bif x22 then (smithyref02_at a0 x5).bind fun x25 => (smithyref02_at a1 x5).bind fun x28 => Let (decide (x25 < x28)) fun x29 => some (.ret x29) else Let (wi (x5 - 1)) fun x15 => some (.next x15)) else some (.brk x5))
def smithyref02_Less (a0 : List (Int)) (a1 : List (Int)) : Option (Bool) :=
  Let ((a0.length : Int)) fun x7 => Let ((a1.length : Int)) fun x9 => Let (if x7 < x9 then x9 else x7) fun x10 => Let (wi (x10 - 1)) fun x11 => (wlx (σ := (Int)) (fun s => smithyref02_Less.b1 a0 a1 s) x11).bind (Sum.elim (fun x5 => some false) (fun r => some r))
set_option maxRecDepth 100000 in
theorem smithyref02_Less.calls  (a0 : List (Int)) (a1 : List (Int)) (A0 : Option Addr) (c0 : Nat) (A1 : Option Addr) (c1 : Nat) (r : Bool) (H : smithyref02_Less a0 a1 = some r) (w : World) (hs0 : SlW w (Value.int .i64) A0 a0) (hc0 : a0.length ≤ c0) (hs1 : SlW w (Value.int .i64) A1 a1) (hc1 : a1.length ≤ c1)  :
    Made Try.prog 16 #[.slice A0 a0.length c0, .slice A1 a1.length c1] w (.bool r) := by
  unfold smithyref02_Less at H
  replace hs0 := hs0.toH
  replace hs1 := hs1.toH
  have hM := Mm.start w (snap w) (snap_ok w)
  generalize snap w = h at *
  refine t_enter (vs := [.slice A0 a0.length c0, .slice A1 a1.length c1]) (n := 30) Try.func16 rfl rfl rfl hM ?_
  clear hM
  change T 30 _ _ _
  refine t_seq ?_
  refine t_region (fun ops hops => ?_)
  clear hops
  refine z_val (v := .bool false) (val_assign rfl rfl) rfl rfl rfl (fun _ _ _ => trivial) ?_
  refine z_nil ?_
  refine t_seq ?_
  refine t_seq ?_
  refine t_region (fun ops hops => ?_)
  clear hops
  refine z_val (v := .slice A0 a0.length c0) (val_move rfl rfl) rfl rfl rfl (fun _ _ _ => trivial) ?_
  obtain ⟨x7, hx7, H⟩ := Let_elim H
  refine z_val (v := .int .i64 x7) (by subst hx7; exact val_len rfl rfl rfl Try.underlying31) rfl rfl rfl (fun _ _ _ => trivial) ?_
  clear hx7
  refine z_val (v := .slice A1 a1.length c1) (val_move rfl rfl) rfl rfl rfl (fun _ _ _ => trivial) ?_
  obtain ⟨x9, hx9, H⟩ := Let_elim H
  refine z_val (v := .int .i64 x9) (by subst hx9; exact val_len rfl rfl rfl Try.underlying31) rfl rfl rfl (fun _ _ _ => trivial) ?_
  clear hx9
  obtain ⟨x10, hx10, H⟩ := Let_elim H
  refine z_val (v := .int .i64 x10) (by subst hx10; exact val_max rfl rfl rfl) rfl rfl rfl (fun _ _ _ => trivial) ?_
  clear hx10
  obtain ⟨x11, hx11, H⟩ := Let_elim H
  refine z_val (v := .int .i64 x11) (by subst hx11; exact val_bin rfl rfl rfl rfl (i64_sub _ _ _)) rfl rfl rfl (fun _ _ _ => trivial) ?_
  clear hx11
  refine z_val (v := .int .i64 x11) (val_assign rfl rfl) rfl rfl rfl (fun _ _ _ => trivial) ?_
  refine z_nil ?_
  refine t_block ?_
  obtain ⟨z1, hz1, HK1⟩ := Option.bind_eq_some_iff.1 H
  clear H
  refine t_while hz1 (fun (s : (Int)) (g : Unit) => [(0, .slice A0 a0.length c0), (1, .slice A1 a1.length c1), (5, .int .i64 s)]) (fun (s : (Int)) (g : Unit) => []) (fun (s : (Int)) (g : Unit) => Mm w [] h []) (fun (s : (Int)) (g : Unit) => Mm w [] h []) (fun (s : (Int)) (g : Unit) => True) (fun (s : (Int)) (g : Unit) => True) () trivial (fun a w ha hw => ⟨ha.cons rfl (ha.cons rfl (ha.cons rfl (ha.nil))), hw⟩) (fun Gn Gb s g e hφ H hn1 hb1 hr1 => ?_) (fun s g hzz hφ => ?_)
  ·
    obtain ⟨x5, rfl⟩ : ∃ x, x = s := ⟨_, rfl⟩
    change smithyref02_Less.b1 a0 a1 x5 = some e at H
    unfold smithyref02_Less.b1 at H
    clear hz1
    change T 30 _ _ _
    refine t_seq ?_
    refine t_seq ?_
    refine t_region (fun ops hops => ?_)
    clear hops
    refine z_val (v := .int .i64 x5) (val_move rfl rfl) rfl rfl rfl (fun _ _ _ => trivial) ?_
    obtain ⟨x13, hx13, H⟩ := Let_elim H
    refine z_val (v := .bool x13) (by subst hx13; exact val_bin rfl rfl rfl rfl (i64_geq _ _ _)) rfl rfl rfl (fun _ _ _ => trivial) ?_
    clear hx13
    refine z_nil ?_
    cases x13
    ·
      replace H := cond_f H
      refine t_cond_false rfl ?_
      refine t_exit rfl ?_
      obtain rfl := Option.some.inj H
      exact t_reach ((hb1 _ () rfl trivial).weak (fun a ha => ha.nil) (fun w hw => hw))
    ·
      replace H := cond_t H
      refine t_cond_true rfl ?_
      refine t_skip ?_
      refine t_seq ?_
      refine t_block ?_
      refine t_seq ?_
      refine t_region (fun ops hops => ?_)
      clear hops
      refine z_val (v := .slice A0 a0.length c0) (val_move rfl rfl) rfl rfl rfl (fun _ _ _ => trivial) ?_
      refine z_val (v := .int .i64 x5) (val_move rfl rfl) rfl rfl rfl (fun _ _ _ => trivial) ?_
      obtain ⟨x18, hx, H⟩ := Option.bind_eq_some_iff.1 H
      refine z_made (v := .int .i64 x18) rfl Try.func28 nm28 bs28 rfl (fun w hw => smithyref02_at.calls a0 x5 A0 c0 x18 hx w (hs0.toW hw) hc0) rfl rfl rfl (fun _ _ _ => trivial) ?_
      clear hx
      refine z_val (v := .slice A1 a1.length c1) (val_move rfl rfl) rfl rfl rfl (fun _ _ _ => trivial) ?_
      refine z_val (v := .int .i64 x5) (val_move rfl rfl) rfl rfl rfl (fun _ _ _ => trivial) ?_
      obtain ⟨x21, hx_1, H⟩ := Option.bind_eq_some_iff.1 H
      refine z_made (v := .int .i64 x21) rfl Try.func28 nm28 bs28 rfl (fun w hw => smithyref02_at.calls a1 x5 A1 c1 x21 hx_1 w (hs1.toW hw) hc1) rfl rfl rfl (fun _ _ _ => trivial) ?_
      clear hx_1
      obtain ⟨x22, hx22, H⟩ := Let_elim H
      refine z_val (v := .bool x22) (by subst hx22; exact val_bin rfl rfl rfl rfl (i64_neq _ _ _)) rfl rfl rfl (fun _ _ _ => trivial) ?_
      clear hx22
      refine z_nil ?_
      cases x22
      ·
        replace H := cond_f H
        refine t_cond_false rfl ?_
        refine t_skip ?_
        refine t_fin ?_
        refine t_region (fun ops hops => ?_)
        clear hops
        refine z_val (v := .int .i64 x5) (val_move rfl rfl) rfl rfl rfl (fun _ _ _ => trivial) ?_
        obtain ⟨x15, hx15, H⟩ := Let_elim H
        refine z_val (v := .int .i64 x15) (by subst hx15; exact val_bin rfl rfl rfl rfl (i64_sub _ _ _)) rfl rfl rfl (fun _ _ _ => trivial) ?_
        clear hx15
        refine z_val (v := .int .i64 x15) (val_assign rfl rfl) rfl rfl rfl (fun _ _ _ => trivial) ?_
        refine z_nil ?_
        obtain rfl := Option.some.inj H
        exact t_reach ((hn1 _ () rfl trivial).weak (fun a ha => ha.cons rfl (ha.cons rfl (ha.cons rfl (ha.nil)))) (fun w hw => hw))
      ·
        replace H := cond_t H
        refine t_cond_true rfl ?_
        refine t_seq ?_
        refine t_region (fun ops hops => ?_)
        clear hops
        refine z_val (v := .slice A0 a0.length c0) (val_move rfl rfl) rfl rfl rfl (fun _ _ _ => trivial) ?_
        refine z_val (v := .int .i64 x5) (val_move rfl rfl) rfl rfl rfl (fun _ _ _ => trivial) ?_
        obtain ⟨x25, hx_2, H⟩ := Option.bind_eq_some_iff.1 H
        refine z_made (v := .int .i64 x25) rfl Try.func28 nm28 bs28 rfl (fun w hw => smithyref02_at.calls a0 x5 A0 c0 x25 hx_2 w (hs0.toW hw) hc0) rfl rfl rfl (fun _ _ _ => trivial) ?_
        clear hx_2
        refine z_val (v := .slice A1 a1.length c1) (val_move rfl rfl) rfl rfl rfl (fun _ _ _ => trivial) ?_
        refine z_val (v := .int .i64 x5) (val_move rfl rfl) rfl rfl rfl (fun _ _ _ => trivial) ?_
        obtain ⟨x28, hx_3, H⟩ := Option.bind_eq_some_iff.1 H
        refine z_made (v := .int .i64 x28) rfl Try.func28 nm28 bs28 rfl (fun w hw => smithyref02_at.calls a1 x5 A1 c1 x28 hx_3 w (hs1.toW hw) hc1) rfl rfl rfl (fun _ _ _ => trivial) ?_
        clear hx_3
        obtain ⟨x29, hx29, H⟩ := Let_elim H
        refine z_val (v := .bool x29) (by subst hx29; exact val_bin rfl rfl rfl rfl (i64_lss _ _ _)) rfl rfl rfl (fun _ _ _ => trivial) ?_
        clear hx29
        refine z_val (v := .bool x29) (val_assign rfl rfl) rfl rfl rfl (fun _ _ _ => trivial) ?_
        refine z_nil ?_
        refine t_ret ?_
        obtain rfl := Option.some.inj H
        have hz := hr1 _ rfl
        subst hz
        obtain rfl := Option.some.inj HK1
        exact ret1 rfl (res_tmp rfl) (fun _ hw => ⟨rfl, hw.below⟩)
  ·
    obtain ⟨x5, rfl⟩ : ∃ x, x = s := ⟨_, rfl⟩
    subst hzz
    have H := HK1
    clear HK1 hz1
    replace H := sum_l H
    try dsimp only at H
    change T 30 _ _ _
    refine t_seq ?_
    refine t_region (fun ops hops => ?_)
    clear hops
    refine z_val (v := .bool false) (val_assign rfl rfl) rfl rfl rfl (fun _ _ _ => trivial) ?_
    refine z_nil ?_
    refine t_ret ?_
    obtain rfl := Option.some.inj H
    exact ret1 rfl (res_tmp rfl) (fun _ hw => ⟨rfl, hw.below⟩)
def smithyref02_Minus.b1 (x11 : Int) (a0 : List (Int)) (a1 : List (Int)) (x5 : List (Int)) (x6 : Int) (x12 : Int) : Option (Ctl ((List (Int)) × (Int) × (Int)) (List (Int))) :=
  Let (decide (x12 < x11)) fun x13 => (bif x13 then Chk ((0 : Int) ≤ x12 ∧ x12 < (a0.length : Int)) <| Let (lget a0 x12.toNat) fun x18 => (smithyref02_at a1 x12).bind fun x21 => Let (wi (x18 - x21)) fun x22 => Let (wi (x22 - x6)) fun x24 => Let (decide (x24 < 0)) fun x26 => (bif x26 then Let (wi (x24 + 256)) fun x28 => some (1, x28) else some (0, x24)).bind (fun (s : (Int) × (Int)) => (fun (x6_12 : Int) (x8 : Int) => Let ([x8]) fun x31 => Chk ((x5.length + x31.length) * 8 ≤ 140737488355328) <| Let (x5 ++ x31) fun x32 => Let (wi (x12 + 1)) fun x33 => some (.next (x32, x6_12, x33))) s.1 s.2) else some (.brk (x5, x6, x12)))
def smithyref02_Minus (a0 : List (Int)) (a1 : List (Int)) : Option (List (Int)) :=
  Let (([] : List (Int))) fun x9 => Let ((a0.length : Int)) fun x11 => (wlx (σ := (List (Int)) × (Int) × (Int)) (fun s => smithyref02_Minus.b1 x11 a0 a1 s.1 s.2.1 s.2.2) (x9, 0, 0)).bind (Sum.elim (fun s => (fun x5 x6 x12 => some x5) s.1 s.2.1 s.2.2) (fun r => some r))
set_option maxRecDepth 100000 in
theorem smithyref02_Minus.calls  (a0 : List (Int)) (a1 : List (Int)) (A0 : Option Addr) (c0 : Nat) (A1 : Option Addr) (c1 : Nat) (r : List (Int)) (H : smithyref02_Minus a0 a1 = some r) (w : World) (hs0 : SlW w (Value.int .i64) A0 a0) (hc0 : a0.length ≤ c0) (hs1 : SlW w (Value.int .i64) A1 a1) (hc1 : a1.length ≤ c1)  :
    Calls Try.prog 46 #[.slice A0 a0.length c0, .slice A1 a1.length c1] w fun e w' => ∃ A c, e = .returned (.slice A r.length c) ∧ Below w.heap.size w w' ∧ OwnR w w' 3 (Value.int .i64) A c r := by
  unfold smithyref02_Minus at H
  replace hs0 := hs0.toH
  replace hs1 := hs1.toH
  have hM := Mm.start w (snap w) (snap_ok w)
  generalize snap w = h at *
  refine t_enter (vs := [.slice A0 a0.length c0, .slice A1 a1.length c1]) (n := 35) Try.func46 rfl rfl rfl hM ?_
  clear hM
  change T 35 _ _ _
  refine t_seq ?_
  refine t_region (fun ops hops => ?_)
  clear hops
  refine z_val (v := .slice none 0 0) (val_assign rfl rfl) rfl rfl rfl (fun _ _ _ => trivial) ?_
  refine z_nil ?_
  refine t_seq ?_
  refine t_region (fun ops hops => ?_)
  clear hops
  obtain ⟨x9, hx9, H⟩ := Let_elim H
  have hlx9 : x9.length = 0 := by subst hx9; rfl
  refine z_buildSlice' (e := 3) (f := (Value.int .i64)) (xs := x9) (vs := []) rfl rfl (by subst hx9; intro w; kernel_rfl) hlx9 (by decide) rfl rfl rfl (fun _ _ _ _ => trivial) (fun g_1 hs_3 => ?_)
  clear hx9 hlx9
  refine z_val (v := .slice (some ⟨g_1, 0, none⟩) x9.length 0) (val_assign rfl rfl) rfl rfl rfl (fun _ _ _ => trivial) ?_
  refine z_nil ?_
  refine t_seq ?_
  refine t_region (fun ops hops => ?_)
  clear hops
  refine z_val (v := .int .i64 0) (val_assign rfl rfl) rfl rfl rfl (fun _ _ _ => trivial) ?_
  refine z_nil ?_
  refine t_seq ?_
  refine t_seq ?_
  refine t_region (fun ops hops => ?_)
  clear hops
  refine z_val (v := .slice A0 a0.length c0) (val_move rfl rfl) rfl rfl rfl (fun _ _ _ => trivial) ?_
  obtain ⟨x11, hx11, H⟩ := Let_elim H
  refine z_val (v := .int .i64 x11) (by subst hx11; exact val_len rfl rfl rfl Try.underlying31) rfl rfl rfl (fun _ _ _ => trivial) ?_
  clear hx11
  refine z_val (v := .int .i64 0) (val_move rfl rfl) rfl rfl rfl (fun _ _ _ => trivial) ?_
  refine z_nil ?_
  refine t_block ?_
  obtain ⟨z1, hz1, HK1⟩ := Option.bind_eq_some_iff.1 H
  clear H
  refine t_while hz1 (fun (s : (List (Int)) × (Int) × (Int)) (g : (Option Addr) × (Nat)) => [(0, .slice A0 a0.length c0), (1, .slice A1 a1.length c1), (5, .slice g.1 s.1.length g.2), (6, .int .i64 s.2.1), (11, .int .i64 x11), (12, .int .i64 s.2.2)]) (fun (s : (List (Int)) × (Int) × (Int)) (g : (Option Addr) × (Nat)) => [(5, .slice g.1 s.1.length g.2)]) (fun (s : (List (Int)) × (Int) × (Int)) (g : (Option Addr) × (Nat)) => Mm w [] h [.row (.slice g.1 s.1.length g.2) 3 1 (s.1.map (Value.int .i64))]) (fun (s : (List (Int)) × (Int) × (Int)) (g : (Option Addr) × (Nat)) => Mm w [] h [.row (.slice g.1 s.1.length g.2) 3 1 (s.1.map (Value.int .i64))]) (fun (s : (List (Int)) × (Int) × (Int)) (g : (Option Addr) × (Nat)) => Shp g.1 s.1.length g.2) (fun (s : (List (Int)) × (Int) × (Int)) (g : (Option Addr) × (Nat)) => Shp g.1 s.1.length g.2) ⟨(some ⟨g_1, 0, none⟩), 0⟩ hs_3 (fun a w ha hw => ⟨ha.cons rfl (ha.cons rfl (ha.cons rfl (ha.cons rfl (ha.cons rfl (ha.cons rfl (ha.nil)))))), hw⟩) (fun Gn Gb s g e hφ H hn1 hb1 hr1 => ?_) (fun s g hzz hφ => ?_)
  ·
    obtain ⟨x5, x6, x12⟩ := s
    obtain ⟨A_4, c_5⟩ := g
    try dsimp only at hφ
    have hs_6 := hφ; clear hφ
    change smithyref02_Minus.b1 x11 a0 a1 x5 x6 x12 = some e at H
    unfold smithyref02_Minus.b1 at H
    clear hz1
    change T 35 _ _ _
    refine t_seq ?_
    refine t_region (fun ops hops => ?_)
    clear hops
    obtain ⟨x13, hx13, H⟩ := Let_elim H
    refine z_val (v := .bool x13) (by subst hx13; exact val_bin rfl rfl rfl rfl (i64_lss _ _ _)) rfl rfl rfl (fun _ _ _ => trivial) ?_
    clear hx13
    refine z_nil ?_
    refine t_seq ?_
    cases x13
    ·
      replace H := cond_f H
      refine t_cond_false rfl ?_
      refine t_exit rfl ?_
      obtain rfl := Option.some.inj H
      exact t_reach ((hb1 _ ⟨A_4, c_5⟩ rfl hs_6).weak (fun a ha => ha.cons rfl (ha.nil)) (fun w hw => hw))
    ·
      replace H := cond_t H
      refine t_cond_true rfl ?_
      refine t_skip ?_
      refine t_seq ?_
      refine t_block ?_
      refine t_seq ?_
      refine t_region (fun ops hops => ?_)
      clear hops
      refine z_val (v := .int .i64 x12) (val_move rfl rfl) rfl rfl rfl (fun _ _ _ => trivial) ?_
      refine z_val (v := .int .i64 x12) (val_assign rfl rfl) rfl rfl rfl (fun _ _ _ => trivial) ?_
      refine z_nil ?_
      refine t_seq ?_
      refine t_plan (C := Mm w [] h [.row (.slice A_4 x5.length c_5) 3 1 (x5.map (Value.int .i64))]) [] [(0, true), (1, true), (2, true), (3, true), (4, true), (5, true), (8, true), (6, false), (7, true), (9, true), (10, true)] (by kernel_rfl) (by kernel_rfl) (fun _ hw => hw.drew) (fun ops hops => ?_)
      clear hops
      refine z_still (v := .slice A0 a0.length c0) (val_move rfl rfl) rfl rfl rfl (fun _ hw => hw) ?_
      refine z_still (v := .int .i64 x12) (val_move rfl rfl) rfl rfl rfl (fun _ hw => hw) ?_
      obtain ⟨hq_7, H⟩ := Chk_elim H
      obtain ⟨b_8, o_9, hA_10, hc_11⟩ := hs0.at_ (idx_lt hq_7)
      refine z_still (v := .pointer (some ⟨b_8, o_9 + x12.toNat, none⟩)) (val_idxS0 rfl rfl rfl Try.underlying31 sz3 hq_7 hA_10 rfl) rfl rfl rfl (fun _ hw => hw) ?_
      obtain ⟨x18, hx18, H⟩ := Let_elim H
      refine z_still (v := .int .i64 x18) (by subst hx18; exact val_load1 rfl rfl Try.underlying3 rfl (fun _ hw => hc_11.cell hw)) rfl rfl rfl (fun _ hw => hw) ?_
      clear hx18
      refine z_still (v := .slice A1 a1.length c1) (val_move rfl rfl) rfl rfl rfl (fun _ hw => hw) ?_
      refine z_still (v := .int .i64 x12) (val_move rfl rfl) rfl rfl rfl (fun _ hw => hw) ?_
      refine z_still (v := .int .i64 x6) (val_move rfl rfl) rfl rfl rfl (fun _ hw => hw) ?_
      obtain ⟨x21, hx, H⟩ := Option.bind_eq_some_iff.1 H
      refine z_made (v := .int .i64 x21) rfl Try.func28 nm28 bs28 rfl (fun w hw => smithyref02_at.calls a1 x12 A1 c1 x21 hx w (hs1.toW hw) hc1) rfl rfl rfl (fun _ _ hw => hw) ?_
      clear hx
      obtain ⟨x22, hx22, H⟩ := Let_elim H
      refine z_still (v := .int .i64 x22) (by subst hx22; exact val_bin rfl rfl rfl rfl (i64_sub _ _ _)) rfl rfl rfl (fun _ hw => hw) ?_
      clear hx22
      obtain ⟨x24, hx24, H⟩ := Let_elim H
      refine z_still (v := .int .i64 x24) (by subst hx24; exact val_bin rfl rfl rfl rfl (i64_sub _ _ _)) rfl rfl rfl (fun _ hw => hw) ?_
      clear hx24
      refine z_still (v := .int .i64 x24) (val_assign rfl rfl) rfl rfl rfl (fun _ hw => hw) ?_
      refine z_nil ?_
      refine t_seq ?_
      refine t_region (fun ops hops => ?_)
      clear hops
      refine z_val (v := .int .i64 0) (val_assign rfl rfl) rfl rfl rfl (fun _ _ _ => trivial) ?_
      refine z_nil ?_
      refine t_seq ?_
      refine t_seq ?_
      refine t_region (fun ops hops => ?_)
      clear hops
      refine z_val (v := .int .i64 x24) (val_move rfl rfl) rfl rfl rfl (fun _ _ _ => trivial) ?_
      obtain ⟨x26, hx26, H⟩ := Let_elim H
      refine z_val (v := .bool x26) (by subst hx26; exact val_bin rfl rfl rfl rfl (i64_lss _ _ _)) rfl rfl rfl (fun _ _ _ => trivial) ?_
      clear hx26
      refine z_nil ?_
      refine t_bind H (fun (s : (Int) × (Int)) (g : Unit) => [(0, .slice A0 a0.length c0), (1, .slice A1 a1.length c1), (5, .slice A_4 x5.length c_5), (6, .int .i64 s.1), (8, .int .i64 s.2), (11, .int .i64 x11), (12, .int .i64 x12)]) (fun (s : (Int) × (Int)) (g : Unit) => Mm w [] h [.row (.slice A_4 x5.length c_5) 3 1 (x5.map (Value.int .i64))]) (fun (s : (Int) × (Int)) (g : Unit) => True) (fun Gr K s he HJ => ?_) (fun s g HB hφ => ?_)
      ·
        clear H
        cases x26
        ·
          have H := cond_f he
          clear he
          refine t_cond_false rfl ?_
          refine t_skip ?_
          obtain rfl := Option.some.inj H
          exact t_reach ((K _ () HJ trivial).weak (fun a ha => ha.cons rfl (ha.cons rfl (ha.cons rfl (ha.cons rfl (ha.cons rfl (ha.cons rfl (ha.cons rfl (ha.nil)))))))) (fun w hw => hw))
        ·
          have H := cond_t he
          clear he
          refine t_cond_true rfl ?_
          refine t_seq ?_
          refine t_region (fun ops hops => ?_)
          clear hops
          refine z_val (v := .int .i64 x24) (val_move rfl rfl) rfl rfl rfl (fun _ _ _ => trivial) ?_
          obtain ⟨x28, hx28, H⟩ := Let_elim H
          refine z_val (v := .int .i64 x28) (by subst hx28; exact val_bin rfl rfl rfl rfl (i64_add _ _ _)) rfl rfl rfl (fun _ _ _ => trivial) ?_
          clear hx28
          refine z_val (v := .int .i64 x28) (val_assign rfl rfl) rfl rfl rfl (fun _ _ _ => trivial) ?_
          refine z_nil ?_
          refine t_region (fun ops hops => ?_)
          clear hops
          refine z_val (v := .int .i64 1) (val_assign rfl rfl) rfl rfl rfl (fun _ _ _ => trivial) ?_
          refine z_nil ?_
          obtain rfl := Option.some.inj H
          exact t_reach ((K _ () HJ trivial).weak (fun a ha => ha.cons rfl (ha.cons rfl (ha.cons rfl (ha.cons rfl (ha.cons rfl (ha.cons rfl (ha.cons rfl (ha.nil)))))))) (fun w hw => hw))
      ·
        replace H := HB
        clear HB
        obtain ⟨x6_12, x8⟩ := s
        try dsimp only at H
        change T 35 _ _ _
        refine t_region (fun ops hops => ?_)
        clear hops
        refine z_val (v := .slice A_4 x5.length c_5) (val_move rfl rfl) rfl rfl rfl (fun _ _ _ => trivial) ?_
        refine z_val (v := .int .i64 x8) (val_move rfl rfl) rfl rfl rfl (fun _ _ _ => trivial) ?_
        obtain ⟨x31, hx31, H⟩ := Let_elim H
        have hlx31 : x31.length = 1 := by subst hx31; rfl
        refine z_buildSlice' (e := 3) (f := (Value.int .i64)) (xs := x31) (vs := [(0, .int .i64 x8)]) rfl rfl (by subst hx31; intro w; kernel_rfl) hlx31 (by decide) rfl rfl rfl (fun _ _ _ _ => trivial) (fun g_13 hs_15 => ?_)
        clear hx31 hlx31
        obtain ⟨hq_16, H⟩ := Chk_elim H
        obtain ⟨x32, hx32, H⟩ := Let_elim H
        refine z_append (f := (Value.int .i64)) (j := 1) (xs := x5) (ys := x31) (zs := x32) rfl rfl Try.underlying31 in3 rfl rfl rfl rfl (fun w hw => (row_w hw (j := 0) rfl)) (fun _ => rfl) hq_16 (by decide) hx32 (fun A_17 c_18 => [.row (.slice (some ⟨g_13, 0, none⟩) x31.length 1) 3 1 (x31.map (Value.int .i64)), .row (.slice A_17 x32.length c_18) 3 1 (x32.map (Value.int .i64))]) (fun _ _ => rfl) rfl rfl rfl (fun _ _ _ _ _ => trivial) (fun A_17 c_18 hs_19 => ?_)
        clear hx32
        refine z_val (v := .slice A_17 x32.length c_18) (val_assign rfl rfl) rfl rfl rfl (fun _ _ _ => trivial) ?_
        refine z_nil ?_
        refine t_fin ?_
        refine t_region (fun ops hops => ?_)
        clear hops
        obtain ⟨x33, hx33, H⟩ := Let_elim H
        refine z_val (v := .int .i64 x33) (by subst hx33; exact val_bin rfl rfl rfl rfl (i64_add _ _ _)) rfl rfl rfl (fun _ _ _ => trivial) ?_
        clear hx33
        refine z_val (v := .int .i64 x33) (val_move rfl rfl) rfl rfl rfl (fun _ _ _ => trivial) ?_
        refine z_nil ?_
        obtain rfl := Option.some.inj H
        exact t_reach ((hn1 _ ⟨A_17, c_18⟩ rfl hs_19).weak (fun a ha => ha.cons rfl (ha.cons rfl (ha.cons rfl (ha.cons rfl (ha.cons rfl (ha.cons rfl (ha.nil))))))) (fun w hw => hw.sel [1] rfl rfl))
  ·
    obtain ⟨x5, x6, x12⟩ := s
    obtain ⟨A_4, c_5⟩ := g
    try dsimp only at hφ
    have hs_6 := hφ; clear hφ
    subst hzz
    have H := HK1
    clear HK1 hz1
    replace H := sum_l H
    try dsimp only at H
    change T 35 _ _ _
    refine t_seq ?_
    refine t_region (fun ops hops => ?_)
    clear hops
    refine z_val (v := .slice A_4 x5.length c_5) (val_move rfl rfl) rfl rfl rfl (fun _ _ _ => trivial) ?_
    refine z_val (v := .slice A_4 x5.length c_5) (val_assign rfl rfl) rfl rfl rfl (fun _ _ _ => trivial) ?_
    refine z_nil ?_
    refine t_ret ?_
    obtain rfl := Option.some.inj H
    exact ret1 rfl (res_tmp rfl) (fun _ hw => ⟨A_4, c_5, rfl, hw.below, (row_out hw (j := 0) rfl hs_6)⟩)
def smithyref02_Div.b2 (a1 : List (Int)) (x8 : Int) (y_3_24 : List (Int)) (x7_26 : List (Int)) : Option (Ctl ((List (Int)) × (List (Int))) ((List (Int)) × (List (Int)))) :=
  (smithyref02_Less x7_26 a1).bind fun x36 => Let (!x36) fun x37 => (bif x37 then (smithyref02_Minus x7_26 a1).bind fun x40 => Chk ((0 : Int) ≤ x8 ∧ x8 < (y_3_24.length : Int)) <| Let (lget y_3_24 x8.toNat) fun x44 => Let (wi (x44 + 1)) fun x45 => Chk ((0 : Int) ≤ x8 ∧ x8 < (y_3_24.length : Int)) <| Let (y_3_24.set x8.toNat x45) fun x_42 => some (.next (x_42, x40)) else some (.brk (y_3_24, x7_26)))
def smithyref02_Div.b3  (x7_44 : List (Int)) : Option (Ctl ((List (Int))) ((List (Int)) × (List (Int)))) :=
  Let ((x7_44.length : Int)) fun x48 => Let (decide (0 < x48)) fun x49 => (bif x49 then Let ((x7_44.length : Int)) fun x53 => Let (wi (x53 - 1)) fun x54 => Chk ((0 : Int) ≤ x54 ∧ x54 < (x7_44.length : Int)) <| Let (lget x7_44 x54.toNat) fun x56 => Let (x56 == 0) fun x57 => some x57 else some false).bind (fun x58 => (bif x58 then Let ((x7_44.length : Int)) fun x61 => Let (wi (x61 - 1)) fun x62 => Chk ((0 : Int) ≤ x62 ∧ x62 ≤ (x7_44.length : Int)) <| Let (x7_44.take x62.toNat) fun x63 => some (.next x63) else some (.brk x7_44)))
def smithyref02_Div.b1 (a0 : List (Int)) (a1 : List (Int)) (y_3 : List (Int)) (x7 : List (Int)) (x8 : Int) : Option (Ctl ((List (Int)) × (List (Int)) × (Int)) ((List (Int)) × (List (Int)))) :=
  Let (decide (0 ≤ x8)) fun x22 => (bif x22 then Chk ((0 : Int) ≤ x8 ∧ x8 < (a0.length : Int)) <| Let (lget a0 x8.toNat) fun x28 => Let ([x28]) fun x29 => Chk ((x29.length + x7.length) * 8 ≤ 140737488355328) <| Let (x29 ++ x7) fun x32 => (wlx (σ := (List (Int)) × (List (Int))) (fun s => smithyref02_Div.b2 a1 x8 s.1 s.2) (y_3, x32)).bind (Sum.elim (fun s => (fun y_3_24 x7_26 => (wlx (σ := (List (Int))) (fun s => smithyref02_Div.b3 s) x7_26).bind (Sum.elim (fun x7_44 => Let (wi (x8 - 1)) fun x24 => some (.next (y_3_24, x7_44, x24))) (fun r => some (.ret r)))) s.1 s.2) (fun r => some (.ret r))) else some (.brk (y_3, x7, x8)))
def smithyref02_Div (a0 : List (Int)) (a1 : List (Int)) : Option ((List (Int)) × (List (Int))) :=
  Let ((a0.length : Int)) fun x11 => Chk ((0 : Int) ≤ x11 ∧ x11.toNat * 8 ≤ 140737488355328) <| Let (List.replicate x11.toNat 0) fun x12 => Let (([] : List (Int))) fun x13 => (smithyref02_Zero a1).bind fun x15 => (bif x15 then some (x12, x13) else Let ((a0.length : Int)) fun x19 => Let (wi (x19 - 1)) fun x20 => (wlx (σ := (List (Int)) × (List (Int)) × (Int)) (fun s => smithyref02_Div.b1 a0 a1 s.1 s.2.1 s.2.2) (x12, x13, x20)).bind (Sum.elim (fun s => (fun y_3 x7 x8 => some (y_3, x7)) s.1 s.2.1 s.2.2) (fun r => some r)))
set_option maxRecDepth 100000 in
theorem smithyref02_Div.calls  (a0 : List (Int)) (a1 : List (Int)) (A0 : Option Addr) (c0 : Nat) (A1 : Option Addr) (c1 : Nat) (r : (List (Int)) × (List (Int))) (H : smithyref02_Div a0 a1 = some r) {w0 : World} {Ex : List Nat} {h : Frag} {Lr : List Ent} {w : World} (hs0 : SlH h (Value.int .i64) A0 a0) (hc0 : a0.length ≤ c0) (hs1 : SlH h (Value.int .i64) A1 a1) (hc1 : a1.length ≤ c1)  (hM : Mm w0 Ex h (Lr) w) :
    Calls Try.prog 26 #[.slice A0 a0.length c0, .slice A1 a1.length c1] w fun e w' => ∃ (g : (Frag) × (Option Addr) × (Nat) × (Option Addr) × (Nat)), e = .returned (.tuple #[.slice g.2.1 r.1.length g.2.2.1, .slice g.2.2.2.1 r.2.length g.2.2.2.2]) ∧ (Sub h g.1 ∧ Shp g.2.1 r.1.length g.2.2.1 ∧ Shp g.2.2.2.1 r.2.length g.2.2.2.2) ∧ Mm w0 Ex g.1 ((.row (.slice g.2.1 r.1.length g.2.2.1) 3 1 (r.1.map (Value.int .i64))) :: (.row (.slice g.2.2.2.1 r.2.length g.2.2.2.2) 3 1 (r.2.map (Value.int .i64))) :: Lr) w' := by
  unfold smithyref02_Div at H
  refine t_enter (vs := [.slice A0 a0.length c0, .slice A1 a1.length c1]) (n := 66) Try.func26 rfl rfl rfl hM ?_
  clear hM
  change T 66 _ _ _
  refine t_seq ?_
  refine t_region (fun ops hops => ?_)
  clear hops
  refine z_val (v := .slice none 0 0) (val_assign rfl rfl) rfl rfl rfl (fun _ _ _ => trivial) ?_
  refine z_val (v := .slice none 0 0) (val_assign rfl rfl) rfl rfl rfl (fun _ _ _ => trivial) ?_
  refine z_nil ?_
  refine t_seq ?_
  refine t_region (fun ops hops => ?_)
  clear hops
  refine z_val (v := .slice A0 a0.length c0) (val_move rfl rfl) rfl rfl rfl (fun _ _ _ => trivial) ?_
  obtain ⟨x11, hx11, H⟩ := Let_elim H
  refine z_val (v := .int .i64 x11) (by subst hx11; exact val_len rfl rfl rfl Try.underlying31) rfl rfl rfl (fun _ _ _ => trivial) ?_
  clear hx11
  obtain ⟨hq_1, H⟩ := Chk_elim H
  obtain ⟨x12, hx12, H⟩ := Let_elim H
  refine z_makeSlice (f := (Value.int .i64)) (z0 := 0) (N := x11.toNat) rfl rfl rfl Try.underlying31 (in3.trans rfl) rfl hq_1.1 rfl hq_1.2 (by decide) hx12 rfl rfl rfl (fun _ _ _ _ => trivial) (fun g_2 hs_4 => ?_)
  clear hx12
  refine z_val (v := .slice (some ⟨g_2, 0, none⟩) x12.length (x11.toNat)) (val_assign rfl rfl) rfl rfl rfl (fun _ _ _ => trivial) ?_
  refine z_nil ?_
  refine t_seq ?_
  refine t_region (fun ops hops => ?_)
  clear hops
  obtain ⟨x13, hx13, H⟩ := Let_elim H
  have hlx13 : x13.length = 0 := by subst hx13; rfl
  refine z_buildSlice' (e := 3) (f := (Value.int .i64)) (xs := x13) (vs := []) rfl rfl (by subst hx13; intro w; kernel_rfl) hlx13 (by decide) rfl rfl rfl (fun _ _ _ _ => trivial) (fun g_5 hs_7 => ?_)
  clear hx13 hlx13
  refine z_val (v := .slice (some ⟨g_5, 0, none⟩) x13.length 0) (val_assign rfl rfl) rfl rfl rfl (fun _ _ _ => trivial) ?_
  refine z_nil ?_
  refine t_seq ?_
  refine t_seq ?_
  refine t_region (fun ops hops => ?_)
  clear hops
  refine z_val (v := .slice A1 a1.length c1) (val_move rfl rfl) rfl rfl rfl (fun _ _ _ => trivial) ?_
  obtain ⟨x15, hx, H⟩ := Option.bind_eq_some_iff.1 H
  refine z_made (v := .bool x15) rfl Try.func13 nm13 bs13 rfl (fun w hw => smithyref02_Zero.calls a1 A1 c1 x15 hx w (hs1.toW hw) hc1) rfl rfl rfl (fun _ _ _ => trivial) ?_
  clear hx
  refine z_nil ?_
  cases x15
  ·
    replace H := cond_f H
    refine t_cond_false rfl ?_
    refine t_skip ?_
    refine t_seq ?_
    refine t_seq ?_
    refine t_region (fun ops hops => ?_)
    clear hops
    refine z_val (v := .slice A0 a0.length c0) (val_move rfl rfl) rfl rfl rfl (fun _ _ _ => trivial) ?_
    obtain ⟨x19, hx19, H⟩ := Let_elim H
    refine z_val (v := .int .i64 x19) (by subst hx19; exact val_len rfl rfl rfl Try.underlying31) rfl rfl rfl (fun _ _ _ => trivial) ?_
    clear hx19
    obtain ⟨x20, hx20, H⟩ := Let_elim H
    refine z_val (v := .int .i64 x20) (by subst hx20; exact val_bin rfl rfl rfl rfl (i64_sub _ _ _)) rfl rfl rfl (fun _ _ _ => trivial) ?_
    clear hx20
    refine z_val (v := .int .i64 x20) (val_assign rfl rfl) rfl rfl rfl (fun _ _ _ => trivial) ?_
    refine z_nil ?_
    refine t_block ?_
    obtain ⟨z1, hz1, HK1⟩ := Option.bind_eq_some_iff.1 H
    clear H
    refine t_while hz1 (fun (s : (List (Int)) × (List (Int)) × (Int)) (g : (Option Addr) × (Nat)) => [(0, .slice A0 a0.length c0), (1, .slice A1 a1.length c1), (6, .slice (some ⟨g_2, 0, none⟩) s.1.length (x11.toNat)), (7, .slice g.1 s.2.1.length g.2), (8, .int .i64 s.2.2)]) (fun (s : (List (Int)) × (List (Int)) × (Int)) (g : (Option Addr) × (Nat)) => [(6, .slice (some ⟨g_2, 0, none⟩) s.1.length (x11.toNat)), (7, .slice g.1 s.2.1.length g.2)]) (fun (s : (List (Int)) × (List (Int)) × (Int)) (g : (Option Addr) × (Nat)) => Mm w0 Ex h ((.row (.slice g.1 s.2.1.length g.2) 3 1 (s.2.1.map (Value.int .i64))) :: (.row (.slice (some ⟨g_2, 0, none⟩) s.1.length (x11.toNat)) 3 1 (s.1.map (Value.int .i64))) :: Lr)) (fun (s : (List (Int)) × (List (Int)) × (Int)) (g : (Option Addr) × (Nat)) => Mm w0 Ex h ((.row (.slice g.1 s.2.1.length g.2) 3 1 (s.2.1.map (Value.int .i64))) :: (.row (.slice (some ⟨g_2, 0, none⟩) s.1.length (x11.toNat)) 3 1 (s.1.map (Value.int .i64))) :: Lr)) (fun (s : (List (Int)) × (List (Int)) × (Int)) (g : (Option Addr) × (Nat)) => Shp ((some ⟨g_2, 0, none⟩)) s.1.length (x11.toNat) ∧ Shp g.1 s.2.1.length g.2) (fun (s : (List (Int)) × (List (Int)) × (Int)) (g : (Option Addr) × (Nat)) => Shp ((some ⟨g_2, 0, none⟩)) s.1.length (x11.toNat) ∧ Shp g.1 s.2.1.length g.2) ⟨(some ⟨g_5, 0, none⟩), 0⟩ ⟨hs_4, hs_7⟩ (fun a w ha hw => ⟨ha.cons rfl (ha.cons rfl (ha.cons rfl (ha.cons rfl (ha.cons rfl (ha.nil))))), hw⟩) (fun Gn Gb s g e hφ H hn1 hb1 hr1 => ?_) (fun s g hzz hφ => ?_)
    ·
      obtain ⟨y_3, x7, x8⟩ := s
      obtain ⟨A_9, c_10⟩ := g
      try dsimp only at hφ
      obtain ⟨hs_8, hs_11⟩ := hφ
      change smithyref02_Div.b1 a0 a1 y_3 x7 x8 = some e at H
      unfold smithyref02_Div.b1 at H
      clear hz1
      change T 66 _ _ _
      refine t_seq ?_
      refine t_seq ?_
      refine t_region (fun ops hops => ?_)
      clear hops
      refine z_val (v := .int .i64 x8) (val_move rfl rfl) rfl rfl rfl (fun _ _ _ => trivial) ?_
      obtain ⟨x22, hx22, H⟩ := Let_elim H
      refine z_val (v := .bool x22) (by subst hx22; exact val_bin rfl rfl rfl rfl (i64_geq _ _ _)) rfl rfl rfl (fun _ _ _ => trivial) ?_
      clear hx22
      refine z_nil ?_
      cases x22
      ·
        replace H := cond_f H
        refine t_cond_false rfl ?_
        refine t_exit rfl ?_
        obtain rfl := Option.some.inj H
        exact t_reach ((hb1 _ ⟨A_9, c_10⟩ rfl ⟨hs_8, hs_11⟩).weak (fun a ha => ha.cons rfl (ha.cons rfl (ha.nil))) (fun w hw => hw))
      ·
        replace H := cond_t H
        refine t_cond_true rfl ?_
        refine t_skip ?_
        refine t_seq ?_
        refine t_block ?_
        refine t_seq ?_
        refine t_region (fun ops hops => ?_)
        clear hops
        refine z_val (v := .slice A0 a0.length c0) (val_move rfl rfl) rfl rfl rfl (fun _ _ _ => trivial) ?_
        refine z_val (v := .int .i64 x8) (val_move rfl rfl) rfl rfl rfl (fun _ _ _ => trivial) ?_
        obtain ⟨hq_12, H⟩ := Chk_elim H
        obtain ⟨b_13, o_14, hA_15, hc_16⟩ := hs0.at_ (idx_lt hq_12)
        refine z_val (v := .pointer (some ⟨b_13, o_14 + x8.toNat, none⟩)) (val_idxS0 rfl rfl rfl Try.underlying31 sz3 hq_12 hA_15 rfl) rfl rfl rfl (fun _ _ _ => trivial) ?_
        obtain ⟨x28, hx28, H⟩ := Let_elim H
        refine z_val (v := .int .i64 x28) (by subst hx28; exact val_load1 rfl rfl Try.underlying3 rfl (fun _ hw => hc_16.cell hw)) rfl rfl rfl (fun _ _ _ => trivial) ?_
        clear hx28
        obtain ⟨x29, hx29, H⟩ := Let_elim H
        have hlx29 : x29.length = 1 := by subst hx29; rfl
        refine z_buildSlice' (e := 3) (f := (Value.int .i64)) (xs := x29) (vs := [(0, .int .i64 x28)]) rfl rfl (by subst hx29; intro w; kernel_rfl) hlx29 (by decide) rfl rfl rfl (fun _ _ _ _ => trivial) (fun g_17 hs_19 => ?_)
        clear hx29 hlx29
        refine z_val (v := .slice (some ⟨g_17, 0, none⟩) x29.length 1) (val_assign rfl rfl) rfl rfl rfl (fun _ _ _ => trivial) ?_
        refine z_nil ?_
        refine t_seq ?_
        refine t_region (fun ops hops => ?_)
        clear hops
        refine z_val (v := .slice (some ⟨g_17, 0, none⟩) x29.length 1) (val_move rfl rfl) rfl rfl rfl (fun _ _ _ => trivial) ?_
        refine z_val (v := .slice A_9 x7.length c_10) (val_move rfl rfl) rfl rfl rfl (fun _ _ _ => trivial) ?_
        obtain ⟨hq_20, H⟩ := Chk_elim H
        obtain ⟨x32, hx32, H⟩ := Let_elim H
        refine z_append (f := (Value.int .i64)) (j := 0) (xs := x29) (ys := x7) (zs := x32) rfl rfl Try.underlying31 in3 rfl rfl rfl rfl (fun w hw => (row_w hw (j := 1) rfl)) (fun _ => rfl) hq_20 (by decide) hx32 (fun A_21 c_22 => (.row (.slice A_21 x32.length c_22) 3 1 (x32.map (Value.int .i64))) :: (.row (.slice A_9 x7.length c_10) 3 1 (x7.map (Value.int .i64))) :: (.row (.slice (some ⟨g_2, 0, none⟩) y_3.length (x11.toNat)) 3 1 (y_3.map (Value.int .i64))) :: Lr) (fun _ _ => rfl) rfl rfl rfl (fun _ _ _ _ _ => trivial) (fun A_21 c_22 hs_23 => ?_)
        clear hx32
        refine z_val (v := .slice A_21 x32.length c_22) (val_assign rfl rfl) rfl rfl rfl (fun _ _ _ => trivial) ?_
        refine z_nil ?_
        refine t_seq ?_
        refine t_region (fun ops hops => ?_)
        clear hops
        refine z_val (v := .slice A_21 x32.length c_22) (val_move rfl rfl) rfl rfl rfl (fun _ _ _ => trivial) ?_
        refine z_val (v := .slice A_21 x32.length c_22) (val_assign rfl rfl) rfl rfl rfl (fun _ _ _ => trivial) ?_
        refine z_nil ?_
        refine t_seq ?_
        refine t_block ?_
        obtain ⟨z2, hz2, HK2⟩ := Option.bind_eq_some_iff.1 H
        clear H
        refine t_while hz2 (fun (s : (List (Int)) × (List (Int))) (g : (Option Addr) × (Nat)) => [(0, .slice A0 a0.length c0), (1, .slice A1 a1.length c1), (6, .slice (some ⟨g_2, 0, none⟩) s.1.length (x11.toNat)), (7, .slice g.1 s.2.length g.2), (8, .int .i64 x8)]) (fun (s : (List (Int)) × (List (Int))) (g : (Option Addr) × (Nat)) => [(0, .slice A0 a0.length c0), (1, .slice A1 a1.length c1), (6, .slice (some ⟨g_2, 0, none⟩) s.1.length (x11.toNat)), (7, .slice g.1 s.2.length g.2), (8, .int .i64 x8)]) (fun (s : (List (Int)) × (List (Int))) (g : (Option Addr) × (Nat)) => Mm w0 Ex h ((.row (.slice g.1 s.2.length g.2) 3 1 (s.2.map (Value.int .i64))) :: (.row (.slice (some ⟨g_2, 0, none⟩) s.1.length (x11.toNat)) 3 1 (s.1.map (Value.int .i64))) :: Lr)) (fun (s : (List (Int)) × (List (Int))) (g : (Option Addr) × (Nat)) => Mm w0 Ex h ((.row (.slice g.1 s.2.length g.2) 3 1 (s.2.map (Value.int .i64))) :: (.row (.slice (some ⟨g_2, 0, none⟩) s.1.length (x11.toNat)) 3 1 (s.1.map (Value.int .i64))) :: Lr)) (fun (s : (List (Int)) × (List (Int))) (g : (Option Addr) × (Nat)) => Shp ((some ⟨g_2, 0, none⟩)) s.1.length (x11.toNat) ∧ Shp g.1 s.2.length g.2) (fun (s : (List (Int)) × (List (Int))) (g : (Option Addr) × (Nat)) => Shp ((some ⟨g_2, 0, none⟩)) s.1.length (x11.toNat) ∧ Shp g.1 s.2.length g.2) ⟨A_21, c_22⟩ ⟨hs_8, hs_23⟩ (fun a w ha hw => ⟨ha.cons rfl (ha.cons rfl (ha.cons rfl (ha.cons rfl (ha.cons rfl (ha.nil))))), hw.selK 3 [0, 2] rfl rfl⟩) (fun Gn Gb s g e hφ H hn2 hb2 hr2 => ?_) (fun s g hzz hφ => ?_)
        ·
          obtain ⟨y_3_24, x7_26⟩ := s
          obtain ⟨A_27, c_28⟩ := g
          try dsimp only at hφ
          obtain ⟨hs_25, hs_29⟩ := hφ
          change smithyref02_Div.b2 a1 x8 y_3_24 x7_26 = some e at H
          unfold smithyref02_Div.b2 at H
          clear hz2
          change T 66 _ _ _
          refine t_seq ?_
          refine t_seq ?_
          refine t_region (fun ops hops => ?_)
          clear hops
          refine z_val (v := .slice A_27 x7_26.length c_28) (val_move rfl rfl) rfl rfl rfl (fun _ _ _ => trivial) ?_
          refine z_val (v := .slice A1 a1.length c1) (val_move rfl rfl) rfl rfl rfl (fun _ _ _ => trivial) ?_
          obtain ⟨x36, hx_30, H⟩ := Option.bind_eq_some_iff.1 H
          refine z_made (v := .bool x36) rfl Try.func16 nm16 bs16 rfl (fun w hw => smithyref02_Less.calls x7_26 a1 A_27 c_28 A1 c1 x36 hx_30 w (row_w hw (j := 0) rfl) hs_29.le (hs1.toW hw) hc1) rfl rfl rfl (fun _ _ _ => trivial) ?_
          clear hx_30
          obtain ⟨x37, hx37, H⟩ := Let_elim H
          refine z_val (v := .bool x37) (by subst hx37; exact val_un rfl rfl (bool_not _)) rfl rfl rfl (fun _ _ _ => trivial) ?_
          clear hx37
          refine z_nil ?_
          cases x37
          ·
            replace H := cond_f H
            refine t_cond_false rfl ?_
            refine t_exit rfl ?_
            obtain rfl := Option.some.inj H
            exact t_reach ((hb2 _ ⟨A_27, c_28⟩ rfl ⟨hs_25, hs_29⟩).weak (fun a ha => ha.cons rfl (ha.cons rfl (ha.cons rfl (ha.cons rfl (ha.cons rfl (ha.nil)))))) (fun w hw => hw))
          ·
            replace H := cond_t H
            refine t_cond_true rfl ?_
            refine t_skip ?_
            refine t_block ?_
            refine t_seq ?_
            refine t_region (fun ops hops => ?_)
            clear hops
            refine z_val (v := .slice A_27 x7_26.length c_28) (val_move rfl rfl) rfl rfl rfl (fun _ _ _ => trivial) ?_
            refine z_val (v := .slice A1 a1.length c1) (val_move rfl rfl) rfl rfl rfl (fun _ _ _ => trivial) ?_
            obtain ⟨x40, hx_31, H⟩ := Option.bind_eq_some_iff.1 H
            refine z_madeS (F := fun A_32 c_33 => .slice A_32 x40.length c_33) (xs := x40) rfl Try.func46 nm46 bs46 rfl (fun w hw => smithyref02_Minus.calls x7_26 a1 A_27 c_28 A1 c1 x40 hx_31 w (row_w hw (j := 0) rfl) hs_29.le (hs1.toW hw) hc1) rfl rfl rfl (fun _ _ _ _ _ => trivial) (fun A_32 c_33 hs_34 => ?_)
            clear hx_31
            refine z_val (v := .slice A_32 x40.length c_33) (val_assign rfl rfl) rfl rfl rfl (fun _ _ _ => trivial) ?_
            refine z_nil ?_
            refine t_region (fun ops hops => ?_)
            clear hops
            refine z_val (v := .slice (some ⟨g_2, 0, none⟩) y_3_24.length (x11.toNat)) (val_move rfl rfl) rfl rfl rfl (fun _ _ _ => trivial) ?_
            refine z_val (v := .int .i64 x8) (val_move rfl rfl) rfl rfl rfl (fun _ _ _ => trivial) ?_
            obtain ⟨hq_36, H⟩ := Chk_elim H
            obtain ⟨g_37, hA_38⟩ := hs_25.blk (by omega)
            refine z_val (v := .pointer (some ⟨g_37, x8.toNat, none⟩)) (val_idxS1 rfl rfl rfl Try.underlying31 sz3 hq_36 hA_38 rfl) rfl rfl rfl (fun _ _ _ => trivial) ?_
            obtain ⟨x44, hx44, H⟩ := Let_elim H
            refine z_val (v := .int .i64 x44) (by subst hx44; exact val_load1 rfl rfl Try.underlying3 rfl (fun _ hw => row_cell' hw (j := 2) rfl hA_38 (idx_lt hq_36))) rfl rfl rfl (fun _ _ _ => trivial) ?_
            clear hx44
            obtain ⟨x45, hx45, H⟩ := Let_elim H
            refine z_val (v := .int .i64 x45) (by subst hx45; exact val_bin rfl rfl rfl rfl (i64_add _ _ _)) rfl rfl rfl (fun _ _ _ => trivial) ?_
            clear hx45
            obtain ⟨hq_39, H⟩ := Chk_elim H
            obtain ⟨g_40, hA_41⟩ := hs_25.blk (by omega)
            refine z_val (v := .pointer (some ⟨g_40, x8.toNat, none⟩)) (val_idxS1 rfl rfl rfl Try.underlying31 sz3 hq_39 hA_41 rfl) rfl rfl rfl (fun _ _ _ => trivial) ?_
            obtain ⟨x_42, hx_42, H⟩ := Let_elim H
            have hs_43 : Shp ((some ⟨g_2, 0, none⟩)) x_42.length (x11.toNat) := by subst hx_42; rw [List.length_set]; exact hs_25
            refine z_storeRow' (j := 2) (zs := x_42) (L' := (.row (.slice A_32 x40.length c_33) 3 1 (x40.map (Value.int .i64))) :: (.row (.slice A_27 x7_26.length c_28) 3 1 (x7_26.map (Value.int .i64))) :: (.row (.slice (some ⟨g_2, 0, none⟩) x_42.length (x11.toNat)) 3 1 (x_42.map (Value.int .i64))) :: Lr) rfl rfl rfl rfl rfl rfl sz3 rfl hA_41 (idx_lt hq_39) (by subst hx_42; rfl) rfl rfl rfl (fun _ _ _ => trivial) ?_
            have hl : y_3_24.length = x_42.length := by subst hx_42; rw [List.length_set]
            refine t_len (show y_3_24.length = x_42.length from hl) (fun z => [(0, .slice A0 a0.length c0), (1, .slice A1 a1.length c1), (6, .slice (some ⟨g_2, 0, none⟩) z (x11.toNat)), (7, .slice A_32 x40.length c_33), (8, .int .i64 x8), (34, .slice A_27 x7_26.length c_28), (35, .slice A1 a1.length c1), (36, .bool x36), (37, .bool true), (38, .slice A_27 x7_26.length c_28), (39, .slice A1 a1.length c1), (40, .slice A_32 x40.length c_33), (41, .slice (some ⟨g_2, 0, none⟩) z (x11.toNat)), (42, .int .i64 x8), (43, .pointer (some ⟨g_37, x8.toNat, none⟩)), (44, .int .i64 x44), (45, .int .i64 x45), (46, .pointer (some ⟨g_40, x8.toNat, none⟩))]) (fun a ha => ha.cons rfl (ha.cons rfl (ha.cons rfl (ha.cons rfl (ha.cons rfl (ha.cons rfl (ha.cons rfl (ha.cons rfl (ha.cons rfl (ha.cons rfl (ha.cons rfl (ha.cons rfl (ha.cons rfl (ha.cons rfl (ha.cons rfl (ha.cons rfl (ha.cons rfl (ha.cons rfl (ha.nil))))))))))))))))))) ?_
            change T 66 _ _ _
            clear hx_42 hl
            refine z_nil ?_
            refine t_fin ?_
            obtain rfl := Option.some.inj H
            exact t_reach ((hn2 _ ⟨A_32, c_33⟩ rfl ⟨hs_43, hs_34⟩).weak (fun a ha => ha.cons rfl (ha.cons rfl (ha.cons rfl (ha.cons rfl (ha.cons rfl (ha.nil)))))) (fun w hw => hw.selK 3 [0, 2] rfl rfl))
        ·
          obtain ⟨y_3_24, x7_26⟩ := s
          obtain ⟨A_27, c_28⟩ := g
          try dsimp only at hφ
          obtain ⟨hs_25, hs_29⟩ := hφ
          subst hzz
          have H := HK2
          clear HK2 hz2
          replace H := sum_l H
          try dsimp only at H
          change T 66 _ _ _
          refine t_block ?_
          obtain ⟨z2, hz2, HK2⟩ := Option.bind_eq_some_iff.1 H
          clear H
          refine t_while hz2 (fun (s : (List (Int))) (g : (Option Addr) × (Nat)) => [(0, .slice A0 a0.length c0), (1, .slice A1 a1.length c1), (6, .slice (some ⟨g_2, 0, none⟩) y_3_24.length (x11.toNat)), (7, .slice g.1 s.length g.2), (8, .int .i64 x8)]) (fun (s : (List (Int))) (g : (Option Addr) × (Nat)) => [(0, .slice A0 a0.length c0), (1, .slice A1 a1.length c1), (6, .slice (some ⟨g_2, 0, none⟩) y_3_24.length (x11.toNat)), (7, .slice g.1 s.length g.2), (8, .int .i64 x8)]) (fun (s : (List (Int))) (g : (Option Addr) × (Nat)) => Mm w0 Ex h ((.row (.slice g.1 s.length g.2) 3 1 (s.map (Value.int .i64))) :: (.row (.slice (some ⟨g_2, 0, none⟩) y_3_24.length (x11.toNat)) 3 1 (y_3_24.map (Value.int .i64))) :: Lr)) (fun (s : (List (Int))) (g : (Option Addr) × (Nat)) => Mm w0 Ex h ((.row (.slice g.1 s.length g.2) 3 1 (s.map (Value.int .i64))) :: (.row (.slice (some ⟨g_2, 0, none⟩) y_3_24.length (x11.toNat)) 3 1 (y_3_24.map (Value.int .i64))) :: Lr)) (fun (s : (List (Int))) (g : (Option Addr) × (Nat)) => Shp g.1 s.length g.2) (fun (s : (List (Int))) (g : (Option Addr) × (Nat)) => Shp g.1 s.length g.2) ⟨A_27, c_28⟩ hs_29 (fun a w ha hw => ⟨ha.cons rfl (ha.cons rfl (ha.cons rfl (ha.cons rfl (ha.cons rfl (ha.nil))))), hw⟩) (fun Gn Gb s g e hφ H hn2 hb2 hr2 => ?_) (fun s g hzz hφ => ?_)
          ·
            obtain ⟨x7_44, rfl⟩ : ∃ x, x = s := ⟨_, rfl⟩
            obtain ⟨A_45, c_46⟩ := g
            try dsimp only at hφ
            have hs_47 := hφ; clear hφ
            change smithyref02_Div.b3 x7_44 = some e at H
            unfold smithyref02_Div.b3 at H
            clear hz2
            change T 66 _ _ _
            refine t_seq ?_
            refine t_seq ?_
            refine t_region (fun ops hops => ?_)
            refine z_val (v := .slice A_45 x7_44.length c_46) (val_move rfl rfl) rfl rfl rfl (fun _ _ _ => trivial) ?_
            obtain ⟨x48, hx48, H⟩ := Let_elim H
            refine z_val (v := .int .i64 x48) (by subst hx48; exact val_len rfl rfl rfl Try.underlying31) rfl rfl rfl (fun _ _ _ => trivial) ?_
            clear hx48
            obtain ⟨x49, hx49, H⟩ := Let_elim H
            refine z_val (v := .bool x49) (by subst hx49; exact val_bin rfl rfl rfl rfl (i64_gtr _ _ _)) rfl rfl rfl (fun _ _ _ => trivial) ?_
            clear hx49
            refine z_val (v := .bool x49) (val_move rfl rfl) rfl rfl rfl (fun _ _ _ => trivial) ?_
            refine z_bind H 8 (fun (s : Bool) (_ : Unit) => [(0, .slice A0 a0.length c0), (1, .slice A1 a1.length c1), (6, .slice (some ⟨g_2, 0, none⟩) y_3_24.length (x11.toNat)), (7, .slice A_45 x7_44.length c_46), (8, .int .i64 x8), (58, .bool s)]) (fun _ _ => Mm w0 Ex h ((.row (.slice A_45 x7_44.length c_46) 3 1 (x7_44.map (Value.int .i64))) :: (.row (.slice (some ⟨g_2, 0, none⟩) y_3_24.length (x11.toNat)) 3 1 (y_3_24.map (Value.int .i64))) :: Lr)) (fun _ _ => True) (fun Gr K s he HJ => ?_) (fun s g HB _ => ?_)
            ·
              clear H
              cases x49
              ·
                have H := cond_f he
                clear he
                refine z_skip rfl rfl (by rw [hops]; rfl) (fun _ _ _ => trivial) ?_
                refine z_skip rfl rfl (by rw [hops]; rfl) (fun _ _ _ => trivial) ?_
                refine z_skip rfl rfl (by rw [hops]; rfl) (fun _ _ _ => trivial) ?_
                refine z_skip rfl rfl (by rw [hops]; rfl) (fun _ _ _ => trivial) ?_
                refine z_skip rfl rfl (by rw [hops]; rfl) (fun _ _ _ => trivial) ?_
                refine z_skip rfl rfl (by rw [hops]; rfl) (fun _ _ _ => trivial) ?_
                refine z_skip rfl rfl (by rw [hops]; rfl) (fun _ _ _ => trivial) ?_
                refine z_val (v := .bool false) (val_pick rfl rfl rfl) rfl rfl rfl (fun _ _ _ => trivial) ?_
                obtain rfl := Option.some.inj H
                exact z_nil ((K _ () HJ trivial).weak (fun a ha => ha.cons rfl (ha.cons rfl (ha.cons rfl (ha.cons rfl (ha.cons rfl (ha.cons rfl (ha.nil))))))) (fun w hw => hw))
              ·
                have H := cond_t he
                clear he
                refine z_val (v := .slice A_45 x7_44.length c_46) (val_move rfl rfl) rfl rfl (by rw [hops]; rfl) (fun _ _ _ => trivial) ?_
                refine z_val (v := .slice A_45 x7_44.length c_46) (val_move rfl rfl) rfl rfl (by rw [hops]; rfl) (fun _ _ _ => trivial) ?_
                obtain ⟨x53, hx53, H⟩ := Let_elim H
                refine z_val (v := .int .i64 x53) (by subst hx53; exact val_len rfl rfl rfl Try.underlying31) rfl rfl (by rw [hops]; rfl) (fun _ _ _ => trivial) ?_
                clear hx53
                obtain ⟨x54, hx54, H⟩ := Let_elim H
                refine z_val (v := .int .i64 x54) (by subst hx54; exact val_bin rfl rfl rfl rfl (i64_sub _ _ _)) rfl rfl (by rw [hops]; rfl) (fun _ _ _ => trivial) ?_
                clear hx54
                obtain ⟨hq_48, H⟩ := Chk_elim H
                obtain ⟨g_49, hA_50⟩ := hs_47.blk (by omega)
                refine z_val (v := .pointer (some ⟨g_49, x54.toNat, none⟩)) (val_idxS1 rfl rfl rfl Try.underlying31 sz3 hq_48 hA_50 rfl) rfl rfl (by rw [hops]; rfl) (fun _ _ _ => trivial) ?_
                obtain ⟨x56, hx56, H⟩ := Let_elim H
                refine z_val (v := .int .i64 x56) (by subst hx56; exact val_load1 rfl rfl Try.underlying3 rfl (fun _ hw => row_cell' hw (j := 0) rfl hA_50 (idx_lt hq_48))) rfl rfl (by rw [hops]; rfl) (fun _ _ _ => trivial) ?_
                clear hx56
                obtain ⟨x57, hx57, H⟩ := Let_elim H
                refine z_val (v := .bool x57) (by subst hx57; exact val_bin rfl rfl rfl rfl (i64_eql _ _ _)) rfl rfl (by rw [hops]; rfl) (fun _ _ _ => trivial) ?_
                clear hx57
                refine z_val (v := .bool x57) (val_pick rfl rfl rfl) rfl rfl rfl (fun _ _ _ => trivial) ?_
                obtain rfl := Option.some.inj H
                exact z_nil ((K _ () HJ trivial).weak (fun a ha => ha.cons rfl (ha.cons rfl (ha.cons rfl (ha.cons rfl (ha.cons rfl (ha.cons rfl (ha.nil))))))) (fun w hw => hw))
            ·
              replace H := HB
              clear HB
              obtain ⟨x58, rfl⟩ : ∃ x, x = s := ⟨_, rfl⟩
              change T 66 _ _ _
              refine z_nil ?_
              cases x58
              ·
                replace H := cond_f H
                refine t_cond_false rfl ?_
                refine t_exit rfl ?_
                obtain rfl := Option.some.inj H
                exact t_reach ((hb2 _ ⟨A_45, c_46⟩ rfl hs_47).weak (fun a ha => ha.cons rfl (ha.cons rfl (ha.cons rfl (ha.cons rfl (ha.cons rfl (ha.nil)))))) (fun w hw => hw))
              ·
                replace H := cond_t H
                refine t_cond_true rfl ?_
                refine t_skip ?_
                refine t_block ?_
                refine t_region (fun ops hops => ?_)
                clear hops
                refine z_val (v := .slice A_45 x7_44.length c_46) (val_move rfl rfl) rfl rfl rfl (fun _ _ _ => trivial) ?_
                refine z_val (v := .slice A_45 x7_44.length c_46) (val_move rfl rfl) rfl rfl rfl (fun _ _ _ => trivial) ?_
                obtain ⟨x61, hx61, H⟩ := Let_elim H
                refine z_val (v := .int .i64 x61) (by subst hx61; exact val_len rfl rfl rfl Try.underlying31) rfl rfl rfl (fun _ _ _ => trivial) ?_
                clear hx61
                obtain ⟨x62, hx62, H⟩ := Let_elim H
                refine z_val (v := .int .i64 x62) (by subst hx62; exact val_bin rfl rfl rfl rfl (i64_sub _ _ _)) rfl rfl rfl (fun _ _ _ => trivial) ?_
                clear hx62
                obtain ⟨hq_51, H⟩ := Chk_elim H
                obtain ⟨x63, hx63, H⟩ := Let_elim H
                have hl_52 : x63.length = x62.toNat := by subst hx63; rw [List.length_take]; omega
                have hs_53 : Shp A_45 x63.length c_46 := by rw [hl_52]; exact hs_47.take (by omega)
                refine z_val (v := .slice A_45 x63.length c_46) (val_sliceHz rfl rfl rfl Try.underlying31 sz3 hq_51.1 (by have := hs_47.le; omega) (by rw [hl_52, own_cut hs_47]; rfl)) rfl rfl rfl (fun _ _ _ => trivial) ?_
                refine z_val (v := .slice A_45 x63.length c_46) (val_assign rfl rfl) rfl rfl rfl (fun _ _ _ => trivial) ?_
                refine z_nil ?_
                refine t_trunc (f := (Value.int .i64)) (j := 0) (ys := x63) rfl (by omega) hx63 (L' := (.row (.slice A_45 x63.length c_46) 3 1 (x63.map (Value.int .i64))) :: (.row (.slice (some ⟨g_2, 0, none⟩) y_3_24.length (x11.toNat)) 3 1 (y_3_24.map (Value.int .i64))) :: Lr) rfl ?_
                refine t_fin ?_
                obtain rfl := Option.some.inj H
                exact t_reach ((hn2 _ ⟨A_45, c_46⟩ rfl hs_53).weak (fun a ha => ha.cons rfl (ha.cons rfl (ha.cons rfl (ha.cons rfl (ha.cons rfl (ha.nil)))))) (fun w hw => hw))
          ·
            obtain ⟨x7_44, rfl⟩ : ∃ x, x = s := ⟨_, rfl⟩
            obtain ⟨A_45, c_46⟩ := g
            try dsimp only at hφ
            have hs_47 := hφ; clear hφ
            subst hzz
            have H := HK2
            clear HK2 hz2
            replace H := sum_l H
            try dsimp only at H
            change T 66 _ _ _
            refine t_fin ?_
            refine t_region (fun ops hops => ?_)
            clear hops
            refine z_val (v := .int .i64 x8) (val_move rfl rfl) rfl rfl rfl (fun _ _ _ => trivial) ?_
            obtain ⟨x24, hx24, H⟩ := Let_elim H
            refine z_val (v := .int .i64 x24) (by subst hx24; exact val_bin rfl rfl rfl rfl (i64_sub _ _ _)) rfl rfl rfl (fun _ _ _ => trivial) ?_
            clear hx24
            refine z_val (v := .int .i64 x24) (val_assign rfl rfl) rfl rfl rfl (fun _ _ _ => trivial) ?_
            refine z_nil ?_
            obtain rfl := Option.some.inj H
            exact t_reach ((hn1 _ ⟨A_45, c_46⟩ rfl ⟨hs_25, hs_47⟩).weak (fun a ha => ha.cons rfl (ha.cons rfl (ha.cons rfl (ha.cons rfl (ha.cons rfl (ha.nil)))))) (fun w hw => hw))
    ·
      obtain ⟨y_3, x7, x8⟩ := s
      obtain ⟨A_9, c_10⟩ := g
      try dsimp only at hφ
      obtain ⟨hs_8, hs_11⟩ := hφ
      subst hzz
      have H := HK1
      clear HK1 hz1
      replace H := sum_l H
      try dsimp only at H
      change T 66 _ _ _
      refine t_seq ?_
      refine t_region (fun ops hops => ?_)
      clear hops
      refine z_val (v := .slice (some ⟨g_2, 0, none⟩) y_3.length (x11.toNat)) (val_move rfl rfl) rfl rfl rfl (fun _ _ _ => trivial) ?_
      refine z_val (v := .slice A_9 x7.length c_10) (val_move rfl rfl) rfl rfl rfl (fun _ _ _ => trivial) ?_
      refine z_val (v := .slice (some ⟨g_2, 0, none⟩) y_3.length (x11.toNat)) (val_assign rfl rfl) rfl rfl rfl (fun _ _ _ => trivial) ?_
      refine z_val (v := .slice A_9 x7.length c_10) (val_assign rfl rfl) rfl rfl rfl (fun _ _ _ => trivial) ?_
      refine z_nil ?_
      refine t_ret ?_
      obtain rfl := Option.some.inj H
      exact ret2 rfl (res_tmp rfl) (res_tmp rfl) (fun _ hw => ⟨⟨h, (some ⟨g_2, 0, none⟩), (x11.toNat), A_9, c_10⟩, rfl, ⟨(Sub.refl _), hs_8, hs_11⟩, hw.selK 2 [1, 0] rfl rfl⟩)
  ·
    replace H := cond_t H
    refine t_cond_true rfl ?_
    refine t_seq ?_
    refine t_region (fun ops hops => ?_)
    clear hops
    refine z_val (v := .slice (some ⟨g_2, 0, none⟩) x12.length (x11.toNat)) (val_move rfl rfl) rfl rfl rfl (fun _ _ _ => trivial) ?_
    refine z_val (v := .slice (some ⟨g_5, 0, none⟩) x13.length 0) (val_move rfl rfl) rfl rfl rfl (fun _ _ _ => trivial) ?_
    refine z_val (v := .slice (some ⟨g_2, 0, none⟩) x12.length (x11.toNat)) (val_assign rfl rfl) rfl rfl rfl (fun _ _ _ => trivial) ?_
    refine z_val (v := .slice (some ⟨g_5, 0, none⟩) x13.length 0) (val_assign rfl rfl) rfl rfl rfl (fun _ _ _ => trivial) ?_
    refine z_nil ?_
    refine t_ret ?_
    obtain rfl := Option.some.inj H
    exact ret2 rfl (res_tmp rfl) (res_tmp rfl) (fun _ hw => ⟨⟨h, (some ⟨g_2, 0, none⟩), (x11.toNat), (some ⟨g_5, 0, none⟩), 0⟩, rfl, ⟨(Sub.refl _), hs_4, hs_7⟩, hw.selK 2 [1, 0] rfl rfl⟩)
end Go.Proofs.Ytccilbklafhjiaa
