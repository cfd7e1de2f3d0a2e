/- Functions of the program as plain functions, and their walks, printed by walk.py. -/
import Derived.Test.YtapfkdcilfpbhaaWsF
import Derived.Test.YtapfkdcilfpbhaaWsA
namespace Go.Proofs.Ytapfkdcilfpbhaa
open Go.RowKit
set_option linter.unusedVariables false
set_option linter.unusedSimpArgs false
def smithyref02_at (a0 : List (Int)) (a1 : Int) : Option (Int) :=
  Let ((a0.length : Int)) fun x7 => Let (decide (a1 < x7)) fun x8 => (bif x8 then Chk ((0 : Int) ≤ a1 ∧ a1 < (a0.length : Int)) <| Let (lget a0 a1.toNat) fun x12 => some x12 else some 0)
set_option maxRecDepth 100000 in
theorem smithyref02_at.calls  (a0 : List (Int)) (a1 : Int) (A0 : Option Addr) (c0 : Nat) (r : Int) (H : smithyref02_at a0 a1 = some r) (w : World) (hs0 : SlW w (Value.int .i64) A0 a0) (hc0 : a0.length ≤ c0)  :
    Made Try.prog 46 #[.slice A0 a0.length c0, .int .i64 a1] w (.int .i64 r) := by
  unfold smithyref02_at at H
  replace hs0 := hs0.toH
  have hM := Mm.start w (snap w) (snap_ok w)
  generalize snap w = h at *
  refine t_enter (vs := [.slice A0 a0.length c0, .int .i64 a1]) (n := 13) Try.func46 rfl rfl rfl hM ?_
  clear hM
  change T 13 _ _ _
  refine t_seq ?_
  refine t_region (fun ops hops => ?_)
  clear hops
  refine z_val (v := .int .i64 0) (val_assign rfl rfl) rfl rfl rfl (fun _ _ _ => trivial) ?_
  refine z_nil ?_
  refine t_seq ?_
  refine t_seq ?_
  refine t_region (fun ops hops => ?_)
  clear hops
  refine z_val (v := .int .i64 a1) (val_move rfl rfl) rfl rfl rfl (fun _ _ _ => trivial) ?_
  refine z_val (v := .slice A0 a0.length c0) (val_move rfl rfl) rfl rfl rfl (fun _ _ _ => trivial) ?_
  obtain ⟨x7, hx7, H⟩ := Let_elim H
  refine z_val (v := .int .i64 x7) (by subst hx7; exact val_len rfl rfl rfl Try.underlying38) rfl rfl rfl (fun _ _ _ => trivial) ?_
  clear hx7
  obtain ⟨x8, hx8, H⟩ := Let_elim H
  refine z_val (v := .bool x8) (by subst hx8; exact val_bin rfl rfl rfl rfl (i64_lss _ _ _)) rfl rfl rfl (fun _ _ _ => trivial) ?_
  clear hx8
  refine z_nil ?_
  cases x8
  ·
    replace H := cond_f H
    refine t_cond_false rfl ?_
    refine t_skip ?_
    refine t_seq ?_
    refine t_region (fun ops hops => ?_)
    clear hops
    refine z_val (v := .int .i64 0) (val_assign rfl rfl) rfl rfl rfl (fun _ _ _ => trivial) ?_
    refine z_nil ?_
    refine t_ret ?_
    obtain rfl := Option.some.inj H
    exact ret1 rfl (res_tmp rfl) (fun _ hw => ⟨rfl, hw.below⟩)
  ·
    replace H := cond_t H
    refine t_cond_true rfl ?_
    refine t_seq ?_
    refine t_region (fun ops hops => ?_)
    clear hops
    refine z_val (v := .slice A0 a0.length c0) (val_move rfl rfl) rfl rfl rfl (fun _ _ _ => trivial) ?_
    refine z_val (v := .int .i64 a1) (val_move rfl rfl) rfl rfl rfl (fun _ _ _ => trivial) ?_
    obtain ⟨hq_1, H⟩ := Chk_elim H
    obtain ⟨b_2, o_3, hA_4, hc_5⟩ := hs0.at_ (idx_lt hq_1)
    refine z_val (v := .pointer (some ⟨b_2, o_3 + a1.toNat, none⟩)) (val_idxS0 rfl rfl rfl Try.underlying38 sz3 hq_1 hA_4 rfl) rfl rfl rfl (fun _ _ _ => trivial) ?_
    obtain ⟨x12, hx12, H⟩ := Let_elim H
    refine z_val (v := .int .i64 x12) (by subst hx12; exact val_load1 rfl rfl Try.underlying3 rfl (fun _ hw => hc_5.cell hw)) rfl rfl rfl (fun _ _ _ => trivial) ?_
    clear hx12
    refine z_val (v := .int .i64 x12) (val_assign rfl rfl) rfl rfl rfl (fun _ _ _ => trivial) ?_
    refine z_nil ?_
    refine t_ret ?_
    obtain rfl := Option.some.inj H
    exact ret1 rfl (res_tmp rfl) (fun _ hw => ⟨rfl, hw.below⟩)
def smithyref02_Zero.b1 (x5 : Int) (a0 : List (Int)) (x6 : Int) : Option (Ctl ((Int)) (Bool)) :=
  Let (decide (x6 < x5)) fun x7 => (bif x7 then Chk ((0 : Int) ≤ x6 ∧ x6 < (a0.length : Int)) <| Let (lget a0 x6.toNat) fun x12 => Let (x12 != 0) fun x13 => (bif x13 then some (.ret false) else Let (wi (x6 + 1)) fun x14 => some (.next x14)) else some (.brk x6))
def smithyref02_Zero (a0 : List (Int)) : Option (Bool) :=
  Let ((a0.length : Int)) fun x5 => (wlx (σ := (Int)) (fun s => smithyref02_Zero.b1 x5 a0 s) 0).bind (Sum.elim (fun x6 => some true) (fun r => some r))
set_option maxRecDepth 100000 in
theorem smithyref02_Zero.calls  (a0 : List (Int)) (A0 : Option Addr) (c0 : Nat) (r : Bool) (H : smithyref02_Zero a0 = some r) (w : World) (hs0 : SlW w (Value.int .i64) A0 a0) (hc0 : a0.length ≤ c0)  :
    Made Try.prog 16 #[.slice A0 a0.length c0] w (.bool r) := by
  unfold smithyref02_Zero at H
  replace hs0 := hs0.toH
  have hM := Mm.start w (snap w) (snap_ok w)
  generalize snap w = h at *
  refine t_enter (vs := [.slice A0 a0.length c0]) (n := 15) Try.func16 rfl rfl rfl hM ?_
  clear hM
  change T 15 _ _ _
  refine t_seq ?_
  refine t_region (fun ops hops => ?_)
  clear hops
  refine z_val (v := .bool false) (val_assign rfl rfl) rfl rfl rfl (fun _ _ _ => trivial) ?_
  refine z_nil ?_
  refine t_seq ?_
  refine t_seq ?_
  refine t_region (fun ops hops => ?_)
  clear hops
  refine z_val (v := .slice A0 a0.length c0) (val_move rfl rfl) rfl rfl rfl (fun _ _ _ => trivial) ?_
  obtain ⟨x5, hx5, H⟩ := Let_elim H
  refine z_val (v := .int .i64 x5) (by subst hx5; exact val_len rfl rfl rfl Try.underlying38) rfl rfl rfl (fun _ _ _ => trivial) ?_
  clear hx5
  refine z_val (v := .int .i64 0) (val_move rfl rfl) rfl rfl rfl (fun _ _ _ => trivial) ?_
  refine z_nil ?_
  refine t_block ?_
  obtain ⟨z1, hz1, HK1⟩ := Option.bind_eq_some_iff.1 H
  clear H
  refine t_while hz1 (fun (s : (Int)) (g : Unit) => [(0, .slice A0 a0.length c0), (5, .int .i64 x5), (6, .int .i64 s)]) (fun (s : (Int)) (g : Unit) => []) (fun (s : (Int)) (g : Unit) => Mm w [] h []) (fun (s : (Int)) (g : Unit) => Mm w [] h []) (fun (s : (Int)) (g : Unit) => True) (fun (s : (Int)) (g : Unit) => True) () trivial (fun a w ha hw => ⟨ha.cons rfl (ha.cons rfl (ha.cons rfl (ha.nil))), hw⟩) (fun Gn Gb s g e hφ H hn1 hb1 hr1 => ?_) (fun s g hzz hφ => ?_)
  ·
    obtain ⟨x6, rfl⟩ : ∃ x, x = s := ⟨_, rfl⟩
    change smithyref02_Zero.b1 x5 a0 x6 = some e at H
    unfold smithyref02_Zero.b1 at H
    clear hz1
    change T 15 _ _ _
    refine t_seq ?_
    refine t_region (fun ops hops => ?_)
    clear hops
    obtain ⟨x7, hx7, H⟩ := Let_elim H
    refine z_val (v := .bool x7) (by subst hx7; exact val_bin rfl rfl rfl rfl (i64_lss _ _ _)) rfl rfl rfl (fun _ _ _ => trivial) ?_
    clear hx7
    refine z_nil ?_
    refine t_seq ?_
    cases x7
    ·
      replace H := cond_f H
      refine t_cond_false rfl ?_
      refine t_exit rfl ?_
      obtain rfl := Option.some.inj H
      exact t_reach ((hb1 _ () rfl trivial).weak (fun a ha => ha.nil) (fun w hw => hw))
    ·
      replace H := cond_t H
      refine t_cond_true rfl ?_
      refine t_skip ?_
      refine t_seq ?_
      refine t_block ?_
      refine t_seq ?_
      refine t_region (fun ops hops => ?_)
      clear hops
      refine z_val (v := .int .i64 x6) (val_move rfl rfl) rfl rfl rfl (fun _ _ _ => trivial) ?_
      refine z_val (v := .int .i64 x6) (val_assign rfl rfl) rfl rfl rfl (fun _ _ _ => trivial) ?_
      refine z_nil ?_
      refine t_seq ?_
      refine t_region (fun ops hops => ?_)
      clear hops
      refine z_val (v := .slice A0 a0.length c0) (val_move rfl rfl) rfl rfl rfl (fun _ _ _ => trivial) ?_
      refine z_val (v := .int .i64 x6) (val_move rfl rfl) rfl rfl rfl (fun _ _ _ => trivial) ?_
      obtain ⟨hq_1, H⟩ := Chk_elim H
      obtain ⟨b_2, o_3, hA_4, hc_5⟩ := hs0.at_ (idx_lt hq_1)
      refine z_val (v := .pointer (some ⟨b_2, o_3 + x6.toNat, none⟩)) (val_idxS0 rfl rfl rfl Try.underlying38 sz3 hq_1 hA_4 rfl) rfl rfl rfl (fun _ _ _ => trivial) ?_
      obtain ⟨x12, hx12, H⟩ := Let_elim H
      refine z_val (v := .int .i64 x12) (by subst hx12; exact val_load1 rfl rfl Try.underlying3 rfl (fun _ hw => hc_5.cell hw)) rfl rfl rfl (fun _ _ _ => trivial) ?_
      clear hx12
      obtain ⟨x13, hx13, H⟩ := Let_elim H
      refine z_val (v := .bool x13) (by subst hx13; exact val_bin rfl rfl rfl rfl (i64_neq _ _ _)) rfl rfl rfl (fun _ _ _ => trivial) ?_
      clear hx13
      refine z_nil ?_
      cases x13
      ·
        replace H := cond_f H
        refine t_cond_false rfl ?_
        refine t_skip ?_
        refine t_fin ?_
        refine t_region (fun ops hops => ?_)
        clear hops
        obtain ⟨x14, hx14, H⟩ := Let_elim H
        refine z_val (v := .int .i64 x14) (by subst hx14; exact val_bin rfl rfl rfl rfl (i64_add _ _ _)) rfl rfl rfl (fun _ _ _ => trivial) ?_
        clear hx14
        refine z_val (v := .int .i64 x14) (val_move rfl rfl) rfl rfl rfl (fun _ _ _ => trivial) ?_
        refine z_nil ?_
        obtain rfl := Option.some.inj H
        exact t_reach ((hn1 _ () rfl trivial).weak (fun a ha => ha.cons rfl (ha.cons rfl (ha.cons rfl (ha.nil)))) (fun w hw => hw))
      ·
        replace H := cond_t H
        refine t_cond_true rfl ?_
        refine t_seq ?_
        refine t_region (fun ops hops => ?_)
        clear hops
        refine z_val (v := .bool false) (val_assign rfl rfl) rfl rfl rfl (fun _ _ _ => trivial) ?_
        refine z_nil ?_
        refine t_ret ?_
        obtain rfl := Option.some.inj H
        have hz := hr1 _ rfl
        subst hz
        obtain rfl := Option.some.inj HK1
        exact ret1 rfl (res_tmp rfl) (fun _ hw => ⟨rfl, hw.below⟩)
  ·
    obtain ⟨x6, rfl⟩ : ∃ x, x = s := ⟨_, rfl⟩
    subst hzz
    have H := HK1
    clear HK1 hz1
    replace H := sum_l H
    try dsimp only at H
    change T 15 _ _ _
    refine t_seq ?_
    refine t_region (fun ops hops => ?_)
    clear hops
    refine z_val (v := .bool true) (val_assign rfl rfl) rfl rfl rfl (fun _ _ _ => trivial) ?_
    refine z_nil ?_
    refine t_ret ?_
    obtain rfl := Option.some.inj H
    exact ret1 rfl (res_tmp rfl) (fun _ hw => ⟨rfl, hw.below⟩)
def smithyref02_N_High (a0 : List (Int)) : Option (List (Int)) :=
  Let ((a0.length : Int)) fun x4 => Let (decide (x4 ≤ 32)) fun x5 => (bif x5 then Let (([] : List (Int))) fun x6 => some x6 else Chk ((0 : Int) ≤ 32 ∧ 32 ≤ (a0.length : Int)) <| Let ((a0.take a0.length).drop ((32 : Int).toNat)) fun x8 => some x8)
set_option maxRecDepth 100000 in
theorem smithyref02_N_High.calls  (a0 : List (Int)) (A0 : Option Addr) (c0 : Nat) (r : List (Int)) (H : smithyref02_N_High a0 = some r) {w0 : World} {Ex : List Nat} {h : Frag} {Lr : List Ent} {w : World} (hs0 : SlH h (Value.int .i64) A0 a0) (hc0 : a0.length ≤ c0)  (hM : Mm w0 Ex h (Lr) w) :
    Calls Try.prog 17 #[.slice A0 a0.length c0] w fun e w' => ∃ (g : (Frag) × (Option Addr) × (Nat)), e = .returned (.slice g.2.1 r.length g.2.2) ∧ (Sub h g.1 ∧ SlH g.1 (Value.int .i64) g.2.1 r ∧ r.length ≤ g.2.2) ∧ Mm w0 Ex g.1 (Lr) w' := by
  unfold smithyref02_N_High at H
  refine t_enter (vs := [.slice A0 a0.length c0]) (n := 9) Try.func17 rfl rfl rfl hM ?_
  clear hM
  change T 9 _ _ _
  refine t_seq ?_
  refine t_region (fun ops hops => ?_)
  clear hops
  refine z_val (v := .slice none 0 0) (val_assign rfl rfl) rfl rfl rfl (fun _ _ _ => trivial) ?_
  refine z_nil ?_
  refine t_seq ?_
  refine t_seq ?_
  refine t_region (fun ops hops => ?_)
  clear hops
  refine z_val (v := .slice A0 a0.length c0) (val_move rfl rfl) rfl rfl rfl (fun _ _ _ => trivial) ?_
  obtain ⟨x4, hx4, H⟩ := Let_elim H
  refine z_val (v := .int .i64 x4) (by subst hx4; exact val_len rfl rfl rfl Try.underlying38) rfl rfl rfl (fun _ _ _ => trivial) ?_
  clear hx4
  obtain ⟨x5, hx5, H⟩ := Let_elim H
  refine z_val (v := .bool x5) (by subst hx5; exact val_bin rfl rfl rfl rfl (i64_leq _ _ _)) rfl rfl rfl (fun _ _ _ => trivial) ?_
  clear hx5
  refine z_nil ?_
  cases x5
  ·
    replace H := cond_f H
    refine t_cond_false rfl ?_
    refine t_skip ?_
    refine t_seq ?_
    refine t_region (fun ops hops => ?_)
    clear hops
    refine z_val (v := .slice A0 a0.length c0) (val_move rfl rfl) rfl rfl rfl (fun _ _ _ => trivial) ?_
    obtain ⟨hq_1, H⟩ := Chk_elim H
    obtain ⟨x8, hx8, H⟩ := Let_elim H
    obtain ⟨A_2, hA_6⟩ : ∃ z, z = (if c0 = (32 : Int).toNat then A0 else A0.map (·.add ((32 : Int).toNat * 1))) := ⟨_, rfl⟩
    obtain ⟨c_3, hc_50⟩ : ∃ z, z = c0 - (32 : Int).toNat := ⟨_, rfl⟩
    have hl : x8.length = a0.length - (32 : Int).toNat := by subst hx8; exact cut_len (by omega) (by omega)
    have hs_4 : SlH h (Value.int .i64) A_2 x8 := by subst hA_6 hx8; exact hs0.cut (by omega) hc0
    have hc_5 : x8.length ≤ c_3 := by have := hc0; omega
    refine z_val (v := .slice A_2 x8.length c_3) (val_sliceLz rfl rfl rfl Try.underlying38 sz3 hq_1.1 hq_1.2 (by rw [hl, hA_6, hc_50])) rfl rfl rfl (fun _ _ _ => trivial) ?_
    clear hl hA_6 hc_50 hx8
    refine z_val (v := .slice A_2 x8.length c_3) (val_assign rfl rfl) rfl rfl rfl (fun _ _ _ => trivial) ?_
    refine z_nil ?_
    refine t_ret ?_
    obtain rfl := Option.some.inj H
    exact ret1 rfl (res_tmp rfl) (fun _ hw => ⟨⟨h, A_2, c_3⟩, rfl, ⟨(Sub.refl _), hs_4, hc_5⟩, hw⟩)
  ·
    replace H := cond_t H
    refine t_cond_true rfl ?_
    refine t_seq ?_
    refine t_region (fun ops hops => ?_)
    clear hops
    obtain ⟨x6, hx6, H⟩ := Let_elim H
    have hlx6 : x6.length = 0 := by subst hx6; rfl
    refine z_buildSlice' (e := 3) (f := (Value.int .i64)) (xs := x6) (vs := []) rfl rfl (by subst hx6; intro w; kernel_rfl) hlx6 (by decide) rfl rfl rfl (fun _ _ _ _ => trivial) (fun g_7 hs_9 => ?_)
    clear hx6 hlx6
    refine z_val (v := .slice (some ⟨g_7, 0, none⟩) x6.length 0) (val_assign rfl rfl) rfl rfl rfl (fun _ _ _ => trivial) ?_
    refine z_nil ?_
    refine t_ret ?_
    refine t_seal (fun h_10 hS hs_11 => ?_)
    have hc_12 := hs_9.le
    replace hs0 := hs0.up hS
    obtain rfl := Option.some.inj H
    exact ret1 rfl (res_tmp rfl) (fun _ hw => ⟨⟨h_10, (some ⟨g_7, 0, none⟩), 0⟩, rfl, ⟨hS, hs_11, hc_12⟩, hw⟩)
def smithyref01_Of.b1 (a0 : Vec (BitVec 64) 4) (y_3 : Vec (Int) 32) (x4 : Int) : Option (Ctl ((Vec (Int) 32) × (Int)) (Vec (Int) 32)) :=
  Let (decide (x4 < 32)) fun x7 => (bif x7 then Let (wi (Int.tdiv x4 8)) fun x12 => Chk (0 ≤ x12 ∧ x12 < ((4 : Nat) : Int)) <| Let (a0.get x12.toNat) fun x14 => Let (Int.tmod x4 8) fun x16 => Let (wi (8 * x16)) fun x17 => Chk (0 ≤ x17) <| Let (x14 >>> x17.toNat) fun x18 => Let (x18 % 256#64) fun x19 => Let (IntKind.i64.wrap x19.toNat) fun x20 => Chk (0 ≤ x4 ∧ x4 < ((32 : Nat) : Int)) <| Let (y_3.set x4.toNat x20) fun y_3_7 => Let (wi (x4 + 1)) fun x9 => some (.next (y_3_7, x9)) else some (.brk (y_3, x4)))
def smithyref01_Of (a0 : Vec (BitVec 64) 4) : Option (Vec (Int) 32) :=
  Let (Vec.rep 32 0) fun x5 => (wlx (σ := (Vec (Int) 32) × (Int)) (fun s => smithyref01_Of.b1 a0 s.1 s.2) (x5, 0)).bind (Sum.elim (fun s => (fun y_3 x4 => some y_3) s.1 s.2) (fun r => some r))
set_option maxRecDepth 100000 in
theorem smithyref01_Of.calls  (a0 : Vec (BitVec 64) 4) (r : Vec (Int) 32) (H : smithyref01_Of a0 = some r) (w : World)   :
    Made Try.prog 40 #[.agg (cV U64 a0).toArray] w (.agg (cV (Value.int .i64) r).toArray) := by
  unfold smithyref01_Of at H
  have hM := Mm.start w (snap w) (snap_ok w)
  generalize snap w = h at *
  refine t_enter (vs := [.agg (cV U64 a0).toArray]) (n := 23) Try.func40 rfl rfl rfl hM ?_
  clear hM
  change T 23 _ _ _
  refine t_seq ?_
  refine t_region (fun ops hops => ?_)
  clear hops
  refine z_box (cs := cV U64 a0) (room := 4) rfl rfl rfl (cV_len _) rfl rfl rfl (fun _ _ _ _ => trivial) (fun g_1 => ?_)
  refine z_alloc (cs := cV (Value.int .i64) (Vec.rep 32 0)) (room := 32) rfl ze82 rfl (cV_len _) rfl rfl rfl (fun _ _ _ _ => trivial) (fun g_2 => ?_)
  refine z_nil ?_
  refine t_seq ?_
  refine t_region (fun ops hops => ?_)
  clear hops
  obtain ⟨x5, hx5, H⟩ := Let_elim H
  refine z_val (v := .agg (cV (Value.int .i64) x5).toArray) (by subst hx5; exact val_build (vs := []) rfl rfl (fun w => by kernel_rfl)) rfl rfl rfl (fun _ _ _ => trivial) ?_
  clear hx5
  refine z_alloc (cs := cV (Value.int .i64) (Vec.rep 32 0)) (room := 32) rfl ze82 rfl (cV_len _) rfl rfl rfl (fun _ _ _ _ => trivial) (fun g_3 => ?_)
  refine z_storeA (j := 0) (cs' := cV (Value.int .i64) x5) (L' := [.blk g_3 82 (cV (Value.int .i64) x5) 32, .blk g_2 82 (cV (Value.int .i64) (Vec.rep 32 0)) 32, .blk g_1 24 (cV U64 a0) 4]) rfl rfl rfl (cV_one (fun _ => rfl) _) sz82 rfl (cV_len _) rfl rfl rfl (fun _ _ _ => trivial) ?_
  refine z_nil ?_
  refine t_seq ?_
  refine t_seq ?_
  refine t_region (fun ops hops => ?_)
  clear hops
  refine z_val (v := .int .i64 0) (val_assign rfl rfl) rfl rfl rfl (fun _ _ _ => trivial) ?_
  refine z_nil ?_
  refine t_block ?_
  obtain ⟨z1, hz1, HK1⟩ := Option.bind_eq_some_iff.1 H
  clear H
  refine t_while hz1 (fun (s : (Vec (Int) 32) × (Int)) (g : Unit) => [(1, .pointer (some ⟨g_1, 0, none⟩)), (2, .pointer (some ⟨g_2, 0, none⟩)), (3, .pointer (some ⟨g_3, 0, none⟩)), (4, .int .i64 s.2)]) (fun (s : (Vec (Int) 32) × (Int)) (g : Unit) => [(2, .pointer (some ⟨g_2, 0, none⟩)), (3, .pointer (some ⟨g_3, 0, none⟩))]) (fun (s : (Vec (Int) 32) × (Int)) (g : Unit) => Mm w [] h [.blk g_3 82 (cV (Value.int .i64) s.1) 32, .blk g_2 82 (cV (Value.int .i64) (Vec.rep 32 0)) 32, .blk g_1 24 (cV U64 a0) 4]) (fun (s : (Vec (Int) 32) × (Int)) (g : Unit) => Mm w [] h [.blk g_3 82 (cV (Value.int .i64) s.1) 32, .blk g_2 82 (cV (Value.int .i64) (Vec.rep 32 0)) 32]) (fun (s : (Vec (Int) 32) × (Int)) (g : Unit) => True) (fun (s : (Vec (Int) 32) × (Int)) (g : Unit) => True) () trivial (fun a w ha hw => ⟨ha.cons rfl (ha.cons rfl (ha.cons rfl (ha.cons rfl (ha.nil)))), hw⟩) (fun Gn Gb s g e hφ H hn1 hb1 hr1 => ?_) (fun s g hzz hφ => ?_)
  ·
    obtain ⟨y_3, x4⟩ := s
    change smithyref01_Of.b1 a0 y_3 x4 = some e at H
    unfold smithyref01_Of.b1 at H
    clear hz1
    change T 23 _ _ _
    refine t_seq ?_
    refine t_seq ?_
    refine t_region (fun ops hops => ?_)
    clear hops
    refine z_val (v := .int .i64 x4) (val_move rfl rfl) rfl rfl rfl (fun _ _ _ => trivial) ?_
    obtain ⟨x7, hx7, H⟩ := Let_elim H
    refine z_val (v := .bool x7) (by subst hx7; exact val_bin rfl rfl rfl rfl (i64_lss _ _ _)) rfl rfl rfl (fun _ _ _ => trivial) ?_
    clear hx7
    refine z_nil ?_
    cases x7
    ·
      replace H := cond_f H
      refine t_cond_false rfl ?_
      refine t_exit rfl ?_
      obtain rfl := Option.some.inj H
      exact t_reach ((hb1 _ () rfl trivial).weak (fun a ha => ha.cons rfl (ha.cons rfl (ha.nil))) (fun w hw => hw.sel [0, 1] rfl rfl))
    ·
      replace H := cond_t H
      refine t_cond_true rfl ?_
      refine t_skip ?_
      refine t_seq ?_
      refine t_block ?_
      refine t_region (fun ops hops => ?_)
      clear hops
      refine z_val (v := .int .i64 x4) (val_move rfl rfl) rfl rfl rfl (fun _ _ _ => trivial) ?_
      refine z_val (v := .int .i64 x4) (val_move rfl rfl) rfl rfl rfl (fun _ _ _ => trivial) ?_
      obtain ⟨x12, hx12, H⟩ := Let_elim H
      refine z_val (v := .int .i64 x12) (by subst hx12; exact val_bin rfl rfl rfl rfl (i64_quo _ _ _ (by decide))) rfl rfl rfl (fun _ _ _ => trivial) ?_
      clear hx12
      obtain ⟨hq_4, H⟩ := Chk_elim H
      refine z_val (v := .pointer (some ⟨g_1, x12.toNat, none⟩)) (val_idx0 rfl rfl rfl Try.underlying24 sz22 hq_4 rfl) rfl rfl rfl (fun _ _ _ => trivial) ?_
      obtain ⟨x14, hx14, H⟩ := Let_elim H
      refine z_val (v := U64 x14) (by subst hx14; exact val_load1 rfl rfl Try.underlying22 rfl (fun _ hw => hw.cell (j := 2) rfl (cV_at _ (idx_lt hq_4)))) rfl rfl rfl (fun _ _ _ => trivial) ?_
      clear hx14
      refine z_val (v := .int .i64 x4) (val_move rfl rfl) rfl rfl rfl (fun _ _ _ => trivial) ?_
      obtain ⟨x16, hx16, H⟩ := Let_elim H
      refine z_val (v := .int .i64 x16) (by subst hx16; exact val_bin rfl rfl rfl rfl (i64_rem _ _ _ (by decide))) rfl rfl rfl (fun _ _ _ => trivial) ?_
      clear hx16
      obtain ⟨x17, hx17, H⟩ := Let_elim H
      refine z_val (v := .int .i64 x17) (by subst hx17; exact val_bin rfl rfl rfl rfl (i64_mul _ _ _)) rfl rfl rfl (fun _ _ _ => trivial) ?_
      clear hx17
      obtain ⟨hq_5, H⟩ := Chk_elim H
      obtain ⟨x18, hx18, H⟩ := Let_elim H
      refine z_val (v := U64 x18) (by subst hx18; exact val_bin rfl rfl rfl rfl (u64_shr _ _ _ _ hq_5)) rfl rfl rfl (fun _ _ _ => trivial) ?_
      clear hx18
      obtain ⟨x19, hx19, H⟩ := Let_elim H
      refine z_val (v := U64 x19) (by subst hx19; exact val_bin rfl rfl rfl rfl (u64_rem_r _ _ _ (by decide) (by decide))) rfl rfl rfl (fun _ _ _ => trivial) ?_
      clear hx19
      obtain ⟨x20, hx20, H⟩ := Let_elim H
      refine z_val (v := .int .i64 x20) (by subst hx20; exact val_conv rfl rfl (fun w => conv_u64_int w _ _ _ (by rw [Try.underlying22]; rfl) Try.underlying3)) rfl rfl rfl (fun _ _ _ => trivial) ?_
      clear hx20
      obtain ⟨hq_6, H⟩ := Chk_elim H
      refine z_val (v := .pointer (some ⟨g_3, x4.toNat, none⟩)) (val_idx0 rfl rfl rfl Try.underlying82 sz3 hq_6 rfl) rfl rfl rfl (fun _ _ _ => trivial) ?_
      obtain ⟨y_3_7, hy_3_7, H⟩ := Let_elim H
      refine z_store1 (j := 0) (cs' := cV (Value.int .i64) y_3_7) (L' := [.blk g_3 82 (cV (Value.int .i64) y_3_7) 32, .blk g_2 82 (cV (Value.int .i64) (Vec.rep 32 0)) 32, .blk g_1 24 (cV U64 a0) 4]) rfl rfl rfl rfl rfl sz3 rfl (by rw [cV_len]; exact (idx_lt hq_6)) (by subst hy_3_7; exact cV_set (f := (Value.int .i64)) _ _ x20) rfl rfl rfl (fun _ _ _ => trivial) ?_
      clear hy_3_7
      refine z_nil ?_
      refine t_fin ?_
      refine t_region (fun ops hops => ?_)
      clear hops
      refine z_val (v := .int .i64 x4) (val_move rfl rfl) rfl rfl rfl (fun _ _ _ => trivial) ?_
      obtain ⟨x9, hx9, H⟩ := Let_elim H
      refine z_val (v := .int .i64 x9) (by subst hx9; exact val_bin rfl rfl rfl rfl (i64_add _ _ _)) rfl rfl rfl (fun _ _ _ => trivial) ?_
      clear hx9
      refine z_val (v := .int .i64 x9) (val_assign rfl rfl) rfl rfl rfl (fun _ _ _ => trivial) ?_
      refine z_nil ?_
      obtain rfl := Option.some.inj H
      exact t_reach ((hn1 _ () rfl trivial).weak (fun a ha => ha.cons rfl (ha.cons rfl (ha.cons rfl (ha.cons rfl (ha.nil))))) (fun w hw => hw))
  ·
    obtain ⟨y_3, x4⟩ := s
    subst hzz
    have H := HK1
    clear HK1 hz1
    replace H := sum_l H
    try dsimp only at H
    change T 23 _ _ _
    refine t_seq ?_
    refine t_region (fun ops hops => ?_)
    clear hops
    refine z_val (v := .agg (cV (Value.int .i64) y_3).toArray) (val_loadR (off := 0) (cs := cV (Value.int .i64) y_3) rfl rfl Try.underlying82 rfl (sz82.trans (congrArg some (cV_len _).symm)) (fun _ hw => hw.whole (j := 0) rfl)) rfl rfl rfl (fun _ _ _ => trivial) ?_
    refine z_storeA (j := 1) (cs' := cV (Value.int .i64) y_3) (L' := [.blk g_3 82 (cV (Value.int .i64) y_3) 32, .blk g_2 82 (cV (Value.int .i64) y_3) 32]) rfl rfl rfl (cV_one (fun _ => rfl) _) sz82 rfl (cV_len _) rfl rfl rfl (fun _ _ _ => trivial) ?_
    refine z_nil ?_
    refine t_ret ?_
    obtain rfl := Option.some.inj H
    exact ret1 rfl (res_row (j := 1) rfl Try.underlying82 rfl sz82 rfl (cV_len _)) (fun _ hw => ⟨rfl, hw.below⟩)
def smithyref01_D_Bytes.b1 (a0 : Vec (Int) 32) (y_3 : Vec (BitVec 8) 32) (x4 : Int) : Option (Ctl ((Vec (BitVec 8) 32) × (Int)) (Vec (BitVec 8) 32)) :=
  Let (decide (x4 < 32)) fun x7 => (bif x7 then Let (wi (31 - x4)) fun x11 => Chk (0 ≤ x4 ∧ x4 < ((32 : Nat) : Int)) <| Let (a0.get x4.toNat) fun x14 => Let (BitVec.ofInt 8 x14) fun x15 => Chk (0 ≤ x11 ∧ x11 < ((32 : Nat) : Int)) <| Let (y_3.set x11.toNat x15) fun y_3_6 => Let (wi (x4 + 1)) fun x9 => some (.next (y_3_6, x9)) else some (.brk (y_3, x4)))
def smithyref01_D_Bytes (a0 : Vec (Int) 32) : Option (Vec (BitVec 8) 32) :=
  Let (Vec.rep 32 0#8) fun x5 => (wlx (σ := (Vec (BitVec 8) 32) × (Int)) (fun s => smithyref01_D_Bytes.b1 a0 s.1 s.2) (x5, 0)).bind (Sum.elim (fun s => (fun y_3 x4 => some y_3) s.1 s.2) (fun r => some r))
set_option maxRecDepth 100000 in
theorem smithyref01_D_Bytes.calls  (a0 : Vec (Int) 32) (r : Vec (BitVec 8) 32) (H : smithyref01_D_Bytes a0 = some r) (w : World)   :
    Made Try.prog 41 #[.agg (cV (Value.int .i64) a0).toArray] w (.agg (cV U8 r).toArray) := by
  unfold smithyref01_D_Bytes at H
  have hM := Mm.start w (snap w) (snap_ok w)
  generalize snap w = h at *
  refine t_enter (vs := [.agg (cV (Value.int .i64) a0).toArray]) (n := 18) Try.func41 rfl rfl rfl hM ?_
  clear hM
  change T 18 _ _ _
  refine t_seq ?_
  refine t_region (fun ops hops => ?_)
  clear hops
  refine z_box (cs := cV (Value.int .i64) a0) (room := 32) rfl rfl rfl (cV_len _) rfl rfl rfl (fun _ _ _ _ => trivial) (fun g_1 => ?_)
  refine z_alloc (cs := cV U8 (Vec.rep 32 0#8)) (room := 32) rfl ze78 rfl (cV_len _) rfl rfl rfl (fun _ _ _ _ => trivial) (fun g_2 => ?_)
  refine z_nil ?_
  refine t_seq ?_
  refine t_region (fun ops hops => ?_)
  clear hops
  obtain ⟨x5, hx5, H⟩ := Let_elim H
  refine z_val (v := .agg (cV U8 x5).toArray) (by subst hx5; exact val_build (vs := []) rfl rfl (fun w => by kernel_rfl)) rfl rfl rfl (fun _ _ _ => trivial) ?_
  clear hx5
  refine z_alloc (cs := cV U8 (Vec.rep 32 0#8)) (room := 32) rfl ze78 rfl (cV_len _) rfl rfl rfl (fun _ _ _ _ => trivial) (fun g_3 => ?_)
  refine z_storeA (j := 0) (cs' := cV U8 x5) (L' := [.blk g_3 78 (cV U8 x5) 32, .blk g_2 78 (cV U8 (Vec.rep 32 0#8)) 32, .blk g_1 82 (cV (Value.int .i64) a0) 32]) rfl rfl rfl (cV_one (fun _ => rfl) _) sz78 rfl (cV_len _) rfl rfl rfl (fun _ _ _ => trivial) ?_
  refine z_nil ?_
  refine t_seq ?_
  refine t_seq ?_
  refine t_region (fun ops hops => ?_)
  clear hops
  refine z_val (v := .int .i64 0) (val_assign rfl rfl) rfl rfl rfl (fun _ _ _ => trivial) ?_
  refine z_nil ?_
  refine t_block ?_
  obtain ⟨z1, hz1, HK1⟩ := Option.bind_eq_some_iff.1 H
  clear H
  refine t_while hz1 (fun (s : (Vec (BitVec 8) 32) × (Int)) (g : Unit) => [(1, .pointer (some ⟨g_1, 0, none⟩)), (2, .pointer (some ⟨g_2, 0, none⟩)), (3, .pointer (some ⟨g_3, 0, none⟩)), (4, .int .i64 s.2)]) (fun (s : (Vec (BitVec 8) 32) × (Int)) (g : Unit) => [(2, .pointer (some ⟨g_2, 0, none⟩)), (3, .pointer (some ⟨g_3, 0, none⟩))]) (fun (s : (Vec (BitVec 8) 32) × (Int)) (g : Unit) => Mm w [] h [.blk g_3 78 (cV U8 s.1) 32, .blk g_2 78 (cV U8 (Vec.rep 32 0#8)) 32, .blk g_1 82 (cV (Value.int .i64) a0) 32]) (fun (s : (Vec (BitVec 8) 32) × (Int)) (g : Unit) => Mm w [] h [.blk g_3 78 (cV U8 s.1) 32, .blk g_2 78 (cV U8 (Vec.rep 32 0#8)) 32]) (fun (s : (Vec (BitVec 8) 32) × (Int)) (g : Unit) => True) (fun (s : (Vec (BitVec 8) 32) × (Int)) (g : Unit) => True) () trivial (fun a w ha hw => ⟨ha.cons rfl (ha.cons rfl (ha.cons rfl (ha.cons rfl (ha.nil)))), hw⟩) (fun Gn Gb s g e hφ H hn1 hb1 hr1 => ?_) (fun s g hzz hφ => ?_)
  ·
    obtain ⟨y_3, x4⟩ := s
    change smithyref01_D_Bytes.b1 a0 y_3 x4 = some e at H
    unfold smithyref01_D_Bytes.b1 at H
    clear hz1
    change T 18 _ _ _
    refine t_seq ?_
    refine t_seq ?_
    refine t_region (fun ops hops => ?_)
    clear hops
    refine z_val (v := .int .i64 x4) (val_move rfl rfl) rfl rfl rfl (fun _ _ _ => trivial) ?_
    obtain ⟨x7, hx7, H⟩ := Let_elim H
    refine z_val (v := .bool x7) (by subst hx7; exact val_bin rfl rfl rfl rfl (i64_lss _ _ _)) rfl rfl rfl (fun _ _ _ => trivial) ?_
    clear hx7
    refine z_nil ?_
    cases x7
    ·
      replace H := cond_f H
      refine t_cond_false rfl ?_
      refine t_exit rfl ?_
      obtain rfl := Option.some.inj H
      exact t_reach ((hb1 _ () rfl trivial).weak (fun a ha => ha.cons rfl (ha.cons rfl (ha.nil))) (fun w hw => hw.sel [0, 1] rfl rfl))
    ·
      replace H := cond_t H
      refine t_cond_true rfl ?_
      refine t_skip ?_
      refine t_seq ?_
      refine t_block ?_
      refine t_region (fun ops hops => ?_)
      clear hops
      refine z_val (v := .int .i64 x4) (val_move rfl rfl) rfl rfl rfl (fun _ _ _ => trivial) ?_
      obtain ⟨x11, hx11, H⟩ := Let_elim H
      refine z_val (v := .int .i64 x11) (by subst hx11; exact val_bin rfl rfl rfl rfl (i64_sub _ _ _)) rfl rfl rfl (fun _ _ _ => trivial) ?_
      clear hx11
      refine z_val (v := .int .i64 x4) (val_move rfl rfl) rfl rfl rfl (fun _ _ _ => trivial) ?_
      obtain ⟨hq_4, H⟩ := Chk_elim H
      refine z_val (v := .pointer (some ⟨g_1, x4.toNat, none⟩)) (val_idx0 rfl rfl rfl Try.underlying82 sz3 hq_4 rfl) rfl rfl rfl (fun _ _ _ => trivial) ?_
      obtain ⟨x14, hx14, H⟩ := Let_elim H
      refine z_val (v := .int .i64 x14) (by subst hx14; exact val_load1 rfl rfl Try.underlying3 rfl (fun _ hw => hw.cell (j := 2) rfl (cV_at _ (idx_lt hq_4)))) rfl rfl rfl (fun _ _ _ => trivial) ?_
      clear hx14
      obtain ⟨x15, hx15, H⟩ := Let_elim H
      refine z_val (v := U8 x15) (by subst hx15; exact val_conv rfl rfl (fun w => conv_int_u8 w _ _ .i64 _ (by rw [Try.underlying3]; rfl) Try.underlying5)) rfl rfl rfl (fun _ _ _ => trivial) ?_
      clear hx15
      obtain ⟨hq_5, H⟩ := Chk_elim H
      refine z_val (v := .pointer (some ⟨g_3, x11.toNat, none⟩)) (val_idx0 rfl rfl rfl Try.underlying78 sz5 hq_5 rfl) rfl rfl rfl (fun _ _ _ => trivial) ?_
      obtain ⟨y_3_6, hy_3_6, H⟩ := Let_elim H
      refine z_store1 (j := 0) (cs' := cV U8 y_3_6) (L' := [.blk g_3 78 (cV U8 y_3_6) 32, .blk g_2 78 (cV U8 (Vec.rep 32 0#8)) 32, .blk g_1 82 (cV (Value.int .i64) a0) 32]) rfl rfl rfl rfl rfl sz5 rfl (by rw [cV_len]; exact (idx_lt hq_5)) (by subst hy_3_6; exact cV_set (f := U8) _ _ x15) rfl rfl rfl (fun _ _ _ => trivial) ?_
      clear hy_3_6
      refine z_nil ?_
      refine t_fin ?_
      refine t_region (fun ops hops => ?_)
      clear hops
      refine z_val (v := .int .i64 x4) (val_move rfl rfl) rfl rfl rfl (fun _ _ _ => trivial) ?_
      obtain ⟨x9, hx9, H⟩ := Let_elim H
      refine z_val (v := .int .i64 x9) (by subst hx9; exact val_bin rfl rfl rfl rfl (i64_add _ _ _)) rfl rfl rfl (fun _ _ _ => trivial) ?_
      clear hx9
      refine z_val (v := .int .i64 x9) (val_assign rfl rfl) rfl rfl rfl (fun _ _ _ => trivial) ?_
      refine z_nil ?_
      obtain rfl := Option.some.inj H
      exact t_reach ((hn1 _ () rfl trivial).weak (fun a ha => ha.cons rfl (ha.cons rfl (ha.cons rfl (ha.cons rfl (ha.nil))))) (fun w hw => hw))
  ·
    obtain ⟨y_3, x4⟩ := s
    subst hzz
    have H := HK1
    clear HK1 hz1
    replace H := sum_l H
    try dsimp only at H
    change T 18 _ _ _
    refine t_seq ?_
    refine t_region (fun ops hops => ?_)
    clear hops
    refine z_val (v := .agg (cV U8 y_3).toArray) (val_loadR (off := 0) (cs := cV U8 y_3) rfl rfl Try.underlying78 rfl (sz78.trans (congrArg some (cV_len _).symm)) (fun _ hw => hw.whole (j := 0) rfl)) rfl rfl rfl (fun _ _ _ => trivial) ?_
    refine z_storeA (j := 1) (cs' := cV U8 y_3) (L' := [.blk g_3 78 (cV U8 y_3) 32, .blk g_2 78 (cV U8 y_3) 32]) rfl rfl rfl (cV_one (fun _ => rfl) _) sz78 rfl (cV_len _) rfl rfl rfl (fun _ _ _ => trivial) ?_
    refine z_nil ?_
    refine t_ret ?_
    obtain rfl := Option.some.inj H
    exact ret1 rfl (res_row (j := 1) rfl Try.underlying78 rfl sz78 rfl (cV_len _)) (fun _ hw => ⟨rfl, hw.below⟩)
def smithyref01_D_Word.b1 (a0 : Vec (Int) 32) (y_3 : Vec (BitVec 64) 4) (x4 : Int) : Option (Ctl ((Vec (BitVec 64) 4) × (Int)) (Vec (BitVec 64) 4)) :=
  Let (decide (0 ≤ x4)) fun x7 => (bif x7 then Let (wi (Int.tdiv x4 8)) fun x11 => Let (wi (Int.tdiv x4 8)) fun x13 => Chk (0 ≤ x13 ∧ x13 < ((4 : Nat) : Int)) <| Let (y_3.get x13.toNat) fun x15 => Let (x15 * 256#64) fun x16 => Chk (0 ≤ x4 ∧ x4 < ((32 : Nat) : Int)) <| Let (a0.get x4.toNat) fun x19 => Let (BitVec.ofInt 64 x19) fun x20 => Let (x16 + x20) fun x21 => Chk (0 ≤ x11 ∧ x11 < ((4 : Nat) : Int)) <| Let (y_3.set x11.toNat x21) fun y_3_7 => Let (wi (x4 - 1)) fun x9 => some (.next (y_3_7, x9)) else some (.brk (y_3, x4)))
def smithyref01_D_Word (a0 : Vec (Int) 32) : Option (Vec (BitVec 64) 4) :=
  Let (Vec.rep 4 0#64) fun x5 => (wlx (σ := (Vec (BitVec 64) 4) × (Int)) (fun s => smithyref01_D_Word.b1 a0 s.1 s.2) (x5, 31)).bind (Sum.elim (fun s => (fun y_3 x4 => some y_3) s.1 s.2) (fun r => some r))
set_option maxRecDepth 100000 in
theorem smithyref01_D_Word.calls  (a0 : Vec (Int) 32) (r : Vec (BitVec 64) 4) (H : smithyref01_D_Word a0 = some r) (w : World)   :
    Made Try.prog 47 #[.agg (cV (Value.int .i64) a0).toArray] w (.agg (cV U64 r).toArray) := by
  unfold smithyref01_D_Word at H
  have hM := Mm.start w (snap w) (snap_ok w)
  generalize snap w = h at *
  refine t_enter (vs := [.agg (cV (Value.int .i64) a0).toArray]) (n := 24) Try.func47 rfl rfl rfl hM ?_
  clear hM
  change T 24 _ _ _
  refine t_seq ?_
  refine t_region (fun ops hops => ?_)
  clear hops
  refine z_box (cs := cV (Value.int .i64) a0) (room := 32) rfl rfl rfl (cV_len _) rfl rfl rfl (fun _ _ _ _ => trivial) (fun g_1 => ?_)
  refine z_alloc (cs := cV U64 (Vec.rep 4 0#64)) (room := 4) rfl ze24 rfl (cV_len _) rfl rfl rfl (fun _ _ _ _ => trivial) (fun g_2 => ?_)
  refine z_nil ?_
  refine t_seq ?_
  refine t_region (fun ops hops => ?_)
  clear hops
  obtain ⟨x5, hx5, H⟩ := Let_elim H
  refine z_val (v := .agg (cV U64 x5).toArray) (by subst hx5; exact val_build (vs := []) rfl rfl (fun w => by kernel_rfl)) rfl rfl rfl (fun _ _ _ => trivial) ?_
  clear hx5
  refine z_alloc (cs := cV U64 (Vec.rep 4 0#64)) (room := 4) rfl ze24 rfl (cV_len _) rfl rfl rfl (fun _ _ _ _ => trivial) (fun g_3 => ?_)
  refine z_storeA (j := 0) (cs' := cV U64 x5) (L' := [.blk g_3 24 (cV U64 x5) 4, .blk g_2 24 (cV U64 (Vec.rep 4 0#64)) 4, .blk g_1 82 (cV (Value.int .i64) a0) 32]) rfl rfl rfl (cV_one (fun _ => rfl) _) sz24 rfl (cV_len _) rfl rfl rfl (fun _ _ _ => trivial) ?_
  refine z_nil ?_
  refine t_seq ?_
  refine t_seq ?_
  refine t_region (fun ops hops => ?_)
  clear hops
  refine z_val (v := .int .i64 31) (val_assign rfl rfl) rfl rfl rfl (fun _ _ _ => trivial) ?_
  refine z_nil ?_
  refine t_block ?_
  obtain ⟨z1, hz1, HK1⟩ := Option.bind_eq_some_iff.1 H
  clear H
  refine t_while hz1 (fun (s : (Vec (BitVec 64) 4) × (Int)) (g : Unit) => [(1, .pointer (some ⟨g_1, 0, none⟩)), (2, .pointer (some ⟨g_2, 0, none⟩)), (3, .pointer (some ⟨g_3, 0, none⟩)), (4, .int .i64 s.2)]) (fun (s : (Vec (BitVec 64) 4) × (Int)) (g : Unit) => [(2, .pointer (some ⟨g_2, 0, none⟩)), (3, .pointer (some ⟨g_3, 0, none⟩))]) (fun (s : (Vec (BitVec 64) 4) × (Int)) (g : Unit) => Mm w [] h [.blk g_3 24 (cV U64 s.1) 4, .blk g_2 24 (cV U64 (Vec.rep 4 0#64)) 4, .blk g_1 82 (cV (Value.int .i64) a0) 32]) (fun (s : (Vec (BitVec 64) 4) × (Int)) (g : Unit) => Mm w [] h [.blk g_3 24 (cV U64 s.1) 4, .blk g_2 24 (cV U64 (Vec.rep 4 0#64)) 4]) (fun (s : (Vec (BitVec 64) 4) × (Int)) (g : Unit) => True) (fun (s : (Vec (BitVec 64) 4) × (Int)) (g : Unit) => True) () trivial (fun a w ha hw => ⟨ha.cons rfl (ha.cons rfl (ha.cons rfl (ha.cons rfl (ha.nil)))), hw⟩) (fun Gn Gb s g e hφ H hn1 hb1 hr1 => ?_) (fun s g hzz hφ => ?_)
  ·
    obtain ⟨y_3, x4⟩ := s
    change smithyref01_D_Word.b1 a0 y_3 x4 = some e at H
    unfold smithyref01_D_Word.b1 at H
    clear hz1
    change T 24 _ _ _
    refine t_seq ?_
    refine t_seq ?_
    refine t_region (fun ops hops => ?_)
    clear hops
    refine z_val (v := .int .i64 x4) (val_move rfl rfl) rfl rfl rfl (fun _ _ _ => trivial) ?_
    obtain ⟨x7, hx7, H⟩ := Let_elim H
    refine z_val (v := .bool x7) (by subst hx7; exact val_bin rfl rfl rfl rfl (i64_geq _ _ _)) rfl rfl rfl (fun _ _ _ => trivial) ?_
    clear hx7
    refine z_nil ?_
    cases x7
    ·
      replace H := cond_f H
      refine t_cond_false rfl ?_
      refine t_exit rfl ?_
      obtain rfl := Option.some.inj H
      exact t_reach ((hb1 _ () rfl trivial).weak (fun a ha => ha.cons rfl (ha.cons rfl (ha.nil))) (fun w hw => hw.sel [0, 1] rfl rfl))
    ·
      replace H := cond_t H
      refine t_cond_true rfl ?_
      refine t_skip ?_
      refine t_seq ?_
      refine t_block ?_
      refine t_plan (C := Mm w [] h [.blk g_3 24 (cV U64 y_3) 4, .blk g_2 24 (cV U64 (Vec.rep 4 0#64)) 4, .blk g_1 82 (cV (Value.int .i64) a0) 32]) [13] [(0, true), (1, true), (2, true), (3, true), (4, true), (5, true), (6, true), (7, true), (8, true), (9, true), (10, true), (11, true), (12, true), (13, false)] (by kernel_rfl) (by kernel_rfl) (fun _ hw => hw.drew) (fun ops hops => ?_)
      clear hops
      refine z_still (v := .int .i64 x4) (val_move rfl rfl) rfl rfl rfl (fun _ hw => hw) ?_
      obtain ⟨x11, hx11, H⟩ := Let_elim H
      refine z_still (v := .int .i64 x11) (by subst hx11; exact val_bin rfl rfl rfl rfl (i64_quo _ _ _ (by decide))) rfl rfl rfl (fun _ hw => hw) ?_
      clear hx11
      refine z_still (v := .int .i64 x4) (val_move rfl rfl) rfl rfl rfl (fun _ hw => hw) ?_
      obtain ⟨x13, hx13, H⟩ := Let_elim H
      refine z_still (v := .int .i64 x13) (by subst hx13; exact val_bin rfl rfl rfl rfl (i64_quo _ _ _ (by decide))) rfl rfl rfl (fun _ hw => hw) ?_
      clear hx13
      obtain ⟨hq_4, H⟩ := Chk_elim H
      refine z_still (v := .pointer (some ⟨g_3, x13.toNat, none⟩)) (val_idx0 rfl rfl rfl Try.underlying24 sz22 hq_4 rfl) rfl rfl rfl (fun _ hw => hw) ?_
      obtain ⟨x15, hx15, H⟩ := Let_elim H
      refine z_still (v := U64 x15) (by subst hx15; exact val_load1 rfl rfl Try.underlying22 rfl (fun _ hw => hw.cell (j := 0) rfl (cV_at _ (idx_lt hq_4)))) rfl rfl rfl (fun _ hw => hw) ?_
      clear hx15
      obtain ⟨x16, hx16, H⟩ := Let_elim H
      refine z_still (v := U64 x16) (by subst hx16; exact val_bin rfl rfl rfl rfl (u64_mul_r _ _ _)) rfl rfl rfl (fun _ hw => hw) ?_
      clear hx16
      refine z_still (v := .int .i64 x4) (val_move rfl rfl) rfl rfl rfl (fun _ hw => hw) ?_
      obtain ⟨hq_5, H⟩ := Chk_elim H
      refine z_still (v := .pointer (some ⟨g_1, x4.toNat, none⟩)) (val_idx0 rfl rfl rfl Try.underlying82 sz3 hq_5 rfl) rfl rfl rfl (fun _ hw => hw) ?_
      obtain ⟨x19, hx19, H⟩ := Let_elim H
      refine z_still (v := .int .i64 x19) (by subst hx19; exact val_load1 rfl rfl Try.underlying3 rfl (fun _ hw => hw.cell (j := 2) rfl (cV_at _ (idx_lt hq_5)))) rfl rfl rfl (fun _ hw => hw) ?_
      clear hx19
      obtain ⟨x20, hx20, H⟩ := Let_elim H
      refine z_still (v := U64 x20) (by subst hx20; exact val_conv rfl rfl (fun w => conv_int_u64 w _ _ .i64 _ (by rw [Try.underlying3]; rfl) Try.underlying22)) rfl rfl rfl (fun _ hw => hw) ?_
      clear hx20
      obtain ⟨x21, hx21, H⟩ := Let_elim H
      refine z_still (v := U64 x21) (by subst hx21; exact val_bin rfl rfl rfl rfl (u64_add _ _ _)) rfl rfl rfl (fun _ hw => hw) ?_
      clear hx21
      obtain ⟨hq_6, H⟩ := Chk_elim H
      refine z_still (v := .pointer (some ⟨g_3, x11.toNat, none⟩)) (val_idx0 rfl rfl rfl Try.underlying24 sz22 hq_6 rfl) rfl rfl rfl (fun _ hw => hw) ?_
      obtain ⟨y_3_7, hy_3_7, H⟩ := Let_elim H
      refine z_store1 (j := 0) (cs' := cV U64 y_3_7) (L' := [.blk g_3 24 (cV U64 y_3_7) 4, .blk g_2 24 (cV U64 (Vec.rep 4 0#64)) 4, .blk g_1 82 (cV (Value.int .i64) a0) 32]) rfl rfl rfl rfl rfl sz22 rfl (by rw [cV_len]; exact (idx_lt hq_6)) (by subst hy_3_7; exact cV_set (f := U64) _ _ x21) rfl rfl rfl (fun hb => absurd hb (by decide)) ?_
      clear hy_3_7
      refine z_nil ?_
      refine t_fin ?_
      refine t_region (fun ops hops => ?_)
      clear hops
      refine z_val (v := .int .i64 x4) (val_move rfl rfl) rfl rfl rfl (fun _ _ _ => trivial) ?_
      obtain ⟨x9, hx9, H⟩ := Let_elim H
      refine z_val (v := .int .i64 x9) (by subst hx9; exact val_bin rfl rfl rfl rfl (i64_sub _ _ _)) rfl rfl rfl (fun _ _ _ => trivial) ?_
      clear hx9
      refine z_val (v := .int .i64 x9) (val_assign rfl rfl) rfl rfl rfl (fun _ _ _ => trivial) ?_
      refine z_nil ?_
      obtain rfl := Option.some.inj H
      exact t_reach ((hn1 _ () rfl trivial).weak (fun a ha => ha.cons rfl (ha.cons rfl (ha.cons rfl (ha.cons rfl (ha.nil))))) (fun w hw => hw))
  ·
    obtain ⟨y_3, x4⟩ := s
    subst hzz
    have H := HK1
    clear HK1 hz1
    replace H := sum_l H
    try dsimp only at H
    change T 24 _ _ _
    refine t_seq ?_
    refine t_region (fun ops hops => ?_)
    clear hops
    refine z_val (v := .agg (cV U64 y_3).toArray) (val_loadR (off := 0) (cs := cV U64 y_3) rfl rfl Try.underlying24 rfl (sz24.trans (congrArg some (cV_len _).symm)) (fun _ hw => hw.whole (j := 0) rfl)) rfl rfl rfl (fun _ _ _ => trivial) ?_
    refine z_storeA (j := 1) (cs' := cV U64 y_3) (L' := [.blk g_3 24 (cV U64 y_3) 4, .blk g_2 24 (cV U64 y_3) 4]) rfl rfl rfl (cV_one (fun _ => rfl) _) sz24 rfl (cV_len _) rfl rfl rfl (fun _ _ _ => trivial) ?_
    refine z_nil ?_
    refine t_ret ?_
    obtain rfl := Option.some.inj H
    exact ret1 rfl (res_row (j := 1) rfl Try.underlying24 rfl sz24 rfl (cV_len _)) (fun _ hw => ⟨rfl, hw.below⟩)
def smithyref01_Compare.b1 (a0 : Vec (Int) 32) (a1 : Vec (Int) 32) (x5 : Int) : Option (Ctl ((Int)) (Int)) :=
  Let (decide (0 ≤ x5)) fun x7 => (bif x7 then Chk (0 ≤ x5 ∧ x5 < ((32 : Nat) : Int)) <| Let (a0.get x5.toNat) fun x12 => Chk (0 ≤ x5 ∧ x5 < ((32 : Nat) : Int)) <| Let (a1.get x5.toNat) fun x15 => Let (decide (x12 < x15)) fun x16 => (bif x16 then some (.ret (-1)) else Chk (0 ≤ x5 ∧ x5 < ((32 : Nat) : Int)) <| Let (a0.get x5.toNat) fun x19 => Chk (0 ≤ x5 ∧ x5 < ((32 : Nat) : Int)) <| Let (a1.get x5.toNat) fun x22 => Let (decide (x22 < x19)) fun x23 => (bif x23 then some (.ret 1) else Let (wi (x5 - 1)) fun x9 => some (.next x9))) else some (.brk x5))
def smithyref01_Compare (a0 : Vec (Int) 32) (a1 : Vec (Int) 32) : Option (Int) :=
  (wlx (σ := (Int)) (fun s => smithyref01_Compare.b1 a0 a1 s) 31).bind (Sum.elim (fun x5 => some 0) (fun r => some r))
set_option maxRecDepth 100000 in
theorem smithyref01_Compare.calls  (a0 : Vec (Int) 32) (a1 : Vec (Int) 32) (r : Int) (H : smithyref01_Compare a0 a1 = some r) (w : World)   :
    Made Try.prog 71 #[.agg (cV (Value.int .i64) a0).toArray, .agg (cV (Value.int .i64) a1).toArray] w (.int .i64 r) := by
  unfold smithyref01_Compare at H
  have hM := Mm.start w (snap w) (snap_ok w)
  generalize snap w = h at *
  refine t_enter (vs := [.agg (cV (Value.int .i64) a0).toArray, .agg (cV (Value.int .i64) a1).toArray]) (n := 24) Try.func71 rfl rfl rfl hM ?_
  clear hM
  change T 24 _ _ _
  refine t_seq ?_
  refine t_region (fun ops hops => ?_)
  clear hops
  refine z_box (cs := cV (Value.int .i64) a0) (room := 32) rfl rfl rfl (cV_len _) rfl rfl rfl (fun _ _ _ _ => trivial) (fun g_1 => ?_)
  refine z_box (cs := cV (Value.int .i64) a1) (room := 32) rfl rfl rfl (cV_len _) rfl rfl rfl (fun _ _ _ _ => trivial) (fun g_2 => ?_)
  refine z_val (v := .int .i64 0) (val_assign rfl rfl) rfl rfl rfl (fun _ _ _ => trivial) ?_
  refine z_nil ?_
  refine t_seq ?_
  refine t_seq ?_
  refine t_region (fun ops hops => ?_)
  clear hops
  refine z_val (v := .int .i64 31) (val_assign rfl rfl) rfl rfl rfl (fun _ _ _ => trivial) ?_
  refine z_nil ?_
  refine t_block ?_
  obtain ⟨z1, hz1, HK1⟩ := Option.bind_eq_some_iff.1 H
  clear H
  refine t_while hz1 (fun (s : (Int)) (g : Unit) => [(2, .pointer (some ⟨g_1, 0, none⟩)), (3, .pointer (some ⟨g_2, 0, none⟩)), (5, .int .i64 s)]) (fun (s : (Int)) (g : Unit) => []) (fun (s : (Int)) (g : Unit) => Mm w [] h [.blk g_2 82 (cV (Value.int .i64) a1) 32, .blk g_1 82 (cV (Value.int .i64) a0) 32]) (fun (s : (Int)) (g : Unit) => Mm w [] h []) (fun (s : (Int)) (g : Unit) => True) (fun (s : (Int)) (g : Unit) => True) () trivial (fun a w ha hw => ⟨ha.cons rfl (ha.cons rfl (ha.cons rfl (ha.nil))), hw⟩) (fun Gn Gb s g e hφ H hn1 hb1 hr1 => ?_) (fun s g hzz hφ => ?_)
  ·
    obtain ⟨x5, rfl⟩ : ∃ x, x = s := ⟨_, rfl⟩
    change smithyref01_Compare.b1 a0 a1 x5 = some e at H
    unfold smithyref01_Compare.b1 at H
    clear hz1
    change T 24 _ _ _
    refine t_seq ?_
    refine t_seq ?_
    refine t_region (fun ops hops => ?_)
    clear hops
    refine z_val (v := .int .i64 x5) (val_move rfl rfl) rfl rfl rfl (fun _ _ _ => trivial) ?_
    obtain ⟨x7, hx7, H⟩ := Let_elim H
    refine z_val (v := .bool x7) (by subst hx7; exact val_bin rfl rfl rfl rfl (i64_geq _ _ _)) rfl rfl rfl (fun _ _ _ => trivial) ?_
    clear hx7
    refine z_nil ?_
    cases x7
    ·
      replace H := cond_f H
      refine t_cond_false rfl ?_
      refine t_exit rfl ?_
      obtain rfl := Option.some.inj H
      exact t_reach ((hb1 _ () rfl trivial).weak (fun a ha => ha.nil) (fun w hw => hw.sel [] rfl rfl))
    ·
      replace H := cond_t H
      refine t_cond_true rfl ?_
      refine t_skip ?_
      refine t_seq ?_
      refine t_block ?_
      refine t_seq ?_
      refine t_seq ?_
      refine t_plan (C := Mm w [] h [.blk g_2 82 (cV (Value.int .i64) a1) 32, .blk g_1 82 (cV (Value.int .i64) a0) 32]) [] [(0, true), (1, true), (2, true), (3, true), (4, true), (5, true), (6, true)] (by kernel_rfl) (by kernel_rfl) (fun _ hw => hw.drew) (fun ops hops => ?_)
      clear hops
      refine z_still (v := .int .i64 x5) (val_move rfl rfl) rfl rfl rfl (fun _ hw => hw) ?_
      obtain ⟨hq_3, H⟩ := Chk_elim H
      refine z_still (v := .pointer (some ⟨g_1, x5.toNat, none⟩)) (val_idx0 rfl rfl rfl Try.underlying82 sz3 hq_3 rfl) rfl rfl rfl (fun _ hw => hw) ?_
      obtain ⟨x12, hx12, H⟩ := Let_elim H
      refine z_still (v := .int .i64 x12) (by subst hx12; exact val_load1 rfl rfl Try.underlying3 rfl (fun _ hw => hw.cell (j := 1) rfl (cV_at _ (idx_lt hq_3)))) rfl rfl rfl (fun _ hw => hw) ?_
      clear hx12
      refine z_still (v := .int .i64 x5) (val_move rfl rfl) rfl rfl rfl (fun _ hw => hw) ?_
      obtain ⟨hq_4, H⟩ := Chk_elim H
      refine z_still (v := .pointer (some ⟨g_2, x5.toNat, none⟩)) (val_idx0 rfl rfl rfl Try.underlying82 sz3 hq_4 rfl) rfl rfl rfl (fun _ hw => hw) ?_
      obtain ⟨x15, hx15, H⟩ := Let_elim H
      refine z_still (v := .int .i64 x15) (by subst hx15; exact val_load1 rfl rfl Try.underlying3 rfl (fun _ hw => hw.cell (j := 0) rfl (cV_at _ (idx_lt hq_4)))) rfl rfl rfl (fun _ hw => hw) ?_
      clear hx15
      obtain ⟨x16, hx16, H⟩ := Let_elim H
      refine z_still (v := .bool x16) (by subst hx16; exact val_bin rfl rfl rfl rfl (i64_lss _ _ _)) rfl rfl rfl (fun _ hw => hw) ?_
      clear hx16
      refine z_nil ?_
      cases x16
      ·
        replace H := cond_f H
        refine t_cond_false rfl ?_
        refine t_skip ?_
        refine t_seq ?_
        refine t_plan (C := Mm w [] h [.blk g_2 82 (cV (Value.int .i64) a1) 32, .blk g_1 82 (cV (Value.int .i64) a0) 32]) [] [(0, true), (1, true), (2, true), (3, true), (4, true), (5, true), (6, true)] (by kernel_rfl) (by kernel_rfl) (fun _ hw => hw.drew) (fun ops hops => ?_)
        clear hops
        refine z_still (v := .int .i64 x5) (val_move rfl rfl) rfl rfl rfl (fun _ hw => hw) ?_
        obtain ⟨hq_5, H⟩ := Chk_elim H
        refine z_still (v := .pointer (some ⟨g_1, x5.toNat, none⟩)) (val_idx0 rfl rfl rfl Try.underlying82 sz3 hq_5 rfl) rfl rfl rfl (fun _ hw => hw) ?_
        obtain ⟨x19, hx19, H⟩ := Let_elim H
        refine z_still (v := .int .i64 x19) (by subst hx19; exact val_load1 rfl rfl Try.underlying3 rfl (fun _ hw => hw.cell (j := 1) rfl (cV_at _ (idx_lt hq_5)))) rfl rfl rfl (fun _ hw => hw) ?_
        clear hx19
        refine z_still (v := .int .i64 x5) (val_move rfl rfl) rfl rfl rfl (fun _ hw => hw) ?_
        obtain ⟨hq_6, H⟩ := Chk_elim H
        refine z_still (v := .pointer (some ⟨g_2, x5.toNat, none⟩)) (val_idx0 rfl rfl rfl Try.underlying82 sz3 hq_6 rfl) rfl rfl rfl (fun _ hw => hw) ?_
        obtain ⟨x22, hx22, H⟩ := Let_elim H
        refine z_still (v := .int .i64 x22) (by subst hx22; exact val_load1 rfl rfl Try.underlying3 rfl (fun _ hw => hw.cell (j := 0) rfl (cV_at _ (idx_lt hq_6)))) rfl rfl rfl (fun _ hw => hw) ?_
        clear hx22
        obtain ⟨x23, hx23, H⟩ := Let_elim H
        refine z_still (v := .bool x23) (by subst hx23; exact val_bin rfl rfl rfl rfl (i64_gtr _ _ _)) rfl rfl rfl (fun _ hw => hw) ?_
        clear hx23
        refine z_nil ?_
        cases x23
        ·
          replace H := cond_f H
          refine t_cond_false rfl ?_
          refine t_skip ?_
          refine t_fin ?_
          refine t_region (fun ops hops => ?_)
          clear hops
          refine z_val (v := .int .i64 x5) (val_move rfl rfl) rfl rfl rfl (fun _ _ _ => trivial) ?_
          obtain ⟨x9, hx9, H⟩ := Let_elim H
          refine z_val (v := .int .i64 x9) (by subst hx9; exact val_bin rfl rfl rfl rfl (i64_sub _ _ _)) rfl rfl rfl (fun _ _ _ => trivial) ?_
          clear hx9
          refine z_val (v := .int .i64 x9) (val_assign rfl rfl) rfl rfl rfl (fun _ _ _ => trivial) ?_
          refine z_nil ?_
          obtain rfl := Option.some.inj H
          exact t_reach ((hn1 _ () rfl trivial).weak (fun a ha => ha.cons rfl (ha.cons rfl (ha.cons rfl (ha.nil)))) (fun w hw => hw))
        ·
          replace H := cond_t H
          refine t_cond_true rfl ?_
          refine t_seq ?_
          refine t_region (fun ops hops => ?_)
          clear hops
          refine z_val (v := .int .i64 1) (val_assign rfl rfl) rfl rfl rfl (fun _ _ _ => trivial) ?_
          refine z_nil ?_
          refine t_ret ?_
          obtain rfl := Option.some.inj H
          have hz := hr1 _ rfl
          subst hz
          obtain rfl := Option.some.inj HK1
          exact ret1 rfl (res_tmp rfl) (fun _ hw => ⟨rfl, hw.below⟩)
      ·
        replace H := cond_t H
        refine t_cond_true rfl ?_
        refine t_seq ?_
        refine t_region (fun ops hops => ?_)
        clear hops
        refine z_val (v := .int .i64 (-1)) (val_assign rfl rfl) rfl rfl rfl (fun _ _ _ => trivial) ?_
        refine z_nil ?_
        refine t_ret ?_
        obtain rfl := Option.some.inj H
        have hz := hr1 _ rfl
        subst hz
        obtain rfl := Option.some.inj HK1
        exact ret1 rfl (res_tmp rfl) (fun _ hw => ⟨rfl, hw.below⟩)
  ·
    obtain ⟨x5, rfl⟩ : ∃ x, x = s := ⟨_, rfl⟩
    subst hzz
    have H := HK1
    clear HK1 hz1
    replace H := sum_l H
    try dsimp only at H
    change T 24 _ _ _
    refine t_seq ?_
    refine t_region (fun ops hops => ?_)
    clear hops
    refine z_val (v := .int .i64 0) (val_assign rfl rfl) rfl rfl rfl (fun _ _ _ => trivial) ?_
    refine z_nil ?_
    refine t_ret ?_
    obtain rfl := Option.some.inj H
    exact ret1 rfl (res_tmp rfl) (fun _ hw => ⟨rfl, hw.below⟩)
def smithyref02_N_Word.b1 (a0 : List (Int)) (y_2 : Vec (Int) 32) (x4 : Int) : Option (Ctl ((Vec (Int) 32) × (Int)) (Vec (BitVec 64) 4)) :=
  Let (decide (x4 < 32)) fun x7 => (bif x7 then (smithyref02_at a0 x4).bind fun x13 => Chk (0 ≤ x4 ∧ x4 < ((32 : Nat) : Int)) <| Let (y_2.set x4.toNat x13) fun y_2_4 => Let (wi (x4 + 1)) fun x9 => some (.next (y_2_4, x9)) else some (.brk (y_2, x4)))
def smithyref02_N_Word (a0 : List (Int)) : Option (Vec (BitVec 64) 4) :=
  Let (Vec.rep 32 0) fun x5 => (wlx (σ := (Vec (Int) 32) × (Int)) (fun s => smithyref02_N_Word.b1 a0 s.1 s.2) (x5, 0)).bind (Sum.elim (fun s => (fun y_2 x4 => (smithyref01_D_Word y_2).bind fun x16 => some x16) s.1 s.2) (fun r => some r))
set_option maxRecDepth 100000 in
theorem smithyref02_N_Word.calls  (a0 : List (Int)) (A0 : Option Addr) (c0 : Nat) (r : Vec (BitVec 64) 4) (H : smithyref02_N_Word a0 = some r) (w : World) (hs0 : SlW w (Value.int .i64) A0 a0) (hc0 : a0.length ≤ c0)  :
    Made Try.prog 18 #[.slice A0 a0.length c0] w (.agg (cV U64 r).toArray) := by
  unfold smithyref02_N_Word at H
  replace hs0 := hs0.toH
  have hM := Mm.start w (snap w) (snap_ok w)
  generalize snap w = h at *
  refine t_enter (vs := [.slice A0 a0.length c0]) (n := 17) Try.func18 rfl rfl rfl hM ?_
  clear hM
  change T 17 _ _ _
  refine t_seq ?_
  refine t_region (fun ops hops => ?_)
  clear hops
  refine z_alloc (cs := cV U64 (Vec.rep 4 0#64)) (room := 4) rfl ze24 rfl (cV_len _) rfl rfl rfl (fun _ _ _ _ => trivial) (fun g_1 => ?_)
  refine z_nil ?_
  refine t_seq ?_
  refine t_region (fun ops hops => ?_)
  clear hops
  obtain ⟨x5, hx5, H⟩ := Let_elim H
  refine z_val (v := .agg (cV (Value.int .i64) x5).toArray) (by subst hx5; exact val_build (vs := []) rfl rfl (fun w => by kernel_rfl)) rfl rfl rfl (fun _ _ _ => trivial) ?_
  clear hx5
  refine z_alloc (cs := cV (Value.int .i64) (Vec.rep 32 0)) (room := 32) rfl ze82 rfl (cV_len _) rfl rfl rfl (fun _ _ _ _ => trivial) (fun g_2 => ?_)
  refine z_storeA (j := 0) (cs' := cV (Value.int .i64) x5) (L' := [.blk g_2 82 (cV (Value.int .i64) x5) 32, .blk g_1 24 (cV U64 (Vec.rep 4 0#64)) 4]) rfl rfl rfl (cV_one (fun _ => rfl) _) sz82 rfl (cV_len _) rfl rfl rfl (fun _ _ _ => trivial) ?_
  refine z_nil ?_
  refine t_seq ?_
  refine t_seq ?_
  refine t_region (fun ops hops => ?_)
  clear hops
  refine z_val (v := .int .i64 0) (val_assign rfl rfl) rfl rfl rfl (fun _ _ _ => trivial) ?_
  refine z_nil ?_
  refine t_block ?_
  obtain ⟨z1, hz1, HK1⟩ := Option.bind_eq_some_iff.1 H
  clear H
  refine t_while hz1 (fun (s : (Vec (Int) 32) × (Int)) (g : Unit) => [(0, .slice A0 a0.length c0), (2, .pointer (some ⟨g_1, 0, none⟩)), (3, .pointer (some ⟨g_2, 0, none⟩)), (4, .int .i64 s.2)]) (fun (s : (Vec (Int) 32) × (Int)) (g : Unit) => [(2, .pointer (some ⟨g_1, 0, none⟩)), (3, .pointer (some ⟨g_2, 0, none⟩))]) (fun (s : (Vec (Int) 32) × (Int)) (g : Unit) => Mm w [] h [.blk g_2 82 (cV (Value.int .i64) s.1) 32, .blk g_1 24 (cV U64 (Vec.rep 4 0#64)) 4]) (fun (s : (Vec (Int) 32) × (Int)) (g : Unit) => Mm w [] h [.blk g_2 82 (cV (Value.int .i64) s.1) 32, .blk g_1 24 (cV U64 (Vec.rep 4 0#64)) 4]) (fun (s : (Vec (Int) 32) × (Int)) (g : Unit) => True) (fun (s : (Vec (Int) 32) × (Int)) (g : Unit) => True) () trivial (fun a w ha hw => ⟨ha.cons rfl (ha.cons rfl (ha.cons rfl (ha.cons rfl (ha.nil)))), hw⟩) (fun Gn Gb s g e hφ H hn1 hb1 hr1 => ?_) (fun s g hzz hφ => ?_)
  ·
    obtain ⟨y_2, x4⟩ := s
    change smithyref02_N_Word.b1 a0 y_2 x4 = some e at H
    unfold smithyref02_N_Word.b1 at H
    clear hz1
    change T 17 _ _ _
    refine t_seq ?_
    refine t_seq ?_
    refine t_region (fun ops hops => ?_)
    clear hops
    refine z_val (v := .int .i64 x4) (val_move rfl rfl) rfl rfl rfl (fun _ _ _ => trivial) ?_
    obtain ⟨x7, hx7, H⟩ := Let_elim H
    refine z_val (v := .bool x7) (by subst hx7; exact val_bin rfl rfl rfl rfl (i64_lss _ _ _)) rfl rfl rfl (fun _ _ _ => trivial) ?_
    clear hx7
    refine z_nil ?_
    cases x7
    ·
      replace H := cond_f H
      refine t_cond_false rfl ?_
      refine t_exit rfl ?_
      obtain rfl := Option.some.inj H
      exact t_reach ((hb1 _ () rfl trivial).weak (fun a ha => ha.cons rfl (ha.cons rfl (ha.nil))) (fun w hw => hw))
    ·
      replace H := cond_t H
      refine t_cond_true rfl ?_
      refine t_skip ?_
      refine t_seq ?_
      refine t_block ?_
      refine t_region (fun ops hops => ?_)
      clear hops
      refine z_val (v := .int .i64 x4) (val_move rfl rfl) rfl rfl rfl (fun _ _ _ => trivial) ?_
      refine z_val (v := .slice A0 a0.length c0) (val_move rfl rfl) rfl rfl rfl (fun _ _ _ => trivial) ?_
      refine z_val (v := .int .i64 x4) (val_move rfl rfl) rfl rfl rfl (fun _ _ _ => trivial) ?_
      obtain ⟨x13, hx, H⟩ := Option.bind_eq_some_iff.1 H
      refine z_made (v := .int .i64 x13) rfl Try.func46 nm46 bs46 rfl (fun w hw => smithyref02_at.calls a0 x4 A0 c0 x13 hx w (hs0.toW hw) hc0) rfl rfl rfl (fun _ _ _ => trivial) ?_
      clear hx
      obtain ⟨hq_3, H⟩ := Chk_elim H
      refine z_val (v := .pointer (some ⟨g_2, x4.toNat, none⟩)) (val_idx0 rfl rfl rfl Try.underlying82 sz3 hq_3 rfl) rfl rfl rfl (fun _ _ _ => trivial) ?_
      obtain ⟨y_2_4, hy_2_4, H⟩ := Let_elim H
      refine z_store1 (j := 0) (cs' := cV (Value.int .i64) y_2_4) (L' := [.blk g_2 82 (cV (Value.int .i64) y_2_4) 32, .blk g_1 24 (cV U64 (Vec.rep 4 0#64)) 4]) rfl rfl rfl rfl rfl sz3 rfl (by rw [cV_len]; exact (idx_lt hq_3)) (by subst hy_2_4; exact cV_set (f := (Value.int .i64)) _ _ x13) rfl rfl rfl (fun _ _ _ => trivial) ?_
      clear hy_2_4
      refine z_nil ?_
      refine t_fin ?_
      refine t_region (fun ops hops => ?_)
      clear hops
      refine z_val (v := .int .i64 x4) (val_move rfl rfl) rfl rfl rfl (fun _ _ _ => trivial) ?_
      obtain ⟨x9, hx9, H⟩ := Let_elim H
      refine z_val (v := .int .i64 x9) (by subst hx9; exact val_bin rfl rfl rfl rfl (i64_add _ _ _)) rfl rfl rfl (fun _ _ _ => trivial) ?_
      clear hx9
      refine z_val (v := .int .i64 x9) (val_assign rfl rfl) rfl rfl rfl (fun _ _ _ => trivial) ?_
      refine z_nil ?_
      obtain rfl := Option.some.inj H
      exact t_reach ((hn1 _ () rfl trivial).weak (fun a ha => ha.cons rfl (ha.cons rfl (ha.cons rfl (ha.cons rfl (ha.nil))))) (fun w hw => hw))
  ·
    obtain ⟨y_2, x4⟩ := s
    subst hzz
    have H := HK1
    clear HK1 hz1
    replace H := sum_l H
    try dsimp only at H
    change T 17 _ _ _
    refine t_seq ?_
    refine t_region (fun ops hops => ?_)
    clear hops
    refine z_val (v := .agg (cV (Value.int .i64) y_2).toArray) (val_loadR (off := 0) (cs := cV (Value.int .i64) y_2) rfl rfl Try.underlying82 rfl (sz82.trans (congrArg some (cV_len _).symm)) (fun _ hw => hw.whole (j := 0) rfl)) rfl rfl rfl (fun _ _ _ => trivial) ?_
    obtain ⟨x16, hx_5, H⟩ := Option.bind_eq_some_iff.1 H
    refine z_made (v := .agg (cV U64 x16).toArray) rfl Try.func47 nm47 bs47 rfl (fun w hw => smithyref01_D_Word.calls y_2 x16 hx_5 w) rfl rfl rfl (fun _ _ _ => trivial) ?_
    clear hx_5
    refine z_storeA (j := 1) (cs' := cV U64 x16) (L' := [.blk g_2 82 (cV (Value.int .i64) y_2) 32, .blk g_1 24 (cV U64 x16) 4]) rfl rfl rfl (cV_one (fun _ => rfl) _) sz24 rfl (cV_len _) rfl rfl rfl (fun _ _ _ => trivial) ?_
    refine z_nil ?_
    refine t_ret ?_
    obtain rfl := Option.some.inj H
    exact ret1 rfl (res_row (j := 1) rfl Try.underlying24 rfl sz24 rfl (cV_len _)) (fun _ hw => ⟨rfl, hw.below⟩)
def smithyref02_Plus.b1 (a0 : List (Int)) (a1 : List (Int)) (x5 : List (Int)) (x6 : Int) (x7 : Int) : Option (Ctl ((List (Int)) × (Int) × (Int)) (List (Int))) :=
  Let ((a0.length : Int)) fun x12 => Let ((a1.length : Int)) fun x14 => Let (if x12 < x14 then x14 else x12) fun x15 => Let (wi (x15 + 1)) fun x16 => Let (decide (x7 < x16)) fun x17 => (bif x17 then (smithyref02_at a0 x7).bind fun x22 => (smithyref02_at a1 x7).bind fun x25 => Let (wi (x22 + x25)) fun x26 => Let (wi (x26 + x6)) fun x28 => Let (Int.tmod x28 256) fun x31 => Let ([x31]) fun x32 => Chk ((x5.length + x32.length) * 8 ≤ 140737488355328) <| Let (x5 ++ x32) fun x33 => Let (wi (Int.tdiv x28 256)) fun x35 => Let (wi (x7 + 1)) fun x19 => some (.next (x33, x35, x19)) else some (.brk (x5, x6, x7)))
def smithyref02_Plus (a0 : List (Int)) (a1 : List (Int)) : Option (List (Int)) :=
  Let (([] : List (Int))) fun x9 => (wlx (σ := (List (Int)) × (Int) × (Int)) (fun s => smithyref02_Plus.b1 a0 a1 s.1 s.2.1 s.2.2) (x9, 0, 0)).bind (Sum.elim (fun s => (fun x5 x6 x7 => some x5) s.1 s.2.1 s.2.2) (fun r => some r))
set_option maxRecDepth 100000 in
theorem smithyref02_Plus.calls  (a0 : List (Int)) (a1 : List (Int)) (A0 : Option Addr) (c0 : Nat) (A1 : Option Addr) (c1 : Nat) (r : List (Int)) (H : smithyref02_Plus a0 a1 = some r) (w : World) (hs0 : SlW w (Value.int .i64) A0 a0) (hc0 : a0.length ≤ c0) (hs1 : SlW w (Value.int .i64) A1 a1) (hc1 : a1.length ≤ c1)  :
    Calls Try.prog 33 #[.slice A0 a0.length c0, .slice A1 a1.length c1] w fun e w' => ∃ A c, e = .returned (.slice A r.length c) ∧ Below w.heap.size w w' ∧ OwnR w w' 3 (Value.int .i64) A c r := by
  unfold smithyref02_Plus at H
  replace hs0 := hs0.toH
  replace hs1 := hs1.toH
  have hM := Mm.start w (snap w) (snap_ok w)
  generalize snap w = h at *
  refine t_enter (vs := [.slice A0 a0.length c0, .slice A1 a1.length c1]) (n := 37) Try.func33 rfl rfl rfl hM ?_
  clear hM
  change T 37 _ _ _
  refine t_seq ?_
  refine t_region (fun ops hops => ?_)
  clear hops
  refine z_val (v := .slice none 0 0) (val_assign rfl rfl) rfl rfl rfl (fun _ _ _ => trivial) ?_
  refine z_nil ?_
  refine t_seq ?_
  refine t_region (fun ops hops => ?_)
  clear hops
  obtain ⟨x9, hx9, H⟩ := Let_elim H
  have hlx9 : x9.length = 0 := by subst hx9; rfl
  refine z_buildSlice' (e := 3) (f := (Value.int .i64)) (xs := x9) (vs := []) rfl rfl (by subst hx9; intro w; kernel_rfl) hlx9 (by decide) rfl rfl rfl (fun _ _ _ _ => trivial) (fun g_1 hs_3 => ?_)
  clear hx9 hlx9
  refine z_val (v := .slice (some ⟨g_1, 0, none⟩) x9.length 0) (val_assign rfl rfl) rfl rfl rfl (fun _ _ _ => trivial) ?_
  refine z_nil ?_
  refine t_seq ?_
  refine t_region (fun ops hops => ?_)
  clear hops
  refine z_val (v := .int .i64 0) (val_assign rfl rfl) rfl rfl rfl (fun _ _ _ => trivial) ?_
  refine z_nil ?_
  refine t_seq ?_
  refine t_seq ?_
  refine t_region (fun ops hops => ?_)
  clear hops
  refine z_val (v := .int .i64 0) (val_assign rfl rfl) rfl rfl rfl (fun _ _ _ => trivial) ?_
  refine z_nil ?_
  refine t_block ?_
  obtain ⟨z1, hz1, HK1⟩ := Option.bind_eq_some_iff.1 H
  clear H
  refine t_while hz1 (fun (s : (List (Int)) × (Int) × (Int)) (g : (Option Addr) × (Nat)) => [(0, .slice A0 a0.length c0), (1, .slice A1 a1.length c1), (5, .slice g.1 s.1.length g.2), (6, .int .i64 s.2.1), (7, .int .i64 s.2.2)]) (fun (s : (List (Int)) × (Int) × (Int)) (g : (Option Addr) × (Nat)) => [(5, .slice g.1 s.1.length g.2)]) (fun (s : (List (Int)) × (Int) × (Int)) (g : (Option Addr) × (Nat)) => Mm w [] h [.row (.slice g.1 s.1.length g.2) 3 1 (s.1.map (Value.int .i64))]) (fun (s : (List (Int)) × (Int) × (Int)) (g : (Option Addr) × (Nat)) => Mm w [] h [.row (.slice g.1 s.1.length g.2) 3 1 (s.1.map (Value.int .i64))]) (fun (s : (List (Int)) × (Int) × (Int)) (g : (Option Addr) × (Nat)) => Shp g.1 s.1.length g.2) (fun (s : (List (Int)) × (Int) × (Int)) (g : (Option Addr) × (Nat)) => Shp g.1 s.1.length g.2) ⟨(some ⟨g_1, 0, none⟩), 0⟩ hs_3 (fun a w ha hw => ⟨ha.cons rfl (ha.cons rfl (ha.cons rfl (ha.cons rfl (ha.cons rfl (ha.nil))))), hw⟩) (fun Gn Gb s g e hφ H hn1 hb1 hr1 => ?_) (fun s g hzz hφ => ?_)
  ·
    obtain ⟨x5, x6, x7⟩ := s
    obtain ⟨A_4, c_5⟩ := g
    try dsimp only at hφ
    have hs_6 := hφ; clear hφ
    change smithyref02_Plus.b1 a0 a1 x5 x6 x7 = some e at H
    unfold smithyref02_Plus.b1 at H
    clear hz1
    change T 37 _ _ _
    refine t_seq ?_
    refine t_seq ?_
    refine t_region (fun ops hops => ?_)
    clear hops
    refine z_val (v := .int .i64 x7) (val_move rfl rfl) rfl rfl rfl (fun _ _ _ => trivial) ?_
    refine z_val (v := .slice A0 a0.length c0) (val_move rfl rfl) rfl rfl rfl (fun _ _ _ => trivial) ?_
    obtain ⟨x12, hx12, H⟩ := Let_elim H
    refine z_val (v := .int .i64 x12) (by subst hx12; exact val_len rfl rfl rfl Try.underlying38) rfl rfl rfl (fun _ _ _ => trivial) ?_
    clear hx12
    refine z_val (v := .slice A1 a1.length c1) (val_move rfl rfl) rfl rfl rfl (fun _ _ _ => trivial) ?_
    obtain ⟨x14, hx14, H⟩ := Let_elim H
    refine z_val (v := .int .i64 x14) (by subst hx14; exact val_len rfl rfl rfl Try.underlying38) rfl rfl rfl (fun _ _ _ => trivial) ?_
    clear hx14
    obtain ⟨x15, hx15, H⟩ := Let_elim H
    refine z_val (v := .int .i64 x15) (by subst hx15; exact val_max rfl rfl rfl) rfl rfl rfl (fun _ _ _ => trivial) ?_
    clear hx15
    obtain ⟨x16, hx16, H⟩ := Let_elim H
    refine z_val (v := .int .i64 x16) (by subst hx16; exact val_bin rfl rfl rfl rfl (i64_add _ _ _)) rfl rfl rfl (fun _ _ _ => trivial) ?_
    clear hx16
    obtain ⟨x17, hx17, H⟩ := Let_elim H
    refine z_val (v := .bool x17) (by subst hx17; exact val_bin rfl rfl rfl rfl (i64_lss _ _ _)) rfl rfl rfl (fun _ _ _ => trivial) ?_
    clear hx17
    refine z_nil ?_
    cases x17
    ·
      replace H := cond_f H
      refine t_cond_false rfl ?_
      refine t_exit rfl ?_
      obtain rfl := Option.some.inj H
      exact t_reach ((hb1 _ ⟨A_4, c_5⟩ rfl hs_6).weak (fun a ha => ha.cons rfl (ha.nil)) (fun w hw => hw))
    ·
      replace H := cond_t H
      refine t_cond_true rfl ?_
      refine t_skip ?_
      refine t_seq ?_
      refine t_block ?_
      refine t_seq ?_
      refine t_region (fun ops hops => ?_)
      clear hops
      refine z_val (v := .slice A0 a0.length c0) (val_move rfl rfl) rfl rfl rfl (fun _ _ _ => trivial) ?_
      refine z_val (v := .int .i64 x7) (val_move rfl rfl) rfl rfl rfl (fun _ _ _ => trivial) ?_
      obtain ⟨x22, hx, H⟩ := Option.bind_eq_some_iff.1 H
      refine z_made (v := .int .i64 x22) rfl Try.func46 nm46 bs46 rfl (fun w hw => smithyref02_at.calls a0 x7 A0 c0 x22 hx w (hs0.toW hw) hc0) rfl rfl rfl (fun _ _ _ => trivial) ?_
      clear hx
      refine z_val (v := .slice A1 a1.length c1) (val_move rfl rfl) rfl rfl rfl (fun _ _ _ => trivial) ?_
      refine z_val (v := .int .i64 x7) (val_move rfl rfl) rfl rfl rfl (fun _ _ _ => trivial) ?_
      obtain ⟨x25, hx_7, H⟩ := Option.bind_eq_some_iff.1 H
      refine z_made (v := .int .i64 x25) rfl Try.func46 nm46 bs46 rfl (fun w hw => smithyref02_at.calls a1 x7 A1 c1 x25 hx_7 w (hs1.toW hw) hc1) rfl rfl rfl (fun _ _ _ => trivial) ?_
      clear hx_7
      obtain ⟨x26, hx26, H⟩ := Let_elim H
      refine z_val (v := .int .i64 x26) (by subst hx26; exact val_bin rfl rfl rfl rfl (i64_add _ _ _)) rfl rfl rfl (fun _ _ _ => trivial) ?_
      clear hx26
      refine z_val (v := .int .i64 x6) (val_move rfl rfl) rfl rfl rfl (fun _ _ _ => trivial) ?_
      obtain ⟨x28, hx28, H⟩ := Let_elim H
      refine z_val (v := .int .i64 x28) (by subst hx28; exact val_bin rfl rfl rfl rfl (i64_add _ _ _)) rfl rfl rfl (fun _ _ _ => trivial) ?_
      clear hx28
      refine z_val (v := .int .i64 x28) (val_assign rfl rfl) rfl rfl rfl (fun _ _ _ => trivial) ?_
      refine z_nil ?_
      refine t_seq ?_
      refine t_region (fun ops hops => ?_)
      clear hops
      refine z_val (v := .slice A_4 x5.length c_5) (val_move rfl rfl) rfl rfl rfl (fun _ _ _ => trivial) ?_
      refine z_val (v := .int .i64 x28) (val_move rfl rfl) rfl rfl rfl (fun _ _ _ => trivial) ?_
      obtain ⟨x31, hx31, H⟩ := Let_elim H
      refine z_val (v := .int .i64 x31) (by subst hx31; exact val_bin rfl rfl rfl rfl (i64_rem _ _ _ (by decide))) rfl rfl rfl (fun _ _ _ => trivial) ?_
      clear hx31
      obtain ⟨x32, hx32, H⟩ := Let_elim H
      have hlx32 : x32.length = 1 := by subst hx32; rfl
      refine z_buildSlice' (e := 3) (f := (Value.int .i64)) (xs := x32) (vs := [(0, .int .i64 x31)]) rfl rfl (by subst hx32; intro w; kernel_rfl) hlx32 (by decide) rfl rfl rfl (fun _ _ _ _ => trivial) (fun g_8 hs_10 => ?_)
      clear hx32 hlx32
      obtain ⟨hq_11, H⟩ := Chk_elim H
      obtain ⟨x33, hx33, H⟩ := Let_elim H
      refine z_append (f := (Value.int .i64)) (j := 1) (xs := x5) (ys := x32) (zs := x33) rfl rfl Try.underlying38 in3 rfl rfl rfl rfl (fun w hw => (row_w hw (j := 0) rfl)) (fun _ => rfl) hq_11 (by decide) hx33 (fun A_12 c_13 => [.row (.slice (some ⟨g_8, 0, none⟩) x32.length 1) 3 1 (x32.map (Value.int .i64)), .row (.slice A_12 x33.length c_13) 3 1 (x33.map (Value.int .i64))]) (fun _ _ => rfl) rfl rfl rfl (fun _ _ _ _ _ => trivial) (fun A_12 c_13 hs_14 => ?_)
      clear hx33
      refine z_val (v := .slice A_12 x33.length c_13) (val_assign rfl rfl) rfl rfl rfl (fun _ _ _ => trivial) ?_
      refine z_nil ?_
      refine t_region (fun ops hops => ?_)
      clear hops
      refine z_val (v := .int .i64 x28) (val_move rfl rfl) rfl rfl rfl (fun _ _ _ => trivial) ?_
      obtain ⟨x35, hx35, H⟩ := Let_elim H
      refine z_val (v := .int .i64 x35) (by subst hx35; exact val_bin rfl rfl rfl rfl (i64_quo _ _ _ (by decide))) rfl rfl rfl (fun _ _ _ => trivial) ?_
      clear hx35
      refine z_val (v := .int .i64 x35) (val_assign rfl rfl) rfl rfl rfl (fun _ _ _ => trivial) ?_
      refine z_nil ?_
      refine t_fin ?_
      refine t_region (fun ops hops => ?_)
      clear hops
      refine z_val (v := .int .i64 x7) (val_move rfl rfl) rfl rfl rfl (fun _ _ _ => trivial) ?_
      obtain ⟨x19, hx19, H⟩ := Let_elim H
      refine z_val (v := .int .i64 x19) (by subst hx19; exact val_bin rfl rfl rfl rfl (i64_add _ _ _)) rfl rfl rfl (fun _ _ _ => trivial) ?_
      clear hx19
      refine z_val (v := .int .i64 x19) (val_assign rfl rfl) rfl rfl rfl (fun _ _ _ => trivial) ?_
      refine z_nil ?_
      obtain rfl := Option.some.inj H
      exact t_reach ((hn1 _ ⟨A_12, c_13⟩ rfl hs_14).weak (fun a ha => ha.cons rfl (ha.cons rfl (ha.cons rfl (ha.cons rfl (ha.cons rfl (ha.nil)))))) (fun w hw => hw.sel [1] rfl rfl))
  ·
    obtain ⟨x5, x6, x7⟩ := s
    obtain ⟨A_4, c_5⟩ := g
    try dsimp only at hφ
    have hs_6 := hφ; clear hφ
    subst hzz
    have H := HK1
    clear HK1 hz1
    replace H := sum_l H
    try dsimp only at H
    change T 37 _ _ _
    refine t_seq ?_
    refine t_region (fun ops hops => ?_)
    clear hops
    refine z_val (v := .slice A_4 x5.length c_5) (val_move rfl rfl) rfl rfl rfl (fun _ _ _ => trivial) ?_
    refine z_val (v := .slice A_4 x5.length c_5) (val_assign rfl rfl) rfl rfl rfl (fun _ _ _ => trivial) ?_
    refine z_nil ?_
    refine t_ret ?_
    obtain rfl := Option.some.inj H
    exact ret1 rfl (res_tmp rfl) (fun _ hw => ⟨A_4, c_5, rfl, hw.below, (row_out hw (j := 0) rfl hs_6)⟩)
def smithyref02_Times.b2 (a1 : List (Int)) (x19 : Int) (a0 : List (Int)) (y_3_6 : List (Int)) (x7 : Int) (x8 : Int) : Option (Ctl ((List (Int)) × (Int) × (Int)) (List (Int))) :=
  Let ((a1.length : Int)) fun x24 => Let (decide (x8 < x24)) fun x25 => (bif x25 then some true else Let (decide (0 < x7)) fun x28 => some x28).bind (fun x29 => (bif x29 then Let (wi (x19 + x8)) fun x35 => Chk ((0 : Int) ≤ x35 ∧ x35 < (y_3_6.length : Int)) <| Let (lget y_3_6 x35.toNat) fun x37 => Chk ((0 : Int) ≤ x19 ∧ x19 < (a0.length : Int)) <| Let (lget a0 x19.toNat) fun x41 => (smithyref02_at a1 x8).bind fun x44 => Let (wi (x41 * x44)) fun x45 => Let (wi (x37 + x45)) fun x46 => Let (wi (x46 + x7)) fun x48 => Let (wi (x19 + x8)) fun x52 => Let (Int.tmod x48 256) fun x54 => Chk ((0 : Int) ≤ x52 ∧ x52 < (y_3_6.length : Int)) <| Let (y_3_6.set x52.toNat x54) fun x_19 => Let (wi (Int.tdiv x48 256)) fun x57 => Let (wi (x8 + 1)) fun x31 => some (.next (x_19, x57, x31)) else some (.brk (y_3_6, x7, x8))))
def smithyref02_Times.b1 (x18 : Int) (a1 : List (Int)) (a0 : List (Int)) (y_3 : List (Int)) (x19 : Int) : Option (Ctl ((List (Int)) × (Int)) (List (Int))) :=
  Let (decide (x19 < x18)) fun x20 => (bif x20 then (wlx (σ := (List (Int)) × (Int) × (Int)) (fun s => smithyref02_Times.b2 a1 x19 a0 s.1 s.2.1 s.2.2) (y_3, 0, 0)).bind (Sum.elim (fun s => (fun y_3_6 x7 x8 => Let (wi (x19 + 1)) fun x58 => some (.next (y_3_6, x58))) s.1 s.2.1 s.2.2) (fun r => some (.ret r))) else some (.brk (y_3, x19)))
def smithyref02_Times (a0 : List (Int)) (a1 : List (Int)) : Option (List (Int)) :=
  Let ((a0.length : Int)) fun x11 => Let ((a1.length : Int)) fun x13 => Let (wi (x11 + x13)) fun x14 => Let (wi (x14 + 1)) fun x15 => Chk ((0 : Int) ≤ x15 ∧ x15.toNat * 8 ≤ 140737488355328) <| Let (List.replicate x15.toNat 0) fun x16 => Let ((a0.length : Int)) fun x18 => (wlx (σ := (List (Int)) × (Int)) (fun s => smithyref02_Times.b1 x18 a1 a0 s.1 s.2) (x16, 0)).bind (Sum.elim (fun s => (fun y_3 x19 => some y_3) s.1 s.2) (fun r => some r))
set_option maxRecDepth 100000 in
theorem smithyref02_Times.calls  (a0 : List (Int)) (a1 : List (Int)) (A0 : Option Addr) (c0 : Nat) (A1 : Option Addr) (c1 : Nat) (r : List (Int)) (H : smithyref02_Times a0 a1 = some r) (w : World) (hs0 : SlW w (Value.int .i64) A0 a0) (hc0 : a0.length ≤ c0) (hs1 : SlW w (Value.int .i64) A1 a1) (hc1 : a1.length ≤ c1)  :
    Calls Try.prog 34 #[.slice A0 a0.length c0, .slice A1 a1.length c1] w fun e w' => ∃ A c, e = .returned (.slice A r.length c) ∧ Below w.heap.size w w' ∧ OwnR w w' 3 (Value.int .i64) A c r := by
  unfold smithyref02_Times at H
  replace hs0 := hs0.toH
  replace hs1 := hs1.toH
  have hM := Mm.start w (snap w) (snap_ok w)
  generalize snap w = h at *
  refine t_enter (vs := [.slice A0 a0.length c0, .slice A1 a1.length c1]) (n := 60) Try.func34 rfl rfl rfl hM ?_
  clear hM
  change T 60 _ _ _
  refine t_seq ?_
  refine t_region (fun ops hops => ?_)
  clear hops
  refine z_val (v := .slice none 0 0) (val_assign rfl rfl) rfl rfl rfl (fun _ _ _ => trivial) ?_
  refine z_nil ?_
  refine t_seq ?_
  refine t_region (fun ops hops => ?_)
  clear hops
  refine z_val (v := .slice A0 a0.length c0) (val_move rfl rfl) rfl rfl rfl (fun _ _ _ => trivial) ?_
  obtain ⟨x11, hx11, H⟩ := Let_elim H
  refine z_val (v := .int .i64 x11) (by subst hx11; exact val_len rfl rfl rfl Try.underlying38) rfl rfl rfl (fun _ _ _ => trivial) ?_
  clear hx11
  refine z_val (v := .slice A1 a1.length c1) (val_move rfl rfl) rfl rfl rfl (fun _ _ _ => trivial) ?_
  obtain ⟨x13, hx13, H⟩ := Let_elim H
  refine z_val (v := .int .i64 x13) (by subst hx13; exact val_len rfl rfl rfl Try.underlying38) rfl rfl rfl (fun _ _ _ => trivial) ?_
  clear hx13
  obtain ⟨x14, hx14, H⟩ := Let_elim H
  refine z_val (v := .int .i64 x14) (by subst hx14; exact val_bin rfl rfl rfl rfl (i64_add _ _ _)) rfl rfl rfl (fun _ _ _ => trivial) ?_
  clear hx14
  obtain ⟨x15, hx15, H⟩ := Let_elim H
  refine z_val (v := .int .i64 x15) (by subst hx15; exact val_bin rfl rfl rfl rfl (i64_add _ _ _)) rfl rfl rfl (fun _ _ _ => trivial) ?_
  clear hx15
  obtain ⟨hq_1, H⟩ := Chk_elim H
  obtain ⟨x16, hx16, H⟩ := Let_elim H
  refine z_makeSlice (f := (Value.int .i64)) (z0 := 0) (N := x15.toNat) rfl rfl rfl Try.underlying38 (in3.trans rfl) rfl hq_1.1 rfl hq_1.2 (by decide) hx16 rfl rfl rfl (fun _ _ _ _ => trivial) (fun g_2 hs_4 => ?_)
  clear hx16
  refine z_val (v := .slice (some ⟨g_2, 0, none⟩) x16.length (x15.toNat)) (val_assign rfl rfl) rfl rfl rfl (fun _ _ _ => trivial) ?_
  refine z_nil ?_
  refine t_seq ?_
  refine t_seq ?_
  refine t_region (fun ops hops => ?_)
  clear hops
  refine z_val (v := .slice A0 a0.length c0) (val_move rfl rfl) rfl rfl rfl (fun _ _ _ => trivial) ?_
  obtain ⟨x18, hx18, H⟩ := Let_elim H
  refine z_val (v := .int .i64 x18) (by subst hx18; exact val_len rfl rfl rfl Try.underlying38) rfl rfl rfl (fun _ _ _ => trivial) ?_
  clear hx18
  refine z_val (v := .int .i64 0) (val_move rfl rfl) rfl rfl rfl (fun _ _ _ => trivial) ?_
  refine z_nil ?_
  refine t_block ?_
  obtain ⟨z1, hz1, HK1⟩ := Option.bind_eq_some_iff.1 H
  clear H
  refine t_while hz1 (fun (s : (List (Int)) × (Int)) (g : Unit) => [(0, .slice A0 a0.length c0), (1, .slice A1 a1.length c1), (5, .slice (some ⟨g_2, 0, none⟩) s.1.length (x15.toNat)), (18, .int .i64 x18), (19, .int .i64 s.2)]) (fun (s : (List (Int)) × (Int)) (g : Unit) => [(5, .slice (some ⟨g_2, 0, none⟩) s.1.length (x15.toNat))]) (fun (s : (List (Int)) × (Int)) (g : Unit) => Mm w [] h [.row (.slice (some ⟨g_2, 0, none⟩) s.1.length (x15.toNat)) 3 1 (s.1.map (Value.int .i64))]) (fun (s : (List (Int)) × (Int)) (g : Unit) => Mm w [] h [.row (.slice (some ⟨g_2, 0, none⟩) s.1.length (x15.toNat)) 3 1 (s.1.map (Value.int .i64))]) (fun (s : (List (Int)) × (Int)) (g : Unit) => Shp ((some ⟨g_2, 0, none⟩)) s.1.length (x15.toNat)) (fun (s : (List (Int)) × (Int)) (g : Unit) => Shp ((some ⟨g_2, 0, none⟩)) s.1.length (x15.toNat)) () hs_4 (fun a w ha hw => ⟨ha.cons rfl (ha.cons rfl (ha.cons rfl (ha.cons rfl (ha.cons rfl (ha.nil))))), hw⟩) (fun Gn Gb s g e hφ H hn1 hb1 hr1 => ?_) (fun s g hzz hφ => ?_)
  ·
    obtain ⟨y_3, x19⟩ := s
    try dsimp only at hφ
    have hs_5 := hφ; clear hφ
    change smithyref02_Times.b1 x18 a1 a0 y_3 x19 = some e at H
    unfold smithyref02_Times.b1 at H
    clear hz1
    change T 60 _ _ _
    refine t_seq ?_
    refine t_region (fun ops hops => ?_)
    clear hops
    obtain ⟨x20, hx20, H⟩ := Let_elim H
    refine z_val (v := .bool x20) (by subst hx20; exact val_bin rfl rfl rfl rfl (i64_lss _ _ _)) rfl rfl rfl (fun _ _ _ => trivial) ?_
    clear hx20
    refine z_nil ?_
    refine t_seq ?_
    cases x20
    ·
      replace H := cond_f H
      refine t_cond_false rfl ?_
      refine t_exit rfl ?_
      obtain rfl := Option.some.inj H
      exact t_reach ((hb1 _ () rfl hs_5).weak (fun a ha => ha.cons rfl (ha.nil)) (fun w hw => hw))
    ·
      replace H := cond_t H
      refine t_cond_true rfl ?_
      refine t_skip ?_
      refine t_seq ?_
      refine t_block ?_
      refine t_seq ?_
      refine t_region (fun ops hops => ?_)
      clear hops
      refine z_val (v := .int .i64 x19) (val_move rfl rfl) rfl rfl rfl (fun _ _ _ => trivial) ?_
      refine z_val (v := .int .i64 x19) (val_assign rfl rfl) rfl rfl rfl (fun _ _ _ => trivial) ?_
      refine z_nil ?_
      refine t_seq ?_
      refine t_region (fun ops hops => ?_)
      clear hops
      refine z_val (v := .int .i64 0) (val_assign rfl rfl) rfl rfl rfl (fun _ _ _ => trivial) ?_
      refine z_nil ?_
      refine t_seq ?_
      refine t_region (fun ops hops => ?_)
      clear hops
      refine z_val (v := .int .i64 0) (val_assign rfl rfl) rfl rfl rfl (fun _ _ _ => trivial) ?_
      refine z_nil ?_
      refine t_block ?_
      obtain ⟨z2, hz2, HK2⟩ := Option.bind_eq_some_iff.1 H
      clear H
      refine t_while hz2 (fun (s : (List (Int)) × (Int) × (Int)) (g : Unit) => [(0, .slice A0 a0.length c0), (1, .slice A1 a1.length c1), (5, .slice (some ⟨g_2, 0, none⟩) s.1.length (x15.toNat)), (6, .int .i64 x19), (7, .int .i64 s.2.1), (8, .int .i64 s.2.2), (18, .int .i64 x18), (19, .int .i64 x19)]) (fun (s : (List (Int)) × (Int) × (Int)) (g : Unit) => [(0, .slice A0 a0.length c0), (1, .slice A1 a1.length c1), (5, .slice (some ⟨g_2, 0, none⟩) s.1.length (x15.toNat)), (18, .int .i64 x18), (19, .int .i64 x19)]) (fun (s : (List (Int)) × (Int) × (Int)) (g : Unit) => Mm w [] h [.row (.slice (some ⟨g_2, 0, none⟩) s.1.length (x15.toNat)) 3 1 (s.1.map (Value.int .i64))]) (fun (s : (List (Int)) × (Int) × (Int)) (g : Unit) => Mm w [] h [.row (.slice (some ⟨g_2, 0, none⟩) s.1.length (x15.toNat)) 3 1 (s.1.map (Value.int .i64))]) (fun (s : (List (Int)) × (Int) × (Int)) (g : Unit) => Shp ((some ⟨g_2, 0, none⟩)) s.1.length (x15.toNat)) (fun (s : (List (Int)) × (Int) × (Int)) (g : Unit) => Shp ((some ⟨g_2, 0, none⟩)) s.1.length (x15.toNat)) () hs_5 (fun a w ha hw => ⟨ha.cons rfl (ha.cons rfl (ha.cons rfl (ha.cons rfl (ha.cons rfl (ha.cons rfl (ha.cons rfl (ha.cons rfl (ha.nil)))))))), hw⟩) (fun Gn Gb s g e hφ H hn2 hb2 hr2 => ?_) (fun s g hzz hφ => ?_)
      ·
        obtain ⟨y_3_6, x7, x8⟩ := s
        try dsimp only at hφ
        have hs_7 := hφ; clear hφ
        change smithyref02_Times.b2 a1 x19 a0 y_3_6 x7 x8 = some e at H
        unfold smithyref02_Times.b2 at H
        clear hz2
        change T 60 _ _ _
        refine t_seq ?_
        refine t_seq ?_
        refine t_region (fun ops hops => ?_)
        refine z_val (v := .int .i64 x8) (val_move rfl rfl) rfl rfl rfl (fun _ _ _ => trivial) ?_
        refine z_val (v := .slice A1 a1.length c1) (val_move rfl rfl) rfl rfl rfl (fun _ _ _ => trivial) ?_
        obtain ⟨x24, hx24, H⟩ := Let_elim H
        refine z_val (v := .int .i64 x24) (by subst hx24; exact val_len rfl rfl rfl Try.underlying38) rfl rfl rfl (fun _ _ _ => trivial) ?_
        clear hx24
        obtain ⟨x25, hx25, H⟩ := Let_elim H
        refine z_val (v := .bool x25) (by subst hx25; exact val_bin rfl rfl rfl rfl (i64_lss _ _ _)) rfl rfl rfl (fun _ _ _ => trivial) ?_
        clear hx25
        refine z_val (v := .bool x25) (val_move rfl rfl) rfl rfl rfl (fun _ _ _ => trivial) ?_
        refine z_bind H 3 (fun (s : Bool) (_ : Unit) => [(0, .slice A0 a0.length c0), (1, .slice A1 a1.length c1), (5, .slice (some ⟨g_2, 0, none⟩) y_3_6.length (x15.toNat)), (6, .int .i64 x19), (7, .int .i64 x7), (8, .int .i64 x8), (18, .int .i64 x18), (19, .int .i64 x19), (29, .bool s)]) (fun _ _ => Mm w [] h [.row (.slice (some ⟨g_2, 0, none⟩) y_3_6.length (x15.toNat)) 3 1 (y_3_6.map (Value.int .i64))]) (fun _ _ => True) (fun Gr K s he HJ => ?_) (fun s g HB _ => ?_)
        ·
          clear H
          cases x25
          ·
            have H := cond_f he
            clear he
            refine z_val (v := .int .i64 x7) (val_move rfl rfl) rfl rfl (by rw [hops]; rfl) (fun _ _ _ => trivial) ?_
            obtain ⟨x28, hx28, H⟩ := Let_elim H
            refine z_val (v := .bool x28) (by subst hx28; exact val_bin rfl rfl rfl rfl (i64_gtr _ _ _)) rfl rfl (by rw [hops]; rfl) (fun _ _ _ => trivial) ?_
            clear hx28
            refine z_val (v := .bool x28) (val_pick rfl rfl rfl) rfl rfl rfl (fun _ _ _ => trivial) ?_
            obtain rfl := Option.some.inj H
            exact z_nil ((K _ () HJ trivial).weak (fun a ha => ha.cons rfl (ha.cons rfl (ha.cons rfl (ha.cons rfl (ha.cons rfl (ha.cons rfl (ha.cons rfl (ha.cons rfl (ha.cons rfl (ha.nil)))))))))) (fun w hw => hw))
          ·
            have H := cond_t he
            clear he
            refine z_skip rfl rfl (by rw [hops]; rfl) (fun _ _ _ => trivial) ?_
            refine z_skip rfl rfl (by rw [hops]; rfl) (fun _ _ _ => trivial) ?_
            refine z_val (v := .bool true) (val_pick rfl rfl rfl) rfl rfl rfl (fun _ _ _ => trivial) ?_
            obtain rfl := Option.some.inj H
            exact z_nil ((K _ () HJ trivial).weak (fun a ha => ha.cons rfl (ha.cons rfl (ha.cons rfl (ha.cons rfl (ha.cons rfl (ha.cons rfl (ha.cons rfl (ha.cons rfl (ha.cons rfl (ha.nil)))))))))) (fun w hw => hw))
        ·
          replace H := HB
          clear HB
          obtain ⟨x29, rfl⟩ : ∃ x, x = s := ⟨_, rfl⟩
          change T 60 _ _ _
          refine z_nil ?_
          cases x29
          ·
            replace H := cond_f H
            refine t_cond_false rfl ?_
            refine t_exit rfl ?_
            obtain rfl := Option.some.inj H
            exact t_reach ((hb2 _ () rfl hs_7).weak (fun a ha => ha.cons rfl (ha.cons rfl (ha.cons rfl (ha.cons rfl (ha.cons rfl (ha.nil)))))) (fun w hw => hw))
          ·
            replace H := cond_t H
            refine t_cond_true rfl ?_
            refine t_skip ?_
            refine t_seq ?_
            refine t_block ?_
            refine t_seq ?_
            refine t_plan (C := Mm w [] h [.row (.slice (some ⟨g_2, 0, none⟩) y_3_6.length (x15.toNat)) 3 1 (y_3_6.map (Value.int .i64))]) [] [(0, true), (1, true), (2, true), (3, true), (4, true), (5, true), (6, true), (7, true), (8, true), (9, true), (10, true), (11, true), (15, true), (12, false), (13, true), (14, true), (16, true), (17, true)] (by kernel_rfl) (by kernel_rfl) (fun _ hw => hw.drew) (fun ops hops => ?_)
            clear hops
            refine z_still (v := .slice (some ⟨g_2, 0, none⟩) y_3_6.length (x15.toNat)) (val_move rfl rfl) rfl rfl rfl (fun _ hw => hw) ?_
            refine z_still (v := .int .i64 x19) (val_move rfl rfl) rfl rfl rfl (fun _ hw => hw) ?_
            refine z_still (v := .int .i64 x8) (val_move rfl rfl) rfl rfl rfl (fun _ hw => hw) ?_
            obtain ⟨x35, hx35, H⟩ := Let_elim H
            refine z_still (v := .int .i64 x35) (by subst hx35; exact val_bin rfl rfl rfl rfl (i64_add _ _ _)) rfl rfl rfl (fun _ hw => hw) ?_
            clear hx35
            obtain ⟨hq_8, H⟩ := Chk_elim H
            obtain ⟨g_9, hA_10⟩ := hs_7.blk (by omega)
            refine z_still (v := .pointer (some ⟨g_9, x35.toNat, none⟩)) (val_idxS1 rfl rfl rfl Try.underlying38 sz3 hq_8 hA_10 rfl) rfl rfl rfl (fun _ hw => hw) ?_
            obtain ⟨x37, hx37, H⟩ := Let_elim H
            refine z_still (v := .int .i64 x37) (by subst hx37; exact val_load1 rfl rfl Try.underlying3 rfl (fun _ hw => row_cell' hw (j := 0) rfl hA_10 (idx_lt hq_8))) rfl rfl rfl (fun _ hw => hw) ?_
            clear hx37
            refine z_still (v := .slice A0 a0.length c0) (val_move rfl rfl) rfl rfl rfl (fun _ hw => hw) ?_
            refine z_still (v := .int .i64 x19) (val_move rfl rfl) rfl rfl rfl (fun _ hw => hw) ?_
            obtain ⟨hq_11, H⟩ := Chk_elim H
            obtain ⟨b_12, o_13, hA_14, hc_15⟩ := hs0.at_ (idx_lt hq_11)
            refine z_still (v := .pointer (some ⟨b_12, o_13 + x19.toNat, none⟩)) (val_idxS0 rfl rfl rfl Try.underlying38 sz3 hq_11 hA_14 rfl) rfl rfl rfl (fun _ hw => hw) ?_
            obtain ⟨x41, hx41, H⟩ := Let_elim H
            refine z_still (v := .int .i64 x41) (by subst hx41; exact val_load1 rfl rfl Try.underlying3 rfl (fun _ hw => hc_15.cell hw)) rfl rfl rfl (fun _ hw => hw) ?_
            clear hx41
            refine z_still (v := .slice A1 a1.length c1) (val_move rfl rfl) rfl rfl rfl (fun _ hw => hw) ?_
            refine z_still (v := .int .i64 x8) (val_move rfl rfl) rfl rfl rfl (fun _ hw => hw) ?_
            refine z_still (v := .int .i64 x7) (val_move rfl rfl) rfl rfl rfl (fun _ hw => hw) ?_
            obtain ⟨x44, hx, H⟩ := Option.bind_eq_some_iff.1 H
            refine z_made (v := .int .i64 x44) rfl Try.func46 nm46 bs46 rfl (fun w hw => smithyref02_at.calls a1 x8 A1 c1 x44 hx w (hs1.toW hw) hc1) rfl rfl rfl (fun _ _ hw => hw) ?_
            clear hx
            obtain ⟨x45, hx45, H⟩ := Let_elim H
            refine z_still (v := .int .i64 x45) (by subst hx45; exact val_bin rfl rfl rfl rfl (i64_mul _ _ _)) rfl rfl rfl (fun _ hw => hw) ?_
            clear hx45
            obtain ⟨x46, hx46, H⟩ := Let_elim H
            refine z_still (v := .int .i64 x46) (by subst hx46; exact val_bin rfl rfl rfl rfl (i64_add _ _ _)) rfl rfl rfl (fun _ hw => hw) ?_
            clear hx46
            obtain ⟨x48, hx48, H⟩ := Let_elim H
            refine z_still (v := .int .i64 x48) (by subst hx48; exact val_bin rfl rfl rfl rfl (i64_add _ _ _)) rfl rfl rfl (fun _ hw => hw) ?_
            clear hx48
            refine z_still (v := .int .i64 x48) (val_assign rfl rfl) rfl rfl rfl (fun _ hw => hw) ?_
            refine z_nil ?_
            refine t_seq ?_
            refine t_region (fun ops hops => ?_)
            clear hops
            refine z_val (v := .slice (some ⟨g_2, 0, none⟩) y_3_6.length (x15.toNat)) (val_move rfl rfl) rfl rfl rfl (fun _ _ _ => trivial) ?_
            refine z_val (v := .int .i64 x19) (val_move rfl rfl) rfl rfl rfl (fun _ _ _ => trivial) ?_
            refine z_val (v := .int .i64 x8) (val_move rfl rfl) rfl rfl rfl (fun _ _ _ => trivial) ?_
            obtain ⟨x52, hx52, H⟩ := Let_elim H
            refine z_val (v := .int .i64 x52) (by subst hx52; exact val_bin rfl rfl rfl rfl (i64_add _ _ _)) rfl rfl rfl (fun _ _ _ => trivial) ?_
            clear hx52
            refine z_val (v := .int .i64 x48) (val_move rfl rfl) rfl rfl rfl (fun _ _ _ => trivial) ?_
            obtain ⟨x54, hx54, H⟩ := Let_elim H
            refine z_val (v := .int .i64 x54) (by subst hx54; exact val_bin rfl rfl rfl rfl (i64_rem _ _ _ (by decide))) rfl rfl rfl (fun _ _ _ => trivial) ?_
            clear hx54
            obtain ⟨hq_16, H⟩ := Chk_elim H
            obtain ⟨g_17, hA_18⟩ := hs_7.blk (by omega)
            refine z_val (v := .pointer (some ⟨g_17, x52.toNat, none⟩)) (val_idxS1 rfl rfl rfl Try.underlying38 sz3 hq_16 hA_18 rfl) rfl rfl rfl (fun _ _ _ => trivial) ?_
            obtain ⟨x_19, hx_19, H⟩ := Let_elim H
            have hs_20 : Shp ((some ⟨g_2, 0, none⟩)) x_19.length (x15.toNat) := by subst hx_19; rw [List.length_set]; exact hs_7
            refine z_storeRow' (j := 0) (zs := x_19) (L' := [.row (.slice (some ⟨g_2, 0, none⟩) x_19.length (x15.toNat)) 3 1 (x_19.map (Value.int .i64))]) rfl rfl rfl rfl rfl rfl sz3 rfl hA_18 (idx_lt hq_16) (by subst hx_19; rfl) rfl rfl rfl (fun _ _ _ => trivial) ?_
            have hl : y_3_6.length = x_19.length := by subst hx_19; rw [List.length_set]
            refine t_len (show y_3_6.length = x_19.length from hl) (fun z => [(0, .slice A0 a0.length c0), (1, .slice A1 a1.length c1), (5, .slice (some ⟨g_2, 0, none⟩) z (x15.toNat)), (6, .int .i64 x19), (7, .int .i64 x7), (8, .int .i64 x8), (9, .int .i64 x48), (18, .int .i64 x18), (19, .int .i64 x19), (29, .bool true), (32, .slice (some ⟨g_2, 0, none⟩) z (x15.toNat)), (33, .int .i64 x19), (34, .int .i64 x8), (35, .int .i64 x35), (36, .pointer (some ⟨g_9, x35.toNat, none⟩)), (37, .int .i64 x37), (38, .slice A0 a0.length c0), (39, .int .i64 x19), (40, .pointer (some ⟨b_12, o_13 + x19.toNat, none⟩)), (41, .int .i64 x41), (42, .slice A1 a1.length c1), (43, .int .i64 x8), (44, .int .i64 x44), (45, .int .i64 x45), (46, .int .i64 x46), (47, .int .i64 x7), (48, .int .i64 x48), (49, .slice (some ⟨g_2, 0, none⟩) z (x15.toNat)), (50, .int .i64 x19), (51, .int .i64 x8), (52, .int .i64 x52), (53, .int .i64 x48), (54, .int .i64 x54), (55, .pointer (some ⟨g_17, x52.toNat, none⟩))]) (fun a ha => ha.cons rfl (ha.cons rfl (ha.cons rfl (ha.cons rfl (ha.cons rfl (ha.cons rfl (ha.cons rfl (ha.cons rfl (ha.cons rfl (ha.cons rfl (ha.cons rfl (ha.cons rfl (ha.cons rfl (ha.cons rfl (ha.cons rfl (ha.cons rfl (ha.cons rfl (ha.cons rfl (ha.cons rfl (ha.cons rfl (ha.cons rfl (ha.cons rfl (ha.cons rfl (ha.cons rfl (ha.cons rfl (ha.cons rfl (ha.cons rfl (ha.cons rfl (ha.cons rfl (ha.cons rfl (ha.cons rfl (ha.cons rfl (ha.cons rfl (ha.cons rfl (ha.nil))))))))))))))))))))))))))))))))))) ?_
            change T 60 _ _ _
            clear hx_19 hl
            refine z_nil ?_
            refine t_region (fun ops hops => ?_)
            clear hops
            refine z_val (v := .int .i64 x48) (val_move rfl rfl) rfl rfl rfl (fun _ _ _ => trivial) ?_
            obtain ⟨x57, hx57, H⟩ := Let_elim H
            refine z_val (v := .int .i64 x57) (by subst hx57; exact val_bin rfl rfl rfl rfl (i64_quo _ _ _ (by decide))) rfl rfl rfl (fun _ _ _ => trivial) ?_
            clear hx57
            refine z_val (v := .int .i64 x57) (val_assign rfl rfl) rfl rfl rfl (fun _ _ _ => trivial) ?_
            refine z_nil ?_
            refine t_fin ?_
            refine t_region (fun ops hops => ?_)
            clear hops
            refine z_val (v := .int .i64 x8) (val_move rfl rfl) rfl rfl rfl (fun _ _ _ => trivial) ?_
            obtain ⟨x31, hx31, H⟩ := Let_elim H
            refine z_val (v := .int .i64 x31) (by subst hx31; exact val_bin rfl rfl rfl rfl (i64_add _ _ _)) rfl rfl rfl (fun _ _ _ => trivial) ?_
            clear hx31
            refine z_val (v := .int .i64 x31) (val_assign rfl rfl) rfl rfl rfl (fun _ _ _ => trivial) ?_
            refine z_nil ?_
            obtain rfl := Option.some.inj H
            exact t_reach ((hn2 _ () rfl hs_20).weak (fun a ha => ha.cons rfl (ha.cons rfl (ha.cons rfl (ha.cons rfl (ha.cons rfl (ha.cons rfl (ha.cons rfl (ha.cons rfl (ha.nil))))))))) (fun w hw => hw))
      ·
        obtain ⟨y_3_6, x7, x8⟩ := s
        try dsimp only at hφ
        have hs_7 := hφ; clear hφ
        subst hzz
        have H := HK2
        clear HK2 hz2
        replace H := sum_l H
        try dsimp only at H
        change T 60 _ _ _
        refine t_fin ?_
        refine t_region (fun ops hops => ?_)
        clear hops
        obtain ⟨x58, hx58, H⟩ := Let_elim H
        refine z_val (v := .int .i64 x58) (by subst hx58; exact val_bin rfl rfl rfl rfl (i64_add _ _ _)) rfl rfl rfl (fun _ _ _ => trivial) ?_
        clear hx58
        refine z_val (v := .int .i64 x58) (val_move rfl rfl) rfl rfl rfl (fun _ _ _ => trivial) ?_
        refine z_nil ?_
        obtain rfl := Option.some.inj H
        exact t_reach ((hn1 _ () rfl hs_7).weak (fun a ha => ha.cons rfl (ha.cons rfl (ha.cons rfl (ha.cons rfl (ha.cons rfl (ha.nil)))))) (fun w hw => hw))
  ·
    obtain ⟨y_3, x19⟩ := s
    try dsimp only at hφ
    have hs_5 := hφ; clear hφ
    subst hzz
    have H := HK1
    clear HK1 hz1
    replace H := sum_l H
    try dsimp only at H
    change T 60 _ _ _
    refine t_seq ?_
    refine t_region (fun ops hops => ?_)
    clear hops
    refine z_val (v := .slice (some ⟨g_2, 0, none⟩) y_3.length (x15.toNat)) (val_move rfl rfl) rfl rfl rfl (fun _ _ _ => trivial) ?_
    refine z_val (v := .slice (some ⟨g_2, 0, none⟩) y_3.length (x15.toNat)) (val_assign rfl rfl) rfl rfl rfl (fun _ _ _ => trivial) ?_
    refine z_nil ?_
    refine t_ret ?_
    obtain rfl := Option.some.inj H
    exact ret1 rfl (res_tmp rfl) (fun _ hw => ⟨(some ⟨g_2, 0, none⟩), (x15.toNat), rfl, hw.below, (row_out hw (j := 0) rfl hs_5)⟩)
def smithyref02_Of.b1 (x7 : Vec (Int) 32) (x4 : List (Int)) (x5 : Int) : Option (Ctl ((List (Int)) × (Int)) (List (Int))) :=
  Let (decide (x5 < 32)) fun x10 => (bif x10 then Chk (0 ≤ x5 ∧ x5 < ((32 : Nat) : Int)) <| Let (x7.get x5.toNat) fun x16 => Let ([x16]) fun x17 => Chk ((x4.length + x17.length) * 8 ≤ 140737488355328) <| Let (x4 ++ x17) fun x18 => Let (wi (x5 + 1)) fun x12 => some (.next (x18, x12)) else some (.brk (x4, x5)))
def smithyref02_Of (a0 : Vec (BitVec 64) 4) : Option (List (Int)) :=
  (smithyref01_Of a0).bind fun x7 => Let (([] : List (Int))) fun x8 => (wlx (σ := (List (Int)) × (Int)) (fun s => smithyref02_Of.b1 x7 s.1 s.2) (x8, 0)).bind (Sum.elim (fun s => (fun x4 x5 => some x4) s.1 s.2) (fun r => some r))
set_option maxRecDepth 100000 in
theorem smithyref02_Of.calls  (a0 : Vec (BitVec 64) 4) (r : List (Int)) (H : smithyref02_Of a0 = some r) (w : World)   :
    Calls Try.prog 35 #[.agg (cV U64 a0).toArray] w fun e w' => ∃ A c, e = .returned (.slice A r.length c) ∧ Below w.heap.size w w' ∧ OwnR w w' 3 (Value.int .i64) A c r := by
  unfold smithyref02_Of at H
  have hM := Mm.start w (snap w) (snap_ok w)
  generalize snap w = h at *
  refine t_enter (vs := [.agg (cV U64 a0).toArray]) (n := 20) Try.func35 rfl rfl rfl hM ?_
  clear hM
  change T 20 _ _ _
  refine t_seq ?_
  refine t_region (fun ops hops => ?_)
  clear hops
  refine z_box (cs := cV U64 a0) (room := 4) rfl rfl rfl (cV_len _) rfl rfl rfl (fun _ _ _ _ => trivial) (fun g_1 => ?_)
  refine z_val (v := .slice none 0 0) (val_assign rfl rfl) rfl rfl rfl (fun _ _ _ => trivial) ?_
  refine z_nil ?_
  refine t_seq ?_
  refine t_region (fun ops hops => ?_)
  clear hops
  refine z_val (v := .agg (cV U64 a0).toArray) (val_loadR (off := 0) (cs := cV U64 a0) rfl rfl Try.underlying24 rfl (sz24.trans (congrArg some (cV_len _).symm)) (fun _ hw => hw.whole (j := 0) rfl)) rfl rfl rfl (fun _ _ _ => trivial) ?_
  obtain ⟨x7, hx, H⟩ := Option.bind_eq_some_iff.1 H
  refine z_made (v := .agg (cV (Value.int .i64) x7).toArray) rfl Try.func40 nm40 bs40 rfl (fun w hw => smithyref01_Of.calls a0 x7 hx w) rfl rfl rfl (fun _ _ _ => trivial) ?_
  clear hx
  refine z_alloc (cs := cV (Value.int .i64) (Vec.rep 32 0)) (room := 32) rfl ze82 rfl (cV_len _) rfl rfl rfl (fun _ _ _ _ => trivial) (fun g_2 => ?_)
  refine z_storeA (j := 0) (cs' := cV (Value.int .i64) x7) (L' := [.blk g_2 82 (cV (Value.int .i64) x7) 32, .blk g_1 24 (cV U64 a0) 4]) rfl rfl rfl (cV_one (fun _ => rfl) _) sz82 rfl (cV_len _) rfl rfl rfl (fun _ _ _ => trivial) ?_
  refine z_nil ?_
  refine t_seq ?_
  refine t_region (fun ops hops => ?_)
  clear hops
  obtain ⟨x8, hx8, H⟩ := Let_elim H
  have hlx8 : x8.length = 0 := by subst hx8; rfl
  refine z_buildSlice' (e := 3) (f := (Value.int .i64)) (xs := x8) (vs := []) rfl rfl (by subst hx8; intro w; kernel_rfl) hlx8 (by decide) rfl rfl rfl (fun _ _ _ _ => trivial) (fun g_3 hs_5 => ?_)
  clear hx8 hlx8
  refine z_val (v := .slice (some ⟨g_3, 0, none⟩) x8.length 0) (val_assign rfl rfl) rfl rfl rfl (fun _ _ _ => trivial) ?_
  refine z_nil ?_
  refine t_seq ?_
  refine t_seq ?_
  refine t_region (fun ops hops => ?_)
  clear hops
  refine z_val (v := .int .i64 0) (val_assign rfl rfl) rfl rfl rfl (fun _ _ _ => trivial) ?_
  refine z_nil ?_
  refine t_block ?_
  obtain ⟨z1, hz1, HK1⟩ := Option.bind_eq_some_iff.1 H
  clear H
  refine t_while hz1 (fun (s : (List (Int)) × (Int)) (g : (Option Addr) × (Nat)) => [(3, .pointer (some ⟨g_2, 0, none⟩)), (4, .slice g.1 s.1.length g.2), (5, .int .i64 s.2)]) (fun (s : (List (Int)) × (Int)) (g : (Option Addr) × (Nat)) => [(4, .slice g.1 s.1.length g.2)]) (fun (s : (List (Int)) × (Int)) (g : (Option Addr) × (Nat)) => Mm w [] h [.row (.slice g.1 s.1.length g.2) 3 1 (s.1.map (Value.int .i64)), .blk g_2 82 (cV (Value.int .i64) x7) 32]) (fun (s : (List (Int)) × (Int)) (g : (Option Addr) × (Nat)) => Mm w [] h [.row (.slice g.1 s.1.length g.2) 3 1 (s.1.map (Value.int .i64))]) (fun (s : (List (Int)) × (Int)) (g : (Option Addr) × (Nat)) => Shp g.1 s.1.length g.2) (fun (s : (List (Int)) × (Int)) (g : (Option Addr) × (Nat)) => Shp g.1 s.1.length g.2) ⟨(some ⟨g_3, 0, none⟩), 0⟩ hs_5 (fun a w ha hw => ⟨ha.cons rfl (ha.cons rfl (ha.cons rfl (ha.nil))), hw.sel [0, 1] rfl rfl⟩) (fun Gn Gb s g e hφ H hn1 hb1 hr1 => ?_) (fun s g hzz hφ => ?_)
  ·
    obtain ⟨x4, x5⟩ := s
    obtain ⟨A_6, c_7⟩ := g
    try dsimp only at hφ
    have hs_8 := hφ; clear hφ
    change smithyref02_Of.b1 x7 x4 x5 = some e at H
    unfold smithyref02_Of.b1 at H
    clear hz1
    change T 20 _ _ _
    refine t_seq ?_
    refine t_seq ?_
    refine t_region (fun ops hops => ?_)
    clear hops
    refine z_val (v := .int .i64 x5) (val_move rfl rfl) rfl rfl rfl (fun _ _ _ => trivial) ?_
    obtain ⟨x10, hx10, H⟩ := Let_elim H
    refine z_val (v := .bool x10) (by subst hx10; exact val_bin rfl rfl rfl rfl (i64_lss _ _ _)) rfl rfl rfl (fun _ _ _ => trivial) ?_
    clear hx10
    refine z_nil ?_
    cases x10
    ·
      replace H := cond_f H
      refine t_cond_false rfl ?_
      refine t_exit rfl ?_
      obtain rfl := Option.some.inj H
      exact t_reach ((hb1 _ ⟨A_6, c_7⟩ rfl hs_8).weak (fun a ha => ha.cons rfl (ha.nil)) (fun w hw => hw.sel [0] rfl rfl))
    ·
      replace H := cond_t H
      refine t_cond_true rfl ?_
      refine t_skip ?_
      refine t_seq ?_
      refine t_block ?_
      refine t_region (fun ops hops => ?_)
      clear hops
      refine z_val (v := .slice A_6 x4.length c_7) (val_move rfl rfl) rfl rfl rfl (fun _ _ _ => trivial) ?_
      refine z_val (v := .int .i64 x5) (val_move rfl rfl) rfl rfl rfl (fun _ _ _ => trivial) ?_
      obtain ⟨hq_9, H⟩ := Chk_elim H
      refine z_val (v := .pointer (some ⟨g_2, x5.toNat, none⟩)) (val_idx0 rfl rfl rfl Try.underlying82 sz3 hq_9 rfl) rfl rfl rfl (fun _ _ _ => trivial) ?_
      obtain ⟨x16, hx16, H⟩ := Let_elim H
      refine z_val (v := .int .i64 x16) (by subst hx16; exact val_load1 rfl rfl Try.underlying3 rfl (fun _ hw => hw.cell (j := 1) rfl (cV_at _ (idx_lt hq_9)))) rfl rfl rfl (fun _ _ _ => trivial) ?_
      clear hx16
      obtain ⟨x17, hx17, H⟩ := Let_elim H
      have hlx17 : x17.length = 1 := by subst hx17; rfl
      refine z_buildSlice' (e := 3) (f := (Value.int .i64)) (xs := x17) (vs := [(0, .int .i64 x16)]) rfl rfl (by subst hx17; intro w; kernel_rfl) hlx17 (by decide) rfl rfl rfl (fun _ _ _ _ => trivial) (fun g_10 hs_12 => ?_)
      clear hx17 hlx17
      obtain ⟨hq_13, H⟩ := Chk_elim H
      obtain ⟨x18, hx18, H⟩ := Let_elim H
      refine z_append (f := (Value.int .i64)) (j := 1) (xs := x4) (ys := x17) (zs := x18) rfl rfl Try.underlying38 in3 rfl rfl rfl rfl (fun w hw => (row_w hw (j := 0) rfl)) (fun _ => rfl) hq_13 (by decide) hx18 (fun A_14 c_15 => [.row (.slice (some ⟨g_10, 0, none⟩) x17.length 1) 3 1 (x17.map (Value.int .i64)), .row (.slice A_14 x18.length c_15) 3 1 (x18.map (Value.int .i64)), .blk g_2 82 (cV (Value.int .i64) x7) 32]) (fun _ _ => rfl) rfl rfl rfl (fun _ _ _ _ _ => trivial) (fun A_14 c_15 hs_16 => ?_)
      clear hx18
      refine z_val (v := .slice A_14 x18.length c_15) (val_assign rfl rfl) rfl rfl rfl (fun _ _ _ => trivial) ?_
      refine z_nil ?_
      refine t_fin ?_
      refine t_region (fun ops hops => ?_)
      clear hops
      refine z_val (v := .int .i64 x5) (val_move rfl rfl) rfl rfl rfl (fun _ _ _ => trivial) ?_
      obtain ⟨x12, hx12, H⟩ := Let_elim H
      refine z_val (v := .int .i64 x12) (by subst hx12; exact val_bin rfl rfl rfl rfl (i64_add _ _ _)) rfl rfl rfl (fun _ _ _ => trivial) ?_
      clear hx12
      refine z_val (v := .int .i64 x12) (val_assign rfl rfl) rfl rfl rfl (fun _ _ _ => trivial) ?_
      refine z_nil ?_
      obtain rfl := Option.some.inj H
      exact t_reach ((hn1 _ ⟨A_14, c_15⟩ rfl hs_16).weak (fun a ha => ha.cons rfl (ha.cons rfl (ha.cons rfl (ha.nil)))) (fun w hw => hw.sel [1, 2] rfl rfl))
  ·
    obtain ⟨x4, x5⟩ := s
    obtain ⟨A_6, c_7⟩ := g
    try dsimp only at hφ
    have hs_8 := hφ; clear hφ
    subst hzz
    have H := HK1
    clear HK1 hz1
    replace H := sum_l H
    try dsimp only at H
    change T 20 _ _ _
    refine t_seq ?_
    refine t_region (fun ops hops => ?_)
    clear hops
    refine z_val (v := .slice A_6 x4.length c_7) (val_move rfl rfl) rfl rfl rfl (fun _ _ _ => trivial) ?_
    refine z_val (v := .slice A_6 x4.length c_7) (val_assign rfl rfl) rfl rfl rfl (fun _ _ _ => trivial) ?_
    refine z_nil ?_
    refine t_ret ?_
    obtain rfl := Option.some.inj H
    exact ret1 rfl (res_tmp rfl) (fun _ hw => ⟨A_6, c_7, rfl, hw.below, (row_out hw (j := 0) rfl hs_8)⟩)
def smithyref02_Less.b1 (a0 : List (Int)) (a1 : List (Int)) (x5 : Int) : Option (Ctl ((Int)) (Bool)) :=
  Let (decide (0 ≤ x5)) fun x13 => (bif x13 then (smithyref02_at a0 x5).bind fun x18 => (smithyref02_at a1 x5).bind fun x21 => Let (x18 != x21) fun x22 => (bif x22 then (smithyref02_at a0 x5).bind fun x25 => (smithyref02_at a1 x5).bind fun x28 => Let (decide (x25 < x28)) fun x29 => some (.ret x29) else Let (wi (x5 - 1)) fun x15 => some (.next x15)) else some (.brk x5))
def smithyref02_Less (a0 : List (Int)) (a1 : List (Int)) : Option (Bool) :=
  Let ((a0.length : Int)) fun x7 => Let ((a1.length : Int)) fun x9 => Let (if x7 < x9 then x9 else x7) fun x10 => Let (wi (x10 - 1)) fun x11 => (wlx (σ := (Int)) (fun s => smithyref02_Less.b1 a0 a1 s) x11).bind (Sum.elim (fun x5 => some false) (fun r => some r))
set_option maxRecDepth 100000 in
theorem smithyref02_Less.calls  (a0 : List (Int)) (a1 : List (Int)) (A0 : Option Addr) (c0 : Nat) (A1 : Option Addr) (c1 : Nat) (r : Bool) (H : smithyref02_Less a0 a1 = some r) (w : World) (hs0 : SlW w (Value.int .i64) A0 a0) (hc0 : a0.length ≤ c0) (hs1 : SlW w (Value.int .i64) A1 a1) (hc1 : a1.length ≤ c1)  :
    Made Try.prog 36 #[.slice A0 a0.length c0, .slice A1 a1.length c1] w (.bool r) := by
  unfold smithyref02_Less at H
  replace hs0 := hs0.toH
  replace hs1 := hs1.toH
  have hM := Mm.start w (snap w) (snap_ok w)
  generalize snap w = h at *
  refine t_enter (vs := [.slice A0 a0.length c0, .slice A1 a1.length c1]) (n := 30) Try.func36 rfl rfl rfl hM ?_
  clear hM
  change T 30 _ _ _
  refine t_seq ?_
  refine t_region (fun ops hops => ?_)
  clear hops
  refine z_val (v := .bool false) (val_assign rfl rfl) rfl rfl rfl (fun _ _ _ => trivial) ?_
  refine z_nil ?_
  refine t_seq ?_
  refine t_seq ?_
  refine t_region (fun ops hops => ?_)
  clear hops
  refine z_val (v := .slice A0 a0.length c0) (val_move rfl rfl) rfl rfl rfl (fun _ _ _ => trivial) ?_
  obtain ⟨x7, hx7, H⟩ := Let_elim H
  refine z_val (v := .int .i64 x7) (by subst hx7; exact val_len rfl rfl rfl Try.underlying38) rfl rfl rfl (fun _ _ _ => trivial) ?_
  clear hx7
  refine z_val (v := .slice A1 a1.length c1) (val_move rfl rfl) rfl rfl rfl (fun _ _ _ => trivial) ?_
  obtain ⟨x9, hx9, H⟩ := Let_elim H
  refine z_val (v := .int .i64 x9) (by subst hx9; exact val_len rfl rfl rfl Try.underlying38) rfl rfl rfl (fun _ _ _ => trivial) ?_
  clear hx9
  obtain ⟨x10, hx10, H⟩ := Let_elim H
  refine z_val (v := .int .i64 x10) (by subst hx10; exact val_max rfl rfl rfl) rfl rfl rfl (fun _ _ _ => trivial) ?_
  clear hx10
  obtain ⟨x11, hx11, H⟩ := Let_elim H
  refine z_val (v := .int .i64 x11) (by subst hx11; exact val_bin rfl rfl rfl rfl (i64_sub _ _ _)) rfl rfl rfl (fun _ _ _ => trivial) ?_
  clear hx11
  refine z_val (v := .int .i64 x11) (val_assign rfl rfl) rfl rfl rfl (fun _ _ _ => trivial) ?_
  refine z_nil ?_
  refine t_block ?_
  obtain ⟨z1, hz1, HK1⟩ := Option.bind_eq_some_iff.1 H
  clear H
  refine t_while hz1 (fun (s : (Int)) (g : Unit) => [(0, .slice A0 a0.length c0), (1, .slice A1 a1.length c1), (5, .int .i64 s)]) (fun (s : (Int)) (g : Unit) => []) (fun (s : (Int)) (g : Unit) => Mm w [] h []) (fun (s : (Int)) (g : Unit) => Mm w [] h []) (fun (s : (Int)) (g : Unit) => True) (fun (s : (Int)) (g : Unit) => True) () trivial (fun a w ha hw => ⟨ha.cons rfl (ha.cons rfl (ha.cons rfl (ha.nil))), hw⟩) (fun Gn Gb s g e hφ H hn1 hb1 hr1 => ?_) (fun s g hzz hφ => ?_)
  ·
    obtain ⟨x5, rfl⟩ : ∃ x, x = s := ⟨_, rfl⟩
    change smithyref02_Less.b1 a0 a1 x5 = some e at H
    unfold smithyref02_Less.b1 at H
    clear hz1
    change T 30 _ _ _
    refine t_seq ?_
    refine t_seq ?_
    refine t_region (fun ops hops => ?_)
    clear hops
    refine z_val (v := .int .i64 x5) (val_move rfl rfl) rfl rfl rfl (fun _ _ _ => trivial) ?_
    obtain ⟨x13, hx13, H⟩ := Let_elim H
    refine z_val (v := .bool x13) (by subst hx13; exact val_bin rfl rfl rfl rfl (i64_geq _ _ _)) rfl rfl rfl (fun _ _ _ => trivial) ?_
    clear hx13
    refine z_nil ?_
    cases x13
    ·
      replace H := cond_f H
      refine t_cond_false rfl ?_
      refine t_exit rfl ?_
      obtain rfl := Option.some.inj H
      exact t_reach ((hb1 _ () rfl trivial).weak (fun a ha => ha.nil) (fun w hw => hw))
    ·
      replace H := cond_t H
      refine t_cond_true rfl ?_
      refine t_skip ?_
      refine t_seq ?_
      refine t_block ?_
      refine t_seq ?_
      refine t_region (fun ops hops => ?_)
      clear hops
      refine z_val (v := .slice A0 a0.length c0) (val_move rfl rfl) rfl rfl rfl (fun _ _ _ => trivial) ?_
      refine z_val (v := .int .i64 x5) (val_move rfl rfl) rfl rfl rfl (fun _ _ _ => trivial) ?_
      obtain ⟨x18, hx, H⟩ := Option.bind_eq_some_iff.1 H
      refine z_made (v := .int .i64 x18) rfl Try.func46 nm46 bs46 rfl (fun w hw => smithyref02_at.calls a0 x5 A0 c0 x18 hx w (hs0.toW hw) hc0) rfl rfl rfl (fun _ _ _ => trivial) ?_
      clear hx
      refine z_val (v := .slice A1 a1.length c1) (val_move rfl rfl) rfl rfl rfl (fun _ _ _ => trivial) ?_
      refine z_val (v := .int .i64 x5) (val_move rfl rfl) rfl rfl rfl (fun _ _ _ => trivial) ?_
      obtain ⟨x21, hx_1, H⟩ := Option.bind_eq_some_iff.1 H
      refine z_made (v := .int .i64 x21) rfl Try.func46 nm46 bs46 rfl (fun w hw => smithyref02_at.calls a1 x5 A1 c1 x21 hx_1 w (hs1.toW hw) hc1) rfl rfl rfl (fun _ _ _ => trivial) ?_
      clear hx_1
      obtain ⟨x22, hx22, H⟩ := Let_elim H
      refine z_val (v := .bool x22) (by subst hx22; exact val_bin rfl rfl rfl rfl (i64_neq _ _ _)) rfl rfl rfl (fun _ _ _ => trivial) ?_
      clear hx22
      refine z_nil ?_
      cases x22
      ·
        replace H := cond_f H
        refine t_cond_false rfl ?_
        refine t_skip ?_
        refine t_fin ?_
        refine t_region (fun ops hops => ?_)
        clear hops
        refine z_val (v := .int .i64 x5) (val_move rfl rfl) rfl rfl rfl (fun _ _ _ => trivial) ?_
        obtain ⟨x15, hx15, H⟩ := Let_elim H
        refine z_val (v := .int .i64 x15) (by subst hx15; exact val_bin rfl rfl rfl rfl (i64_sub _ _ _)) rfl rfl rfl (fun _ _ _ => trivial) ?_
        clear hx15
        refine z_val (v := .int .i64 x15) (val_assign rfl rfl) rfl rfl rfl (fun _ _ _ => trivial) ?_
        refine z_nil ?_
        obtain rfl := Option.some.inj H
        exact t_reach ((hn1 _ () rfl trivial).weak (fun a ha => ha.cons rfl (ha.cons rfl (ha.cons rfl (ha.nil)))) (fun w hw => hw))
      ·
        replace H := cond_t H
        refine t_cond_true rfl ?_
        refine t_seq ?_
        refine t_region (fun ops hops => ?_)
        clear hops
        refine z_val (v := .slice A0 a0.length c0) (val_move rfl rfl) rfl rfl rfl (fun _ _ _ => trivial) ?_
        refine z_val (v := .int .i64 x5) (val_move rfl rfl) rfl rfl rfl (fun _ _ _ => trivial) ?_
        obtain ⟨x25, hx_2, H⟩ := Option.bind_eq_some_iff.1 H
        refine z_made (v := .int .i64 x25) rfl Try.func46 nm46 bs46 rfl (fun w hw => smithyref02_at.calls a0 x5 A0 c0 x25 hx_2 w (hs0.toW hw) hc0) rfl rfl rfl (fun _ _ _ => trivial) ?_
        clear hx_2
        refine z_val (v := .slice A1 a1.length c1) (val_move rfl rfl) rfl rfl rfl (fun _ _ _ => trivial) ?_
        refine z_val (v := .int .i64 x5) (val_move rfl rfl) rfl rfl rfl (fun _ _ _ => trivial) ?_
        obtain ⟨x28, hx_3, H⟩ := Option.bind_eq_some_iff.1 H
        refine z_made (v := .int .i64 x28) rfl Try.func46 nm46 bs46 rfl (fun w hw => smithyref02_at.calls a1 x5 A1 c1 x28 hx_3 w (hs1.toW hw) hc1) rfl rfl rfl (fun _ _ _ => trivial) ?_
        clear hx_3
        obtain ⟨x29, hx29, H⟩ := Let_elim H
        refine z_val (v := .bool x29) (by subst hx29; exact val_bin rfl rfl rfl rfl (i64_lss _ _ _)) rfl rfl rfl (fun _ _ _ => trivial) ?_
        clear hx29
        refine z_val (v := .bool x29) (val_assign rfl rfl) rfl rfl rfl (fun _ _ _ => trivial) ?_
        refine z_nil ?_
        refine t_ret ?_
        obtain rfl := Option.some.inj H
        have hz := hr1 _ rfl
        subst hz
        obtain rfl := Option.some.inj HK1
        exact ret1 rfl (res_tmp rfl) (fun _ hw => ⟨rfl, hw.below⟩)
  ·
    obtain ⟨x5, rfl⟩ : ∃ x, x = s := ⟨_, rfl⟩
    subst hzz
    have H := HK1
    clear HK1 hz1
    replace H := sum_l H
    try dsimp only at H
    change T 30 _ _ _
    refine t_seq ?_
    refine t_region (fun ops hops => ?_)
    clear hops
    refine z_val (v := .bool false) (val_assign rfl rfl) rfl rfl rfl (fun _ _ _ => trivial) ?_
    refine z_nil ?_
    refine t_ret ?_
    obtain rfl := Option.some.inj H
    exact ret1 rfl (res_tmp rfl) (fun _ hw => ⟨rfl, hw.below⟩)
def smithyref19_Cost (a0 : (Vec (BitVec 8) 20) × (Vec (BitVec 8) 20) × (Bool) × (BitVec 64) × (Vec (BitVec 64) 4) × (List (BitVec 8)) × (BitVec 64) × (Vec (BitVec 64) 4) × (Vec (BitVec 64) 4) × (List ((Vec (BitVec 8) 20) × (List (Vec (BitVec 64) 4))))) : Option (List (Int)) :=
  Let ((Vec.rep 4 0#64).set 0 a0.2.2.2.2.2.2.1) fun x5 => (smithyref02_Of x5).bind fun x6 => (smithyref02_Of a0.2.2.2.2.2.2.2.1).bind fun x9 => (smithyref02_Times x6 x9).bind fun x10 => (smithyref02_Of a0.2.2.2.2.1).bind fun x13 => (smithyref02_Plus x10 x13).bind fun x14 => some x14
set_option maxRecDepth 100000 in
theorem smithyref19_Cost.calls  (a0 : (Vec (BitVec 8) 20) × (Vec (BitVec 8) 20) × (Bool) × (BitVec 64) × (Vec (BitVec 64) 4) × (List (BitVec 8)) × (BitVec 64) × (Vec (BitVec 64) 4) × (Vec (BitVec 64) 4) × (List ((Vec (BitVec 8) 20) × (List (Vec (BitVec 64) 4))))) (A0 : Option Addr) (c0 : Nat) (A0_1 : Option Addr) (c0_2 : Nat) (r : List (Int)) (H : smithyref19_Cost a0 = some r) (w : World) (hs0 : SlW w U8 A0 a0.2.2.2.2.2.1) (hc0 : a0.2.2.2.2.2.1.length ≤ c0) (hs0_3 : SlRW w R87 A0_1 a0.2.2.2.2.2.2.2.2.2) (hc0_4 : a0.2.2.2.2.2.2.2.2.2.length ≤ c0_2)  :
    Calls Try.prog 15 #[.agg (cV U8 a0.1 ++ (cV U8 a0.2.1 ++ ([(.bool a0.2.2.1 : Value)] ++ ([(U64 a0.2.2.2.1 : Value)] ++ (cV U64 a0.2.2.2.2.1 ++ ([(.slice A0 a0.2.2.2.2.2.1.length c0 : Value)] ++ ([(U64 a0.2.2.2.2.2.2.1 : Value)] ++ (cV U64 a0.2.2.2.2.2.2.2.1 ++ (cV U64 a0.2.2.2.2.2.2.2.2.1 ++ ([(.slice A0_1 a0.2.2.2.2.2.2.2.2.2.length c0_2 : Value)])))))))))).toArray] w fun e w' => ∃ A c, e = .returned (.slice A r.length c) ∧ Below w.heap.size w w' ∧ OwnR w w' 3 (Value.int .i64) A c r := by
  unfold smithyref19_Cost at H
  replace hs0 := hs0.toH
  replace hs0_3 := hs0_3.toH
  have hM := Mm.start w (snap w) (snap_ok w)
  generalize snap w = h at *
  refine t_enter (vs := [.agg (cV U8 a0.1 ++ (cV U8 a0.2.1 ++ ([(.bool a0.2.2.1 : Value)] ++ ([(U64 a0.2.2.2.1 : Value)] ++ (cV U64 a0.2.2.2.2.1 ++ ([(.slice A0 a0.2.2.2.2.2.1.length c0 : Value)] ++ ([(U64 a0.2.2.2.2.2.2.1 : Value)] ++ (cV U64 a0.2.2.2.2.2.2.2.1 ++ (cV U64 a0.2.2.2.2.2.2.2.2.1 ++ ([(.slice A0_1 a0.2.2.2.2.2.2.2.2.2.length c0_2 : Value)])))))))))).toArray]) (n := 15) Try.func15 rfl rfl rfl hM ?_
  clear hM
  change T 15 _ _ _
  refine t_seq ?_
  refine t_region (fun ops hops => ?_)
  clear hops
  refine z_box (cs := cV U8 a0.1 ++ (cV U8 a0.2.1 ++ ([(.bool a0.2.2.1 : Value)] ++ ([(U64 a0.2.2.2.1 : Value)] ++ (cV U64 a0.2.2.2.2.1 ++ ([(.slice A0 a0.2.2.2.2.2.1.length c0 : Value)] ++ ([(U64 a0.2.2.2.2.2.2.1 : Value)] ++ (cV U64 a0.2.2.2.2.2.2.2.1 ++ (cV U64 a0.2.2.2.2.2.2.2.2.1 ++ ([(.slice A0_1 a0.2.2.2.2.2.2.2.2.2.length c0_2 : Value)])))))))))) (room := 57) rfl rfl rfl (by simp [cV_len]) rfl rfl rfl (fun _ _ _ _ => trivial) (fun g_5 => ?_)
  refine z_val (v := .slice none 0 0) (val_assign rfl rfl) rfl rfl rfl (fun _ _ _ => trivial) ?_
  refine z_nil ?_
  refine t_seq ?_
  refine t_plan (C := Mm w [] h [.blk g_5 33 (cV U8 a0.1 ++ (cV U8 a0.2.1 ++ ([(.bool a0.2.2.1 : Value)] ++ ([(U64 a0.2.2.2.1 : Value)] ++ (cV U64 a0.2.2.2.2.1 ++ ([(.slice A0 a0.2.2.2.2.2.1.length c0 : Value)] ++ ([(U64 a0.2.2.2.2.2.2.1 : Value)] ++ (cV U64 a0.2.2.2.2.2.2.2.1 ++ (cV U64 a0.2.2.2.2.2.2.2.2.1 ++ ([(.slice A0_1 a0.2.2.2.2.2.2.2.2.2.length c0_2 : Value)])))))))))) 57]) [] [(0, true), (1, true), (2, true), (4, true), (5, true), (8, true), (9, true), (3, false), (6, false), (7, false), (10, false), (11, false), (12, true)] (by kernel_rfl) (by kernel_rfl) (fun _ hw => hw.drew) (fun ops hops => ?_)
  clear hops
  refine z_still (v := .pointer (some ⟨g_5, 47, none⟩)) (val_fld0 (sz := 1) rfl rfl Try.underlying33 rfl rfl sz22 (by decide)) rfl rfl rfl (fun _ hw => hw) ?_
  refine z_still (v := U64 a0.2.2.2.2.2.2.1) (val_load1 rfl rfl Try.underlying22 rfl (fun _ hw => hw.cell (j := 0) (q := 47) rfl (cells_skip (n := 20) (k := 27) (cV_len _) (cells_skip (n := 20) (k := 7) (cV_len _) (cells_skip (n := 1) (k := 6) rfl (cells_skip (n := 1) (k := 5) rfl (cells_skip (n := 4) (k := 1) (cV_len _) (cells_skip (n := 1) (k := 0) rfl (cells_here (k := 0) rfl))))))))) rfl rfl rfl (fun _ hw => hw) ?_
  obtain ⟨x5, hx5, H⟩ := Let_elim H
  refine z_still (v := .agg (cV U64 x5).toArray) (by subst hx5; exact val_build (vs := [(0, U64 a0.2.2.2.2.2.2.1)]) rfl rfl (fun w => by kernel_rfl)) rfl rfl rfl (fun _ hw => hw) ?_
  clear hx5
  refine z_still (v := .pointer (some ⟨g_5, 48, none⟩)) (val_fld0 (sz := 4) rfl rfl Try.underlying33 rfl rfl sz24 (by decide)) rfl rfl rfl (fun _ hw => hw) ?_
  refine z_still (v := .agg (cV U64 a0.2.2.2.2.2.2.2.1).toArray) (val_loadR (off := 48) (cs := cV U64 a0.2.2.2.2.2.2.2.1) rfl rfl Try.underlying24 rfl (sz24.trans (congrArg some (cV_len _).symm)) (fun _ hw => hw.range (j := 0) rfl 48 _ (seg_skip (n := 20) (k := 28) (cV_len _) (seg_skip (n := 20) (k := 8) (cV_len _) (seg_skip (n := 1) (k := 7) rfl (seg_skip (n := 1) (k := 6) rfl (seg_skip (n := 4) (k := 2) (cV_len _) (seg_skip (n := 1) (k := 1) rfl (seg_skip (n := 1) (k := 0) rfl seg_here))))))))) rfl rfl rfl (fun _ hw => hw) ?_
  refine z_still (v := .pointer (some ⟨g_5, 42, none⟩)) (val_fld0 (sz := 4) rfl rfl Try.underlying33 rfl rfl sz24 (by decide)) rfl rfl rfl (fun _ hw => hw) ?_
  refine z_still (v := .agg (cV U64 a0.2.2.2.2.1).toArray) (val_loadR (off := 42) (cs := cV U64 a0.2.2.2.2.1) rfl rfl Try.underlying24 rfl (sz24.trans (congrArg some (cV_len _).symm)) (fun _ hw => hw.range (j := 0) rfl 42 _ (seg_skip (n := 20) (k := 22) (cV_len _) (seg_skip (n := 20) (k := 2) (cV_len _) (seg_skip (n := 1) (k := 1) rfl (seg_skip (n := 1) (k := 0) rfl seg_here)))))) rfl rfl rfl (fun _ hw => hw) ?_
  obtain ⟨x6, hx, H⟩ := Option.bind_eq_some_iff.1 H
  refine z_madeS (F := fun A_6 c_7 => .slice A_6 x6.length c_7) (xs := x6) rfl Try.func35 nm35 bs35 rfl (fun w hw => smithyref02_Of.calls x5 x6 hx w) rfl rfl rfl (fun _ _ _ _ hw => hw.sel [1] rfl rfl) (fun A_6 c_7 hs_8 => ?_)
  clear hx
  obtain ⟨x9, hx_10, H⟩ := Option.bind_eq_some_iff.1 H
  refine z_madeS (F := fun A_11 c_12 => .slice A_11 x9.length c_12) (xs := x9) rfl Try.func35 nm35 bs35 rfl (fun w hw => smithyref02_Of.calls a0.2.2.2.2.2.2.2.1 x9 hx_10 w) rfl rfl rfl (fun _ _ _ _ hw => hw.sel [2] rfl rfl) (fun A_11 c_12 hs_13 => ?_)
  clear hx_10
  obtain ⟨x10, hx_15, H⟩ := Option.bind_eq_some_iff.1 H
  refine z_madeS (F := fun A_16 c_17 => .slice A_16 x10.length c_17) (xs := x10) rfl Try.func34 nm34 bs34 rfl (fun w hw => smithyref02_Times.calls x6 x9 A_6 c_7 A_11 c_12 x10 hx_15 w (row_w hw (j := 1) rfl) hs_8.le (row_w hw (j := 0) rfl) hs_13.le) rfl rfl rfl (fun _ _ _ _ hw => hw.sel [3] rfl rfl) (fun A_16 c_17 hs_18 => ?_)
  clear hx_15
  obtain ⟨x13, hx_20, H⟩ := Option.bind_eq_some_iff.1 H
  refine z_madeS (F := fun A_21 c_22 => .slice A_21 x13.length c_22) (xs := x13) rfl Try.func35 nm35 bs35 rfl (fun w hw => smithyref02_Of.calls a0.2.2.2.2.1 x13 hx_20 w) rfl rfl rfl (fun _ _ _ _ hw => hw.sel [4] rfl rfl) (fun A_21 c_22 hs_23 => ?_)
  clear hx_20
  obtain ⟨x14, hx_25, H⟩ := Option.bind_eq_some_iff.1 H
  refine z_madeS (F := fun A_26 c_27 => .slice A_26 x14.length c_27) (xs := x14) rfl Try.func33 nm33 bs33 rfl (fun w hw => smithyref02_Plus.calls x10 x13 A_16 c_17 A_21 c_22 x14 hx_25 w (row_w hw (j := 1) rfl) hs_18.le (row_w hw (j := 0) rfl) hs_23.le) rfl rfl rfl (fun _ _ _ _ hw => hw.sel [5] rfl rfl) (fun A_26 c_27 hs_28 => ?_)
  clear hx_25
  refine z_still (v := .slice A_26 x14.length c_27) (val_assign rfl rfl) rfl rfl rfl (fun _ hw => hw.sel [5] rfl rfl) ?_
  refine z_nil ?_
  refine t_ret ?_
  obtain rfl := Option.some.inj H
  exact ret1 rfl (res_tmp rfl) (fun _ hw => ⟨A_26, c_27, rfl, hw.below, (row_out hw (j := 0) rfl hs_28)⟩)
def smithyref19_less (a0 : Vec (BitVec 64) 4) (a1 : Vec (BitVec 64) 4) : Option (Bool) :=
  (smithyref01_Of a0).bind fun x6 => (smithyref01_Of a1).bind fun x8 => (smithyref01_Compare x6 x8).bind fun x9 => Let (decide (x9 < 0)) fun x10 => some x10
set_option maxRecDepth 100000 in
theorem smithyref19_less.calls  (a0 : Vec (BitVec 64) 4) (a1 : Vec (BitVec 64) 4) (r : Bool) (H : smithyref19_less a0 a1 = some r) (w : World)   :
    Made Try.prog 49 #[.agg (cV U64 a0).toArray, .agg (cV U64 a1).toArray] w (.bool r) := by
  unfold smithyref19_less at H
  have hM := Mm.start w (snap w) (snap_ok w)
  generalize snap w = h at *
  refine t_enter (vs := [.agg (cV U64 a0).toArray, .agg (cV U64 a1).toArray]) (n := 11) Try.func49 rfl rfl rfl hM ?_
  clear hM
  change T 11 _ _ _
  refine t_seq ?_
  refine t_region (fun ops hops => ?_)
  clear hops
  refine z_box (cs := cV U64 a0) (room := 4) rfl rfl rfl (cV_len _) rfl rfl rfl (fun _ _ _ _ => trivial) (fun g_1 => ?_)
  refine z_box (cs := cV U64 a1) (room := 4) rfl rfl rfl (cV_len _) rfl rfl rfl (fun _ _ _ _ => trivial) (fun g_2 => ?_)
  refine z_val (v := .bool false) (val_assign rfl rfl) rfl rfl rfl (fun _ _ _ => trivial) ?_
  refine z_nil ?_
  refine t_seq ?_
  refine t_plan (C := Mm w [] h [.blk g_2 24 (cV U64 a1) 4, .blk g_1 24 (cV U64 a0) 4]) [] [(0, true), (2, true), (1, false), (3, false), (4, false), (5, true), (6, true)] (by kernel_rfl) (by kernel_rfl) (fun _ hw => hw.drew) (fun ops hops => ?_)
  clear hops
  refine z_still (v := .agg (cV U64 a0).toArray) (val_loadR (off := 0) (cs := cV U64 a0) rfl rfl Try.underlying24 rfl (sz24.trans (congrArg some (cV_len _).symm)) (fun _ hw => hw.whole (j := 1) rfl)) rfl rfl rfl (fun _ hw => hw) ?_
  refine z_still (v := .agg (cV U64 a1).toArray) (val_loadR (off := 0) (cs := cV U64 a1) rfl rfl Try.underlying24 rfl (sz24.trans (congrArg some (cV_len _).symm)) (fun _ hw => hw.whole (j := 0) rfl)) rfl rfl rfl (fun _ hw => hw) ?_
  obtain ⟨x6, hx, H⟩ := Option.bind_eq_some_iff.1 H
  refine z_made (v := .agg (cV (Value.int .i64) x6).toArray) rfl Try.func40 nm40 bs40 rfl (fun w hw => smithyref01_Of.calls a0 x6 hx w) rfl rfl rfl (fun _ _ hw => hw) ?_
  clear hx
  obtain ⟨x8, hx_3, H⟩ := Option.bind_eq_some_iff.1 H
  refine z_made (v := .agg (cV (Value.int .i64) x8).toArray) rfl Try.func40 nm40 bs40 rfl (fun w hw => smithyref01_Of.calls a1 x8 hx_3 w) rfl rfl rfl (fun _ _ hw => hw) ?_
  clear hx_3
  obtain ⟨x9, hx_4, H⟩ := Option.bind_eq_some_iff.1 H
  refine z_made (v := .int .i64 x9) rfl Try.func71 nm71 bs71 rfl (fun w hw => smithyref01_Compare.calls x6 x8 x9 hx_4 w) rfl rfl rfl (fun _ _ hw => hw) ?_
  clear hx_4
  obtain ⟨x10, hx10, H⟩ := Let_elim H
  refine z_still (v := .bool x10) (by subst hx10; exact val_bin rfl rfl rfl rfl (i64_lss _ _ _)) rfl rfl rfl (fun _ hw => hw) ?_
  clear hx10
  refine z_still (v := .bool x10) (val_assign rfl rfl) rfl rfl rfl (fun _ hw => hw) ?_
  refine z_nil ?_
  refine t_ret ?_
  obtain rfl := Option.some.inj H
  exact ret1 rfl (res_tmp rfl) (fun _ hw => ⟨rfl, hw.below⟩)
def smithyref19_Price (a0 : (Vec (BitVec 8) 20) × (Vec (BitVec 8) 20) × (Bool) × (BitVec 64) × (Vec (BitVec 64) 4) × (List (BitVec 8)) × (BitVec 64) × (Vec (BitVec 64) 4) × (Vec (BitVec 64) 4) × (List ((Vec (BitVec 8) 20) × (List (Vec (BitVec 64) 4))))) (a1 : Vec (BitVec 64) 4) : Option ((Vec (BitVec 64) 4) × (Bool)) :=
  (smithyref19_less a0.2.2.2.2.2.2.2.1 a1).bind fun x10 => (bif x10 then Let (Vec.rep 4 0#64) fun x11 => some (x11, false) else (smithyref02_Of a1).bind fun x13 => (smithyref02_Of a0.2.2.2.2.2.2.2.2.1).bind fun x16 => (smithyref02_Plus x13 x16).bind fun x17 => (smithyref02_Of a0.2.2.2.2.2.2.2.1).bind fun x21 => (smithyref02_Less x17 x21).bind fun x22 => (bif x22 then (smithyref02_N_Word x17).bind fun x24 => some (x24, true) else some (a0.2.2.2.2.2.2.2.1, true)))
set_option maxRecDepth 100000 in
theorem smithyref19_Price.calls  (a0 : (Vec (BitVec 8) 20) × (Vec (BitVec 8) 20) × (Bool) × (BitVec 64) × (Vec (BitVec 64) 4) × (List (BitVec 8)) × (BitVec 64) × (Vec (BitVec 64) 4) × (Vec (BitVec 64) 4) × (List ((Vec (BitVec 8) 20) × (List (Vec (BitVec 64) 4))))) (a1 : Vec (BitVec 64) 4) (A0 : Option Addr) (c0 : Nat) (A0_1 : Option Addr) (c0_2 : Nat) (r : (Vec (BitVec 64) 4) × (Bool)) (H : smithyref19_Price a0 a1 = some r) (w : World) (hs0 : SlW w U8 A0 a0.2.2.2.2.2.1) (hc0 : a0.2.2.2.2.2.1.length ≤ c0) (hs0_3 : SlRW w R87 A0_1 a0.2.2.2.2.2.2.2.2.2) (hc0_4 : a0.2.2.2.2.2.2.2.2.2.length ≤ c0_2)  :
    Made Try.prog 20 #[.agg (cV U8 a0.1 ++ (cV U8 a0.2.1 ++ ([(.bool a0.2.2.1 : Value)] ++ ([(U64 a0.2.2.2.1 : Value)] ++ (cV U64 a0.2.2.2.2.1 ++ ([(.slice A0 a0.2.2.2.2.2.1.length c0 : Value)] ++ ([(U64 a0.2.2.2.2.2.2.1 : Value)] ++ (cV U64 a0.2.2.2.2.2.2.2.1 ++ (cV U64 a0.2.2.2.2.2.2.2.2.1 ++ ([(.slice A0_1 a0.2.2.2.2.2.2.2.2.2.length c0_2 : Value)])))))))))).toArray, .agg (cV U64 a1).toArray] w (.tuple #[.agg (cV U64 r.1).toArray, .bool r.2]) := by
  unfold smithyref19_Price at H
  replace hs0 := hs0.toH
  replace hs0_3 := hs0_3.toH
  have hM := Mm.start w (snap w) (snap_ok w)
  generalize snap w = h at *
  refine t_enter (vs := [.agg (cV U8 a0.1 ++ (cV U8 a0.2.1 ++ ([(.bool a0.2.2.1 : Value)] ++ ([(U64 a0.2.2.2.1 : Value)] ++ (cV U64 a0.2.2.2.2.1 ++ ([(.slice A0 a0.2.2.2.2.2.1.length c0 : Value)] ++ ([(U64 a0.2.2.2.2.2.2.1 : Value)] ++ (cV U64 a0.2.2.2.2.2.2.2.1 ++ (cV U64 a0.2.2.2.2.2.2.2.2.1 ++ ([(.slice A0_1 a0.2.2.2.2.2.2.2.2.2.length c0_2 : Value)])))))))))).toArray, .agg (cV U64 a1).toArray]) (n := 27) Try.func20 rfl rfl rfl hM ?_
  clear hM
  change T 27 _ _ _
  refine t_seq ?_
  refine t_region (fun ops hops => ?_)
  clear hops
  refine z_box (cs := cV U8 a0.1 ++ (cV U8 a0.2.1 ++ ([(.bool a0.2.2.1 : Value)] ++ ([(U64 a0.2.2.2.1 : Value)] ++ (cV U64 a0.2.2.2.2.1 ++ ([(.slice A0 a0.2.2.2.2.2.1.length c0 : Value)] ++ ([(U64 a0.2.2.2.2.2.2.1 : Value)] ++ (cV U64 a0.2.2.2.2.2.2.2.1 ++ (cV U64 a0.2.2.2.2.2.2.2.2.1 ++ ([(.slice A0_1 a0.2.2.2.2.2.2.2.2.2.length c0_2 : Value)])))))))))) (room := 57) rfl rfl rfl (by simp [cV_len]) rfl rfl rfl (fun _ _ _ _ => trivial) (fun g_5 => ?_)
  refine z_box (cs := cV U64 a1) (room := 4) rfl rfl rfl (cV_len _) rfl rfl rfl (fun _ _ _ _ => trivial) (fun g_6 => ?_)
  refine z_alloc (cs := cV U64 (Vec.rep 4 0#64)) (room := 4) rfl ze24 rfl (cV_len _) rfl rfl rfl (fun _ _ _ _ => trivial) (fun g_7 => ?_)
  refine z_val (v := .bool false) (val_assign rfl rfl) rfl rfl rfl (fun _ _ _ => trivial) ?_
  refine z_nil ?_
  refine t_seq ?_
  refine t_seq ?_
  refine t_region (fun ops hops => ?_)
  clear hops
  refine z_val (v := .pointer (some ⟨g_5, 48, none⟩)) (val_fld0 (sz := 4) rfl rfl Try.underlying33 rfl rfl sz24 (by decide)) rfl rfl rfl (fun _ _ _ => trivial) ?_
  refine z_val (v := .agg (cV U64 a0.2.2.2.2.2.2.2.1).toArray) (val_loadR (off := 48) (cs := cV U64 a0.2.2.2.2.2.2.2.1) rfl rfl Try.underlying24 rfl (sz24.trans (congrArg some (cV_len _).symm)) (fun _ hw => hw.range (j := 2) rfl 48 _ (seg_skip (n := 20) (k := 28) (cV_len _) (seg_skip (n := 20) (k := 8) (cV_len _) (seg_skip (n := 1) (k := 7) rfl (seg_skip (n := 1) (k := 6) rfl (seg_skip (n := 4) (k := 2) (cV_len _) (seg_skip (n := 1) (k := 1) rfl (seg_skip (n := 1) (k := 0) rfl seg_here))))))))) rfl rfl rfl (fun _ _ _ => trivial) ?_
  refine z_val (v := .agg (cV U64 a1).toArray) (val_loadR (off := 0) (cs := cV U64 a1) rfl rfl Try.underlying24 rfl (sz24.trans (congrArg some (cV_len _).symm)) (fun _ hw => hw.whole (j := 1) rfl)) rfl rfl rfl (fun _ _ _ => trivial) ?_
  obtain ⟨x10, hx, H⟩ := Option.bind_eq_some_iff.1 H
  refine z_made (v := .bool x10) rfl Try.func49 nm49 bs49 rfl (fun w hw => smithyref19_less.calls a0.2.2.2.2.2.2.2.1 a1 x10 hx w) rfl rfl rfl (fun _ _ _ => trivial) ?_
  clear hx
  refine z_nil ?_
  cases x10
  ·
    replace H := cond_f H
    refine t_cond_false rfl ?_
    refine t_skip ?_
    refine t_seq ?_
    refine t_plan (C := Mm w [] h [.blk g_7 24 (cV U64 (Vec.rep 4 0#64)) 4, .blk g_6 24 (cV U64 a1) 4, .blk g_5 33 (cV U8 a0.1 ++ (cV U8 a0.2.1 ++ ([(.bool a0.2.2.1 : Value)] ++ ([(U64 a0.2.2.2.1 : Value)] ++ (cV U64 a0.2.2.2.2.1 ++ ([(.slice A0 a0.2.2.2.2.2.1.length c0 : Value)] ++ ([(U64 a0.2.2.2.2.2.2.1 : Value)] ++ (cV U64 a0.2.2.2.2.2.2.2.1 ++ (cV U64 a0.2.2.2.2.2.2.2.2.1 ++ ([(.slice A0_1 a0.2.2.2.2.2.2.2.2.2.length c0_2 : Value)])))))))))) 57]) [] [(0, true), (2, true), (3, true), (1, false), (4, false), (5, false), (6, true)] (by kernel_rfl) (by kernel_rfl) (fun _ hw => hw.drew) (fun ops hops => ?_)
    clear hops
    refine z_still (v := .agg (cV U64 a1).toArray) (val_loadR (off := 0) (cs := cV U64 a1) rfl rfl Try.underlying24 rfl (sz24.trans (congrArg some (cV_len _).symm)) (fun _ hw => hw.whole (j := 1) rfl)) rfl rfl rfl (fun _ hw => hw) ?_
    refine z_still (v := .pointer (some ⟨g_5, 52, none⟩)) (val_fld0 (sz := 4) rfl rfl Try.underlying33 rfl rfl sz24 (by decide)) rfl rfl rfl (fun _ hw => hw) ?_
    refine z_still (v := .agg (cV U64 a0.2.2.2.2.2.2.2.2.1).toArray) (val_loadR (off := 52) (cs := cV U64 a0.2.2.2.2.2.2.2.2.1) rfl rfl Try.underlying24 rfl (sz24.trans (congrArg some (cV_len _).symm)) (fun _ hw => hw.range (j := 2) rfl 52 _ (seg_skip (n := 20) (k := 32) (cV_len _) (seg_skip (n := 20) (k := 12) (cV_len _) (seg_skip (n := 1) (k := 11) rfl (seg_skip (n := 1) (k := 10) rfl (seg_skip (n := 4) (k := 6) (cV_len _) (seg_skip (n := 1) (k := 5) rfl (seg_skip (n := 1) (k := 4) rfl (seg_skip (n := 4) (k := 0) (cV_len _) seg_here)))))))))) rfl rfl rfl (fun _ hw => hw) ?_
    obtain ⟨x13, hx_8, H⟩ := Option.bind_eq_some_iff.1 H
    refine z_madeS (F := fun A_9 c_10 => .slice A_9 x13.length c_10) (xs := x13) rfl Try.func35 nm35 bs35 rfl (fun w hw => smithyref02_Of.calls a1 x13 hx_8 w) rfl rfl rfl (fun _ _ _ _ hw => hw.sel [1, 2, 3] rfl rfl) (fun A_9 c_10 hs_11 => ?_)
    clear hx_8
    obtain ⟨x16, hx_13, H⟩ := Option.bind_eq_some_iff.1 H
    refine z_madeS (F := fun A_14 c_15 => .slice A_14 x16.length c_15) (xs := x16) rfl Try.func35 nm35 bs35 rfl (fun w hw => smithyref02_Of.calls a0.2.2.2.2.2.2.2.2.1 x16 hx_13 w) rfl rfl rfl (fun _ _ _ _ hw => hw.sel [2, 3, 4] rfl rfl) (fun A_14 c_15 hs_16 => ?_)
    clear hx_13
    obtain ⟨x17, hx_18, H⟩ := Option.bind_eq_some_iff.1 H
    refine z_madeS (F := fun A_19 c_20 => .slice A_19 x17.length c_20) (xs := x17) rfl Try.func33 nm33 bs33 rfl (fun w hw => smithyref02_Plus.calls x13 x16 A_9 c_10 A_14 c_15 x17 hx_18 w (row_w hw (j := 1) rfl) hs_11.le (row_w hw (j := 0) rfl) hs_16.le) rfl rfl rfl (fun _ _ _ _ hw => hw.sel [3, 4, 5] rfl rfl) (fun A_19 c_20 hs_21 => ?_)
    clear hx_18
    refine z_still (v := .slice A_19 x17.length c_20) (val_assign rfl rfl) rfl rfl rfl (fun _ hw => hw.sel [3, 4, 5] rfl rfl) ?_
    refine z_nil ?_
    refine t_seq ?_
    refine t_seq ?_
    refine t_region (fun ops hops => ?_)
    clear hops
    refine z_val (v := .slice A_19 x17.length c_20) (val_move rfl rfl) rfl rfl rfl (fun _ _ _ => trivial) ?_
    refine z_val (v := .pointer (some ⟨g_5, 48, none⟩)) (val_fld0 (sz := 4) rfl rfl Try.underlying33 rfl rfl sz24 (by decide)) rfl rfl rfl (fun _ _ _ => trivial) ?_
    refine z_val (v := .agg (cV U64 a0.2.2.2.2.2.2.2.1).toArray) (val_loadR (off := 48) (cs := cV U64 a0.2.2.2.2.2.2.2.1) rfl rfl Try.underlying24 rfl (sz24.trans (congrArg some (cV_len _).symm)) (fun _ hw => hw.range (j := 5) rfl 48 _ (seg_skip (n := 20) (k := 28) (cV_len _) (seg_skip (n := 20) (k := 8) (cV_len _) (seg_skip (n := 1) (k := 7) rfl (seg_skip (n := 1) (k := 6) rfl (seg_skip (n := 4) (k := 2) (cV_len _) (seg_skip (n := 1) (k := 1) rfl (seg_skip (n := 1) (k := 0) rfl seg_here))))))))) rfl rfl rfl (fun _ _ _ => trivial) ?_
    obtain ⟨x21, hx_23, H⟩ := Option.bind_eq_some_iff.1 H
    refine z_madeS (F := fun A_24 c_25 => .slice A_24 x21.length c_25) (xs := x21) rfl Try.func35 nm35 bs35 rfl (fun w hw => smithyref02_Of.calls a0.2.2.2.2.2.2.2.1 x21 hx_23 w) rfl rfl rfl (fun _ _ _ _ _ => trivial) (fun A_24 c_25 hs_26 => ?_)
    clear hx_23
    obtain ⟨x22, hx_28, H⟩ := Option.bind_eq_some_iff.1 H
    refine z_made (v := .bool x22) rfl Try.func36 nm36 bs36 rfl (fun w hw => smithyref02_Less.calls x17 x21 A_19 c_20 A_24 c_25 x22 hx_28 w (row_w hw (j := 1) rfl) hs_21.le (row_w hw (j := 0) rfl) hs_26.le) rfl rfl rfl (fun _ _ _ => trivial) ?_
    clear hx_28
    refine z_nil ?_
    cases x22
    ·
      replace H := cond_f H
      refine t_cond_false rfl ?_
      refine t_skip ?_
      refine t_seq ?_
      refine t_region (fun ops hops => ?_)
      clear hops
      refine z_val (v := .pointer (some ⟨g_5, 48, none⟩)) (val_fld0 (sz := 4) rfl rfl Try.underlying33 rfl rfl sz24 (by decide)) rfl rfl rfl (fun _ _ _ => trivial) ?_
      refine z_val (v := .agg (cV U64 a0.2.2.2.2.2.2.2.1).toArray) (val_loadR (off := 48) (cs := cV U64 a0.2.2.2.2.2.2.2.1) rfl rfl Try.underlying24 rfl (sz24.trans (congrArg some (cV_len _).symm)) (fun _ hw => hw.range (j := 6) rfl 48 _ (seg_skip (n := 20) (k := 28) (cV_len _) (seg_skip (n := 20) (k := 8) (cV_len _) (seg_skip (n := 1) (k := 7) rfl (seg_skip (n := 1) (k := 6) rfl (seg_skip (n := 4) (k := 2) (cV_len _) (seg_skip (n := 1) (k := 1) rfl (seg_skip (n := 1) (k := 0) rfl seg_here))))))))) rfl rfl rfl (fun _ _ _ => trivial) ?_
      refine z_storeA (j := 4) (cs' := cV U64 a0.2.2.2.2.2.2.2.1) (L' := [.row (.slice A_24 x21.length c_25) 3 1 (x21.map (Value.int .i64)), .row (.slice A_19 x17.length c_20) 3 1 (x17.map (Value.int .i64)), .row (.slice A_14 x16.length c_15) 3 1 (x16.map (Value.int .i64)), .row (.slice A_9 x13.length c_10) 3 1 (x13.map (Value.int .i64)), .blk g_7 24 (cV U64 a0.2.2.2.2.2.2.2.1) 4, .blk g_6 24 (cV U64 a1) 4, .blk g_5 33 (cV U8 a0.1 ++ (cV U8 a0.2.1 ++ ([(.bool a0.2.2.1 : Value)] ++ ([(U64 a0.2.2.2.1 : Value)] ++ (cV U64 a0.2.2.2.2.1 ++ ([(.slice A0 a0.2.2.2.2.2.1.length c0 : Value)] ++ ([(U64 a0.2.2.2.2.2.2.1 : Value)] ++ (cV U64 a0.2.2.2.2.2.2.2.1 ++ (cV U64 a0.2.2.2.2.2.2.2.2.1 ++ ([(.slice A0_1 a0.2.2.2.2.2.2.2.2.2.length c0_2 : Value)])))))))))) 57]) rfl rfl rfl (cV_one (fun _ => rfl) _) sz24 rfl (cV_len _) rfl rfl rfl (fun _ _ _ => trivial) ?_
      refine z_val (v := .bool true) (val_assign rfl rfl) rfl rfl rfl (fun _ _ _ => trivial) ?_
      refine z_nil ?_
      refine t_ret ?_
      obtain rfl := Option.some.inj H
      exact ret2 rfl (res_row (j := 4) rfl Try.underlying24 rfl sz24 rfl (cV_len _)) (res_tmp rfl) (fun _ hw => ⟨rfl, hw.below⟩)
    ·
      replace H := cond_t H
      refine t_cond_true rfl ?_
      refine t_seq ?_
      refine t_region (fun ops hops => ?_)
      clear hops
      refine z_val (v := .slice A_19 x17.length c_20) (val_move rfl rfl) rfl rfl rfl (fun _ _ _ => trivial) ?_
      obtain ⟨x24, hx_29, H⟩ := Option.bind_eq_some_iff.1 H
      refine z_made (v := .agg (cV U64 x24).toArray) rfl Try.func18 nm18 bs18 rfl (fun w hw => smithyref02_N_Word.calls x17 A_19 c_20 x24 hx_29 w (row_w hw (j := 1) rfl) hs_21.le) rfl rfl rfl (fun _ _ _ => trivial) ?_
      clear hx_29
      refine z_storeA (j := 4) (cs' := cV U64 x24) (L' := [.row (.slice A_24 x21.length c_25) 3 1 (x21.map (Value.int .i64)), .row (.slice A_19 x17.length c_20) 3 1 (x17.map (Value.int .i64)), .row (.slice A_14 x16.length c_15) 3 1 (x16.map (Value.int .i64)), .row (.slice A_9 x13.length c_10) 3 1 (x13.map (Value.int .i64)), .blk g_7 24 (cV U64 x24) 4, .blk g_6 24 (cV U64 a1) 4, .blk g_5 33 (cV U8 a0.1 ++ (cV U8 a0.2.1 ++ ([(.bool a0.2.2.1 : Value)] ++ ([(U64 a0.2.2.2.1 : Value)] ++ (cV U64 a0.2.2.2.2.1 ++ ([(.slice A0 a0.2.2.2.2.2.1.length c0 : Value)] ++ ([(U64 a0.2.2.2.2.2.2.1 : Value)] ++ (cV U64 a0.2.2.2.2.2.2.2.1 ++ (cV U64 a0.2.2.2.2.2.2.2.2.1 ++ ([(.slice A0_1 a0.2.2.2.2.2.2.2.2.2.length c0_2 : Value)])))))))))) 57]) rfl rfl rfl (cV_one (fun _ => rfl) _) sz24 rfl (cV_len _) rfl rfl rfl (fun _ _ _ => trivial) ?_
      refine z_val (v := .bool true) (val_assign rfl rfl) rfl rfl rfl (fun _ _ _ => trivial) ?_
      refine z_nil ?_
      refine t_ret ?_
      obtain rfl := Option.some.inj H
      exact ret2 rfl (res_row (j := 4) rfl Try.underlying24 rfl sz24 rfl (cV_len _)) (res_tmp rfl) (fun _ hw => ⟨rfl, hw.below⟩)
  ·
    replace H := cond_t H
    refine t_cond_true rfl ?_
    refine t_seq ?_
    refine t_region (fun ops hops => ?_)
    clear hops
    obtain ⟨x11, hx11, H⟩ := Let_elim H
    refine z_val (v := .agg (cV U64 x11).toArray) (by subst hx11; exact val_build (vs := []) rfl rfl (fun w => by kernel_rfl)) rfl rfl rfl (fun _ _ _ => trivial) ?_
    clear hx11
    refine z_storeA (j := 0) (cs' := cV U64 x11) (L' := [.blk g_7 24 (cV U64 x11) 4, .blk g_6 24 (cV U64 a1) 4, .blk g_5 33 (cV U8 a0.1 ++ (cV U8 a0.2.1 ++ ([(.bool a0.2.2.1 : Value)] ++ ([(U64 a0.2.2.2.1 : Value)] ++ (cV U64 a0.2.2.2.2.1 ++ ([(.slice A0 a0.2.2.2.2.2.1.length c0 : Value)] ++ ([(U64 a0.2.2.2.2.2.2.1 : Value)] ++ (cV U64 a0.2.2.2.2.2.2.2.1 ++ (cV U64 a0.2.2.2.2.2.2.2.2.1 ++ ([(.slice A0_1 a0.2.2.2.2.2.2.2.2.2.length c0_2 : Value)])))))))))) 57]) rfl rfl rfl (cV_one (fun _ => rfl) _) sz24 rfl (cV_len _) rfl rfl rfl (fun _ _ _ => trivial) ?_
    refine z_val (v := .bool false) (val_assign rfl rfl) rfl rfl rfl (fun _ _ _ => trivial) ?_
    refine z_nil ?_
    refine t_ret ?_
    obtain rfl := Option.some.inj H
    exact ret2 rfl (res_row (j := 0) rfl Try.underlying24 rfl sz24 rfl (cV_len _)) (res_tmp rfl) (fun _ hw => ⟨rfl, hw.below⟩)
end Go.Proofs.Ytapfkdcilfpbhaa
