/- Functions of the program as plain functions, and their walks, printed by walk.py. -/
import Derived.Test.YtapfkdcilfpbhaaWsF
namespace Go.Proofs.Ytapfkdcilfpbhaa
open Go.RowKit
set_option linter.unusedVariables false
set_option linter.unusedSimpArgs false
def word_Of (a0 : BitVec 64) : Option (Vec (BitVec 64) 4) :=
  Let ((Vec.rep 4 0#64).set 0 a0) fun x4 => some x4
set_option maxRecDepth 100000 in
theorem word_Of.calls  (a0 : BitVec 64) (r : Vec (BitVec 64) 4) (H : word_Of a0 = some r) (w : World)   :
    Made Try.prog 43 #[U64 a0] w (.agg (cV U64 r).toArray) := by
  unfold word_Of at H
  have hM := Mm.start w (snap w) (snap_ok w)
  generalize snap w = h at *
  refine t_enter (vs := [U64 a0]) (n := 5) Try.func43 rfl rfl rfl hM ?_
  clear hM
  change T 5 _ _ _
  refine t_seq ?_
  refine t_region (fun ops hops => ?_)
  clear hops
  refine z_alloc (cs := cV U64 (Vec.rep 4 0#64)) (room := 4) rfl ze24 rfl (cV_len _) rfl rfl rfl (fun _ _ _ _ => trivial) (fun g_1 => ?_)
  refine z_nil ?_
  refine t_seq ?_
  refine t_region (fun ops hops => ?_)
  clear hops
  refine z_val (v := U64 a0) (val_move rfl rfl) rfl rfl rfl (fun _ _ _ => trivial) ?_
  obtain ⟨x4, hx4, H⟩ := Let_elim H
  refine z_val (v := .agg (cV U64 x4).toArray) (by subst hx4; exact val_build (vs := [(0, U64 a0)]) rfl rfl (fun w => by kernel_rfl)) rfl rfl rfl (fun _ _ _ => trivial) ?_
  clear hx4
  refine z_storeA (j := 0) (cs' := cV U64 x4) (L' := [.blk g_1 24 (cV U64 x4) 4]) rfl rfl rfl (cV_one (fun _ => rfl) _) sz24 rfl (cV_len _) rfl rfl rfl (fun _ _ _ => trivial) ?_
  refine z_nil ?_
  refine t_ret ?_
  obtain rfl := Option.some.inj H
  exact ret1 rfl (res_row (j := 0) rfl Try.underlying24 rfl sz24 rfl (cV_len _)) (fun _ hw => ⟨rfl, hw.below⟩)
def word_Compare.b1 (a0 : Vec (BitVec 64) 4) (a1 : Vec (BitVec 64) 4) (x5 : Int) : Option (Ctl ((Int)) (Int)) :=
  Chk (0 ≤ x5 ∧ x5 < ((4 : Nat) : Int)) <| Let (a0.get x5.toNat) fun x11 => Chk (0 ≤ x5 ∧ x5 < ((4 : Nat) : Int)) <| Let (a1.get x5.toNat) fun x14 => Let (x11 == x14) fun x15 => (bif x15 then Let (wi (x5 - 1)) fun x17 => some (.next x17) else some (.brk x5))
def word_Compare (a0 : Vec (BitVec 64) 4) (a1 : Vec (BitVec 64) 4) : Option (Int) :=
  Let (a0.l == a1.l) fun x8 => (bif x8 then some 0 else (wlx (σ := (Int)) (fun s => word_Compare.b1 a0 a1 s) 3).bind (Sum.elim (fun x5 => Chk (0 ≤ x5 ∧ x5 < ((4 : Nat) : Int)) <| Let (a0.get x5.toNat) fun x20 => Chk (0 ≤ x5 ∧ x5 < ((4 : Nat) : Int)) <| Let (a1.get x5.toNat) fun x23 => Let (decide (x20.toNat < x23.toNat)) fun x24 => (bif x24 then some (-1) else some 1)) (fun r => some r)))
set_option maxRecDepth 100000 in
theorem word_Compare.calls  (a0 : Vec (BitVec 64) 4) (a1 : Vec (BitVec 64) 4) (r : Int) (H : word_Compare a0 a1 = some r) (w : World)   :
    Made Try.prog 45 #[.agg (cV U64 a0).toArray, .agg (cV U64 a1).toArray] w (.int .i64 r) := by
  unfold word_Compare at H
  have hM := Mm.start w (snap w) (snap_ok w)
  generalize snap w = h at *
  refine t_enter (vs := [.agg (cV U64 a0).toArray, .agg (cV U64 a1).toArray]) (n := 25) Try.func45 rfl rfl rfl hM ?_
  clear hM
  change T 25 _ _ _
  refine t_seq ?_
  refine t_region (fun ops hops => ?_)
  clear hops
  refine z_box (cs := cV U64 a0) (room := 4) rfl rfl rfl (cV_len _) rfl rfl rfl (fun _ _ _ _ => trivial) (fun g_1 => ?_)
  refine z_box (cs := cV U64 a1) (room := 4) rfl rfl rfl (cV_len _) rfl rfl rfl (fun _ _ _ _ => trivial) (fun g_2 => ?_)
  refine z_val (v := .int .i64 0) (val_assign rfl rfl) rfl rfl rfl (fun _ _ _ => trivial) ?_
  refine z_nil ?_
  refine t_seq ?_
  refine t_seq ?_
  refine t_region (fun ops hops => ?_)
  clear hops
  refine z_val (v := .agg (cV U64 a0).toArray) (val_loadR (off := 0) (cs := cV U64 a0) rfl rfl Try.underlying24 rfl (sz24.trans (congrArg some (cV_len _).symm)) (fun _ hw => hw.whole (j := 1) rfl)) rfl rfl rfl (fun _ _ _ => trivial) ?_
  refine z_val (v := .agg (cV U64 a1).toArray) (val_loadR (off := 0) (cs := cV U64 a1) rfl rfl Try.underlying24 rfl (sz24.trans (congrArg some (cV_len _).symm)) (fun _ hw => hw.whole (j := 0) rfl)) rfl rfl rfl (fun _ _ _ => trivial) ?_
  obtain ⟨x8, hx8, H⟩ := Let_elim H
  refine z_val (v := .bool x8) (by subst hx8; exact val_bina rfl rfl rfl eg24 (fun w => vec_eql U64_inj (P := Try.prog) Try.underlying24 pk22 Try.underlying22 ce22 w _ _)) rfl rfl rfl (fun _ _ _ => trivial) ?_
  clear hx8
  refine z_nil ?_
  cases x8
  ·
    replace H := cond_f H
    refine t_cond_false rfl ?_
    refine t_skip ?_
    refine t_seq ?_
    refine t_region (fun ops hops => ?_)
    clear hops
    refine z_val (v := .int .i64 3) (val_assign rfl rfl) rfl rfl rfl (fun _ _ _ => trivial) ?_
    refine z_nil ?_
    refine t_seq ?_
    refine t_block ?_
    obtain ⟨z1, hz1, HK1⟩ := Option.bind_eq_some_iff.1 H
    clear H
    refine t_while hz1 (fun (s : (Int)) (g : Unit) => [(2, .pointer (some ⟨g_1, 0, none⟩)), (3, .pointer (some ⟨g_2, 0, none⟩)), (5, .int .i64 s)]) (fun (s : (Int)) (g : Unit) => [(2, .pointer (some ⟨g_1, 0, none⟩)), (3, .pointer (some ⟨g_2, 0, none⟩)), (5, .int .i64 s)]) (fun (s : (Int)) (g : Unit) => Mm w [] h [.blk g_2 24 (cV U64 a1) 4, .blk g_1 24 (cV U64 a0) 4]) (fun (s : (Int)) (g : Unit) => Mm w [] h [.blk g_2 24 (cV U64 a1) 4, .blk g_1 24 (cV U64 a0) 4]) (fun (s : (Int)) (g : Unit) => True) (fun (s : (Int)) (g : Unit) => True) () trivial (fun a w ha hw => ⟨ha.cons rfl (ha.cons rfl (ha.cons rfl (ha.nil))), hw⟩) (fun Gn Gb s g e hφ H hn1 hb1 hr1 => ?_) (fun s g hzz hφ => ?_)
    ·
      obtain ⟨x5, rfl⟩ : ∃ x, x = s := ⟨_, rfl⟩
      change word_Compare.b1 a0 a1 x5 = some e at H
      unfold word_Compare.b1 at H
      clear hz1
      change T 25 _ _ _
      refine t_seq ?_
      refine t_seq ?_
      refine t_plan (C := Mm w [] h [.blk g_2 24 (cV U64 a1) 4, .blk g_1 24 (cV U64 a0) 4]) [] [(0, true), (1, true), (2, true), (3, true), (4, true), (5, true), (6, true)] (by kernel_rfl) (by kernel_rfl) (fun _ hw => hw.drew) (fun ops hops => ?_)
      clear hops
      refine z_still (v := .int .i64 x5) (val_move rfl rfl) rfl rfl rfl (fun _ hw => hw) ?_
      obtain ⟨hq_3, H⟩ := Chk_elim H
      refine z_still (v := .pointer (some ⟨g_1, x5.toNat, none⟩)) (val_idx0 rfl rfl rfl Try.underlying24 sz22 hq_3 rfl) rfl rfl rfl (fun _ hw => hw) ?_
      obtain ⟨x11, hx11, H⟩ := Let_elim H
      refine z_still (v := U64 x11) (by subst hx11; exact val_load1 rfl rfl Try.underlying22 rfl (fun _ hw => hw.cell (j := 1) rfl (cV_at _ (idx_lt hq_3)))) rfl rfl rfl (fun _ hw => hw) ?_
      clear hx11
      refine z_still (v := .int .i64 x5) (val_move rfl rfl) rfl rfl rfl (fun _ hw => hw) ?_
      obtain ⟨hq_4, H⟩ := Chk_elim H
      refine z_still (v := .pointer (some ⟨g_2, x5.toNat, none⟩)) (val_idx0 rfl rfl rfl Try.underlying24 sz22 hq_4 rfl) rfl rfl rfl (fun _ hw => hw) ?_
      obtain ⟨x14, hx14, H⟩ := Let_elim H
      refine z_still (v := U64 x14) (by subst hx14; exact val_load1 rfl rfl Try.underlying22 rfl (fun _ hw => hw.cell (j := 0) rfl (cV_at _ (idx_lt hq_4)))) rfl rfl rfl (fun _ hw => hw) ?_
      clear hx14
      obtain ⟨x15, hx15, H⟩ := Let_elim H
      refine z_still (v := .bool x15) (by subst hx15; exact val_bin rfl rfl rfl rfl (u64_eql _ _ _)) rfl rfl rfl (fun _ hw => hw) ?_
      clear hx15
      refine z_nil ?_
      cases x15
      ·
        replace H := cond_f H
        refine t_cond_false rfl ?_
        refine t_exit rfl ?_
        obtain rfl := Option.some.inj H
        exact t_reach ((hb1 _ () rfl trivial).weak (fun a ha => ha.cons rfl (ha.cons rfl (ha.cons rfl (ha.nil)))) (fun w hw => hw))
      ·
        replace H := cond_t H
        refine t_cond_true rfl ?_
        refine t_skip ?_
        refine t_block ?_
        refine t_region (fun ops hops => ?_)
        clear hops
        refine z_val (v := .int .i64 x5) (val_move rfl rfl) rfl rfl rfl (fun _ _ _ => trivial) ?_
        obtain ⟨x17, hx17, H⟩ := Let_elim H
        refine z_val (v := .int .i64 x17) (by subst hx17; exact val_bin rfl rfl rfl rfl (i64_sub _ _ _)) rfl rfl rfl (fun _ _ _ => trivial) ?_
        clear hx17
        refine z_val (v := .int .i64 x17) (val_assign rfl rfl) rfl rfl rfl (fun _ _ _ => trivial) ?_
        refine z_nil ?_
        refine t_fin ?_
        obtain rfl := Option.some.inj H
        exact t_reach ((hn1 _ () rfl trivial).weak (fun a ha => ha.cons rfl (ha.cons rfl (ha.cons rfl (ha.nil)))) (fun w hw => hw))
    ·
      obtain ⟨x5, rfl⟩ : ∃ x, x = s := ⟨_, rfl⟩
      subst hzz
      have H := HK1
      clear HK1 hz1
      replace H := sum_l H
      try dsimp only at H
      change T 25 _ _ _
      refine t_seq ?_
      refine t_seq ?_
      refine t_plan (C := Mm w [] h [.blk g_2 24 (cV U64 a1) 4, .blk g_1 24 (cV U64 a0) 4]) [] [(0, true), (1, true), (2, true), (3, true), (4, true), (5, true), (6, true)] (by kernel_rfl) (by kernel_rfl) (fun _ hw => hw.drew) (fun ops hops => ?_)
      clear hops
      refine z_still (v := .int .i64 x5) (val_move rfl rfl) rfl rfl rfl (fun _ hw => hw) ?_
      obtain ⟨hq_5, H⟩ := Chk_elim H
      refine z_still (v := .pointer (some ⟨g_1, x5.toNat, none⟩)) (val_idx0 rfl rfl rfl Try.underlying24 sz22 hq_5 rfl) rfl rfl rfl (fun _ hw => hw) ?_
      obtain ⟨x20, hx20, H⟩ := Let_elim H
      refine z_still (v := U64 x20) (by subst hx20; exact val_load1 rfl rfl Try.underlying22 rfl (fun _ hw => hw.cell (j := 1) rfl (cV_at _ (idx_lt hq_5)))) rfl rfl rfl (fun _ hw => hw) ?_
      clear hx20
      refine z_still (v := .int .i64 x5) (val_move rfl rfl) rfl rfl rfl (fun _ hw => hw) ?_
      obtain ⟨hq_6, H⟩ := Chk_elim H
      refine z_still (v := .pointer (some ⟨g_2, x5.toNat, none⟩)) (val_idx0 rfl rfl rfl Try.underlying24 sz22 hq_6 rfl) rfl rfl rfl (fun _ hw => hw) ?_
      obtain ⟨x23, hx23, H⟩ := Let_elim H
      refine z_still (v := U64 x23) (by subst hx23; exact val_load1 rfl rfl Try.underlying22 rfl (fun _ hw => hw.cell (j := 0) rfl (cV_at _ (idx_lt hq_6)))) rfl rfl rfl (fun _ hw => hw) ?_
      clear hx23
      obtain ⟨x24, hx24, H⟩ := Let_elim H
      refine z_still (v := .bool x24) (by subst hx24; exact val_bin rfl rfl rfl rfl (u64_lss _ _ _)) rfl rfl rfl (fun _ hw => hw) ?_
      clear hx24
      refine z_nil ?_
      cases x24
      ·
        replace H := cond_f H
        refine t_cond_false rfl ?_
        refine t_skip ?_
        refine t_seq ?_
        refine t_region (fun ops hops => ?_)
        clear hops
        refine z_val (v := .int .i64 1) (val_assign rfl rfl) rfl rfl rfl (fun _ _ _ => trivial) ?_
        refine z_nil ?_
        refine t_ret ?_
        obtain rfl := Option.some.inj H
        exact ret1 rfl (res_tmp rfl) (fun _ hw => ⟨rfl, hw.below⟩)
      ·
        replace H := cond_t H
        refine t_cond_true rfl ?_
        refine t_seq ?_
        refine t_region (fun ops hops => ?_)
        clear hops
        refine z_val (v := .int .i64 (-1)) (val_assign rfl rfl) rfl rfl rfl (fun _ _ _ => trivial) ?_
        refine z_nil ?_
        refine t_ret ?_
        obtain rfl := Option.some.inj H
        exact ret1 rfl (res_tmp rfl) (fun _ hw => ⟨rfl, hw.below⟩)
  ·
    replace H := cond_t H
    refine t_cond_true rfl ?_
    refine t_seq ?_
    refine t_region (fun ops hops => ?_)
    clear hops
    refine z_val (v := .int .i64 0) (val_assign rfl rfl) rfl rfl rfl (fun _ _ _ => trivial) ?_
    refine z_nil ?_
    refine t_ret ?_
    obtain rfl := Option.some.inj H
    exact ret1 rfl (res_tmp rfl) (fun _ hw => ⟨rfl, hw.below⟩)
def word_Add.b1 (a0 : Vec (BitVec 64) 4) (a1 : Vec (BitVec 64) 4) (y_4 : Vec (BitVec 64) 4) (x6 : BitVec 64) (x10 : Int) : Option (Ctl ((Vec (BitVec 64) 4) × (BitVec 64) × (Int)) (Vec (BitVec 64) 4)) :=
  Let (decide (x10 < 4)) fun x11 => (bif x11 then Chk (0 ≤ x10 ∧ x10 < ((4 : Nat) : Int)) <| Let (a0.get x10.toNat) fun x16 => Chk (0 ≤ x10 ∧ x10 < ((4 : Nat) : Int)) <| Let (a1.get x10.toNat) fun x19 => Chk (x6.toNat ≤ 1) <| Let (add64 x16 x19 x6) fun x21 => Chk (0 ≤ x10 ∧ x10 < ((4 : Nat) : Int)) <| Let (y_4.set x10.toNat x21.1) fun y_4_9 => Let (wi (x10 + 1)) fun x28 => some (.next (y_4_9, x21.2, x28)) else some (.brk (y_4, x6, x10)))
def word_Add (a0 : Vec (BitVec 64) 4) (a1 : Vec (BitVec 64) 4) : Option (Vec (BitVec 64) 4) :=
  (wlx (σ := (Vec (BitVec 64) 4) × (BitVec 64) × (Int)) (fun s => word_Add.b1 a0 a1 s.1 s.2.1 s.2.2) ((Vec.rep 4 0#64), 0#64, 0)).bind (Sum.elim (fun s => (fun y_4 x6 x10 => some y_4) s.1 s.2.1 s.2.2) (fun r => some r))
set_option maxRecDepth 100000 in
theorem word_Add.calls  (a0 : Vec (BitVec 64) 4) (a1 : Vec (BitVec 64) 4) (r : Vec (BitVec 64) 4) (H : word_Add a0 a1 = some r) (w : World)   :
    Made Try.prog 44 #[.agg (cV U64 a0).toArray, .agg (cV U64 a1).toArray] w (.agg (cV U64 r).toArray) := by
  unfold word_Add at H
  have hM := Mm.start w (snap w) (snap_ok w)
  generalize snap w = h at *
  refine t_enter (vs := [.agg (cV U64 a0).toArray, .agg (cV U64 a1).toArray]) (n := 30) Try.func44 rfl rfl rfl hM ?_
  clear hM
  change T 30 _ _ _
  refine t_seq ?_
  refine t_region (fun ops hops => ?_)
  clear hops
  refine z_box (cs := cV U64 a0) (room := 4) rfl rfl rfl (cV_len _) rfl rfl rfl (fun _ _ _ _ => trivial) (fun g_1 => ?_)
  refine z_box (cs := cV U64 a1) (room := 4) rfl rfl rfl (cV_len _) rfl rfl rfl (fun _ _ _ _ => trivial) (fun g_2 => ?_)
  refine z_alloc (cs := cV U64 (Vec.rep 4 0#64)) (room := 4) rfl ze24 rfl (cV_len _) rfl rfl rfl (fun _ _ _ _ => trivial) (fun g_3 => ?_)
  refine z_nil ?_
  refine t_seq ?_
  refine t_region (fun ops hops => ?_)
  clear hops
  refine z_alloc (cs := cV U64 (Vec.rep 4 0#64)) (room := 4) rfl ze24 rfl (cV_len _) rfl rfl rfl (fun _ _ _ _ => trivial) (fun g_4 => ?_)
  refine z_nil ?_
  refine t_seq ?_
  refine t_region (fun ops hops => ?_)
  clear hops
  refine z_val (v := .int .u64 0) (val_assign rfl rfl) rfl rfl rfl (fun _ _ _ => trivial) ?_
  refine z_nil ?_
  refine t_seq ?_
  refine t_seq ?_
  refine t_region (fun ops hops => ?_)
  clear hops
  refine z_val (v := .int .i64 0) (val_move rfl rfl) rfl rfl rfl (fun _ _ _ => trivial) ?_
  refine z_nil ?_
  refine t_block ?_
  obtain ⟨z1, hz1, HK1⟩ := Option.bind_eq_some_iff.1 H
  clear H
  refine t_while hz1 (fun (s : (Vec (BitVec 64) 4) × (BitVec 64) × (Int)) (g : Unit) => [(2, .pointer (some ⟨g_1, 0, none⟩)), (3, .pointer (some ⟨g_2, 0, none⟩)), (4, .pointer (some ⟨g_3, 0, none⟩)), (5, .pointer (some ⟨g_4, 0, none⟩)), (6, U64 s.2.1), (10, .int .i64 s.2.2)]) (fun (s : (Vec (BitVec 64) 4) × (BitVec 64) × (Int)) (g : Unit) => [(4, .pointer (some ⟨g_3, 0, none⟩)), (5, .pointer (some ⟨g_4, 0, none⟩))]) (fun (s : (Vec (BitVec 64) 4) × (BitVec 64) × (Int)) (g : Unit) => Mm w [] h [.blk g_4 24 (cV U64 s.1) 4, .blk g_3 24 (cV U64 (Vec.rep 4 0#64)) 4, .blk g_2 24 (cV U64 a1) 4, .blk g_1 24 (cV U64 a0) 4]) (fun (s : (Vec (BitVec 64) 4) × (BitVec 64) × (Int)) (g : Unit) => Mm w [] h [.blk g_4 24 (cV U64 s.1) 4, .blk g_3 24 (cV U64 (Vec.rep 4 0#64)) 4]) (fun (s : (Vec (BitVec 64) 4) × (BitVec 64) × (Int)) (g : Unit) => True) (fun (s : (Vec (BitVec 64) 4) × (BitVec 64) × (Int)) (g : Unit) => True) () trivial (fun a w ha hw => ⟨ha.cons rfl (ha.cons rfl (ha.cons rfl (ha.cons rfl (ha.cons rfl (ha.cons rfl (ha.nil)))))), hw⟩) (fun Gn Gb s g e hφ H hn1 hb1 hr1 => ?_) (fun s g hzz hφ => ?_)
  ·
    obtain ⟨y_4, x6, x10⟩ := s
    change word_Add.b1 a0 a1 y_4 x6 x10 = some e at H
    unfold word_Add.b1 at H
    clear hz1
    change T 30 _ _ _
    refine t_seq ?_
    refine t_region (fun ops hops => ?_)
    clear hops
    obtain ⟨x11, hx11, H⟩ := Let_elim H
    refine z_val (v := .bool x11) (by subst hx11; exact val_bin rfl rfl rfl rfl (i64_lss _ _ _)) rfl rfl rfl (fun _ _ _ => trivial) ?_
    clear hx11
    refine z_nil ?_
    refine t_seq ?_
    cases x11
    ·
      replace H := cond_f H
      refine t_cond_false rfl ?_
      refine t_exit rfl ?_
      obtain rfl := Option.some.inj H
      exact t_reach ((hb1 _ () rfl trivial).weak (fun a ha => ha.cons rfl (ha.cons rfl (ha.nil))) (fun w hw => hw.sel [0, 1] rfl rfl))
    ·
      replace H := cond_t H
      refine t_cond_true rfl ?_
      refine t_skip ?_
      refine t_seq ?_
      refine t_block ?_
      refine t_seq ?_
      refine t_region (fun ops hops => ?_)
      clear hops
      refine z_val (v := .int .i64 x10) (val_move rfl rfl) rfl rfl rfl (fun _ _ _ => trivial) ?_
      refine z_val (v := .int .i64 x10) (val_assign rfl rfl) rfl rfl rfl (fun _ _ _ => trivial) ?_
      refine z_nil ?_
      refine t_seq ?_
      refine t_plan (C := Mm w [] h [.blk g_4 24 (cV U64 y_4) 4, .blk g_3 24 (cV U64 (Vec.rep 4 0#64)) 4, .blk g_2 24 (cV U64 a1) 4, .blk g_1 24 (cV U64 a0) 4]) [] [(0, true), (1, true), (2, true), (3, true), (4, true), (5, true), (6, true), (7, true), (8, true), (9, true), (10, true), (11, true), (12, true)] (by kernel_rfl) (by kernel_rfl) (fun _ hw => hw.drew) (fun ops hops => ?_)
      clear hops
      refine z_still (v := .int .i64 x10) (val_move rfl rfl) rfl rfl rfl (fun _ hw => hw) ?_
      obtain ⟨hq_5, H⟩ := Chk_elim H
      refine z_still (v := .pointer (some ⟨g_1, x10.toNat, none⟩)) (val_idx0 rfl rfl rfl Try.underlying24 sz22 hq_5 rfl) rfl rfl rfl (fun _ hw => hw) ?_
      obtain ⟨x16, hx16, H⟩ := Let_elim H
      refine z_still (v := U64 x16) (by subst hx16; exact val_load1 rfl rfl Try.underlying22 rfl (fun _ hw => hw.cell (j := 3) rfl (cV_at _ (idx_lt hq_5)))) rfl rfl rfl (fun _ hw => hw) ?_
      clear hx16
      refine z_still (v := .int .i64 x10) (val_move rfl rfl) rfl rfl rfl (fun _ hw => hw) ?_
      obtain ⟨hq_6, H⟩ := Chk_elim H
      refine z_still (v := .pointer (some ⟨g_2, x10.toNat, none⟩)) (val_idx0 rfl rfl rfl Try.underlying24 sz22 hq_6 rfl) rfl rfl rfl (fun _ hw => hw) ?_
      obtain ⟨x19, hx19, H⟩ := Let_elim H
      refine z_still (v := U64 x19) (by subst hx19; exact val_load1 rfl rfl Try.underlying22 rfl (fun _ hw => hw.cell (j := 2) rfl (cV_at _ (idx_lt hq_6)))) rfl rfl rfl (fun _ hw => hw) ?_
      clear hx19
      refine z_still (v := U64 x6) (val_move rfl rfl) rfl rfl rfl (fun _ hw => hw) ?_
      obtain ⟨hq_7, H⟩ := Chk_elim H
      obtain ⟨x21, hx21, H⟩ := Let_elim H
      refine z_still (v := .tuple #[U64 x21.1, U64 x21.2]) (by subst hx21; exact val_extern (vs := [U64 x16, U64 x19, U64 x6]) rfl Try.func69 xn69 xb69 xx69 xf69 rfl (fun w hw => run_add64 hq_7)) rfl rfl rfl (fun _ hw => hw) ?_
      clear hx21
      refine z_still (v := .tuple #[U64 x21.1, U64 x21.2]) (val_move rfl rfl) rfl rfl rfl (fun _ hw => hw) ?_
      refine z_still (v := U64 x21.1) (val_extract rfl rfl rfl) rfl rfl rfl (fun _ hw => hw) ?_
      refine z_still (v := U64 x21.2) (val_extract rfl rfl rfl) rfl rfl rfl (fun _ hw => hw) ?_
      refine z_still (v := U64 x21.1) (val_assign rfl rfl) rfl rfl rfl (fun _ hw => hw) ?_
      refine z_still (v := U64 x21.2) (val_assign rfl rfl) rfl rfl rfl (fun _ hw => hw) ?_
      refine z_nil ?_
      refine t_seq ?_
      refine t_region (fun ops hops => ?_)
      clear hops
      refine z_val (v := .int .i64 x10) (val_move rfl rfl) rfl rfl rfl (fun _ _ _ => trivial) ?_
      refine z_val (v := U64 x21.1) (val_move rfl rfl) rfl rfl rfl (fun _ _ _ => trivial) ?_
      obtain ⟨hq_8, H⟩ := Chk_elim H
      refine z_val (v := .pointer (some ⟨g_4, x10.toNat, none⟩)) (val_idx0 rfl rfl rfl Try.underlying24 sz22 hq_8 rfl) rfl rfl rfl (fun _ _ _ => trivial) ?_
      obtain ⟨y_4_9, hy_4_9, H⟩ := Let_elim H
      refine z_store1 (j := 0) (cs' := cV U64 y_4_9) (L' := [.blk g_4 24 (cV U64 y_4_9) 4, .blk g_3 24 (cV U64 (Vec.rep 4 0#64)) 4, .blk g_2 24 (cV U64 a1) 4, .blk g_1 24 (cV U64 a0) 4]) rfl rfl rfl rfl rfl sz22 rfl (by rw [cV_len]; exact (idx_lt hq_8)) (by subst hy_4_9; exact cV_set (f := U64) _ _ x21.1) rfl rfl rfl (fun _ _ _ => trivial) ?_
      clear hy_4_9
      refine z_nil ?_
      refine t_region (fun ops hops => ?_)
      clear hops
      refine z_val (v := U64 x21.2) (val_move rfl rfl) rfl rfl rfl (fun _ _ _ => trivial) ?_
      refine z_val (v := U64 x21.2) (val_assign rfl rfl) rfl rfl rfl (fun _ _ _ => trivial) ?_
      refine z_nil ?_
      refine t_fin ?_
      refine t_region (fun ops hops => ?_)
      clear hops
      obtain ⟨x28, hx28, H⟩ := Let_elim H
      refine z_val (v := .int .i64 x28) (by subst hx28; exact val_bin rfl rfl rfl rfl (i64_add _ _ _)) rfl rfl rfl (fun _ _ _ => trivial) ?_
      clear hx28
      refine z_val (v := .int .i64 x28) (val_move rfl rfl) rfl rfl rfl (fun _ _ _ => trivial) ?_
      refine z_nil ?_
      obtain rfl := Option.some.inj H
      exact t_reach ((hn1 _ () rfl trivial).weak (fun a ha => ha.cons rfl (ha.cons rfl (ha.cons rfl (ha.cons rfl (ha.cons rfl (ha.cons rfl (ha.nil))))))) (fun w hw => hw))
  ·
    obtain ⟨y_4, x6, x10⟩ := s
    subst hzz
    have H := HK1
    clear HK1 hz1
    replace H := sum_l H
    try dsimp only at H
    change T 30 _ _ _
    refine t_seq ?_
    refine t_region (fun ops hops => ?_)
    clear hops
    refine z_val (v := .agg (cV U64 y_4).toArray) (val_loadR (off := 0) (cs := cV U64 y_4) rfl rfl Try.underlying24 rfl (sz24.trans (congrArg some (cV_len _).symm)) (fun _ hw => hw.whole (j := 0) rfl)) rfl rfl rfl (fun _ _ _ => trivial) ?_
    refine z_storeA (j := 1) (cs' := cV U64 y_4) (L' := [.blk g_4 24 (cV U64 y_4) 4, .blk g_3 24 (cV U64 y_4) 4]) rfl rfl rfl (cV_one (fun _ => rfl) _) sz24 rfl (cV_len _) rfl rfl rfl (fun _ _ _ => trivial) ?_
    refine z_nil ?_
    refine t_ret ?_
    obtain rfl := Option.some.inj H
    exact ret1 rfl (res_row (j := 1) rfl Try.underlying24 rfl sz24 rfl (cV_len _)) (fun _ hw => ⟨rfl, hw.below⟩)
def word_Sub.b1 (a0 : Vec (BitVec 64) 4) (a1 : Vec (BitVec 64) 4) (y_4 : Vec (BitVec 64) 4) (x6 : BitVec 64) (x10 : Int) : Option (Ctl ((Vec (BitVec 64) 4) × (BitVec 64) × (Int)) (Vec (BitVec 64) 4)) :=
  Let (decide (x10 < 4)) fun x11 => (bif x11 then Chk (0 ≤ x10 ∧ x10 < ((4 : Nat) : Int)) <| Let (a0.get x10.toNat) fun x16 => Chk (0 ≤ x10 ∧ x10 < ((4 : Nat) : Int)) <| Let (a1.get x10.toNat) fun x19 => Chk (x6.toNat ≤ 1) <| Let (sub64 x16 x19 x6) fun x21 => Chk (0 ≤ x10 ∧ x10 < ((4 : Nat) : Int)) <| Let (y_4.set x10.toNat x21.1) fun y_4_9 => Let (wi (x10 + 1)) fun x28 => some (.next (y_4_9, x21.2, x28)) else some (.brk (y_4, x6, x10)))
def word_Sub (a0 : Vec (BitVec 64) 4) (a1 : Vec (BitVec 64) 4) : Option (Vec (BitVec 64) 4) :=
  (wlx (σ := (Vec (BitVec 64) 4) × (BitVec 64) × (Int)) (fun s => word_Sub.b1 a0 a1 s.1 s.2.1 s.2.2) ((Vec.rep 4 0#64), 0#64, 0)).bind (Sum.elim (fun s => (fun y_4 x6 x10 => some y_4) s.1 s.2.1 s.2.2) (fun r => some r))
set_option maxRecDepth 100000 in
theorem word_Sub.calls  (a0 : Vec (BitVec 64) 4) (a1 : Vec (BitVec 64) 4) (r : Vec (BitVec 64) 4) (H : word_Sub a0 a1 = some r) (w : World)   :
    Made Try.prog 48 #[.agg (cV U64 a0).toArray, .agg (cV U64 a1).toArray] w (.agg (cV U64 r).toArray) := by
  unfold word_Sub at H
  have hM := Mm.start w (snap w) (snap_ok w)
  generalize snap w = h at *
  refine t_enter (vs := [.agg (cV U64 a0).toArray, .agg (cV U64 a1).toArray]) (n := 30) Try.func48 rfl rfl rfl hM ?_
  clear hM
  change T 30 _ _ _
  refine t_seq ?_
  refine t_region (fun ops hops => ?_)
  clear hops
  refine z_box (cs := cV U64 a0) (room := 4) rfl rfl rfl (cV_len _) rfl rfl rfl (fun _ _ _ _ => trivial) (fun g_1 => ?_)
  refine z_box (cs := cV U64 a1) (room := 4) rfl rfl rfl (cV_len _) rfl rfl rfl (fun _ _ _ _ => trivial) (fun g_2 => ?_)
  refine z_alloc (cs := cV U64 (Vec.rep 4 0#64)) (room := 4) rfl ze24 rfl (cV_len _) rfl rfl rfl (fun _ _ _ _ => trivial) (fun g_3 => ?_)
  refine z_nil ?_
  refine t_seq ?_
  refine t_region (fun ops hops => ?_)
  clear hops
  refine z_alloc (cs := cV U64 (Vec.rep 4 0#64)) (room := 4) rfl ze24 rfl (cV_len _) rfl rfl rfl (fun _ _ _ _ => trivial) (fun g_4 => ?_)
  refine z_nil ?_
  refine t_seq ?_
  refine t_region (fun ops hops => ?_)
  clear hops
  refine z_val (v := .int .u64 0) (val_assign rfl rfl) rfl rfl rfl (fun _ _ _ => trivial) ?_
  refine z_nil ?_
  refine t_seq ?_
  refine t_seq ?_
  refine t_region (fun ops hops => ?_)
  clear hops
  refine z_val (v := .int .i64 0) (val_move rfl rfl) rfl rfl rfl (fun _ _ _ => trivial) ?_
  refine z_nil ?_
  refine t_block ?_
  obtain ⟨z1, hz1, HK1⟩ := Option.bind_eq_some_iff.1 H
  clear H
  refine t_while hz1 (fun (s : (Vec (BitVec 64) 4) × (BitVec 64) × (Int)) (g : Unit) => [(2, .pointer (some ⟨g_1, 0, none⟩)), (3, .pointer (some ⟨g_2, 0, none⟩)), (4, .pointer (some ⟨g_3, 0, none⟩)), (5, .pointer (some ⟨g_4, 0, none⟩)), (6, U64 s.2.1), (10, .int .i64 s.2.2)]) (fun (s : (Vec (BitVec 64) 4) × (BitVec 64) × (Int)) (g : Unit) => [(4, .pointer (some ⟨g_3, 0, none⟩)), (5, .pointer (some ⟨g_4, 0, none⟩))]) (fun (s : (Vec (BitVec 64) 4) × (BitVec 64) × (Int)) (g : Unit) => Mm w [] h [.blk g_4 24 (cV U64 s.1) 4, .blk g_3 24 (cV U64 (Vec.rep 4 0#64)) 4, .blk g_2 24 (cV U64 a1) 4, .blk g_1 24 (cV U64 a0) 4]) (fun (s : (Vec (BitVec 64) 4) × (BitVec 64) × (Int)) (g : Unit) => Mm w [] h [.blk g_4 24 (cV U64 s.1) 4, .blk g_3 24 (cV U64 (Vec.rep 4 0#64)) 4]) (fun (s : (Vec (BitVec 64) 4) × (BitVec 64) × (Int)) (g : Unit) => True) (fun (s : (Vec (BitVec 64) 4) × (BitVec 64) × (Int)) (g : Unit) => True) () trivial (fun a w ha hw => ⟨ha.cons rfl (ha.cons rfl (ha.cons rfl (ha.cons rfl (ha.cons rfl (ha.cons rfl (ha.nil)))))), hw⟩) (fun Gn Gb s g e hφ H hn1 hb1 hr1 => ?_) (fun s g hzz hφ => ?_)
  ·
    obtain ⟨y_4, x6, x10⟩ := s
    change word_Sub.b1 a0 a1 y_4 x6 x10 = some e at H
    unfold word_Sub.b1 at H
    clear hz1
    change T 30 _ _ _
    refine t_seq ?_
    refine t_region (fun ops hops => ?_)
    clear hops
    obtain ⟨x11, hx11, H⟩ := Let_elim H
    refine z_val (v := .bool x11) (by subst hx11; exact val_bin rfl rfl rfl rfl (i64_lss _ _ _)) rfl rfl rfl (fun _ _ _ => trivial) ?_
    clear hx11
    refine z_nil ?_
    refine t_seq ?_
    cases x11
    ·
      replace H := cond_f H
      refine t_cond_false rfl ?_
      refine t_exit rfl ?_
      obtain rfl := Option.some.inj H
      exact t_reach ((hb1 _ () rfl trivial).weak (fun a ha => ha.cons rfl (ha.cons rfl (ha.nil))) (fun w hw => hw.sel [0, 1] rfl rfl))
    ·
      replace H := cond_t H
      refine t_cond_true rfl ?_
      refine t_skip ?_
      refine t_seq ?_
      refine t_block ?_
      refine t_seq ?_
      refine t_region (fun ops hops => ?_)
      clear hops
      refine z_val (v := .int .i64 x10) (val_move rfl rfl) rfl rfl rfl (fun _ _ _ => trivial) ?_
      refine z_val (v := .int .i64 x10) (val_assign rfl rfl) rfl rfl rfl (fun _ _ _ => trivial) ?_
      refine z_nil ?_
      refine t_seq ?_
      refine t_plan (C := Mm w [] h [.blk g_4 24 (cV U64 y_4) 4, .blk g_3 24 (cV U64 (Vec.rep 4 0#64)) 4, .blk g_2 24 (cV U64 a1) 4, .blk g_1 24 (cV U64 a0) 4]) [] [(0, true), (1, true), (2, true), (3, true), (4, true), (5, true), (6, true), (7, true), (8, true), (9, true), (10, true), (11, true), (12, true)] (by kernel_rfl) (by kernel_rfl) (fun _ hw => hw.drew) (fun ops hops => ?_)
      clear hops
      refine z_still (v := .int .i64 x10) (val_move rfl rfl) rfl rfl rfl (fun _ hw => hw) ?_
      obtain ⟨hq_5, H⟩ := Chk_elim H
      refine z_still (v := .pointer (some ⟨g_1, x10.toNat, none⟩)) (val_idx0 rfl rfl rfl Try.underlying24 sz22 hq_5 rfl) rfl rfl rfl (fun _ hw => hw) ?_
      obtain ⟨x16, hx16, H⟩ := Let_elim H
      refine z_still (v := U64 x16) (by subst hx16; exact val_load1 rfl rfl Try.underlying22 rfl (fun _ hw => hw.cell (j := 3) rfl (cV_at _ (idx_lt hq_5)))) rfl rfl rfl (fun _ hw => hw) ?_
      clear hx16
      refine z_still (v := .int .i64 x10) (val_move rfl rfl) rfl rfl rfl (fun _ hw => hw) ?_
      obtain ⟨hq_6, H⟩ := Chk_elim H
      refine z_still (v := .pointer (some ⟨g_2, x10.toNat, none⟩)) (val_idx0 rfl rfl rfl Try.underlying24 sz22 hq_6 rfl) rfl rfl rfl (fun _ hw => hw) ?_
      obtain ⟨x19, hx19, H⟩ := Let_elim H
      refine z_still (v := U64 x19) (by subst hx19; exact val_load1 rfl rfl Try.underlying22 rfl (fun _ hw => hw.cell (j := 2) rfl (cV_at _ (idx_lt hq_6)))) rfl rfl rfl (fun _ hw => hw) ?_
      clear hx19
      refine z_still (v := U64 x6) (val_move rfl rfl) rfl rfl rfl (fun _ hw => hw) ?_
      obtain ⟨hq_7, H⟩ := Chk_elim H
      obtain ⟨x21, hx21, H⟩ := Let_elim H
      refine z_still (v := .tuple #[U64 x21.1, U64 x21.2]) (by subst hx21; exact val_extern (vs := [U64 x16, U64 x19, U64 x6]) rfl Try.func70 xn70 xb70 xx70 xf70 rfl (fun w hw => run_sub64 hq_7)) rfl rfl rfl (fun _ hw => hw) ?_
      clear hx21
      refine z_still (v := .tuple #[U64 x21.1, U64 x21.2]) (val_move rfl rfl) rfl rfl rfl (fun _ hw => hw) ?_
      refine z_still (v := U64 x21.1) (val_extract rfl rfl rfl) rfl rfl rfl (fun _ hw => hw) ?_
      refine z_still (v := U64 x21.2) (val_extract rfl rfl rfl) rfl rfl rfl (fun _ hw => hw) ?_
      refine z_still (v := U64 x21.1) (val_assign rfl rfl) rfl rfl rfl (fun _ hw => hw) ?_
      refine z_still (v := U64 x21.2) (val_assign rfl rfl) rfl rfl rfl (fun _ hw => hw) ?_
      refine z_nil ?_
      refine t_seq ?_
      refine t_region (fun ops hops => ?_)
      clear hops
      refine z_val (v := .int .i64 x10) (val_move rfl rfl) rfl rfl rfl (fun _ _ _ => trivial) ?_
      refine z_val (v := U64 x21.1) (val_move rfl rfl) rfl rfl rfl (fun _ _ _ => trivial) ?_
      obtain ⟨hq_8, H⟩ := Chk_elim H
      refine z_val (v := .pointer (some ⟨g_4, x10.toNat, none⟩)) (val_idx0 rfl rfl rfl Try.underlying24 sz22 hq_8 rfl) rfl rfl rfl (fun _ _ _ => trivial) ?_
      obtain ⟨y_4_9, hy_4_9, H⟩ := Let_elim H
      refine z_store1 (j := 0) (cs' := cV U64 y_4_9) (L' := [.blk g_4 24 (cV U64 y_4_9) 4, .blk g_3 24 (cV U64 (Vec.rep 4 0#64)) 4, .blk g_2 24 (cV U64 a1) 4, .blk g_1 24 (cV U64 a0) 4]) rfl rfl rfl rfl rfl sz22 rfl (by rw [cV_len]; exact (idx_lt hq_8)) (by subst hy_4_9; exact cV_set (f := U64) _ _ x21.1) rfl rfl rfl (fun _ _ _ => trivial) ?_
      clear hy_4_9
      refine z_nil ?_
      refine t_region (fun ops hops => ?_)
      clear hops
      refine z_val (v := U64 x21.2) (val_move rfl rfl) rfl rfl rfl (fun _ _ _ => trivial) ?_
      refine z_val (v := U64 x21.2) (val_assign rfl rfl) rfl rfl rfl (fun _ _ _ => trivial) ?_
      refine z_nil ?_
      refine t_fin ?_
      refine t_region (fun ops hops => ?_)
      clear hops
      obtain ⟨x28, hx28, H⟩ := Let_elim H
      refine z_val (v := .int .i64 x28) (by subst hx28; exact val_bin rfl rfl rfl rfl (i64_add _ _ _)) rfl rfl rfl (fun _ _ _ => trivial) ?_
      clear hx28
      refine z_val (v := .int .i64 x28) (val_move rfl rfl) rfl rfl rfl (fun _ _ _ => trivial) ?_
      refine z_nil ?_
      obtain rfl := Option.some.inj H
      exact t_reach ((hn1 _ () rfl trivial).weak (fun a ha => ha.cons rfl (ha.cons rfl (ha.cons rfl (ha.cons rfl (ha.cons rfl (ha.cons rfl (ha.nil))))))) (fun w hw => hw))
  ·
    obtain ⟨y_4, x6, x10⟩ := s
    subst hzz
    have H := HK1
    clear HK1 hz1
    replace H := sum_l H
    try dsimp only at H
    change T 30 _ _ _
    refine t_seq ?_
    refine t_region (fun ops hops => ?_)
    clear hops
    refine z_val (v := .agg (cV U64 y_4).toArray) (val_loadR (off := 0) (cs := cV U64 y_4) rfl rfl Try.underlying24 rfl (sz24.trans (congrArg some (cV_len _).symm)) (fun _ hw => hw.whole (j := 0) rfl)) rfl rfl rfl (fun _ _ _ => trivial) ?_
    refine z_storeA (j := 1) (cs' := cV U64 y_4) (L' := [.blk g_4 24 (cV U64 y_4) 4, .blk g_3 24 (cV U64 y_4) 4]) rfl rfl rfl (cV_one (fun _ => rfl) _) sz24 rfl (cV_len _) rfl rfl rfl (fun _ _ _ => trivial) ?_
    refine z_nil ?_
    refine t_ret ?_
    obtain rfl := Option.some.inj H
    exact ret1 rfl (res_row (j := 1) rfl Try.underlying24 rfl sz24 rfl (cV_len _)) (fun _ hw => ⟨rfl, hw.below⟩)
def bits_Mul64 (a0 : BitVec 64) (a1 : BitVec 64) : Option ((BitVec 64) × (BitVec 64)) :=
  Let (a0 &&& 4294967295#64) fun x15 => Let (a0 >>> 32) fun x17 => Let (a1 &&& 4294967295#64) fun x19 => Let (a1 >>> 32) fun x21 => Let (x15 * x19) fun x24 => Let (x17 * x19) fun x27 => Let (x24 >>> 32) fun x29 => Let (x27 + x29) fun x30 => Let (x30 &&& 4294967295#64) fun x32 => Let (x30 >>> 32) fun x34 => Let (x15 * x21) fun x38 => Let (x32 + x38) fun x39 => Let (x17 * x21) fun x42 => Let (x42 + x34) fun x44 => Let (x39 >>> 32) fun x46 => Let (x44 + x46) fun x47 => Let (a0 * a1) fun x50 => some (x47, x50)
set_option maxRecDepth 100000 in
theorem bits_Mul64.calls  (a0 : BitVec 64) (a1 : BitVec 64) (r : (BitVec 64) × (BitVec 64)) (H : bits_Mul64 a0 a1 = some r) (w : World)   :
    Made Try.prog 68 #[U64 a0, U64 a1] w (.tuple #[U64 r.1, U64 r.2]) := by
  unfold bits_Mul64 at H
  have hM := Mm.start w (snap w) (snap_ok w)
  generalize snap w = h at *
  refine t_enter (vs := [U64 a0, U64 a1]) (n := 51) Try.func68 rfl rfl rfl hM ?_
  clear hM
  change T 51 _ _ _
  refine t_seq ?_
  refine t_region (fun ops hops => ?_)
  clear hops
  refine z_val (v := .int .u64 0) (val_assign rfl rfl) rfl rfl rfl (fun _ _ _ => trivial) ?_
  refine z_val (v := .int .u64 0) (val_assign rfl rfl) rfl rfl rfl (fun _ _ _ => trivial) ?_
  refine z_nil ?_
  refine t_seq ?_
  refine t_region (fun ops hops => ?_)
  clear hops
  refine z_val (v := U64 a0) (val_move rfl rfl) rfl rfl rfl (fun _ _ _ => trivial) ?_
  obtain ⟨x15, hx15, H⟩ := Let_elim H
  refine z_val (v := U64 x15) (by subst hx15; exact val_bin rfl rfl rfl rfl (u64_and_r _ _ _)) rfl rfl rfl (fun _ _ _ => trivial) ?_
  clear hx15
  refine z_val (v := U64 x15) (val_assign rfl rfl) rfl rfl rfl (fun _ _ _ => trivial) ?_
  refine z_nil ?_
  refine t_seq ?_
  refine t_region (fun ops hops => ?_)
  clear hops
  refine z_val (v := U64 a0) (val_move rfl rfl) rfl rfl rfl (fun _ _ _ => trivial) ?_
  obtain ⟨x17, hx17, H⟩ := Let_elim H
  refine z_val (v := U64 x17) (by subst hx17; exact val_bin rfl rfl rfl rfl (u64_shr _ _ _ _ (by decide))) rfl rfl rfl (fun _ _ _ => trivial) ?_
  clear hx17
  refine z_val (v := U64 x17) (val_assign rfl rfl) rfl rfl rfl (fun _ _ _ => trivial) ?_
  refine z_nil ?_
  refine t_seq ?_
  refine t_region (fun ops hops => ?_)
  clear hops
  refine z_val (v := U64 a1) (val_move rfl rfl) rfl rfl rfl (fun _ _ _ => trivial) ?_
  obtain ⟨x19, hx19, H⟩ := Let_elim H
  refine z_val (v := U64 x19) (by subst hx19; exact val_bin rfl rfl rfl rfl (u64_and_r _ _ _)) rfl rfl rfl (fun _ _ _ => trivial) ?_
  clear hx19
  refine z_val (v := U64 x19) (val_assign rfl rfl) rfl rfl rfl (fun _ _ _ => trivial) ?_
  refine z_nil ?_
  refine t_seq ?_
  refine t_region (fun ops hops => ?_)
  clear hops
  refine z_val (v := U64 a1) (val_move rfl rfl) rfl rfl rfl (fun _ _ _ => trivial) ?_
  obtain ⟨x21, hx21, H⟩ := Let_elim H
  refine z_val (v := U64 x21) (by subst hx21; exact val_bin rfl rfl rfl rfl (u64_shr _ _ _ _ (by decide))) rfl rfl rfl (fun _ _ _ => trivial) ?_
  clear hx21
  refine z_val (v := U64 x21) (val_assign rfl rfl) rfl rfl rfl (fun _ _ _ => trivial) ?_
  refine z_nil ?_
  refine t_seq ?_
  refine t_region (fun ops hops => ?_)
  clear hops
  refine z_val (v := U64 x15) (val_move rfl rfl) rfl rfl rfl (fun _ _ _ => trivial) ?_
  refine z_val (v := U64 x19) (val_move rfl rfl) rfl rfl rfl (fun _ _ _ => trivial) ?_
  obtain ⟨x24, hx24, H⟩ := Let_elim H
  refine z_val (v := U64 x24) (by subst hx24; exact val_bin rfl rfl rfl rfl (u64_mul _ _ _)) rfl rfl rfl (fun _ _ _ => trivial) ?_
  clear hx24
  refine z_val (v := U64 x24) (val_assign rfl rfl) rfl rfl rfl (fun _ _ _ => trivial) ?_
  refine z_nil ?_
  refine t_seq ?_
  refine t_region (fun ops hops => ?_)
  clear hops
  refine z_val (v := U64 x17) (val_move rfl rfl) rfl rfl rfl (fun _ _ _ => trivial) ?_
  refine z_val (v := U64 x19) (val_move rfl rfl) rfl rfl rfl (fun _ _ _ => trivial) ?_
  obtain ⟨x27, hx27, H⟩ := Let_elim H
  refine z_val (v := U64 x27) (by subst hx27; exact val_bin rfl rfl rfl rfl (u64_mul _ _ _)) rfl rfl rfl (fun _ _ _ => trivial) ?_
  clear hx27
  refine z_val (v := U64 x24) (val_move rfl rfl) rfl rfl rfl (fun _ _ _ => trivial) ?_
  obtain ⟨x29, hx29, H⟩ := Let_elim H
  refine z_val (v := U64 x29) (by subst hx29; exact val_bin rfl rfl rfl rfl (u64_shr _ _ _ _ (by decide))) rfl rfl rfl (fun _ _ _ => trivial) ?_
  clear hx29
  obtain ⟨x30, hx30, H⟩ := Let_elim H
  refine z_val (v := U64 x30) (by subst hx30; exact val_bin rfl rfl rfl rfl (u64_add _ _ _)) rfl rfl rfl (fun _ _ _ => trivial) ?_
  clear hx30
  refine z_val (v := U64 x30) (val_assign rfl rfl) rfl rfl rfl (fun _ _ _ => trivial) ?_
  refine z_nil ?_
  refine t_seq ?_
  refine t_region (fun ops hops => ?_)
  clear hops
  refine z_val (v := U64 x30) (val_move rfl rfl) rfl rfl rfl (fun _ _ _ => trivial) ?_
  obtain ⟨x32, hx32, H⟩ := Let_elim H
  refine z_val (v := U64 x32) (by subst hx32; exact val_bin rfl rfl rfl rfl (u64_and_r _ _ _)) rfl rfl rfl (fun _ _ _ => trivial) ?_
  clear hx32
  refine z_val (v := U64 x32) (val_assign rfl rfl) rfl rfl rfl (fun _ _ _ => trivial) ?_
  refine z_nil ?_
  refine t_seq ?_
  refine t_region (fun ops hops => ?_)
  clear hops
  refine z_val (v := U64 x30) (val_move rfl rfl) rfl rfl rfl (fun _ _ _ => trivial) ?_
  obtain ⟨x34, hx34, H⟩ := Let_elim H
  refine z_val (v := U64 x34) (by subst hx34; exact val_bin rfl rfl rfl rfl (u64_shr _ _ _ _ (by decide))) rfl rfl rfl (fun _ _ _ => trivial) ?_
  clear hx34
  refine z_val (v := U64 x34) (val_assign rfl rfl) rfl rfl rfl (fun _ _ _ => trivial) ?_
  refine z_nil ?_
  refine t_seq ?_
  refine t_region (fun ops hops => ?_)
  clear hops
  refine z_val (v := U64 x32) (val_move rfl rfl) rfl rfl rfl (fun _ _ _ => trivial) ?_
  refine z_val (v := U64 x15) (val_move rfl rfl) rfl rfl rfl (fun _ _ _ => trivial) ?_
  refine z_val (v := U64 x21) (val_move rfl rfl) rfl rfl rfl (fun _ _ _ => trivial) ?_
  obtain ⟨x38, hx38, H⟩ := Let_elim H
  refine z_val (v := U64 x38) (by subst hx38; exact val_bin rfl rfl rfl rfl (u64_mul _ _ _)) rfl rfl rfl (fun _ _ _ => trivial) ?_
  clear hx38
  obtain ⟨x39, hx39, H⟩ := Let_elim H
  refine z_val (v := U64 x39) (by subst hx39; exact val_bin rfl rfl rfl rfl (u64_add _ _ _)) rfl rfl rfl (fun _ _ _ => trivial) ?_
  clear hx39
  refine z_val (v := U64 x39) (val_assign rfl rfl) rfl rfl rfl (fun _ _ _ => trivial) ?_
  refine z_nil ?_
  refine t_seq ?_
  refine t_region (fun ops hops => ?_)
  clear hops
  refine z_val (v := U64 x17) (val_move rfl rfl) rfl rfl rfl (fun _ _ _ => trivial) ?_
  refine z_val (v := U64 x21) (val_move rfl rfl) rfl rfl rfl (fun _ _ _ => trivial) ?_
  obtain ⟨x42, hx42, H⟩ := Let_elim H
  refine z_val (v := U64 x42) (by subst hx42; exact val_bin rfl rfl rfl rfl (u64_mul _ _ _)) rfl rfl rfl (fun _ _ _ => trivial) ?_
  clear hx42
  refine z_val (v := U64 x34) (val_move rfl rfl) rfl rfl rfl (fun _ _ _ => trivial) ?_
  obtain ⟨x44, hx44, H⟩ := Let_elim H
  refine z_val (v := U64 x44) (by subst hx44; exact val_bin rfl rfl rfl rfl (u64_add _ _ _)) rfl rfl rfl (fun _ _ _ => trivial) ?_
  clear hx44
  refine z_val (v := U64 x39) (val_move rfl rfl) rfl rfl rfl (fun _ _ _ => trivial) ?_
  obtain ⟨x46, hx46, H⟩ := Let_elim H
  refine z_val (v := U64 x46) (by subst hx46; exact val_bin rfl rfl rfl rfl (u64_shr _ _ _ _ (by decide))) rfl rfl rfl (fun _ _ _ => trivial) ?_
  clear hx46
  obtain ⟨x47, hx47, H⟩ := Let_elim H
  refine z_val (v := U64 x47) (by subst hx47; exact val_bin rfl rfl rfl rfl (u64_add _ _ _)) rfl rfl rfl (fun _ _ _ => trivial) ?_
  clear hx47
  refine z_val (v := U64 x47) (val_assign rfl rfl) rfl rfl rfl (fun _ _ _ => trivial) ?_
  refine z_nil ?_
  refine t_seq ?_
  refine t_region (fun ops hops => ?_)
  clear hops
  refine z_val (v := U64 a0) (val_move rfl rfl) rfl rfl rfl (fun _ _ _ => trivial) ?_
  refine z_val (v := U64 a1) (val_move rfl rfl) rfl rfl rfl (fun _ _ _ => trivial) ?_
  obtain ⟨x50, hx50, H⟩ := Let_elim H
  refine z_val (v := U64 x50) (by subst hx50; exact val_bin rfl rfl rfl rfl (u64_mul _ _ _)) rfl rfl rfl (fun _ _ _ => trivial) ?_
  clear hx50
  refine z_val (v := U64 x50) (val_assign rfl rfl) rfl rfl rfl (fun _ _ _ => trivial) ?_
  refine z_nil ?_
  refine t_ret ?_
  obtain rfl := Option.some.inj H
  exact ret2 rfl (res_tmp rfl) (res_tmp rfl) (fun _ hw => ⟨rfl, hw.below⟩)
def wide_Product.b2 (x13 : Int) (a0 : Vec (BitVec 64) 4) (a1 : Vec (BitVec 64) 4) (y_5_6 : Vec (BitVec 64) 8) (x8 : BitVec 64) (x16 : Int) : Option (Ctl ((Vec (BitVec 64) 8) × (BitVec 64) × (Int)) ((Vec (BitVec 64) 4) × (Vec (BitVec 64) 4))) :=
  Let (decide (x16 < 4)) fun x17 => (bif x17 then Chk (0 ≤ x13 ∧ x13 < ((4 : Nat) : Int)) <| Let (a0.get x13.toNat) fun x22 => Chk (0 ≤ x16 ∧ x16 < ((4 : Nat) : Int)) <| Let (a1.get x16.toNat) fun x25 => (bits_Mul64 x22 x25).bind fun x26 => Let (wi (x13 + x16)) fun x33 => Chk (0 ≤ x33 ∧ x33 < ((8 : Nat) : Int)) <| Let (y_5_6.get x33.toNat) fun x35 => Chk ((0#64).toNat ≤ 1) <| Let (add64 x26.2 x35 0#64) fun x36 => Let (x26.1 + x36.2) fun x41 => Chk ((0#64).toNat ≤ 1) <| Let (add64 x36.1 x8 0#64) fun x45 => Let (wi (x13 + x16)) fun x50 => Chk (0 ≤ x50 ∧ x50 < ((8 : Nat) : Int)) <| Let (y_5_6.set x50.toNat x45.1) fun y_5_13 => Let (x41 + x45.2) fun x55 => Let (wi (x16 + 1)) fun x56 => some (.next (y_5_13, x55, x56)) else some (.brk (y_5_6, x8, x16)))
def wide_Product.b1 (a0 : Vec (BitVec 64) 4) (a1 : Vec (BitVec 64) 4) (y_5 : Vec (BitVec 64) 8) (x13 : Int) : Option (Ctl ((Vec (BitVec 64) 8) × (Int)) ((Vec (BitVec 64) 4) × (Vec (BitVec 64) 4))) :=
  Let (decide (x13 < 4)) fun x14 => (bif x14 then (wlx (σ := (Vec (BitVec 64) 8) × (BitVec 64) × (Int)) (fun s => wide_Product.b2 x13 a0 a1 s.1 s.2.1 s.2.2) (y_5, 0#64, 0)).bind (Sum.elim (fun s => (fun y_5_6 x8 x16 => Let (wi (x13 + 4)) fun x58 => Chk (0 ≤ x58 ∧ x58 < ((8 : Nat) : Int)) <| Let (y_5_6.set x58.toNat x8) fun y_5_15 => Let (wi (x13 + 1)) fun x61 => some (.next (y_5_15, x61))) s.1 s.2.1 s.2.2) (fun r => some (.ret r))) else some (.brk (y_5, x13)))
def wide_Product (a0 : Vec (BitVec 64) 4) (a1 : Vec (BitVec 64) 4) : Option ((Vec (BitVec 64) 4) × (Vec (BitVec 64) 4)) :=
  (wlx (σ := (Vec (BitVec 64) 8) × (Int)) (fun s => wide_Product.b1 a0 a1 s.1 s.2) ((Vec.rep 8 0#64), 0)).bind (Sum.elim (fun s => (fun y_5 x13 => Let ((y_5.l.take 4).drop 0) fun x62 => Chk (4 ≤ x62.length) <| Let (y_5.part 0 4) fun x64 => Let ((y_5.l.take 8).drop 4) fun x65 => Chk (4 ≤ x65.length) <| Let (y_5.part 4 4) fun x67 => some (x64, x67)) s.1 s.2) (fun r => some r))
set_option maxRecDepth 100000 in
theorem wide_Product.calls  (a0 : Vec (BitVec 64) 4) (a1 : Vec (BitVec 64) 4) (r : (Vec (BitVec 64) 4) × (Vec (BitVec 64) 4)) (H : wide_Product a0 a1 = some r) (w : World)   :
    Made Try.prog 42 #[.agg (cV U64 a0).toArray, .agg (cV U64 a1).toArray] w (.tuple #[.agg (cV U64 r.1).toArray, .agg (cV U64 r.2).toArray]) := by
  unfold wide_Product at H
  have hM := Mm.start w (snap w) (snap_ok w)
  generalize snap w = h at *
  refine t_enter (vs := [.agg (cV U64 a0).toArray, .agg (cV U64 a1).toArray]) (n := 68) Try.func42 rfl rfl rfl hM ?_
  clear hM
  change T 68 _ _ _
  refine t_seq ?_
  refine t_region (fun ops hops => ?_)
  clear hops
  refine z_box (cs := cV U64 a0) (room := 4) rfl rfl rfl (cV_len _) rfl rfl rfl (fun _ _ _ _ => trivial) (fun g_1 => ?_)
  refine z_box (cs := cV U64 a1) (room := 4) rfl rfl rfl (cV_len _) rfl rfl rfl (fun _ _ _ _ => trivial) (fun g_2 => ?_)
  refine z_alloc (cs := cV U64 (Vec.rep 4 0#64)) (room := 4) rfl ze24 rfl (cV_len _) rfl rfl rfl (fun _ _ _ _ => trivial) (fun g_3 => ?_)
  refine z_alloc (cs := cV U64 (Vec.rep 4 0#64)) (room := 4) rfl ze24 rfl (cV_len _) rfl rfl rfl (fun _ _ _ _ => trivial) (fun g_4 => ?_)
  refine z_nil ?_
  refine t_seq ?_
  refine t_region (fun ops hops => ?_)
  clear hops
  refine z_alloc (cs := cV U64 (Vec.rep 8 0#64)) (room := 8) rfl ze134 rfl (cV_len _) rfl rfl rfl (fun _ _ _ _ => trivial) (fun g_5 => ?_)
  refine z_nil ?_
  refine t_seq ?_
  refine t_seq ?_
  refine t_region (fun ops hops => ?_)
  clear hops
  refine z_val (v := .int .i64 0) (val_move rfl rfl) rfl rfl rfl (fun _ _ _ => trivial) ?_
  refine z_nil ?_
  refine t_block ?_
  obtain ⟨z1, hz1, HK1⟩ := Option.bind_eq_some_iff.1 H
  clear H
  refine t_while hz1 (fun (s : (Vec (BitVec 64) 8) × (Int)) (g : Unit) => [(2, .pointer (some ⟨g_1, 0, none⟩)), (3, .pointer (some ⟨g_2, 0, none⟩)), (4, .pointer (some ⟨g_3, 0, none⟩)), (5, .pointer (some ⟨g_4, 0, none⟩)), (6, .pointer (some ⟨g_5, 0, none⟩)), (13, .int .i64 s.2)]) (fun (s : (Vec (BitVec 64) 8) × (Int)) (g : Unit) => [(4, .pointer (some ⟨g_3, 0, none⟩)), (5, .pointer (some ⟨g_4, 0, none⟩)), (6, .pointer (some ⟨g_5, 0, none⟩))]) (fun (s : (Vec (BitVec 64) 8) × (Int)) (g : Unit) => Mm w [] h [.blk g_5 134 (cV U64 s.1) 8, .blk g_4 24 (cV U64 (Vec.rep 4 0#64)) 4, .blk g_3 24 (cV U64 (Vec.rep 4 0#64)) 4, .blk g_2 24 (cV U64 a1) 4, .blk g_1 24 (cV U64 a0) 4]) (fun (s : (Vec (BitVec 64) 8) × (Int)) (g : Unit) => Mm w [] h [.blk g_5 134 (cV U64 s.1) 8, .blk g_4 24 (cV U64 (Vec.rep 4 0#64)) 4, .blk g_3 24 (cV U64 (Vec.rep 4 0#64)) 4]) (fun (s : (Vec (BitVec 64) 8) × (Int)) (g : Unit) => True) (fun (s : (Vec (BitVec 64) 8) × (Int)) (g : Unit) => True) () trivial (fun a w ha hw => ⟨ha.cons rfl (ha.cons rfl (ha.cons rfl (ha.cons rfl (ha.cons rfl (ha.cons rfl (ha.nil)))))), hw⟩) (fun Gn Gb s g e hφ H hn1 hb1 hr1 => ?_) (fun s g hzz hφ => ?_)
  ·
    obtain ⟨y_5, x13⟩ := s
    change wide_Product.b1 a0 a1 y_5 x13 = some e at H
    unfold wide_Product.b1 at H
    clear hz1
    change T 68 _ _ _
    refine t_seq ?_
    refine t_region (fun ops hops => ?_)
    clear hops
    obtain ⟨x14, hx14, H⟩ := Let_elim H
    refine z_val (v := .bool x14) (by subst hx14; exact val_bin rfl rfl rfl rfl (i64_lss _ _ _)) rfl rfl rfl (fun _ _ _ => trivial) ?_
    clear hx14
    refine z_nil ?_
    refine t_seq ?_
    cases x14
    ·
      replace H := cond_f H
      refine t_cond_false rfl ?_
      refine t_exit rfl ?_
      obtain rfl := Option.some.inj H
      exact t_reach ((hb1 _ () rfl trivial).weak (fun a ha => ha.cons rfl (ha.cons rfl (ha.cons rfl (ha.nil)))) (fun w hw => hw.sel [0, 1, 2] rfl rfl))
    ·
      replace H := cond_t H
      refine t_cond_true rfl ?_
      refine t_skip ?_
      refine t_seq ?_
      refine t_block ?_
      refine t_seq ?_
      refine t_region (fun ops hops => ?_)
      clear hops
      refine z_val (v := .int .i64 x13) (val_move rfl rfl) rfl rfl rfl (fun _ _ _ => trivial) ?_
      refine z_val (v := .int .i64 x13) (val_assign rfl rfl) rfl rfl rfl (fun _ _ _ => trivial) ?_
      refine z_nil ?_
      refine t_seq ?_
      refine t_region (fun ops hops => ?_)
      clear hops
      refine z_val (v := .int .u64 0) (val_assign rfl rfl) rfl rfl rfl (fun _ _ _ => trivial) ?_
      refine z_nil ?_
      refine t_seq ?_
      refine t_seq ?_
      refine t_region (fun ops hops => ?_)
      clear hops
      refine z_val (v := .int .i64 0) (val_move rfl rfl) rfl rfl rfl (fun _ _ _ => trivial) ?_
      refine z_nil ?_
      refine t_block ?_
      obtain ⟨z2, hz2, HK2⟩ := Option.bind_eq_some_iff.1 H
      clear H
      refine t_while hz2 (fun (s : (Vec (BitVec 64) 8) × (BitVec 64) × (Int)) (g : Unit) => [(2, .pointer (some ⟨g_1, 0, none⟩)), (3, .pointer (some ⟨g_2, 0, none⟩)), (4, .pointer (some ⟨g_3, 0, none⟩)), (5, .pointer (some ⟨g_4, 0, none⟩)), (6, .pointer (some ⟨g_5, 0, none⟩)), (7, .int .i64 x13), (8, U64 s.2.1), (13, .int .i64 x13), (16, .int .i64 s.2.2)]) (fun (s : (Vec (BitVec 64) 8) × (BitVec 64) × (Int)) (g : Unit) => [(2, .pointer (some ⟨g_1, 0, none⟩)), (3, .pointer (some ⟨g_2, 0, none⟩)), (4, .pointer (some ⟨g_3, 0, none⟩)), (5, .pointer (some ⟨g_4, 0, none⟩)), (6, .pointer (some ⟨g_5, 0, none⟩)), (7, .int .i64 x13), (8, U64 s.2.1), (13, .int .i64 x13)]) (fun (s : (Vec (BitVec 64) 8) × (BitVec 64) × (Int)) (g : Unit) => Mm w [] h [.blk g_5 134 (cV U64 s.1) 8, .blk g_4 24 (cV U64 (Vec.rep 4 0#64)) 4, .blk g_3 24 (cV U64 (Vec.rep 4 0#64)) 4, .blk g_2 24 (cV U64 a1) 4, .blk g_1 24 (cV U64 a0) 4]) (fun (s : (Vec (BitVec 64) 8) × (BitVec 64) × (Int)) (g : Unit) => Mm w [] h [.blk g_5 134 (cV U64 s.1) 8, .blk g_4 24 (cV U64 (Vec.rep 4 0#64)) 4, .blk g_3 24 (cV U64 (Vec.rep 4 0#64)) 4, .blk g_2 24 (cV U64 a1) 4, .blk g_1 24 (cV U64 a0) 4]) (fun (s : (Vec (BitVec 64) 8) × (BitVec 64) × (Int)) (g : Unit) => True) (fun (s : (Vec (BitVec 64) 8) × (BitVec 64) × (Int)) (g : Unit) => True) () trivial (fun a w ha hw => ⟨ha.cons rfl (ha.cons rfl (ha.cons rfl (ha.cons rfl (ha.cons rfl (ha.cons rfl (ha.cons rfl (ha.cons rfl (ha.cons rfl (ha.nil))))))))), hw⟩) (fun Gn Gb s g e hφ H hn2 hb2 hr2 => ?_) (fun s g hzz hφ => ?_)
      ·
        obtain ⟨y_5_6, x8, x16⟩ := s
        change wide_Product.b2 x13 a0 a1 y_5_6 x8 x16 = some e at H
        unfold wide_Product.b2 at H
        clear hz2
        change T 68 _ _ _
        refine t_seq ?_
        refine t_region (fun ops hops => ?_)
        clear hops
        obtain ⟨x17, hx17, H⟩ := Let_elim H
        refine z_val (v := .bool x17) (by subst hx17; exact val_bin rfl rfl rfl rfl (i64_lss _ _ _)) rfl rfl rfl (fun _ _ _ => trivial) ?_
        clear hx17
        refine z_nil ?_
        refine t_seq ?_
        cases x17
        ·
          replace H := cond_f H
          refine t_cond_false rfl ?_
          refine t_exit rfl ?_
          obtain rfl := Option.some.inj H
          exact t_reach ((hb2 _ () rfl trivial).weak (fun a ha => ha.cons rfl (ha.cons rfl (ha.cons rfl (ha.cons rfl (ha.cons rfl (ha.cons rfl (ha.cons rfl (ha.cons rfl (ha.nil))))))))) (fun w hw => hw))
        ·
          replace H := cond_t H
          refine t_cond_true rfl ?_
          refine t_skip ?_
          refine t_seq ?_
          refine t_block ?_
          refine t_seq ?_
          refine t_region (fun ops hops => ?_)
          clear hops
          refine z_val (v := .int .i64 x16) (val_move rfl rfl) rfl rfl rfl (fun _ _ _ => trivial) ?_
          refine z_val (v := .int .i64 x16) (val_assign rfl rfl) rfl rfl rfl (fun _ _ _ => trivial) ?_
          refine z_nil ?_
          refine t_seq ?_
          refine t_plan (C := Mm w [] h [.blk g_5 134 (cV U64 y_5_6) 8, .blk g_4 24 (cV U64 (Vec.rep 4 0#64)) 4, .blk g_3 24 (cV U64 (Vec.rep 4 0#64)) 4, .blk g_2 24 (cV U64 a1) 4, .blk g_1 24 (cV U64 a0) 4]) [] [(0, true), (1, true), (2, true), (3, true), (4, true), (5, true), (6, false), (7, true), (8, true), (9, true), (10, true), (11, true)] (by kernel_rfl) (by kernel_rfl) (fun _ hw => hw.drew) (fun ops hops => ?_)
          clear hops
          refine z_still (v := .int .i64 x13) (val_move rfl rfl) rfl rfl rfl (fun _ hw => hw) ?_
          obtain ⟨hq_7, H⟩ := Chk_elim H
          refine z_still (v := .pointer (some ⟨g_1, x13.toNat, none⟩)) (val_idx0 rfl rfl rfl Try.underlying24 sz22 hq_7 rfl) rfl rfl rfl (fun _ hw => hw) ?_
          obtain ⟨x22, hx22, H⟩ := Let_elim H
          refine z_still (v := U64 x22) (by subst hx22; exact val_load1 rfl rfl Try.underlying22 rfl (fun _ hw => hw.cell (j := 4) rfl (cV_at _ (idx_lt hq_7)))) rfl rfl rfl (fun _ hw => hw) ?_
          clear hx22
          refine z_still (v := .int .i64 x16) (val_move rfl rfl) rfl rfl rfl (fun _ hw => hw) ?_
          obtain ⟨hq_8, H⟩ := Chk_elim H
          refine z_still (v := .pointer (some ⟨g_2, x16.toNat, none⟩)) (val_idx0 rfl rfl rfl Try.underlying24 sz22 hq_8 rfl) rfl rfl rfl (fun _ hw => hw) ?_
          obtain ⟨x25, hx25, H⟩ := Let_elim H
          refine z_still (v := U64 x25) (by subst hx25; exact val_load1 rfl rfl Try.underlying22 rfl (fun _ hw => hw.cell (j := 3) rfl (cV_at _ (idx_lt hq_8)))) rfl rfl rfl (fun _ hw => hw) ?_
          clear hx25
          obtain ⟨x26, hx, H⟩ := Option.bind_eq_some_iff.1 H
          refine z_made (v := .tuple #[U64 x26.1, U64 x26.2]) rfl Try.func68 nm68 bs68 rfl (fun w hw => bits_Mul64.calls x22 x25 x26 hx w) rfl rfl rfl (fun _ _ hw => hw) ?_
          clear hx
          refine z_still (v := .tuple #[U64 x26.1, U64 x26.2]) (val_move rfl rfl) rfl rfl rfl (fun _ hw => hw) ?_
          refine z_still (v := U64 x26.1) (val_extract rfl rfl rfl) rfl rfl rfl (fun _ hw => hw) ?_
          refine z_still (v := U64 x26.2) (val_extract rfl rfl rfl) rfl rfl rfl (fun _ hw => hw) ?_
          refine z_still (v := U64 x26.1) (val_assign rfl rfl) rfl rfl rfl (fun _ hw => hw) ?_
          refine z_still (v := U64 x26.2) (val_assign rfl rfl) rfl rfl rfl (fun _ hw => hw) ?_
          refine z_nil ?_
          refine t_seq ?_
          refine t_region (fun ops hops => ?_)
          clear hops
          refine z_val (v := U64 x26.2) (val_move rfl rfl) rfl rfl rfl (fun _ _ _ => trivial) ?_
          refine z_val (v := .int .i64 x13) (val_move rfl rfl) rfl rfl rfl (fun _ _ _ => trivial) ?_
          refine z_val (v := .int .i64 x16) (val_move rfl rfl) rfl rfl rfl (fun _ _ _ => trivial) ?_
          obtain ⟨x33, hx33, H⟩ := Let_elim H
          refine z_val (v := .int .i64 x33) (by subst hx33; exact val_bin rfl rfl rfl rfl (i64_add _ _ _)) rfl rfl rfl (fun _ _ _ => trivial) ?_
          clear hx33
          obtain ⟨hq_9, H⟩ := Chk_elim H
          refine z_val (v := .pointer (some ⟨g_5, x33.toNat, none⟩)) (val_idx0 rfl rfl rfl Try.underlying134 sz22 hq_9 rfl) rfl rfl rfl (fun _ _ _ => trivial) ?_
          obtain ⟨x35, hx35, H⟩ := Let_elim H
          refine z_val (v := U64 x35) (by subst hx35; exact val_load1 rfl rfl Try.underlying22 rfl (fun _ hw => hw.cell (j := 0) rfl (cV_at _ (idx_lt hq_9)))) rfl rfl rfl (fun _ _ _ => trivial) ?_
          clear hx35
          obtain ⟨hq_10, H⟩ := Chk_elim H
          obtain ⟨x36, hx36, H⟩ := Let_elim H
          refine z_val (v := .tuple #[U64 x36.1, U64 x36.2]) (by subst hx36; exact val_extern (vs := [U64 x26.2, U64 x35, U64 0#64]) rfl Try.func69 xn69 xb69 xx69 xf69 rfl (fun w hw => run_add64 hq_10)) rfl rfl rfl (fun _ _ _ => trivial) ?_
          clear hx36
          refine z_val (v := .tuple #[U64 x36.1, U64 x36.2]) (val_move rfl rfl) rfl rfl rfl (fun _ _ _ => trivial) ?_
          refine z_val (v := U64 x36.1) (val_extract rfl rfl rfl) rfl rfl rfl (fun _ _ _ => trivial) ?_
          refine z_val (v := U64 x36.2) (val_extract rfl rfl rfl) rfl rfl rfl (fun _ _ _ => trivial) ?_
          refine z_val (v := U64 x36.1) (val_assign rfl rfl) rfl rfl rfl (fun _ _ _ => trivial) ?_
          refine z_val (v := U64 x36.2) (val_assign rfl rfl) rfl rfl rfl (fun _ _ _ => trivial) ?_
          refine z_nil ?_
          refine t_seq ?_
          refine t_region (fun ops hops => ?_)
          clear hops
          refine z_val (v := U64 x26.1) (val_move rfl rfl) rfl rfl rfl (fun _ _ _ => trivial) ?_
          refine z_val (v := U64 x36.2) (val_move rfl rfl) rfl rfl rfl (fun _ _ _ => trivial) ?_
          obtain ⟨x41, hx41, H⟩ := Let_elim H
          refine z_val (v := U64 x41) (by subst hx41; exact val_bin rfl rfl rfl rfl (u64_add _ _ _)) rfl rfl rfl (fun _ _ _ => trivial) ?_
          clear hx41
          refine z_val (v := U64 x41) (val_assign rfl rfl) rfl rfl rfl (fun _ _ _ => trivial) ?_
          refine z_nil ?_
          refine t_seq ?_
          refine t_region (fun ops hops => ?_)
          clear hops
          refine z_val (v := U64 x36.1) (val_move rfl rfl) rfl rfl rfl (fun _ _ _ => trivial) ?_
          refine z_val (v := U64 x8) (val_move rfl rfl) rfl rfl rfl (fun _ _ _ => trivial) ?_
          obtain ⟨hq_11, H⟩ := Chk_elim H
          obtain ⟨x45, hx45, H⟩ := Let_elim H
          refine z_val (v := .tuple #[U64 x45.1, U64 x45.2]) (by subst hx45; exact val_extern (vs := [U64 x36.1, U64 x8, U64 0#64]) rfl Try.func69 xn69 xb69 xx69 xf69 rfl (fun w hw => run_add64 hq_11)) rfl rfl rfl (fun _ _ _ => trivial) ?_
          clear hx45
          refine z_val (v := .tuple #[U64 x45.1, U64 x45.2]) (val_move rfl rfl) rfl rfl rfl (fun _ _ _ => trivial) ?_
          refine z_val (v := U64 x45.1) (val_extract rfl rfl rfl) rfl rfl rfl (fun _ _ _ => trivial) ?_
          refine z_val (v := U64 x45.2) (val_extract rfl rfl rfl) rfl rfl rfl (fun _ _ _ => trivial) ?_
          refine z_val (v := U64 x45.1) (val_assign rfl rfl) rfl rfl rfl (fun _ _ _ => trivial) ?_
          refine z_val (v := U64 x45.2) (val_assign rfl rfl) rfl rfl rfl (fun _ _ _ => trivial) ?_
          refine z_nil ?_
          refine t_seq ?_
          refine t_region (fun ops hops => ?_)
          clear hops
          refine z_val (v := .int .i64 x13) (val_move rfl rfl) rfl rfl rfl (fun _ _ _ => trivial) ?_
          refine z_val (v := .int .i64 x16) (val_move rfl rfl) rfl rfl rfl (fun _ _ _ => trivial) ?_
          obtain ⟨x50, hx50, H⟩ := Let_elim H
          refine z_val (v := .int .i64 x50) (by subst hx50; exact val_bin rfl rfl rfl rfl (i64_add _ _ _)) rfl rfl rfl (fun _ _ _ => trivial) ?_
          clear hx50
          refine z_val (v := U64 x45.1) (val_move rfl rfl) rfl rfl rfl (fun _ _ _ => trivial) ?_
          obtain ⟨hq_12, H⟩ := Chk_elim H
          refine z_val (v := .pointer (some ⟨g_5, x50.toNat, none⟩)) (val_idx0 rfl rfl rfl Try.underlying134 sz22 hq_12 rfl) rfl rfl rfl (fun _ _ _ => trivial) ?_
          obtain ⟨y_5_13, hy_5_13, H⟩ := Let_elim H
          refine z_store1 (j := 0) (cs' := cV U64 y_5_13) (L' := [.blk g_5 134 (cV U64 y_5_13) 8, .blk g_4 24 (cV U64 (Vec.rep 4 0#64)) 4, .blk g_3 24 (cV U64 (Vec.rep 4 0#64)) 4, .blk g_2 24 (cV U64 a1) 4, .blk g_1 24 (cV U64 a0) 4]) rfl rfl rfl rfl rfl sz22 rfl (by rw [cV_len]; exact (idx_lt hq_12)) (by subst hy_5_13; exact cV_set (f := U64) _ _ x45.1) rfl rfl rfl (fun _ _ _ => trivial) ?_
          clear hy_5_13
          refine z_nil ?_
          refine t_region (fun ops hops => ?_)
          clear hops
          refine z_val (v := U64 x41) (val_move rfl rfl) rfl rfl rfl (fun _ _ _ => trivial) ?_
          refine z_val (v := U64 x45.2) (val_move rfl rfl) rfl rfl rfl (fun _ _ _ => trivial) ?_
          obtain ⟨x55, hx55, H⟩ := Let_elim H
          refine z_val (v := U64 x55) (by subst hx55; exact val_bin rfl rfl rfl rfl (u64_add _ _ _)) rfl rfl rfl (fun _ _ _ => trivial) ?_
          clear hx55
          refine z_val (v := U64 x55) (val_assign rfl rfl) rfl rfl rfl (fun _ _ _ => trivial) ?_
          refine z_nil ?_
          refine t_fin ?_
          refine t_region (fun ops hops => ?_)
          clear hops
          obtain ⟨x56, hx56, H⟩ := Let_elim H
          refine z_val (v := .int .i64 x56) (by subst hx56; exact val_bin rfl rfl rfl rfl (i64_add _ _ _)) rfl rfl rfl (fun _ _ _ => trivial) ?_
          clear hx56
          refine z_val (v := .int .i64 x56) (val_move rfl rfl) rfl rfl rfl (fun _ _ _ => trivial) ?_
          refine z_nil ?_
          obtain rfl := Option.some.inj H
          exact t_reach ((hn2 _ () rfl trivial).weak (fun a ha => ha.cons rfl (ha.cons rfl (ha.cons rfl (ha.cons rfl (ha.cons rfl (ha.cons rfl (ha.cons rfl (ha.cons rfl (ha.cons rfl (ha.nil)))))))))) (fun w hw => hw))
      ·
        obtain ⟨y_5_6, x8, x16⟩ := s
        subst hzz
        have H := HK2
        clear HK2 hz2
        replace H := sum_l H
        try dsimp only at H
        change T 68 _ _ _
        refine t_region (fun ops hops => ?_)
        clear hops
        refine z_val (v := .int .i64 x13) (val_move rfl rfl) rfl rfl rfl (fun _ _ _ => trivial) ?_
        obtain ⟨x58, hx58, H⟩ := Let_elim H
        refine z_val (v := .int .i64 x58) (by subst hx58; exact val_bin rfl rfl rfl rfl (i64_add _ _ _)) rfl rfl rfl (fun _ _ _ => trivial) ?_
        clear hx58
        refine z_val (v := U64 x8) (val_move rfl rfl) rfl rfl rfl (fun _ _ _ => trivial) ?_
        obtain ⟨hq_14, H⟩ := Chk_elim H
        refine z_val (v := .pointer (some ⟨g_5, x58.toNat, none⟩)) (val_idx0 rfl rfl rfl Try.underlying134 sz22 hq_14 rfl) rfl rfl rfl (fun _ _ _ => trivial) ?_
        obtain ⟨y_5_15, hy_5_15, H⟩ := Let_elim H
        refine z_store1 (j := 0) (cs' := cV U64 y_5_15) (L' := [.blk g_5 134 (cV U64 y_5_15) 8, .blk g_4 24 (cV U64 (Vec.rep 4 0#64)) 4, .blk g_3 24 (cV U64 (Vec.rep 4 0#64)) 4, .blk g_2 24 (cV U64 a1) 4, .blk g_1 24 (cV U64 a0) 4]) rfl rfl rfl rfl rfl sz22 rfl (by rw [cV_len]; exact (idx_lt hq_14)) (by subst hy_5_15; exact cV_set (f := U64) _ _ x8) rfl rfl rfl (fun _ _ _ => trivial) ?_
        clear hy_5_15
        refine z_nil ?_
        refine t_fin ?_
        refine t_region (fun ops hops => ?_)
        clear hops
        obtain ⟨x61, hx61, H⟩ := Let_elim H
        refine z_val (v := .int .i64 x61) (by subst hx61; exact val_bin rfl rfl rfl rfl (i64_add _ _ _)) rfl rfl rfl (fun _ _ _ => trivial) ?_
        clear hx61
        refine z_val (v := .int .i64 x61) (val_move rfl rfl) rfl rfl rfl (fun _ _ _ => trivial) ?_
        refine z_nil ?_
        obtain rfl := Option.some.inj H
        exact t_reach ((hn1 _ () rfl trivial).weak (fun a ha => ha.cons rfl (ha.cons rfl (ha.cons rfl (ha.cons rfl (ha.cons rfl (ha.cons rfl (ha.nil))))))) (fun w hw => hw))
  ·
    obtain ⟨y_5, x13⟩ := s
    subst hzz
    have H := HK1
    clear HK1 hz1
    replace H := sum_l H
    try dsimp only at H
    change T 68 _ _ _
    refine t_seq ?_
    refine t_plan (C := Mm w [] h [.blk g_5 134 (cV U64 y_5) 8]) [] [(0, true), (1, true), (2, true), (3, true), (4, true), (5, true), (6, false), (7, false)] (by kernel_rfl) (by kernel_rfl) (fun _ hw => hw.drew) (fun ops hops => ?_)
    clear hops
    obtain ⟨x62, hx62, H⟩ := Let_elim H
    have hln : 0 ≤ 4 ∧ 4 ≤ 8 := by decide
    have hl : x62.length = 4 - 0 := by subst hx62; exact sla_len _ hln.2
    obtain ⟨q_16, hq_17⟩ : ∃ z, z = (if 8 = 0 then 0 else 0) := ⟨_, rfl⟩
    obtain ⟨c_18, hc_190⟩ : ∃ z, z = 8 - 0 := ⟨_, rfl⟩
    have hc_19 : x62.length ≤ c_18 := by omega
    refine z_still (v := .slice (some ⟨g_5, q_16, none⟩) x62.length c_18) (val_sliceA (l := 0) (k := 4) rfl rfl Try.underlying134 sz22 (.inl ⟨rfl, rfl⟩) (.inr ⟨_, rfl, _, _, rfl, rfl⟩) hln.1 hln.2 (by rw [hl, hq_17, hc_190]; first | rfl | (congr 2; split <;> simp))) rfl rfl rfl (fun _ hw => hw.sel [0] rfl rfl) ?_
    obtain ⟨hq_20, H⟩ := Chk_elim H
    have hq_21 : q_16 = 0 := by rw [hq_17]; split <;> omega
    have hl_22 : 0 + 4 ≤ 8 := by omega
    refine z_still (v := .pointer (some ⟨g_5, q_16, none⟩)) (val_s2a rfl rfl Try.underlying24 hq_20) rfl rfl rfl (fun _ hw => hw.sel [0] rfl rfl) ?_
    obtain ⟨x64, hx64, H⟩ := Let_elim H
    refine z_still (v := .agg (cV U64 x64).toArray) (by subst hx64; exact val_loadR (off := q_16) (cs := cV U64 (y_5.part 0 4)) rfl rfl Try.underlying24 rfl (sz24.trans (congrArg some (cV_len _).symm)) (fun _ hw => by rw [hq_21]; exact hw.part_ (j := 0) rfl hl_22)) rfl rfl rfl (fun _ hw => hw.sel [0] rfl rfl) ?_
    clear hx64
    obtain ⟨x65, hx65, H⟩ := Let_elim H
    have hln_27 : 4 ≤ 8 ∧ 8 ≤ 8 := by decide
    have hl_28 : x65.length = 8 - 4 := by subst hx65; exact sla_len _ hln_27.2
    obtain ⟨q_23, hq_24⟩ : ∃ z, z = (if 8 = 4 then 0 else 4) := ⟨_, rfl⟩
    obtain ⟨c_25, hc_260⟩ : ∃ z, z = 8 - 4 := ⟨_, rfl⟩
    have hc_26 : x65.length ≤ c_25 := by omega
    refine z_still (v := .slice (some ⟨g_5, q_23, none⟩) x65.length c_25) (val_sliceA (l := 4) (k := 8) rfl rfl Try.underlying134 sz22 (.inr ⟨_, rfl, _, _, rfl, rfl⟩) (.inl ⟨rfl, rfl⟩) hln_27.1 hln_27.2 (by rw [hl_28, hq_24, hc_260]; first | rfl | (congr 2; split <;> simp))) rfl rfl rfl (fun _ hw => hw.sel [0] rfl rfl) ?_
    obtain ⟨hq_29, H⟩ := Chk_elim H
    have hq_30 : q_23 = 4 := by rw [hq_24]; split <;> omega
    have hl_31 : 4 + 4 ≤ 8 := by omega
    refine z_still (v := .pointer (some ⟨g_5, q_23, none⟩)) (val_s2a rfl rfl Try.underlying24 hq_29) rfl rfl rfl (fun _ hw => hw.sel [0] rfl rfl) ?_
    obtain ⟨x67, hx67, H⟩ := Let_elim H
    refine z_still (v := .agg (cV U64 x67).toArray) (by subst hx67; exact val_loadR (off := q_23) (cs := cV U64 (y_5.part 4 4)) rfl rfl Try.underlying24 rfl (sz24.trans (congrArg some (cV_len _).symm)) (fun _ hw => by rw [hq_30]; exact hw.part_ (j := 0) rfl hl_31)) rfl rfl rfl (fun _ hw => hw.sel [0] rfl rfl) ?_
    clear hx67
    refine z_storeA (j := 2) (cs' := cV U64 x64) (L' := [.blk g_5 134 (cV U64 y_5) 8, .blk g_4 24 (cV U64 (Vec.rep 4 0#64)) 4, .blk g_3 24 (cV U64 x64) 4]) rfl rfl rfl (cV_one (fun _ => rfl) _) sz24 rfl (cV_len _) rfl rfl rfl (fun _ _ hw => hw.sel [0] rfl rfl) ?_
    refine z_storeA (j := 1) (cs' := cV U64 x67) (L' := [.blk g_5 134 (cV U64 y_5) 8, .blk g_4 24 (cV U64 x67) 4, .blk g_3 24 (cV U64 x64) 4]) rfl rfl rfl (cV_one (fun _ => rfl) _) sz24 rfl (cV_len _) rfl rfl rfl (fun _ _ hw => hw.sel [0] rfl rfl) ?_
    refine z_nil ?_
    refine t_ret ?_
    obtain rfl := Option.some.inj H
    exact ret2 rfl (res_row (j := 2) rfl Try.underlying24 rfl sz24 rfl (cV_len _)) (res_row (j := 1) rfl Try.underlying24 rfl sz24 rfl (cV_len _)) (fun _ hw => ⟨rfl, hw.below⟩)
def smithyref19_Great.b1 (x16 : Int) (a0 : (Vec (BitVec 8) 20) × (Vec (BitVec 8) 20) × (Bool) × (BitVec 64) × (Vec (BitVec 64) 4) × (List (BitVec 8)) × (BitVec 64) × (Vec (BitVec 64) 4) × (Vec (BitVec 64) 4) × (List ((Vec (BitVec 8) 20) × (List (Vec (BitVec 64) 4))))) (x17 : Int) : Option (Ctl ((Int)) (Bool)) :=
  Let (decide (x17 < x16)) fun x18 => (bif x18 then Chk ((0 : Int) ≤ x17 ∧ x17 < (a0.2.2.2.2.2.2.2.2.2.length : Int)) <| Let (lget a0.2.2.2.2.2.2.2.2.2 x17.toNat) fun x23 => Let ((x23.2.length : Int)) fun x26 => Let (decide (30 < x26)) fun x27 => (bif x27 then some (.ret true) else Let (wi (x17 + 1)) fun x28 => some (.next x28)) else some (.brk x17))
def smithyref19_Great (a0 : (Vec (BitVec 8) 20) × (Vec (BitVec 8) 20) × (Bool) × (BitVec 64) × (Vec (BitVec 64) 4) × (List (BitVec 8)) × (BitVec 64) × (Vec (BitVec 64) 4) × (Vec (BitVec 64) 4) × (List ((Vec (BitVec 8) 20) × (List (Vec (BitVec 64) 4))))) : Option (Bool) :=
  Let ((a0.2.2.2.2.2.1.length : Int)) fun x6 => Let (decide (3000 < x6)) fun x7 => (bif x7 then some true else Let ((a0.2.2.2.2.2.2.2.2.2.length : Int)) fun x11 => Let (decide (30 < x11)) fun x12 => some x12).bind (fun x13 => (bif x13 then some true else Let ((a0.2.2.2.2.2.2.2.2.2.length : Int)) fun x16 => (wlx (σ := (Int)) (fun s => smithyref19_Great.b1 x16 a0 s) 0).bind (Sum.elim (fun x17 => some false) (fun r => some r))))
set_option maxRecDepth 100000 in
theorem smithyref19_Great.calls  (a0 : (Vec (BitVec 8) 20) × (Vec (BitVec 8) 20) × (Bool) × (BitVec 64) × (Vec (BitVec 64) 4) × (List (BitVec 8)) × (BitVec 64) × (Vec (BitVec 64) 4) × (Vec (BitVec 64) 4) × (List ((Vec (BitVec 8) 20) × (List (Vec (BitVec 64) 4))))) (A0 : Option Addr) (c0 : Nat) (A0_1 : Option Addr) (c0_2 : Nat) (r : Bool) (H : smithyref19_Great a0 = some r) (w : World) (hs0 : SlW w U8 A0 a0.2.2.2.2.2.1) (hc0 : a0.2.2.2.2.2.1.length ≤ c0) (hs0_3 : SlRW w R87 A0_1 a0.2.2.2.2.2.2.2.2.2) (hc0_4 : a0.2.2.2.2.2.2.2.2.2.length ≤ c0_2)  :
    Made Try.prog 12 #[.agg (cV U8 a0.1 ++ (cV U8 a0.2.1 ++ ([(.bool a0.2.2.1 : Value)] ++ ([(U64 a0.2.2.2.1 : Value)] ++ (cV U64 a0.2.2.2.2.1 ++ ([(.slice A0 a0.2.2.2.2.2.1.length c0 : Value)] ++ ([(U64 a0.2.2.2.2.2.2.1 : Value)] ++ (cV U64 a0.2.2.2.2.2.2.2.1 ++ (cV U64 a0.2.2.2.2.2.2.2.2.1 ++ ([(.slice A0_1 a0.2.2.2.2.2.2.2.2.2.length c0_2 : Value)])))))))))).toArray] w (.bool r) := by
  unfold smithyref19_Great at H
  replace hs0 := hs0.toH
  replace hs0_3 := hs0_3.toH
  have hM := Mm.start w (snap w) (snap_ok w)
  generalize snap w = h at *
  refine t_enter (vs := [.agg (cV U8 a0.1 ++ (cV U8 a0.2.1 ++ ([(.bool a0.2.2.1 : Value)] ++ ([(U64 a0.2.2.2.1 : Value)] ++ (cV U64 a0.2.2.2.2.1 ++ ([(.slice A0 a0.2.2.2.2.2.1.length c0 : Value)] ++ ([(U64 a0.2.2.2.2.2.2.1 : Value)] ++ (cV U64 a0.2.2.2.2.2.2.2.1 ++ (cV U64 a0.2.2.2.2.2.2.2.2.1 ++ ([(.slice A0_1 a0.2.2.2.2.2.2.2.2.2.length c0_2 : Value)])))))))))).toArray]) (n := 29) Try.func12 rfl rfl rfl hM ?_
  clear hM
  change T 29 _ _ _
  refine t_seq ?_
  refine t_region (fun ops hops => ?_)
  clear hops
  refine z_box (cs := cV U8 a0.1 ++ (cV U8 a0.2.1 ++ ([(.bool a0.2.2.1 : Value)] ++ ([(U64 a0.2.2.2.1 : Value)] ++ (cV U64 a0.2.2.2.2.1 ++ ([(.slice A0 a0.2.2.2.2.2.1.length c0 : Value)] ++ ([(U64 a0.2.2.2.2.2.2.1 : Value)] ++ (cV U64 a0.2.2.2.2.2.2.2.1 ++ (cV U64 a0.2.2.2.2.2.2.2.2.1 ++ ([(.slice A0_1 a0.2.2.2.2.2.2.2.2.2.length c0_2 : Value)])))))))))) (room := 57) rfl rfl rfl (by simp [cV_len]) rfl rfl rfl (fun _ _ _ _ => trivial) (fun g_5 => ?_)
  refine z_val (v := .bool false) (val_assign rfl rfl) rfl rfl rfl (fun _ _ _ => trivial) ?_
  refine z_nil ?_
  refine t_seq ?_
  refine t_seq ?_
  refine t_region (fun ops hops => ?_)
  refine z_val (v := .pointer (some ⟨g_5, 46, none⟩)) (val_fld0 (sz := 1) rfl rfl Try.underlying33 rfl rfl sz25 (by decide)) rfl rfl rfl (fun _ _ _ => trivial) ?_
  refine z_val (v := .slice A0 a0.2.2.2.2.2.1.length c0) (val_load1 rfl rfl Try.underlying25 rfl (fun _ hw => hw.cell (j := 0) (q := 46) rfl (cells_skip (n := 20) (k := 26) (cV_len _) (cells_skip (n := 20) (k := 6) (cV_len _) (cells_skip (n := 1) (k := 5) rfl (cells_skip (n := 1) (k := 4) rfl (cells_skip (n := 4) (k := 0) (cV_len _) (cells_here (k := 0) rfl)))))))) rfl rfl rfl (fun _ _ _ => trivial) ?_
  obtain ⟨x6, hx6, H⟩ := Let_elim H
  refine z_val (v := .int .i64 x6) (by subst hx6; exact val_len rfl rfl rfl Try.underlying25) rfl rfl rfl (fun _ _ _ => trivial) ?_
  clear hx6
  obtain ⟨x7, hx7, H⟩ := Let_elim H
  refine z_val (v := .bool x7) (by subst hx7; exact val_bin rfl rfl rfl rfl (i64_gtr _ _ _)) rfl rfl rfl (fun _ _ _ => trivial) ?_
  clear hx7
  refine z_val (v := .bool x7) (val_move rfl rfl) rfl rfl rfl (fun _ _ _ => trivial) ?_
  refine z_bind H 5 (fun (s : Bool) (_ : Unit) => [(1, .pointer (some ⟨g_5, 0, none⟩)), (13, .bool s)]) (fun _ _ => Mm w [] h [.blk g_5 33 (cV U8 a0.1 ++ (cV U8 a0.2.1 ++ ([(.bool a0.2.2.1 : Value)] ++ ([(U64 a0.2.2.2.1 : Value)] ++ (cV U64 a0.2.2.2.2.1 ++ ([(.slice A0 a0.2.2.2.2.2.1.length c0 : Value)] ++ ([(U64 a0.2.2.2.2.2.2.1 : Value)] ++ (cV U64 a0.2.2.2.2.2.2.2.1 ++ (cV U64 a0.2.2.2.2.2.2.2.2.1 ++ ([(.slice A0_1 a0.2.2.2.2.2.2.2.2.2.length c0_2 : Value)])))))))))) 57]) (fun _ _ => True) (fun Gr K s he HJ => ?_) (fun s g HB _ => ?_)
  ·
    clear H
    cases x7
    ·
      have H := cond_f he
      clear he
      refine z_val (v := .pointer (some ⟨g_5, 56, none⟩)) (val_fld0 (sz := 1) rfl rfl Try.underlying33 rfl rfl sz31 (by decide)) rfl rfl (by rw [hops]; rfl) (fun _ _ _ => trivial) ?_
      refine z_val (v := .slice A0_1 a0.2.2.2.2.2.2.2.2.2.length c0_2) (val_load1 rfl rfl Try.underlying31 rfl (fun _ hw => hw.cell (j := 0) (q := 56) rfl (cells_skip (n := 20) (k := 36) (cV_len _) (cells_skip (n := 20) (k := 16) (cV_len _) (cells_skip (n := 1) (k := 15) rfl (cells_skip (n := 1) (k := 14) rfl (cells_skip (n := 4) (k := 10) (cV_len _) (cells_skip (n := 1) (k := 9) rfl (cells_skip (n := 1) (k := 8) rfl (cells_skip (n := 4) (k := 4) (cV_len _) (cells_skip (n := 4) (k := 0) (cV_len _) rfl))))))))))) rfl rfl (by rw [hops]; rfl) (fun _ _ _ => trivial) ?_
      obtain ⟨x11, hx11, H⟩ := Let_elim H
      refine z_val (v := .int .i64 x11) (by subst hx11; exact val_len rfl rfl rfl Try.underlying31) rfl rfl (by rw [hops]; rfl) (fun _ _ _ => trivial) ?_
      clear hx11
      obtain ⟨x12, hx12, H⟩ := Let_elim H
      refine z_val (v := .bool x12) (by subst hx12; exact val_bin rfl rfl rfl rfl (i64_gtr _ _ _)) rfl rfl (by rw [hops]; rfl) (fun _ _ _ => trivial) ?_
      clear hx12
      refine z_val (v := .bool x12) (val_pick rfl rfl rfl) rfl rfl rfl (fun _ _ _ => trivial) ?_
      obtain rfl := Option.some.inj H
      exact z_nil ((K _ () HJ trivial).weak (fun a ha => ha.cons rfl (ha.cons rfl (ha.nil))) (fun w hw => hw))
    ·
      have H := cond_t he
      clear he
      refine z_skip rfl rfl (by rw [hops]; rfl) (fun _ _ _ => trivial) ?_
      refine z_skip rfl rfl (by rw [hops]; rfl) (fun _ _ _ => trivial) ?_
      refine z_skip rfl rfl (by rw [hops]; rfl) (fun _ _ _ => trivial) ?_
      refine z_skip rfl rfl (by rw [hops]; rfl) (fun _ _ _ => trivial) ?_
      refine z_val (v := .bool true) (val_pick rfl rfl rfl) rfl rfl rfl (fun _ _ _ => trivial) ?_
      obtain rfl := Option.some.inj H
      exact z_nil ((K _ () HJ trivial).weak (fun a ha => ha.cons rfl (ha.cons rfl (ha.nil))) (fun w hw => hw))
  ·
    replace H := HB
    clear HB
    obtain ⟨x13, rfl⟩ : ∃ x, x = s := ⟨_, rfl⟩
    change T 29 _ _ _
    refine z_nil ?_
    cases x13
    ·
      replace H := cond_f H
      refine t_cond_false rfl ?_
      refine t_skip ?_
      refine t_seq ?_
      refine t_seq ?_
      refine t_region (fun ops hops => ?_)
      clear hops
      refine z_val (v := .pointer (some ⟨g_5, 56, none⟩)) (val_fld0 (sz := 1) rfl rfl Try.underlying33 rfl rfl sz31 (by decide)) rfl rfl rfl (fun _ _ _ => trivial) ?_
      refine z_val (v := .slice A0_1 a0.2.2.2.2.2.2.2.2.2.length c0_2) (val_load1 rfl rfl Try.underlying31 rfl (fun _ hw => hw.cell (j := 0) (q := 56) rfl (cells_skip (n := 20) (k := 36) (cV_len _) (cells_skip (n := 20) (k := 16) (cV_len _) (cells_skip (n := 1) (k := 15) rfl (cells_skip (n := 1) (k := 14) rfl (cells_skip (n := 4) (k := 10) (cV_len _) (cells_skip (n := 1) (k := 9) rfl (cells_skip (n := 1) (k := 8) rfl (cells_skip (n := 4) (k := 4) (cV_len _) (cells_skip (n := 4) (k := 0) (cV_len _) rfl))))))))))) rfl rfl rfl (fun _ _ _ => trivial) ?_
      obtain ⟨x16, hx16, H⟩ := Let_elim H
      refine z_val (v := .int .i64 x16) (by subst hx16; exact val_len rfl rfl rfl Try.underlying31) rfl rfl rfl (fun _ _ _ => trivial) ?_
      clear hx16
      refine z_val (v := .int .i64 0) (val_move rfl rfl) rfl rfl rfl (fun _ _ _ => trivial) ?_
      refine z_nil ?_
      refine t_block ?_
      obtain ⟨z1, hz1, HK1⟩ := Option.bind_eq_some_iff.1 H
      clear H
      refine t_while hz1 (fun (s : (Int)) (g : Unit) => [(1, .pointer (some ⟨g_5, 0, none⟩)), (16, .int .i64 x16), (17, .int .i64 s)]) (fun (s : (Int)) (g : Unit) => []) (fun (s : (Int)) (g : Unit) => Mm w [] h [.blk g_5 33 (cV U8 a0.1 ++ (cV U8 a0.2.1 ++ ([(.bool a0.2.2.1 : Value)] ++ ([(U64 a0.2.2.2.1 : Value)] ++ (cV U64 a0.2.2.2.2.1 ++ ([(.slice A0 a0.2.2.2.2.2.1.length c0 : Value)] ++ ([(U64 a0.2.2.2.2.2.2.1 : Value)] ++ (cV U64 a0.2.2.2.2.2.2.2.1 ++ (cV U64 a0.2.2.2.2.2.2.2.2.1 ++ ([(.slice A0_1 a0.2.2.2.2.2.2.2.2.2.length c0_2 : Value)])))))))))) 57]) (fun (s : (Int)) (g : Unit) => Mm w [] h []) (fun (s : (Int)) (g : Unit) => True) (fun (s : (Int)) (g : Unit) => True) () trivial (fun a w ha hw => ⟨ha.cons rfl (ha.cons rfl (ha.cons rfl (ha.nil))), hw⟩) (fun Gn Gb s g e hφ H hn1 hb1 hr1 => ?_) (fun s g hzz hφ => ?_)
      ·
        obtain ⟨x17, rfl⟩ : ∃ x, x = s := ⟨_, rfl⟩
        change smithyref19_Great.b1 x16 a0 x17 = some e at H
        unfold smithyref19_Great.b1 at H
        clear hz1
        change T 29 _ _ _
        refine t_seq ?_
        refine t_region (fun ops hops => ?_)
        clear hops
        obtain ⟨x18, hx18, H⟩ := Let_elim H
        refine z_val (v := .bool x18) (by subst hx18; exact val_bin rfl rfl rfl rfl (i64_lss _ _ _)) rfl rfl rfl (fun _ _ _ => trivial) ?_
        clear hx18
        refine z_nil ?_
        refine t_seq ?_
        cases x18
        ·
          replace H := cond_f H
          refine t_cond_false rfl ?_
          refine t_exit rfl ?_
          obtain rfl := Option.some.inj H
          exact t_reach ((hb1 _ () rfl trivial).weak (fun a ha => ha.nil) (fun w hw => hw.sel [] rfl rfl))
        ·
          replace H := cond_t H
          refine t_cond_true rfl ?_
          refine t_skip ?_
          refine t_seq ?_
          refine t_block ?_
          refine t_seq ?_
          refine t_region (fun ops hops => ?_)
          clear hops
          refine z_val (v := .int .i64 x17) (val_move rfl rfl) rfl rfl rfl (fun _ _ _ => trivial) ?_
          refine z_val (v := .int .i64 x17) (val_assign rfl rfl) rfl rfl rfl (fun _ _ _ => trivial) ?_
          refine z_nil ?_
          refine t_seq ?_
          refine t_region (fun ops hops => ?_)
          clear hops
          refine z_val (v := .pointer (some ⟨g_5, 56, none⟩)) (val_fld0 (sz := 1) rfl rfl Try.underlying33 rfl rfl sz31 (by decide)) rfl rfl rfl (fun _ _ _ => trivial) ?_
          refine z_val (v := .slice A0_1 a0.2.2.2.2.2.2.2.2.2.length c0_2) (val_load1 rfl rfl Try.underlying31 rfl (fun _ hw => hw.cell (j := 0) (q := 56) rfl (cells_skip (n := 20) (k := 36) (cV_len _) (cells_skip (n := 20) (k := 16) (cV_len _) (cells_skip (n := 1) (k := 15) rfl (cells_skip (n := 1) (k := 14) rfl (cells_skip (n := 4) (k := 10) (cV_len _) (cells_skip (n := 1) (k := 9) rfl (cells_skip (n := 1) (k := 8) rfl (cells_skip (n := 4) (k := 4) (cV_len _) (cells_skip (n := 4) (k := 0) (cV_len _) rfl))))))))))) rfl rfl rfl (fun _ _ _ => trivial) ?_
          refine z_val (v := .int .i64 x17) (val_move rfl rfl) rfl rfl rfl (fun _ _ _ => trivial) ?_
          obtain ⟨hq_6, H⟩ := Chk_elim H
          obtain ⟨x23, hx23, H⟩ := Let_elim H
          obtain ⟨b_12, o_13, hA_14, cs, hr, hc_11⟩ := hs0_3.at_ (idx_lt hq_6)
          rw [← hx23] at hr
          clear hx23
          obtain ⟨A_7, c_8, rfl, hs_9, hc_10⟩ := hr
          refine z_val (v := .pointer (some ⟨b_12, o_13 + x17.toNat * 21, none⟩)) (val_idxR rfl rfl rfl Try.underlying31 sz87 hq_6 hA_14 rfl) rfl rfl rfl (fun _ _ _ => trivial) ?_
          refine z_val (v := .pointer (some ⟨b_12, o_13 + x17.toNat * 21 + 20, none⟩)) (val_fldB (sz := 1) rfl rfl Try.underlying87 rfl rfl sz85 (by decide)) rfl rfl rfl (fun _ _ _ => trivial) ?_
          refine z_val (v := .slice A_7 x23.2.length c_8) (val_load1 rfl rfl Try.underlying85 rfl (fun _ hw => cell_of hc_11 (k := 20) (cells_skip (n := 20) (k := 0) (cV_len _) rfl) hw)) rfl rfl rfl (fun _ _ _ => trivial) ?_
          obtain ⟨x26, hx26, H⟩ := Let_elim H
          refine z_val (v := .int .i64 x26) (by subst hx26; exact val_len rfl rfl rfl Try.underlying85) rfl rfl rfl (fun _ _ _ => trivial) ?_
          clear hx26
          obtain ⟨x27, hx27, H⟩ := Let_elim H
          refine z_val (v := .bool x27) (by subst hx27; exact val_bin rfl rfl rfl rfl (i64_gtr _ _ _)) rfl rfl rfl (fun _ _ _ => trivial) ?_
          clear hx27
          refine z_nil ?_
          cases x27
          ·
            replace H := cond_f H
            refine t_cond_false rfl ?_
            refine t_skip ?_
            refine t_fin ?_
            refine t_region (fun ops hops => ?_)
            clear hops
            obtain ⟨x28, hx28, H⟩ := Let_elim H
            refine z_val (v := .int .i64 x28) (by subst hx28; exact val_bin rfl rfl rfl rfl (i64_add _ _ _)) rfl rfl rfl (fun _ _ _ => trivial) ?_
            clear hx28
            refine z_val (v := .int .i64 x28) (val_move rfl rfl) rfl rfl rfl (fun _ _ _ => trivial) ?_
            refine z_nil ?_
            obtain rfl := Option.some.inj H
            exact t_reach ((hn1 _ () rfl trivial).weak (fun a ha => ha.cons rfl (ha.cons rfl (ha.cons rfl (ha.nil)))) (fun w hw => hw))
          ·
            replace H := cond_t H
            refine t_cond_true rfl ?_
            refine t_seq ?_
            refine t_region (fun ops hops => ?_)
            clear hops
            refine z_val (v := .bool true) (val_assign rfl rfl) rfl rfl rfl (fun _ _ _ => trivial) ?_
            refine z_nil ?_
            refine t_ret ?_
            obtain rfl := Option.some.inj H
            have hz := hr1 _ rfl
            subst hz
            obtain rfl := Option.some.inj HK1
            exact ret1 rfl (res_tmp rfl) (fun _ hw => ⟨rfl, hw.below⟩)
      ·
        obtain ⟨x17, rfl⟩ : ∃ x, x = s := ⟨_, rfl⟩
        subst hzz
        have H := HK1
        clear HK1 hz1
        replace H := sum_l H
        try dsimp only at H
        change T 29 _ _ _
        refine t_seq ?_
        refine t_region (fun ops hops => ?_)
        clear hops
        refine z_val (v := .bool false) (val_assign rfl rfl) rfl rfl rfl (fun _ _ _ => trivial) ?_
        refine z_nil ?_
        refine t_ret ?_
        obtain rfl := Option.some.inj H
        exact ret1 rfl (res_tmp rfl) (fun _ hw => ⟨rfl, hw.below⟩)
    ·
      replace H := cond_t H
      refine t_cond_true rfl ?_
      refine t_seq ?_
      refine t_region (fun ops hops => ?_)
      clear hops
      refine z_val (v := .bool true) (val_assign rfl rfl) rfl rfl rfl (fun _ _ _ => trivial) ?_
      refine z_nil ?_
      refine t_ret ?_
      obtain rfl := Option.some.inj H
      exact ret1 rfl (res_tmp rfl) (fun _ hw => ⟨rfl, hw.below⟩)
def tx_Cost (a0 : (Vec (BitVec 8) 20) × (Vec (BitVec 8) 20) × (Bool) × (BitVec 64) × (Vec (BitVec 64) 4) × (List (BitVec 8)) × (BitVec 64) × (Vec (BitVec 64) 4) × (Vec (BitVec 64) 4) × (List ((Vec (BitVec 8) 20) × (List (Vec (BitVec 64) 4))))) : Option ((Vec (BitVec 64) 4) × (Bool)) :=
  (word_Of a0.2.2.2.2.2.2.1).bind fun x10 => (wide_Product x10 a0.2.2.2.2.2.2.2.1).bind fun x13 => (word_Add x13.1 a0.2.2.2.2.1).bind fun x19 => Let (Vec.rep 4 0#64) fun x21 => Let (x13.2.l != x21.l) fun x22 => (bif x22 then some true else (word_Compare x19 x13.1).bind fun x26 => Let (decide (x26 < 0)) fun x27 => some x27).bind (fun x28 => (bif x28 then Let (Vec.rep 4 0#64) fun x29 => some (x29, false) else some (x19, true)))
set_option maxRecDepth 100000 in
theorem tx_Cost.calls  (a0 : (Vec (BitVec 8) 20) × (Vec (BitVec 8) 20) × (Bool) × (BitVec 64) × (Vec (BitVec 64) 4) × (List (BitVec 8)) × (BitVec 64) × (Vec (BitVec 64) 4) × (Vec (BitVec 64) 4) × (List ((Vec (BitVec 8) 20) × (List (Vec (BitVec 64) 4))))) (A0 : Option Addr) (c0 : Nat) (A0_1 : Option Addr) (c0_2 : Nat) (r : (Vec (BitVec 64) 4) × (Bool)) (H : tx_Cost a0 = some r) (w : World) (hs0 : SlW w U8 A0 a0.2.2.2.2.2.1) (hc0 : a0.2.2.2.2.2.1.length ≤ c0) (hs0_3 : SlRW w R87 A0_1 a0.2.2.2.2.2.2.2.2.2) (hc0_4 : a0.2.2.2.2.2.2.2.2.2.length ≤ c0_2)  :
    Made Try.prog 14 #[.agg (cV U8 a0.1 ++ (cV U8 a0.2.1 ++ ([(.bool a0.2.2.1 : Value)] ++ ([(U64 a0.2.2.2.1 : Value)] ++ (cV U64 a0.2.2.2.2.1 ++ ([(.slice A0 a0.2.2.2.2.2.1.length c0 : Value)] ++ ([(U64 a0.2.2.2.2.2.2.1 : Value)] ++ (cV U64 a0.2.2.2.2.2.2.2.1 ++ (cV U64 a0.2.2.2.2.2.2.2.2.1 ++ ([(.slice A0_1 a0.2.2.2.2.2.2.2.2.2.length c0_2 : Value)])))))))))).toArray] w (.tuple #[.agg (cV U64 r.1).toArray, .bool r.2]) := by
  unfold tx_Cost at H
  replace hs0 := hs0.toH
  replace hs0_3 := hs0_3.toH
  have hM := Mm.start w (snap w) (snap_ok w)
  generalize snap w = h at *
  refine t_enter (vs := [.agg (cV U8 a0.1 ++ (cV U8 a0.2.1 ++ ([(.bool a0.2.2.1 : Value)] ++ ([(U64 a0.2.2.2.1 : Value)] ++ (cV U64 a0.2.2.2.2.1 ++ ([(.slice A0 a0.2.2.2.2.2.1.length c0 : Value)] ++ ([(U64 a0.2.2.2.2.2.2.1 : Value)] ++ (cV U64 a0.2.2.2.2.2.2.2.1 ++ (cV U64 a0.2.2.2.2.2.2.2.2.1 ++ ([(.slice A0_1 a0.2.2.2.2.2.2.2.2.2.length c0_2 : Value)])))))))))).toArray]) (n := 31) Try.func14 rfl rfl rfl hM ?_
  clear hM
  change T 31 _ _ _
  refine t_seq ?_
  refine t_region (fun ops hops => ?_)
  clear hops
  refine z_box (cs := cV U8 a0.1 ++ (cV U8 a0.2.1 ++ ([(.bool a0.2.2.1 : Value)] ++ ([(U64 a0.2.2.2.1 : Value)] ++ (cV U64 a0.2.2.2.2.1 ++ ([(.slice A0 a0.2.2.2.2.2.1.length c0 : Value)] ++ ([(U64 a0.2.2.2.2.2.2.1 : Value)] ++ (cV U64 a0.2.2.2.2.2.2.2.1 ++ (cV U64 a0.2.2.2.2.2.2.2.2.1 ++ ([(.slice A0_1 a0.2.2.2.2.2.2.2.2.2.length c0_2 : Value)])))))))))) (room := 57) rfl rfl rfl (by simp [cV_len]) rfl rfl rfl (fun _ _ _ _ => trivial) (fun g_5 => ?_)
  refine z_alloc (cs := cV U64 (Vec.rep 4 0#64)) (room := 4) rfl ze24 rfl (cV_len _) rfl rfl rfl (fun _ _ _ _ => trivial) (fun g_6 => ?_)
  refine z_val (v := .bool false) (val_assign rfl rfl) rfl rfl rfl (fun _ _ _ => trivial) ?_
  refine z_nil ?_
  refine t_seq ?_
  refine T.weak (S' := [(0, .agg (cV U8 a0.1 ++ (cV U8 a0.2.1 ++ ([(.bool a0.2.2.1 : Value)] ++ ([(U64 a0.2.2.2.1 : Value)] ++ (cV U64 a0.2.2.2.2.1 ++ ([(.slice A0 a0.2.2.2.2.2.1.length c0 : Value)] ++ ([(U64 a0.2.2.2.2.2.2.1 : Value)] ++ (cV U64 a0.2.2.2.2.2.2.2.1 ++ (cV U64 a0.2.2.2.2.2.2.2.2.1 ++ ([(.slice A0_1 a0.2.2.2.2.2.2.2.2.2.length c0_2 : Value)])))))))))).toArray), (1, .pointer (some ⟨g_5, 0, none⟩)), (2, .pointer (some ⟨g_6, 0, none⟩)), (3, .bool false)]) (M' := Mm w [] h [.blk g_6 24 (cV U64 (Vec.rep 4 0#64)) 4, .blk g_5 33 (cV U8 a0.1 ++ (cV U8 a0.2.1 ++ ([(.bool a0.2.2.1 : Value)] ++ ([(U64 a0.2.2.2.1 : Value)] ++ (cV U64 a0.2.2.2.2.1 ++ ([(.slice A0 a0.2.2.2.2.2.1.length c0 : Value)] ++ ([(U64 a0.2.2.2.2.2.2.1 : Value)] ++ (cV U64 a0.2.2.2.2.2.2.2.1 ++ (cV U64 a0.2.2.2.2.2.2.2.2.1 ++ ([(.slice A0_1 a0.2.2.2.2.2.2.2.2.2.length c0_2 : Value)])))))))))) 57]) ?_ (fun a ha => ha.cons rfl (ha.cons rfl (ha.cons rfl (ha.cons rfl (ha.nil))))) (fun w hw => hw)
  obtain ⟨x10, hx, H⟩ := Option.bind_eq_some_iff.1 H
  obtain ⟨x13, hx_7, H⟩ := Option.bind_eq_some_iff.1 H
  refine t_free [⟨0, 8, [], fun _ => True, fun γ => .pointer (some ⟨g_5, 47, none⟩), fun γ => none⟩, ⟨1, 9, [0], fun _ => True, fun γ => U64 a0.2.2.2.2.2.2.1, fun γ => none⟩, ⟨2, 10, [0, 1], fun _ => True, fun γ => .agg (cV U64 x10).toArray, fun γ => none⟩, ⟨3, 11, [], fun _ => True, fun γ => .pointer (some ⟨g_5, 48, none⟩), fun γ => none⟩, ⟨4, 12, [3], fun _ => True, fun γ => .agg (cV U64 a0.2.2.2.2.2.2.2.1).toArray, fun γ => none⟩, ⟨5, 13, [0, 1, 2, 3, 4], fun _ => True, fun γ => .tuple #[.agg (cV U64 x13.1).toArray, .agg (cV U64 x13.2).toArray], fun γ => none⟩, ⟨6, 7, [0, 1, 2, 3, 4, 5], fun _ => True, fun γ => .tuple #[.agg (cV U64 x13.1).toArray, .agg (cV U64 x13.2).toArray], fun γ => none⟩, ⟨7, 14, [0, 1, 2, 3, 4, 5, 6], fun _ => True, fun γ => .agg (cV U64 x13.1).toArray, fun γ => none⟩, ⟨8, 15, [0, 1, 2, 3, 4, 5, 6], fun _ => True, fun γ => .agg (cV U64 x13.2).toArray, fun γ => none⟩, ⟨9, 4, [], fun _ => True, fun γ => .pointer (some ⟨(γ 9).2, 0, none⟩), fun γ => some (.blk (γ 9).2 24 (cV U64 (Vec.rep 4 0#64)) 4)⟩, ⟨10, 5, [], fun _ => True, fun γ => .pointer (some ⟨(γ 10).2, 0, none⟩), fun γ => some (.blk (γ 10).2 24 (cV U64 (Vec.rep 4 0#64)) 4)⟩] [(8, [0, 1, 2, 3, 4, 5, 6])] [11, 12] (by kernel_rfl) (by kernel_rfl) (And.intro ?_ (And.intro ?_ (And.intro ?_ (And.intro ?_ (And.intro ?_ (And.intro ?_ (And.intro ?_ (And.intro ?_ (And.intro ?_ (And.intro ?_ (And.intro ?_ (trivial)))))))))))) (And.intro ?_ (trivial)) (fun γ hφ ops => ?_)
  ·
    intro γ hφ
    show Makes _ 31 [(0, .agg (cV U8 a0.1 ++ (cV U8 a0.2.1 ++ ([(.bool a0.2.2.1 : Value)] ++ ([(U64 a0.2.2.2.1 : Value)] ++ (cV U64 a0.2.2.2.2.1 ++ ([(.slice A0 a0.2.2.2.2.2.1.length c0 : Value)] ++ ([(U64 a0.2.2.2.2.2.2.1 : Value)] ++ (cV U64 a0.2.2.2.2.2.2.2.1 ++ (cV U64 a0.2.2.2.2.2.2.2.2.1 ++ ([(.slice A0_1 a0.2.2.2.2.2.2.2.2.2.length c0_2 : Value)])))))))))).toArray), (1, .pointer (some ⟨g_5, 0, none⟩)), (2, .pointer (some ⟨g_6, 0, none⟩)), (3, .bool false)] (Mm w [] h [.blk g_6 24 (cV U64 (Vec.rep 4 0#64)) 4, .blk g_5 33 (cV U8 a0.1 ++ (cV U8 a0.2.1 ++ ([(.bool a0.2.2.1 : Value)] ++ ([(U64 a0.2.2.2.1 : Value)] ++ (cV U64 a0.2.2.2.2.1 ++ ([(.slice A0 a0.2.2.2.2.2.1.length c0 : Value)] ++ ([(U64 a0.2.2.2.2.2.2.1 : Value)] ++ (cV U64 a0.2.2.2.2.2.2.2.1 ++ (cV U64 a0.2.2.2.2.2.2.2.2.1 ++ ([(.slice A0_1 a0.2.2.2.2.2.2.2.2.2.length c0_2 : Value)])))))))))) 57]) _ (fun _ => True) (fun g => .pointer (some ⟨g_5, 47, none⟩)) (fun g => none)
    exact m_val (val_fld0 (sz := 1) rfl rfl Try.underlying33 rfl rfl sz22 (by decide))
  ·
    intro γ hφ
    show Makes _ 31 [(8, .pointer (some ⟨g_5, 47, none⟩)), (0, .agg (cV U8 a0.1 ++ (cV U8 a0.2.1 ++ ([(.bool a0.2.2.1 : Value)] ++ ([(U64 a0.2.2.2.1 : Value)] ++ (cV U64 a0.2.2.2.2.1 ++ ([(.slice A0 a0.2.2.2.2.2.1.length c0 : Value)] ++ ([(U64 a0.2.2.2.2.2.2.1 : Value)] ++ (cV U64 a0.2.2.2.2.2.2.2.1 ++ (cV U64 a0.2.2.2.2.2.2.2.2.1 ++ ([(.slice A0_1 a0.2.2.2.2.2.2.2.2.2.length c0_2 : Value)])))))))))).toArray), (1, .pointer (some ⟨g_5, 0, none⟩)), (2, .pointer (some ⟨g_6, 0, none⟩)), (3, .bool false)] (Mm w [] h [.blk g_6 24 (cV U64 (Vec.rep 4 0#64)) 4, .blk g_5 33 (cV U8 a0.1 ++ (cV U8 a0.2.1 ++ ([(.bool a0.2.2.1 : Value)] ++ ([(U64 a0.2.2.2.1 : Value)] ++ (cV U64 a0.2.2.2.2.1 ++ ([(.slice A0 a0.2.2.2.2.2.1.length c0 : Value)] ++ ([(U64 a0.2.2.2.2.2.2.1 : Value)] ++ (cV U64 a0.2.2.2.2.2.2.2.1 ++ (cV U64 a0.2.2.2.2.2.2.2.2.1 ++ ([(.slice A0_1 a0.2.2.2.2.2.2.2.2.2.length c0_2 : Value)])))))))))) 57]) _ (fun _ => True) (fun g => U64 a0.2.2.2.2.2.2.1) (fun g => none)
    exact m_val (val_load1 rfl rfl Try.underlying22 rfl (fun _ hw => hw.cell (j := 1) (q := 47) rfl (cells_skip (n := 20) (k := 27) (cV_len _) (cells_skip (n := 20) (k := 7) (cV_len _) (cells_skip (n := 1) (k := 6) rfl (cells_skip (n := 1) (k := 5) rfl (cells_skip (n := 4) (k := 1) (cV_len _) (cells_skip (n := 1) (k := 0) rfl (cells_here (k := 0) rfl)))))))))
  ·
    intro γ hφ
    show Makes _ 31 [(8, .pointer (some ⟨g_5, 47, none⟩)), (9, U64 a0.2.2.2.2.2.2.1), (0, .agg (cV U8 a0.1 ++ (cV U8 a0.2.1 ++ ([(.bool a0.2.2.1 : Value)] ++ ([(U64 a0.2.2.2.1 : Value)] ++ (cV U64 a0.2.2.2.2.1 ++ ([(.slice A0 a0.2.2.2.2.2.1.length c0 : Value)] ++ ([(U64 a0.2.2.2.2.2.2.1 : Value)] ++ (cV U64 a0.2.2.2.2.2.2.2.1 ++ (cV U64 a0.2.2.2.2.2.2.2.2.1 ++ ([(.slice A0_1 a0.2.2.2.2.2.2.2.2.2.length c0_2 : Value)])))))))))).toArray), (1, .pointer (some ⟨g_5, 0, none⟩)), (2, .pointer (some ⟨g_6, 0, none⟩)), (3, .bool false)] (Mm w [] h [.blk g_6 24 (cV U64 (Vec.rep 4 0#64)) 4, .blk g_5 33 (cV U8 a0.1 ++ (cV U8 a0.2.1 ++ ([(.bool a0.2.2.1 : Value)] ++ ([(U64 a0.2.2.2.1 : Value)] ++ (cV U64 a0.2.2.2.2.1 ++ ([(.slice A0 a0.2.2.2.2.2.1.length c0 : Value)] ++ ([(U64 a0.2.2.2.2.2.2.1 : Value)] ++ (cV U64 a0.2.2.2.2.2.2.2.1 ++ (cV U64 a0.2.2.2.2.2.2.2.2.1 ++ ([(.slice A0_1 a0.2.2.2.2.2.2.2.2.2.length c0_2 : Value)])))))))))) 57]) _ (fun _ => True) (fun g => .agg (cV U64 x10).toArray) (fun g => none)
    exact m_made rfl Try.func43 nm43 bs43 rfl (fun w hw => word_Of.calls a0.2.2.2.2.2.2.1 x10 hx w)
  ·
    intro γ hφ
    show Makes _ 31 [(0, .agg (cV U8 a0.1 ++ (cV U8 a0.2.1 ++ ([(.bool a0.2.2.1 : Value)] ++ ([(U64 a0.2.2.2.1 : Value)] ++ (cV U64 a0.2.2.2.2.1 ++ ([(.slice A0 a0.2.2.2.2.2.1.length c0 : Value)] ++ ([(U64 a0.2.2.2.2.2.2.1 : Value)] ++ (cV U64 a0.2.2.2.2.2.2.2.1 ++ (cV U64 a0.2.2.2.2.2.2.2.2.1 ++ ([(.slice A0_1 a0.2.2.2.2.2.2.2.2.2.length c0_2 : Value)])))))))))).toArray), (1, .pointer (some ⟨g_5, 0, none⟩)), (2, .pointer (some ⟨g_6, 0, none⟩)), (3, .bool false)] (Mm w [] h [.blk g_6 24 (cV U64 (Vec.rep 4 0#64)) 4, .blk g_5 33 (cV U8 a0.1 ++ (cV U8 a0.2.1 ++ ([(.bool a0.2.2.1 : Value)] ++ ([(U64 a0.2.2.2.1 : Value)] ++ (cV U64 a0.2.2.2.2.1 ++ ([(.slice A0 a0.2.2.2.2.2.1.length c0 : Value)] ++ ([(U64 a0.2.2.2.2.2.2.1 : Value)] ++ (cV U64 a0.2.2.2.2.2.2.2.1 ++ (cV U64 a0.2.2.2.2.2.2.2.2.1 ++ ([(.slice A0_1 a0.2.2.2.2.2.2.2.2.2.length c0_2 : Value)])))))))))) 57]) _ (fun _ => True) (fun g => .pointer (some ⟨g_5, 48, none⟩)) (fun g => none)
    exact m_val (val_fld0 (sz := 4) rfl rfl Try.underlying33 rfl rfl sz24 (by decide))
  ·
    intro γ hφ
    show Makes _ 31 [(11, .pointer (some ⟨g_5, 48, none⟩)), (0, .agg (cV U8 a0.1 ++ (cV U8 a0.2.1 ++ ([(.bool a0.2.2.1 : Value)] ++ ([(U64 a0.2.2.2.1 : Value)] ++ (cV U64 a0.2.2.2.2.1 ++ ([(.slice A0 a0.2.2.2.2.2.1.length c0 : Value)] ++ ([(U64 a0.2.2.2.2.2.2.1 : Value)] ++ (cV U64 a0.2.2.2.2.2.2.2.1 ++ (cV U64 a0.2.2.2.2.2.2.2.2.1 ++ ([(.slice A0_1 a0.2.2.2.2.2.2.2.2.2.length c0_2 : Value)])))))))))).toArray), (1, .pointer (some ⟨g_5, 0, none⟩)), (2, .pointer (some ⟨g_6, 0, none⟩)), (3, .bool false)] (Mm w [] h [.blk g_6 24 (cV U64 (Vec.rep 4 0#64)) 4, .blk g_5 33 (cV U8 a0.1 ++ (cV U8 a0.2.1 ++ ([(.bool a0.2.2.1 : Value)] ++ ([(U64 a0.2.2.2.1 : Value)] ++ (cV U64 a0.2.2.2.2.1 ++ ([(.slice A0 a0.2.2.2.2.2.1.length c0 : Value)] ++ ([(U64 a0.2.2.2.2.2.2.1 : Value)] ++ (cV U64 a0.2.2.2.2.2.2.2.1 ++ (cV U64 a0.2.2.2.2.2.2.2.2.1 ++ ([(.slice A0_1 a0.2.2.2.2.2.2.2.2.2.length c0_2 : Value)])))))))))) 57]) _ (fun _ => True) (fun g => .agg (cV U64 a0.2.2.2.2.2.2.2.1).toArray) (fun g => none)
    exact m_val (val_loadR (off := 48) (cs := cV U64 a0.2.2.2.2.2.2.2.1) rfl rfl Try.underlying24 rfl (sz24.trans (congrArg some (cV_len _).symm)) (fun _ hw => hw.range (j := 1) rfl 48 _ (seg_skip (n := 20) (k := 28) (cV_len _) (seg_skip (n := 20) (k := 8) (cV_len _) (seg_skip (n := 1) (k := 7) rfl (seg_skip (n := 1) (k := 6) rfl (seg_skip (n := 4) (k := 2) (cV_len _) (seg_skip (n := 1) (k := 1) rfl (seg_skip (n := 1) (k := 0) rfl seg_here)))))))))
  ·
    intro γ hφ
    show Makes _ 31 [(8, .pointer (some ⟨g_5, 47, none⟩)), (9, U64 a0.2.2.2.2.2.2.1), (10, .agg (cV U64 x10).toArray), (11, .pointer (some ⟨g_5, 48, none⟩)), (12, .agg (cV U64 a0.2.2.2.2.2.2.2.1).toArray), (0, .agg (cV U8 a0.1 ++ (cV U8 a0.2.1 ++ ([(.bool a0.2.2.1 : Value)] ++ ([(U64 a0.2.2.2.1 : Value)] ++ (cV U64 a0.2.2.2.2.1 ++ ([(.slice A0 a0.2.2.2.2.2.1.length c0 : Value)] ++ ([(U64 a0.2.2.2.2.2.2.1 : Value)] ++ (cV U64 a0.2.2.2.2.2.2.2.1 ++ (cV U64 a0.2.2.2.2.2.2.2.2.1 ++ ([(.slice A0_1 a0.2.2.2.2.2.2.2.2.2.length c0_2 : Value)])))))))))).toArray), (1, .pointer (some ⟨g_5, 0, none⟩)), (2, .pointer (some ⟨g_6, 0, none⟩)), (3, .bool false)] (Mm w [] h [.blk g_6 24 (cV U64 (Vec.rep 4 0#64)) 4, .blk g_5 33 (cV U8 a0.1 ++ (cV U8 a0.2.1 ++ ([(.bool a0.2.2.1 : Value)] ++ ([(U64 a0.2.2.2.1 : Value)] ++ (cV U64 a0.2.2.2.2.1 ++ ([(.slice A0 a0.2.2.2.2.2.1.length c0 : Value)] ++ ([(U64 a0.2.2.2.2.2.2.1 : Value)] ++ (cV U64 a0.2.2.2.2.2.2.2.1 ++ (cV U64 a0.2.2.2.2.2.2.2.2.1 ++ ([(.slice A0_1 a0.2.2.2.2.2.2.2.2.2.length c0_2 : Value)])))))))))) 57]) _ (fun _ => True) (fun g => .tuple #[.agg (cV U64 x13.1).toArray, .agg (cV U64 x13.2).toArray]) (fun g => none)
    exact m_made rfl Try.func42 nm42 bs42 rfl (fun w hw => wide_Product.calls x10 a0.2.2.2.2.2.2.2.1 x13 hx_7 w)
  ·
    intro γ hφ
    show Makes _ 31 [(8, .pointer (some ⟨g_5, 47, none⟩)), (9, U64 a0.2.2.2.2.2.2.1), (10, .agg (cV U64 x10).toArray), (11, .pointer (some ⟨g_5, 48, none⟩)), (12, .agg (cV U64 a0.2.2.2.2.2.2.2.1).toArray), (13, .tuple #[.agg (cV U64 x13.1).toArray, .agg (cV U64 x13.2).toArray]), (0, .agg (cV U8 a0.1 ++ (cV U8 a0.2.1 ++ ([(.bool a0.2.2.1 : Value)] ++ ([(U64 a0.2.2.2.1 : Value)] ++ (cV U64 a0.2.2.2.2.1 ++ ([(.slice A0 a0.2.2.2.2.2.1.length c0 : Value)] ++ ([(U64 a0.2.2.2.2.2.2.1 : Value)] ++ (cV U64 a0.2.2.2.2.2.2.2.1 ++ (cV U64 a0.2.2.2.2.2.2.2.2.1 ++ ([(.slice A0_1 a0.2.2.2.2.2.2.2.2.2.length c0_2 : Value)])))))))))).toArray), (1, .pointer (some ⟨g_5, 0, none⟩)), (2, .pointer (some ⟨g_6, 0, none⟩)), (3, .bool false)] (Mm w [] h [.blk g_6 24 (cV U64 (Vec.rep 4 0#64)) 4, .blk g_5 33 (cV U8 a0.1 ++ (cV U8 a0.2.1 ++ ([(.bool a0.2.2.1 : Value)] ++ ([(U64 a0.2.2.2.1 : Value)] ++ (cV U64 a0.2.2.2.2.1 ++ ([(.slice A0 a0.2.2.2.2.2.1.length c0 : Value)] ++ ([(U64 a0.2.2.2.2.2.2.1 : Value)] ++ (cV U64 a0.2.2.2.2.2.2.2.1 ++ (cV U64 a0.2.2.2.2.2.2.2.2.1 ++ ([(.slice A0_1 a0.2.2.2.2.2.2.2.2.2.length c0_2 : Value)])))))))))) 57]) _ (fun _ => True) (fun g => .tuple #[.agg (cV U64 x13.1).toArray, .agg (cV U64 x13.2).toArray]) (fun g => none)
    exact m_val (val_move rfl rfl)
  ·
    intro γ hφ
    show Makes _ 31 [(8, .pointer (some ⟨g_5, 47, none⟩)), (9, U64 a0.2.2.2.2.2.2.1), (10, .agg (cV U64 x10).toArray), (11, .pointer (some ⟨g_5, 48, none⟩)), (12, .agg (cV U64 a0.2.2.2.2.2.2.2.1).toArray), (13, .tuple #[.agg (cV U64 x13.1).toArray, .agg (cV U64 x13.2).toArray]), (7, .tuple #[.agg (cV U64 x13.1).toArray, .agg (cV U64 x13.2).toArray]), (0, .agg (cV U8 a0.1 ++ (cV U8 a0.2.1 ++ ([(.bool a0.2.2.1 : Value)] ++ ([(U64 a0.2.2.2.1 : Value)] ++ (cV U64 a0.2.2.2.2.1 ++ ([(.slice A0 a0.2.2.2.2.2.1.length c0 : Value)] ++ ([(U64 a0.2.2.2.2.2.2.1 : Value)] ++ (cV U64 a0.2.2.2.2.2.2.2.1 ++ (cV U64 a0.2.2.2.2.2.2.2.2.1 ++ ([(.slice A0_1 a0.2.2.2.2.2.2.2.2.2.length c0_2 : Value)])))))))))).toArray), (1, .pointer (some ⟨g_5, 0, none⟩)), (2, .pointer (some ⟨g_6, 0, none⟩)), (3, .bool false)] (Mm w [] h [.blk g_6 24 (cV U64 (Vec.rep 4 0#64)) 4, .blk g_5 33 (cV U8 a0.1 ++ (cV U8 a0.2.1 ++ ([(.bool a0.2.2.1 : Value)] ++ ([(U64 a0.2.2.2.1 : Value)] ++ (cV U64 a0.2.2.2.2.1 ++ ([(.slice A0 a0.2.2.2.2.2.1.length c0 : Value)] ++ ([(U64 a0.2.2.2.2.2.2.1 : Value)] ++ (cV U64 a0.2.2.2.2.2.2.2.1 ++ (cV U64 a0.2.2.2.2.2.2.2.2.1 ++ ([(.slice A0_1 a0.2.2.2.2.2.2.2.2.2.length c0_2 : Value)])))))))))) 57]) _ (fun _ => True) (fun g => .agg (cV U64 x13.1).toArray) (fun g => none)
    exact m_val (val_extract rfl rfl rfl)
  ·
    intro γ hφ
    show Makes _ 31 [(8, .pointer (some ⟨g_5, 47, none⟩)), (9, U64 a0.2.2.2.2.2.2.1), (10, .agg (cV U64 x10).toArray), (11, .pointer (some ⟨g_5, 48, none⟩)), (12, .agg (cV U64 a0.2.2.2.2.2.2.2.1).toArray), (13, .tuple #[.agg (cV U64 x13.1).toArray, .agg (cV U64 x13.2).toArray]), (7, .tuple #[.agg (cV U64 x13.1).toArray, .agg (cV U64 x13.2).toArray]), (0, .agg (cV U8 a0.1 ++ (cV U8 a0.2.1 ++ ([(.bool a0.2.2.1 : Value)] ++ ([(U64 a0.2.2.2.1 : Value)] ++ (cV U64 a0.2.2.2.2.1 ++ ([(.slice A0 a0.2.2.2.2.2.1.length c0 : Value)] ++ ([(U64 a0.2.2.2.2.2.2.1 : Value)] ++ (cV U64 a0.2.2.2.2.2.2.2.1 ++ (cV U64 a0.2.2.2.2.2.2.2.2.1 ++ ([(.slice A0_1 a0.2.2.2.2.2.2.2.2.2.length c0_2 : Value)])))))))))).toArray), (1, .pointer (some ⟨g_5, 0, none⟩)), (2, .pointer (some ⟨g_6, 0, none⟩)), (3, .bool false)] (Mm w [] h [.blk g_6 24 (cV U64 (Vec.rep 4 0#64)) 4, .blk g_5 33 (cV U8 a0.1 ++ (cV U8 a0.2.1 ++ ([(.bool a0.2.2.1 : Value)] ++ ([(U64 a0.2.2.2.1 : Value)] ++ (cV U64 a0.2.2.2.2.1 ++ ([(.slice A0 a0.2.2.2.2.2.1.length c0 : Value)] ++ ([(U64 a0.2.2.2.2.2.2.1 : Value)] ++ (cV U64 a0.2.2.2.2.2.2.2.1 ++ (cV U64 a0.2.2.2.2.2.2.2.2.1 ++ ([(.slice A0_1 a0.2.2.2.2.2.2.2.2.2.length c0_2 : Value)])))))))))) 57]) _ (fun _ => True) (fun g => .agg (cV U64 x13.2).toArray) (fun g => none)
    exact m_val (val_extract rfl rfl rfl)
  ·
    intro γ hφ
    show Makes _ 31 [(0, .agg (cV U8 a0.1 ++ (cV U8 a0.2.1 ++ ([(.bool a0.2.2.1 : Value)] ++ ([(U64 a0.2.2.2.1 : Value)] ++ (cV U64 a0.2.2.2.2.1 ++ ([(.slice A0 a0.2.2.2.2.2.1.length c0 : Value)] ++ ([(U64 a0.2.2.2.2.2.2.1 : Value)] ++ (cV U64 a0.2.2.2.2.2.2.2.1 ++ (cV U64 a0.2.2.2.2.2.2.2.2.1 ++ ([(.slice A0_1 a0.2.2.2.2.2.2.2.2.2.length c0_2 : Value)])))))))))).toArray), (1, .pointer (some ⟨g_5, 0, none⟩)), (2, .pointer (some ⟨g_6, 0, none⟩)), (3, .bool false)] (Mm w [] h [.blk g_6 24 (cV U64 (Vec.rep 4 0#64)) 4, .blk g_5 33 (cV U8 a0.1 ++ (cV U8 a0.2.1 ++ ([(.bool a0.2.2.1 : Value)] ++ ([(U64 a0.2.2.2.1 : Value)] ++ (cV U64 a0.2.2.2.2.1 ++ ([(.slice A0 a0.2.2.2.2.2.1.length c0 : Value)] ++ ([(U64 a0.2.2.2.2.2.2.1 : Value)] ++ (cV U64 a0.2.2.2.2.2.2.2.1 ++ (cV U64 a0.2.2.2.2.2.2.2.2.1 ++ ([(.slice A0_1 a0.2.2.2.2.2.2.2.2.2.length c0_2 : Value)])))))))))) 57]) _ (fun _ => True) (fun g => .pointer (some ⟨g.2, 0, none⟩)) (fun g => some (.blk g.2 24 (cV U64 (Vec.rep 4 0#64)) 4))
    exact m_alloc (cs := cV U64 (Vec.rep 4 0#64)) (room := 4) rfl ze24 rfl (cV_len _)
  ·
    intro γ hφ
    show Makes _ 31 [(0, .agg (cV U8 a0.1 ++ (cV U8 a0.2.1 ++ ([(.bool a0.2.2.1 : Value)] ++ ([(U64 a0.2.2.2.1 : Value)] ++ (cV U64 a0.2.2.2.2.1 ++ ([(.slice A0 a0.2.2.2.2.2.1.length c0 : Value)] ++ ([(U64 a0.2.2.2.2.2.2.1 : Value)] ++ (cV U64 a0.2.2.2.2.2.2.2.1 ++ (cV U64 a0.2.2.2.2.2.2.2.2.1 ++ ([(.slice A0_1 a0.2.2.2.2.2.2.2.2.2.length c0_2 : Value)])))))))))).toArray), (1, .pointer (some ⟨g_5, 0, none⟩)), (2, .pointer (some ⟨g_6, 0, none⟩)), (3, .bool false)] (Mm w [] h [.blk g_6 24 (cV U64 (Vec.rep 4 0#64)) 4, .blk g_5 33 (cV U8 a0.1 ++ (cV U8 a0.2.1 ++ ([(.bool a0.2.2.1 : Value)] ++ ([(U64 a0.2.2.2.1 : Value)] ++ (cV U64 a0.2.2.2.2.1 ++ ([(.slice A0 a0.2.2.2.2.2.1.length c0 : Value)] ++ ([(U64 a0.2.2.2.2.2.2.1 : Value)] ++ (cV U64 a0.2.2.2.2.2.2.2.1 ++ (cV U64 a0.2.2.2.2.2.2.2.2.1 ++ ([(.slice A0_1 a0.2.2.2.2.2.2.2.2.2.length c0_2 : Value)])))))))))) 57]) _ (fun _ => True) (fun g => .pointer (some ⟨g.2, 0, none⟩)) (fun g => some (.blk g.2 24 (cV U64 (Vec.rep 4 0#64)) 4))
    exact m_alloc (cs := cV U64 (Vec.rep 4 0#64)) (room := 4) rfl ze24 rfl (cV_len _)
  ·
    intro γ hφ
    exact ⟨_, (show Val _ 31 [(8, .pointer (some ⟨g_5, 47, none⟩)), (9, U64 a0.2.2.2.2.2.2.1), (10, .agg (cV U64 x10).toArray), (11, .pointer (some ⟨g_5, 48, none⟩)), (12, .agg (cV U64 a0.2.2.2.2.2.2.2.1).toArray), (13, .tuple #[.agg (cV U64 x13.1).toArray, .agg (cV U64 x13.2).toArray]), (7, .tuple #[.agg (cV U64 x13.1).toArray, .agg (cV U64 x13.2).toArray]), (0, .agg (cV U8 a0.1 ++ (cV U8 a0.2.1 ++ ([(.bool a0.2.2.1 : Value)] ++ ([(U64 a0.2.2.2.1 : Value)] ++ (cV U64 a0.2.2.2.2.1 ++ ([(.slice A0 a0.2.2.2.2.2.1.length c0 : Value)] ++ ([(U64 a0.2.2.2.2.2.2.1 : Value)] ++ (cV U64 a0.2.2.2.2.2.2.2.1 ++ (cV U64 a0.2.2.2.2.2.2.2.2.1 ++ ([(.slice A0_1 a0.2.2.2.2.2.2.2.2.2.length c0_2 : Value)])))))))))).toArray), (1, .pointer (some ⟨g_5, 0, none⟩)), (2, .pointer (some ⟨g_6, 0, none⟩)), (3, .bool false)] (fun _ => True) _ (.agg (cV U64 x13.2).toArray) from val_extract rfl rfl rfl)⟩
  change T 31 [(8, .pointer (some ⟨g_5, 47, none⟩)), (9, U64 a0.2.2.2.2.2.2.1), (10, .agg (cV U64 x10).toArray), (11, .pointer (some ⟨g_5, 48, none⟩)), (12, .agg (cV U64 a0.2.2.2.2.2.2.2.1).toArray), (13, .tuple #[.agg (cV U64 x13.1).toArray, .agg (cV U64 x13.2).toArray]), (7, .tuple #[.agg (cV U64 x13.1).toArray, .agg (cV U64 x13.2).toArray]), (14, .agg (cV U64 x13.1).toArray), (15, .agg (cV U64 x13.2).toArray), (4, .pointer (some ⟨(γ 9).2, 0, none⟩)), (5, .pointer (some ⟨(γ 10).2, 0, none⟩)), (0, .agg (cV U8 a0.1 ++ (cV U8 a0.2.1 ++ ([(.bool a0.2.2.1 : Value)] ++ ([(U64 a0.2.2.2.1 : Value)] ++ (cV U64 a0.2.2.2.2.1 ++ ([(.slice A0 a0.2.2.2.2.2.1.length c0 : Value)] ++ ([(U64 a0.2.2.2.2.2.2.1 : Value)] ++ (cV U64 a0.2.2.2.2.2.2.2.1 ++ (cV U64 a0.2.2.2.2.2.2.2.2.1 ++ ([(.slice A0_1 a0.2.2.2.2.2.2.2.2.2.length c0_2 : Value)])))))))))).toArray), (1, .pointer (some ⟨g_5, 0, none⟩)), (2, .pointer (some ⟨g_6, 0, none⟩)), (3, .bool false)] (Mm w [] h [.blk (γ 9).2 24 (cV U64 (Vec.rep 4 0#64)) 4, .blk (γ 10).2 24 (cV U64 (Vec.rep 4 0#64)) 4, .blk g_6 24 (cV U64 (Vec.rep 4 0#64)) 4, .blk g_5 33 (cV U8 a0.1 ++ (cV U8 a0.2.1 ++ ([(.bool a0.2.2.1 : Value)] ++ ([(U64 a0.2.2.2.1 : Value)] ++ (cV U64 a0.2.2.2.2.1 ++ ([(.slice A0 a0.2.2.2.2.2.1.length c0 : Value)] ++ ([(U64 a0.2.2.2.2.2.2.1 : Value)] ++ (cV U64 a0.2.2.2.2.2.2.2.1 ++ (cV U64 a0.2.2.2.2.2.2.2.2.1 ++ ([(.slice A0_1 a0.2.2.2.2.2.2.2.2.2.length c0_2 : Value)])))))))))) 57]) _
  generalize (γ 9).2 = g_10
  generalize (γ 10).2 = g_11
  refine z_storeA (j := 0) (cs' := cV U64 x13.1) (L' := [.blk g_10 24 (cV U64 x13.1) 4, .blk g_11 24 (cV U64 (Vec.rep 4 0#64)) 4, .blk g_6 24 (cV U64 (Vec.rep 4 0#64)) 4, .blk g_5 33 (cV U8 a0.1 ++ (cV U8 a0.2.1 ++ ([(.bool a0.2.2.1 : Value)] ++ ([(U64 a0.2.2.2.1 : Value)] ++ (cV U64 a0.2.2.2.2.1 ++ ([(.slice A0 a0.2.2.2.2.2.1.length c0 : Value)] ++ ([(U64 a0.2.2.2.2.2.2.1 : Value)] ++ (cV U64 a0.2.2.2.2.2.2.2.1 ++ (cV U64 a0.2.2.2.2.2.2.2.2.1 ++ ([(.slice A0_1 a0.2.2.2.2.2.2.2.2.2.length c0_2 : Value)])))))))))) 57]) rfl rfl rfl (cV_one (fun _ => rfl) _) sz24 rfl (cV_len _) rfl rfl rfl (fun _ _ _ => trivial) ?_
  refine z_storeA (j := 1) (cs' := cV U64 x13.2) (L' := [.blk g_10 24 (cV U64 x13.1) 4, .blk g_11 24 (cV U64 x13.2) 4, .blk g_6 24 (cV U64 (Vec.rep 4 0#64)) 4, .blk g_5 33 (cV U8 a0.1 ++ (cV U8 a0.2.1 ++ ([(.bool a0.2.2.1 : Value)] ++ ([(U64 a0.2.2.2.1 : Value)] ++ (cV U64 a0.2.2.2.2.1 ++ ([(.slice A0 a0.2.2.2.2.2.1.length c0 : Value)] ++ ([(U64 a0.2.2.2.2.2.2.1 : Value)] ++ (cV U64 a0.2.2.2.2.2.2.2.1 ++ (cV U64 a0.2.2.2.2.2.2.2.2.1 ++ ([(.slice A0_1 a0.2.2.2.2.2.2.2.2.2.length c0_2 : Value)])))))))))) 57]) rfl rfl rfl (cV_one (fun _ => rfl) _) sz24 rfl (cV_len _) rfl rfl rfl (fun _ _ _ => trivial) ?_
  refine z_nil ?_
  refine t_seq ?_
  refine t_region (fun ops hops => ?_)
  clear hops
  refine z_val (v := .agg (cV U64 x13.1).toArray) (val_loadR (off := 0) (cs := cV U64 x13.1) rfl rfl Try.underlying24 rfl (sz24.trans (congrArg some (cV_len _).symm)) (fun _ hw => hw.whole (j := 0) rfl)) rfl rfl rfl (fun _ _ _ => trivial) ?_
  refine z_val (v := .pointer (some ⟨g_5, 42, none⟩)) (val_fld0 (sz := 4) rfl rfl Try.underlying33 rfl rfl sz24 (by decide)) rfl rfl rfl (fun _ _ _ => trivial) ?_
  refine z_val (v := .agg (cV U64 a0.2.2.2.2.1).toArray) (val_loadR (off := 42) (cs := cV U64 a0.2.2.2.2.1) rfl rfl Try.underlying24 rfl (sz24.trans (congrArg some (cV_len _).symm)) (fun _ hw => hw.range (j := 3) rfl 42 _ (seg_skip (n := 20) (k := 22) (cV_len _) (seg_skip (n := 20) (k := 2) (cV_len _) (seg_skip (n := 1) (k := 1) rfl (seg_skip (n := 1) (k := 0) rfl seg_here)))))) rfl rfl rfl (fun _ _ _ => trivial) ?_
  obtain ⟨x19, hx_12, H⟩ := Option.bind_eq_some_iff.1 H
  refine z_made (v := .agg (cV U64 x19).toArray) rfl Try.func44 nm44 bs44 rfl (fun w hw => word_Add.calls x13.1 a0.2.2.2.2.1 x19 hx_12 w) rfl rfl rfl (fun _ _ _ => trivial) ?_
  clear hx_12
  refine z_alloc (cs := cV U64 (Vec.rep 4 0#64)) (room := 4) rfl ze24 rfl (cV_len _) rfl rfl rfl (fun _ _ _ _ => trivial) (fun g_13 => ?_)
  refine z_storeA (j := 0) (cs' := cV U64 x19) (L' := [.blk g_13 24 (cV U64 x19) 4, .blk g_10 24 (cV U64 x13.1) 4, .blk g_11 24 (cV U64 x13.2) 4, .blk g_6 24 (cV U64 (Vec.rep 4 0#64)) 4, .blk g_5 33 (cV U8 a0.1 ++ (cV U8 a0.2.1 ++ ([(.bool a0.2.2.1 : Value)] ++ ([(U64 a0.2.2.2.1 : Value)] ++ (cV U64 a0.2.2.2.2.1 ++ ([(.slice A0 a0.2.2.2.2.2.1.length c0 : Value)] ++ ([(U64 a0.2.2.2.2.2.2.1 : Value)] ++ (cV U64 a0.2.2.2.2.2.2.2.1 ++ (cV U64 a0.2.2.2.2.2.2.2.2.1 ++ ([(.slice A0_1 a0.2.2.2.2.2.2.2.2.2.length c0_2 : Value)])))))))))) 57]) rfl rfl rfl (cV_one (fun _ => rfl) _) sz24 rfl (cV_len _) rfl rfl rfl (fun _ _ _ => trivial) ?_
  refine z_nil ?_
  refine t_seq ?_
  refine t_seq ?_
  refine t_region (fun ops hops => ?_)
  refine z_val (v := .agg (cV U64 x13.2).toArray) (val_loadR (off := 0) (cs := cV U64 x13.2) rfl rfl Try.underlying24 rfl (sz24.trans (congrArg some (cV_len _).symm)) (fun _ hw => hw.whole (j := 2) rfl)) rfl rfl rfl (fun _ _ _ => trivial) ?_
  obtain ⟨x21, hx21, H⟩ := Let_elim H
  refine z_val (v := .agg (cV U64 x21).toArray) (by subst hx21; exact val_build (vs := []) rfl rfl (fun w => by kernel_rfl)) rfl rfl rfl (fun _ _ _ => trivial) ?_
  clear hx21
  obtain ⟨x22, hx22, H⟩ := Let_elim H
  refine z_val (v := .bool x22) (by subst hx22; exact val_bina rfl rfl rfl eg24 (fun w => vec_neq U64_inj (P := Try.prog) Try.underlying24 pk22 Try.underlying22 ce22 w _ _)) rfl rfl rfl (fun _ _ _ => trivial) ?_
  clear hx22
  refine z_val (v := .bool x22) (val_move rfl rfl) rfl rfl rfl (fun _ _ _ => trivial) ?_
  refine z_bind H 5 (fun (s : Bool) (_ : Unit) => [(2, .pointer (some ⟨g_6, 0, none⟩)), (6, .pointer (some ⟨g_13, 0, none⟩)), (28, .bool s)]) (fun _ _ => Mm w [] h [.blk g_13 24 (cV U64 x19) 4, .blk g_10 24 (cV U64 x13.1) 4, .blk g_11 24 (cV U64 x13.2) 4, .blk g_6 24 (cV U64 (Vec.rep 4 0#64)) 4, .blk g_5 33 (cV U8 a0.1 ++ (cV U8 a0.2.1 ++ ([(.bool a0.2.2.1 : Value)] ++ ([(U64 a0.2.2.2.1 : Value)] ++ (cV U64 a0.2.2.2.2.1 ++ ([(.slice A0 a0.2.2.2.2.2.1.length c0 : Value)] ++ ([(U64 a0.2.2.2.2.2.2.1 : Value)] ++ (cV U64 a0.2.2.2.2.2.2.2.1 ++ (cV U64 a0.2.2.2.2.2.2.2.2.1 ++ ([(.slice A0_1 a0.2.2.2.2.2.2.2.2.2.length c0_2 : Value)])))))))))) 57]) (fun _ _ => True) (fun Gr K s he HJ => ?_) (fun s g HB _ => ?_)
  ·
    clear H
    cases x22
    ·
      have H := cond_f he
      clear he
      refine z_val (v := .agg (cV U64 x19).toArray) (val_loadR (off := 0) (cs := cV U64 x19) rfl rfl Try.underlying24 rfl (sz24.trans (congrArg some (cV_len _).symm)) (fun _ hw => hw.whole (j := 0) rfl)) rfl rfl (by rw [hops]; rfl) (fun _ _ _ => trivial) ?_
      refine z_val (v := .agg (cV U64 x13.1).toArray) (val_loadR (off := 0) (cs := cV U64 x13.1) rfl rfl Try.underlying24 rfl (sz24.trans (congrArg some (cV_len _).symm)) (fun _ hw => hw.whole (j := 1) rfl)) rfl rfl (by rw [hops]; rfl) (fun _ _ _ => trivial) ?_
      obtain ⟨x26, hx_14, H⟩ := Option.bind_eq_some_iff.1 H
      refine z_made (v := .int .i64 x26) rfl Try.func45 nm45 bs45 rfl (fun w hw => word_Compare.calls x19 x13.1 x26 hx_14 w) rfl rfl (by rw [hops]; rfl) (fun _ _ _ => trivial) ?_
      clear hx_14
      obtain ⟨x27, hx27, H⟩ := Let_elim H
      refine z_val (v := .bool x27) (by subst hx27; exact val_bin rfl rfl rfl rfl (i64_lss _ _ _)) rfl rfl (by rw [hops]; rfl) (fun _ _ _ => trivial) ?_
      clear hx27
      refine z_val (v := .bool x27) (val_pick rfl rfl rfl) rfl rfl rfl (fun _ _ _ => trivial) ?_
      obtain rfl := Option.some.inj H
      exact z_nil ((K _ () HJ trivial).weak (fun a ha => ha.cons rfl (ha.cons rfl (ha.cons rfl (ha.nil)))) (fun w hw => hw))
    ·
      have H := cond_t he
      clear he
      refine z_skip rfl rfl (by rw [hops]; rfl) (fun _ _ _ => trivial) ?_
      refine z_skip rfl rfl (by rw [hops]; rfl) (fun _ _ _ => trivial) ?_
      refine z_skip rfl rfl (by rw [hops]; rfl) (fun _ _ _ => trivial) ?_
      refine z_skip rfl rfl (by rw [hops]; rfl) (fun _ _ _ => trivial) ?_
      refine z_val (v := .bool true) (val_pick rfl rfl rfl) rfl rfl rfl (fun _ _ _ => trivial) ?_
      obtain rfl := Option.some.inj H
      exact z_nil ((K _ () HJ trivial).weak (fun a ha => ha.cons rfl (ha.cons rfl (ha.cons rfl (ha.nil)))) (fun w hw => hw))
  ·
    replace H := HB
    clear HB
    obtain ⟨x28, rfl⟩ : ∃ x, x = s := ⟨_, rfl⟩
    change T 31 _ _ _
    refine z_nil ?_
    cases x28
    ·
      replace H := cond_f H
      refine t_cond_false rfl ?_
      refine t_skip ?_
      refine t_seq ?_
      refine t_region (fun ops hops => ?_)
      clear hops
      refine z_val (v := .agg (cV U64 x19).toArray) (val_loadR (off := 0) (cs := cV U64 x19) rfl rfl Try.underlying24 rfl (sz24.trans (congrArg some (cV_len _).symm)) (fun _ hw => hw.whole (j := 0) rfl)) rfl rfl rfl (fun _ _ _ => trivial) ?_
      refine z_storeA (j := 3) (cs' := cV U64 x19) (L' := [.blk g_13 24 (cV U64 x19) 4, .blk g_10 24 (cV U64 x13.1) 4, .blk g_11 24 (cV U64 x13.2) 4, .blk g_6 24 (cV U64 x19) 4, .blk g_5 33 (cV U8 a0.1 ++ (cV U8 a0.2.1 ++ ([(.bool a0.2.2.1 : Value)] ++ ([(U64 a0.2.2.2.1 : Value)] ++ (cV U64 a0.2.2.2.2.1 ++ ([(.slice A0 a0.2.2.2.2.2.1.length c0 : Value)] ++ ([(U64 a0.2.2.2.2.2.2.1 : Value)] ++ (cV U64 a0.2.2.2.2.2.2.2.1 ++ (cV U64 a0.2.2.2.2.2.2.2.2.1 ++ ([(.slice A0_1 a0.2.2.2.2.2.2.2.2.2.length c0_2 : Value)])))))))))) 57]) rfl rfl rfl (cV_one (fun _ => rfl) _) sz24 rfl (cV_len _) rfl rfl rfl (fun _ _ _ => trivial) ?_
      refine z_val (v := .bool true) (val_assign rfl rfl) rfl rfl rfl (fun _ _ _ => trivial) ?_
      refine z_nil ?_
      refine t_ret ?_
      obtain rfl := Option.some.inj H
      exact ret2 rfl (res_row (j := 3) rfl Try.underlying24 rfl sz24 rfl (cV_len _)) (res_tmp rfl) (fun _ hw => ⟨rfl, hw.below⟩)
    ·
      replace H := cond_t H
      refine t_cond_true rfl ?_
      refine t_seq ?_
      refine t_region (fun ops hops => ?_)
      clear hops
      obtain ⟨x29, hx29, H⟩ := Let_elim H
      refine z_val (v := .agg (cV U64 x29).toArray) (by subst hx29; exact val_build (vs := []) rfl rfl (fun w => by kernel_rfl)) rfl rfl rfl (fun _ _ _ => trivial) ?_
      clear hx29
      refine z_storeA (j := 3) (cs' := cV U64 x29) (L' := [.blk g_13 24 (cV U64 x19) 4, .blk g_10 24 (cV U64 x13.1) 4, .blk g_11 24 (cV U64 x13.2) 4, .blk g_6 24 (cV U64 x29) 4, .blk g_5 33 (cV U8 a0.1 ++ (cV U8 a0.2.1 ++ ([(.bool a0.2.2.1 : Value)] ++ ([(U64 a0.2.2.2.1 : Value)] ++ (cV U64 a0.2.2.2.2.1 ++ ([(.slice A0 a0.2.2.2.2.2.1.length c0 : Value)] ++ ([(U64 a0.2.2.2.2.2.2.1 : Value)] ++ (cV U64 a0.2.2.2.2.2.2.2.1 ++ (cV U64 a0.2.2.2.2.2.2.2.2.1 ++ ([(.slice A0_1 a0.2.2.2.2.2.2.2.2.2.length c0_2 : Value)])))))))))) 57]) rfl rfl rfl (cV_one (fun _ => rfl) _) sz24 rfl (cV_len _) rfl rfl rfl (fun _ _ _ => trivial) ?_
      refine z_val (v := .bool false) (val_assign rfl rfl) rfl rfl rfl (fun _ _ _ => trivial) ?_
      refine z_nil ?_
      refine t_ret ?_
      obtain rfl := Option.some.inj H
      exact ret2 rfl (res_row (j := 3) rfl Try.underlying24 rfl sz24 rfl (cV_len _)) (res_tmp rfl) (fun _ hw => ⟨rfl, hw.below⟩)
def tx_Price (a0 : (Vec (BitVec 8) 20) × (Vec (BitVec 8) 20) × (Bool) × (BitVec 64) × (Vec (BitVec 64) 4) × (List (BitVec 8)) × (BitVec 64) × (Vec (BitVec 64) 4) × (Vec (BitVec 64) 4) × (List ((Vec (BitVec 8) 20) × (List (Vec (BitVec 64) 4))))) (a1 : Vec (BitVec 64) 4) : Option ((Vec (BitVec 64) 4) × (Bool)) :=
  (word_Compare a0.2.2.2.2.2.2.2.1 a1).bind fun x10 => Let (decide (x10 < 0)) fun x11 => (bif x11 then Let (Vec.rep 4 0#64) fun x12 => some (x12, false) else (word_Sub a0.2.2.2.2.2.2.2.1 a1).bind fun x16 => (word_Compare x16 a0.2.2.2.2.2.2.2.2.1).bind fun x20 => Let (decide (x20 < 0)) fun x21 => (bif x21 then some (a0.2.2.2.2.2.2.2.1, true) else (word_Add a1 a0.2.2.2.2.2.2.2.2.1).bind fun x27 => some (x27, true)))
set_option maxRecDepth 100000 in
theorem tx_Price.calls  (a0 : (Vec (BitVec 8) 20) × (Vec (BitVec 8) 20) × (Bool) × (BitVec 64) × (Vec (BitVec 64) 4) × (List (BitVec 8)) × (BitVec 64) × (Vec (BitVec 64) 4) × (Vec (BitVec 64) 4) × (List ((Vec (BitVec 8) 20) × (List (Vec (BitVec 64) 4))))) (a1 : Vec (BitVec 64) 4) (A0 : Option Addr) (c0 : Nat) (A0_1 : Option Addr) (c0_2 : Nat) (r : (Vec (BitVec 64) 4) × (Bool)) (H : tx_Price a0 a1 = some r) (w : World) (hs0 : SlW w U8 A0 a0.2.2.2.2.2.1) (hc0 : a0.2.2.2.2.2.1.length ≤ c0) (hs0_3 : SlRW w R87 A0_1 a0.2.2.2.2.2.2.2.2.2) (hc0_4 : a0.2.2.2.2.2.2.2.2.2.length ≤ c0_2)  :
    Made Try.prog 19 #[.agg (cV U8 a0.1 ++ (cV U8 a0.2.1 ++ ([(.bool a0.2.2.1 : Value)] ++ ([(U64 a0.2.2.2.1 : Value)] ++ (cV U64 a0.2.2.2.2.1 ++ ([(.slice A0 a0.2.2.2.2.2.1.length c0 : Value)] ++ ([(U64 a0.2.2.2.2.2.2.1 : Value)] ++ (cV U64 a0.2.2.2.2.2.2.2.1 ++ (cV U64 a0.2.2.2.2.2.2.2.2.1 ++ ([(.slice A0_1 a0.2.2.2.2.2.2.2.2.2.length c0_2 : Value)])))))))))).toArray, .agg (cV U64 a1).toArray] w (.tuple #[.agg (cV U64 r.1).toArray, .bool r.2]) := by
  unfold tx_Price at H
  replace hs0 := hs0.toH
  replace hs0_3 := hs0_3.toH
  have hM := Mm.start w (snap w) (snap_ok w)
  generalize snap w = h at *
  refine t_enter (vs := [.agg (cV U8 a0.1 ++ (cV U8 a0.2.1 ++ ([(.bool a0.2.2.1 : Value)] ++ ([(U64 a0.2.2.2.1 : Value)] ++ (cV U64 a0.2.2.2.2.1 ++ ([(.slice A0 a0.2.2.2.2.2.1.length c0 : Value)] ++ ([(U64 a0.2.2.2.2.2.2.1 : Value)] ++ (cV U64 a0.2.2.2.2.2.2.2.1 ++ (cV U64 a0.2.2.2.2.2.2.2.2.1 ++ ([(.slice A0_1 a0.2.2.2.2.2.2.2.2.2.length c0_2 : Value)])))))))))).toArray, .agg (cV U64 a1).toArray]) (n := 28) Try.func19 rfl rfl rfl hM ?_
  clear hM
  change T 28 _ _ _
  refine t_seq ?_
  refine t_region (fun ops hops => ?_)
  clear hops
  refine z_box (cs := cV U8 a0.1 ++ (cV U8 a0.2.1 ++ ([(.bool a0.2.2.1 : Value)] ++ ([(U64 a0.2.2.2.1 : Value)] ++ (cV U64 a0.2.2.2.2.1 ++ ([(.slice A0 a0.2.2.2.2.2.1.length c0 : Value)] ++ ([(U64 a0.2.2.2.2.2.2.1 : Value)] ++ (cV U64 a0.2.2.2.2.2.2.2.1 ++ (cV U64 a0.2.2.2.2.2.2.2.2.1 ++ ([(.slice A0_1 a0.2.2.2.2.2.2.2.2.2.length c0_2 : Value)])))))))))) (room := 57) rfl rfl rfl (by simp [cV_len]) rfl rfl rfl (fun _ _ _ _ => trivial) (fun g_5 => ?_)
  refine z_box (cs := cV U64 a1) (room := 4) rfl rfl rfl (cV_len _) rfl rfl rfl (fun _ _ _ _ => trivial) (fun g_6 => ?_)
  refine z_alloc (cs := cV U64 (Vec.rep 4 0#64)) (room := 4) rfl ze24 rfl (cV_len _) rfl rfl rfl (fun _ _ _ _ => trivial) (fun g_7 => ?_)
  refine z_val (v := .bool false) (val_assign rfl rfl) rfl rfl rfl (fun _ _ _ => trivial) ?_
  refine z_nil ?_
  refine t_seq ?_
  refine t_seq ?_
  refine t_region (fun ops hops => ?_)
  clear hops
  refine z_val (v := .pointer (some ⟨g_5, 48, none⟩)) (val_fld0 (sz := 4) rfl rfl Try.underlying33 rfl rfl sz24 (by decide)) rfl rfl rfl (fun _ _ _ => trivial) ?_
  refine z_val (v := .agg (cV U64 a0.2.2.2.2.2.2.2.1).toArray) (val_loadR (off := 48) (cs := cV U64 a0.2.2.2.2.2.2.2.1) rfl rfl Try.underlying24 rfl (sz24.trans (congrArg some (cV_len _).symm)) (fun _ hw => hw.range (j := 2) rfl 48 _ (seg_skip (n := 20) (k := 28) (cV_len _) (seg_skip (n := 20) (k := 8) (cV_len _) (seg_skip (n := 1) (k := 7) rfl (seg_skip (n := 1) (k := 6) rfl (seg_skip (n := 4) (k := 2) (cV_len _) (seg_skip (n := 1) (k := 1) rfl (seg_skip (n := 1) (k := 0) rfl seg_here))))))))) rfl rfl rfl (fun _ _ _ => trivial) ?_
  refine z_val (v := .agg (cV U64 a1).toArray) (val_loadR (off := 0) (cs := cV U64 a1) rfl rfl Try.underlying24 rfl (sz24.trans (congrArg some (cV_len _).symm)) (fun _ hw => hw.whole (j := 1) rfl)) rfl rfl rfl (fun _ _ _ => trivial) ?_
  obtain ⟨x10, hx, H⟩ := Option.bind_eq_some_iff.1 H
  refine z_made (v := .int .i64 x10) rfl Try.func45 nm45 bs45 rfl (fun w hw => word_Compare.calls a0.2.2.2.2.2.2.2.1 a1 x10 hx w) rfl rfl rfl (fun _ _ _ => trivial) ?_
  clear hx
  obtain ⟨x11, hx11, H⟩ := Let_elim H
  refine z_val (v := .bool x11) (by subst hx11; exact val_bin rfl rfl rfl rfl (i64_lss _ _ _)) rfl rfl rfl (fun _ _ _ => trivial) ?_
  clear hx11
  refine z_nil ?_
  cases x11
  ·
    replace H := cond_f H
    refine t_cond_false rfl ?_
    refine t_skip ?_
    refine t_seq ?_
    refine t_seq ?_
    refine t_region (fun ops hops => ?_)
    clear hops
    refine z_val (v := .pointer (some ⟨g_5, 48, none⟩)) (val_fld0 (sz := 4) rfl rfl Try.underlying33 rfl rfl sz24 (by decide)) rfl rfl rfl (fun _ _ _ => trivial) ?_
    refine z_val (v := .agg (cV U64 a0.2.2.2.2.2.2.2.1).toArray) (val_loadR (off := 48) (cs := cV U64 a0.2.2.2.2.2.2.2.1) rfl rfl Try.underlying24 rfl (sz24.trans (congrArg some (cV_len _).symm)) (fun _ hw => hw.range (j := 2) rfl 48 _ (seg_skip (n := 20) (k := 28) (cV_len _) (seg_skip (n := 20) (k := 8) (cV_len _) (seg_skip (n := 1) (k := 7) rfl (seg_skip (n := 1) (k := 6) rfl (seg_skip (n := 4) (k := 2) (cV_len _) (seg_skip (n := 1) (k := 1) rfl (seg_skip (n := 1) (k := 0) rfl seg_here))))))))) rfl rfl rfl (fun _ _ _ => trivial) ?_
    refine z_val (v := .agg (cV U64 a1).toArray) (val_loadR (off := 0) (cs := cV U64 a1) rfl rfl Try.underlying24 rfl (sz24.trans (congrArg some (cV_len _).symm)) (fun _ hw => hw.whole (j := 1) rfl)) rfl rfl rfl (fun _ _ _ => trivial) ?_
    obtain ⟨x16, hx_8, H⟩ := Option.bind_eq_some_iff.1 H
    refine z_made (v := .agg (cV U64 x16).toArray) rfl Try.func48 nm48 bs48 rfl (fun w hw => word_Sub.calls a0.2.2.2.2.2.2.2.1 a1 x16 hx_8 w) rfl rfl rfl (fun _ _ _ => trivial) ?_
    clear hx_8
    refine z_alloc (cs := cV U64 (Vec.rep 4 0#64)) (room := 4) rfl ze24 rfl (cV_len _) rfl rfl rfl (fun _ _ _ _ => trivial) (fun g_9 => ?_)
    refine z_storeA (j := 0) (cs' := cV U64 x16) (L' := [.blk g_9 24 (cV U64 x16) 4, .blk g_7 24 (cV U64 (Vec.rep 4 0#64)) 4, .blk g_6 24 (cV U64 a1) 4, .blk g_5 33 (cV U8 a0.1 ++ (cV U8 a0.2.1 ++ ([(.bool a0.2.2.1 : Value)] ++ ([(U64 a0.2.2.2.1 : Value)] ++ (cV U64 a0.2.2.2.2.1 ++ ([(.slice A0 a0.2.2.2.2.2.1.length c0 : Value)] ++ ([(U64 a0.2.2.2.2.2.2.1 : Value)] ++ (cV U64 a0.2.2.2.2.2.2.2.1 ++ (cV U64 a0.2.2.2.2.2.2.2.2.1 ++ ([(.slice A0_1 a0.2.2.2.2.2.2.2.2.2.length c0_2 : Value)])))))))))) 57]) rfl rfl rfl (cV_one (fun _ => rfl) _) sz24 rfl (cV_len _) rfl rfl rfl (fun _ _ _ => trivial) ?_
    refine z_nil ?_
    refine t_seq ?_
    refine t_region (fun ops hops => ?_)
    clear hops
    refine z_val (v := .agg (cV U64 x16).toArray) (val_loadR (off := 0) (cs := cV U64 x16) rfl rfl Try.underlying24 rfl (sz24.trans (congrArg some (cV_len _).symm)) (fun _ hw => hw.whole (j := 0) rfl)) rfl rfl rfl (fun _ _ _ => trivial) ?_
    refine z_val (v := .pointer (some ⟨g_5, 52, none⟩)) (val_fld0 (sz := 4) rfl rfl Try.underlying33 rfl rfl sz24 (by decide)) rfl rfl rfl (fun _ _ _ => trivial) ?_
    refine z_val (v := .agg (cV U64 a0.2.2.2.2.2.2.2.2.1).toArray) (val_loadR (off := 52) (cs := cV U64 a0.2.2.2.2.2.2.2.2.1) rfl rfl Try.underlying24 rfl (sz24.trans (congrArg some (cV_len _).symm)) (fun _ hw => hw.range (j := 3) rfl 52 _ (seg_skip (n := 20) (k := 32) (cV_len _) (seg_skip (n := 20) (k := 12) (cV_len _) (seg_skip (n := 1) (k := 11) rfl (seg_skip (n := 1) (k := 10) rfl (seg_skip (n := 4) (k := 6) (cV_len _) (seg_skip (n := 1) (k := 5) rfl (seg_skip (n := 1) (k := 4) rfl (seg_skip (n := 4) (k := 0) (cV_len _) seg_here)))))))))) rfl rfl rfl (fun _ _ _ => trivial) ?_
    obtain ⟨x20, hx_10, H⟩ := Option.bind_eq_some_iff.1 H
    refine z_made (v := .int .i64 x20) rfl Try.func45 nm45 bs45 rfl (fun w hw => word_Compare.calls x16 a0.2.2.2.2.2.2.2.2.1 x20 hx_10 w) rfl rfl rfl (fun _ _ _ => trivial) ?_
    clear hx_10
    obtain ⟨x21, hx21, H⟩ := Let_elim H
    refine z_val (v := .bool x21) (by subst hx21; exact val_bin rfl rfl rfl rfl (i64_lss _ _ _)) rfl rfl rfl (fun _ _ _ => trivial) ?_
    clear hx21
    refine z_nil ?_
    cases x21
    ·
      replace H := cond_f H
      refine t_cond_false rfl ?_
      refine t_skip ?_
      refine t_seq ?_
      refine t_region (fun ops hops => ?_)
      clear hops
      refine z_val (v := .agg (cV U64 a1).toArray) (val_loadR (off := 0) (cs := cV U64 a1) rfl rfl Try.underlying24 rfl (sz24.trans (congrArg some (cV_len _).symm)) (fun _ hw => hw.whole (j := 2) rfl)) rfl rfl rfl (fun _ _ _ => trivial) ?_
      refine z_val (v := .pointer (some ⟨g_5, 52, none⟩)) (val_fld0 (sz := 4) rfl rfl Try.underlying33 rfl rfl sz24 (by decide)) rfl rfl rfl (fun _ _ _ => trivial) ?_
      refine z_val (v := .agg (cV U64 a0.2.2.2.2.2.2.2.2.1).toArray) (val_loadR (off := 52) (cs := cV U64 a0.2.2.2.2.2.2.2.2.1) rfl rfl Try.underlying24 rfl (sz24.trans (congrArg some (cV_len _).symm)) (fun _ hw => hw.range (j := 3) rfl 52 _ (seg_skip (n := 20) (k := 32) (cV_len _) (seg_skip (n := 20) (k := 12) (cV_len _) (seg_skip (n := 1) (k := 11) rfl (seg_skip (n := 1) (k := 10) rfl (seg_skip (n := 4) (k := 6) (cV_len _) (seg_skip (n := 1) (k := 5) rfl (seg_skip (n := 1) (k := 4) rfl (seg_skip (n := 4) (k := 0) (cV_len _) seg_here)))))))))) rfl rfl rfl (fun _ _ _ => trivial) ?_
      obtain ⟨x27, hx_11, H⟩ := Option.bind_eq_some_iff.1 H
      refine z_made (v := .agg (cV U64 x27).toArray) rfl Try.func44 nm44 bs44 rfl (fun w hw => word_Add.calls a1 a0.2.2.2.2.2.2.2.2.1 x27 hx_11 w) rfl rfl rfl (fun _ _ _ => trivial) ?_
      clear hx_11
      refine z_storeA (j := 1) (cs' := cV U64 x27) (L' := [.blk g_9 24 (cV U64 x16) 4, .blk g_7 24 (cV U64 x27) 4, .blk g_6 24 (cV U64 a1) 4, .blk g_5 33 (cV U8 a0.1 ++ (cV U8 a0.2.1 ++ ([(.bool a0.2.2.1 : Value)] ++ ([(U64 a0.2.2.2.1 : Value)] ++ (cV U64 a0.2.2.2.2.1 ++ ([(.slice A0 a0.2.2.2.2.2.1.length c0 : Value)] ++ ([(U64 a0.2.2.2.2.2.2.1 : Value)] ++ (cV U64 a0.2.2.2.2.2.2.2.1 ++ (cV U64 a0.2.2.2.2.2.2.2.2.1 ++ ([(.slice A0_1 a0.2.2.2.2.2.2.2.2.2.length c0_2 : Value)])))))))))) 57]) rfl rfl rfl (cV_one (fun _ => rfl) _) sz24 rfl (cV_len _) rfl rfl rfl (fun _ _ _ => trivial) ?_
      refine z_val (v := .bool true) (val_assign rfl rfl) rfl rfl rfl (fun _ _ _ => trivial) ?_
      refine z_nil ?_
      refine t_ret ?_
      obtain rfl := Option.some.inj H
      exact ret2 rfl (res_row (j := 1) rfl Try.underlying24 rfl sz24 rfl (cV_len _)) (res_tmp rfl) (fun _ hw => ⟨rfl, hw.below⟩)
    ·
      replace H := cond_t H
      refine t_cond_true rfl ?_
      refine t_seq ?_
      refine t_region (fun ops hops => ?_)
      clear hops
      refine z_val (v := .pointer (some ⟨g_5, 48, none⟩)) (val_fld0 (sz := 4) rfl rfl Try.underlying33 rfl rfl sz24 (by decide)) rfl rfl rfl (fun _ _ _ => trivial) ?_
      refine z_val (v := .agg (cV U64 a0.2.2.2.2.2.2.2.1).toArray) (val_loadR (off := 48) (cs := cV U64 a0.2.2.2.2.2.2.2.1) rfl rfl Try.underlying24 rfl (sz24.trans (congrArg some (cV_len _).symm)) (fun _ hw => hw.range (j := 3) rfl 48 _ (seg_skip (n := 20) (k := 28) (cV_len _) (seg_skip (n := 20) (k := 8) (cV_len _) (seg_skip (n := 1) (k := 7) rfl (seg_skip (n := 1) (k := 6) rfl (seg_skip (n := 4) (k := 2) (cV_len _) (seg_skip (n := 1) (k := 1) rfl (seg_skip (n := 1) (k := 0) rfl seg_here))))))))) rfl rfl rfl (fun _ _ _ => trivial) ?_
      refine z_storeA (j := 1) (cs' := cV U64 a0.2.2.2.2.2.2.2.1) (L' := [.blk g_9 24 (cV U64 x16) 4, .blk g_7 24 (cV U64 a0.2.2.2.2.2.2.2.1) 4, .blk g_6 24 (cV U64 a1) 4, .blk g_5 33 (cV U8 a0.1 ++ (cV U8 a0.2.1 ++ ([(.bool a0.2.2.1 : Value)] ++ ([(U64 a0.2.2.2.1 : Value)] ++ (cV U64 a0.2.2.2.2.1 ++ ([(.slice A0 a0.2.2.2.2.2.1.length c0 : Value)] ++ ([(U64 a0.2.2.2.2.2.2.1 : Value)] ++ (cV U64 a0.2.2.2.2.2.2.2.1 ++ (cV U64 a0.2.2.2.2.2.2.2.2.1 ++ ([(.slice A0_1 a0.2.2.2.2.2.2.2.2.2.length c0_2 : Value)])))))))))) 57]) rfl rfl rfl (cV_one (fun _ => rfl) _) sz24 rfl (cV_len _) rfl rfl rfl (fun _ _ _ => trivial) ?_
      refine z_val (v := .bool true) (val_assign rfl rfl) rfl rfl rfl (fun _ _ _ => trivial) ?_
      refine z_nil ?_
      refine t_ret ?_
      obtain rfl := Option.some.inj H
      exact ret2 rfl (res_row (j := 1) rfl Try.underlying24 rfl sz24 rfl (cV_len _)) (res_tmp rfl) (fun _ hw => ⟨rfl, hw.below⟩)
  ·
    replace H := cond_t H
    refine t_cond_true rfl ?_
    refine t_seq ?_
    refine t_region (fun ops hops => ?_)
    clear hops
    obtain ⟨x12, hx12, H⟩ := Let_elim H
    refine z_val (v := .agg (cV U64 x12).toArray) (by subst hx12; exact val_build (vs := []) rfl rfl (fun w => by kernel_rfl)) rfl rfl rfl (fun _ _ _ => trivial) ?_
    clear hx12
    refine z_storeA (j := 0) (cs' := cV U64 x12) (L' := [.blk g_7 24 (cV U64 x12) 4, .blk g_6 24 (cV U64 a1) 4, .blk g_5 33 (cV U8 a0.1 ++ (cV U8 a0.2.1 ++ ([(.bool a0.2.2.1 : Value)] ++ ([(U64 a0.2.2.2.1 : Value)] ++ (cV U64 a0.2.2.2.2.1 ++ ([(.slice A0 a0.2.2.2.2.2.1.length c0 : Value)] ++ ([(U64 a0.2.2.2.2.2.2.1 : Value)] ++ (cV U64 a0.2.2.2.2.2.2.2.1 ++ (cV U64 a0.2.2.2.2.2.2.2.2.1 ++ ([(.slice A0_1 a0.2.2.2.2.2.2.2.2.2.length c0_2 : Value)])))))))))) 57]) rfl rfl rfl (cV_one (fun _ => rfl) _) sz24 rfl (cV_len _) rfl rfl rfl (fun _ _ _ => trivial) ?_
    refine z_val (v := .bool false) (val_assign rfl rfl) rfl rfl rfl (fun _ _ _ => trivial) ?_
    refine z_nil ?_
    refine t_ret ?_
    obtain rfl := Option.some.inj H
    exact ret2 rfl (res_row (j := 0) rfl Try.underlying24 rfl sz24 rfl (cV_len _)) (res_tmp rfl) (fun _ hw => ⟨rfl, hw.below⟩)
end Go.Proofs.Ytapfkdcilfpbhaa
