/- Functions of the program as plain functions, and their walks, printed by walk.py. -/
import Derived.Test.YtapfkdcilfpbhaaRlF
namespace Go.Proofs.Ytapfkdcilfpbhaa
open Go.RowKit
set_option linter.unusedVariables false
set_option linter.unusedSimpArgs false
def smithyref01_Of.b1 (a0 : Vec (BitVec 64) 4) (y_3 : Vec (Int) 32) (x4 : Int) : Option (Ctl ((Vec (Int) 32) × (Int)) (Vec (Int) 32)) :=
  Let (decide (x4 < 32)) fun x7 => (bif x7 then Let (wi (Int.tdiv x4 8)) fun x12 => Chk (0 ≤ x12 ∧ x12 < ((4 : Nat) : Int)) <| Let (a0.get x12.toNat) fun x14 => Let (Int.tmod x4 8) fun x16 => Let (wi (8 * x16)) fun x17 => Chk (0 ≤ x17) <| Let (x14 >>> x17.toNat) fun x18 => Let (x18 % 256#64) fun x19 => Let (IntKind.i64.wrap x19.toNat) fun x20 => Chk (0 ≤ x4 ∧ x4 < ((32 : Nat) : Int)) <| Let (y_3.set x4.toNat x20) fun y_3_7 => Let (wi (x4 + 1)) fun x9 => some (.next (y_3_7, x9)) else some (.brk (y_3, x4)))
def smithyref01_Of (a0 : Vec (BitVec 64) 4) : Option (Vec (Int) 32) :=
  Let (Vec.rep 32 0) fun x5 => (wlx (σ := (Vec (Int) 32) × (Int)) (fun s => smithyref01_Of.b1 a0 s.1 s.2) (x5, 0)).bind (Sum.elim (fun s => (fun y_3 x4 => some y_3) s.1 s.2) (fun r => some r))
set_option maxRecDepth 100000 in
theorem smithyref01_Of.calls  (a0 : Vec (BitVec 64) 4) (r : Vec (Int) 32) (H : smithyref01_Of a0 = some r) (w : World)   :
    Made Try.prog 40 #[.agg (cV U64 a0).toArray] w (.agg (cV (Value.int .i64) r).toArray) := by
  unfold smithyref01_Of at H
  have hM := Mm.start w (snap w) (snap_ok w)
  generalize snap w = h at *
  refine t_enter (vs := [.agg (cV U64 a0).toArray]) (n := 23) Try.func40 rfl rfl rfl hM ?_
  clear hM
  change T 23 _ _ _
  refine t_seq ?_
  refine t_region (fun ops hops => ?_)
  clear hops
  refine z_box (cs := cV U64 a0) (room := 4) rfl rfl rfl (cV_len _) rfl rfl rfl (fun _ _ _ _ => trivial) (fun g_1 => ?_)
  refine z_alloc (cs := cV (Value.int .i64) (Vec.rep 32 0)) (room := 32) rfl ze82 rfl (cV_len _) rfl rfl rfl (fun _ _ _ _ => trivial) (fun g_2 => ?_)
  refine z_nil ?_
  refine t_seq ?_
  refine t_region (fun ops hops => ?_)
  clear hops
  obtain ⟨x5, hx5, H⟩ := Let_elim H
  refine z_val (v := .agg (cV (Value.int .i64) x5).toArray) (by subst hx5; exact val_build (vs := []) rfl rfl (fun w => by kernel_rfl)) rfl rfl rfl (fun _ _ _ => trivial) ?_
  clear hx5
  refine z_alloc (cs := cV (Value.int .i64) (Vec.rep 32 0)) (room := 32) rfl ze82 rfl (cV_len _) rfl rfl rfl (fun _ _ _ _ => trivial) (fun g_3 => ?_)
  refine z_storeA (j := 0) (cs' := cV (Value.int .i64) x5) (L' := [.blk g_3 82 (cV (Value.int .i64) x5) 32, .blk g_2 82 (cV (Value.int .i64) (Vec.rep 32 0)) 32, .blk g_1 24 (cV U64 a0) 4]) rfl rfl rfl (cV_one (fun _ => rfl) _) sz82 rfl (cV_len _) rfl rfl rfl (fun _ _ _ => trivial) ?_
  refine z_nil ?_
  refine t_seq ?_
  refine t_seq ?_
  refine t_region (fun ops hops => ?_)
  clear hops
  refine z_val (v := .int .i64 0) (val_assign rfl rfl) rfl rfl rfl (fun _ _ _ => trivial) ?_
  refine z_nil ?_
  refine t_block ?_
  obtain ⟨z1, hz1, HK1⟩ := Option.bind_eq_some_iff.1 H
  clear H
  refine t_while hz1 (fun (s : (Vec (Int) 32) × (Int)) (g : Unit) => [(1, .pointer (some ⟨g_1, 0, none⟩)), (2, .pointer (some ⟨g_2, 0, none⟩)), (3, .pointer (some ⟨g_3, 0, none⟩)), (4, .int .i64 s.2)]) (fun (s : (Vec (Int) 32) × (Int)) (g : Unit) => [(2, .pointer (some ⟨g_2, 0, none⟩)), (3, .pointer (some ⟨g_3, 0, none⟩))]) (fun (s : (Vec (Int) 32) × (Int)) (g : Unit) => Mm w [] h [.blk g_3 82 (cV (Value.int .i64) s.1) 32, .blk g_2 82 (cV (Value.int .i64) (Vec.rep 32 0)) 32, .blk g_1 24 (cV U64 a0) 4]) (fun (s : (Vec (Int) 32) × (Int)) (g : Unit) => Mm w [] h [.blk g_3 82 (cV (Value.int .i64) s.1) 32, .blk g_2 82 (cV (Value.int .i64) (Vec.rep 32 0)) 32]) (fun (s : (Vec (Int) 32) × (Int)) (g : Unit) => True) (fun (s : (Vec (Int) 32) × (Int)) (g : Unit) => True) () trivial (fun a w ha hw => ⟨ha.cons rfl (ha.cons rfl (ha.cons rfl (ha.cons rfl (ha.nil)))), hw⟩) (fun Gn Gb s g e hφ H hn1 hb1 hr1 => ?_) (fun s g hzz hφ => ?_)
  ·
    obtain ⟨y_3, x4⟩ := s
    change smithyref01_Of.b1 a0 y_3 x4 = some e at H
    unfold smithyref01_Of.b1 at H
    clear hz1
    change T 23 _ _ _
    refine t_seq ?_
    refine t_seq ?_
    refine t_region (fun ops hops => ?_)
    clear hops
    refine z_val (v := .int .i64 x4) (val_move rfl rfl) rfl rfl rfl (fun _ _ _ => trivial) ?_
    obtain ⟨x7, hx7, H⟩ := Let_elim H
    refine z_val (v := .bool x7) (by subst hx7; exact val_bin rfl rfl rfl rfl (i64_lss _ _ _)) rfl rfl rfl (fun _ _ _ => trivial) ?_
    clear hx7
    refine z_nil ?_
    cases x7
    ·
      replace H := cond_f H
      refine t_cond_false rfl ?_
      refine t_exit rfl ?_
      obtain rfl := Option.some.inj H
      exact t_reach ((hb1 _ () rfl trivial).weak (fun a ha => ha.cons rfl (ha.cons rfl (ha.nil))) (fun w hw => hw.sel [0, 1] rfl rfl))
    ·
      replace H := cond_t H
      refine t_cond_true rfl ?_
      refine t_skip ?_
      refine t_seq ?_
      refine t_block ?_
      refine t_region (fun ops hops => ?_)
      clear hops
      refine z_val (v := .int .i64 x4) (val_move rfl rfl) rfl rfl rfl (fun _ _ _ => trivial) ?_
      refine z_val (v := .int .i64 x4) (val_move rfl rfl) rfl rfl rfl (fun _ _ _ => trivial) ?_
      obtain ⟨x12, hx12, H⟩ := Let_elim H
      refine z_val (v := .int .i64 x12) (by subst hx12; exact val_bin rfl rfl rfl rfl (i64_quo _ _ _ (by decide))) rfl rfl rfl (fun _ _ _ => trivial) ?_
      clear hx12
      obtain ⟨hq_4, H⟩ := Chk_elim H
      refine z_val (v := .pointer (some ⟨g_1, x12.toNat, none⟩)) (val_idx0 rfl rfl rfl Try.underlying24 sz22 hq_4 rfl) rfl rfl rfl (fun _ _ _ => trivial) ?_
      obtain ⟨x14, hx14, H⟩ := Let_elim H
      refine z_val (v := U64 x14) (by subst hx14; exact val_load1 rfl rfl Try.underlying22 rfl (fun _ hw => hw.cell (j := 2) rfl (cV_at _ (idx_lt hq_4)))) rfl rfl rfl (fun _ _ _ => trivial) ?_
      clear hx14
      refine z_val (v := .int .i64 x4) (val_move rfl rfl) rfl rfl rfl (fun _ _ _ => trivial) ?_
      obtain ⟨x16, hx16, H⟩ := Let_elim H
      refine z_val (v := .int .i64 x16) (by subst hx16; exact val_bin rfl rfl rfl rfl (i64_rem _ _ _ (by decide))) rfl rfl rfl (fun _ _ _ => trivial) ?_
      clear hx16
      obtain ⟨x17, hx17, H⟩ := Let_elim H
      refine z_val (v := .int .i64 x17) (by subst hx17; exact val_bin rfl rfl rfl rfl (i64_mul _ _ _)) rfl rfl rfl (fun _ _ _ => trivial) ?_
      clear hx17
      obtain ⟨hq_5, H⟩ := Chk_elim H
      obtain ⟨x18, hx18, H⟩ := Let_elim H
      refine z_val (v := U64 x18) (by subst hx18; exact val_bin rfl rfl rfl rfl (u64_shr _ _ _ _ hq_5)) rfl rfl rfl (fun _ _ _ => trivial) ?_
      clear hx18
      obtain ⟨x19, hx19, H⟩ := Let_elim H
      refine z_val (v := U64 x19) (by subst hx19; exact val_bin rfl rfl rfl rfl (u64_rem_r _ _ _ (by decide) (by decide))) rfl rfl rfl (fun _ _ _ => trivial) ?_
      clear hx19
      obtain ⟨x20, hx20, H⟩ := Let_elim H
      refine z_val (v := .int .i64 x20) (by subst hx20; exact val_conv rfl rfl (fun w => conv_u64_int w _ _ _ (by rw [Try.underlying22]; rfl) Try.underlying3)) rfl rfl rfl (fun _ _ _ => trivial) ?_
      clear hx20
      obtain ⟨hq_6, H⟩ := Chk_elim H
      refine z_val (v := .pointer (some ⟨g_3, x4.toNat, none⟩)) (val_idx0 rfl rfl rfl Try.underlying82 sz3 hq_6 rfl) rfl rfl rfl (fun _ _ _ => trivial) ?_
      obtain ⟨y_3_7, hy_3_7, H⟩ := Let_elim H
      refine z_store1 (j := 0) (cs' := cV (Value.int .i64) y_3_7) (L' := [.blk g_3 82 (cV (Value.int .i64) y_3_7) 32, .blk g_2 82 (cV (Value.int .i64) (Vec.rep 32 0)) 32, .blk g_1 24 (cV U64 a0) 4]) rfl rfl rfl rfl rfl sz3 rfl (by rw [cV_len]; exact (idx_lt hq_6)) (by subst hy_3_7; exact cV_set (f := (Value.int .i64)) _ _ x20) rfl rfl rfl (fun _ _ _ => trivial) ?_
      clear hy_3_7
      refine z_nil ?_
      refine t_fin ?_
      refine t_region (fun ops hops => ?_)
      clear hops
      refine z_val (v := .int .i64 x4) (val_move rfl rfl) rfl rfl rfl (fun _ _ _ => trivial) ?_
      obtain ⟨x9, hx9, H⟩ := Let_elim H
      refine z_val (v := .int .i64 x9) (by subst hx9; exact val_bin rfl rfl rfl rfl (i64_add _ _ _)) rfl rfl rfl (fun _ _ _ => trivial) ?_
      clear hx9
      refine z_val (v := .int .i64 x9) (val_assign rfl rfl) rfl rfl rfl (fun _ _ _ => trivial) ?_
      refine z_nil ?_
      obtain rfl := Option.some.inj H
      exact t_reach ((hn1 _ () rfl trivial).weak (fun a ha => ha.cons rfl (ha.cons rfl (ha.cons rfl (ha.cons rfl (ha.nil))))) (fun w hw => hw))
  ·
    obtain ⟨y_3, x4⟩ := s
    subst hzz
    have H := HK1
    clear HK1 hz1
    replace H := sum_l H
    try dsimp only at H
    change T 23 _ _ _
    refine t_seq ?_
    refine t_region (fun ops hops => ?_)
    clear hops
    refine z_val (v := .agg (cV (Value.int .i64) y_3).toArray) (val_loadR (off := 0) (cs := cV (Value.int .i64) y_3) rfl rfl Try.underlying82 rfl (sz82.trans (congrArg some (cV_len _).symm)) (fun _ hw => hw.whole (j := 0) rfl)) rfl rfl rfl (fun _ _ _ => trivial) ?_
    refine z_storeA (j := 1) (cs' := cV (Value.int .i64) y_3) (L' := [.blk g_3 82 (cV (Value.int .i64) y_3) 32, .blk g_2 82 (cV (Value.int .i64) y_3) 32]) rfl rfl rfl (cV_one (fun _ => rfl) _) sz82 rfl (cV_len _) rfl rfl rfl (fun _ _ _ => trivial) ?_
    refine z_nil ?_
    refine t_ret ?_
    obtain rfl := Option.some.inj H
    exact ret1 rfl (res_row (j := 1) rfl Try.underlying82 rfl sz82 rfl (cV_len _)) (fun _ hw => ⟨rfl, hw.below⟩)
def smithyref01_D_Bytes.b1 (a0 : Vec (Int) 32) (y_3 : Vec (BitVec 8) 32) (x4 : Int) : Option (Ctl ((Vec (BitVec 8) 32) × (Int)) (Vec (BitVec 8) 32)) :=
  Let (decide (x4 < 32)) fun x7 => (bif x7 then Let (wi (31 - x4)) fun x11 => Chk (0 ≤ x4 ∧ x4 < ((32 : Nat) : Int)) <| Let (a0.get x4.toNat) fun x14 => Let (BitVec.ofInt 8 x14) fun x15 => Chk (0 ≤ x11 ∧ x11 < ((32 : Nat) : Int)) <| Let (y_3.set x11.toNat x15) fun y_3_6 => Let (wi (x4 + 1)) fun x9 => some (.next (y_3_6, x9)) else some (.brk (y_3, x4)))
def smithyref01_D_Bytes (a0 : Vec (Int) 32) : Option (Vec (BitVec 8) 32) :=
  Let (Vec.rep 32 0#8) fun x5 => (wlx (σ := (Vec (BitVec 8) 32) × (Int)) (fun s => smithyref01_D_Bytes.b1 a0 s.1 s.2) (x5, 0)).bind (Sum.elim (fun s => (fun y_3 x4 => some y_3) s.1 s.2) (fun r => some r))
set_option maxRecDepth 100000 in
theorem smithyref01_D_Bytes.calls  (a0 : Vec (Int) 32) (r : Vec (BitVec 8) 32) (H : smithyref01_D_Bytes a0 = some r) (w : World)   :
    Made Try.prog 41 #[.agg (cV (Value.int .i64) a0).toArray] w (.agg (cV U8 r).toArray) := by
  unfold smithyref01_D_Bytes at H
  have hM := Mm.start w (snap w) (snap_ok w)
  generalize snap w = h at *
  refine t_enter (vs := [.agg (cV (Value.int .i64) a0).toArray]) (n := 18) Try.func41 rfl rfl rfl hM ?_
  clear hM
  change T 18 _ _ _
  refine t_seq ?_
  refine t_region (fun ops hops => ?_)
  clear hops
  refine z_box (cs := cV (Value.int .i64) a0) (room := 32) rfl rfl rfl (cV_len _) rfl rfl rfl (fun _ _ _ _ => trivial) (fun g_1 => ?_)
  refine z_alloc (cs := cV U8 (Vec.rep 32 0#8)) (room := 32) rfl ze78 rfl (cV_len _) rfl rfl rfl (fun _ _ _ _ => trivial) (fun g_2 => ?_)
  refine z_nil ?_
  refine t_seq ?_
  refine t_region (fun ops hops => ?_)
  clear hops
  obtain ⟨x5, hx5, H⟩ := Let_elim H
  refine z_val (v := .agg (cV U8 x5).toArray) (by subst hx5; exact val_build (vs := []) rfl rfl (fun w => by kernel_rfl)) rfl rfl rfl (fun _ _ _ => trivial) ?_
  clear hx5
  refine z_alloc (cs := cV U8 (Vec.rep 32 0#8)) (room := 32) rfl ze78 rfl (cV_len _) rfl rfl rfl (fun _ _ _ _ => trivial) (fun g_3 => ?_)
  refine z_storeA (j := 0) (cs' := cV U8 x5) (L' := [.blk g_3 78 (cV U8 x5) 32, .blk g_2 78 (cV U8 (Vec.rep 32 0#8)) 32, .blk g_1 82 (cV (Value.int .i64) a0) 32]) rfl rfl rfl (cV_one (fun _ => rfl) _) sz78 rfl (cV_len _) rfl rfl rfl (fun _ _ _ => trivial) ?_
  refine z_nil ?_
  refine t_seq ?_
  refine t_seq ?_
  refine t_region (fun ops hops => ?_)
  clear hops
  refine z_val (v := .int .i64 0) (val_assign rfl rfl) rfl rfl rfl (fun _ _ _ => trivial) ?_
  refine z_nil ?_
  refine t_block ?_
  obtain ⟨z1, hz1, HK1⟩ := Option.bind_eq_some_iff.1 H
  clear H
  refine t_while hz1 (fun (s : (Vec (BitVec 8) 32) × (Int)) (g : Unit) => [(1, .pointer (some ⟨g_1, 0, none⟩)), (2, .pointer (some ⟨g_2, 0, none⟩)), (3, .pointer (some ⟨g_3, 0, none⟩)), (4, .int .i64 s.2)]) (fun (s : (Vec (BitVec 8) 32) × (Int)) (g : Unit) => [(2, .pointer (some ⟨g_2, 0, none⟩)), (3, .pointer (some ⟨g_3, 0, none⟩))]) (fun (s : (Vec (BitVec 8) 32) × (Int)) (g : Unit) => Mm w [] h [.blk g_3 78 (cV U8 s.1) 32, .blk g_2 78 (cV U8 (Vec.rep 32 0#8)) 32, .blk g_1 82 (cV (Value.int .i64) a0) 32]) (fun (s : (Vec (BitVec 8) 32) × (Int)) (g : Unit) => Mm w [] h [.blk g_3 78 (cV U8 s.1) 32, .blk g_2 78 (cV U8 (Vec.rep 32 0#8)) 32]) (fun (s : (Vec (BitVec 8) 32) × (Int)) (g : Unit) => True) (fun (s : (Vec (BitVec 8) 32) × (Int)) (g : Unit) => True) () trivial (fun a w ha hw => ⟨ha.cons rfl (ha.cons rfl (ha.cons rfl (ha.cons rfl (ha.nil)))), hw⟩) (fun Gn Gb s g e hφ H hn1 hb1 hr1 => ?_) (fun s g hzz hφ => ?_)
  ·
    obtain ⟨y_3, x4⟩ := s
    change smithyref01_D_Bytes.b1 a0 y_3 x4 = some e at H
    unfold smithyref01_D_Bytes.b1 at H
    clear hz1
    change T 18 _ _ _
    refine t_seq ?_
    refine t_seq ?_
    refine t_region (fun ops hops => ?_)
    clear hops
    refine z_val (v := .int .i64 x4) (val_move rfl rfl) rfl rfl rfl (fun _ _ _ => trivial) ?_
    obtain ⟨x7, hx7, H⟩ := Let_elim H
    refine z_val (v := .bool x7) (by subst hx7; exact val_bin rfl rfl rfl rfl (i64_lss _ _ _)) rfl rfl rfl (fun _ _ _ => trivial) ?_
    clear hx7
    refine z_nil ?_
    cases x7
    ·
      replace H := cond_f H
      refine t_cond_false rfl ?_
      refine t_exit rfl ?_
      obtain rfl := Option.some.inj H
      exact t_reach ((hb1 _ () rfl trivial).weak (fun a ha => ha.cons rfl (ha.cons rfl (ha.nil))) (fun w hw => hw.sel [0, 1] rfl rfl))
    ·
      replace H := cond_t H
      refine t_cond_true rfl ?_
      refine t_skip ?_
      refine t_seq ?_
      refine t_block ?_
      refine t_region (fun ops hops => ?_)
      clear hops
      refine z_val (v := .int .i64 x4) (val_move rfl rfl) rfl rfl rfl (fun _ _ _ => trivial) ?_
      obtain ⟨x11, hx11, H⟩ := Let_elim H
      refine z_val (v := .int .i64 x11) (by subst hx11; exact val_bin rfl rfl rfl rfl (i64_sub _ _ _)) rfl rfl rfl (fun _ _ _ => trivial) ?_
      clear hx11
      refine z_val (v := .int .i64 x4) (val_move rfl rfl) rfl rfl rfl (fun _ _ _ => trivial) ?_
      obtain ⟨hq_4, H⟩ := Chk_elim H
      refine z_val (v := .pointer (some ⟨g_1, x4.toNat, none⟩)) (val_idx0 rfl rfl rfl Try.underlying82 sz3 hq_4 rfl) rfl rfl rfl (fun _ _ _ => trivial) ?_
      obtain ⟨x14, hx14, H⟩ := Let_elim H
      refine z_val (v := .int .i64 x14) (by subst hx14; exact val_load1 rfl rfl Try.underlying3 rfl (fun _ hw => hw.cell (j := 2) rfl (cV_at _ (idx_lt hq_4)))) rfl rfl rfl (fun _ _ _ => trivial) ?_
      clear hx14
      obtain ⟨x15, hx15, H⟩ := Let_elim H
      refine z_val (v := U8 x15) (by subst hx15; exact val_conv rfl rfl (fun w => conv_int_u8 w _ _ .i64 _ (by rw [Try.underlying3]; rfl) Try.underlying5)) rfl rfl rfl (fun _ _ _ => trivial) ?_
      clear hx15
      obtain ⟨hq_5, H⟩ := Chk_elim H
      refine z_val (v := .pointer (some ⟨g_3, x11.toNat, none⟩)) (val_idx0 rfl rfl rfl Try.underlying78 sz5 hq_5 rfl) rfl rfl rfl (fun _ _ _ => trivial) ?_
      obtain ⟨y_3_6, hy_3_6, H⟩ := Let_elim H
      refine z_store1 (j := 0) (cs' := cV U8 y_3_6) (L' := [.blk g_3 78 (cV U8 y_3_6) 32, .blk g_2 78 (cV U8 (Vec.rep 32 0#8)) 32, .blk g_1 82 (cV (Value.int .i64) a0) 32]) rfl rfl rfl rfl rfl sz5 rfl (by rw [cV_len]; exact (idx_lt hq_5)) (by subst hy_3_6; exact cV_set (f := U8) _ _ x15) rfl rfl rfl (fun _ _ _ => trivial) ?_
      clear hy_3_6
      refine z_nil ?_
      refine t_fin ?_
      refine t_region (fun ops hops => ?_)
      clear hops
      refine z_val (v := .int .i64 x4) (val_move rfl rfl) rfl rfl rfl (fun _ _ _ => trivial) ?_
      obtain ⟨x9, hx9, H⟩ := Let_elim H
      refine z_val (v := .int .i64 x9) (by subst hx9; exact val_bin rfl rfl rfl rfl (i64_add _ _ _)) rfl rfl rfl (fun _ _ _ => trivial) ?_
      clear hx9
      refine z_val (v := .int .i64 x9) (val_assign rfl rfl) rfl rfl rfl (fun _ _ _ => trivial) ?_
      refine z_nil ?_
      obtain rfl := Option.some.inj H
      exact t_reach ((hn1 _ () rfl trivial).weak (fun a ha => ha.cons rfl (ha.cons rfl (ha.cons rfl (ha.cons rfl (ha.nil))))) (fun w hw => hw))
  ·
    obtain ⟨y_3, x4⟩ := s
    subst hzz
    have H := HK1
    clear HK1 hz1
    replace H := sum_l H
    try dsimp only at H
    change T 18 _ _ _
    refine t_seq ?_
    refine t_region (fun ops hops => ?_)
    clear hops
    refine z_val (v := .agg (cV U8 y_3).toArray) (val_loadR (off := 0) (cs := cV U8 y_3) rfl rfl Try.underlying78 rfl (sz78.trans (congrArg some (cV_len _).symm)) (fun _ hw => hw.whole (j := 0) rfl)) rfl rfl rfl (fun _ _ _ => trivial) ?_
    refine z_storeA (j := 1) (cs' := cV U8 y_3) (L' := [.blk g_3 78 (cV U8 y_3) 32, .blk g_2 78 (cV U8 y_3) 32]) rfl rfl rfl (cV_one (fun _ => rfl) _) sz78 rfl (cV_len _) rfl rfl rfl (fun _ _ _ => trivial) ?_
    refine z_nil ?_
    refine t_ret ?_
    obtain rfl := Option.some.inj H
    exact ret1 rfl (res_row (j := 1) rfl Try.underlying78 rfl sz78 rfl (cV_len _)) (fun _ hw => ⟨rfl, hw.below⟩)
def smithyref07_Number.b1 (x8 : Vec (BitVec 8) 32) (x4 : Int) : Option (Ctl ((Int)) (List (BitVec 8))) :=
  Let (decide (x4 < 32)) fun x10 => (bif x10 then Chk (0 ≤ x4 ∧ x4 < ((32 : Nat) : Int)) <| Let (x8.get x4.toNat) fun x14 => Let ((x14.toNat : Int) == 0) fun x15 => some x15 else some false).bind (fun x16 => (bif x16 then Let (wi (x4 + 1)) fun x18 => some (.next x18) else some (.brk x4)))
def smithyref07_Number (a0 : Vec (BitVec 64) 4) : Option (List (BitVec 8)) :=
  (smithyref01_Of a0).bind fun x7 => (smithyref01_D_Bytes x7).bind fun x8 => (wlx (σ := (Int)) (fun s => smithyref07_Number.b1 x8 s) 0).bind (Sum.elim (fun x4 => Let (([] : List (BitVec 8))) fun x19 => Chk ((0 : Int) ≤ x4 ∧ x4 ≤ 32 ∧ 32 ≤ ((32 : Nat) : Int)) <| Let ((x8.l.take 32).drop x4.toNat) fun x22 => Chk ((x19.length + x22.length) * 1 ≤ 140737488355328) <| Let (x19 ++ x22) fun x23 => some x23) (fun r => some r))
set_option maxRecDepth 100000 in
theorem smithyref07_Number.calls  (a0 : Vec (BitVec 64) 4) (r : List (BitVec 8)) (H : smithyref07_Number a0 = some r) (w : World)   :
    Calls Try.prog 11 #[.agg (cV U64 a0).toArray] w fun e w' => ∃ A c, e = .returned (.slice A r.length c) ∧ Below w.heap.size w w' ∧ OwnR w w' 5 U8 A c r := by
  unfold smithyref07_Number at H
  have hM := Mm.start w (snap w) (snap_ok w)
  generalize snap w = h at *
  refine t_enter (vs := [.agg (cV U64 a0).toArray]) (n := 25) Try.func11 rfl rfl rfl hM ?_
  clear hM
  change T 25 _ _ _
  refine t_seq ?_
  refine t_region (fun ops hops => ?_)
  clear hops
  refine z_box (cs := cV U64 a0) (room := 4) rfl rfl rfl (cV_len _) rfl rfl rfl (fun _ _ _ _ => trivial) (fun g_1 => ?_)
  refine z_val (v := .slice none 0 0) (val_assign rfl rfl) rfl rfl rfl (fun _ _ _ => trivial) ?_
  refine z_nil ?_
  refine t_seq ?_
  refine t_region (fun ops hops => ?_)
  clear hops
  refine z_val (v := .agg (cV U64 a0).toArray) (val_loadR (off := 0) (cs := cV U64 a0) rfl rfl Try.underlying24 rfl (sz24.trans (congrArg some (cV_len _).symm)) (fun _ hw => hw.whole (j := 0) rfl)) rfl rfl rfl (fun _ _ _ => trivial) ?_
  obtain ⟨x7, hx, H⟩ := Option.bind_eq_some_iff.1 H
  refine z_made (v := .agg (cV (Value.int .i64) x7).toArray) rfl Try.func40 nm40 bs40 rfl (fun w hw => smithyref01_Of.calls a0 x7 hx w) rfl rfl rfl (fun _ _ _ => trivial) ?_
  clear hx
  obtain ⟨x8, hx_2, H⟩ := Option.bind_eq_some_iff.1 H
  refine z_made (v := .agg (cV U8 x8).toArray) rfl Try.func41 nm41 bs41 rfl (fun w hw => smithyref01_D_Bytes.calls x7 x8 hx_2 w) rfl rfl rfl (fun _ _ _ => trivial) ?_
  clear hx_2
  refine z_alloc (cs := cV U8 (Vec.rep 32 0#8)) (room := 32) rfl ze78 rfl (cV_len _) rfl rfl rfl (fun _ _ _ _ => trivial) (fun g_3 => ?_)
  refine z_storeA (j := 0) (cs' := cV U8 x8) (L' := [.blk g_3 78 (cV U8 x8) 32, .blk g_1 24 (cV U64 a0) 4]) rfl rfl rfl (cV_one (fun _ => rfl) _) sz78 rfl (cV_len _) rfl rfl rfl (fun _ _ _ => trivial) ?_
  refine z_nil ?_
  refine t_seq ?_
  refine t_region (fun ops hops => ?_)
  clear hops
  refine z_val (v := .int .i64 0) (val_assign rfl rfl) rfl rfl rfl (fun _ _ _ => trivial) ?_
  refine z_nil ?_
  refine t_seq ?_
  refine t_block ?_
  obtain ⟨z1, hz1, HK1⟩ := Option.bind_eq_some_iff.1 H
  clear H
  refine t_while hz1 (fun (s : (Int)) (g : Unit) => [(3, .pointer (some ⟨g_3, 0, none⟩)), (4, .int .i64 s)]) (fun (s : (Int)) (g : Unit) => [(3, .pointer (some ⟨g_3, 0, none⟩)), (4, .int .i64 s)]) (fun (s : (Int)) (g : Unit) => Mm w [] h [.blk g_3 78 (cV U8 x8) 32]) (fun (s : (Int)) (g : Unit) => Mm w [] h [.blk g_3 78 (cV U8 x8) 32]) (fun (s : (Int)) (g : Unit) => True) (fun (s : (Int)) (g : Unit) => True) () trivial (fun a w ha hw => ⟨ha.cons rfl (ha.cons rfl (ha.nil)), hw.sel [0] rfl rfl⟩) (fun Gn Gb s g e hφ H hn1 hb1 hr1 => ?_) (fun s g hzz hφ => ?_)
  ·
    obtain ⟨x4, rfl⟩ : ∃ x, x = s := ⟨_, rfl⟩
    change smithyref07_Number.b1 x8 x4 = some e at H
    unfold smithyref07_Number.b1 at H
    clear hz1
    change T 25 _ _ _
    refine t_seq ?_
    refine t_seq ?_
    refine t_region (fun ops hops => ?_)
    refine z_val (v := .int .i64 x4) (val_move rfl rfl) rfl rfl rfl (fun _ _ _ => trivial) ?_
    obtain ⟨x10, hx10, H⟩ := Let_elim H
    refine z_val (v := .bool x10) (by subst hx10; exact val_bin rfl rfl rfl rfl (i64_lss _ _ _)) rfl rfl rfl (fun _ _ _ => trivial) ?_
    clear hx10
    refine z_val (v := .bool x10) (val_move rfl rfl) rfl rfl rfl (fun _ _ _ => trivial) ?_
    refine z_bind H 5 (fun (s : Bool) (_ : Unit) => [(3, .pointer (some ⟨g_3, 0, none⟩)), (4, .int .i64 x4), (16, .bool s)]) (fun _ _ => Mm w [] h [.blk g_3 78 (cV U8 x8) 32]) (fun _ _ => True) (fun Gr K s he HJ => ?_) (fun s g HB _ => ?_)
    ·
      clear H
      cases x10
      ·
        have H := cond_f he
        clear he
        refine z_skip rfl rfl (by rw [hops]; rfl) (fun _ _ _ => trivial) ?_
        refine z_skip rfl rfl (by rw [hops]; rfl) (fun _ _ _ => trivial) ?_
        refine z_skip rfl rfl (by rw [hops]; rfl) (fun _ _ _ => trivial) ?_
        refine z_skip rfl rfl (by rw [hops]; rfl) (fun _ _ _ => trivial) ?_
        refine z_val (v := .bool false) (val_pick rfl rfl rfl) rfl rfl rfl (fun _ _ _ => trivial) ?_
        obtain rfl := Option.some.inj H
        exact z_nil ((K _ () HJ trivial).weak (fun a ha => ha.cons rfl (ha.cons rfl (ha.cons rfl (ha.nil)))) (fun w hw => hw))
      ·
        have H := cond_t he
        clear he
        refine z_val (v := .int .i64 x4) (val_move rfl rfl) rfl rfl (by rw [hops]; rfl) (fun _ _ _ => trivial) ?_
        obtain ⟨hq_4, H⟩ := Chk_elim H
        refine z_val (v := .pointer (some ⟨g_3, x4.toNat, none⟩)) (val_idx0 rfl rfl rfl Try.underlying78 sz5 hq_4 rfl) rfl rfl (by rw [hops]; rfl) (fun _ _ _ => trivial) ?_
        obtain ⟨x14, hx14, H⟩ := Let_elim H
        refine z_val (v := U8 x14) (by subst hx14; exact val_load1 rfl rfl Try.underlying5 rfl (fun _ hw => hw.cell (j := 0) rfl (cV_at _ (idx_lt hq_4)))) rfl rfl (by rw [hops]; rfl) (fun _ _ _ => trivial) ?_
        clear hx14
        obtain ⟨x15, hx15, H⟩ := Let_elim H
        refine z_val (v := .bool x15) (by subst hx15; exact val_bin rfl rfl rfl rfl (u8_eql_r _ 0 x14)) rfl rfl (by rw [hops]; rfl) (fun _ _ _ => trivial) ?_
        clear hx15
        refine z_val (v := .bool x15) (val_pick rfl rfl rfl) rfl rfl rfl (fun _ _ _ => trivial) ?_
        obtain rfl := Option.some.inj H
        exact z_nil ((K _ () HJ trivial).weak (fun a ha => ha.cons rfl (ha.cons rfl (ha.cons rfl (ha.nil)))) (fun w hw => hw))
    ·
      replace H := HB
      clear HB
      obtain ⟨x16, rfl⟩ : ∃ x, x = s := ⟨_, rfl⟩
      change T 25 _ _ _
      refine z_nil ?_
      cases x16
      ·
        replace H := cond_f H
        refine t_cond_false rfl ?_
        refine t_exit rfl ?_
        obtain rfl := Option.some.inj H
        exact t_reach ((hb1 _ () rfl trivial).weak (fun a ha => ha.cons rfl (ha.cons rfl (ha.nil))) (fun w hw => hw))
      ·
        replace H := cond_t H
        refine t_cond_true rfl ?_
        refine t_skip ?_
        refine t_block ?_
        refine t_region (fun ops hops => ?_)
        clear hops
        refine z_val (v := .int .i64 x4) (val_move rfl rfl) rfl rfl rfl (fun _ _ _ => trivial) ?_
        obtain ⟨x18, hx18, H⟩ := Let_elim H
        refine z_val (v := .int .i64 x18) (by subst hx18; exact val_bin rfl rfl rfl rfl (i64_add _ _ _)) rfl rfl rfl (fun _ _ _ => trivial) ?_
        clear hx18
        refine z_val (v := .int .i64 x18) (val_assign rfl rfl) rfl rfl rfl (fun _ _ _ => trivial) ?_
        refine z_nil ?_
        refine t_fin ?_
        obtain rfl := Option.some.inj H
        exact t_reach ((hn1 _ () rfl trivial).weak (fun a ha => ha.cons rfl (ha.cons rfl (ha.nil))) (fun w hw => hw))
  ·
    obtain ⟨x4, rfl⟩ : ∃ x, x = s := ⟨_, rfl⟩
    subst hzz
    have H := HK1
    clear HK1 hz1
    replace H := sum_l H
    try dsimp only at H
    change T 25 _ _ _
    refine t_seq ?_
    refine t_region (fun ops hops => ?_)
    clear hops
    obtain ⟨x19, hx19, H⟩ := Let_elim H
    have hlx19 : x19.length = 0 := by subst hx19; rfl
    refine z_buildSlice' (e := 5) (f := U8) (xs := x19) (vs := []) rfl rfl (by subst hx19; intro w; kernel_rfl) hlx19 (by decide) rfl rfl rfl (fun _ _ _ _ => trivial) (fun g_5 hs_7 => ?_)
    clear hx19 hlx19
    refine z_val (v := .slice (some ⟨g_5, 0, none⟩) x19.length 0) (val_assign rfl rfl) rfl rfl rfl (fun _ _ _ => trivial) ?_
    refine z_nil ?_
    refine t_seq ?_
    refine t_region (fun ops hops => ?_)
    clear hops
    refine z_val (v := .slice (some ⟨g_5, 0, none⟩) x19.length 0) (val_move rfl rfl) rfl rfl rfl (fun _ _ _ => trivial) ?_
    refine z_val (v := .int .i64 x4) (val_move rfl rfl) rfl rfl rfl (fun _ _ _ => trivial) ?_
    obtain ⟨hq_8, H⟩ := Chk_elim H
    obtain ⟨x22, hx22, H⟩ := Let_elim H
    have hln : x4.toNat ≤ 32 ∧ 32 ≤ 32 := by omega
    have hl : x22.length = 32 - x4.toNat := by subst hx22; exact sla_len _ hln.2
    obtain ⟨q_9, hq_10⟩ : ∃ z, z = (if 32 = x4.toNat then 0 else x4.toNat) := ⟨_, rfl⟩
    obtain ⟨c_11, hc_120⟩ : ∃ z, z = 32 - x4.toNat := ⟨_, rfl⟩
    have hc_12 : x22.length ≤ c_11 := by omega
    refine z_val (v := .slice (some ⟨g_3, q_9, none⟩) x22.length c_11) (val_sliceA (l := x4.toNat) (k := 32) rfl rfl Try.underlying78 sz5 (.inr ⟨_, rfl, _, _, rfl, (by omega)⟩) (.inl ⟨rfl, rfl⟩) hln.1 hln.2 (by rw [hl, hq_10, hc_120]; first | rfl | (congr 2; split <;> simp))) rfl rfl rfl (fun _ _ _ => trivial) ?_
    obtain ⟨hq_13, H⟩ := Chk_elim H
    obtain ⟨x23, hx23, H⟩ := Let_elim H
    refine z_append (f := U8) (j := 0) (xs := x19) (ys := x22) (zs := x23) rfl rfl Try.underlying25 in5 rfl rfl rfl rfl (fun w hw => (sla_w hw (j := 1) rfl hq_10 hx22)) (fun _ => rfl) hq_13 (by decide) hx23 (fun A_14 c_15 => [.row (.slice A_14 x23.length c_15) 5 1 (x23.map U8), .blk g_3 78 (cV U8 x8) 32]) (fun _ _ => rfl) rfl rfl rfl (fun _ _ _ _ _ => trivial) (fun A_14 c_15 hs_16 => ?_)
    clear hx23
    refine z_val (v := .slice A_14 x23.length c_15) (val_assign rfl rfl) rfl rfl rfl (fun _ _ _ => trivial) ?_
    refine z_nil ?_
    refine t_seq ?_
    refine t_region (fun ops hops => ?_)
    clear hops
    refine z_val (v := .slice A_14 x23.length c_15) (val_move rfl rfl) rfl rfl rfl (fun _ _ _ => trivial) ?_
    refine z_val (v := .slice A_14 x23.length c_15) (val_assign rfl rfl) rfl rfl rfl (fun _ _ _ => trivial) ?_
    refine z_nil ?_
    refine t_ret ?_
    obtain rfl := Option.some.inj H
    exact ret1 rfl (res_tmp rfl) (fun _ hw => ⟨A_14, c_15, rfl, hw.below, (row_out hw (j := 0) rfl hs_16)⟩)
def smithyref07_Head (a0 : Int) (a1 : Int) : Option (List (BitVec 8)) :=
  Let (decide (a0 ≤ 55)) fun x8 => (bif x8 then Let (wi (128 + a1)) fun x10 => Let (wi (x10 + a0)) fun x12 => Let (BitVec.ofInt 8 x12) fun x13 => Let ([x13]) fun x14 => some x14 else Let (BitVec.ofInt 64 a0) fun x16 => Let ((Vec.rep 4 0#64).set 0 x16) fun x17 => (smithyref07_Number x17).bind fun x18 => Let (wi (183 + a1)) fun x20 => Let ((x18.length : Int)) fun x22 => Let (wi (x20 + x22)) fun x23 => Let (BitVec.ofInt 8 x23) fun x24 => Let ([x24]) fun x25 => Chk ((x25.length + x18.length) * 1 ≤ 140737488355328) <| Let (x25 ++ x18) fun x28 => some x28)
set_option maxRecDepth 100000 in
theorem smithyref07_Head.calls  (a0 : Int) (a1 : Int) (r : List (BitVec 8)) (H : smithyref07_Head a0 a1 = some r) (w : World)   :
    Calls Try.prog 77 #[.int .i64 a0, .int .i64 a1] w fun e w' => ∃ A c, e = .returned (.slice A r.length c) ∧ Below w.heap.size w w' ∧ OwnR w w' 5 U8 A c r := by
  unfold smithyref07_Head at H
  have hM := Mm.start w (snap w) (snap_ok w)
  generalize snap w = h at *
  refine t_enter (vs := [.int .i64 a0, .int .i64 a1]) (n := 30) Try.func77 rfl rfl rfl hM ?_
  clear hM
  change T 30 _ _ _
  refine t_seq ?_
  refine t_region (fun ops hops => ?_)
  clear hops
  refine z_val (v := .slice none 0 0) (val_assign rfl rfl) rfl rfl rfl (fun _ _ _ => trivial) ?_
  refine z_nil ?_
  refine t_seq ?_
  refine t_seq ?_
  refine t_region (fun ops hops => ?_)
  clear hops
  refine z_val (v := .int .i64 a0) (val_move rfl rfl) rfl rfl rfl (fun _ _ _ => trivial) ?_
  obtain ⟨x8, hx8, H⟩ := Let_elim H
  refine z_val (v := .bool x8) (by subst hx8; exact val_bin rfl rfl rfl rfl (i64_leq _ _ _)) rfl rfl rfl (fun _ _ _ => trivial) ?_
  clear hx8
  refine z_nil ?_
  cases x8
  ·
    replace H := cond_f H
    refine t_cond_false rfl ?_
    refine t_skip ?_
    refine t_seq ?_
    refine t_region (fun ops hops => ?_)
    clear hops
    refine z_val (v := .int .i64 a0) (val_move rfl rfl) rfl rfl rfl (fun _ _ _ => trivial) ?_
    obtain ⟨x16, hx16, H⟩ := Let_elim H
    refine z_val (v := U64 x16) (by subst hx16; exact val_conv rfl rfl (fun w => conv_int_u64 w _ _ .i64 _ (by rw [Try.underlying3]; rfl) Try.underlying22)) rfl rfl rfl (fun _ _ _ => trivial) ?_
    clear hx16
    obtain ⟨x17, hx17, H⟩ := Let_elim H
    refine z_val (v := .agg (cV U64 x17).toArray) (by subst hx17; exact val_build (vs := [(0, U64 x16)]) rfl rfl (fun w => by kernel_rfl)) rfl rfl rfl (fun _ _ _ => trivial) ?_
    clear hx17
    obtain ⟨x18, hx, H⟩ := Option.bind_eq_some_iff.1 H
    refine z_madeS (F := fun A_1 c_2 => .slice A_1 x18.length c_2) (xs := x18) rfl Try.func11 nm11 bs11 rfl (fun w hw => smithyref07_Number.calls x17 x18 hx w) rfl rfl rfl (fun _ _ _ _ _ => trivial) (fun A_1 c_2 hs_3 => ?_)
    clear hx
    refine z_val (v := .slice A_1 x18.length c_2) (val_assign rfl rfl) rfl rfl rfl (fun _ _ _ => trivial) ?_
    refine z_nil ?_
    refine t_seq ?_
    refine t_region (fun ops hops => ?_)
    clear hops
    refine z_val (v := .int .i64 a1) (val_move rfl rfl) rfl rfl rfl (fun _ _ _ => trivial) ?_
    obtain ⟨x20, hx20, H⟩ := Let_elim H
    refine z_val (v := .int .i64 x20) (by subst hx20; exact val_bin rfl rfl rfl rfl (i64_add _ _ _)) rfl rfl rfl (fun _ _ _ => trivial) ?_
    clear hx20
    refine z_val (v := .slice A_1 x18.length c_2) (val_move rfl rfl) rfl rfl rfl (fun _ _ _ => trivial) ?_
    obtain ⟨x22, hx22, H⟩ := Let_elim H
    refine z_val (v := .int .i64 x22) (by subst hx22; exact val_len rfl rfl rfl Try.underlying25) rfl rfl rfl (fun _ _ _ => trivial) ?_
    clear hx22
    obtain ⟨x23, hx23, H⟩ := Let_elim H
    refine z_val (v := .int .i64 x23) (by subst hx23; exact val_bin rfl rfl rfl rfl (i64_add _ _ _)) rfl rfl rfl (fun _ _ _ => trivial) ?_
    clear hx23
    obtain ⟨x24, hx24, H⟩ := Let_elim H
    refine z_val (v := U8 x24) (by subst hx24; exact val_conv rfl rfl (fun w => conv_int_u8 w _ _ .i64 _ (by rw [Try.underlying3]; rfl) Try.underlying5)) rfl rfl rfl (fun _ _ _ => trivial) ?_
    clear hx24
    obtain ⟨x25, hx25, H⟩ := Let_elim H
    have hlx25 : x25.length = 1 := by subst hx25; rfl
    refine z_buildSlice' (e := 5) (f := U8) (xs := x25) (vs := [(0, U8 x24)]) rfl rfl (by subst hx25; intro w; kernel_rfl) hlx25 (by decide) rfl rfl rfl (fun _ _ _ _ => trivial) (fun g_5 hs_7 => ?_)
    clear hx25 hlx25
    refine z_val (v := .slice (some ⟨g_5, 0, none⟩) x25.length 1) (val_assign rfl rfl) rfl rfl rfl (fun _ _ _ => trivial) ?_
    refine z_nil ?_
    refine t_seq ?_
    refine t_region (fun ops hops => ?_)
    clear hops
    refine z_val (v := .slice (some ⟨g_5, 0, none⟩) x25.length 1) (val_move rfl rfl) rfl rfl rfl (fun _ _ _ => trivial) ?_
    refine z_val (v := .slice A_1 x18.length c_2) (val_move rfl rfl) rfl rfl rfl (fun _ _ _ => trivial) ?_
    obtain ⟨hq_8, H⟩ := Chk_elim H
    obtain ⟨x28, hx28, H⟩ := Let_elim H
    refine z_append (f := U8) (j := 0) (xs := x25) (ys := x18) (zs := x28) rfl rfl Try.underlying25 in5 rfl rfl rfl rfl (fun w hw => (row_w hw (j := 1) rfl)) (fun _ => rfl) hq_8 (by decide) hx28 (fun A_9 c_10 => [.row (.slice A_9 x28.length c_10) 5 1 (x28.map U8), .row (.slice A_1 x18.length c_2) 5 1 (x18.map U8)]) (fun _ _ => rfl) rfl rfl rfl (fun _ _ _ _ _ => trivial) (fun A_9 c_10 hs_11 => ?_)
    clear hx28
    refine z_val (v := .slice A_9 x28.length c_10) (val_assign rfl rfl) rfl rfl rfl (fun _ _ _ => trivial) ?_
    refine z_nil ?_
    refine t_seq ?_
    refine t_region (fun ops hops => ?_)
    clear hops
    refine z_val (v := .slice A_9 x28.length c_10) (val_move rfl rfl) rfl rfl rfl (fun _ _ _ => trivial) ?_
    refine z_val (v := .slice A_9 x28.length c_10) (val_assign rfl rfl) rfl rfl rfl (fun _ _ _ => trivial) ?_
    refine z_nil ?_
    refine t_ret ?_
    obtain rfl := Option.some.inj H
    exact ret1 rfl (res_tmp rfl) (fun _ hw => ⟨A_9, c_10, rfl, hw.below, (row_out hw (j := 0) rfl hs_11)⟩)
  ·
    replace H := cond_t H
    refine t_cond_true rfl ?_
    refine t_seq ?_
    refine t_region (fun ops hops => ?_)
    clear hops
    refine z_val (v := .int .i64 a1) (val_move rfl rfl) rfl rfl rfl (fun _ _ _ => trivial) ?_
    obtain ⟨x10, hx10, H⟩ := Let_elim H
    refine z_val (v := .int .i64 x10) (by subst hx10; exact val_bin rfl rfl rfl rfl (i64_add _ _ _)) rfl rfl rfl (fun _ _ _ => trivial) ?_
    clear hx10
    refine z_val (v := .int .i64 a0) (val_move rfl rfl) rfl rfl rfl (fun _ _ _ => trivial) ?_
    obtain ⟨x12, hx12, H⟩ := Let_elim H
    refine z_val (v := .int .i64 x12) (by subst hx12; exact val_bin rfl rfl rfl rfl (i64_add _ _ _)) rfl rfl rfl (fun _ _ _ => trivial) ?_
    clear hx12
    obtain ⟨x13, hx13, H⟩ := Let_elim H
    refine z_val (v := U8 x13) (by subst hx13; exact val_conv rfl rfl (fun w => conv_int_u8 w _ _ .i64 _ (by rw [Try.underlying3]; rfl) Try.underlying5)) rfl rfl rfl (fun _ _ _ => trivial) ?_
    clear hx13
    obtain ⟨x14, hx14, H⟩ := Let_elim H
    have hlx14 : x14.length = 1 := by subst hx14; rfl
    refine z_buildSlice' (e := 5) (f := U8) (xs := x14) (vs := [(0, U8 x13)]) rfl rfl (by subst hx14; intro w; kernel_rfl) hlx14 (by decide) rfl rfl rfl (fun _ _ _ _ => trivial) (fun g_12 hs_14 => ?_)
    clear hx14 hlx14
    refine z_val (v := .slice (some ⟨g_12, 0, none⟩) x14.length 1) (val_assign rfl rfl) rfl rfl rfl (fun _ _ _ => trivial) ?_
    refine z_nil ?_
    refine t_ret ?_
    obtain rfl := Option.some.inj H
    exact ret1 rfl (res_tmp rfl) (fun _ hw => ⟨(some ⟨g_12, 0, none⟩), 1, rfl, hw.below, (row_out hw (j := 0) rfl hs_14)⟩)
end Go.Proofs.Ytapfkdcilfpbhaa
