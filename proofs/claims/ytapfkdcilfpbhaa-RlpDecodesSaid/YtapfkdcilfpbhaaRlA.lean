/- Functions of the program as plain functions, and their walks, printed by walk.py. -/
import Derived.Test.YtapfkdcilfpbhaaRlF
namespace Go.Proofs.Ytapfkdcilfpbhaa
open Go.RowKit
set_option linter.unusedVariables false
set_option linter.unusedSimpArgs false
def word_Of (a0 : BitVec 64) : Option (Vec (BitVec 64) 4) :=
  Let ((Vec.rep 4 0#64).set 0 a0) fun x4 => some x4
set_option maxRecDepth 100000 in
theorem word_Of.calls  (a0 : BitVec 64) (r : Vec (BitVec 64) 4) (H : word_Of a0 = some r) (w : World)   :
    Made Try.prog 43 #[U64 a0] w (.agg (cV U64 r).toArray) := by
  unfold word_Of at H
  have hM := Mm.start w (snap w) (snap_ok w)
  generalize snap w = h at *
  refine t_enter (vs := [U64 a0]) (n := 5) Try.func43 rfl rfl rfl hM ?_
  clear hM
  change T 5 _ _ _
  refine t_seq ?_
  refine t_region (fun ops hops => ?_)
  clear hops
  refine z_alloc (cs := cV U64 (Vec.rep 4 0#64)) (room := 4) rfl ze24 rfl (cV_len _) rfl rfl rfl (fun _ _ _ _ => trivial) (fun g_1 => ?_)
  refine z_nil ?_
  refine t_seq ?_
  refine t_region (fun ops hops => ?_)
  clear hops
  refine z_val (v := U64 a0) (val_move rfl rfl) rfl rfl rfl (fun _ _ _ => trivial) ?_
  obtain ⟨x4, hx4, H⟩ := Let_elim H
  refine z_val (v := .agg (cV U64 x4).toArray) (by subst hx4; exact val_build (vs := [(0, U64 a0)]) rfl rfl (fun w => by kernel_rfl)) rfl rfl rfl (fun _ _ _ => trivial) ?_
  clear hx4
  refine z_storeA (j := 0) (cs' := cV U64 x4) (L' := [.blk g_1 24 (cV U64 x4) 4]) rfl rfl rfl (cV_one (fun _ => rfl) _) sz24 rfl (cV_len _) rfl rfl rfl (fun _ _ _ => trivial) ?_
  refine z_nil ?_
  refine t_ret ?_
  obtain rfl := Option.some.inj H
  exact ret1 rfl (res_row (j := 0) rfl Try.underlying24 rfl sz24 rfl (cV_len _)) (fun _ hw => ⟨rfl, hw.below⟩)
def word_Bytes.b2 (x8 : Int) (x11 : BitVec 64) (y_3_5 : Vec (BitVec 8) 32) (x12 : Int) : Option (Ctl ((Vec (BitVec 8) 32) × (Int)) (Vec (BitVec 8) 32)) :=
  Let (decide (x12 < 8)) fun x13 => (bif x13 then Let (wi (8 * x8)) fun x16 => Let (wi (31 - x16)) fun x17 => Let (wi (x17 - x12)) fun x19 => Let (wi (8 * x12)) fun x22 => Chk (0 ≤ x22) <| Let (x11 >>> x22.toNat) fun x23 => Let (x23.setWidth 8) fun x24 => Chk (0 ≤ x19 ∧ x19 < ((32 : Nat) : Int)) <| Let (y_3_5.set x19.toNat x24) fun y_3_8 => Let (wi (x12 + 1)) fun x26 => some (.next (y_3_8, x26)) else some (.brk (y_3_5, x12)))
def word_Bytes.b1 (a0 : Vec (BitVec 64) 4) (y_3 : Vec (BitVec 8) 32) (x8 : Int) : Option (Ctl ((Vec (BitVec 8) 32) × (Int)) (Vec (BitVec 8) 32)) :=
  Let (decide (x8 < 4)) fun x9 => (bif x9 then Chk (0 ≤ x8 ∧ x8 < ((4 : Nat) : Int)) <| Let (a0.get x8.toNat) fun x11 => (wlx (σ := (Vec (BitVec 8) 32) × (Int)) (fun s => word_Bytes.b2 x8 x11 s.1 s.2) (y_3, 0)).bind (Sum.elim (fun s => (fun y_3_5 x12 => Let (wi (x8 + 1)) fun x27 => some (.next (y_3_5, x27))) s.1 s.2) (fun r => some (.ret r))) else some (.brk (y_3, x8)))
def word_Bytes (a0 : Vec (BitVec 64) 4) : Option (Vec (BitVec 8) 32) :=
  (wlx (σ := (Vec (BitVec 8) 32) × (Int)) (fun s => word_Bytes.b1 a0 s.1 s.2) ((Vec.rep 32 0#8), 0)).bind (Sum.elim (fun s => (fun y_3 x8 => some y_3) s.1 s.2) (fun r => some r))
set_option maxRecDepth 100000 in
theorem word_Bytes.calls  (a0 : Vec (BitVec 64) 4) (r : Vec (BitVec 8) 32) (H : word_Bytes a0 = some r) (w : World)   :
    Made Try.prog 38 #[.agg (cV U64 a0).toArray] w (.agg (cV U8 r).toArray) := by
  unfold word_Bytes at H
  have hM := Mm.start w (snap w) (snap_ok w)
  generalize snap w = h at *
  refine t_enter (vs := [.agg (cV U64 a0).toArray]) (n := 29) Try.func38 rfl rfl rfl hM ?_
  clear hM
  change T 29 _ _ _
  refine t_seq ?_
  refine t_region (fun ops hops => ?_)
  clear hops
  refine z_box (cs := cV U64 a0) (room := 4) rfl rfl rfl (cV_len _) rfl rfl rfl (fun _ _ _ _ => trivial) (fun g_1 => ?_)
  refine z_alloc (cs := cV U8 (Vec.rep 32 0#8)) (room := 32) rfl ze78 rfl (cV_len _) rfl rfl rfl (fun _ _ _ _ => trivial) (fun g_2 => ?_)
  refine z_nil ?_
  refine t_seq ?_
  refine t_region (fun ops hops => ?_)
  clear hops
  refine z_alloc (cs := cV U8 (Vec.rep 32 0#8)) (room := 32) rfl ze78 rfl (cV_len _) rfl rfl rfl (fun _ _ _ _ => trivial) (fun g_3 => ?_)
  refine z_nil ?_
  refine t_seq ?_
  refine t_seq ?_
  refine t_region (fun ops hops => ?_)
  clear hops
  refine z_val (v := .agg (cV U64 a0).toArray) (val_loadR (off := 0) (cs := cV U64 a0) rfl rfl Try.underlying24 rfl (sz24.trans (congrArg some (cV_len _).symm)) (fun _ hw => hw.whole (j := 2) rfl)) rfl rfl rfl (fun _ _ _ => trivial) ?_
  refine z_val (v := .int .i64 0) (val_move rfl rfl) rfl rfl rfl (fun _ _ _ => trivial) ?_
  refine z_nil ?_
  refine t_block ?_
  obtain ⟨z1, hz1, HK1⟩ := Option.bind_eq_some_iff.1 H
  clear H
  refine t_while hz1 (fun (s : (Vec (BitVec 8) 32) × (Int)) (g : Unit) => [(2, .pointer (some ⟨g_2, 0, none⟩)), (3, .pointer (some ⟨g_3, 0, none⟩)), (7, .agg (cV U64 a0).toArray), (8, .int .i64 s.2)]) (fun (s : (Vec (BitVec 8) 32) × (Int)) (g : Unit) => [(2, .pointer (some ⟨g_2, 0, none⟩)), (3, .pointer (some ⟨g_3, 0, none⟩))]) (fun (s : (Vec (BitVec 8) 32) × (Int)) (g : Unit) => Mm w [] h [.blk g_3 78 (cV U8 s.1) 32, .blk g_2 78 (cV U8 (Vec.rep 32 0#8)) 32]) (fun (s : (Vec (BitVec 8) 32) × (Int)) (g : Unit) => Mm w [] h [.blk g_3 78 (cV U8 s.1) 32, .blk g_2 78 (cV U8 (Vec.rep 32 0#8)) 32]) (fun (s : (Vec (BitVec 8) 32) × (Int)) (g : Unit) => True) (fun (s : (Vec (BitVec 8) 32) × (Int)) (g : Unit) => True) () trivial (fun a w ha hw => ⟨ha.cons rfl (ha.cons rfl (ha.cons rfl (ha.cons rfl (ha.nil)))), hw.sel [0, 1] rfl rfl⟩) (fun Gn Gb s g e hφ H hn1 hb1 hr1 => ?_) (fun s g hzz hφ => ?_)
  ·
    obtain ⟨y_3, x8⟩ := s
    change word_Bytes.b1 a0 y_3 x8 = some e at H
    unfold word_Bytes.b1 at H
    clear hz1
    change T 29 _ _ _
    refine t_seq ?_
    refine t_region (fun ops hops => ?_)
    clear hops
    obtain ⟨x9, hx9, H⟩ := Let_elim H
    refine z_val (v := .bool x9) (by subst hx9; exact val_bin rfl rfl rfl rfl (i64_lss _ _ _)) rfl rfl rfl (fun _ _ _ => trivial) ?_
    clear hx9
    refine z_nil ?_
    refine t_seq ?_
    cases x9
    ·
      replace H := cond_f H
      refine t_cond_false rfl ?_
      refine t_exit rfl ?_
      obtain rfl := Option.some.inj H
      exact t_reach ((hb1 _ () rfl trivial).weak (fun a ha => ha.cons rfl (ha.cons rfl (ha.nil))) (fun w hw => hw))
    ·
      replace H := cond_t H
      refine t_cond_true rfl ?_
      refine t_skip ?_
      refine t_seq ?_
      refine t_block ?_
      refine t_seq ?_
      refine t_region (fun ops hops => ?_)
      clear hops
      refine z_val (v := .int .i64 x8) (val_move rfl rfl) rfl rfl rfl (fun _ _ _ => trivial) ?_
      obtain ⟨hq_4, H⟩ := Chk_elim H
      obtain ⟨x11, hx11, H⟩ := Let_elim H
      refine z_val (v := U64 x11) (by subst hx11; exact val_index rfl rfl rfl Try.underlying24 Try.underlying22 rfl sz22 hq_4 (cVa_at _ (idx_lt hq_4))) rfl rfl rfl (fun _ _ _ => trivial) ?_
      clear hx11
      refine z_val (v := .int .i64 x8) (val_assign rfl rfl) rfl rfl rfl (fun _ _ _ => trivial) ?_
      refine z_val (v := U64 x11) (val_assign rfl rfl) rfl rfl rfl (fun _ _ _ => trivial) ?_
      refine z_nil ?_
      refine t_seq ?_
      refine t_region (fun ops hops => ?_)
      clear hops
      refine z_val (v := .int .i64 0) (val_move rfl rfl) rfl rfl rfl (fun _ _ _ => trivial) ?_
      refine z_nil ?_
      refine t_block ?_
      obtain ⟨z2, hz2, HK2⟩ := Option.bind_eq_some_iff.1 H
      clear H
      refine t_while hz2 (fun (s : (Vec (BitVec 8) 32) × (Int)) (g : Unit) => [(2, .pointer (some ⟨g_2, 0, none⟩)), (3, .pointer (some ⟨g_3, 0, none⟩)), (4, .int .i64 x8), (5, U64 x11), (7, .agg (cV U64 a0).toArray), (8, .int .i64 x8), (12, .int .i64 s.2)]) (fun (s : (Vec (BitVec 8) 32) × (Int)) (g : Unit) => [(2, .pointer (some ⟨g_2, 0, none⟩)), (3, .pointer (some ⟨g_3, 0, none⟩)), (7, .agg (cV U64 a0).toArray), (8, .int .i64 x8)]) (fun (s : (Vec (BitVec 8) 32) × (Int)) (g : Unit) => Mm w [] h [.blk g_3 78 (cV U8 s.1) 32, .blk g_2 78 (cV U8 (Vec.rep 32 0#8)) 32]) (fun (s : (Vec (BitVec 8) 32) × (Int)) (g : Unit) => Mm w [] h [.blk g_3 78 (cV U8 s.1) 32, .blk g_2 78 (cV U8 (Vec.rep 32 0#8)) 32]) (fun (s : (Vec (BitVec 8) 32) × (Int)) (g : Unit) => True) (fun (s : (Vec (BitVec 8) 32) × (Int)) (g : Unit) => True) () trivial (fun a w ha hw => ⟨ha.cons rfl (ha.cons rfl (ha.cons rfl (ha.cons rfl (ha.cons rfl (ha.cons rfl (ha.cons rfl (ha.nil))))))), hw⟩) (fun Gn Gb s g e hφ H hn2 hb2 hr2 => ?_) (fun s g hzz hφ => ?_)
      ·
        obtain ⟨y_3_5, x12⟩ := s
        change word_Bytes.b2 x8 x11 y_3_5 x12 = some e at H
        unfold word_Bytes.b2 at H
        clear hz2
        change T 29 _ _ _
        refine t_seq ?_
        refine t_region (fun ops hops => ?_)
        clear hops
        obtain ⟨x13, hx13, H⟩ := Let_elim H
        refine z_val (v := .bool x13) (by subst hx13; exact val_bin rfl rfl rfl rfl (i64_lss _ _ _)) rfl rfl rfl (fun _ _ _ => trivial) ?_
        clear hx13
        refine z_nil ?_
        refine t_seq ?_
        cases x13
        ·
          replace H := cond_f H
          refine t_cond_false rfl ?_
          refine t_exit rfl ?_
          obtain rfl := Option.some.inj H
          exact t_reach ((hb2 _ () rfl trivial).weak (fun a ha => ha.cons rfl (ha.cons rfl (ha.cons rfl (ha.cons rfl (ha.nil))))) (fun w hw => hw))
        ·
          replace H := cond_t H
          refine t_cond_true rfl ?_
          refine t_skip ?_
          refine t_seq ?_
          refine t_block ?_
          refine t_seq ?_
          refine t_region (fun ops hops => ?_)
          clear hops
          refine z_val (v := .int .i64 x12) (val_move rfl rfl) rfl rfl rfl (fun _ _ _ => trivial) ?_
          refine z_val (v := .int .i64 x12) (val_assign rfl rfl) rfl rfl rfl (fun _ _ _ => trivial) ?_
          refine z_nil ?_
          refine t_region (fun ops hops => ?_)
          clear hops
          refine z_val (v := .int .i64 x8) (val_move rfl rfl) rfl rfl rfl (fun _ _ _ => trivial) ?_
          obtain ⟨x16, hx16, H⟩ := Let_elim H
          refine z_val (v := .int .i64 x16) (by subst hx16; exact val_bin rfl rfl rfl rfl (i64_mul _ _ _)) rfl rfl rfl (fun _ _ _ => trivial) ?_
          clear hx16
          obtain ⟨x17, hx17, H⟩ := Let_elim H
          refine z_val (v := .int .i64 x17) (by subst hx17; exact val_bin rfl rfl rfl rfl (i64_sub _ _ _)) rfl rfl rfl (fun _ _ _ => trivial) ?_
          clear hx17
          refine z_val (v := .int .i64 x12) (val_move rfl rfl) rfl rfl rfl (fun _ _ _ => trivial) ?_
          obtain ⟨x19, hx19, H⟩ := Let_elim H
          refine z_val (v := .int .i64 x19) (by subst hx19; exact val_bin rfl rfl rfl rfl (i64_sub _ _ _)) rfl rfl rfl (fun _ _ _ => trivial) ?_
          clear hx19
          refine z_val (v := U64 x11) (val_move rfl rfl) rfl rfl rfl (fun _ _ _ => trivial) ?_
          refine z_val (v := .int .i64 x12) (val_move rfl rfl) rfl rfl rfl (fun _ _ _ => trivial) ?_
          obtain ⟨x22, hx22, H⟩ := Let_elim H
          refine z_val (v := .int .i64 x22) (by subst hx22; exact val_bin rfl rfl rfl rfl (i64_mul _ _ _)) rfl rfl rfl (fun _ _ _ => trivial) ?_
          clear hx22
          obtain ⟨hq_6, H⟩ := Chk_elim H
          obtain ⟨x23, hx23, H⟩ := Let_elim H
          refine z_val (v := U64 x23) (by subst hx23; exact val_bin rfl rfl rfl rfl (u64_shr _ _ _ _ hq_6)) rfl rfl rfl (fun _ _ _ => trivial) ?_
          clear hx23
          obtain ⟨x24, hx24, H⟩ := Let_elim H
          refine z_val (v := U8 x24) (by subst hx24; exact val_conv rfl rfl (fun w => conv_u64_u8 w _ _ _ (by rw [Try.underlying22]; rfl) Try.underlying5)) rfl rfl rfl (fun _ _ _ => trivial) ?_
          clear hx24
          obtain ⟨hq_7, H⟩ := Chk_elim H
          refine z_val (v := .pointer (some ⟨g_3, x19.toNat, none⟩)) (val_idx0 rfl rfl rfl Try.underlying78 sz5 hq_7 rfl) rfl rfl rfl (fun _ _ _ => trivial) ?_
          obtain ⟨y_3_8, hy_3_8, H⟩ := Let_elim H
          refine z_store1 (j := 0) (cs' := cV U8 y_3_8) (L' := [.blk g_3 78 (cV U8 y_3_8) 32, .blk g_2 78 (cV U8 (Vec.rep 32 0#8)) 32]) rfl rfl rfl rfl rfl sz5 rfl (by rw [cV_len]; exact (idx_lt hq_7)) (by subst hy_3_8; exact cV_set (f := U8) _ _ x24) rfl rfl rfl (fun _ _ _ => trivial) ?_
          clear hy_3_8
          refine z_nil ?_
          refine t_fin ?_
          refine t_region (fun ops hops => ?_)
          clear hops
          obtain ⟨x26, hx26, H⟩ := Let_elim H
          refine z_val (v := .int .i64 x26) (by subst hx26; exact val_bin rfl rfl rfl rfl (i64_add _ _ _)) rfl rfl rfl (fun _ _ _ => trivial) ?_
          clear hx26
          refine z_val (v := .int .i64 x26) (val_move rfl rfl) rfl rfl rfl (fun _ _ _ => trivial) ?_
          refine z_nil ?_
          obtain rfl := Option.some.inj H
          exact t_reach ((hn2 _ () rfl trivial).weak (fun a ha => ha.cons rfl (ha.cons rfl (ha.cons rfl (ha.cons rfl (ha.cons rfl (ha.cons rfl (ha.cons rfl (ha.nil)))))))) (fun w hw => hw))
      ·
        obtain ⟨y_3_5, x12⟩ := s
        subst hzz
        have H := HK2
        clear HK2 hz2
        replace H := sum_l H
        try dsimp only at H
        change T 29 _ _ _
        refine t_fin ?_
        refine t_region (fun ops hops => ?_)
        clear hops
        obtain ⟨x27, hx27, H⟩ := Let_elim H
        refine z_val (v := .int .i64 x27) (by subst hx27; exact val_bin rfl rfl rfl rfl (i64_add _ _ _)) rfl rfl rfl (fun _ _ _ => trivial) ?_
        clear hx27
        refine z_val (v := .int .i64 x27) (val_move rfl rfl) rfl rfl rfl (fun _ _ _ => trivial) ?_
        refine z_nil ?_
        obtain rfl := Option.some.inj H
        exact t_reach ((hn1 _ () rfl trivial).weak (fun a ha => ha.cons rfl (ha.cons rfl (ha.cons rfl (ha.cons rfl (ha.nil))))) (fun w hw => hw))
  ·
    obtain ⟨y_3, x8⟩ := s
    subst hzz
    have H := HK1
    clear HK1 hz1
    replace H := sum_l H
    try dsimp only at H
    change T 29 _ _ _
    refine t_seq ?_
    refine t_region (fun ops hops => ?_)
    clear hops
    refine z_val (v := .agg (cV U8 y_3).toArray) (val_loadR (off := 0) (cs := cV U8 y_3) rfl rfl Try.underlying78 rfl (sz78.trans (congrArg some (cV_len _).symm)) (fun _ hw => hw.whole (j := 0) rfl)) rfl rfl rfl (fun _ _ _ => trivial) ?_
    refine z_storeA (j := 1) (cs' := cV U8 y_3) (L' := [.blk g_3 78 (cV U8 y_3) 32, .blk g_2 78 (cV U8 y_3) 32]) rfl rfl rfl (cV_one (fun _ => rfl) _) sz78 rfl (cV_len _) rfl rfl rfl (fun _ _ _ => trivial) ?_
    refine z_nil ?_
    refine t_ret ?_
    obtain rfl := Option.some.inj H
    exact ret1 rfl (res_row (j := 1) rfl Try.underlying78 rfl sz78 rfl (cV_len _)) (fun _ hw => ⟨rfl, hw.below⟩)
def bits_Len64 (a0 : BitVec 64) : Option (Int) :=
  Let (decide ((a0.toNat : Int) ≥ 4294967296)) fun x4 => (bif x4 then Let (a0 >>> 32) fun x6 => some (x6, 32) else some (a0, 0)).bind (fun (s : (BitVec 64) × (Int)) => (fun (x0 : BitVec 64) (x2 : Int) => Let (decide ((x0.toNat : Int) ≥ 65536)) fun x8 => (bif x8 then Let (x0 >>> 16) fun x10 => Let (wi (x2 + 16)) fun x12 => some (x10, x12) else some (x0, x2)).bind (fun (s : (BitVec 64) × (Int)) => (fun (x0_1 : BitVec 64) (x2_2 : Int) => Let (decide ((x0_1.toNat : Int) ≥ 256)) fun x14 => (bif x14 then Let (x0_1 >>> 8) fun x16 => Let (wi (x2_2 + 8)) fun x18 => some (x16, x18) else some (x0_1, x2_2)).bind (fun (s : (BitVec 64) × (Int)) => (fun (x0_3 : BitVec 64) (x2_4 : Int) => Let (x0_3.setWidth 8) fun x21 => Chk (0 ≤ (x21.toNat : Int) ∧ (x21.toNat : Int) < (((⟨#[0, 1, 2, 2, 3, 3, 3, 3, 4, 4, 4, 4, 4, 4, 4, 4, 5, 5, 5, 5, 5, 5, 5, 5, 5, 5, 5, 5, 5, 5, 5, 5, 6, 6, 6, 6, 6, 6, 6, 6, 6, 6, 6, 6, 6, 6, 6, 6, 6, 6, 6, 6, 6, 6, 6, 6, 6, 6, 6, 6, 6, 6, 6, 6, 7, 7, 7, 7, 7, 7, 7, 7, 7, 7, 7, 7, 7, 7, 7, 7, 7, 7, 7, 7, 7, 7, 7, 7, 7, 7, 7, 7, 7, 7, 7, 7, 7, 7, 7, 7, 7, 7, 7, 7, 7, 7, 7, 7, 7, 7, 7, 7, 7, 7, 7, 7, 7, 7, 7, 7, 7, 7, 7, 7, 7, 7, 7, 7, 8, 8, 8, 8, 8, 8, 8, 8, 8, 8, 8, 8, 8, 8, 8, 8, 8, 8, 8, 8, 8, 8, 8, 8, 8, 8, 8, 8, 8, 8, 8, 8, 8, 8, 8, 8, 8, 8, 8, 8, 8, 8, 8, 8, 8, 8, 8, 8, 8, 8, 8, 8, 8, 8, 8, 8, 8, 8, 8, 8, 8, 8, 8, 8, 8, 8, 8, 8, 8, 8, 8, 8, 8, 8, 8, 8, 8, 8, 8, 8, 8, 8, 8, 8, 8, 8, 8, 8, 8, 8, 8, 8, 8, 8, 8, 8, 8, 8, 8, 8, 8, 8, 8, 8, 8, 8, 8, 8, 8, 8, 8, 8, 8, 8, 8, 8, 8, 8, 8, 8, 8, 8, 8, 8, 8, 8, 8, 8]⟩ : ByteArray).size : Nat) : Int)) <| Let (strAt (⟨#[0, 1, 2, 2, 3, 3, 3, 3, 4, 4, 4, 4, 4, 4, 4, 4, 5, 5, 5, 5, 5, 5, 5, 5, 5, 5, 5, 5, 5, 5, 5, 5, 6, 6, 6, 6, 6, 6, 6, 6, 6, 6, 6, 6, 6, 6, 6, 6, 6, 6, 6, 6, 6, 6, 6, 6, 6, 6, 6, 6, 6, 6, 6, 6, 7, 7, 7, 7, 7, 7, 7, 7, 7, 7, 7, 7, 7, 7, 7, 7, 7, 7, 7, 7, 7, 7, 7, 7, 7, 7, 7, 7, 7, 7, 7, 7, 7, 7, 7, 7, 7, 7, 7, 7, 7, 7, 7, 7, 7, 7, 7, 7, 7, 7, 7, 7, 7, 7, 7, 7, 7, 7, 7, 7, 7, 7, 7, 7, 8, 8, 8, 8, 8, 8, 8, 8, 8, 8, 8, 8, 8, 8, 8, 8, 8, 8, 8, 8, 8, 8, 8, 8, 8, 8, 8, 8, 8, 8, 8, 8, 8, 8, 8, 8, 8, 8, 8, 8, 8, 8, 8, 8, 8, 8, 8, 8, 8, 8, 8, 8, 8, 8, 8, 8, 8, 8, 8, 8, 8, 8, 8, 8, 8, 8, 8, 8, 8, 8, 8, 8, 8, 8, 8, 8, 8, 8, 8, 8, 8, 8, 8, 8, 8, 8, 8, 8, 8, 8, 8, 8, 8, 8, 8, 8, 8, 8, 8, 8, 8, 8, 8, 8, 8, 8, 8, 8, 8, 8, 8, 8, 8, 8, 8, 8, 8, 8, 8, 8, 8, 8, 8, 8, 8, 8, 8, 8]⟩ : ByteArray) x21.toNat) fun x22 => Let ((x22.toNat : Int)) fun x23 => Let (wi (x2_4 + x23)) fun x24 => some x24) s.1 s.2)) s.1 s.2)) s.1 s.2)
set_option maxRecDepth 100000 in
theorem bits_Len64.calls  (a0 : BitVec 64) (r : Int) (H : bits_Len64 a0 = some r) (w : World)   :
    Made Try.prog 83 #[U64 a0] w (.int .i64 r) := by
  unfold bits_Len64 at H
  have hM := Mm.start w (snap w) (snap_ok w)
  generalize snap w = h at *
  refine t_enter (vs := [U64 a0]) (n := 25) Try.func83 rfl rfl rfl hM ?_
  clear hM
  change T 25 _ _ _
  refine t_seq ?_
  refine t_region (fun ops hops => ?_)
  clear hops
  refine z_val (v := .int .i64 0) (val_assign rfl rfl) rfl rfl rfl (fun _ _ _ => trivial) ?_
  refine z_nil ?_
  refine t_seq ?_
  refine t_seq ?_
  refine t_region (fun ops hops => ?_)
  clear hops
  refine z_val (v := U64 a0) (val_move rfl rfl) rfl rfl rfl (fun _ _ _ => trivial) ?_
  obtain ⟨x4, hx4, H⟩ := Let_elim H
  refine z_val (v := .bool x4) (by subst hx4; exact val_bin rfl rfl rfl rfl (u64_geq_r _ 4294967296 a0)) rfl rfl rfl (fun _ _ _ => trivial) ?_
  clear hx4
  refine z_nil ?_
  refine t_bind H (fun (s : (BitVec 64) × (Int)) (g : Unit) => [(0, U64 s.1), (2, .int .i64 s.2)]) (fun (s : (BitVec 64) × (Int)) (g : Unit) => Mm w [] h []) (fun (s : (BitVec 64) × (Int)) (g : Unit) => True) (fun Gr K s he HJ => ?_) (fun s g HB hφ => ?_)
  ·
    clear H
    cases x4
    ·
      have H := cond_f he
      clear he
      refine t_cond_false rfl ?_
      refine t_skip ?_
      obtain rfl := Option.some.inj H
      exact t_reach ((K _ () HJ trivial).weak (fun a ha => ha.cons rfl (ha.cons rfl (ha.nil))) (fun w hw => hw))
    ·
      have H := cond_t he
      clear he
      refine t_cond_true rfl ?_
      refine t_seq ?_
      refine t_region (fun ops hops => ?_)
      clear hops
      refine z_val (v := U64 a0) (val_move rfl rfl) rfl rfl rfl (fun _ _ _ => trivial) ?_
      obtain ⟨x6, hx6, H⟩ := Let_elim H
      refine z_val (v := U64 x6) (by subst hx6; exact val_bin rfl rfl rfl rfl (u64_shr _ _ _ _ (by decide))) rfl rfl rfl (fun _ _ _ => trivial) ?_
      clear hx6
      refine z_val (v := U64 x6) (val_assign rfl rfl) rfl rfl rfl (fun _ _ _ => trivial) ?_
      refine z_nil ?_
      refine t_region (fun ops hops => ?_)
      clear hops
      refine z_val (v := .int .i64 32) (val_assign rfl rfl) rfl rfl rfl (fun _ _ _ => trivial) ?_
      refine z_nil ?_
      obtain rfl := Option.some.inj H
      exact t_reach ((K _ () HJ trivial).weak (fun a ha => ha.cons rfl (ha.cons rfl (ha.nil))) (fun w hw => hw))
  ·
    replace H := HB
    clear HB
    obtain ⟨x0, x2⟩ := s
    try dsimp only at H
    change T 25 _ _ _
    refine t_seq ?_
    refine t_seq ?_
    refine t_region (fun ops hops => ?_)
    clear hops
    refine z_val (v := U64 x0) (val_move rfl rfl) rfl rfl rfl (fun _ _ _ => trivial) ?_
    obtain ⟨x8, hx8, H⟩ := Let_elim H
    refine z_val (v := .bool x8) (by subst hx8; exact val_bin rfl rfl rfl rfl (u64_geq_r _ 65536 x0)) rfl rfl rfl (fun _ _ _ => trivial) ?_
    clear hx8
    refine z_nil ?_
    refine t_bind H (fun (s : (BitVec 64) × (Int)) (g : Unit) => [(0, U64 s.1), (2, .int .i64 s.2)]) (fun (s : (BitVec 64) × (Int)) (g : Unit) => Mm w [] h []) (fun (s : (BitVec 64) × (Int)) (g : Unit) => True) (fun Gr K s he HJ => ?_) (fun s g HB hφ => ?_)
    ·
      clear H
      cases x8
      ·
        have H := cond_f he
        clear he
        refine t_cond_false rfl ?_
        refine t_skip ?_
        obtain rfl := Option.some.inj H
        exact t_reach ((K _ () HJ trivial).weak (fun a ha => ha.cons rfl (ha.cons rfl (ha.nil))) (fun w hw => hw))
      ·
        have H := cond_t he
        clear he
        refine t_cond_true rfl ?_
        refine t_seq ?_
        refine t_region (fun ops hops => ?_)
        clear hops
        refine z_val (v := U64 x0) (val_move rfl rfl) rfl rfl rfl (fun _ _ _ => trivial) ?_
        obtain ⟨x10, hx10, H⟩ := Let_elim H
        refine z_val (v := U64 x10) (by subst hx10; exact val_bin rfl rfl rfl rfl (u64_shr _ _ _ _ (by decide))) rfl rfl rfl (fun _ _ _ => trivial) ?_
        clear hx10
        refine z_val (v := U64 x10) (val_assign rfl rfl) rfl rfl rfl (fun _ _ _ => trivial) ?_
        refine z_nil ?_
        refine t_region (fun ops hops => ?_)
        clear hops
        refine z_val (v := .int .i64 x2) (val_move rfl rfl) rfl rfl rfl (fun _ _ _ => trivial) ?_
        obtain ⟨x12, hx12, H⟩ := Let_elim H
        refine z_val (v := .int .i64 x12) (by subst hx12; exact val_bin rfl rfl rfl rfl (i64_add _ _ _)) rfl rfl rfl (fun _ _ _ => trivial) ?_
        clear hx12
        refine z_val (v := .int .i64 x12) (val_assign rfl rfl) rfl rfl rfl (fun _ _ _ => trivial) ?_
        refine z_nil ?_
        obtain rfl := Option.some.inj H
        exact t_reach ((K _ () HJ trivial).weak (fun a ha => ha.cons rfl (ha.cons rfl (ha.nil))) (fun w hw => hw))
    ·
      replace H := HB
      clear HB
      obtain ⟨x0_1, x2_2⟩ := s
      try dsimp only at H
      change T 25 _ _ _
      refine t_seq ?_
      refine t_seq ?_
      refine t_region (fun ops hops => ?_)
      clear hops
      refine z_val (v := U64 x0_1) (val_move rfl rfl) rfl rfl rfl (fun _ _ _ => trivial) ?_
      obtain ⟨x14, hx14, H⟩ := Let_elim H
      refine z_val (v := .bool x14) (by subst hx14; exact val_bin rfl rfl rfl rfl (u64_geq_r _ 256 x0_1)) rfl rfl rfl (fun _ _ _ => trivial) ?_
      clear hx14
      refine z_nil ?_
      refine t_bind H (fun (s : (BitVec 64) × (Int)) (g : Unit) => [(0, U64 s.1), (2, .int .i64 s.2)]) (fun (s : (BitVec 64) × (Int)) (g : Unit) => Mm w [] h []) (fun (s : (BitVec 64) × (Int)) (g : Unit) => True) (fun Gr K s he HJ => ?_) (fun s g HB hφ => ?_)
      ·
        clear H
        cases x14
        ·
          have H := cond_f he
          clear he
          refine t_cond_false rfl ?_
          refine t_skip ?_
          obtain rfl := Option.some.inj H
          exact t_reach ((K _ () HJ trivial).weak (fun a ha => ha.cons rfl (ha.cons rfl (ha.nil))) (fun w hw => hw))
        ·
          have H := cond_t he
          clear he
          refine t_cond_true rfl ?_
          refine t_seq ?_
          refine t_region (fun ops hops => ?_)
          clear hops
          refine z_val (v := U64 x0_1) (val_move rfl rfl) rfl rfl rfl (fun _ _ _ => trivial) ?_
          obtain ⟨x16, hx16, H⟩ := Let_elim H
          refine z_val (v := U64 x16) (by subst hx16; exact val_bin rfl rfl rfl rfl (u64_shr _ _ _ _ (by decide))) rfl rfl rfl (fun _ _ _ => trivial) ?_
          clear hx16
          refine z_val (v := U64 x16) (val_assign rfl rfl) rfl rfl rfl (fun _ _ _ => trivial) ?_
          refine z_nil ?_
          refine t_region (fun ops hops => ?_)
          clear hops
          refine z_val (v := .int .i64 x2_2) (val_move rfl rfl) rfl rfl rfl (fun _ _ _ => trivial) ?_
          obtain ⟨x18, hx18, H⟩ := Let_elim H
          refine z_val (v := .int .i64 x18) (by subst hx18; exact val_bin rfl rfl rfl rfl (i64_add _ _ _)) rfl rfl rfl (fun _ _ _ => trivial) ?_
          clear hx18
          refine z_val (v := .int .i64 x18) (val_assign rfl rfl) rfl rfl rfl (fun _ _ _ => trivial) ?_
          refine z_nil ?_
          obtain rfl := Option.some.inj H
          exact t_reach ((K _ () HJ trivial).weak (fun a ha => ha.cons rfl (ha.cons rfl (ha.nil))) (fun w hw => hw))
      ·
        replace H := HB
        clear HB
        obtain ⟨x0_3, x2_4⟩ := s
        try dsimp only at H
        change T 25 _ _ _
        refine t_seq ?_
        refine t_region (fun ops hops => ?_)
        clear hops
        refine z_val (v := .int .i64 x2_4) (val_move rfl rfl) rfl rfl rfl (fun _ _ _ => trivial) ?_
        refine z_val (v := U64 x0_3) (val_move rfl rfl) rfl rfl rfl (fun _ _ _ => trivial) ?_
        obtain ⟨x21, hx21, H⟩ := Let_elim H
        refine z_val (v := U8 x21) (by subst hx21; exact val_conv rfl rfl (fun w => conv_u64_u8 w _ _ _ (by rw [Try.underlying22]; rfl) Try.underlying5)) rfl rfl rfl (fun _ _ _ => trivial) ?_
        clear hx21
        obtain ⟨hq_5, H⟩ := Chk_elim H
        obtain ⟨x22, hx22, H⟩ := Let_elim H
        refine z_val (v := U8 x22) (by subst hx22; exact val_indexS rfl rfl rfl Try.underlying9 hq_5 (Int.toNat_natCast _) rfl) rfl rfl rfl (fun _ _ _ => trivial) ?_
        clear hx22
        obtain ⟨x23, hx23, H⟩ := Let_elim H
        refine z_val (v := .int .i64 x23) (by subst hx23; exact val_conv rfl rfl (fun w => conv_u8_int w _ _ _ (by rw [Try.underlying5]; rfl) Try.underlying3)) rfl rfl rfl (fun _ _ _ => trivial) ?_
        clear hx23
        obtain ⟨x24, hx24, H⟩ := Let_elim H
        refine z_val (v := .int .i64 x24) (by subst hx24; exact val_bin rfl rfl rfl rfl (i64_add _ _ _)) rfl rfl rfl (fun _ _ _ => trivial) ?_
        clear hx24
        refine z_val (v := .int .i64 x24) (val_assign rfl rfl) rfl rfl rfl (fun _ _ _ => trivial) ?_
        refine z_nil ?_
        refine t_ret ?_
        obtain rfl := Option.some.inj H
        exact ret1 rfl (res_tmp rfl) (fun _ hw => ⟨rfl, hw.below⟩)
def word_Len.b1 (a0 : Vec (BitVec 64) 4) (x3 : Int) : Option (Ctl ((Int)) (Int)) :=
  Let (decide (0 ≤ x3)) fun x5 => (bif x5 then Chk (0 ≤ x3 ∧ x3 < ((4 : Nat) : Int)) <| Let (a0.get x3.toNat) fun x10 => Let ((x10.toNat : Int) != 0) fun x11 => (bif x11 then Let (wi (64 * x3)) fun x13 => Chk (0 ≤ x3 ∧ x3 < ((4 : Nat) : Int)) <| Let (a0.get x3.toNat) fun x16 => (bits_Len64 x16).bind fun x17 => Let (wi (x13 + x17)) fun x18 => some (.ret x18) else Let (wi (x3 - 1)) fun x7 => some (.next x7)) else some (.brk x3))
def word_Len (a0 : Vec (BitVec 64) 4) : Option (Int) :=
  (wlx (σ := (Int)) (fun s => word_Len.b1 a0 s) 3).bind (Sum.elim (fun x3 => some 0) (fun r => some r))
set_option maxRecDepth 100000 in
theorem word_Len.calls  (a0 : Vec (BitVec 64) 4) (r : Int) (H : word_Len a0 = some r) (w : World)   :
    Made Try.prog 67 #[.agg (cV U64 a0).toArray] w (.int .i64 r) := by
  unfold word_Len at H
  have hM := Mm.start w (snap w) (snap_ok w)
  generalize snap w = h at *
  refine t_enter (vs := [.agg (cV U64 a0).toArray]) (n := 19) Try.func67 rfl rfl rfl hM ?_
  clear hM
  change T 19 _ _ _
  refine t_seq ?_
  refine t_region (fun ops hops => ?_)
  clear hops
  refine z_box (cs := cV U64 a0) (room := 4) rfl rfl rfl (cV_len _) rfl rfl rfl (fun _ _ _ _ => trivial) (fun g_1 => ?_)
  refine z_val (v := .int .i64 0) (val_assign rfl rfl) rfl rfl rfl (fun _ _ _ => trivial) ?_
  refine z_nil ?_
  refine t_seq ?_
  refine t_seq ?_
  refine t_region (fun ops hops => ?_)
  clear hops
  refine z_val (v := .int .i64 3) (val_assign rfl rfl) rfl rfl rfl (fun _ _ _ => trivial) ?_
  refine z_nil ?_
  refine t_block ?_
  obtain ⟨z1, hz1, HK1⟩ := Option.bind_eq_some_iff.1 H
  clear H
  refine t_while hz1 (fun (s : (Int)) (g : Unit) => [(1, .pointer (some ⟨g_1, 0, none⟩)), (3, .int .i64 s)]) (fun (s : (Int)) (g : Unit) => []) (fun (s : (Int)) (g : Unit) => Mm w [] h [.blk g_1 24 (cV U64 a0) 4]) (fun (s : (Int)) (g : Unit) => Mm w [] h []) (fun (s : (Int)) (g : Unit) => True) (fun (s : (Int)) (g : Unit) => True) () trivial (fun a w ha hw => ⟨ha.cons rfl (ha.cons rfl (ha.nil)), hw⟩) (fun Gn Gb s g e hφ H hn1 hb1 hr1 => ?_) (fun s g hzz hφ => ?_)
  ·
    obtain ⟨x3, rfl⟩ : ∃ x, x = s := ⟨_, rfl⟩
    change word_Len.b1 a0 x3 = some e at H
    unfold word_Len.b1 at H
    clear hz1
    change T 19 _ _ _
    refine t_seq ?_
    refine t_seq ?_
    refine t_region (fun ops hops => ?_)
    clear hops
    refine z_val (v := .int .i64 x3) (val_move rfl rfl) rfl rfl rfl (fun _ _ _ => trivial) ?_
    obtain ⟨x5, hx5, H⟩ := Let_elim H
    refine z_val (v := .bool x5) (by subst hx5; exact val_bin rfl rfl rfl rfl (i64_geq _ _ _)) rfl rfl rfl (fun _ _ _ => trivial) ?_
    clear hx5
    refine z_nil ?_
    cases x5
    ·
      replace H := cond_f H
      refine t_cond_false rfl ?_
      refine t_exit rfl ?_
      obtain rfl := Option.some.inj H
      exact t_reach ((hb1 _ () rfl trivial).weak (fun a ha => ha.nil) (fun w hw => hw.sel [] rfl rfl))
    ·
      replace H := cond_t H
      refine t_cond_true rfl ?_
      refine t_skip ?_
      refine t_seq ?_
      refine t_block ?_
      refine t_seq ?_
      refine t_region (fun ops hops => ?_)
      clear hops
      refine z_val (v := .int .i64 x3) (val_move rfl rfl) rfl rfl rfl (fun _ _ _ => trivial) ?_
      obtain ⟨hq_2, H⟩ := Chk_elim H
      refine z_val (v := .pointer (some ⟨g_1, x3.toNat, none⟩)) (val_idx0 rfl rfl rfl Try.underlying24 sz22 hq_2 rfl) rfl rfl rfl (fun _ _ _ => trivial) ?_
      obtain ⟨x10, hx10, H⟩ := Let_elim H
      refine z_val (v := U64 x10) (by subst hx10; exact val_load1 rfl rfl Try.underlying22 rfl (fun _ hw => hw.cell (j := 0) rfl (cV_at _ (idx_lt hq_2)))) rfl rfl rfl (fun _ _ _ => trivial) ?_
      clear hx10
      obtain ⟨x11, hx11, H⟩ := Let_elim H
      refine z_val (v := .bool x11) (by subst hx11; exact val_bin rfl rfl rfl rfl (u64_neq_r _ 0 x10)) rfl rfl rfl (fun _ _ _ => trivial) ?_
      clear hx11
      refine z_nil ?_
      cases x11
      ·
        replace H := cond_f H
        refine t_cond_false rfl ?_
        refine t_skip ?_
        refine t_fin ?_
        refine t_region (fun ops hops => ?_)
        clear hops
        refine z_val (v := .int .i64 x3) (val_move rfl rfl) rfl rfl rfl (fun _ _ _ => trivial) ?_
        obtain ⟨x7, hx7, H⟩ := Let_elim H
        refine z_val (v := .int .i64 x7) (by subst hx7; exact val_bin rfl rfl rfl rfl (i64_sub _ _ _)) rfl rfl rfl (fun _ _ _ => trivial) ?_
        clear hx7
        refine z_val (v := .int .i64 x7) (val_assign rfl rfl) rfl rfl rfl (fun _ _ _ => trivial) ?_
        refine z_nil ?_
        obtain rfl := Option.some.inj H
        exact t_reach ((hn1 _ () rfl trivial).weak (fun a ha => ha.cons rfl (ha.cons rfl (ha.nil))) (fun w hw => hw))
      ·
        replace H := cond_t H
        refine t_cond_true rfl ?_
        refine t_seq ?_
        refine t_region (fun ops hops => ?_)
        clear hops
        refine z_val (v := .int .i64 x3) (val_move rfl rfl) rfl rfl rfl (fun _ _ _ => trivial) ?_
        obtain ⟨x13, hx13, H⟩ := Let_elim H
        refine z_val (v := .int .i64 x13) (by subst hx13; exact val_bin rfl rfl rfl rfl (i64_mul _ _ _)) rfl rfl rfl (fun _ _ _ => trivial) ?_
        clear hx13
        refine z_val (v := .int .i64 x3) (val_move rfl rfl) rfl rfl rfl (fun _ _ _ => trivial) ?_
        obtain ⟨hq_3, H⟩ := Chk_elim H
        refine z_val (v := .pointer (some ⟨g_1, x3.toNat, none⟩)) (val_idx0 rfl rfl rfl Try.underlying24 sz22 hq_3 rfl) rfl rfl rfl (fun _ _ _ => trivial) ?_
        obtain ⟨x16, hx16, H⟩ := Let_elim H
        refine z_val (v := U64 x16) (by subst hx16; exact val_load1 rfl rfl Try.underlying22 rfl (fun _ hw => hw.cell (j := 0) rfl (cV_at _ (idx_lt hq_3)))) rfl rfl rfl (fun _ _ _ => trivial) ?_
        clear hx16
        obtain ⟨x17, hx, H⟩ := Option.bind_eq_some_iff.1 H
        refine z_made (v := .int .i64 x17) rfl Try.func83 nm83 bs83 rfl (fun w hw => bits_Len64.calls x16 x17 hx w) rfl rfl rfl (fun _ _ _ => trivial) ?_
        clear hx
        obtain ⟨x18, hx18, H⟩ := Let_elim H
        refine z_val (v := .int .i64 x18) (by subst hx18; exact val_bin rfl rfl rfl rfl (i64_add _ _ _)) rfl rfl rfl (fun _ _ _ => trivial) ?_
        clear hx18
        refine z_val (v := .int .i64 x18) (val_assign rfl rfl) rfl rfl rfl (fun _ _ _ => trivial) ?_
        refine z_nil ?_
        refine t_ret ?_
        obtain rfl := Option.some.inj H
        have hz := hr1 _ rfl
        subst hz
        obtain rfl := Option.some.inj HK1
        exact ret1 rfl (res_tmp rfl) (fun _ hw => ⟨rfl, hw.below⟩)
  ·
    obtain ⟨x3, rfl⟩ : ∃ x, x = s := ⟨_, rfl⟩
    subst hzz
    have H := HK1
    clear HK1 hz1
    replace H := sum_l H
    try dsimp only at H
    change T 19 _ _ _
    refine t_seq ?_
    refine t_region (fun ops hops => ?_)
    clear hops
    refine z_val (v := .int .i64 0) (val_assign rfl rfl) rfl rfl rfl (fun _ _ _ => trivial) ?_
    refine z_nil ?_
    refine t_ret ?_
    obtain rfl := Option.some.inj H
    exact ret1 rfl (res_tmp rfl) (fun _ hw => ⟨rfl, hw.below⟩)
def word_Size (a0 : Vec (BitVec 64) 4) : Option (Int) :=
  (word_Len a0).bind fun x4 => Let (wi (x4 + 7)) fun x5 => Let (wi (Int.tdiv x5 8)) fun x6 => some x6
set_option maxRecDepth 100000 in
theorem word_Size.calls  (a0 : Vec (BitVec 64) 4) (r : Int) (H : word_Size a0 = some r) (w : World)   :
    Made Try.prog 39 #[.agg (cV U64 a0).toArray] w (.int .i64 r) := by
  unfold word_Size at H
  have hM := Mm.start w (snap w) (snap_ok w)
  generalize snap w = h at *
  refine t_enter (vs := [.agg (cV U64 a0).toArray]) (n := 7) Try.func39 rfl rfl rfl hM ?_
  clear hM
  change T 7 _ _ _
  refine t_seq ?_
  refine t_region (fun ops hops => ?_)
  clear hops
  refine z_box (cs := cV U64 a0) (room := 4) rfl rfl rfl (cV_len _) rfl rfl rfl (fun _ _ _ _ => trivial) (fun g_1 => ?_)
  refine z_val (v := .int .i64 0) (val_assign rfl rfl) rfl rfl rfl (fun _ _ _ => trivial) ?_
  refine z_nil ?_
  refine t_seq ?_
  refine t_region (fun ops hops => ?_)
  clear hops
  refine z_val (v := .agg (cV U64 a0).toArray) (val_loadR (off := 0) (cs := cV U64 a0) rfl rfl Try.underlying24 rfl (sz24.trans (congrArg some (cV_len _).symm)) (fun _ hw => hw.whole (j := 0) rfl)) rfl rfl rfl (fun _ _ _ => trivial) ?_
  obtain ⟨x4, hx, H⟩ := Option.bind_eq_some_iff.1 H
  refine z_made (v := .int .i64 x4) rfl Try.func67 nm67 bs67 rfl (fun w hw => word_Len.calls a0 x4 hx w) rfl rfl rfl (fun _ _ _ => trivial) ?_
  clear hx
  obtain ⟨x5, hx5, H⟩ := Let_elim H
  refine z_val (v := .int .i64 x5) (by subst hx5; exact val_bin rfl rfl rfl rfl (i64_add _ _ _)) rfl rfl rfl (fun _ _ _ => trivial) ?_
  clear hx5
  obtain ⟨x6, hx6, H⟩ := Let_elim H
  refine z_val (v := .int .i64 x6) (by subst hx6; exact val_bin rfl rfl rfl rfl (i64_quo _ _ _ (by decide))) rfl rfl rfl (fun _ _ _ => trivial) ?_
  clear hx6
  refine z_val (v := .int .i64 x6) (val_assign rfl rfl) rfl rfl rfl (fun _ _ _ => trivial) ?_
  refine z_nil ?_
  refine t_ret ?_
  obtain rfl := Option.some.inj H
  exact ret1 rfl (res_tmp rfl) (fun _ hw => ⟨rfl, hw.below⟩)
def rlp_Number (a0 : Vec (BitVec 64) 4) : Option (List (BitVec 8)) :=
  (word_Bytes a0).bind fun x5 => Let (([] : List (BitVec 8))) fun x6 => (word_Size a0).bind fun x8 => Let (wi (32 - x8)) fun x9 => Chk ((0 : Int) ≤ x9 ∧ x9 ≤ 32 ∧ 32 ≤ ((32 : Nat) : Int)) <| Let ((x5.l.take 32).drop x9.toNat) fun x10 => Chk ((x6.length + x10.length) * 1 ≤ 140737488355328) <| Let (x6 ++ x10) fun x11 => some x11
set_option maxRecDepth 100000 in
theorem rlp_Number.calls  (a0 : Vec (BitVec 64) 4) (r : List (BitVec 8)) (H : rlp_Number a0 = some r) (w : World)   :
    Calls Try.prog 9 #[.agg (cV U64 a0).toArray] w fun e w' => ∃ A c, e = .returned (.slice A r.length c) ∧ Below w.heap.size w w' ∧ OwnR w w' 5 U8 A c r := by
  unfold rlp_Number at H
  have hM := Mm.start w (snap w) (snap_ok w)
  generalize snap w = h at *
  refine t_enter (vs := [.agg (cV U64 a0).toArray]) (n := 12) Try.func9 rfl rfl rfl hM ?_
  clear hM
  change T 12 _ _ _
  refine t_seq ?_
  refine t_region (fun ops hops => ?_)
  clear hops
  refine z_box (cs := cV U64 a0) (room := 4) rfl rfl rfl (cV_len _) rfl rfl rfl (fun _ _ _ _ => trivial) (fun g_1 => ?_)
  refine z_val (v := .slice none 0 0) (val_assign rfl rfl) rfl rfl rfl (fun _ _ _ => trivial) ?_
  refine z_nil ?_
  refine t_seq ?_
  refine t_region (fun ops hops => ?_)
  clear hops
  refine z_val (v := .agg (cV U64 a0).toArray) (val_loadR (off := 0) (cs := cV U64 a0) rfl rfl Try.underlying24 rfl (sz24.trans (congrArg some (cV_len _).symm)) (fun _ hw => hw.whole (j := 0) rfl)) rfl rfl rfl (fun _ _ _ => trivial) ?_
  obtain ⟨x5, hx, H⟩ := Option.bind_eq_some_iff.1 H
  refine z_made (v := .agg (cV U8 x5).toArray) rfl Try.func38 nm38 bs38 rfl (fun w hw => word_Bytes.calls a0 x5 hx w) rfl rfl rfl (fun _ _ _ => trivial) ?_
  clear hx
  refine z_alloc (cs := cV U8 (Vec.rep 32 0#8)) (room := 32) rfl ze78 rfl (cV_len _) rfl rfl rfl (fun _ _ _ _ => trivial) (fun g_2 => ?_)
  refine z_storeA (j := 0) (cs' := cV U8 x5) (L' := [.blk g_2 78 (cV U8 x5) 32, .blk g_1 24 (cV U64 a0) 4]) rfl rfl rfl (cV_one (fun _ => rfl) _) sz78 rfl (cV_len _) rfl rfl rfl (fun _ _ _ => trivial) ?_
  refine z_nil ?_
  refine t_seq ?_
  refine t_region (fun ops hops => ?_)
  clear hops
  obtain ⟨x6, hx6, H⟩ := Let_elim H
  have hlx6 : x6.length = 0 := by subst hx6; rfl
  refine z_buildSlice' (e := 5) (f := U8) (xs := x6) (vs := []) rfl rfl (by subst hx6; intro w; kernel_rfl) hlx6 (by decide) rfl rfl rfl (fun _ _ _ _ => trivial) (fun g_3 hs_5 => ?_)
  clear hx6 hlx6
  refine z_val (v := .agg (cV U64 a0).toArray) (val_loadR (off := 0) (cs := cV U64 a0) rfl rfl Try.underlying24 rfl (sz24.trans (congrArg some (cV_len _).symm)) (fun _ hw => hw.whole (j := 2) rfl)) rfl rfl rfl (fun _ _ _ => trivial) ?_
  obtain ⟨x8, hx_6, H⟩ := Option.bind_eq_some_iff.1 H
  refine z_made (v := .int .i64 x8) rfl Try.func39 nm39 bs39 rfl (fun w hw => word_Size.calls a0 x8 hx_6 w) rfl rfl rfl (fun _ _ _ => trivial) ?_
  clear hx_6
  obtain ⟨x9, hx9, H⟩ := Let_elim H
  refine z_val (v := .int .i64 x9) (by subst hx9; exact val_bin rfl rfl rfl rfl (i64_sub _ _ _)) rfl rfl rfl (fun _ _ _ => trivial) ?_
  clear hx9
  obtain ⟨hq_7, H⟩ := Chk_elim H
  obtain ⟨x10, hx10, H⟩ := Let_elim H
  have hln : x9.toNat ≤ 32 ∧ 32 ≤ 32 := by omega
  have hl : x10.length = 32 - x9.toNat := by subst hx10; exact sla_len _ hln.2
  obtain ⟨q_8, hq_9⟩ : ∃ z, z = (if 32 = x9.toNat then 0 else x9.toNat) := ⟨_, rfl⟩
  obtain ⟨c_10, hc_110⟩ : ∃ z, z = 32 - x9.toNat := ⟨_, rfl⟩
  have hc_11 : x10.length ≤ c_10 := by omega
  refine z_val (v := .slice (some ⟨g_2, q_8, none⟩) x10.length c_10) (val_sliceA (l := x9.toNat) (k := 32) rfl rfl Try.underlying78 sz5 (.inr ⟨_, rfl, _, _, rfl, (by omega)⟩) (.inl ⟨rfl, rfl⟩) hln.1 hln.2 (by rw [hl, hq_9, hc_110]; first | rfl | (congr 2; split <;> simp))) rfl rfl rfl (fun _ _ _ => trivial) ?_
  obtain ⟨hq_12, H⟩ := Chk_elim H
  obtain ⟨x11, hx11, H⟩ := Let_elim H
  refine z_append (f := U8) (j := 0) (xs := x6) (ys := x10) (zs := x11) rfl rfl Try.underlying25 in5 rfl rfl rfl rfl (fun w hw => (sla_w hw (j := 1) rfl hq_9 hx10)) (fun _ => rfl) hq_12 (by decide) hx11 (fun A_13 c_14 => [.row (.slice A_13 x11.length c_14) 5 1 (x11.map U8), .blk g_2 78 (cV U8 x5) 32, .blk g_1 24 (cV U64 a0) 4]) (fun _ _ => rfl) rfl rfl rfl (fun _ _ _ _ _ => trivial) (fun A_13 c_14 hs_15 => ?_)
  clear hx11
  refine z_val (v := .slice A_13 x11.length c_14) (val_assign rfl rfl) rfl rfl rfl (fun _ _ _ => trivial) ?_
  refine z_nil ?_
  refine t_ret ?_
  obtain rfl := Option.some.inj H
  exact ret1 rfl (res_tmp rfl) (fun _ hw => ⟨A_13, c_14, rfl, hw.below, (row_out hw (j := 0) rfl hs_15)⟩)
def rlp_head (a0 : Int) (a1 : BitVec 8) : Option (List (BitVec 8)) :=
  Let (decide (a0 ≤ 55)) fun x7 => (bif x7 then Let (128#8 + a1) fun x9 => Let (BitVec.ofInt 8 a0) fun x11 => Let (x9 + x11) fun x12 => Let ([x12]) fun x13 => some x13 else Let (BitVec.ofInt 64 a0) fun x15 => (word_Of x15).bind fun x16 => (rlp_Number x16).bind fun x17 => Let (183#8 + a1) fun x19 => Let ((x17.length : Int)) fun x21 => Let (BitVec.ofInt 8 x21) fun x22 => Let (x19 + x22) fun x23 => Let ([x23]) fun x24 => Chk ((x24.length + x17.length) * 1 ≤ 140737488355328) <| Let (x24 ++ x17) fun x26 => some x26)
set_option maxRecDepth 100000 in
theorem rlp_head.calls  (a0 : Int) (a1 : BitVec 8) (r : List (BitVec 8)) (H : rlp_head a0 a1 = some r) (w : World)   :
    Calls Try.prog 76 #[.int .i64 a0, U8 a1] w fun e w' => ∃ A c, e = .returned (.slice A r.length c) ∧ Below w.heap.size w w' ∧ OwnR w w' 5 U8 A c r := by
  unfold rlp_head at H
  have hM := Mm.start w (snap w) (snap_ok w)
  generalize snap w = h at *
  refine t_enter (vs := [.int .i64 a0, U8 a1]) (n := 27) Try.func76 rfl rfl rfl hM ?_
  clear hM
  change T 27 _ _ _
  refine t_seq ?_
  refine t_region (fun ops hops => ?_)
  clear hops
  refine z_val (v := .slice none 0 0) (val_assign rfl rfl) rfl rfl rfl (fun _ _ _ => trivial) ?_
  refine z_nil ?_
  refine t_seq ?_
  refine t_seq ?_
  refine t_region (fun ops hops => ?_)
  clear hops
  refine z_val (v := .int .i64 a0) (val_move rfl rfl) rfl rfl rfl (fun _ _ _ => trivial) ?_
  obtain ⟨x7, hx7, H⟩ := Let_elim H
  refine z_val (v := .bool x7) (by subst hx7; exact val_bin rfl rfl rfl rfl (i64_leq _ _ _)) rfl rfl rfl (fun _ _ _ => trivial) ?_
  clear hx7
  refine z_nil ?_
  cases x7
  ·
    replace H := cond_f H
    refine t_cond_false rfl ?_
    refine t_skip ?_
    refine t_seq ?_
    refine t_region (fun ops hops => ?_)
    clear hops
    refine z_val (v := .int .i64 a0) (val_move rfl rfl) rfl rfl rfl (fun _ _ _ => trivial) ?_
    obtain ⟨x15, hx15, H⟩ := Let_elim H
    refine z_val (v := U64 x15) (by subst hx15; exact val_conv rfl rfl (fun w => conv_int_u64 w _ _ .i64 _ (by rw [Try.underlying3]; rfl) Try.underlying22)) rfl rfl rfl (fun _ _ _ => trivial) ?_
    clear hx15
    obtain ⟨x16, hx, H⟩ := Option.bind_eq_some_iff.1 H
    refine z_made (v := .agg (cV U64 x16).toArray) rfl Try.func43 nm43 bs43 rfl (fun w hw => word_Of.calls x15 x16 hx w) rfl rfl rfl (fun _ _ _ => trivial) ?_
    clear hx
    obtain ⟨x17, hx_1, H⟩ := Option.bind_eq_some_iff.1 H
    refine z_madeS (F := fun A_2 c_3 => .slice A_2 x17.length c_3) (xs := x17) rfl Try.func9 nm9 bs9 rfl (fun w hw => rlp_Number.calls x16 x17 hx_1 w) rfl rfl rfl (fun _ _ _ _ _ => trivial) (fun A_2 c_3 hs_4 => ?_)
    clear hx_1
    refine z_val (v := .slice A_2 x17.length c_3) (val_assign rfl rfl) rfl rfl rfl (fun _ _ _ => trivial) ?_
    refine z_nil ?_
    refine t_seq ?_
    refine t_region (fun ops hops => ?_)
    clear hops
    refine z_val (v := U8 a1) (val_move rfl rfl) rfl rfl rfl (fun _ _ _ => trivial) ?_
    obtain ⟨x19, hx19, H⟩ := Let_elim H
    refine z_val (v := U8 x19) (by subst hx19; exact val_bin rfl rfl rfl rfl (u8_add_l _ _ _)) rfl rfl rfl (fun _ _ _ => trivial) ?_
    clear hx19
    refine z_val (v := .slice A_2 x17.length c_3) (val_move rfl rfl) rfl rfl rfl (fun _ _ _ => trivial) ?_
    obtain ⟨x21, hx21, H⟩ := Let_elim H
    refine z_val (v := .int .i64 x21) (by subst hx21; exact val_len rfl rfl rfl Try.underlying25) rfl rfl rfl (fun _ _ _ => trivial) ?_
    clear hx21
    obtain ⟨x22, hx22, H⟩ := Let_elim H
    refine z_val (v := U8 x22) (by subst hx22; exact val_conv rfl rfl (fun w => conv_int_u8 w _ _ .i64 _ (by rw [Try.underlying3]; rfl) Try.underlying5)) rfl rfl rfl (fun _ _ _ => trivial) ?_
    clear hx22
    obtain ⟨x23, hx23, H⟩ := Let_elim H
    refine z_val (v := U8 x23) (by subst hx23; exact val_bin rfl rfl rfl rfl (u8_add _ _ _)) rfl rfl rfl (fun _ _ _ => trivial) ?_
    clear hx23
    obtain ⟨x24, hx24, H⟩ := Let_elim H
    have hlx24 : x24.length = 1 := by subst hx24; rfl
    refine z_buildSlice' (e := 5) (f := U8) (xs := x24) (vs := [(0, U8 x23)]) rfl rfl (by subst hx24; intro w; kernel_rfl) hlx24 (by decide) rfl rfl rfl (fun _ _ _ _ => trivial) (fun g_6 hs_8 => ?_)
    clear hx24 hlx24
    refine z_val (v := .slice A_2 x17.length c_3) (val_move rfl rfl) rfl rfl rfl (fun _ _ _ => trivial) ?_
    obtain ⟨hq_9, H⟩ := Chk_elim H
    obtain ⟨x26, hx26, H⟩ := Let_elim H
    refine z_append (f := U8) (j := 0) (xs := x24) (ys := x17) (zs := x26) rfl rfl Try.underlying25 in5 rfl rfl rfl rfl (fun w hw => (row_w hw (j := 1) rfl)) (fun _ => rfl) hq_9 (by decide) hx26 (fun A_10 c_11 => [.row (.slice A_10 x26.length c_11) 5 1 (x26.map U8), .row (.slice A_2 x17.length c_3) 5 1 (x17.map U8)]) (fun _ _ => rfl) rfl rfl rfl (fun _ _ _ _ _ => trivial) (fun A_10 c_11 hs_12 => ?_)
    clear hx26
    refine z_val (v := .slice A_10 x26.length c_11) (val_assign rfl rfl) rfl rfl rfl (fun _ _ _ => trivial) ?_
    refine z_nil ?_
    refine t_ret ?_
    obtain rfl := Option.some.inj H
    exact ret1 rfl (res_tmp rfl) (fun _ hw => ⟨A_10, c_11, rfl, hw.below, (row_out hw (j := 0) rfl hs_12)⟩)
  ·
    replace H := cond_t H
    refine t_cond_true rfl ?_
    refine t_seq ?_
    refine t_region (fun ops hops => ?_)
    clear hops
    refine z_val (v := U8 a1) (val_move rfl rfl) rfl rfl rfl (fun _ _ _ => trivial) ?_
    obtain ⟨x9, hx9, H⟩ := Let_elim H
    refine z_val (v := U8 x9) (by subst hx9; exact val_bin rfl rfl rfl rfl (u8_add_l _ _ _)) rfl rfl rfl (fun _ _ _ => trivial) ?_
    clear hx9
    refine z_val (v := .int .i64 a0) (val_move rfl rfl) rfl rfl rfl (fun _ _ _ => trivial) ?_
    obtain ⟨x11, hx11, H⟩ := Let_elim H
    refine z_val (v := U8 x11) (by subst hx11; exact val_conv rfl rfl (fun w => conv_int_u8 w _ _ .i64 _ (by rw [Try.underlying3]; rfl) Try.underlying5)) rfl rfl rfl (fun _ _ _ => trivial) ?_
    clear hx11
    obtain ⟨x12, hx12, H⟩ := Let_elim H
    refine z_val (v := U8 x12) (by subst hx12; exact val_bin rfl rfl rfl rfl (u8_add _ _ _)) rfl rfl rfl (fun _ _ _ => trivial) ?_
    clear hx12
    obtain ⟨x13, hx13, H⟩ := Let_elim H
    have hlx13 : x13.length = 1 := by subst hx13; rfl
    refine z_buildSlice' (e := 5) (f := U8) (xs := x13) (vs := [(0, U8 x12)]) rfl rfl (by subst hx13; intro w; kernel_rfl) hlx13 (by decide) rfl rfl rfl (fun _ _ _ _ => trivial) (fun g_13 hs_15 => ?_)
    clear hx13 hlx13
    refine z_val (v := .slice (some ⟨g_13, 0, none⟩) x13.length 1) (val_assign rfl rfl) rfl rfl rfl (fun _ _ _ => trivial) ?_
    refine z_nil ?_
    refine t_ret ?_
    obtain rfl := Option.some.inj H
    exact ret1 rfl (res_tmp rfl) (fun _ hw => ⟨(some ⟨g_13, 0, none⟩), 1, rfl, hw.below, (row_out hw (j := 0) rfl hs_15)⟩)
end Go.Proofs.Ytapfkdcilfpbhaa
