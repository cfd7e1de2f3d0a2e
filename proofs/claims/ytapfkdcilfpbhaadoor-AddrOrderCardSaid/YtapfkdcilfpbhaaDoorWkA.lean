/- Functions of the program as plain functions, and their walks, printed by walk.py. -/
import Derived.Test.YtapfkdcilfpbhaaDoorWkF
namespace Go.Proofs.YtapfkdcilfpbhaaDoor
open Go.RowKit
set_option linter.unusedVariables false
set_option linter.unusedSimpArgs false
def word_Bytes.b2 (x8 : Int) (x11 : BitVec 64) (y_3_5 : Vec (BitVec 8) 32) (x12 : Int) : Option (Ctl ((Vec (BitVec 8) 32) × (Int)) (Vec (BitVec 8) 32)) :=
  Let (decide (x12 < 8)) fun x13 => (bif x13 then Let (wi (8 * x8)) fun x16 => Let (wi (31 - x16)) fun x17 => Let (wi (x17 - x12)) fun x19 => Let (wi (8 * x12)) fun x22 => Chk (0 ≤ x22) <| Let (x11 >>> x22.toNat) fun x23 => Let (x23.setWidth 8) fun x24 => Chk (0 ≤ x19 ∧ x19 < ((32 : Nat) : Int)) <| Let (y_3_5.set x19.toNat x24) fun y_3_8 => Let (wi (x12 + 1)) fun x26 => some (.next (y_3_8, x26)) else some (.brk (y_3_5, x12)))
def word_Bytes.b1 (a0 : Vec (BitVec 64) 4) (y_3 : Vec (BitVec 8) 32) (x8 : Int) : Option (Ctl ((Vec (BitVec 8) 32) × (Int)) (Vec (BitVec 8) 32)) :=
  Let (decide (x8 < 4)) fun x9 => (bif x9 then Chk (0 ≤ x8 ∧ x8 < ((4 : Nat) : Int)) <| Let (a0.get x8.toNat) fun x11 => (wlx (σ := (Vec (BitVec 8) 32) × (Int)) (fun s => word_Bytes.b2 x8 x11 s.1 s.2) (y_3, 0)).bind (Sum.elim (fun s => (fun y_3_5 x12 => Let (wi (x8 + 1)) fun x27 => some (.next (y_3_5, x27))) s.1 s.2) (fun r => some (.ret r))) else some (.brk (y_3, x8)))
def word_Bytes (a0 : Vec (BitVec 64) 4) : Option (Vec (BitVec 8) 32) :=
  (wlx (σ := (Vec (BitVec 8) 32) × (Int)) (fun s => word_Bytes.b1 a0 s.1 s.2) ((Vec.rep 32 0#8), 0)).bind (Sum.elim (fun s => (fun y_3 x8 => some y_3) s.1 s.2) (fun r => some r))
set_option maxRecDepth 100000 in
theorem word_Bytes.calls (a0 : Vec (BitVec 64) 4) (r : Vec (BitVec 8) 32) (H : word_Bytes a0 = some r) (w : World)  :
    Made Tryd.prog 45 #[.agg (cV U64 a0).toArray] w (.agg (cV U8 r).toArray) := by
  unfold word_Bytes at H
  have hM := Mm.start w (snap w) (snap_ok w)
  generalize snap w = h at *
  refine t_enter (vs := [.agg (cV U64 a0).toArray]) (n := 29) Tryd.func45 rfl rfl rfl hM ?_
  clear hM
  change T 29 _ _ _
  refine t_seq ?_
  refine t_region (fun ops hops => ?_)
  clear hops
  refine z_box (cs := cV U64 a0) (room := 4) rfl rfl rfl (cV_len _) rfl rfl rfl (fun _ _ _ _ => trivial) (fun g_1 => ?_)
  refine z_alloc (cs := cV U8 (Vec.rep 32 0#8)) (room := 32) rfl ze46 rfl (cV_len _) rfl rfl rfl (fun _ _ _ _ => trivial) (fun g_2 => ?_)
  refine z_nil ?_
  refine t_seq ?_
  refine t_region (fun ops hops => ?_)
  clear hops
  refine z_alloc (cs := cV U8 (Vec.rep 32 0#8)) (room := 32) rfl ze46 rfl (cV_len _) rfl rfl rfl (fun _ _ _ _ => trivial) (fun g_3 => ?_)
  refine z_nil ?_
  refine t_seq ?_
  refine t_seq ?_
  refine t_region (fun ops hops => ?_)
  clear hops
  refine z_val (v := .agg (cV U64 a0).toArray) (val_loadR (off := 0) (cs := cV U64 a0) rfl rfl Tryd.underlying26 rfl (sz26.trans (congrArg some (cV_len _).symm)) (fun _ hw => hw.whole (j := 2) rfl)) rfl rfl rfl (fun _ _ _ => trivial) ?_
  refine z_val (v := .int .i64 0) (val_move rfl rfl) rfl rfl rfl (fun _ _ _ => trivial) ?_
  refine z_nil ?_
  refine t_block ?_
  obtain ⟨z1, hz1, HK1⟩ := Option.bind_eq_some_iff.1 H
  clear H
  refine t_while hz1 (fun (s : (Vec (BitVec 8) 32) × (Int)) (g : Unit) => [(2, .pointer (some ⟨g_2, 0, none⟩)), (3, .pointer (some ⟨g_3, 0, none⟩)), (7, .agg (cV U64 a0).toArray), (8, .int .i64 s.2)]) (fun (s : (Vec (BitVec 8) 32) × (Int)) (g : Unit) => [(2, .pointer (some ⟨g_2, 0, none⟩)), (3, .pointer (some ⟨g_3, 0, none⟩))]) (fun (s : (Vec (BitVec 8) 32) × (Int)) (g : Unit) => Mm w [] h [.blk g_3 46 (cV U8 s.1) 32, .blk g_2 46 (cV U8 (Vec.rep 32 0#8)) 32]) (fun (s : (Vec (BitVec 8) 32) × (Int)) (g : Unit) => Mm w [] h [.blk g_3 46 (cV U8 s.1) 32, .blk g_2 46 (cV U8 (Vec.rep 32 0#8)) 32]) (fun (s : (Vec (BitVec 8) 32) × (Int)) (g : Unit) => True) (fun (s : (Vec (BitVec 8) 32) × (Int)) (g : Unit) => True) () trivial (fun a w ha hw => ⟨ha.cons rfl (ha.cons rfl (ha.cons rfl (ha.cons rfl (ha.nil)))), hw.sel [0, 1] rfl rfl⟩) (fun Gn Gb s g e hφ H hn1 hb1 hr1 => ?_) (fun s g hzz hφ => ?_)
  ·
    obtain ⟨y_3, x8⟩ := s
    change word_Bytes.b1 a0 y_3 x8 = some e at H
    unfold word_Bytes.b1 at H
    clear hz1
    change T 29 _ _ _
    refine t_seq ?_
    refine t_region (fun ops hops => ?_)
    clear hops
    obtain ⟨x9, hx9, H⟩ := Let_elim H
    refine z_val (v := .bool x9) (by subst hx9; exact val_bin rfl rfl rfl rfl (i64_lss _ _ _)) rfl rfl rfl (fun _ _ _ => trivial) ?_
    clear hx9
    refine z_nil ?_
    refine t_seq ?_
    cases x9
    ·
      replace H := cond_f H
      refine t_cond_false rfl ?_
      refine t_exit rfl ?_
      obtain rfl := Option.some.inj H
      exact t_reach ((hb1 _ () rfl trivial).weak (fun a ha => ha.cons rfl (ha.cons rfl (ha.nil))) (fun w hw => hw))
    ·
      replace H := cond_t H
      refine t_cond_true rfl ?_
      refine t_skip ?_
      refine t_seq ?_
      refine t_block ?_
      refine t_seq ?_
      refine t_region (fun ops hops => ?_)
      clear hops
      refine z_val (v := .int .i64 x8) (val_move rfl rfl) rfl rfl rfl (fun _ _ _ => trivial) ?_
      obtain ⟨hq_4, H⟩ := Chk_elim H
      obtain ⟨x11, hx11, H⟩ := Let_elim H
      refine z_val (v := U64 x11) (by subst hx11; exact val_index rfl rfl rfl Tryd.underlying26 Tryd.underlying24 rfl sz24 hq_4 (cVa_at _ (idx_lt hq_4))) rfl rfl rfl (fun _ _ _ => trivial) ?_
      clear hx11
      refine z_val (v := .int .i64 x8) (val_assign rfl rfl) rfl rfl rfl (fun _ _ _ => trivial) ?_
      refine z_val (v := U64 x11) (val_assign rfl rfl) rfl rfl rfl (fun _ _ _ => trivial) ?_
      refine z_nil ?_
      refine t_seq ?_
      refine t_region (fun ops hops => ?_)
      clear hops
      refine z_val (v := .int .i64 0) (val_move rfl rfl) rfl rfl rfl (fun _ _ _ => trivial) ?_
      refine z_nil ?_
      refine t_block ?_
      obtain ⟨z2, hz2, HK2⟩ := Option.bind_eq_some_iff.1 H
      clear H
      refine t_while hz2 (fun (s : (Vec (BitVec 8) 32) × (Int)) (g : Unit) => [(2, .pointer (some ⟨g_2, 0, none⟩)), (3, .pointer (some ⟨g_3, 0, none⟩)), (4, .int .i64 x8), (5, U64 x11), (7, .agg (cV U64 a0).toArray), (8, .int .i64 x8), (12, .int .i64 s.2)]) (fun (s : (Vec (BitVec 8) 32) × (Int)) (g : Unit) => [(2, .pointer (some ⟨g_2, 0, none⟩)), (3, .pointer (some ⟨g_3, 0, none⟩)), (7, .agg (cV U64 a0).toArray), (8, .int .i64 x8)]) (fun (s : (Vec (BitVec 8) 32) × (Int)) (g : Unit) => Mm w [] h [.blk g_3 46 (cV U8 s.1) 32, .blk g_2 46 (cV U8 (Vec.rep 32 0#8)) 32]) (fun (s : (Vec (BitVec 8) 32) × (Int)) (g : Unit) => Mm w [] h [.blk g_3 46 (cV U8 s.1) 32, .blk g_2 46 (cV U8 (Vec.rep 32 0#8)) 32]) (fun (s : (Vec (BitVec 8) 32) × (Int)) (g : Unit) => True) (fun (s : (Vec (BitVec 8) 32) × (Int)) (g : Unit) => True) () trivial (fun a w ha hw => ⟨ha.cons rfl (ha.cons rfl (ha.cons rfl (ha.cons rfl (ha.cons rfl (ha.cons rfl (ha.cons rfl (ha.nil))))))), hw⟩) (fun Gn Gb s g e hφ H hn2 hb2 hr2 => ?_) (fun s g hzz hφ => ?_)
      ·
        obtain ⟨y_3_5, x12⟩ := s
        change word_Bytes.b2 x8 x11 y_3_5 x12 = some e at H
        unfold word_Bytes.b2 at H
        clear hz2
        change T 29 _ _ _
        refine t_seq ?_
        refine t_region (fun ops hops => ?_)
        clear hops
        obtain ⟨x13, hx13, H⟩ := Let_elim H
        refine z_val (v := .bool x13) (by subst hx13; exact val_bin rfl rfl rfl rfl (i64_lss _ _ _)) rfl rfl rfl (fun _ _ _ => trivial) ?_
        clear hx13
        refine z_nil ?_
        refine t_seq ?_
        cases x13
        ·
          replace H := cond_f H
          refine t_cond_false rfl ?_
          refine t_exit rfl ?_
          obtain rfl := Option.some.inj H
          exact t_reach ((hb2 _ () rfl trivial).weak (fun a ha => ha.cons rfl (ha.cons rfl (ha.cons rfl (ha.cons rfl (ha.nil))))) (fun w hw => hw))
        ·
          replace H := cond_t H
          refine t_cond_true rfl ?_
          refine t_skip ?_
          refine t_seq ?_
          refine t_block ?_
          refine t_seq ?_
          refine t_region (fun ops hops => ?_)
          clear hops
          refine z_val (v := .int .i64 x12) (val_move rfl rfl) rfl rfl rfl (fun _ _ _ => trivial) ?_
          refine z_val (v := .int .i64 x12) (val_assign rfl rfl) rfl rfl rfl (fun _ _ _ => trivial) ?_
          refine z_nil ?_
          refine t_region (fun ops hops => ?_)
          clear hops
          refine z_val (v := .int .i64 x8) (val_move rfl rfl) rfl rfl rfl (fun _ _ _ => trivial) ?_
          obtain ⟨x16, hx16, H⟩ := Let_elim H
          refine z_val (v := .int .i64 x16) (by subst hx16; exact val_bin rfl rfl rfl rfl (i64_mul _ _ _)) rfl rfl rfl (fun _ _ _ => trivial) ?_
          clear hx16
          obtain ⟨x17, hx17, H⟩ := Let_elim H
          refine z_val (v := .int .i64 x17) (by subst hx17; exact val_bin rfl rfl rfl rfl (i64_sub _ _ _)) rfl rfl rfl (fun _ _ _ => trivial) ?_
          clear hx17
          refine z_val (v := .int .i64 x12) (val_move rfl rfl) rfl rfl rfl (fun _ _ _ => trivial) ?_
          obtain ⟨x19, hx19, H⟩ := Let_elim H
          refine z_val (v := .int .i64 x19) (by subst hx19; exact val_bin rfl rfl rfl rfl (i64_sub _ _ _)) rfl rfl rfl (fun _ _ _ => trivial) ?_
          clear hx19
          refine z_val (v := U64 x11) (val_move rfl rfl) rfl rfl rfl (fun _ _ _ => trivial) ?_
          refine z_val (v := .int .i64 x12) (val_move rfl rfl) rfl rfl rfl (fun _ _ _ => trivial) ?_
          obtain ⟨x22, hx22, H⟩ := Let_elim H
          refine z_val (v := .int .i64 x22) (by subst hx22; exact val_bin rfl rfl rfl rfl (i64_mul _ _ _)) rfl rfl rfl (fun _ _ _ => trivial) ?_
          clear hx22
          obtain ⟨hq_6, H⟩ := Chk_elim H
          obtain ⟨x23, hx23, H⟩ := Let_elim H
          refine z_val (v := U64 x23) (by subst hx23; exact val_bin rfl rfl rfl rfl (u64_shr _ _ _ _ hq_6)) rfl rfl rfl (fun _ _ _ => trivial) ?_
          clear hx23
          obtain ⟨x24, hx24, H⟩ := Let_elim H
          refine z_val (v := U8 x24) (by subst hx24; exact val_conv rfl rfl (fun w => conv_u64_u8 w _ _ _ (by rw [Tryd.underlying24]; rfl) Tryd.underlying5)) rfl rfl rfl (fun _ _ _ => trivial) ?_
          clear hx24
          obtain ⟨hq_7, H⟩ := Chk_elim H
          refine z_val (v := .pointer (some ⟨g_3, x19.toNat, none⟩)) (val_idx0 rfl rfl rfl Tryd.underlying46 sz5 hq_7 rfl) rfl rfl rfl (fun _ _ _ => trivial) ?_
          obtain ⟨y_3_8, hy_3_8, H⟩ := Let_elim H
          refine z_store1 (j := 0) (cs' := cV U8 y_3_8) (L' := [.blk g_3 46 (cV U8 y_3_8) 32, .blk g_2 46 (cV U8 (Vec.rep 32 0#8)) 32]) rfl rfl rfl rfl rfl sz5 rfl (by rw [cV_len]; exact (idx_lt hq_7)) (by subst hy_3_8; exact cV_set (f := U8) _ _ x24) rfl rfl rfl (fun _ _ _ => trivial) ?_
          clear hy_3_8
          refine z_nil ?_
          refine t_fin ?_
          refine t_region (fun ops hops => ?_)
          clear hops
          obtain ⟨x26, hx26, H⟩ := Let_elim H
          refine z_val (v := .int .i64 x26) (by subst hx26; exact val_bin rfl rfl rfl rfl (i64_add _ _ _)) rfl rfl rfl (fun _ _ _ => trivial) ?_
          clear hx26
          refine z_val (v := .int .i64 x26) (val_move rfl rfl) rfl rfl rfl (fun _ _ _ => trivial) ?_
          refine z_nil ?_
          obtain rfl := Option.some.inj H
          exact t_reach ((hn2 _ () rfl trivial).weak (fun a ha => ha.cons rfl (ha.cons rfl (ha.cons rfl (ha.cons rfl (ha.cons rfl (ha.cons rfl (ha.cons rfl (ha.nil)))))))) (fun w hw => hw))
      ·
        obtain ⟨y_3_5, x12⟩ := s
        subst hzz
        have H := HK2
        clear HK2 hz2
        replace H := sum_l H
        try dsimp only at H
        change T 29 _ _ _
        refine t_fin ?_
        refine t_region (fun ops hops => ?_)
        clear hops
        obtain ⟨x27, hx27, H⟩ := Let_elim H
        refine z_val (v := .int .i64 x27) (by subst hx27; exact val_bin rfl rfl rfl rfl (i64_add _ _ _)) rfl rfl rfl (fun _ _ _ => trivial) ?_
        clear hx27
        refine z_val (v := .int .i64 x27) (val_move rfl rfl) rfl rfl rfl (fun _ _ _ => trivial) ?_
        refine z_nil ?_
        obtain rfl := Option.some.inj H
        exact t_reach ((hn1 _ () rfl trivial).weak (fun a ha => ha.cons rfl (ha.cons rfl (ha.cons rfl (ha.cons rfl (ha.nil))))) (fun w hw => hw))
  ·
    obtain ⟨y_3, x8⟩ := s
    subst hzz
    have H := HK1
    clear HK1 hz1
    replace H := sum_l H
    try dsimp only at H
    change T 29 _ _ _
    refine t_seq ?_
    refine t_region (fun ops hops => ?_)
    clear hops
    refine z_val (v := .agg (cV U8 y_3).toArray) (val_loadR (off := 0) (cs := cV U8 y_3) rfl rfl Tryd.underlying46 rfl (sz46.trans (congrArg some (cV_len _).symm)) (fun _ hw => hw.whole (j := 0) rfl)) rfl rfl rfl (fun _ _ _ => trivial) ?_
    refine z_storeA (j := 1) (cs' := cV U8 y_3) (L' := [.blk g_3 46 (cV U8 y_3) 32, .blk g_2 46 (cV U8 y_3) 32]) rfl rfl rfl (cV_one (fun _ => rfl) _) sz46 rfl (cV_len _) rfl rfl rfl (fun _ _ _ => trivial) ?_
    refine z_nil ?_
    refine t_ret ?_
    obtain rfl := Option.some.inj H
    exact ret1 rfl (res_row (j := 1) rfl Tryd.underlying46 rfl sz46 rfl (cV_len _)) (fun _ hw => ⟨rfl, hw.below⟩)
def word_Small (a0 : Vec (BitVec 64) 4) : Option ((BitVec 64) × (Bool)) :=
  Let (a0.get 1) fun x5 => Let (a0.get 2) fun x7 => Let (x5 ||| x7) fun x8 => Let (a0.get 3) fun x10 => Let (x8 ||| x10) fun x11 => Let ((x11.toNat : Int) != 0) fun x12 => (bif x12 then some (0#64, false) else Let (a0.get 0) fun x14 => some (x14, true))
set_option maxRecDepth 100000 in
theorem word_Small.calls (a0 : Vec (BitVec 64) 4) (r : (BitVec 64) × (Bool)) (H : word_Small a0 = some r) (w : World)  :
    Made Tryd.prog 55 #[.agg (cV U64 a0).toArray] w (.tuple #[U64 r.1, .bool r.2]) := by
  unfold word_Small at H
  have hM := Mm.start w (snap w) (snap_ok w)
  generalize snap w = h at *
  refine t_enter (vs := [.agg (cV U64 a0).toArray]) (n := 15) Tryd.func55 rfl rfl rfl hM ?_
  clear hM
  change T 15 _ _ _
  refine t_seq ?_
  refine t_region (fun ops hops => ?_)
  clear hops
  refine z_box (cs := cV U64 a0) (room := 4) rfl rfl rfl (cV_len _) rfl rfl rfl (fun _ _ _ _ => trivial) (fun g_1 => ?_)
  refine z_val (v := .int .u64 0) (val_assign rfl rfl) rfl rfl rfl (fun _ _ _ => trivial) ?_
  refine z_val (v := .bool false) (val_assign rfl rfl) rfl rfl rfl (fun _ _ _ => trivial) ?_
  refine z_nil ?_
  refine t_seq ?_
  refine t_seq ?_
  refine t_region (fun ops hops => ?_)
  clear hops
  refine z_val (v := .pointer (some ⟨g_1, 1, none⟩)) (val_idx0 rfl rfl rfl Tryd.underlying26 sz24 (by decide) rfl) rfl rfl rfl (fun _ _ _ => trivial) ?_
  obtain ⟨x5, hx5, H⟩ := Let_elim H
  refine z_val (v := U64 x5) (by subst hx5; exact val_load1 rfl rfl Tryd.underlying24 rfl (fun _ hw => hw.cell (j := 0) rfl (cV_at _ (by decide)))) rfl rfl rfl (fun _ _ _ => trivial) ?_
  clear hx5
  refine z_val (v := .pointer (some ⟨g_1, 2, none⟩)) (val_idx0 rfl rfl rfl Tryd.underlying26 sz24 (by decide) rfl) rfl rfl rfl (fun _ _ _ => trivial) ?_
  obtain ⟨x7, hx7, H⟩ := Let_elim H
  refine z_val (v := U64 x7) (by subst hx7; exact val_load1 rfl rfl Tryd.underlying24 rfl (fun _ hw => hw.cell (j := 0) rfl (cV_at _ (by decide)))) rfl rfl rfl (fun _ _ _ => trivial) ?_
  clear hx7
  obtain ⟨x8, hx8, H⟩ := Let_elim H
  refine z_val (v := U64 x8) (by subst hx8; exact val_bin rfl rfl rfl rfl (u64_or _ _ _)) rfl rfl rfl (fun _ _ _ => trivial) ?_
  clear hx8
  refine z_val (v := .pointer (some ⟨g_1, 3, none⟩)) (val_idx0 rfl rfl rfl Tryd.underlying26 sz24 (by decide) rfl) rfl rfl rfl (fun _ _ _ => trivial) ?_
  obtain ⟨x10, hx10, H⟩ := Let_elim H
  refine z_val (v := U64 x10) (by subst hx10; exact val_load1 rfl rfl Tryd.underlying24 rfl (fun _ hw => hw.cell (j := 0) rfl (cV_at _ (by decide)))) rfl rfl rfl (fun _ _ _ => trivial) ?_
  clear hx10
  obtain ⟨x11, hx11, H⟩ := Let_elim H
  refine z_val (v := U64 x11) (by subst hx11; exact val_bin rfl rfl rfl rfl (u64_or _ _ _)) rfl rfl rfl (fun _ _ _ => trivial) ?_
  clear hx11
  obtain ⟨x12, hx12, H⟩ := Let_elim H
  refine z_val (v := .bool x12) (by subst hx12; exact val_bin rfl rfl rfl rfl (u64_neq_r _ _ _)) rfl rfl rfl (fun _ _ _ => trivial) ?_
  clear hx12
  refine z_nil ?_
  cases x12
  ·
    replace H := cond_f H
    refine t_cond_false rfl ?_
    refine t_skip ?_
    refine t_seq ?_
    refine t_region (fun ops hops => ?_)
    clear hops
    refine z_val (v := .pointer (some ⟨g_1, 0, none⟩)) (val_idx0 rfl rfl rfl Tryd.underlying26 sz24 (by decide) rfl) rfl rfl rfl (fun _ _ _ => trivial) ?_
    obtain ⟨x14, hx14, H⟩ := Let_elim H
    refine z_val (v := U64 x14) (by subst hx14; exact val_load1 rfl rfl Tryd.underlying24 rfl (fun _ hw => hw.cell (j := 0) rfl (cV_at _ (by decide)))) rfl rfl rfl (fun _ _ _ => trivial) ?_
    clear hx14
    refine z_val (v := U64 x14) (val_assign rfl rfl) rfl rfl rfl (fun _ _ _ => trivial) ?_
    refine z_val (v := .bool true) (val_assign rfl rfl) rfl rfl rfl (fun _ _ _ => trivial) ?_
    refine z_nil ?_
    refine t_ret ?_
    obtain rfl := Option.some.inj H
    exact ret2 rfl (res_tmp rfl) (res_tmp rfl) (fun _ hw => ⟨rfl, hw.below⟩)
  ·
    replace H := cond_t H
    refine t_cond_true rfl ?_
    refine t_seq ?_
    refine t_region (fun ops hops => ?_)
    clear hops
    refine z_val (v := .int .u64 0) (val_assign rfl rfl) rfl rfl rfl (fun _ _ _ => trivial) ?_
    refine z_val (v := .bool false) (val_assign rfl rfl) rfl rfl rfl (fun _ _ _ => trivial) ?_
    refine z_nil ?_
    refine t_ret ?_
    obtain rfl := Option.some.inj H
    exact ret2 rfl (res_tmp rfl) (res_tmp rfl) (fun _ hw => ⟨rfl, hw.below⟩)
def word_Of (a0 : BitVec 64) : Option (Vec (BitVec 64) 4) :=
  Let ((Vec.rep 4 0#64).set 0 a0) fun x4 => some x4
set_option maxRecDepth 100000 in
theorem word_Of.calls (a0 : BitVec 64) (r : Vec (BitVec 64) 4) (H : word_Of a0 = some r) (w : World)  :
    Made Tryd.prog 57 #[U64 a0] w (.agg (cV U64 r).toArray) := by
  unfold word_Of at H
  have hM := Mm.start w (snap w) (snap_ok w)
  generalize snap w = h at *
  refine t_enter (vs := [U64 a0]) (n := 5) Tryd.func57 rfl rfl rfl hM ?_
  clear hM
  change T 5 _ _ _
  refine t_seq ?_
  refine t_region (fun ops hops => ?_)
  clear hops
  refine z_alloc (cs := cV U64 (Vec.rep 4 0#64)) (room := 4) rfl ze26 rfl (cV_len _) rfl rfl rfl (fun _ _ _ _ => trivial) (fun g_1 => ?_)
  refine z_nil ?_
  refine t_seq ?_
  refine t_region (fun ops hops => ?_)
  clear hops
  refine z_val (v := U64 a0) (val_move rfl rfl) rfl rfl rfl (fun _ _ _ => trivial) ?_
  obtain ⟨x4, hx4, H⟩ := Let_elim H
  refine z_val (v := .agg (cV U64 x4).toArray) (by subst hx4; exact val_build (vs := [(0, U64 a0)]) rfl rfl (fun w => by kernel_rfl)) rfl rfl rfl (fun _ _ _ => trivial) ?_
  clear hx4
  refine z_storeA (j := 0) (cs' := cV U64 x4) (L' := [.blk g_1 26 (cV U64 x4) 4]) rfl rfl rfl (cV_one (fun _ => rfl) _) sz26 rfl (cV_len _) rfl rfl rfl (fun _ _ _ => trivial) ?_
  refine z_nil ?_
  refine t_ret ?_
  obtain rfl := Option.some.inj H
  exact ret1 rfl (res_row (j := 0) rfl Tryd.underlying26 rfl sz26 rfl (cV_len _)) (fun _ hw => ⟨rfl, hw.below⟩)
def word_From.b2 (x21 : Int) (y_2 : Vec (BitVec 8) 32) (y_19_20 : Vec (BitVec 64) 4) (x24 : Int) : Option (Ctl ((Vec (BitVec 64) 4) × (Int)) (Vec (BitVec 64) 4)) :=
  Let (decide (x24 < 8)) fun x25 => (bif x25 then Chk (0 ≤ x21 ∧ x21 < ((4 : Nat) : Int)) <| Let (y_19_20.get x21.toNat) fun x29 => Let (wi (8 * x21)) fun x31 => Let (wi (31 - x31)) fun x32 => Let (wi (x32 - x24)) fun x34 => Chk (0 ≤ x34 ∧ x34 < ((32 : Nat) : Int)) <| Let (y_2.get x34.toNat) fun x36 => Let (x36.setWidth 64) fun x37 => Let (wi (8 * x24)) fun x39 => Chk (0 ≤ x39) <| Let (x37 <<< x39.toNat) fun x40 => Let (x29 ||| x40) fun x41 => Chk (0 ≤ x21 ∧ x21 < ((4 : Nat) : Int)) <| Let (y_19_20.set x21.toNat x41) fun y_19_25 => Let (wi (x24 + 1)) fun x43 => some (.next (y_19_25, x43)) else some (.brk (y_19_20, x24)))
def word_From.b1 (y_2 : Vec (BitVec 8) 32) (y_19 : Vec (BitVec 64) 4) (x21 : Int) : Option (Ctl ((Vec (BitVec 64) 4) × (Int)) (Vec (BitVec 64) 4)) :=
  Let (decide (x21 < 4)) fun x22 => (bif x22 then (wlx (σ := (Vec (BitVec 64) 4) × (Int)) (fun s => word_From.b2 x21 y_2 s.1 s.2) (y_19, 0)).bind (Sum.elim (fun s => (fun y_19_20 x24 => Let (wi (x21 + 1)) fun x44 => some (.next (y_19_20, x44))) s.1 s.2) (fun r => some (.ret r))) else some (.brk (y_19, x21)))
def word_From (a0 : List (BitVec 8)) : Option (Vec (BitVec 64) 4) :=
  Let ((a0.length : Int)) fun x8 => Let (decide (32 < x8)) fun x9 => (bif x9 then Let ((a0.length : Int)) fun x12 => Let (wi (x12 - 32)) fun x13 => Chk ((0 : Int) ≤ x13 ∧ x13 ≤ (a0.length : Int)) <| Let ((a0.take a0.length).drop x13.toNat) fun x14 => some x14 else some a0).bind (fun x0 => Let ((x0.length : Int)) fun x16 => Let (wi (32 - x16)) fun x17 => Chk ((0 : Int) ≤ x17 ∧ x17 ≤ 32 ∧ 32 ≤ ((32 : Nat) : Int)) <| Let (((Vec.rep 32 0#8).l.take 32).drop x17.toNat) fun x18 => Let ((Vec.rep 32 0#8).put x17.toNat (x0.take (32 - x17.toNat))) fun y_2 => Let (((Nat.min x0.length (32 - x17.toNat) : Nat) : Int)) fun x20 => (wlx (σ := (Vec (BitVec 64) 4) × (Int)) (fun s => word_From.b1 y_2 s.1 s.2) ((Vec.rep 4 0#64), 0)).bind (Sum.elim (fun s => (fun y_19 x21 => some y_19) s.1 s.2) (fun r => some r)))
set_option maxRecDepth 100000 in
theorem word_From.calls (a0 : List (BitVec 8)) (A0 : Option Addr) (c0 : Nat) (r : Vec (BitVec 64) 4) (H : word_From a0 = some r) (w : World) (hs0 : SlW w U8 A0 a0) (hc0 : a0.length ≤ c0) :
    Made Tryd.prog 51 #[.slice A0 a0.length c0] w (.agg (cV U64 r).toArray) := by
  unfold word_From at H
  replace hs0 := hs0.toH
  have hM := Mm.start w (snap w) (snap_ok w)
  generalize snap w = h at *
  refine t_enter (vs := [.slice A0 a0.length c0]) (n := 46) Tryd.func51 rfl rfl rfl hM ?_
  clear hM
  change T 46 _ _ _
  refine t_seq ?_
  refine t_region (fun ops hops => ?_)
  clear hops
  refine z_alloc (cs := cV U64 (Vec.rep 4 0#64)) (room := 4) rfl ze26 rfl (cV_len _) rfl rfl rfl (fun _ _ _ _ => trivial) (fun g_1 => ?_)
  refine z_nil ?_
  refine t_seq ?_
  refine t_region (fun ops hops => ?_)
  clear hops
  refine z_alloc (cs := cV U8 (Vec.rep 32 0#8)) (room := 32) rfl ze46 rfl (cV_len _) rfl rfl rfl (fun _ _ _ _ => trivial) (fun g_2 => ?_)
  refine z_nil ?_
  refine t_seq ?_
  refine t_seq ?_
  refine t_region (fun ops hops => ?_)
  clear hops
  refine z_val (v := .slice A0 a0.length c0) (val_move rfl rfl) rfl rfl rfl (fun _ _ _ => trivial) ?_
  obtain ⟨x8, hx8, H⟩ := Let_elim H
  refine z_val (v := .int .i64 x8) (by subst hx8; exact val_len rfl rfl rfl Tryd.underlying27) rfl rfl rfl (fun _ _ _ => trivial) ?_
  clear hx8
  obtain ⟨x9, hx9, H⟩ := Let_elim H
  refine z_val (v := .bool x9) (by subst hx9; exact val_bin rfl rfl rfl rfl (i64_gtr _ _ _)) rfl rfl rfl (fun _ _ _ => trivial) ?_
  clear hx9
  refine z_nil ?_
  refine t_bind H (fun (s : (List (BitVec 8))) (g : (Option Addr) × (Nat)) => [(0, .slice g.1 s.length g.2), (2, .pointer (some ⟨g_1, 0, none⟩)), (3, .pointer (some ⟨g_2, 0, none⟩))]) (fun (s : (List (BitVec 8))) (g : (Option Addr) × (Nat)) => Mm w [] h [.blk g_2 46 (cV U8 (Vec.rep 32 0#8)) 32, .blk g_1 26 (cV U64 (Vec.rep 4 0#64)) 4]) (fun (s : (List (BitVec 8))) (g : (Option Addr) × (Nat)) => SlH h U8 g.1 s ∧ s.length ≤ g.2) (fun Gr K s he HJ => ?_) (fun s g HB hφ => ?_)
  ·
    clear H
    cases x9
    ·
      have H := cond_f he
      clear he
      refine t_cond_false rfl ?_
      refine t_skip ?_
      obtain rfl := Option.some.inj H
      exact t_reach ((K _ ⟨A0, c0⟩ HJ ⟨hs0, hc0⟩).weak (fun a ha => ha.cons rfl (ha.cons rfl (ha.cons rfl (ha.nil)))) (fun w hw => hw))
    ·
      have H := cond_t he
      clear he
      refine t_cond_true rfl ?_
      refine t_region (fun ops hops => ?_)
      clear hops
      refine z_val (v := .slice A0 a0.length c0) (val_move rfl rfl) rfl rfl rfl (fun _ _ _ => trivial) ?_
      refine z_val (v := .slice A0 a0.length c0) (val_move rfl rfl) rfl rfl rfl (fun _ _ _ => trivial) ?_
      obtain ⟨x12, hx12, H⟩ := Let_elim H
      refine z_val (v := .int .i64 x12) (by subst hx12; exact val_len rfl rfl rfl Tryd.underlying27) rfl rfl rfl (fun _ _ _ => trivial) ?_
      clear hx12
      obtain ⟨x13, hx13, H⟩ := Let_elim H
      refine z_val (v := .int .i64 x13) (by subst hx13; exact val_bin rfl rfl rfl rfl (i64_sub _ _ _)) rfl rfl rfl (fun _ _ _ => trivial) ?_
      clear hx13
      obtain ⟨hq_7, H⟩ := Chk_elim H
      obtain ⟨x14, hx14, H⟩ := Let_elim H
      obtain ⟨A_8, hA_12⟩ : ∃ z, z = (if c0 = x13.toNat then A0 else A0.map (·.add (x13.toNat * 1))) := ⟨_, rfl⟩
      obtain ⟨c_9, hc_110⟩ : ∃ z, z = c0 - x13.toNat := ⟨_, rfl⟩
      have hl : x14.length = a0.length - x13.toNat := by subst hx14; exact cut_len (by omega) (by omega)
      have hs_10 : SlH h U8 A_8 x14 := by subst hA_12 hx14; exact hs0.cut (by omega) hc0
      have hc_11 : x14.length ≤ c_9 := by have := hc0; omega
      refine z_val (v := .slice A_8 x14.length c_9) (val_sliceL rfl rfl rfl Tryd.underlying27 sz5 hq_7.1 hq_7.2 (by rw [hl, hA_12, hc_110])) rfl rfl rfl (fun _ _ _ => trivial) ?_
      clear hl hA_12 hc_110 hx14
      refine z_val (v := .slice A_8 x14.length c_9) (val_assign rfl rfl) rfl rfl rfl (fun _ _ _ => trivial) ?_
      refine z_nil ?_
      obtain rfl := Option.some.inj H
      exact t_reach ((K _ ⟨A_8, c_9⟩ HJ ⟨hs_10, hc_11⟩).weak (fun a ha => ha.cons rfl (ha.cons rfl (ha.cons rfl (ha.nil)))) (fun w hw => hw))
  ·
    replace H := HB
    clear HB
    obtain ⟨x0, rfl⟩ : ∃ x, x = s := ⟨_, rfl⟩
    obtain ⟨A_3, c_4⟩ := g
    try dsimp only at hφ
    obtain ⟨hs_5, hc_6⟩ := hφ
    try dsimp only at H
    change T 46 _ _ _
    refine t_seq ?_
    refine t_region (fun ops hops => ?_)
    clear hops
    refine z_val (v := .slice A_3 x0.length c_4) (val_move rfl rfl) rfl rfl rfl (fun _ _ _ => trivial) ?_
    obtain ⟨x16, hx16, H⟩ := Let_elim H
    refine z_val (v := .int .i64 x16) (by subst hx16; exact val_len rfl rfl rfl Tryd.underlying27) rfl rfl rfl (fun _ _ _ => trivial) ?_
    clear hx16
    obtain ⟨x17, hx17, H⟩ := Let_elim H
    refine z_val (v := .int .i64 x17) (by subst hx17; exact val_bin rfl rfl rfl rfl (i64_sub _ _ _)) rfl rfl rfl (fun _ _ _ => trivial) ?_
    clear hx17
    obtain ⟨hq_13, H⟩ := Chk_elim H
    obtain ⟨x18, hx18, H⟩ := Let_elim H
    have hln : x17.toNat ≤ 32 ∧ 32 ≤ 32 := by omega
    have hl_18 : x18.length = 32 - x17.toNat := by subst hx18; exact sla_len _ hln.2
    obtain ⟨q_14, hq_15⟩ : ∃ z, z = (if 32 = x17.toNat then 0 else x17.toNat) := ⟨_, rfl⟩
    obtain ⟨c_16, hc_170⟩ : ∃ z, z = 32 - x17.toNat := ⟨_, rfl⟩
    have hc_17 : x18.length ≤ c_16 := by omega
    refine z_val (v := .slice (some ⟨g_2, q_14, none⟩) x18.length c_16) (val_sliceA (l := x17.toNat) (k := 32) rfl rfl Tryd.underlying46 sz5 (.inr ⟨_, rfl, _, _, rfl, (by omega)⟩) (.inl ⟨rfl, rfl⟩) hln.1 hln.2 (by rw [hl_18, hq_15, hc_170]; first | rfl | (congr 2; split <;> simp))) rfl rfl rfl (fun _ _ _ => trivial) ?_
    refine z_val (v := .slice A_3 x0.length c_4) (val_move rfl rfl) rfl rfl rfl (fun _ _ _ => trivial) ?_
    obtain ⟨y_2, hy_2, H⟩ := Let_elim H
    obtain ⟨x20, hx20, H⟩ := Let_elim H
    refine z_copyA (j := 0) (a := (Vec.rep 32 0#8)) (a' := y_2) (m := (32 - x17.toNat)) (r := x20) (L' := [.blk g_2 46 (cV U8 y_2) 32, .blk g_1 26 (cV U64 (Vec.rep 4 0#64)) 4]) rfl rfl Tryd.underlying27 sz5 rfl hl_18 rfl rfl hq_15 (by omega) (fun w hw => (hs_5.toW hw)) (fun _ => rfl) (by subst hy_2; rfl) (by subst hx20; rfl) rfl rfl rfl rfl (fun _ _ _ => trivial) ?_
    clear hy_2 hx20
    refine z_nil ?_
    refine t_seq ?_
    refine t_region (fun ops hops => ?_)
    clear hops
    refine z_alloc (cs := cV U64 (Vec.rep 4 0#64)) (room := 4) rfl ze26 rfl (cV_len _) rfl rfl rfl (fun _ _ _ _ => trivial) (fun g_19 => ?_)
    refine z_nil ?_
    refine t_seq ?_
    refine t_seq ?_
    refine t_region (fun ops hops => ?_)
    clear hops
    refine z_val (v := .int .i64 0) (val_move rfl rfl) rfl rfl rfl (fun _ _ _ => trivial) ?_
    refine z_nil ?_
    refine t_block ?_
    obtain ⟨z1, hz1, HK1⟩ := Option.bind_eq_some_iff.1 H
    clear H
    refine t_while hz1 (fun (s : (Vec (BitVec 64) 4) × (Int)) (g : Unit) => [(2, .pointer (some ⟨g_1, 0, none⟩)), (3, .pointer (some ⟨g_2, 0, none⟩)), (4, .pointer (some ⟨g_19, 0, none⟩)), (21, .int .i64 s.2)]) (fun (s : (Vec (BitVec 64) 4) × (Int)) (g : Unit) => [(2, .pointer (some ⟨g_1, 0, none⟩)), (4, .pointer (some ⟨g_19, 0, none⟩))]) (fun (s : (Vec (BitVec 64) 4) × (Int)) (g : Unit) => Mm w [] h [.blk g_19 26 (cV U64 s.1) 4, .blk g_2 46 (cV U8 y_2) 32, .blk g_1 26 (cV U64 (Vec.rep 4 0#64)) 4]) (fun (s : (Vec (BitVec 64) 4) × (Int)) (g : Unit) => Mm w [] h [.blk g_19 26 (cV U64 s.1) 4, .blk g_1 26 (cV U64 (Vec.rep 4 0#64)) 4]) (fun (s : (Vec (BitVec 64) 4) × (Int)) (g : Unit) => True) (fun (s : (Vec (BitVec 64) 4) × (Int)) (g : Unit) => True) () trivial (fun a w ha hw => ⟨ha.cons rfl (ha.cons rfl (ha.cons rfl (ha.cons rfl (ha.nil)))), hw⟩) (fun Gn Gb s g e hφ H hn1 hb1 hr1 => ?_) (fun s g hzz hφ => ?_)
    ·
      obtain ⟨y_19, x21⟩ := s
      change word_From.b1 y_2 y_19 x21 = some e at H
      unfold word_From.b1 at H
      clear hz1
      change T 46 _ _ _
      refine t_seq ?_
      refine t_region (fun ops hops => ?_)
      clear hops
      obtain ⟨x22, hx22, H⟩ := Let_elim H
      refine z_val (v := .bool x22) (by subst hx22; exact val_bin rfl rfl rfl rfl (i64_lss _ _ _)) rfl rfl rfl (fun _ _ _ => trivial) ?_
      clear hx22
      refine z_nil ?_
      refine t_seq ?_
      cases x22
      ·
        replace H := cond_f H
        refine t_cond_false rfl ?_
        refine t_exit rfl ?_
        obtain rfl := Option.some.inj H
        exact t_reach ((hb1 _ () rfl trivial).weak (fun a ha => ha.cons rfl (ha.cons rfl (ha.nil))) (fun w hw => hw.sel [0, 2] rfl rfl))
      ·
        replace H := cond_t H
        refine t_cond_true rfl ?_
        refine t_skip ?_
        refine t_seq ?_
        refine t_block ?_
        refine t_seq ?_
        refine t_region (fun ops hops => ?_)
        clear hops
        refine z_val (v := .int .i64 x21) (val_move rfl rfl) rfl rfl rfl (fun _ _ _ => trivial) ?_
        refine z_val (v := .int .i64 x21) (val_assign rfl rfl) rfl rfl rfl (fun _ _ _ => trivial) ?_
        refine z_nil ?_
        refine t_seq ?_
        refine t_region (fun ops hops => ?_)
        clear hops
        refine z_val (v := .int .i64 0) (val_move rfl rfl) rfl rfl rfl (fun _ _ _ => trivial) ?_
        refine z_nil ?_
        refine t_block ?_
        obtain ⟨z2, hz2, HK2⟩ := Option.bind_eq_some_iff.1 H
        clear H
        refine t_while hz2 (fun (s : (Vec (BitVec 64) 4) × (Int)) (g : Unit) => [(2, .pointer (some ⟨g_1, 0, none⟩)), (3, .pointer (some ⟨g_2, 0, none⟩)), (4, .pointer (some ⟨g_19, 0, none⟩)), (5, .int .i64 x21), (21, .int .i64 x21), (24, .int .i64 s.2)]) (fun (s : (Vec (BitVec 64) 4) × (Int)) (g : Unit) => [(2, .pointer (some ⟨g_1, 0, none⟩)), (3, .pointer (some ⟨g_2, 0, none⟩)), (4, .pointer (some ⟨g_19, 0, none⟩)), (21, .int .i64 x21)]) (fun (s : (Vec (BitVec 64) 4) × (Int)) (g : Unit) => Mm w [] h [.blk g_19 26 (cV U64 s.1) 4, .blk g_2 46 (cV U8 y_2) 32, .blk g_1 26 (cV U64 (Vec.rep 4 0#64)) 4]) (fun (s : (Vec (BitVec 64) 4) × (Int)) (g : Unit) => Mm w [] h [.blk g_19 26 (cV U64 s.1) 4, .blk g_2 46 (cV U8 y_2) 32, .blk g_1 26 (cV U64 (Vec.rep 4 0#64)) 4]) (fun (s : (Vec (BitVec 64) 4) × (Int)) (g : Unit) => True) (fun (s : (Vec (BitVec 64) 4) × (Int)) (g : Unit) => True) () trivial (fun a w ha hw => ⟨ha.cons rfl (ha.cons rfl (ha.cons rfl (ha.cons rfl (ha.cons rfl (ha.cons rfl (ha.nil)))))), hw⟩) (fun Gn Gb s g e hφ H hn2 hb2 hr2 => ?_) (fun s g hzz hφ => ?_)
        ·
          obtain ⟨y_19_20, x24⟩ := s
          change word_From.b2 x21 y_2 y_19_20 x24 = some e at H
          unfold word_From.b2 at H
          clear hz2
          change T 46 _ _ _
          refine t_seq ?_
          refine t_region (fun ops hops => ?_)
          clear hops
          obtain ⟨x25, hx25, H⟩ := Let_elim H
          refine z_val (v := .bool x25) (by subst hx25; exact val_bin rfl rfl rfl rfl (i64_lss _ _ _)) rfl rfl rfl (fun _ _ _ => trivial) ?_
          clear hx25
          refine z_nil ?_
          refine t_seq ?_
          cases x25
          ·
            replace H := cond_f H
            refine t_cond_false rfl ?_
            refine t_exit rfl ?_
            obtain rfl := Option.some.inj H
            exact t_reach ((hb2 _ () rfl trivial).weak (fun a ha => ha.cons rfl (ha.cons rfl (ha.cons rfl (ha.cons rfl (ha.nil))))) (fun w hw => hw))
          ·
            replace H := cond_t H
            refine t_cond_true rfl ?_
            refine t_skip ?_
            refine t_seq ?_
            refine t_block ?_
            refine t_seq ?_
            refine t_region (fun ops hops => ?_)
            clear hops
            refine z_val (v := .int .i64 x24) (val_move rfl rfl) rfl rfl rfl (fun _ _ _ => trivial) ?_
            refine z_val (v := .int .i64 x24) (val_assign rfl rfl) rfl rfl rfl (fun _ _ _ => trivial) ?_
            refine z_nil ?_
            refine t_plan (C := Mm w [] h [.blk g_19 26 (cV U64 y_19_20) 4, .blk g_2 46 (cV U8 y_2) 32, .blk g_1 26 (cV U64 (Vec.rep 4 0#64)) 4]) [16] [(0, true), (1, true), (2, true), (3, true), (4, true), (5, true), (6, true), (7, true), (8, true), (9, true), (10, true), (11, true), (12, true), (13, true), (14, true), (15, true), (16, false)] (by kernel_rfl) (by kernel_rfl) (fun _ hw => hw.drew) (fun ops hops => ?_)
            clear hops
            refine z_still (v := .int .i64 x21) (val_move rfl rfl) rfl rfl rfl (fun _ hw => hw) ?_
            obtain ⟨hq_21, H⟩ := Chk_elim H
            refine z_still (v := .pointer (some ⟨g_19, x21.toNat, none⟩)) (val_idx0 rfl rfl rfl Tryd.underlying26 sz24 hq_21 rfl) rfl rfl rfl (fun _ hw => hw) ?_
            obtain ⟨x29, hx29, H⟩ := Let_elim H
            refine z_still (v := U64 x29) (by subst hx29; exact val_load1 rfl rfl Tryd.underlying24 rfl (fun _ hw => hw.cell (j := 0) rfl (cV_at _ (idx_lt hq_21)))) rfl rfl rfl (fun _ hw => hw) ?_
            clear hx29
            refine z_still (v := .int .i64 x21) (val_move rfl rfl) rfl rfl rfl (fun _ hw => hw) ?_
            obtain ⟨x31, hx31, H⟩ := Let_elim H
            refine z_still (v := .int .i64 x31) (by subst hx31; exact val_bin rfl rfl rfl rfl (i64_mul _ _ _)) rfl rfl rfl (fun _ hw => hw) ?_
            clear hx31
            obtain ⟨x32, hx32, H⟩ := Let_elim H
            refine z_still (v := .int .i64 x32) (by subst hx32; exact val_bin rfl rfl rfl rfl (i64_sub _ _ _)) rfl rfl rfl (fun _ hw => hw) ?_
            clear hx32
            refine z_still (v := .int .i64 x24) (val_move rfl rfl) rfl rfl rfl (fun _ hw => hw) ?_
            obtain ⟨x34, hx34, H⟩ := Let_elim H
            refine z_still (v := .int .i64 x34) (by subst hx34; exact val_bin rfl rfl rfl rfl (i64_sub _ _ _)) rfl rfl rfl (fun _ hw => hw) ?_
            clear hx34
            obtain ⟨hq_22, H⟩ := Chk_elim H
            refine z_still (v := .pointer (some ⟨g_2, x34.toNat, none⟩)) (val_idx0 rfl rfl rfl Tryd.underlying46 sz5 hq_22 rfl) rfl rfl rfl (fun _ hw => hw) ?_
            obtain ⟨x36, hx36, H⟩ := Let_elim H
            refine z_still (v := U8 x36) (by subst hx36; exact val_load1 rfl rfl Tryd.underlying5 rfl (fun _ hw => hw.cell (j := 1) rfl (cV_at _ (idx_lt hq_22)))) rfl rfl rfl (fun _ hw => hw) ?_
            clear hx36
            obtain ⟨x37, hx37, H⟩ := Let_elim H
            refine z_still (v := U64 x37) (by subst hx37; exact val_conv rfl rfl (fun w => conv_u8_u64 w _ _ _ (by rw [Tryd.underlying5]; rfl) Tryd.underlying24)) rfl rfl rfl (fun _ hw => hw) ?_
            clear hx37
            refine z_still (v := .int .i64 x24) (val_move rfl rfl) rfl rfl rfl (fun _ hw => hw) ?_
            obtain ⟨x39, hx39, H⟩ := Let_elim H
            refine z_still (v := .int .i64 x39) (by subst hx39; exact val_bin rfl rfl rfl rfl (i64_mul _ _ _)) rfl rfl rfl (fun _ hw => hw) ?_
            clear hx39
            obtain ⟨hq_23, H⟩ := Chk_elim H
            obtain ⟨x40, hx40, H⟩ := Let_elim H
            refine z_still (v := U64 x40) (by subst hx40; exact val_bin rfl rfl rfl rfl (u64_shl _ _ _ _ hq_23)) rfl rfl rfl (fun _ hw => hw) ?_
            clear hx40
            obtain ⟨x41, hx41, H⟩ := Let_elim H
            refine z_still (v := U64 x41) (by subst hx41; exact val_bin rfl rfl rfl rfl (u64_or _ _ _)) rfl rfl rfl (fun _ hw => hw) ?_
            clear hx41
            obtain ⟨hq_24, H⟩ := Chk_elim H
            refine z_still (v := .pointer (some ⟨g_19, x21.toNat, none⟩)) (val_idx0 rfl rfl rfl Tryd.underlying26 sz24 hq_24 rfl) rfl rfl rfl (fun _ hw => hw) ?_
            obtain ⟨y_19_25, hy_19_25, H⟩ := Let_elim H
            refine z_store1 (j := 0) (cs' := cV U64 y_19_25) (L' := [.blk g_19 26 (cV U64 y_19_25) 4, .blk g_2 46 (cV U8 y_2) 32, .blk g_1 26 (cV U64 (Vec.rep 4 0#64)) 4]) rfl rfl rfl rfl rfl sz24 rfl (by rw [cV_len]; exact (idx_lt hq_24)) (by subst hy_19_25; exact cV_set (f := U64) _ _ x41) rfl rfl rfl (fun hb => absurd hb (by decide)) ?_
            clear hy_19_25
            refine z_nil ?_
            refine t_fin ?_
            refine t_region (fun ops hops => ?_)
            clear hops
            obtain ⟨x43, hx43, H⟩ := Let_elim H
            refine z_val (v := .int .i64 x43) (by subst hx43; exact val_bin rfl rfl rfl rfl (i64_add _ _ _)) rfl rfl rfl (fun _ _ _ => trivial) ?_
            clear hx43
            refine z_val (v := .int .i64 x43) (val_move rfl rfl) rfl rfl rfl (fun _ _ _ => trivial) ?_
            refine z_nil ?_
            obtain rfl := Option.some.inj H
            exact t_reach ((hn2 _ () rfl trivial).weak (fun a ha => ha.cons rfl (ha.cons rfl (ha.cons rfl (ha.cons rfl (ha.cons rfl (ha.cons rfl (ha.nil))))))) (fun w hw => hw))
        ·
          obtain ⟨y_19_20, x24⟩ := s
          subst hzz
          have H := HK2
          clear HK2 hz2
          replace H := sum_l H
          try dsimp only at H
          change T 46 _ _ _
          refine t_fin ?_
          refine t_region (fun ops hops => ?_)
          clear hops
          obtain ⟨x44, hx44, H⟩ := Let_elim H
          refine z_val (v := .int .i64 x44) (by subst hx44; exact val_bin rfl rfl rfl rfl (i64_add _ _ _)) rfl rfl rfl (fun _ _ _ => trivial) ?_
          clear hx44
          refine z_val (v := .int .i64 x44) (val_move rfl rfl) rfl rfl rfl (fun _ _ _ => trivial) ?_
          refine z_nil ?_
          obtain rfl := Option.some.inj H
          exact t_reach ((hn1 _ () rfl trivial).weak (fun a ha => ha.cons rfl (ha.cons rfl (ha.cons rfl (ha.cons rfl (ha.nil))))) (fun w hw => hw))
    ·
      obtain ⟨y_19, x21⟩ := s
      subst hzz
      have H := HK1
      clear HK1 hz1
      replace H := sum_l H
      try dsimp only at H
      change T 46 _ _ _
      refine t_seq ?_
      refine t_region (fun ops hops => ?_)
      clear hops
      refine z_val (v := .agg (cV U64 y_19).toArray) (val_loadR (off := 0) (cs := cV U64 y_19) rfl rfl Tryd.underlying26 rfl (sz26.trans (congrArg some (cV_len _).symm)) (fun _ hw => hw.whole (j := 0) rfl)) rfl rfl rfl (fun _ _ _ => trivial) ?_
      refine z_storeA (j := 1) (cs' := cV U64 y_19) (L' := [.blk g_19 26 (cV U64 y_19) 4, .blk g_1 26 (cV U64 y_19) 4]) rfl rfl rfl (cV_one (fun _ => rfl) _) sz26 rfl (cV_len _) rfl rfl rfl (fun _ _ _ => trivial) ?_
      refine z_nil ?_
      refine t_ret ?_
      obtain rfl := Option.some.inj H
      exact ret1 rfl (res_row (j := 1) rfl Tryd.underlying26 rfl sz26 rfl (cV_len _)) (fun _ hw => ⟨rfl, hw.below⟩)
def bits_RotateLeft64 (a0 : BitVec 64) (a1 : Int) : Option (BitVec 64) :=
  Let (BitVec.ofInt 64 a1) fun x7 => Let (x7 &&& 63#64) fun x8 => Let (a0 <<< x8.toNat) fun x11 => Let (64#64 - x8) fun x14 => Let (a0 >>> x14.toNat) fun x15 => Let (x11 ||| x15) fun x16 => some x16
set_option maxRecDepth 100000 in
theorem bits_RotateLeft64.calls (a0 : BitVec 64) (a1 : Int) (r : BitVec 64) (H : bits_RotateLeft64 a0 a1 = some r) (w : World)  :
    Made Tryd.prog 137 #[U64 a0, .int .i64 a1] w (U64 r) := by
  unfold bits_RotateLeft64 at H
  have hM := Mm.start w (snap w) (snap_ok w)
  generalize snap w = h at *
  refine t_enter (vs := [U64 a0, .int .i64 a1]) (n := 17) Tryd.func137 rfl rfl rfl hM ?_
  clear hM
  change T 17 _ _ _
  refine t_seq ?_
  refine t_region (fun ops hops => ?_)
  clear hops
  refine z_val (v := .int .u64 0) (val_assign rfl rfl) rfl rfl rfl (fun _ _ _ => trivial) ?_
  refine z_nil ?_
  refine t_seq ?_
  refine t_region (fun ops hops => ?_)
  clear hops
  refine z_val (v := .int .i64 a1) (val_move rfl rfl) rfl rfl rfl (fun _ _ _ => trivial) ?_
  obtain ⟨x7, hx7, H⟩ := Let_elim H
  refine z_val (v := U64 x7) (by subst hx7; exact val_conv rfl rfl (fun w => conv_int_u64 w _ _ .i64 _ (by rw [Tryd.underlying3]; rfl) Tryd.underlying160)) rfl rfl rfl (fun _ _ _ => trivial) ?_
  clear hx7
  obtain ⟨x8, hx8, H⟩ := Let_elim H
  refine z_val (v := U64 x8) (by subst hx8; exact val_bin rfl rfl rfl rfl (u64_and_r _ _ _)) rfl rfl rfl (fun _ _ _ => trivial) ?_
  clear hx8
  refine z_val (v := U64 x8) (val_assign rfl rfl) rfl rfl rfl (fun _ _ _ => trivial) ?_
  refine z_nil ?_
  refine t_seq ?_
  refine t_region (fun ops hops => ?_)
  clear hops
  refine z_val (v := U64 a0) (val_move rfl rfl) rfl rfl rfl (fun _ _ _ => trivial) ?_
  refine z_val (v := U64 x8) (val_move rfl rfl) rfl rfl rfl (fun _ _ _ => trivial) ?_
  obtain ⟨x11, hx11, H⟩ := Let_elim H
  refine z_val (v := U64 x11) (by subst hx11; exact val_bin rfl rfl rfl rfl (u64_shl_u64 _ _ _)) rfl rfl rfl (fun _ _ _ => trivial) ?_
  clear hx11
  refine z_val (v := U64 a0) (val_move rfl rfl) rfl rfl rfl (fun _ _ _ => trivial) ?_
  refine z_val (v := U64 x8) (val_move rfl rfl) rfl rfl rfl (fun _ _ _ => trivial) ?_
  obtain ⟨x14, hx14, H⟩ := Let_elim H
  refine z_val (v := U64 x14) (by subst hx14; exact val_bin rfl rfl rfl rfl (u64_sub_l _ _ _)) rfl rfl rfl (fun _ _ _ => trivial) ?_
  clear hx14
  obtain ⟨x15, hx15, H⟩ := Let_elim H
  refine z_val (v := U64 x15) (by subst hx15; exact val_bin rfl rfl rfl rfl (u64_shr_u64 _ _ _)) rfl rfl rfl (fun _ _ _ => trivial) ?_
  clear hx15
  obtain ⟨x16, hx16, H⟩ := Let_elim H
  refine z_val (v := U64 x16) (by subst hx16; exact val_bin rfl rfl rfl rfl (u64_or _ _ _)) rfl rfl rfl (fun _ _ _ => trivial) ?_
  clear hx16
  refine z_val (v := U64 x16) (val_assign rfl rfl) rfl rfl rfl (fun _ _ _ => trivial) ?_
  refine z_nil ?_
  refine t_ret ?_
  obtain rfl := Option.some.inj H
  exact ret1 rfl (res_tmp rfl) (fun _ hw => ⟨rfl, hw.below⟩)
def keccak_round.b1 (a0 : Vec (BitVec 64) 25) (y_3 : Vec (BitVec 64) 5) (x15 : Int) : Option (Ctl ((Vec (BitVec 64) 5) × (Int)) (Vec (BitVec 64) 25)) :=
  Let (decide (x15 < 5)) fun x16 => (bif x16 then Chk (0 ≤ x15 ∧ x15 < ((25 : Nat) : Int)) <| Let (a0.get x15.toNat) fun x21 => Let (wi (x15 + 5)) fun x23 => Chk (0 ≤ x23 ∧ x23 < ((25 : Nat) : Int)) <| Let (a0.get x23.toNat) fun x25 => Let (x21 ^^^ x25) fun x26 => Let (wi (x15 + 10)) fun x28 => Chk (0 ≤ x28 ∧ x28 < ((25 : Nat) : Int)) <| Let (a0.get x28.toNat) fun x30 => Let (x26 ^^^ x30) fun x31 => Let (wi (x15 + 15)) fun x33 => Chk (0 ≤ x33 ∧ x33 < ((25 : Nat) : Int)) <| Let (a0.get x33.toNat) fun x35 => Let (x31 ^^^ x35) fun x36 => Let (wi (x15 + 20)) fun x38 => Chk (0 ≤ x38 ∧ x38 < ((25 : Nat) : Int)) <| Let (a0.get x38.toNat) fun x40 => Let (x36 ^^^ x40) fun x41 => Chk (0 ≤ x15 ∧ x15 < ((5 : Nat) : Int)) <| Let (y_3.set x15.toNat x41) fun y_3_10 => Let (wi (x15 + 1)) fun x43 => some (.next (y_3_10, x43)) else some (.brk (y_3, x15)))
def keccak_round.b3 (x44 : Int) (x58 : BitVec 64) (y_1_13 : Vec (BitVec 64) 25) (x7 : Int) : Option (Ctl ((Vec (BitVec 64) 25) × (Int)) (Vec (BitVec 64) 25)) :=
  Let (decide (x7 < 25)) fun x60 => (bif x60 then Let (wi (x44 + x7)) fun x65 => Chk (0 ≤ x65 ∧ x65 < ((25 : Nat) : Int)) <| Let (y_1_13.get x65.toNat) fun x67 => Let (x67 ^^^ x58) fun x69 => Chk (0 ≤ x65 ∧ x65 < ((25 : Nat) : Int)) <| Let (y_1_13.set x65.toNat x69) fun y_1_16 => Let (wi (x7 + 5)) fun x62 => some (.next (y_1_16, x62)) else some (.brk (y_1_13, x7)))
def keccak_round.b2 (y_3 : Vec (BitVec 64) 5) (y_1 : Vec (BitVec 64) 25) (x44 : Int) : Option (Ctl ((Vec (BitVec 64) 25) × (Int)) (Vec (BitVec 64) 25)) :=
  Let (decide (x44 < 5)) fun x45 => (bif x45 then Let (wi (x44 + 4)) fun x48 => Let (Int.tmod x48 5) fun x49 => Chk (0 ≤ x49 ∧ x49 < ((5 : Nat) : Int)) <| Let (y_3.get x49.toNat) fun x51 => Let (wi (x44 + 1)) fun x53 => Let (Int.tmod x53 5) fun x54 => Chk (0 ≤ x54 ∧ x54 < ((5 : Nat) : Int)) <| Let (y_3.get x54.toNat) fun x56 => (bits_RotateLeft64 x56 1).bind fun x57 => Let (x51 ^^^ x57) fun x58 => (wlx (σ := (Vec (BitVec 64) 25) × (Int)) (fun s => keccak_round.b3 x44 x58 s.1 s.2) (y_1, 0)).bind (Sum.elim (fun s => (fun y_1_13 x7 => Let (wi (x44 + 1)) fun x71 => some (.next (y_1_13, x71))) s.1 s.2) (fun r => some (.ret r))) else some (.brk (y_1, x44)))
def keccak_round.b4 (T2 : Vec (Int) 24) (T3 : Vec (Int) 24) (y_1_17 : Vec (BitVec 64) 25) (x8 : BitVec 64) (x75 : Int) : Option (Ctl ((Vec (BitVec 64) 25) × (BitVec 64) × (Int)) (Vec (BitVec 64) 25)) :=
  Let (decide (x75 < 24)) fun x76 => (bif x76 then Chk (0 ≤ x75 ∧ x75 < ((24 : Nat) : Int)) <| Let (T2.get x75.toNat) fun x78 => Chk (0 ≤ x78 ∧ x78 < ((25 : Nat) : Int)) <| Let (y_1_17.get x78.toNat) fun x81 => Chk (0 ≤ x75 ∧ x75 < ((24 : Nat) : Int)) <| Let (T3.get x75.toNat) fun x86 => (bits_RotateLeft64 x8 x86).bind fun x87 => Chk (0 ≤ x78 ∧ x78 < ((25 : Nat) : Int)) <| Let (y_1_17.set x78.toNat x87) fun y_1_23 => Let (wi (x75 + 1)) fun x90 => some (.next (y_1_23, x81, x90)) else some (.brk (y_1_17, x8, x75)))
def keccak_round.b6 (x12 : Int) (x100 : Vec (BitVec 64) 5) (y_1_34 : Vec (BitVec 64) 25) (x101 : Int) : Option (Ctl ((Vec (BitVec 64) 25) × (Int)) (Vec (BitVec 64) 25)) :=
  Let (decide (x101 < 5)) fun x102 => (bif x102 then Let (wi (x101 + x12)) fun x106 => Chk (0 ≤ x101 ∧ x101 < ((5 : Nat) : Int)) <| Let (x100.get x101.toNat) fun x109 => Let (wi (x101 + 1)) fun x111 => Let (Int.tmod x111 5) fun x112 => Chk (0 ≤ x112 ∧ x112 < ((5 : Nat) : Int)) <| Let (x100.get x112.toNat) fun x114 => Let (~~~x114) fun x115 => Let (wi (x101 + 2)) fun x117 => Let (Int.tmod x117 5) fun x118 => Chk (0 ≤ x118 ∧ x118 < ((5 : Nat) : Int)) <| Let (x100.get x118.toNat) fun x120 => Let (x115 &&& x120) fun x121 => Let (x109 ^^^ x121) fun x122 => Chk (0 ≤ x106 ∧ x106 < ((25 : Nat) : Int)) <| Let (y_1_34.set x106.toNat x122) fun y_1_39 => Let (wi (x101 + 1)) fun x124 => some (.next (y_1_39, x124)) else some (.brk (y_1_34, x101)))
def keccak_round.b5  (y_1_24 : Vec (BitVec 64) 25) (x12 : Int) : Option (Ctl ((Vec (BitVec 64) 25) × (Int)) (Vec (BitVec 64) 25)) :=
  Let (decide (x12 < 25)) fun x92 => (bif x92 then Let (wi (x12 + 5)) fun x97 => Chk ((0 : Int) ≤ x12 ∧ x12 ≤ x97 ∧ x97 ≤ ((25 : Nat) : Int)) <| Let ((y_1_24.l.take x97.toNat).drop x12.toNat) fun x98 => Chk (5 ≤ x98.length) <| Let (y_1_24.part x12.toNat 5) fun x100 => (wlx (σ := (Vec (BitVec 64) 25) × (Int)) (fun s => keccak_round.b6 x12 x100 s.1 s.2) (y_1_24, 0)).bind (Sum.elim (fun s => (fun y_1_34 x101 => Let (wi (x12 + 5)) fun x94 => some (.next (y_1_34, x94))) s.1 s.2) (fun r => some (.ret r))) else some (.brk (y_1_24, x12)))
def keccak_round (T2 : Vec (Int) 24) (T3 : Vec (Int) 24) (a0 : Vec (BitVec 64) 25) : Option (Vec (BitVec 64) 25) :=
  (wlx (σ := (Vec (BitVec 64) 5) × (Int)) (fun s => keccak_round.b1 a0 s.1 s.2) ((Vec.rep 5 0#64), 0)).bind (Sum.elim (fun s => (fun y_3 x15 => (wlx (σ := (Vec (BitVec 64) 25) × (Int)) (fun s => keccak_round.b2 y_3 s.1 s.2) (a0, 0)).bind (Sum.elim (fun s => (fun y_1 x44 => Let (y_1.get 1) fun x73 => (wlx (σ := (Vec (BitVec 64) 25) × (BitVec 64) × (Int)) (fun s => keccak_round.b4 T2 T3 s.1 s.2.1 s.2.2) (y_1, x73, 0)).bind (Sum.elim (fun s => (fun y_1_17 x8 x75 => (wlx (σ := (Vec (BitVec 64) 25) × (Int)) (fun s => keccak_round.b5 s.1 s.2) (y_1_17, 0)).bind (Sum.elim (fun s => (fun y_1_24 x12 => some y_1_24) s.1 s.2) (fun r => some r))) s.1 s.2.1 s.2.2) (fun r => some r))) s.1 s.2) (fun r => some r))) s.1 s.2) (fun r => some r))
set_option maxRecDepth 100000 in
theorem keccak_round.calls (T2 : Vec (Int) 24) (T3 : Vec (Int) 24) (a0 : Vec (BitVec 64) 25) (r : Vec (BitVec 64) 25) (H : keccak_round T2 T3 a0 = some r) (w : World) (hT2 : TabW w 2 (Value.int .i64) T2) (hT3 : TabW w 3 (Value.int .i64) T3) :
    Made Tryd.prog 132 #[.agg (cV U64 a0).toArray] w (.agg (cV U64 r).toArray) := by
  unfold keccak_round at H
  replace hT2 := hT2.toH
  replace hT3 := hT3.toH
  have hM := Mm.start w (snap w) (snap_ok w)
  generalize snap w = h at *
  refine t_enter (vs := [.agg (cV U64 a0).toArray]) (n := 126) Tryd.func132 rfl rfl rfl hM ?_
  clear hM
  change T 126 _ _ _
  refine t_seq ?_
  refine t_region (fun ops hops => ?_)
  clear hops
  refine z_box (cs := cV U64 a0) (room := 25) rfl rfl rfl (cV_len _) rfl rfl rfl (fun _ _ _ _ => trivial) (fun g_1 => ?_)
  refine z_alloc (cs := cV U64 (Vec.rep 25 0#64)) (room := 25) rfl ze115 rfl (cV_len _) rfl rfl rfl (fun _ _ _ _ => trivial) (fun g_2 => ?_)
  refine z_nil ?_
  refine t_seq ?_
  refine t_region (fun ops hops => ?_)
  clear hops
  refine z_alloc (cs := cV U64 (Vec.rep 5 0#64)) (room := 5) rfl ze161 rfl (cV_len _) rfl rfl rfl (fun _ _ _ _ => trivial) (fun g_3 => ?_)
  refine z_nil ?_
  refine t_seq ?_
  refine t_seq ?_
  refine t_region (fun ops hops => ?_)
  clear hops
  refine z_val (v := .int .i64 0) (val_move rfl rfl) rfl rfl rfl (fun _ _ _ => trivial) ?_
  refine z_nil ?_
  refine t_block ?_
  obtain ⟨z1, hz1, HK1⟩ := Option.bind_eq_some_iff.1 H
  clear H
  refine t_while hz1 (fun (s : (Vec (BitVec 64) 5) × (Int)) (g : Unit) => [(1, .pointer (some ⟨g_1, 0, none⟩)), (2, .pointer (some ⟨g_2, 0, none⟩)), (3, .pointer (some ⟨g_3, 0, none⟩)), (15, .int .i64 s.2)]) (fun (s : (Vec (BitVec 64) 5) × (Int)) (g : Unit) => [(1, .pointer (some ⟨g_1, 0, none⟩)), (2, .pointer (some ⟨g_2, 0, none⟩)), (3, .pointer (some ⟨g_3, 0, none⟩))]) (fun (s : (Vec (BitVec 64) 5) × (Int)) (g : Unit) => Mm w [] h [.blk g_3 161 (cV U64 s.1) 5, .blk g_2 115 (cV U64 (Vec.rep 25 0#64)) 25, .blk g_1 115 (cV U64 a0) 25]) (fun (s : (Vec (BitVec 64) 5) × (Int)) (g : Unit) => Mm w [] h [.blk g_3 161 (cV U64 s.1) 5, .blk g_2 115 (cV U64 (Vec.rep 25 0#64)) 25, .blk g_1 115 (cV U64 a0) 25]) (fun (s : (Vec (BitVec 64) 5) × (Int)) (g : Unit) => True) (fun (s : (Vec (BitVec 64) 5) × (Int)) (g : Unit) => True) () trivial (fun a w ha hw => ⟨ha.cons rfl (ha.cons rfl (ha.cons rfl (ha.cons rfl (ha.nil)))), hw⟩) (fun Gn Gb s g e hφ H hn1 hb1 hr1 => ?_) (fun s g hzz hφ => ?_)
  ·
    obtain ⟨y_3, x15⟩ := s
    change keccak_round.b1 a0 y_3 x15 = some e at H
    unfold keccak_round.b1 at H
    clear hz1
    change T 126 _ _ _
    refine t_seq ?_
    refine t_region (fun ops hops => ?_)
    clear hops
    obtain ⟨x16, hx16, H⟩ := Let_elim H
    refine z_val (v := .bool x16) (by subst hx16; exact val_bin rfl rfl rfl rfl (i64_lss _ _ _)) rfl rfl rfl (fun _ _ _ => trivial) ?_
    clear hx16
    refine z_nil ?_
    refine t_seq ?_
    cases x16
    ·
      replace H := cond_f H
      refine t_cond_false rfl ?_
      refine t_exit rfl ?_
      obtain rfl := Option.some.inj H
      exact t_reach ((hb1 _ () rfl trivial).weak (fun a ha => ha.cons rfl (ha.cons rfl (ha.cons rfl (ha.nil)))) (fun w hw => hw))
    ·
      replace H := cond_t H
      refine t_cond_true rfl ?_
      refine t_skip ?_
      refine t_seq ?_
      refine t_block ?_
      refine t_seq ?_
      refine t_region (fun ops hops => ?_)
      clear hops
      refine z_val (v := .int .i64 x15) (val_move rfl rfl) rfl rfl rfl (fun _ _ _ => trivial) ?_
      refine z_val (v := .int .i64 x15) (val_assign rfl rfl) rfl rfl rfl (fun _ _ _ => trivial) ?_
      refine z_nil ?_
      refine t_plan (C := Mm w [] h [.blk g_3 161 (cV U64 y_3) 5, .blk g_2 115 (cV U64 (Vec.rep 25 0#64)) 25, .blk g_1 115 (cV U64 a0) 25]) [25] [(0, true), (1, true), (2, true), (3, true), (4, true), (5, true), (6, true), (7, true), (8, true), (9, true), (10, true), (11, true), (12, true), (13, true), (14, true), (15, true), (16, true), (17, true), (18, true), (19, true), (20, true), (21, true), (22, true), (23, true), (24, true), (25, false)] (by kernel_rfl) (by kernel_rfl) (fun _ hw => hw.drew) (fun ops hops => ?_)
      clear hops
      refine z_still (v := .int .i64 x15) (val_move rfl rfl) rfl rfl rfl (fun _ hw => hw) ?_
      refine z_still (v := .int .i64 x15) (val_move rfl rfl) rfl rfl rfl (fun _ hw => hw) ?_
      obtain ⟨hq_4, H⟩ := Chk_elim H
      refine z_still (v := .pointer (some ⟨g_1, x15.toNat, none⟩)) (val_idx0 rfl rfl rfl Tryd.underlying115 sz24 hq_4 rfl) rfl rfl rfl (fun _ hw => hw) ?_
      obtain ⟨x21, hx21, H⟩ := Let_elim H
      refine z_still (v := U64 x21) (by subst hx21; exact val_load1 rfl rfl Tryd.underlying24 rfl (fun _ hw => hw.cell (j := 2) rfl (cV_at _ (idx_lt hq_4)))) rfl rfl rfl (fun _ hw => hw) ?_
      clear hx21
      refine z_still (v := .int .i64 x15) (val_move rfl rfl) rfl rfl rfl (fun _ hw => hw) ?_
      obtain ⟨x23, hx23, H⟩ := Let_elim H
      refine z_still (v := .int .i64 x23) (by subst hx23; exact val_bin rfl rfl rfl rfl (i64_add _ _ _)) rfl rfl rfl (fun _ hw => hw) ?_
      clear hx23
      obtain ⟨hq_5, H⟩ := Chk_elim H
      refine z_still (v := .pointer (some ⟨g_1, x23.toNat, none⟩)) (val_idx0 rfl rfl rfl Tryd.underlying115 sz24 hq_5 rfl) rfl rfl rfl (fun _ hw => hw) ?_
      obtain ⟨x25, hx25, H⟩ := Let_elim H
      refine z_still (v := U64 x25) (by subst hx25; exact val_load1 rfl rfl Tryd.underlying24 rfl (fun _ hw => hw.cell (j := 2) rfl (cV_at _ (idx_lt hq_5)))) rfl rfl rfl (fun _ hw => hw) ?_
      clear hx25
      obtain ⟨x26, hx26, H⟩ := Let_elim H
      refine z_still (v := U64 x26) (by subst hx26; exact val_bin rfl rfl rfl rfl (u64_xor _ _ _)) rfl rfl rfl (fun _ hw => hw) ?_
      clear hx26
      refine z_still (v := .int .i64 x15) (val_move rfl rfl) rfl rfl rfl (fun _ hw => hw) ?_
      obtain ⟨x28, hx28, H⟩ := Let_elim H
      refine z_still (v := .int .i64 x28) (by subst hx28; exact val_bin rfl rfl rfl rfl (i64_add _ _ _)) rfl rfl rfl (fun _ hw => hw) ?_
      clear hx28
      obtain ⟨hq_6, H⟩ := Chk_elim H
      refine z_still (v := .pointer (some ⟨g_1, x28.toNat, none⟩)) (val_idx0 rfl rfl rfl Tryd.underlying115 sz24 hq_6 rfl) rfl rfl rfl (fun _ hw => hw) ?_
      obtain ⟨x30, hx30, H⟩ := Let_elim H
      refine z_still (v := U64 x30) (by subst hx30; exact val_load1 rfl rfl Tryd.underlying24 rfl (fun _ hw => hw.cell (j := 2) rfl (cV_at _ (idx_lt hq_6)))) rfl rfl rfl (fun _ hw => hw) ?_
      clear hx30
      obtain ⟨x31, hx31, H⟩ := Let_elim H
      refine z_still (v := U64 x31) (by subst hx31; exact val_bin rfl rfl rfl rfl (u64_xor _ _ _)) rfl rfl rfl (fun _ hw => hw) ?_
      clear hx31
      refine z_still (v := .int .i64 x15) (val_move rfl rfl) rfl rfl rfl (fun _ hw => hw) ?_
      obtain ⟨x33, hx33, H⟩ := Let_elim H
      refine z_still (v := .int .i64 x33) (by subst hx33; exact val_bin rfl rfl rfl rfl (i64_add _ _ _)) rfl rfl rfl (fun _ hw => hw) ?_
      clear hx33
      obtain ⟨hq_7, H⟩ := Chk_elim H
      refine z_still (v := .pointer (some ⟨g_1, x33.toNat, none⟩)) (val_idx0 rfl rfl rfl Tryd.underlying115 sz24 hq_7 rfl) rfl rfl rfl (fun _ hw => hw) ?_
      obtain ⟨x35, hx35, H⟩ := Let_elim H
      refine z_still (v := U64 x35) (by subst hx35; exact val_load1 rfl rfl Tryd.underlying24 rfl (fun _ hw => hw.cell (j := 2) rfl (cV_at _ (idx_lt hq_7)))) rfl rfl rfl (fun _ hw => hw) ?_
      clear hx35
      obtain ⟨x36, hx36, H⟩ := Let_elim H
      refine z_still (v := U64 x36) (by subst hx36; exact val_bin rfl rfl rfl rfl (u64_xor _ _ _)) rfl rfl rfl (fun _ hw => hw) ?_
      clear hx36
      refine z_still (v := .int .i64 x15) (val_move rfl rfl) rfl rfl rfl (fun _ hw => hw) ?_
      obtain ⟨x38, hx38, H⟩ := Let_elim H
      refine z_still (v := .int .i64 x38) (by subst hx38; exact val_bin rfl rfl rfl rfl (i64_add _ _ _)) rfl rfl rfl (fun _ hw => hw) ?_
      clear hx38
      obtain ⟨hq_8, H⟩ := Chk_elim H
      refine z_still (v := .pointer (some ⟨g_1, x38.toNat, none⟩)) (val_idx0 rfl rfl rfl Tryd.underlying115 sz24 hq_8 rfl) rfl rfl rfl (fun _ hw => hw) ?_
      obtain ⟨x40, hx40, H⟩ := Let_elim H
      refine z_still (v := U64 x40) (by subst hx40; exact val_load1 rfl rfl Tryd.underlying24 rfl (fun _ hw => hw.cell (j := 2) rfl (cV_at _ (idx_lt hq_8)))) rfl rfl rfl (fun _ hw => hw) ?_
      clear hx40
      obtain ⟨x41, hx41, H⟩ := Let_elim H
      refine z_still (v := U64 x41) (by subst hx41; exact val_bin rfl rfl rfl rfl (u64_xor _ _ _)) rfl rfl rfl (fun _ hw => hw) ?_
      clear hx41
      obtain ⟨hq_9, H⟩ := Chk_elim H
      refine z_still (v := .pointer (some ⟨g_3, x15.toNat, none⟩)) (val_idx0 rfl rfl rfl Tryd.underlying161 sz24 hq_9 rfl) rfl rfl rfl (fun _ hw => hw) ?_
      obtain ⟨y_3_10, hy_3_10, H⟩ := Let_elim H
      refine z_store1 (j := 0) (cs' := cV U64 y_3_10) (L' := [.blk g_3 161 (cV U64 y_3_10) 5, .blk g_2 115 (cV U64 (Vec.rep 25 0#64)) 25, .blk g_1 115 (cV U64 a0) 25]) rfl rfl rfl rfl rfl sz24 rfl (by rw [cV_len]; exact (idx_lt hq_9)) (by subst hy_3_10; exact cV_set (f := U64) _ _ x41) rfl rfl rfl (fun hb => absurd hb (by decide)) ?_
      clear hy_3_10
      refine z_nil ?_
      refine t_fin ?_
      refine t_region (fun ops hops => ?_)
      clear hops
      obtain ⟨x43, hx43, H⟩ := Let_elim H
      refine z_val (v := .int .i64 x43) (by subst hx43; exact val_bin rfl rfl rfl rfl (i64_add _ _ _)) rfl rfl rfl (fun _ _ _ => trivial) ?_
      clear hx43
      refine z_val (v := .int .i64 x43) (val_move rfl rfl) rfl rfl rfl (fun _ _ _ => trivial) ?_
      refine z_nil ?_
      obtain rfl := Option.some.inj H
      exact t_reach ((hn1 _ () rfl trivial).weak (fun a ha => ha.cons rfl (ha.cons rfl (ha.cons rfl (ha.cons rfl (ha.nil))))) (fun w hw => hw))
  ·
    obtain ⟨y_3, x15⟩ := s
    subst hzz
    have H := HK1
    clear HK1 hz1
    replace H := sum_l H
    try dsimp only at H
    change T 126 _ _ _
    refine t_seq ?_
    refine t_seq ?_
    refine t_region (fun ops hops => ?_)
    clear hops
    refine z_val (v := .int .i64 0) (val_move rfl rfl) rfl rfl rfl (fun _ _ _ => trivial) ?_
    refine z_nil ?_
    refine t_block ?_
    obtain ⟨z1, hz1, HK1⟩ := Option.bind_eq_some_iff.1 H
    clear H
    refine t_while hz1 (fun (s : (Vec (BitVec 64) 25) × (Int)) (g : Unit) => [(1, .pointer (some ⟨g_1, 0, none⟩)), (2, .pointer (some ⟨g_2, 0, none⟩)), (3, .pointer (some ⟨g_3, 0, none⟩)), (44, .int .i64 s.2)]) (fun (s : (Vec (BitVec 64) 25) × (Int)) (g : Unit) => [(1, .pointer (some ⟨g_1, 0, none⟩)), (2, .pointer (some ⟨g_2, 0, none⟩))]) (fun (s : (Vec (BitVec 64) 25) × (Int)) (g : Unit) => Mm w [] h [.blk g_3 161 (cV U64 y_3) 5, .blk g_2 115 (cV U64 (Vec.rep 25 0#64)) 25, .blk g_1 115 (cV U64 s.1) 25]) (fun (s : (Vec (BitVec 64) 25) × (Int)) (g : Unit) => Mm w [] h [.blk g_2 115 (cV U64 (Vec.rep 25 0#64)) 25, .blk g_1 115 (cV U64 s.1) 25]) (fun (s : (Vec (BitVec 64) 25) × (Int)) (g : Unit) => True) (fun (s : (Vec (BitVec 64) 25) × (Int)) (g : Unit) => True) () trivial (fun a w ha hw => ⟨ha.cons rfl (ha.cons rfl (ha.cons rfl (ha.cons rfl (ha.nil)))), hw⟩) (fun Gn Gb s g e hφ H hn1 hb1 hr1 => ?_) (fun s g hzz hφ => ?_)
    ·
      obtain ⟨y_1, x44⟩ := s
      change keccak_round.b2 y_3 y_1 x44 = some e at H
      unfold keccak_round.b2 at H
      clear hz1
      change T 126 _ _ _
      refine t_seq ?_
      refine t_region (fun ops hops => ?_)
      clear hops
      obtain ⟨x45, hx45, H⟩ := Let_elim H
      refine z_val (v := .bool x45) (by subst hx45; exact val_bin rfl rfl rfl rfl (i64_lss _ _ _)) rfl rfl rfl (fun _ _ _ => trivial) ?_
      clear hx45
      refine z_nil ?_
      refine t_seq ?_
      cases x45
      ·
        replace H := cond_f H
        refine t_cond_false rfl ?_
        refine t_exit rfl ?_
        obtain rfl := Option.some.inj H
        exact t_reach ((hb1 _ () rfl trivial).weak (fun a ha => ha.cons rfl (ha.cons rfl (ha.nil))) (fun w hw => hw.sel [1, 2] rfl rfl))
      ·
        replace H := cond_t H
        refine t_cond_true rfl ?_
        refine t_skip ?_
        refine t_seq ?_
        refine t_block ?_
        refine t_seq ?_
        refine t_region (fun ops hops => ?_)
        clear hops
        refine z_val (v := .int .i64 x44) (val_move rfl rfl) rfl rfl rfl (fun _ _ _ => trivial) ?_
        refine z_val (v := .int .i64 x44) (val_assign rfl rfl) rfl rfl rfl (fun _ _ _ => trivial) ?_
        refine z_nil ?_
        refine t_seq ?_
        refine t_plan (C := Mm w [] h [.blk g_3 161 (cV U64 y_3) 5, .blk g_2 115 (cV U64 (Vec.rep 25 0#64)) 25, .blk g_1 115 (cV U64 y_1) 25]) [] [(0, true), (1, true), (2, true), (3, true), (4, true), (5, true), (6, true), (7, true), (8, true), (9, true), (10, false), (11, true), (12, true)] (by kernel_rfl) (by kernel_rfl) (fun _ hw => hw.drew) (fun ops hops => ?_)
        clear hops
        refine z_still (v := .int .i64 x44) (val_move rfl rfl) rfl rfl rfl (fun _ hw => hw) ?_
        obtain ⟨x48, hx48, H⟩ := Let_elim H
        refine z_still (v := .int .i64 x48) (by subst hx48; exact val_bin rfl rfl rfl rfl (i64_add _ _ _)) rfl rfl rfl (fun _ hw => hw) ?_
        clear hx48
        obtain ⟨x49, hx49, H⟩ := Let_elim H
        refine z_still (v := .int .i64 x49) (by subst hx49; exact val_bin rfl rfl rfl rfl (i64_rem _ _ _ (by decide))) rfl rfl rfl (fun _ hw => hw) ?_
        clear hx49
        obtain ⟨hq_11, H⟩ := Chk_elim H
        refine z_still (v := .pointer (some ⟨g_3, x49.toNat, none⟩)) (val_idx0 rfl rfl rfl Tryd.underlying161 sz24 hq_11 rfl) rfl rfl rfl (fun _ hw => hw) ?_
        obtain ⟨x51, hx51, H⟩ := Let_elim H
        refine z_still (v := U64 x51) (by subst hx51; exact val_load1 rfl rfl Tryd.underlying24 rfl (fun _ hw => hw.cell (j := 0) rfl (cV_at _ (idx_lt hq_11)))) rfl rfl rfl (fun _ hw => hw) ?_
        clear hx51
        refine z_still (v := .int .i64 x44) (val_move rfl rfl) rfl rfl rfl (fun _ hw => hw) ?_
        obtain ⟨x53, hx53, H⟩ := Let_elim H
        refine z_still (v := .int .i64 x53) (by subst hx53; exact val_bin rfl rfl rfl rfl (i64_add _ _ _)) rfl rfl rfl (fun _ hw => hw) ?_
        clear hx53
        obtain ⟨x54, hx54, H⟩ := Let_elim H
        refine z_still (v := .int .i64 x54) (by subst hx54; exact val_bin rfl rfl rfl rfl (i64_rem _ _ _ (by decide))) rfl rfl rfl (fun _ hw => hw) ?_
        clear hx54
        obtain ⟨hq_12, H⟩ := Chk_elim H
        refine z_still (v := .pointer (some ⟨g_3, x54.toNat, none⟩)) (val_idx0 rfl rfl rfl Tryd.underlying161 sz24 hq_12 rfl) rfl rfl rfl (fun _ hw => hw) ?_
        obtain ⟨x56, hx56, H⟩ := Let_elim H
        refine z_still (v := U64 x56) (by subst hx56; exact val_load1 rfl rfl Tryd.underlying24 rfl (fun _ hw => hw.cell (j := 0) rfl (cV_at _ (idx_lt hq_12)))) rfl rfl rfl (fun _ hw => hw) ?_
        clear hx56
        obtain ⟨x57, hx, H⟩ := Option.bind_eq_some_iff.1 H
        refine z_made (v := U64 x57) rfl Tryd.func137 nm137 bs137 rfl (fun w hw => bits_RotateLeft64.calls x56 1 x57 hx w) rfl rfl rfl (fun _ _ hw => hw) ?_
        clear hx
        obtain ⟨x58, hx58, H⟩ := Let_elim H
        refine z_still (v := U64 x58) (by subst hx58; exact val_bin rfl rfl rfl rfl (u64_xor _ _ _)) rfl rfl rfl (fun _ hw => hw) ?_
        clear hx58
        refine z_still (v := U64 x58) (val_assign rfl rfl) rfl rfl rfl (fun _ hw => hw) ?_
        refine z_nil ?_
        refine t_seq ?_
        refine t_region (fun ops hops => ?_)
        clear hops
        refine z_val (v := .int .i64 0) (val_assign rfl rfl) rfl rfl rfl (fun _ _ _ => trivial) ?_
        refine z_nil ?_
        refine t_block ?_
        obtain ⟨z2, hz2, HK2⟩ := Option.bind_eq_some_iff.1 H
        clear H
        refine t_while hz2 (fun (s : (Vec (BitVec 64) 25) × (Int)) (g : Unit) => [(1, .pointer (some ⟨g_1, 0, none⟩)), (2, .pointer (some ⟨g_2, 0, none⟩)), (3, .pointer (some ⟨g_3, 0, none⟩)), (5, .int .i64 x44), (6, U64 x58), (7, .int .i64 s.2), (44, .int .i64 x44)]) (fun (s : (Vec (BitVec 64) 25) × (Int)) (g : Unit) => [(1, .pointer (some ⟨g_1, 0, none⟩)), (2, .pointer (some ⟨g_2, 0, none⟩)), (3, .pointer (some ⟨g_3, 0, none⟩)), (44, .int .i64 x44)]) (fun (s : (Vec (BitVec 64) 25) × (Int)) (g : Unit) => Mm w [] h [.blk g_3 161 (cV U64 y_3) 5, .blk g_2 115 (cV U64 (Vec.rep 25 0#64)) 25, .blk g_1 115 (cV U64 s.1) 25]) (fun (s : (Vec (BitVec 64) 25) × (Int)) (g : Unit) => Mm w [] h [.blk g_3 161 (cV U64 y_3) 5, .blk g_2 115 (cV U64 (Vec.rep 25 0#64)) 25, .blk g_1 115 (cV U64 s.1) 25]) (fun (s : (Vec (BitVec 64) 25) × (Int)) (g : Unit) => True) (fun (s : (Vec (BitVec 64) 25) × (Int)) (g : Unit) => True) () trivial (fun a w ha hw => ⟨ha.cons rfl (ha.cons rfl (ha.cons rfl (ha.cons rfl (ha.cons rfl (ha.cons rfl (ha.cons rfl (ha.nil))))))), hw⟩) (fun Gn Gb s g e hφ H hn2 hb2 hr2 => ?_) (fun s g hzz hφ => ?_)
        ·
          obtain ⟨y_1_13, x7⟩ := s
          change keccak_round.b3 x44 x58 y_1_13 x7 = some e at H
          unfold keccak_round.b3 at H
          clear hz2
          change T 126 _ _ _
          refine t_seq ?_
          refine t_seq ?_
          refine t_region (fun ops hops => ?_)
          clear hops
          refine z_val (v := .int .i64 x7) (val_move rfl rfl) rfl rfl rfl (fun _ _ _ => trivial) ?_
          obtain ⟨x60, hx60, H⟩ := Let_elim H
          refine z_val (v := .bool x60) (by subst hx60; exact val_bin rfl rfl rfl rfl (i64_lss _ _ _)) rfl rfl rfl (fun _ _ _ => trivial) ?_
          clear hx60
          refine z_nil ?_
          cases x60
          ·
            replace H := cond_f H
            refine t_cond_false rfl ?_
            refine t_exit rfl ?_
            obtain rfl := Option.some.inj H
            exact t_reach ((hb2 _ () rfl trivial).weak (fun a ha => ha.cons rfl (ha.cons rfl (ha.cons rfl (ha.cons rfl (ha.nil))))) (fun w hw => hw))
          ·
            replace H := cond_t H
            refine t_cond_true rfl ?_
            refine t_skip ?_
            refine t_seq ?_
            refine t_block ?_
            refine t_region (fun ops hops => ?_)
            clear hops
            refine z_val (v := .int .i64 x44) (val_move rfl rfl) rfl rfl rfl (fun _ _ _ => trivial) ?_
            refine z_val (v := .int .i64 x7) (val_move rfl rfl) rfl rfl rfl (fun _ _ _ => trivial) ?_
            obtain ⟨x65, hx65, H⟩ := Let_elim H
            refine z_val (v := .int .i64 x65) (by subst hx65; exact val_bin rfl rfl rfl rfl (i64_add _ _ _)) rfl rfl rfl (fun _ _ _ => trivial) ?_
            clear hx65
            obtain ⟨hq_14, H⟩ := Chk_elim H
            refine z_val (v := .pointer (some ⟨g_1, x65.toNat, none⟩)) (val_idx0 rfl rfl rfl Tryd.underlying115 sz24 hq_14 rfl) rfl rfl rfl (fun _ _ _ => trivial) ?_
            obtain ⟨x67, hx67, H⟩ := Let_elim H
            refine z_val (v := U64 x67) (by subst hx67; exact val_load1 rfl rfl Tryd.underlying24 rfl (fun _ hw => hw.cell (j := 2) rfl (cV_at _ (idx_lt hq_14)))) rfl rfl rfl (fun _ _ _ => trivial) ?_
            clear hx67
            refine z_val (v := U64 x58) (val_move rfl rfl) rfl rfl rfl (fun _ _ _ => trivial) ?_
            obtain ⟨x69, hx69, H⟩ := Let_elim H
            refine z_val (v := U64 x69) (by subst hx69; exact val_bin rfl rfl rfl rfl (u64_xor _ _ _)) rfl rfl rfl (fun _ _ _ => trivial) ?_
            clear hx69
            obtain ⟨hq_15, H⟩ := Chk_elim H
            refine z_val (v := .pointer (some ⟨g_1, x65.toNat, none⟩)) (val_idx0 rfl rfl rfl Tryd.underlying115 sz24 hq_15 rfl) rfl rfl rfl (fun _ _ _ => trivial) ?_
            obtain ⟨y_1_16, hy_1_16, H⟩ := Let_elim H
            refine z_store1 (j := 2) (cs' := cV U64 y_1_16) (L' := [.blk g_3 161 (cV U64 y_3) 5, .blk g_2 115 (cV U64 (Vec.rep 25 0#64)) 25, .blk g_1 115 (cV U64 y_1_16) 25]) rfl rfl rfl rfl rfl sz24 rfl (by rw [cV_len]; exact (idx_lt hq_15)) (by subst hy_1_16; exact cV_set (f := U64) _ _ x69) rfl rfl rfl (fun _ _ _ => trivial) ?_
            clear hy_1_16
            refine z_nil ?_
            refine t_fin ?_
            refine t_region (fun ops hops => ?_)
            clear hops
            refine z_val (v := .int .i64 x7) (val_move rfl rfl) rfl rfl rfl (fun _ _ _ => trivial) ?_
            obtain ⟨x62, hx62, H⟩ := Let_elim H
            refine z_val (v := .int .i64 x62) (by subst hx62; exact val_bin rfl rfl rfl rfl (i64_add _ _ _)) rfl rfl rfl (fun _ _ _ => trivial) ?_
            clear hx62
            refine z_val (v := .int .i64 x62) (val_assign rfl rfl) rfl rfl rfl (fun _ _ _ => trivial) ?_
            refine z_nil ?_
            obtain rfl := Option.some.inj H
            exact t_reach ((hn2 _ () rfl trivial).weak (fun a ha => ha.cons rfl (ha.cons rfl (ha.cons rfl (ha.cons rfl (ha.cons rfl (ha.cons rfl (ha.cons rfl (ha.nil)))))))) (fun w hw => hw))
        ·
          obtain ⟨y_1_13, x7⟩ := s
          subst hzz
          have H := HK2
          clear HK2 hz2
          replace H := sum_l H
          try dsimp only at H
          change T 126 _ _ _
          refine t_fin ?_
          refine t_region (fun ops hops => ?_)
          clear hops
          obtain ⟨x71, hx71, H⟩ := Let_elim H
          refine z_val (v := .int .i64 x71) (by subst hx71; exact val_bin rfl rfl rfl rfl (i64_add _ _ _)) rfl rfl rfl (fun _ _ _ => trivial) ?_
          clear hx71
          refine z_val (v := .int .i64 x71) (val_move rfl rfl) rfl rfl rfl (fun _ _ _ => trivial) ?_
          refine z_nil ?_
          obtain rfl := Option.some.inj H
          exact t_reach ((hn1 _ () rfl trivial).weak (fun a ha => ha.cons rfl (ha.cons rfl (ha.cons rfl (ha.cons rfl (ha.nil))))) (fun w hw => hw))
    ·
      obtain ⟨y_1, x44⟩ := s
      subst hzz
      have H := HK1
      clear HK1 hz1
      replace H := sum_l H
      try dsimp only at H
      change T 126 _ _ _
      refine t_seq ?_
      refine t_region (fun ops hops => ?_)
      clear hops
      refine z_val (v := .pointer (some ⟨g_1, 1, none⟩)) (val_idx0 rfl rfl rfl Tryd.underlying115 sz24 (by decide) rfl) rfl rfl rfl (fun _ _ _ => trivial) ?_
      obtain ⟨x73, hx73, H⟩ := Let_elim H
      refine z_val (v := U64 x73) (by subst hx73; exact val_load1 rfl rfl Tryd.underlying24 rfl (fun _ hw => hw.cell (j := 1) rfl (cV_at _ (by decide)))) rfl rfl rfl (fun _ _ _ => trivial) ?_
      clear hx73
      refine z_val (v := U64 x73) (val_assign rfl rfl) rfl rfl rfl (fun _ _ _ => trivial) ?_
      refine z_nil ?_
      refine t_seq ?_
      refine t_seq ?_
      refine t_region (fun ops hops => ?_)
      clear hops
      refine z_val (v := .agg (cV (Value.int .i64) T2).toArray) (val_loadR (off := 0) (cs := cV (Value.int .i64) T2) rfl rfl Tryd.underlying166 rfl (sz166.trans (congrArg some (cV_len _).symm)) (fun _ hw => tab_range hT2 hw)) rfl rfl rfl (fun _ _ _ => trivial) ?_
      refine z_val (v := .int .i64 0) (val_move rfl rfl) rfl rfl rfl (fun _ _ _ => trivial) ?_
      refine z_nil ?_
      refine t_block ?_
      obtain ⟨z1, hz1, HK1⟩ := Option.bind_eq_some_iff.1 H
      clear H
      refine t_while hz1 (fun (s : (Vec (BitVec 64) 25) × (BitVec 64) × (Int)) (g : Unit) => [(1, .pointer (some ⟨g_1, 0, none⟩)), (2, .pointer (some ⟨g_2, 0, none⟩)), (8, U64 s.2.1), (74, .agg (cV (Value.int .i64) T2).toArray), (75, .int .i64 s.2.2)]) (fun (s : (Vec (BitVec 64) 25) × (BitVec 64) × (Int)) (g : Unit) => [(1, .pointer (some ⟨g_1, 0, none⟩)), (2, .pointer (some ⟨g_2, 0, none⟩))]) (fun (s : (Vec (BitVec 64) 25) × (BitVec 64) × (Int)) (g : Unit) => Mm w [] h [.blk g_2 115 (cV U64 (Vec.rep 25 0#64)) 25, .blk g_1 115 (cV U64 s.1) 25]) (fun (s : (Vec (BitVec 64) 25) × (BitVec 64) × (Int)) (g : Unit) => Mm w [] h [.blk g_2 115 (cV U64 (Vec.rep 25 0#64)) 25, .blk g_1 115 (cV U64 s.1) 25]) (fun (s : (Vec (BitVec 64) 25) × (BitVec 64) × (Int)) (g : Unit) => True) (fun (s : (Vec (BitVec 64) 25) × (BitVec 64) × (Int)) (g : Unit) => True) () trivial (fun a w ha hw => ⟨ha.cons rfl (ha.cons rfl (ha.cons rfl (ha.cons rfl (ha.cons rfl (ha.nil))))), hw⟩) (fun Gn Gb s g e hφ H hn1 hb1 hr1 => ?_) (fun s g hzz hφ => ?_)
      ·
        obtain ⟨y_1_17, x8, x75⟩ := s
        change keccak_round.b4 T2 T3 y_1_17 x8 x75 = some e at H
        unfold keccak_round.b4 at H
        clear hz1
        change T 126 _ _ _
        refine t_seq ?_
        refine t_region (fun ops hops => ?_)
        clear hops
        obtain ⟨x76, hx76, H⟩ := Let_elim H
        refine z_val (v := .bool x76) (by subst hx76; exact val_bin rfl rfl rfl rfl (i64_lss _ _ _)) rfl rfl rfl (fun _ _ _ => trivial) ?_
        clear hx76
        refine z_nil ?_
        refine t_seq ?_
        cases x76
        ·
          replace H := cond_f H
          refine t_cond_false rfl ?_
          refine t_exit rfl ?_
          obtain rfl := Option.some.inj H
          exact t_reach ((hb1 _ () rfl trivial).weak (fun a ha => ha.cons rfl (ha.cons rfl (ha.nil))) (fun w hw => hw))
        ·
          replace H := cond_t H
          refine t_cond_true rfl ?_
          refine t_skip ?_
          refine t_seq ?_
          refine t_block ?_
          refine t_seq ?_
          refine t_region (fun ops hops => ?_)
          clear hops
          refine z_val (v := .int .i64 x75) (val_move rfl rfl) rfl rfl rfl (fun _ _ _ => trivial) ?_
          obtain ⟨hq_18, H⟩ := Chk_elim H
          obtain ⟨x78, hx78, H⟩ := Let_elim H
          refine z_val (v := .int .i64 x78) (by subst hx78; exact val_index rfl rfl rfl Tryd.underlying166 Tryd.underlying3 rfl sz3 hq_18 (cVa_at _ (idx_lt hq_18))) rfl rfl rfl (fun _ _ _ => trivial) ?_
          clear hx78
          refine z_val (v := .int .i64 x75) (val_assign rfl rfl) rfl rfl rfl (fun _ _ _ => trivial) ?_
          refine z_val (v := .int .i64 x78) (val_assign rfl rfl) rfl rfl rfl (fun _ _ _ => trivial) ?_
          refine z_nil ?_
          refine t_seq ?_
          refine t_region (fun ops hops => ?_)
          clear hops
          refine z_val (v := .int .i64 x78) (val_move rfl rfl) rfl rfl rfl (fun _ _ _ => trivial) ?_
          obtain ⟨hq_19, H⟩ := Chk_elim H
          refine z_val (v := .pointer (some ⟨g_1, x78.toNat, none⟩)) (val_idx0 rfl rfl rfl Tryd.underlying115 sz24 hq_19 rfl) rfl rfl rfl (fun _ _ _ => trivial) ?_
          obtain ⟨x81, hx81, H⟩ := Let_elim H
          refine z_val (v := U64 x81) (by subst hx81; exact val_load1 rfl rfl Tryd.underlying24 rfl (fun _ hw => hw.cell (j := 1) rfl (cV_at _ (idx_lt hq_19)))) rfl rfl rfl (fun _ _ _ => trivial) ?_
          clear hx81
          refine z_val (v := U64 x81) (val_assign rfl rfl) rfl rfl rfl (fun _ _ _ => trivial) ?_
          refine z_nil ?_
          refine t_seq ?_
          refine t_region (fun ops hops => ?_)
          clear hops
          refine z_val (v := .int .i64 x78) (val_move rfl rfl) rfl rfl rfl (fun _ _ _ => trivial) ?_
          refine z_val (v := U64 x8) (val_move rfl rfl) rfl rfl rfl (fun _ _ _ => trivial) ?_
          refine z_val (v := .int .i64 x75) (val_move rfl rfl) rfl rfl rfl (fun _ _ _ => trivial) ?_
          obtain ⟨hq_20, H⟩ := Chk_elim H
          refine z_val (v := .pointer (some ⟨3, x75.toNat, none⟩)) (val_idx0 rfl rfl rfl Tryd.underlying166 sz3 hq_20 rfl) rfl rfl rfl (fun _ _ _ => trivial) ?_
          obtain ⟨x86, hx86, H⟩ := Let_elim H
          refine z_val (v := .int .i64 x86) (by subst hx86; exact val_load1 rfl rfl Tryd.underlying3 rfl (fun _ hw => tab_cell hT3 hw (idx_lt hq_20))) rfl rfl rfl (fun _ _ _ => trivial) ?_
          clear hx86
          obtain ⟨x87, hx_21, H⟩ := Option.bind_eq_some_iff.1 H
          refine z_made (v := U64 x87) rfl Tryd.func137 nm137 bs137 rfl (fun w hw => bits_RotateLeft64.calls x8 x86 x87 hx_21 w) rfl rfl rfl (fun _ _ _ => trivial) ?_
          clear hx_21
          obtain ⟨hq_22, H⟩ := Chk_elim H
          refine z_val (v := .pointer (some ⟨g_1, x78.toNat, none⟩)) (val_idx0 rfl rfl rfl Tryd.underlying115 sz24 hq_22 rfl) rfl rfl rfl (fun _ _ _ => trivial) ?_
          obtain ⟨y_1_23, hy_1_23, H⟩ := Let_elim H
          refine z_store1 (j := 1) (cs' := cV U64 y_1_23) (L' := [.blk g_2 115 (cV U64 (Vec.rep 25 0#64)) 25, .blk g_1 115 (cV U64 y_1_23) 25]) rfl rfl rfl rfl rfl sz24 rfl (by rw [cV_len]; exact (idx_lt hq_22)) (by subst hy_1_23; exact cV_set (f := U64) _ _ x87) rfl rfl rfl (fun _ _ _ => trivial) ?_
          clear hy_1_23
          refine z_nil ?_
          refine t_region (fun ops hops => ?_)
          clear hops
          refine z_val (v := U64 x81) (val_move rfl rfl) rfl rfl rfl (fun _ _ _ => trivial) ?_
          refine z_val (v := U64 x81) (val_assign rfl rfl) rfl rfl rfl (fun _ _ _ => trivial) ?_
          refine z_nil ?_
          refine t_fin ?_
          refine t_region (fun ops hops => ?_)
          clear hops
          obtain ⟨x90, hx90, H⟩ := Let_elim H
          refine z_val (v := .int .i64 x90) (by subst hx90; exact val_bin rfl rfl rfl rfl (i64_add _ _ _)) rfl rfl rfl (fun _ _ _ => trivial) ?_
          clear hx90
          refine z_val (v := .int .i64 x90) (val_move rfl rfl) rfl rfl rfl (fun _ _ _ => trivial) ?_
          refine z_nil ?_
          obtain rfl := Option.some.inj H
          exact t_reach ((hn1 _ () rfl trivial).weak (fun a ha => ha.cons rfl (ha.cons rfl (ha.cons rfl (ha.cons rfl (ha.cons rfl (ha.nil)))))) (fun w hw => hw))
      ·
        obtain ⟨y_1_17, x8, x75⟩ := s
        subst hzz
        have H := HK1
        clear HK1 hz1
        replace H := sum_l H
        try dsimp only at H
        change T 126 _ _ _
        refine t_seq ?_
        refine t_seq ?_
        refine t_region (fun ops hops => ?_)
        clear hops
        refine z_val (v := .int .i64 0) (val_assign rfl rfl) rfl rfl rfl (fun _ _ _ => trivial) ?_
        refine z_nil ?_
        refine t_block ?_
        obtain ⟨z1, hz1, HK1⟩ := Option.bind_eq_some_iff.1 H
        clear H
        refine t_while hz1 (fun (s : (Vec (BitVec 64) 25) × (Int)) (g : Unit) => [(1, .pointer (some ⟨g_1, 0, none⟩)), (2, .pointer (some ⟨g_2, 0, none⟩)), (12, .int .i64 s.2)]) (fun (s : (Vec (BitVec 64) 25) × (Int)) (g : Unit) => [(1, .pointer (some ⟨g_1, 0, none⟩)), (2, .pointer (some ⟨g_2, 0, none⟩))]) (fun (s : (Vec (BitVec 64) 25) × (Int)) (g : Unit) => Mm w [] h [.blk g_2 115 (cV U64 (Vec.rep 25 0#64)) 25, .blk g_1 115 (cV U64 s.1) 25]) (fun (s : (Vec (BitVec 64) 25) × (Int)) (g : Unit) => Mm w [] h [.blk g_2 115 (cV U64 (Vec.rep 25 0#64)) 25, .blk g_1 115 (cV U64 s.1) 25]) (fun (s : (Vec (BitVec 64) 25) × (Int)) (g : Unit) => True) (fun (s : (Vec (BitVec 64) 25) × (Int)) (g : Unit) => True) () trivial (fun a w ha hw => ⟨ha.cons rfl (ha.cons rfl (ha.cons rfl (ha.nil))), hw⟩) (fun Gn Gb s g e hφ H hn1 hb1 hr1 => ?_) (fun s g hzz hφ => ?_)
        ·
          obtain ⟨y_1_24, x12⟩ := s
          change keccak_round.b5 y_1_24 x12 = some e at H
          unfold keccak_round.b5 at H
          clear hz1
          change T 126 _ _ _
          refine t_seq ?_
          refine t_seq ?_
          refine t_region (fun ops hops => ?_)
          clear hops
          refine z_val (v := .int .i64 x12) (val_move rfl rfl) rfl rfl rfl (fun _ _ _ => trivial) ?_
          obtain ⟨x92, hx92, H⟩ := Let_elim H
          refine z_val (v := .bool x92) (by subst hx92; exact val_bin rfl rfl rfl rfl (i64_lss _ _ _)) rfl rfl rfl (fun _ _ _ => trivial) ?_
          clear hx92
          refine z_nil ?_
          cases x92
          ·
            replace H := cond_f H
            refine t_cond_false rfl ?_
            refine t_exit rfl ?_
            obtain rfl := Option.some.inj H
            exact t_reach ((hb1 _ () rfl trivial).weak (fun a ha => ha.cons rfl (ha.cons rfl (ha.nil))) (fun w hw => hw))
          ·
            replace H := cond_t H
            refine t_cond_true rfl ?_
            refine t_skip ?_
            refine t_seq ?_
            refine t_block ?_
            refine t_seq ?_
            refine t_region (fun ops hops => ?_)
            clear hops
            refine z_val (v := .int .i64 x12) (val_move rfl rfl) rfl rfl rfl (fun _ _ _ => trivial) ?_
            refine z_val (v := .int .i64 x12) (val_move rfl rfl) rfl rfl rfl (fun _ _ _ => trivial) ?_
            obtain ⟨x97, hx97, H⟩ := Let_elim H
            refine z_val (v := .int .i64 x97) (by subst hx97; exact val_bin rfl rfl rfl rfl (i64_add _ _ _)) rfl rfl rfl (fun _ _ _ => trivial) ?_
            clear hx97
            obtain ⟨hq_25, H⟩ := Chk_elim H
            obtain ⟨x98, hx98, H⟩ := Let_elim H
            have hln : x12.toNat ≤ x97.toNat ∧ x97.toNat ≤ 25 := by omega
            have hl : x98.length = x97.toNat - x12.toNat := by subst hx98; exact sla_len _ hln.2
            obtain ⟨q_26, hq_27⟩ : ∃ z, z = (if 25 = x12.toNat then 0 else x12.toNat) := ⟨_, rfl⟩
            obtain ⟨c_28, hc_290⟩ : ∃ z, z = 25 - x12.toNat := ⟨_, rfl⟩
            have hc_29 : x98.length ≤ c_28 := by omega
            refine z_val (v := .slice (some ⟨g_1, q_26, none⟩) x98.length c_28) (val_sliceA (l := x12.toNat) (k := x97.toNat) rfl rfl Tryd.underlying115 sz24 (.inr ⟨_, rfl, _, _, rfl, (by omega)⟩) (.inr ⟨_, rfl, _, _, rfl, (by omega)⟩) hln.1 hln.2 (by rw [hl, hq_27, hc_290]; first | rfl | (congr 2; split <;> simp))) rfl rfl rfl (fun _ _ _ => trivial) ?_
            obtain ⟨hq_30, H⟩ := Chk_elim H
            have hq_31 : q_26 = x12.toNat := by rw [hq_27]; split <;> omega
            have hl_32 : x12.toNat + 5 ≤ 25 := by omega
            refine z_val (v := .pointer (some ⟨g_1, q_26, none⟩)) (val_s2a rfl rfl Tryd.underlying161 hq_30) rfl rfl rfl (fun _ _ _ => trivial) ?_
            obtain ⟨x100, hx100, H⟩ := Let_elim H
            refine z_val (v := .agg (cV U64 x100).toArray) (by subst hx100; exact val_loadR (off := q_26) (cs := cV U64 (y_1_24.part x12.toNat 5)) rfl rfl Tryd.underlying161 rfl (sz161.trans (congrArg some (cV_len _).symm)) (fun _ hw => by rw [hq_31]; exact hw.part_ (j := 1) rfl hl_32)) rfl rfl rfl (fun _ _ _ => trivial) ?_
            clear hx100
            refine z_alloc (cs := cV U64 (Vec.rep 5 0#64)) (room := 5) rfl ze161 rfl (cV_len _) rfl rfl rfl (fun _ _ _ _ => trivial) (fun g_33 => ?_)
            refine z_storeA (j := 0) (cs' := cV U64 x100) (L' := [.blk g_33 161 (cV U64 x100) 5, .blk g_2 115 (cV U64 (Vec.rep 25 0#64)) 25, .blk g_1 115 (cV U64 y_1_24) 25]) rfl rfl rfl (cV_one (fun _ => rfl) _) sz161 rfl (cV_len _) rfl rfl rfl (fun _ _ _ => trivial) ?_
            refine z_nil ?_
            refine t_seq ?_
            refine t_region (fun ops hops => ?_)
            clear hops
            refine z_val (v := .int .i64 0) (val_move rfl rfl) rfl rfl rfl (fun _ _ _ => trivial) ?_
            refine z_nil ?_
            refine t_block ?_
            obtain ⟨z2, hz2, HK2⟩ := Option.bind_eq_some_iff.1 H
            clear H
            refine t_while hz2 (fun (s : (Vec (BitVec 64) 25) × (Int)) (g : Unit) => [(1, .pointer (some ⟨g_1, 0, none⟩)), (2, .pointer (some ⟨g_2, 0, none⟩)), (12, .int .i64 x12), (13, .pointer (some ⟨g_33, 0, none⟩)), (101, .int .i64 s.2)]) (fun (s : (Vec (BitVec 64) 25) × (Int)) (g : Unit) => [(1, .pointer (some ⟨g_1, 0, none⟩)), (2, .pointer (some ⟨g_2, 0, none⟩)), (12, .int .i64 x12)]) (fun (s : (Vec (BitVec 64) 25) × (Int)) (g : Unit) => Mm w [] h [.blk g_33 161 (cV U64 x100) 5, .blk g_2 115 (cV U64 (Vec.rep 25 0#64)) 25, .blk g_1 115 (cV U64 s.1) 25]) (fun (s : (Vec (BitVec 64) 25) × (Int)) (g : Unit) => Mm w [] h [.blk g_2 115 (cV U64 (Vec.rep 25 0#64)) 25, .blk g_1 115 (cV U64 s.1) 25]) (fun (s : (Vec (BitVec 64) 25) × (Int)) (g : Unit) => True) (fun (s : (Vec (BitVec 64) 25) × (Int)) (g : Unit) => True) () trivial (fun a w ha hw => ⟨ha.cons rfl (ha.cons rfl (ha.cons rfl (ha.cons rfl (ha.cons rfl (ha.nil))))), hw⟩) (fun Gn Gb s g e hφ H hn2 hb2 hr2 => ?_) (fun s g hzz hφ => ?_)
            ·
              obtain ⟨y_1_34, x101⟩ := s
              change keccak_round.b6 x12 x100 y_1_34 x101 = some e at H
              unfold keccak_round.b6 at H
              clear hz2
              change T 126 _ _ _
              refine t_seq ?_
              refine t_region (fun ops hops => ?_)
              clear hops
              obtain ⟨x102, hx102, H⟩ := Let_elim H
              refine z_val (v := .bool x102) (by subst hx102; exact val_bin rfl rfl rfl rfl (i64_lss _ _ _)) rfl rfl rfl (fun _ _ _ => trivial) ?_
              clear hx102
              refine z_nil ?_
              refine t_seq ?_
              cases x102
              ·
                replace H := cond_f H
                refine t_cond_false rfl ?_
                refine t_exit rfl ?_
                obtain rfl := Option.some.inj H
                exact t_reach ((hb2 _ () rfl trivial).weak (fun a ha => ha.cons rfl (ha.cons rfl (ha.cons rfl (ha.nil)))) (fun w hw => hw.sel [1, 2] rfl rfl))
              ·
                replace H := cond_t H
                refine t_cond_true rfl ?_
                refine t_skip ?_
                refine t_seq ?_
                refine t_block ?_
                refine t_seq ?_
                refine t_region (fun ops hops => ?_)
                clear hops
                refine z_val (v := .int .i64 x101) (val_move rfl rfl) rfl rfl rfl (fun _ _ _ => trivial) ?_
                refine z_val (v := .int .i64 x101) (val_assign rfl rfl) rfl rfl rfl (fun _ _ _ => trivial) ?_
                refine z_nil ?_
                refine t_plan (C := Mm w [] h [.blk g_33 161 (cV U64 x100) 5, .blk g_2 115 (cV U64 (Vec.rep 25 0#64)) 25, .blk g_1 115 (cV U64 y_1_34) 25]) [20] [(0, true), (1, true), (2, true), (3, true), (4, true), (5, true), (6, true), (7, true), (8, true), (9, true), (10, true), (11, true), (12, true), (13, true), (14, true), (15, true), (16, true), (17, true), (18, true), (19, true), (20, false)] (by kernel_rfl) (by kernel_rfl) (fun _ hw => hw.drew) (fun ops hops => ?_)
                clear hops
                refine z_still (v := .int .i64 x101) (val_move rfl rfl) rfl rfl rfl (fun _ hw => hw) ?_
                refine z_still (v := .int .i64 x12) (val_move rfl rfl) rfl rfl rfl (fun _ hw => hw) ?_
                obtain ⟨x106, hx106, H⟩ := Let_elim H
                refine z_still (v := .int .i64 x106) (by subst hx106; exact val_bin rfl rfl rfl rfl (i64_add _ _ _)) rfl rfl rfl (fun _ hw => hw) ?_
                clear hx106
                refine z_still (v := .int .i64 x101) (val_move rfl rfl) rfl rfl rfl (fun _ hw => hw) ?_
                obtain ⟨hq_35, H⟩ := Chk_elim H
                refine z_still (v := .pointer (some ⟨g_33, x101.toNat, none⟩)) (val_idx0 rfl rfl rfl Tryd.underlying161 sz24 hq_35 rfl) rfl rfl rfl (fun _ hw => hw) ?_
                obtain ⟨x109, hx109, H⟩ := Let_elim H
                refine z_still (v := U64 x109) (by subst hx109; exact val_load1 rfl rfl Tryd.underlying24 rfl (fun _ hw => hw.cell (j := 0) rfl (cV_at _ (idx_lt hq_35)))) rfl rfl rfl (fun _ hw => hw) ?_
                clear hx109
                refine z_still (v := .int .i64 x101) (val_move rfl rfl) rfl rfl rfl (fun _ hw => hw) ?_
                obtain ⟨x111, hx111, H⟩ := Let_elim H
                refine z_still (v := .int .i64 x111) (by subst hx111; exact val_bin rfl rfl rfl rfl (i64_add _ _ _)) rfl rfl rfl (fun _ hw => hw) ?_
                clear hx111
                obtain ⟨x112, hx112, H⟩ := Let_elim H
                refine z_still (v := .int .i64 x112) (by subst hx112; exact val_bin rfl rfl rfl rfl (i64_rem _ _ _ (by decide))) rfl rfl rfl (fun _ hw => hw) ?_
                clear hx112
                obtain ⟨hq_36, H⟩ := Chk_elim H
                refine z_still (v := .pointer (some ⟨g_33, x112.toNat, none⟩)) (val_idx0 rfl rfl rfl Tryd.underlying161 sz24 hq_36 rfl) rfl rfl rfl (fun _ hw => hw) ?_
                obtain ⟨x114, hx114, H⟩ := Let_elim H
                refine z_still (v := U64 x114) (by subst hx114; exact val_load1 rfl rfl Tryd.underlying24 rfl (fun _ hw => hw.cell (j := 0) rfl (cV_at _ (idx_lt hq_36)))) rfl rfl rfl (fun _ hw => hw) ?_
                clear hx114
                obtain ⟨x115, hx115, H⟩ := Let_elim H
                refine z_still (v := U64 x115) (by subst hx115; exact val_un rfl rfl (u64_not _)) rfl rfl rfl (fun _ hw => hw) ?_
                clear hx115
                refine z_still (v := .int .i64 x101) (val_move rfl rfl) rfl rfl rfl (fun _ hw => hw) ?_
                obtain ⟨x117, hx117, H⟩ := Let_elim H
                refine z_still (v := .int .i64 x117) (by subst hx117; exact val_bin rfl rfl rfl rfl (i64_add _ _ _)) rfl rfl rfl (fun _ hw => hw) ?_
                clear hx117
                obtain ⟨x118, hx118, H⟩ := Let_elim H
                refine z_still (v := .int .i64 x118) (by subst hx118; exact val_bin rfl rfl rfl rfl (i64_rem _ _ _ (by decide))) rfl rfl rfl (fun _ hw => hw) ?_
                clear hx118
                obtain ⟨hq_37, H⟩ := Chk_elim H
                refine z_still (v := .pointer (some ⟨g_33, x118.toNat, none⟩)) (val_idx0 rfl rfl rfl Tryd.underlying161 sz24 hq_37 rfl) rfl rfl rfl (fun _ hw => hw) ?_
                obtain ⟨x120, hx120, H⟩ := Let_elim H
                refine z_still (v := U64 x120) (by subst hx120; exact val_load1 rfl rfl Tryd.underlying24 rfl (fun _ hw => hw.cell (j := 0) rfl (cV_at _ (idx_lt hq_37)))) rfl rfl rfl (fun _ hw => hw) ?_
                clear hx120
                obtain ⟨x121, hx121, H⟩ := Let_elim H
                refine z_still (v := U64 x121) (by subst hx121; exact val_bin rfl rfl rfl rfl (u64_and _ _ _)) rfl rfl rfl (fun _ hw => hw) ?_
                clear hx121
                obtain ⟨x122, hx122, H⟩ := Let_elim H
                refine z_still (v := U64 x122) (by subst hx122; exact val_bin rfl rfl rfl rfl (u64_xor _ _ _)) rfl rfl rfl (fun _ hw => hw) ?_
                clear hx122
                obtain ⟨hq_38, H⟩ := Chk_elim H
                refine z_still (v := .pointer (some ⟨g_1, x106.toNat, none⟩)) (val_idx0 rfl rfl rfl Tryd.underlying115 sz24 hq_38 rfl) rfl rfl rfl (fun _ hw => hw) ?_
                obtain ⟨y_1_39, hy_1_39, H⟩ := Let_elim H
                refine z_store1 (j := 2) (cs' := cV U64 y_1_39) (L' := [.blk g_33 161 (cV U64 x100) 5, .blk g_2 115 (cV U64 (Vec.rep 25 0#64)) 25, .blk g_1 115 (cV U64 y_1_39) 25]) rfl rfl rfl rfl rfl sz24 rfl (by rw [cV_len]; exact (idx_lt hq_38)) (by subst hy_1_39; exact cV_set (f := U64) _ _ x122) rfl rfl rfl (fun hb => absurd hb (by decide)) ?_
                clear hy_1_39
                refine z_nil ?_
                refine t_fin ?_
                refine t_region (fun ops hops => ?_)
                clear hops
                obtain ⟨x124, hx124, H⟩ := Let_elim H
                refine z_val (v := .int .i64 x124) (by subst hx124; exact val_bin rfl rfl rfl rfl (i64_add _ _ _)) rfl rfl rfl (fun _ _ _ => trivial) ?_
                clear hx124
                refine z_val (v := .int .i64 x124) (val_move rfl rfl) rfl rfl rfl (fun _ _ _ => trivial) ?_
                refine z_nil ?_
                obtain rfl := Option.some.inj H
                exact t_reach ((hn2 _ () rfl trivial).weak (fun a ha => ha.cons rfl (ha.cons rfl (ha.cons rfl (ha.cons rfl (ha.cons rfl (ha.nil)))))) (fun w hw => hw))
            ·
              obtain ⟨y_1_34, x101⟩ := s
              subst hzz
              have H := HK2
              clear HK2 hz2
              replace H := sum_l H
              try dsimp only at H
              change T 126 _ _ _
              refine t_fin ?_
              refine t_region (fun ops hops => ?_)
              clear hops
              refine z_val (v := .int .i64 x12) (val_move rfl rfl) rfl rfl rfl (fun _ _ _ => trivial) ?_
              obtain ⟨x94, hx94, H⟩ := Let_elim H
              refine z_val (v := .int .i64 x94) (by subst hx94; exact val_bin rfl rfl rfl rfl (i64_add _ _ _)) rfl rfl rfl (fun _ _ _ => trivial) ?_
              clear hx94
              refine z_val (v := .int .i64 x94) (val_assign rfl rfl) rfl rfl rfl (fun _ _ _ => trivial) ?_
              refine z_nil ?_
              obtain rfl := Option.some.inj H
              exact t_reach ((hn1 _ () rfl trivial).weak (fun a ha => ha.cons rfl (ha.cons rfl (ha.cons rfl (ha.nil)))) (fun w hw => hw))
        ·
          obtain ⟨y_1_24, x12⟩ := s
          subst hzz
          have H := HK1
          clear HK1 hz1
          replace H := sum_l H
          try dsimp only at H
          change T 126 _ _ _
          refine t_seq ?_
          refine t_region (fun ops hops => ?_)
          clear hops
          refine z_val (v := .agg (cV U64 y_1_24).toArray) (val_loadR (off := 0) (cs := cV U64 y_1_24) rfl rfl Tryd.underlying115 rfl (sz115.trans (congrArg some (cV_len _).symm)) (fun _ hw => hw.whole (j := 1) rfl)) rfl rfl rfl (fun _ _ _ => trivial) ?_
          refine z_storeA (j := 0) (cs' := cV U64 y_1_24) (L' := [.blk g_2 115 (cV U64 y_1_24) 25, .blk g_1 115 (cV U64 y_1_24) 25]) rfl rfl rfl (cV_one (fun _ => rfl) _) sz115 rfl (cV_len _) rfl rfl rfl (fun _ _ _ => trivial) ?_
          refine z_nil ?_
          refine t_ret ?_
          obtain rfl := Option.some.inj H
          exact ret1 rfl (res_row (j := 0) rfl Tryd.underlying115 rfl sz115 rfl (cV_len _)) (fun _ hw => ⟨rfl, hw.below⟩)
def keccak_Turn.b1 (T1 : Vec (BitVec 64) 24) (T2 : Vec (Int) 24) (T3 : Vec (Int) 24) (y_1 : Vec (BitVec 64) 25) (x6 : Int) : Option (Ctl ((Vec (BitVec 64) 25) × (Int)) (Vec (BitVec 64) 25)) :=
  Let (decide (x6 < 24)) fun x7 => (bif x7 then Chk (0 ≤ x6 ∧ x6 < ((24 : Nat) : Int)) <| Let (T1.get x6.toNat) fun x8 => (keccak_round T2 T3 y_1).bind fun x10 => Let (x10.get 0) fun x12 => Let (x12 ^^^ x8) fun x14 => Let (x10.set 0 x14) fun y_1_4 => Let (wi (x6 + 1)) fun x16 => some (.next (y_1_4, x16)) else some (.brk (y_1, x6)))
def keccak_Turn (T1 : Vec (BitVec 64) 24) (T2 : Vec (Int) 24) (T3 : Vec (Int) 24) (a0 : Vec (BitVec 64) 25) : Option (Vec (BitVec 64) 25) :=
  (wlx (σ := (Vec (BitVec 64) 25) × (Int)) (fun s => keccak_Turn.b1 T1 T2 T3 s.1 s.2) (a0, 0)).bind (Sum.elim (fun s => (fun y_1 x6 => some y_1) s.1 s.2) (fun r => some r))
set_option maxRecDepth 100000 in
theorem keccak_Turn.calls (T1 : Vec (BitVec 64) 24) (T2 : Vec (Int) 24) (T3 : Vec (Int) 24) (a0 : Vec (BitVec 64) 25) (r : Vec (BitVec 64) 25) (H : keccak_Turn T1 T2 T3 a0 = some r) (w : World) (hT1 : TabW w 1 U64 T1) (hT2 : TabW w 2 (Value.int .i64) T2) (hT3 : TabW w 3 (Value.int .i64) T3) :
    Made Tryd.prog 113 #[.agg (cV U64 a0).toArray] w (.agg (cV U64 r).toArray) := by
  unfold keccak_Turn at H
  replace hT1 := hT1.toH
  replace hT2 := hT2.toH
  replace hT3 := hT3.toH
  have hM := Mm.start w (snap w) (snap_ok w)
  generalize snap w = h at *
  refine t_enter (vs := [.agg (cV U64 a0).toArray]) (n := 18) Tryd.func113 rfl rfl rfl hM ?_
  clear hM
  change T 18 _ _ _
  refine t_seq ?_
  refine t_region (fun ops hops => ?_)
  clear hops
  refine z_box (cs := cV U64 a0) (room := 25) rfl rfl rfl (cV_len _) rfl rfl rfl (fun _ _ _ _ => trivial) (fun g_1 => ?_)
  refine z_alloc (cs := cV U64 (Vec.rep 25 0#64)) (room := 25) rfl ze115 rfl (cV_len _) rfl rfl rfl (fun _ _ _ _ => trivial) (fun g_2 => ?_)
  refine z_nil ?_
  refine t_seq ?_
  refine t_seq ?_
  refine t_region (fun ops hops => ?_)
  clear hops
  refine z_val (v := .agg (cV U64 T1).toArray) (val_loadR (off := 0) (cs := cV U64 T1) rfl rfl Tryd.underlying141 rfl (sz141.trans (congrArg some (cV_len _).symm)) (fun _ hw => tab_range hT1 hw)) rfl rfl rfl (fun _ _ _ => trivial) ?_
  refine z_val (v := .int .i64 0) (val_move rfl rfl) rfl rfl rfl (fun _ _ _ => trivial) ?_
  refine z_nil ?_
  refine t_block ?_
  obtain ⟨z1, hz1, HK1⟩ := Option.bind_eq_some_iff.1 H
  clear H
  refine t_while hz1 (fun (s : (Vec (BitVec 64) 25) × (Int)) (g : Unit) => [(1, .pointer (some ⟨g_1, 0, none⟩)), (2, .pointer (some ⟨g_2, 0, none⟩)), (5, .agg (cV U64 T1).toArray), (6, .int .i64 s.2)]) (fun (s : (Vec (BitVec 64) 25) × (Int)) (g : Unit) => [(1, .pointer (some ⟨g_1, 0, none⟩)), (2, .pointer (some ⟨g_2, 0, none⟩))]) (fun (s : (Vec (BitVec 64) 25) × (Int)) (g : Unit) => Mm w [] h [.blk g_2 115 (cV U64 (Vec.rep 25 0#64)) 25, .blk g_1 115 (cV U64 s.1) 25]) (fun (s : (Vec (BitVec 64) 25) × (Int)) (g : Unit) => Mm w [] h [.blk g_2 115 (cV U64 (Vec.rep 25 0#64)) 25, .blk g_1 115 (cV U64 s.1) 25]) (fun (s : (Vec (BitVec 64) 25) × (Int)) (g : Unit) => True) (fun (s : (Vec (BitVec 64) 25) × (Int)) (g : Unit) => True) () trivial (fun a w ha hw => ⟨ha.cons rfl (ha.cons rfl (ha.cons rfl (ha.cons rfl (ha.nil)))), hw⟩) (fun Gn Gb s g e hφ H hn1 hb1 hr1 => ?_) (fun s g hzz hφ => ?_)
  ·
    obtain ⟨y_1, x6⟩ := s
    change keccak_Turn.b1 T1 T2 T3 y_1 x6 = some e at H
    unfold keccak_Turn.b1 at H
    clear hz1
    change T 18 _ _ _
    refine t_seq ?_
    refine t_region (fun ops hops => ?_)
    clear hops
    obtain ⟨x7, hx7, H⟩ := Let_elim H
    refine z_val (v := .bool x7) (by subst hx7; exact val_bin rfl rfl rfl rfl (i64_lss _ _ _)) rfl rfl rfl (fun _ _ _ => trivial) ?_
    clear hx7
    refine z_nil ?_
    refine t_seq ?_
    cases x7
    ·
      replace H := cond_f H
      refine t_cond_false rfl ?_
      refine t_exit rfl ?_
      obtain rfl := Option.some.inj H
      exact t_reach ((hb1 _ () rfl trivial).weak (fun a ha => ha.cons rfl (ha.cons rfl (ha.nil))) (fun w hw => hw))
    ·
      replace H := cond_t H
      refine t_cond_true rfl ?_
      refine t_skip ?_
      refine t_seq ?_
      refine t_block ?_
      refine t_seq ?_
      refine t_region (fun ops hops => ?_)
      clear hops
      obtain ⟨hq_3, H⟩ := Chk_elim H
      obtain ⟨x8, hx8, H⟩ := Let_elim H
      refine z_val (v := U64 x8) (by subst hx8; exact val_index rfl rfl rfl Tryd.underlying141 Tryd.underlying24 rfl sz24 hq_3 (cVa_at _ (idx_lt hq_3))) rfl rfl rfl (fun _ _ _ => trivial) ?_
      clear hx8
      refine z_val (v := U64 x8) (val_assign rfl rfl) rfl rfl rfl (fun _ _ _ => trivial) ?_
      refine z_nil ?_
      refine t_seq ?_
      refine t_region (fun ops hops => ?_)
      clear hops
      refine z_val (v := .agg (cV U64 y_1).toArray) (val_loadR (off := 0) (cs := cV U64 y_1) rfl rfl Tryd.underlying115 rfl (sz115.trans (congrArg some (cV_len _).symm)) (fun _ hw => hw.whole (j := 1) rfl)) rfl rfl rfl (fun _ _ _ => trivial) ?_
      obtain ⟨x10, hx, H⟩ := Option.bind_eq_some_iff.1 H
      refine z_made (v := .agg (cV U64 x10).toArray) rfl Tryd.func132 nm132 bs132 rfl (fun w hw => keccak_round.calls T2 T3 y_1 x10 hx w (hT2.toW hw) (hT3.toW hw)) rfl rfl rfl (fun _ _ _ => trivial) ?_
      clear hx
      refine z_storeA (j := 1) (cs' := cV U64 x10) (L' := [.blk g_2 115 (cV U64 (Vec.rep 25 0#64)) 25, .blk g_1 115 (cV U64 x10) 25]) rfl rfl rfl (cV_one (fun _ => rfl) _) sz115 rfl (cV_len _) rfl rfl rfl (fun _ _ _ => trivial) ?_
      refine z_nil ?_
      refine t_region (fun ops hops => ?_)
      clear hops
      refine z_val (v := .pointer (some ⟨g_1, 0, none⟩)) (val_idx0 rfl rfl rfl Tryd.underlying115 sz24 (by decide) rfl) rfl rfl rfl (fun _ _ _ => trivial) ?_
      obtain ⟨x12, hx12, H⟩ := Let_elim H
      refine z_val (v := U64 x12) (by subst hx12; exact val_load1 rfl rfl Tryd.underlying24 rfl (fun _ hw => hw.cell (j := 1) rfl (cV_at _ (by decide)))) rfl rfl rfl (fun _ _ _ => trivial) ?_
      clear hx12
      refine z_val (v := U64 x8) (val_move rfl rfl) rfl rfl rfl (fun _ _ _ => trivial) ?_
      obtain ⟨x14, hx14, H⟩ := Let_elim H
      refine z_val (v := U64 x14) (by subst hx14; exact val_bin rfl rfl rfl rfl (u64_xor _ _ _)) rfl rfl rfl (fun _ _ _ => trivial) ?_
      clear hx14
      refine z_val (v := .pointer (some ⟨g_1, 0, none⟩)) (val_idx0 rfl rfl rfl Tryd.underlying115 sz24 (by decide) rfl) rfl rfl rfl (fun _ _ _ => trivial) ?_
      obtain ⟨y_1_4, hy_1_4, H⟩ := Let_elim H
      refine z_store1 (j := 1) (cs' := cV U64 y_1_4) (L' := [.blk g_2 115 (cV U64 (Vec.rep 25 0#64)) 25, .blk g_1 115 (cV U64 y_1_4) 25]) rfl rfl rfl rfl rfl sz24 rfl (by rw [cV_len]; exact (by decide)) (by subst hy_1_4; exact cV_set (f := U64) _ _ x14) rfl rfl rfl (fun _ _ _ => trivial) ?_
      clear hy_1_4
      refine z_nil ?_
      refine t_fin ?_
      refine t_region (fun ops hops => ?_)
      clear hops
      obtain ⟨x16, hx16, H⟩ := Let_elim H
      refine z_val (v := .int .i64 x16) (by subst hx16; exact val_bin rfl rfl rfl rfl (i64_add _ _ _)) rfl rfl rfl (fun _ _ _ => trivial) ?_
      clear hx16
      refine z_val (v := .int .i64 x16) (val_move rfl rfl) rfl rfl rfl (fun _ _ _ => trivial) ?_
      refine z_nil ?_
      obtain rfl := Option.some.inj H
      exact t_reach ((hn1 _ () rfl trivial).weak (fun a ha => ha.cons rfl (ha.cons rfl (ha.cons rfl (ha.cons rfl (ha.nil))))) (fun w hw => hw))
  ·
    obtain ⟨y_1, x6⟩ := s
    subst hzz
    have H := HK1
    clear HK1 hz1
    replace H := sum_l H
    try dsimp only at H
    change T 18 _ _ _
    refine t_seq ?_
    refine t_region (fun ops hops => ?_)
    clear hops
    refine z_val (v := .agg (cV U64 y_1).toArray) (val_loadR (off := 0) (cs := cV U64 y_1) rfl rfl Tryd.underlying115 rfl (sz115.trans (congrArg some (cV_len _).symm)) (fun _ hw => hw.whole (j := 1) rfl)) rfl rfl rfl (fun _ _ _ => trivial) ?_
    refine z_storeA (j := 0) (cs' := cV U64 y_1) (L' := [.blk g_2 115 (cV U64 y_1) 25, .blk g_1 115 (cV U64 y_1) 25]) rfl rfl rfl (cV_one (fun _ => rfl) _) sz115 rfl (cV_len _) rfl rfl rfl (fun _ _ _ => trivial) ?_
    refine z_nil ?_
    refine t_ret ?_
    obtain rfl := Option.some.inj H
    exact ret1 rfl (res_row (j := 0) rfl Tryd.underlying115 rfl sz115 rfl (cV_len _)) (fun _ hw => ⟨rfl, hw.below⟩)
def keccak_absorb.b1 (x8 : Int) (a1 : List (BitVec 8)) (y_1 : Vec (BitVec 64) 25) (x9 : Int) : Option (Ctl ((Vec (BitVec 64) 25) × (Int)) (Vec (BitVec 64) 25)) :=
  Let (decide (x9 < x8)) fun x10 => (bif x10 then Chk ((0 : Int) ≤ x9 ∧ x9 < (a1.length : Int)) <| Let (lget a1 x9.toNat) fun x13 => Let (wi (Int.tdiv x9 8)) fun x15 => Chk (0 ≤ x15 ∧ x15 < ((25 : Nat) : Int)) <| Let (y_1.get x15.toNat) fun x17 => Let (x13.setWidth 64) fun x19 => Let (Int.tmod x9 8) fun x21 => Let (wi (x21 * 8)) fun x22 => Chk (0 ≤ x22) <| Let (x19 <<< x22.toNat) fun x23 => Let (x17 ^^^ x23) fun x24 => Chk (0 ≤ x15 ∧ x15 < ((25 : Nat) : Int)) <| Let (y_1.set x15.toNat x24) fun y_1_11 => Let (wi (x9 + 1)) fun x26 => some (.next (y_1_11, x26)) else some (.brk (y_1, x9)))
def keccak_absorb (T1 : Vec (BitVec 64) 24) (T2 : Vec (Int) 24) (T3 : Vec (Int) 24) (a0 : Vec (BitVec 64) 25) (a1 : List (BitVec 8)) : Option (Vec (BitVec 64) 25) :=
  Let ((a1.length : Int)) fun x8 => (wlx (σ := (Vec (BitVec 64) 25) × (Int)) (fun s => keccak_absorb.b1 x8 a1 s.1 s.2) (a0, 0)).bind (Sum.elim (fun s => (fun y_1 x9 => (keccak_Turn T1 T2 T3 y_1).bind fun x28 => some x28) s.1 s.2) (fun r => some r))
set_option maxRecDepth 100000 in
theorem keccak_absorb.calls (T1 : Vec (BitVec 64) 24) (T2 : Vec (Int) 24) (T3 : Vec (Int) 24) (a0 : Vec (BitVec 64) 25) (a1 : List (BitVec 8)) (A1 : Option Addr) (c1 : Nat) (r : Vec (BitVec 64) 25) (H : keccak_absorb T1 T2 T3 a0 a1 = some r) (w : World) (hs1 : SlW w U8 A1 a1) (hc1 : a1.length ≤ c1) (hT1 : TabW w 1 U64 T1) (hT2 : TabW w 2 (Value.int .i64) T2) (hT3 : TabW w 3 (Value.int .i64) T3) :
    Made Tryd.prog 89 #[.agg (cV U64 a0).toArray, .slice A1 a1.length c1] w (.agg (cV U64 r).toArray) := by
  unfold keccak_absorb at H
  replace hs1 := hs1.toH
  replace hT1 := hT1.toH
  replace hT2 := hT2.toH
  replace hT3 := hT3.toH
  have hM := Mm.start w (snap w) (snap_ok w)
  generalize snap w = h at *
  refine t_enter (vs := [.agg (cV U64 a0).toArray, .slice A1 a1.length c1]) (n := 29) Tryd.func89 rfl rfl rfl hM ?_
  clear hM
  change T 29 _ _ _
  refine t_seq ?_
  refine t_region (fun ops hops => ?_)
  clear hops
  refine z_box (cs := cV U64 a0) (room := 25) rfl rfl rfl (cV_len _) rfl rfl rfl (fun _ _ _ _ => trivial) (fun g_1 => ?_)
  refine z_alloc (cs := cV U64 (Vec.rep 25 0#64)) (room := 25) rfl ze115 rfl (cV_len _) rfl rfl rfl (fun _ _ _ _ => trivial) (fun g_2 => ?_)
  refine z_nil ?_
  refine t_seq ?_
  refine t_seq ?_
  refine t_region (fun ops hops => ?_)
  clear hops
  refine z_val (v := .slice A1 a1.length c1) (val_move rfl rfl) rfl rfl rfl (fun _ _ _ => trivial) ?_
  obtain ⟨x8, hx8, H⟩ := Let_elim H
  refine z_val (v := .int .i64 x8) (by subst hx8; exact val_len rfl rfl rfl Tryd.underlying27) rfl rfl rfl (fun _ _ _ => trivial) ?_
  clear hx8
  refine z_val (v := .int .i64 0) (val_move rfl rfl) rfl rfl rfl (fun _ _ _ => trivial) ?_
  refine z_nil ?_
  refine t_block ?_
  obtain ⟨z1, hz1, HK1⟩ := Option.bind_eq_some_iff.1 H
  clear H
  refine t_while hz1 (fun (s : (Vec (BitVec 64) 25) × (Int)) (g : Unit) => [(2, .pointer (some ⟨g_1, 0, none⟩)), (4, .pointer (some ⟨g_2, 0, none⟩)), (7, .slice A1 a1.length c1), (8, .int .i64 x8), (9, .int .i64 s.2)]) (fun (s : (Vec (BitVec 64) 25) × (Int)) (g : Unit) => [(2, .pointer (some ⟨g_1, 0, none⟩)), (4, .pointer (some ⟨g_2, 0, none⟩))]) (fun (s : (Vec (BitVec 64) 25) × (Int)) (g : Unit) => Mm w [] h [.blk g_2 115 (cV U64 (Vec.rep 25 0#64)) 25, .blk g_1 115 (cV U64 s.1) 25]) (fun (s : (Vec (BitVec 64) 25) × (Int)) (g : Unit) => Mm w [] h [.blk g_2 115 (cV U64 (Vec.rep 25 0#64)) 25, .blk g_1 115 (cV U64 s.1) 25]) (fun (s : (Vec (BitVec 64) 25) × (Int)) (g : Unit) => True) (fun (s : (Vec (BitVec 64) 25) × (Int)) (g : Unit) => True) () trivial (fun a w ha hw => ⟨ha.cons rfl (ha.cons rfl (ha.cons rfl (ha.cons rfl (ha.cons rfl (ha.nil))))), hw⟩) (fun Gn Gb s g e hφ H hn1 hb1 hr1 => ?_) (fun s g hzz hφ => ?_)
  ·
    obtain ⟨y_1, x9⟩ := s
    change keccak_absorb.b1 x8 a1 y_1 x9 = some e at H
    unfold keccak_absorb.b1 at H
    clear hz1
    change T 29 _ _ _
    refine t_seq ?_
    refine t_region (fun ops hops => ?_)
    clear hops
    obtain ⟨x10, hx10, H⟩ := Let_elim H
    refine z_val (v := .bool x10) (by subst hx10; exact val_bin rfl rfl rfl rfl (i64_lss _ _ _)) rfl rfl rfl (fun _ _ _ => trivial) ?_
    clear hx10
    refine z_nil ?_
    refine t_seq ?_
    cases x10
    ·
      replace H := cond_f H
      refine t_cond_false rfl ?_
      refine t_exit rfl ?_
      obtain rfl := Option.some.inj H
      exact t_reach ((hb1 _ () rfl trivial).weak (fun a ha => ha.cons rfl (ha.cons rfl (ha.nil))) (fun w hw => hw))
    ·
      replace H := cond_t H
      refine t_cond_true rfl ?_
      refine t_skip ?_
      refine t_seq ?_
      refine t_block ?_
      refine t_seq ?_
      refine t_region (fun ops hops => ?_)
      clear hops
      refine z_val (v := .int .i64 x9) (val_move rfl rfl) rfl rfl rfl (fun _ _ _ => trivial) ?_
      obtain ⟨hq_3, H⟩ := Chk_elim H
      obtain ⟨b_4, o_5, hA_6, hc_7⟩ := hs1.at_ (idx_lt hq_3)
      refine z_val (v := .pointer (some ⟨b_4, o_5 + x9.toNat, none⟩)) (val_idxS0 rfl rfl rfl Tryd.underlying27 sz5 hq_3 hA_6 rfl) rfl rfl rfl (fun _ _ _ => trivial) ?_
      obtain ⟨x13, hx13, H⟩ := Let_elim H
      refine z_val (v := U8 x13) (by subst hx13; exact val_load1 rfl rfl Tryd.underlying5 rfl (fun _ hw => hc_7.cell hw)) rfl rfl rfl (fun _ _ _ => trivial) ?_
      clear hx13
      refine z_val (v := .int .i64 x9) (val_assign rfl rfl) rfl rfl rfl (fun _ _ _ => trivial) ?_
      refine z_val (v := U8 x13) (val_assign rfl rfl) rfl rfl rfl (fun _ _ _ => trivial) ?_
      refine z_nil ?_
      refine t_plan (C := Mm w [] h [.blk g_2 115 (cV U64 (Vec.rep 25 0#64)) 25, .blk g_1 115 (cV U64 y_1) 25]) [12] [(0, true), (1, true), (2, true), (3, true), (4, true), (5, true), (6, true), (7, true), (8, true), (9, true), (10, true), (11, true), (12, false)] (by kernel_rfl) (by kernel_rfl) (fun _ hw => hw.drew) (fun ops hops => ?_)
      clear hops
      refine z_still (v := .int .i64 x9) (val_move rfl rfl) rfl rfl rfl (fun _ hw => hw) ?_
      obtain ⟨x15, hx15, H⟩ := Let_elim H
      refine z_still (v := .int .i64 x15) (by subst hx15; exact val_bin rfl rfl rfl rfl (i64_quo _ _ _ (by decide))) rfl rfl rfl (fun _ hw => hw) ?_
      clear hx15
      obtain ⟨hq_8, H⟩ := Chk_elim H
      refine z_still (v := .pointer (some ⟨g_1, x15.toNat, none⟩)) (val_idx0 rfl rfl rfl Tryd.underlying115 sz24 hq_8 rfl) rfl rfl rfl (fun _ hw => hw) ?_
      obtain ⟨x17, hx17, H⟩ := Let_elim H
      refine z_still (v := U64 x17) (by subst hx17; exact val_load1 rfl rfl Tryd.underlying24 rfl (fun _ hw => hw.cell (j := 1) rfl (cV_at _ (idx_lt hq_8)))) rfl rfl rfl (fun _ hw => hw) ?_
      clear hx17
      refine z_still (v := U8 x13) (val_move rfl rfl) rfl rfl rfl (fun _ hw => hw) ?_
      obtain ⟨x19, hx19, H⟩ := Let_elim H
      refine z_still (v := U64 x19) (by subst hx19; exact val_conv rfl rfl (fun w => conv_u8_u64 w _ _ _ (by rw [Tryd.underlying5]; rfl) Tryd.underlying24)) rfl rfl rfl (fun _ hw => hw) ?_
      clear hx19
      refine z_still (v := .int .i64 x9) (val_move rfl rfl) rfl rfl rfl (fun _ hw => hw) ?_
      obtain ⟨x21, hx21, H⟩ := Let_elim H
      refine z_still (v := .int .i64 x21) (by subst hx21; exact val_bin rfl rfl rfl rfl (i64_rem _ _ _ (by decide))) rfl rfl rfl (fun _ hw => hw) ?_
      clear hx21
      obtain ⟨x22, hx22, H⟩ := Let_elim H
      refine z_still (v := .int .i64 x22) (by subst hx22; exact val_bin rfl rfl rfl rfl (i64_mul _ _ _)) rfl rfl rfl (fun _ hw => hw) ?_
      clear hx22
      obtain ⟨hq_9, H⟩ := Chk_elim H
      obtain ⟨x23, hx23, H⟩ := Let_elim H
      refine z_still (v := U64 x23) (by subst hx23; exact val_bin rfl rfl rfl rfl (u64_shl _ _ _ _ hq_9)) rfl rfl rfl (fun _ hw => hw) ?_
      clear hx23
      obtain ⟨x24, hx24, H⟩ := Let_elim H
      refine z_still (v := U64 x24) (by subst hx24; exact val_bin rfl rfl rfl rfl (u64_xor _ _ _)) rfl rfl rfl (fun _ hw => hw) ?_
      clear hx24
      obtain ⟨hq_10, H⟩ := Chk_elim H
      refine z_still (v := .pointer (some ⟨g_1, x15.toNat, none⟩)) (val_idx0 rfl rfl rfl Tryd.underlying115 sz24 hq_10 rfl) rfl rfl rfl (fun _ hw => hw) ?_
      obtain ⟨y_1_11, hy_1_11, H⟩ := Let_elim H
      refine z_store1 (j := 1) (cs' := cV U64 y_1_11) (L' := [.blk g_2 115 (cV U64 (Vec.rep 25 0#64)) 25, .blk g_1 115 (cV U64 y_1_11) 25]) rfl rfl rfl rfl rfl sz24 rfl (by rw [cV_len]; exact (idx_lt hq_10)) (by subst hy_1_11; exact cV_set (f := U64) _ _ x24) rfl rfl rfl (fun hb => absurd hb (by decide)) ?_
      clear hy_1_11
      refine z_nil ?_
      refine t_fin ?_
      refine t_region (fun ops hops => ?_)
      clear hops
      obtain ⟨x26, hx26, H⟩ := Let_elim H
      refine z_val (v := .int .i64 x26) (by subst hx26; exact val_bin rfl rfl rfl rfl (i64_add _ _ _)) rfl rfl rfl (fun _ _ _ => trivial) ?_
      clear hx26
      refine z_val (v := .int .i64 x26) (val_move rfl rfl) rfl rfl rfl (fun _ _ _ => trivial) ?_
      refine z_nil ?_
      obtain rfl := Option.some.inj H
      exact t_reach ((hn1 _ () rfl trivial).weak (fun a ha => ha.cons rfl (ha.cons rfl (ha.cons rfl (ha.cons rfl (ha.cons rfl (ha.nil)))))) (fun w hw => hw))
  ·
    obtain ⟨y_1, x9⟩ := s
    subst hzz
    have H := HK1
    clear HK1 hz1
    replace H := sum_l H
    try dsimp only at H
    change T 29 _ _ _
    refine t_seq ?_
    refine t_region (fun ops hops => ?_)
    clear hops
    refine z_val (v := .agg (cV U64 y_1).toArray) (val_loadR (off := 0) (cs := cV U64 y_1) rfl rfl Tryd.underlying115 rfl (sz115.trans (congrArg some (cV_len _).symm)) (fun _ hw => hw.whole (j := 1) rfl)) rfl rfl rfl (fun _ _ _ => trivial) ?_
    obtain ⟨x28, hx, H⟩ := Option.bind_eq_some_iff.1 H
    refine z_made (v := .agg (cV U64 x28).toArray) rfl Tryd.func113 nm113 bs113 rfl (fun w hw => keccak_Turn.calls T1 T2 T3 y_1 x28 hx w (hT1.toW hw) (hT2.toW hw) (hT3.toW hw)) rfl rfl rfl (fun _ _ _ => trivial) ?_
    clear hx
    refine z_storeA (j := 0) (cs' := cV U64 x28) (L' := [.blk g_2 115 (cV U64 x28) 25, .blk g_1 115 (cV U64 y_1) 25]) rfl rfl rfl (cV_one (fun _ => rfl) _) sz115 rfl (cV_len _) rfl rfl rfl (fun _ _ _ => trivial) ?_
    refine z_nil ?_
    refine t_ret ?_
    obtain rfl := Option.some.inj H
    exact ret1 rfl (res_row (j := 0) rfl Tryd.underlying115 rfl sz115 rfl (cV_len _)) (fun _ hw => ⟨rfl, hw.below⟩)
def keccak_Sum.b1 (T1 : Vec (BitVec 64) 24) (T2 : Vec (Int) 24) (T3 : Vec (Int) 24) (y_2 : Vec (BitVec 64) 25) (x0 : List (BitVec 8)) : Option (Ctl ((Vec (BitVec 64) 25) × (List (BitVec 8))) (Vec (BitVec 8) 32)) :=
  Let ((x0.length : Int)) fun x9 => Let (decide (136 ≤ x9)) fun x10 => (bif x10 then Chk ((0 : Int) ≤ 0 ∧ 0 ≤ 136 ∧ 136 ≤ (x0.length : Int)) <| Let ((x0.take ((136 : Int).toNat)).drop 0) fun x13 => (keccak_absorb T1 T2 T3 y_2 x13).bind fun x14 => Chk ((0 : Int) ≤ 136 ∧ 136 ≤ (x0.length : Int)) <| Let ((x0.take x0.length).drop ((136 : Int).toNat)) fun x16 => some (.next (x14, x16)) else some (.brk (y_2, x0)))
def keccak_Sum.b2 (x28 : Vec (BitVec 64) 25) (y_36 : Vec (BitVec 8) 32) (x29 : Int) : Option (Ctl ((Vec (BitVec 8) 32) × (Int)) (Vec (BitVec 8) 32)) :=
  Let (decide (x29 < 32)) fun x30 => (bif x30 then Let (wi (Int.tdiv x29 8)) fun x34 => Chk (0 ≤ x34 ∧ x34 < ((25 : Nat) : Int)) <| Let (x28.get x34.toNat) fun x36 => Let (Int.tmod x29 8) fun x38 => Let (wi (x38 * 8)) fun x39 => Chk (0 ≤ x39) <| Let (x36 >>> x39.toNat) fun x40 => Let (x40.setWidth 8) fun x41 => Chk (0 ≤ x29 ∧ x29 < ((32 : Nat) : Int)) <| Let (y_36.set x29.toNat x41) fun y_36_40 => Let (wi (x29 + 1)) fun x43 => some (.next (y_36_40, x43)) else some (.brk (y_36, x29)))
def keccak_Sum (T1 : Vec (BitVec 64) 24) (T2 : Vec (Int) 24) (T3 : Vec (Int) 24) (a0 : List (BitVec 8)) : Option (Vec (BitVec 8) 32) :=
  (wlx (σ := (Vec (BitVec 64) 25) × (List (BitVec 8))) (fun s => keccak_Sum.b1 T1 T2 T3 s.1 s.2) ((Vec.rep 25 0#64), a0)).bind (Sum.elim (fun s => (fun y_2 x0 => Let (((Vec.rep 136 0#8).l.take 136).drop 0) fun x17 => Let ((Vec.rep 136 0#8).put 0 (x0.take (136 - 0))) fun y_20 => Let (((Nat.min x0.length (136 - 0) : Nat) : Int)) fun x19 => Chk (0 ≤ x19 ∧ x19 < ((136 : Nat) : Int)) <| Let (y_20.set x19.toNat 1#8) fun y_20_27 => Let (y_20_27.get 135) fun x23 => Let (x23 ||| 128#8) fun x24 => Let (y_20_27.set 135 x24) fun y_20_28 => Let ((y_20_28.l.take 136).drop 0) fun x27 => (keccak_absorb T1 T2 T3 y_2 x27).bind fun x28 => (wlx (σ := (Vec (BitVec 8) 32) × (Int)) (fun s => keccak_Sum.b2 x28 s.1 s.2) ((Vec.rep 32 0#8), 0)).bind (Sum.elim (fun s => (fun y_36 x29 => some y_36) s.1 s.2) (fun r => some r))) s.1 s.2) (fun r => some r))
set_option maxRecDepth 100000 in
theorem keccak_Sum.calls (T1 : Vec (BitVec 64) 24) (T2 : Vec (Int) 24) (T3 : Vec (Int) 24) (a0 : List (BitVec 8)) (A0 : Option Addr) (c0 : Nat) (r : Vec (BitVec 8) 32) (H : keccak_Sum T1 T2 T3 a0 = some r) (w : World) (hs0 : SlW w U8 A0 a0) (hc0 : a0.length ≤ c0) (hT1 : TabW w 1 U64 T1) (hT2 : TabW w 2 (Value.int .i64) T2) (hT3 : TabW w 3 (Value.int .i64) T3) :
    Made Tryd.prog 44 #[.slice A0 a0.length c0] w (.agg (cV U8 r).toArray) := by
  unfold keccak_Sum at H
  replace hs0 := hs0.toH
  replace hT1 := hT1.toH
  replace hT2 := hT2.toH
  replace hT3 := hT3.toH
  have hM := Mm.start w (snap w) (snap_ok w)
  generalize snap w = h at *
  refine t_enter (vs := [.slice A0 a0.length c0]) (n := 45) Tryd.func44 rfl rfl rfl hM ?_
  clear hM
  change T 45 _ _ _
  refine t_seq ?_
  refine t_region (fun ops hops => ?_)
  clear hops
  refine z_alloc (cs := cV U8 (Vec.rep 32 0#8)) (room := 32) rfl ze47 rfl (cV_len _) rfl rfl rfl (fun _ _ _ _ => trivial) (fun g_1 => ?_)
  refine z_nil ?_
  refine t_seq ?_
  refine t_region (fun ops hops => ?_)
  clear hops
  refine z_alloc (cs := cV U64 (Vec.rep 25 0#64)) (room := 25) rfl ze115 rfl (cV_len _) rfl rfl rfl (fun _ _ _ _ => trivial) (fun g_2 => ?_)
  refine z_nil ?_
  refine t_seq ?_
  refine t_block ?_
  obtain ⟨z1, hz1, HK1⟩ := Option.bind_eq_some_iff.1 H
  clear H
  refine t_while hz1 (fun (s : (Vec (BitVec 64) 25) × (List (BitVec 8))) (g : (Option Addr) × (Nat)) => [(0, .slice g.1 s.2.length g.2), (2, .pointer (some ⟨g_1, 0, none⟩)), (3, .pointer (some ⟨g_2, 0, none⟩))]) (fun (s : (Vec (BitVec 64) 25) × (List (BitVec 8))) (g : (Option Addr) × (Nat)) => [(0, .slice g.1 s.2.length g.2), (2, .pointer (some ⟨g_1, 0, none⟩)), (3, .pointer (some ⟨g_2, 0, none⟩))]) (fun (s : (Vec (BitVec 64) 25) × (List (BitVec 8))) (g : (Option Addr) × (Nat)) => Mm w [] h [.blk g_2 115 (cV U64 s.1) 25, .blk g_1 47 (cV U8 (Vec.rep 32 0#8)) 32]) (fun (s : (Vec (BitVec 64) 25) × (List (BitVec 8))) (g : (Option Addr) × (Nat)) => Mm w [] h [.blk g_2 115 (cV U64 s.1) 25, .blk g_1 47 (cV U8 (Vec.rep 32 0#8)) 32]) (fun (s : (Vec (BitVec 64) 25) × (List (BitVec 8))) (g : (Option Addr) × (Nat)) => SlH h U8 g.1 s.2 ∧ s.2.length ≤ g.2) (fun (s : (Vec (BitVec 64) 25) × (List (BitVec 8))) (g : (Option Addr) × (Nat)) => SlH h U8 g.1 s.2 ∧ s.2.length ≤ g.2) ⟨A0, c0⟩ ⟨hs0, hc0⟩ (fun a w ha hw => ⟨ha.cons rfl (ha.cons rfl (ha.cons rfl (ha.nil))), hw⟩) (fun Gn Gb s g e hφ H hn1 hb1 hr1 => ?_) (fun s g hzz hφ => ?_)
  ·
    obtain ⟨y_2, x0⟩ := s
    obtain ⟨A_3, c_4⟩ := g
    try dsimp only at hφ
    obtain ⟨hs_5, hc_6⟩ := hφ
    change keccak_Sum.b1 T1 T2 T3 y_2 x0 = some e at H
    unfold keccak_Sum.b1 at H
    clear hz1
    change T 45 _ _ _
    refine t_seq ?_
    refine t_seq ?_
    refine t_region (fun ops hops => ?_)
    clear hops
    refine z_val (v := .slice A_3 x0.length c_4) (val_move rfl rfl) rfl rfl rfl (fun _ _ _ => trivial) ?_
    obtain ⟨x9, hx9, H⟩ := Let_elim H
    refine z_val (v := .int .i64 x9) (by subst hx9; exact val_len rfl rfl rfl Tryd.underlying27) rfl rfl rfl (fun _ _ _ => trivial) ?_
    clear hx9
    obtain ⟨x10, hx10, H⟩ := Let_elim H
    refine z_val (v := .bool x10) (by subst hx10; exact val_bin rfl rfl rfl rfl (i64_geq _ _ _)) rfl rfl rfl (fun _ _ _ => trivial) ?_
    clear hx10
    refine z_nil ?_
    cases x10
    ·
      replace H := cond_f H
      refine t_cond_false rfl ?_
      refine t_exit rfl ?_
      obtain rfl := Option.some.inj H
      exact t_reach ((hb1 _ ⟨A_3, c_4⟩ rfl ⟨hs_5, hc_6⟩).weak (fun a ha => ha.cons rfl (ha.cons rfl (ha.cons rfl (ha.nil)))) (fun w hw => hw))
    ·
      replace H := cond_t H
      refine t_cond_true rfl ?_
      refine t_skip ?_
      refine t_block ?_
      refine t_seq ?_
      refine t_plan (C := Mm w [] h [.blk g_2 115 (cV U64 y_2) 25, .blk g_1 47 (cV U8 (Vec.rep 32 0#8)) 32]) [4] [(0, true), (1, true), (2, true), (3, false), (4, false)] (by kernel_rfl) (by kernel_rfl) (fun _ hw => hw.drew) (fun ops hops => ?_)
      clear hops
      refine z_still (v := .agg (cV U64 y_2).toArray) (val_loadR (off := 0) (cs := cV U64 y_2) rfl rfl Tryd.underlying115 rfl (sz115.trans (congrArg some (cV_len _).symm)) (fun _ hw => hw.whole (j := 0) rfl)) rfl rfl rfl (fun _ hw => hw) ?_
      refine z_still (v := .slice A_3 x0.length c_4) (val_move rfl rfl) rfl rfl rfl (fun _ hw => hw) ?_
      obtain ⟨hq_7, H⟩ := Chk_elim H
      obtain ⟨x13, hx13, H⟩ := Let_elim H
      obtain ⟨A_8, hA_12⟩ : ∃ z, z = (if c_4 = 0 then A_3 else A_3.map (·.add (0 * 1))) := ⟨_, rfl⟩
      obtain ⟨c_9, hc_110⟩ : ∃ z, z = c_4 - 0 := ⟨_, rfl⟩
      have hl : x13.length = (136 : Int).toNat - 0 := by subst hx13; exact cut_len (by omega) (by omega)
      have hs_10 : SlH h U8 A_8 x13 := by subst hA_12 hx13; exact hs_5.cut (by omega) hc_6
      have hc_11 : x13.length ≤ c_9 := by have := hc_6; omega
      refine z_still (v := .slice A_8 x13.length c_9) (val_sliceH rfl rfl rfl Tryd.underlying27 sz5 (by omega) (by have := hc_6; omega) (by rw [hl, hA_12, hc_110])) rfl rfl rfl (fun _ hw => hw) ?_
      clear hl hA_12 hc_110 hx13
      obtain ⟨x14, hx, H⟩ := Option.bind_eq_some_iff.1 H
      refine z_made (v := .agg (cV U64 x14).toArray) rfl Tryd.func89 nm89 bs89 rfl (fun w hw => keccak_absorb.calls T1 T2 T3 y_2 x13 A_8 c_9 x14 hx w (hs_10.toW hw) hc_11 (hT1.toW hw) (hT2.toW hw) (hT3.toW hw)) rfl rfl rfl (fun _ _ hw => hw) ?_
      clear hx
      refine z_storeA (j := 0) (cs' := cV U64 x14) (L' := [.blk g_2 115 (cV U64 x14) 25, .blk g_1 47 (cV U8 (Vec.rep 32 0#8)) 32]) rfl rfl rfl (cV_one (fun _ => rfl) _) sz115 rfl (cV_len _) rfl rfl rfl (fun hb => absurd hb (by decide)) ?_
      refine z_nil ?_
      refine t_region (fun ops hops => ?_)
      clear hops
      refine z_val (v := .slice A_3 x0.length c_4) (val_move rfl rfl) rfl rfl rfl (fun _ _ _ => trivial) ?_
      obtain ⟨hq_13, H⟩ := Chk_elim H
      obtain ⟨x16, hx16, H⟩ := Let_elim H
      obtain ⟨A_14, hA_18⟩ : ∃ z, z = (if c_4 = (136 : Int).toNat then A_3 else A_3.map (·.add ((136 : Int).toNat * 1))) := ⟨_, rfl⟩
      obtain ⟨c_15, hc_170⟩ : ∃ z, z = c_4 - (136 : Int).toNat := ⟨_, rfl⟩
      have hl_19 : x16.length = x0.length - (136 : Int).toNat := by subst hx16; exact cut_len (by omega) (by omega)
      have hs_16 : SlH h U8 A_14 x16 := by subst hA_18 hx16; exact hs_5.cut (by omega) hc_6
      have hc_17 : x16.length ≤ c_15 := by have := hc_6; omega
      refine z_val (v := .slice A_14 x16.length c_15) (val_sliceL rfl rfl rfl Tryd.underlying27 sz5 hq_13.1 hq_13.2 (by rw [hl_19, hA_18, hc_170])) rfl rfl rfl (fun _ _ _ => trivial) ?_
      clear hl_19 hA_18 hc_170 hx16
      refine z_val (v := .slice A_14 x16.length c_15) (val_assign rfl rfl) rfl rfl rfl (fun _ _ _ => trivial) ?_
      refine z_nil ?_
      refine t_fin ?_
      obtain rfl := Option.some.inj H
      exact t_reach ((hn1 _ ⟨A_14, c_15⟩ rfl ⟨hs_16, hc_17⟩).weak (fun a ha => ha.cons rfl (ha.cons rfl (ha.cons rfl (ha.nil)))) (fun w hw => hw))
  ·
    obtain ⟨y_2, x0⟩ := s
    obtain ⟨A_3, c_4⟩ := g
    try dsimp only at hφ
    obtain ⟨hs_5, hc_6⟩ := hφ
    subst hzz
    have H := HK1
    clear HK1 hz1
    replace H := sum_l H
    try dsimp only at H
    change T 45 _ _ _
    refine t_seq ?_
    refine t_region (fun ops hops => ?_)
    clear hops
    refine z_alloc (cs := cV U8 (Vec.rep 136 0#8)) (room := 136) rfl ze117 rfl (cV_len _) rfl rfl rfl (fun _ _ _ _ => trivial) (fun g_20 => ?_)
    refine z_nil ?_
    refine t_seq ?_
    refine t_region (fun ops hops => ?_)
    clear hops
    obtain ⟨x17, hx17, H⟩ := Let_elim H
    have hln : 0 ≤ 136 ∧ 136 ≤ 136 := by decide
    have hl_25 : x17.length = 136 - 0 := by subst hx17; exact sla_len _ hln.2
    obtain ⟨q_21, hq_22⟩ : ∃ z, z = (if 136 = 0 then 0 else 0) := ⟨_, rfl⟩
    obtain ⟨c_23, hc_240⟩ : ∃ z, z = 136 - 0 := ⟨_, rfl⟩
    have hc_24 : x17.length ≤ c_23 := by omega
    refine z_val (v := .slice (some ⟨g_20, q_21, none⟩) x17.length c_23) (val_sliceA (l := 0) (k := 136) rfl rfl Tryd.underlying117 sz5 (.inl ⟨rfl, rfl⟩) (.inl ⟨rfl, rfl⟩) hln.1 hln.2 (by rw [hl_25, hq_22, hc_240]; first | rfl | (congr 2; split <;> simp))) rfl rfl rfl (fun _ _ _ => trivial) ?_
    refine z_val (v := .slice A_3 x0.length c_4) (val_move rfl rfl) rfl rfl rfl (fun _ _ _ => trivial) ?_
    obtain ⟨y_20, hy_20, H⟩ := Let_elim H
    obtain ⟨x19, hx19, H⟩ := Let_elim H
    refine z_copyA (j := 0) (a := (Vec.rep 136 0#8)) (a' := y_20) (m := (136 - 0)) (r := x19) (L' := [.blk g_20 117 (cV U8 y_20) 136, .blk g_2 115 (cV U64 y_2) 25, .blk g_1 47 (cV U8 (Vec.rep 32 0#8)) 32]) rfl rfl Tryd.underlying27 sz5 rfl hl_25 rfl rfl hq_22 (by omega) (fun w hw => (hs_5.toW hw)) (fun _ => rfl) (by subst hy_20; rfl) (by subst hx19; rfl) rfl rfl rfl rfl (fun _ _ _ => trivial) ?_
    clear hy_20 hx19
    refine z_val (v := .int .i64 x19) (val_assign rfl rfl) rfl rfl rfl (fun _ _ _ => trivial) ?_
    refine z_nil ?_
    refine t_seq ?_
    refine t_region (fun ops hops => ?_)
    clear hops
    refine z_val (v := .int .i64 x19) (val_move rfl rfl) rfl rfl rfl (fun _ _ _ => trivial) ?_
    obtain ⟨hq_26, H⟩ := Chk_elim H
    refine z_val (v := .pointer (some ⟨g_20, x19.toNat, none⟩)) (val_idx0 rfl rfl rfl Tryd.underlying117 sz5 hq_26 rfl) rfl rfl rfl (fun _ _ _ => trivial) ?_
    obtain ⟨y_20_27, hy_20_27, H⟩ := Let_elim H
    refine z_store1 (j := 0) (cs' := cV U8 y_20_27) (L' := [.blk g_20 117 (cV U8 y_20_27) 136, .blk g_2 115 (cV U64 y_2) 25, .blk g_1 47 (cV U8 (Vec.rep 32 0#8)) 32]) rfl rfl rfl rfl rfl sz5 rfl (by rw [cV_len]; exact (idx_lt hq_26)) (by subst hy_20_27; exact cV_set (f := U8) _ _ 1#8) rfl rfl rfl (fun _ _ _ => trivial) ?_
    clear hy_20_27
    refine z_nil ?_
    refine t_seq ?_
    refine t_region (fun ops hops => ?_)
    clear hops
    refine z_val (v := .pointer (some ⟨g_20, 135, none⟩)) (val_idx0 rfl rfl rfl Tryd.underlying117 sz5 (by decide) rfl) rfl rfl rfl (fun _ _ _ => trivial) ?_
    obtain ⟨x23, hx23, H⟩ := Let_elim H
    refine z_val (v := U8 x23) (by subst hx23; exact val_load1 rfl rfl Tryd.underlying5 rfl (fun _ hw => hw.cell (j := 0) rfl (cV_at _ (by decide)))) rfl rfl rfl (fun _ _ _ => trivial) ?_
    clear hx23
    obtain ⟨x24, hx24, H⟩ := Let_elim H
    refine z_val (v := U8 x24) (by subst hx24; exact val_bin rfl rfl rfl rfl (u8_or_r _ _ _)) rfl rfl rfl (fun _ _ _ => trivial) ?_
    clear hx24
    refine z_val (v := .pointer (some ⟨g_20, 135, none⟩)) (val_idx0 rfl rfl rfl Tryd.underlying117 sz5 (by decide) rfl) rfl rfl rfl (fun _ _ _ => trivial) ?_
    obtain ⟨y_20_28, hy_20_28, H⟩ := Let_elim H
    refine z_store1 (j := 0) (cs' := cV U8 y_20_28) (L' := [.blk g_20 117 (cV U8 y_20_28) 136, .blk g_2 115 (cV U64 y_2) 25, .blk g_1 47 (cV U8 (Vec.rep 32 0#8)) 32]) rfl rfl rfl rfl rfl sz5 rfl (by rw [cV_len]; exact (by decide)) (by subst hy_20_28; exact cV_set (f := U8) _ _ x24) rfl rfl rfl (fun _ _ _ => trivial) ?_
    clear hy_20_28
    refine z_nil ?_
    refine t_seq ?_
    refine t_plan (C := Mm w [] h [.blk g_20 117 (cV U8 y_20_28) 136, .blk g_2 115 (cV U64 y_2) 25, .blk g_1 47 (cV U8 (Vec.rep 32 0#8)) 32]) [3] [(0, true), (1, true), (2, false), (3, false)] (by kernel_rfl) (by kernel_rfl) (fun _ hw => hw.drew) (fun ops hops => ?_)
    clear hops
    refine z_still (v := .agg (cV U64 y_2).toArray) (val_loadR (off := 0) (cs := cV U64 y_2) rfl rfl Tryd.underlying115 rfl (sz115.trans (congrArg some (cV_len _).symm)) (fun _ hw => hw.whole (j := 1) rfl)) rfl rfl rfl (fun _ hw => hw) ?_
    obtain ⟨x27, hx27, H⟩ := Let_elim H
    have hln_33 : 0 ≤ 136 ∧ 136 ≤ 136 := by decide
    have hl_34 : x27.length = 136 - 0 := by subst hx27; exact sla_len _ hln_33.2
    obtain ⟨q_29, hq_30⟩ : ∃ z, z = (if 136 = 0 then 0 else 0) := ⟨_, rfl⟩
    obtain ⟨c_31, hc_320⟩ : ∃ z, z = 136 - 0 := ⟨_, rfl⟩
    have hc_32 : x27.length ≤ c_31 := by omega
    refine z_still (v := .slice (some ⟨g_20, q_29, none⟩) x27.length c_31) (val_sliceA (l := 0) (k := 136) rfl rfl Tryd.underlying117 sz5 (.inl ⟨rfl, rfl⟩) (.inl ⟨rfl, rfl⟩) hln_33.1 hln_33.2 (by rw [hl_34, hq_30, hc_320]; first | rfl | (congr 2; split <;> simp))) rfl rfl rfl (fun _ hw => hw) ?_
    obtain ⟨x28, hx_35, H⟩ := Option.bind_eq_some_iff.1 H
    refine z_made (v := .agg (cV U64 x28).toArray) rfl Tryd.func89 nm89 bs89 rfl (fun w hw => keccak_absorb.calls T1 T2 T3 y_2 x27 ((some ⟨g_20, q_29, none⟩)) c_31 x28 hx_35 w (sla_w hw (j := 0) rfl hq_30 hx27) hc_32 (hT1.toW hw) (hT2.toW hw) (hT3.toW hw)) rfl rfl rfl (fun _ _ hw => hw) ?_
    clear hx_35
    refine z_storeA (j := 1) (cs' := cV U64 x28) (L' := [.blk g_20 117 (cV U8 y_20_28) 136, .blk g_2 115 (cV U64 x28) 25, .blk g_1 47 (cV U8 (Vec.rep 32 0#8)) 32]) rfl rfl rfl (cV_one (fun _ => rfl) _) sz115 rfl (cV_len _) rfl rfl rfl (fun hb => absurd hb (by decide)) ?_
    refine z_nil ?_
    refine t_seq ?_
    refine t_region (fun ops hops => ?_)
    clear hops
    refine z_alloc (cs := cV U8 (Vec.rep 32 0#8)) (room := 32) rfl ze47 rfl (cV_len _) rfl rfl rfl (fun _ _ _ _ => trivial) (fun g_36 => ?_)
    refine z_nil ?_
    refine t_seq ?_
    refine t_seq ?_
    refine t_region (fun ops hops => ?_)
    clear hops
    refine z_val (v := .int .i64 0) (val_move rfl rfl) rfl rfl rfl (fun _ _ _ => trivial) ?_
    refine z_nil ?_
    refine t_block ?_
    obtain ⟨z1, hz1, HK1⟩ := Option.bind_eq_some_iff.1 H
    clear H
    refine t_while hz1 (fun (s : (Vec (BitVec 8) 32) × (Int)) (g : Unit) => [(2, .pointer (some ⟨g_1, 0, none⟩)), (3, .pointer (some ⟨g_2, 0, none⟩)), (6, .pointer (some ⟨g_36, 0, none⟩)), (29, .int .i64 s.2)]) (fun (s : (Vec (BitVec 8) 32) × (Int)) (g : Unit) => [(2, .pointer (some ⟨g_1, 0, none⟩)), (6, .pointer (some ⟨g_36, 0, none⟩))]) (fun (s : (Vec (BitVec 8) 32) × (Int)) (g : Unit) => Mm w [] h [.blk g_36 47 (cV U8 s.1) 32, .blk g_2 115 (cV U64 x28) 25, .blk g_1 47 (cV U8 (Vec.rep 32 0#8)) 32]) (fun (s : (Vec (BitVec 8) 32) × (Int)) (g : Unit) => Mm w [] h [.blk g_36 47 (cV U8 s.1) 32, .blk g_1 47 (cV U8 (Vec.rep 32 0#8)) 32]) (fun (s : (Vec (BitVec 8) 32) × (Int)) (g : Unit) => True) (fun (s : (Vec (BitVec 8) 32) × (Int)) (g : Unit) => True) () trivial (fun a w ha hw => ⟨ha.cons rfl (ha.cons rfl (ha.cons rfl (ha.cons rfl (ha.nil)))), hw.sel [0, 2, 3] rfl rfl⟩) (fun Gn Gb s g e hφ H hn1 hb1 hr1 => ?_) (fun s g hzz hφ => ?_)
    ·
      obtain ⟨y_36, x29⟩ := s
      change keccak_Sum.b2 x28 y_36 x29 = some e at H
      unfold keccak_Sum.b2 at H
      clear hz1
      change T 45 _ _ _
      refine t_seq ?_
      refine t_region (fun ops hops => ?_)
      clear hops
      obtain ⟨x30, hx30, H⟩ := Let_elim H
      refine z_val (v := .bool x30) (by subst hx30; exact val_bin rfl rfl rfl rfl (i64_lss _ _ _)) rfl rfl rfl (fun _ _ _ => trivial) ?_
      clear hx30
      refine z_nil ?_
      refine t_seq ?_
      cases x30
      ·
        replace H := cond_f H
        refine t_cond_false rfl ?_
        refine t_exit rfl ?_
        obtain rfl := Option.some.inj H
        exact t_reach ((hb1 _ () rfl trivial).weak (fun a ha => ha.cons rfl (ha.cons rfl (ha.nil))) (fun w hw => hw.sel [0, 2] rfl rfl))
      ·
        replace H := cond_t H
        refine t_cond_true rfl ?_
        refine t_skip ?_
        refine t_seq ?_
        refine t_block ?_
        refine t_seq ?_
        refine t_region (fun ops hops => ?_)
        clear hops
        refine z_val (v := .int .i64 x29) (val_move rfl rfl) rfl rfl rfl (fun _ _ _ => trivial) ?_
        refine z_val (v := .int .i64 x29) (val_assign rfl rfl) rfl rfl rfl (fun _ _ _ => trivial) ?_
        refine z_nil ?_
        refine t_region (fun ops hops => ?_)
        clear hops
        refine z_val (v := .int .i64 x29) (val_move rfl rfl) rfl rfl rfl (fun _ _ _ => trivial) ?_
        refine z_val (v := .int .i64 x29) (val_move rfl rfl) rfl rfl rfl (fun _ _ _ => trivial) ?_
        obtain ⟨x34, hx34, H⟩ := Let_elim H
        refine z_val (v := .int .i64 x34) (by subst hx34; exact val_bin rfl rfl rfl rfl (i64_quo _ _ _ (by decide))) rfl rfl rfl (fun _ _ _ => trivial) ?_
        clear hx34
        obtain ⟨hq_37, H⟩ := Chk_elim H
        refine z_val (v := .pointer (some ⟨g_2, x34.toNat, none⟩)) (val_idx0 rfl rfl rfl Tryd.underlying115 sz24 hq_37 rfl) rfl rfl rfl (fun _ _ _ => trivial) ?_
        obtain ⟨x36, hx36, H⟩ := Let_elim H
        refine z_val (v := U64 x36) (by subst hx36; exact val_load1 rfl rfl Tryd.underlying24 rfl (fun _ hw => hw.cell (j := 1) rfl (cV_at _ (idx_lt hq_37)))) rfl rfl rfl (fun _ _ _ => trivial) ?_
        clear hx36
        refine z_val (v := .int .i64 x29) (val_move rfl rfl) rfl rfl rfl (fun _ _ _ => trivial) ?_
        obtain ⟨x38, hx38, H⟩ := Let_elim H
        refine z_val (v := .int .i64 x38) (by subst hx38; exact val_bin rfl rfl rfl rfl (i64_rem _ _ _ (by decide))) rfl rfl rfl (fun _ _ _ => trivial) ?_
        clear hx38
        obtain ⟨x39, hx39, H⟩ := Let_elim H
        refine z_val (v := .int .i64 x39) (by subst hx39; exact val_bin rfl rfl rfl rfl (i64_mul _ _ _)) rfl rfl rfl (fun _ _ _ => trivial) ?_
        clear hx39
        obtain ⟨hq_38, H⟩ := Chk_elim H
        obtain ⟨x40, hx40, H⟩ := Let_elim H
        refine z_val (v := U64 x40) (by subst hx40; exact val_bin rfl rfl rfl rfl (u64_shr _ _ _ _ hq_38)) rfl rfl rfl (fun _ _ _ => trivial) ?_
        clear hx40
        obtain ⟨x41, hx41, H⟩ := Let_elim H
        refine z_val (v := U8 x41) (by subst hx41; exact val_conv rfl rfl (fun w => conv_u64_u8 w _ _ _ (by rw [Tryd.underlying24]; rfl) Tryd.underlying5)) rfl rfl rfl (fun _ _ _ => trivial) ?_
        clear hx41
        obtain ⟨hq_39, H⟩ := Chk_elim H
        refine z_val (v := .pointer (some ⟨g_36, x29.toNat, none⟩)) (val_idx0 rfl rfl rfl Tryd.underlying47 sz5 hq_39 rfl) rfl rfl rfl (fun _ _ _ => trivial) ?_
        obtain ⟨y_36_40, hy_36_40, H⟩ := Let_elim H
        refine z_store1 (j := 0) (cs' := cV U8 y_36_40) (L' := [.blk g_36 47 (cV U8 y_36_40) 32, .blk g_2 115 (cV U64 x28) 25, .blk g_1 47 (cV U8 (Vec.rep 32 0#8)) 32]) rfl rfl rfl rfl rfl sz5 rfl (by rw [cV_len]; exact (idx_lt hq_39)) (by subst hy_36_40; exact cV_set (f := U8) _ _ x41) rfl rfl rfl (fun _ _ _ => trivial) ?_
        clear hy_36_40
        refine z_nil ?_
        refine t_fin ?_
        refine t_region (fun ops hops => ?_)
        clear hops
        obtain ⟨x43, hx43, H⟩ := Let_elim H
        refine z_val (v := .int .i64 x43) (by subst hx43; exact val_bin rfl rfl rfl rfl (i64_add _ _ _)) rfl rfl rfl (fun _ _ _ => trivial) ?_
        clear hx43
        refine z_val (v := .int .i64 x43) (val_move rfl rfl) rfl rfl rfl (fun _ _ _ => trivial) ?_
        refine z_nil ?_
        obtain rfl := Option.some.inj H
        exact t_reach ((hn1 _ () rfl trivial).weak (fun a ha => ha.cons rfl (ha.cons rfl (ha.cons rfl (ha.cons rfl (ha.nil))))) (fun w hw => hw))
    ·
      obtain ⟨y_36, x29⟩ := s
      subst hzz
      have H := HK1
      clear HK1 hz1
      replace H := sum_l H
      try dsimp only at H
      change T 45 _ _ _
      refine t_seq ?_
      refine t_region (fun ops hops => ?_)
      clear hops
      refine z_val (v := .agg (cV U8 y_36).toArray) (val_loadR (off := 0) (cs := cV U8 y_36) rfl rfl Tryd.underlying47 rfl (sz47.trans (congrArg some (cV_len _).symm)) (fun _ hw => hw.whole (j := 0) rfl)) rfl rfl rfl (fun _ _ _ => trivial) ?_
      refine z_storeA (j := 1) (cs' := cV U8 y_36) (L' := [.blk g_36 47 (cV U8 y_36) 32, .blk g_1 47 (cV U8 y_36) 32]) rfl rfl rfl (cV_one (fun _ => rfl) _) sz47 rfl (cV_len _) rfl rfl rfl (fun _ _ _ => trivial) ?_
      refine z_nil ?_
      refine t_ret ?_
      obtain rfl := Option.some.inj H
      exact ret1 rfl (res_row (j := 1) rfl Tryd.underlying47 rfl sz47 rfl (cV_len _)) (fun _ hw => ⟨rfl, hw.below⟩)
def keccak_Word (T1 : Vec (BitVec 64) 24) (T2 : Vec (Int) 24) (T3 : Vec (Int) 24) (a0 : List (BitVec 8)) : Option (Vec (BitVec 64) 4) :=
  (keccak_Sum T1 T2 T3 a0).bind fun x5 => Let ((x5.l.take 32).drop 0) fun x6 => (word_From x6).bind fun x7 => some x7
set_option maxRecDepth 100000 in
theorem keccak_Word.calls (T1 : Vec (BitVec 64) 24) (T2 : Vec (Int) 24) (T3 : Vec (Int) 24) (a0 : List (BitVec 8)) (A0 : Option Addr) (c0 : Nat) (r : Vec (BitVec 64) 4) (H : keccak_Word T1 T2 T3 a0 = some r) (w : World) (hs0 : SlW w U8 A0 a0) (hc0 : a0.length ≤ c0) (hT1 : TabW w 1 U64 T1) (hT2 : TabW w 2 (Value.int .i64) T2) (hT3 : TabW w 3 (Value.int .i64) T3) :
    Made Tryd.prog 46 #[.slice A0 a0.length c0] w (.agg (cV U64 r).toArray) := by
  unfold keccak_Word at H
  replace hs0 := hs0.toH
  replace hT1 := hT1.toH
  replace hT2 := hT2.toH
  replace hT3 := hT3.toH
  have hM := Mm.start w (snap w) (snap_ok w)
  generalize snap w = h at *
  refine t_enter (vs := [.slice A0 a0.length c0]) (n := 8) Tryd.func46 rfl rfl rfl hM ?_
  clear hM
  change T 8 _ _ _
  refine t_seq ?_
  refine t_region (fun ops hops => ?_)
  clear hops
  refine z_alloc (cs := cV U64 (Vec.rep 4 0#64)) (room := 4) rfl ze26 rfl (cV_len _) rfl rfl rfl (fun _ _ _ _ => trivial) (fun g_1 => ?_)
  refine z_nil ?_
  refine t_seq ?_
  refine t_region (fun ops hops => ?_)
  clear hops
  refine z_val (v := .slice A0 a0.length c0) (val_move rfl rfl) rfl rfl rfl (fun _ _ _ => trivial) ?_
  obtain ⟨x5, hx, H⟩ := Option.bind_eq_some_iff.1 H
  refine z_made (v := .agg (cV U8 x5).toArray) rfl Tryd.func44 nm44 bs44 rfl (fun w hw => keccak_Sum.calls T1 T2 T3 a0 A0 c0 x5 hx w (hs0.toW hw) hc0 (hT1.toW hw) (hT2.toW hw) (hT3.toW hw)) rfl rfl rfl (fun _ _ _ => trivial) ?_
  clear hx
  refine z_alloc (cs := cV U8 (Vec.rep 32 0#8)) (room := 32) rfl ze47 rfl (cV_len _) rfl rfl rfl (fun _ _ _ _ => trivial) (fun g_2 => ?_)
  refine z_storeA (j := 0) (cs' := cV U8 x5) (L' := [.blk g_2 47 (cV U8 x5) 32, .blk g_1 26 (cV U64 (Vec.rep 4 0#64)) 4]) rfl rfl rfl (cV_one (fun _ => rfl) _) sz47 rfl (cV_len _) rfl rfl rfl (fun _ _ _ => trivial) ?_
  refine z_nil ?_
  refine t_seq ?_
  refine t_region (fun ops hops => ?_)
  clear hops
  obtain ⟨x6, hx6, H⟩ := Let_elim H
  have hln : 0 ≤ 32 ∧ 32 ≤ 32 := by decide
  have hl : x6.length = 32 - 0 := by subst hx6; exact sla_len _ hln.2
  obtain ⟨q_3, hq_4⟩ : ∃ z, z = (if 32 = 0 then 0 else 0) := ⟨_, rfl⟩
  obtain ⟨c_5, hc_60⟩ : ∃ z, z = 32 - 0 := ⟨_, rfl⟩
  have hc_6 : x6.length ≤ c_5 := by omega
  refine z_val (v := .slice (some ⟨g_2, q_3, none⟩) x6.length c_5) (val_sliceA (l := 0) (k := 32) rfl rfl Tryd.underlying47 sz5 (.inl ⟨rfl, rfl⟩) (.inl ⟨rfl, rfl⟩) hln.1 hln.2 (by rw [hl, hq_4, hc_60]; first | rfl | (congr 2; split <;> simp))) rfl rfl rfl (fun _ _ _ => trivial) ?_
  obtain ⟨x7, hx_7, H⟩ := Option.bind_eq_some_iff.1 H
  refine z_made (v := .agg (cV U64 x7).toArray) rfl Tryd.func51 nm51 bs51 rfl (fun w hw => word_From.calls x6 ((some ⟨g_2, q_3, none⟩)) c_5 x7 hx_7 w (sla_w hw (j := 0) rfl hq_4 hx6) hc_6) rfl rfl rfl (fun _ _ _ => trivial) ?_
  clear hx_7
  refine z_storeA (j := 1) (cs' := cV U64 x7) (L' := [.blk g_2 47 (cV U8 x5) 32, .blk g_1 26 (cV U64 x7) 4]) rfl rfl rfl (cV_one (fun _ => rfl) _) sz26 rfl (cV_len _) rfl rfl rfl (fun _ _ _ => trivial) ?_
  refine z_nil ?_
  refine t_ret ?_
  obtain rfl := Option.some.inj H
  exact ret1 rfl (res_row (j := 1) rfl Tryd.underlying26 rfl sz26 rfl (cV_len _)) (fun _ hw => ⟨rfl, hw.below⟩)
end Go.Proofs.YtapfkdcilfpbhaaDoor
