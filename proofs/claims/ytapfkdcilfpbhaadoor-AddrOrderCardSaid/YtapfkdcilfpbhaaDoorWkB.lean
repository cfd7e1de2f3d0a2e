/- Functions of the program as plain functions, and their walks, printed by walk.py. -/
import Derived.Test.YtapfkdcilfpbhaaDoorWkF
namespace Go.Proofs.YtapfkdcilfpbhaaDoor
open Go.RowKit
set_option linter.unusedVariables false
set_option linter.unusedSimpArgs false
def smithyref05_up (a0 : BitVec 64) (a1 : Int) : Option (BitVec 64) :=
  Let (Int.tmod a1 64) fun x6 => Let (x6 == 0) fun x8 => (bif x8 then some a0 else Chk (0 ≤ x6) <| Let (a0 <<< x6.toNat) fun x12 => Let (wi (64 - x6)) fun x15 => Chk (0 ≤ x15) <| Let (a0 >>> x15.toNat) fun x16 => Let (x12 ||| x16) fun x17 => some x17)
set_option maxRecDepth 100000 in
theorem smithyref05_up.calls (a0 : BitVec 64) (a1 : Int) (r : BitVec 64) (H : smithyref05_up a0 a1 = some r) (w : World)  :
    Made Tryd.prog 133 #[U64 a0, .int .i64 a1] w (U64 r) := by
  unfold smithyref05_up at H
  have hM := Mm.start w (snap w) (snap_ok w)
  generalize snap w = h at *
  refine t_enter (vs := [U64 a0, .int .i64 a1]) (n := 18) Tryd.func133 rfl rfl rfl hM ?_
  clear hM
  change T 18 _ _ _
  refine t_seq ?_
  refine t_region (fun ops hops => ?_)
  clear hops
  refine z_val (v := .int .u64 0) (val_assign rfl rfl) rfl rfl rfl (fun _ _ _ => trivial) ?_
  refine z_nil ?_
  refine t_seq ?_
  refine t_region (fun ops hops => ?_)
  clear hops
  refine z_val (v := .int .i64 a1) (val_move rfl rfl) rfl rfl rfl (fun _ _ _ => trivial) ?_
  obtain ⟨x6, hx6, H⟩ := Let_elim H
  refine z_val (v := .int .i64 x6) (by subst hx6; exact val_bin rfl rfl rfl rfl (i64_rem _ _ _ (by decide))) rfl rfl rfl (fun _ _ _ => trivial) ?_
  clear hx6
  refine z_val (v := .int .i64 x6) (val_assign rfl rfl) rfl rfl rfl (fun _ _ _ => trivial) ?_
  refine z_nil ?_
  refine t_seq ?_
  refine t_seq ?_
  refine t_region (fun ops hops => ?_)
  clear hops
  refine z_val (v := .int .i64 x6) (val_move rfl rfl) rfl rfl rfl (fun _ _ _ => trivial) ?_
  obtain ⟨x8, hx8, H⟩ := Let_elim H
  refine z_val (v := .bool x8) (by subst hx8; exact val_bin rfl rfl rfl rfl (i64_eql _ _ _)) rfl rfl rfl (fun _ _ _ => trivial) ?_
  clear hx8
  refine z_nil ?_
  cases x8
  ·
    replace H := cond_f H
    refine t_cond_false rfl ?_
    refine t_skip ?_
    refine t_seq ?_
    refine t_plan (C := Mm w [] h []) [] [(0, true), (1, true), (2, true), (3, true), (4, true), (5, true), (6, true), (7, true), (8, true)] (by kernel_rfl) (by kernel_rfl) (fun _ hw => hw.drew) (fun ops hops => ?_)
    clear hops
    refine z_still (v := U64 a0) (val_move rfl rfl) rfl rfl rfl (fun _ hw => hw) ?_
    refine z_still (v := .int .i64 x6) (val_move rfl rfl) rfl rfl rfl (fun _ hw => hw) ?_
    obtain ⟨hq_1, H⟩ := Chk_elim H
    obtain ⟨x12, hx12, H⟩ := Let_elim H
    refine z_still (v := U64 x12) (by subst hx12; exact val_bin rfl rfl rfl rfl (u64_shl _ _ _ _ hq_1)) rfl rfl rfl (fun _ hw => hw) ?_
    clear hx12
    refine z_still (v := U64 a0) (val_move rfl rfl) rfl rfl rfl (fun _ hw => hw) ?_
    refine z_still (v := .int .i64 x6) (val_move rfl rfl) rfl rfl rfl (fun _ hw => hw) ?_
    obtain ⟨x15, hx15, H⟩ := Let_elim H
    refine z_still (v := .int .i64 x15) (by subst hx15; exact val_bin rfl rfl rfl rfl (i64_sub _ _ _)) rfl rfl rfl (fun _ hw => hw) ?_
    clear hx15
    obtain ⟨hq_2, H⟩ := Chk_elim H
    obtain ⟨x16, hx16, H⟩ := Let_elim H
    refine z_still (v := U64 x16) (by subst hx16; exact val_bin rfl rfl rfl rfl (u64_shr _ _ _ _ hq_2)) rfl rfl rfl (fun _ hw => hw) ?_
    clear hx16
    obtain ⟨x17, hx17, H⟩ := Let_elim H
    refine z_still (v := U64 x17) (by subst hx17; exact val_bin rfl rfl rfl rfl (u64_or _ _ _)) rfl rfl rfl (fun _ hw => hw) ?_
    clear hx17
    refine z_still (v := U64 x17) (val_assign rfl rfl) rfl rfl rfl (fun _ hw => hw) ?_
    refine z_nil ?_
    refine t_ret ?_
    obtain rfl := Option.some.inj H
    exact ret1 rfl (res_tmp rfl) (fun _ hw => ⟨rfl, hw.below⟩)
  ·
    replace H := cond_t H
    refine t_cond_true rfl ?_
    refine t_seq ?_
    refine t_region (fun ops hops => ?_)
    clear hops
    refine z_val (v := U64 a0) (val_move rfl rfl) rfl rfl rfl (fun _ _ _ => trivial) ?_
    refine z_val (v := U64 a0) (val_assign rfl rfl) rfl rfl rfl (fun _ _ _ => trivial) ?_
    refine z_nil ?_
    refine t_ret ?_
    obtain rfl := Option.some.inj H
    exact ret1 rfl (res_tmp rfl) (fun _ hw => ⟨rfl, hw.below⟩)
def smithyref05_Constants.b2 (x3 : Int) (y_2_3 : Vec (BitVec 64) 24) (x2_4 : Int) (x4 : Int) : Option (Ctl ((Vec (BitVec 64) 24) × (Int) × (Int)) (Vec (BitVec 64) 24)) :=
  Let (decide (x4 < 7)) fun x11 => (bif x11 then Let (Int.tmod x2_4 2) fun x15 => Let (x15 == 1) fun x16 => (bif x16 then Chk (0 ≤ x3 ∧ x3 < ((24 : Nat) : Int)) <| Let (y_2_3.get x3.toNat) fun x20 => Chk (0 ≤ x4) <| Let (1#64 <<< x4.toNat) fun x22 => Let (x22 - 1#64) fun x23 => Let (1#64 <<< x23.toNat) fun x24 => Let (x20 ||| x24) fun x25 => Chk (0 ≤ x3 ∧ x3 < ((24 : Nat) : Int)) <| Let (y_2_3.set x3.toNat x25) fun y_2_9 => some y_2_9 else some y_2_3).bind (fun y_2_5 => Let (wi (x2_4 * 2)) fun x28 => Let (decide (256 ≤ x28)) fun x30 => (bif x30 then Let (Go.bits .xor .i64 x28 369) fun x32 => some x32 else some x28).bind (fun x2_10 => Let (wi (x4 + 1)) fun x13 => some (.next (y_2_5, x2_10, x13)))) else some (.brk (y_2_3, x2_4, x4)))
def smithyref05_Constants.b1  (y_2 : Vec (BitVec 64) 24) (x2 : Int) (x3 : Int) : Option (Ctl ((Vec (BitVec 64) 24) × (Int) × (Int)) (Vec (BitVec 64) 24)) :=
  Let (decide (x3 < 24)) fun x7 => (bif x7 then (wlx (σ := (Vec (BitVec 64) 24) × (Int) × (Int)) (fun s => smithyref05_Constants.b2 x3 s.1 s.2.1 s.2.2) (y_2, x2, 0)).bind (Sum.elim (fun s => (fun y_2_3 x2_4 x4 => Let (wi (x3 + 1)) fun x9 => some (.next (y_2_3, x2_4, x9))) s.1 s.2.1 s.2.2) (fun r => some (.ret r))) else some (.brk (y_2, x2, x3)))
def smithyref05_Constants  : Option (Vec (BitVec 64) 24) :=
  Let (Vec.rep 24 0#64) fun x5 => (wlx (σ := (Vec (BitVec 64) 24) × (Int) × (Int)) (fun s => smithyref05_Constants.b1 s.1 s.2.1 s.2.2) (x5, 1, 0)).bind (Sum.elim (fun s => (fun y_2 x2 x3 => some y_2) s.1 s.2.1 s.2.2) (fun r => some r))
set_option maxRecDepth 100000 in
theorem smithyref05_Constants.calls  (r : Vec (BitVec 64) 24) (H : smithyref05_Constants = some r) (w : World)  :
    Made Tryd.prog 114 #[] w (.agg (cV U64 r).toArray) := by
  unfold smithyref05_Constants at H
  have hM := Mm.start w (snap w) (snap_ok w)
  generalize snap w = h at *
  refine t_enter (vs := []) (n := 34) Tryd.func114 rfl rfl rfl hM ?_
  clear hM
  change T 34 _ _ _
  refine t_seq ?_
  refine t_region (fun ops hops => ?_)
  clear hops
  refine z_alloc (cs := cV U64 (Vec.rep 24 0#64)) (room := 24) rfl ze141 rfl (cV_len _) rfl rfl rfl (fun _ _ _ _ => trivial) (fun g_1 => ?_)
  refine z_nil ?_
  refine t_seq ?_
  refine t_region (fun ops hops => ?_)
  clear hops
  obtain ⟨x5, hx5, H⟩ := Let_elim H
  refine z_val (v := .agg (cV U64 x5).toArray) (by subst hx5; exact val_build (vs := []) rfl rfl (fun w => by kernel_rfl)) rfl rfl rfl (fun _ _ _ => trivial) ?_
  clear hx5
  refine z_alloc (cs := cV U64 (Vec.rep 24 0#64)) (room := 24) rfl ze141 rfl (cV_len _) rfl rfl rfl (fun _ _ _ _ => trivial) (fun g_2 => ?_)
  refine z_storeA (j := 0) (cs' := cV U64 x5) (L' := [.blk g_2 141 (cV U64 x5) 24, .blk g_1 141 (cV U64 (Vec.rep 24 0#64)) 24]) rfl rfl rfl (cV_one (fun _ => rfl) _) sz141 rfl (cV_len _) rfl rfl rfl (fun _ _ _ => trivial) ?_
  refine z_nil ?_
  refine t_seq ?_
  refine t_region (fun ops hops => ?_)
  clear hops
  refine z_val (v := .int .i64 1) (val_assign rfl rfl) rfl rfl rfl (fun _ _ _ => trivial) ?_
  refine z_nil ?_
  refine t_seq ?_
  refine t_seq ?_
  refine t_region (fun ops hops => ?_)
  clear hops
  refine z_val (v := .int .i64 0) (val_assign rfl rfl) rfl rfl rfl (fun _ _ _ => trivial) ?_
  refine z_nil ?_
  refine t_block ?_
  obtain ⟨z1, hz1, HK1⟩ := Option.bind_eq_some_iff.1 H
  clear H
  refine t_while hz1 (fun (s : (Vec (BitVec 64) 24) × (Int) × (Int)) (g : Unit) => [(0, .pointer (some ⟨g_1, 0, none⟩)), (1, .pointer (some ⟨g_2, 0, none⟩)), (2, .int .i64 s.2.1), (3, .int .i64 s.2.2)]) (fun (s : (Vec (BitVec 64) 24) × (Int) × (Int)) (g : Unit) => [(0, .pointer (some ⟨g_1, 0, none⟩)), (1, .pointer (some ⟨g_2, 0, none⟩))]) (fun (s : (Vec (BitVec 64) 24) × (Int) × (Int)) (g : Unit) => Mm w [] h [.blk g_2 141 (cV U64 s.1) 24, .blk g_1 141 (cV U64 (Vec.rep 24 0#64)) 24]) (fun (s : (Vec (BitVec 64) 24) × (Int) × (Int)) (g : Unit) => Mm w [] h [.blk g_2 141 (cV U64 s.1) 24, .blk g_1 141 (cV U64 (Vec.rep 24 0#64)) 24]) (fun (s : (Vec (BitVec 64) 24) × (Int) × (Int)) (g : Unit) => True) (fun (s : (Vec (BitVec 64) 24) × (Int) × (Int)) (g : Unit) => True) () trivial (fun a w ha hw => ⟨ha.cons rfl (ha.cons rfl (ha.cons rfl (ha.cons rfl (ha.nil)))), hw⟩) (fun Gn Gb s g e hφ H hn1 hb1 hr1 => ?_) (fun s g hzz hφ => ?_)
  ·
    obtain ⟨y_2, x2, x3⟩ := s
    change smithyref05_Constants.b1 y_2 x2 x3 = some e at H
    unfold smithyref05_Constants.b1 at H
    clear hz1
    change T 34 _ _ _
    refine t_seq ?_
    refine t_seq ?_
    refine t_region (fun ops hops => ?_)
    clear hops
    refine z_val (v := .int .i64 x3) (val_move rfl rfl) rfl rfl rfl (fun _ _ _ => trivial) ?_
    obtain ⟨x7, hx7, H⟩ := Let_elim H
    refine z_val (v := .bool x7) (by subst hx7; exact val_bin rfl rfl rfl rfl (i64_lss _ _ _)) rfl rfl rfl (fun _ _ _ => trivial) ?_
    clear hx7
    refine z_nil ?_
    cases x7
    ·
      replace H := cond_f H
      refine t_cond_false rfl ?_
      refine t_exit rfl ?_
      obtain rfl := Option.some.inj H
      exact t_reach ((hb1 _ () rfl trivial).weak (fun a ha => ha.cons rfl (ha.cons rfl (ha.nil))) (fun w hw => hw))
    ·
      replace H := cond_t H
      refine t_cond_true rfl ?_
      refine t_skip ?_
      refine t_seq ?_
      refine t_block ?_
      refine t_seq ?_
      refine t_region (fun ops hops => ?_)
      clear hops
      refine z_val (v := .int .i64 0) (val_assign rfl rfl) rfl rfl rfl (fun _ _ _ => trivial) ?_
      refine z_nil ?_
      refine t_block ?_
      obtain ⟨z2, hz2, HK2⟩ := Option.bind_eq_some_iff.1 H
      clear H
      refine t_while hz2 (fun (s : (Vec (BitVec 64) 24) × (Int) × (Int)) (g : Unit) => [(0, .pointer (some ⟨g_1, 0, none⟩)), (1, .pointer (some ⟨g_2, 0, none⟩)), (2, .int .i64 s.2.1), (3, .int .i64 x3), (4, .int .i64 s.2.2)]) (fun (s : (Vec (BitVec 64) 24) × (Int) × (Int)) (g : Unit) => [(0, .pointer (some ⟨g_1, 0, none⟩)), (1, .pointer (some ⟨g_2, 0, none⟩)), (2, .int .i64 s.2.1), (3, .int .i64 x3)]) (fun (s : (Vec (BitVec 64) 24) × (Int) × (Int)) (g : Unit) => Mm w [] h [.blk g_2 141 (cV U64 s.1) 24, .blk g_1 141 (cV U64 (Vec.rep 24 0#64)) 24]) (fun (s : (Vec (BitVec 64) 24) × (Int) × (Int)) (g : Unit) => Mm w [] h [.blk g_2 141 (cV U64 s.1) 24, .blk g_1 141 (cV U64 (Vec.rep 24 0#64)) 24]) (fun (s : (Vec (BitVec 64) 24) × (Int) × (Int)) (g : Unit) => True) (fun (s : (Vec (BitVec 64) 24) × (Int) × (Int)) (g : Unit) => True) () trivial (fun a w ha hw => ⟨ha.cons rfl (ha.cons rfl (ha.cons rfl (ha.cons rfl (ha.cons rfl (ha.nil))))), hw⟩) (fun Gn Gb s g e hφ H hn2 hb2 hr2 => ?_) (fun s g hzz hφ => ?_)
      ·
        obtain ⟨y_2_3, x2_4, x4⟩ := s
        change smithyref05_Constants.b2 x3 y_2_3 x2_4 x4 = some e at H
        unfold smithyref05_Constants.b2 at H
        clear hz2
        change T 34 _ _ _
        refine t_seq ?_
        refine t_seq ?_
        refine t_region (fun ops hops => ?_)
        clear hops
        refine z_val (v := .int .i64 x4) (val_move rfl rfl) rfl rfl rfl (fun _ _ _ => trivial) ?_
        obtain ⟨x11, hx11, H⟩ := Let_elim H
        refine z_val (v := .bool x11) (by subst hx11; exact val_bin rfl rfl rfl rfl (i64_lss _ _ _)) rfl rfl rfl (fun _ _ _ => trivial) ?_
        clear hx11
        refine z_nil ?_
        cases x11
        ·
          replace H := cond_f H
          refine t_cond_false rfl ?_
          refine t_exit rfl ?_
          obtain rfl := Option.some.inj H
          exact t_reach ((hb2 _ () rfl trivial).weak (fun a ha => ha.cons rfl (ha.cons rfl (ha.cons rfl (ha.cons rfl (ha.nil))))) (fun w hw => hw))
        ·
          replace H := cond_t H
          refine t_cond_true rfl ?_
          refine t_skip ?_
          refine t_seq ?_
          refine t_block ?_
          refine t_seq ?_
          refine t_seq ?_
          refine t_region (fun ops hops => ?_)
          clear hops
          refine z_val (v := .int .i64 x2_4) (val_move rfl rfl) rfl rfl rfl (fun _ _ _ => trivial) ?_
          obtain ⟨x15, hx15, H⟩ := Let_elim H
          refine z_val (v := .int .i64 x15) (by subst hx15; exact val_bin rfl rfl rfl rfl (i64_rem _ _ _ (by decide))) rfl rfl rfl (fun _ _ _ => trivial) ?_
          clear hx15
          obtain ⟨x16, hx16, H⟩ := Let_elim H
          refine z_val (v := .bool x16) (by subst hx16; exact val_bin rfl rfl rfl rfl (i64_eql _ _ _)) rfl rfl rfl (fun _ _ _ => trivial) ?_
          clear hx16
          refine z_nil ?_
          refine t_bind H (fun (s : (Vec (BitVec 64) 24)) (g : Unit) => [(0, .pointer (some ⟨g_1, 0, none⟩)), (1, .pointer (some ⟨g_2, 0, none⟩)), (2, .int .i64 x2_4), (3, .int .i64 x3), (4, .int .i64 x4)]) (fun (s : (Vec (BitVec 64) 24)) (g : Unit) => Mm w [] h [.blk g_2 141 (cV U64 s) 24, .blk g_1 141 (cV U64 (Vec.rep 24 0#64)) 24]) (fun (s : (Vec (BitVec 64) 24)) (g : Unit) => True) (fun Gr K s he HJ => ?_) (fun s g HB hφ => ?_)
          ·
            clear H
            cases x16
            ·
              have H := cond_f he
              clear he
              refine t_cond_false rfl ?_
              refine t_skip ?_
              obtain rfl := Option.some.inj H
              exact t_reach ((K _ () HJ trivial).weak (fun a ha => ha.cons rfl (ha.cons rfl (ha.cons rfl (ha.cons rfl (ha.cons rfl (ha.nil)))))) (fun w hw => hw))
            ·
              have H := cond_t he
              clear he
              refine t_cond_true rfl ?_
              refine t_plan (C := Mm w [] h [.blk g_2 141 (cV U64 y_2_3) 24, .blk g_1 141 (cV U64 (Vec.rep 24 0#64)) 24]) [10] [(0, true), (1, true), (2, true), (3, true), (4, true), (5, true), (6, true), (7, true), (8, true), (9, true), (10, false)] (by kernel_rfl) (by kernel_rfl) (fun _ hw => hw.drew) (fun ops hops => ?_)
              clear hops
              refine z_still (v := .int .i64 x3) (val_move rfl rfl) rfl rfl rfl (fun _ hw => hw) ?_
              refine z_still (v := .int .i64 x3) (val_move rfl rfl) rfl rfl rfl (fun _ hw => hw) ?_
              obtain ⟨hq_6, H⟩ := Chk_elim H
              refine z_still (v := .pointer (some ⟨g_2, x3.toNat, none⟩)) (val_idx0 rfl rfl rfl Tryd.underlying141 sz24 hq_6 rfl) rfl rfl rfl (fun _ hw => hw) ?_
              obtain ⟨x20, hx20, H⟩ := Let_elim H
              refine z_still (v := U64 x20) (by subst hx20; exact val_load1 rfl rfl Tryd.underlying24 rfl (fun _ hw => hw.cell (j := 0) rfl (cV_at _ (idx_lt hq_6)))) rfl rfl rfl (fun _ hw => hw) ?_
              clear hx20
              refine z_still (v := .int .i64 x4) (val_move rfl rfl) rfl rfl rfl (fun _ hw => hw) ?_
              obtain ⟨hq_7, H⟩ := Chk_elim H
              obtain ⟨x22, hx22, H⟩ := Let_elim H
              refine z_still (v := U64 x22) (by subst hx22; exact val_bin rfl rfl rfl rfl (u64_shl _ _ _ (1#64) hq_7)) rfl rfl rfl (fun _ hw => hw) ?_
              clear hx22
              obtain ⟨x23, hx23, H⟩ := Let_elim H
              refine z_still (v := U64 x23) (by subst hx23; exact val_bin rfl rfl rfl rfl (u64_sub_r _ _ _)) rfl rfl rfl (fun _ hw => hw) ?_
              clear hx23
              obtain ⟨x24, hx24, H⟩ := Let_elim H
              refine z_still (v := U64 x24) (by subst hx24; exact val_bin rfl rfl rfl rfl (u64_shl_u64 _ (1#64) _)) rfl rfl rfl (fun _ hw => hw) ?_
              clear hx24
              obtain ⟨x25, hx25, H⟩ := Let_elim H
              refine z_still (v := U64 x25) (by subst hx25; exact val_bin rfl rfl rfl rfl (u64_or _ _ _)) rfl rfl rfl (fun _ hw => hw) ?_
              clear hx25
              obtain ⟨hq_8, H⟩ := Chk_elim H
              refine z_still (v := .pointer (some ⟨g_2, x3.toNat, none⟩)) (val_idx0 rfl rfl rfl Tryd.underlying141 sz24 hq_8 rfl) rfl rfl rfl (fun _ hw => hw) ?_
              obtain ⟨y_2_9, hy_2_9, H⟩ := Let_elim H
              refine z_store1 (j := 0) (cs' := cV U64 y_2_9) (L' := [.blk g_2 141 (cV U64 y_2_9) 24, .blk g_1 141 (cV U64 (Vec.rep 24 0#64)) 24]) rfl rfl rfl rfl rfl sz24 rfl (by rw [cV_len]; exact (idx_lt hq_8)) (by subst hy_2_9; exact cV_set (f := U64) _ _ x25) rfl rfl rfl (fun hb => absurd hb (by decide)) ?_
              clear hy_2_9
              refine z_nil ?_
              obtain rfl := Option.some.inj H
              exact t_reach ((K _ () HJ trivial).weak (fun a ha => ha.cons rfl (ha.cons rfl (ha.cons rfl (ha.cons rfl (ha.cons rfl (ha.nil)))))) (fun w hw => hw))
          ·
            replace H := HB
            clear HB
            obtain ⟨y_2_5, rfl⟩ : ∃ x, x = s := ⟨_, rfl⟩
            try dsimp only at H
            change T 34 _ _ _
            refine t_seq ?_
            refine t_region (fun ops hops => ?_)
            clear hops
            refine z_val (v := .int .i64 x2_4) (val_move rfl rfl) rfl rfl rfl (fun _ _ _ => trivial) ?_
            obtain ⟨x28, hx28, H⟩ := Let_elim H
            refine z_val (v := .int .i64 x28) (by subst hx28; exact val_bin rfl rfl rfl rfl (i64_mul _ _ _)) rfl rfl rfl (fun _ _ _ => trivial) ?_
            clear hx28
            refine z_val (v := .int .i64 x28) (val_assign rfl rfl) rfl rfl rfl (fun _ _ _ => trivial) ?_
            refine z_nil ?_
            refine t_seq ?_
            refine t_region (fun ops hops => ?_)
            clear hops
            refine z_val (v := .int .i64 x28) (val_move rfl rfl) rfl rfl rfl (fun _ _ _ => trivial) ?_
            obtain ⟨x30, hx30, H⟩ := Let_elim H
            refine z_val (v := .bool x30) (by subst hx30; exact val_bin rfl rfl rfl rfl (i64_geq _ _ _)) rfl rfl rfl (fun _ _ _ => trivial) ?_
            clear hx30
            refine z_nil ?_
            refine t_bind H (fun (s : (Int)) (g : Unit) => [(0, .pointer (some ⟨g_1, 0, none⟩)), (1, .pointer (some ⟨g_2, 0, none⟩)), (2, .int .i64 s), (3, .int .i64 x3), (4, .int .i64 x4)]) (fun (s : (Int)) (g : Unit) => Mm w [] h [.blk g_2 141 (cV U64 y_2_5) 24, .blk g_1 141 (cV U64 (Vec.rep 24 0#64)) 24]) (fun (s : (Int)) (g : Unit) => True) (fun Gr K s he HJ => ?_) (fun s g HB hφ => ?_)
            ·
              clear H
              cases x30
              ·
                have H := cond_f he
                clear he
                refine t_cond_false rfl ?_
                refine t_skip ?_
                obtain rfl := Option.some.inj H
                exact t_reach ((K _ () HJ trivial).weak (fun a ha => ha.cons rfl (ha.cons rfl (ha.cons rfl (ha.cons rfl (ha.cons rfl (ha.nil)))))) (fun w hw => hw))
              ·
                have H := cond_t he
                clear he
                refine t_cond_true rfl ?_
                refine t_region (fun ops hops => ?_)
                clear hops
                refine z_val (v := .int .i64 x28) (val_move rfl rfl) rfl rfl rfl (fun _ _ _ => trivial) ?_
                obtain ⟨x32, hx32, H⟩ := Let_elim H
                refine z_val (v := .int .i64 x32) (by subst hx32; exact val_bin rfl rfl rfl rfl (i64_xor _ _ _)) rfl rfl rfl (fun _ _ _ => trivial) ?_
                clear hx32
                refine z_val (v := .int .i64 x32) (val_assign rfl rfl) rfl rfl rfl (fun _ _ _ => trivial) ?_
                refine z_nil ?_
                obtain rfl := Option.some.inj H
                exact t_reach ((K _ () HJ trivial).weak (fun a ha => ha.cons rfl (ha.cons rfl (ha.cons rfl (ha.cons rfl (ha.cons rfl (ha.nil)))))) (fun w hw => hw))
            ·
              replace H := HB
              clear HB
              obtain ⟨x2_10, rfl⟩ : ∃ x, x = s := ⟨_, rfl⟩
              try dsimp only at H
              change T 34 _ _ _
              refine t_fin ?_
              refine t_region (fun ops hops => ?_)
              clear hops
              refine z_val (v := .int .i64 x4) (val_move rfl rfl) rfl rfl rfl (fun _ _ _ => trivial) ?_
              obtain ⟨x13, hx13, H⟩ := Let_elim H
              refine z_val (v := .int .i64 x13) (by subst hx13; exact val_bin rfl rfl rfl rfl (i64_add _ _ _)) rfl rfl rfl (fun _ _ _ => trivial) ?_
              clear hx13
              refine z_val (v := .int .i64 x13) (val_assign rfl rfl) rfl rfl rfl (fun _ _ _ => trivial) ?_
              refine z_nil ?_
              obtain rfl := Option.some.inj H
              exact t_reach ((hn2 _ () rfl trivial).weak (fun a ha => ha.cons rfl (ha.cons rfl (ha.cons rfl (ha.cons rfl (ha.cons rfl (ha.nil)))))) (fun w hw => hw))
      ·
        obtain ⟨y_2_3, x2_4, x4⟩ := s
        subst hzz
        have H := HK2
        clear HK2 hz2
        replace H := sum_l H
        try dsimp only at H
        change T 34 _ _ _
        refine t_fin ?_
        refine t_region (fun ops hops => ?_)
        clear hops
        refine z_val (v := .int .i64 x3) (val_move rfl rfl) rfl rfl rfl (fun _ _ _ => trivial) ?_
        obtain ⟨x9, hx9, H⟩ := Let_elim H
        refine z_val (v := .int .i64 x9) (by subst hx9; exact val_bin rfl rfl rfl rfl (i64_add _ _ _)) rfl rfl rfl (fun _ _ _ => trivial) ?_
        clear hx9
        refine z_val (v := .int .i64 x9) (val_assign rfl rfl) rfl rfl rfl (fun _ _ _ => trivial) ?_
        refine z_nil ?_
        obtain rfl := Option.some.inj H
        exact t_reach ((hn1 _ () rfl trivial).weak (fun a ha => ha.cons rfl (ha.cons rfl (ha.cons rfl (ha.cons rfl (ha.nil))))) (fun w hw => hw))
  ·
    obtain ⟨y_2, x2, x3⟩ := s
    subst hzz
    have H := HK1
    clear HK1 hz1
    replace H := sum_l H
    try dsimp only at H
    change T 34 _ _ _
    refine t_seq ?_
    refine t_region (fun ops hops => ?_)
    clear hops
    refine z_val (v := .agg (cV U64 y_2).toArray) (val_loadR (off := 0) (cs := cV U64 y_2) rfl rfl Tryd.underlying141 rfl (sz141.trans (congrArg some (cV_len _).symm)) (fun _ hw => hw.whole (j := 0) rfl)) rfl rfl rfl (fun _ _ _ => trivial) ?_
    refine z_storeA (j := 1) (cs' := cV U64 y_2) (L' := [.blk g_2 141 (cV U64 y_2) 24, .blk g_1 141 (cV U64 y_2) 24]) rfl rfl rfl (cV_one (fun _ => rfl) _) sz141 rfl (cV_len _) rfl rfl rfl (fun _ _ _ => trivial) ?_
    refine z_nil ?_
    refine t_ret ?_
    obtain rfl := Option.some.inj H
    exact ret1 rfl (res_row (j := 1) rfl Tryd.underlying141 rfl sz141 rfl (cV_len _)) (fun _ hw => ⟨rfl, hw.below⟩)
def smithyref05_Round.b2 (x6 : Int) (a0 : Vec (BitVec 64) 25) (y_3_4 : Vec (BitVec 64) 5) (x7 : Int) : Option (Ctl ((Vec (BitVec 64) 5) × (Int)) (Vec (BitVec 64) 25)) :=
  Let (decide (x7 < 5)) fun x25 => (bif x25 then Chk (0 ≤ x6 ∧ x6 < ((5 : Nat) : Int)) <| Let (y_3_4.get x6.toNat) fun x31 => Let (wi (5 * x7)) fun x34 => Let (wi (x6 + x34)) fun x35 => Chk (0 ≤ x35 ∧ x35 < ((25 : Nat) : Int)) <| Let (a0.get x35.toNat) fun x37 => Let (x31 ^^^ x37) fun x38 => Chk (0 ≤ x6 ∧ x6 < ((5 : Nat) : Int)) <| Let (y_3_4.set x6.toNat x38) fun y_3_8 => Let (wi (x7 + 1)) fun x27 => some (.next (y_3_8, x27)) else some (.brk (y_3_4, x7)))
def smithyref05_Round.b1 (a0 : Vec (BitVec 64) 25) (y_3 : Vec (BitVec 64) 5) (x6 : Int) : Option (Ctl ((Vec (BitVec 64) 5) × (Int)) (Vec (BitVec 64) 25)) :=
  Let (decide (x6 < 5)) fun x21 => (bif x21 then (wlx (σ := (Vec (BitVec 64) 5) × (Int)) (fun s => smithyref05_Round.b2 x6 a0 s.1 s.2) (y_3, 0)).bind (Sum.elim (fun s => (fun y_3_4 x7 => Let (wi (x6 + 1)) fun x23 => some (.next (y_3_4, x23))) s.1 s.2) (fun r => some (.ret r))) else some (.brk (y_3, x6)))
def smithyref05_Round.b4 (x9 : Int) (a0 : Vec (BitVec 64) 25) (y_3 : Vec (BitVec 64) 5) (y_9_10 : Vec (BitVec 64) 25) (x10 : Int) : Option (Ctl ((Vec (BitVec 64) 25) × (Int)) (Vec (BitVec 64) 25)) :=
  Let (decide (x10 < 5)) fun x46 => (bif x46 then Let (wi (5 * x10)) fun x51 => Let (wi (x9 + x51)) fun x52 => Let (wi (5 * x10)) fun x55 => Let (wi (x9 + x55)) fun x56 => Chk (0 ≤ x56 ∧ x56 < ((25 : Nat) : Int)) <| Let (a0.get x56.toNat) fun x58 => Let (wi (x9 + 4)) fun x60 => Let (Int.tmod x60 5) fun x61 => Chk (0 ≤ x61 ∧ x61 < ((5 : Nat) : Int)) <| Let (y_3.get x61.toNat) fun x63 => Let (x58 ^^^ x63) fun x64 => Let (wi (x9 + 1)) fun x66 => Let (Int.tmod x66 5) fun x67 => Chk (0 ≤ x67 ∧ x67 < ((5 : Nat) : Int)) <| Let (y_3.get x67.toNat) fun x69 => (smithyref05_up x69 1).bind fun x70 => Let (x64 ^^^ x70) fun x71 => Chk (0 ≤ x52 ∧ x52 < ((25 : Nat) : Int)) <| Let (y_9_10.set x52.toNat x71) fun y_9_15 => Let (wi (x10 + 1)) fun x48 => some (.next (y_9_15, x48)) else some (.brk (y_9_10, x10)))
def smithyref05_Round.b3 (a0 : Vec (BitVec 64) 25) (y_3 : Vec (BitVec 64) 5) (y_9 : Vec (BitVec 64) 25) (x9 : Int) : Option (Ctl ((Vec (BitVec 64) 25) × (Int)) (Vec (BitVec 64) 25)) :=
  Let (decide (x9 < 5)) fun x42 => (bif x42 then (wlx (σ := (Vec (BitVec 64) 25) × (Int)) (fun s => smithyref05_Round.b4 x9 a0 y_3 s.1 s.2) (y_9, 0)).bind (Sum.elim (fun s => (fun y_9_10 x10 => Let (wi (x9 + 1)) fun x44 => some (.next (y_9_10, x44))) s.1 s.2) (fun r => some (.ret r))) else some (.brk (y_9, x9)))
def smithyref05_Round.b5 (y_9 : Vec (BitVec 64) 25) (y_16_17 : Vec (BitVec 64) 25) (x12 : Int) (x13 : Int) (x14 : Int) : Option (Ctl ((Vec (BitVec 64) 25) × (Int) × (Int) × (Int)) (Vec (BitVec 64) 25)) :=
  Let (decide (x14 < 24)) fun x78 => (bif x78 then Let (wi (2 * x12)) fun x83 => Let (wi (3 * x13)) fun x85 => Let (wi (x83 + x85)) fun x86 => Let (Int.tmod x86 5) fun x87 => Let (wi (5 * x87)) fun x88 => Let (wi (x13 + x88)) fun x89 => Let (wi (5 * x13)) fun x92 => Let (wi (x12 + x92)) fun x93 => Chk (0 ≤ x93 ∧ x93 < ((25 : Nat) : Int)) <| Let (y_9.get x93.toNat) fun x95 => Let (wi (x14 + 1)) fun x97 => Let (wi (x14 + 2)) fun x99 => Let (wi (x97 * x99)) fun x100 => Let (wi (Int.tdiv x100 2)) fun x101 => (smithyref05_up x95 x101).bind fun x102 => Chk (0 ≤ x89 ∧ x89 < ((25 : Nat) : Int)) <| Let (y_16_17.set x89.toNat x102) fun y_16_21 => Let (wi (2 * x12)) fun x105 => Let (wi (3 * x13)) fun x107 => Let (wi (x105 + x107)) fun x108 => Let (Int.tmod x108 5) fun x109 => Let (wi (x14 + 1)) fun x80 => some (.next (y_16_21, x13, x109, x80)) else some (.brk (y_16_17, x12, x13, x14)))
def smithyref05_Round.b7 (x17 : Int) (y_16_17 : Vec (BitVec 64) 25) (y_22_23 : Vec (BitVec 64) 25) (x18 : Int) : Option (Ctl ((Vec (BitVec 64) 25) × (Int)) (Vec (BitVec 64) 25)) :=
  Let (decide (x18 < 5)) fun x118 => (bif x118 then Let (wi (5 * x18)) fun x123 => Let (wi (x17 + x123)) fun x124 => Let (wi (5 * x18)) fun x127 => Let (wi (x17 + x127)) fun x128 => Chk (0 ≤ x128 ∧ x128 < ((25 : Nat) : Int)) <| Let (y_16_17.get x128.toNat) fun x130 => Let (wi (x17 + 1)) fun x132 => Let (Int.tmod x132 5) fun x133 => Let (wi (5 * x18)) fun x135 => Let (wi (x133 + x135)) fun x136 => Chk (0 ≤ x136 ∧ x136 < ((25 : Nat) : Int)) <| Let (y_16_17.get x136.toNat) fun x138 => Let (18446744073709551615#64 - x138) fun x139 => Let (wi (x17 + 2)) fun x141 => Let (Int.tmod x141 5) fun x142 => Let (wi (5 * x18)) fun x144 => Let (wi (x142 + x144)) fun x145 => Chk (0 ≤ x145 ∧ x145 < ((25 : Nat) : Int)) <| Let (y_16_17.get x145.toNat) fun x147 => Let (x139 &&& x147) fun x148 => Let (x130 ^^^ x148) fun x149 => Chk (0 ≤ x124 ∧ x124 < ((25 : Nat) : Int)) <| Let (y_22_23.set x124.toNat x149) fun y_22_28 => Let (wi (x18 + 1)) fun x120 => some (.next (y_22_28, x120)) else some (.brk (y_22_23, x18)))
def smithyref05_Round.b6 (y_16_17 : Vec (BitVec 64) 25) (y_22 : Vec (BitVec 64) 25) (x17 : Int) : Option (Ctl ((Vec (BitVec 64) 25) × (Int)) (Vec (BitVec 64) 25)) :=
  Let (decide (x17 < 5)) fun x114 => (bif x114 then (wlx (σ := (Vec (BitVec 64) 25) × (Int)) (fun s => smithyref05_Round.b7 x17 y_16_17 s.1 s.2) (y_22, 0)).bind (Sum.elim (fun s => (fun y_22_23 x18 => Let (wi (x17 + 1)) fun x116 => some (.next (y_22_23, x116))) s.1 s.2) (fun r => some (.ret r))) else some (.brk (y_22, x17)))
def smithyref05_Round (a0 : Vec (BitVec 64) 25) (a1 : BitVec 64) : Option (Vec (BitVec 64) 25) :=
  Let (Vec.rep 5 0#64) fun x19 => (wlx (σ := (Vec (BitVec 64) 5) × (Int)) (fun s => smithyref05_Round.b1 a0 s.1 s.2) (x19, 0)).bind (Sum.elim (fun s => (fun y_3 x6 => Let (Vec.rep 25 0#64) fun x40 => (wlx (σ := (Vec (BitVec 64) 25) × (Int)) (fun s => smithyref05_Round.b3 a0 y_3 s.1 s.2) (x40, 0)).bind (Sum.elim (fun s => (fun y_9 x9 => Let (Vec.rep 25 0#64) fun x73 => Let (y_9.get 0) fun x75 => Let (x73.set 0 x75) fun y_16 => (wlx (σ := (Vec (BitVec 64) 25) × (Int) × (Int) × (Int)) (fun s => smithyref05_Round.b5 y_9 s.1 s.2.1 s.2.2.1 s.2.2.2) (y_16, 1, 0, 0)).bind (Sum.elim (fun s => (fun y_16_17 x12 x13 x14 => Let (Vec.rep 25 0#64) fun x112 => (wlx (σ := (Vec (BitVec 64) 25) × (Int)) (fun s => smithyref05_Round.b6 y_16_17 s.1 s.2) (x112, 0)).bind (Sum.elim (fun s => (fun y_22 x17 => Let (y_22.get 0) fun x152 => Let (x152 ^^^ a1) fun x154 => Let (y_22.set 0 x154) fun y_22_29 => some y_22_29) s.1 s.2) (fun r => some r))) s.1 s.2.1 s.2.2.1 s.2.2.2) (fun r => some r))) s.1 s.2) (fun r => some r))) s.1 s.2) (fun r => some r))
set_option maxRecDepth 100000 in
theorem smithyref05_Round.calls (a0 : Vec (BitVec 64) 25) (a1 : BitVec 64) (r : Vec (BitVec 64) 25) (H : smithyref05_Round a0 a1 = some r) (w : World)  :
    Made Tryd.prog 115 #[.agg (cV U64 a0).toArray, U64 a1] w (.agg (cV U64 r).toArray) := by
  unfold smithyref05_Round at H
  have hM := Mm.start w (snap w) (snap_ok w)
  generalize snap w = h at *
  refine t_enter (vs := [.agg (cV U64 a0).toArray, U64 a1]) (n := 157) Tryd.func115 rfl rfl rfl hM ?_
  clear hM
  change T 157 _ _ _
  refine t_seq ?_
  refine t_region (fun ops hops => ?_)
  clear hops
  refine z_box (cs := cV U64 a0) (room := 25) rfl rfl rfl (cV_len _) rfl rfl rfl (fun _ _ _ _ => trivial) (fun g_1 => ?_)
  refine z_alloc (cs := cV U64 (Vec.rep 25 0#64)) (room := 25) rfl ze115 rfl (cV_len _) rfl rfl rfl (fun _ _ _ _ => trivial) (fun g_2 => ?_)
  refine z_nil ?_
  refine t_seq ?_
  refine t_region (fun ops hops => ?_)
  clear hops
  obtain ⟨x19, hx19, H⟩ := Let_elim H
  refine z_val (v := .agg (cV U64 x19).toArray) (by subst hx19; exact val_build (vs := []) rfl rfl (fun w => by kernel_rfl)) rfl rfl rfl (fun _ _ _ => trivial) ?_
  clear hx19
  refine z_alloc (cs := cV U64 (Vec.rep 5 0#64)) (room := 5) rfl ze161 rfl (cV_len _) rfl rfl rfl (fun _ _ _ _ => trivial) (fun g_3 => ?_)
  refine z_storeA (j := 0) (cs' := cV U64 x19) (L' := [.blk g_3 161 (cV U64 x19) 5, .blk g_2 115 (cV U64 (Vec.rep 25 0#64)) 25, .blk g_1 115 (cV U64 a0) 25]) rfl rfl rfl (cV_one (fun _ => rfl) _) sz161 rfl (cV_len _) rfl rfl rfl (fun _ _ _ => trivial) ?_
  refine z_nil ?_
  refine t_seq ?_
  refine t_seq ?_
  refine t_region (fun ops hops => ?_)
  clear hops
  refine z_val (v := .int .i64 0) (val_assign rfl rfl) rfl rfl rfl (fun _ _ _ => trivial) ?_
  refine z_nil ?_
  refine t_block ?_
  obtain ⟨z1, hz1, HK1⟩ := Option.bind_eq_some_iff.1 H
  clear H
  refine t_while hz1 (fun (s : (Vec (BitVec 64) 5) × (Int)) (g : Unit) => [(1, U64 a1), (2, .pointer (some ⟨g_1, 0, none⟩)), (4, .pointer (some ⟨g_2, 0, none⟩)), (5, .pointer (some ⟨g_3, 0, none⟩)), (6, .int .i64 s.2)]) (fun (s : (Vec (BitVec 64) 5) × (Int)) (g : Unit) => [(1, U64 a1), (2, .pointer (some ⟨g_1, 0, none⟩)), (4, .pointer (some ⟨g_2, 0, none⟩)), (5, .pointer (some ⟨g_3, 0, none⟩))]) (fun (s : (Vec (BitVec 64) 5) × (Int)) (g : Unit) => Mm w [] h [.blk g_3 161 (cV U64 s.1) 5, .blk g_2 115 (cV U64 (Vec.rep 25 0#64)) 25, .blk g_1 115 (cV U64 a0) 25]) (fun (s : (Vec (BitVec 64) 5) × (Int)) (g : Unit) => Mm w [] h [.blk g_3 161 (cV U64 s.1) 5, .blk g_2 115 (cV U64 (Vec.rep 25 0#64)) 25, .blk g_1 115 (cV U64 a0) 25]) (fun (s : (Vec (BitVec 64) 5) × (Int)) (g : Unit) => True) (fun (s : (Vec (BitVec 64) 5) × (Int)) (g : Unit) => True) () trivial (fun a w ha hw => ⟨ha.cons rfl (ha.cons rfl (ha.cons rfl (ha.cons rfl (ha.cons rfl (ha.nil))))), hw⟩) (fun Gn Gb s g e hφ H hn1 hb1 hr1 => ?_) (fun s g hzz hφ => ?_)
  ·
    obtain ⟨y_3, x6⟩ := s
    change smithyref05_Round.b1 a0 y_3 x6 = some e at H
    unfold smithyref05_Round.b1 at H
    clear hz1
    change T 157 _ _ _
    refine t_seq ?_
    refine t_seq ?_
    refine t_region (fun ops hops => ?_)
    clear hops
    refine z_val (v := .int .i64 x6) (val_move rfl rfl) rfl rfl rfl (fun _ _ _ => trivial) ?_
    obtain ⟨x21, hx21, H⟩ := Let_elim H
    refine z_val (v := .bool x21) (by subst hx21; exact val_bin rfl rfl rfl rfl (i64_lss _ _ _)) rfl rfl rfl (fun _ _ _ => trivial) ?_
    clear hx21
    refine z_nil ?_
    cases x21
    ·
      replace H := cond_f H
      refine t_cond_false rfl ?_
      refine t_exit rfl ?_
      obtain rfl := Option.some.inj H
      exact t_reach ((hb1 _ () rfl trivial).weak (fun a ha => ha.cons rfl (ha.cons rfl (ha.cons rfl (ha.cons rfl (ha.nil))))) (fun w hw => hw))
    ·
      replace H := cond_t H
      refine t_cond_true rfl ?_
      refine t_skip ?_
      refine t_seq ?_
      refine t_block ?_
      refine t_seq ?_
      refine t_region (fun ops hops => ?_)
      clear hops
      refine z_val (v := .int .i64 0) (val_assign rfl rfl) rfl rfl rfl (fun _ _ _ => trivial) ?_
      refine z_nil ?_
      refine t_block ?_
      obtain ⟨z2, hz2, HK2⟩ := Option.bind_eq_some_iff.1 H
      clear H
      refine t_while hz2 (fun (s : (Vec (BitVec 64) 5) × (Int)) (g : Unit) => [(1, U64 a1), (2, .pointer (some ⟨g_1, 0, none⟩)), (4, .pointer (some ⟨g_2, 0, none⟩)), (5, .pointer (some ⟨g_3, 0, none⟩)), (6, .int .i64 x6), (7, .int .i64 s.2)]) (fun (s : (Vec (BitVec 64) 5) × (Int)) (g : Unit) => [(1, U64 a1), (2, .pointer (some ⟨g_1, 0, none⟩)), (4, .pointer (some ⟨g_2, 0, none⟩)), (5, .pointer (some ⟨g_3, 0, none⟩)), (6, .int .i64 x6)]) (fun (s : (Vec (BitVec 64) 5) × (Int)) (g : Unit) => Mm w [] h [.blk g_3 161 (cV U64 s.1) 5, .blk g_2 115 (cV U64 (Vec.rep 25 0#64)) 25, .blk g_1 115 (cV U64 a0) 25]) (fun (s : (Vec (BitVec 64) 5) × (Int)) (g : Unit) => Mm w [] h [.blk g_3 161 (cV U64 s.1) 5, .blk g_2 115 (cV U64 (Vec.rep 25 0#64)) 25, .blk g_1 115 (cV U64 a0) 25]) (fun (s : (Vec (BitVec 64) 5) × (Int)) (g : Unit) => True) (fun (s : (Vec (BitVec 64) 5) × (Int)) (g : Unit) => True) () trivial (fun a w ha hw => ⟨ha.cons rfl (ha.cons rfl (ha.cons rfl (ha.cons rfl (ha.cons rfl (ha.cons rfl (ha.nil)))))), hw⟩) (fun Gn Gb s g e hφ H hn2 hb2 hr2 => ?_) (fun s g hzz hφ => ?_)
      ·
        obtain ⟨y_3_4, x7⟩ := s
        change smithyref05_Round.b2 x6 a0 y_3_4 x7 = some e at H
        unfold smithyref05_Round.b2 at H
        clear hz2
        change T 157 _ _ _
        refine t_seq ?_
        refine t_seq ?_
        refine t_region (fun ops hops => ?_)
        clear hops
        refine z_val (v := .int .i64 x7) (val_move rfl rfl) rfl rfl rfl (fun _ _ _ => trivial) ?_
        obtain ⟨x25, hx25, H⟩ := Let_elim H
        refine z_val (v := .bool x25) (by subst hx25; exact val_bin rfl rfl rfl rfl (i64_lss _ _ _)) rfl rfl rfl (fun _ _ _ => trivial) ?_
        clear hx25
        refine z_nil ?_
        cases x25
        ·
          replace H := cond_f H
          refine t_cond_false rfl ?_
          refine t_exit rfl ?_
          obtain rfl := Option.some.inj H
          exact t_reach ((hb2 _ () rfl trivial).weak (fun a ha => ha.cons rfl (ha.cons rfl (ha.cons rfl (ha.cons rfl (ha.cons rfl (ha.nil)))))) (fun w hw => hw))
        ·
          replace H := cond_t H
          refine t_cond_true rfl ?_
          refine t_skip ?_
          refine t_seq ?_
          refine t_block ?_
          refine t_plan (C := Mm w [] h [.blk g_3 161 (cV U64 y_3_4) 5, .blk g_2 115 (cV U64 (Vec.rep 25 0#64)) 25, .blk g_1 115 (cV U64 a0) 25]) [12] [(0, true), (1, true), (2, true), (3, true), (4, true), (5, true), (6, true), (7, true), (8, true), (9, true), (10, true), (11, true), (12, false)] (by kernel_rfl) (by kernel_rfl) (fun _ hw => hw.drew) (fun ops hops => ?_)
          clear hops
          refine z_still (v := .int .i64 x6) (val_move rfl rfl) rfl rfl rfl (fun _ hw => hw) ?_
          refine z_still (v := .int .i64 x6) (val_move rfl rfl) rfl rfl rfl (fun _ hw => hw) ?_
          obtain ⟨hq_5, H⟩ := Chk_elim H
          refine z_still (v := .pointer (some ⟨g_3, x6.toNat, none⟩)) (val_idx0 rfl rfl rfl Tryd.underlying161 sz24 hq_5 rfl) rfl rfl rfl (fun _ hw => hw) ?_
          obtain ⟨x31, hx31, H⟩ := Let_elim H
          refine z_still (v := U64 x31) (by subst hx31; exact val_load1 rfl rfl Tryd.underlying24 rfl (fun _ hw => hw.cell (j := 0) rfl (cV_at _ (idx_lt hq_5)))) rfl rfl rfl (fun _ hw => hw) ?_
          clear hx31
          refine z_still (v := .int .i64 x6) (val_move rfl rfl) rfl rfl rfl (fun _ hw => hw) ?_
          refine z_still (v := .int .i64 x7) (val_move rfl rfl) rfl rfl rfl (fun _ hw => hw) ?_
          obtain ⟨x34, hx34, H⟩ := Let_elim H
          refine z_still (v := .int .i64 x34) (by subst hx34; exact val_bin rfl rfl rfl rfl (i64_mul _ _ _)) rfl rfl rfl (fun _ hw => hw) ?_
          clear hx34
          obtain ⟨x35, hx35, H⟩ := Let_elim H
          refine z_still (v := .int .i64 x35) (by subst hx35; exact val_bin rfl rfl rfl rfl (i64_add _ _ _)) rfl rfl rfl (fun _ hw => hw) ?_
          clear hx35
          obtain ⟨hq_6, H⟩ := Chk_elim H
          refine z_still (v := .pointer (some ⟨g_1, x35.toNat, none⟩)) (val_idx0 rfl rfl rfl Tryd.underlying115 sz24 hq_6 rfl) rfl rfl rfl (fun _ hw => hw) ?_
          obtain ⟨x37, hx37, H⟩ := Let_elim H
          refine z_still (v := U64 x37) (by subst hx37; exact val_load1 rfl rfl Tryd.underlying24 rfl (fun _ hw => hw.cell (j := 2) rfl (cV_at _ (idx_lt hq_6)))) rfl rfl rfl (fun _ hw => hw) ?_
          clear hx37
          obtain ⟨x38, hx38, H⟩ := Let_elim H
          refine z_still (v := U64 x38) (by subst hx38; exact val_bin rfl rfl rfl rfl (u64_xor _ _ _)) rfl rfl rfl (fun _ hw => hw) ?_
          clear hx38
          obtain ⟨hq_7, H⟩ := Chk_elim H
          refine z_still (v := .pointer (some ⟨g_3, x6.toNat, none⟩)) (val_idx0 rfl rfl rfl Tryd.underlying161 sz24 hq_7 rfl) rfl rfl rfl (fun _ hw => hw) ?_
          obtain ⟨y_3_8, hy_3_8, H⟩ := Let_elim H
          refine z_store1 (j := 0) (cs' := cV U64 y_3_8) (L' := [.blk g_3 161 (cV U64 y_3_8) 5, .blk g_2 115 (cV U64 (Vec.rep 25 0#64)) 25, .blk g_1 115 (cV U64 a0) 25]) rfl rfl rfl rfl rfl sz24 rfl (by rw [cV_len]; exact (idx_lt hq_7)) (by subst hy_3_8; exact cV_set (f := U64) _ _ x38) rfl rfl rfl (fun hb => absurd hb (by decide)) ?_
          clear hy_3_8
          refine z_nil ?_
          refine t_fin ?_
          refine t_region (fun ops hops => ?_)
          clear hops
          refine z_val (v := .int .i64 x7) (val_move rfl rfl) rfl rfl rfl (fun _ _ _ => trivial) ?_
          obtain ⟨x27, hx27, H⟩ := Let_elim H
          refine z_val (v := .int .i64 x27) (by subst hx27; exact val_bin rfl rfl rfl rfl (i64_add _ _ _)) rfl rfl rfl (fun _ _ _ => trivial) ?_
          clear hx27
          refine z_val (v := .int .i64 x27) (val_assign rfl rfl) rfl rfl rfl (fun _ _ _ => trivial) ?_
          refine z_nil ?_
          obtain rfl := Option.some.inj H
          exact t_reach ((hn2 _ () rfl trivial).weak (fun a ha => ha.cons rfl (ha.cons rfl (ha.cons rfl (ha.cons rfl (ha.cons rfl (ha.cons rfl (ha.nil))))))) (fun w hw => hw))
      ·
        obtain ⟨y_3_4, x7⟩ := s
        subst hzz
        have H := HK2
        clear HK2 hz2
        replace H := sum_l H
        try dsimp only at H
        change T 157 _ _ _
        refine t_fin ?_
        refine t_region (fun ops hops => ?_)
        clear hops
        refine z_val (v := .int .i64 x6) (val_move rfl rfl) rfl rfl rfl (fun _ _ _ => trivial) ?_
        obtain ⟨x23, hx23, H⟩ := Let_elim H
        refine z_val (v := .int .i64 x23) (by subst hx23; exact val_bin rfl rfl rfl rfl (i64_add _ _ _)) rfl rfl rfl (fun _ _ _ => trivial) ?_
        clear hx23
        refine z_val (v := .int .i64 x23) (val_assign rfl rfl) rfl rfl rfl (fun _ _ _ => trivial) ?_
        refine z_nil ?_
        obtain rfl := Option.some.inj H
        exact t_reach ((hn1 _ () rfl trivial).weak (fun a ha => ha.cons rfl (ha.cons rfl (ha.cons rfl (ha.cons rfl (ha.cons rfl (ha.nil)))))) (fun w hw => hw))
  ·
    obtain ⟨y_3, x6⟩ := s
    subst hzz
    have H := HK1
    clear HK1 hz1
    replace H := sum_l H
    try dsimp only at H
    change T 157 _ _ _
    refine t_seq ?_
    refine t_region (fun ops hops => ?_)
    clear hops
    obtain ⟨x40, hx40, H⟩ := Let_elim H
    refine z_val (v := .agg (cV U64 x40).toArray) (by subst hx40; exact val_build (vs := []) rfl rfl (fun w => by kernel_rfl)) rfl rfl rfl (fun _ _ _ => trivial) ?_
    clear hx40
    refine z_alloc (cs := cV U64 (Vec.rep 25 0#64)) (room := 25) rfl ze115 rfl (cV_len _) rfl rfl rfl (fun _ _ _ _ => trivial) (fun g_9 => ?_)
    refine z_storeA (j := 0) (cs' := cV U64 x40) (L' := [.blk g_9 115 (cV U64 x40) 25, .blk g_3 161 (cV U64 y_3) 5, .blk g_2 115 (cV U64 (Vec.rep 25 0#64)) 25, .blk g_1 115 (cV U64 a0) 25]) rfl rfl rfl (cV_one (fun _ => rfl) _) sz115 rfl (cV_len _) rfl rfl rfl (fun _ _ _ => trivial) ?_
    refine z_nil ?_
    refine t_seq ?_
    refine t_seq ?_
    refine t_region (fun ops hops => ?_)
    clear hops
    refine z_val (v := .int .i64 0) (val_assign rfl rfl) rfl rfl rfl (fun _ _ _ => trivial) ?_
    refine z_nil ?_
    refine t_block ?_
    obtain ⟨z1, hz1, HK1⟩ := Option.bind_eq_some_iff.1 H
    clear H
    refine t_while hz1 (fun (s : (Vec (BitVec 64) 25) × (Int)) (g : Unit) => [(1, U64 a1), (2, .pointer (some ⟨g_1, 0, none⟩)), (4, .pointer (some ⟨g_2, 0, none⟩)), (5, .pointer (some ⟨g_3, 0, none⟩)), (8, .pointer (some ⟨g_9, 0, none⟩)), (9, .int .i64 s.2)]) (fun (s : (Vec (BitVec 64) 25) × (Int)) (g : Unit) => [(1, U64 a1), (4, .pointer (some ⟨g_2, 0, none⟩)), (8, .pointer (some ⟨g_9, 0, none⟩))]) (fun (s : (Vec (BitVec 64) 25) × (Int)) (g : Unit) => Mm w [] h [.blk g_9 115 (cV U64 s.1) 25, .blk g_3 161 (cV U64 y_3) 5, .blk g_2 115 (cV U64 (Vec.rep 25 0#64)) 25, .blk g_1 115 (cV U64 a0) 25]) (fun (s : (Vec (BitVec 64) 25) × (Int)) (g : Unit) => Mm w [] h [.blk g_9 115 (cV U64 s.1) 25, .blk g_2 115 (cV U64 (Vec.rep 25 0#64)) 25]) (fun (s : (Vec (BitVec 64) 25) × (Int)) (g : Unit) => True) (fun (s : (Vec (BitVec 64) 25) × (Int)) (g : Unit) => True) () trivial (fun a w ha hw => ⟨ha.cons rfl (ha.cons rfl (ha.cons rfl (ha.cons rfl (ha.cons rfl (ha.cons rfl (ha.nil)))))), hw⟩) (fun Gn Gb s g e hφ H hn1 hb1 hr1 => ?_) (fun s g hzz hφ => ?_)
    ·
      obtain ⟨y_9, x9⟩ := s
      change smithyref05_Round.b3 a0 y_3 y_9 x9 = some e at H
      unfold smithyref05_Round.b3 at H
      clear hz1
      change T 157 _ _ _
      refine t_seq ?_
      refine t_seq ?_
      refine t_region (fun ops hops => ?_)
      clear hops
      refine z_val (v := .int .i64 x9) (val_move rfl rfl) rfl rfl rfl (fun _ _ _ => trivial) ?_
      obtain ⟨x42, hx42, H⟩ := Let_elim H
      refine z_val (v := .bool x42) (by subst hx42; exact val_bin rfl rfl rfl rfl (i64_lss _ _ _)) rfl rfl rfl (fun _ _ _ => trivial) ?_
      clear hx42
      refine z_nil ?_
      cases x42
      ·
        replace H := cond_f H
        refine t_cond_false rfl ?_
        refine t_exit rfl ?_
        obtain rfl := Option.some.inj H
        exact t_reach ((hb1 _ () rfl trivial).weak (fun a ha => ha.cons rfl (ha.cons rfl (ha.cons rfl (ha.nil)))) (fun w hw => hw.sel [0, 2] rfl rfl))
      ·
        replace H := cond_t H
        refine t_cond_true rfl ?_
        refine t_skip ?_
        refine t_seq ?_
        refine t_block ?_
        refine t_seq ?_
        refine t_region (fun ops hops => ?_)
        clear hops
        refine z_val (v := .int .i64 0) (val_assign rfl rfl) rfl rfl rfl (fun _ _ _ => trivial) ?_
        refine z_nil ?_
        refine t_block ?_
        obtain ⟨z2, hz2, HK2⟩ := Option.bind_eq_some_iff.1 H
        clear H
        refine t_while hz2 (fun (s : (Vec (BitVec 64) 25) × (Int)) (g : Unit) => [(1, U64 a1), (2, .pointer (some ⟨g_1, 0, none⟩)), (4, .pointer (some ⟨g_2, 0, none⟩)), (5, .pointer (some ⟨g_3, 0, none⟩)), (8, .pointer (some ⟨g_9, 0, none⟩)), (9, .int .i64 x9), (10, .int .i64 s.2)]) (fun (s : (Vec (BitVec 64) 25) × (Int)) (g : Unit) => [(1, U64 a1), (2, .pointer (some ⟨g_1, 0, none⟩)), (4, .pointer (some ⟨g_2, 0, none⟩)), (5, .pointer (some ⟨g_3, 0, none⟩)), (8, .pointer (some ⟨g_9, 0, none⟩)), (9, .int .i64 x9)]) (fun (s : (Vec (BitVec 64) 25) × (Int)) (g : Unit) => Mm w [] h [.blk g_9 115 (cV U64 s.1) 25, .blk g_3 161 (cV U64 y_3) 5, .blk g_2 115 (cV U64 (Vec.rep 25 0#64)) 25, .blk g_1 115 (cV U64 a0) 25]) (fun (s : (Vec (BitVec 64) 25) × (Int)) (g : Unit) => Mm w [] h [.blk g_9 115 (cV U64 s.1) 25, .blk g_3 161 (cV U64 y_3) 5, .blk g_2 115 (cV U64 (Vec.rep 25 0#64)) 25, .blk g_1 115 (cV U64 a0) 25]) (fun (s : (Vec (BitVec 64) 25) × (Int)) (g : Unit) => True) (fun (s : (Vec (BitVec 64) 25) × (Int)) (g : Unit) => True) () trivial (fun a w ha hw => ⟨ha.cons rfl (ha.cons rfl (ha.cons rfl (ha.cons rfl (ha.cons rfl (ha.cons rfl (ha.cons rfl (ha.nil))))))), hw⟩) (fun Gn Gb s g e hφ H hn2 hb2 hr2 => ?_) (fun s g hzz hφ => ?_)
        ·
          obtain ⟨y_9_10, x10⟩ := s
          change smithyref05_Round.b4 x9 a0 y_3 y_9_10 x10 = some e at H
          unfold smithyref05_Round.b4 at H
          clear hz2
          change T 157 _ _ _
          refine t_seq ?_
          refine t_seq ?_
          refine t_region (fun ops hops => ?_)
          clear hops
          refine z_val (v := .int .i64 x10) (val_move rfl rfl) rfl rfl rfl (fun _ _ _ => trivial) ?_
          obtain ⟨x46, hx46, H⟩ := Let_elim H
          refine z_val (v := .bool x46) (by subst hx46; exact val_bin rfl rfl rfl rfl (i64_lss _ _ _)) rfl rfl rfl (fun _ _ _ => trivial) ?_
          clear hx46
          refine z_nil ?_
          cases x46
          ·
            replace H := cond_f H
            refine t_cond_false rfl ?_
            refine t_exit rfl ?_
            obtain rfl := Option.some.inj H
            exact t_reach ((hb2 _ () rfl trivial).weak (fun a ha => ha.cons rfl (ha.cons rfl (ha.cons rfl (ha.cons rfl (ha.cons rfl (ha.cons rfl (ha.nil))))))) (fun w hw => hw))
          ·
            replace H := cond_t H
            refine t_cond_true rfl ?_
            refine t_skip ?_
            refine t_seq ?_
            refine t_block ?_
            refine t_plan (C := Mm w [] h [.blk g_9 115 (cV U64 y_9_10) 25, .blk g_3 161 (cV U64 y_3) 5, .blk g_2 115 (cV U64 (Vec.rep 25 0#64)) 25, .blk g_1 115 (cV U64 a0) 25]) [24] [(0, true), (1, true), (2, true), (3, true), (4, true), (5, true), (6, true), (7, true), (8, true), (9, true), (10, true), (11, true), (12, true), (13, true), (14, true), (15, true), (16, true), (17, true), (18, true), (19, true), (20, true), (21, false), (22, true), (23, true), (24, false)] (by kernel_rfl) (by kernel_rfl) (fun _ hw => hw.drew) (fun ops hops => ?_)
            clear hops
            refine z_still (v := .int .i64 x9) (val_move rfl rfl) rfl rfl rfl (fun _ hw => hw) ?_
            refine z_still (v := .int .i64 x10) (val_move rfl rfl) rfl rfl rfl (fun _ hw => hw) ?_
            obtain ⟨x51, hx51, H⟩ := Let_elim H
            refine z_still (v := .int .i64 x51) (by subst hx51; exact val_bin rfl rfl rfl rfl (i64_mul _ _ _)) rfl rfl rfl (fun _ hw => hw) ?_
            clear hx51
            obtain ⟨x52, hx52, H⟩ := Let_elim H
            refine z_still (v := .int .i64 x52) (by subst hx52; exact val_bin rfl rfl rfl rfl (i64_add _ _ _)) rfl rfl rfl (fun _ hw => hw) ?_
            clear hx52
            refine z_still (v := .int .i64 x9) (val_move rfl rfl) rfl rfl rfl (fun _ hw => hw) ?_
            refine z_still (v := .int .i64 x10) (val_move rfl rfl) rfl rfl rfl (fun _ hw => hw) ?_
            obtain ⟨x55, hx55, H⟩ := Let_elim H
            refine z_still (v := .int .i64 x55) (by subst hx55; exact val_bin rfl rfl rfl rfl (i64_mul _ _ _)) rfl rfl rfl (fun _ hw => hw) ?_
            clear hx55
            obtain ⟨x56, hx56, H⟩ := Let_elim H
            refine z_still (v := .int .i64 x56) (by subst hx56; exact val_bin rfl rfl rfl rfl (i64_add _ _ _)) rfl rfl rfl (fun _ hw => hw) ?_
            clear hx56
            obtain ⟨hq_11, H⟩ := Chk_elim H
            refine z_still (v := .pointer (some ⟨g_1, x56.toNat, none⟩)) (val_idx0 rfl rfl rfl Tryd.underlying115 sz24 hq_11 rfl) rfl rfl rfl (fun _ hw => hw) ?_
            obtain ⟨x58, hx58, H⟩ := Let_elim H
            refine z_still (v := U64 x58) (by subst hx58; exact val_load1 rfl rfl Tryd.underlying24 rfl (fun _ hw => hw.cell (j := 3) rfl (cV_at _ (idx_lt hq_11)))) rfl rfl rfl (fun _ hw => hw) ?_
            clear hx58
            refine z_still (v := .int .i64 x9) (val_move rfl rfl) rfl rfl rfl (fun _ hw => hw) ?_
            obtain ⟨x60, hx60, H⟩ := Let_elim H
            refine z_still (v := .int .i64 x60) (by subst hx60; exact val_bin rfl rfl rfl rfl (i64_add _ _ _)) rfl rfl rfl (fun _ hw => hw) ?_
            clear hx60
            obtain ⟨x61, hx61, H⟩ := Let_elim H
            refine z_still (v := .int .i64 x61) (by subst hx61; exact val_bin rfl rfl rfl rfl (i64_rem _ _ _ (by decide))) rfl rfl rfl (fun _ hw => hw) ?_
            clear hx61
            obtain ⟨hq_12, H⟩ := Chk_elim H
            refine z_still (v := .pointer (some ⟨g_3, x61.toNat, none⟩)) (val_idx0 rfl rfl rfl Tryd.underlying161 sz24 hq_12 rfl) rfl rfl rfl (fun _ hw => hw) ?_
            obtain ⟨x63, hx63, H⟩ := Let_elim H
            refine z_still (v := U64 x63) (by subst hx63; exact val_load1 rfl rfl Tryd.underlying24 rfl (fun _ hw => hw.cell (j := 1) rfl (cV_at _ (idx_lt hq_12)))) rfl rfl rfl (fun _ hw => hw) ?_
            clear hx63
            obtain ⟨x64, hx64, H⟩ := Let_elim H
            refine z_still (v := U64 x64) (by subst hx64; exact val_bin rfl rfl rfl rfl (u64_xor _ _ _)) rfl rfl rfl (fun _ hw => hw) ?_
            clear hx64
            refine z_still (v := .int .i64 x9) (val_move rfl rfl) rfl rfl rfl (fun _ hw => hw) ?_
            obtain ⟨x66, hx66, H⟩ := Let_elim H
            refine z_still (v := .int .i64 x66) (by subst hx66; exact val_bin rfl rfl rfl rfl (i64_add _ _ _)) rfl rfl rfl (fun _ hw => hw) ?_
            clear hx66
            obtain ⟨x67, hx67, H⟩ := Let_elim H
            refine z_still (v := .int .i64 x67) (by subst hx67; exact val_bin rfl rfl rfl rfl (i64_rem _ _ _ (by decide))) rfl rfl rfl (fun _ hw => hw) ?_
            clear hx67
            obtain ⟨hq_13, H⟩ := Chk_elim H
            refine z_still (v := .pointer (some ⟨g_3, x67.toNat, none⟩)) (val_idx0 rfl rfl rfl Tryd.underlying161 sz24 hq_13 rfl) rfl rfl rfl (fun _ hw => hw) ?_
            obtain ⟨x69, hx69, H⟩ := Let_elim H
            refine z_still (v := U64 x69) (by subst hx69; exact val_load1 rfl rfl Tryd.underlying24 rfl (fun _ hw => hw.cell (j := 1) rfl (cV_at _ (idx_lt hq_13)))) rfl rfl rfl (fun _ hw => hw) ?_
            clear hx69
            obtain ⟨x70, hx, H⟩ := Option.bind_eq_some_iff.1 H
            refine z_made (v := U64 x70) rfl Tryd.func133 nm133 bs133 rfl (fun w hw => smithyref05_up.calls x69 1 x70 hx w) rfl rfl rfl (fun _ _ hw => hw) ?_
            clear hx
            obtain ⟨x71, hx71, H⟩ := Let_elim H
            refine z_still (v := U64 x71) (by subst hx71; exact val_bin rfl rfl rfl rfl (u64_xor _ _ _)) rfl rfl rfl (fun _ hw => hw) ?_
            clear hx71
            obtain ⟨hq_14, H⟩ := Chk_elim H
            refine z_still (v := .pointer (some ⟨g_9, x52.toNat, none⟩)) (val_idx0 rfl rfl rfl Tryd.underlying115 sz24 hq_14 rfl) rfl rfl rfl (fun _ hw => hw) ?_
            obtain ⟨y_9_15, hy_9_15, H⟩ := Let_elim H
            refine z_store1 (j := 0) (cs' := cV U64 y_9_15) (L' := [.blk g_9 115 (cV U64 y_9_15) 25, .blk g_3 161 (cV U64 y_3) 5, .blk g_2 115 (cV U64 (Vec.rep 25 0#64)) 25, .blk g_1 115 (cV U64 a0) 25]) rfl rfl rfl rfl rfl sz24 rfl (by rw [cV_len]; exact (idx_lt hq_14)) (by subst hy_9_15; exact cV_set (f := U64) _ _ x71) rfl rfl rfl (fun hb => absurd hb (by decide)) ?_
            clear hy_9_15
            refine z_nil ?_
            refine t_fin ?_
            refine t_region (fun ops hops => ?_)
            clear hops
            refine z_val (v := .int .i64 x10) (val_move rfl rfl) rfl rfl rfl (fun _ _ _ => trivial) ?_
            obtain ⟨x48, hx48, H⟩ := Let_elim H
            refine z_val (v := .int .i64 x48) (by subst hx48; exact val_bin rfl rfl rfl rfl (i64_add _ _ _)) rfl rfl rfl (fun _ _ _ => trivial) ?_
            clear hx48
            refine z_val (v := .int .i64 x48) (val_assign rfl rfl) rfl rfl rfl (fun _ _ _ => trivial) ?_
            refine z_nil ?_
            obtain rfl := Option.some.inj H
            exact t_reach ((hn2 _ () rfl trivial).weak (fun a ha => ha.cons rfl (ha.cons rfl (ha.cons rfl (ha.cons rfl (ha.cons rfl (ha.cons rfl (ha.cons rfl (ha.nil)))))))) (fun w hw => hw))
        ·
          obtain ⟨y_9_10, x10⟩ := s
          subst hzz
          have H := HK2
          clear HK2 hz2
          replace H := sum_l H
          try dsimp only at H
          change T 157 _ _ _
          refine t_fin ?_
          refine t_region (fun ops hops => ?_)
          clear hops
          refine z_val (v := .int .i64 x9) (val_move rfl rfl) rfl rfl rfl (fun _ _ _ => trivial) ?_
          obtain ⟨x44, hx44, H⟩ := Let_elim H
          refine z_val (v := .int .i64 x44) (by subst hx44; exact val_bin rfl rfl rfl rfl (i64_add _ _ _)) rfl rfl rfl (fun _ _ _ => trivial) ?_
          clear hx44
          refine z_val (v := .int .i64 x44) (val_assign rfl rfl) rfl rfl rfl (fun _ _ _ => trivial) ?_
          refine z_nil ?_
          obtain rfl := Option.some.inj H
          exact t_reach ((hn1 _ () rfl trivial).weak (fun a ha => ha.cons rfl (ha.cons rfl (ha.cons rfl (ha.cons rfl (ha.cons rfl (ha.cons rfl (ha.nil))))))) (fun w hw => hw))
    ·
      obtain ⟨y_9, x9⟩ := s
      subst hzz
      have H := HK1
      clear HK1 hz1
      replace H := sum_l H
      try dsimp only at H
      change T 157 _ _ _
      refine t_seq ?_
      refine t_region (fun ops hops => ?_)
      clear hops
      obtain ⟨x73, hx73, H⟩ := Let_elim H
      refine z_val (v := .agg (cV U64 x73).toArray) (by subst hx73; exact val_build (vs := []) rfl rfl (fun w => by kernel_rfl)) rfl rfl rfl (fun _ _ _ => trivial) ?_
      clear hx73
      refine z_alloc (cs := cV U64 (Vec.rep 25 0#64)) (room := 25) rfl ze115 rfl (cV_len _) rfl rfl rfl (fun _ _ _ _ => trivial) (fun g_16 => ?_)
      refine z_storeA (j := 0) (cs' := cV U64 x73) (L' := [.blk g_16 115 (cV U64 x73) 25, .blk g_9 115 (cV U64 y_9) 25, .blk g_2 115 (cV U64 (Vec.rep 25 0#64)) 25]) rfl rfl rfl (cV_one (fun _ => rfl) _) sz115 rfl (cV_len _) rfl rfl rfl (fun _ _ _ => trivial) ?_
      refine z_nil ?_
      refine t_seq ?_
      refine t_region (fun ops hops => ?_)
      clear hops
      refine z_val (v := .pointer (some ⟨g_9, 0, none⟩)) (val_idx0 rfl rfl rfl Tryd.underlying115 sz24 (by decide) rfl) rfl rfl rfl (fun _ _ _ => trivial) ?_
      obtain ⟨x75, hx75, H⟩ := Let_elim H
      refine z_val (v := U64 x75) (by subst hx75; exact val_load1 rfl rfl Tryd.underlying24 rfl (fun _ hw => hw.cell (j := 1) rfl (cV_at _ (by decide)))) rfl rfl rfl (fun _ _ _ => trivial) ?_
      clear hx75
      refine z_val (v := .pointer (some ⟨g_16, 0, none⟩)) (val_idx0 rfl rfl rfl Tryd.underlying115 sz24 (by decide) rfl) rfl rfl rfl (fun _ _ _ => trivial) ?_
      obtain ⟨y_16, hy_16, H⟩ := Let_elim H
      refine z_store1 (j := 0) (cs' := cV U64 y_16) (L' := [.blk g_16 115 (cV U64 y_16) 25, .blk g_9 115 (cV U64 y_9) 25, .blk g_2 115 (cV U64 (Vec.rep 25 0#64)) 25]) rfl rfl rfl rfl rfl sz24 rfl (by rw [cV_len]; exact (by decide)) (by subst hy_16; exact cV_set (f := U64) _ _ x75) rfl rfl rfl (fun _ _ _ => trivial) ?_
      clear hy_16
      refine z_nil ?_
      refine t_seq ?_
      refine t_region (fun ops hops => ?_)
      clear hops
      refine z_val (v := .int .i64 1) (val_assign rfl rfl) rfl rfl rfl (fun _ _ _ => trivial) ?_
      refine z_nil ?_
      refine t_seq ?_
      refine t_region (fun ops hops => ?_)
      clear hops
      refine z_val (v := .int .i64 0) (val_assign rfl rfl) rfl rfl rfl (fun _ _ _ => trivial) ?_
      refine z_nil ?_
      refine t_seq ?_
      refine t_seq ?_
      refine t_region (fun ops hops => ?_)
      clear hops
      refine z_val (v := .int .i64 0) (val_assign rfl rfl) rfl rfl rfl (fun _ _ _ => trivial) ?_
      refine z_nil ?_
      refine t_block ?_
      obtain ⟨z1, hz1, HK1⟩ := Option.bind_eq_some_iff.1 H
      clear H
      refine t_while hz1 (fun (s : (Vec (BitVec 64) 25) × (Int) × (Int) × (Int)) (g : Unit) => [(1, U64 a1), (4, .pointer (some ⟨g_2, 0, none⟩)), (8, .pointer (some ⟨g_9, 0, none⟩)), (11, .pointer (some ⟨g_16, 0, none⟩)), (12, .int .i64 s.2.1), (13, .int .i64 s.2.2.1), (14, .int .i64 s.2.2.2)]) (fun (s : (Vec (BitVec 64) 25) × (Int) × (Int) × (Int)) (g : Unit) => [(1, U64 a1), (4, .pointer (some ⟨g_2, 0, none⟩)), (11, .pointer (some ⟨g_16, 0, none⟩))]) (fun (s : (Vec (BitVec 64) 25) × (Int) × (Int) × (Int)) (g : Unit) => Mm w [] h [.blk g_16 115 (cV U64 s.1) 25, .blk g_9 115 (cV U64 y_9) 25, .blk g_2 115 (cV U64 (Vec.rep 25 0#64)) 25]) (fun (s : (Vec (BitVec 64) 25) × (Int) × (Int) × (Int)) (g : Unit) => Mm w [] h [.blk g_16 115 (cV U64 s.1) 25, .blk g_2 115 (cV U64 (Vec.rep 25 0#64)) 25]) (fun (s : (Vec (BitVec 64) 25) × (Int) × (Int) × (Int)) (g : Unit) => True) (fun (s : (Vec (BitVec 64) 25) × (Int) × (Int) × (Int)) (g : Unit) => True) () trivial (fun a w ha hw => ⟨ha.cons rfl (ha.cons rfl (ha.cons rfl (ha.cons rfl (ha.cons rfl (ha.cons rfl (ha.cons rfl (ha.nil))))))), hw⟩) (fun Gn Gb s g e hφ H hn1 hb1 hr1 => ?_) (fun s g hzz hφ => ?_)
      ·
        obtain ⟨y_16_17, x12, x13, x14⟩ := s
        change smithyref05_Round.b5 y_9 y_16_17 x12 x13 x14 = some e at H
        unfold smithyref05_Round.b5 at H
        clear hz1
        change T 157 _ _ _
        refine t_seq ?_
        refine t_seq ?_
        refine t_region (fun ops hops => ?_)
        clear hops
        refine z_val (v := .int .i64 x14) (val_move rfl rfl) rfl rfl rfl (fun _ _ _ => trivial) ?_
        obtain ⟨x78, hx78, H⟩ := Let_elim H
        refine z_val (v := .bool x78) (by subst hx78; exact val_bin rfl rfl rfl rfl (i64_lss _ _ _)) rfl rfl rfl (fun _ _ _ => trivial) ?_
        clear hx78
        refine z_nil ?_
        cases x78
        ·
          replace H := cond_f H
          refine t_cond_false rfl ?_
          refine t_exit rfl ?_
          obtain rfl := Option.some.inj H
          exact t_reach ((hb1 _ () rfl trivial).weak (fun a ha => ha.cons rfl (ha.cons rfl (ha.cons rfl (ha.nil)))) (fun w hw => hw.sel [0, 2] rfl rfl))
        ·
          replace H := cond_t H
          refine t_cond_true rfl ?_
          refine t_skip ?_
          refine t_seq ?_
          refine t_block ?_
          refine t_seq ?_
          refine t_region (fun ops hops => ?_)
          clear hops
          refine z_val (v := .int .i64 x13) (val_move rfl rfl) rfl rfl rfl (fun _ _ _ => trivial) ?_
          refine z_val (v := .int .i64 x12) (val_move rfl rfl) rfl rfl rfl (fun _ _ _ => trivial) ?_
          obtain ⟨x83, hx83, H⟩ := Let_elim H
          refine z_val (v := .int .i64 x83) (by subst hx83; exact val_bin rfl rfl rfl rfl (i64_mul _ _ _)) rfl rfl rfl (fun _ _ _ => trivial) ?_
          clear hx83
          refine z_val (v := .int .i64 x13) (val_move rfl rfl) rfl rfl rfl (fun _ _ _ => trivial) ?_
          obtain ⟨x85, hx85, H⟩ := Let_elim H
          refine z_val (v := .int .i64 x85) (by subst hx85; exact val_bin rfl rfl rfl rfl (i64_mul _ _ _)) rfl rfl rfl (fun _ _ _ => trivial) ?_
          clear hx85
          obtain ⟨x86, hx86, H⟩ := Let_elim H
          refine z_val (v := .int .i64 x86) (by subst hx86; exact val_bin rfl rfl rfl rfl (i64_add _ _ _)) rfl rfl rfl (fun _ _ _ => trivial) ?_
          clear hx86
          obtain ⟨x87, hx87, H⟩ := Let_elim H
          refine z_val (v := .int .i64 x87) (by subst hx87; exact val_bin rfl rfl rfl rfl (i64_rem _ _ _ (by decide))) rfl rfl rfl (fun _ _ _ => trivial) ?_
          clear hx87
          obtain ⟨x88, hx88, H⟩ := Let_elim H
          refine z_val (v := .int .i64 x88) (by subst hx88; exact val_bin rfl rfl rfl rfl (i64_mul _ _ _)) rfl rfl rfl (fun _ _ _ => trivial) ?_
          clear hx88
          obtain ⟨x89, hx89, H⟩ := Let_elim H
          refine z_val (v := .int .i64 x89) (by subst hx89; exact val_bin rfl rfl rfl rfl (i64_add _ _ _)) rfl rfl rfl (fun _ _ _ => trivial) ?_
          clear hx89
          refine z_val (v := .int .i64 x12) (val_move rfl rfl) rfl rfl rfl (fun _ _ _ => trivial) ?_
          refine z_val (v := .int .i64 x13) (val_move rfl rfl) rfl rfl rfl (fun _ _ _ => trivial) ?_
          obtain ⟨x92, hx92, H⟩ := Let_elim H
          refine z_val (v := .int .i64 x92) (by subst hx92; exact val_bin rfl rfl rfl rfl (i64_mul _ _ _)) rfl rfl rfl (fun _ _ _ => trivial) ?_
          clear hx92
          obtain ⟨x93, hx93, H⟩ := Let_elim H
          refine z_val (v := .int .i64 x93) (by subst hx93; exact val_bin rfl rfl rfl rfl (i64_add _ _ _)) rfl rfl rfl (fun _ _ _ => trivial) ?_
          clear hx93
          obtain ⟨hq_18, H⟩ := Chk_elim H
          refine z_val (v := .pointer (some ⟨g_9, x93.toNat, none⟩)) (val_idx0 rfl rfl rfl Tryd.underlying115 sz24 hq_18 rfl) rfl rfl rfl (fun _ _ _ => trivial) ?_
          obtain ⟨x95, hx95, H⟩ := Let_elim H
          refine z_val (v := U64 x95) (by subst hx95; exact val_load1 rfl rfl Tryd.underlying24 rfl (fun _ hw => hw.cell (j := 1) rfl (cV_at _ (idx_lt hq_18)))) rfl rfl rfl (fun _ _ _ => trivial) ?_
          clear hx95
          refine z_val (v := .int .i64 x14) (val_move rfl rfl) rfl rfl rfl (fun _ _ _ => trivial) ?_
          obtain ⟨x97, hx97, H⟩ := Let_elim H
          refine z_val (v := .int .i64 x97) (by subst hx97; exact val_bin rfl rfl rfl rfl (i64_add _ _ _)) rfl rfl rfl (fun _ _ _ => trivial) ?_
          clear hx97
          refine z_val (v := .int .i64 x14) (val_move rfl rfl) rfl rfl rfl (fun _ _ _ => trivial) ?_
          obtain ⟨x99, hx99, H⟩ := Let_elim H
          refine z_val (v := .int .i64 x99) (by subst hx99; exact val_bin rfl rfl rfl rfl (i64_add _ _ _)) rfl rfl rfl (fun _ _ _ => trivial) ?_
          clear hx99
          obtain ⟨x100, hx100, H⟩ := Let_elim H
          refine z_val (v := .int .i64 x100) (by subst hx100; exact val_bin rfl rfl rfl rfl (i64_mul _ _ _)) rfl rfl rfl (fun _ _ _ => trivial) ?_
          clear hx100
          obtain ⟨x101, hx101, H⟩ := Let_elim H
          refine z_val (v := .int .i64 x101) (by subst hx101; exact val_bin rfl rfl rfl rfl (i64_quo _ _ _ (by decide))) rfl rfl rfl (fun _ _ _ => trivial) ?_
          clear hx101
          obtain ⟨x102, hx_19, H⟩ := Option.bind_eq_some_iff.1 H
          refine z_made (v := U64 x102) rfl Tryd.func133 nm133 bs133 rfl (fun w hw => smithyref05_up.calls x95 x101 x102 hx_19 w) rfl rfl rfl (fun _ _ _ => trivial) ?_
          clear hx_19
          obtain ⟨hq_20, H⟩ := Chk_elim H
          refine z_val (v := .pointer (some ⟨g_16, x89.toNat, none⟩)) (val_idx0 rfl rfl rfl Tryd.underlying115 sz24 hq_20 rfl) rfl rfl rfl (fun _ _ _ => trivial) ?_
          obtain ⟨y_16_21, hy_16_21, H⟩ := Let_elim H
          refine z_store1 (j := 0) (cs' := cV U64 y_16_21) (L' := [.blk g_16 115 (cV U64 y_16_21) 25, .blk g_9 115 (cV U64 y_9) 25, .blk g_2 115 (cV U64 (Vec.rep 25 0#64)) 25]) rfl rfl rfl rfl rfl sz24 rfl (by rw [cV_len]; exact (idx_lt hq_20)) (by subst hy_16_21; exact cV_set (f := U64) _ _ x102) rfl rfl rfl (fun _ _ _ => trivial) ?_
          clear hy_16_21
          refine z_nil ?_
          refine t_seq ?_
          refine t_region (fun ops hops => ?_)
          clear hops
          refine z_val (v := .int .i64 x12) (val_move rfl rfl) rfl rfl rfl (fun _ _ _ => trivial) ?_
          obtain ⟨x105, hx105, H⟩ := Let_elim H
          refine z_val (v := .int .i64 x105) (by subst hx105; exact val_bin rfl rfl rfl rfl (i64_mul _ _ _)) rfl rfl rfl (fun _ _ _ => trivial) ?_
          clear hx105
          refine z_val (v := .int .i64 x13) (val_move rfl rfl) rfl rfl rfl (fun _ _ _ => trivial) ?_
          obtain ⟨x107, hx107, H⟩ := Let_elim H
          refine z_val (v := .int .i64 x107) (by subst hx107; exact val_bin rfl rfl rfl rfl (i64_mul _ _ _)) rfl rfl rfl (fun _ _ _ => trivial) ?_
          clear hx107
          obtain ⟨x108, hx108, H⟩ := Let_elim H
          refine z_val (v := .int .i64 x108) (by subst hx108; exact val_bin rfl rfl rfl rfl (i64_add _ _ _)) rfl rfl rfl (fun _ _ _ => trivial) ?_
          clear hx108
          obtain ⟨x109, hx109, H⟩ := Let_elim H
          refine z_val (v := .int .i64 x109) (by subst hx109; exact val_bin rfl rfl rfl rfl (i64_rem _ _ _ (by decide))) rfl rfl rfl (fun _ _ _ => trivial) ?_
          clear hx109
          refine z_val (v := .int .i64 x109) (val_assign rfl rfl) rfl rfl rfl (fun _ _ _ => trivial) ?_
          refine z_nil ?_
          refine t_seq ?_
          refine t_region (fun ops hops => ?_)
          clear hops
          refine z_val (v := .int .i64 x13) (val_move rfl rfl) rfl rfl rfl (fun _ _ _ => trivial) ?_
          refine z_val (v := .int .i64 x13) (val_assign rfl rfl) rfl rfl rfl (fun _ _ _ => trivial) ?_
          refine z_nil ?_
          refine t_region (fun ops hops => ?_)
          clear hops
          refine z_val (v := .int .i64 x109) (val_move rfl rfl) rfl rfl rfl (fun _ _ _ => trivial) ?_
          refine z_val (v := .int .i64 x109) (val_assign rfl rfl) rfl rfl rfl (fun _ _ _ => trivial) ?_
          refine z_nil ?_
          refine t_fin ?_
          refine t_region (fun ops hops => ?_)
          clear hops
          refine z_val (v := .int .i64 x14) (val_move rfl rfl) rfl rfl rfl (fun _ _ _ => trivial) ?_
          obtain ⟨x80, hx80, H⟩ := Let_elim H
          refine z_val (v := .int .i64 x80) (by subst hx80; exact val_bin rfl rfl rfl rfl (i64_add _ _ _)) rfl rfl rfl (fun _ _ _ => trivial) ?_
          clear hx80
          refine z_val (v := .int .i64 x80) (val_assign rfl rfl) rfl rfl rfl (fun _ _ _ => trivial) ?_
          refine z_nil ?_
          obtain rfl := Option.some.inj H
          exact t_reach ((hn1 _ () rfl trivial).weak (fun a ha => ha.cons rfl (ha.cons rfl (ha.cons rfl (ha.cons rfl (ha.cons rfl (ha.cons rfl (ha.cons rfl (ha.nil)))))))) (fun w hw => hw))
      ·
        obtain ⟨y_16_17, x12, x13, x14⟩ := s
        subst hzz
        have H := HK1
        clear HK1 hz1
        replace H := sum_l H
        try dsimp only at H
        change T 157 _ _ _
        refine t_seq ?_
        refine t_region (fun ops hops => ?_)
        clear hops
        obtain ⟨x112, hx112, H⟩ := Let_elim H
        refine z_val (v := .agg (cV U64 x112).toArray) (by subst hx112; exact val_build (vs := []) rfl rfl (fun w => by kernel_rfl)) rfl rfl rfl (fun _ _ _ => trivial) ?_
        clear hx112
        refine z_alloc (cs := cV U64 (Vec.rep 25 0#64)) (room := 25) rfl ze115 rfl (cV_len _) rfl rfl rfl (fun _ _ _ _ => trivial) (fun g_22 => ?_)
        refine z_storeA (j := 0) (cs' := cV U64 x112) (L' := [.blk g_22 115 (cV U64 x112) 25, .blk g_16 115 (cV U64 y_16_17) 25, .blk g_2 115 (cV U64 (Vec.rep 25 0#64)) 25]) rfl rfl rfl (cV_one (fun _ => rfl) _) sz115 rfl (cV_len _) rfl rfl rfl (fun _ _ _ => trivial) ?_
        refine z_nil ?_
        refine t_seq ?_
        refine t_seq ?_
        refine t_region (fun ops hops => ?_)
        clear hops
        refine z_val (v := .int .i64 0) (val_assign rfl rfl) rfl rfl rfl (fun _ _ _ => trivial) ?_
        refine z_nil ?_
        refine t_block ?_
        obtain ⟨z1, hz1, HK1⟩ := Option.bind_eq_some_iff.1 H
        clear H
        refine t_while hz1 (fun (s : (Vec (BitVec 64) 25) × (Int)) (g : Unit) => [(1, U64 a1), (4, .pointer (some ⟨g_2, 0, none⟩)), (11, .pointer (some ⟨g_16, 0, none⟩)), (16, .pointer (some ⟨g_22, 0, none⟩)), (17, .int .i64 s.2)]) (fun (s : (Vec (BitVec 64) 25) × (Int)) (g : Unit) => [(1, U64 a1), (4, .pointer (some ⟨g_2, 0, none⟩)), (16, .pointer (some ⟨g_22, 0, none⟩))]) (fun (s : (Vec (BitVec 64) 25) × (Int)) (g : Unit) => Mm w [] h [.blk g_22 115 (cV U64 s.1) 25, .blk g_16 115 (cV U64 y_16_17) 25, .blk g_2 115 (cV U64 (Vec.rep 25 0#64)) 25]) (fun (s : (Vec (BitVec 64) 25) × (Int)) (g : Unit) => Mm w [] h [.blk g_22 115 (cV U64 s.1) 25, .blk g_2 115 (cV U64 (Vec.rep 25 0#64)) 25]) (fun (s : (Vec (BitVec 64) 25) × (Int)) (g : Unit) => True) (fun (s : (Vec (BitVec 64) 25) × (Int)) (g : Unit) => True) () trivial (fun a w ha hw => ⟨ha.cons rfl (ha.cons rfl (ha.cons rfl (ha.cons rfl (ha.cons rfl (ha.nil))))), hw⟩) (fun Gn Gb s g e hφ H hn1 hb1 hr1 => ?_) (fun s g hzz hφ => ?_)
        ·
          obtain ⟨y_22, x17⟩ := s
          change smithyref05_Round.b6 y_16_17 y_22 x17 = some e at H
          unfold smithyref05_Round.b6 at H
          clear hz1
          change T 157 _ _ _
          refine t_seq ?_
          refine t_seq ?_
          refine t_region (fun ops hops => ?_)
          clear hops
          refine z_val (v := .int .i64 x17) (val_move rfl rfl) rfl rfl rfl (fun _ _ _ => trivial) ?_
          obtain ⟨x114, hx114, H⟩ := Let_elim H
          refine z_val (v := .bool x114) (by subst hx114; exact val_bin rfl rfl rfl rfl (i64_lss _ _ _)) rfl rfl rfl (fun _ _ _ => trivial) ?_
          clear hx114
          refine z_nil ?_
          cases x114
          ·
            replace H := cond_f H
            refine t_cond_false rfl ?_
            refine t_exit rfl ?_
            obtain rfl := Option.some.inj H
            exact t_reach ((hb1 _ () rfl trivial).weak (fun a ha => ha.cons rfl (ha.cons rfl (ha.cons rfl (ha.nil)))) (fun w hw => hw.sel [0, 2] rfl rfl))
          ·
            replace H := cond_t H
            refine t_cond_true rfl ?_
            refine t_skip ?_
            refine t_seq ?_
            refine t_block ?_
            refine t_seq ?_
            refine t_region (fun ops hops => ?_)
            clear hops
            refine z_val (v := .int .i64 0) (val_assign rfl rfl) rfl rfl rfl (fun _ _ _ => trivial) ?_
            refine z_nil ?_
            refine t_block ?_
            obtain ⟨z2, hz2, HK2⟩ := Option.bind_eq_some_iff.1 H
            clear H
            refine t_while hz2 (fun (s : (Vec (BitVec 64) 25) × (Int)) (g : Unit) => [(1, U64 a1), (4, .pointer (some ⟨g_2, 0, none⟩)), (11, .pointer (some ⟨g_16, 0, none⟩)), (16, .pointer (some ⟨g_22, 0, none⟩)), (17, .int .i64 x17), (18, .int .i64 s.2)]) (fun (s : (Vec (BitVec 64) 25) × (Int)) (g : Unit) => [(1, U64 a1), (4, .pointer (some ⟨g_2, 0, none⟩)), (11, .pointer (some ⟨g_16, 0, none⟩)), (16, .pointer (some ⟨g_22, 0, none⟩)), (17, .int .i64 x17)]) (fun (s : (Vec (BitVec 64) 25) × (Int)) (g : Unit) => Mm w [] h [.blk g_22 115 (cV U64 s.1) 25, .blk g_16 115 (cV U64 y_16_17) 25, .blk g_2 115 (cV U64 (Vec.rep 25 0#64)) 25]) (fun (s : (Vec (BitVec 64) 25) × (Int)) (g : Unit) => Mm w [] h [.blk g_22 115 (cV U64 s.1) 25, .blk g_16 115 (cV U64 y_16_17) 25, .blk g_2 115 (cV U64 (Vec.rep 25 0#64)) 25]) (fun (s : (Vec (BitVec 64) 25) × (Int)) (g : Unit) => True) (fun (s : (Vec (BitVec 64) 25) × (Int)) (g : Unit) => True) () trivial (fun a w ha hw => ⟨ha.cons rfl (ha.cons rfl (ha.cons rfl (ha.cons rfl (ha.cons rfl (ha.cons rfl (ha.nil)))))), hw⟩) (fun Gn Gb s g e hφ H hn2 hb2 hr2 => ?_) (fun s g hzz hφ => ?_)
            ·
              obtain ⟨y_22_23, x18⟩ := s
              change smithyref05_Round.b7 x17 y_16_17 y_22_23 x18 = some e at H
              unfold smithyref05_Round.b7 at H
              clear hz2
              change T 157 _ _ _
              refine t_seq ?_
              refine t_seq ?_
              refine t_region (fun ops hops => ?_)
              clear hops
              refine z_val (v := .int .i64 x18) (val_move rfl rfl) rfl rfl rfl (fun _ _ _ => trivial) ?_
              obtain ⟨x118, hx118, H⟩ := Let_elim H
              refine z_val (v := .bool x118) (by subst hx118; exact val_bin rfl rfl rfl rfl (i64_lss _ _ _)) rfl rfl rfl (fun _ _ _ => trivial) ?_
              clear hx118
              refine z_nil ?_
              cases x118
              ·
                replace H := cond_f H
                refine t_cond_false rfl ?_
                refine t_exit rfl ?_
                obtain rfl := Option.some.inj H
                exact t_reach ((hb2 _ () rfl trivial).weak (fun a ha => ha.cons rfl (ha.cons rfl (ha.cons rfl (ha.cons rfl (ha.cons rfl (ha.nil)))))) (fun w hw => hw))
              ·
                replace H := cond_t H
                refine t_cond_true rfl ?_
                refine t_skip ?_
                refine t_seq ?_
                refine t_block ?_
                refine t_plan (C := Mm w [] h [.blk g_22 115 (cV U64 y_22_23) 25, .blk g_16 115 (cV U64 y_16_17) 25, .blk g_2 115 (cV U64 (Vec.rep 25 0#64)) 25]) [30] [(0, true), (1, true), (2, true), (3, true), (4, true), (5, true), (6, true), (7, true), (8, true), (9, true), (10, true), (11, true), (12, true), (13, true), (14, true), (15, true), (16, true), (17, true), (18, true), (19, true), (20, true), (21, true), (22, true), (23, true), (24, true), (25, true), (26, true), (27, true), (28, true), (29, true), (30, false)] (by kernel_rfl) (by kernel_rfl) (fun _ hw => hw.drew) (fun ops hops => ?_)
                clear hops
                refine z_still (v := .int .i64 x17) (val_move rfl rfl) rfl rfl rfl (fun _ hw => hw) ?_
                refine z_still (v := .int .i64 x18) (val_move rfl rfl) rfl rfl rfl (fun _ hw => hw) ?_
                obtain ⟨x123, hx123, H⟩ := Let_elim H
                refine z_still (v := .int .i64 x123) (by subst hx123; exact val_bin rfl rfl rfl rfl (i64_mul _ _ _)) rfl rfl rfl (fun _ hw => hw) ?_
                clear hx123
                obtain ⟨x124, hx124, H⟩ := Let_elim H
                refine z_still (v := .int .i64 x124) (by subst hx124; exact val_bin rfl rfl rfl rfl (i64_add _ _ _)) rfl rfl rfl (fun _ hw => hw) ?_
                clear hx124
                refine z_still (v := .int .i64 x17) (val_move rfl rfl) rfl rfl rfl (fun _ hw => hw) ?_
                refine z_still (v := .int .i64 x18) (val_move rfl rfl) rfl rfl rfl (fun _ hw => hw) ?_
                obtain ⟨x127, hx127, H⟩ := Let_elim H
                refine z_still (v := .int .i64 x127) (by subst hx127; exact val_bin rfl rfl rfl rfl (i64_mul _ _ _)) rfl rfl rfl (fun _ hw => hw) ?_
                clear hx127
                obtain ⟨x128, hx128, H⟩ := Let_elim H
                refine z_still (v := .int .i64 x128) (by subst hx128; exact val_bin rfl rfl rfl rfl (i64_add _ _ _)) rfl rfl rfl (fun _ hw => hw) ?_
                clear hx128
                obtain ⟨hq_24, H⟩ := Chk_elim H
                refine z_still (v := .pointer (some ⟨g_16, x128.toNat, none⟩)) (val_idx0 rfl rfl rfl Tryd.underlying115 sz24 hq_24 rfl) rfl rfl rfl (fun _ hw => hw) ?_
                obtain ⟨x130, hx130, H⟩ := Let_elim H
                refine z_still (v := U64 x130) (by subst hx130; exact val_load1 rfl rfl Tryd.underlying24 rfl (fun _ hw => hw.cell (j := 1) rfl (cV_at _ (idx_lt hq_24)))) rfl rfl rfl (fun _ hw => hw) ?_
                clear hx130
                refine z_still (v := .int .i64 x17) (val_move rfl rfl) rfl rfl rfl (fun _ hw => hw) ?_
                obtain ⟨x132, hx132, H⟩ := Let_elim H
                refine z_still (v := .int .i64 x132) (by subst hx132; exact val_bin rfl rfl rfl rfl (i64_add _ _ _)) rfl rfl rfl (fun _ hw => hw) ?_
                clear hx132
                obtain ⟨x133, hx133, H⟩ := Let_elim H
                refine z_still (v := .int .i64 x133) (by subst hx133; exact val_bin rfl rfl rfl rfl (i64_rem _ _ _ (by decide))) rfl rfl rfl (fun _ hw => hw) ?_
                clear hx133
                refine z_still (v := .int .i64 x18) (val_move rfl rfl) rfl rfl rfl (fun _ hw => hw) ?_
                obtain ⟨x135, hx135, H⟩ := Let_elim H
                refine z_still (v := .int .i64 x135) (by subst hx135; exact val_bin rfl rfl rfl rfl (i64_mul _ _ _)) rfl rfl rfl (fun _ hw => hw) ?_
                clear hx135
                obtain ⟨x136, hx136, H⟩ := Let_elim H
                refine z_still (v := .int .i64 x136) (by subst hx136; exact val_bin rfl rfl rfl rfl (i64_add _ _ _)) rfl rfl rfl (fun _ hw => hw) ?_
                clear hx136
                obtain ⟨hq_25, H⟩ := Chk_elim H
                refine z_still (v := .pointer (some ⟨g_16, x136.toNat, none⟩)) (val_idx0 rfl rfl rfl Tryd.underlying115 sz24 hq_25 rfl) rfl rfl rfl (fun _ hw => hw) ?_
                obtain ⟨x138, hx138, H⟩ := Let_elim H
                refine z_still (v := U64 x138) (by subst hx138; exact val_load1 rfl rfl Tryd.underlying24 rfl (fun _ hw => hw.cell (j := 1) rfl (cV_at _ (idx_lt hq_25)))) rfl rfl rfl (fun _ hw => hw) ?_
                clear hx138
                obtain ⟨x139, hx139, H⟩ := Let_elim H
                refine z_still (v := U64 x139) (by subst hx139; exact val_bin rfl rfl rfl rfl (u64_sub_l _ _ _)) rfl rfl rfl (fun _ hw => hw) ?_
                clear hx139
                refine z_still (v := .int .i64 x17) (val_move rfl rfl) rfl rfl rfl (fun _ hw => hw) ?_
                obtain ⟨x141, hx141, H⟩ := Let_elim H
                refine z_still (v := .int .i64 x141) (by subst hx141; exact val_bin rfl rfl rfl rfl (i64_add _ _ _)) rfl rfl rfl (fun _ hw => hw) ?_
                clear hx141
                obtain ⟨x142, hx142, H⟩ := Let_elim H
                refine z_still (v := .int .i64 x142) (by subst hx142; exact val_bin rfl rfl rfl rfl (i64_rem _ _ _ (by decide))) rfl rfl rfl (fun _ hw => hw) ?_
                clear hx142
                refine z_still (v := .int .i64 x18) (val_move rfl rfl) rfl rfl rfl (fun _ hw => hw) ?_
                obtain ⟨x144, hx144, H⟩ := Let_elim H
                refine z_still (v := .int .i64 x144) (by subst hx144; exact val_bin rfl rfl rfl rfl (i64_mul _ _ _)) rfl rfl rfl (fun _ hw => hw) ?_
                clear hx144
                obtain ⟨x145, hx145, H⟩ := Let_elim H
                refine z_still (v := .int .i64 x145) (by subst hx145; exact val_bin rfl rfl rfl rfl (i64_add _ _ _)) rfl rfl rfl (fun _ hw => hw) ?_
                clear hx145
                obtain ⟨hq_26, H⟩ := Chk_elim H
                refine z_still (v := .pointer (some ⟨g_16, x145.toNat, none⟩)) (val_idx0 rfl rfl rfl Tryd.underlying115 sz24 hq_26 rfl) rfl rfl rfl (fun _ hw => hw) ?_
                obtain ⟨x147, hx147, H⟩ := Let_elim H
                refine z_still (v := U64 x147) (by subst hx147; exact val_load1 rfl rfl Tryd.underlying24 rfl (fun _ hw => hw.cell (j := 1) rfl (cV_at _ (idx_lt hq_26)))) rfl rfl rfl (fun _ hw => hw) ?_
                clear hx147
                obtain ⟨x148, hx148, H⟩ := Let_elim H
                refine z_still (v := U64 x148) (by subst hx148; exact val_bin rfl rfl rfl rfl (u64_and _ _ _)) rfl rfl rfl (fun _ hw => hw) ?_
                clear hx148
                obtain ⟨x149, hx149, H⟩ := Let_elim H
                refine z_still (v := U64 x149) (by subst hx149; exact val_bin rfl rfl rfl rfl (u64_xor _ _ _)) rfl rfl rfl (fun _ hw => hw) ?_
                clear hx149
                obtain ⟨hq_27, H⟩ := Chk_elim H
                refine z_still (v := .pointer (some ⟨g_22, x124.toNat, none⟩)) (val_idx0 rfl rfl rfl Tryd.underlying115 sz24 hq_27 rfl) rfl rfl rfl (fun _ hw => hw) ?_
                obtain ⟨y_22_28, hy_22_28, H⟩ := Let_elim H
                refine z_store1 (j := 0) (cs' := cV U64 y_22_28) (L' := [.blk g_22 115 (cV U64 y_22_28) 25, .blk g_16 115 (cV U64 y_16_17) 25, .blk g_2 115 (cV U64 (Vec.rep 25 0#64)) 25]) rfl rfl rfl rfl rfl sz24 rfl (by rw [cV_len]; exact (idx_lt hq_27)) (by subst hy_22_28; exact cV_set (f := U64) _ _ x149) rfl rfl rfl (fun hb => absurd hb (by decide)) ?_
                clear hy_22_28
                refine z_nil ?_
                refine t_fin ?_
                refine t_region (fun ops hops => ?_)
                clear hops
                refine z_val (v := .int .i64 x18) (val_move rfl rfl) rfl rfl rfl (fun _ _ _ => trivial) ?_
                obtain ⟨x120, hx120, H⟩ := Let_elim H
                refine z_val (v := .int .i64 x120) (by subst hx120; exact val_bin rfl rfl rfl rfl (i64_add _ _ _)) rfl rfl rfl (fun _ _ _ => trivial) ?_
                clear hx120
                refine z_val (v := .int .i64 x120) (val_assign rfl rfl) rfl rfl rfl (fun _ _ _ => trivial) ?_
                refine z_nil ?_
                obtain rfl := Option.some.inj H
                exact t_reach ((hn2 _ () rfl trivial).weak (fun a ha => ha.cons rfl (ha.cons rfl (ha.cons rfl (ha.cons rfl (ha.cons rfl (ha.cons rfl (ha.nil))))))) (fun w hw => hw))
            ·
              obtain ⟨y_22_23, x18⟩ := s
              subst hzz
              have H := HK2
              clear HK2 hz2
              replace H := sum_l H
              try dsimp only at H
              change T 157 _ _ _
              refine t_fin ?_
              refine t_region (fun ops hops => ?_)
              clear hops
              refine z_val (v := .int .i64 x17) (val_move rfl rfl) rfl rfl rfl (fun _ _ _ => trivial) ?_
              obtain ⟨x116, hx116, H⟩ := Let_elim H
              refine z_val (v := .int .i64 x116) (by subst hx116; exact val_bin rfl rfl rfl rfl (i64_add _ _ _)) rfl rfl rfl (fun _ _ _ => trivial) ?_
              clear hx116
              refine z_val (v := .int .i64 x116) (val_assign rfl rfl) rfl rfl rfl (fun _ _ _ => trivial) ?_
              refine z_nil ?_
              obtain rfl := Option.some.inj H
              exact t_reach ((hn1 _ () rfl trivial).weak (fun a ha => ha.cons rfl (ha.cons rfl (ha.cons rfl (ha.cons rfl (ha.cons rfl (ha.nil)))))) (fun w hw => hw))
        ·
          obtain ⟨y_22, x17⟩ := s
          subst hzz
          have H := HK1
          clear HK1 hz1
          replace H := sum_l H
          try dsimp only at H
          change T 157 _ _ _
          refine t_seq ?_
          refine t_region (fun ops hops => ?_)
          clear hops
          refine z_val (v := .pointer (some ⟨g_22, 0, none⟩)) (val_idx0 rfl rfl rfl Tryd.underlying115 sz24 (by decide) rfl) rfl rfl rfl (fun _ _ _ => trivial) ?_
          obtain ⟨x152, hx152, H⟩ := Let_elim H
          refine z_val (v := U64 x152) (by subst hx152; exact val_load1 rfl rfl Tryd.underlying24 rfl (fun _ hw => hw.cell (j := 0) rfl (cV_at _ (by decide)))) rfl rfl rfl (fun _ _ _ => trivial) ?_
          clear hx152
          refine z_val (v := U64 a1) (val_move rfl rfl) rfl rfl rfl (fun _ _ _ => trivial) ?_
          obtain ⟨x154, hx154, H⟩ := Let_elim H
          refine z_val (v := U64 x154) (by subst hx154; exact val_bin rfl rfl rfl rfl (u64_xor _ _ _)) rfl rfl rfl (fun _ _ _ => trivial) ?_
          clear hx154
          refine z_val (v := .pointer (some ⟨g_22, 0, none⟩)) (val_idx0 rfl rfl rfl Tryd.underlying115 sz24 (by decide) rfl) rfl rfl rfl (fun _ _ _ => trivial) ?_
          obtain ⟨y_22_29, hy_22_29, H⟩ := Let_elim H
          refine z_store1 (j := 0) (cs' := cV U64 y_22_29) (L' := [.blk g_22 115 (cV U64 y_22_29) 25, .blk g_2 115 (cV U64 (Vec.rep 25 0#64)) 25]) rfl rfl rfl rfl rfl sz24 rfl (by rw [cV_len]; exact (by decide)) (by subst hy_22_29; exact cV_set (f := U64) _ _ x154) rfl rfl rfl (fun _ _ _ => trivial) ?_
          clear hy_22_29
          refine z_nil ?_
          refine t_seq ?_
          refine t_region (fun ops hops => ?_)
          clear hops
          refine z_val (v := .agg (cV U64 y_22_29).toArray) (val_loadR (off := 0) (cs := cV U64 y_22_29) rfl rfl Tryd.underlying115 rfl (sz115.trans (congrArg some (cV_len _).symm)) (fun _ hw => hw.whole (j := 0) rfl)) rfl rfl rfl (fun _ _ _ => trivial) ?_
          refine z_storeA (j := 1) (cs' := cV U64 y_22_29) (L' := [.blk g_22 115 (cV U64 y_22_29) 25, .blk g_2 115 (cV U64 y_22_29) 25]) rfl rfl rfl (cV_one (fun _ => rfl) _) sz115 rfl (cV_len _) rfl rfl rfl (fun _ _ _ => trivial) ?_
          refine z_nil ?_
          refine t_ret ?_
          obtain rfl := Option.some.inj H
          exact ret1 rfl (res_row (j := 1) rfl Tryd.underlying115 rfl sz115 rfl (cV_len _)) (fun _ hw => ⟨rfl, hw.below⟩)
def smithyref05_Turn.b1 (x5 : Vec (BitVec 64) 24) (y_1 : Vec (BitVec 64) 25) (x4 : Int) : Option (Ctl ((Vec (BitVec 64) 25) × (Int)) (Vec (BitVec 64) 25)) :=
  Let (decide (x4 < 24)) fun x7 => (bif x7 then Chk (0 ≤ x4 ∧ x4 < ((24 : Nat) : Int)) <| Let (x5.get x4.toNat) fun x13 => (smithyref05_Round y_1 x13).bind fun x14 => Let (wi (x4 + 1)) fun x9 => some (.next (x14, x9)) else some (.brk (y_1, x4)))
def smithyref05_Turn (a0 : Vec (BitVec 64) 25) : Option (Vec (BitVec 64) 25) :=
  (smithyref05_Constants).bind fun x5 => (wlx (σ := (Vec (BitVec 64) 25) × (Int)) (fun s => smithyref05_Turn.b1 x5 s.1 s.2) (a0, 0)).bind (Sum.elim (fun s => (fun y_1 x4 => some y_1) s.1 s.2) (fun r => some r))
set_option maxRecDepth 100000 in
theorem smithyref05_Turn.calls (a0 : Vec (BitVec 64) 25) (r : Vec (BitVec 64) 25) (H : smithyref05_Turn a0 = some r) (w : World)  :
    Made Tryd.prog 90 #[.agg (cV U64 a0).toArray] w (.agg (cV U64 r).toArray) := by
  unfold smithyref05_Turn at H
  have hM := Mm.start w (snap w) (snap_ok w)
  generalize snap w = h at *
  refine t_enter (vs := [.agg (cV U64 a0).toArray]) (n := 16) Tryd.func90 rfl rfl rfl hM ?_
  clear hM
  change T 16 _ _ _
  refine t_seq ?_
  refine t_region (fun ops hops => ?_)
  clear hops
  refine z_box (cs := cV U64 a0) (room := 25) rfl rfl rfl (cV_len _) rfl rfl rfl (fun _ _ _ _ => trivial) (fun g_1 => ?_)
  refine z_alloc (cs := cV U64 (Vec.rep 25 0#64)) (room := 25) rfl ze115 rfl (cV_len _) rfl rfl rfl (fun _ _ _ _ => trivial) (fun g_2 => ?_)
  refine z_nil ?_
  refine t_seq ?_
  refine t_region (fun ops hops => ?_)
  clear hops
  obtain ⟨x5, hx, H⟩ := Option.bind_eq_some_iff.1 H
  refine z_made (v := .agg (cV U64 x5).toArray) rfl Tryd.func114 nm114 bs114 rfl (fun w hw => smithyref05_Constants.calls x5 hx w) rfl rfl rfl (fun _ _ _ => trivial) ?_
  clear hx
  refine z_alloc (cs := cV U64 (Vec.rep 24 0#64)) (room := 24) rfl ze141 rfl (cV_len _) rfl rfl rfl (fun _ _ _ _ => trivial) (fun g_3 => ?_)
  refine z_storeA (j := 0) (cs' := cV U64 x5) (L' := [.blk g_3 141 (cV U64 x5) 24, .blk g_2 115 (cV U64 (Vec.rep 25 0#64)) 25, .blk g_1 115 (cV U64 a0) 25]) rfl rfl rfl (cV_one (fun _ => rfl) _) sz141 rfl (cV_len _) rfl rfl rfl (fun _ _ _ => trivial) ?_
  refine z_nil ?_
  refine t_seq ?_
  refine t_seq ?_
  refine t_region (fun ops hops => ?_)
  clear hops
  refine z_val (v := .int .i64 0) (val_assign rfl rfl) rfl rfl rfl (fun _ _ _ => trivial) ?_
  refine z_nil ?_
  refine t_block ?_
  obtain ⟨z1, hz1, HK1⟩ := Option.bind_eq_some_iff.1 H
  clear H
  refine t_while hz1 (fun (s : (Vec (BitVec 64) 25) × (Int)) (g : Unit) => [(1, .pointer (some ⟨g_1, 0, none⟩)), (2, .pointer (some ⟨g_2, 0, none⟩)), (3, .pointer (some ⟨g_3, 0, none⟩)), (4, .int .i64 s.2)]) (fun (s : (Vec (BitVec 64) 25) × (Int)) (g : Unit) => [(1, .pointer (some ⟨g_1, 0, none⟩)), (2, .pointer (some ⟨g_2, 0, none⟩))]) (fun (s : (Vec (BitVec 64) 25) × (Int)) (g : Unit) => Mm w [] h [.blk g_3 141 (cV U64 x5) 24, .blk g_2 115 (cV U64 (Vec.rep 25 0#64)) 25, .blk g_1 115 (cV U64 s.1) 25]) (fun (s : (Vec (BitVec 64) 25) × (Int)) (g : Unit) => Mm w [] h [.blk g_2 115 (cV U64 (Vec.rep 25 0#64)) 25, .blk g_1 115 (cV U64 s.1) 25]) (fun (s : (Vec (BitVec 64) 25) × (Int)) (g : Unit) => True) (fun (s : (Vec (BitVec 64) 25) × (Int)) (g : Unit) => True) () trivial (fun a w ha hw => ⟨ha.cons rfl (ha.cons rfl (ha.cons rfl (ha.cons rfl (ha.nil)))), hw⟩) (fun Gn Gb s g e hφ H hn1 hb1 hr1 => ?_) (fun s g hzz hφ => ?_)
  ·
    obtain ⟨y_1, x4⟩ := s
    change smithyref05_Turn.b1 x5 y_1 x4 = some e at H
    unfold smithyref05_Turn.b1 at H
    clear hz1
    change T 16 _ _ _
    refine t_seq ?_
    refine t_seq ?_
    refine t_region (fun ops hops => ?_)
    clear hops
    refine z_val (v := .int .i64 x4) (val_move rfl rfl) rfl rfl rfl (fun _ _ _ => trivial) ?_
    obtain ⟨x7, hx7, H⟩ := Let_elim H
    refine z_val (v := .bool x7) (by subst hx7; exact val_bin rfl rfl rfl rfl (i64_lss _ _ _)) rfl rfl rfl (fun _ _ _ => trivial) ?_
    clear hx7
    refine z_nil ?_
    cases x7
    ·
      replace H := cond_f H
      refine t_cond_false rfl ?_
      refine t_exit rfl ?_
      obtain rfl := Option.some.inj H
      exact t_reach ((hb1 _ () rfl trivial).weak (fun a ha => ha.cons rfl (ha.cons rfl (ha.nil))) (fun w hw => hw.sel [1, 2] rfl rfl))
    ·
      replace H := cond_t H
      refine t_cond_true rfl ?_
      refine t_skip ?_
      refine t_seq ?_
      refine t_block ?_
      refine t_plan (C := Mm w [] h [.blk g_3 141 (cV U64 x5) 24, .blk g_2 115 (cV U64 (Vec.rep 25 0#64)) 25, .blk g_1 115 (cV U64 y_1) 25]) [5] [(0, true), (1, true), (2, true), (3, true), (4, false), (5, false)] (by kernel_rfl) (by kernel_rfl) (fun _ hw => hw.drew) (fun ops hops => ?_)
      clear hops
      refine z_still (v := .agg (cV U64 y_1).toArray) (val_loadR (off := 0) (cs := cV U64 y_1) rfl rfl Tryd.underlying115 rfl (sz115.trans (congrArg some (cV_len _).symm)) (fun _ hw => hw.whole (j := 2) rfl)) rfl rfl rfl (fun _ hw => hw) ?_
      refine z_still (v := .int .i64 x4) (val_move rfl rfl) rfl rfl rfl (fun _ hw => hw) ?_
      obtain ⟨hq_4, H⟩ := Chk_elim H
      refine z_still (v := .pointer (some ⟨g_3, x4.toNat, none⟩)) (val_idx0 rfl rfl rfl Tryd.underlying141 sz24 hq_4 rfl) rfl rfl rfl (fun _ hw => hw) ?_
      obtain ⟨x13, hx13, H⟩ := Let_elim H
      refine z_still (v := U64 x13) (by subst hx13; exact val_load1 rfl rfl Tryd.underlying24 rfl (fun _ hw => hw.cell (j := 0) rfl (cV_at _ (idx_lt hq_4)))) rfl rfl rfl (fun _ hw => hw) ?_
      clear hx13
      obtain ⟨x14, hx_5, H⟩ := Option.bind_eq_some_iff.1 H
      refine z_made (v := .agg (cV U64 x14).toArray) rfl Tryd.func115 nm115 bs115 rfl (fun w hw => smithyref05_Round.calls y_1 x13 x14 hx_5 w) rfl rfl rfl (fun _ _ hw => hw) ?_
      clear hx_5
      refine z_storeA (j := 2) (cs' := cV U64 x14) (L' := [.blk g_3 141 (cV U64 x5) 24, .blk g_2 115 (cV U64 (Vec.rep 25 0#64)) 25, .blk g_1 115 (cV U64 x14) 25]) rfl rfl rfl (cV_one (fun _ => rfl) _) sz115 rfl (cV_len _) rfl rfl rfl (fun hb => absurd hb (by decide)) ?_
      refine z_nil ?_
      refine t_fin ?_
      refine t_region (fun ops hops => ?_)
      clear hops
      refine z_val (v := .int .i64 x4) (val_move rfl rfl) rfl rfl rfl (fun _ _ _ => trivial) ?_
      obtain ⟨x9, hx9, H⟩ := Let_elim H
      refine z_val (v := .int .i64 x9) (by subst hx9; exact val_bin rfl rfl rfl rfl (i64_add _ _ _)) rfl rfl rfl (fun _ _ _ => trivial) ?_
      clear hx9
      refine z_val (v := .int .i64 x9) (val_assign rfl rfl) rfl rfl rfl (fun _ _ _ => trivial) ?_
      refine z_nil ?_
      obtain rfl := Option.some.inj H
      exact t_reach ((hn1 _ () rfl trivial).weak (fun a ha => ha.cons rfl (ha.cons rfl (ha.cons rfl (ha.cons rfl (ha.nil))))) (fun w hw => hw))
  ·
    obtain ⟨y_1, x4⟩ := s
    subst hzz
    have H := HK1
    clear HK1 hz1
    replace H := sum_l H
    try dsimp only at H
    change T 16 _ _ _
    refine t_seq ?_
    refine t_region (fun ops hops => ?_)
    clear hops
    refine z_val (v := .agg (cV U64 y_1).toArray) (val_loadR (off := 0) (cs := cV U64 y_1) rfl rfl Tryd.underlying115 rfl (sz115.trans (congrArg some (cV_len _).symm)) (fun _ hw => hw.whole (j := 1) rfl)) rfl rfl rfl (fun _ _ _ => trivial) ?_
    refine z_storeA (j := 0) (cs' := cV U64 y_1) (L' := [.blk g_2 115 (cV U64 y_1) 25, .blk g_1 115 (cV U64 y_1) 25]) rfl rfl rfl (cV_one (fun _ => rfl) _) sz115 rfl (cV_len _) rfl rfl rfl (fun _ _ _ => trivial) ?_
    refine z_nil ?_
    refine t_ret ?_
    obtain rfl := Option.some.inj H
    exact ret1 rfl (res_row (j := 0) rfl Tryd.underlying115 rfl sz115 rfl (cV_len _)) (fun _ hw => ⟨rfl, hw.below⟩)
def smithyref05_Sum.b1  (x3 : List (BitVec 8)) : Option (Ctl ((List (BitVec 8))) (Vec (BitVec 8) 32)) :=
  Let ((x3.length : Int)) fun x17 => Let (Int.tmod x17 136) fun x18 => Let (x18 != 0) fun x19 => (bif x19 then Let ([0#8]) fun x21 => Chk ((x3.length + x21.length) * 1 ≤ 140737488355328) <| Let (x3 ++ x21) fun x22 => some (.next x22) else some (.brk x3))
def smithyref05_Sum.b2 (x_32 : List (BitVec 8)) (y_34 : Vec (BitVec 64) 25) (x5 : Int) : Option (Ctl ((Vec (BitVec 64) 25) × (Int)) (Vec (BitVec 8) 32)) :=
  Let ((x_32.length : Int)) fun x38 => Let (decide (x5 < x38)) fun x39 => (bif x39 then Let (Int.tmod x5 136) fun x43 => Let (wi (Int.tdiv x43 8)) fun x45 => Let (wi (Int.tdiv x43 8)) fun x47 => Chk (0 ≤ x47 ∧ x47 < ((25 : Nat) : Int)) <| Let (y_34.get x47.toNat) fun x49 => Chk ((0 : Int) ≤ x5 ∧ x5 < (x_32.length : Int)) <| Let (lget x_32 x5.toNat) fun x53 => Let (x53.setWidth 64) fun x54 => Let (Int.tmod x43 8) fun x56 => Let (wi (8 * x56)) fun x57 => Chk (0 ≤ x57) <| Let (x54 <<< x57.toNat) fun x58 => Let (x49 ^^^ x58) fun x59 => Chk (0 ≤ x45 ∧ x45 < ((25 : Nat) : Int)) <| Let (y_34.set x45.toNat x59) fun y_34_41 => Let (x43 == 135) fun x62 => (bif x62 then (smithyref05_Turn y_34_41).bind fun x64 => some x64 else some y_34_41).bind (fun y_34_42 => Let (wi (x5 + 1)) fun x41 => some (.next (y_34_42, x41))) else some (.brk (y_34, x5)))
def smithyref05_Sum.b3 (y_34 : Vec (BitVec 64) 25) (y_43 : Vec (BitVec 8) 32) (x8 : Int) : Option (Ctl ((Vec (BitVec 8) 32) × (Int)) (Vec (BitVec 8) 32)) :=
  Let (decide (x8 < 32)) fun x67 => (bif x67 then Let (wi (Int.tdiv x8 8)) fun x72 => Chk (0 ≤ x72 ∧ x72 < ((25 : Nat) : Int)) <| Let (y_34.get x72.toNat) fun x74 => Let (Int.tmod x8 8) fun x76 => Let (wi (8 * x76)) fun x77 => Chk (0 ≤ x77) <| Let (x74 >>> x77.toNat) fun x78 => Let (x78 % 256#64) fun x79 => Let (x79.setWidth 8) fun x80 => Chk (0 ≤ x8 ∧ x8 < ((32 : Nat) : Int)) <| Let (y_43.set x8.toNat x80) fun y_43_47 => Let (wi (x8 + 1)) fun x69 => some (.next (y_43_47, x69)) else some (.brk (y_43, x8)))
def smithyref05_Sum (a0 : List (BitVec 8)) : Option (Vec (BitVec 8) 32) :=
  Let (([] : List (BitVec 8))) fun x9 => Chk ((x9.length + a0.length) * 1 ≤ 140737488355328) <| Let (x9 ++ a0) fun x12 => Let ([1#8]) fun x14 => Chk ((x12.length + x14.length) * 1 ≤ 140737488355328) <| Let (x12 ++ x14) fun x15 => (wlx (σ := (List (BitVec 8))) (fun s => smithyref05_Sum.b1 s) x15).bind (Sum.elim (fun x3 => Let ((x3.length : Int)) fun x25 => Let (wi (x25 - 1)) fun x26 => Let ((x3.length : Int)) fun x29 => Let (wi (x29 - 1)) fun x30 => Chk ((0 : Int) ≤ x30 ∧ x30 < (x3.length : Int)) <| Let (lget x3 x30.toNat) fun x32 => Let (x32 ||| 128#8) fun x33 => Chk ((0 : Int) ≤ x26 ∧ x26 < (x3.length : Int)) <| Let (x3.set x26.toNat x33) fun x_32 => Let (Vec.rep 25 0#64) fun x35 => (wlx (σ := (Vec (BitVec 64) 25) × (Int)) (fun s => smithyref05_Sum.b2 x_32 s.1 s.2) (x35, 0)).bind (Sum.elim (fun s => (fun y_34 x5 => Let (Vec.rep 32 0#8) fun x65 => (wlx (σ := (Vec (BitVec 8) 32) × (Int)) (fun s => smithyref05_Sum.b3 y_34 s.1 s.2) (x65, 0)).bind (Sum.elim (fun s => (fun y_43 x8 => some y_43) s.1 s.2) (fun r => some r))) s.1 s.2) (fun r => some r))) (fun r => some r))
set_option maxRecDepth 100000 in
theorem smithyref05_Sum.calls (a0 : List (BitVec 8)) (A0 : Option Addr) (c0 : Nat) (r : Vec (BitVec 8) 32) (H : smithyref05_Sum a0 = some r) (w : World) (hs0 : SlW w U8 A0 a0) (hc0 : a0.length ≤ c0) :
    Made Tryd.prog 47 #[.slice A0 a0.length c0] w (.agg (cV U8 r).toArray) := by
  unfold smithyref05_Sum at H
  replace hs0 := hs0.toH
  have hM := Mm.start w (snap w) (snap_ok w)
  generalize snap w = h at *
  refine t_enter (vs := [.slice A0 a0.length c0]) (n := 83) Tryd.func47 rfl rfl rfl hM ?_
  clear hM
  change T 83 _ _ _
  refine t_seq ?_
  refine t_region (fun ops hops => ?_)
  clear hops
  refine z_alloc (cs := cV U8 (Vec.rep 32 0#8)) (room := 32) rfl ze47 rfl (cV_len _) rfl rfl rfl (fun _ _ _ _ => trivial) (fun g_1 => ?_)
  refine z_nil ?_
  refine t_seq ?_
  refine t_region (fun ops hops => ?_)
  clear hops
  obtain ⟨x9, hx9, H⟩ := Let_elim H
  have hlx9 : x9.length = 0 := by subst hx9; rfl
  refine z_buildSlice' (e := 5) (f := U8) (xs := x9) (vs := []) rfl rfl (by subst hx9; intro w; kernel_rfl) hlx9 (by decide) rfl rfl rfl (fun _ _ _ _ => trivial) (fun g_2 hs_4 => ?_)
  clear hx9 hlx9
  refine z_val (v := .slice (some ⟨g_2, 0, none⟩) x9.length 0) (val_assign rfl rfl) rfl rfl rfl (fun _ _ _ => trivial) ?_
  refine z_nil ?_
  refine t_seq ?_
  refine t_region (fun ops hops => ?_)
  clear hops
  refine z_val (v := .slice (some ⟨g_2, 0, none⟩) x9.length 0) (val_move rfl rfl) rfl rfl rfl (fun _ _ _ => trivial) ?_
  refine z_val (v := .slice A0 a0.length c0) (val_move rfl rfl) rfl rfl rfl (fun _ _ _ => trivial) ?_
  obtain ⟨hq_5, H⟩ := Chk_elim H
  obtain ⟨x12, hx12, H⟩ := Let_elim H
  refine z_append (f := U8) (j := 0) (xs := x9) (ys := a0) (zs := x12) rfl rfl Tryd.underlying27 in5 rfl rfl rfl rfl (fun w hw => (hs0.toW hw)) (fun _ => rfl) hq_5 (by decide) hx12 (fun A_6 c_7 => [.row (.slice A_6 x12.length c_7) 5 1 (x12.map U8), .blk g_1 47 (cV U8 (Vec.rep 32 0#8)) 32]) (fun _ _ => rfl) rfl rfl rfl (fun _ _ _ _ _ => trivial) (fun A_6 c_7 hs_8 => ?_)
  clear hx12
  refine z_val (v := .slice A_6 x12.length c_7) (val_assign rfl rfl) rfl rfl rfl (fun _ _ _ => trivial) ?_
  refine z_nil ?_
  refine t_seq ?_
  refine t_region (fun ops hops => ?_)
  clear hops
  refine z_val (v := .slice A_6 x12.length c_7) (val_move rfl rfl) rfl rfl rfl (fun _ _ _ => trivial) ?_
  obtain ⟨x14, hx14, H⟩ := Let_elim H
  have hlx14 : x14.length = 1 := by subst hx14; rfl
  refine z_buildSlice' (e := 5) (f := U8) (xs := x14) (vs := [(0, .int .u8 1)]) rfl rfl (by subst hx14; intro w; kernel_rfl) hlx14 (by decide) rfl rfl rfl (fun _ _ _ _ => trivial) (fun g_9 hs_11 => ?_)
  clear hx14 hlx14
  obtain ⟨hq_12, H⟩ := Chk_elim H
  obtain ⟨x15, hx15, H⟩ := Let_elim H
  refine z_append (f := U8) (j := 1) (xs := x12) (ys := x14) (zs := x15) rfl rfl Tryd.underlying27 in5 rfl rfl rfl rfl (fun w hw => (row_w hw (j := 0) rfl)) (fun _ => rfl) hq_12 (by decide) hx15 (fun A_13 c_14 => [.row (.slice (some ⟨g_9, 0, none⟩) x14.length 1) 5 1 (x14.map U8), .row (.slice A_13 x15.length c_14) 5 1 (x15.map U8), .blk g_1 47 (cV U8 (Vec.rep 32 0#8)) 32]) (fun _ _ => rfl) rfl rfl rfl (fun _ _ _ _ _ => trivial) (fun A_13 c_14 hs_15 => ?_)
  clear hx15
  refine z_val (v := .slice A_13 x15.length c_14) (val_assign rfl rfl) rfl rfl rfl (fun _ _ _ => trivial) ?_
  refine z_nil ?_
  refine t_seq ?_
  refine t_block ?_
  obtain ⟨z1, hz1, HK1⟩ := Option.bind_eq_some_iff.1 H
  clear H
  refine t_while hz1 (fun (s : (List (BitVec 8))) (g : (Option Addr) × (Nat)) => [(2, .pointer (some ⟨g_1, 0, none⟩)), (3, .slice g.1 s.length g.2)]) (fun (s : (List (BitVec 8))) (g : (Option Addr) × (Nat)) => [(2, .pointer (some ⟨g_1, 0, none⟩)), (3, .slice g.1 s.length g.2)]) (fun (s : (List (BitVec 8))) (g : (Option Addr) × (Nat)) => Mm w [] h [.row (.slice g.1 s.length g.2) 5 1 (s.map U8), .blk g_1 47 (cV U8 (Vec.rep 32 0#8)) 32]) (fun (s : (List (BitVec 8))) (g : (Option Addr) × (Nat)) => Mm w [] h [.row (.slice g.1 s.length g.2) 5 1 (s.map U8), .blk g_1 47 (cV U8 (Vec.rep 32 0#8)) 32]) (fun (s : (List (BitVec 8))) (g : (Option Addr) × (Nat)) => Shp g.1 s.length g.2) (fun (s : (List (BitVec 8))) (g : (Option Addr) × (Nat)) => Shp g.1 s.length g.2) ⟨A_13, c_14⟩ hs_15 (fun a w ha hw => ⟨ha.cons rfl (ha.cons rfl (ha.nil)), hw.sel [1, 2] rfl rfl⟩) (fun Gn Gb s g e hφ H hn1 hb1 hr1 => ?_) (fun s g hzz hφ => ?_)
  ·
    obtain ⟨x3, rfl⟩ : ∃ x, x = s := ⟨_, rfl⟩
    obtain ⟨A_16, c_17⟩ := g
    try dsimp only at hφ
    have hs_18 := hφ; clear hφ
    change smithyref05_Sum.b1 x3 = some e at H
    unfold smithyref05_Sum.b1 at H
    clear hz1
    change T 83 _ _ _
    refine t_seq ?_
    refine t_seq ?_
    refine t_region (fun ops hops => ?_)
    clear hops
    refine z_val (v := .slice A_16 x3.length c_17) (val_move rfl rfl) rfl rfl rfl (fun _ _ _ => trivial) ?_
    obtain ⟨x17, hx17, H⟩ := Let_elim H
    refine z_val (v := .int .i64 x17) (by subst hx17; exact val_len rfl rfl rfl Tryd.underlying27) rfl rfl rfl (fun _ _ _ => trivial) ?_
    clear hx17
    obtain ⟨x18, hx18, H⟩ := Let_elim H
    refine z_val (v := .int .i64 x18) (by subst hx18; exact val_bin rfl rfl rfl rfl (i64_rem _ _ _ (by decide))) rfl rfl rfl (fun _ _ _ => trivial) ?_
    clear hx18
    obtain ⟨x19, hx19, H⟩ := Let_elim H
    refine z_val (v := .bool x19) (by subst hx19; exact val_bin rfl rfl rfl rfl (i64_neq _ _ _)) rfl rfl rfl (fun _ _ _ => trivial) ?_
    clear hx19
    refine z_nil ?_
    cases x19
    ·
      replace H := cond_f H
      refine t_cond_false rfl ?_
      refine t_exit rfl ?_
      obtain rfl := Option.some.inj H
      exact t_reach ((hb1 _ ⟨A_16, c_17⟩ rfl hs_18).weak (fun a ha => ha.cons rfl (ha.cons rfl (ha.nil))) (fun w hw => hw))
    ·
      replace H := cond_t H
      refine t_cond_true rfl ?_
      refine t_skip ?_
      refine t_block ?_
      refine t_region (fun ops hops => ?_)
      clear hops
      refine z_val (v := .slice A_16 x3.length c_17) (val_move rfl rfl) rfl rfl rfl (fun _ _ _ => trivial) ?_
      obtain ⟨x21, hx21, H⟩ := Let_elim H
      have hlx21 : x21.length = 1 := by subst hx21; rfl
      refine z_buildSlice' (e := 5) (f := U8) (xs := x21) (vs := [(0, .int .u8 0)]) rfl rfl (by subst hx21; intro w; kernel_rfl) hlx21 (by decide) rfl rfl rfl (fun _ _ _ _ => trivial) (fun g_19 hs_21 => ?_)
      clear hx21 hlx21
      obtain ⟨hq_22, H⟩ := Chk_elim H
      obtain ⟨x22, hx22, H⟩ := Let_elim H
      refine z_append (f := U8) (j := 1) (xs := x3) (ys := x21) (zs := x22) rfl rfl Tryd.underlying27 in5 rfl rfl rfl rfl (fun w hw => (row_w hw (j := 0) rfl)) (fun _ => rfl) hq_22 (by decide) hx22 (fun A_23 c_24 => [.row (.slice (some ⟨g_19, 0, none⟩) x21.length 1) 5 1 (x21.map U8), .row (.slice A_23 x22.length c_24) 5 1 (x22.map U8), .blk g_1 47 (cV U8 (Vec.rep 32 0#8)) 32]) (fun _ _ => rfl) rfl rfl rfl (fun _ _ _ _ _ => trivial) (fun A_23 c_24 hs_25 => ?_)
      clear hx22
      refine z_val (v := .slice A_23 x22.length c_24) (val_assign rfl rfl) rfl rfl rfl (fun _ _ _ => trivial) ?_
      refine z_nil ?_
      refine t_fin ?_
      obtain rfl := Option.some.inj H
      exact t_reach ((hn1 _ ⟨A_23, c_24⟩ rfl hs_25).weak (fun a ha => ha.cons rfl (ha.cons rfl (ha.nil))) (fun w hw => hw.sel [1, 2] rfl rfl))
  ·
    obtain ⟨x3, rfl⟩ : ∃ x, x = s := ⟨_, rfl⟩
    obtain ⟨A_16, c_17⟩ := g
    try dsimp only at hφ
    have hs_18 := hφ; clear hφ
    subst hzz
    have H := HK1
    clear HK1 hz1
    replace H := sum_l H
    try dsimp only at H
    change T 83 _ _ _
    refine t_seq ?_
    refine t_region (fun ops hops => ?_)
    clear hops
    refine z_val (v := .slice A_16 x3.length c_17) (val_move rfl rfl) rfl rfl rfl (fun _ _ _ => trivial) ?_
    refine z_val (v := .slice A_16 x3.length c_17) (val_move rfl rfl) rfl rfl rfl (fun _ _ _ => trivial) ?_
    obtain ⟨x25, hx25, H⟩ := Let_elim H
    refine z_val (v := .int .i64 x25) (by subst hx25; exact val_len rfl rfl rfl Tryd.underlying27) rfl rfl rfl (fun _ _ _ => trivial) ?_
    clear hx25
    obtain ⟨x26, hx26, H⟩ := Let_elim H
    refine z_val (v := .int .i64 x26) (by subst hx26; exact val_bin rfl rfl rfl rfl (i64_sub _ _ _)) rfl rfl rfl (fun _ _ _ => trivial) ?_
    clear hx26
    refine z_val (v := .slice A_16 x3.length c_17) (val_move rfl rfl) rfl rfl rfl (fun _ _ _ => trivial) ?_
    refine z_val (v := .slice A_16 x3.length c_17) (val_move rfl rfl) rfl rfl rfl (fun _ _ _ => trivial) ?_
    obtain ⟨x29, hx29, H⟩ := Let_elim H
    refine z_val (v := .int .i64 x29) (by subst hx29; exact val_len rfl rfl rfl Tryd.underlying27) rfl rfl rfl (fun _ _ _ => trivial) ?_
    clear hx29
    obtain ⟨x30, hx30, H⟩ := Let_elim H
    refine z_val (v := .int .i64 x30) (by subst hx30; exact val_bin rfl rfl rfl rfl (i64_sub _ _ _)) rfl rfl rfl (fun _ _ _ => trivial) ?_
    clear hx30
    obtain ⟨hq_26, H⟩ := Chk_elim H
    obtain ⟨g_27, hA_28⟩ := hs_18.blk (by omega)
    refine z_val (v := .pointer (some ⟨g_27, x30.toNat, none⟩)) (val_idxS1 rfl rfl rfl Tryd.underlying27 sz5 hq_26 hA_28 rfl) rfl rfl rfl (fun _ _ _ => trivial) ?_
    obtain ⟨x32, hx32, H⟩ := Let_elim H
    refine z_val (v := U8 x32) (by subst hx32; exact val_load1 rfl rfl Tryd.underlying5 rfl (fun _ hw => row_cell' hw (j := 0) rfl hA_28 (idx_lt hq_26))) rfl rfl rfl (fun _ _ _ => trivial) ?_
    clear hx32
    obtain ⟨x33, hx33, H⟩ := Let_elim H
    refine z_val (v := U8 x33) (by subst hx33; exact val_bin rfl rfl rfl rfl (u8_or_r _ _ _)) rfl rfl rfl (fun _ _ _ => trivial) ?_
    clear hx33
    obtain ⟨hq_29, H⟩ := Chk_elim H
    obtain ⟨g_30, hA_31⟩ := hs_18.blk (by omega)
    refine z_val (v := .pointer (some ⟨g_30, x26.toNat, none⟩)) (val_idxS1 rfl rfl rfl Tryd.underlying27 sz5 hq_29 hA_31 rfl) rfl rfl rfl (fun _ _ _ => trivial) ?_
    obtain ⟨x_32, hx_32, H⟩ := Let_elim H
    have hs_33 : Shp A_16 x_32.length c_17 := by subst hx_32; rw [List.length_set]; exact hs_18
    refine z_storeRow' (j := 0) (zs := x_32) (L' := [.row (.slice A_16 x_32.length c_17) 5 1 (x_32.map U8), .blk g_1 47 (cV U8 (Vec.rep 32 0#8)) 32]) rfl rfl rfl rfl rfl rfl sz5 rfl hA_31 (idx_lt hq_29) (by subst hx_32; rfl) rfl rfl rfl (fun _ _ _ => trivial) ?_
    refine t_len (show x3.length = x_32.length by subst hx_32; rw [List.length_set]) (fun z => [(2, .pointer (some ⟨g_1, 0, none⟩)), (3, .slice A_16 z c_17), (23, .slice A_16 z c_17), (24, .slice A_16 z c_17), (25, .int .i64 x25), (26, .int .i64 x26), (27, .slice A_16 z c_17), (28, .slice A_16 z c_17), (29, .int .i64 x29), (30, .int .i64 x30), (31, .pointer (some ⟨g_27, x30.toNat, none⟩)), (32, U8 x32), (33, U8 x33), (34, .pointer (some ⟨g_30, x26.toNat, none⟩))]) (fun a ha => ha.cons rfl (ha.cons rfl (ha.cons rfl (ha.cons rfl (ha.cons rfl (ha.cons rfl (ha.cons rfl (ha.cons rfl (ha.cons rfl (ha.cons rfl (ha.cons rfl (ha.cons rfl (ha.cons rfl (ha.cons rfl (ha.nil))))))))))))))) ?_
    change T 83 _ _ _
    clear hx_32
    refine z_nil ?_
    refine t_seq ?_
    refine t_region (fun ops hops => ?_)
    clear hops
    obtain ⟨x35, hx35, H⟩ := Let_elim H
    refine z_val (v := .agg (cV U64 x35).toArray) (by subst hx35; exact val_build (vs := []) rfl rfl (fun w => by kernel_rfl)) rfl rfl rfl (fun _ _ _ => trivial) ?_
    clear hx35
    refine z_alloc (cs := cV U64 (Vec.rep 25 0#64)) (room := 25) rfl ze115 rfl (cV_len _) rfl rfl rfl (fun _ _ _ _ => trivial) (fun g_34 => ?_)
    refine z_storeA (j := 0) (cs' := cV U64 x35) (L' := [.blk g_34 115 (cV U64 x35) 25, .row (.slice A_16 x_32.length c_17) 5 1 (x_32.map U8), .blk g_1 47 (cV U8 (Vec.rep 32 0#8)) 32]) rfl rfl rfl (cV_one (fun _ => rfl) _) sz115 rfl (cV_len _) rfl rfl rfl (fun _ _ _ => trivial) ?_
    refine z_nil ?_
    refine t_seq ?_
    refine t_seq ?_
    refine t_region (fun ops hops => ?_)
    clear hops
    refine z_val (v := .int .i64 0) (val_assign rfl rfl) rfl rfl rfl (fun _ _ _ => trivial) ?_
    refine z_nil ?_
    refine t_block ?_
    obtain ⟨z1, hz1, HK1⟩ := Option.bind_eq_some_iff.1 H
    clear H
    refine t_while hz1 (fun (s : (Vec (BitVec 64) 25) × (Int)) (g : Unit) => [(2, .pointer (some ⟨g_1, 0, none⟩)), (3, .slice A_16 x_32.length c_17), (4, .pointer (some ⟨g_34, 0, none⟩)), (5, .int .i64 s.2)]) (fun (s : (Vec (BitVec 64) 25) × (Int)) (g : Unit) => [(2, .pointer (some ⟨g_1, 0, none⟩)), (4, .pointer (some ⟨g_34, 0, none⟩))]) (fun (s : (Vec (BitVec 64) 25) × (Int)) (g : Unit) => Mm w [] h [.blk g_34 115 (cV U64 s.1) 25, .row (.slice A_16 x_32.length c_17) 5 1 (x_32.map U8), .blk g_1 47 (cV U8 (Vec.rep 32 0#8)) 32]) (fun (s : (Vec (BitVec 64) 25) × (Int)) (g : Unit) => Mm w [] h [.blk g_34 115 (cV U64 s.1) 25, .blk g_1 47 (cV U8 (Vec.rep 32 0#8)) 32]) (fun (s : (Vec (BitVec 64) 25) × (Int)) (g : Unit) => True) (fun (s : (Vec (BitVec 64) 25) × (Int)) (g : Unit) => True) () trivial (fun a w ha hw => ⟨ha.cons rfl (ha.cons rfl (ha.cons rfl (ha.cons rfl (ha.nil)))), hw⟩) (fun Gn Gb s g e hφ H hn1 hb1 hr1 => ?_) (fun s g hzz hφ => ?_)
    ·
      obtain ⟨y_34, x5⟩ := s
      change smithyref05_Sum.b2 x_32 y_34 x5 = some e at H
      unfold smithyref05_Sum.b2 at H
      clear hz1
      change T 83 _ _ _
      refine t_seq ?_
      refine t_seq ?_
      refine t_region (fun ops hops => ?_)
      clear hops
      refine z_val (v := .int .i64 x5) (val_move rfl rfl) rfl rfl rfl (fun _ _ _ => trivial) ?_
      refine z_val (v := .slice A_16 x_32.length c_17) (val_move rfl rfl) rfl rfl rfl (fun _ _ _ => trivial) ?_
      obtain ⟨x38, hx38, H⟩ := Let_elim H
      refine z_val (v := .int .i64 x38) (by subst hx38; exact val_len rfl rfl rfl Tryd.underlying27) rfl rfl rfl (fun _ _ _ => trivial) ?_
      clear hx38
      obtain ⟨x39, hx39, H⟩ := Let_elim H
      refine z_val (v := .bool x39) (by subst hx39; exact val_bin rfl rfl rfl rfl (i64_lss _ _ _)) rfl rfl rfl (fun _ _ _ => trivial) ?_
      clear hx39
      refine z_nil ?_
      cases x39
      ·
        replace H := cond_f H
        refine t_cond_false rfl ?_
        refine t_exit rfl ?_
        obtain rfl := Option.some.inj H
        exact t_reach ((hb1 _ () rfl trivial).weak (fun a ha => ha.cons rfl (ha.cons rfl (ha.nil))) (fun w hw => hw.sel [0, 2] rfl rfl))
      ·
        replace H := cond_t H
        refine t_cond_true rfl ?_
        refine t_skip ?_
        refine t_seq ?_
        refine t_block ?_
        refine t_seq ?_
        refine t_region (fun ops hops => ?_)
        clear hops
        refine z_val (v := .int .i64 x5) (val_move rfl rfl) rfl rfl rfl (fun _ _ _ => trivial) ?_
        obtain ⟨x43, hx43, H⟩ := Let_elim H
        refine z_val (v := .int .i64 x43) (by subst hx43; exact val_bin rfl rfl rfl rfl (i64_rem _ _ _ (by decide))) rfl rfl rfl (fun _ _ _ => trivial) ?_
        clear hx43
        refine z_val (v := .int .i64 x43) (val_assign rfl rfl) rfl rfl rfl (fun _ _ _ => trivial) ?_
        refine z_nil ?_
        refine t_seq ?_
        refine t_plan (C := Mm w [] h [.blk g_34 115 (cV U64 y_34) 25, .row (.slice A_16 x_32.length c_17) 5 1 (x_32.map U8), .blk g_1 47 (cV U8 (Vec.rep 32 0#8)) 32]) [17] [(0, true), (1, true), (2, true), (3, true), (4, true), (5, true), (6, true), (7, true), (8, true), (9, true), (10, true), (11, true), (12, true), (13, true), (14, true), (15, true), (16, true), (17, false)] (by kernel_rfl) (by kernel_rfl) (fun _ hw => hw.drew) (fun ops hops => ?_)
        clear hops
        refine z_still (v := .int .i64 x43) (val_move rfl rfl) rfl rfl rfl (fun _ hw => hw) ?_
        obtain ⟨x45, hx45, H⟩ := Let_elim H
        refine z_still (v := .int .i64 x45) (by subst hx45; exact val_bin rfl rfl rfl rfl (i64_quo _ _ _ (by decide))) rfl rfl rfl (fun _ hw => hw) ?_
        clear hx45
        refine z_still (v := .int .i64 x43) (val_move rfl rfl) rfl rfl rfl (fun _ hw => hw) ?_
        obtain ⟨x47, hx47, H⟩ := Let_elim H
        refine z_still (v := .int .i64 x47) (by subst hx47; exact val_bin rfl rfl rfl rfl (i64_quo _ _ _ (by decide))) rfl rfl rfl (fun _ hw => hw) ?_
        clear hx47
        obtain ⟨hq_35, H⟩ := Chk_elim H
        refine z_still (v := .pointer (some ⟨g_34, x47.toNat, none⟩)) (val_idx0 rfl rfl rfl Tryd.underlying115 sz24 hq_35 rfl) rfl rfl rfl (fun _ hw => hw) ?_
        obtain ⟨x49, hx49, H⟩ := Let_elim H
        refine z_still (v := U64 x49) (by subst hx49; exact val_load1 rfl rfl Tryd.underlying24 rfl (fun _ hw => hw.cell (j := 0) rfl (cV_at _ (idx_lt hq_35)))) rfl rfl rfl (fun _ hw => hw) ?_
        clear hx49
        refine z_still (v := .slice A_16 x_32.length c_17) (val_move rfl rfl) rfl rfl rfl (fun _ hw => hw) ?_
        refine z_still (v := .int .i64 x5) (val_move rfl rfl) rfl rfl rfl (fun _ hw => hw) ?_
        obtain ⟨hq_36, H⟩ := Chk_elim H
        obtain ⟨g_37, hA_38⟩ := hs_33.blk (by omega)
        refine z_still (v := .pointer (some ⟨g_37, x5.toNat, none⟩)) (val_idxS1 rfl rfl rfl Tryd.underlying27 sz5 hq_36 hA_38 rfl) rfl rfl rfl (fun _ hw => hw) ?_
        obtain ⟨x53, hx53, H⟩ := Let_elim H
        refine z_still (v := U8 x53) (by subst hx53; exact val_load1 rfl rfl Tryd.underlying5 rfl (fun _ hw => row_cell' hw (j := 1) rfl hA_38 (idx_lt hq_36))) rfl rfl rfl (fun _ hw => hw) ?_
        clear hx53
        obtain ⟨x54, hx54, H⟩ := Let_elim H
        refine z_still (v := U64 x54) (by subst hx54; exact val_conv rfl rfl (fun w => conv_u8_u64 w _ _ _ (by rw [Tryd.underlying5]; rfl) Tryd.underlying24)) rfl rfl rfl (fun _ hw => hw) ?_
        clear hx54
        refine z_still (v := .int .i64 x43) (val_move rfl rfl) rfl rfl rfl (fun _ hw => hw) ?_
        obtain ⟨x56, hx56, H⟩ := Let_elim H
        refine z_still (v := .int .i64 x56) (by subst hx56; exact val_bin rfl rfl rfl rfl (i64_rem _ _ _ (by decide))) rfl rfl rfl (fun _ hw => hw) ?_
        clear hx56
        obtain ⟨x57, hx57, H⟩ := Let_elim H
        refine z_still (v := .int .i64 x57) (by subst hx57; exact val_bin rfl rfl rfl rfl (i64_mul _ _ _)) rfl rfl rfl (fun _ hw => hw) ?_
        clear hx57
        obtain ⟨hq_39, H⟩ := Chk_elim H
        obtain ⟨x58, hx58, H⟩ := Let_elim H
        refine z_still (v := U64 x58) (by subst hx58; exact val_bin rfl rfl rfl rfl (u64_shl _ _ _ _ hq_39)) rfl rfl rfl (fun _ hw => hw) ?_
        clear hx58
        obtain ⟨x59, hx59, H⟩ := Let_elim H
        refine z_still (v := U64 x59) (by subst hx59; exact val_bin rfl rfl rfl rfl (u64_xor _ _ _)) rfl rfl rfl (fun _ hw => hw) ?_
        clear hx59
        obtain ⟨hq_40, H⟩ := Chk_elim H
        refine z_still (v := .pointer (some ⟨g_34, x45.toNat, none⟩)) (val_idx0 rfl rfl rfl Tryd.underlying115 sz24 hq_40 rfl) rfl rfl rfl (fun _ hw => hw) ?_
        obtain ⟨y_34_41, hy_34_41, H⟩ := Let_elim H
        refine z_store1 (j := 0) (cs' := cV U64 y_34_41) (L' := [.blk g_34 115 (cV U64 y_34_41) 25, .row (.slice A_16 x_32.length c_17) 5 1 (x_32.map U8), .blk g_1 47 (cV U8 (Vec.rep 32 0#8)) 32]) rfl rfl rfl rfl rfl sz24 rfl (by rw [cV_len]; exact (idx_lt hq_40)) (by subst hy_34_41; exact cV_set (f := U64) _ _ x59) rfl rfl rfl (fun hb => absurd hb (by decide)) ?_
        clear hy_34_41
        refine z_nil ?_
        refine t_seq ?_
        refine t_region (fun ops hops => ?_)
        clear hops
        refine z_val (v := .int .i64 x43) (val_move rfl rfl) rfl rfl rfl (fun _ _ _ => trivial) ?_
        obtain ⟨x62, hx62, H⟩ := Let_elim H
        refine z_val (v := .bool x62) (by subst hx62; exact val_bin rfl rfl rfl rfl (i64_eql _ _ _)) rfl rfl rfl (fun _ _ _ => trivial) ?_
        clear hx62
        refine z_nil ?_
        refine t_bind H (fun (s : (Vec (BitVec 64) 25)) (g : Unit) => [(2, .pointer (some ⟨g_1, 0, none⟩)), (3, .slice A_16 x_32.length c_17), (4, .pointer (some ⟨g_34, 0, none⟩)), (5, .int .i64 x5)]) (fun (s : (Vec (BitVec 64) 25)) (g : Unit) => Mm w [] h [.blk g_34 115 (cV U64 s) 25, .row (.slice A_16 x_32.length c_17) 5 1 (x_32.map U8), .blk g_1 47 (cV U8 (Vec.rep 32 0#8)) 32]) (fun (s : (Vec (BitVec 64) 25)) (g : Unit) => True) (fun Gr K s he HJ => ?_) (fun s g HB hφ => ?_)
        ·
          clear H
          cases x62
          ·
            have H := cond_f he
            clear he
            refine t_cond_false rfl ?_
            refine t_skip ?_
            obtain rfl := Option.some.inj H
            exact t_reach ((K _ () HJ trivial).weak (fun a ha => ha.cons rfl (ha.cons rfl (ha.cons rfl (ha.cons rfl (ha.nil))))) (fun w hw => hw))
          ·
            have H := cond_t he
            clear he
            refine t_cond_true rfl ?_
            refine t_region (fun ops hops => ?_)
            clear hops
            refine z_val (v := .agg (cV U64 y_34_41).toArray) (val_loadR (off := 0) (cs := cV U64 y_34_41) rfl rfl Tryd.underlying115 rfl (sz115.trans (congrArg some (cV_len _).symm)) (fun _ hw => hw.whole (j := 0) rfl)) rfl rfl rfl (fun _ _ _ => trivial) ?_
            obtain ⟨x64, hx, H⟩ := Option.bind_eq_some_iff.1 H
            refine z_made (v := .agg (cV U64 x64).toArray) rfl Tryd.func90 nm90 bs90 rfl (fun w hw => smithyref05_Turn.calls y_34_41 x64 hx w) rfl rfl rfl (fun _ _ _ => trivial) ?_
            clear hx
            refine z_storeA (j := 0) (cs' := cV U64 x64) (L' := [.blk g_34 115 (cV U64 x64) 25, .row (.slice A_16 x_32.length c_17) 5 1 (x_32.map U8), .blk g_1 47 (cV U8 (Vec.rep 32 0#8)) 32]) rfl rfl rfl (cV_one (fun _ => rfl) _) sz115 rfl (cV_len _) rfl rfl rfl (fun _ _ _ => trivial) ?_
            refine z_nil ?_
            obtain rfl := Option.some.inj H
            exact t_reach ((K _ () HJ trivial).weak (fun a ha => ha.cons rfl (ha.cons rfl (ha.cons rfl (ha.cons rfl (ha.nil))))) (fun w hw => hw))
        ·
          replace H := HB
          clear HB
          obtain ⟨y_34_42, rfl⟩ : ∃ x, x = s := ⟨_, rfl⟩
          try dsimp only at H
          change T 83 _ _ _
          refine t_fin ?_
          refine t_region (fun ops hops => ?_)
          clear hops
          refine z_val (v := .int .i64 x5) (val_move rfl rfl) rfl rfl rfl (fun _ _ _ => trivial) ?_
          obtain ⟨x41, hx41, H⟩ := Let_elim H
          refine z_val (v := .int .i64 x41) (by subst hx41; exact val_bin rfl rfl rfl rfl (i64_add _ _ _)) rfl rfl rfl (fun _ _ _ => trivial) ?_
          clear hx41
          refine z_val (v := .int .i64 x41) (val_assign rfl rfl) rfl rfl rfl (fun _ _ _ => trivial) ?_
          refine z_nil ?_
          obtain rfl := Option.some.inj H
          exact t_reach ((hn1 _ () rfl trivial).weak (fun a ha => ha.cons rfl (ha.cons rfl (ha.cons rfl (ha.cons rfl (ha.nil))))) (fun w hw => hw))
    ·
      obtain ⟨y_34, x5⟩ := s
      subst hzz
      have H := HK1
      clear HK1 hz1
      replace H := sum_l H
      try dsimp only at H
      change T 83 _ _ _
      refine t_seq ?_
      refine t_region (fun ops hops => ?_)
      clear hops
      obtain ⟨x65, hx65, H⟩ := Let_elim H
      refine z_val (v := .agg (cV U8 x65).toArray) (by subst hx65; exact val_build (vs := []) rfl rfl (fun w => by kernel_rfl)) rfl rfl rfl (fun _ _ _ => trivial) ?_
      clear hx65
      refine z_alloc (cs := cV U8 (Vec.rep 32 0#8)) (room := 32) rfl ze47 rfl (cV_len _) rfl rfl rfl (fun _ _ _ _ => trivial) (fun g_43 => ?_)
      refine z_storeA (j := 0) (cs' := cV U8 x65) (L' := [.blk g_43 47 (cV U8 x65) 32, .blk g_34 115 (cV U64 y_34) 25, .blk g_1 47 (cV U8 (Vec.rep 32 0#8)) 32]) rfl rfl rfl (cV_one (fun _ => rfl) _) sz47 rfl (cV_len _) rfl rfl rfl (fun _ _ _ => trivial) ?_
      refine z_nil ?_
      refine t_seq ?_
      refine t_seq ?_
      refine t_region (fun ops hops => ?_)
      clear hops
      refine z_val (v := .int .i64 0) (val_assign rfl rfl) rfl rfl rfl (fun _ _ _ => trivial) ?_
      refine z_nil ?_
      refine t_block ?_
      obtain ⟨z1, hz1, HK1⟩ := Option.bind_eq_some_iff.1 H
      clear H
      refine t_while hz1 (fun (s : (Vec (BitVec 8) 32) × (Int)) (g : Unit) => [(2, .pointer (some ⟨g_1, 0, none⟩)), (4, .pointer (some ⟨g_34, 0, none⟩)), (7, .pointer (some ⟨g_43, 0, none⟩)), (8, .int .i64 s.2)]) (fun (s : (Vec (BitVec 8) 32) × (Int)) (g : Unit) => [(2, .pointer (some ⟨g_1, 0, none⟩)), (7, .pointer (some ⟨g_43, 0, none⟩))]) (fun (s : (Vec (BitVec 8) 32) × (Int)) (g : Unit) => Mm w [] h [.blk g_43 47 (cV U8 s.1) 32, .blk g_34 115 (cV U64 y_34) 25, .blk g_1 47 (cV U8 (Vec.rep 32 0#8)) 32]) (fun (s : (Vec (BitVec 8) 32) × (Int)) (g : Unit) => Mm w [] h [.blk g_43 47 (cV U8 s.1) 32, .blk g_1 47 (cV U8 (Vec.rep 32 0#8)) 32]) (fun (s : (Vec (BitVec 8) 32) × (Int)) (g : Unit) => True) (fun (s : (Vec (BitVec 8) 32) × (Int)) (g : Unit) => True) () trivial (fun a w ha hw => ⟨ha.cons rfl (ha.cons rfl (ha.cons rfl (ha.cons rfl (ha.nil)))), hw⟩) (fun Gn Gb s g e hφ H hn1 hb1 hr1 => ?_) (fun s g hzz hφ => ?_)
      ·
        obtain ⟨y_43, x8⟩ := s
        change smithyref05_Sum.b3 y_34 y_43 x8 = some e at H
        unfold smithyref05_Sum.b3 at H
        clear hz1
        change T 83 _ _ _
        refine t_seq ?_
        refine t_seq ?_
        refine t_region (fun ops hops => ?_)
        clear hops
        refine z_val (v := .int .i64 x8) (val_move rfl rfl) rfl rfl rfl (fun _ _ _ => trivial) ?_
        obtain ⟨x67, hx67, H⟩ := Let_elim H
        refine z_val (v := .bool x67) (by subst hx67; exact val_bin rfl rfl rfl rfl (i64_lss _ _ _)) rfl rfl rfl (fun _ _ _ => trivial) ?_
        clear hx67
        refine z_nil ?_
        cases x67
        ·
          replace H := cond_f H
          refine t_cond_false rfl ?_
          refine t_exit rfl ?_
          obtain rfl := Option.some.inj H
          exact t_reach ((hb1 _ () rfl trivial).weak (fun a ha => ha.cons rfl (ha.cons rfl (ha.nil))) (fun w hw => hw.sel [0, 2] rfl rfl))
        ·
          replace H := cond_t H
          refine t_cond_true rfl ?_
          refine t_skip ?_
          refine t_seq ?_
          refine t_block ?_
          refine t_region (fun ops hops => ?_)
          clear hops
          refine z_val (v := .int .i64 x8) (val_move rfl rfl) rfl rfl rfl (fun _ _ _ => trivial) ?_
          refine z_val (v := .int .i64 x8) (val_move rfl rfl) rfl rfl rfl (fun _ _ _ => trivial) ?_
          obtain ⟨x72, hx72, H⟩ := Let_elim H
          refine z_val (v := .int .i64 x72) (by subst hx72; exact val_bin rfl rfl rfl rfl (i64_quo _ _ _ (by decide))) rfl rfl rfl (fun _ _ _ => trivial) ?_
          clear hx72
          obtain ⟨hq_44, H⟩ := Chk_elim H
          refine z_val (v := .pointer (some ⟨g_34, x72.toNat, none⟩)) (val_idx0 rfl rfl rfl Tryd.underlying115 sz24 hq_44 rfl) rfl rfl rfl (fun _ _ _ => trivial) ?_
          obtain ⟨x74, hx74, H⟩ := Let_elim H
          refine z_val (v := U64 x74) (by subst hx74; exact val_load1 rfl rfl Tryd.underlying24 rfl (fun _ hw => hw.cell (j := 1) rfl (cV_at _ (idx_lt hq_44)))) rfl rfl rfl (fun _ _ _ => trivial) ?_
          clear hx74
          refine z_val (v := .int .i64 x8) (val_move rfl rfl) rfl rfl rfl (fun _ _ _ => trivial) ?_
          obtain ⟨x76, hx76, H⟩ := Let_elim H
          refine z_val (v := .int .i64 x76) (by subst hx76; exact val_bin rfl rfl rfl rfl (i64_rem _ _ _ (by decide))) rfl rfl rfl (fun _ _ _ => trivial) ?_
          clear hx76
          obtain ⟨x77, hx77, H⟩ := Let_elim H
          refine z_val (v := .int .i64 x77) (by subst hx77; exact val_bin rfl rfl rfl rfl (i64_mul _ _ _)) rfl rfl rfl (fun _ _ _ => trivial) ?_
          clear hx77
          obtain ⟨hq_45, H⟩ := Chk_elim H
          obtain ⟨x78, hx78, H⟩ := Let_elim H
          refine z_val (v := U64 x78) (by subst hx78; exact val_bin rfl rfl rfl rfl (u64_shr _ _ _ _ hq_45)) rfl rfl rfl (fun _ _ _ => trivial) ?_
          clear hx78
          obtain ⟨x79, hx79, H⟩ := Let_elim H
          refine z_val (v := U64 x79) (by subst hx79; exact val_bin rfl rfl rfl rfl (u64_rem_r _ _ _ (by decide) (by decide))) rfl rfl rfl (fun _ _ _ => trivial) ?_
          clear hx79
          obtain ⟨x80, hx80, H⟩ := Let_elim H
          refine z_val (v := U8 x80) (by subst hx80; exact val_conv rfl rfl (fun w => conv_u64_u8 w _ _ _ (by rw [Tryd.underlying24]; rfl) Tryd.underlying5)) rfl rfl rfl (fun _ _ _ => trivial) ?_
          clear hx80
          obtain ⟨hq_46, H⟩ := Chk_elim H
          refine z_val (v := .pointer (some ⟨g_43, x8.toNat, none⟩)) (val_idx0 rfl rfl rfl Tryd.underlying47 sz5 hq_46 rfl) rfl rfl rfl (fun _ _ _ => trivial) ?_
          obtain ⟨y_43_47, hy_43_47, H⟩ := Let_elim H
          refine z_store1 (j := 0) (cs' := cV U8 y_43_47) (L' := [.blk g_43 47 (cV U8 y_43_47) 32, .blk g_34 115 (cV U64 y_34) 25, .blk g_1 47 (cV U8 (Vec.rep 32 0#8)) 32]) rfl rfl rfl rfl rfl sz5 rfl (by rw [cV_len]; exact (idx_lt hq_46)) (by subst hy_43_47; exact cV_set (f := U8) _ _ x80) rfl rfl rfl (fun _ _ _ => trivial) ?_
          clear hy_43_47
          refine z_nil ?_
          refine t_fin ?_
          refine t_region (fun ops hops => ?_)
          clear hops
          refine z_val (v := .int .i64 x8) (val_move rfl rfl) rfl rfl rfl (fun _ _ _ => trivial) ?_
          obtain ⟨x69, hx69, H⟩ := Let_elim H
          refine z_val (v := .int .i64 x69) (by subst hx69; exact val_bin rfl rfl rfl rfl (i64_add _ _ _)) rfl rfl rfl (fun _ _ _ => trivial) ?_
          clear hx69
          refine z_val (v := .int .i64 x69) (val_assign rfl rfl) rfl rfl rfl (fun _ _ _ => trivial) ?_
          refine z_nil ?_
          obtain rfl := Option.some.inj H
          exact t_reach ((hn1 _ () rfl trivial).weak (fun a ha => ha.cons rfl (ha.cons rfl (ha.cons rfl (ha.cons rfl (ha.nil))))) (fun w hw => hw))
      ·
        obtain ⟨y_43, x8⟩ := s
        subst hzz
        have H := HK1
        clear HK1 hz1
        replace H := sum_l H
        try dsimp only at H
        change T 83 _ _ _
        refine t_seq ?_
        refine t_region (fun ops hops => ?_)
        clear hops
        refine z_val (v := .agg (cV U8 y_43).toArray) (val_loadR (off := 0) (cs := cV U8 y_43) rfl rfl Tryd.underlying47 rfl (sz47.trans (congrArg some (cV_len _).symm)) (fun _ hw => hw.whole (j := 0) rfl)) rfl rfl rfl (fun _ _ _ => trivial) ?_
        refine z_storeA (j := 1) (cs' := cV U8 y_43) (L' := [.blk g_43 47 (cV U8 y_43) 32, .blk g_1 47 (cV U8 y_43) 32]) rfl rfl rfl (cV_one (fun _ => rfl) _) sz47 rfl (cV_len _) rfl rfl rfl (fun _ _ _ => trivial) ?_
        refine z_nil ?_
        refine t_ret ?_
        obtain rfl := Option.some.inj H
        exact ret1 rfl (res_row (j := 1) rfl Tryd.underlying47 rfl sz47 rfl (cV_len _)) (fun _ hw => ⟨rfl, hw.below⟩)
def smithyref01_Of.b1 (a0 : Vec (BitVec 64) 4) (y_3 : Vec (Int) 32) (x4 : Int) : Option (Ctl ((Vec (Int) 32) × (Int)) (Vec (Int) 32)) :=
  Let (decide (x4 < 32)) fun x7 => (bif x7 then Let (wi (Int.tdiv x4 8)) fun x12 => Chk (0 ≤ x12 ∧ x12 < ((4 : Nat) : Int)) <| Let (a0.get x12.toNat) fun x14 => Let (Int.tmod x4 8) fun x16 => Let (wi (8 * x16)) fun x17 => Chk (0 ≤ x17) <| Let (x14 >>> x17.toNat) fun x18 => Let (x18 % 256#64) fun x19 => Let (IntKind.i64.wrap x19.toNat) fun x20 => Chk (0 ≤ x4 ∧ x4 < ((32 : Nat) : Int)) <| Let (y_3.set x4.toNat x20) fun y_3_7 => Let (wi (x4 + 1)) fun x9 => some (.next (y_3_7, x9)) else some (.brk (y_3, x4)))
def smithyref01_Of (a0 : Vec (BitVec 64) 4) : Option (Vec (Int) 32) :=
  Let (Vec.rep 32 0) fun x5 => (wlx (σ := (Vec (Int) 32) × (Int)) (fun s => smithyref01_Of.b1 a0 s.1 s.2) (x5, 0)).bind (Sum.elim (fun s => (fun y_3 x4 => some y_3) s.1 s.2) (fun r => some r))
set_option maxRecDepth 100000 in
theorem smithyref01_Of.calls (a0 : Vec (BitVec 64) 4) (r : Vec (Int) 32) (H : smithyref01_Of a0 = some r) (w : World)  :
    Made Tryd.prog 48 #[.agg (cV U64 a0).toArray] w (.agg (cV (Value.int .i64) r).toArray) := by
  unfold smithyref01_Of at H
  have hM := Mm.start w (snap w) (snap_ok w)
  generalize snap w = h at *
  refine t_enter (vs := [.agg (cV U64 a0).toArray]) (n := 23) Tryd.func48 rfl rfl rfl hM ?_
  clear hM
  change T 23 _ _ _
  refine t_seq ?_
  refine t_region (fun ops hops => ?_)
  clear hops
  refine z_box (cs := cV U64 a0) (room := 4) rfl rfl rfl (cV_len _) rfl rfl rfl (fun _ _ _ _ => trivial) (fun g_1 => ?_)
  refine z_alloc (cs := cV (Value.int .i64) (Vec.rep 32 0)) (room := 32) rfl ze75 rfl (cV_len _) rfl rfl rfl (fun _ _ _ _ => trivial) (fun g_2 => ?_)
  refine z_nil ?_
  refine t_seq ?_
  refine t_region (fun ops hops => ?_)
  clear hops
  obtain ⟨x5, hx5, H⟩ := Let_elim H
  refine z_val (v := .agg (cV (Value.int .i64) x5).toArray) (by subst hx5; exact val_build (vs := []) rfl rfl (fun w => by kernel_rfl)) rfl rfl rfl (fun _ _ _ => trivial) ?_
  clear hx5
  refine z_alloc (cs := cV (Value.int .i64) (Vec.rep 32 0)) (room := 32) rfl ze75 rfl (cV_len _) rfl rfl rfl (fun _ _ _ _ => trivial) (fun g_3 => ?_)
  refine z_storeA (j := 0) (cs' := cV (Value.int .i64) x5) (L' := [.blk g_3 75 (cV (Value.int .i64) x5) 32, .blk g_2 75 (cV (Value.int .i64) (Vec.rep 32 0)) 32, .blk g_1 26 (cV U64 a0) 4]) rfl rfl rfl (cV_one (fun _ => rfl) _) sz75 rfl (cV_len _) rfl rfl rfl (fun _ _ _ => trivial) ?_
  refine z_nil ?_
  refine t_seq ?_
  refine t_seq ?_
  refine t_region (fun ops hops => ?_)
  clear hops
  refine z_val (v := .int .i64 0) (val_assign rfl rfl) rfl rfl rfl (fun _ _ _ => trivial) ?_
  refine z_nil ?_
  refine t_block ?_
  obtain ⟨z1, hz1, HK1⟩ := Option.bind_eq_some_iff.1 H
  clear H
  refine t_while hz1 (fun (s : (Vec (Int) 32) × (Int)) (g : Unit) => [(1, .pointer (some ⟨g_1, 0, none⟩)), (2, .pointer (some ⟨g_2, 0, none⟩)), (3, .pointer (some ⟨g_3, 0, none⟩)), (4, .int .i64 s.2)]) (fun (s : (Vec (Int) 32) × (Int)) (g : Unit) => [(2, .pointer (some ⟨g_2, 0, none⟩)), (3, .pointer (some ⟨g_3, 0, none⟩))]) (fun (s : (Vec (Int) 32) × (Int)) (g : Unit) => Mm w [] h [.blk g_3 75 (cV (Value.int .i64) s.1) 32, .blk g_2 75 (cV (Value.int .i64) (Vec.rep 32 0)) 32, .blk g_1 26 (cV U64 a0) 4]) (fun (s : (Vec (Int) 32) × (Int)) (g : Unit) => Mm w [] h [.blk g_3 75 (cV (Value.int .i64) s.1) 32, .blk g_2 75 (cV (Value.int .i64) (Vec.rep 32 0)) 32]) (fun (s : (Vec (Int) 32) × (Int)) (g : Unit) => True) (fun (s : (Vec (Int) 32) × (Int)) (g : Unit) => True) () trivial (fun a w ha hw => ⟨ha.cons rfl (ha.cons rfl (ha.cons rfl (ha.cons rfl (ha.nil)))), hw⟩) (fun Gn Gb s g e hφ H hn1 hb1 hr1 => ?_) (fun s g hzz hφ => ?_)
  ·
    obtain ⟨y_3, x4⟩ := s
    change smithyref01_Of.b1 a0 y_3 x4 = some e at H
    unfold smithyref01_Of.b1 at H
    clear hz1
    change T 23 _ _ _
    refine t_seq ?_
    refine t_seq ?_
    refine t_region (fun ops hops => ?_)
    clear hops
    refine z_val (v := .int .i64 x4) (val_move rfl rfl) rfl rfl rfl (fun _ _ _ => trivial) ?_
    obtain ⟨x7, hx7, H⟩ := Let_elim H
    refine z_val (v := .bool x7) (by subst hx7; exact val_bin rfl rfl rfl rfl (i64_lss _ _ _)) rfl rfl rfl (fun _ _ _ => trivial) ?_
    clear hx7
    refine z_nil ?_
    cases x7
    ·
      replace H := cond_f H
      refine t_cond_false rfl ?_
      refine t_exit rfl ?_
      obtain rfl := Option.some.inj H
      exact t_reach ((hb1 _ () rfl trivial).weak (fun a ha => ha.cons rfl (ha.cons rfl (ha.nil))) (fun w hw => hw.sel [0, 1] rfl rfl))
    ·
      replace H := cond_t H
      refine t_cond_true rfl ?_
      refine t_skip ?_
      refine t_seq ?_
      refine t_block ?_
      refine t_region (fun ops hops => ?_)
      clear hops
      refine z_val (v := .int .i64 x4) (val_move rfl rfl) rfl rfl rfl (fun _ _ _ => trivial) ?_
      refine z_val (v := .int .i64 x4) (val_move rfl rfl) rfl rfl rfl (fun _ _ _ => trivial) ?_
      obtain ⟨x12, hx12, H⟩ := Let_elim H
      refine z_val (v := .int .i64 x12) (by subst hx12; exact val_bin rfl rfl rfl rfl (i64_quo _ _ _ (by decide))) rfl rfl rfl (fun _ _ _ => trivial) ?_
      clear hx12
      obtain ⟨hq_4, H⟩ := Chk_elim H
      refine z_val (v := .pointer (some ⟨g_1, x12.toNat, none⟩)) (val_idx0 rfl rfl rfl Tryd.underlying26 sz24 hq_4 rfl) rfl rfl rfl (fun _ _ _ => trivial) ?_
      obtain ⟨x14, hx14, H⟩ := Let_elim H
      refine z_val (v := U64 x14) (by subst hx14; exact val_load1 rfl rfl Tryd.underlying24 rfl (fun _ hw => hw.cell (j := 2) rfl (cV_at _ (idx_lt hq_4)))) rfl rfl rfl (fun _ _ _ => trivial) ?_
      clear hx14
      refine z_val (v := .int .i64 x4) (val_move rfl rfl) rfl rfl rfl (fun _ _ _ => trivial) ?_
      obtain ⟨x16, hx16, H⟩ := Let_elim H
      refine z_val (v := .int .i64 x16) (by subst hx16; exact val_bin rfl rfl rfl rfl (i64_rem _ _ _ (by decide))) rfl rfl rfl (fun _ _ _ => trivial) ?_
      clear hx16
      obtain ⟨x17, hx17, H⟩ := Let_elim H
      refine z_val (v := .int .i64 x17) (by subst hx17; exact val_bin rfl rfl rfl rfl (i64_mul _ _ _)) rfl rfl rfl (fun _ _ _ => trivial) ?_
      clear hx17
      obtain ⟨hq_5, H⟩ := Chk_elim H
      obtain ⟨x18, hx18, H⟩ := Let_elim H
      refine z_val (v := U64 x18) (by subst hx18; exact val_bin rfl rfl rfl rfl (u64_shr _ _ _ _ hq_5)) rfl rfl rfl (fun _ _ _ => trivial) ?_
      clear hx18
      obtain ⟨x19, hx19, H⟩ := Let_elim H
      refine z_val (v := U64 x19) (by subst hx19; exact val_bin rfl rfl rfl rfl (u64_rem_r _ _ _ (by decide) (by decide))) rfl rfl rfl (fun _ _ _ => trivial) ?_
      clear hx19
      obtain ⟨x20, hx20, H⟩ := Let_elim H
      refine z_val (v := .int .i64 x20) (by subst hx20; exact val_conv rfl rfl (fun w => conv_u64_int w _ _ _ (by rw [Tryd.underlying24]; rfl) Tryd.underlying3)) rfl rfl rfl (fun _ _ _ => trivial) ?_
      clear hx20
      obtain ⟨hq_6, H⟩ := Chk_elim H
      refine z_val (v := .pointer (some ⟨g_3, x4.toNat, none⟩)) (val_idx0 rfl rfl rfl Tryd.underlying75 sz3 hq_6 rfl) rfl rfl rfl (fun _ _ _ => trivial) ?_
      obtain ⟨y_3_7, hy_3_7, H⟩ := Let_elim H
      refine z_store1 (j := 0) (cs' := cV (Value.int .i64) y_3_7) (L' := [.blk g_3 75 (cV (Value.int .i64) y_3_7) 32, .blk g_2 75 (cV (Value.int .i64) (Vec.rep 32 0)) 32, .blk g_1 26 (cV U64 a0) 4]) rfl rfl rfl rfl rfl sz3 rfl (by rw [cV_len]; exact (idx_lt hq_6)) (by subst hy_3_7; exact cV_set (f := (Value.int .i64)) _ _ x20) rfl rfl rfl (fun _ _ _ => trivial) ?_
      clear hy_3_7
      refine z_nil ?_
      refine t_fin ?_
      refine t_region (fun ops hops => ?_)
      clear hops
      refine z_val (v := .int .i64 x4) (val_move rfl rfl) rfl rfl rfl (fun _ _ _ => trivial) ?_
      obtain ⟨x9, hx9, H⟩ := Let_elim H
      refine z_val (v := .int .i64 x9) (by subst hx9; exact val_bin rfl rfl rfl rfl (i64_add _ _ _)) rfl rfl rfl (fun _ _ _ => trivial) ?_
      clear hx9
      refine z_val (v := .int .i64 x9) (val_assign rfl rfl) rfl rfl rfl (fun _ _ _ => trivial) ?_
      refine z_nil ?_
      obtain rfl := Option.some.inj H
      exact t_reach ((hn1 _ () rfl trivial).weak (fun a ha => ha.cons rfl (ha.cons rfl (ha.cons rfl (ha.cons rfl (ha.nil))))) (fun w hw => hw))
  ·
    obtain ⟨y_3, x4⟩ := s
    subst hzz
    have H := HK1
    clear HK1 hz1
    replace H := sum_l H
    try dsimp only at H
    change T 23 _ _ _
    refine t_seq ?_
    refine t_region (fun ops hops => ?_)
    clear hops
    refine z_val (v := .agg (cV (Value.int .i64) y_3).toArray) (val_loadR (off := 0) (cs := cV (Value.int .i64) y_3) rfl rfl Tryd.underlying75 rfl (sz75.trans (congrArg some (cV_len _).symm)) (fun _ hw => hw.whole (j := 0) rfl)) rfl rfl rfl (fun _ _ _ => trivial) ?_
    refine z_storeA (j := 1) (cs' := cV (Value.int .i64) y_3) (L' := [.blk g_3 75 (cV (Value.int .i64) y_3) 32, .blk g_2 75 (cV (Value.int .i64) y_3) 32]) rfl rfl rfl (cV_one (fun _ => rfl) _) sz75 rfl (cV_len _) rfl rfl rfl (fun _ _ _ => trivial) ?_
    refine z_nil ?_
    refine t_ret ?_
    obtain rfl := Option.some.inj H
    exact ret1 rfl (res_row (j := 1) rfl Tryd.underlying75 rfl sz75 rfl (cV_len _)) (fun _ hw => ⟨rfl, hw.below⟩)
def smithyref01_D_Bytes.b1 (a0 : Vec (Int) 32) (y_3 : Vec (BitVec 8) 32) (x4 : Int) : Option (Ctl ((Vec (BitVec 8) 32) × (Int)) (Vec (BitVec 8) 32)) :=
  Let (decide (x4 < 32)) fun x7 => (bif x7 then Let (wi (31 - x4)) fun x11 => Chk (0 ≤ x4 ∧ x4 < ((32 : Nat) : Int)) <| Let (a0.get x4.toNat) fun x14 => Let (BitVec.ofInt 8 x14) fun x15 => Chk (0 ≤ x11 ∧ x11 < ((32 : Nat) : Int)) <| Let (y_3.set x11.toNat x15) fun y_3_6 => Let (wi (x4 + 1)) fun x9 => some (.next (y_3_6, x9)) else some (.brk (y_3, x4)))
def smithyref01_D_Bytes (a0 : Vec (Int) 32) : Option (Vec (BitVec 8) 32) :=
  Let (Vec.rep 32 0#8) fun x5 => (wlx (σ := (Vec (BitVec 8) 32) × (Int)) (fun s => smithyref01_D_Bytes.b1 a0 s.1 s.2) (x5, 0)).bind (Sum.elim (fun s => (fun y_3 x4 => some y_3) s.1 s.2) (fun r => some r))
set_option maxRecDepth 100000 in
theorem smithyref01_D_Bytes.calls (a0 : Vec (Int) 32) (r : Vec (BitVec 8) 32) (H : smithyref01_D_Bytes a0 = some r) (w : World)  :
    Made Tryd.prog 49 #[.agg (cV (Value.int .i64) a0).toArray] w (.agg (cV U8 r).toArray) := by
  unfold smithyref01_D_Bytes at H
  have hM := Mm.start w (snap w) (snap_ok w)
  generalize snap w = h at *
  refine t_enter (vs := [.agg (cV (Value.int .i64) a0).toArray]) (n := 18) Tryd.func49 rfl rfl rfl hM ?_
  clear hM
  change T 18 _ _ _
  refine t_seq ?_
  refine t_region (fun ops hops => ?_)
  clear hops
  refine z_box (cs := cV (Value.int .i64) a0) (room := 32) rfl rfl rfl (cV_len _) rfl rfl rfl (fun _ _ _ _ => trivial) (fun g_1 => ?_)
  refine z_alloc (cs := cV U8 (Vec.rep 32 0#8)) (room := 32) rfl ze46 rfl (cV_len _) rfl rfl rfl (fun _ _ _ _ => trivial) (fun g_2 => ?_)
  refine z_nil ?_
  refine t_seq ?_
  refine t_region (fun ops hops => ?_)
  clear hops
  obtain ⟨x5, hx5, H⟩ := Let_elim H
  refine z_val (v := .agg (cV U8 x5).toArray) (by subst hx5; exact val_build (vs := []) rfl rfl (fun w => by kernel_rfl)) rfl rfl rfl (fun _ _ _ => trivial) ?_
  clear hx5
  refine z_alloc (cs := cV U8 (Vec.rep 32 0#8)) (room := 32) rfl ze46 rfl (cV_len _) rfl rfl rfl (fun _ _ _ _ => trivial) (fun g_3 => ?_)
  refine z_storeA (j := 0) (cs' := cV U8 x5) (L' := [.blk g_3 46 (cV U8 x5) 32, .blk g_2 46 (cV U8 (Vec.rep 32 0#8)) 32, .blk g_1 75 (cV (Value.int .i64) a0) 32]) rfl rfl rfl (cV_one (fun _ => rfl) _) sz46 rfl (cV_len _) rfl rfl rfl (fun _ _ _ => trivial) ?_
  refine z_nil ?_
  refine t_seq ?_
  refine t_seq ?_
  refine t_region (fun ops hops => ?_)
  clear hops
  refine z_val (v := .int .i64 0) (val_assign rfl rfl) rfl rfl rfl (fun _ _ _ => trivial) ?_
  refine z_nil ?_
  refine t_block ?_
  obtain ⟨z1, hz1, HK1⟩ := Option.bind_eq_some_iff.1 H
  clear H
  refine t_while hz1 (fun (s : (Vec (BitVec 8) 32) × (Int)) (g : Unit) => [(1, .pointer (some ⟨g_1, 0, none⟩)), (2, .pointer (some ⟨g_2, 0, none⟩)), (3, .pointer (some ⟨g_3, 0, none⟩)), (4, .int .i64 s.2)]) (fun (s : (Vec (BitVec 8) 32) × (Int)) (g : Unit) => [(2, .pointer (some ⟨g_2, 0, none⟩)), (3, .pointer (some ⟨g_3, 0, none⟩))]) (fun (s : (Vec (BitVec 8) 32) × (Int)) (g : Unit) => Mm w [] h [.blk g_3 46 (cV U8 s.1) 32, .blk g_2 46 (cV U8 (Vec.rep 32 0#8)) 32, .blk g_1 75 (cV (Value.int .i64) a0) 32]) (fun (s : (Vec (BitVec 8) 32) × (Int)) (g : Unit) => Mm w [] h [.blk g_3 46 (cV U8 s.1) 32, .blk g_2 46 (cV U8 (Vec.rep 32 0#8)) 32]) (fun (s : (Vec (BitVec 8) 32) × (Int)) (g : Unit) => True) (fun (s : (Vec (BitVec 8) 32) × (Int)) (g : Unit) => True) () trivial (fun a w ha hw => ⟨ha.cons rfl (ha.cons rfl (ha.cons rfl (ha.cons rfl (ha.nil)))), hw⟩) (fun Gn Gb s g e hφ H hn1 hb1 hr1 => ?_) (fun s g hzz hφ => ?_)
  ·
    obtain ⟨y_3, x4⟩ := s
    change smithyref01_D_Bytes.b1 a0 y_3 x4 = some e at H
    unfold smithyref01_D_Bytes.b1 at H
    clear hz1
    change T 18 _ _ _
    refine t_seq ?_
    refine t_seq ?_
    refine t_region (fun ops hops => ?_)
    clear hops
    refine z_val (v := .int .i64 x4) (val_move rfl rfl) rfl rfl rfl (fun _ _ _ => trivial) ?_
    obtain ⟨x7, hx7, H⟩ := Let_elim H
    refine z_val (v := .bool x7) (by subst hx7; exact val_bin rfl rfl rfl rfl (i64_lss _ _ _)) rfl rfl rfl (fun _ _ _ => trivial) ?_
    clear hx7
    refine z_nil ?_
    cases x7
    ·
      replace H := cond_f H
      refine t_cond_false rfl ?_
      refine t_exit rfl ?_
      obtain rfl := Option.some.inj H
      exact t_reach ((hb1 _ () rfl trivial).weak (fun a ha => ha.cons rfl (ha.cons rfl (ha.nil))) (fun w hw => hw.sel [0, 1] rfl rfl))
    ·
      replace H := cond_t H
      refine t_cond_true rfl ?_
      refine t_skip ?_
      refine t_seq ?_
      refine t_block ?_
      refine t_region (fun ops hops => ?_)
      clear hops
      refine z_val (v := .int .i64 x4) (val_move rfl rfl) rfl rfl rfl (fun _ _ _ => trivial) ?_
      obtain ⟨x11, hx11, H⟩ := Let_elim H
      refine z_val (v := .int .i64 x11) (by subst hx11; exact val_bin rfl rfl rfl rfl (i64_sub _ _ _)) rfl rfl rfl (fun _ _ _ => trivial) ?_
      clear hx11
      refine z_val (v := .int .i64 x4) (val_move rfl rfl) rfl rfl rfl (fun _ _ _ => trivial) ?_
      obtain ⟨hq_4, H⟩ := Chk_elim H
      refine z_val (v := .pointer (some ⟨g_1, x4.toNat, none⟩)) (val_idx0 rfl rfl rfl Tryd.underlying75 sz3 hq_4 rfl) rfl rfl rfl (fun _ _ _ => trivial) ?_
      obtain ⟨x14, hx14, H⟩ := Let_elim H
      refine z_val (v := .int .i64 x14) (by subst hx14; exact val_load1 rfl rfl Tryd.underlying3 rfl (fun _ hw => hw.cell (j := 2) rfl (cV_at _ (idx_lt hq_4)))) rfl rfl rfl (fun _ _ _ => trivial) ?_
      clear hx14
      obtain ⟨x15, hx15, H⟩ := Let_elim H
      refine z_val (v := U8 x15) (by subst hx15; exact val_conv rfl rfl (fun w => conv_int_u8 w _ _ .i64 _ (by rw [Tryd.underlying3]; rfl) Tryd.underlying5)) rfl rfl rfl (fun _ _ _ => trivial) ?_
      clear hx15
      obtain ⟨hq_5, H⟩ := Chk_elim H
      refine z_val (v := .pointer (some ⟨g_3, x11.toNat, none⟩)) (val_idx0 rfl rfl rfl Tryd.underlying46 sz5 hq_5 rfl) rfl rfl rfl (fun _ _ _ => trivial) ?_
      obtain ⟨y_3_6, hy_3_6, H⟩ := Let_elim H
      refine z_store1 (j := 0) (cs' := cV U8 y_3_6) (L' := [.blk g_3 46 (cV U8 y_3_6) 32, .blk g_2 46 (cV U8 (Vec.rep 32 0#8)) 32, .blk g_1 75 (cV (Value.int .i64) a0) 32]) rfl rfl rfl rfl rfl sz5 rfl (by rw [cV_len]; exact (idx_lt hq_5)) (by subst hy_3_6; exact cV_set (f := U8) _ _ x15) rfl rfl rfl (fun _ _ _ => trivial) ?_
      clear hy_3_6
      refine z_nil ?_
      refine t_fin ?_
      refine t_region (fun ops hops => ?_)
      clear hops
      refine z_val (v := .int .i64 x4) (val_move rfl rfl) rfl rfl rfl (fun _ _ _ => trivial) ?_
      obtain ⟨x9, hx9, H⟩ := Let_elim H
      refine z_val (v := .int .i64 x9) (by subst hx9; exact val_bin rfl rfl rfl rfl (i64_add _ _ _)) rfl rfl rfl (fun _ _ _ => trivial) ?_
      clear hx9
      refine z_val (v := .int .i64 x9) (val_assign rfl rfl) rfl rfl rfl (fun _ _ _ => trivial) ?_
      refine z_nil ?_
      obtain rfl := Option.some.inj H
      exact t_reach ((hn1 _ () rfl trivial).weak (fun a ha => ha.cons rfl (ha.cons rfl (ha.cons rfl (ha.cons rfl (ha.nil))))) (fun w hw => hw))
  ·
    obtain ⟨y_3, x4⟩ := s
    subst hzz
    have H := HK1
    clear HK1 hz1
    replace H := sum_l H
    try dsimp only at H
    change T 18 _ _ _
    refine t_seq ?_
    refine t_region (fun ops hops => ?_)
    clear hops
    refine z_val (v := .agg (cV U8 y_3).toArray) (val_loadR (off := 0) (cs := cV U8 y_3) rfl rfl Tryd.underlying46 rfl (sz46.trans (congrArg some (cV_len _).symm)) (fun _ hw => hw.whole (j := 0) rfl)) rfl rfl rfl (fun _ _ _ => trivial) ?_
    refine z_storeA (j := 1) (cs' := cV U8 y_3) (L' := [.blk g_3 46 (cV U8 y_3) 32, .blk g_2 46 (cV U8 y_3) 32]) rfl rfl rfl (cV_one (fun _ => rfl) _) sz46 rfl (cV_len _) rfl rfl rfl (fun _ _ _ => trivial) ?_
    refine z_nil ?_
    refine t_ret ?_
    obtain rfl := Option.some.inj H
    exact ret1 rfl (res_row (j := 1) rfl Tryd.underlying46 rfl sz46 rfl (cV_len _)) (fun _ hw => ⟨rfl, hw.below⟩)
def smithyref01_D_Word.b1 (a0 : Vec (Int) 32) (y_3 : Vec (BitVec 64) 4) (x4 : Int) : Option (Ctl ((Vec (BitVec 64) 4) × (Int)) (Vec (BitVec 64) 4)) :=
  Let (decide (0 ≤ x4)) fun x7 => (bif x7 then Let (wi (Int.tdiv x4 8)) fun x11 => Let (wi (Int.tdiv x4 8)) fun x13 => Chk (0 ≤ x13 ∧ x13 < ((4 : Nat) : Int)) <| Let (y_3.get x13.toNat) fun x15 => Let (x15 * 256#64) fun x16 => Chk (0 ≤ x4 ∧ x4 < ((32 : Nat) : Int)) <| Let (a0.get x4.toNat) fun x19 => Let (BitVec.ofInt 64 x19) fun x20 => Let (x16 + x20) fun x21 => Chk (0 ≤ x11 ∧ x11 < ((4 : Nat) : Int)) <| Let (y_3.set x11.toNat x21) fun y_3_7 => Let (wi (x4 - 1)) fun x9 => some (.next (y_3_7, x9)) else some (.brk (y_3, x4)))
def smithyref01_D_Word (a0 : Vec (Int) 32) : Option (Vec (BitVec 64) 4) :=
  Let (Vec.rep 4 0#64) fun x5 => (wlx (σ := (Vec (BitVec 64) 4) × (Int)) (fun s => smithyref01_D_Word.b1 a0 s.1 s.2) (x5, 31)).bind (Sum.elim (fun s => (fun y_3 x4 => some y_3) s.1 s.2) (fun r => some r))
set_option maxRecDepth 100000 in
theorem smithyref01_D_Word.calls (a0 : Vec (Int) 32) (r : Vec (BitVec 64) 4) (H : smithyref01_D_Word a0 = some r) (w : World)  :
    Made Tryd.prog 53 #[.agg (cV (Value.int .i64) a0).toArray] w (.agg (cV U64 r).toArray) := by
  unfold smithyref01_D_Word at H
  have hM := Mm.start w (snap w) (snap_ok w)
  generalize snap w = h at *
  refine t_enter (vs := [.agg (cV (Value.int .i64) a0).toArray]) (n := 24) Tryd.func53 rfl rfl rfl hM ?_
  clear hM
  change T 24 _ _ _
  refine t_seq ?_
  refine t_region (fun ops hops => ?_)
  clear hops
  refine z_box (cs := cV (Value.int .i64) a0) (room := 32) rfl rfl rfl (cV_len _) rfl rfl rfl (fun _ _ _ _ => trivial) (fun g_1 => ?_)
  refine z_alloc (cs := cV U64 (Vec.rep 4 0#64)) (room := 4) rfl ze26 rfl (cV_len _) rfl rfl rfl (fun _ _ _ _ => trivial) (fun g_2 => ?_)
  refine z_nil ?_
  refine t_seq ?_
  refine t_region (fun ops hops => ?_)
  clear hops
  obtain ⟨x5, hx5, H⟩ := Let_elim H
  refine z_val (v := .agg (cV U64 x5).toArray) (by subst hx5; exact val_build (vs := []) rfl rfl (fun w => by kernel_rfl)) rfl rfl rfl (fun _ _ _ => trivial) ?_
  clear hx5
  refine z_alloc (cs := cV U64 (Vec.rep 4 0#64)) (room := 4) rfl ze26 rfl (cV_len _) rfl rfl rfl (fun _ _ _ _ => trivial) (fun g_3 => ?_)
  refine z_storeA (j := 0) (cs' := cV U64 x5) (L' := [.blk g_3 26 (cV U64 x5) 4, .blk g_2 26 (cV U64 (Vec.rep 4 0#64)) 4, .blk g_1 75 (cV (Value.int .i64) a0) 32]) rfl rfl rfl (cV_one (fun _ => rfl) _) sz26 rfl (cV_len _) rfl rfl rfl (fun _ _ _ => trivial) ?_
  refine z_nil ?_
  refine t_seq ?_
  refine t_seq ?_
  refine t_region (fun ops hops => ?_)
  clear hops
  refine z_val (v := .int .i64 31) (val_assign rfl rfl) rfl rfl rfl (fun _ _ _ => trivial) ?_
  refine z_nil ?_
  refine t_block ?_
  obtain ⟨z1, hz1, HK1⟩ := Option.bind_eq_some_iff.1 H
  clear H
  refine t_while hz1 (fun (s : (Vec (BitVec 64) 4) × (Int)) (g : Unit) => [(1, .pointer (some ⟨g_1, 0, none⟩)), (2, .pointer (some ⟨g_2, 0, none⟩)), (3, .pointer (some ⟨g_3, 0, none⟩)), (4, .int .i64 s.2)]) (fun (s : (Vec (BitVec 64) 4) × (Int)) (g : Unit) => [(2, .pointer (some ⟨g_2, 0, none⟩)), (3, .pointer (some ⟨g_3, 0, none⟩))]) (fun (s : (Vec (BitVec 64) 4) × (Int)) (g : Unit) => Mm w [] h [.blk g_3 26 (cV U64 s.1) 4, .blk g_2 26 (cV U64 (Vec.rep 4 0#64)) 4, .blk g_1 75 (cV (Value.int .i64) a0) 32]) (fun (s : (Vec (BitVec 64) 4) × (Int)) (g : Unit) => Mm w [] h [.blk g_3 26 (cV U64 s.1) 4, .blk g_2 26 (cV U64 (Vec.rep 4 0#64)) 4]) (fun (s : (Vec (BitVec 64) 4) × (Int)) (g : Unit) => True) (fun (s : (Vec (BitVec 64) 4) × (Int)) (g : Unit) => True) () trivial (fun a w ha hw => ⟨ha.cons rfl (ha.cons rfl (ha.cons rfl (ha.cons rfl (ha.nil)))), hw⟩) (fun Gn Gb s g e hφ H hn1 hb1 hr1 => ?_) (fun s g hzz hφ => ?_)
  ·
    obtain ⟨y_3, x4⟩ := s
    change smithyref01_D_Word.b1 a0 y_3 x4 = some e at H
    unfold smithyref01_D_Word.b1 at H
    clear hz1
    change T 24 _ _ _
    refine t_seq ?_
    refine t_seq ?_
    refine t_region (fun ops hops => ?_)
    clear hops
    refine z_val (v := .int .i64 x4) (val_move rfl rfl) rfl rfl rfl (fun _ _ _ => trivial) ?_
    obtain ⟨x7, hx7, H⟩ := Let_elim H
    refine z_val (v := .bool x7) (by subst hx7; exact val_bin rfl rfl rfl rfl (i64_geq _ _ _)) rfl rfl rfl (fun _ _ _ => trivial) ?_
    clear hx7
    refine z_nil ?_
    cases x7
    ·
      replace H := cond_f H
      refine t_cond_false rfl ?_
      refine t_exit rfl ?_
      obtain rfl := Option.some.inj H
      exact t_reach ((hb1 _ () rfl trivial).weak (fun a ha => ha.cons rfl (ha.cons rfl (ha.nil))) (fun w hw => hw.sel [0, 1] rfl rfl))
    ·
      replace H := cond_t H
      refine t_cond_true rfl ?_
      refine t_skip ?_
      refine t_seq ?_
      refine t_block ?_
      refine t_plan (C := Mm w [] h [.blk g_3 26 (cV U64 y_3) 4, .blk g_2 26 (cV U64 (Vec.rep 4 0#64)) 4, .blk g_1 75 (cV (Value.int .i64) a0) 32]) [13] [(0, true), (1, true), (2, true), (3, true), (4, true), (5, true), (6, true), (7, true), (8, true), (9, true), (10, true), (11, true), (12, true), (13, false)] (by kernel_rfl) (by kernel_rfl) (fun _ hw => hw.drew) (fun ops hops => ?_)
      clear hops
      refine z_still (v := .int .i64 x4) (val_move rfl rfl) rfl rfl rfl (fun _ hw => hw) ?_
      obtain ⟨x11, hx11, H⟩ := Let_elim H
      refine z_still (v := .int .i64 x11) (by subst hx11; exact val_bin rfl rfl rfl rfl (i64_quo _ _ _ (by decide))) rfl rfl rfl (fun _ hw => hw) ?_
      clear hx11
      refine z_still (v := .int .i64 x4) (val_move rfl rfl) rfl rfl rfl (fun _ hw => hw) ?_
      obtain ⟨x13, hx13, H⟩ := Let_elim H
      refine z_still (v := .int .i64 x13) (by subst hx13; exact val_bin rfl rfl rfl rfl (i64_quo _ _ _ (by decide))) rfl rfl rfl (fun _ hw => hw) ?_
      clear hx13
      obtain ⟨hq_4, H⟩ := Chk_elim H
      refine z_still (v := .pointer (some ⟨g_3, x13.toNat, none⟩)) (val_idx0 rfl rfl rfl Tryd.underlying26 sz24 hq_4 rfl) rfl rfl rfl (fun _ hw => hw) ?_
      obtain ⟨x15, hx15, H⟩ := Let_elim H
      refine z_still (v := U64 x15) (by subst hx15; exact val_load1 rfl rfl Tryd.underlying24 rfl (fun _ hw => hw.cell (j := 0) rfl (cV_at _ (idx_lt hq_4)))) rfl rfl rfl (fun _ hw => hw) ?_
      clear hx15
      obtain ⟨x16, hx16, H⟩ := Let_elim H
      refine z_still (v := U64 x16) (by subst hx16; exact val_bin rfl rfl rfl rfl (u64_mul_r _ _ _)) rfl rfl rfl (fun _ hw => hw) ?_
      clear hx16
      refine z_still (v := .int .i64 x4) (val_move rfl rfl) rfl rfl rfl (fun _ hw => hw) ?_
      obtain ⟨hq_5, H⟩ := Chk_elim H
      refine z_still (v := .pointer (some ⟨g_1, x4.toNat, none⟩)) (val_idx0 rfl rfl rfl Tryd.underlying75 sz3 hq_5 rfl) rfl rfl rfl (fun _ hw => hw) ?_
      obtain ⟨x19, hx19, H⟩ := Let_elim H
      refine z_still (v := .int .i64 x19) (by subst hx19; exact val_load1 rfl rfl Tryd.underlying3 rfl (fun _ hw => hw.cell (j := 2) rfl (cV_at _ (idx_lt hq_5)))) rfl rfl rfl (fun _ hw => hw) ?_
      clear hx19
      obtain ⟨x20, hx20, H⟩ := Let_elim H
      refine z_still (v := U64 x20) (by subst hx20; exact val_conv rfl rfl (fun w => conv_int_u64 w _ _ .i64 _ (by rw [Tryd.underlying3]; rfl) Tryd.underlying24)) rfl rfl rfl (fun _ hw => hw) ?_
      clear hx20
      obtain ⟨x21, hx21, H⟩ := Let_elim H
      refine z_still (v := U64 x21) (by subst hx21; exact val_bin rfl rfl rfl rfl (u64_add _ _ _)) rfl rfl rfl (fun _ hw => hw) ?_
      clear hx21
      obtain ⟨hq_6, H⟩ := Chk_elim H
      refine z_still (v := .pointer (some ⟨g_3, x11.toNat, none⟩)) (val_idx0 rfl rfl rfl Tryd.underlying26 sz24 hq_6 rfl) rfl rfl rfl (fun _ hw => hw) ?_
      obtain ⟨y_3_7, hy_3_7, H⟩ := Let_elim H
      refine z_store1 (j := 0) (cs' := cV U64 y_3_7) (L' := [.blk g_3 26 (cV U64 y_3_7) 4, .blk g_2 26 (cV U64 (Vec.rep 4 0#64)) 4, .blk g_1 75 (cV (Value.int .i64) a0) 32]) rfl rfl rfl rfl rfl sz24 rfl (by rw [cV_len]; exact (idx_lt hq_6)) (by subst hy_3_7; exact cV_set (f := U64) _ _ x21) rfl rfl rfl (fun hb => absurd hb (by decide)) ?_
      clear hy_3_7
      refine z_nil ?_
      refine t_fin ?_
      refine t_region (fun ops hops => ?_)
      clear hops
      refine z_val (v := .int .i64 x4) (val_move rfl rfl) rfl rfl rfl (fun _ _ _ => trivial) ?_
      obtain ⟨x9, hx9, H⟩ := Let_elim H
      refine z_val (v := .int .i64 x9) (by subst hx9; exact val_bin rfl rfl rfl rfl (i64_sub _ _ _)) rfl rfl rfl (fun _ _ _ => trivial) ?_
      clear hx9
      refine z_val (v := .int .i64 x9) (val_assign rfl rfl) rfl rfl rfl (fun _ _ _ => trivial) ?_
      refine z_nil ?_
      obtain rfl := Option.some.inj H
      exact t_reach ((hn1 _ () rfl trivial).weak (fun a ha => ha.cons rfl (ha.cons rfl (ha.cons rfl (ha.cons rfl (ha.nil))))) (fun w hw => hw))
  ·
    obtain ⟨y_3, x4⟩ := s
    subst hzz
    have H := HK1
    clear HK1 hz1
    replace H := sum_l H
    try dsimp only at H
    change T 24 _ _ _
    refine t_seq ?_
    refine t_region (fun ops hops => ?_)
    clear hops
    refine z_val (v := .agg (cV U64 y_3).toArray) (val_loadR (off := 0) (cs := cV U64 y_3) rfl rfl Tryd.underlying26 rfl (sz26.trans (congrArg some (cV_len _).symm)) (fun _ hw => hw.whole (j := 0) rfl)) rfl rfl rfl (fun _ _ _ => trivial) ?_
    refine z_storeA (j := 1) (cs' := cV U64 y_3) (L' := [.blk g_3 26 (cV U64 y_3) 4, .blk g_2 26 (cV U64 y_3) 4]) rfl rfl rfl (cV_one (fun _ => rfl) _) sz26 rfl (cV_len _) rfl rfl rfl (fun _ _ _ => trivial) ?_
    refine z_nil ?_
    refine t_ret ?_
    obtain rfl := Option.some.inj H
    exact ret1 rfl (res_row (j := 1) rfl Tryd.underlying26 rfl sz26 rfl (cV_len _)) (fun _ hw => ⟨rfl, hw.below⟩)
def smithyref01_From.b1 (a0 : List (BitVec 8)) (y_2 : Vec (Int) 32) (x4 : Int) : Option (Ctl ((Vec (Int) 32) × (Int)) (Vec (Int) 32)) :=
  Let (decide (x4 < 32)) fun x7 => (bif x7 then Let ((a0.length : Int)) fun x11 => Let (decide (x4 < x11)) fun x12 => some x12 else some false).bind (fun x13 => (bif x13 then Let ((a0.length : Int)) fun x19 => Let (wi (x19 - 1)) fun x20 => Let (wi (x20 - x4)) fun x22 => Chk ((0 : Int) ≤ x22 ∧ x22 < (a0.length : Int)) <| Let (lget a0 x22.toNat) fun x24 => Let ((x24.toNat : Int)) fun x25 => Chk (0 ≤ x4 ∧ x4 < ((32 : Nat) : Int)) <| Let (y_2.set x4.toNat x25) fun y_2_9 => Let (wi (x4 + 1)) fun x15 => some (.next (y_2_9, x15)) else some (.brk (y_2, x4))))
def smithyref01_From (a0 : List (BitVec 8)) : Option (Vec (Int) 32) :=
  Let (Vec.rep 32 0) fun x5 => (wlx (σ := (Vec (Int) 32) × (Int)) (fun s => smithyref01_From.b1 a0 s.1 s.2) (x5, 0)).bind (Sum.elim (fun s => (fun y_2 x4 => some y_2) s.1 s.2) (fun r => some r))
set_option maxRecDepth 100000 in
theorem smithyref01_From.calls (a0 : List (BitVec 8)) (A0 : Option Addr) (c0 : Nat) (r : Vec (Int) 32) (H : smithyref01_From a0 = some r) (w : World) (hs0 : SlW w U8 A0 a0) (hc0 : a0.length ≤ c0) :
    Made Tryd.prog 52 #[.slice A0 a0.length c0] w (.agg (cV (Value.int .i64) r).toArray) := by
  unfold smithyref01_From at H
  replace hs0 := hs0.toH
  have hM := Mm.start w (snap w) (snap_ok w)
  generalize snap w = h at *
  refine t_enter (vs := [.slice A0 a0.length c0]) (n := 28) Tryd.func52 rfl rfl rfl hM ?_
  clear hM
  change T 28 _ _ _
  refine t_seq ?_
  refine t_region (fun ops hops => ?_)
  clear hops
  refine z_alloc (cs := cV (Value.int .i64) (Vec.rep 32 0)) (room := 32) rfl ze75 rfl (cV_len _) rfl rfl rfl (fun _ _ _ _ => trivial) (fun g_1 => ?_)
  refine z_nil ?_
  refine t_seq ?_
  refine t_region (fun ops hops => ?_)
  clear hops
  obtain ⟨x5, hx5, H⟩ := Let_elim H
  refine z_val (v := .agg (cV (Value.int .i64) x5).toArray) (by subst hx5; exact val_build (vs := []) rfl rfl (fun w => by kernel_rfl)) rfl rfl rfl (fun _ _ _ => trivial) ?_
  clear hx5
  refine z_alloc (cs := cV (Value.int .i64) (Vec.rep 32 0)) (room := 32) rfl ze75 rfl (cV_len _) rfl rfl rfl (fun _ _ _ _ => trivial) (fun g_2 => ?_)
  refine z_storeA (j := 0) (cs' := cV (Value.int .i64) x5) (L' := [.blk g_2 75 (cV (Value.int .i64) x5) 32, .blk g_1 75 (cV (Value.int .i64) (Vec.rep 32 0)) 32]) rfl rfl rfl (cV_one (fun _ => rfl) _) sz75 rfl (cV_len _) rfl rfl rfl (fun _ _ _ => trivial) ?_
  refine z_nil ?_
  refine t_seq ?_
  refine t_seq ?_
  refine t_region (fun ops hops => ?_)
  clear hops
  refine z_val (v := .int .i64 0) (val_assign rfl rfl) rfl rfl rfl (fun _ _ _ => trivial) ?_
  refine z_nil ?_
  refine t_block ?_
  obtain ⟨z1, hz1, HK1⟩ := Option.bind_eq_some_iff.1 H
  clear H
  refine t_while hz1 (fun (s : (Vec (Int) 32) × (Int)) (g : Unit) => [(0, .slice A0 a0.length c0), (2, .pointer (some ⟨g_1, 0, none⟩)), (3, .pointer (some ⟨g_2, 0, none⟩)), (4, .int .i64 s.2)]) (fun (s : (Vec (Int) 32) × (Int)) (g : Unit) => [(2, .pointer (some ⟨g_1, 0, none⟩)), (3, .pointer (some ⟨g_2, 0, none⟩))]) (fun (s : (Vec (Int) 32) × (Int)) (g : Unit) => Mm w [] h [.blk g_2 75 (cV (Value.int .i64) s.1) 32, .blk g_1 75 (cV (Value.int .i64) (Vec.rep 32 0)) 32]) (fun (s : (Vec (Int) 32) × (Int)) (g : Unit) => Mm w [] h [.blk g_2 75 (cV (Value.int .i64) s.1) 32, .blk g_1 75 (cV (Value.int .i64) (Vec.rep 32 0)) 32]) (fun (s : (Vec (Int) 32) × (Int)) (g : Unit) => True) (fun (s : (Vec (Int) 32) × (Int)) (g : Unit) => True) () trivial (fun a w ha hw => ⟨ha.cons rfl (ha.cons rfl (ha.cons rfl (ha.cons rfl (ha.nil)))), hw⟩) (fun Gn Gb s g e hφ H hn1 hb1 hr1 => ?_) (fun s g hzz hφ => ?_)
  ·
    obtain ⟨y_2, x4⟩ := s
    change smithyref01_From.b1 a0 y_2 x4 = some e at H
    unfold smithyref01_From.b1 at H
    clear hz1
    change T 28 _ _ _
    refine t_seq ?_
    refine t_seq ?_
    refine t_region (fun ops hops => ?_)
    refine z_val (v := .int .i64 x4) (val_move rfl rfl) rfl rfl rfl (fun _ _ _ => trivial) ?_
    obtain ⟨x7, hx7, H⟩ := Let_elim H
    refine z_val (v := .bool x7) (by subst hx7; exact val_bin rfl rfl rfl rfl (i64_lss _ _ _)) rfl rfl rfl (fun _ _ _ => trivial) ?_
    clear hx7
    refine z_val (v := .bool x7) (val_move rfl rfl) rfl rfl rfl (fun _ _ _ => trivial) ?_
    refine z_bind H 5 (fun (s : Bool) (_ : Unit) => [(0, .slice A0 a0.length c0), (2, .pointer (some ⟨g_1, 0, none⟩)), (3, .pointer (some ⟨g_2, 0, none⟩)), (4, .int .i64 x4), (13, .bool s)]) (fun _ _ => Mm w [] h [.blk g_2 75 (cV (Value.int .i64) y_2) 32, .blk g_1 75 (cV (Value.int .i64) (Vec.rep 32 0)) 32]) (fun _ _ => True) (fun Gr K s he HJ => ?_) (fun s g HB _ => ?_)
    ·
      clear H
      cases x7
      ·
        have H := cond_f he
        clear he
        refine z_skip rfl rfl (by rw [hops]; rfl) (fun _ _ _ => trivial) ?_
        refine z_skip rfl rfl (by rw [hops]; rfl) (fun _ _ _ => trivial) ?_
        refine z_skip rfl rfl (by rw [hops]; rfl) (fun _ _ _ => trivial) ?_
        refine z_skip rfl rfl (by rw [hops]; rfl) (fun _ _ _ => trivial) ?_
        refine z_val (v := .bool false) (val_pick rfl rfl rfl) rfl rfl rfl (fun _ _ _ => trivial) ?_
        obtain rfl := Option.some.inj H
        exact z_nil ((K _ () HJ trivial).weak (fun a ha => ha.cons rfl (ha.cons rfl (ha.cons rfl (ha.cons rfl (ha.cons rfl (ha.nil)))))) (fun w hw => hw))
      ·
        have H := cond_t he
        clear he
        refine z_val (v := .int .i64 x4) (val_move rfl rfl) rfl rfl (by rw [hops]; rfl) (fun _ _ _ => trivial) ?_
        refine z_val (v := .slice A0 a0.length c0) (val_move rfl rfl) rfl rfl (by rw [hops]; rfl) (fun _ _ _ => trivial) ?_
        obtain ⟨x11, hx11, H⟩ := Let_elim H
        refine z_val (v := .int .i64 x11) (by subst hx11; exact val_len rfl rfl rfl Tryd.underlying27) rfl rfl (by rw [hops]; rfl) (fun _ _ _ => trivial) ?_
        clear hx11
        obtain ⟨x12, hx12, H⟩ := Let_elim H
        refine z_val (v := .bool x12) (by subst hx12; exact val_bin rfl rfl rfl rfl (i64_lss _ _ _)) rfl rfl (by rw [hops]; rfl) (fun _ _ _ => trivial) ?_
        clear hx12
        refine z_val (v := .bool x12) (val_pick rfl rfl rfl) rfl rfl rfl (fun _ _ _ => trivial) ?_
        obtain rfl := Option.some.inj H
        exact z_nil ((K _ () HJ trivial).weak (fun a ha => ha.cons rfl (ha.cons rfl (ha.cons rfl (ha.cons rfl (ha.cons rfl (ha.nil)))))) (fun w hw => hw))
    ·
      replace H := HB
      clear HB
      obtain ⟨x13, rfl⟩ : ∃ x, x = s := ⟨_, rfl⟩
      change T 28 _ _ _
      refine z_nil ?_
      cases x13
      ·
        replace H := cond_f H
        refine t_cond_false rfl ?_
        refine t_exit rfl ?_
        obtain rfl := Option.some.inj H
        exact t_reach ((hb1 _ () rfl trivial).weak (fun a ha => ha.cons rfl (ha.cons rfl (ha.nil))) (fun w hw => hw))
      ·
        replace H := cond_t H
        refine t_cond_true rfl ?_
        refine t_skip ?_
        refine t_seq ?_
        refine t_block ?_
        refine t_region (fun ops hops => ?_)
        clear hops
        refine z_val (v := .int .i64 x4) (val_move rfl rfl) rfl rfl rfl (fun _ _ _ => trivial) ?_
        refine z_val (v := .slice A0 a0.length c0) (val_move rfl rfl) rfl rfl rfl (fun _ _ _ => trivial) ?_
        refine z_val (v := .slice A0 a0.length c0) (val_move rfl rfl) rfl rfl rfl (fun _ _ _ => trivial) ?_
        obtain ⟨x19, hx19, H⟩ := Let_elim H
        refine z_val (v := .int .i64 x19) (by subst hx19; exact val_len rfl rfl rfl Tryd.underlying27) rfl rfl rfl (fun _ _ _ => trivial) ?_
        clear hx19
        obtain ⟨x20, hx20, H⟩ := Let_elim H
        refine z_val (v := .int .i64 x20) (by subst hx20; exact val_bin rfl rfl rfl rfl (i64_sub _ _ _)) rfl rfl rfl (fun _ _ _ => trivial) ?_
        clear hx20
        refine z_val (v := .int .i64 x4) (val_move rfl rfl) rfl rfl rfl (fun _ _ _ => trivial) ?_
        obtain ⟨x22, hx22, H⟩ := Let_elim H
        refine z_val (v := .int .i64 x22) (by subst hx22; exact val_bin rfl rfl rfl rfl (i64_sub _ _ _)) rfl rfl rfl (fun _ _ _ => trivial) ?_
        clear hx22
        obtain ⟨hq_3, H⟩ := Chk_elim H
        obtain ⟨b_4, o_5, hA_6, hc_7⟩ := hs0.at_ (idx_lt hq_3)
        refine z_val (v := .pointer (some ⟨b_4, o_5 + x22.toNat, none⟩)) (val_idxS0 rfl rfl rfl Tryd.underlying27 sz5 hq_3 hA_6 rfl) rfl rfl rfl (fun _ _ _ => trivial) ?_
        obtain ⟨x24, hx24, H⟩ := Let_elim H
        refine z_val (v := U8 x24) (by subst hx24; exact val_load1 rfl rfl Tryd.underlying5 rfl (fun _ hw => hc_7.cell hw)) rfl rfl rfl (fun _ _ _ => trivial) ?_
        clear hx24
        obtain ⟨x25, hx25, H⟩ := Let_elim H
        refine z_val (v := .int .i64 x25) (by subst hx25; exact val_conv rfl rfl (fun w => conv_u8_int w _ _ _ (by rw [Tryd.underlying5]; rfl) Tryd.underlying3)) rfl rfl rfl (fun _ _ _ => trivial) ?_
        clear hx25
        obtain ⟨hq_8, H⟩ := Chk_elim H
        refine z_val (v := .pointer (some ⟨g_2, x4.toNat, none⟩)) (val_idx0 rfl rfl rfl Tryd.underlying75 sz3 hq_8 rfl) rfl rfl rfl (fun _ _ _ => trivial) ?_
        obtain ⟨y_2_9, hy_2_9, H⟩ := Let_elim H
        refine z_store1 (j := 0) (cs' := cV (Value.int .i64) y_2_9) (L' := [.blk g_2 75 (cV (Value.int .i64) y_2_9) 32, .blk g_1 75 (cV (Value.int .i64) (Vec.rep 32 0)) 32]) rfl rfl rfl rfl rfl sz3 rfl (by rw [cV_len]; exact (idx_lt hq_8)) (by subst hy_2_9; exact cV_set (f := (Value.int .i64)) _ _ x25) rfl rfl rfl (fun _ _ _ => trivial) ?_
        clear hy_2_9
        refine z_nil ?_
        refine t_fin ?_
        refine t_region (fun ops hops => ?_)
        clear hops
        refine z_val (v := .int .i64 x4) (val_move rfl rfl) rfl rfl rfl (fun _ _ _ => trivial) ?_
        obtain ⟨x15, hx15, H⟩ := Let_elim H
        refine z_val (v := .int .i64 x15) (by subst hx15; exact val_bin rfl rfl rfl rfl (i64_add _ _ _)) rfl rfl rfl (fun _ _ _ => trivial) ?_
        clear hx15
        refine z_val (v := .int .i64 x15) (val_assign rfl rfl) rfl rfl rfl (fun _ _ _ => trivial) ?_
        refine z_nil ?_
        obtain rfl := Option.some.inj H
        exact t_reach ((hn1 _ () rfl trivial).weak (fun a ha => ha.cons rfl (ha.cons rfl (ha.cons rfl (ha.cons rfl (ha.nil))))) (fun w hw => hw))
  ·
    obtain ⟨y_2, x4⟩ := s
    subst hzz
    have H := HK1
    clear HK1 hz1
    replace H := sum_l H
    try dsimp only at H
    change T 28 _ _ _
    refine t_seq ?_
    refine t_region (fun ops hops => ?_)
    clear hops
    refine z_val (v := .agg (cV (Value.int .i64) y_2).toArray) (val_loadR (off := 0) (cs := cV (Value.int .i64) y_2) rfl rfl Tryd.underlying75 rfl (sz75.trans (congrArg some (cV_len _).symm)) (fun _ hw => hw.whole (j := 0) rfl)) rfl rfl rfl (fun _ _ _ => trivial) ?_
    refine z_storeA (j := 1) (cs' := cV (Value.int .i64) y_2) (L' := [.blk g_2 75 (cV (Value.int .i64) y_2) 32, .blk g_1 75 (cV (Value.int .i64) y_2) 32]) rfl rfl rfl (cV_one (fun _ => rfl) _) sz75 rfl (cV_len _) rfl rfl rfl (fun _ _ _ => trivial) ?_
    refine z_nil ?_
    refine t_ret ?_
    obtain rfl := Option.some.inj H
    exact ret1 rfl (res_row (j := 1) rfl Tryd.underlying75 rfl sz75 rfl (cV_len _)) (fun _ hw => ⟨rfl, hw.below⟩)
def smithyref05_Word (a0 : List (BitVec 8)) : Option (Vec (BitVec 64) 4) :=
  (smithyref05_Sum a0).bind fun x5 => Let ((x5.l.take 32).drop 0) fun x6 => (smithyref01_From x6).bind fun x7 => (smithyref01_D_Word x7).bind fun x8 => some x8
set_option maxRecDepth 100000 in
theorem smithyref05_Word.calls (a0 : List (BitVec 8)) (A0 : Option Addr) (c0 : Nat) (r : Vec (BitVec 64) 4) (H : smithyref05_Word a0 = some r) (w : World) (hs0 : SlW w U8 A0 a0) (hc0 : a0.length ≤ c0) :
    Made Tryd.prog 88 #[.slice A0 a0.length c0] w (.agg (cV U64 r).toArray) := by
  unfold smithyref05_Word at H
  replace hs0 := hs0.toH
  have hM := Mm.start w (snap w) (snap_ok w)
  generalize snap w = h at *
  refine t_enter (vs := [.slice A0 a0.length c0]) (n := 9) Tryd.func88 rfl rfl rfl hM ?_
  clear hM
  change T 9 _ _ _
  refine t_seq ?_
  refine t_region (fun ops hops => ?_)
  clear hops
  refine z_alloc (cs := cV U64 (Vec.rep 4 0#64)) (room := 4) rfl ze26 rfl (cV_len _) rfl rfl rfl (fun _ _ _ _ => trivial) (fun g_1 => ?_)
  refine z_nil ?_
  refine t_seq ?_
  refine t_region (fun ops hops => ?_)
  clear hops
  refine z_val (v := .slice A0 a0.length c0) (val_move rfl rfl) rfl rfl rfl (fun _ _ _ => trivial) ?_
  obtain ⟨x5, hx, H⟩ := Option.bind_eq_some_iff.1 H
  refine z_made (v := .agg (cV U8 x5).toArray) rfl Tryd.func47 nm47 bs47 rfl (fun w hw => smithyref05_Sum.calls a0 A0 c0 x5 hx w (hs0.toW hw) hc0) rfl rfl rfl (fun _ _ _ => trivial) ?_
  clear hx
  refine z_alloc (cs := cV U8 (Vec.rep 32 0#8)) (room := 32) rfl ze47 rfl (cV_len _) rfl rfl rfl (fun _ _ _ _ => trivial) (fun g_2 => ?_)
  refine z_storeA (j := 0) (cs' := cV U8 x5) (L' := [.blk g_2 47 (cV U8 x5) 32, .blk g_1 26 (cV U64 (Vec.rep 4 0#64)) 4]) rfl rfl rfl (cV_one (fun _ => rfl) _) sz47 rfl (cV_len _) rfl rfl rfl (fun _ _ _ => trivial) ?_
  refine z_nil ?_
  refine t_seq ?_
  refine t_region (fun ops hops => ?_)
  clear hops
  obtain ⟨x6, hx6, H⟩ := Let_elim H
  have hln : 0 ≤ 32 ∧ 32 ≤ 32 := by decide
  have hl : x6.length = 32 - 0 := by subst hx6; exact sla_len _ hln.2
  obtain ⟨q_3, hq_4⟩ : ∃ z, z = (if 32 = 0 then 0 else 0) := ⟨_, rfl⟩
  obtain ⟨c_5, hc_60⟩ : ∃ z, z = 32 - 0 := ⟨_, rfl⟩
  have hc_6 : x6.length ≤ c_5 := by omega
  refine z_val (v := .slice (some ⟨g_2, q_3, none⟩) x6.length c_5) (val_sliceA (l := 0) (k := 32) rfl rfl Tryd.underlying47 sz5 (.inl ⟨rfl, rfl⟩) (.inl ⟨rfl, rfl⟩) hln.1 hln.2 (by rw [hl, hq_4, hc_60]; first | rfl | (congr 2; split <;> simp))) rfl rfl rfl (fun _ _ _ => trivial) ?_
  obtain ⟨x7, hx_7, H⟩ := Option.bind_eq_some_iff.1 H
  refine z_made (v := .agg (cV (Value.int .i64) x7).toArray) rfl Tryd.func52 nm52 bs52 rfl (fun w hw => smithyref01_From.calls x6 ((some ⟨g_2, q_3, none⟩)) c_5 x7 hx_7 w (sla_w hw (j := 0) rfl hq_4 hx6) hc_6) rfl rfl rfl (fun _ _ _ => trivial) ?_
  clear hx_7
  obtain ⟨x8, hx_8, H⟩ := Option.bind_eq_some_iff.1 H
  refine z_made (v := .agg (cV U64 x8).toArray) rfl Tryd.func53 nm53 bs53 rfl (fun w hw => smithyref01_D_Word.calls x7 x8 hx_8 w) rfl rfl rfl (fun _ _ _ => trivial) ?_
  clear hx_8
  refine z_storeA (j := 1) (cs' := cV U64 x8) (L' := [.blk g_2 47 (cV U8 x5) 32, .blk g_1 26 (cV U64 x8) 4]) rfl rfl rfl (cV_one (fun _ => rfl) _) sz26 rfl (cV_len _) rfl rfl rfl (fun _ _ _ => trivial) ?_
  refine z_nil ?_
  refine t_ret ?_
  obtain rfl := Option.some.inj H
  exact ret1 rfl (res_row (j := 1) rfl Tryd.underlying26 rfl sz26 rfl (cV_len _)) (fun _ hw => ⟨rfl, hw.below⟩)
def smithyref08_last.b1 (a0 : Vec (BitVec 8) 32) (y_3 : Vec (BitVec 8) 20) (x4 : Int) : Option (Ctl ((Vec (BitVec 8) 20) × (Int)) (Vec (BitVec 8) 20)) :=
  Let (decide (x4 < 20)) fun x7 => (bif x7 then Let (wi (12 + x4)) fun x12 => Chk (0 ≤ x12 ∧ x12 < ((32 : Nat) : Int)) <| Let (a0.get x12.toNat) fun x14 => Chk (0 ≤ x4 ∧ x4 < ((20 : Nat) : Int)) <| Let (y_3.set x4.toNat x14) fun y_3_6 => Let (wi (x4 + 1)) fun x9 => some (.next (y_3_6, x9)) else some (.brk (y_3, x4)))
def smithyref08_last (a0 : Vec (BitVec 8) 32) : Option (Vec (BitVec 8) 20) :=
  Let (Vec.rep 20 0#8) fun x5 => (wlx (σ := (Vec (BitVec 8) 20) × (Int)) (fun s => smithyref08_last.b1 a0 s.1 s.2) (x5, 0)).bind (Sum.elim (fun s => (fun y_3 x4 => some y_3) s.1 s.2) (fun r => some r))
set_option maxRecDepth 100000 in
theorem smithyref08_last.calls (a0 : Vec (BitVec 8) 32) (r : Vec (BitVec 8) 20) (H : smithyref08_last a0 = some r) (w : World)  :
    Made Tryd.prog 50 #[.agg (cV U8 a0).toArray] w (.agg (cV U8 r).toArray) := by
  unfold smithyref08_last at H
  have hM := Mm.start w (snap w) (snap_ok w)
  generalize snap w = h at *
  refine t_enter (vs := [.agg (cV U8 a0).toArray]) (n := 17) Tryd.func50 rfl rfl rfl hM ?_
  clear hM
  change T 17 _ _ _
  refine t_seq ?_
  refine t_region (fun ops hops => ?_)
  clear hops
  refine z_box (cs := cV U8 a0) (room := 32) rfl rfl rfl (cV_len _) rfl rfl rfl (fun _ _ _ _ => trivial) (fun g_1 => ?_)
  refine z_alloc (cs := cV U8 (Vec.rep 20 0#8)) (room := 20) rfl ze23 rfl (cV_len _) rfl rfl rfl (fun _ _ _ _ => trivial) (fun g_2 => ?_)
  refine z_nil ?_
  refine t_seq ?_
  refine t_region (fun ops hops => ?_)
  clear hops
  obtain ⟨x5, hx5, H⟩ := Let_elim H
  refine z_val (v := .agg (cV U8 x5).toArray) (by subst hx5; exact val_build (vs := []) rfl rfl (fun w => by kernel_rfl)) rfl rfl rfl (fun _ _ _ => trivial) ?_
  clear hx5
  refine z_alloc (cs := cV U8 (Vec.rep 20 0#8)) (room := 20) rfl ze23 rfl (cV_len _) rfl rfl rfl (fun _ _ _ _ => trivial) (fun g_3 => ?_)
  refine z_storeA (j := 0) (cs' := cV U8 x5) (L' := [.blk g_3 23 (cV U8 x5) 20, .blk g_2 23 (cV U8 (Vec.rep 20 0#8)) 20, .blk g_1 46 (cV U8 a0) 32]) rfl rfl rfl (cV_one (fun _ => rfl) _) sz23 rfl (cV_len _) rfl rfl rfl (fun _ _ _ => trivial) ?_
  refine z_nil ?_
  refine t_seq ?_
  refine t_seq ?_
  refine t_region (fun ops hops => ?_)
  clear hops
  refine z_val (v := .int .i64 0) (val_assign rfl rfl) rfl rfl rfl (fun _ _ _ => trivial) ?_
  refine z_nil ?_
  refine t_block ?_
  obtain ⟨z1, hz1, HK1⟩ := Option.bind_eq_some_iff.1 H
  clear H
  refine t_while hz1 (fun (s : (Vec (BitVec 8) 20) × (Int)) (g : Unit) => [(1, .pointer (some ⟨g_1, 0, none⟩)), (2, .pointer (some ⟨g_2, 0, none⟩)), (3, .pointer (some ⟨g_3, 0, none⟩)), (4, .int .i64 s.2)]) (fun (s : (Vec (BitVec 8) 20) × (Int)) (g : Unit) => [(2, .pointer (some ⟨g_2, 0, none⟩)), (3, .pointer (some ⟨g_3, 0, none⟩))]) (fun (s : (Vec (BitVec 8) 20) × (Int)) (g : Unit) => Mm w [] h [.blk g_3 23 (cV U8 s.1) 20, .blk g_2 23 (cV U8 (Vec.rep 20 0#8)) 20, .blk g_1 46 (cV U8 a0) 32]) (fun (s : (Vec (BitVec 8) 20) × (Int)) (g : Unit) => Mm w [] h [.blk g_3 23 (cV U8 s.1) 20, .blk g_2 23 (cV U8 (Vec.rep 20 0#8)) 20]) (fun (s : (Vec (BitVec 8) 20) × (Int)) (g : Unit) => True) (fun (s : (Vec (BitVec 8) 20) × (Int)) (g : Unit) => True) () trivial (fun a w ha hw => ⟨ha.cons rfl (ha.cons rfl (ha.cons rfl (ha.cons rfl (ha.nil)))), hw⟩) (fun Gn Gb s g e hφ H hn1 hb1 hr1 => ?_) (fun s g hzz hφ => ?_)
  ·
    obtain ⟨y_3, x4⟩ := s
    change smithyref08_last.b1 a0 y_3 x4 = some e at H
    unfold smithyref08_last.b1 at H
    clear hz1
    change T 17 _ _ _
    refine t_seq ?_
    refine t_seq ?_
    refine t_region (fun ops hops => ?_)
    clear hops
    refine z_val (v := .int .i64 x4) (val_move rfl rfl) rfl rfl rfl (fun _ _ _ => trivial) ?_
    obtain ⟨x7, hx7, H⟩ := Let_elim H
    refine z_val (v := .bool x7) (by subst hx7; exact val_bin rfl rfl rfl rfl (i64_lss _ _ _)) rfl rfl rfl (fun _ _ _ => trivial) ?_
    clear hx7
    refine z_nil ?_
    cases x7
    ·
      replace H := cond_f H
      refine t_cond_false rfl ?_
      refine t_exit rfl ?_
      obtain rfl := Option.some.inj H
      exact t_reach ((hb1 _ () rfl trivial).weak (fun a ha => ha.cons rfl (ha.cons rfl (ha.nil))) (fun w hw => hw.sel [0, 1] rfl rfl))
    ·
      replace H := cond_t H
      refine t_cond_true rfl ?_
      refine t_skip ?_
      refine t_seq ?_
      refine t_block ?_
      refine t_region (fun ops hops => ?_)
      clear hops
      refine z_val (v := .int .i64 x4) (val_move rfl rfl) rfl rfl rfl (fun _ _ _ => trivial) ?_
      refine z_val (v := .int .i64 x4) (val_move rfl rfl) rfl rfl rfl (fun _ _ _ => trivial) ?_
      obtain ⟨x12, hx12, H⟩ := Let_elim H
      refine z_val (v := .int .i64 x12) (by subst hx12; exact val_bin rfl rfl rfl rfl (i64_add _ _ _)) rfl rfl rfl (fun _ _ _ => trivial) ?_
      clear hx12
      obtain ⟨hq_4, H⟩ := Chk_elim H
      refine z_val (v := .pointer (some ⟨g_1, x12.toNat, none⟩)) (val_idx0 rfl rfl rfl Tryd.underlying46 sz5 hq_4 rfl) rfl rfl rfl (fun _ _ _ => trivial) ?_
      obtain ⟨x14, hx14, H⟩ := Let_elim H
      refine z_val (v := U8 x14) (by subst hx14; exact val_load1 rfl rfl Tryd.underlying5 rfl (fun _ hw => hw.cell (j := 2) rfl (cV_at _ (idx_lt hq_4)))) rfl rfl rfl (fun _ _ _ => trivial) ?_
      clear hx14
      obtain ⟨hq_5, H⟩ := Chk_elim H
      refine z_val (v := .pointer (some ⟨g_3, x4.toNat, none⟩)) (val_idx0 rfl rfl rfl Tryd.underlying23 sz5 hq_5 rfl) rfl rfl rfl (fun _ _ _ => trivial) ?_
      obtain ⟨y_3_6, hy_3_6, H⟩ := Let_elim H
      refine z_store1 (j := 0) (cs' := cV U8 y_3_6) (L' := [.blk g_3 23 (cV U8 y_3_6) 20, .blk g_2 23 (cV U8 (Vec.rep 20 0#8)) 20, .blk g_1 46 (cV U8 a0) 32]) rfl rfl rfl rfl rfl sz5 rfl (by rw [cV_len]; exact (idx_lt hq_5)) (by subst hy_3_6; exact cV_set (f := U8) _ _ x14) rfl rfl rfl (fun _ _ _ => trivial) ?_
      clear hy_3_6
      refine z_nil ?_
      refine t_fin ?_
      refine t_region (fun ops hops => ?_)
      clear hops
      refine z_val (v := .int .i64 x4) (val_move rfl rfl) rfl rfl rfl (fun _ _ _ => trivial) ?_
      obtain ⟨x9, hx9, H⟩ := Let_elim H
      refine z_val (v := .int .i64 x9) (by subst hx9; exact val_bin rfl rfl rfl rfl (i64_add _ _ _)) rfl rfl rfl (fun _ _ _ => trivial) ?_
      clear hx9
      refine z_val (v := .int .i64 x9) (val_assign rfl rfl) rfl rfl rfl (fun _ _ _ => trivial) ?_
      refine z_nil ?_
      obtain rfl := Option.some.inj H
      exact t_reach ((hn1 _ () rfl trivial).weak (fun a ha => ha.cons rfl (ha.cons rfl (ha.cons rfl (ha.cons rfl (ha.nil))))) (fun w hw => hw))
  ·
    obtain ⟨y_3, x4⟩ := s
    subst hzz
    have H := HK1
    clear HK1 hz1
    replace H := sum_l H
    try dsimp only at H
    change T 17 _ _ _
    refine t_seq ?_
    refine t_region (fun ops hops => ?_)
    clear hops
    refine z_val (v := .agg (cV U8 y_3).toArray) (val_loadR (off := 0) (cs := cV U8 y_3) rfl rfl Tryd.underlying23 rfl (sz23.trans (congrArg some (cV_len _).symm)) (fun _ hw => hw.whole (j := 0) rfl)) rfl rfl rfl (fun _ _ _ => trivial) ?_
    refine z_storeA (j := 1) (cs' := cV U8 y_3) (L' := [.blk g_3 23 (cV U8 y_3) 20, .blk g_2 23 (cV U8 y_3) 20]) rfl rfl rfl (cV_one (fun _ => rfl) _) sz23 rfl (cV_len _) rfl rfl rfl (fun _ _ _ => trivial) ?_
    refine z_nil ?_
    refine t_ret ?_
    obtain rfl := Option.some.inj H
    exact ret1 rfl (res_row (j := 1) rfl Tryd.underlying23 rfl sz23 rfl (cV_len _)) (fun _ hw => ⟨rfl, hw.below⟩)
end Go.Proofs.YtapfkdcilfpbhaaDoor
