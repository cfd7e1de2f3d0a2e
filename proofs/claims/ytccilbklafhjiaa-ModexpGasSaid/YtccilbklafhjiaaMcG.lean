/- Functions of the program as plain functions, and their walks, printed by walk.py. -/
import Derived.Test.YtccilbklafhjiaaMcF
import Derived.Test.YtccilbklafhjiaaMcC
import Derived.Test.YtccilbklafhjiaaMcL
namespace Go.Proofs.Ytccilbklafhjiaa
open Go.RowKit
set_option linter.unusedVariables false
set_option linter.unusedSimpArgs false
def smithyref01_From.b1 (a0 : List (BitVec 8)) (y_2 : Vec (Int) 32) (x4 : Int) : Option (Ctl ((Vec (Int) 32) × (Int)) (Vec (Int) 32)) :=
  Let (decide (x4 < 32)) fun x7 => (bif x7 then Let ((a0.length : Int)) fun x11 => Let (decide (x4 < x11)) fun x12 => some x12 else some false).bind (fun x13 => (bif x13 then Let ((a0.length : Int)) fun x19 => Let (wi (x19 - 1)) fun x20 => Let (wi (x20 - x4)) fun x22 => Chk ((0 : Int) ≤ x22 ∧ x22 < (a0.length : Int)) <| Let (lget a0 x22.toNat) fun x24 => Let ((x24.toNat : Int)) fun x25 => Chk (0 ≤ x4 ∧ x4 < ((32 : Nat) : Int)) <| Let (y_2.set x4.toNat x25) fun y_2_9 => Let (wi (x4 + 1)) fun x15 => some (.next (y_2_9, x15)) else some (.brk (y_2, x4))))
def smithyref01_From (a0 : List (BitVec 8)) : Option (Vec (Int) 32) :=
  Let (Vec.rep 32 0) fun x5 => (wlx (σ := (Vec (Int) 32) × (Int)) (fun s => smithyref01_From.b1 a0 s.1 s.2) (x5, 0)).bind (Sum.elim (fun s => (fun y_2 x4 => some y_2) s.1 s.2) (fun r => some r))
set_option maxRecDepth 100000 in
theorem smithyref01_From.calls  (a0 : List (BitVec 8)) (A0 : Option Addr) (c0 : Nat) (r : Vec (Int) 32) (H : smithyref01_From a0 = some r) (w : World) (hs0 : SlW w U8 A0 a0) (hc0 : a0.length ≤ c0)  :
    Made Try.prog 53 #[.slice A0 a0.length c0] w (.agg (cV (Value.int .i64) r).toArray) := by
  unfold smithyref01_From at H
  replace hs0 := hs0.toH
  have hM := Mm.start w (snap w) (snap_ok w)
  generalize snap w = h at *
  refine t_enter (vs := [.slice A0 a0.length c0]) (n := 28) Try.func53 rfl rfl rfl hM ?_
  clear hM
  change T 28 _ _ _
  refine t_seq ?_
  refine t_region (fun ops hops => ?_)
  clear hops
  refine z_alloc (cs := cV (Value.int .i64) (Vec.rep 32 0)) (room := 32) rfl ze86 rfl (cV_len _) rfl rfl rfl (fun _ _ _ _ => trivial) (fun g_1 => ?_)
  refine z_nil ?_
  refine t_seq ?_
  refine t_region (fun ops hops => ?_)
  clear hops
  obtain ⟨x5, hx5, H⟩ := Let_elim H
  refine z_val (v := .agg (cV (Value.int .i64) x5).toArray) (by subst hx5; exact val_build (vs := []) rfl rfl (fun w => by kernel_rfl)) rfl rfl rfl (fun _ _ _ => trivial) ?_
  clear hx5
  refine z_alloc (cs := cV (Value.int .i64) (Vec.rep 32 0)) (room := 32) rfl ze86 rfl (cV_len _) rfl rfl rfl (fun _ _ _ _ => trivial) (fun g_2 => ?_)
  refine z_storeA (j := 0) (cs' := cV (Value.int .i64) x5) (L' := [.blk g_2 86 (cV (Value.int .i64) x5) 32, .blk g_1 86 (cV (Value.int .i64) (Vec.rep 32 0)) 32]) rfl rfl rfl (cV_one (fun _ => rfl) _) sz86 rfl (cV_len _) rfl rfl rfl (fun _ _ _ => trivial) ?_
  refine z_nil ?_
  refine t_seq ?_
  refine t_seq ?_
  refine t_region (fun ops hops => ?_)
  clear hops
  refine z_val (v := .int .i64 0) (val_assign rfl rfl) rfl rfl rfl (fun _ _ _ => trivial) ?_
  refine z_nil ?_
  refine t_block ?_
  obtain ⟨z1, hz1, HK1⟩ := Option.bind_eq_some_iff.1 H
  clear H
  refine t_while hz1 (fun (s : (Vec (Int) 32) × (Int)) (g : Unit) => [(0, .slice A0 a0.length c0), (2, .pointer (some ⟨g_1, 0, none⟩)), (3, .pointer (some ⟨g_2, 0, none⟩)), (4, .int .i64 s.2)]) (fun (s : (Vec (Int) 32) × (Int)) (g : Unit) => [(2, .pointer (some ⟨g_1, 0, none⟩)), (3, .pointer (some ⟨g_2, 0, none⟩))]) (fun (s : (Vec (Int) 32) × (Int)) (g : Unit) => Mm w [] h [.blk g_2 86 (cV (Value.int .i64) s.1) 32, .blk g_1 86 (cV (Value.int .i64) (Vec.rep 32 0)) 32]) (fun (s : (Vec (Int) 32) × (Int)) (g : Unit) => Mm w [] h [.blk g_2 86 (cV (Value.int .i64) s.1) 32, .blk g_1 86 (cV (Value.int .i64) (Vec.rep 32 0)) 32]) (fun (s : (Vec (Int) 32) × (Int)) (g : Unit) => True) (fun (s : (Vec (Int) 32) × (Int)) (g : Unit) => True) () trivial (fun a w ha hw => ⟨ha.cons rfl (ha.cons rfl (ha.cons rfl (ha.cons rfl (ha.nil)))), hw⟩) (fun Gn Gb s g e hφ H hn1 hb1 hr1 => ?_) (fun s g hzz hφ => ?_)
  ·
    obtain ⟨y_2, x4⟩ := s
    change smithyref01_From.b1 a0 y_2 x4 = some e at H
    unfold smithyref01_From.b1 at H
    clear hz1
    change T 28 _ _ _
    refine t_seq ?_
    refine t_seq ?_
    refine t_region (fun ops hops => ?_)
    refine z_val (v := .int .i64 x4) (val_move rfl rfl) rfl rfl rfl (fun _ _ _ => trivial) ?_
    obtain ⟨x7, hx7, H⟩ := Let_elim H
    refine z_val (v := .bool x7) (by subst hx7; exact val_bin rfl rfl rfl rfl (i64_lss _ _ _)) rfl rfl rfl (fun _ _ _ => trivial) ?_
    clear hx7
    refine z_val (v := .bool x7) (val_move rfl rfl) rfl rfl rfl (fun _ _ _ => trivial) ?_
    refine z_bind H 5 (fun (s : Bool) (_ : Unit) => [(0, .slice A0 a0.length c0), (2, .pointer (some ⟨g_1, 0, none⟩)), (3, .pointer (some ⟨g_2, 0, none⟩)), (4, .int .i64 x4), (13, .bool s)]) (fun _ _ => Mm w [] h [.blk g_2 86 (cV (Value.int .i64) y_2) 32, .blk g_1 86 (cV (Value.int .i64) (Vec.rep 32 0)) 32]) (fun _ _ => True) (fun Gr K s he HJ => ?_) (fun s g HB _ => ?_)
    ·
      clear H
      cases x7
      ·
        have H := cond_f he
        clear he
        refine z_skip rfl rfl (by rw [hops]; rfl) (fun _ _ _ => trivial) ?_
        refine z_skip rfl rfl (by rw [hops]; rfl) (fun _ _ _ => trivial) ?_
        refine z_skip rfl rfl (by rw [hops]; rfl) (fun _ _ _ => trivial) ?_
        refine z_skip rfl rfl (by rw [hops]; rfl) (fun _ _ _ => trivial) ?_
        refine z_val (v := .bool false) (val_pick rfl rfl rfl) rfl rfl rfl (fun _ _ _ => trivial) ?_
        obtain rfl := Option.some.inj H
        exact z_nil ((K _ () HJ trivial).weak (fun a ha => ha.cons rfl (ha.cons rfl (ha.cons rfl (ha.cons rfl (ha.cons rfl (ha.nil)))))) (fun w hw => hw))
      ·
        have H := cond_t he
        clear he
        refine z_val (v := .int .i64 x4) (val_move rfl rfl) rfl rfl (by rw [hops]; rfl) (fun _ _ _ => trivial) ?_
        refine z_val (v := .slice A0 a0.length c0) (val_move rfl rfl) rfl rfl (by rw [hops]; rfl) (fun _ _ _ => trivial) ?_
        obtain ⟨x11, hx11, H⟩ := Let_elim H
        refine z_val (v := .int .i64 x11) (by subst hx11; exact val_len rfl rfl rfl Try.underlying22) rfl rfl (by rw [hops]; rfl) (fun _ _ _ => trivial) ?_
        clear hx11
        obtain ⟨x12, hx12, H⟩ := Let_elim H
        refine z_val (v := .bool x12) (by subst hx12; exact val_bin rfl rfl rfl rfl (i64_lss _ _ _)) rfl rfl (by rw [hops]; rfl) (fun _ _ _ => trivial) ?_
        clear hx12
        refine z_val (v := .bool x12) (val_pick rfl rfl rfl) rfl rfl rfl (fun _ _ _ => trivial) ?_
        obtain rfl := Option.some.inj H
        exact z_nil ((K _ () HJ trivial).weak (fun a ha => ha.cons rfl (ha.cons rfl (ha.cons rfl (ha.cons rfl (ha.cons rfl (ha.nil)))))) (fun w hw => hw))
    ·
      replace H := HB
      clear HB
      obtain ⟨x13, rfl⟩ : ∃ x, x = s := ⟨_, rfl⟩
      change T 28 _ _ _
      refine z_nil ?_
      cases x13
      ·
        replace H := cond_f H
        refine t_cond_false rfl ?_
        refine t_exit rfl ?_
        obtain rfl := Option.some.inj H
        exact t_reach ((hb1 _ () rfl trivial).weak (fun a ha => ha.cons rfl (ha.cons rfl (ha.nil))) (fun w hw => hw))
      ·
        replace H := cond_t H
        refine t_cond_true rfl ?_
        refine t_skip ?_
        refine t_seq ?_
        refine t_block ?_
        refine t_region (fun ops hops => ?_)
        clear hops
        refine z_val (v := .int .i64 x4) (val_move rfl rfl) rfl rfl rfl (fun _ _ _ => trivial) ?_
        refine z_val (v := .slice A0 a0.length c0) (val_move rfl rfl) rfl rfl rfl (fun _ _ _ => trivial) ?_
        refine z_val (v := .slice A0 a0.length c0) (val_move rfl rfl) rfl rfl rfl (fun _ _ _ => trivial) ?_
        obtain ⟨x19, hx19, H⟩ := Let_elim H
        refine z_val (v := .int .i64 x19) (by subst hx19; exact val_len rfl rfl rfl Try.underlying22) rfl rfl rfl (fun _ _ _ => trivial) ?_
        clear hx19
        obtain ⟨x20, hx20, H⟩ := Let_elim H
        refine z_val (v := .int .i64 x20) (by subst hx20; exact val_bin rfl rfl rfl rfl (i64_sub _ _ _)) rfl rfl rfl (fun _ _ _ => trivial) ?_
        clear hx20
        refine z_val (v := .int .i64 x4) (val_move rfl rfl) rfl rfl rfl (fun _ _ _ => trivial) ?_
        obtain ⟨x22, hx22, H⟩ := Let_elim H
        refine z_val (v := .int .i64 x22) (by subst hx22; exact val_bin rfl rfl rfl rfl (i64_sub _ _ _)) rfl rfl rfl (fun _ _ _ => trivial) ?_
        clear hx22
        obtain ⟨hq_3, H⟩ := Chk_elim H
        obtain ⟨b_4, o_5, hA_6, hc_7⟩ := hs0.at_ (idx_lt hq_3)
        refine z_val (v := .pointer (some ⟨b_4, o_5 + x22.toNat, none⟩)) (val_idxS0 rfl rfl rfl Try.underlying22 sz5 hq_3 hA_6 rfl) rfl rfl rfl (fun _ _ _ => trivial) ?_
        obtain ⟨x24, hx24, H⟩ := Let_elim H
        refine z_val (v := U8 x24) (by subst hx24; exact val_load1 rfl rfl Try.underlying5 rfl (fun _ hw => hc_7.cell hw)) rfl rfl rfl (fun _ _ _ => trivial) ?_
        clear hx24
        obtain ⟨x25, hx25, H⟩ := Let_elim H
        refine z_val (v := .int .i64 x25) (by subst hx25; exact val_conv rfl rfl (fun w => conv_u8_int w _ _ _ (by rw [Try.underlying5]; rfl) Try.underlying3)) rfl rfl rfl (fun _ _ _ => trivial) ?_
        clear hx25
        obtain ⟨hq_8, H⟩ := Chk_elim H
        refine z_val (v := .pointer (some ⟨g_2, x4.toNat, none⟩)) (val_idx0 rfl rfl rfl Try.underlying86 sz3 hq_8 rfl) rfl rfl rfl (fun _ _ _ => trivial) ?_
        obtain ⟨y_2_9, hy_2_9, H⟩ := Let_elim H
        refine z_store1 (j := 0) (cs' := cV (Value.int .i64) y_2_9) (L' := [.blk g_2 86 (cV (Value.int .i64) y_2_9) 32, .blk g_1 86 (cV (Value.int .i64) (Vec.rep 32 0)) 32]) rfl rfl rfl rfl rfl sz3 rfl (by rw [cV_len]; exact (idx_lt hq_8)) (by subst hy_2_9; exact cV_set (f := (Value.int .i64)) _ _ x25) rfl rfl rfl (fun _ _ _ => trivial) ?_
        clear hy_2_9
        refine z_nil ?_
        refine t_fin ?_
        refine t_region (fun ops hops => ?_)
        clear hops
        refine z_val (v := .int .i64 x4) (val_move rfl rfl) rfl rfl rfl (fun _ _ _ => trivial) ?_
        obtain ⟨x15, hx15, H⟩ := Let_elim H
        refine z_val (v := .int .i64 x15) (by subst hx15; exact val_bin rfl rfl rfl rfl (i64_add _ _ _)) rfl rfl rfl (fun _ _ _ => trivial) ?_
        clear hx15
        refine z_val (v := .int .i64 x15) (val_assign rfl rfl) rfl rfl rfl (fun _ _ _ => trivial) ?_
        refine z_nil ?_
        obtain rfl := Option.some.inj H
        exact t_reach ((hn1 _ () rfl trivial).weak (fun a ha => ha.cons rfl (ha.cons rfl (ha.cons rfl (ha.cons rfl (ha.nil))))) (fun w hw => hw))
  ·
    obtain ⟨y_2, x4⟩ := s
    subst hzz
    have H := HK1
    clear HK1 hz1
    replace H := sum_l H
    try dsimp only at H
    change T 28 _ _ _
    refine t_seq ?_
    refine t_region (fun ops hops => ?_)
    clear hops
    refine z_val (v := .agg (cV (Value.int .i64) y_2).toArray) (val_loadR (off := 0) (cs := cV (Value.int .i64) y_2) rfl rfl Try.underlying86 rfl (sz86.trans (congrArg some (cV_len _).symm)) (fun _ hw => hw.whole (j := 0) rfl)) rfl rfl rfl (fun _ _ _ => trivial) ?_
    refine z_storeA (j := 1) (cs' := cV (Value.int .i64) y_2) (L' := [.blk g_2 86 (cV (Value.int .i64) y_2) 32, .blk g_1 86 (cV (Value.int .i64) y_2) 32]) rfl rfl rfl (cV_one (fun _ => rfl) _) sz86 rfl (cV_len _) rfl rfl rfl (fun _ _ _ => trivial) ?_
    refine z_nil ?_
    refine t_ret ?_
    obtain rfl := Option.some.inj H
    exact ret1 rfl (res_row (j := 1) rfl Try.underlying86 rfl sz86 rfl (cV_len _)) (fun _ hw => ⟨rfl, hw.below⟩)
def smithyref01_D_Bit.b1 (a1 : Int) (x5 : Int) (x6 : Int) : Option (Ctl ((Int) × (Int)) (Int)) :=
  Let (Int.tmod a1 8) fun x19 => Let (decide (x6 < x19)) fun x20 => (bif x20 then Let (wi (Int.tdiv x5 2)) fun x24 => Let (wi (x6 + 1)) fun x22 => some (.next (x24, x22)) else some (.brk (x5, x6)))
def smithyref01_D_Bit (a0 : Vec (Int) 32) (a1 : Int) : Option (Int) :=
  Let (decide (a1 < 0)) fun x8 => (bif x8 then some true else Let (decide (255 < a1)) fun x11 => some x11).bind (fun x12 => (bif x12 then some 0 else Let (wi (Int.tdiv a1 8)) fun x14 => Chk (0 ≤ x14 ∧ x14 < ((32 : Nat) : Int)) <| Let (a0.get x14.toNat) fun x16 => (wlx (σ := (Int) × (Int)) (fun s => smithyref01_D_Bit.b1 a1 s.1 s.2) (x16, 0)).bind (Sum.elim (fun s => (fun x5 x6 => Let (Int.tmod x5 2) fun x26 => some x26) s.1 s.2) (fun r => some r))))
set_option maxRecDepth 100000 in
theorem smithyref01_D_Bit.calls  (a0 : Vec (Int) 32) (a1 : Int) (r : Int) (H : smithyref01_D_Bit a0 a1 = some r) (w : World)   :
    Made Try.prog 60 #[.agg (cV (Value.int .i64) a0).toArray, .int .i64 a1] w (.int .i64 r) := by
  unfold smithyref01_D_Bit at H
  have hM := Mm.start w (snap w) (snap_ok w)
  generalize snap w = h at *
  refine t_enter (vs := [.agg (cV (Value.int .i64) a0).toArray, .int .i64 a1]) (n := 27) Try.func60 rfl rfl rfl hM ?_
  clear hM
  change T 27 _ _ _
  refine t_seq ?_
  refine t_region (fun ops hops => ?_)
  clear hops
  refine z_box (cs := cV (Value.int .i64) a0) (room := 32) rfl rfl rfl (cV_len _) rfl rfl rfl (fun _ _ _ _ => trivial) (fun g_1 => ?_)
  refine z_val (v := .int .i64 0) (val_assign rfl rfl) rfl rfl rfl (fun _ _ _ => trivial) ?_
  refine z_nil ?_
  refine t_seq ?_
  refine t_seq ?_
  refine t_region (fun ops hops => ?_)
  refine z_val (v := .int .i64 a1) (val_move rfl rfl) rfl rfl rfl (fun _ _ _ => trivial) ?_
  obtain ⟨x8, hx8, H⟩ := Let_elim H
  refine z_val (v := .bool x8) (by subst hx8; exact val_bin rfl rfl rfl rfl (i64_lss _ _ _)) rfl rfl rfl (fun _ _ _ => trivial) ?_
  clear hx8
  refine z_val (v := .bool x8) (val_move rfl rfl) rfl rfl rfl (fun _ _ _ => trivial) ?_
  refine z_bind H 3 (fun (s : Bool) (_ : Unit) => [(1, .int .i64 a1), (2, .pointer (some ⟨g_1, 0, none⟩)), (12, .bool s)]) (fun _ _ => Mm w [] h [.blk g_1 86 (cV (Value.int .i64) a0) 32]) (fun _ _ => True) (fun Gr K s he HJ => ?_) (fun s g HB _ => ?_)
  ·
    clear H
    cases x8
    ·
      have H := cond_f he
      clear he
      refine z_val (v := .int .i64 a1) (val_move rfl rfl) rfl rfl (by rw [hops]; rfl) (fun _ _ _ => trivial) ?_
      obtain ⟨x11, hx11, H⟩ := Let_elim H
      refine z_val (v := .bool x11) (by subst hx11; exact val_bin rfl rfl rfl rfl (i64_gtr _ _ _)) rfl rfl (by rw [hops]; rfl) (fun _ _ _ => trivial) ?_
      clear hx11
      refine z_val (v := .bool x11) (val_pick rfl rfl rfl) rfl rfl rfl (fun _ _ _ => trivial) ?_
      obtain rfl := Option.some.inj H
      exact z_nil ((K _ () HJ trivial).weak (fun a ha => ha.cons rfl (ha.cons rfl (ha.cons rfl (ha.nil)))) (fun w hw => hw))
    ·
      have H := cond_t he
      clear he
      refine z_skip rfl rfl (by rw [hops]; rfl) (fun _ _ _ => trivial) ?_
      refine z_skip rfl rfl (by rw [hops]; rfl) (fun _ _ _ => trivial) ?_
      refine z_val (v := .bool true) (val_pick rfl rfl rfl) rfl rfl rfl (fun _ _ _ => trivial) ?_
      obtain rfl := Option.some.inj H
      exact z_nil ((K _ () HJ trivial).weak (fun a ha => ha.cons rfl (ha.cons rfl (ha.cons rfl (ha.nil)))) (fun w hw => hw))
  ·
    replace H := HB
    clear HB
    obtain ⟨x12, rfl⟩ : ∃ x, x = s := ⟨_, rfl⟩
    change T 27 _ _ _
    refine z_nil ?_
    cases x12
    ·
      replace H := cond_f H
      refine t_cond_false rfl ?_
      refine t_skip ?_
      refine t_seq ?_
      refine t_region (fun ops hops => ?_)
      clear hops
      refine z_val (v := .int .i64 a1) (val_move rfl rfl) rfl rfl rfl (fun _ _ _ => trivial) ?_
      obtain ⟨x14, hx14, H⟩ := Let_elim H
      refine z_val (v := .int .i64 x14) (by subst hx14; exact val_bin rfl rfl rfl rfl (i64_quo _ _ _ (by decide))) rfl rfl rfl (fun _ _ _ => trivial) ?_
      clear hx14
      obtain ⟨hq_2, H⟩ := Chk_elim H
      refine z_val (v := .pointer (some ⟨g_1, x14.toNat, none⟩)) (val_idx0 rfl rfl rfl Try.underlying86 sz3 hq_2 rfl) rfl rfl rfl (fun _ _ _ => trivial) ?_
      obtain ⟨x16, hx16, H⟩ := Let_elim H
      refine z_val (v := .int .i64 x16) (by subst hx16; exact val_load1 rfl rfl Try.underlying3 rfl (fun _ hw => hw.cell (j := 0) rfl (cV_at _ (idx_lt hq_2)))) rfl rfl rfl (fun _ _ _ => trivial) ?_
      clear hx16
      refine z_val (v := .int .i64 x16) (val_assign rfl rfl) rfl rfl rfl (fun _ _ _ => trivial) ?_
      refine z_nil ?_
      refine t_seq ?_
      refine t_seq ?_
      refine t_region (fun ops hops => ?_)
      clear hops
      refine z_val (v := .int .i64 0) (val_assign rfl rfl) rfl rfl rfl (fun _ _ _ => trivial) ?_
      refine z_nil ?_
      refine t_block ?_
      obtain ⟨z1, hz1, HK1⟩ := Option.bind_eq_some_iff.1 H
      clear H
      refine t_while hz1 (fun (s : (Int) × (Int)) (g : Unit) => [(1, .int .i64 a1), (5, .int .i64 s.1), (6, .int .i64 s.2)]) (fun (s : (Int) × (Int)) (g : Unit) => [(5, .int .i64 s.1)]) (fun (s : (Int) × (Int)) (g : Unit) => Mm w [] h []) (fun (s : (Int) × (Int)) (g : Unit) => Mm w [] h []) (fun (s : (Int) × (Int)) (g : Unit) => True) (fun (s : (Int) × (Int)) (g : Unit) => True) () trivial (fun a w ha hw => ⟨ha.cons rfl (ha.cons rfl (ha.cons rfl (ha.nil))), hw.sel [] rfl rfl⟩) (fun Gn Gb s g e hφ H hn1 hb1 hr1 => ?_) (fun s g hzz hφ => ?_)
      ·
        obtain ⟨x5, x6⟩ := s
        change smithyref01_D_Bit.b1 a1 x5 x6 = some e at H
        unfold smithyref01_D_Bit.b1 at H
        clear hz1
        change T 27 _ _ _
        refine t_seq ?_
        refine t_seq ?_
        refine t_region (fun ops hops => ?_)
        clear hops
        refine z_val (v := .int .i64 x6) (val_move rfl rfl) rfl rfl rfl (fun _ _ _ => trivial) ?_
        refine z_val (v := .int .i64 a1) (val_move rfl rfl) rfl rfl rfl (fun _ _ _ => trivial) ?_
        obtain ⟨x19, hx19, H⟩ := Let_elim H
        refine z_val (v := .int .i64 x19) (by subst hx19; exact val_bin rfl rfl rfl rfl (i64_rem _ _ _ (by decide))) rfl rfl rfl (fun _ _ _ => trivial) ?_
        clear hx19
        obtain ⟨x20, hx20, H⟩ := Let_elim H
        refine z_val (v := .bool x20) (by subst hx20; exact val_bin rfl rfl rfl rfl (i64_lss _ _ _)) rfl rfl rfl (fun _ _ _ => trivial) ?_
        clear hx20
        refine z_nil ?_
        cases x20
        ·
          replace H := cond_f H
          refine t_cond_false rfl ?_
          refine t_exit rfl ?_
          obtain rfl := Option.some.inj H
          exact t_reach ((hb1 _ () rfl trivial).weak (fun a ha => ha.cons rfl (ha.nil)) (fun w hw => hw))
        ·
          replace H := cond_t H
          refine t_cond_true rfl ?_
          refine t_skip ?_
          refine t_seq ?_
          refine t_block ?_
          refine t_region (fun ops hops => ?_)
          clear hops
          refine z_val (v := .int .i64 x5) (val_move rfl rfl) rfl rfl rfl (fun _ _ _ => trivial) ?_
          obtain ⟨x24, hx24, H⟩ := Let_elim H
          refine z_val (v := .int .i64 x24) (by subst hx24; exact val_bin rfl rfl rfl rfl (i64_quo _ _ _ (by decide))) rfl rfl rfl (fun _ _ _ => trivial) ?_
          clear hx24
          refine z_val (v := .int .i64 x24) (val_assign rfl rfl) rfl rfl rfl (fun _ _ _ => trivial) ?_
          refine z_nil ?_
          refine t_fin ?_
          refine t_region (fun ops hops => ?_)
          clear hops
          refine z_val (v := .int .i64 x6) (val_move rfl rfl) rfl rfl rfl (fun _ _ _ => trivial) ?_
          obtain ⟨x22, hx22, H⟩ := Let_elim H
          refine z_val (v := .int .i64 x22) (by subst hx22; exact val_bin rfl rfl rfl rfl (i64_add _ _ _)) rfl rfl rfl (fun _ _ _ => trivial) ?_
          clear hx22
          refine z_val (v := .int .i64 x22) (val_assign rfl rfl) rfl rfl rfl (fun _ _ _ => trivial) ?_
          refine z_nil ?_
          obtain rfl := Option.some.inj H
          exact t_reach ((hn1 _ () rfl trivial).weak (fun a ha => ha.cons rfl (ha.cons rfl (ha.cons rfl (ha.nil)))) (fun w hw => hw))
      ·
        obtain ⟨x5, x6⟩ := s
        subst hzz
        have H := HK1
        clear HK1 hz1
        replace H := sum_l H
        try dsimp only at H
        change T 27 _ _ _
        refine t_seq ?_
        refine t_region (fun ops hops => ?_)
        clear hops
        refine z_val (v := .int .i64 x5) (val_move rfl rfl) rfl rfl rfl (fun _ _ _ => trivial) ?_
        obtain ⟨x26, hx26, H⟩ := Let_elim H
        refine z_val (v := .int .i64 x26) (by subst hx26; exact val_bin rfl rfl rfl rfl (i64_rem _ _ _ (by decide))) rfl rfl rfl (fun _ _ _ => trivial) ?_
        clear hx26
        refine z_val (v := .int .i64 x26) (val_assign rfl rfl) rfl rfl rfl (fun _ _ _ => trivial) ?_
        refine z_nil ?_
        refine t_ret ?_
        obtain rfl := Option.some.inj H
        exact ret1 rfl (res_tmp rfl) (fun _ hw => ⟨rfl, hw.below⟩)
    ·
      replace H := cond_t H
      refine t_cond_true rfl ?_
      refine t_seq ?_
      refine t_region (fun ops hops => ?_)
      clear hops
      refine z_val (v := .int .i64 0) (val_assign rfl rfl) rfl rfl rfl (fun _ _ _ => trivial) ?_
      refine z_nil ?_
      refine t_ret ?_
      obtain rfl := Option.some.inj H
      exact ret1 rfl (res_tmp rfl) (fun _ hw => ⟨rfl, hw.below⟩)
def smithyref01_D_Len.b1 (a0 : Vec (Int) 32) (x3 : Int) (x4 : Int) : Option (Ctl ((Int) × (Int)) (Int)) :=
  Let (decide (x4 < 256)) fun x6 => (bif x6 then (smithyref01_D_Bit a0 x4).bind fun x11 => Let (x11 == 1) fun x12 => (bif x12 then Let (wi (x4 + 1)) fun x14 => some x14 else some x3).bind (fun (x3_2 : Int) => Let (wi (x4 + 1)) fun x8 => some (.next (x3_2, x8))) else some (.brk (x3, x4)))
def smithyref01_D_Len (a0 : Vec (Int) 32) : Option (Int) :=
  (wlx (σ := (Int) × (Int)) (fun s => smithyref01_D_Len.b1 a0 s.1 s.2) (0, 0)).bind (Sum.elim (fun s => (fun x3 x4 => some x3) s.1 s.2) (fun r => some r))
set_option maxRecDepth 100000 in
theorem smithyref01_D_Len.calls  (a0 : Vec (Int) 32) (r : Int) (H : smithyref01_D_Len a0 = some r) (w : World)   :
    Made Try.prog 54 #[.agg (cV (Value.int .i64) a0).toArray] w (.int .i64 r) := by
  unfold smithyref01_D_Len at H
  have hM := Mm.start w (snap w) (snap_ok w)
  generalize snap w = h at *
  refine t_enter (vs := [.agg (cV (Value.int .i64) a0).toArray]) (n := 16) Try.func54 rfl rfl rfl hM ?_
  clear hM
  change T 16 _ _ _
  refine t_seq ?_
  refine t_region (fun ops hops => ?_)
  clear hops
  refine z_box (cs := cV (Value.int .i64) a0) (room := 32) rfl rfl rfl (cV_len _) rfl rfl rfl (fun _ _ _ _ => trivial) (fun g_1 => ?_)
  refine z_val (v := .int .i64 0) (val_assign rfl rfl) rfl rfl rfl (fun _ _ _ => trivial) ?_
  refine z_nil ?_
  refine t_seq ?_
  refine t_region (fun ops hops => ?_)
  clear hops
  refine z_val (v := .int .i64 0) (val_assign rfl rfl) rfl rfl rfl (fun _ _ _ => trivial) ?_
  refine z_nil ?_
  refine t_seq ?_
  refine t_seq ?_
  refine t_region (fun ops hops => ?_)
  clear hops
  refine z_val (v := .int .i64 0) (val_assign rfl rfl) rfl rfl rfl (fun _ _ _ => trivial) ?_
  refine z_nil ?_
  refine t_block ?_
  obtain ⟨z1, hz1, HK1⟩ := Option.bind_eq_some_iff.1 H
  clear H
  refine t_while hz1 (fun (s : (Int) × (Int)) (g : Unit) => [(1, .pointer (some ⟨g_1, 0, none⟩)), (3, .int .i64 s.1), (4, .int .i64 s.2)]) (fun (s : (Int) × (Int)) (g : Unit) => [(3, .int .i64 s.1)]) (fun (s : (Int) × (Int)) (g : Unit) => Mm w [] h [.blk g_1 86 (cV (Value.int .i64) a0) 32]) (fun (s : (Int) × (Int)) (g : Unit) => Mm w [] h []) (fun (s : (Int) × (Int)) (g : Unit) => True) (fun (s : (Int) × (Int)) (g : Unit) => True) () trivial (fun a w ha hw => ⟨ha.cons rfl (ha.cons rfl (ha.cons rfl (ha.nil))), hw⟩) (fun Gn Gb s g e hφ H hn1 hb1 hr1 => ?_) (fun s g hzz hφ => ?_)
  ·
    obtain ⟨x3, x4⟩ := s
    change smithyref01_D_Len.b1 a0 x3 x4 = some e at H
    unfold smithyref01_D_Len.b1 at H
    clear hz1
    change T 16 _ _ _
    refine t_seq ?_
    refine t_seq ?_
    refine t_region (fun ops hops => ?_)
    clear hops
    refine z_val (v := .int .i64 x4) (val_move rfl rfl) rfl rfl rfl (fun _ _ _ => trivial) ?_
    obtain ⟨x6, hx6, H⟩ := Let_elim H
    refine z_val (v := .bool x6) (by subst hx6; exact val_bin rfl rfl rfl rfl (i64_lss _ _ _)) rfl rfl rfl (fun _ _ _ => trivial) ?_
    clear hx6
    refine z_nil ?_
    cases x6
    ·
      replace H := cond_f H
      refine t_cond_false rfl ?_
      refine t_exit rfl ?_
      obtain rfl := Option.some.inj H
      exact t_reach ((hb1 _ () rfl trivial).weak (fun a ha => ha.cons rfl (ha.nil)) (fun w hw => hw.sel [] rfl rfl))
    ·
      replace H := cond_t H
      refine t_cond_true rfl ?_
      refine t_skip ?_
      refine t_seq ?_
      refine t_block ?_
      refine t_seq ?_
      refine t_region (fun ops hops => ?_)
      clear hops
      refine z_val (v := .agg (cV (Value.int .i64) a0).toArray) (val_loadR (off := 0) (cs := cV (Value.int .i64) a0) rfl rfl Try.underlying86 rfl (sz86.trans (congrArg some (cV_len _).symm)) (fun _ hw => hw.whole (j := 0) rfl)) rfl rfl rfl (fun _ _ _ => trivial) ?_
      refine z_val (v := .int .i64 x4) (val_move rfl rfl) rfl rfl rfl (fun _ _ _ => trivial) ?_
      obtain ⟨x11, hx, H⟩ := Option.bind_eq_some_iff.1 H
      refine z_made (v := .int .i64 x11) rfl Try.func60 nm60 bs60 rfl (fun w hw => smithyref01_D_Bit.calls a0 x4 x11 hx w) rfl rfl rfl (fun _ _ _ => trivial) ?_
      clear hx
      obtain ⟨x12, hx12, H⟩ := Let_elim H
      refine z_val (v := .bool x12) (by subst hx12; exact val_bin rfl rfl rfl rfl (i64_eql _ _ _)) rfl rfl rfl (fun _ _ _ => trivial) ?_
      clear hx12
      refine z_nil ?_
      refine t_bind H (fun (s : (Int)) (g : Unit) => [(1, .pointer (some ⟨g_1, 0, none⟩)), (3, .int .i64 s), (4, .int .i64 x4)]) (fun (s : (Int)) (g : Unit) => Mm w [] h [.blk g_1 86 (cV (Value.int .i64) a0) 32]) (fun (s : (Int)) (g : Unit) => True) (fun Gr K s he HJ => ?_) (fun s g HB hφ => ?_)
      ·
        clear H
        cases x12
        ·
          have H := cond_f he
          clear he
          refine t_cond_false rfl ?_
          refine t_skip ?_
          obtain rfl := Option.some.inj H
          exact t_reach ((K _ () HJ trivial).weak (fun a ha => ha.cons rfl (ha.cons rfl (ha.cons rfl (ha.nil)))) (fun w hw => hw))
        ·
          have H := cond_t he
          clear he
          refine t_cond_true rfl ?_
          refine t_region (fun ops hops => ?_)
          clear hops
          refine z_val (v := .int .i64 x4) (val_move rfl rfl) rfl rfl rfl (fun _ _ _ => trivial) ?_
          obtain ⟨x14, hx14, H⟩ := Let_elim H
          refine z_val (v := .int .i64 x14) (by subst hx14; exact val_bin rfl rfl rfl rfl (i64_add _ _ _)) rfl rfl rfl (fun _ _ _ => trivial) ?_
          clear hx14
          refine z_val (v := .int .i64 x14) (val_assign rfl rfl) rfl rfl rfl (fun _ _ _ => trivial) ?_
          refine z_nil ?_
          obtain rfl := Option.some.inj H
          exact t_reach ((K _ () HJ trivial).weak (fun a ha => ha.cons rfl (ha.cons rfl (ha.cons rfl (ha.nil)))) (fun w hw => hw))
      ·
        replace H := HB
        clear HB
        obtain ⟨x3_2, rfl⟩ : ∃ x, x = s := ⟨_, rfl⟩
        try dsimp only at H
        change T 16 _ _ _
        refine t_fin ?_
        refine t_region (fun ops hops => ?_)
        clear hops
        refine z_val (v := .int .i64 x4) (val_move rfl rfl) rfl rfl rfl (fun _ _ _ => trivial) ?_
        obtain ⟨x8, hx8, H⟩ := Let_elim H
        refine z_val (v := .int .i64 x8) (by subst hx8; exact val_bin rfl rfl rfl rfl (i64_add _ _ _)) rfl rfl rfl (fun _ _ _ => trivial) ?_
        clear hx8
        refine z_val (v := .int .i64 x8) (val_assign rfl rfl) rfl rfl rfl (fun _ _ _ => trivial) ?_
        refine z_nil ?_
        obtain rfl := Option.some.inj H
        exact t_reach ((hn1 _ () rfl trivial).weak (fun a ha => ha.cons rfl (ha.cons rfl (ha.cons rfl (ha.nil)))) (fun w hw => hw))
  ·
    obtain ⟨x3, x4⟩ := s
    subst hzz
    have H := HK1
    clear HK1 hz1
    replace H := sum_l H
    try dsimp only at H
    change T 16 _ _ _
    refine t_seq ?_
    refine t_region (fun ops hops => ?_)
    clear hops
    refine z_val (v := .int .i64 x3) (val_move rfl rfl) rfl rfl rfl (fun _ _ _ => trivial) ?_
    refine z_val (v := .int .i64 x3) (val_assign rfl rfl) rfl rfl rfl (fun _ _ _ => trivial) ?_
    refine z_nil ?_
    refine t_ret ?_
    obtain rfl := Option.some.inj H
    exact ret1 rfl (res_tmp rfl) (fun _ hw => ⟨rfl, hw.below⟩)
def smithyref09_top (a0 : List (BitVec 8)) : Option (BitVec 64) :=
  (smithyref01_From a0).bind fun x5 => (smithyref01_D_Len x5).bind fun x6 => Let (x6 == 0) fun x8 => (bif x8 then some 0#64 else Let (wi (x6 - 1)) fun x10 => Let (BitVec.ofInt 64 x10) fun x11 => some x11)
set_option maxRecDepth 100000 in
theorem smithyref09_top.calls  (a0 : List (BitVec 8)) (A0 : Option Addr) (c0 : Nat) (r : BitVec 64) (H : smithyref09_top a0 = some r) (w : World) (hs0 : SlW w U8 A0 a0) (hc0 : a0.length ≤ c0)  :
    Made Try.prog 39 #[.slice A0 a0.length c0] w (U64 r) := by
  unfold smithyref09_top at H
  replace hs0 := hs0.toH
  have hM := Mm.start w (snap w) (snap_ok w)
  generalize snap w = h at *
  refine t_enter (vs := [.slice A0 a0.length c0]) (n := 12) Try.func39 rfl rfl rfl hM ?_
  clear hM
  change T 12 _ _ _
  refine t_seq ?_
  refine t_region (fun ops hops => ?_)
  clear hops
  refine z_val (v := .int .u64 0) (val_assign rfl rfl) rfl rfl rfl (fun _ _ _ => trivial) ?_
  refine z_nil ?_
  refine t_seq ?_
  refine t_region (fun ops hops => ?_)
  clear hops
  refine z_val (v := .slice A0 a0.length c0) (val_move rfl rfl) rfl rfl rfl (fun _ _ _ => trivial) ?_
  obtain ⟨x5, hx, H⟩ := Option.bind_eq_some_iff.1 H
  refine z_made (v := .agg (cV (Value.int .i64) x5).toArray) rfl Try.func53 nm53 bs53 rfl (fun w hw => smithyref01_From.calls a0 A0 c0 x5 hx w (hs0.toW hw) hc0) rfl rfl rfl (fun _ _ _ => trivial) ?_
  clear hx
  obtain ⟨x6, hx_1, H⟩ := Option.bind_eq_some_iff.1 H
  refine z_made (v := .int .i64 x6) rfl Try.func54 nm54 bs54 rfl (fun w hw => smithyref01_D_Len.calls x5 x6 hx_1 w) rfl rfl rfl (fun _ _ _ => trivial) ?_
  clear hx_1
  refine z_val (v := .int .i64 x6) (val_assign rfl rfl) rfl rfl rfl (fun _ _ _ => trivial) ?_
  refine z_nil ?_
  refine t_seq ?_
  refine t_seq ?_
  refine t_region (fun ops hops => ?_)
  clear hops
  refine z_val (v := .int .i64 x6) (val_move rfl rfl) rfl rfl rfl (fun _ _ _ => trivial) ?_
  obtain ⟨x8, hx8, H⟩ := Let_elim H
  refine z_val (v := .bool x8) (by subst hx8; exact val_bin rfl rfl rfl rfl (i64_eql _ _ _)) rfl rfl rfl (fun _ _ _ => trivial) ?_
  clear hx8
  refine z_nil ?_
  cases x8
  ·
    replace H := cond_f H
    refine t_cond_false rfl ?_
    refine t_skip ?_
    refine t_seq ?_
    refine t_region (fun ops hops => ?_)
    clear hops
    refine z_val (v := .int .i64 x6) (val_move rfl rfl) rfl rfl rfl (fun _ _ _ => trivial) ?_
    obtain ⟨x10, hx10, H⟩ := Let_elim H
    refine z_val (v := .int .i64 x10) (by subst hx10; exact val_bin rfl rfl rfl rfl (i64_sub _ _ _)) rfl rfl rfl (fun _ _ _ => trivial) ?_
    clear hx10
    obtain ⟨x11, hx11, H⟩ := Let_elim H
    refine z_val (v := U64 x11) (by subst hx11; exact val_conv rfl rfl (fun w => conv_int_u64 w _ _ .i64 _ (by rw [Try.underlying3]; rfl) Try.underlying38)) rfl rfl rfl (fun _ _ _ => trivial) ?_
    clear hx11
    refine z_val (v := U64 x11) (val_assign rfl rfl) rfl rfl rfl (fun _ _ _ => trivial) ?_
    refine z_nil ?_
    refine t_ret ?_
    obtain rfl := Option.some.inj H
    exact ret1 rfl (res_tmp rfl) (fun _ hw => ⟨rfl, hw.below⟩)
  ·
    replace H := cond_t H
    refine t_cond_true rfl ?_
    refine t_seq ?_
    refine t_region (fun ops hops => ?_)
    clear hops
    refine z_val (v := .int .u64 0) (val_assign rfl rfl) rfl rfl rfl (fun _ _ _ => trivial) ?_
    refine z_nil ?_
    refine t_ret ?_
    obtain rfl := Option.some.inj H
    exact ret1 rfl (res_tmp rfl) (fun _ hw => ⟨rfl, hw.below⟩)
def smithyref09_digits.b1  (x0 : BitVec 64) (x3 : List (Int)) : Option (Ctl ((BitVec 64) × (List (Int))) (List (Int))) :=
  Let (decide ((x0.toNat : Int) > 0)) fun x6 => (bif x6 then Let (x0 % 256#64) fun x9 => Let (IntKind.i64.wrap x9.toNat) fun x10 => Let ([x10]) fun x11 => Chk ((x3.length + x11.length) * 8 ≤ 140737488355328) <| Let (x3 ++ x11) fun x12 => Let (x0 / 256#64) fun x14 => some (.next (x14, x12)) else some (.brk (x0, x3)))
def smithyref09_digits (a0 : BitVec 64) : Option (List (Int)) :=
  Let (([] : List (Int))) fun x4 => (wlx (σ := (BitVec 64) × (List (Int))) (fun s => smithyref09_digits.b1 s.1 s.2) (a0, x4)).bind (Sum.elim (fun s => (fun x0 x3 => some x3) s.1 s.2) (fun r => some r))
set_option maxRecDepth 100000 in
theorem smithyref09_digits.calls  (a0 : BitVec 64) (r : List (Int)) (H : smithyref09_digits a0 = some r) (w : World)   :
    Calls Try.prog 40 #[U64 a0] w fun e w' => ∃ A c, e = .returned (.slice A r.length c) ∧ Below w.heap.size w w' ∧ OwnR w w' 3 (Value.int .i64) A c r := by
  unfold smithyref09_digits at H
  have hM := Mm.start w (snap w) (snap_ok w)
  generalize snap w = h at *
  refine t_enter (vs := [U64 a0]) (n := 16) Try.func40 rfl rfl rfl hM ?_
  clear hM
  change T 16 _ _ _
  refine t_seq ?_
  refine t_region (fun ops hops => ?_)
  clear hops
  refine z_val (v := .slice none 0 0) (val_assign rfl rfl) rfl rfl rfl (fun _ _ _ => trivial) ?_
  refine z_nil ?_
  refine t_seq ?_
  refine t_region (fun ops hops => ?_)
  clear hops
  obtain ⟨x4, hx4, H⟩ := Let_elim H
  have hlx4 : x4.length = 0 := by subst hx4; rfl
  refine z_buildSlice' (e := 3) (f := (Value.int .i64)) (xs := x4) (vs := []) rfl rfl (by subst hx4; intro w; kernel_rfl) hlx4 (by decide) rfl rfl rfl (fun _ _ _ _ => trivial) (fun g_1 hs_3 => ?_)
  clear hx4 hlx4
  refine z_val (v := .slice (some ⟨g_1, 0, none⟩) x4.length 0) (val_assign rfl rfl) rfl rfl rfl (fun _ _ _ => trivial) ?_
  refine z_nil ?_
  refine t_seq ?_
  refine t_block ?_
  obtain ⟨z1, hz1, HK1⟩ := Option.bind_eq_some_iff.1 H
  clear H
  refine t_while hz1 (fun (s : (BitVec 64) × (List (Int))) (g : (Option Addr) × (Nat)) => [(0, U64 s.1), (3, .slice g.1 s.2.length g.2)]) (fun (s : (BitVec 64) × (List (Int))) (g : (Option Addr) × (Nat)) => [(3, .slice g.1 s.2.length g.2)]) (fun (s : (BitVec 64) × (List (Int))) (g : (Option Addr) × (Nat)) => Mm w [] h [.row (.slice g.1 s.2.length g.2) 3 1 (s.2.map (Value.int .i64))]) (fun (s : (BitVec 64) × (List (Int))) (g : (Option Addr) × (Nat)) => Mm w [] h [.row (.slice g.1 s.2.length g.2) 3 1 (s.2.map (Value.int .i64))]) (fun (s : (BitVec 64) × (List (Int))) (g : (Option Addr) × (Nat)) => Shp g.1 s.2.length g.2) (fun (s : (BitVec 64) × (List (Int))) (g : (Option Addr) × (Nat)) => Shp g.1 s.2.length g.2) ⟨(some ⟨g_1, 0, none⟩), 0⟩ hs_3 (fun a w ha hw => ⟨ha.cons rfl (ha.cons rfl (ha.nil)), hw⟩) (fun Gn Gb s g e hφ H hn1 hb1 hr1 => ?_) (fun s g hzz hφ => ?_)
  ·
    obtain ⟨x0, x3⟩ := s
    obtain ⟨A_4, c_5⟩ := g
    try dsimp only at hφ
    have hs_6 := hφ; clear hφ
    change smithyref09_digits.b1 x0 x3 = some e at H
    unfold smithyref09_digits.b1 at H
    clear hz1
    change T 16 _ _ _
    refine t_seq ?_
    refine t_seq ?_
    refine t_region (fun ops hops => ?_)
    clear hops
    refine z_val (v := U64 x0) (val_move rfl rfl) rfl rfl rfl (fun _ _ _ => trivial) ?_
    obtain ⟨x6, hx6, H⟩ := Let_elim H
    refine z_val (v := .bool x6) (by subst hx6; exact val_bin rfl rfl rfl rfl (u64_gtr_r _ 0 x0)) rfl rfl rfl (fun _ _ _ => trivial) ?_
    clear hx6
    refine z_nil ?_
    cases x6
    ·
      replace H := cond_f H
      refine t_cond_false rfl ?_
      refine t_exit rfl ?_
      obtain rfl := Option.some.inj H
      exact t_reach ((hb1 _ ⟨A_4, c_5⟩ rfl hs_6).weak (fun a ha => ha.cons rfl (ha.nil)) (fun w hw => hw))
    ·
      replace H := cond_t H
      refine t_cond_true rfl ?_
      refine t_skip ?_
      refine t_block ?_
      refine t_seq ?_
      refine t_region (fun ops hops => ?_)
      clear hops
      refine z_val (v := .slice A_4 x3.length c_5) (val_move rfl rfl) rfl rfl rfl (fun _ _ _ => trivial) ?_
      refine z_val (v := U64 x0) (val_move rfl rfl) rfl rfl rfl (fun _ _ _ => trivial) ?_
      obtain ⟨x9, hx9, H⟩ := Let_elim H
      refine z_val (v := U64 x9) (by subst hx9; exact val_bin rfl rfl rfl rfl (u64_rem_r _ _ _ (by decide) (by decide))) rfl rfl rfl (fun _ _ _ => trivial) ?_
      clear hx9
      obtain ⟨x10, hx10, H⟩ := Let_elim H
      refine z_val (v := .int .i64 x10) (by subst hx10; exact val_conv rfl rfl (fun w => conv_u64_int w _ _ _ (by rw [Try.underlying38]; rfl) Try.underlying3)) rfl rfl rfl (fun _ _ _ => trivial) ?_
      clear hx10
      obtain ⟨x11, hx11, H⟩ := Let_elim H
      have hlx11 : x11.length = 1 := by subst hx11; rfl
      refine z_buildSlice' (e := 3) (f := (Value.int .i64)) (xs := x11) (vs := [(0, .int .i64 x10)]) rfl rfl (by subst hx11; intro w; kernel_rfl) hlx11 (by decide) rfl rfl rfl (fun _ _ _ _ => trivial) (fun g_7 hs_9 => ?_)
      clear hx11 hlx11
      obtain ⟨hq_10, H⟩ := Chk_elim H
      obtain ⟨x12, hx12, H⟩ := Let_elim H
      refine z_append (f := (Value.int .i64)) (j := 1) (xs := x3) (ys := x11) (zs := x12) rfl rfl Try.underlying31 in3 rfl rfl rfl rfl (fun w hw => (row_w hw (j := 0) rfl)) (fun _ => rfl) hq_10 (by decide) hx12 (fun A_11 c_12 => [.row (.slice (some ⟨g_7, 0, none⟩) x11.length 1) 3 1 (x11.map (Value.int .i64)), .row (.slice A_11 x12.length c_12) 3 1 (x12.map (Value.int .i64))]) (fun _ _ => rfl) rfl rfl rfl (fun _ _ _ _ _ => trivial) (fun A_11 c_12 hs_13 => ?_)
      clear hx12
      refine z_val (v := .slice A_11 x12.length c_12) (val_assign rfl rfl) rfl rfl rfl (fun _ _ _ => trivial) ?_
      refine z_nil ?_
      refine t_region (fun ops hops => ?_)
      clear hops
      refine z_val (v := U64 x0) (val_move rfl rfl) rfl rfl rfl (fun _ _ _ => trivial) ?_
      obtain ⟨x14, hx14, H⟩ := Let_elim H
      refine z_val (v := U64 x14) (by subst hx14; exact val_bin rfl rfl rfl rfl (u64_quo_r _ _ _ (by decide) (by decide))) rfl rfl rfl (fun _ _ _ => trivial) ?_
      clear hx14
      refine z_val (v := U64 x14) (val_assign rfl rfl) rfl rfl rfl (fun _ _ _ => trivial) ?_
      refine z_nil ?_
      refine t_fin ?_
      obtain rfl := Option.some.inj H
      exact t_reach ((hn1 _ ⟨A_11, c_12⟩ rfl hs_13).weak (fun a ha => ha.cons rfl (ha.cons rfl (ha.nil))) (fun w hw => hw.sel [1] rfl rfl))
  ·
    obtain ⟨x0, x3⟩ := s
    obtain ⟨A_4, c_5⟩ := g
    try dsimp only at hφ
    have hs_6 := hφ; clear hφ
    subst hzz
    have H := HK1
    clear HK1 hz1
    replace H := sum_l H
    try dsimp only at H
    change T 16 _ _ _
    refine t_seq ?_
    refine t_region (fun ops hops => ?_)
    clear hops
    refine z_val (v := .slice A_4 x3.length c_5) (val_move rfl rfl) rfl rfl rfl (fun _ _ _ => trivial) ?_
    refine z_val (v := .slice A_4 x3.length c_5) (val_assign rfl rfl) rfl rfl rfl (fun _ _ _ => trivial) ?_
    refine z_nil ?_
    refine t_ret ?_
    obtain rfl := Option.some.inj H
    exact ret1 rfl (res_tmp rfl) (fun _ hw => ⟨A_4, c_5, rfl, hw.below, (row_out hw (j := 0) rfl hs_6)⟩)
def smithyref09_Gas.b1 (x103 : (List (Int)) × (List (Int))) (x16 : BitVec 64) (x17 : Int) : Option (Ctl ((BitVec 64) × (Int)) (BitVec 64)) :=
  Let (decide (0 ≤ x17)) fun x116 => (bif x116 then Let (x16 * 256#64) fun x120 => Chk ((0 : Int) ≤ x17 ∧ x17 < (x103.1.length : Int)) <| Let (lget x103.1 x17.toNat) fun x124 => Let (BitVec.ofInt 64 x124) fun x125 => Let (x120 + x125) fun x126 => Let (wi (x17 - 1)) fun x118 => some (.next (x126, x118)) else some (.brk (x16, x17)))
def smithyref09_Gas (a0 : List (BitVec 8)) : Option (BitVec 64) :=
  (smithyref09_Length a0 0).bind fun x20 => (smithyref09_Length a0 1).bind fun x25 => (smithyref09_Length a0 2).bind fun x30 => (bif x20.2 then some x30.2 else some false).bind (fun x36 => (bif x36 then Let ((x20.1.toNat : Int) == 0) fun x39 => some x39 else some false).bind (fun x40 => (bif x40 then Let ((x30.1.toNat : Int) == 0) fun x43 => some x43 else some false).bind (fun x44 => (bif x44 then some 200#64 else Let (!x20.2) fun x46 => (bif x46 then some true else Let (!x25.2) fun x49 => some x49).bind (fun x50 => (bif x50 then some true else Let (!x30.2) fun x53 => some x53).bind (fun x54 => (bif x54 then some 18446744073709551615#64 else Let (([] : List (BitVec 8))) fun x56 => Let (decide ((x20.1.toNat : Int) < 1099511627776)) fun x58 => (bif x58 then Let (IntKind.i64.wrap x20.1.toNat) fun x61 => Let (wi (96 + x61)) fun x62 => Let (if (32#64).toNat < x25.1.toNat then (32#64) else x25.1) fun x64 => Let (IntKind.i64.wrap x64.toNat) fun x65 => (smithyref09_Part a0 x62 x65).bind fun x66 => some x66 else some x56).bind (fun (x10 : List (BitVec 8)) => (smithyref09_top x10).bind fun x68 => Let (if x20.1.toNat < x30.1.toNat then x30.1 else x20.1) fun x71 => Let (x71 / 8#64) fun x72 => Let (if x20.1.toNat < x30.1.toNat then x30.1 else x20.1) fun x75 => Let (x75 % 8#64) fun x76 => Let ((x76.toNat : Int) != 0) fun x77 => (bif x77 then Let (x72 + 1#64) fun x79 => some x79 else some x72).bind (fun (x12 : BitVec 64) => (smithyref09_digits x68).bind fun x81 => Let (decide ((x25.1.toNat : Int) > 32)) fun x83 => (bif x83 then Let (x25.1 - 32#64) fun x86 => (smithyref09_digits x86).bind fun x87 => (smithyref09_digits 8#64).bind fun x88 => (smithyref02_Times x87 x88).bind fun x89 => (smithyref02_Plus x81 x89).bind fun x90 => some x90 else some x81).bind (fun (x13 : List (Int)) => (smithyref02_Zero x13).bind fun x92 => (bif x92 then (smithyref09_digits 1#64).bind fun x93 => some x93 else some x13).bind (fun (x13_46 : List (Int)) => (smithyref09_digits x12).bind fun x96 => (smithyref09_digits x12).bind fun x98 => (smithyref02_Times x96 x98).bind fun x99 => (smithyref02_Times x99 x13_46).bind fun x101 => (smithyref09_digits 3#64).bind fun x102 => (smithyref02_Div x101 x102).bind fun x103 => (smithyref09_digits 18446744073709551615#64).bind fun x108 => (smithyref02_Less x103.1 x108).bind fun x109 => Let (!x109) fun x110 => (bif x110 then some 18446744073709551615#64 else Let ((x103.1.length : Int)) fun x113 => Let (wi (x113 - 1)) fun x114 => (wlx (σ := (BitVec 64) × (Int)) (fun s => smithyref09_Gas.b1 x103 s.1 s.2) (0#64, x114)).bind (Sum.elim (fun s => (fun x16 x17 => Let (if x16.toNat < (200#64).toNat then (200#64) else x16) fun x128 => some x128) s.1 s.2) (fun r => some r))))))))))))))
set_option maxRecDepth 100000 in
theorem smithyref09_Gas.calls  (a0 : List (BitVec 8)) (A0 : Option Addr) (c0 : Nat) (r : BitVec 64) (H : smithyref09_Gas a0 = some r) (w : World) (hs0 : SlW w U8 A0 a0) (hc0 : a0.length ≤ c0)  :
    Made Try.prog 18 #[.slice A0 a0.length c0] w (U64 r) := by
  unfold smithyref09_Gas at H
  replace hs0 := hs0.toH
  have hM := Mm.start w (snap w) (snap_ok w)
  generalize snap w = h at *
  refine t_enter (vs := [.slice A0 a0.length c0]) (n := 129) Try.func18 rfl rfl rfl hM ?_
  clear hM
  change T 129 _ _ _
  refine t_seq ?_
  refine t_region (fun ops hops => ?_)
  clear hops
  refine z_val (v := .int .u64 0) (val_assign rfl rfl) rfl rfl rfl (fun _ _ _ => trivial) ?_
  refine z_nil ?_
  refine t_seq ?_
  refine t_region (fun ops hops => ?_)
  clear hops
  refine z_val (v := .int .u64 18446744073709551615) (val_assign rfl rfl) rfl rfl rfl (fun _ _ _ => trivial) ?_
  refine z_nil ?_
  refine t_seq ?_
  refine t_region (fun ops hops => ?_)
  clear hops
  refine z_val (v := .slice A0 a0.length c0) (val_move rfl rfl) rfl rfl rfl (fun _ _ _ => trivial) ?_
  obtain ⟨x20, hx, H⟩ := Option.bind_eq_some_iff.1 H
  refine z_made (v := .tuple #[U64 x20.1, .bool x20.2]) rfl Try.func20 nm20 bs20 rfl (fun w hw => smithyref09_Length.calls a0 0 A0 c0 x20 hx w (hs0.toW hw) hc0) rfl rfl rfl (fun _ _ _ => trivial) ?_
  clear hx
  refine z_val (v := .tuple #[U64 x20.1, .bool x20.2]) (val_move rfl rfl) rfl rfl rfl (fun _ _ _ => trivial) ?_
  refine z_val (v := U64 x20.1) (val_extract rfl rfl rfl) rfl rfl rfl (fun _ _ _ => trivial) ?_
  refine z_val (v := .bool x20.2) (val_extract rfl rfl rfl) rfl rfl rfl (fun _ _ _ => trivial) ?_
  refine z_val (v := U64 x20.1) (val_assign rfl rfl) rfl rfl rfl (fun _ _ _ => trivial) ?_
  refine z_val (v := .bool x20.2) (val_assign rfl rfl) rfl rfl rfl (fun _ _ _ => trivial) ?_
  refine z_nil ?_
  refine t_seq ?_
  refine t_region (fun ops hops => ?_)
  clear hops
  refine z_val (v := .slice A0 a0.length c0) (val_move rfl rfl) rfl rfl rfl (fun _ _ _ => trivial) ?_
  obtain ⟨x25, hx_1, H⟩ := Option.bind_eq_some_iff.1 H
  refine z_made (v := .tuple #[U64 x25.1, .bool x25.2]) rfl Try.func20 nm20 bs20 rfl (fun w hw => smithyref09_Length.calls a0 1 A0 c0 x25 hx_1 w (hs0.toW hw) hc0) rfl rfl rfl (fun _ _ _ => trivial) ?_
  clear hx_1
  refine z_val (v := .tuple #[U64 x25.1, .bool x25.2]) (val_move rfl rfl) rfl rfl rfl (fun _ _ _ => trivial) ?_
  refine z_val (v := U64 x25.1) (val_extract rfl rfl rfl) rfl rfl rfl (fun _ _ _ => trivial) ?_
  refine z_val (v := .bool x25.2) (val_extract rfl rfl rfl) rfl rfl rfl (fun _ _ _ => trivial) ?_
  refine z_val (v := U64 x25.1) (val_assign rfl rfl) rfl rfl rfl (fun _ _ _ => trivial) ?_
  refine z_val (v := .bool x25.2) (val_assign rfl rfl) rfl rfl rfl (fun _ _ _ => trivial) ?_
  refine z_nil ?_
  refine t_seq ?_
  refine t_region (fun ops hops => ?_)
  clear hops
  refine z_val (v := .slice A0 a0.length c0) (val_move rfl rfl) rfl rfl rfl (fun _ _ _ => trivial) ?_
  obtain ⟨x30, hx_2, H⟩ := Option.bind_eq_some_iff.1 H
  refine z_made (v := .tuple #[U64 x30.1, .bool x30.2]) rfl Try.func20 nm20 bs20 rfl (fun w hw => smithyref09_Length.calls a0 2 A0 c0 x30 hx_2 w (hs0.toW hw) hc0) rfl rfl rfl (fun _ _ _ => trivial) ?_
  clear hx_2
  refine z_val (v := .tuple #[U64 x30.1, .bool x30.2]) (val_move rfl rfl) rfl rfl rfl (fun _ _ _ => trivial) ?_
  refine z_val (v := U64 x30.1) (val_extract rfl rfl rfl) rfl rfl rfl (fun _ _ _ => trivial) ?_
  refine z_val (v := .bool x30.2) (val_extract rfl rfl rfl) rfl rfl rfl (fun _ _ _ => trivial) ?_
  refine z_val (v := U64 x30.1) (val_assign rfl rfl) rfl rfl rfl (fun _ _ _ => trivial) ?_
  refine z_val (v := .bool x30.2) (val_assign rfl rfl) rfl rfl rfl (fun _ _ _ => trivial) ?_
  refine z_nil ?_
  refine t_seq ?_
  refine t_seq ?_
  refine t_region (fun ops hops => ?_)
  refine z_val (v := .bool x20.2) (val_move rfl rfl) rfl rfl rfl (fun _ _ _ => trivial) ?_
  refine z_val (v := .bool x20.2) (val_move rfl rfl) rfl rfl rfl (fun _ _ _ => trivial) ?_
  refine z_bind H 2 (fun (s : Bool) (_ : Unit) => [(0, .slice A0 a0.length c0), (3, .int .u64 18446744073709551615), (4, U64 x20.1), (5, .bool x20.2), (6, U64 x25.1), (7, .bool x25.2), (8, U64 x30.1), (9, .bool x30.2), (36, .bool s)]) (fun _ _ => Mm w [] h []) (fun _ _ => True) (fun Gr K s he HJ => ?_) (fun s g HB _ => ?_)
  ·
    clear H
    generalize x20.2 = bb at *
    cases bb
    ·
      have H := cond_f he
      clear he
      refine z_skip rfl rfl (by rw [hops]; rfl) (fun _ _ _ => trivial) ?_
      refine z_val (v := .bool false) (val_pick rfl rfl rfl) rfl rfl rfl (fun _ _ _ => trivial) ?_
      obtain rfl := Option.some.inj H
      exact z_nil ((K _ () HJ trivial).weak (fun a ha => ha.cons rfl (ha.cons rfl (ha.cons rfl (ha.cons rfl (ha.cons rfl (ha.cons rfl (ha.cons rfl (ha.cons rfl (ha.cons rfl (ha.nil)))))))))) (fun w hw => hw))
    ·
      have H := cond_t he
      clear he
      refine z_val (v := .bool x30.2) (val_move rfl rfl) rfl rfl (by rw [hops]; rfl) (fun _ _ _ => trivial) ?_
      refine z_val (v := .bool x30.2) (val_pick rfl rfl rfl) rfl rfl rfl (fun _ _ _ => trivial) ?_
      obtain rfl := Option.some.inj H
      exact z_nil ((K _ () HJ trivial).weak (fun a ha => ha.cons rfl (ha.cons rfl (ha.cons rfl (ha.cons rfl (ha.cons rfl (ha.cons rfl (ha.cons rfl (ha.cons rfl (ha.cons rfl (ha.nil)))))))))) (fun w hw => hw))
  ·
    replace H := HB
    clear HB
    obtain ⟨x36, rfl⟩ : ∃ x, x = s := ⟨_, rfl⟩
    change T 129 _ _ _
    refine z_val (v := .bool x36) (val_move rfl rfl) rfl rfl rfl (fun _ _ _ => trivial) ?_
    refine z_bind H 3 (fun (s : Bool) (_ : Unit) => [(0, .slice A0 a0.length c0), (3, .int .u64 18446744073709551615), (4, U64 x20.1), (5, .bool x20.2), (6, U64 x25.1), (7, .bool x25.2), (8, U64 x30.1), (9, .bool x30.2), (40, .bool s)]) (fun _ _ => Mm w [] h []) (fun _ _ => True) (fun Gr K s he HJ => ?_) (fun s g HB _ => ?_)
    ·
      clear H
      cases x36
      ·
        have H := cond_f he
        clear he
        refine z_skip rfl rfl (by rw [hops]; rfl) (fun _ _ _ => trivial) ?_
        refine z_skip rfl rfl (by rw [hops]; rfl) (fun _ _ _ => trivial) ?_
        refine z_val (v := .bool false) (val_pick rfl rfl rfl) rfl rfl rfl (fun _ _ _ => trivial) ?_
        obtain rfl := Option.some.inj H
        exact z_nil ((K _ () HJ trivial).weak (fun a ha => ha.cons rfl (ha.cons rfl (ha.cons rfl (ha.cons rfl (ha.cons rfl (ha.cons rfl (ha.cons rfl (ha.cons rfl (ha.cons rfl (ha.nil)))))))))) (fun w hw => hw))
      ·
        have H := cond_t he
        clear he
        refine z_val (v := U64 x20.1) (val_move rfl rfl) rfl rfl (by rw [hops]; rfl) (fun _ _ _ => trivial) ?_
        obtain ⟨x39, hx39, H⟩ := Let_elim H
        refine z_val (v := .bool x39) (by subst hx39; exact val_bin rfl rfl rfl rfl (u64_eql_r _ 0 x20.1)) rfl rfl (by rw [hops]; rfl) (fun _ _ _ => trivial) ?_
        clear hx39
        refine z_val (v := .bool x39) (val_pick rfl rfl rfl) rfl rfl rfl (fun _ _ _ => trivial) ?_
        obtain rfl := Option.some.inj H
        exact z_nil ((K _ () HJ trivial).weak (fun a ha => ha.cons rfl (ha.cons rfl (ha.cons rfl (ha.cons rfl (ha.cons rfl (ha.cons rfl (ha.cons rfl (ha.cons rfl (ha.cons rfl (ha.nil)))))))))) (fun w hw => hw))
    ·
      replace H := HB
      clear HB
      obtain ⟨x40, rfl⟩ : ∃ x, x = s := ⟨_, rfl⟩
      change T 129 _ _ _
      refine z_val (v := .bool x40) (val_move rfl rfl) rfl rfl rfl (fun _ _ _ => trivial) ?_
      refine z_bind H 3 (fun (s : Bool) (_ : Unit) => [(0, .slice A0 a0.length c0), (3, .int .u64 18446744073709551615), (4, U64 x20.1), (5, .bool x20.2), (6, U64 x25.1), (7, .bool x25.2), (8, U64 x30.1), (9, .bool x30.2), (44, .bool s)]) (fun _ _ => Mm w [] h []) (fun _ _ => True) (fun Gr K s he HJ => ?_) (fun s g HB _ => ?_)
      ·
        clear H
        cases x40
        ·
          have H := cond_f he
          clear he
          refine z_skip rfl rfl (by rw [hops]; rfl) (fun _ _ _ => trivial) ?_
          refine z_skip rfl rfl (by rw [hops]; rfl) (fun _ _ _ => trivial) ?_
          refine z_val (v := .bool false) (val_pick rfl rfl rfl) rfl rfl rfl (fun _ _ _ => trivial) ?_
          obtain rfl := Option.some.inj H
          exact z_nil ((K _ () HJ trivial).weak (fun a ha => ha.cons rfl (ha.cons rfl (ha.cons rfl (ha.cons rfl (ha.cons rfl (ha.cons rfl (ha.cons rfl (ha.cons rfl (ha.cons rfl (ha.nil)))))))))) (fun w hw => hw))
        ·
          have H := cond_t he
          clear he
          refine z_val (v := U64 x30.1) (val_move rfl rfl) rfl rfl (by rw [hops]; rfl) (fun _ _ _ => trivial) ?_
          obtain ⟨x43, hx43, H⟩ := Let_elim H
          refine z_val (v := .bool x43) (by subst hx43; exact val_bin rfl rfl rfl rfl (u64_eql_r _ 0 x30.1)) rfl rfl (by rw [hops]; rfl) (fun _ _ _ => trivial) ?_
          clear hx43
          refine z_val (v := .bool x43) (val_pick rfl rfl rfl) rfl rfl rfl (fun _ _ _ => trivial) ?_
          obtain rfl := Option.some.inj H
          exact z_nil ((K _ () HJ trivial).weak (fun a ha => ha.cons rfl (ha.cons rfl (ha.cons rfl (ha.cons rfl (ha.cons rfl (ha.cons rfl (ha.cons rfl (ha.cons rfl (ha.cons rfl (ha.nil)))))))))) (fun w hw => hw))
      ·
        replace H := HB
        clear HB
        obtain ⟨x44, rfl⟩ : ∃ x, x = s := ⟨_, rfl⟩
        change T 129 _ _ _
        refine z_nil ?_
        cases x44
        ·
          replace H := cond_f H
          refine t_cond_false rfl ?_
          refine t_skip ?_
          refine t_seq ?_
          refine t_seq ?_
          refine t_region (fun ops hops => ?_)
          refine z_val (v := .bool x20.2) (val_move rfl rfl) rfl rfl rfl (fun _ _ _ => trivial) ?_
          obtain ⟨x46, hx46, H⟩ := Let_elim H
          refine z_val (v := .bool x46) (by subst hx46; exact val_un rfl rfl (bool_not _)) rfl rfl rfl (fun _ _ _ => trivial) ?_
          clear hx46
          refine z_val (v := .bool x46) (val_move rfl rfl) rfl rfl rfl (fun _ _ _ => trivial) ?_
          refine z_bind H 3 (fun (s : Bool) (_ : Unit) => [(0, .slice A0 a0.length c0), (3, .int .u64 18446744073709551615), (4, U64 x20.1), (6, U64 x25.1), (8, U64 x30.1), (9, .bool x30.2), (50, .bool s)]) (fun _ _ => Mm w [] h []) (fun _ _ => True) (fun Gr K s he HJ => ?_) (fun s g HB _ => ?_)
          ·
            clear H
            cases x46
            ·
              have H := cond_f he
              clear he
              refine z_val (v := .bool x25.2) (val_move rfl rfl) rfl rfl (by rw [hops]; rfl) (fun _ _ _ => trivial) ?_
              obtain ⟨x49, hx49, H⟩ := Let_elim H
              refine z_val (v := .bool x49) (by subst hx49; exact val_un rfl rfl (bool_not _)) rfl rfl (by rw [hops]; rfl) (fun _ _ _ => trivial) ?_
              clear hx49
              refine z_val (v := .bool x49) (val_pick rfl rfl rfl) rfl rfl rfl (fun _ _ _ => trivial) ?_
              obtain rfl := Option.some.inj H
              exact z_nil ((K _ () HJ trivial).weak (fun a ha => ha.cons rfl (ha.cons rfl (ha.cons rfl (ha.cons rfl (ha.cons rfl (ha.cons rfl (ha.cons rfl (ha.nil)))))))) (fun w hw => hw))
            ·
              have H := cond_t he
              clear he
              refine z_skip rfl rfl (by rw [hops]; rfl) (fun _ _ _ => trivial) ?_
              refine z_skip rfl rfl (by rw [hops]; rfl) (fun _ _ _ => trivial) ?_
              refine z_val (v := .bool true) (val_pick rfl rfl rfl) rfl rfl rfl (fun _ _ _ => trivial) ?_
              obtain rfl := Option.some.inj H
              exact z_nil ((K _ () HJ trivial).weak (fun a ha => ha.cons rfl (ha.cons rfl (ha.cons rfl (ha.cons rfl (ha.cons rfl (ha.cons rfl (ha.cons rfl (ha.nil)))))))) (fun w hw => hw))
          ·
            replace H := HB
            clear HB
            obtain ⟨x50, rfl⟩ : ∃ x, x = s := ⟨_, rfl⟩
            change T 129 _ _ _
            refine z_val (v := .bool x50) (val_move rfl rfl) rfl rfl rfl (fun _ _ _ => trivial) ?_
            refine z_bind H 3 (fun (s : Bool) (_ : Unit) => [(0, .slice A0 a0.length c0), (3, .int .u64 18446744073709551615), (4, U64 x20.1), (6, U64 x25.1), (8, U64 x30.1), (54, .bool s)]) (fun _ _ => Mm w [] h []) (fun _ _ => True) (fun Gr K s he HJ => ?_) (fun s g HB _ => ?_)
            ·
              clear H
              cases x50
              ·
                have H := cond_f he
                clear he
                refine z_val (v := .bool x30.2) (val_move rfl rfl) rfl rfl (by rw [hops]; rfl) (fun _ _ _ => trivial) ?_
                obtain ⟨x53, hx53, H⟩ := Let_elim H
                refine z_val (v := .bool x53) (by subst hx53; exact val_un rfl rfl (bool_not _)) rfl rfl (by rw [hops]; rfl) (fun _ _ _ => trivial) ?_
                clear hx53
                refine z_val (v := .bool x53) (val_pick rfl rfl rfl) rfl rfl rfl (fun _ _ _ => trivial) ?_
                obtain rfl := Option.some.inj H
                exact z_nil ((K _ () HJ trivial).weak (fun a ha => ha.cons rfl (ha.cons rfl (ha.cons rfl (ha.cons rfl (ha.cons rfl (ha.cons rfl (ha.nil))))))) (fun w hw => hw))
              ·
                have H := cond_t he
                clear he
                refine z_skip rfl rfl (by rw [hops]; rfl) (fun _ _ _ => trivial) ?_
                refine z_skip rfl rfl (by rw [hops]; rfl) (fun _ _ _ => trivial) ?_
                refine z_val (v := .bool true) (val_pick rfl rfl rfl) rfl rfl rfl (fun _ _ _ => trivial) ?_
                obtain rfl := Option.some.inj H
                exact z_nil ((K _ () HJ trivial).weak (fun a ha => ha.cons rfl (ha.cons rfl (ha.cons rfl (ha.cons rfl (ha.cons rfl (ha.cons rfl (ha.nil))))))) (fun w hw => hw))
            ·
              replace H := HB
              clear HB
              obtain ⟨x54, rfl⟩ : ∃ x, x = s := ⟨_, rfl⟩
              change T 129 _ _ _
              refine z_nil ?_
              cases x54
              ·
                replace H := cond_f H
                refine t_cond_false rfl ?_
                refine t_skip ?_
                refine t_seq ?_
                refine t_region (fun ops hops => ?_)
                clear hops
                obtain ⟨x56, hx56, H⟩ := Let_elim H
                have hlx56 : x56.length = 0 := by subst hx56; rfl
                refine z_buildSlice' (e := 5) (f := U8) (xs := x56) (vs := []) rfl rfl (by subst hx56; intro w; kernel_rfl) hlx56 (by decide) rfl rfl rfl (fun _ _ _ _ => trivial) (fun g_3 hs_5 => ?_)
                clear hx56 hlx56
                refine z_val (v := .slice (some ⟨g_3, 0, none⟩) x56.length 0) (val_assign rfl rfl) rfl rfl rfl (fun _ _ _ => trivial) ?_
                refine z_nil ?_
                refine t_seq ?_
                refine t_seq ?_
                refine t_region (fun ops hops => ?_)
                clear hops
                refine z_val (v := U64 x20.1) (val_move rfl rfl) rfl rfl rfl (fun _ _ _ => trivial) ?_
                obtain ⟨x58, hx58, H⟩ := Let_elim H
                refine z_val (v := .bool x58) (by rw [hx58]; exact val_bin rfl rfl rfl rfl (u64_lss_r _ 1099511627776 x20.1)) rfl rfl rfl (fun _ _ _ => trivial) ?_
                clear hx58
                refine z_nil ?_
                refine t_bind H (fun (s : (List (BitVec 8))) (g : (Option Addr) × (Nat)) => [(3, .int .u64 18446744073709551615), (4, U64 x20.1), (6, U64 x25.1), (8, U64 x30.1), (10, .slice g.1 s.length g.2)]) (fun (s : (List (BitVec 8))) (g : (Option Addr) × (Nat)) => Mm w [] h [.row (.slice g.1 s.length g.2) 5 1 (s.map U8)]) (fun (s : (List (BitVec 8))) (g : (Option Addr) × (Nat)) => Shp g.1 s.length g.2) (fun Gr K s he HJ => ?_) (fun s g HB hφ => ?_)
                ·
                  clear H
                  cases x58
                  ·
                    have H := cond_f he
                    clear he
                    refine t_cond_false rfl ?_
                    refine t_skip ?_
                    obtain rfl := Option.some.inj H
                    exact t_reach ((K _ ⟨(some ⟨g_3, 0, none⟩), 0⟩ HJ hs_5).weak (fun a ha => ha.cons rfl (ha.cons rfl (ha.cons rfl (ha.cons rfl (ha.cons rfl (ha.nil)))))) (fun w hw => hw))
                  ·
                    have H := cond_t he
                    clear he
                    refine t_cond_true rfl ?_
                    refine t_region (fun ops hops => ?_)
                    clear hops
                    refine z_val (v := .slice A0 a0.length c0) (val_move rfl rfl) rfl rfl rfl (fun _ _ _ => trivial) ?_
                    refine z_val (v := U64 x20.1) (val_move rfl rfl) rfl rfl rfl (fun _ _ _ => trivial) ?_
                    obtain ⟨x61, hx61, H⟩ := Let_elim H
                    refine z_val (v := .int .i64 x61) (by subst hx61; exact val_conv rfl rfl (fun w => conv_u64_int w _ _ _ (by rw [Try.underlying38]; rfl) Try.underlying3)) rfl rfl rfl (fun _ _ _ => trivial) ?_
                    clear hx61
                    obtain ⟨x62, hx62, H⟩ := Let_elim H
                    refine z_val (v := .int .i64 x62) (by subst hx62; exact val_bin rfl rfl rfl rfl (i64_add _ _ _)) rfl rfl rfl (fun _ _ _ => trivial) ?_
                    clear hx62
                    refine z_val (v := U64 x25.1) (val_move rfl rfl) rfl rfl rfl (fun _ _ _ => trivial) ?_
                    obtain ⟨x64, hx64, H⟩ := Let_elim H
                    refine z_val (v := U64 x64) (by subst hx64; exact val_minU (f := U64) (kk := .u64) rfl rfl (fun _ => rfl) rfl) rfl rfl rfl (fun _ _ _ => trivial) ?_
                    clear hx64
                    obtain ⟨x65, hx65, H⟩ := Let_elim H
                    refine z_val (v := .int .i64 x65) (by subst hx65; exact val_conv rfl rfl (fun w => conv_u64_int w _ _ _ (by rw [Try.underlying38]; rfl) Try.underlying3)) rfl rfl rfl (fun _ _ _ => trivial) ?_
                    clear hx65
                    obtain ⟨x66, hx_10, H⟩ := Option.bind_eq_some_iff.1 H
                    refine z_madeS (F := fun A_11 c_12 => .slice A_11 x66.length c_12) (xs := x66) rfl Try.func21 nm21 bs21 rfl (fun w hw => smithyref09_Part.calls a0 x62 x65 A0 c0 x66 hx_10 w (hs0.toW hw) hc0) rfl rfl rfl (fun _ _ _ _ _ => trivial) (fun A_11 c_12 hs_13 => ?_)
                    clear hx_10
                    refine z_val (v := .slice A_11 x66.length c_12) (val_assign rfl rfl) rfl rfl rfl (fun _ _ _ => trivial) ?_
                    refine z_nil ?_
                    obtain rfl := Option.some.inj H
                    exact t_reach ((K _ ⟨A_11, c_12⟩ HJ hs_13).weak (fun a ha => ha.cons rfl (ha.cons rfl (ha.cons rfl (ha.cons rfl (ha.cons rfl (ha.nil)))))) (fun w hw => hw.sel [0] rfl rfl))
                ·
                  replace H := HB
                  clear HB
                  obtain ⟨x10, rfl⟩ : ∃ x, x = s := ⟨_, rfl⟩
                  obtain ⟨A_6, c_7⟩ := g
                  try dsimp only at hφ
                  have hs_8 := hφ; clear hφ
                  try dsimp only at H
                  change T 129 _ _ _
                  refine t_seq ?_
                  refine t_region (fun ops hops => ?_)
                  clear hops
                  refine z_val (v := .slice A_6 x10.length c_7) (val_move rfl rfl) rfl rfl rfl (fun _ _ _ => trivial) ?_
                  obtain ⟨x68, hx_15, H⟩ := Option.bind_eq_some_iff.1 H
                  refine z_made (v := U64 x68) rfl Try.func39 nm39 bs39 rfl (fun w hw => smithyref09_top.calls x10 A_6 c_7 x68 hx_15 w (row_w hw (j := 0) rfl) hs_8.le) rfl rfl rfl (fun _ _ _ => trivial) ?_
                  clear hx_15
                  refine z_val (v := U64 x68) (val_assign rfl rfl) rfl rfl rfl (fun _ _ _ => trivial) ?_
                  refine z_nil ?_
                  refine t_seq ?_
                  refine t_region (fun ops hops => ?_)
                  clear hops
                  refine z_val (v := U64 x20.1) (val_move rfl rfl) rfl rfl rfl (fun _ _ _ => trivial) ?_
                  refine z_val (v := U64 x30.1) (val_move rfl rfl) rfl rfl rfl (fun _ _ _ => trivial) ?_
                  obtain ⟨x71, hx71, H⟩ := Let_elim H
                  refine z_val (v := U64 x71) (by subst hx71; exact val_maxU (f := U64) (kk := .u64) rfl rfl (fun _ => rfl) rfl) rfl rfl rfl (fun _ _ _ => trivial) ?_
                  clear hx71
                  obtain ⟨x72, hx72, H⟩ := Let_elim H
                  refine z_val (v := U64 x72) (by subst hx72; exact val_bin rfl rfl rfl rfl (u64_quo_r _ _ _ (by decide) (by decide))) rfl rfl rfl (fun _ _ _ => trivial) ?_
                  clear hx72
                  refine z_val (v := U64 x72) (val_assign rfl rfl) rfl rfl rfl (fun _ _ _ => trivial) ?_
                  refine z_nil ?_
                  refine t_seq ?_
                  refine t_seq ?_
                  refine t_region (fun ops hops => ?_)
                  clear hops
                  refine z_val (v := U64 x20.1) (val_move rfl rfl) rfl rfl rfl (fun _ _ _ => trivial) ?_
                  refine z_val (v := U64 x30.1) (val_move rfl rfl) rfl rfl rfl (fun _ _ _ => trivial) ?_
                  obtain ⟨x75, hx75, H⟩ := Let_elim H
                  refine z_val (v := U64 x75) (by subst hx75; exact val_maxU (f := U64) (kk := .u64) rfl rfl (fun _ => rfl) rfl) rfl rfl rfl (fun _ _ _ => trivial) ?_
                  clear hx75
                  obtain ⟨x76, hx76, H⟩ := Let_elim H
                  refine z_val (v := U64 x76) (by subst hx76; exact val_bin rfl rfl rfl rfl (u64_rem_r _ _ _ (by decide) (by decide))) rfl rfl rfl (fun _ _ _ => trivial) ?_
                  clear hx76
                  obtain ⟨x77, hx77, H⟩ := Let_elim H
                  refine z_val (v := .bool x77) (by subst hx77; exact val_bin rfl rfl rfl rfl (u64_neq_r _ 0 x76)) rfl rfl rfl (fun _ _ _ => trivial) ?_
                  clear hx77
                  refine z_nil ?_
                  refine t_bind H (fun (s : (BitVec 64)) (g : Unit) => [(3, .int .u64 18446744073709551615), (6, U64 x25.1), (11, U64 x68), (12, U64 s)]) (fun (s : (BitVec 64)) (g : Unit) => Mm w [] h []) (fun (s : (BitVec 64)) (g : Unit) => True) (fun Gr K s he HJ => ?_) (fun s g HB hφ => ?_)
                  ·
                    clear H
                    cases x77
                    ·
                      have H := cond_f he
                      clear he
                      refine t_cond_false rfl ?_
                      refine t_skip ?_
                      obtain rfl := Option.some.inj H
                      exact t_reach ((K _ () HJ trivial).weak (fun a ha => ha.cons rfl (ha.cons rfl (ha.cons rfl (ha.cons rfl (ha.nil))))) (fun w hw => hw.sel [] rfl rfl))
                    ·
                      have H := cond_t he
                      clear he
                      refine t_cond_true rfl ?_
                      refine t_region (fun ops hops => ?_)
                      clear hops
                      refine z_val (v := U64 x72) (val_move rfl rfl) rfl rfl rfl (fun _ _ _ => trivial) ?_
                      obtain ⟨x79, hx79, H⟩ := Let_elim H
                      refine z_val (v := U64 x79) (by subst hx79; exact val_bin rfl rfl rfl rfl (u64_add_r _ _ _)) rfl rfl rfl (fun _ _ _ => trivial) ?_
                      clear hx79
                      refine z_val (v := U64 x79) (val_assign rfl rfl) rfl rfl rfl (fun _ _ _ => trivial) ?_
                      refine z_nil ?_
                      obtain rfl := Option.some.inj H
                      exact t_reach ((K _ () HJ trivial).weak (fun a ha => ha.cons rfl (ha.cons rfl (ha.cons rfl (ha.cons rfl (ha.nil))))) (fun w hw => hw.sel [] rfl rfl))
                  ·
                    replace H := HB
                    clear HB
                    obtain ⟨x12, rfl⟩ : ∃ x, x = s := ⟨_, rfl⟩
                    try dsimp only at H
                    change T 129 _ _ _
                    refine t_seq ?_
                    refine t_region (fun ops hops => ?_)
                    clear hops
                    refine z_val (v := U64 x68) (val_move rfl rfl) rfl rfl rfl (fun _ _ _ => trivial) ?_
                    obtain ⟨x81, hx_16, H⟩ := Option.bind_eq_some_iff.1 H
                    refine z_madeS (F := fun A_17 c_18 => .slice A_17 x81.length c_18) (xs := x81) rfl Try.func40 nm40 bs40 rfl (fun w hw => smithyref09_digits.calls x68 x81 hx_16 w) rfl rfl rfl (fun _ _ _ _ _ => trivial) (fun A_17 c_18 hs_19 => ?_)
                    clear hx_16
                    refine z_val (v := .slice A_17 x81.length c_18) (val_assign rfl rfl) rfl rfl rfl (fun _ _ _ => trivial) ?_
                    refine z_nil ?_
                    refine t_seq ?_
                    refine t_seq ?_
                    refine t_region (fun ops hops => ?_)
                    clear hops
                    refine z_val (v := U64 x25.1) (val_move rfl rfl) rfl rfl rfl (fun _ _ _ => trivial) ?_
                    obtain ⟨x83, hx83, H⟩ := Let_elim H
                    refine z_val (v := .bool x83) (by subst hx83; exact val_bin rfl rfl rfl rfl (u64_gtr_r _ 32 x25.1)) rfl rfl rfl (fun _ _ _ => trivial) ?_
                    clear hx83
                    refine z_nil ?_
                    refine t_bind H (fun (s : (List (Int))) (g : (Option Addr) × (Nat)) => [(3, .int .u64 18446744073709551615), (12, U64 x12), (13, .slice g.1 s.length g.2)]) (fun (s : (List (Int))) (g : (Option Addr) × (Nat)) => Mm w [] h [.row (.slice g.1 s.length g.2) 3 1 (s.map (Value.int .i64))]) (fun (s : (List (Int))) (g : (Option Addr) × (Nat)) => Shp g.1 s.length g.2) (fun Gr K s he HJ => ?_) (fun s g HB hφ => ?_)
                    ·
                      clear H
                      cases x83
                      ·
                        have H := cond_f he
                        clear he
                        refine t_cond_false rfl ?_
                        refine t_skip ?_
                        obtain rfl := Option.some.inj H
                        exact t_reach ((K _ ⟨A_17, c_18⟩ HJ hs_19).weak (fun a ha => ha.cons rfl (ha.cons rfl (ha.cons rfl (ha.nil)))) (fun w hw => hw))
                      ·
                        have H := cond_t he
                        clear he
                        refine t_cond_true rfl ?_
                        refine t_region (fun ops hops => ?_)
                        clear hops
                        refine z_val (v := .slice A_17 x81.length c_18) (val_move rfl rfl) rfl rfl rfl (fun _ _ _ => trivial) ?_
                        refine z_val (v := U64 x25.1) (val_move rfl rfl) rfl rfl rfl (fun _ _ _ => trivial) ?_
                        obtain ⟨x86, hx86, H⟩ := Let_elim H
                        refine z_val (v := U64 x86) (by subst hx86; exact val_bin rfl rfl rfl rfl (u64_sub_r _ _ _)) rfl rfl rfl (fun _ _ _ => trivial) ?_
                        clear hx86
                        obtain ⟨x87, hx_25, H⟩ := Option.bind_eq_some_iff.1 H
                        refine z_madeS (F := fun A_26 c_27 => .slice A_26 x87.length c_27) (xs := x87) rfl Try.func40 nm40 bs40 rfl (fun w hw => smithyref09_digits.calls x86 x87 hx_25 w) rfl rfl rfl (fun _ _ _ _ _ => trivial) (fun A_26 c_27 hs_28 => ?_)
                        clear hx_25
                        obtain ⟨x88, hx_30, H⟩ := Option.bind_eq_some_iff.1 H
                        refine z_madeS (F := fun A_31 c_32 => .slice A_31 x88.length c_32) (xs := x88) rfl Try.func40 nm40 bs40 rfl (fun w hw => smithyref09_digits.calls 8#64 x88 hx_30 w) rfl rfl rfl (fun _ _ _ _ _ => trivial) (fun A_31 c_32 hs_33 => ?_)
                        clear hx_30
                        obtain ⟨x89, hx_35, H⟩ := Option.bind_eq_some_iff.1 H
                        refine z_madeS (F := fun A_36 c_37 => .slice A_36 x89.length c_37) (xs := x89) rfl Try.func27 nm27 bs27 rfl (fun w hw => smithyref02_Times.calls x87 x88 A_26 c_27 A_31 c_32 x89 hx_35 w (row_w hw (j := 1) rfl) hs_28.le (row_w hw (j := 0) rfl) hs_33.le) rfl rfl rfl (fun _ _ _ _ _ => trivial) (fun A_36 c_37 hs_38 => ?_)
                        clear hx_35
                        obtain ⟨x90, hx_40, H⟩ := Option.bind_eq_some_iff.1 H
                        refine z_madeS (F := fun A_41 c_42 => .slice A_41 x90.length c_42) (xs := x90) rfl Try.func41 nm41 bs41 rfl (fun w hw => smithyref02_Plus.calls x81 x89 A_17 c_18 A_36 c_37 x90 hx_40 w (row_w hw (j := 3) rfl) hs_19.le (row_w hw (j := 0) rfl) hs_38.le) rfl rfl rfl (fun _ _ _ _ _ => trivial) (fun A_41 c_42 hs_43 => ?_)
                        clear hx_40
                        refine z_val (v := .slice A_41 x90.length c_42) (val_assign rfl rfl) rfl rfl rfl (fun _ _ _ => trivial) ?_
                        refine z_nil ?_
                        obtain rfl := Option.some.inj H
                        exact t_reach ((K _ ⟨A_41, c_42⟩ HJ hs_43).weak (fun a ha => ha.cons rfl (ha.cons rfl (ha.cons rfl (ha.nil)))) (fun w hw => hw.sel [0] rfl rfl))
                    ·
                      replace H := HB
                      clear HB
                      obtain ⟨x13, rfl⟩ : ∃ x, x = s := ⟨_, rfl⟩
                      obtain ⟨A_21, c_22⟩ := g
                      try dsimp only at hφ
                      have hs_23 := hφ; clear hφ
                      try dsimp only at H
                      change T 129 _ _ _
                      refine t_seq ?_
                      refine t_seq ?_
                      refine t_region (fun ops hops => ?_)
                      clear hops
                      refine z_val (v := .slice A_21 x13.length c_22) (val_move rfl rfl) rfl rfl rfl (fun _ _ _ => trivial) ?_
                      obtain ⟨x92, hx_45, H⟩ := Option.bind_eq_some_iff.1 H
                      refine z_made (v := .bool x92) rfl Try.func13 nm13 bs13 rfl (fun w hw => smithyref02_Zero.calls x13 A_21 c_22 x92 hx_45 w (row_w hw (j := 0) rfl) hs_23.le) rfl rfl rfl (fun _ _ _ => trivial) ?_
                      clear hx_45
                      refine z_nil ?_
                      refine t_bind H (fun (s : (List (Int))) (g : (Option Addr) × (Nat)) => [(3, .int .u64 18446744073709551615), (12, U64 x12), (13, .slice g.1 s.length g.2)]) (fun (s : (List (Int))) (g : (Option Addr) × (Nat)) => Mm w [] h [.row (.slice g.1 s.length g.2) 3 1 (s.map (Value.int .i64))]) (fun (s : (List (Int))) (g : (Option Addr) × (Nat)) => Shp g.1 s.length g.2) (fun Gr K s he HJ => ?_) (fun s g HB hφ => ?_)
                      ·
                        clear H
                        cases x92
                        ·
                          have H := cond_f he
                          clear he
                          refine t_cond_false rfl ?_
                          refine t_skip ?_
                          obtain rfl := Option.some.inj H
                          exact t_reach ((K _ ⟨A_21, c_22⟩ HJ hs_23).weak (fun a ha => ha.cons rfl (ha.cons rfl (ha.cons rfl (ha.nil)))) (fun w hw => hw))
                        ·
                          have H := cond_t he
                          clear he
                          refine t_cond_true rfl ?_
                          refine t_region (fun ops hops => ?_)
                          clear hops
                          obtain ⟨x93, hx_51, H⟩ := Option.bind_eq_some_iff.1 H
                          refine z_madeS (F := fun A_52 c_53 => .slice A_52 x93.length c_53) (xs := x93) rfl Try.func40 nm40 bs40 rfl (fun w hw => smithyref09_digits.calls 1#64 x93 hx_51 w) rfl rfl rfl (fun _ _ _ _ _ => trivial) (fun A_52 c_53 hs_54 => ?_)
                          clear hx_51
                          refine z_val (v := .slice A_52 x93.length c_53) (val_assign rfl rfl) rfl rfl rfl (fun _ _ _ => trivial) ?_
                          refine z_nil ?_
                          obtain rfl := Option.some.inj H
                          exact t_reach ((K _ ⟨A_52, c_53⟩ HJ hs_54).weak (fun a ha => ha.cons rfl (ha.cons rfl (ha.cons rfl (ha.nil)))) (fun w hw => hw.sel [0] rfl rfl))
                      ·
                        replace H := HB
                        clear HB
                        obtain ⟨x13_46, rfl⟩ : ∃ x, x = s := ⟨_, rfl⟩
                        obtain ⟨A_47, c_48⟩ := g
                        try dsimp only at hφ
                        have hs_49 := hφ; clear hφ
                        try dsimp only at H
                        change T 129 _ _ _
                        refine t_seq ?_
                        refine t_region (fun ops hops => ?_)
                        clear hops
                        refine z_val (v := U64 x12) (val_move rfl rfl) rfl rfl rfl (fun _ _ _ => trivial) ?_
                        obtain ⟨x96, hx_56, H⟩ := Option.bind_eq_some_iff.1 H
                        refine z_madeS (F := fun A_57 c_58 => .slice A_57 x96.length c_58) (xs := x96) rfl Try.func40 nm40 bs40 rfl (fun w hw => smithyref09_digits.calls x12 x96 hx_56 w) rfl rfl rfl (fun _ _ _ _ _ => trivial) (fun A_57 c_58 hs_59 => ?_)
                        clear hx_56
                        refine z_val (v := U64 x12) (val_move rfl rfl) rfl rfl rfl (fun _ _ _ => trivial) ?_
                        obtain ⟨x98, hx_61, H⟩ := Option.bind_eq_some_iff.1 H
                        refine z_madeS (F := fun A_62 c_63 => .slice A_62 x98.length c_63) (xs := x98) rfl Try.func40 nm40 bs40 rfl (fun w hw => smithyref09_digits.calls x12 x98 hx_61 w) rfl rfl rfl (fun _ _ _ _ _ => trivial) (fun A_62 c_63 hs_64 => ?_)
                        clear hx_61
                        obtain ⟨x99, hx_66, H⟩ := Option.bind_eq_some_iff.1 H
                        refine z_madeS (F := fun A_67 c_68 => .slice A_67 x99.length c_68) (xs := x99) rfl Try.func27 nm27 bs27 rfl (fun w hw => smithyref02_Times.calls x96 x98 A_57 c_58 A_62 c_63 x99 hx_66 w (row_w hw (j := 1) rfl) hs_59.le (row_w hw (j := 0) rfl) hs_64.le) rfl rfl rfl (fun _ _ _ _ _ => trivial) (fun A_67 c_68 hs_69 => ?_)
                        clear hx_66
                        refine z_val (v := .slice A_47 x13_46.length c_48) (val_move rfl rfl) rfl rfl rfl (fun _ _ _ => trivial) ?_
                        obtain ⟨x101, hx_71, H⟩ := Option.bind_eq_some_iff.1 H
                        refine z_madeS (F := fun A_72 c_73 => .slice A_72 x101.length c_73) (xs := x101) rfl Try.func27 nm27 bs27 rfl (fun w hw => smithyref02_Times.calls x99 x13_46 A_67 c_68 A_47 c_48 x101 hx_71 w (row_w hw (j := 0) rfl) hs_69.le (row_w hw (j := 3) rfl) hs_49.le) rfl rfl rfl (fun _ _ _ _ _ => trivial) (fun A_72 c_73 hs_74 => ?_)
                        clear hx_71
                        obtain ⟨x102, hx_76, H⟩ := Option.bind_eq_some_iff.1 H
                        refine z_madeS (F := fun A_77 c_78 => .slice A_77 x102.length c_78) (xs := x102) rfl Try.func40 nm40 bs40 rfl (fun w hw => smithyref09_digits.calls 3#64 x102 hx_76 w) rfl rfl rfl (fun _ _ _ _ _ => trivial) (fun A_77 c_78 hs_79 => ?_)
                        clear hx_76
                        refine T.sel [1, 0, 2, 3, 4, 5] rfl rfl ?_
                        refine t_seal (fun h_81 hS hs_82 => ?_)
                        have hc_83 := hs_74.le
                        refine t_seal (fun h_84 hS_85 hs_86 => ?_)
                        have hc_87 := hs_79.le
                        replace hs_82 := hs_82.up hS_85
                        obtain ⟨x103, hx_88, H⟩ := Option.bind_eq_some_iff.1 H
                        refine z_callG rfl Try.func26 nm26 bs26 rfl (fun w hw => smithyref02_Div.calls x101 x102 A_72 c_73 A_77 c_78 x103 hx_88 hs_82 hc_83 hs_86 hc_87 hw) rfl rfl rfl (fun _ _ _ _ _ => trivial) (fun g hφ => ?_)
                        obtain ⟨h_89, A_92, c_93, A_96, c_97⟩ := g
                        try dsimp only at hφ
                        obtain ⟨hS_90, hs_94, hs_98⟩ := hφ
                        clear hx_88
                        change T 129 _ _ _
                        replace hs_82 := hs_82.up hS_90
                        replace hs_86 := hs_86.up hS_90
                        refine z_val (v := .tuple #[.slice A_92 x103.1.length c_93, .slice A_96 x103.2.length c_97]) (val_move rfl rfl) rfl rfl rfl (fun _ _ _ => trivial) ?_
                        refine z_val (v := .slice A_92 x103.1.length c_93) (val_extract rfl rfl rfl) rfl rfl rfl (fun _ _ _ => trivial) ?_
                        refine z_val (v := .slice A_96 x103.2.length c_97) (val_extract rfl rfl rfl) rfl rfl rfl (fun _ _ _ => trivial) ?_
                        refine z_val (v := .slice A_92 x103.1.length c_93) (val_assign rfl rfl) rfl rfl rfl (fun _ _ _ => trivial) ?_
                        refine z_val (v := .slice A_96 x103.2.length c_97) (val_assign rfl rfl) rfl rfl rfl (fun _ _ _ => trivial) ?_
                        refine z_nil ?_
                        refine t_seq ?_
                        refine t_seq ?_
                        refine t_region (fun ops hops => ?_)
                        clear hops
                        refine z_val (v := .slice A_92 x103.1.length c_93) (val_move rfl rfl) rfl rfl rfl (fun _ _ _ => trivial) ?_
                        refine z_val (v := .int .u64 18446744073709551615) (val_move rfl rfl) rfl rfl rfl (fun _ _ _ => trivial) ?_
                        obtain ⟨x108, hx_99, H⟩ := Option.bind_eq_some_iff.1 H
                        refine z_madeS (F := fun A_100 c_101 => .slice A_100 x108.length c_101) (xs := x108) rfl Try.func40 nm40 bs40 rfl (fun w hw => smithyref09_digits.calls 18446744073709551615#64 x108 hx_99 w) rfl rfl rfl (fun _ _ _ _ _ => trivial) (fun A_100 c_101 hs_102 => ?_)
                        clear hx_99
                        obtain ⟨x109, hx_104, H⟩ := Option.bind_eq_some_iff.1 H
                        refine z_made (v := .bool x109) rfl Try.func16 nm16 bs16 rfl (fun w hw => smithyref02_Less.calls x103.1 x108 A_92 c_93 A_100 c_101 x109 hx_104 w (row_w hw (j := 1) rfl) hs_94.le (row_w hw (j := 0) rfl) hs_102.le) rfl rfl rfl (fun _ _ _ => trivial) ?_
                        clear hx_104
                        obtain ⟨x110, hx110, H⟩ := Let_elim H
                        refine z_val (v := .bool x110) (by subst hx110; exact val_un rfl rfl (bool_not _)) rfl rfl rfl (fun _ _ _ => trivial) ?_
                        clear hx110
                        refine z_nil ?_
                        cases x110
                        ·
                          replace H := cond_f H
                          refine t_cond_false rfl ?_
                          refine t_skip ?_
                          refine t_seq ?_
                          refine t_region (fun ops hops => ?_)
                          clear hops
                          refine z_val (v := .int .u64 0) (val_assign rfl rfl) rfl rfl rfl (fun _ _ _ => trivial) ?_
                          refine z_nil ?_
                          refine t_seq ?_
                          refine t_seq ?_
                          refine t_region (fun ops hops => ?_)
                          clear hops
                          refine z_val (v := .slice A_92 x103.1.length c_93) (val_move rfl rfl) rfl rfl rfl (fun _ _ _ => trivial) ?_
                          obtain ⟨x113, hx113, H⟩ := Let_elim H
                          refine z_val (v := .int .i64 x113) (by subst hx113; exact val_len rfl rfl rfl Try.underlying31) rfl rfl rfl (fun _ _ _ => trivial) ?_
                          clear hx113
                          obtain ⟨x114, hx114, H⟩ := Let_elim H
                          refine z_val (v := .int .i64 x114) (by subst hx114; exact val_bin rfl rfl rfl rfl (i64_sub _ _ _)) rfl rfl rfl (fun _ _ _ => trivial) ?_
                          clear hx114
                          refine z_val (v := .int .i64 x114) (val_assign rfl rfl) rfl rfl rfl (fun _ _ _ => trivial) ?_
                          refine z_nil ?_
                          refine t_block ?_
                          obtain ⟨z1, hz1, HK1⟩ := Option.bind_eq_some_iff.1 H
                          clear H
                          refine t_while hz1 (fun (s : (BitVec 64) × (Int)) (g : Unit) => [(14, .slice A_92 x103.1.length c_93), (16, U64 s.1), (17, .int .i64 s.2)]) (fun (s : (BitVec 64) × (Int)) (g : Unit) => [(16, U64 s.1)]) (fun (s : (BitVec 64) × (Int)) (g : Unit) => Mm w [] h_89 [.row (.slice A_92 x103.1.length c_93) 3 1 (x103.1.map (Value.int .i64))]) (fun (s : (BitVec 64) × (Int)) (g : Unit) => Mm w [] h_89 []) (fun (s : (BitVec 64) × (Int)) (g : Unit) => True) (fun (s : (BitVec 64) × (Int)) (g : Unit) => True) () trivial (fun a w ha hw => ⟨ha.cons rfl (ha.cons rfl (ha.cons rfl (ha.nil))), hw.sel [1] rfl rfl⟩) (fun Gn Gb s g e hφ H hn1 hb1 hr1 => ?_) (fun s g hzz hφ => ?_)
                          ·
                            obtain ⟨x16, x17⟩ := s
                            change smithyref09_Gas.b1 x103 x16 x17 = some e at H
                            unfold smithyref09_Gas.b1 at H
                            clear hz1
                            change T 129 _ _ _
                            refine t_seq ?_
                            refine t_seq ?_
                            refine t_region (fun ops hops => ?_)
                            clear hops
                            refine z_val (v := .int .i64 x17) (val_move rfl rfl) rfl rfl rfl (fun _ _ _ => trivial) ?_
                            obtain ⟨x116, hx116, H⟩ := Let_elim H
                            refine z_val (v := .bool x116) (by subst hx116; exact val_bin rfl rfl rfl rfl (i64_geq _ _ _)) rfl rfl rfl (fun _ _ _ => trivial) ?_
                            clear hx116
                            refine z_nil ?_
                            cases x116
                            ·
                              replace H := cond_f H
                              refine t_cond_false rfl ?_
                              refine t_exit rfl ?_
                              obtain rfl := Option.some.inj H
                              exact t_reach ((hb1 _ () rfl trivial).weak (fun a ha => ha.cons rfl (ha.nil)) (fun w hw => hw.sel [] rfl rfl))
                            ·
                              replace H := cond_t H
                              refine t_cond_true rfl ?_
                              refine t_skip ?_
                              refine t_seq ?_
                              refine t_block ?_
                              refine t_region (fun ops hops => ?_)
                              clear hops
                              refine z_val (v := U64 x16) (val_move rfl rfl) rfl rfl rfl (fun _ _ _ => trivial) ?_
                              obtain ⟨x120, hx120, H⟩ := Let_elim H
                              refine z_val (v := U64 x120) (by subst hx120; exact val_bin rfl rfl rfl rfl (u64_mul_r _ _ _)) rfl rfl rfl (fun _ _ _ => trivial) ?_
                              clear hx120
                              refine z_val (v := .slice A_92 x103.1.length c_93) (val_move rfl rfl) rfl rfl rfl (fun _ _ _ => trivial) ?_
                              refine z_val (v := .int .i64 x17) (val_move rfl rfl) rfl rfl rfl (fun _ _ _ => trivial) ?_
                              obtain ⟨hq_105, H⟩ := Chk_elim H
                              obtain ⟨g_106, hA_107⟩ := hs_94.blk (by omega)
                              refine z_val (v := .pointer (some ⟨g_106, x17.toNat, none⟩)) (val_idxS1 rfl rfl rfl Try.underlying31 sz3 hq_105 hA_107 rfl) rfl rfl rfl (fun _ _ _ => trivial) ?_
                              obtain ⟨x124, hx124, H⟩ := Let_elim H
                              refine z_val (v := .int .i64 x124) (by subst hx124; exact val_load1 rfl rfl Try.underlying3 rfl (fun _ hw => row_cell' hw (j := 0) rfl hA_107 (idx_lt hq_105))) rfl rfl rfl (fun _ _ _ => trivial) ?_
                              clear hx124
                              obtain ⟨x125, hx125, H⟩ := Let_elim H
                              refine z_val (v := U64 x125) (by subst hx125; exact val_conv rfl rfl (fun w => conv_int_u64 w _ _ .i64 _ (by rw [Try.underlying3]; rfl) Try.underlying38)) rfl rfl rfl (fun _ _ _ => trivial) ?_
                              clear hx125
                              obtain ⟨x126, hx126, H⟩ := Let_elim H
                              refine z_val (v := U64 x126) (by subst hx126; exact val_bin rfl rfl rfl rfl (u64_add _ _ _)) rfl rfl rfl (fun _ _ _ => trivial) ?_
                              clear hx126
                              refine z_val (v := U64 x126) (val_assign rfl rfl) rfl rfl rfl (fun _ _ _ => trivial) ?_
                              refine z_nil ?_
                              refine t_fin ?_
                              refine t_region (fun ops hops => ?_)
                              clear hops
                              refine z_val (v := .int .i64 x17) (val_move rfl rfl) rfl rfl rfl (fun _ _ _ => trivial) ?_
                              obtain ⟨x118, hx118, H⟩ := Let_elim H
                              refine z_val (v := .int .i64 x118) (by subst hx118; exact val_bin rfl rfl rfl rfl (i64_sub _ _ _)) rfl rfl rfl (fun _ _ _ => trivial) ?_
                              clear hx118
                              refine z_val (v := .int .i64 x118) (val_assign rfl rfl) rfl rfl rfl (fun _ _ _ => trivial) ?_
                              refine z_nil ?_
                              obtain rfl := Option.some.inj H
                              exact t_reach ((hn1 _ () rfl trivial).weak (fun a ha => ha.cons rfl (ha.cons rfl (ha.cons rfl (ha.nil)))) (fun w hw => hw))
                          ·
                            obtain ⟨x16, x17⟩ := s
                            subst hzz
                            have H := HK1
                            clear HK1 hz1
                            replace H := sum_l H
                            try dsimp only at H
                            change T 129 _ _ _
                            refine t_seq ?_
                            refine t_region (fun ops hops => ?_)
                            clear hops
                            refine z_val (v := U64 x16) (val_move rfl rfl) rfl rfl rfl (fun _ _ _ => trivial) ?_
                            obtain ⟨x128, hx128, H⟩ := Let_elim H
                            refine z_val (v := U64 x128) (by subst hx128; exact val_maxU (f := U64) (kk := .u64) rfl rfl (fun _ => rfl) rfl) rfl rfl rfl (fun _ _ _ => trivial) ?_
                            clear hx128
                            refine z_val (v := U64 x128) (val_assign rfl rfl) rfl rfl rfl (fun _ _ _ => trivial) ?_
                            refine z_nil ?_
                            refine t_ret ?_
                            obtain rfl := Option.some.inj H
                            exact ret1 rfl (res_tmp rfl) (fun _ hw => ⟨rfl, hw.below⟩)
                        ·
                          replace H := cond_t H
                          refine t_cond_true rfl ?_
                          refine t_seq ?_
                          refine t_region (fun ops hops => ?_)
                          clear hops
                          refine z_val (v := .int .u64 18446744073709551615) (val_move rfl rfl) rfl rfl rfl (fun _ _ _ => trivial) ?_
                          refine z_val (v := .int .u64 18446744073709551615) (val_assign rfl rfl) rfl rfl rfl (fun _ _ _ => trivial) ?_
                          refine z_nil ?_
                          refine t_ret ?_
                          obtain rfl := Option.some.inj H
                          exact ret1 rfl (res_tmp rfl) (fun _ hw => ⟨rfl, hw.below⟩)
              ·
                replace H := cond_t H
                refine t_cond_true rfl ?_
                refine t_seq ?_
                refine t_region (fun ops hops => ?_)
                clear hops
                refine z_val (v := .int .u64 18446744073709551615) (val_move rfl rfl) rfl rfl rfl (fun _ _ _ => trivial) ?_
                refine z_val (v := .int .u64 18446744073709551615) (val_assign rfl rfl) rfl rfl rfl (fun _ _ _ => trivial) ?_
                refine z_nil ?_
                refine t_ret ?_
                obtain rfl := Option.some.inj H
                exact ret1 rfl (res_tmp rfl) (fun _ hw => ⟨rfl, hw.below⟩)
        ·
          replace H := cond_t H
          refine t_cond_true rfl ?_
          refine t_seq ?_
          refine t_region (fun ops hops => ?_)
          clear hops
          refine z_val (v := .int .u64 200) (val_assign rfl rfl) rfl rfl rfl (fun _ _ _ => trivial) ?_
          refine z_nil ?_
          refine t_ret ?_
          obtain rfl := Option.some.inj H
          exact ret1 rfl (res_tmp rfl) (fun _ hw => ⟨rfl, hw.below⟩)
end Go.Proofs.Ytccilbklafhjiaa
