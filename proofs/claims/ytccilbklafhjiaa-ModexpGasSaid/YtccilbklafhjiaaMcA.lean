/- Functions of the program as plain functions, and their walks, printed by walk.py. -/
import Derived.Test.YtccilbklafhjiaaMcF
namespace Go.Proofs.Ytccilbklafhjiaa
open Go.RowKit
set_option linter.unusedVariables false
set_option linter.unusedSimpArgs false
def word_Of (a0 : BitVec 64) : Option (Vec (BitVec 64) 4) :=
  Let ((Vec.rep 4 0#64).set 0 a0) fun x4 => some x4
set_option maxRecDepth 100000 in
theorem word_Of.calls  (a0 : BitVec 64) (r : Vec (BitVec 64) 4) (H : word_Of a0 = some r) (w : World)   :
    Made Try.prog 31 #[U64 a0] w (.agg (cV U64 r).toArray) := by
  unfold word_Of at H
  have hM := Mm.start w (snap w) (snap_ok w)
  generalize snap w = h at *
  refine t_enter (vs := [U64 a0]) (n := 5) Try.func31 rfl rfl rfl hM ?_
  clear hM
  change T 5 _ _ _
  refine t_seq ?_
  refine t_region (fun ops hops => ?_)
  clear hops
  refine z_alloc (cs := cV U64 (Vec.rep 4 0#64)) (room := 4) rfl ze57 rfl (cV_len _) rfl rfl rfl (fun _ _ _ _ => trivial) (fun g_1 => ?_)
  refine z_nil ?_
  refine t_seq ?_
  refine t_region (fun ops hops => ?_)
  clear hops
  refine z_val (v := U64 a0) (val_move rfl rfl) rfl rfl rfl (fun _ _ _ => trivial) ?_
  obtain ⟨x4, hx4, H⟩ := Let_elim H
  refine z_val (v := .agg (cV U64 x4).toArray) (by subst hx4; exact val_build (vs := [(0, U64 a0)]) rfl rfl (fun w => by kernel_rfl)) rfl rfl rfl (fun _ _ _ => trivial) ?_
  clear hx4
  refine z_storeA (j := 0) (cs' := cV U64 x4) (L' := [.blk g_1 57 (cV U64 x4) 4]) rfl rfl rfl (cV_one (fun _ => rfl) _) sz57 rfl (cV_len _) rfl rfl rfl (fun _ _ _ => trivial) ?_
  refine z_nil ?_
  refine t_ret ?_
  obtain rfl := Option.some.inj H
  exact ret1 rfl (res_row (j := 0) rfl Try.underlying57 rfl sz57 rfl (cV_len _)) (fun _ hw => ⟨rfl, hw.below⟩)
def word_Small (a0 : Vec (BitVec 64) 4) : Option ((BitVec 64) × (Bool)) :=
  Let (a0.get 1) fun x5 => Let (a0.get 2) fun x7 => Let (x5 ||| x7) fun x8 => Let (a0.get 3) fun x10 => Let (x8 ||| x10) fun x11 => Let ((x11.toNat : Int) != 0) fun x12 => (bif x12 then some (0#64, false) else Let (a0.get 0) fun x14 => some (x14, true))
set_option maxRecDepth 100000 in
theorem word_Small.calls  (a0 : Vec (BitVec 64) 4) (r : (BitVec 64) × (Bool)) (H : word_Small a0 = some r) (w : World)   :
    Made Try.prog 30 #[.agg (cV U64 a0).toArray] w (.tuple #[U64 r.1, .bool r.2]) := by
  unfold word_Small at H
  have hM := Mm.start w (snap w) (snap_ok w)
  generalize snap w = h at *
  refine t_enter (vs := [.agg (cV U64 a0).toArray]) (n := 15) Try.func30 rfl rfl rfl hM ?_
  clear hM
  change T 15 _ _ _
  refine t_seq ?_
  refine t_region (fun ops hops => ?_)
  clear hops
  refine z_box (cs := cV U64 a0) (room := 4) rfl rfl rfl (cV_len _) rfl rfl rfl (fun _ _ _ _ => trivial) (fun g_1 => ?_)
  refine z_val (v := .int .u64 0) (val_assign rfl rfl) rfl rfl rfl (fun _ _ _ => trivial) ?_
  refine z_val (v := .bool false) (val_assign rfl rfl) rfl rfl rfl (fun _ _ _ => trivial) ?_
  refine z_nil ?_
  refine t_seq ?_
  refine t_seq ?_
  refine t_region (fun ops hops => ?_)
  clear hops
  refine z_val (v := .pointer (some ⟨g_1, 1, none⟩)) (val_idx0 rfl rfl rfl Try.underlying57 sz38 (by decide) rfl) rfl rfl rfl (fun _ _ _ => trivial) ?_
  obtain ⟨x5, hx5, H⟩ := Let_elim H
  refine z_val (v := U64 x5) (by subst hx5; exact val_load1 rfl rfl Try.underlying38 rfl (fun _ hw => hw.cell (j := 0) rfl (cV_at _ (by decide)))) rfl rfl rfl (fun _ _ _ => trivial) ?_
  clear hx5
  refine z_val (v := .pointer (some ⟨g_1, 2, none⟩)) (val_idx0 rfl rfl rfl Try.underlying57 sz38 (by decide) rfl) rfl rfl rfl (fun _ _ _ => trivial) ?_
  obtain ⟨x7, hx7, H⟩ := Let_elim H
  refine z_val (v := U64 x7) (by subst hx7; exact val_load1 rfl rfl Try.underlying38 rfl (fun _ hw => hw.cell (j := 0) rfl (cV_at _ (by decide)))) rfl rfl rfl (fun _ _ _ => trivial) ?_
  clear hx7
  obtain ⟨x8, hx8, H⟩ := Let_elim H
  refine z_val (v := U64 x8) (by subst hx8; exact val_bin rfl rfl rfl rfl (u64_or _ _ _)) rfl rfl rfl (fun _ _ _ => trivial) ?_
  clear hx8
  refine z_val (v := .pointer (some ⟨g_1, 3, none⟩)) (val_idx0 rfl rfl rfl Try.underlying57 sz38 (by decide) rfl) rfl rfl rfl (fun _ _ _ => trivial) ?_
  obtain ⟨x10, hx10, H⟩ := Let_elim H
  refine z_val (v := U64 x10) (by subst hx10; exact val_load1 rfl rfl Try.underlying38 rfl (fun _ hw => hw.cell (j := 0) rfl (cV_at _ (by decide)))) rfl rfl rfl (fun _ _ _ => trivial) ?_
  clear hx10
  obtain ⟨x11, hx11, H⟩ := Let_elim H
  refine z_val (v := U64 x11) (by subst hx11; exact val_bin rfl rfl rfl rfl (u64_or _ _ _)) rfl rfl rfl (fun _ _ _ => trivial) ?_
  clear hx11
  obtain ⟨x12, hx12, H⟩ := Let_elim H
  refine z_val (v := .bool x12) (by subst hx12; exact val_bin rfl rfl rfl rfl (u64_neq_r _ 0 x11)) rfl rfl rfl (fun _ _ _ => trivial) ?_
  clear hx12
  refine z_nil ?_
  cases x12
  ·
    replace H := cond_f H
    refine t_cond_false rfl ?_
    refine t_skip ?_
    refine t_seq ?_
    refine t_region (fun ops hops => ?_)
    clear hops
    refine z_val (v := .pointer (some ⟨g_1, 0, none⟩)) (val_idx0 rfl rfl rfl Try.underlying57 sz38 (by decide) rfl) rfl rfl rfl (fun _ _ _ => trivial) ?_
    obtain ⟨x14, hx14, H⟩ := Let_elim H
    refine z_val (v := U64 x14) (by subst hx14; exact val_load1 rfl rfl Try.underlying38 rfl (fun _ hw => hw.cell (j := 0) rfl (cV_at _ (by decide)))) rfl rfl rfl (fun _ _ _ => trivial) ?_
    clear hx14
    refine z_val (v := U64 x14) (val_assign rfl rfl) rfl rfl rfl (fun _ _ _ => trivial) ?_
    refine z_val (v := .bool true) (val_assign rfl rfl) rfl rfl rfl (fun _ _ _ => trivial) ?_
    refine z_nil ?_
    refine t_ret ?_
    obtain rfl := Option.some.inj H
    exact ret2 rfl (res_tmp rfl) (res_tmp rfl) (fun _ hw => ⟨rfl, hw.below⟩)
  ·
    replace H := cond_t H
    refine t_cond_true rfl ?_
    refine t_seq ?_
    refine t_region (fun ops hops => ?_)
    clear hops
    refine z_val (v := .int .u64 0) (val_assign rfl rfl) rfl rfl rfl (fun _ _ _ => trivial) ?_
    refine z_val (v := .bool false) (val_assign rfl rfl) rfl rfl rfl (fun _ _ _ => trivial) ?_
    refine z_nil ?_
    refine t_ret ?_
    obtain rfl := Option.some.inj H
    exact ret2 rfl (res_tmp rfl) (res_tmp rfl) (fun _ hw => ⟨rfl, hw.below⟩)
def bits_Len64 (a0 : BitVec 64) : Option (Int) :=
  Let (decide ((a0.toNat : Int) ≥ 4294967296)) fun x4 => (bif x4 then Let (a0 >>> 32) fun x6 => some (x6, 32) else some (a0, 0)).bind (fun (s : (BitVec 64) × (Int)) => (fun (x0 : BitVec 64) (x2 : Int) => Let (decide ((x0.toNat : Int) ≥ 65536)) fun x8 => (bif x8 then Let (x0 >>> 16) fun x10 => Let (wi (x2 + 16)) fun x12 => some (x10, x12) else some (x0, x2)).bind (fun (s : (BitVec 64) × (Int)) => (fun (x0_1 : BitVec 64) (x2_2 : Int) => Let (decide ((x0_1.toNat : Int) ≥ 256)) fun x14 => (bif x14 then Let (x0_1 >>> 8) fun x16 => Let (wi (x2_2 + 8)) fun x18 => some (x16, x18) else some (x0_1, x2_2)).bind (fun (s : (BitVec 64) × (Int)) => (fun (x0_3 : BitVec 64) (x2_4 : Int) => Let (x0_3.setWidth 8) fun x21 => Chk (0 ≤ (x21.toNat : Int) ∧ (x21.toNat : Int) < (((⟨#[0, 1, 2, 2, 3, 3, 3, 3, 4, 4, 4, 4, 4, 4, 4, 4, 5, 5, 5, 5, 5, 5, 5, 5, 5, 5, 5, 5, 5, 5, 5, 5, 6, 6, 6, 6, 6, 6, 6, 6, 6, 6, 6, 6, 6, 6, 6, 6, 6, 6, 6, 6, 6, 6, 6, 6, 6, 6, 6, 6, 6, 6, 6, 6, 7, 7, 7, 7, 7, 7, 7, 7, 7, 7, 7, 7, 7, 7, 7, 7, 7, 7, 7, 7, 7, 7, 7, 7, 7, 7, 7, 7, 7, 7, 7, 7, 7, 7, 7, 7, 7, 7, 7, 7, 7, 7, 7, 7, 7, 7, 7, 7, 7, 7, 7, 7, 7, 7, 7, 7, 7, 7, 7, 7, 7, 7, 7, 7, 8, 8, 8, 8, 8, 8, 8, 8, 8, 8, 8, 8, 8, 8, 8, 8, 8, 8, 8, 8, 8, 8, 8, 8, 8, 8, 8, 8, 8, 8, 8, 8, 8, 8, 8, 8, 8, 8, 8, 8, 8, 8, 8, 8, 8, 8, 8, 8, 8, 8, 8, 8, 8, 8, 8, 8, 8, 8, 8, 8, 8, 8, 8, 8, 8, 8, 8, 8, 8, 8, 8, 8, 8, 8, 8, 8, 8, 8, 8, 8, 8, 8, 8, 8, 8, 8, 8, 8, 8, 8, 8, 8, 8, 8, 8, 8, 8, 8, 8, 8, 8, 8, 8, 8, 8, 8, 8, 8, 8, 8, 8, 8, 8, 8, 8, 8, 8, 8, 8, 8, 8, 8, 8, 8, 8, 8, 8, 8]⟩ : ByteArray).size : Nat) : Int)) <| Let (strAt (⟨#[0, 1, 2, 2, 3, 3, 3, 3, 4, 4, 4, 4, 4, 4, 4, 4, 5, 5, 5, 5, 5, 5, 5, 5, 5, 5, 5, 5, 5, 5, 5, 5, 6, 6, 6, 6, 6, 6, 6, 6, 6, 6, 6, 6, 6, 6, 6, 6, 6, 6, 6, 6, 6, 6, 6, 6, 6, 6, 6, 6, 6, 6, 6, 6, 7, 7, 7, 7, 7, 7, 7, 7, 7, 7, 7, 7, 7, 7, 7, 7, 7, 7, 7, 7, 7, 7, 7, 7, 7, 7, 7, 7, 7, 7, 7, 7, 7, 7, 7, 7, 7, 7, 7, 7, 7, 7, 7, 7, 7, 7, 7, 7, 7, 7, 7, 7, 7, 7, 7, 7, 7, 7, 7, 7, 7, 7, 7, 7, 8, 8, 8, 8, 8, 8, 8, 8, 8, 8, 8, 8, 8, 8, 8, 8, 8, 8, 8, 8, 8, 8, 8, 8, 8, 8, 8, 8, 8, 8, 8, 8, 8, 8, 8, 8, 8, 8, 8, 8, 8, 8, 8, 8, 8, 8, 8, 8, 8, 8, 8, 8, 8, 8, 8, 8, 8, 8, 8, 8, 8, 8, 8, 8, 8, 8, 8, 8, 8, 8, 8, 8, 8, 8, 8, 8, 8, 8, 8, 8, 8, 8, 8, 8, 8, 8, 8, 8, 8, 8, 8, 8, 8, 8, 8, 8, 8, 8, 8, 8, 8, 8, 8, 8, 8, 8, 8, 8, 8, 8, 8, 8, 8, 8, 8, 8, 8, 8, 8, 8, 8, 8, 8, 8, 8, 8, 8, 8]⟩ : ByteArray) x21.toNat) fun x22 => Let ((x22.toNat : Int)) fun x23 => Let (wi (x2_4 + x23)) fun x24 => some x24) s.1 s.2)) s.1 s.2)) s.1 s.2)
set_option maxRecDepth 100000 in
theorem bits_Len64.calls  (a0 : BitVec 64) (r : Int) (H : bits_Len64 a0 = some r) (w : World)   :
    Made Try.prog 47 #[U64 a0] w (.int .i64 r) := by
  unfold bits_Len64 at H
  have hM := Mm.start w (snap w) (snap_ok w)
  generalize snap w = h at *
  refine t_enter (vs := [U64 a0]) (n := 25) Try.func47 rfl rfl rfl hM ?_
  clear hM
  change T 25 _ _ _
  refine t_seq ?_
  refine t_region (fun ops hops => ?_)
  clear hops
  refine z_val (v := .int .i64 0) (val_assign rfl rfl) rfl rfl rfl (fun _ _ _ => trivial) ?_
  refine z_nil ?_
  refine t_seq ?_
  refine t_seq ?_
  refine t_region (fun ops hops => ?_)
  clear hops
  refine z_val (v := U64 a0) (val_move rfl rfl) rfl rfl rfl (fun _ _ _ => trivial) ?_
  obtain ⟨x4, hx4, H⟩ := Let_elim H
  refine z_val (v := .bool x4) (by subst hx4; exact val_bin rfl rfl rfl rfl (u64_geq_r _ 4294967296 a0)) rfl rfl rfl (fun _ _ _ => trivial) ?_
  clear hx4
  refine z_nil ?_
  refine t_bind H (fun (s : (BitVec 64) × (Int)) (g : Unit) => [(0, U64 s.1), (2, .int .i64 s.2)]) (fun (s : (BitVec 64) × (Int)) (g : Unit) => Mm w [] h []) (fun (s : (BitVec 64) × (Int)) (g : Unit) => True) (fun Gr K s he HJ => ?_) (fun s g HB hφ => ?_)
  ·
    clear H
    cases x4
    ·
      have H := cond_f he
      clear he
      refine t_cond_false rfl ?_
      refine t_skip ?_
      obtain rfl := Option.some.inj H
      exact t_reach ((K _ () HJ trivial).weak (fun a ha => ha.cons rfl (ha.cons rfl (ha.nil))) (fun w hw => hw))
    ·
      have H := cond_t he
      clear he
      refine t_cond_true rfl ?_
      refine t_seq ?_
      refine t_region (fun ops hops => ?_)
      clear hops
      refine z_val (v := U64 a0) (val_move rfl rfl) rfl rfl rfl (fun _ _ _ => trivial) ?_
      obtain ⟨x6, hx6, H⟩ := Let_elim H
      refine z_val (v := U64 x6) (by subst hx6; exact val_bin rfl rfl rfl rfl (u64_shr _ _ _ _ (by decide))) rfl rfl rfl (fun _ _ _ => trivial) ?_
      clear hx6
      refine z_val (v := U64 x6) (val_assign rfl rfl) rfl rfl rfl (fun _ _ _ => trivial) ?_
      refine z_nil ?_
      refine t_region (fun ops hops => ?_)
      clear hops
      refine z_val (v := .int .i64 32) (val_assign rfl rfl) rfl rfl rfl (fun _ _ _ => trivial) ?_
      refine z_nil ?_
      obtain rfl := Option.some.inj H
      exact t_reach ((K _ () HJ trivial).weak (fun a ha => ha.cons rfl (ha.cons rfl (ha.nil))) (fun w hw => hw))
  ·
    replace H := HB
    clear HB
    obtain ⟨x0, x2⟩ := s
    try dsimp only at H
    change T 25 _ _ _
    refine t_seq ?_
    refine t_seq ?_
    refine t_region (fun ops hops => ?_)
    clear hops
    refine z_val (v := U64 x0) (val_move rfl rfl) rfl rfl rfl (fun _ _ _ => trivial) ?_
    obtain ⟨x8, hx8, H⟩ := Let_elim H
    refine z_val (v := .bool x8) (by subst hx8; exact val_bin rfl rfl rfl rfl (u64_geq_r _ 65536 x0)) rfl rfl rfl (fun _ _ _ => trivial) ?_
    clear hx8
    refine z_nil ?_
    refine t_bind H (fun (s : (BitVec 64) × (Int)) (g : Unit) => [(0, U64 s.1), (2, .int .i64 s.2)]) (fun (s : (BitVec 64) × (Int)) (g : Unit) => Mm w [] h []) (fun (s : (BitVec 64) × (Int)) (g : Unit) => True) (fun Gr K s he HJ => ?_) (fun s g HB hφ => ?_)
    ·
      clear H
      cases x8
      ·
        have H := cond_f he
        clear he
        refine t_cond_false rfl ?_
        refine t_skip ?_
        obtain rfl := Option.some.inj H
        exact t_reach ((K _ () HJ trivial).weak (fun a ha => ha.cons rfl (ha.cons rfl (ha.nil))) (fun w hw => hw))
      ·
        have H := cond_t he
        clear he
        refine t_cond_true rfl ?_
        refine t_seq ?_
        refine t_region (fun ops hops => ?_)
        clear hops
        refine z_val (v := U64 x0) (val_move rfl rfl) rfl rfl rfl (fun _ _ _ => trivial) ?_
        obtain ⟨x10, hx10, H⟩ := Let_elim H
        refine z_val (v := U64 x10) (by subst hx10; exact val_bin rfl rfl rfl rfl (u64_shr _ _ _ _ (by decide))) rfl rfl rfl (fun _ _ _ => trivial) ?_
        clear hx10
        refine z_val (v := U64 x10) (val_assign rfl rfl) rfl rfl rfl (fun _ _ _ => trivial) ?_
        refine z_nil ?_
        refine t_region (fun ops hops => ?_)
        clear hops
        refine z_val (v := .int .i64 x2) (val_move rfl rfl) rfl rfl rfl (fun _ _ _ => trivial) ?_
        obtain ⟨x12, hx12, H⟩ := Let_elim H
        refine z_val (v := .int .i64 x12) (by subst hx12; exact val_bin rfl rfl rfl rfl (i64_add _ _ _)) rfl rfl rfl (fun _ _ _ => trivial) ?_
        clear hx12
        refine z_val (v := .int .i64 x12) (val_assign rfl rfl) rfl rfl rfl (fun _ _ _ => trivial) ?_
        refine z_nil ?_
        obtain rfl := Option.some.inj H
        exact t_reach ((K _ () HJ trivial).weak (fun a ha => ha.cons rfl (ha.cons rfl (ha.nil))) (fun w hw => hw))
    ·
      replace H := HB
      clear HB
      obtain ⟨x0_1, x2_2⟩ := s
      try dsimp only at H
      change T 25 _ _ _
      refine t_seq ?_
      refine t_seq ?_
      refine t_region (fun ops hops => ?_)
      clear hops
      refine z_val (v := U64 x0_1) (val_move rfl rfl) rfl rfl rfl (fun _ _ _ => trivial) ?_
      obtain ⟨x14, hx14, H⟩ := Let_elim H
      refine z_val (v := .bool x14) (by subst hx14; exact val_bin rfl rfl rfl rfl (u64_geq_r _ 256 x0_1)) rfl rfl rfl (fun _ _ _ => trivial) ?_
      clear hx14
      refine z_nil ?_
      refine t_bind H (fun (s : (BitVec 64) × (Int)) (g : Unit) => [(0, U64 s.1), (2, .int .i64 s.2)]) (fun (s : (BitVec 64) × (Int)) (g : Unit) => Mm w [] h []) (fun (s : (BitVec 64) × (Int)) (g : Unit) => True) (fun Gr K s he HJ => ?_) (fun s g HB hφ => ?_)
      ·
        clear H
        cases x14
        ·
          have H := cond_f he
          clear he
          refine t_cond_false rfl ?_
          refine t_skip ?_
          obtain rfl := Option.some.inj H
          exact t_reach ((K _ () HJ trivial).weak (fun a ha => ha.cons rfl (ha.cons rfl (ha.nil))) (fun w hw => hw))
        ·
          have H := cond_t he
          clear he
          refine t_cond_true rfl ?_
          refine t_seq ?_
          refine t_region (fun ops hops => ?_)
          clear hops
          refine z_val (v := U64 x0_1) (val_move rfl rfl) rfl rfl rfl (fun _ _ _ => trivial) ?_
          obtain ⟨x16, hx16, H⟩ := Let_elim H
          refine z_val (v := U64 x16) (by subst hx16; exact val_bin rfl rfl rfl rfl (u64_shr _ _ _ _ (by decide))) rfl rfl rfl (fun _ _ _ => trivial) ?_
          clear hx16
          refine z_val (v := U64 x16) (val_assign rfl rfl) rfl rfl rfl (fun _ _ _ => trivial) ?_
          refine z_nil ?_
          refine t_region (fun ops hops => ?_)
          clear hops
          refine z_val (v := .int .i64 x2_2) (val_move rfl rfl) rfl rfl rfl (fun _ _ _ => trivial) ?_
          obtain ⟨x18, hx18, H⟩ := Let_elim H
          refine z_val (v := .int .i64 x18) (by subst hx18; exact val_bin rfl rfl rfl rfl (i64_add _ _ _)) rfl rfl rfl (fun _ _ _ => trivial) ?_
          clear hx18
          refine z_val (v := .int .i64 x18) (val_assign rfl rfl) rfl rfl rfl (fun _ _ _ => trivial) ?_
          refine z_nil ?_
          obtain rfl := Option.some.inj H
          exact t_reach ((K _ () HJ trivial).weak (fun a ha => ha.cons rfl (ha.cons rfl (ha.nil))) (fun w hw => hw))
      ·
        replace H := HB
        clear HB
        obtain ⟨x0_3, x2_4⟩ := s
        try dsimp only at H
        change T 25 _ _ _
        refine t_seq ?_
        refine t_region (fun ops hops => ?_)
        clear hops
        refine z_val (v := .int .i64 x2_4) (val_move rfl rfl) rfl rfl rfl (fun _ _ _ => trivial) ?_
        refine z_val (v := U64 x0_3) (val_move rfl rfl) rfl rfl rfl (fun _ _ _ => trivial) ?_
        obtain ⟨x21, hx21, H⟩ := Let_elim H
        refine z_val (v := U8 x21) (by subst hx21; exact val_conv rfl rfl (fun w => conv_u64_u8 w _ _ _ (by rw [Try.underlying38]; rfl) Try.underlying5)) rfl rfl rfl (fun _ _ _ => trivial) ?_
        clear hx21
        obtain ⟨hq_5, H⟩ := Chk_elim H
        obtain ⟨x22, hx22, H⟩ := Let_elim H
        refine z_val (v := U8 x22) (by subst hx22; exact val_indexS rfl rfl rfl Try.underlying9 hq_5 (Int.toNat_natCast _) rfl) rfl rfl rfl (fun _ _ _ => trivial) ?_
        clear hx22
        obtain ⟨x23, hx23, H⟩ := Let_elim H
        refine z_val (v := .int .i64 x23) (by subst hx23; exact val_conv rfl rfl (fun w => conv_u8_int w _ _ _ (by rw [Try.underlying5]; rfl) Try.underlying3)) rfl rfl rfl (fun _ _ _ => trivial) ?_
        clear hx23
        obtain ⟨x24, hx24, H⟩ := Let_elim H
        refine z_val (v := .int .i64 x24) (by subst hx24; exact val_bin rfl rfl rfl rfl (i64_add _ _ _)) rfl rfl rfl (fun _ _ _ => trivial) ?_
        clear hx24
        refine z_val (v := .int .i64 x24) (val_assign rfl rfl) rfl rfl rfl (fun _ _ _ => trivial) ?_
        refine z_nil ?_
        refine t_ret ?_
        obtain rfl := Option.some.inj H
        exact ret1 rfl (res_tmp rfl) (fun _ hw => ⟨rfl, hw.below⟩)
def bits_LeadingZeros64 (a0 : BitVec 64) : Option (Int) :=
  (bits_Len64 a0).bind fun x4 => Let (wi (64 - x4)) fun x5 => some x5
set_option maxRecDepth 100000 in
theorem bits_LeadingZeros64.calls  (a0 : BitVec 64) (r : Int) (H : bits_LeadingZeros64 a0 = some r) (w : World)   :
    Made Try.prog 61 #[U64 a0] w (.int .i64 r) := by
  unfold bits_LeadingZeros64 at H
  have hM := Mm.start w (snap w) (snap_ok w)
  generalize snap w = h at *
  refine t_enter (vs := [U64 a0]) (n := 6) Try.func61 rfl rfl rfl hM ?_
  clear hM
  change T 6 _ _ _
  refine t_seq ?_
  refine t_region (fun ops hops => ?_)
  clear hops
  refine z_val (v := .int .i64 0) (val_assign rfl rfl) rfl rfl rfl (fun _ _ _ => trivial) ?_
  refine z_nil ?_
  refine t_seq ?_
  refine t_region (fun ops hops => ?_)
  clear hops
  refine z_val (v := U64 a0) (val_move rfl rfl) rfl rfl rfl (fun _ _ _ => trivial) ?_
  obtain ⟨x4, hx, H⟩ := Option.bind_eq_some_iff.1 H
  refine z_made (v := .int .i64 x4) rfl Try.func47 nm47 bs47 rfl (fun w hw => bits_Len64.calls a0 x4 hx w) rfl rfl rfl (fun _ _ _ => trivial) ?_
  clear hx
  obtain ⟨x5, hx5, H⟩ := Let_elim H
  refine z_val (v := .int .i64 x5) (by subst hx5; exact val_bin rfl rfl rfl rfl (i64_sub _ _ _)) rfl rfl rfl (fun _ _ _ => trivial) ?_
  clear hx5
  refine z_val (v := .int .i64 x5) (val_assign rfl rfl) rfl rfl rfl (fun _ _ _ => trivial) ?_
  refine z_nil ?_
  refine t_ret ?_
  obtain rfl := Option.some.inj H
  exact ret1 rfl (res_tmp rfl) (fun _ hw => ⟨rfl, hw.below⟩)
def bits_Sub32 (a0 : BitVec 32) (a1 : BitVec 32) (a2 : BitVec 32) : Option ((BitVec 32) × (BitVec 32)) :=
  Let (a0 - a1) fun x10 => Let (x10 - a2) fun x12 => Let (~~~a0) fun x14 => Let (x14 &&& a1) fun x16 => Let (a0 ^^^ a1) fun x19 => Let (~~~x19) fun x20 => Let (x20 &&& x12) fun x22 => Let (x16 ||| x22) fun x23 => Let (x23 >>> 31) fun x24 => some (x12, x24)
set_option maxRecDepth 100000 in
theorem bits_Sub32.calls  (a0 : BitVec 32) (a1 : BitVec 32) (a2 : BitVec 32) (r : (BitVec 32) × (BitVec 32)) (H : bits_Sub32 a0 a1 a2 = some r) (w : World)   :
    Made Try.prog 55 #[U32 a0, U32 a1, U32 a2] w (.tuple #[U32 r.1, U32 r.2]) := by
  unfold bits_Sub32 at H
  have hM := Mm.start w (snap w) (snap_ok w)
  generalize snap w = h at *
  refine t_enter (vs := [U32 a0, U32 a1, U32 a2]) (n := 25) Try.func55 rfl rfl rfl hM ?_
  clear hM
  change T 25 _ _ _
  refine t_seq ?_
  refine t_region (fun ops hops => ?_)
  clear hops
  refine z_val (v := .int .u32 0) (val_assign rfl rfl) rfl rfl rfl (fun _ _ _ => trivial) ?_
  refine z_val (v := .int .u32 0) (val_assign rfl rfl) rfl rfl rfl (fun _ _ _ => trivial) ?_
  refine z_nil ?_
  refine t_seq ?_
  refine t_region (fun ops hops => ?_)
  clear hops
  refine z_val (v := U32 a0) (val_move rfl rfl) rfl rfl rfl (fun _ _ _ => trivial) ?_
  refine z_val (v := U32 a1) (val_move rfl rfl) rfl rfl rfl (fun _ _ _ => trivial) ?_
  obtain ⟨x10, hx10, H⟩ := Let_elim H
  refine z_val (v := U32 x10) (by subst hx10; exact val_bin rfl rfl rfl rfl (u32_sub _ _ _)) rfl rfl rfl (fun _ _ _ => trivial) ?_
  clear hx10
  refine z_val (v := U32 a2) (val_move rfl rfl) rfl rfl rfl (fun _ _ _ => trivial) ?_
  obtain ⟨x12, hx12, H⟩ := Let_elim H
  refine z_val (v := U32 x12) (by subst hx12; exact val_bin rfl rfl rfl rfl (u32_sub _ _ _)) rfl rfl rfl (fun _ _ _ => trivial) ?_
  clear hx12
  refine z_val (v := U32 x12) (val_assign rfl rfl) rfl rfl rfl (fun _ _ _ => trivial) ?_
  refine z_nil ?_
  refine t_seq ?_
  refine t_region (fun ops hops => ?_)
  clear hops
  refine z_val (v := U32 a0) (val_move rfl rfl) rfl rfl rfl (fun _ _ _ => trivial) ?_
  obtain ⟨x14, hx14, H⟩ := Let_elim H
  refine z_val (v := U32 x14) (by subst hx14; exact val_un rfl rfl (u32_not _)) rfl rfl rfl (fun _ _ _ => trivial) ?_
  clear hx14
  refine z_val (v := U32 a1) (val_move rfl rfl) rfl rfl rfl (fun _ _ _ => trivial) ?_
  obtain ⟨x16, hx16, H⟩ := Let_elim H
  refine z_val (v := U32 x16) (by subst hx16; exact val_bin rfl rfl rfl rfl (u32_and _ _ _)) rfl rfl rfl (fun _ _ _ => trivial) ?_
  clear hx16
  refine z_val (v := U32 a0) (val_move rfl rfl) rfl rfl rfl (fun _ _ _ => trivial) ?_
  refine z_val (v := U32 a1) (val_move rfl rfl) rfl rfl rfl (fun _ _ _ => trivial) ?_
  obtain ⟨x19, hx19, H⟩ := Let_elim H
  refine z_val (v := U32 x19) (by subst hx19; exact val_bin rfl rfl rfl rfl (u32_xor _ _ _)) rfl rfl rfl (fun _ _ _ => trivial) ?_
  clear hx19
  obtain ⟨x20, hx20, H⟩ := Let_elim H
  refine z_val (v := U32 x20) (by subst hx20; exact val_un rfl rfl (u32_not _)) rfl rfl rfl (fun _ _ _ => trivial) ?_
  clear hx20
  refine z_val (v := U32 x12) (val_move rfl rfl) rfl rfl rfl (fun _ _ _ => trivial) ?_
  obtain ⟨x22, hx22, H⟩ := Let_elim H
  refine z_val (v := U32 x22) (by subst hx22; exact val_bin rfl rfl rfl rfl (u32_and _ _ _)) rfl rfl rfl (fun _ _ _ => trivial) ?_
  clear hx22
  obtain ⟨x23, hx23, H⟩ := Let_elim H
  refine z_val (v := U32 x23) (by subst hx23; exact val_bin rfl rfl rfl rfl (u32_or _ _ _)) rfl rfl rfl (fun _ _ _ => trivial) ?_
  clear hx23
  obtain ⟨x24, hx24, H⟩ := Let_elim H
  refine z_val (v := U32 x24) (by subst hx24; exact val_bin rfl rfl rfl rfl (u32_shr _ _ _ _ (by decide))) rfl rfl rfl (fun _ _ _ => trivial) ?_
  clear hx24
  refine z_val (v := U32 x24) (val_assign rfl rfl) rfl rfl rfl (fun _ _ _ => trivial) ?_
  refine z_nil ?_
  refine t_ret ?_
  obtain rfl := Option.some.inj H
  exact ret2 rfl (res_tmp rfl) (res_tmp rfl) (fun _ hw => ⟨rfl, hw.below⟩)
def word_Len.b1 (a0 : Vec (BitVec 64) 4) (x3 : Int) : Option (Ctl ((Int)) (Int)) :=
  Let (decide (0 ≤ x3)) fun x5 => (bif x5 then Chk (0 ≤ x3 ∧ x3 < ((4 : Nat) : Int)) <| Let (a0.get x3.toNat) fun x10 => Let ((x10.toNat : Int) != 0) fun x11 => (bif x11 then Let (wi (64 * x3)) fun x13 => Chk (0 ≤ x3 ∧ x3 < ((4 : Nat) : Int)) <| Let (a0.get x3.toNat) fun x16 => (bits_Len64 x16).bind fun x17 => Let (wi (x13 + x17)) fun x18 => some (.ret x18) else Let (wi (x3 - 1)) fun x7 => some (.next x7)) else some (.brk x3))
def word_Len (a0 : Vec (BitVec 64) 4) : Option (Int) :=
  (wlx (σ := (Int)) (fun s => word_Len.b1 a0 s) 3).bind (Sum.elim (fun x3 => some 0) (fun r => some r))
set_option maxRecDepth 100000 in
theorem word_Len.calls  (a0 : Vec (BitVec 64) 4) (r : Int) (H : word_Len a0 = some r) (w : World)   :
    Made Try.prog 34 #[.agg (cV U64 a0).toArray] w (.int .i64 r) := by
  unfold word_Len at H
  have hM := Mm.start w (snap w) (snap_ok w)
  generalize snap w = h at *
  refine t_enter (vs := [.agg (cV U64 a0).toArray]) (n := 19) Try.func34 rfl rfl rfl hM ?_
  clear hM
  change T 19 _ _ _
  refine t_seq ?_
  refine t_region (fun ops hops => ?_)
  clear hops
  refine z_box (cs := cV U64 a0) (room := 4) rfl rfl rfl (cV_len _) rfl rfl rfl (fun _ _ _ _ => trivial) (fun g_1 => ?_)
  refine z_val (v := .int .i64 0) (val_assign rfl rfl) rfl rfl rfl (fun _ _ _ => trivial) ?_
  refine z_nil ?_
  refine t_seq ?_
  refine t_seq ?_
  refine t_region (fun ops hops => ?_)
  clear hops
  refine z_val (v := .int .i64 3) (val_assign rfl rfl) rfl rfl rfl (fun _ _ _ => trivial) ?_
  refine z_nil ?_
  refine t_block ?_
  obtain ⟨z1, hz1, HK1⟩ := Option.bind_eq_some_iff.1 H
  clear H
  refine t_while hz1 (fun (s : (Int)) (g : Unit) => [(1, .pointer (some ⟨g_1, 0, none⟩)), (3, .int .i64 s)]) (fun (s : (Int)) (g : Unit) => []) (fun (s : (Int)) (g : Unit) => Mm w [] h [.blk g_1 57 (cV U64 a0) 4]) (fun (s : (Int)) (g : Unit) => Mm w [] h []) (fun (s : (Int)) (g : Unit) => True) (fun (s : (Int)) (g : Unit) => True) () trivial (fun a w ha hw => ⟨ha.cons rfl (ha.cons rfl (ha.nil)), hw⟩) (fun Gn Gb s g e hφ H hn1 hb1 hr1 => ?_) (fun s g hzz hφ => ?_)
  ·
    obtain ⟨x3, rfl⟩ : ∃ x, x = s := ⟨_, rfl⟩
    change word_Len.b1 a0 x3 = some e at H
    unfold word_Len.b1 at H
    clear hz1
    change T 19 _ _ _
    refine t_seq ?_
    refine t_seq ?_
    refine t_region (fun ops hops => ?_)
    clear hops
    refine z_val (v := .int .i64 x3) (val_move rfl rfl) rfl rfl rfl (fun _ _ _ => trivial) ?_
    obtain ⟨x5, hx5, H⟩ := Let_elim H
    refine z_val (v := .bool x5) (by subst hx5; exact val_bin rfl rfl rfl rfl (i64_geq _ _ _)) rfl rfl rfl (fun _ _ _ => trivial) ?_
    clear hx5
    refine z_nil ?_
    cases x5
    ·
      replace H := cond_f H
      refine t_cond_false rfl ?_
      refine t_exit rfl ?_
      obtain rfl := Option.some.inj H
      exact t_reach ((hb1 _ () rfl trivial).weak (fun a ha => ha.nil) (fun w hw => hw.sel [] rfl rfl))
    ·
      replace H := cond_t H
      refine t_cond_true rfl ?_
      refine t_skip ?_
      refine t_seq ?_
      refine t_block ?_
      refine t_seq ?_
      refine t_region (fun ops hops => ?_)
      clear hops
      refine z_val (v := .int .i64 x3) (val_move rfl rfl) rfl rfl rfl (fun _ _ _ => trivial) ?_
      obtain ⟨hq_2, H⟩ := Chk_elim H
      refine z_val (v := .pointer (some ⟨g_1, x3.toNat, none⟩)) (val_idx0 rfl rfl rfl Try.underlying57 sz38 hq_2 rfl) rfl rfl rfl (fun _ _ _ => trivial) ?_
      obtain ⟨x10, hx10, H⟩ := Let_elim H
      refine z_val (v := U64 x10) (by subst hx10; exact val_load1 rfl rfl Try.underlying38 rfl (fun _ hw => hw.cell (j := 0) rfl (cV_at _ (idx_lt hq_2)))) rfl rfl rfl (fun _ _ _ => trivial) ?_
      clear hx10
      obtain ⟨x11, hx11, H⟩ := Let_elim H
      refine z_val (v := .bool x11) (by subst hx11; exact val_bin rfl rfl rfl rfl (u64_neq_r _ 0 x10)) rfl rfl rfl (fun _ _ _ => trivial) ?_
      clear hx11
      refine z_nil ?_
      cases x11
      ·
        replace H := cond_f H
        refine t_cond_false rfl ?_
        refine t_skip ?_
        refine t_fin ?_
        refine t_region (fun ops hops => ?_)
        clear hops
        refine z_val (v := .int .i64 x3) (val_move rfl rfl) rfl rfl rfl (fun _ _ _ => trivial) ?_
        obtain ⟨x7, hx7, H⟩ := Let_elim H
        refine z_val (v := .int .i64 x7) (by subst hx7; exact val_bin rfl rfl rfl rfl (i64_sub _ _ _)) rfl rfl rfl (fun _ _ _ => trivial) ?_
        clear hx7
        refine z_val (v := .int .i64 x7) (val_assign rfl rfl) rfl rfl rfl (fun _ _ _ => trivial) ?_
        refine z_nil ?_
        obtain rfl := Option.some.inj H
        exact t_reach ((hn1 _ () rfl trivial).weak (fun a ha => ha.cons rfl (ha.cons rfl (ha.nil))) (fun w hw => hw))
      ·
        replace H := cond_t H
        refine t_cond_true rfl ?_
        refine t_seq ?_
        refine t_region (fun ops hops => ?_)
        clear hops
        refine z_val (v := .int .i64 x3) (val_move rfl rfl) rfl rfl rfl (fun _ _ _ => trivial) ?_
        obtain ⟨x13, hx13, H⟩ := Let_elim H
        refine z_val (v := .int .i64 x13) (by subst hx13; exact val_bin rfl rfl rfl rfl (i64_mul _ _ _)) rfl rfl rfl (fun _ _ _ => trivial) ?_
        clear hx13
        refine z_val (v := .int .i64 x3) (val_move rfl rfl) rfl rfl rfl (fun _ _ _ => trivial) ?_
        obtain ⟨hq_3, H⟩ := Chk_elim H
        refine z_val (v := .pointer (some ⟨g_1, x3.toNat, none⟩)) (val_idx0 rfl rfl rfl Try.underlying57 sz38 hq_3 rfl) rfl rfl rfl (fun _ _ _ => trivial) ?_
        obtain ⟨x16, hx16, H⟩ := Let_elim H
        refine z_val (v := U64 x16) (by subst hx16; exact val_load1 rfl rfl Try.underlying38 rfl (fun _ hw => hw.cell (j := 0) rfl (cV_at _ (idx_lt hq_3)))) rfl rfl rfl (fun _ _ _ => trivial) ?_
        clear hx16
        obtain ⟨x17, hx, H⟩ := Option.bind_eq_some_iff.1 H
        refine z_made (v := .int .i64 x17) rfl Try.func47 nm47 bs47 rfl (fun w hw => bits_Len64.calls x16 x17 hx w) rfl rfl rfl (fun _ _ _ => trivial) ?_
        clear hx
        obtain ⟨x18, hx18, H⟩ := Let_elim H
        refine z_val (v := .int .i64 x18) (by subst hx18; exact val_bin rfl rfl rfl rfl (i64_add _ _ _)) rfl rfl rfl (fun _ _ _ => trivial) ?_
        clear hx18
        refine z_val (v := .int .i64 x18) (val_assign rfl rfl) rfl rfl rfl (fun _ _ _ => trivial) ?_
        refine z_nil ?_
        refine t_ret ?_
        obtain rfl := Option.some.inj H
        have hz := hr1 _ rfl
        subst hz
        obtain rfl := Option.some.inj HK1
        exact ret1 rfl (res_tmp rfl) (fun _ hw => ⟨rfl, hw.below⟩)
  ·
    obtain ⟨x3, rfl⟩ : ∃ x, x = s := ⟨_, rfl⟩
    subst hzz
    have H := HK1
    clear HK1 hz1
    replace H := sum_l H
    try dsimp only at H
    change T 19 _ _ _
    refine t_seq ?_
    refine t_region (fun ops hops => ?_)
    clear hops
    refine z_val (v := .int .i64 0) (val_assign rfl rfl) rfl rfl rfl (fun _ _ _ => trivial) ?_
    refine z_nil ?_
    refine t_ret ?_
    obtain rfl := Option.some.inj H
    exact ret1 rfl (res_tmp rfl) (fun _ hw => ⟨rfl, hw.below⟩)
def word_Compare.b1 (a0 : Vec (BitVec 64) 4) (a1 : Vec (BitVec 64) 4) (x5 : Int) : Option (Ctl ((Int)) (Int)) :=
  Chk (0 ≤ x5 ∧ x5 < ((4 : Nat) : Int)) <| Let (a0.get x5.toNat) fun x11 => Chk (0 ≤ x5 ∧ x5 < ((4 : Nat) : Int)) <| Let (a1.get x5.toNat) fun x14 => Let (x11 == x14) fun x15 => (bif x15 then Let (wi (x5 - 1)) fun x17 => some (.next x17) else some (.brk x5))
def word_Compare (a0 : Vec (BitVec 64) 4) (a1 : Vec (BitVec 64) 4) : Option (Int) :=
  Let (a0.l == a1.l) fun x8 => (bif x8 then some 0 else (wlx (σ := (Int)) (fun s => word_Compare.b1 a0 a1 s) 3).bind (Sum.elim (fun x5 => Chk (0 ≤ x5 ∧ x5 < ((4 : Nat) : Int)) <| Let (a0.get x5.toNat) fun x20 => Chk (0 ≤ x5 ∧ x5 < ((4 : Nat) : Int)) <| Let (a1.get x5.toNat) fun x23 => Let (decide (x20.toNat < x23.toNat)) fun x24 => (bif x24 then some (-1) else some 1)) (fun r => some r)))
set_option maxRecDepth 100000 in
theorem word_Compare.calls  (a0 : Vec (BitVec 64) 4) (a1 : Vec (BitVec 64) 4) (r : Int) (H : word_Compare a0 a1 = some r) (w : World)   :
    Made Try.prog 58 #[.agg (cV U64 a0).toArray, .agg (cV U64 a1).toArray] w (.int .i64 r) := by
  unfold word_Compare at H
  have hM := Mm.start w (snap w) (snap_ok w)
  generalize snap w = h at *
  refine t_enter (vs := [.agg (cV U64 a0).toArray, .agg (cV U64 a1).toArray]) (n := 25) Try.func58 rfl rfl rfl hM ?_
  clear hM
  change T 25 _ _ _
  refine t_seq ?_
  refine t_region (fun ops hops => ?_)
  clear hops
  refine z_box (cs := cV U64 a0) (room := 4) rfl rfl rfl (cV_len _) rfl rfl rfl (fun _ _ _ _ => trivial) (fun g_1 => ?_)
  refine z_box (cs := cV U64 a1) (room := 4) rfl rfl rfl (cV_len _) rfl rfl rfl (fun _ _ _ _ => trivial) (fun g_2 => ?_)
  refine z_val (v := .int .i64 0) (val_assign rfl rfl) rfl rfl rfl (fun _ _ _ => trivial) ?_
  refine z_nil ?_
  refine t_seq ?_
  refine t_seq ?_
  refine t_region (fun ops hops => ?_)
  clear hops
  refine z_val (v := .agg (cV U64 a0).toArray) (val_loadR (off := 0) (cs := cV U64 a0) rfl rfl Try.underlying57 rfl (sz57.trans (congrArg some (cV_len _).symm)) (fun _ hw => hw.whole (j := 1) rfl)) rfl rfl rfl (fun _ _ _ => trivial) ?_
  refine z_val (v := .agg (cV U64 a1).toArray) (val_loadR (off := 0) (cs := cV U64 a1) rfl rfl Try.underlying57 rfl (sz57.trans (congrArg some (cV_len _).symm)) (fun _ hw => hw.whole (j := 0) rfl)) rfl rfl rfl (fun _ _ _ => trivial) ?_
  obtain ⟨x8, hx8, H⟩ := Let_elim H
  refine z_val (v := .bool x8) (by subst hx8; exact val_bina rfl rfl rfl eg57 (fun w => vec_eql U64_inj (P := Try.prog) Try.underlying57 pk38 Try.underlying38 ce38 w _ _)) rfl rfl rfl (fun _ _ _ => trivial) ?_
  clear hx8
  refine z_nil ?_
  cases x8
  ·
    replace H := cond_f H
    refine t_cond_false rfl ?_
    refine t_skip ?_
    refine t_seq ?_
    refine t_region (fun ops hops => ?_)
    clear hops
    refine z_val (v := .int .i64 3) (val_assign rfl rfl) rfl rfl rfl (fun _ _ _ => trivial) ?_
    refine z_nil ?_
    refine t_seq ?_
    refine t_block ?_
    obtain ⟨z1, hz1, HK1⟩ := Option.bind_eq_some_iff.1 H
    clear H
    refine t_while hz1 (fun (s : (Int)) (g : Unit) => [(2, .pointer (some ⟨g_1, 0, none⟩)), (3, .pointer (some ⟨g_2, 0, none⟩)), (5, .int .i64 s)]) (fun (s : (Int)) (g : Unit) => [(2, .pointer (some ⟨g_1, 0, none⟩)), (3, .pointer (some ⟨g_2, 0, none⟩)), (5, .int .i64 s)]) (fun (s : (Int)) (g : Unit) => Mm w [] h [.blk g_2 57 (cV U64 a1) 4, .blk g_1 57 (cV U64 a0) 4]) (fun (s : (Int)) (g : Unit) => Mm w [] h [.blk g_2 57 (cV U64 a1) 4, .blk g_1 57 (cV U64 a0) 4]) (fun (s : (Int)) (g : Unit) => True) (fun (s : (Int)) (g : Unit) => True) () trivial (fun a w ha hw => ⟨ha.cons rfl (ha.cons rfl (ha.cons rfl (ha.nil))), hw⟩) (fun Gn Gb s g e hφ H hn1 hb1 hr1 => ?_) (fun s g hzz hφ => ?_)
    ·
      obtain ⟨x5, rfl⟩ : ∃ x, x = s := ⟨_, rfl⟩
      change word_Compare.b1 a0 a1 x5 = some e at H
      unfold word_Compare.b1 at H
      clear hz1
      change T 25 _ _ _
      refine t_seq ?_
      refine t_seq ?_
      refine t_plan (C := Mm w [] h [.blk g_2 57 (cV U64 a1) 4, .blk g_1 57 (cV U64 a0) 4]) [] [(0, true), (1, true), (2, true), (3, true), (4, true), (5, true), (6, true)] (by kernel_rfl) (by kernel_rfl) (fun _ hw => hw.drew) (fun ops hops => ?_)
      clear hops
      refine z_still (v := .int .i64 x5) (val_move rfl rfl) rfl rfl rfl (fun _ hw => hw) ?_
      obtain ⟨hq_3, H⟩ := Chk_elim H
      refine z_still (v := .pointer (some ⟨g_1, x5.toNat, none⟩)) (val_idx0 rfl rfl rfl Try.underlying57 sz38 hq_3 rfl) rfl rfl rfl (fun _ hw => hw) ?_
      obtain ⟨x11, hx11, H⟩ := Let_elim H
      refine z_still (v := U64 x11) (by subst hx11; exact val_load1 rfl rfl Try.underlying38 rfl (fun _ hw => hw.cell (j := 1) rfl (cV_at _ (idx_lt hq_3)))) rfl rfl rfl (fun _ hw => hw) ?_
      clear hx11
      refine z_still (v := .int .i64 x5) (val_move rfl rfl) rfl rfl rfl (fun _ hw => hw) ?_
      obtain ⟨hq_4, H⟩ := Chk_elim H
      refine z_still (v := .pointer (some ⟨g_2, x5.toNat, none⟩)) (val_idx0 rfl rfl rfl Try.underlying57 sz38 hq_4 rfl) rfl rfl rfl (fun _ hw => hw) ?_
      obtain ⟨x14, hx14, H⟩ := Let_elim H
      refine z_still (v := U64 x14) (by subst hx14; exact val_load1 rfl rfl Try.underlying38 rfl (fun _ hw => hw.cell (j := 0) rfl (cV_at _ (idx_lt hq_4)))) rfl rfl rfl (fun _ hw => hw) ?_
      clear hx14
      obtain ⟨x15, hx15, H⟩ := Let_elim H
      refine z_still (v := .bool x15) (by subst hx15; exact val_bin rfl rfl rfl rfl (u64_eql _ _ _)) rfl rfl rfl (fun _ hw => hw) ?_
      clear hx15
      refine z_nil ?_
      cases x15
      ·
        replace H := cond_f H
        refine t_cond_false rfl ?_
        refine t_exit rfl ?_
        obtain rfl := Option.some.inj H
        exact t_reach ((hb1 _ () rfl trivial).weak (fun a ha => ha.cons rfl (ha.cons rfl (ha.cons rfl (ha.nil)))) (fun w hw => hw))
      ·
        replace H := cond_t H
        refine t_cond_true rfl ?_
        refine t_skip ?_
        refine t_block ?_
        refine t_region (fun ops hops => ?_)
        clear hops
        refine z_val (v := .int .i64 x5) (val_move rfl rfl) rfl rfl rfl (fun _ _ _ => trivial) ?_
        obtain ⟨x17, hx17, H⟩ := Let_elim H
        refine z_val (v := .int .i64 x17) (by subst hx17; exact val_bin rfl rfl rfl rfl (i64_sub _ _ _)) rfl rfl rfl (fun _ _ _ => trivial) ?_
        clear hx17
        refine z_val (v := .int .i64 x17) (val_assign rfl rfl) rfl rfl rfl (fun _ _ _ => trivial) ?_
        refine z_nil ?_
        refine t_fin ?_
        obtain rfl := Option.some.inj H
        exact t_reach ((hn1 _ () rfl trivial).weak (fun a ha => ha.cons rfl (ha.cons rfl (ha.cons rfl (ha.nil)))) (fun w hw => hw))
    ·
      obtain ⟨x5, rfl⟩ : ∃ x, x = s := ⟨_, rfl⟩
      subst hzz
      have H := HK1
      clear HK1 hz1
      replace H := sum_l H
      try dsimp only at H
      change T 25 _ _ _
      refine t_seq ?_
      refine t_seq ?_
      refine t_plan (C := Mm w [] h [.blk g_2 57 (cV U64 a1) 4, .blk g_1 57 (cV U64 a0) 4]) [] [(0, true), (1, true), (2, true), (3, true), (4, true), (5, true), (6, true)] (by kernel_rfl) (by kernel_rfl) (fun _ hw => hw.drew) (fun ops hops => ?_)
      clear hops
      refine z_still (v := .int .i64 x5) (val_move rfl rfl) rfl rfl rfl (fun _ hw => hw) ?_
      obtain ⟨hq_5, H⟩ := Chk_elim H
      refine z_still (v := .pointer (some ⟨g_1, x5.toNat, none⟩)) (val_idx0 rfl rfl rfl Try.underlying57 sz38 hq_5 rfl) rfl rfl rfl (fun _ hw => hw) ?_
      obtain ⟨x20, hx20, H⟩ := Let_elim H
      refine z_still (v := U64 x20) (by subst hx20; exact val_load1 rfl rfl Try.underlying38 rfl (fun _ hw => hw.cell (j := 1) rfl (cV_at _ (idx_lt hq_5)))) rfl rfl rfl (fun _ hw => hw) ?_
      clear hx20
      refine z_still (v := .int .i64 x5) (val_move rfl rfl) rfl rfl rfl (fun _ hw => hw) ?_
      obtain ⟨hq_6, H⟩ := Chk_elim H
      refine z_still (v := .pointer (some ⟨g_2, x5.toNat, none⟩)) (val_idx0 rfl rfl rfl Try.underlying57 sz38 hq_6 rfl) rfl rfl rfl (fun _ hw => hw) ?_
      obtain ⟨x23, hx23, H⟩ := Let_elim H
      refine z_still (v := U64 x23) (by subst hx23; exact val_load1 rfl rfl Try.underlying38 rfl (fun _ hw => hw.cell (j := 0) rfl (cV_at _ (idx_lt hq_6)))) rfl rfl rfl (fun _ hw => hw) ?_
      clear hx23
      obtain ⟨x24, hx24, H⟩ := Let_elim H
      refine z_still (v := .bool x24) (by subst hx24; exact val_bin rfl rfl rfl rfl (u64_lss _ _ _)) rfl rfl rfl (fun _ hw => hw) ?_
      clear hx24
      refine z_nil ?_
      cases x24
      ·
        replace H := cond_f H
        refine t_cond_false rfl ?_
        refine t_skip ?_
        refine t_seq ?_
        refine t_region (fun ops hops => ?_)
        clear hops
        refine z_val (v := .int .i64 1) (val_assign rfl rfl) rfl rfl rfl (fun _ _ _ => trivial) ?_
        refine z_nil ?_
        refine t_ret ?_
        obtain rfl := Option.some.inj H
        exact ret1 rfl (res_tmp rfl) (fun _ hw => ⟨rfl, hw.below⟩)
      ·
        replace H := cond_t H
        refine t_cond_true rfl ?_
        refine t_seq ?_
        refine t_region (fun ops hops => ?_)
        clear hops
        refine z_val (v := .int .i64 (-1)) (val_assign rfl rfl) rfl rfl rfl (fun _ _ _ => trivial) ?_
        refine z_nil ?_
        refine t_ret ?_
        obtain rfl := Option.some.inj H
        exact ret1 rfl (res_tmp rfl) (fun _ hw => ⟨rfl, hw.below⟩)
  ·
    replace H := cond_t H
    refine t_cond_true rfl ?_
    refine t_seq ?_
    refine t_region (fun ops hops => ?_)
    clear hops
    refine z_val (v := .int .i64 0) (val_assign rfl rfl) rfl rfl rfl (fun _ _ _ => trivial) ?_
    refine z_nil ?_
    refine t_ret ?_
    obtain rfl := Option.some.inj H
    exact ret1 rfl (res_tmp rfl) (fun _ hw => ⟨rfl, hw.below⟩)
def word_Add.b1 (a0 : Vec (BitVec 64) 4) (a1 : Vec (BitVec 64) 4) (y_4 : Vec (BitVec 64) 4) (x6 : BitVec 64) (x10 : Int) : Option (Ctl ((Vec (BitVec 64) 4) × (BitVec 64) × (Int)) (Vec (BitVec 64) 4)) :=
  Let (decide (x10 < 4)) fun x11 => (bif x11 then Chk (0 ≤ x10 ∧ x10 < ((4 : Nat) : Int)) <| Let (a0.get x10.toNat) fun x16 => Chk (0 ≤ x10 ∧ x10 < ((4 : Nat) : Int)) <| Let (a1.get x10.toNat) fun x19 => Chk (x6.toNat ≤ 1) <| Let (add64 x16 x19 x6) fun x21 => Chk (0 ≤ x10 ∧ x10 < ((4 : Nat) : Int)) <| Let (y_4.set x10.toNat x21.1) fun y_4_9 => Let (wi (x10 + 1)) fun x28 => some (.next (y_4_9, x21.2, x28)) else some (.brk (y_4, x6, x10)))
def word_Add (a0 : Vec (BitVec 64) 4) (a1 : Vec (BitVec 64) 4) : Option (Vec (BitVec 64) 4) :=
  (wlx (σ := (Vec (BitVec 64) 4) × (BitVec 64) × (Int)) (fun s => word_Add.b1 a0 a1 s.1 s.2.1 s.2.2) ((Vec.rep 4 0#64), 0#64, 0)).bind (Sum.elim (fun s => (fun y_4 x6 x10 => some y_4) s.1 s.2.1 s.2.2) (fun r => some r))
set_option maxRecDepth 100000 in
theorem word_Add.calls  (a0 : Vec (BitVec 64) 4) (a1 : Vec (BitVec 64) 4) (r : Vec (BitVec 64) 4) (H : word_Add a0 a1 = some r) (w : World)   :
    Made Try.prog 35 #[.agg (cV U64 a0).toArray, .agg (cV U64 a1).toArray] w (.agg (cV U64 r).toArray) := by
  unfold word_Add at H
  have hM := Mm.start w (snap w) (snap_ok w)
  generalize snap w = h at *
  refine t_enter (vs := [.agg (cV U64 a0).toArray, .agg (cV U64 a1).toArray]) (n := 30) Try.func35 rfl rfl rfl hM ?_
  clear hM
  change T 30 _ _ _
  refine t_seq ?_
  refine t_region (fun ops hops => ?_)
  clear hops
  refine z_box (cs := cV U64 a0) (room := 4) rfl rfl rfl (cV_len _) rfl rfl rfl (fun _ _ _ _ => trivial) (fun g_1 => ?_)
  refine z_box (cs := cV U64 a1) (room := 4) rfl rfl rfl (cV_len _) rfl rfl rfl (fun _ _ _ _ => trivial) (fun g_2 => ?_)
  refine z_alloc (cs := cV U64 (Vec.rep 4 0#64)) (room := 4) rfl ze57 rfl (cV_len _) rfl rfl rfl (fun _ _ _ _ => trivial) (fun g_3 => ?_)
  refine z_nil ?_
  refine t_seq ?_
  refine t_region (fun ops hops => ?_)
  clear hops
  refine z_alloc (cs := cV U64 (Vec.rep 4 0#64)) (room := 4) rfl ze57 rfl (cV_len _) rfl rfl rfl (fun _ _ _ _ => trivial) (fun g_4 => ?_)
  refine z_nil ?_
  refine t_seq ?_
  refine t_region (fun ops hops => ?_)
  clear hops
  refine z_val (v := .int .u64 0) (val_assign rfl rfl) rfl rfl rfl (fun _ _ _ => trivial) ?_
  refine z_nil ?_
  refine t_seq ?_
  refine t_seq ?_
  refine t_region (fun ops hops => ?_)
  clear hops
  refine z_val (v := .int .i64 0) (val_move rfl rfl) rfl rfl rfl (fun _ _ _ => trivial) ?_
  refine z_nil ?_
  refine t_block ?_
  obtain ⟨z1, hz1, HK1⟩ := Option.bind_eq_some_iff.1 H
  clear H
  refine t_while hz1 (fun (s : (Vec (BitVec 64) 4) × (BitVec 64) × (Int)) (g : Unit) => [(2, .pointer (some ⟨g_1, 0, none⟩)), (3, .pointer (some ⟨g_2, 0, none⟩)), (4, .pointer (some ⟨g_3, 0, none⟩)), (5, .pointer (some ⟨g_4, 0, none⟩)), (6, U64 s.2.1), (10, .int .i64 s.2.2)]) (fun (s : (Vec (BitVec 64) 4) × (BitVec 64) × (Int)) (g : Unit) => [(4, .pointer (some ⟨g_3, 0, none⟩)), (5, .pointer (some ⟨g_4, 0, none⟩))]) (fun (s : (Vec (BitVec 64) 4) × (BitVec 64) × (Int)) (g : Unit) => Mm w [] h [.blk g_4 57 (cV U64 s.1) 4, .blk g_3 57 (cV U64 (Vec.rep 4 0#64)) 4, .blk g_2 57 (cV U64 a1) 4, .blk g_1 57 (cV U64 a0) 4]) (fun (s : (Vec (BitVec 64) 4) × (BitVec 64) × (Int)) (g : Unit) => Mm w [] h [.blk g_4 57 (cV U64 s.1) 4, .blk g_3 57 (cV U64 (Vec.rep 4 0#64)) 4]) (fun (s : (Vec (BitVec 64) 4) × (BitVec 64) × (Int)) (g : Unit) => True) (fun (s : (Vec (BitVec 64) 4) × (BitVec 64) × (Int)) (g : Unit) => True) () trivial (fun a w ha hw => ⟨ha.cons rfl (ha.cons rfl (ha.cons rfl (ha.cons rfl (ha.cons rfl (ha.cons rfl (ha.nil)))))), hw⟩) (fun Gn Gb s g e hφ H hn1 hb1 hr1 => ?_) (fun s g hzz hφ => ?_)
  ·
    obtain ⟨y_4, x6, x10⟩ := s
    change word_Add.b1 a0 a1 y_4 x6 x10 = some e at H
    unfold word_Add.b1 at H
    clear hz1
    change T 30 _ _ _
    refine t_seq ?_
    refine t_region (fun ops hops => ?_)
    clear hops
    obtain ⟨x11, hx11, H⟩ := Let_elim H
    refine z_val (v := .bool x11) (by subst hx11; exact val_bin rfl rfl rfl rfl (i64_lss _ _ _)) rfl rfl rfl (fun _ _ _ => trivial) ?_
    clear hx11
    refine z_nil ?_
    refine t_seq ?_
    cases x11
    ·
      replace H := cond_f H
      refine t_cond_false rfl ?_
      refine t_exit rfl ?_
      obtain rfl := Option.some.inj H
      exact t_reach ((hb1 _ () rfl trivial).weak (fun a ha => ha.cons rfl (ha.cons rfl (ha.nil))) (fun w hw => hw.sel [0, 1] rfl rfl))
    ·
      replace H := cond_t H
      refine t_cond_true rfl ?_
      refine t_skip ?_
      refine t_seq ?_
      refine t_block ?_
      refine t_seq ?_
      refine t_region (fun ops hops => ?_)
      clear hops
      refine z_val (v := .int .i64 x10) (val_move rfl rfl) rfl rfl rfl (fun _ _ _ => trivial) ?_
      refine z_val (v := .int .i64 x10) (val_assign rfl rfl) rfl rfl rfl (fun _ _ _ => trivial) ?_
      refine z_nil ?_
      refine t_seq ?_
      refine t_plan (C := Mm w [] h [.blk g_4 57 (cV U64 y_4) 4, .blk g_3 57 (cV U64 (Vec.rep 4 0#64)) 4, .blk g_2 57 (cV U64 a1) 4, .blk g_1 57 (cV U64 a0) 4]) [] [(0, true), (1, true), (2, true), (3, true), (4, true), (5, true), (6, true), (7, true), (8, true), (9, true), (10, true), (11, true), (12, true)] (by kernel_rfl) (by kernel_rfl) (fun _ hw => hw.drew) (fun ops hops => ?_)
      clear hops
      refine z_still (v := .int .i64 x10) (val_move rfl rfl) rfl rfl rfl (fun _ hw => hw) ?_
      obtain ⟨hq_5, H⟩ := Chk_elim H
      refine z_still (v := .pointer (some ⟨g_1, x10.toNat, none⟩)) (val_idx0 rfl rfl rfl Try.underlying57 sz38 hq_5 rfl) rfl rfl rfl (fun _ hw => hw) ?_
      obtain ⟨x16, hx16, H⟩ := Let_elim H
      refine z_still (v := U64 x16) (by subst hx16; exact val_load1 rfl rfl Try.underlying38 rfl (fun _ hw => hw.cell (j := 3) rfl (cV_at _ (idx_lt hq_5)))) rfl rfl rfl (fun _ hw => hw) ?_
      clear hx16
      refine z_still (v := .int .i64 x10) (val_move rfl rfl) rfl rfl rfl (fun _ hw => hw) ?_
      obtain ⟨hq_6, H⟩ := Chk_elim H
      refine z_still (v := .pointer (some ⟨g_2, x10.toNat, none⟩)) (val_idx0 rfl rfl rfl Try.underlying57 sz38 hq_6 rfl) rfl rfl rfl (fun _ hw => hw) ?_
      obtain ⟨x19, hx19, H⟩ := Let_elim H
      refine z_still (v := U64 x19) (by subst hx19; exact val_load1 rfl rfl Try.underlying38 rfl (fun _ hw => hw.cell (j := 2) rfl (cV_at _ (idx_lt hq_6)))) rfl rfl rfl (fun _ hw => hw) ?_
      clear hx19
      refine z_still (v := U64 x6) (val_move rfl rfl) rfl rfl rfl (fun _ hw => hw) ?_
      obtain ⟨hq_7, H⟩ := Chk_elim H
      obtain ⟨x21, hx21, H⟩ := Let_elim H
      refine z_still (v := .tuple #[U64 x21.1, U64 x21.2]) (by subst hx21; exact val_extern (vs := [U64 x16, U64 x19, U64 x6]) rfl Try.func48 xn48 xb48 xx48 xf48 rfl (fun w hw => run_add64 hq_7)) rfl rfl rfl (fun _ hw => hw) ?_
      clear hx21
      refine z_still (v := .tuple #[U64 x21.1, U64 x21.2]) (val_move rfl rfl) rfl rfl rfl (fun _ hw => hw) ?_
      refine z_still (v := U64 x21.1) (val_extract rfl rfl rfl) rfl rfl rfl (fun _ hw => hw) ?_
      refine z_still (v := U64 x21.2) (val_extract rfl rfl rfl) rfl rfl rfl (fun _ hw => hw) ?_
      refine z_still (v := U64 x21.1) (val_assign rfl rfl) rfl rfl rfl (fun _ hw => hw) ?_
      refine z_still (v := U64 x21.2) (val_assign rfl rfl) rfl rfl rfl (fun _ hw => hw) ?_
      refine z_nil ?_
      refine t_seq ?_
      refine t_region (fun ops hops => ?_)
      clear hops
      refine z_val (v := .int .i64 x10) (val_move rfl rfl) rfl rfl rfl (fun _ _ _ => trivial) ?_
      refine z_val (v := U64 x21.1) (val_move rfl rfl) rfl rfl rfl (fun _ _ _ => trivial) ?_
      obtain ⟨hq_8, H⟩ := Chk_elim H
      refine z_val (v := .pointer (some ⟨g_4, x10.toNat, none⟩)) (val_idx0 rfl rfl rfl Try.underlying57 sz38 hq_8 rfl) rfl rfl rfl (fun _ _ _ => trivial) ?_
      obtain ⟨y_4_9, hy_4_9, H⟩ := Let_elim H
      refine z_store1 (j := 0) (cs' := cV U64 y_4_9) (L' := [.blk g_4 57 (cV U64 y_4_9) 4, .blk g_3 57 (cV U64 (Vec.rep 4 0#64)) 4, .blk g_2 57 (cV U64 a1) 4, .blk g_1 57 (cV U64 a0) 4]) rfl rfl rfl rfl rfl sz38 rfl (by rw [cV_len]; exact (idx_lt hq_8)) (by subst hy_4_9; exact cV_set (f := U64) _ _ x21.1) rfl rfl rfl (fun _ _ _ => trivial) ?_
      clear hy_4_9
      refine z_nil ?_
      refine t_region (fun ops hops => ?_)
      clear hops
      refine z_val (v := U64 x21.2) (val_move rfl rfl) rfl rfl rfl (fun _ _ _ => trivial) ?_
      refine z_val (v := U64 x21.2) (val_assign rfl rfl) rfl rfl rfl (fun _ _ _ => trivial) ?_
      refine z_nil ?_
      refine t_fin ?_
      refine t_region (fun ops hops => ?_)
      clear hops
      obtain ⟨x28, hx28, H⟩ := Let_elim H
      refine z_val (v := .int .i64 x28) (by subst hx28; exact val_bin rfl rfl rfl rfl (i64_add _ _ _)) rfl rfl rfl (fun _ _ _ => trivial) ?_
      clear hx28
      refine z_val (v := .int .i64 x28) (val_move rfl rfl) rfl rfl rfl (fun _ _ _ => trivial) ?_
      refine z_nil ?_
      obtain rfl := Option.some.inj H
      exact t_reach ((hn1 _ () rfl trivial).weak (fun a ha => ha.cons rfl (ha.cons rfl (ha.cons rfl (ha.cons rfl (ha.cons rfl (ha.cons rfl (ha.nil))))))) (fun w hw => hw))
  ·
    obtain ⟨y_4, x6, x10⟩ := s
    subst hzz
    have H := HK1
    clear HK1 hz1
    replace H := sum_l H
    try dsimp only at H
    change T 30 _ _ _
    refine t_seq ?_
    refine t_region (fun ops hops => ?_)
    clear hops
    refine z_val (v := .agg (cV U64 y_4).toArray) (val_loadR (off := 0) (cs := cV U64 y_4) rfl rfl Try.underlying57 rfl (sz57.trans (congrArg some (cV_len _).symm)) (fun _ hw => hw.whole (j := 0) rfl)) rfl rfl rfl (fun _ _ _ => trivial) ?_
    refine z_storeA (j := 1) (cs' := cV U64 y_4) (L' := [.blk g_4 57 (cV U64 y_4) 4, .blk g_3 57 (cV U64 y_4) 4]) rfl rfl rfl (cV_one (fun _ => rfl) _) sz57 rfl (cV_len _) rfl rfl rfl (fun _ _ _ => trivial) ?_
    refine z_nil ?_
    refine t_ret ?_
    obtain rfl := Option.some.inj H
    exact ret1 rfl (res_row (j := 1) rfl Try.underlying57 rfl sz57 rfl (cV_len _)) (fun _ hw => ⟨rfl, hw.below⟩)
def word_Sub.b1 (a0 : Vec (BitVec 64) 4) (a1 : Vec (BitVec 64) 4) (y_4 : Vec (BitVec 64) 4) (x6 : BitVec 64) (x10 : Int) : Option (Ctl ((Vec (BitVec 64) 4) × (BitVec 64) × (Int)) (Vec (BitVec 64) 4)) :=
  Let (decide (x10 < 4)) fun x11 => (bif x11 then Chk (0 ≤ x10 ∧ x10 < ((4 : Nat) : Int)) <| Let (a0.get x10.toNat) fun x16 => Chk (0 ≤ x10 ∧ x10 < ((4 : Nat) : Int)) <| Let (a1.get x10.toNat) fun x19 => Chk (x6.toNat ≤ 1) <| Let (sub64 x16 x19 x6) fun x21 => Chk (0 ≤ x10 ∧ x10 < ((4 : Nat) : Int)) <| Let (y_4.set x10.toNat x21.1) fun y_4_9 => Let (wi (x10 + 1)) fun x28 => some (.next (y_4_9, x21.2, x28)) else some (.brk (y_4, x6, x10)))
def word_Sub (a0 : Vec (BitVec 64) 4) (a1 : Vec (BitVec 64) 4) : Option (Vec (BitVec 64) 4) :=
  (wlx (σ := (Vec (BitVec 64) 4) × (BitVec 64) × (Int)) (fun s => word_Sub.b1 a0 a1 s.1 s.2.1 s.2.2) ((Vec.rep 4 0#64), 0#64, 0)).bind (Sum.elim (fun s => (fun y_4 x6 x10 => some y_4) s.1 s.2.1 s.2.2) (fun r => some r))
set_option maxRecDepth 100000 in
theorem word_Sub.calls  (a0 : Vec (BitVec 64) 4) (a1 : Vec (BitVec 64) 4) (r : Vec (BitVec 64) 4) (H : word_Sub a0 a1 = some r) (w : World)   :
    Made Try.prog 59 #[.agg (cV U64 a0).toArray, .agg (cV U64 a1).toArray] w (.agg (cV U64 r).toArray) := by
  unfold word_Sub at H
  have hM := Mm.start w (snap w) (snap_ok w)
  generalize snap w = h at *
  refine t_enter (vs := [.agg (cV U64 a0).toArray, .agg (cV U64 a1).toArray]) (n := 30) Try.func59 rfl rfl rfl hM ?_
  clear hM
  change T 30 _ _ _
  refine t_seq ?_
  refine t_region (fun ops hops => ?_)
  clear hops
  refine z_box (cs := cV U64 a0) (room := 4) rfl rfl rfl (cV_len _) rfl rfl rfl (fun _ _ _ _ => trivial) (fun g_1 => ?_)
  refine z_box (cs := cV U64 a1) (room := 4) rfl rfl rfl (cV_len _) rfl rfl rfl (fun _ _ _ _ => trivial) (fun g_2 => ?_)
  refine z_alloc (cs := cV U64 (Vec.rep 4 0#64)) (room := 4) rfl ze57 rfl (cV_len _) rfl rfl rfl (fun _ _ _ _ => trivial) (fun g_3 => ?_)
  refine z_nil ?_
  refine t_seq ?_
  refine t_region (fun ops hops => ?_)
  clear hops
  refine z_alloc (cs := cV U64 (Vec.rep 4 0#64)) (room := 4) rfl ze57 rfl (cV_len _) rfl rfl rfl (fun _ _ _ _ => trivial) (fun g_4 => ?_)
  refine z_nil ?_
  refine t_seq ?_
  refine t_region (fun ops hops => ?_)
  clear hops
  refine z_val (v := .int .u64 0) (val_assign rfl rfl) rfl rfl rfl (fun _ _ _ => trivial) ?_
  refine z_nil ?_
  refine t_seq ?_
  refine t_seq ?_
  refine t_region (fun ops hops => ?_)
  clear hops
  refine z_val (v := .int .i64 0) (val_move rfl rfl) rfl rfl rfl (fun _ _ _ => trivial) ?_
  refine z_nil ?_
  refine t_block ?_
  obtain ⟨z1, hz1, HK1⟩ := Option.bind_eq_some_iff.1 H
  clear H
  refine t_while hz1 (fun (s : (Vec (BitVec 64) 4) × (BitVec 64) × (Int)) (g : Unit) => [(2, .pointer (some ⟨g_1, 0, none⟩)), (3, .pointer (some ⟨g_2, 0, none⟩)), (4, .pointer (some ⟨g_3, 0, none⟩)), (5, .pointer (some ⟨g_4, 0, none⟩)), (6, U64 s.2.1), (10, .int .i64 s.2.2)]) (fun (s : (Vec (BitVec 64) 4) × (BitVec 64) × (Int)) (g : Unit) => [(4, .pointer (some ⟨g_3, 0, none⟩)), (5, .pointer (some ⟨g_4, 0, none⟩))]) (fun (s : (Vec (BitVec 64) 4) × (BitVec 64) × (Int)) (g : Unit) => Mm w [] h [.blk g_4 57 (cV U64 s.1) 4, .blk g_3 57 (cV U64 (Vec.rep 4 0#64)) 4, .blk g_2 57 (cV U64 a1) 4, .blk g_1 57 (cV U64 a0) 4]) (fun (s : (Vec (BitVec 64) 4) × (BitVec 64) × (Int)) (g : Unit) => Mm w [] h [.blk g_4 57 (cV U64 s.1) 4, .blk g_3 57 (cV U64 (Vec.rep 4 0#64)) 4]) (fun (s : (Vec (BitVec 64) 4) × (BitVec 64) × (Int)) (g : Unit) => True) (fun (s : (Vec (BitVec 64) 4) × (BitVec 64) × (Int)) (g : Unit) => True) () trivial (fun a w ha hw => ⟨ha.cons rfl (ha.cons rfl (ha.cons rfl (ha.cons rfl (ha.cons rfl (ha.cons rfl (ha.nil)))))), hw⟩) (fun Gn Gb s g e hφ H hn1 hb1 hr1 => ?_) (fun s g hzz hφ => ?_)
  ·
    obtain ⟨y_4, x6, x10⟩ := s
    change word_Sub.b1 a0 a1 y_4 x6 x10 = some e at H
    unfold word_Sub.b1 at H
    clear hz1
    change T 30 _ _ _
    refine t_seq ?_
    refine t_region (fun ops hops => ?_)
    clear hops
    obtain ⟨x11, hx11, H⟩ := Let_elim H
    refine z_val (v := .bool x11) (by subst hx11; exact val_bin rfl rfl rfl rfl (i64_lss _ _ _)) rfl rfl rfl (fun _ _ _ => trivial) ?_
    clear hx11
    refine z_nil ?_
    refine t_seq ?_
    cases x11
    ·
      replace H := cond_f H
      refine t_cond_false rfl ?_
      refine t_exit rfl ?_
      obtain rfl := Option.some.inj H
      exact t_reach ((hb1 _ () rfl trivial).weak (fun a ha => ha.cons rfl (ha.cons rfl (ha.nil))) (fun w hw => hw.sel [0, 1] rfl rfl))
    ·
      replace H := cond_t H
      refine t_cond_true rfl ?_
      refine t_skip ?_
      refine t_seq ?_
      refine t_block ?_
      refine t_seq ?_
      refine t_region (fun ops hops => ?_)
      clear hops
      refine z_val (v := .int .i64 x10) (val_move rfl rfl) rfl rfl rfl (fun _ _ _ => trivial) ?_
      refine z_val (v := .int .i64 x10) (val_assign rfl rfl) rfl rfl rfl (fun _ _ _ => trivial) ?_
      refine z_nil ?_
      refine t_seq ?_
      refine t_plan (C := Mm w [] h [.blk g_4 57 (cV U64 y_4) 4, .blk g_3 57 (cV U64 (Vec.rep 4 0#64)) 4, .blk g_2 57 (cV U64 a1) 4, .blk g_1 57 (cV U64 a0) 4]) [] [(0, true), (1, true), (2, true), (3, true), (4, true), (5, true), (6, true), (7, true), (8, true), (9, true), (10, true), (11, true), (12, true)] (by kernel_rfl) (by kernel_rfl) (fun _ hw => hw.drew) (fun ops hops => ?_)
      clear hops
      refine z_still (v := .int .i64 x10) (val_move rfl rfl) rfl rfl rfl (fun _ hw => hw) ?_
      obtain ⟨hq_5, H⟩ := Chk_elim H
      refine z_still (v := .pointer (some ⟨g_1, x10.toNat, none⟩)) (val_idx0 rfl rfl rfl Try.underlying57 sz38 hq_5 rfl) rfl rfl rfl (fun _ hw => hw) ?_
      obtain ⟨x16, hx16, H⟩ := Let_elim H
      refine z_still (v := U64 x16) (by subst hx16; exact val_load1 rfl rfl Try.underlying38 rfl (fun _ hw => hw.cell (j := 3) rfl (cV_at _ (idx_lt hq_5)))) rfl rfl rfl (fun _ hw => hw) ?_
      clear hx16
      refine z_still (v := .int .i64 x10) (val_move rfl rfl) rfl rfl rfl (fun _ hw => hw) ?_
      obtain ⟨hq_6, H⟩ := Chk_elim H
      refine z_still (v := .pointer (some ⟨g_2, x10.toNat, none⟩)) (val_idx0 rfl rfl rfl Try.underlying57 sz38 hq_6 rfl) rfl rfl rfl (fun _ hw => hw) ?_
      obtain ⟨x19, hx19, H⟩ := Let_elim H
      refine z_still (v := U64 x19) (by subst hx19; exact val_load1 rfl rfl Try.underlying38 rfl (fun _ hw => hw.cell (j := 2) rfl (cV_at _ (idx_lt hq_6)))) rfl rfl rfl (fun _ hw => hw) ?_
      clear hx19
      refine z_still (v := U64 x6) (val_move rfl rfl) rfl rfl rfl (fun _ hw => hw) ?_
      obtain ⟨hq_7, H⟩ := Chk_elim H
      obtain ⟨x21, hx21, H⟩ := Let_elim H
      refine z_still (v := .tuple #[U64 x21.1, U64 x21.2]) (by subst hx21; exact val_extern (vs := [U64 x16, U64 x19, U64 x6]) rfl Try.func63 xn63 xb63 xx63 xf63 rfl (fun w hw => run_sub64 hq_7)) rfl rfl rfl (fun _ hw => hw) ?_
      clear hx21
      refine z_still (v := .tuple #[U64 x21.1, U64 x21.2]) (val_move rfl rfl) rfl rfl rfl (fun _ hw => hw) ?_
      refine z_still (v := U64 x21.1) (val_extract rfl rfl rfl) rfl rfl rfl (fun _ hw => hw) ?_
      refine z_still (v := U64 x21.2) (val_extract rfl rfl rfl) rfl rfl rfl (fun _ hw => hw) ?_
      refine z_still (v := U64 x21.1) (val_assign rfl rfl) rfl rfl rfl (fun _ hw => hw) ?_
      refine z_still (v := U64 x21.2) (val_assign rfl rfl) rfl rfl rfl (fun _ hw => hw) ?_
      refine z_nil ?_
      refine t_seq ?_
      refine t_region (fun ops hops => ?_)
      clear hops
      refine z_val (v := .int .i64 x10) (val_move rfl rfl) rfl rfl rfl (fun _ _ _ => trivial) ?_
      refine z_val (v := U64 x21.1) (val_move rfl rfl) rfl rfl rfl (fun _ _ _ => trivial) ?_
      obtain ⟨hq_8, H⟩ := Chk_elim H
      refine z_val (v := .pointer (some ⟨g_4, x10.toNat, none⟩)) (val_idx0 rfl rfl rfl Try.underlying57 sz38 hq_8 rfl) rfl rfl rfl (fun _ _ _ => trivial) ?_
      obtain ⟨y_4_9, hy_4_9, H⟩ := Let_elim H
      refine z_store1 (j := 0) (cs' := cV U64 y_4_9) (L' := [.blk g_4 57 (cV U64 y_4_9) 4, .blk g_3 57 (cV U64 (Vec.rep 4 0#64)) 4, .blk g_2 57 (cV U64 a1) 4, .blk g_1 57 (cV U64 a0) 4]) rfl rfl rfl rfl rfl sz38 rfl (by rw [cV_len]; exact (idx_lt hq_8)) (by subst hy_4_9; exact cV_set (f := U64) _ _ x21.1) rfl rfl rfl (fun _ _ _ => trivial) ?_
      clear hy_4_9
      refine z_nil ?_
      refine t_region (fun ops hops => ?_)
      clear hops
      refine z_val (v := U64 x21.2) (val_move rfl rfl) rfl rfl rfl (fun _ _ _ => trivial) ?_
      refine z_val (v := U64 x21.2) (val_assign rfl rfl) rfl rfl rfl (fun _ _ _ => trivial) ?_
      refine z_nil ?_
      refine t_fin ?_
      refine t_region (fun ops hops => ?_)
      clear hops
      obtain ⟨x28, hx28, H⟩ := Let_elim H
      refine z_val (v := .int .i64 x28) (by subst hx28; exact val_bin rfl rfl rfl rfl (i64_add _ _ _)) rfl rfl rfl (fun _ _ _ => trivial) ?_
      clear hx28
      refine z_val (v := .int .i64 x28) (val_move rfl rfl) rfl rfl rfl (fun _ _ _ => trivial) ?_
      refine z_nil ?_
      obtain rfl := Option.some.inj H
      exact t_reach ((hn1 _ () rfl trivial).weak (fun a ha => ha.cons rfl (ha.cons rfl (ha.cons rfl (ha.cons rfl (ha.cons rfl (ha.cons rfl (ha.nil))))))) (fun w hw => hw))
  ·
    obtain ⟨y_4, x6, x10⟩ := s
    subst hzz
    have H := HK1
    clear HK1 hz1
    replace H := sum_l H
    try dsimp only at H
    change T 30 _ _ _
    refine t_seq ?_
    refine t_region (fun ops hops => ?_)
    clear hops
    refine z_val (v := .agg (cV U64 y_4).toArray) (val_loadR (off := 0) (cs := cV U64 y_4) rfl rfl Try.underlying57 rfl (sz57.trans (congrArg some (cV_len _).symm)) (fun _ hw => hw.whole (j := 0) rfl)) rfl rfl rfl (fun _ _ _ => trivial) ?_
    refine z_storeA (j := 1) (cs' := cV U64 y_4) (L' := [.blk g_4 57 (cV U64 y_4) 4, .blk g_3 57 (cV U64 y_4) 4]) rfl rfl rfl (cV_one (fun _ => rfl) _) sz57 rfl (cV_len _) rfl rfl rfl (fun _ _ _ => trivial) ?_
    refine z_nil ?_
    refine t_ret ?_
    obtain rfl := Option.some.inj H
    exact ret1 rfl (res_row (j := 1) rfl Try.underlying57 rfl sz57 rfl (cV_len _)) (fun _ hw => ⟨rfl, hw.below⟩)
def bits_Mul64 (a0 : BitVec 64) (a1 : BitVec 64) : Option ((BitVec 64) × (BitVec 64)) :=
  Let (a0 &&& 4294967295#64) fun x15 => Let (a0 >>> 32) fun x17 => Let (a1 &&& 4294967295#64) fun x19 => Let (a1 >>> 32) fun x21 => Let (x15 * x19) fun x24 => Let (x17 * x19) fun x27 => Let (x24 >>> 32) fun x29 => Let (x27 + x29) fun x30 => Let (x30 &&& 4294967295#64) fun x32 => Let (x30 >>> 32) fun x34 => Let (x15 * x21) fun x38 => Let (x32 + x38) fun x39 => Let (x17 * x21) fun x42 => Let (x42 + x34) fun x44 => Let (x39 >>> 32) fun x46 => Let (x44 + x46) fun x47 => Let (a0 * a1) fun x50 => some (x47, x50)
set_option maxRecDepth 100000 in
theorem bits_Mul64.calls  (a0 : BitVec 64) (a1 : BitVec 64) (r : (BitVec 64) × (BitVec 64)) (H : bits_Mul64 a0 a1 = some r) (w : World)   :
    Made Try.prog 49 #[U64 a0, U64 a1] w (.tuple #[U64 r.1, U64 r.2]) := by
  unfold bits_Mul64 at H
  have hM := Mm.start w (snap w) (snap_ok w)
  generalize snap w = h at *
  refine t_enter (vs := [U64 a0, U64 a1]) (n := 51) Try.func49 rfl rfl rfl hM ?_
  clear hM
  change T 51 _ _ _
  refine t_seq ?_
  refine t_region (fun ops hops => ?_)
  clear hops
  refine z_val (v := .int .u64 0) (val_assign rfl rfl) rfl rfl rfl (fun _ _ _ => trivial) ?_
  refine z_val (v := .int .u64 0) (val_assign rfl rfl) rfl rfl rfl (fun _ _ _ => trivial) ?_
  refine z_nil ?_
  refine t_seq ?_
  refine t_region (fun ops hops => ?_)
  clear hops
  refine z_val (v := U64 a0) (val_move rfl rfl) rfl rfl rfl (fun _ _ _ => trivial) ?_
  obtain ⟨x15, hx15, H⟩ := Let_elim H
  refine z_val (v := U64 x15) (by subst hx15; exact val_bin rfl rfl rfl rfl (u64_and_r _ _ _)) rfl rfl rfl (fun _ _ _ => trivial) ?_
  clear hx15
  refine z_val (v := U64 x15) (val_assign rfl rfl) rfl rfl rfl (fun _ _ _ => trivial) ?_
  refine z_nil ?_
  refine t_seq ?_
  refine t_region (fun ops hops => ?_)
  clear hops
  refine z_val (v := U64 a0) (val_move rfl rfl) rfl rfl rfl (fun _ _ _ => trivial) ?_
  obtain ⟨x17, hx17, H⟩ := Let_elim H
  refine z_val (v := U64 x17) (by subst hx17; exact val_bin rfl rfl rfl rfl (u64_shr _ _ _ _ (by decide))) rfl rfl rfl (fun _ _ _ => trivial) ?_
  clear hx17
  refine z_val (v := U64 x17) (val_assign rfl rfl) rfl rfl rfl (fun _ _ _ => trivial) ?_
  refine z_nil ?_
  refine t_seq ?_
  refine t_region (fun ops hops => ?_)
  clear hops
  refine z_val (v := U64 a1) (val_move rfl rfl) rfl rfl rfl (fun _ _ _ => trivial) ?_
  obtain ⟨x19, hx19, H⟩ := Let_elim H
  refine z_val (v := U64 x19) (by subst hx19; exact val_bin rfl rfl rfl rfl (u64_and_r _ _ _)) rfl rfl rfl (fun _ _ _ => trivial) ?_
  clear hx19
  refine z_val (v := U64 x19) (val_assign rfl rfl) rfl rfl rfl (fun _ _ _ => trivial) ?_
  refine z_nil ?_
  refine t_seq ?_
  refine t_region (fun ops hops => ?_)
  clear hops
  refine z_val (v := U64 a1) (val_move rfl rfl) rfl rfl rfl (fun _ _ _ => trivial) ?_
  obtain ⟨x21, hx21, H⟩ := Let_elim H
  refine z_val (v := U64 x21) (by subst hx21; exact val_bin rfl rfl rfl rfl (u64_shr _ _ _ _ (by decide))) rfl rfl rfl (fun _ _ _ => trivial) ?_
  clear hx21
  refine z_val (v := U64 x21) (val_assign rfl rfl) rfl rfl rfl (fun _ _ _ => trivial) ?_
  refine z_nil ?_
  refine t_seq ?_
  refine t_region (fun ops hops => ?_)
  clear hops
  refine z_val (v := U64 x15) (val_move rfl rfl) rfl rfl rfl (fun _ _ _ => trivial) ?_
  refine z_val (v := U64 x19) (val_move rfl rfl) rfl rfl rfl (fun _ _ _ => trivial) ?_
  obtain ⟨x24, hx24, H⟩ := Let_elim H
  refine z_val (v := U64 x24) (by subst hx24; exact val_bin rfl rfl rfl rfl (u64_mul _ _ _)) rfl rfl rfl (fun _ _ _ => trivial) ?_
  clear hx24
  refine z_val (v := U64 x24) (val_assign rfl rfl) rfl rfl rfl (fun _ _ _ => trivial) ?_
  refine z_nil ?_
  refine t_seq ?_
  refine t_region (fun ops hops => ?_)
  clear hops
  refine z_val (v := U64 x17) (val_move rfl rfl) rfl rfl rfl (fun _ _ _ => trivial) ?_
  refine z_val (v := U64 x19) (val_move rfl rfl) rfl rfl rfl (fun _ _ _ => trivial) ?_
  obtain ⟨x27, hx27, H⟩ := Let_elim H
  refine z_val (v := U64 x27) (by subst hx27; exact val_bin rfl rfl rfl rfl (u64_mul _ _ _)) rfl rfl rfl (fun _ _ _ => trivial) ?_
  clear hx27
  refine z_val (v := U64 x24) (val_move rfl rfl) rfl rfl rfl (fun _ _ _ => trivial) ?_
  obtain ⟨x29, hx29, H⟩ := Let_elim H
  refine z_val (v := U64 x29) (by subst hx29; exact val_bin rfl rfl rfl rfl (u64_shr _ _ _ _ (by decide))) rfl rfl rfl (fun _ _ _ => trivial) ?_
  clear hx29
  obtain ⟨x30, hx30, H⟩ := Let_elim H
  refine z_val (v := U64 x30) (by subst hx30; exact val_bin rfl rfl rfl rfl (u64_add _ _ _)) rfl rfl rfl (fun _ _ _ => trivial) ?_
  clear hx30
  refine z_val (v := U64 x30) (val_assign rfl rfl) rfl rfl rfl (fun _ _ _ => trivial) ?_
  refine z_nil ?_
  refine t_seq ?_
  refine t_region (fun ops hops => ?_)
  clear hops
  refine z_val (v := U64 x30) (val_move rfl rfl) rfl rfl rfl (fun _ _ _ => trivial) ?_
  obtain ⟨x32, hx32, H⟩ := Let_elim H
  refine z_val (v := U64 x32) (by subst hx32; exact val_bin rfl rfl rfl rfl (u64_and_r _ _ _)) rfl rfl rfl (fun _ _ _ => trivial) ?_
  clear hx32
  refine z_val (v := U64 x32) (val_assign rfl rfl) rfl rfl rfl (fun _ _ _ => trivial) ?_
  refine z_nil ?_
  refine t_seq ?_
  refine t_region (fun ops hops => ?_)
  clear hops
  refine z_val (v := U64 x30) (val_move rfl rfl) rfl rfl rfl (fun _ _ _ => trivial) ?_
  obtain ⟨x34, hx34, H⟩ := Let_elim H
  refine z_val (v := U64 x34) (by subst hx34; exact val_bin rfl rfl rfl rfl (u64_shr _ _ _ _ (by decide))) rfl rfl rfl (fun _ _ _ => trivial) ?_
  clear hx34
  refine z_val (v := U64 x34) (val_assign rfl rfl) rfl rfl rfl (fun _ _ _ => trivial) ?_
  refine z_nil ?_
  refine t_seq ?_
  refine t_region (fun ops hops => ?_)
  clear hops
  refine z_val (v := U64 x32) (val_move rfl rfl) rfl rfl rfl (fun _ _ _ => trivial) ?_
  refine z_val (v := U64 x15) (val_move rfl rfl) rfl rfl rfl (fun _ _ _ => trivial) ?_
  refine z_val (v := U64 x21) (val_move rfl rfl) rfl rfl rfl (fun _ _ _ => trivial) ?_
  obtain ⟨x38, hx38, H⟩ := Let_elim H
  refine z_val (v := U64 x38) (by subst hx38; exact val_bin rfl rfl rfl rfl (u64_mul _ _ _)) rfl rfl rfl (fun _ _ _ => trivial) ?_
  clear hx38
  obtain ⟨x39, hx39, H⟩ := Let_elim H
  refine z_val (v := U64 x39) (by subst hx39; exact val_bin rfl rfl rfl rfl (u64_add _ _ _)) rfl rfl rfl (fun _ _ _ => trivial) ?_
  clear hx39
  refine z_val (v := U64 x39) (val_assign rfl rfl) rfl rfl rfl (fun _ _ _ => trivial) ?_
  refine z_nil ?_
  refine t_seq ?_
  refine t_region (fun ops hops => ?_)
  clear hops
  refine z_val (v := U64 x17) (val_move rfl rfl) rfl rfl rfl (fun _ _ _ => trivial) ?_
  refine z_val (v := U64 x21) (val_move rfl rfl) rfl rfl rfl (fun _ _ _ => trivial) ?_
  obtain ⟨x42, hx42, H⟩ := Let_elim H
  refine z_val (v := U64 x42) (by subst hx42; exact val_bin rfl rfl rfl rfl (u64_mul _ _ _)) rfl rfl rfl (fun _ _ _ => trivial) ?_
  clear hx42
  refine z_val (v := U64 x34) (val_move rfl rfl) rfl rfl rfl (fun _ _ _ => trivial) ?_
  obtain ⟨x44, hx44, H⟩ := Let_elim H
  refine z_val (v := U64 x44) (by subst hx44; exact val_bin rfl rfl rfl rfl (u64_add _ _ _)) rfl rfl rfl (fun _ _ _ => trivial) ?_
  clear hx44
  refine z_val (v := U64 x39) (val_move rfl rfl) rfl rfl rfl (fun _ _ _ => trivial) ?_
  obtain ⟨x46, hx46, H⟩ := Let_elim H
  refine z_val (v := U64 x46) (by subst hx46; exact val_bin rfl rfl rfl rfl (u64_shr _ _ _ _ (by decide))) rfl rfl rfl (fun _ _ _ => trivial) ?_
  clear hx46
  obtain ⟨x47, hx47, H⟩ := Let_elim H
  refine z_val (v := U64 x47) (by subst hx47; exact val_bin rfl rfl rfl rfl (u64_add _ _ _)) rfl rfl rfl (fun _ _ _ => trivial) ?_
  clear hx47
  refine z_val (v := U64 x47) (val_assign rfl rfl) rfl rfl rfl (fun _ _ _ => trivial) ?_
  refine z_nil ?_
  refine t_seq ?_
  refine t_region (fun ops hops => ?_)
  clear hops
  refine z_val (v := U64 a0) (val_move rfl rfl) rfl rfl rfl (fun _ _ _ => trivial) ?_
  refine z_val (v := U64 a1) (val_move rfl rfl) rfl rfl rfl (fun _ _ _ => trivial) ?_
  obtain ⟨x50, hx50, H⟩ := Let_elim H
  refine z_val (v := U64 x50) (by subst hx50; exact val_bin rfl rfl rfl rfl (u64_mul _ _ _)) rfl rfl rfl (fun _ _ _ => trivial) ?_
  clear hx50
  refine z_val (v := U64 x50) (val_assign rfl rfl) rfl rfl rfl (fun _ _ _ => trivial) ?_
  refine z_nil ?_
  refine t_ret ?_
  obtain rfl := Option.some.inj H
  exact ret2 rfl (res_tmp rfl) (res_tmp rfl) (fun _ hw => ⟨rfl, hw.below⟩)
def word_Mul.b2 (x12 : Int) (a0 : Vec (BitVec 64) 4) (a1 : Vec (BitVec 64) 4) (y_4_5 : Vec (BitVec 64) 4) (x7 : BitVec 64) (x8 : Int) : Option (Ctl ((Vec (BitVec 64) 4) × (BitVec 64) × (Int)) (Vec (BitVec 64) 4)) :=
  Let (wi (x12 + x8)) fun x17 => Let (decide (x17 < 4)) fun x18 => (bif x18 then Chk (0 ≤ x12 ∧ x12 < ((4 : Nat) : Int)) <| Let (a0.get x12.toNat) fun x24 => Chk (0 ≤ x8 ∧ x8 < ((4 : Nat) : Int)) <| Let (a1.get x8.toNat) fun x27 => (bits_Mul64 x24 x27).bind fun x28 => Let (wi (x12 + x8)) fun x35 => Chk (0 ≤ x35 ∧ x35 < ((4 : Nat) : Int)) <| Let (y_4_5.get x35.toNat) fun x37 => Chk ((0#64).toNat ≤ 1) <| Let (add64 x28.2 x37 0#64) fun x38 => Let (x28.1 + x38.2) fun x43 => Chk ((0#64).toNat ≤ 1) <| Let (add64 x38.1 x7 0#64) fun x47 => Let (wi (x12 + x8)) fun x52 => Chk (0 ≤ x52 ∧ x52 < ((4 : Nat) : Int)) <| Let (y_4_5.set x52.toNat x47.1) fun y_4_12 => Let (x43 + x47.2) fun x57 => Let (wi (x8 + 1)) fun x20 => some (.next (y_4_12, x57, x20)) else some (.brk (y_4_5, x7, x8)))
def word_Mul.b1 (a0 : Vec (BitVec 64) 4) (a1 : Vec (BitVec 64) 4) (y_4 : Vec (BitVec 64) 4) (x12 : Int) : Option (Ctl ((Vec (BitVec 64) 4) × (Int)) (Vec (BitVec 64) 4)) :=
  Let (decide (x12 < 4)) fun x13 => (bif x13 then (wlx (σ := (Vec (BitVec 64) 4) × (BitVec 64) × (Int)) (fun s => word_Mul.b2 x12 a0 a1 s.1 s.2.1 s.2.2) (y_4, 0#64, 0)).bind (Sum.elim (fun s => (fun y_4_5 x7 x8 => Let (wi (x12 + 1)) fun x58 => some (.next (y_4_5, x58))) s.1 s.2.1 s.2.2) (fun r => some (.ret r))) else some (.brk (y_4, x12)))
def word_Mul (a0 : Vec (BitVec 64) 4) (a1 : Vec (BitVec 64) 4) : Option (Vec (BitVec 64) 4) :=
  (wlx (σ := (Vec (BitVec 64) 4) × (Int)) (fun s => word_Mul.b1 a0 a1 s.1 s.2) ((Vec.rep 4 0#64), 0)).bind (Sum.elim (fun s => (fun y_4 x12 => some y_4) s.1 s.2) (fun r => some r))
set_option maxRecDepth 100000 in
theorem word_Mul.calls  (a0 : Vec (BitVec 64) 4) (a1 : Vec (BitVec 64) 4) (r : Vec (BitVec 64) 4) (H : word_Mul a0 a1 = some r) (w : World)   :
    Made Try.prog 36 #[.agg (cV U64 a0).toArray, .agg (cV U64 a1).toArray] w (.agg (cV U64 r).toArray) := by
  unfold word_Mul at H
  have hM := Mm.start w (snap w) (snap_ok w)
  generalize snap w = h at *
  refine t_enter (vs := [.agg (cV U64 a0).toArray, .agg (cV U64 a1).toArray]) (n := 60) Try.func36 rfl rfl rfl hM ?_
  clear hM
  change T 60 _ _ _
  refine t_seq ?_
  refine t_region (fun ops hops => ?_)
  clear hops
  refine z_box (cs := cV U64 a0) (room := 4) rfl rfl rfl (cV_len _) rfl rfl rfl (fun _ _ _ _ => trivial) (fun g_1 => ?_)
  refine z_box (cs := cV U64 a1) (room := 4) rfl rfl rfl (cV_len _) rfl rfl rfl (fun _ _ _ _ => trivial) (fun g_2 => ?_)
  refine z_alloc (cs := cV U64 (Vec.rep 4 0#64)) (room := 4) rfl ze57 rfl (cV_len _) rfl rfl rfl (fun _ _ _ _ => trivial) (fun g_3 => ?_)
  refine z_nil ?_
  refine t_seq ?_
  refine t_region (fun ops hops => ?_)
  clear hops
  refine z_alloc (cs := cV U64 (Vec.rep 4 0#64)) (room := 4) rfl ze57 rfl (cV_len _) rfl rfl rfl (fun _ _ _ _ => trivial) (fun g_4 => ?_)
  refine z_nil ?_
  refine t_seq ?_
  refine t_seq ?_
  refine t_region (fun ops hops => ?_)
  clear hops
  refine z_val (v := .int .i64 0) (val_move rfl rfl) rfl rfl rfl (fun _ _ _ => trivial) ?_
  refine z_nil ?_
  refine t_block ?_
  obtain ⟨z1, hz1, HK1⟩ := Option.bind_eq_some_iff.1 H
  clear H
  refine t_while hz1 (fun (s : (Vec (BitVec 64) 4) × (Int)) (g : Unit) => [(2, .pointer (some ⟨g_1, 0, none⟩)), (3, .pointer (some ⟨g_2, 0, none⟩)), (4, .pointer (some ⟨g_3, 0, none⟩)), (5, .pointer (some ⟨g_4, 0, none⟩)), (12, .int .i64 s.2)]) (fun (s : (Vec (BitVec 64) 4) × (Int)) (g : Unit) => [(4, .pointer (some ⟨g_3, 0, none⟩)), (5, .pointer (some ⟨g_4, 0, none⟩))]) (fun (s : (Vec (BitVec 64) 4) × (Int)) (g : Unit) => Mm w [] h [.blk g_4 57 (cV U64 s.1) 4, .blk g_3 57 (cV U64 (Vec.rep 4 0#64)) 4, .blk g_2 57 (cV U64 a1) 4, .blk g_1 57 (cV U64 a0) 4]) (fun (s : (Vec (BitVec 64) 4) × (Int)) (g : Unit) => Mm w [] h [.blk g_4 57 (cV U64 s.1) 4, .blk g_3 57 (cV U64 (Vec.rep 4 0#64)) 4]) (fun (s : (Vec (BitVec 64) 4) × (Int)) (g : Unit) => True) (fun (s : (Vec (BitVec 64) 4) × (Int)) (g : Unit) => True) () trivial (fun a w ha hw => ⟨ha.cons rfl (ha.cons rfl (ha.cons rfl (ha.cons rfl (ha.cons rfl (ha.nil))))), hw⟩) (fun Gn Gb s g e hφ H hn1 hb1 hr1 => ?_) (fun s g hzz hφ => ?_)
  ·
    obtain ⟨y_4, x12⟩ := s
    change word_Mul.b1 a0 a1 y_4 x12 = some e at H
    unfold word_Mul.b1 at H
    clear hz1
    change T 60 _ _ _
    refine t_seq ?_
    refine t_region (fun ops hops => ?_)
    clear hops
    obtain ⟨x13, hx13, H⟩ := Let_elim H
    refine z_val (v := .bool x13) (by subst hx13; exact val_bin rfl rfl rfl rfl (i64_lss _ _ _)) rfl rfl rfl (fun _ _ _ => trivial) ?_
    clear hx13
    refine z_nil ?_
    refine t_seq ?_
    cases x13
    ·
      replace H := cond_f H
      refine t_cond_false rfl ?_
      refine t_exit rfl ?_
      obtain rfl := Option.some.inj H
      exact t_reach ((hb1 _ () rfl trivial).weak (fun a ha => ha.cons rfl (ha.cons rfl (ha.nil))) (fun w hw => hw.sel [0, 1] rfl rfl))
    ·
      replace H := cond_t H
      refine t_cond_true rfl ?_
      refine t_skip ?_
      refine t_seq ?_
      refine t_block ?_
      refine t_seq ?_
      refine t_region (fun ops hops => ?_)
      clear hops
      refine z_val (v := .int .i64 x12) (val_move rfl rfl) rfl rfl rfl (fun _ _ _ => trivial) ?_
      refine z_val (v := .int .i64 x12) (val_assign rfl rfl) rfl rfl rfl (fun _ _ _ => trivial) ?_
      refine z_nil ?_
      refine t_seq ?_
      refine t_region (fun ops hops => ?_)
      clear hops
      refine z_val (v := .int .u64 0) (val_assign rfl rfl) rfl rfl rfl (fun _ _ _ => trivial) ?_
      refine z_nil ?_
      refine t_seq ?_
      refine t_region (fun ops hops => ?_)
      clear hops
      refine z_val (v := .int .i64 0) (val_assign rfl rfl) rfl rfl rfl (fun _ _ _ => trivial) ?_
      refine z_nil ?_
      refine t_block ?_
      obtain ⟨z2, hz2, HK2⟩ := Option.bind_eq_some_iff.1 H
      clear H
      refine t_while hz2 (fun (s : (Vec (BitVec 64) 4) × (BitVec 64) × (Int)) (g : Unit) => [(2, .pointer (some ⟨g_1, 0, none⟩)), (3, .pointer (some ⟨g_2, 0, none⟩)), (4, .pointer (some ⟨g_3, 0, none⟩)), (5, .pointer (some ⟨g_4, 0, none⟩)), (6, .int .i64 x12), (7, U64 s.2.1), (8, .int .i64 s.2.2), (12, .int .i64 x12)]) (fun (s : (Vec (BitVec 64) 4) × (BitVec 64) × (Int)) (g : Unit) => [(2, .pointer (some ⟨g_1, 0, none⟩)), (3, .pointer (some ⟨g_2, 0, none⟩)), (4, .pointer (some ⟨g_3, 0, none⟩)), (5, .pointer (some ⟨g_4, 0, none⟩)), (12, .int .i64 x12)]) (fun (s : (Vec (BitVec 64) 4) × (BitVec 64) × (Int)) (g : Unit) => Mm w [] h [.blk g_4 57 (cV U64 s.1) 4, .blk g_3 57 (cV U64 (Vec.rep 4 0#64)) 4, .blk g_2 57 (cV U64 a1) 4, .blk g_1 57 (cV U64 a0) 4]) (fun (s : (Vec (BitVec 64) 4) × (BitVec 64) × (Int)) (g : Unit) => Mm w [] h [.blk g_4 57 (cV U64 s.1) 4, .blk g_3 57 (cV U64 (Vec.rep 4 0#64)) 4, .blk g_2 57 (cV U64 a1) 4, .blk g_1 57 (cV U64 a0) 4]) (fun (s : (Vec (BitVec 64) 4) × (BitVec 64) × (Int)) (g : Unit) => True) (fun (s : (Vec (BitVec 64) 4) × (BitVec 64) × (Int)) (g : Unit) => True) () trivial (fun a w ha hw => ⟨ha.cons rfl (ha.cons rfl (ha.cons rfl (ha.cons rfl (ha.cons rfl (ha.cons rfl (ha.cons rfl (ha.cons rfl (ha.nil)))))))), hw⟩) (fun Gn Gb s g e hφ H hn2 hb2 hr2 => ?_) (fun s g hzz hφ => ?_)
      ·
        obtain ⟨y_4_5, x7, x8⟩ := s
        change word_Mul.b2 x12 a0 a1 y_4_5 x7 x8 = some e at H
        unfold word_Mul.b2 at H
        clear hz2
        change T 60 _ _ _
        refine t_seq ?_
        refine t_seq ?_
        refine t_region (fun ops hops => ?_)
        clear hops
        refine z_val (v := .int .i64 x12) (val_move rfl rfl) rfl rfl rfl (fun _ _ _ => trivial) ?_
        refine z_val (v := .int .i64 x8) (val_move rfl rfl) rfl rfl rfl (fun _ _ _ => trivial) ?_
        obtain ⟨x17, hx17, H⟩ := Let_elim H
        refine z_val (v := .int .i64 x17) (by subst hx17; exact val_bin rfl rfl rfl rfl (i64_add _ _ _)) rfl rfl rfl (fun _ _ _ => trivial) ?_
        clear hx17
        obtain ⟨x18, hx18, H⟩ := Let_elim H
        refine z_val (v := .bool x18) (by subst hx18; exact val_bin rfl rfl rfl rfl (i64_lss _ _ _)) rfl rfl rfl (fun _ _ _ => trivial) ?_
        clear hx18
        refine z_nil ?_
        cases x18
        ·
          replace H := cond_f H
          refine t_cond_false rfl ?_
          refine t_exit rfl ?_
          obtain rfl := Option.some.inj H
          exact t_reach ((hb2 _ () rfl trivial).weak (fun a ha => ha.cons rfl (ha.cons rfl (ha.cons rfl (ha.cons rfl (ha.cons rfl (ha.nil)))))) (fun w hw => hw))
        ·
          replace H := cond_t H
          refine t_cond_true rfl ?_
          refine t_skip ?_
          refine t_seq ?_
          refine t_block ?_
          refine t_seq ?_
          refine t_plan (C := Mm w [] h [.blk g_4 57 (cV U64 y_4_5) 4, .blk g_3 57 (cV U64 (Vec.rep 4 0#64)) 4, .blk g_2 57 (cV U64 a1) 4, .blk g_1 57 (cV U64 a0) 4]) [] [(0, true), (1, true), (2, true), (3, true), (4, true), (5, true), (6, false), (7, true), (8, true), (9, true), (10, true), (11, true)] (by kernel_rfl) (by kernel_rfl) (fun _ hw => hw.drew) (fun ops hops => ?_)
          clear hops
          refine z_still (v := .int .i64 x12) (val_move rfl rfl) rfl rfl rfl (fun _ hw => hw) ?_
          obtain ⟨hq_6, H⟩ := Chk_elim H
          refine z_still (v := .pointer (some ⟨g_1, x12.toNat, none⟩)) (val_idx0 rfl rfl rfl Try.underlying57 sz38 hq_6 rfl) rfl rfl rfl (fun _ hw => hw) ?_
          obtain ⟨x24, hx24, H⟩ := Let_elim H
          refine z_still (v := U64 x24) (by subst hx24; exact val_load1 rfl rfl Try.underlying38 rfl (fun _ hw => hw.cell (j := 3) rfl (cV_at _ (idx_lt hq_6)))) rfl rfl rfl (fun _ hw => hw) ?_
          clear hx24
          refine z_still (v := .int .i64 x8) (val_move rfl rfl) rfl rfl rfl (fun _ hw => hw) ?_
          obtain ⟨hq_7, H⟩ := Chk_elim H
          refine z_still (v := .pointer (some ⟨g_2, x8.toNat, none⟩)) (val_idx0 rfl rfl rfl Try.underlying57 sz38 hq_7 rfl) rfl rfl rfl (fun _ hw => hw) ?_
          obtain ⟨x27, hx27, H⟩ := Let_elim H
          refine z_still (v := U64 x27) (by subst hx27; exact val_load1 rfl rfl Try.underlying38 rfl (fun _ hw => hw.cell (j := 2) rfl (cV_at _ (idx_lt hq_7)))) rfl rfl rfl (fun _ hw => hw) ?_
          clear hx27
          obtain ⟨x28, hx, H⟩ := Option.bind_eq_some_iff.1 H
          refine z_made (v := .tuple #[U64 x28.1, U64 x28.2]) rfl Try.func49 nm49 bs49 rfl (fun w hw => bits_Mul64.calls x24 x27 x28 hx w) rfl rfl rfl (fun _ _ hw => hw) ?_
          clear hx
          refine z_still (v := .tuple #[U64 x28.1, U64 x28.2]) (val_move rfl rfl) rfl rfl rfl (fun _ hw => hw) ?_
          refine z_still (v := U64 x28.1) (val_extract rfl rfl rfl) rfl rfl rfl (fun _ hw => hw) ?_
          refine z_still (v := U64 x28.2) (val_extract rfl rfl rfl) rfl rfl rfl (fun _ hw => hw) ?_
          refine z_still (v := U64 x28.1) (val_assign rfl rfl) rfl rfl rfl (fun _ hw => hw) ?_
          refine z_still (v := U64 x28.2) (val_assign rfl rfl) rfl rfl rfl (fun _ hw => hw) ?_
          refine z_nil ?_
          refine t_seq ?_
          refine t_region (fun ops hops => ?_)
          clear hops
          refine z_val (v := U64 x28.2) (val_move rfl rfl) rfl rfl rfl (fun _ _ _ => trivial) ?_
          refine z_val (v := .int .i64 x12) (val_move rfl rfl) rfl rfl rfl (fun _ _ _ => trivial) ?_
          refine z_val (v := .int .i64 x8) (val_move rfl rfl) rfl rfl rfl (fun _ _ _ => trivial) ?_
          obtain ⟨x35, hx35, H⟩ := Let_elim H
          refine z_val (v := .int .i64 x35) (by subst hx35; exact val_bin rfl rfl rfl rfl (i64_add _ _ _)) rfl rfl rfl (fun _ _ _ => trivial) ?_
          clear hx35
          obtain ⟨hq_8, H⟩ := Chk_elim H
          refine z_val (v := .pointer (some ⟨g_4, x35.toNat, none⟩)) (val_idx0 rfl rfl rfl Try.underlying57 sz38 hq_8 rfl) rfl rfl rfl (fun _ _ _ => trivial) ?_
          obtain ⟨x37, hx37, H⟩ := Let_elim H
          refine z_val (v := U64 x37) (by subst hx37; exact val_load1 rfl rfl Try.underlying38 rfl (fun _ hw => hw.cell (j := 0) rfl (cV_at _ (idx_lt hq_8)))) rfl rfl rfl (fun _ _ _ => trivial) ?_
          clear hx37
          obtain ⟨hq_9, H⟩ := Chk_elim H
          obtain ⟨x38, hx38, H⟩ := Let_elim H
          refine z_val (v := .tuple #[U64 x38.1, U64 x38.2]) (by subst hx38; exact val_extern (vs := [U64 x28.2, U64 x37, U64 0#64]) rfl Try.func48 xn48 xb48 xx48 xf48 rfl (fun w hw => run_add64 hq_9)) rfl rfl rfl (fun _ _ _ => trivial) ?_
          clear hx38
          refine z_val (v := .tuple #[U64 x38.1, U64 x38.2]) (val_move rfl rfl) rfl rfl rfl (fun _ _ _ => trivial) ?_
          refine z_val (v := U64 x38.1) (val_extract rfl rfl rfl) rfl rfl rfl (fun _ _ _ => trivial) ?_
          refine z_val (v := U64 x38.2) (val_extract rfl rfl rfl) rfl rfl rfl (fun _ _ _ => trivial) ?_
          refine z_val (v := U64 x38.1) (val_assign rfl rfl) rfl rfl rfl (fun _ _ _ => trivial) ?_
          refine z_val (v := U64 x38.2) (val_assign rfl rfl) rfl rfl rfl (fun _ _ _ => trivial) ?_
          refine z_nil ?_
          refine t_seq ?_
          refine t_region (fun ops hops => ?_)
          clear hops
          refine z_val (v := U64 x28.1) (val_move rfl rfl) rfl rfl rfl (fun _ _ _ => trivial) ?_
          refine z_val (v := U64 x38.2) (val_move rfl rfl) rfl rfl rfl (fun _ _ _ => trivial) ?_
          obtain ⟨x43, hx43, H⟩ := Let_elim H
          refine z_val (v := U64 x43) (by subst hx43; exact val_bin rfl rfl rfl rfl (u64_add _ _ _)) rfl rfl rfl (fun _ _ _ => trivial) ?_
          clear hx43
          refine z_val (v := U64 x43) (val_assign rfl rfl) rfl rfl rfl (fun _ _ _ => trivial) ?_
          refine z_nil ?_
          refine t_seq ?_
          refine t_region (fun ops hops => ?_)
          clear hops
          refine z_val (v := U64 x38.1) (val_move rfl rfl) rfl rfl rfl (fun _ _ _ => trivial) ?_
          refine z_val (v := U64 x7) (val_move rfl rfl) rfl rfl rfl (fun _ _ _ => trivial) ?_
          obtain ⟨hq_10, H⟩ := Chk_elim H
          obtain ⟨x47, hx47, H⟩ := Let_elim H
          refine z_val (v := .tuple #[U64 x47.1, U64 x47.2]) (by subst hx47; exact val_extern (vs := [U64 x38.1, U64 x7, U64 0#64]) rfl Try.func48 xn48 xb48 xx48 xf48 rfl (fun w hw => run_add64 hq_10)) rfl rfl rfl (fun _ _ _ => trivial) ?_
          clear hx47
          refine z_val (v := .tuple #[U64 x47.1, U64 x47.2]) (val_move rfl rfl) rfl rfl rfl (fun _ _ _ => trivial) ?_
          refine z_val (v := U64 x47.1) (val_extract rfl rfl rfl) rfl rfl rfl (fun _ _ _ => trivial) ?_
          refine z_val (v := U64 x47.2) (val_extract rfl rfl rfl) rfl rfl rfl (fun _ _ _ => trivial) ?_
          refine z_val (v := U64 x47.1) (val_assign rfl rfl) rfl rfl rfl (fun _ _ _ => trivial) ?_
          refine z_val (v := U64 x47.2) (val_assign rfl rfl) rfl rfl rfl (fun _ _ _ => trivial) ?_
          refine z_nil ?_
          refine t_seq ?_
          refine t_region (fun ops hops => ?_)
          clear hops
          refine z_val (v := .int .i64 x12) (val_move rfl rfl) rfl rfl rfl (fun _ _ _ => trivial) ?_
          refine z_val (v := .int .i64 x8) (val_move rfl rfl) rfl rfl rfl (fun _ _ _ => trivial) ?_
          obtain ⟨x52, hx52, H⟩ := Let_elim H
          refine z_val (v := .int .i64 x52) (by subst hx52; exact val_bin rfl rfl rfl rfl (i64_add _ _ _)) rfl rfl rfl (fun _ _ _ => trivial) ?_
          clear hx52
          refine z_val (v := U64 x47.1) (val_move rfl rfl) rfl rfl rfl (fun _ _ _ => trivial) ?_
          obtain ⟨hq_11, H⟩ := Chk_elim H
          refine z_val (v := .pointer (some ⟨g_4, x52.toNat, none⟩)) (val_idx0 rfl rfl rfl Try.underlying57 sz38 hq_11 rfl) rfl rfl rfl (fun _ _ _ => trivial) ?_
          obtain ⟨y_4_12, hy_4_12, H⟩ := Let_elim H
          refine z_store1 (j := 0) (cs' := cV U64 y_4_12) (L' := [.blk g_4 57 (cV U64 y_4_12) 4, .blk g_3 57 (cV U64 (Vec.rep 4 0#64)) 4, .blk g_2 57 (cV U64 a1) 4, .blk g_1 57 (cV U64 a0) 4]) rfl rfl rfl rfl rfl sz38 rfl (by rw [cV_len]; exact (idx_lt hq_11)) (by subst hy_4_12; exact cV_set (f := U64) _ _ x47.1) rfl rfl rfl (fun _ _ _ => trivial) ?_
          clear hy_4_12
          refine z_nil ?_
          refine t_region (fun ops hops => ?_)
          clear hops
          refine z_val (v := U64 x43) (val_move rfl rfl) rfl rfl rfl (fun _ _ _ => trivial) ?_
          refine z_val (v := U64 x47.2) (val_move rfl rfl) rfl rfl rfl (fun _ _ _ => trivial) ?_
          obtain ⟨x57, hx57, H⟩ := Let_elim H
          refine z_val (v := U64 x57) (by subst hx57; exact val_bin rfl rfl rfl rfl (u64_add _ _ _)) rfl rfl rfl (fun _ _ _ => trivial) ?_
          clear hx57
          refine z_val (v := U64 x57) (val_assign rfl rfl) rfl rfl rfl (fun _ _ _ => trivial) ?_
          refine z_nil ?_
          refine t_fin ?_
          refine t_region (fun ops hops => ?_)
          clear hops
          refine z_val (v := .int .i64 x8) (val_move rfl rfl) rfl rfl rfl (fun _ _ _ => trivial) ?_
          obtain ⟨x20, hx20, H⟩ := Let_elim H
          refine z_val (v := .int .i64 x20) (by subst hx20; exact val_bin rfl rfl rfl rfl (i64_add _ _ _)) rfl rfl rfl (fun _ _ _ => trivial) ?_
          clear hx20
          refine z_val (v := .int .i64 x20) (val_assign rfl rfl) rfl rfl rfl (fun _ _ _ => trivial) ?_
          refine z_nil ?_
          obtain rfl := Option.some.inj H
          exact t_reach ((hn2 _ () rfl trivial).weak (fun a ha => ha.cons rfl (ha.cons rfl (ha.cons rfl (ha.cons rfl (ha.cons rfl (ha.cons rfl (ha.cons rfl (ha.cons rfl (ha.nil))))))))) (fun w hw => hw))
      ·
        obtain ⟨y_4_5, x7, x8⟩ := s
        subst hzz
        have H := HK2
        clear HK2 hz2
        replace H := sum_l H
        try dsimp only at H
        change T 60 _ _ _
        refine t_fin ?_
        refine t_region (fun ops hops => ?_)
        clear hops
        obtain ⟨x58, hx58, H⟩ := Let_elim H
        refine z_val (v := .int .i64 x58) (by subst hx58; exact val_bin rfl rfl rfl rfl (i64_add _ _ _)) rfl rfl rfl (fun _ _ _ => trivial) ?_
        clear hx58
        refine z_val (v := .int .i64 x58) (val_move rfl rfl) rfl rfl rfl (fun _ _ _ => trivial) ?_
        refine z_nil ?_
        obtain rfl := Option.some.inj H
        exact t_reach ((hn1 _ () rfl trivial).weak (fun a ha => ha.cons rfl (ha.cons rfl (ha.cons rfl (ha.cons rfl (ha.cons rfl (ha.nil)))))) (fun w hw => hw))
  ·
    obtain ⟨y_4, x12⟩ := s
    subst hzz
    have H := HK1
    clear HK1 hz1
    replace H := sum_l H
    try dsimp only at H
    change T 60 _ _ _
    refine t_seq ?_
    refine t_region (fun ops hops => ?_)
    clear hops
    refine z_val (v := .agg (cV U64 y_4).toArray) (val_loadR (off := 0) (cs := cV U64 y_4) rfl rfl Try.underlying57 rfl (sz57.trans (congrArg some (cV_len _).symm)) (fun _ hw => hw.whole (j := 0) rfl)) rfl rfl rfl (fun _ _ _ => trivial) ?_
    refine z_storeA (j := 1) (cs' := cV U64 y_4) (L' := [.blk g_4 57 (cV U64 y_4) 4, .blk g_3 57 (cV U64 y_4) 4]) rfl rfl rfl (cV_one (fun _ => rfl) _) sz57 rfl (cV_len _) rfl rfl rfl (fun _ _ _ => trivial) ?_
    refine z_nil ?_
    refine t_ret ?_
    obtain rfl := Option.some.inj H
    exact ret1 rfl (res_row (j := 1) rfl Try.underlying57 rfl sz57 rfl (cV_len _)) (fun _ hw => ⟨rfl, hw.below⟩)
def wide_Product.b2 (x13 : Int) (a0 : Vec (BitVec 64) 4) (a1 : Vec (BitVec 64) 4) (y_5_6 : Vec (BitVec 64) 8) (x8 : BitVec 64) (x16 : Int) : Option (Ctl ((Vec (BitVec 64) 8) × (BitVec 64) × (Int)) ((Vec (BitVec 64) 4) × (Vec (BitVec 64) 4))) :=
  Let (decide (x16 < 4)) fun x17 => (bif x17 then Chk (0 ≤ x13 ∧ x13 < ((4 : Nat) : Int)) <| Let (a0.get x13.toNat) fun x22 => Chk (0 ≤ x16 ∧ x16 < ((4 : Nat) : Int)) <| Let (a1.get x16.toNat) fun x25 => (bits_Mul64 x22 x25).bind fun x26 => Let (wi (x13 + x16)) fun x33 => Chk (0 ≤ x33 ∧ x33 < ((8 : Nat) : Int)) <| Let (y_5_6.get x33.toNat) fun x35 => Chk ((0#64).toNat ≤ 1) <| Let (add64 x26.2 x35 0#64) fun x36 => Let (x26.1 + x36.2) fun x41 => Chk ((0#64).toNat ≤ 1) <| Let (add64 x36.1 x8 0#64) fun x45 => Let (wi (x13 + x16)) fun x50 => Chk (0 ≤ x50 ∧ x50 < ((8 : Nat) : Int)) <| Let (y_5_6.set x50.toNat x45.1) fun y_5_13 => Let (x41 + x45.2) fun x55 => Let (wi (x16 + 1)) fun x56 => some (.next (y_5_13, x55, x56)) else some (.brk (y_5_6, x8, x16)))
def wide_Product.b1 (a0 : Vec (BitVec 64) 4) (a1 : Vec (BitVec 64) 4) (y_5 : Vec (BitVec 64) 8) (x13 : Int) : Option (Ctl ((Vec (BitVec 64) 8) × (Int)) ((Vec (BitVec 64) 4) × (Vec (BitVec 64) 4))) :=
  Let (decide (x13 < 4)) fun x14 => (bif x14 then (wlx (σ := (Vec (BitVec 64) 8) × (BitVec 64) × (Int)) (fun s => wide_Product.b2 x13 a0 a1 s.1 s.2.1 s.2.2) (y_5, 0#64, 0)).bind (Sum.elim (fun s => (fun y_5_6 x8 x16 => Let (wi (x13 + 4)) fun x58 => Chk (0 ≤ x58 ∧ x58 < ((8 : Nat) : Int)) <| Let (y_5_6.set x58.toNat x8) fun y_5_15 => Let (wi (x13 + 1)) fun x61 => some (.next (y_5_15, x61))) s.1 s.2.1 s.2.2) (fun r => some (.ret r))) else some (.brk (y_5, x13)))
def wide_Product (a0 : Vec (BitVec 64) 4) (a1 : Vec (BitVec 64) 4) : Option ((Vec (BitVec 64) 4) × (Vec (BitVec 64) 4)) :=
  (wlx (σ := (Vec (BitVec 64) 8) × (Int)) (fun s => wide_Product.b1 a0 a1 s.1 s.2) ((Vec.rep 8 0#64), 0)).bind (Sum.elim (fun s => (fun y_5 x13 => Let ((y_5.l.take 4).drop 0) fun x62 => Chk (4 ≤ x62.length) <| Let (y_5.part 0 4) fun x64 => Let ((y_5.l.take 8).drop 4) fun x65 => Chk (4 ≤ x65.length) <| Let (y_5.part 4 4) fun x67 => some (x64, x67)) s.1 s.2) (fun r => some r))
set_option maxRecDepth 100000 in
theorem wide_Product.calls  (a0 : Vec (BitVec 64) 4) (a1 : Vec (BitVec 64) 4) (r : (Vec (BitVec 64) 4) × (Vec (BitVec 64) 4)) (H : wide_Product a0 a1 = some r) (w : World)   :
    Made Try.prog 37 #[.agg (cV U64 a0).toArray, .agg (cV U64 a1).toArray] w (.tuple #[.agg (cV U64 r.1).toArray, .agg (cV U64 r.2).toArray]) := by
  unfold wide_Product at H
  have hM := Mm.start w (snap w) (snap_ok w)
  generalize snap w = h at *
  refine t_enter (vs := [.agg (cV U64 a0).toArray, .agg (cV U64 a1).toArray]) (n := 68) Try.func37 rfl rfl rfl hM ?_
  clear hM
  change T 68 _ _ _
  refine t_seq ?_
  refine t_region (fun ops hops => ?_)
  clear hops
  refine z_box (cs := cV U64 a0) (room := 4) rfl rfl rfl (cV_len _) rfl rfl rfl (fun _ _ _ _ => trivial) (fun g_1 => ?_)
  refine z_box (cs := cV U64 a1) (room := 4) rfl rfl rfl (cV_len _) rfl rfl rfl (fun _ _ _ _ => trivial) (fun g_2 => ?_)
  refine z_alloc (cs := cV U64 (Vec.rep 4 0#64)) (room := 4) rfl ze57 rfl (cV_len _) rfl rfl rfl (fun _ _ _ _ => trivial) (fun g_3 => ?_)
  refine z_alloc (cs := cV U64 (Vec.rep 4 0#64)) (room := 4) rfl ze57 rfl (cV_len _) rfl rfl rfl (fun _ _ _ _ => trivial) (fun g_4 => ?_)
  refine z_nil ?_
  refine t_seq ?_
  refine t_region (fun ops hops => ?_)
  clear hops
  refine z_alloc (cs := cV U64 (Vec.rep 8 0#64)) (room := 8) rfl ze79 rfl (cV_len _) rfl rfl rfl (fun _ _ _ _ => trivial) (fun g_5 => ?_)
  refine z_nil ?_
  refine t_seq ?_
  refine t_seq ?_
  refine t_region (fun ops hops => ?_)
  clear hops
  refine z_val (v := .int .i64 0) (val_move rfl rfl) rfl rfl rfl (fun _ _ _ => trivial) ?_
  refine z_nil ?_
  refine t_block ?_
  obtain ⟨z1, hz1, HK1⟩ := Option.bind_eq_some_iff.1 H
  clear H
  refine t_while hz1 (fun (s : (Vec (BitVec 64) 8) × (Int)) (g : Unit) => [(2, .pointer (some ⟨g_1, 0, none⟩)), (3, .pointer (some ⟨g_2, 0, none⟩)), (4, .pointer (some ⟨g_3, 0, none⟩)), (5, .pointer (some ⟨g_4, 0, none⟩)), (6, .pointer (some ⟨g_5, 0, none⟩)), (13, .int .i64 s.2)]) (fun (s : (Vec (BitVec 64) 8) × (Int)) (g : Unit) => [(4, .pointer (some ⟨g_3, 0, none⟩)), (5, .pointer (some ⟨g_4, 0, none⟩)), (6, .pointer (some ⟨g_5, 0, none⟩))]) (fun (s : (Vec (BitVec 64) 8) × (Int)) (g : Unit) => Mm w [] h [.blk g_5 79 (cV U64 s.1) 8, .blk g_4 57 (cV U64 (Vec.rep 4 0#64)) 4, .blk g_3 57 (cV U64 (Vec.rep 4 0#64)) 4, .blk g_2 57 (cV U64 a1) 4, .blk g_1 57 (cV U64 a0) 4]) (fun (s : (Vec (BitVec 64) 8) × (Int)) (g : Unit) => Mm w [] h [.blk g_5 79 (cV U64 s.1) 8, .blk g_4 57 (cV U64 (Vec.rep 4 0#64)) 4, .blk g_3 57 (cV U64 (Vec.rep 4 0#64)) 4]) (fun (s : (Vec (BitVec 64) 8) × (Int)) (g : Unit) => True) (fun (s : (Vec (BitVec 64) 8) × (Int)) (g : Unit) => True) () trivial (fun a w ha hw => ⟨ha.cons rfl (ha.cons rfl (ha.cons rfl (ha.cons rfl (ha.cons rfl (ha.cons rfl (ha.nil)))))), hw⟩) (fun Gn Gb s g e hφ H hn1 hb1 hr1 => ?_) (fun s g hzz hφ => ?_)
  ·
    obtain ⟨y_5, x13⟩ := s
    change wide_Product.b1 a0 a1 y_5 x13 = some e at H
    unfold wide_Product.b1 at H
    clear hz1
    change T 68 _ _ _
    refine t_seq ?_
    refine t_region (fun ops hops => ?_)
    clear hops
    obtain ⟨x14, hx14, H⟩ := Let_elim H
    refine z_val (v := .bool x14) (by subst hx14; exact val_bin rfl rfl rfl rfl (i64_lss _ _ _)) rfl rfl rfl (fun _ _ _ => trivial) ?_
    clear hx14
    refine z_nil ?_
    refine t_seq ?_
    cases x14
    ·
      replace H := cond_f H
      refine t_cond_false rfl ?_
      refine t_exit rfl ?_
      obtain rfl := Option.some.inj H
      exact t_reach ((hb1 _ () rfl trivial).weak (fun a ha => ha.cons rfl (ha.cons rfl (ha.cons rfl (ha.nil)))) (fun w hw => hw.sel [0, 1, 2] rfl rfl))
    ·
      replace H := cond_t H
      refine t_cond_true rfl ?_
      refine t_skip ?_
      refine t_seq ?_
      refine t_block ?_
      refine t_seq ?_
      refine t_region (fun ops hops => ?_)
      clear hops
      refine z_val (v := .int .i64 x13) (val_move rfl rfl) rfl rfl rfl (fun _ _ _ => trivial) ?_
      refine z_val (v := .int .i64 x13) (val_assign rfl rfl) rfl rfl rfl (fun _ _ _ => trivial) ?_
      refine z_nil ?_
      refine t_seq ?_
      refine t_region (fun ops hops => ?_)
      clear hops
      refine z_val (v := .int .u64 0) (val_assign rfl rfl) rfl rfl rfl (fun _ _ _ => trivial) ?_
      refine z_nil ?_
      refine t_seq ?_
      refine t_seq ?_
      refine t_region (fun ops hops => ?_)
      clear hops
      refine z_val (v := .int .i64 0) (val_move rfl rfl) rfl rfl rfl (fun _ _ _ => trivial) ?_
      refine z_nil ?_
      refine t_block ?_
      obtain ⟨z2, hz2, HK2⟩ := Option.bind_eq_some_iff.1 H
      clear H
      refine t_while hz2 (fun (s : (Vec (BitVec 64) 8) × (BitVec 64) × (Int)) (g : Unit) => [(2, .pointer (some ⟨g_1, 0, none⟩)), (3, .pointer (some ⟨g_2, 0, none⟩)), (4, .pointer (some ⟨g_3, 0, none⟩)), (5, .pointer (some ⟨g_4, 0, none⟩)), (6, .pointer (some ⟨g_5, 0, none⟩)), (7, .int .i64 x13), (8, U64 s.2.1), (13, .int .i64 x13), (16, .int .i64 s.2.2)]) (fun (s : (Vec (BitVec 64) 8) × (BitVec 64) × (Int)) (g : Unit) => [(2, .pointer (some ⟨g_1, 0, none⟩)), (3, .pointer (some ⟨g_2, 0, none⟩)), (4, .pointer (some ⟨g_3, 0, none⟩)), (5, .pointer (some ⟨g_4, 0, none⟩)), (6, .pointer (some ⟨g_5, 0, none⟩)), (7, .int .i64 x13), (8, U64 s.2.1), (13, .int .i64 x13)]) (fun (s : (Vec (BitVec 64) 8) × (BitVec 64) × (Int)) (g : Unit) => Mm w [] h [.blk g_5 79 (cV U64 s.1) 8, .blk g_4 57 (cV U64 (Vec.rep 4 0#64)) 4, .blk g_3 57 (cV U64 (Vec.rep 4 0#64)) 4, .blk g_2 57 (cV U64 a1) 4, .blk g_1 57 (cV U64 a0) 4]) (fun (s : (Vec (BitVec 64) 8) × (BitVec 64) × (Int)) (g : Unit) => Mm w [] h [.blk g_5 79 (cV U64 s.1) 8, .blk g_4 57 (cV U64 (Vec.rep 4 0#64)) 4, .blk g_3 57 (cV U64 (Vec.rep 4 0#64)) 4, .blk g_2 57 (cV U64 a1) 4, .blk g_1 57 (cV U64 a0) 4]) (fun (s : (Vec (BitVec 64) 8) × (BitVec 64) × (Int)) (g : Unit) => True) (fun (s : (Vec (BitVec 64) 8) × (BitVec 64) × (Int)) (g : Unit) => True) () trivial (fun a w ha hw => ⟨ha.cons rfl (ha.cons rfl (ha.cons rfl (ha.cons rfl (ha.cons rfl (ha.cons rfl (ha.cons rfl (ha.cons rfl (ha.cons rfl (ha.nil))))))))), hw⟩) (fun Gn Gb s g e hφ H hn2 hb2 hr2 => ?_) (fun s g hzz hφ => ?_)
      ·
        obtain ⟨y_5_6, x8, x16⟩ := s
        change wide_Product.b2 x13 a0 a1 y_5_6 x8 x16 = some e at H
        unfold wide_Product.b2 at H
        clear hz2
        change T 68 _ _ _
        refine t_seq ?_
        refine t_region (fun ops hops => ?_)
        clear hops
        obtain ⟨x17, hx17, H⟩ := Let_elim H
        refine z_val (v := .bool x17) (by subst hx17; exact val_bin rfl rfl rfl rfl (i64_lss _ _ _)) rfl rfl rfl (fun _ _ _ => trivial) ?_
        clear hx17
        refine z_nil ?_
        refine t_seq ?_
        cases x17
        ·
          replace H := cond_f H
          refine t_cond_false rfl ?_
          refine t_exit rfl ?_
          obtain rfl := Option.some.inj H
          exact t_reach ((hb2 _ () rfl trivial).weak (fun a ha => ha.cons rfl (ha.cons rfl (ha.cons rfl (ha.cons rfl (ha.cons rfl (ha.cons rfl (ha.cons rfl (ha.cons rfl (ha.nil))))))))) (fun w hw => hw))
        ·
          replace H := cond_t H
          refine t_cond_true rfl ?_
          refine t_skip ?_
          refine t_seq ?_
          refine t_block ?_
          refine t_seq ?_
          refine t_region (fun ops hops => ?_)
          clear hops
          refine z_val (v := .int .i64 x16) (val_move rfl rfl) rfl rfl rfl (fun _ _ _ => trivial) ?_
          refine z_val (v := .int .i64 x16) (val_assign rfl rfl) rfl rfl rfl (fun _ _ _ => trivial) ?_
          refine z_nil ?_
          refine t_seq ?_
          refine t_plan (C := Mm w [] h [.blk g_5 79 (cV U64 y_5_6) 8, .blk g_4 57 (cV U64 (Vec.rep 4 0#64)) 4, .blk g_3 57 (cV U64 (Vec.rep 4 0#64)) 4, .blk g_2 57 (cV U64 a1) 4, .blk g_1 57 (cV U64 a0) 4]) [] [(0, true), (1, true), (2, true), (3, true), (4, true), (5, true), (6, false), (7, true), (8, true), (9, true), (10, true), (11, true)] (by kernel_rfl) (by kernel_rfl) (fun _ hw => hw.drew) (fun ops hops => ?_)
          clear hops
          refine z_still (v := .int .i64 x13) (val_move rfl rfl) rfl rfl rfl (fun _ hw => hw) ?_
          obtain ⟨hq_7, H⟩ := Chk_elim H
          refine z_still (v := .pointer (some ⟨g_1, x13.toNat, none⟩)) (val_idx0 rfl rfl rfl Try.underlying57 sz38 hq_7 rfl) rfl rfl rfl (fun _ hw => hw) ?_
          obtain ⟨x22, hx22, H⟩ := Let_elim H
          refine z_still (v := U64 x22) (by subst hx22; exact val_load1 rfl rfl Try.underlying38 rfl (fun _ hw => hw.cell (j := 4) rfl (cV_at _ (idx_lt hq_7)))) rfl rfl rfl (fun _ hw => hw) ?_
          clear hx22
          refine z_still (v := .int .i64 x16) (val_move rfl rfl) rfl rfl rfl (fun _ hw => hw) ?_
          obtain ⟨hq_8, H⟩ := Chk_elim H
          refine z_still (v := .pointer (some ⟨g_2, x16.toNat, none⟩)) (val_idx0 rfl rfl rfl Try.underlying57 sz38 hq_8 rfl) rfl rfl rfl (fun _ hw => hw) ?_
          obtain ⟨x25, hx25, H⟩ := Let_elim H
          refine z_still (v := U64 x25) (by subst hx25; exact val_load1 rfl rfl Try.underlying38 rfl (fun _ hw => hw.cell (j := 3) rfl (cV_at _ (idx_lt hq_8)))) rfl rfl rfl (fun _ hw => hw) ?_
          clear hx25
          obtain ⟨x26, hx, H⟩ := Option.bind_eq_some_iff.1 H
          refine z_made (v := .tuple #[U64 x26.1, U64 x26.2]) rfl Try.func49 nm49 bs49 rfl (fun w hw => bits_Mul64.calls x22 x25 x26 hx w) rfl rfl rfl (fun _ _ hw => hw) ?_
          clear hx
          refine z_still (v := .tuple #[U64 x26.1, U64 x26.2]) (val_move rfl rfl) rfl rfl rfl (fun _ hw => hw) ?_
          refine z_still (v := U64 x26.1) (val_extract rfl rfl rfl) rfl rfl rfl (fun _ hw => hw) ?_
          refine z_still (v := U64 x26.2) (val_extract rfl rfl rfl) rfl rfl rfl (fun _ hw => hw) ?_
          refine z_still (v := U64 x26.1) (val_assign rfl rfl) rfl rfl rfl (fun _ hw => hw) ?_
          refine z_still (v := U64 x26.2) (val_assign rfl rfl) rfl rfl rfl (fun _ hw => hw) ?_
          refine z_nil ?_
          refine t_seq ?_
          refine t_region (fun ops hops => ?_)
          clear hops
          refine z_val (v := U64 x26.2) (val_move rfl rfl) rfl rfl rfl (fun _ _ _ => trivial) ?_
          refine z_val (v := .int .i64 x13) (val_move rfl rfl) rfl rfl rfl (fun _ _ _ => trivial) ?_
          refine z_val (v := .int .i64 x16) (val_move rfl rfl) rfl rfl rfl (fun _ _ _ => trivial) ?_
          obtain ⟨x33, hx33, H⟩ := Let_elim H
          refine z_val (v := .int .i64 x33) (by subst hx33; exact val_bin rfl rfl rfl rfl (i64_add _ _ _)) rfl rfl rfl (fun _ _ _ => trivial) ?_
          clear hx33
          obtain ⟨hq_9, H⟩ := Chk_elim H
          refine z_val (v := .pointer (some ⟨g_5, x33.toNat, none⟩)) (val_idx0 rfl rfl rfl Try.underlying79 sz38 hq_9 rfl) rfl rfl rfl (fun _ _ _ => trivial) ?_
          obtain ⟨x35, hx35, H⟩ := Let_elim H
          refine z_val (v := U64 x35) (by subst hx35; exact val_load1 rfl rfl Try.underlying38 rfl (fun _ hw => hw.cell (j := 0) rfl (cV_at _ (idx_lt hq_9)))) rfl rfl rfl (fun _ _ _ => trivial) ?_
          clear hx35
          obtain ⟨hq_10, H⟩ := Chk_elim H
          obtain ⟨x36, hx36, H⟩ := Let_elim H
          refine z_val (v := .tuple #[U64 x36.1, U64 x36.2]) (by subst hx36; exact val_extern (vs := [U64 x26.2, U64 x35, U64 0#64]) rfl Try.func48 xn48 xb48 xx48 xf48 rfl (fun w hw => run_add64 hq_10)) rfl rfl rfl (fun _ _ _ => trivial) ?_
          clear hx36
          refine z_val (v := .tuple #[U64 x36.1, U64 x36.2]) (val_move rfl rfl) rfl rfl rfl (fun _ _ _ => trivial) ?_
          refine z_val (v := U64 x36.1) (val_extract rfl rfl rfl) rfl rfl rfl (fun _ _ _ => trivial) ?_
          refine z_val (v := U64 x36.2) (val_extract rfl rfl rfl) rfl rfl rfl (fun _ _ _ => trivial) ?_
          refine z_val (v := U64 x36.1) (val_assign rfl rfl) rfl rfl rfl (fun _ _ _ => trivial) ?_
          refine z_val (v := U64 x36.2) (val_assign rfl rfl) rfl rfl rfl (fun _ _ _ => trivial) ?_
          refine z_nil ?_
          refine t_seq ?_
          refine t_region (fun ops hops => ?_)
          clear hops
          refine z_val (v := U64 x26.1) (val_move rfl rfl) rfl rfl rfl (fun _ _ _ => trivial) ?_
          refine z_val (v := U64 x36.2) (val_move rfl rfl) rfl rfl rfl (fun _ _ _ => trivial) ?_
          obtain ⟨x41, hx41, H⟩ := Let_elim H
          refine z_val (v := U64 x41) (by subst hx41; exact val_bin rfl rfl rfl rfl (u64_add _ _ _)) rfl rfl rfl (fun _ _ _ => trivial) ?_
          clear hx41
          refine z_val (v := U64 x41) (val_assign rfl rfl) rfl rfl rfl (fun _ _ _ => trivial) ?_
          refine z_nil ?_
          refine t_seq ?_
          refine t_region (fun ops hops => ?_)
          clear hops
          refine z_val (v := U64 x36.1) (val_move rfl rfl) rfl rfl rfl (fun _ _ _ => trivial) ?_
          refine z_val (v := U64 x8) (val_move rfl rfl) rfl rfl rfl (fun _ _ _ => trivial) ?_
          obtain ⟨hq_11, H⟩ := Chk_elim H
          obtain ⟨x45, hx45, H⟩ := Let_elim H
          refine z_val (v := .tuple #[U64 x45.1, U64 x45.2]) (by subst hx45; exact val_extern (vs := [U64 x36.1, U64 x8, U64 0#64]) rfl Try.func48 xn48 xb48 xx48 xf48 rfl (fun w hw => run_add64 hq_11)) rfl rfl rfl (fun _ _ _ => trivial) ?_
          clear hx45
          refine z_val (v := .tuple #[U64 x45.1, U64 x45.2]) (val_move rfl rfl) rfl rfl rfl (fun _ _ _ => trivial) ?_
          refine z_val (v := U64 x45.1) (val_extract rfl rfl rfl) rfl rfl rfl (fun _ _ _ => trivial) ?_
          refine z_val (v := U64 x45.2) (val_extract rfl rfl rfl) rfl rfl rfl (fun _ _ _ => trivial) ?_
          refine z_val (v := U64 x45.1) (val_assign rfl rfl) rfl rfl rfl (fun _ _ _ => trivial) ?_
          refine z_val (v := U64 x45.2) (val_assign rfl rfl) rfl rfl rfl (fun _ _ _ => trivial) ?_
          refine z_nil ?_
          refine t_seq ?_
          refine t_region (fun ops hops => ?_)
          clear hops
          refine z_val (v := .int .i64 x13) (val_move rfl rfl) rfl rfl rfl (fun _ _ _ => trivial) ?_
          refine z_val (v := .int .i64 x16) (val_move rfl rfl) rfl rfl rfl (fun _ _ _ => trivial) ?_
          obtain ⟨x50, hx50, H⟩ := Let_elim H
          refine z_val (v := .int .i64 x50) (by subst hx50; exact val_bin rfl rfl rfl rfl (i64_add _ _ _)) rfl rfl rfl (fun _ _ _ => trivial) ?_
          clear hx50
          refine z_val (v := U64 x45.1) (val_move rfl rfl) rfl rfl rfl (fun _ _ _ => trivial) ?_
          obtain ⟨hq_12, H⟩ := Chk_elim H
          refine z_val (v := .pointer (some ⟨g_5, x50.toNat, none⟩)) (val_idx0 rfl rfl rfl Try.underlying79 sz38 hq_12 rfl) rfl rfl rfl (fun _ _ _ => trivial) ?_
          obtain ⟨y_5_13, hy_5_13, H⟩ := Let_elim H
          refine z_store1 (j := 0) (cs' := cV U64 y_5_13) (L' := [.blk g_5 79 (cV U64 y_5_13) 8, .blk g_4 57 (cV U64 (Vec.rep 4 0#64)) 4, .blk g_3 57 (cV U64 (Vec.rep 4 0#64)) 4, .blk g_2 57 (cV U64 a1) 4, .blk g_1 57 (cV U64 a0) 4]) rfl rfl rfl rfl rfl sz38 rfl (by rw [cV_len]; exact (idx_lt hq_12)) (by subst hy_5_13; exact cV_set (f := U64) _ _ x45.1) rfl rfl rfl (fun _ _ _ => trivial) ?_
          clear hy_5_13
          refine z_nil ?_
          refine t_region (fun ops hops => ?_)
          clear hops
          refine z_val (v := U64 x41) (val_move rfl rfl) rfl rfl rfl (fun _ _ _ => trivial) ?_
          refine z_val (v := U64 x45.2) (val_move rfl rfl) rfl rfl rfl (fun _ _ _ => trivial) ?_
          obtain ⟨x55, hx55, H⟩ := Let_elim H
          refine z_val (v := U64 x55) (by subst hx55; exact val_bin rfl rfl rfl rfl (u64_add _ _ _)) rfl rfl rfl (fun _ _ _ => trivial) ?_
          clear hx55
          refine z_val (v := U64 x55) (val_assign rfl rfl) rfl rfl rfl (fun _ _ _ => trivial) ?_
          refine z_nil ?_
          refine t_fin ?_
          refine t_region (fun ops hops => ?_)
          clear hops
          obtain ⟨x56, hx56, H⟩ := Let_elim H
          refine z_val (v := .int .i64 x56) (by subst hx56; exact val_bin rfl rfl rfl rfl (i64_add _ _ _)) rfl rfl rfl (fun _ _ _ => trivial) ?_
          clear hx56
          refine z_val (v := .int .i64 x56) (val_move rfl rfl) rfl rfl rfl (fun _ _ _ => trivial) ?_
          refine z_nil ?_
          obtain rfl := Option.some.inj H
          exact t_reach ((hn2 _ () rfl trivial).weak (fun a ha => ha.cons rfl (ha.cons rfl (ha.cons rfl (ha.cons rfl (ha.cons rfl (ha.cons rfl (ha.cons rfl (ha.cons rfl (ha.cons rfl (ha.nil)))))))))) (fun w hw => hw))
      ·
        obtain ⟨y_5_6, x8, x16⟩ := s
        subst hzz
        have H := HK2
        clear HK2 hz2
        replace H := sum_l H
        try dsimp only at H
        change T 68 _ _ _
        refine t_region (fun ops hops => ?_)
        clear hops
        refine z_val (v := .int .i64 x13) (val_move rfl rfl) rfl rfl rfl (fun _ _ _ => trivial) ?_
        obtain ⟨x58, hx58, H⟩ := Let_elim H
        refine z_val (v := .int .i64 x58) (by subst hx58; exact val_bin rfl rfl rfl rfl (i64_add _ _ _)) rfl rfl rfl (fun _ _ _ => trivial) ?_
        clear hx58
        refine z_val (v := U64 x8) (val_move rfl rfl) rfl rfl rfl (fun _ _ _ => trivial) ?_
        obtain ⟨hq_14, H⟩ := Chk_elim H
        refine z_val (v := .pointer (some ⟨g_5, x58.toNat, none⟩)) (val_idx0 rfl rfl rfl Try.underlying79 sz38 hq_14 rfl) rfl rfl rfl (fun _ _ _ => trivial) ?_
        obtain ⟨y_5_15, hy_5_15, H⟩ := Let_elim H
        refine z_store1 (j := 0) (cs' := cV U64 y_5_15) (L' := [.blk g_5 79 (cV U64 y_5_15) 8, .blk g_4 57 (cV U64 (Vec.rep 4 0#64)) 4, .blk g_3 57 (cV U64 (Vec.rep 4 0#64)) 4, .blk g_2 57 (cV U64 a1) 4, .blk g_1 57 (cV U64 a0) 4]) rfl rfl rfl rfl rfl sz38 rfl (by rw [cV_len]; exact (idx_lt hq_14)) (by subst hy_5_15; exact cV_set (f := U64) _ _ x8) rfl rfl rfl (fun _ _ _ => trivial) ?_
        clear hy_5_15
        refine z_nil ?_
        refine t_fin ?_
        refine t_region (fun ops hops => ?_)
        clear hops
        obtain ⟨x61, hx61, H⟩ := Let_elim H
        refine z_val (v := .int .i64 x61) (by subst hx61; exact val_bin rfl rfl rfl rfl (i64_add _ _ _)) rfl rfl rfl (fun _ _ _ => trivial) ?_
        clear hx61
        refine z_val (v := .int .i64 x61) (val_move rfl rfl) rfl rfl rfl (fun _ _ _ => trivial) ?_
        refine z_nil ?_
        obtain rfl := Option.some.inj H
        exact t_reach ((hn1 _ () rfl trivial).weak (fun a ha => ha.cons rfl (ha.cons rfl (ha.cons rfl (ha.cons rfl (ha.cons rfl (ha.cons rfl (ha.nil))))))) (fun w hw => hw))
  ·
    obtain ⟨y_5, x13⟩ := s
    subst hzz
    have H := HK1
    clear HK1 hz1
    replace H := sum_l H
    try dsimp only at H
    change T 68 _ _ _
    refine t_seq ?_
    refine t_plan (C := Mm w [] h [.blk g_5 79 (cV U64 y_5) 8]) [] [(0, true), (1, true), (2, true), (3, true), (4, true), (5, true), (6, false), (7, false)] (by kernel_rfl) (by kernel_rfl) (fun _ hw => hw.drew) (fun ops hops => ?_)
    clear hops
    obtain ⟨x62, hx62, H⟩ := Let_elim H
    have hln : 0 ≤ 4 ∧ 4 ≤ 8 := by decide
    have hl : x62.length = 4 - 0 := by subst hx62; exact sla_len _ hln.2
    obtain ⟨q_16, hq_17⟩ : ∃ z, z = (if 8 = 0 then 0 else 0) := ⟨_, rfl⟩
    obtain ⟨c_18, hc_190⟩ : ∃ z, z = 8 - 0 := ⟨_, rfl⟩
    have hc_19 : x62.length ≤ c_18 := by omega
    refine z_still (v := .slice (some ⟨g_5, q_16, none⟩) x62.length c_18) (val_sliceA (l := 0) (k := 4) rfl rfl Try.underlying79 sz38 (.inl ⟨rfl, rfl⟩) (.inr ⟨_, rfl, _, _, rfl, rfl⟩) hln.1 hln.2 (by rw [hl, hq_17, hc_190]; first | rfl | (congr 2; split <;> simp))) rfl rfl rfl (fun _ hw => hw.sel [0] rfl rfl) ?_
    obtain ⟨hq_20, H⟩ := Chk_elim H
    have hq_21 : q_16 = 0 := by rw [hq_17]; split <;> omega
    have hl_22 : 0 + 4 ≤ 8 := by omega
    refine z_still (v := .pointer (some ⟨g_5, q_16, none⟩)) (val_s2a rfl rfl Try.underlying57 hq_20) rfl rfl rfl (fun _ hw => hw.sel [0] rfl rfl) ?_
    obtain ⟨x64, hx64, H⟩ := Let_elim H
    refine z_still (v := .agg (cV U64 x64).toArray) (by subst hx64; exact val_loadR (off := q_16) (cs := cV U64 (y_5.part 0 4)) rfl rfl Try.underlying57 rfl (sz57.trans (congrArg some (cV_len _).symm)) (fun _ hw => by rw [hq_21]; exact hw.part_ (j := 0) rfl hl_22)) rfl rfl rfl (fun _ hw => hw.sel [0] rfl rfl) ?_
    clear hx64
    obtain ⟨x65, hx65, H⟩ := Let_elim H
    have hln_27 : 4 ≤ 8 ∧ 8 ≤ 8 := by decide
    have hl_28 : x65.length = 8 - 4 := by subst hx65; exact sla_len _ hln_27.2
    obtain ⟨q_23, hq_24⟩ : ∃ z, z = (if 8 = 4 then 0 else 4) := ⟨_, rfl⟩
    obtain ⟨c_25, hc_260⟩ : ∃ z, z = 8 - 4 := ⟨_, rfl⟩
    have hc_26 : x65.length ≤ c_25 := by omega
    refine z_still (v := .slice (some ⟨g_5, q_23, none⟩) x65.length c_25) (val_sliceA (l := 4) (k := 8) rfl rfl Try.underlying79 sz38 (.inr ⟨_, rfl, _, _, rfl, rfl⟩) (.inl ⟨rfl, rfl⟩) hln_27.1 hln_27.2 (by rw [hl_28, hq_24, hc_260]; first | rfl | (congr 2; split <;> simp))) rfl rfl rfl (fun _ hw => hw.sel [0] rfl rfl) ?_
    obtain ⟨hq_29, H⟩ := Chk_elim H
    have hq_30 : q_23 = 4 := by rw [hq_24]; split <;> omega
    have hl_31 : 4 + 4 ≤ 8 := by omega
    refine z_still (v := .pointer (some ⟨g_5, q_23, none⟩)) (val_s2a rfl rfl Try.underlying57 hq_29) rfl rfl rfl (fun _ hw => hw.sel [0] rfl rfl) ?_
    obtain ⟨x67, hx67, H⟩ := Let_elim H
    refine z_still (v := .agg (cV U64 x67).toArray) (by subst hx67; exact val_loadR (off := q_23) (cs := cV U64 (y_5.part 4 4)) rfl rfl Try.underlying57 rfl (sz57.trans (congrArg some (cV_len _).symm)) (fun _ hw => by rw [hq_30]; exact hw.part_ (j := 0) rfl hl_31)) rfl rfl rfl (fun _ hw => hw.sel [0] rfl rfl) ?_
    clear hx67
    refine z_storeA (j := 2) (cs' := cV U64 x64) (L' := [.blk g_5 79 (cV U64 y_5) 8, .blk g_4 57 (cV U64 (Vec.rep 4 0#64)) 4, .blk g_3 57 (cV U64 x64) 4]) rfl rfl rfl (cV_one (fun _ => rfl) _) sz57 rfl (cV_len _) rfl rfl rfl (fun _ _ hw => hw.sel [0] rfl rfl) ?_
    refine z_storeA (j := 1) (cs' := cV U64 x67) (L' := [.blk g_5 79 (cV U64 y_5) 8, .blk g_4 57 (cV U64 x67) 4, .blk g_3 57 (cV U64 x64) 4]) rfl rfl rfl (cV_one (fun _ => rfl) _) sz57 rfl (cV_len _) rfl rfl rfl (fun _ _ hw => hw.sel [0] rfl rfl) ?_
    refine z_nil ?_
    refine t_ret ?_
    obtain rfl := Option.some.inj H
    exact ret2 rfl (res_row (j := 2) rfl Try.underlying57 rfl sz57 rfl (cV_len _)) (res_row (j := 1) rfl Try.underlying57 rfl sz57 rfl (cV_len _)) (fun _ hw => ⟨rfl, hw.below⟩)
def word_Bit (a0 : Vec (BitVec 64) 4) (a1 : BitVec 64) : Option (Bool) :=
  Let (decide ((a1.toNat : Int) < 256)) fun x6 => (bif x6 then Let (a1 / 64#64) fun x9 => Chk (x9.toNat < 4) <| Let (a0.get x9.toNat) fun x11 => Let (a1 % 64#64) fun x13 => Let (x11 >>> x13.toNat) fun x14 => Let (x14 &&& 1#64) fun x15 => Let ((x15.toNat : Int) == 1) fun x16 => some x16 else some false).bind (fun x17 => some x17)
set_option maxRecDepth 100000 in
theorem word_Bit.calls  (a0 : Vec (BitVec 64) 4) (a1 : BitVec 64) (r : Bool) (H : word_Bit a0 a1 = some r) (w : World)   :
    Made Try.prog 52 #[.agg (cV U64 a0).toArray, U64 a1] w (.bool r) := by
  unfold word_Bit at H
  have hM := Mm.start w (snap w) (snap_ok w)
  generalize snap w = h at *
  refine t_enter (vs := [.agg (cV U64 a0).toArray, U64 a1]) (n := 18) Try.func52 rfl rfl rfl hM ?_
  clear hM
  change T 18 _ _ _
  refine t_seq ?_
  refine t_region (fun ops hops => ?_)
  clear hops
  refine z_box (cs := cV U64 a0) (room := 4) rfl rfl rfl (cV_len _) rfl rfl rfl (fun _ _ _ _ => trivial) (fun g_1 => ?_)
  refine z_val (v := .bool false) (val_assign rfl rfl) rfl rfl rfl (fun _ _ _ => trivial) ?_
  refine z_nil ?_
  refine t_seq ?_
  refine t_region (fun ops hops => ?_)
  refine z_val (v := U64 a1) (val_move rfl rfl) rfl rfl rfl (fun _ _ _ => trivial) ?_
  obtain ⟨x6, hx6, H⟩ := Let_elim H
  refine z_val (v := .bool x6) (by subst hx6; exact val_bin rfl rfl rfl rfl (u64_lss_r _ 256 a1)) rfl rfl rfl (fun _ _ _ => trivial) ?_
  clear hx6
  refine z_val (v := .bool x6) (val_move rfl rfl) rfl rfl rfl (fun _ _ _ => trivial) ?_
  refine z_bind H 10 (fun (s : Bool) (_ : Unit) => [(17, .bool s)]) (fun _ _ => Mm w [] h [.blk g_1 57 (cV U64 a0) 4]) (fun _ _ => True) (fun Gr K s he HJ => ?_) (fun s g HB _ => ?_)
  ·
    clear H
    cases x6
    ·
      have H := cond_f he
      clear he
      refine z_skip rfl rfl (by rw [hops]; rfl) (fun _ _ _ => trivial) ?_
      refine z_skip rfl rfl (by rw [hops]; rfl) (fun _ _ _ => trivial) ?_
      refine z_skip rfl rfl (by rw [hops]; rfl) (fun _ _ _ => trivial) ?_
      refine z_skip rfl rfl (by rw [hops]; rfl) (fun _ _ _ => trivial) ?_
      refine z_skip rfl rfl (by rw [hops]; rfl) (fun _ _ _ => trivial) ?_
      refine z_skip rfl rfl (by rw [hops]; rfl) (fun _ _ _ => trivial) ?_
      refine z_skip rfl rfl (by rw [hops]; rfl) (fun _ _ _ => trivial) ?_
      refine z_skip rfl rfl (by rw [hops]; rfl) (fun _ _ _ => trivial) ?_
      refine z_skip rfl rfl (by rw [hops]; rfl) (fun _ _ _ => trivial) ?_
      refine z_val (v := .bool false) (val_pick rfl rfl rfl) rfl rfl rfl (fun _ _ _ => trivial) ?_
      obtain rfl := Option.some.inj H
      exact z_nil ((K _ () HJ trivial).weak (fun a ha => ha.cons rfl (ha.nil)) (fun w hw => hw))
    ·
      have H := cond_t he
      clear he
      refine z_val (v := U64 a1) (val_move rfl rfl) rfl rfl (by rw [hops]; rfl) (fun _ _ _ => trivial) ?_
      obtain ⟨x9, hx9, H⟩ := Let_elim H
      refine z_val (v := U64 x9) (by subst hx9; exact val_bin rfl rfl rfl rfl (u64_quo_r _ _ _ (by decide) (by decide))) rfl rfl (by rw [hops]; rfl) (fun _ _ _ => trivial) ?_
      clear hx9
      obtain ⟨hq_2, H⟩ := Chk_elim H
      refine z_val (v := .pointer (some ⟨g_1, x9.toNat, none⟩)) (val_idx0 rfl rfl rfl Try.underlying57 sz38 (nat_idx hq_2) (Int.toNat_natCast _)) rfl rfl (by rw [hops]; rfl) (fun _ _ _ => trivial) ?_
      obtain ⟨x11, hx11, H⟩ := Let_elim H
      refine z_val (v := U64 x11) (by subst hx11; exact val_load1 rfl rfl Try.underlying38 rfl (fun _ hw => hw.cell (j := 0) rfl (cV_at _ hq_2))) rfl rfl (by rw [hops]; rfl) (fun _ _ _ => trivial) ?_
      clear hx11
      refine z_val (v := U64 a1) (val_move rfl rfl) rfl rfl (by rw [hops]; rfl) (fun _ _ _ => trivial) ?_
      obtain ⟨x13, hx13, H⟩ := Let_elim H
      refine z_val (v := U64 x13) (by subst hx13; exact val_bin rfl rfl rfl rfl (u64_rem_r _ _ _ (by decide) (by decide))) rfl rfl (by rw [hops]; rfl) (fun _ _ _ => trivial) ?_
      clear hx13
      obtain ⟨x14, hx14, H⟩ := Let_elim H
      refine z_val (v := U64 x14) (by subst hx14; exact val_bin rfl rfl rfl rfl (u64_shr_u64 _ _ _)) rfl rfl (by rw [hops]; rfl) (fun _ _ _ => trivial) ?_
      clear hx14
      obtain ⟨x15, hx15, H⟩ := Let_elim H
      refine z_val (v := U64 x15) (by subst hx15; exact val_bin rfl rfl rfl rfl (u64_and_r _ _ _)) rfl rfl (by rw [hops]; rfl) (fun _ _ _ => trivial) ?_
      clear hx15
      obtain ⟨x16, hx16, H⟩ := Let_elim H
      refine z_val (v := .bool x16) (by subst hx16; exact val_bin rfl rfl rfl rfl (u64_eql_r _ 1 x15)) rfl rfl (by rw [hops]; rfl) (fun _ _ _ => trivial) ?_
      clear hx16
      refine z_val (v := .bool x16) (val_pick rfl rfl rfl) rfl rfl rfl (fun _ _ _ => trivial) ?_
      obtain rfl := Option.some.inj H
      exact z_nil ((K _ () HJ trivial).weak (fun a ha => ha.cons rfl (ha.nil)) (fun w hw => hw))
  ·
    replace H := HB
    clear HB
    obtain ⟨x17, rfl⟩ : ∃ x, x = s := ⟨_, rfl⟩
    change T 18 _ _ _
    refine z_val (v := .bool x17) (val_assign rfl rfl) rfl rfl rfl (fun _ _ _ => trivial) ?_
    refine z_nil ?_
    refine t_ret ?_
    obtain rfl := Option.some.inj H
    exact ret1 rfl (res_tmp rfl) (fun _ hw => ⟨rfl, hw.below⟩)
def word_part (a0 : Vec (BitVec 64) 4) (a1 : Int) : Option (BitVec 64) :=
  Let (decide (a1 < 0)) fun x6 => (bif x6 then some true else Let (decide (3 < a1)) fun x9 => some x9).bind (fun x10 => (bif x10 then some 0#64 else Chk (0 ≤ a1 ∧ a1 < ((4 : Nat) : Int)) <| Let (a0.get a1.toNat) fun x13 => some x13))
set_option maxRecDepth 100000 in
theorem word_part.calls  (a0 : Vec (BitVec 64) 4) (a1 : Int) (r : BitVec 64) (H : word_part a0 a1 = some r) (w : World)   :
    Made Try.prog 62 #[.agg (cV U64 a0).toArray, .int .i64 a1] w (U64 r) := by
  unfold word_part at H
  have hM := Mm.start w (snap w) (snap_ok w)
  generalize snap w = h at *
  refine t_enter (vs := [.agg (cV U64 a0).toArray, .int .i64 a1]) (n := 14) Try.func62 rfl rfl rfl hM ?_
  clear hM
  change T 14 _ _ _
  refine t_seq ?_
  refine t_region (fun ops hops => ?_)
  clear hops
  refine z_box (cs := cV U64 a0) (room := 4) rfl rfl rfl (cV_len _) rfl rfl rfl (fun _ _ _ _ => trivial) (fun g_1 => ?_)
  refine z_val (v := .int .u64 0) (val_assign rfl rfl) rfl rfl rfl (fun _ _ _ => trivial) ?_
  refine z_nil ?_
  refine t_seq ?_
  refine t_seq ?_
  refine t_region (fun ops hops => ?_)
  refine z_val (v := .int .i64 a1) (val_move rfl rfl) rfl rfl rfl (fun _ _ _ => trivial) ?_
  obtain ⟨x6, hx6, H⟩ := Let_elim H
  refine z_val (v := .bool x6) (by subst hx6; exact val_bin rfl rfl rfl rfl (i64_lss _ _ _)) rfl rfl rfl (fun _ _ _ => trivial) ?_
  clear hx6
  refine z_val (v := .bool x6) (val_move rfl rfl) rfl rfl rfl (fun _ _ _ => trivial) ?_
  refine z_bind H 3 (fun (s : Bool) (_ : Unit) => [(1, .int .i64 a1), (2, .pointer (some ⟨g_1, 0, none⟩)), (10, .bool s)]) (fun _ _ => Mm w [] h [.blk g_1 57 (cV U64 a0) 4]) (fun _ _ => True) (fun Gr K s he HJ => ?_) (fun s g HB _ => ?_)
  ·
    clear H
    cases x6
    ·
      have H := cond_f he
      clear he
      refine z_val (v := .int .i64 a1) (val_move rfl rfl) rfl rfl (by rw [hops]; rfl) (fun _ _ _ => trivial) ?_
      obtain ⟨x9, hx9, H⟩ := Let_elim H
      refine z_val (v := .bool x9) (by subst hx9; exact val_bin rfl rfl rfl rfl (i64_gtr _ _ _)) rfl rfl (by rw [hops]; rfl) (fun _ _ _ => trivial) ?_
      clear hx9
      refine z_val (v := .bool x9) (val_pick rfl rfl rfl) rfl rfl rfl (fun _ _ _ => trivial) ?_
      obtain rfl := Option.some.inj H
      exact z_nil ((K _ () HJ trivial).weak (fun a ha => ha.cons rfl (ha.cons rfl (ha.cons rfl (ha.nil)))) (fun w hw => hw))
    ·
      have H := cond_t he
      clear he
      refine z_skip rfl rfl (by rw [hops]; rfl) (fun _ _ _ => trivial) ?_
      refine z_skip rfl rfl (by rw [hops]; rfl) (fun _ _ _ => trivial) ?_
      refine z_val (v := .bool true) (val_pick rfl rfl rfl) rfl rfl rfl (fun _ _ _ => trivial) ?_
      obtain rfl := Option.some.inj H
      exact z_nil ((K _ () HJ trivial).weak (fun a ha => ha.cons rfl (ha.cons rfl (ha.cons rfl (ha.nil)))) (fun w hw => hw))
  ·
    replace H := HB
    clear HB
    obtain ⟨x10, rfl⟩ : ∃ x, x = s := ⟨_, rfl⟩
    change T 14 _ _ _
    refine z_nil ?_
    cases x10
    ·
      replace H := cond_f H
      refine t_cond_false rfl ?_
      refine t_skip ?_
      refine t_seq ?_
      refine t_region (fun ops hops => ?_)
      clear hops
      refine z_val (v := .int .i64 a1) (val_move rfl rfl) rfl rfl rfl (fun _ _ _ => trivial) ?_
      obtain ⟨hq_2, H⟩ := Chk_elim H
      refine z_val (v := .pointer (some ⟨g_1, a1.toNat, none⟩)) (val_idx0 rfl rfl rfl Try.underlying57 sz38 hq_2 rfl) rfl rfl rfl (fun _ _ _ => trivial) ?_
      obtain ⟨x13, hx13, H⟩ := Let_elim H
      refine z_val (v := U64 x13) (by subst hx13; exact val_load1 rfl rfl Try.underlying38 rfl (fun _ hw => hw.cell (j := 0) rfl (cV_at _ (idx_lt hq_2)))) rfl rfl rfl (fun _ _ _ => trivial) ?_
      clear hx13
      refine z_val (v := U64 x13) (val_assign rfl rfl) rfl rfl rfl (fun _ _ _ => trivial) ?_
      refine z_nil ?_
      refine t_ret ?_
      obtain rfl := Option.some.inj H
      exact ret1 rfl (res_tmp rfl) (fun _ hw => ⟨rfl, hw.below⟩)
    ·
      replace H := cond_t H
      refine t_cond_true rfl ?_
      refine t_seq ?_
      refine t_region (fun ops hops => ?_)
      clear hops
      refine z_val (v := .int .u64 0) (val_assign rfl rfl) rfl rfl rfl (fun _ _ _ => trivial) ?_
      refine z_nil ?_
      refine t_ret ?_
      obtain rfl := Option.some.inj H
      exact ret1 rfl (res_tmp rfl) (fun _ hw => ⟨rfl, hw.below⟩)
def word_Shl.b1 (x14 : Int) (x16 : BitVec 64) (a0 : Vec (BitVec 64) 4) (y_3 : Vec (BitVec 64) 4) (x17 : Int) : Option (Ctl ((Vec (BitVec 64) 4) × (Int)) (Vec (BitVec 64) 4)) :=
  Let (decide (x17 < 4)) fun x18 => (bif x18 then Let (wi (x17 - x14)) fun x24 => Let (wi (x17 - x14)) fun x31 => Let (wi (x31 - 1)) fun x32 => Let (64#64 - x16) fun x35 => (word_part a0 x24).bind fun x25 => Let (x25 <<< x16.toNat) fun x27 => (word_part a0 x32).bind fun x33 => Let (x33 >>> x35.toNat) fun x36 => Let (x27 ||| x36) fun x37 => Chk (0 ≤ x17 ∧ x17 < ((4 : Nat) : Int)) <| Let (y_3.set x17.toNat x37) fun y_3_6 => Let (wi (x17 + 1)) fun x39 => some (.next (y_3_6, x39)) else some (.brk (y_3, x17)))
def word_Shl (a0 : Vec (BitVec 64) 4) (a1 : BitVec 64) : Option (Vec (BitVec 64) 4) :=
  Let (decide ((a1.toNat : Int) ≥ 256)) fun x10 => (bif x10 then Let (Vec.rep 4 0#64) fun x11 => some x11 else Let (a1 / 64#64) fun x13 => Let (IntKind.i64.wrap x13.toNat) fun x14 => Let (a1 % 64#64) fun x16 => (wlx (σ := (Vec (BitVec 64) 4) × (Int)) (fun s => word_Shl.b1 x14 x16 a0 s.1 s.2) ((Vec.rep 4 0#64), 0)).bind (Sum.elim (fun s => (fun y_3 x17 => some y_3) s.1 s.2) (fun r => some r)))
set_option maxRecDepth 100000 in
theorem word_Shl.calls  (a0 : Vec (BitVec 64) 4) (a1 : BitVec 64) (r : Vec (BitVec 64) 4) (H : word_Shl a0 a1 = some r) (w : World)   :
    Made Try.prog 57 #[.agg (cV U64 a0).toArray, U64 a1] w (.agg (cV U64 r).toArray) := by
  unfold word_Shl at H
  have hM := Mm.start w (snap w) (snap_ok w)
  generalize snap w = h at *
  refine t_enter (vs := [.agg (cV U64 a0).toArray, U64 a1]) (n := 41) Try.func57 rfl rfl rfl hM ?_
  clear hM
  change T 41 _ _ _
  refine t_seq ?_
  refine t_region (fun ops hops => ?_)
  clear hops
  refine z_box (cs := cV U64 a0) (room := 4) rfl rfl rfl (cV_len _) rfl rfl rfl (fun _ _ _ _ => trivial) (fun g_1 => ?_)
  refine z_alloc (cs := cV U64 (Vec.rep 4 0#64)) (room := 4) rfl ze57 rfl (cV_len _) rfl rfl rfl (fun _ _ _ _ => trivial) (fun g_2 => ?_)
  refine z_nil ?_
  refine t_seq ?_
  refine t_seq ?_
  refine t_region (fun ops hops => ?_)
  clear hops
  refine z_val (v := U64 a1) (val_move rfl rfl) rfl rfl rfl (fun _ _ _ => trivial) ?_
  obtain ⟨x10, hx10, H⟩ := Let_elim H
  refine z_val (v := .bool x10) (by subst hx10; exact val_bin rfl rfl rfl rfl (u64_geq_r _ 256 a1)) rfl rfl rfl (fun _ _ _ => trivial) ?_
  clear hx10
  refine z_nil ?_
  cases x10
  ·
    replace H := cond_f H
    refine t_cond_false rfl ?_
    refine t_skip ?_
    refine t_seq ?_
    refine t_region (fun ops hops => ?_)
    clear hops
    refine z_val (v := U64 a1) (val_move rfl rfl) rfl rfl rfl (fun _ _ _ => trivial) ?_
    obtain ⟨x13, hx13, H⟩ := Let_elim H
    refine z_val (v := U64 x13) (by subst hx13; exact val_bin rfl rfl rfl rfl (u64_quo_r _ _ _ (by decide) (by decide))) rfl rfl rfl (fun _ _ _ => trivial) ?_
    clear hx13
    obtain ⟨x14, hx14, H⟩ := Let_elim H
    refine z_val (v := .int .i64 x14) (by subst hx14; exact val_conv rfl rfl (fun w => conv_u64_int w _ _ _ (by rw [Try.underlying73]; rfl) Try.underlying3)) rfl rfl rfl (fun _ _ _ => trivial) ?_
    clear hx14
    refine z_val (v := U64 a1) (val_move rfl rfl) rfl rfl rfl (fun _ _ _ => trivial) ?_
    obtain ⟨x16, hx16, H⟩ := Let_elim H
    refine z_val (v := U64 x16) (by subst hx16; exact val_bin rfl rfl rfl rfl (u64_rem_r _ _ _ (by decide) (by decide))) rfl rfl rfl (fun _ _ _ => trivial) ?_
    clear hx16
    refine z_val (v := .int .i64 x14) (val_assign rfl rfl) rfl rfl rfl (fun _ _ _ => trivial) ?_
    refine z_val (v := U64 x16) (val_assign rfl rfl) rfl rfl rfl (fun _ _ _ => trivial) ?_
    refine z_nil ?_
    refine t_seq ?_
    refine t_region (fun ops hops => ?_)
    clear hops
    refine z_alloc (cs := cV U64 (Vec.rep 4 0#64)) (room := 4) rfl ze57 rfl (cV_len _) rfl rfl rfl (fun _ _ _ _ => trivial) (fun g_3 => ?_)
    refine z_nil ?_
    refine t_seq ?_
    refine t_seq ?_
    refine t_region (fun ops hops => ?_)
    clear hops
    refine z_val (v := .int .i64 0) (val_move rfl rfl) rfl rfl rfl (fun _ _ _ => trivial) ?_
    refine z_nil ?_
    refine t_block ?_
    obtain ⟨z1, hz1, HK1⟩ := Option.bind_eq_some_iff.1 H
    clear H
    refine t_while hz1 (fun (s : (Vec (BitVec 64) 4) × (Int)) (g : Unit) => [(2, .pointer (some ⟨g_1, 0, none⟩)), (4, .pointer (some ⟨g_2, 0, none⟩)), (5, .int .i64 x14), (6, U64 x16), (7, .pointer (some ⟨g_3, 0, none⟩)), (17, .int .i64 s.2)]) (fun (s : (Vec (BitVec 64) 4) × (Int)) (g : Unit) => [(4, .pointer (some ⟨g_2, 0, none⟩)), (7, .pointer (some ⟨g_3, 0, none⟩))]) (fun (s : (Vec (BitVec 64) 4) × (Int)) (g : Unit) => Mm w [] h [.blk g_3 57 (cV U64 s.1) 4, .blk g_2 57 (cV U64 (Vec.rep 4 0#64)) 4, .blk g_1 57 (cV U64 a0) 4]) (fun (s : (Vec (BitVec 64) 4) × (Int)) (g : Unit) => Mm w [] h [.blk g_3 57 (cV U64 s.1) 4, .blk g_2 57 (cV U64 (Vec.rep 4 0#64)) 4]) (fun (s : (Vec (BitVec 64) 4) × (Int)) (g : Unit) => True) (fun (s : (Vec (BitVec 64) 4) × (Int)) (g : Unit) => True) () trivial (fun a w ha hw => ⟨ha.cons rfl (ha.cons rfl (ha.cons rfl (ha.cons rfl (ha.cons rfl (ha.cons rfl (ha.nil)))))), hw⟩) (fun Gn Gb s g e hφ H hn1 hb1 hr1 => ?_) (fun s g hzz hφ => ?_)
    ·
      obtain ⟨y_3, x17⟩ := s
      change word_Shl.b1 x14 x16 a0 y_3 x17 = some e at H
      unfold word_Shl.b1 at H
      clear hz1
      change T 41 _ _ _
      refine t_seq ?_
      refine t_region (fun ops hops => ?_)
      clear hops
      obtain ⟨x18, hx18, H⟩ := Let_elim H
      refine z_val (v := .bool x18) (by subst hx18; exact val_bin rfl rfl rfl rfl (i64_lss _ _ _)) rfl rfl rfl (fun _ _ _ => trivial) ?_
      clear hx18
      refine z_nil ?_
      refine t_seq ?_
      cases x18
      ·
        replace H := cond_f H
        refine t_cond_false rfl ?_
        refine t_exit rfl ?_
        obtain rfl := Option.some.inj H
        exact t_reach ((hb1 _ () rfl trivial).weak (fun a ha => ha.cons rfl (ha.cons rfl (ha.nil))) (fun w hw => hw.sel [0, 1] rfl rfl))
      ·
        replace H := cond_t H
        refine t_cond_true rfl ?_
        refine t_skip ?_
        refine t_seq ?_
        refine t_block ?_
        refine t_seq ?_
        refine t_region (fun ops hops => ?_)
        clear hops
        refine z_val (v := .int .i64 x17) (val_move rfl rfl) rfl rfl rfl (fun _ _ _ => trivial) ?_
        refine z_val (v := .int .i64 x17) (val_assign rfl rfl) rfl rfl rfl (fun _ _ _ => trivial) ?_
        refine z_nil ?_
        refine t_plan (C := Mm w [] h [.blk g_3 57 (cV U64 y_3) 4, .blk g_2 57 (cV U64 (Vec.rep 4 0#64)) 4, .blk g_1 57 (cV U64 a0) 4]) [19] [(0, true), (1, true), (2, true), (3, true), (4, true), (6, true), (8, true), (9, true), (10, true), (11, true), (12, true), (14, true), (15, true), (5, false), (7, true), (13, false), (16, true), (17, true), (18, true), (19, false)] (by kernel_rfl) (by kernel_rfl) (fun _ hw => hw.drew) (fun ops hops => ?_)
        clear hops
        refine z_still (v := .int .i64 x17) (val_move rfl rfl) rfl rfl rfl (fun _ hw => hw) ?_
        refine z_still (v := .agg (cV U64 a0).toArray) (val_loadR (off := 0) (cs := cV U64 a0) rfl rfl Try.underlying57 rfl (sz57.trans (congrArg some (cV_len _).symm)) (fun _ hw => hw.whole (j := 2) rfl)) rfl rfl rfl (fun _ hw => hw) ?_
        refine z_still (v := .int .i64 x17) (val_move rfl rfl) rfl rfl rfl (fun _ hw => hw) ?_
        refine z_still (v := .int .i64 x14) (val_move rfl rfl) rfl rfl rfl (fun _ hw => hw) ?_
        obtain ⟨x24, hx24, H⟩ := Let_elim H
        refine z_still (v := .int .i64 x24) (by subst hx24; exact val_bin rfl rfl rfl rfl (i64_sub _ _ _)) rfl rfl rfl (fun _ hw => hw) ?_
        clear hx24
        refine z_still (v := U64 x16) (val_move rfl rfl) rfl rfl rfl (fun _ hw => hw) ?_
        refine z_still (v := .agg (cV U64 a0).toArray) (val_loadR (off := 0) (cs := cV U64 a0) rfl rfl Try.underlying57 rfl (sz57.trans (congrArg some (cV_len _).symm)) (fun _ hw => hw.whole (j := 2) rfl)) rfl rfl rfl (fun _ hw => hw) ?_
        refine z_still (v := .int .i64 x17) (val_move rfl rfl) rfl rfl rfl (fun _ hw => hw) ?_
        refine z_still (v := .int .i64 x14) (val_move rfl rfl) rfl rfl rfl (fun _ hw => hw) ?_
        obtain ⟨x31, hx31, H⟩ := Let_elim H
        refine z_still (v := .int .i64 x31) (by subst hx31; exact val_bin rfl rfl rfl rfl (i64_sub _ _ _)) rfl rfl rfl (fun _ hw => hw) ?_
        clear hx31
        obtain ⟨x32, hx32, H⟩ := Let_elim H
        refine z_still (v := .int .i64 x32) (by subst hx32; exact val_bin rfl rfl rfl rfl (i64_sub _ _ _)) rfl rfl rfl (fun _ hw => hw) ?_
        clear hx32
        refine z_still (v := U64 x16) (val_move rfl rfl) rfl rfl rfl (fun _ hw => hw) ?_
        obtain ⟨x35, hx35, H⟩ := Let_elim H
        refine z_still (v := U64 x35) (by subst hx35; exact val_bin rfl rfl rfl rfl (u64_sub_l _ _ _)) rfl rfl rfl (fun _ hw => hw) ?_
        clear hx35
        obtain ⟨x25, hx, H⟩ := Option.bind_eq_some_iff.1 H
        refine z_made (v := U64 x25) rfl Try.func62 nm62 bs62 rfl (fun w hw => word_part.calls a0 x24 x25 hx w) rfl rfl rfl (fun _ _ hw => hw) ?_
        clear hx
        obtain ⟨x27, hx27, H⟩ := Let_elim H
        refine z_still (v := U64 x27) (by subst hx27; exact val_bin rfl rfl rfl rfl (u64_shl_u64 _ _ _)) rfl rfl rfl (fun _ hw => hw) ?_
        clear hx27
        obtain ⟨x33, hx_4, H⟩ := Option.bind_eq_some_iff.1 H
        refine z_made (v := U64 x33) rfl Try.func62 nm62 bs62 rfl (fun w hw => word_part.calls a0 x32 x33 hx_4 w) rfl rfl rfl (fun _ _ hw => hw) ?_
        clear hx_4
        obtain ⟨x36, hx36, H⟩ := Let_elim H
        refine z_still (v := U64 x36) (by subst hx36; exact val_bin rfl rfl rfl rfl (u64_shr_u64 _ _ _)) rfl rfl rfl (fun _ hw => hw) ?_
        clear hx36
        obtain ⟨x37, hx37, H⟩ := Let_elim H
        refine z_still (v := U64 x37) (by subst hx37; exact val_bin rfl rfl rfl rfl (u64_or _ _ _)) rfl rfl rfl (fun _ hw => hw) ?_
        clear hx37
        obtain ⟨hq_5, H⟩ := Chk_elim H
        refine z_still (v := .pointer (some ⟨g_3, x17.toNat, none⟩)) (val_idx0 rfl rfl rfl Try.underlying57 sz38 hq_5 rfl) rfl rfl rfl (fun _ hw => hw) ?_
        obtain ⟨y_3_6, hy_3_6, H⟩ := Let_elim H
        refine z_store1 (j := 0) (cs' := cV U64 y_3_6) (L' := [.blk g_3 57 (cV U64 y_3_6) 4, .blk g_2 57 (cV U64 (Vec.rep 4 0#64)) 4, .blk g_1 57 (cV U64 a0) 4]) rfl rfl rfl rfl rfl sz38 rfl (by rw [cV_len]; exact (idx_lt hq_5)) (by subst hy_3_6; exact cV_set (f := U64) _ _ x37) rfl rfl rfl (fun hb => absurd hb (by decide)) ?_
        clear hy_3_6
        refine z_nil ?_
        refine t_fin ?_
        refine t_region (fun ops hops => ?_)
        clear hops
        obtain ⟨x39, hx39, H⟩ := Let_elim H
        refine z_val (v := .int .i64 x39) (by subst hx39; exact val_bin rfl rfl rfl rfl (i64_add _ _ _)) rfl rfl rfl (fun _ _ _ => trivial) ?_
        clear hx39
        refine z_val (v := .int .i64 x39) (val_move rfl rfl) rfl rfl rfl (fun _ _ _ => trivial) ?_
        refine z_nil ?_
        obtain rfl := Option.some.inj H
        exact t_reach ((hn1 _ () rfl trivial).weak (fun a ha => ha.cons rfl (ha.cons rfl (ha.cons rfl (ha.cons rfl (ha.cons rfl (ha.cons rfl (ha.nil))))))) (fun w hw => hw))
    ·
      obtain ⟨y_3, x17⟩ := s
      subst hzz
      have H := HK1
      clear HK1 hz1
      replace H := sum_l H
      try dsimp only at H
      change T 41 _ _ _
      refine t_seq ?_
      refine t_region (fun ops hops => ?_)
      clear hops
      refine z_val (v := .agg (cV U64 y_3).toArray) (val_loadR (off := 0) (cs := cV U64 y_3) rfl rfl Try.underlying57 rfl (sz57.trans (congrArg some (cV_len _).symm)) (fun _ hw => hw.whole (j := 0) rfl)) rfl rfl rfl (fun _ _ _ => trivial) ?_
      refine z_storeA (j := 1) (cs' := cV U64 y_3) (L' := [.blk g_3 57 (cV U64 y_3) 4, .blk g_2 57 (cV U64 y_3) 4]) rfl rfl rfl (cV_one (fun _ => rfl) _) sz57 rfl (cV_len _) rfl rfl rfl (fun _ _ _ => trivial) ?_
      refine z_nil ?_
      refine t_ret ?_
      obtain rfl := Option.some.inj H
      exact ret1 rfl (res_row (j := 1) rfl Try.underlying57 rfl sz57 rfl (cV_len _)) (fun _ hw => ⟨rfl, hw.below⟩)
  ·
    replace H := cond_t H
    refine t_cond_true rfl ?_
    refine t_seq ?_
    refine t_region (fun ops hops => ?_)
    clear hops
    obtain ⟨x11, hx11, H⟩ := Let_elim H
    refine z_val (v := .agg (cV U64 x11).toArray) (by subst hx11; exact val_build (vs := []) rfl rfl (fun w => by kernel_rfl)) rfl rfl rfl (fun _ _ _ => trivial) ?_
    clear hx11
    refine z_storeA (j := 0) (cs' := cV U64 x11) (L' := [.blk g_2 57 (cV U64 x11) 4, .blk g_1 57 (cV U64 a0) 4]) rfl rfl rfl (cV_one (fun _ => rfl) _) sz57 rfl (cV_len _) rfl rfl rfl (fun _ _ _ => trivial) ?_
    refine z_nil ?_
    refine t_ret ?_
    obtain rfl := Option.some.inj H
    exact ret1 rfl (res_row (j := 0) rfl Try.underlying57 rfl sz57 rfl (cV_len _)) (fun _ hw => ⟨rfl, hw.below⟩)
def word_From.b2 (x21 : Int) (y_2 : Vec (BitVec 8) 32) (y_19_20 : Vec (BitVec 64) 4) (x24 : Int) : Option (Ctl ((Vec (BitVec 64) 4) × (Int)) (Vec (BitVec 64) 4)) :=
  Let (decide (x24 < 8)) fun x25 => (bif x25 then Chk (0 ≤ x21 ∧ x21 < ((4 : Nat) : Int)) <| Let (y_19_20.get x21.toNat) fun x29 => Let (wi (8 * x21)) fun x31 => Let (wi (31 - x31)) fun x32 => Let (wi (x32 - x24)) fun x34 => Chk (0 ≤ x34 ∧ x34 < ((32 : Nat) : Int)) <| Let (y_2.get x34.toNat) fun x36 => Let (x36.setWidth 64) fun x37 => Let (wi (8 * x24)) fun x39 => Chk (0 ≤ x39) <| Let (x37 <<< x39.toNat) fun x40 => Let (x29 ||| x40) fun x41 => Chk (0 ≤ x21 ∧ x21 < ((4 : Nat) : Int)) <| Let (y_19_20.set x21.toNat x41) fun y_19_25 => Let (wi (x24 + 1)) fun x43 => some (.next (y_19_25, x43)) else some (.brk (y_19_20, x24)))
def word_From.b1 (y_2 : Vec (BitVec 8) 32) (y_19 : Vec (BitVec 64) 4) (x21 : Int) : Option (Ctl ((Vec (BitVec 64) 4) × (Int)) (Vec (BitVec 64) 4)) :=
  Let (decide (x21 < 4)) fun x22 => (bif x22 then (wlx (σ := (Vec (BitVec 64) 4) × (Int)) (fun s => word_From.b2 x21 y_2 s.1 s.2) (y_19, 0)).bind (Sum.elim (fun s => (fun y_19_20 x24 => Let (wi (x21 + 1)) fun x44 => some (.next (y_19_20, x44))) s.1 s.2) (fun r => some (.ret r))) else some (.brk (y_19, x21)))
def word_From (a0 : List (BitVec 8)) : Option (Vec (BitVec 64) 4) :=
  Let ((a0.length : Int)) fun x8 => Let (decide (32 < x8)) fun x9 => (bif x9 then Let ((a0.length : Int)) fun x12 => Let (wi (x12 - 32)) fun x13 => Chk ((0 : Int) ≤ x13 ∧ x13 ≤ (a0.length : Int)) <| Let ((a0.take a0.length).drop x13.toNat) fun x14 => some x14 else some a0).bind (fun (x0 : List (BitVec 8)) => Let ((x0.length : Int)) fun x16 => Let (wi (32 - x16)) fun x17 => Chk ((0 : Int) ≤ x17 ∧ x17 ≤ 32 ∧ 32 ≤ ((32 : Nat) : Int)) <| Let (((Vec.rep 32 0#8).l.take 32).drop x17.toNat) fun x18 => Let ((Vec.rep 32 0#8).put x17.toNat (x0.take (32 - x17.toNat))) fun y_2 => Let (((Nat.min x0.length (32 - x17.toNat) : Nat) : Int)) fun x20 => (wlx (σ := (Vec (BitVec 64) 4) × (Int)) (fun s => word_From.b1 y_2 s.1 s.2) ((Vec.rep 4 0#64), 0)).bind (Sum.elim (fun s => (fun y_19 x21 => some y_19) s.1 s.2) (fun r => some r)))
set_option maxRecDepth 100000 in
theorem word_From.calls  (a0 : List (BitVec 8)) (A0 : Option Addr) (c0 : Nat) (r : Vec (BitVec 64) 4) (H : word_From a0 = some r) (w : World) (hs0 : SlW w U8 A0 a0) (hc0 : a0.length ≤ c0)  :
    Made Try.prog 32 #[.slice A0 a0.length c0] w (.agg (cV U64 r).toArray) := by
  unfold word_From at H
  replace hs0 := hs0.toH
  have hM := Mm.start w (snap w) (snap_ok w)
  generalize snap w = h at *
  refine t_enter (vs := [.slice A0 a0.length c0]) (n := 46) Try.func32 rfl rfl rfl hM ?_
  clear hM
  change T 46 _ _ _
  refine t_seq ?_
  refine t_region (fun ops hops => ?_)
  clear hops
  refine z_alloc (cs := cV U64 (Vec.rep 4 0#64)) (room := 4) rfl ze57 rfl (cV_len _) rfl rfl rfl (fun _ _ _ _ => trivial) (fun g_1 => ?_)
  refine z_nil ?_
  refine t_seq ?_
  refine t_region (fun ops hops => ?_)
  clear hops
  refine z_alloc (cs := cV U8 (Vec.rep 32 0#8)) (room := 32) rfl ze74 rfl (cV_len _) rfl rfl rfl (fun _ _ _ _ => trivial) (fun g_2 => ?_)
  refine z_nil ?_
  refine t_seq ?_
  refine t_seq ?_
  refine t_region (fun ops hops => ?_)
  clear hops
  refine z_val (v := .slice A0 a0.length c0) (val_move rfl rfl) rfl rfl rfl (fun _ _ _ => trivial) ?_
  obtain ⟨x8, hx8, H⟩ := Let_elim H
  refine z_val (v := .int .i64 x8) (by subst hx8; exact val_len rfl rfl rfl Try.underlying22) rfl rfl rfl (fun _ _ _ => trivial) ?_
  clear hx8
  obtain ⟨x9, hx9, H⟩ := Let_elim H
  refine z_val (v := .bool x9) (by subst hx9; exact val_bin rfl rfl rfl rfl (i64_gtr _ _ _)) rfl rfl rfl (fun _ _ _ => trivial) ?_
  clear hx9
  refine z_nil ?_
  refine t_bind H (fun (s : (List (BitVec 8))) (g : (Option Addr) × (Nat)) => [(0, .slice g.1 s.length g.2), (2, .pointer (some ⟨g_1, 0, none⟩)), (3, .pointer (some ⟨g_2, 0, none⟩))]) (fun (s : (List (BitVec 8))) (g : (Option Addr) × (Nat)) => Mm w [] h [.blk g_2 74 (cV U8 (Vec.rep 32 0#8)) 32, .blk g_1 57 (cV U64 (Vec.rep 4 0#64)) 4]) (fun (s : (List (BitVec 8))) (g : (Option Addr) × (Nat)) => SlH h U8 g.1 s ∧ s.length ≤ g.2) (fun Gr K s he HJ => ?_) (fun s g HB hφ => ?_)
  ·
    clear H
    cases x9
    ·
      have H := cond_f he
      clear he
      refine t_cond_false rfl ?_
      refine t_skip ?_
      obtain rfl := Option.some.inj H
      exact t_reach ((K _ ⟨A0, c0⟩ HJ ⟨hs0, hc0⟩).weak (fun a ha => ha.cons rfl (ha.cons rfl (ha.cons rfl (ha.nil)))) (fun w hw => hw))
    ·
      have H := cond_t he
      clear he
      refine t_cond_true rfl ?_
      refine t_region (fun ops hops => ?_)
      clear hops
      refine z_val (v := .slice A0 a0.length c0) (val_move rfl rfl) rfl rfl rfl (fun _ _ _ => trivial) ?_
      refine z_val (v := .slice A0 a0.length c0) (val_move rfl rfl) rfl rfl rfl (fun _ _ _ => trivial) ?_
      obtain ⟨x12, hx12, H⟩ := Let_elim H
      refine z_val (v := .int .i64 x12) (by subst hx12; exact val_len rfl rfl rfl Try.underlying22) rfl rfl rfl (fun _ _ _ => trivial) ?_
      clear hx12
      obtain ⟨x13, hx13, H⟩ := Let_elim H
      refine z_val (v := .int .i64 x13) (by subst hx13; exact val_bin rfl rfl rfl rfl (i64_sub _ _ _)) rfl rfl rfl (fun _ _ _ => trivial) ?_
      clear hx13
      obtain ⟨hq_7, H⟩ := Chk_elim H
      obtain ⟨x14, hx14, H⟩ := Let_elim H
      obtain ⟨A_8, hA_12⟩ : ∃ z, z = (if c0 = x13.toNat then A0 else A0.map (·.add (x13.toNat * 1))) := ⟨_, rfl⟩
      obtain ⟨c_9, hc_110⟩ : ∃ z, z = c0 - x13.toNat := ⟨_, rfl⟩
      have hl : x14.length = a0.length - x13.toNat := by subst hx14; exact cut_len (by omega) (by omega)
      have hs_10 : SlH h U8 A_8 x14 := by subst hA_12 hx14; exact hs0.cut (by omega) hc0
      have hc_11 : x14.length ≤ c_9 := by have := hc0; omega
      refine z_val (v := .slice A_8 x14.length c_9) (val_sliceLz rfl rfl rfl Try.underlying22 sz5 hq_7.1 hq_7.2 (by rw [hl, hA_12, hc_110])) rfl rfl rfl (fun _ _ _ => trivial) ?_
      clear hl hA_12 hc_110 hx14
      refine z_val (v := .slice A_8 x14.length c_9) (val_assign rfl rfl) rfl rfl rfl (fun _ _ _ => trivial) ?_
      refine z_nil ?_
      obtain rfl := Option.some.inj H
      exact t_reach ((K _ ⟨A_8, c_9⟩ HJ ⟨hs_10, hc_11⟩).weak (fun a ha => ha.cons rfl (ha.cons rfl (ha.cons rfl (ha.nil)))) (fun w hw => hw))
  ·
    replace H := HB
    clear HB
    obtain ⟨x0, rfl⟩ : ∃ x, x = s := ⟨_, rfl⟩
    obtain ⟨A_3, c_4⟩ := g
    try dsimp only at hφ
    obtain ⟨hs_5, hc_6⟩ := hφ
    try dsimp only at H
    change T 46 _ _ _
    refine t_seq ?_
    refine t_region (fun ops hops => ?_)
    clear hops
    refine z_val (v := .slice A_3 x0.length c_4) (val_move rfl rfl) rfl rfl rfl (fun _ _ _ => trivial) ?_
    obtain ⟨x16, hx16, H⟩ := Let_elim H
    refine z_val (v := .int .i64 x16) (by subst hx16; exact val_len rfl rfl rfl Try.underlying22) rfl rfl rfl (fun _ _ _ => trivial) ?_
    clear hx16
    obtain ⟨x17, hx17, H⟩ := Let_elim H
    refine z_val (v := .int .i64 x17) (by subst hx17; exact val_bin rfl rfl rfl rfl (i64_sub _ _ _)) rfl rfl rfl (fun _ _ _ => trivial) ?_
    clear hx17
    obtain ⟨hq_13, H⟩ := Chk_elim H
    obtain ⟨x18, hx18, H⟩ := Let_elim H
    have hln : x17.toNat ≤ 32 ∧ 32 ≤ 32 := by omega
    have hl_18 : x18.length = 32 - x17.toNat := by subst hx18; exact sla_len _ hln.2
    obtain ⟨q_14, hq_15⟩ : ∃ z, z = (if 32 = x17.toNat then 0 else x17.toNat) := ⟨_, rfl⟩
    obtain ⟨c_16, hc_170⟩ : ∃ z, z = 32 - x17.toNat := ⟨_, rfl⟩
    have hc_17 : x18.length ≤ c_16 := by omega
    refine z_val (v := .slice (some ⟨g_2, q_14, none⟩) x18.length c_16) (val_sliceA (l := x17.toNat) (k := 32) rfl rfl Try.underlying74 sz5 (.inr ⟨_, rfl, _, _, rfl, (by omega)⟩) (.inl ⟨rfl, rfl⟩) hln.1 hln.2 (by rw [hl_18, hq_15, hc_170]; first | rfl | (congr 2; split <;> simp))) rfl rfl rfl (fun _ _ _ => trivial) ?_
    refine z_val (v := .slice A_3 x0.length c_4) (val_move rfl rfl) rfl rfl rfl (fun _ _ _ => trivial) ?_
    obtain ⟨y_2, hy_2, H⟩ := Let_elim H
    obtain ⟨x20, hx20, H⟩ := Let_elim H
    refine z_copyA (j := 0) (a := (Vec.rep 32 0#8)) (a' := y_2) (m := (32 - x17.toNat)) (r := x20) (L' := [.blk g_2 74 (cV U8 y_2) 32, .blk g_1 57 (cV U64 (Vec.rep 4 0#64)) 4]) rfl rfl Try.underlying22 sz5 rfl hl_18 rfl rfl hq_15 (by omega) (fun w hw => (hs_5.toW hw)) (fun _ => rfl) (by subst hy_2; rfl) (by subst hx20; rfl) rfl rfl rfl rfl (fun _ _ _ => trivial) ?_
    clear hy_2 hx20
    refine z_nil ?_
    refine t_seq ?_
    refine t_region (fun ops hops => ?_)
    clear hops
    refine z_alloc (cs := cV U64 (Vec.rep 4 0#64)) (room := 4) rfl ze57 rfl (cV_len _) rfl rfl rfl (fun _ _ _ _ => trivial) (fun g_19 => ?_)
    refine z_nil ?_
    refine t_seq ?_
    refine t_seq ?_
    refine t_region (fun ops hops => ?_)
    clear hops
    refine z_val (v := .int .i64 0) (val_move rfl rfl) rfl rfl rfl (fun _ _ _ => trivial) ?_
    refine z_nil ?_
    refine t_block ?_
    obtain ⟨z1, hz1, HK1⟩ := Option.bind_eq_some_iff.1 H
    clear H
    refine t_while hz1 (fun (s : (Vec (BitVec 64) 4) × (Int)) (g : Unit) => [(2, .pointer (some ⟨g_1, 0, none⟩)), (3, .pointer (some ⟨g_2, 0, none⟩)), (4, .pointer (some ⟨g_19, 0, none⟩)), (21, .int .i64 s.2)]) (fun (s : (Vec (BitVec 64) 4) × (Int)) (g : Unit) => [(2, .pointer (some ⟨g_1, 0, none⟩)), (4, .pointer (some ⟨g_19, 0, none⟩))]) (fun (s : (Vec (BitVec 64) 4) × (Int)) (g : Unit) => Mm w [] h [.blk g_19 57 (cV U64 s.1) 4, .blk g_2 74 (cV U8 y_2) 32, .blk g_1 57 (cV U64 (Vec.rep 4 0#64)) 4]) (fun (s : (Vec (BitVec 64) 4) × (Int)) (g : Unit) => Mm w [] h [.blk g_19 57 (cV U64 s.1) 4, .blk g_1 57 (cV U64 (Vec.rep 4 0#64)) 4]) (fun (s : (Vec (BitVec 64) 4) × (Int)) (g : Unit) => True) (fun (s : (Vec (BitVec 64) 4) × (Int)) (g : Unit) => True) () trivial (fun a w ha hw => ⟨ha.cons rfl (ha.cons rfl (ha.cons rfl (ha.cons rfl (ha.nil)))), hw⟩) (fun Gn Gb s g e hφ H hn1 hb1 hr1 => ?_) (fun s g hzz hφ => ?_)
    ·
      obtain ⟨y_19, x21⟩ := s
      change word_From.b1 y_2 y_19 x21 = some e at H
      unfold word_From.b1 at H
      clear hz1
      change T 46 _ _ _
      refine t_seq ?_
      refine t_region (fun ops hops => ?_)
      clear hops
      obtain ⟨x22, hx22, H⟩ := Let_elim H
      refine z_val (v := .bool x22) (by subst hx22; exact val_bin rfl rfl rfl rfl (i64_lss _ _ _)) rfl rfl rfl (fun _ _ _ => trivial) ?_
      clear hx22
      refine z_nil ?_
      refine t_seq ?_
      cases x22
      ·
        replace H := cond_f H
        refine t_cond_false rfl ?_
        refine t_exit rfl ?_
        obtain rfl := Option.some.inj H
        exact t_reach ((hb1 _ () rfl trivial).weak (fun a ha => ha.cons rfl (ha.cons rfl (ha.nil))) (fun w hw => hw.sel [0, 2] rfl rfl))
      ·
        replace H := cond_t H
        refine t_cond_true rfl ?_
        refine t_skip ?_
        refine t_seq ?_
        refine t_block ?_
        refine t_seq ?_
        refine t_region (fun ops hops => ?_)
        clear hops
        refine z_val (v := .int .i64 x21) (val_move rfl rfl) rfl rfl rfl (fun _ _ _ => trivial) ?_
        refine z_val (v := .int .i64 x21) (val_assign rfl rfl) rfl rfl rfl (fun _ _ _ => trivial) ?_
        refine z_nil ?_
        refine t_seq ?_
        refine t_region (fun ops hops => ?_)
        clear hops
        refine z_val (v := .int .i64 0) (val_move rfl rfl) rfl rfl rfl (fun _ _ _ => trivial) ?_
        refine z_nil ?_
        refine t_block ?_
        obtain ⟨z2, hz2, HK2⟩ := Option.bind_eq_some_iff.1 H
        clear H
        refine t_while hz2 (fun (s : (Vec (BitVec 64) 4) × (Int)) (g : Unit) => [(2, .pointer (some ⟨g_1, 0, none⟩)), (3, .pointer (some ⟨g_2, 0, none⟩)), (4, .pointer (some ⟨g_19, 0, none⟩)), (5, .int .i64 x21), (21, .int .i64 x21), (24, .int .i64 s.2)]) (fun (s : (Vec (BitVec 64) 4) × (Int)) (g : Unit) => [(2, .pointer (some ⟨g_1, 0, none⟩)), (3, .pointer (some ⟨g_2, 0, none⟩)), (4, .pointer (some ⟨g_19, 0, none⟩)), (21, .int .i64 x21)]) (fun (s : (Vec (BitVec 64) 4) × (Int)) (g : Unit) => Mm w [] h [.blk g_19 57 (cV U64 s.1) 4, .blk g_2 74 (cV U8 y_2) 32, .blk g_1 57 (cV U64 (Vec.rep 4 0#64)) 4]) (fun (s : (Vec (BitVec 64) 4) × (Int)) (g : Unit) => Mm w [] h [.blk g_19 57 (cV U64 s.1) 4, .blk g_2 74 (cV U8 y_2) 32, .blk g_1 57 (cV U64 (Vec.rep 4 0#64)) 4]) (fun (s : (Vec (BitVec 64) 4) × (Int)) (g : Unit) => True) (fun (s : (Vec (BitVec 64) 4) × (Int)) (g : Unit) => True) () trivial (fun a w ha hw => ⟨ha.cons rfl (ha.cons rfl (ha.cons rfl (ha.cons rfl (ha.cons rfl (ha.cons rfl (ha.nil)))))), hw⟩) (fun Gn Gb s g e hφ H hn2 hb2 hr2 => ?_) (fun s g hzz hφ => ?_)
        ·
          obtain ⟨y_19_20, x24⟩ := s
          change word_From.b2 x21 y_2 y_19_20 x24 = some e at H
          unfold word_From.b2 at H
          clear hz2
          change T 46 _ _ _
          refine t_seq ?_
          refine t_region (fun ops hops => ?_)
          clear hops
          obtain ⟨x25, hx25, H⟩ := Let_elim H
          refine z_val (v := .bool x25) (by subst hx25; exact val_bin rfl rfl rfl rfl (i64_lss _ _ _)) rfl rfl rfl (fun _ _ _ => trivial) ?_
          clear hx25
          refine z_nil ?_
          refine t_seq ?_
          cases x25
          ·
            replace H := cond_f H
            refine t_cond_false rfl ?_
            refine t_exit rfl ?_
            obtain rfl := Option.some.inj H
            exact t_reach ((hb2 _ () rfl trivial).weak (fun a ha => ha.cons rfl (ha.cons rfl (ha.cons rfl (ha.cons rfl (ha.nil))))) (fun w hw => hw))
          ·
            replace H := cond_t H
            refine t_cond_true rfl ?_
            refine t_skip ?_
            refine t_seq ?_
            refine t_block ?_
            refine t_seq ?_
            refine t_region (fun ops hops => ?_)
            clear hops
            refine z_val (v := .int .i64 x24) (val_move rfl rfl) rfl rfl rfl (fun _ _ _ => trivial) ?_
            refine z_val (v := .int .i64 x24) (val_assign rfl rfl) rfl rfl rfl (fun _ _ _ => trivial) ?_
            refine z_nil ?_
            refine t_plan (C := Mm w [] h [.blk g_19 57 (cV U64 y_19_20) 4, .blk g_2 74 (cV U8 y_2) 32, .blk g_1 57 (cV U64 (Vec.rep 4 0#64)) 4]) [16] [(0, true), (1, true), (2, true), (3, true), (4, true), (5, true), (6, true), (7, true), (8, true), (9, true), (10, true), (11, true), (12, true), (13, true), (14, true), (15, true), (16, false)] (by kernel_rfl) (by kernel_rfl) (fun _ hw => hw.drew) (fun ops hops => ?_)
            clear hops
            refine z_still (v := .int .i64 x21) (val_move rfl rfl) rfl rfl rfl (fun _ hw => hw) ?_
            obtain ⟨hq_21, H⟩ := Chk_elim H
            refine z_still (v := .pointer (some ⟨g_19, x21.toNat, none⟩)) (val_idx0 rfl rfl rfl Try.underlying57 sz38 hq_21 rfl) rfl rfl rfl (fun _ hw => hw) ?_
            obtain ⟨x29, hx29, H⟩ := Let_elim H
            refine z_still (v := U64 x29) (by subst hx29; exact val_load1 rfl rfl Try.underlying38 rfl (fun _ hw => hw.cell (j := 0) rfl (cV_at _ (idx_lt hq_21)))) rfl rfl rfl (fun _ hw => hw) ?_
            clear hx29
            refine z_still (v := .int .i64 x21) (val_move rfl rfl) rfl rfl rfl (fun _ hw => hw) ?_
            obtain ⟨x31, hx31, H⟩ := Let_elim H
            refine z_still (v := .int .i64 x31) (by subst hx31; exact val_bin rfl rfl rfl rfl (i64_mul _ _ _)) rfl rfl rfl (fun _ hw => hw) ?_
            clear hx31
            obtain ⟨x32, hx32, H⟩ := Let_elim H
            refine z_still (v := .int .i64 x32) (by subst hx32; exact val_bin rfl rfl rfl rfl (i64_sub _ _ _)) rfl rfl rfl (fun _ hw => hw) ?_
            clear hx32
            refine z_still (v := .int .i64 x24) (val_move rfl rfl) rfl rfl rfl (fun _ hw => hw) ?_
            obtain ⟨x34, hx34, H⟩ := Let_elim H
            refine z_still (v := .int .i64 x34) (by subst hx34; exact val_bin rfl rfl rfl rfl (i64_sub _ _ _)) rfl rfl rfl (fun _ hw => hw) ?_
            clear hx34
            obtain ⟨hq_22, H⟩ := Chk_elim H
            refine z_still (v := .pointer (some ⟨g_2, x34.toNat, none⟩)) (val_idx0 rfl rfl rfl Try.underlying74 sz5 hq_22 rfl) rfl rfl rfl (fun _ hw => hw) ?_
            obtain ⟨x36, hx36, H⟩ := Let_elim H
            refine z_still (v := U8 x36) (by subst hx36; exact val_load1 rfl rfl Try.underlying5 rfl (fun _ hw => hw.cell (j := 1) rfl (cV_at _ (idx_lt hq_22)))) rfl rfl rfl (fun _ hw => hw) ?_
            clear hx36
            obtain ⟨x37, hx37, H⟩ := Let_elim H
            refine z_still (v := U64 x37) (by subst hx37; exact val_conv rfl rfl (fun w => conv_u8_u64 w _ _ _ (by rw [Try.underlying5]; rfl) Try.underlying38)) rfl rfl rfl (fun _ hw => hw) ?_
            clear hx37
            refine z_still (v := .int .i64 x24) (val_move rfl rfl) rfl rfl rfl (fun _ hw => hw) ?_
            obtain ⟨x39, hx39, H⟩ := Let_elim H
            refine z_still (v := .int .i64 x39) (by subst hx39; exact val_bin rfl rfl rfl rfl (i64_mul _ _ _)) rfl rfl rfl (fun _ hw => hw) ?_
            clear hx39
            obtain ⟨hq_23, H⟩ := Chk_elim H
            obtain ⟨x40, hx40, H⟩ := Let_elim H
            refine z_still (v := U64 x40) (by subst hx40; exact val_bin rfl rfl rfl rfl (u64_shl _ _ _ _ hq_23)) rfl rfl rfl (fun _ hw => hw) ?_
            clear hx40
            obtain ⟨x41, hx41, H⟩ := Let_elim H
            refine z_still (v := U64 x41) (by subst hx41; exact val_bin rfl rfl rfl rfl (u64_or _ _ _)) rfl rfl rfl (fun _ hw => hw) ?_
            clear hx41
            obtain ⟨hq_24, H⟩ := Chk_elim H
            refine z_still (v := .pointer (some ⟨g_19, x21.toNat, none⟩)) (val_idx0 rfl rfl rfl Try.underlying57 sz38 hq_24 rfl) rfl rfl rfl (fun _ hw => hw) ?_
            obtain ⟨y_19_25, hy_19_25, H⟩ := Let_elim H
            refine z_store1 (j := 0) (cs' := cV U64 y_19_25) (L' := [.blk g_19 57 (cV U64 y_19_25) 4, .blk g_2 74 (cV U8 y_2) 32, .blk g_1 57 (cV U64 (Vec.rep 4 0#64)) 4]) rfl rfl rfl rfl rfl sz38 rfl (by rw [cV_len]; exact (idx_lt hq_24)) (by subst hy_19_25; exact cV_set (f := U64) _ _ x41) rfl rfl rfl (fun hb => absurd hb (by decide)) ?_
            clear hy_19_25
            refine z_nil ?_
            refine t_fin ?_
            refine t_region (fun ops hops => ?_)
            clear hops
            obtain ⟨x43, hx43, H⟩ := Let_elim H
            refine z_val (v := .int .i64 x43) (by subst hx43; exact val_bin rfl rfl rfl rfl (i64_add _ _ _)) rfl rfl rfl (fun _ _ _ => trivial) ?_
            clear hx43
            refine z_val (v := .int .i64 x43) (val_move rfl rfl) rfl rfl rfl (fun _ _ _ => trivial) ?_
            refine z_nil ?_
            obtain rfl := Option.some.inj H
            exact t_reach ((hn2 _ () rfl trivial).weak (fun a ha => ha.cons rfl (ha.cons rfl (ha.cons rfl (ha.cons rfl (ha.cons rfl (ha.cons rfl (ha.nil))))))) (fun w hw => hw))
        ·
          obtain ⟨y_19_20, x24⟩ := s
          subst hzz
          have H := HK2
          clear HK2 hz2
          replace H := sum_l H
          try dsimp only at H
          change T 46 _ _ _
          refine t_fin ?_
          refine t_region (fun ops hops => ?_)
          clear hops
          obtain ⟨x44, hx44, H⟩ := Let_elim H
          refine z_val (v := .int .i64 x44) (by subst hx44; exact val_bin rfl rfl rfl rfl (i64_add _ _ _)) rfl rfl rfl (fun _ _ _ => trivial) ?_
          clear hx44
          refine z_val (v := .int .i64 x44) (val_move rfl rfl) rfl rfl rfl (fun _ _ _ => trivial) ?_
          refine z_nil ?_
          obtain rfl := Option.some.inj H
          exact t_reach ((hn1 _ () rfl trivial).weak (fun a ha => ha.cons rfl (ha.cons rfl (ha.cons rfl (ha.cons rfl (ha.nil))))) (fun w hw => hw))
    ·
      obtain ⟨y_19, x21⟩ := s
      subst hzz
      have H := HK1
      clear HK1 hz1
      replace H := sum_l H
      try dsimp only at H
      change T 46 _ _ _
      refine t_seq ?_
      refine t_region (fun ops hops => ?_)
      clear hops
      refine z_val (v := .agg (cV U64 y_19).toArray) (val_loadR (off := 0) (cs := cV U64 y_19) rfl rfl Try.underlying57 rfl (sz57.trans (congrArg some (cV_len _).symm)) (fun _ hw => hw.whole (j := 0) rfl)) rfl rfl rfl (fun _ _ _ => trivial) ?_
      refine z_storeA (j := 1) (cs' := cV U64 y_19) (L' := [.blk g_19 57 (cV U64 y_19) 4, .blk g_1 57 (cV U64 y_19) 4]) rfl rfl rfl (cV_one (fun _ => rfl) _) sz57 rfl (cV_len _) rfl rfl rfl (fun _ _ _ => trivial) ?_
      refine z_nil ?_
      refine t_ret ?_
      obtain rfl := Option.some.inj H
      exact ret1 rfl (res_row (j := 1) rfl Try.underlying57 rfl sz57 rfl (cV_len _)) (fun _ hw => ⟨rfl, hw.below⟩)
def bits_Div64.b1 (x43 : BitVec 64) (x56 : BitVec 64) (x41 : BitVec 64) (x15 : BitVec 64) (x16 : BitVec 64) : Option (Ctl ((BitVec 64) × (BitVec 64)) ((BitVec 64) × (BitVec 64))) :=
  Let (decide ((x15.toNat : Int) ≥ 4294967296)) fun x68 => (bif x68 then some true else Let (x15 * x43) fun x72 => Let (4294967296#64 * x16) fun x74 => Let (x74 + x56) fun x76 => Let (decide (x76.toNat < x72.toNat)) fun x77 => some x77).bind (fun x78 => (bif x78 then Let (x15 - 1#64) fun x80 => Let (x16 + x41) fun x83 => Let (decide ((x83.toNat : Int) ≥ 4294967296)) fun x85 => (bif x85 then some (.brk (x80, x83)) else some (.next (x80, x83))) else some (.brk (x15, x16))))
def bits_Div64.b2 (x43 : BitVec 64) (x58 : BitVec 64) (x41 : BitVec 64) (x16_3 : BitVec 64) (x18 : BitVec 64) : Option (Ctl ((BitVec 64) × (BitVec 64)) ((BitVec 64) × (BitVec 64))) :=
  Let (decide ((x18.toNat : Int) ≥ 4294967296)) fun x103 => (bif x103 then some true else Let (x18 * x43) fun x107 => Let (4294967296#64 * x16_3) fun x109 => Let (x109 + x58) fun x111 => Let (decide (x111.toNat < x107.toNat)) fun x112 => some x112).bind (fun x113 => (bif x113 then Let (x18 - 1#64) fun x115 => Let (x16_3 + x41) fun x118 => Let (decide ((x118.toNat : Int) ≥ 4294967296)) fun x120 => (bif x120 then some (.brk (x118, x115)) else some (.next (x118, x115))) else some (.brk (x16_3, x18))))
def bits_Div64 (a0 : BitVec 64) (a1 : BitVec 64) (a2 : BitVec 64) : Option ((BitVec 64) × (BitVec 64)) :=
  Let ((a2.toNat : Int) == 0) fun x20 => (bif x20 then none else Let (decide (a2.toNat ≤ a0.toNat)) fun x24 => (bif x24 then none else Let ((a0.toNat : Int) == 0) fun x27 => (bif x27 then Chk (a2.toNat ≠ 0) <| Let (a1 / a2) fun x30 => Chk (a2.toNat ≠ 0) <| Let (a1 % a2) fun x33 => some (x30, x33) else (bits_LeadingZeros64 a2).bind fun x35 => Let (BitVec.ofInt 64 x35) fun x36 => Let (a2 <<< x36.toNat) fun x39 => Let (x39 >>> 32) fun x41 => Let (x39 &&& 4294967295#64) fun x43 => Let (a0 <<< x36.toNat) fun x46 => Let (64#64 - x36) fun x49 => Let (a1 >>> x49.toNat) fun x50 => Let (x46 ||| x50) fun x51 => Let (a1 <<< x36.toNat) fun x54 => Let (x54 >>> 32) fun x56 => Let (x54 &&& 4294967295#64) fun x58 => Chk (x41.toNat ≠ 0) <| Let (x51 / x41) fun x61 => Let (x61 * x41) fun x65 => Let (x51 - x65) fun x66 => (wlx (σ := (BitVec 64) × (BitVec 64)) (fun s => bits_Div64.b1 x43 x56 x41 s.1 s.2) (x61, x66)).bind (Sum.elim (fun s => (fun x15 x16 => Let (x51 * 4294967296#64) fun x87 => Let (x87 + x56) fun x89 => Let (x15 * x39) fun x92 => Let (x89 - x92) fun x93 => Chk (x41.toNat ≠ 0) <| Let (x93 / x41) fun x96 => Let (x96 * x41) fun x100 => Let (x93 - x100) fun x101 => (wlx (σ := (BitVec 64) × (BitVec 64)) (fun s => bits_Div64.b2 x43 x58 x41 s.1 s.2) (x101, x96)).bind (Sum.elim (fun s => (fun x16_3 x18 => Let (x15 * 4294967296#64) fun x122 => Let (x122 + x18) fun x124 => Let (x93 * 4294967296#64) fun x126 => Let (x126 + x58) fun x128 => Let (x18 * x39) fun x131 => Let (x128 - x131) fun x132 => Let (x132 >>> x36.toNat) fun x134 => some (x124, x134)) s.1 s.2) (fun r => some r))) s.1 s.2) (fun r => some r)))))
set_option maxRecDepth 100000 in
theorem bits_Div64.calls  (a0 : BitVec 64) (a1 : BitVec 64) (a2 : BitVec 64) (r : (BitVec 64) × (BitVec 64)) (H : bits_Div64 a0 a1 a2 = some r) (w : World)   :
    Made Try.prog 56 #[U64 a0, U64 a1, U64 a2] w (.tuple #[U64 r.1, U64 r.2]) := by
  unfold bits_Div64 at H
  have hM := Mm.start w (snap w) (snap_ok w)
  generalize snap w = h at *
  refine t_enter (vs := [U64 a0, U64 a1, U64 a2]) (n := 135) Try.func56 rfl rfl rfl hM ?_
  clear hM
  change T 135 _ _ _
  refine t_seq ?_
  refine t_region (fun ops hops => ?_)
  clear hops
  refine z_val (v := .int .u64 0) (val_assign rfl rfl) rfl rfl rfl (fun _ _ _ => trivial) ?_
  refine z_val (v := .int .u64 0) (val_assign rfl rfl) rfl rfl rfl (fun _ _ _ => trivial) ?_
  refine z_nil ?_
  refine t_seq ?_
  refine t_seq ?_
  refine t_region (fun ops hops => ?_)
  clear hops
  refine z_val (v := U64 a2) (val_move rfl rfl) rfl rfl rfl (fun _ _ _ => trivial) ?_
  obtain ⟨x20, hx20, H⟩ := Let_elim H
  refine z_val (v := .bool x20) (by subst hx20; exact val_bin rfl rfl rfl rfl (u64_eql_r _ 0 a2)) rfl rfl rfl (fun _ _ _ => trivial) ?_
  clear hx20
  refine z_nil ?_
  cases x20
  ·
    replace H := cond_f H
    refine t_cond_false rfl ?_
    refine t_skip ?_
    refine t_seq ?_
    refine t_seq ?_
    refine t_region (fun ops hops => ?_)
    clear hops
    refine z_val (v := U64 a2) (val_move rfl rfl) rfl rfl rfl (fun _ _ _ => trivial) ?_
    refine z_val (v := U64 a0) (val_move rfl rfl) rfl rfl rfl (fun _ _ _ => trivial) ?_
    obtain ⟨x24, hx24, H⟩ := Let_elim H
    refine z_val (v := .bool x24) (by subst hx24; exact val_bin rfl rfl rfl rfl (u64_leq _ _ _)) rfl rfl rfl (fun _ _ _ => trivial) ?_
    clear hx24
    refine z_nil ?_
    cases x24
    ·
      replace H := cond_f H
      refine t_cond_false rfl ?_
      refine t_skip ?_
      refine t_seq ?_
      refine t_seq ?_
      refine t_region (fun ops hops => ?_)
      clear hops
      refine z_val (v := U64 a0) (val_move rfl rfl) rfl rfl rfl (fun _ _ _ => trivial) ?_
      obtain ⟨x27, hx27, H⟩ := Let_elim H
      refine z_val (v := .bool x27) (by subst hx27; exact val_bin rfl rfl rfl rfl (u64_eql_r _ 0 a0)) rfl rfl rfl (fun _ _ _ => trivial) ?_
      clear hx27
      refine z_nil ?_
      cases x27
      ·
        replace H := cond_f H
        refine t_cond_false rfl ?_
        refine t_skip ?_
        refine t_seq ?_
        refine t_region (fun ops hops => ?_)
        clear hops
        refine z_val (v := U64 a2) (val_move rfl rfl) rfl rfl rfl (fun _ _ _ => trivial) ?_
        obtain ⟨x35, hx, H⟩ := Option.bind_eq_some_iff.1 H
        refine z_made (v := .int .i64 x35) rfl Try.func61 nm61 bs61 rfl (fun w hw => bits_LeadingZeros64.calls a2 x35 hx w) rfl rfl rfl (fun _ _ _ => trivial) ?_
        clear hx
        obtain ⟨x36, hx36, H⟩ := Let_elim H
        refine z_val (v := U64 x36) (by subst hx36; exact val_conv rfl rfl (fun w => conv_int_u64 w _ _ .i64 _ (by rw [Try.underlying3]; rfl) Try.underlying73)) rfl rfl rfl (fun _ _ _ => trivial) ?_
        clear hx36
        refine z_val (v := U64 x36) (val_assign rfl rfl) rfl rfl rfl (fun _ _ _ => trivial) ?_
        refine z_nil ?_
        refine t_seq ?_
        refine t_region (fun ops hops => ?_)
        clear hops
        refine z_val (v := U64 a2) (val_move rfl rfl) rfl rfl rfl (fun _ _ _ => trivial) ?_
        refine z_val (v := U64 x36) (val_move rfl rfl) rfl rfl rfl (fun _ _ _ => trivial) ?_
        obtain ⟨x39, hx39, H⟩ := Let_elim H
        refine z_val (v := U64 x39) (by subst hx39; exact val_bin rfl rfl rfl rfl (u64_shl_u64 _ _ _)) rfl rfl rfl (fun _ _ _ => trivial) ?_
        clear hx39
        refine z_val (v := U64 x39) (val_assign rfl rfl) rfl rfl rfl (fun _ _ _ => trivial) ?_
        refine z_nil ?_
        refine t_seq ?_
        refine t_region (fun ops hops => ?_)
        clear hops
        refine z_val (v := U64 x39) (val_move rfl rfl) rfl rfl rfl (fun _ _ _ => trivial) ?_
        obtain ⟨x41, hx41, H⟩ := Let_elim H
        refine z_val (v := U64 x41) (by subst hx41; exact val_bin rfl rfl rfl rfl (u64_shr _ _ _ _ (by decide))) rfl rfl rfl (fun _ _ _ => trivial) ?_
        clear hx41
        refine z_val (v := U64 x41) (val_assign rfl rfl) rfl rfl rfl (fun _ _ _ => trivial) ?_
        refine z_nil ?_
        refine t_seq ?_
        refine t_region (fun ops hops => ?_)
        clear hops
        refine z_val (v := U64 x39) (val_move rfl rfl) rfl rfl rfl (fun _ _ _ => trivial) ?_
        obtain ⟨x43, hx43, H⟩ := Let_elim H
        refine z_val (v := U64 x43) (by subst hx43; exact val_bin rfl rfl rfl rfl (u64_and_r _ _ _)) rfl rfl rfl (fun _ _ _ => trivial) ?_
        clear hx43
        refine z_val (v := U64 x43) (val_assign rfl rfl) rfl rfl rfl (fun _ _ _ => trivial) ?_
        refine z_nil ?_
        refine t_seq ?_
        refine t_region (fun ops hops => ?_)
        clear hops
        refine z_val (v := U64 a0) (val_move rfl rfl) rfl rfl rfl (fun _ _ _ => trivial) ?_
        refine z_val (v := U64 x36) (val_move rfl rfl) rfl rfl rfl (fun _ _ _ => trivial) ?_
        obtain ⟨x46, hx46, H⟩ := Let_elim H
        refine z_val (v := U64 x46) (by subst hx46; exact val_bin rfl rfl rfl rfl (u64_shl_u64 _ _ _)) rfl rfl rfl (fun _ _ _ => trivial) ?_
        clear hx46
        refine z_val (v := U64 a1) (val_move rfl rfl) rfl rfl rfl (fun _ _ _ => trivial) ?_
        refine z_val (v := U64 x36) (val_move rfl rfl) rfl rfl rfl (fun _ _ _ => trivial) ?_
        obtain ⟨x49, hx49, H⟩ := Let_elim H
        refine z_val (v := U64 x49) (by subst hx49; exact val_bin rfl rfl rfl rfl (u64_sub_l _ _ _)) rfl rfl rfl (fun _ _ _ => trivial) ?_
        clear hx49
        obtain ⟨x50, hx50, H⟩ := Let_elim H
        refine z_val (v := U64 x50) (by subst hx50; exact val_bin rfl rfl rfl rfl (u64_shr_u64 _ _ _)) rfl rfl rfl (fun _ _ _ => trivial) ?_
        clear hx50
        obtain ⟨x51, hx51, H⟩ := Let_elim H
        refine z_val (v := U64 x51) (by subst hx51; exact val_bin rfl rfl rfl rfl (u64_or _ _ _)) rfl rfl rfl (fun _ _ _ => trivial) ?_
        clear hx51
        refine z_val (v := U64 x51) (val_assign rfl rfl) rfl rfl rfl (fun _ _ _ => trivial) ?_
        refine z_nil ?_
        refine t_seq ?_
        refine t_region (fun ops hops => ?_)
        clear hops
        refine z_val (v := U64 a1) (val_move rfl rfl) rfl rfl rfl (fun _ _ _ => trivial) ?_
        refine z_val (v := U64 x36) (val_move rfl rfl) rfl rfl rfl (fun _ _ _ => trivial) ?_
        obtain ⟨x54, hx54, H⟩ := Let_elim H
        refine z_val (v := U64 x54) (by subst hx54; exact val_bin rfl rfl rfl rfl (u64_shl_u64 _ _ _)) rfl rfl rfl (fun _ _ _ => trivial) ?_
        clear hx54
        refine z_val (v := U64 x54) (val_assign rfl rfl) rfl rfl rfl (fun _ _ _ => trivial) ?_
        refine z_nil ?_
        refine t_seq ?_
        refine t_region (fun ops hops => ?_)
        clear hops
        refine z_val (v := U64 x54) (val_move rfl rfl) rfl rfl rfl (fun _ _ _ => trivial) ?_
        obtain ⟨x56, hx56, H⟩ := Let_elim H
        refine z_val (v := U64 x56) (by subst hx56; exact val_bin rfl rfl rfl rfl (u64_shr _ _ _ _ (by decide))) rfl rfl rfl (fun _ _ _ => trivial) ?_
        clear hx56
        refine z_val (v := U64 x56) (val_assign rfl rfl) rfl rfl rfl (fun _ _ _ => trivial) ?_
        refine z_nil ?_
        refine t_seq ?_
        refine t_region (fun ops hops => ?_)
        clear hops
        refine z_val (v := U64 x54) (val_move rfl rfl) rfl rfl rfl (fun _ _ _ => trivial) ?_
        obtain ⟨x58, hx58, H⟩ := Let_elim H
        refine z_val (v := U64 x58) (by subst hx58; exact val_bin rfl rfl rfl rfl (u64_and_r _ _ _)) rfl rfl rfl (fun _ _ _ => trivial) ?_
        clear hx58
        refine z_val (v := U64 x58) (val_assign rfl rfl) rfl rfl rfl (fun _ _ _ => trivial) ?_
        refine z_nil ?_
        refine t_seq ?_
        refine t_region (fun ops hops => ?_)
        clear hops
        refine z_val (v := U64 x51) (val_move rfl rfl) rfl rfl rfl (fun _ _ _ => trivial) ?_
        refine z_val (v := U64 x41) (val_move rfl rfl) rfl rfl rfl (fun _ _ _ => trivial) ?_
        obtain ⟨hq_1, H⟩ := Chk_elim H
        obtain ⟨x61, hx61, H⟩ := Let_elim H
        refine z_val (v := U64 x61) (by subst hx61; exact val_bin rfl rfl rfl rfl (u64_quo _ _ _ hq_1)) rfl rfl rfl (fun _ _ _ => trivial) ?_
        clear hx61
        refine z_val (v := U64 x61) (val_assign rfl rfl) rfl rfl rfl (fun _ _ _ => trivial) ?_
        refine z_nil ?_
        refine t_seq ?_
        refine t_region (fun ops hops => ?_)
        clear hops
        refine z_val (v := U64 x51) (val_move rfl rfl) rfl rfl rfl (fun _ _ _ => trivial) ?_
        refine z_val (v := U64 x61) (val_move rfl rfl) rfl rfl rfl (fun _ _ _ => trivial) ?_
        refine z_val (v := U64 x41) (val_move rfl rfl) rfl rfl rfl (fun _ _ _ => trivial) ?_
        obtain ⟨x65, hx65, H⟩ := Let_elim H
        refine z_val (v := U64 x65) (by subst hx65; exact val_bin rfl rfl rfl rfl (u64_mul _ _ _)) rfl rfl rfl (fun _ _ _ => trivial) ?_
        clear hx65
        obtain ⟨x66, hx66, H⟩ := Let_elim H
        refine z_val (v := U64 x66) (by subst hx66; exact val_bin rfl rfl rfl rfl (u64_sub _ _ _)) rfl rfl rfl (fun _ _ _ => trivial) ?_
        clear hx66
        refine z_val (v := U64 x66) (val_assign rfl rfl) rfl rfl rfl (fun _ _ _ => trivial) ?_
        refine z_nil ?_
        refine t_seq ?_
        refine t_block ?_
        obtain ⟨z1, hz1, HK1⟩ := Option.bind_eq_some_iff.1 H
        clear H
        refine t_while hz1 (fun (s : (BitVec 64) × (BitVec 64)) (g : Unit) => [(2, U64 x39), (8, U64 x36), (9, U64 x41), (10, U64 x43), (11, U64 x51), (13, U64 x56), (14, U64 x58), (15, U64 s.1), (16, U64 s.2)]) (fun (s : (BitVec 64) × (BitVec 64)) (g : Unit) => [(2, U64 x39), (8, U64 x36), (9, U64 x41), (10, U64 x43), (11, U64 x51), (13, U64 x56), (14, U64 x58), (15, U64 s.1)]) (fun (s : (BitVec 64) × (BitVec 64)) (g : Unit) => Mm w [] h []) (fun (s : (BitVec 64) × (BitVec 64)) (g : Unit) => Mm w [] h []) (fun (s : (BitVec 64) × (BitVec 64)) (g : Unit) => True) (fun (s : (BitVec 64) × (BitVec 64)) (g : Unit) => True) () trivial (fun a w ha hw => ⟨ha.cons rfl (ha.cons rfl (ha.cons rfl (ha.cons rfl (ha.cons rfl (ha.cons rfl (ha.cons rfl (ha.cons rfl (ha.cons rfl (ha.nil))))))))), hw⟩) (fun Gn Gb s g e hφ H hn1 hb1 hr1 => ?_) (fun s g hzz hφ => ?_)
        ·
          obtain ⟨x15, x16⟩ := s
          change bits_Div64.b1 x43 x56 x41 x15 x16 = some e at H
          unfold bits_Div64.b1 at H
          clear hz1
          change T 135 _ _ _
          refine t_seq ?_
          refine t_seq ?_
          refine t_region (fun ops hops => ?_)
          refine z_val (v := U64 x15) (val_move rfl rfl) rfl rfl rfl (fun _ _ _ => trivial) ?_
          obtain ⟨x68, hx68, H⟩ := Let_elim H
          refine z_val (v := .bool x68) (by subst hx68; exact val_bin rfl rfl rfl rfl (u64_geq_r _ 4294967296 x15)) rfl rfl rfl (fun _ _ _ => trivial) ?_
          clear hx68
          refine z_val (v := .bool x68) (val_move rfl rfl) rfl rfl rfl (fun _ _ _ => trivial) ?_
          refine z_bind H 9 (fun (s : Bool) (_ : Unit) => [(2, U64 x39), (8, U64 x36), (9, U64 x41), (10, U64 x43), (11, U64 x51), (13, U64 x56), (14, U64 x58), (15, U64 x15), (16, U64 x16), (78, .bool s)]) (fun _ _ => Mm w [] h []) (fun _ _ => True) (fun Gr K s he HJ => ?_) (fun s g HB _ => ?_)
          ·
            clear H
            cases x68
            ·
              have H := cond_f he
              clear he
              refine z_val (v := U64 x15) (val_move rfl rfl) rfl rfl (by rw [hops]; rfl) (fun _ _ _ => trivial) ?_
              refine z_val (v := U64 x43) (val_move rfl rfl) rfl rfl (by rw [hops]; rfl) (fun _ _ _ => trivial) ?_
              obtain ⟨x72, hx72, H⟩ := Let_elim H
              refine z_val (v := U64 x72) (by subst hx72; exact val_bin rfl rfl rfl rfl (u64_mul _ _ _)) rfl rfl (by rw [hops]; rfl) (fun _ _ _ => trivial) ?_
              clear hx72
              refine z_val (v := U64 x16) (val_move rfl rfl) rfl rfl (by rw [hops]; rfl) (fun _ _ _ => trivial) ?_
              obtain ⟨x74, hx74, H⟩ := Let_elim H
              refine z_val (v := U64 x74) (by subst hx74; exact val_bin rfl rfl rfl rfl (u64_mul_l _ _ _)) rfl rfl (by rw [hops]; rfl) (fun _ _ _ => trivial) ?_
              clear hx74
              refine z_val (v := U64 x56) (val_move rfl rfl) rfl rfl (by rw [hops]; rfl) (fun _ _ _ => trivial) ?_
              obtain ⟨x76, hx76, H⟩ := Let_elim H
              refine z_val (v := U64 x76) (by subst hx76; exact val_bin rfl rfl rfl rfl (u64_add _ _ _)) rfl rfl (by rw [hops]; rfl) (fun _ _ _ => trivial) ?_
              clear hx76
              obtain ⟨x77, hx77, H⟩ := Let_elim H
              refine z_val (v := .bool x77) (by subst hx77; exact val_bin rfl rfl rfl rfl (u64_gtr _ _ _)) rfl rfl (by rw [hops]; rfl) (fun _ _ _ => trivial) ?_
              clear hx77
              refine z_val (v := .bool x77) (val_pick rfl rfl rfl) rfl rfl rfl (fun _ _ _ => trivial) ?_
              obtain rfl := Option.some.inj H
              exact z_nil ((K _ () HJ trivial).weak (fun a ha => ha.cons rfl (ha.cons rfl (ha.cons rfl (ha.cons rfl (ha.cons rfl (ha.cons rfl (ha.cons rfl (ha.cons rfl (ha.cons rfl (ha.cons rfl (ha.nil))))))))))) (fun w hw => hw))
            ·
              have H := cond_t he
              clear he
              refine z_skip rfl rfl (by rw [hops]; rfl) (fun _ _ _ => trivial) ?_
              refine z_skip rfl rfl (by rw [hops]; rfl) (fun _ _ _ => trivial) ?_
              refine z_skip rfl rfl (by rw [hops]; rfl) (fun _ _ _ => trivial) ?_
              refine z_skip rfl rfl (by rw [hops]; rfl) (fun _ _ _ => trivial) ?_
              refine z_skip rfl rfl (by rw [hops]; rfl) (fun _ _ _ => trivial) ?_
              refine z_skip rfl rfl (by rw [hops]; rfl) (fun _ _ _ => trivial) ?_
              refine z_skip rfl rfl (by rw [hops]; rfl) (fun _ _ _ => trivial) ?_
              refine z_skip rfl rfl (by rw [hops]; rfl) (fun _ _ _ => trivial) ?_
              refine z_val (v := .bool true) (val_pick rfl rfl rfl) rfl rfl rfl (fun _ _ _ => trivial) ?_
              obtain rfl := Option.some.inj H
              exact z_nil ((K _ () HJ trivial).weak (fun a ha => ha.cons rfl (ha.cons rfl (ha.cons rfl (ha.cons rfl (ha.cons rfl (ha.cons rfl (ha.cons rfl (ha.cons rfl (ha.cons rfl (ha.cons rfl (ha.nil))))))))))) (fun w hw => hw))
          ·
            replace H := HB
            clear HB
            obtain ⟨x78, rfl⟩ : ∃ x, x = s := ⟨_, rfl⟩
            change T 135 _ _ _
            refine z_nil ?_
            cases x78
            ·
              replace H := cond_f H
              refine t_cond_false rfl ?_
              refine t_exit rfl ?_
              obtain rfl := Option.some.inj H
              exact t_reach ((hb1 _ () rfl trivial).weak (fun a ha => ha.cons rfl (ha.cons rfl (ha.cons rfl (ha.cons rfl (ha.cons rfl (ha.cons rfl (ha.cons rfl (ha.cons rfl (ha.nil))))))))) (fun w hw => hw))
            ·
              replace H := cond_t H
              refine t_cond_true rfl ?_
              refine t_skip ?_
              refine t_block ?_
              refine t_seq ?_
              refine t_region (fun ops hops => ?_)
              clear hops
              refine z_val (v := U64 x15) (val_move rfl rfl) rfl rfl rfl (fun _ _ _ => trivial) ?_
              obtain ⟨x80, hx80, H⟩ := Let_elim H
              refine z_val (v := U64 x80) (by subst hx80; exact val_bin rfl rfl rfl rfl (u64_sub_r _ _ _)) rfl rfl rfl (fun _ _ _ => trivial) ?_
              clear hx80
              refine z_val (v := U64 x80) (val_assign rfl rfl) rfl rfl rfl (fun _ _ _ => trivial) ?_
              refine z_nil ?_
              refine t_seq ?_
              refine t_region (fun ops hops => ?_)
              clear hops
              refine z_val (v := U64 x16) (val_move rfl rfl) rfl rfl rfl (fun _ _ _ => trivial) ?_
              refine z_val (v := U64 x41) (val_move rfl rfl) rfl rfl rfl (fun _ _ _ => trivial) ?_
              obtain ⟨x83, hx83, H⟩ := Let_elim H
              refine z_val (v := U64 x83) (by subst hx83; exact val_bin rfl rfl rfl rfl (u64_add _ _ _)) rfl rfl rfl (fun _ _ _ => trivial) ?_
              clear hx83
              refine z_val (v := U64 x83) (val_assign rfl rfl) rfl rfl rfl (fun _ _ _ => trivial) ?_
              refine z_nil ?_
              refine t_seq ?_
              refine t_region (fun ops hops => ?_)
              clear hops
              refine z_val (v := U64 x83) (val_move rfl rfl) rfl rfl rfl (fun _ _ _ => trivial) ?_
              obtain ⟨x85, hx85, H⟩ := Let_elim H
              refine z_val (v := .bool x85) (by subst hx85; exact val_bin rfl rfl rfl rfl (u64_geq_r _ 4294967296 x83)) rfl rfl rfl (fun _ _ _ => trivial) ?_
              clear hx85
              refine z_nil ?_
              cases x85
              ·
                replace H := cond_f H
                refine t_cond_false rfl ?_
                refine t_skip ?_
                refine t_fin ?_
                obtain rfl := Option.some.inj H
                exact t_reach ((hn1 _ () rfl trivial).weak (fun a ha => ha.cons rfl (ha.cons rfl (ha.cons rfl (ha.cons rfl (ha.cons rfl (ha.cons rfl (ha.cons rfl (ha.cons rfl (ha.cons rfl (ha.nil)))))))))) (fun w hw => hw))
              ·
                replace H := cond_t H
                refine t_cond_true rfl ?_
                refine t_exit rfl ?_
                obtain rfl := Option.some.inj H
                exact t_reach ((hb1 _ () rfl trivial).weak (fun a ha => ha.cons rfl (ha.cons rfl (ha.cons rfl (ha.cons rfl (ha.cons rfl (ha.cons rfl (ha.cons rfl (ha.cons rfl (ha.nil))))))))) (fun w hw => hw))
        ·
          obtain ⟨x15, x16⟩ := s
          subst hzz
          have H := HK1
          clear HK1 hz1
          replace H := sum_l H
          try dsimp only at H
          change T 135 _ _ _
          refine t_seq ?_
          refine t_region (fun ops hops => ?_)
          clear hops
          refine z_val (v := U64 x51) (val_move rfl rfl) rfl rfl rfl (fun _ _ _ => trivial) ?_
          obtain ⟨x87, hx87, H⟩ := Let_elim H
          refine z_val (v := U64 x87) (by subst hx87; exact val_bin rfl rfl rfl rfl (u64_mul_r _ _ _)) rfl rfl rfl (fun _ _ _ => trivial) ?_
          clear hx87
          refine z_val (v := U64 x56) (val_move rfl rfl) rfl rfl rfl (fun _ _ _ => trivial) ?_
          obtain ⟨x89, hx89, H⟩ := Let_elim H
          refine z_val (v := U64 x89) (by subst hx89; exact val_bin rfl rfl rfl rfl (u64_add _ _ _)) rfl rfl rfl (fun _ _ _ => trivial) ?_
          clear hx89
          refine z_val (v := U64 x15) (val_move rfl rfl) rfl rfl rfl (fun _ _ _ => trivial) ?_
          refine z_val (v := U64 x39) (val_move rfl rfl) rfl rfl rfl (fun _ _ _ => trivial) ?_
          obtain ⟨x92, hx92, H⟩ := Let_elim H
          refine z_val (v := U64 x92) (by subst hx92; exact val_bin rfl rfl rfl rfl (u64_mul _ _ _)) rfl rfl rfl (fun _ _ _ => trivial) ?_
          clear hx92
          obtain ⟨x93, hx93, H⟩ := Let_elim H
          refine z_val (v := U64 x93) (by subst hx93; exact val_bin rfl rfl rfl rfl (u64_sub _ _ _)) rfl rfl rfl (fun _ _ _ => trivial) ?_
          clear hx93
          refine z_val (v := U64 x93) (val_assign rfl rfl) rfl rfl rfl (fun _ _ _ => trivial) ?_
          refine z_nil ?_
          refine t_seq ?_
          refine t_region (fun ops hops => ?_)
          clear hops
          refine z_val (v := U64 x93) (val_move rfl rfl) rfl rfl rfl (fun _ _ _ => trivial) ?_
          refine z_val (v := U64 x41) (val_move rfl rfl) rfl rfl rfl (fun _ _ _ => trivial) ?_
          obtain ⟨hq_2, H⟩ := Chk_elim H
          obtain ⟨x96, hx96, H⟩ := Let_elim H
          refine z_val (v := U64 x96) (by subst hx96; exact val_bin rfl rfl rfl rfl (u64_quo _ _ _ hq_2)) rfl rfl rfl (fun _ _ _ => trivial) ?_
          clear hx96
          refine z_val (v := U64 x96) (val_assign rfl rfl) rfl rfl rfl (fun _ _ _ => trivial) ?_
          refine z_nil ?_
          refine t_seq ?_
          refine t_region (fun ops hops => ?_)
          clear hops
          refine z_val (v := U64 x93) (val_move rfl rfl) rfl rfl rfl (fun _ _ _ => trivial) ?_
          refine z_val (v := U64 x96) (val_move rfl rfl) rfl rfl rfl (fun _ _ _ => trivial) ?_
          refine z_val (v := U64 x41) (val_move rfl rfl) rfl rfl rfl (fun _ _ _ => trivial) ?_
          obtain ⟨x100, hx100, H⟩ := Let_elim H
          refine z_val (v := U64 x100) (by subst hx100; exact val_bin rfl rfl rfl rfl (u64_mul _ _ _)) rfl rfl rfl (fun _ _ _ => trivial) ?_
          clear hx100
          obtain ⟨x101, hx101, H⟩ := Let_elim H
          refine z_val (v := U64 x101) (by subst hx101; exact val_bin rfl rfl rfl rfl (u64_sub _ _ _)) rfl rfl rfl (fun _ _ _ => trivial) ?_
          clear hx101
          refine z_val (v := U64 x101) (val_assign rfl rfl) rfl rfl rfl (fun _ _ _ => trivial) ?_
          refine z_nil ?_
          refine t_seq ?_
          refine t_block ?_
          obtain ⟨z1, hz1, HK1⟩ := Option.bind_eq_some_iff.1 H
          clear H
          refine t_while hz1 (fun (s : (BitVec 64) × (BitVec 64)) (g : Unit) => [(2, U64 x39), (8, U64 x36), (9, U64 x41), (10, U64 x43), (14, U64 x58), (15, U64 x15), (16, U64 s.1), (17, U64 x93), (18, U64 s.2)]) (fun (s : (BitVec 64) × (BitVec 64)) (g : Unit) => [(2, U64 x39), (8, U64 x36), (14, U64 x58), (15, U64 x15), (17, U64 x93), (18, U64 s.2)]) (fun (s : (BitVec 64) × (BitVec 64)) (g : Unit) => Mm w [] h []) (fun (s : (BitVec 64) × (BitVec 64)) (g : Unit) => Mm w [] h []) (fun (s : (BitVec 64) × (BitVec 64)) (g : Unit) => True) (fun (s : (BitVec 64) × (BitVec 64)) (g : Unit) => True) () trivial (fun a w ha hw => ⟨ha.cons rfl (ha.cons rfl (ha.cons rfl (ha.cons rfl (ha.cons rfl (ha.cons rfl (ha.cons rfl (ha.cons rfl (ha.cons rfl (ha.nil))))))))), hw⟩) (fun Gn Gb s g e hφ H hn1 hb1 hr1 => ?_) (fun s g hzz hφ => ?_)
          ·
            obtain ⟨x16_3, x18⟩ := s
            change bits_Div64.b2 x43 x58 x41 x16_3 x18 = some e at H
            unfold bits_Div64.b2 at H
            clear hz1
            change T 135 _ _ _
            refine t_seq ?_
            refine t_seq ?_
            refine t_region (fun ops hops => ?_)
            refine z_val (v := U64 x18) (val_move rfl rfl) rfl rfl rfl (fun _ _ _ => trivial) ?_
            obtain ⟨x103, hx103, H⟩ := Let_elim H
            refine z_val (v := .bool x103) (by subst hx103; exact val_bin rfl rfl rfl rfl (u64_geq_r _ 4294967296 x18)) rfl rfl rfl (fun _ _ _ => trivial) ?_
            clear hx103
            refine z_val (v := .bool x103) (val_move rfl rfl) rfl rfl rfl (fun _ _ _ => trivial) ?_
            refine z_bind H 9 (fun (s : Bool) (_ : Unit) => [(2, U64 x39), (8, U64 x36), (9, U64 x41), (10, U64 x43), (14, U64 x58), (15, U64 x15), (16, U64 x16_3), (17, U64 x93), (18, U64 x18), (113, .bool s)]) (fun _ _ => Mm w [] h []) (fun _ _ => True) (fun Gr K s he HJ => ?_) (fun s g HB _ => ?_)
            ·
              clear H
              cases x103
              ·
                have H := cond_f he
                clear he
                refine z_val (v := U64 x18) (val_move rfl rfl) rfl rfl (by rw [hops]; rfl) (fun _ _ _ => trivial) ?_
                refine z_val (v := U64 x43) (val_move rfl rfl) rfl rfl (by rw [hops]; rfl) (fun _ _ _ => trivial) ?_
                obtain ⟨x107, hx107, H⟩ := Let_elim H
                refine z_val (v := U64 x107) (by subst hx107; exact val_bin rfl rfl rfl rfl (u64_mul _ _ _)) rfl rfl (by rw [hops]; rfl) (fun _ _ _ => trivial) ?_
                clear hx107
                refine z_val (v := U64 x16_3) (val_move rfl rfl) rfl rfl (by rw [hops]; rfl) (fun _ _ _ => trivial) ?_
                obtain ⟨x109, hx109, H⟩ := Let_elim H
                refine z_val (v := U64 x109) (by subst hx109; exact val_bin rfl rfl rfl rfl (u64_mul_l _ _ _)) rfl rfl (by rw [hops]; rfl) (fun _ _ _ => trivial) ?_
                clear hx109
                refine z_val (v := U64 x58) (val_move rfl rfl) rfl rfl (by rw [hops]; rfl) (fun _ _ _ => trivial) ?_
                obtain ⟨x111, hx111, H⟩ := Let_elim H
                refine z_val (v := U64 x111) (by subst hx111; exact val_bin rfl rfl rfl rfl (u64_add _ _ _)) rfl rfl (by rw [hops]; rfl) (fun _ _ _ => trivial) ?_
                clear hx111
                obtain ⟨x112, hx112, H⟩ := Let_elim H
                refine z_val (v := .bool x112) (by subst hx112; exact val_bin rfl rfl rfl rfl (u64_gtr _ _ _)) rfl rfl (by rw [hops]; rfl) (fun _ _ _ => trivial) ?_
                clear hx112
                refine z_val (v := .bool x112) (val_pick rfl rfl rfl) rfl rfl rfl (fun _ _ _ => trivial) ?_
                obtain rfl := Option.some.inj H
                exact z_nil ((K _ () HJ trivial).weak (fun a ha => ha.cons rfl (ha.cons rfl (ha.cons rfl (ha.cons rfl (ha.cons rfl (ha.cons rfl (ha.cons rfl (ha.cons rfl (ha.cons rfl (ha.cons rfl (ha.nil))))))))))) (fun w hw => hw))
              ·
                have H := cond_t he
                clear he
                refine z_skip rfl rfl (by rw [hops]; rfl) (fun _ _ _ => trivial) ?_
                refine z_skip rfl rfl (by rw [hops]; rfl) (fun _ _ _ => trivial) ?_
                refine z_skip rfl rfl (by rw [hops]; rfl) (fun _ _ _ => trivial) ?_
                refine z_skip rfl rfl (by rw [hops]; rfl) (fun _ _ _ => trivial) ?_
                refine z_skip rfl rfl (by rw [hops]; rfl) (fun _ _ _ => trivial) ?_
                refine z_skip rfl rfl (by rw [hops]; rfl) (fun _ _ _ => trivial) ?_
                refine z_skip rfl rfl (by rw [hops]; rfl) (fun _ _ _ => trivial) ?_
                refine z_skip rfl rfl (by rw [hops]; rfl) (fun _ _ _ => trivial) ?_
                refine z_val (v := .bool true) (val_pick rfl rfl rfl) rfl rfl rfl (fun _ _ _ => trivial) ?_
                obtain rfl := Option.some.inj H
                exact z_nil ((K _ () HJ trivial).weak (fun a ha => ha.cons rfl (ha.cons rfl (ha.cons rfl (ha.cons rfl (ha.cons rfl (ha.cons rfl (ha.cons rfl (ha.cons rfl (ha.cons rfl (ha.cons rfl (ha.nil))))))))))) (fun w hw => hw))
            ·
              replace H := HB
              clear HB
              obtain ⟨x113, rfl⟩ : ∃ x, x = s := ⟨_, rfl⟩
              change T 135 _ _ _
              refine z_nil ?_
              cases x113
              ·
                replace H := cond_f H
                refine t_cond_false rfl ?_
                refine t_exit rfl ?_
                obtain rfl := Option.some.inj H
                exact t_reach ((hb1 _ () rfl trivial).weak (fun a ha => ha.cons rfl (ha.cons rfl (ha.cons rfl (ha.cons rfl (ha.cons rfl (ha.cons rfl (ha.nil))))))) (fun w hw => hw))
              ·
                replace H := cond_t H
                refine t_cond_true rfl ?_
                refine t_skip ?_
                refine t_block ?_
                refine t_seq ?_
                refine t_region (fun ops hops => ?_)
                clear hops
                refine z_val (v := U64 x18) (val_move rfl rfl) rfl rfl rfl (fun _ _ _ => trivial) ?_
                obtain ⟨x115, hx115, H⟩ := Let_elim H
                refine z_val (v := U64 x115) (by subst hx115; exact val_bin rfl rfl rfl rfl (u64_sub_r _ _ _)) rfl rfl rfl (fun _ _ _ => trivial) ?_
                clear hx115
                refine z_val (v := U64 x115) (val_assign rfl rfl) rfl rfl rfl (fun _ _ _ => trivial) ?_
                refine z_nil ?_
                refine t_seq ?_
                refine t_region (fun ops hops => ?_)
                clear hops
                refine z_val (v := U64 x16_3) (val_move rfl rfl) rfl rfl rfl (fun _ _ _ => trivial) ?_
                refine z_val (v := U64 x41) (val_move rfl rfl) rfl rfl rfl (fun _ _ _ => trivial) ?_
                obtain ⟨x118, hx118, H⟩ := Let_elim H
                refine z_val (v := U64 x118) (by subst hx118; exact val_bin rfl rfl rfl rfl (u64_add _ _ _)) rfl rfl rfl (fun _ _ _ => trivial) ?_
                clear hx118
                refine z_val (v := U64 x118) (val_assign rfl rfl) rfl rfl rfl (fun _ _ _ => trivial) ?_
                refine z_nil ?_
                refine t_seq ?_
                refine t_region (fun ops hops => ?_)
                clear hops
                refine z_val (v := U64 x118) (val_move rfl rfl) rfl rfl rfl (fun _ _ _ => trivial) ?_
                obtain ⟨x120, hx120, H⟩ := Let_elim H
                refine z_val (v := .bool x120) (by subst hx120; exact val_bin rfl rfl rfl rfl (u64_geq_r _ 4294967296 x118)) rfl rfl rfl (fun _ _ _ => trivial) ?_
                clear hx120
                refine z_nil ?_
                cases x120
                ·
                  replace H := cond_f H
                  refine t_cond_false rfl ?_
                  refine t_skip ?_
                  refine t_fin ?_
                  obtain rfl := Option.some.inj H
                  exact t_reach ((hn1 _ () rfl trivial).weak (fun a ha => ha.cons rfl (ha.cons rfl (ha.cons rfl (ha.cons rfl (ha.cons rfl (ha.cons rfl (ha.cons rfl (ha.cons rfl (ha.cons rfl (ha.nil)))))))))) (fun w hw => hw))
                ·
                  replace H := cond_t H
                  refine t_cond_true rfl ?_
                  refine t_exit rfl ?_
                  obtain rfl := Option.some.inj H
                  exact t_reach ((hb1 _ () rfl trivial).weak (fun a ha => ha.cons rfl (ha.cons rfl (ha.cons rfl (ha.cons rfl (ha.cons rfl (ha.cons rfl (ha.nil))))))) (fun w hw => hw))
          ·
            obtain ⟨x16_3, x18⟩ := s
            subst hzz
            have H := HK1
            clear HK1 hz1
            replace H := sum_l H
            try dsimp only at H
            change T 135 _ _ _
            refine t_seq ?_
            refine t_region (fun ops hops => ?_)
            clear hops
            refine z_val (v := U64 x15) (val_move rfl rfl) rfl rfl rfl (fun _ _ _ => trivial) ?_
            obtain ⟨x122, hx122, H⟩ := Let_elim H
            refine z_val (v := U64 x122) (by subst hx122; exact val_bin rfl rfl rfl rfl (u64_mul_r _ _ _)) rfl rfl rfl (fun _ _ _ => trivial) ?_
            clear hx122
            refine z_val (v := U64 x18) (val_move rfl rfl) rfl rfl rfl (fun _ _ _ => trivial) ?_
            obtain ⟨x124, hx124, H⟩ := Let_elim H
            refine z_val (v := U64 x124) (by subst hx124; exact val_bin rfl rfl rfl rfl (u64_add _ _ _)) rfl rfl rfl (fun _ _ _ => trivial) ?_
            clear hx124
            refine z_val (v := U64 x93) (val_move rfl rfl) rfl rfl rfl (fun _ _ _ => trivial) ?_
            obtain ⟨x126, hx126, H⟩ := Let_elim H
            refine z_val (v := U64 x126) (by subst hx126; exact val_bin rfl rfl rfl rfl (u64_mul_r _ _ _)) rfl rfl rfl (fun _ _ _ => trivial) ?_
            clear hx126
            refine z_val (v := U64 x58) (val_move rfl rfl) rfl rfl rfl (fun _ _ _ => trivial) ?_
            obtain ⟨x128, hx128, H⟩ := Let_elim H
            refine z_val (v := U64 x128) (by subst hx128; exact val_bin rfl rfl rfl rfl (u64_add _ _ _)) rfl rfl rfl (fun _ _ _ => trivial) ?_
            clear hx128
            refine z_val (v := U64 x18) (val_move rfl rfl) rfl rfl rfl (fun _ _ _ => trivial) ?_
            refine z_val (v := U64 x39) (val_move rfl rfl) rfl rfl rfl (fun _ _ _ => trivial) ?_
            obtain ⟨x131, hx131, H⟩ := Let_elim H
            refine z_val (v := U64 x131) (by subst hx131; exact val_bin rfl rfl rfl rfl (u64_mul _ _ _)) rfl rfl rfl (fun _ _ _ => trivial) ?_
            clear hx131
            obtain ⟨x132, hx132, H⟩ := Let_elim H
            refine z_val (v := U64 x132) (by subst hx132; exact val_bin rfl rfl rfl rfl (u64_sub _ _ _)) rfl rfl rfl (fun _ _ _ => trivial) ?_
            clear hx132
            refine z_val (v := U64 x36) (val_move rfl rfl) rfl rfl rfl (fun _ _ _ => trivial) ?_
            obtain ⟨x134, hx134, H⟩ := Let_elim H
            refine z_val (v := U64 x134) (by subst hx134; exact val_bin rfl rfl rfl rfl (u64_shr_u64 _ _ _)) rfl rfl rfl (fun _ _ _ => trivial) ?_
            clear hx134
            refine z_val (v := U64 x124) (val_assign rfl rfl) rfl rfl rfl (fun _ _ _ => trivial) ?_
            refine z_val (v := U64 x134) (val_assign rfl rfl) rfl rfl rfl (fun _ _ _ => trivial) ?_
            refine z_nil ?_
            refine t_ret ?_
            obtain rfl := Option.some.inj H
            exact ret2 rfl (res_tmp rfl) (res_tmp rfl) (fun _ hw => ⟨rfl, hw.below⟩)
      ·
        replace H := cond_t H
        refine t_cond_true rfl ?_
        refine t_seq ?_
        refine t_plan (C := Mm w [] h []) [] [(0, true), (1, true), (2, true), (3, true), (4, true), (5, true), (6, true), (7, true)] (by kernel_rfl) (by kernel_rfl) (fun _ hw => hw.drew) (fun ops hops => ?_)
        clear hops
        refine z_still (v := U64 a1) (val_move rfl rfl) rfl rfl rfl (fun _ hw => hw) ?_
        refine z_still (v := U64 a2) (val_move rfl rfl) rfl rfl rfl (fun _ hw => hw) ?_
        obtain ⟨hq_4, H⟩ := Chk_elim H
        obtain ⟨x30, hx30, H⟩ := Let_elim H
        refine z_still (v := U64 x30) (by subst hx30; exact val_bin rfl rfl rfl rfl (u64_quo _ _ _ hq_4)) rfl rfl rfl (fun _ hw => hw) ?_
        clear hx30
        refine z_still (v := U64 a1) (val_move rfl rfl) rfl rfl rfl (fun _ hw => hw) ?_
        refine z_still (v := U64 a2) (val_move rfl rfl) rfl rfl rfl (fun _ hw => hw) ?_
        obtain ⟨hq_5, H⟩ := Chk_elim H
        obtain ⟨x33, hx33, H⟩ := Let_elim H
        refine z_still (v := U64 x33) (by subst hx33; exact val_bin rfl rfl rfl rfl (u64_rem _ _ _ hq_5)) rfl rfl rfl (fun _ hw => hw) ?_
        clear hx33
        refine z_still (v := U64 x30) (val_assign rfl rfl) rfl rfl rfl (fun _ hw => hw) ?_
        refine z_still (v := U64 x33) (val_assign rfl rfl) rfl rfl rfl (fun _ hw => hw) ?_
        refine z_nil ?_
        refine t_ret ?_
        obtain rfl := Option.some.inj H
        exact ret2 rfl (res_tmp rfl) (res_tmp rfl) (fun _ hw => ⟨rfl, hw.below⟩)
    ·
      replace H := cond_t H
      refine t_cond_true rfl ?_
      exact nomatch H
  ·
    replace H := cond_t H
    refine t_cond_true rfl ?_
    exact nomatch H
def wide_short64.b1 (a0 : Vec (BitVec 64) 4) (a1 : BitVec 64) (y_4 : Vec (BitVec 64) 4) (x7 : BitVec 64) (x8 : Int) : Option (Ctl ((Vec (BitVec 64) 4) × (BitVec 64) × (Int)) ((Vec (BitVec 64) 4) × (Vec (BitVec 64) 4))) :=
  Let (decide (0 ≤ x8)) fun x10 => (bif x10 then Chk (0 ≤ x8 ∧ x8 < ((4 : Nat) : Int)) <| Let (a0.get x8.toNat) fun x18 => (bits_Div64 x7 x18 a1).bind fun x20 => Chk (0 ≤ x8 ∧ x8 < ((4 : Nat) : Int)) <| Let (y_4.set x8.toNat x20.1) fun y_4_7 => Let (wi (x8 - 1)) fun x12 => some (.next (y_4_7, x20.2, x12)) else some (.brk (y_4, x7, x8)))
def wide_short64 (a0 : Vec (BitVec 64) 4) (a1 : BitVec 64) : Option ((Vec (BitVec 64) 4) × (Vec (BitVec 64) 4)) :=
  (wlx (σ := (Vec (BitVec 64) 4) × (BitVec 64) × (Int)) (fun s => wide_short64.b1 a0 a1 s.1 s.2.1 s.2.2) ((Vec.rep 4 0#64), 0#64, 3)).bind (Sum.elim (fun s => (fun y_4 x7 x8 => (word_Of x7).bind fun x26 => some (y_4, x26)) s.1 s.2.1 s.2.2) (fun r => some r))
set_option maxRecDepth 100000 in
theorem wide_short64.calls  (a0 : Vec (BitVec 64) 4) (a1 : BitVec 64) (r : (Vec (BitVec 64) 4) × (Vec (BitVec 64) 4)) (H : wide_short64 a0 a1 = some r) (w : World)   :
    Made Try.prog 50 #[.agg (cV U64 a0).toArray, U64 a1] w (.tuple #[.agg (cV U64 r.1).toArray, .agg (cV U64 r.2).toArray]) := by
  unfold wide_short64 at H
  have hM := Mm.start w (snap w) (snap_ok w)
  generalize snap w = h at *
  refine t_enter (vs := [.agg (cV U64 a0).toArray, U64 a1]) (n := 27) Try.func50 rfl rfl rfl hM ?_
  clear hM
  change T 27 _ _ _
  refine t_seq ?_
  refine t_region (fun ops hops => ?_)
  clear hops
  refine z_box (cs := cV U64 a0) (room := 4) rfl rfl rfl (cV_len _) rfl rfl rfl (fun _ _ _ _ => trivial) (fun g_1 => ?_)
  refine z_alloc (cs := cV U64 (Vec.rep 4 0#64)) (room := 4) rfl ze57 rfl (cV_len _) rfl rfl rfl (fun _ _ _ _ => trivial) (fun g_2 => ?_)
  refine z_alloc (cs := cV U64 (Vec.rep 4 0#64)) (room := 4) rfl ze57 rfl (cV_len _) rfl rfl rfl (fun _ _ _ _ => trivial) (fun g_3 => ?_)
  refine z_nil ?_
  refine t_seq ?_
  refine t_region (fun ops hops => ?_)
  clear hops
  refine z_alloc (cs := cV U64 (Vec.rep 4 0#64)) (room := 4) rfl ze57 rfl (cV_len _) rfl rfl rfl (fun _ _ _ _ => trivial) (fun g_4 => ?_)
  refine z_nil ?_
  refine t_seq ?_
  refine t_region (fun ops hops => ?_)
  clear hops
  refine z_val (v := .int .u64 0) (val_assign rfl rfl) rfl rfl rfl (fun _ _ _ => trivial) ?_
  refine z_nil ?_
  refine t_seq ?_
  refine t_seq ?_
  refine t_region (fun ops hops => ?_)
  clear hops
  refine z_val (v := .int .i64 3) (val_assign rfl rfl) rfl rfl rfl (fun _ _ _ => trivial) ?_
  refine z_nil ?_
  refine t_block ?_
  obtain ⟨z1, hz1, HK1⟩ := Option.bind_eq_some_iff.1 H
  clear H
  refine t_while hz1 (fun (s : (Vec (BitVec 64) 4) × (BitVec 64) × (Int)) (g : Unit) => [(1, U64 a1), (2, .pointer (some ⟨g_1, 0, none⟩)), (4, .pointer (some ⟨g_2, 0, none⟩)), (5, .pointer (some ⟨g_3, 0, none⟩)), (6, .pointer (some ⟨g_4, 0, none⟩)), (7, U64 s.2.1), (8, .int .i64 s.2.2)]) (fun (s : (Vec (BitVec 64) 4) × (BitVec 64) × (Int)) (g : Unit) => [(4, .pointer (some ⟨g_2, 0, none⟩)), (5, .pointer (some ⟨g_3, 0, none⟩)), (6, .pointer (some ⟨g_4, 0, none⟩)), (7, U64 s.2.1)]) (fun (s : (Vec (BitVec 64) 4) × (BitVec 64) × (Int)) (g : Unit) => Mm w [] h [.blk g_4 57 (cV U64 s.1) 4, .blk g_3 57 (cV U64 (Vec.rep 4 0#64)) 4, .blk g_2 57 (cV U64 (Vec.rep 4 0#64)) 4, .blk g_1 57 (cV U64 a0) 4]) (fun (s : (Vec (BitVec 64) 4) × (BitVec 64) × (Int)) (g : Unit) => Mm w [] h [.blk g_4 57 (cV U64 s.1) 4, .blk g_3 57 (cV U64 (Vec.rep 4 0#64)) 4, .blk g_2 57 (cV U64 (Vec.rep 4 0#64)) 4]) (fun (s : (Vec (BitVec 64) 4) × (BitVec 64) × (Int)) (g : Unit) => True) (fun (s : (Vec (BitVec 64) 4) × (BitVec 64) × (Int)) (g : Unit) => True) () trivial (fun a w ha hw => ⟨ha.cons rfl (ha.cons rfl (ha.cons rfl (ha.cons rfl (ha.cons rfl (ha.cons rfl (ha.cons rfl (ha.nil))))))), hw⟩) (fun Gn Gb s g e hφ H hn1 hb1 hr1 => ?_) (fun s g hzz hφ => ?_)
  ·
    obtain ⟨y_4, x7, x8⟩ := s
    change wide_short64.b1 a0 a1 y_4 x7 x8 = some e at H
    unfold wide_short64.b1 at H
    clear hz1
    change T 27 _ _ _
    refine t_seq ?_
    refine t_seq ?_
    refine t_region (fun ops hops => ?_)
    clear hops
    refine z_val (v := .int .i64 x8) (val_move rfl rfl) rfl rfl rfl (fun _ _ _ => trivial) ?_
    obtain ⟨x10, hx10, H⟩ := Let_elim H
    refine z_val (v := .bool x10) (by subst hx10; exact val_bin rfl rfl rfl rfl (i64_geq _ _ _)) rfl rfl rfl (fun _ _ _ => trivial) ?_
    clear hx10
    refine z_nil ?_
    cases x10
    ·
      replace H := cond_f H
      refine t_cond_false rfl ?_
      refine t_exit rfl ?_
      obtain rfl := Option.some.inj H
      exact t_reach ((hb1 _ () rfl trivial).weak (fun a ha => ha.cons rfl (ha.cons rfl (ha.cons rfl (ha.cons rfl (ha.nil))))) (fun w hw => hw.sel [0, 1, 2] rfl rfl))
    ·
      replace H := cond_t H
      refine t_cond_true rfl ?_
      refine t_skip ?_
      refine t_seq ?_
      refine t_block ?_
      refine t_region (fun ops hops => ?_)
      clear hops
      refine z_val (v := .int .i64 x8) (val_move rfl rfl) rfl rfl rfl (fun _ _ _ => trivial) ?_
      refine z_val (v := U64 x7) (val_move rfl rfl) rfl rfl rfl (fun _ _ _ => trivial) ?_
      refine z_val (v := .int .i64 x8) (val_move rfl rfl) rfl rfl rfl (fun _ _ _ => trivial) ?_
      obtain ⟨hq_5, H⟩ := Chk_elim H
      refine z_val (v := .pointer (some ⟨g_1, x8.toNat, none⟩)) (val_idx0 rfl rfl rfl Try.underlying57 sz38 hq_5 rfl) rfl rfl rfl (fun _ _ _ => trivial) ?_
      obtain ⟨x18, hx18, H⟩ := Let_elim H
      refine z_val (v := U64 x18) (by subst hx18; exact val_load1 rfl rfl Try.underlying38 rfl (fun _ hw => hw.cell (j := 3) rfl (cV_at _ (idx_lt hq_5)))) rfl rfl rfl (fun _ _ _ => trivial) ?_
      clear hx18
      refine z_val (v := U64 a1) (val_move rfl rfl) rfl rfl rfl (fun _ _ _ => trivial) ?_
      obtain ⟨x20, hx, H⟩ := Option.bind_eq_some_iff.1 H
      refine z_made (v := .tuple #[U64 x20.1, U64 x20.2]) rfl Try.func56 nm56 bs56 rfl (fun w hw => bits_Div64.calls x7 x18 a1 x20 hx w) rfl rfl rfl (fun _ _ _ => trivial) ?_
      clear hx
      refine z_val (v := .tuple #[U64 x20.1, U64 x20.2]) (val_move rfl rfl) rfl rfl rfl (fun _ _ _ => trivial) ?_
      refine z_val (v := U64 x20.1) (val_extract rfl rfl rfl) rfl rfl rfl (fun _ _ _ => trivial) ?_
      refine z_val (v := U64 x20.2) (val_extract rfl rfl rfl) rfl rfl rfl (fun _ _ _ => trivial) ?_
      obtain ⟨hq_6, H⟩ := Chk_elim H
      refine z_val (v := .pointer (some ⟨g_4, x8.toNat, none⟩)) (val_idx0 rfl rfl rfl Try.underlying57 sz38 hq_6 rfl) rfl rfl rfl (fun _ _ _ => trivial) ?_
      obtain ⟨y_4_7, hy_4_7, H⟩ := Let_elim H
      refine z_store1 (j := 0) (cs' := cV U64 y_4_7) (L' := [.blk g_4 57 (cV U64 y_4_7) 4, .blk g_3 57 (cV U64 (Vec.rep 4 0#64)) 4, .blk g_2 57 (cV U64 (Vec.rep 4 0#64)) 4, .blk g_1 57 (cV U64 a0) 4]) rfl rfl rfl rfl rfl sz38 rfl (by rw [cV_len]; exact (idx_lt hq_6)) (by subst hy_4_7; exact cV_set (f := U64) _ _ x20.1) rfl rfl rfl (fun _ _ _ => trivial) ?_
      clear hy_4_7
      refine z_val (v := U64 x20.2) (val_assign rfl rfl) rfl rfl rfl (fun _ _ _ => trivial) ?_
      refine z_nil ?_
      refine t_fin ?_
      refine t_region (fun ops hops => ?_)
      clear hops
      refine z_val (v := .int .i64 x8) (val_move rfl rfl) rfl rfl rfl (fun _ _ _ => trivial) ?_
      obtain ⟨x12, hx12, H⟩ := Let_elim H
      refine z_val (v := .int .i64 x12) (by subst hx12; exact val_bin rfl rfl rfl rfl (i64_sub _ _ _)) rfl rfl rfl (fun _ _ _ => trivial) ?_
      clear hx12
      refine z_val (v := .int .i64 x12) (val_assign rfl rfl) rfl rfl rfl (fun _ _ _ => trivial) ?_
      refine z_nil ?_
      obtain rfl := Option.some.inj H
      exact t_reach ((hn1 _ () rfl trivial).weak (fun a ha => ha.cons rfl (ha.cons rfl (ha.cons rfl (ha.cons rfl (ha.cons rfl (ha.cons rfl (ha.cons rfl (ha.nil)))))))) (fun w hw => hw))
  ·
    obtain ⟨y_4, x7, x8⟩ := s
    subst hzz
    have H := HK1
    clear HK1 hz1
    replace H := sum_l H
    try dsimp only at H
    change T 27 _ _ _
    refine t_seq ?_
    refine T.weak (S' := [(4, .pointer (some ⟨g_2, 0, none⟩)), (5, .pointer (some ⟨g_3, 0, none⟩)), (6, .pointer (some ⟨g_4, 0, none⟩)), (7, U64 x7)]) (M' := Mm w [] h [.blk g_4 57 (cV U64 y_4) 4, .blk g_3 57 (cV U64 (Vec.rep 4 0#64)) 4, .blk g_2 57 (cV U64 (Vec.rep 4 0#64)) 4]) ?_ (fun a ha => ha.cons rfl (ha.cons rfl (ha.cons rfl (ha.cons rfl (ha.nil))))) (fun w hw => hw)
    obtain ⟨x26, hx_8, H⟩ := Option.bind_eq_some_iff.1 H
    refine t_free [⟨0, 24, [], fun _ => True, fun γ => .agg (cV U64 y_4).toArray, fun γ => none⟩, ⟨1, 25, [], fun _ => True, fun γ => U64 x7, fun γ => none⟩, ⟨2, 26, [1], fun _ => True, fun γ => .agg (cV U64 x26).toArray, fun γ => none⟩] [] [3, 4] (by kernel_rfl) (by kernel_rfl) (And.intro ?_ (And.intro ?_ (And.intro ?_ (trivial)))) (trivial) (fun γ hφ ops => ?_)
    ·
      intro γ hφ
      show Makes _ 27 [(4, .pointer (some ⟨g_2, 0, none⟩)), (5, .pointer (some ⟨g_3, 0, none⟩)), (6, .pointer (some ⟨g_4, 0, none⟩)), (7, U64 x7)] (Mm w [] h [.blk g_4 57 (cV U64 y_4) 4, .blk g_3 57 (cV U64 (Vec.rep 4 0#64)) 4, .blk g_2 57 (cV U64 (Vec.rep 4 0#64)) 4]) _ (fun _ => True) (fun g => .agg (cV U64 y_4).toArray) (fun g => none)
      exact m_val (val_loadR (off := 0) (cs := cV U64 y_4) rfl rfl Try.underlying57 rfl (sz57.trans (congrArg some (cV_len _).symm)) (fun _ hw => hw.whole (j := 0) rfl))
    ·
      intro γ hφ
      show Makes _ 27 [(4, .pointer (some ⟨g_2, 0, none⟩)), (5, .pointer (some ⟨g_3, 0, none⟩)), (6, .pointer (some ⟨g_4, 0, none⟩)), (7, U64 x7)] (Mm w [] h [.blk g_4 57 (cV U64 y_4) 4, .blk g_3 57 (cV U64 (Vec.rep 4 0#64)) 4, .blk g_2 57 (cV U64 (Vec.rep 4 0#64)) 4]) _ (fun _ => True) (fun g => U64 x7) (fun g => none)
      exact m_val (val_move rfl rfl)
    ·
      intro γ hφ
      show Makes _ 27 [(25, U64 x7), (4, .pointer (some ⟨g_2, 0, none⟩)), (5, .pointer (some ⟨g_3, 0, none⟩)), (6, .pointer (some ⟨g_4, 0, none⟩)), (7, U64 x7)] (Mm w [] h [.blk g_4 57 (cV U64 y_4) 4, .blk g_3 57 (cV U64 (Vec.rep 4 0#64)) 4, .blk g_2 57 (cV U64 (Vec.rep 4 0#64)) 4]) _ (fun _ => True) (fun g => .agg (cV U64 x26).toArray) (fun g => none)
      exact m_made rfl Try.func31 nm31 bs31 rfl (fun w hw => word_Of.calls x7 x26 hx_8 w)
    change T 27 [(24, .agg (cV U64 y_4).toArray), (25, U64 x7), (26, .agg (cV U64 x26).toArray), (4, .pointer (some ⟨g_2, 0, none⟩)), (5, .pointer (some ⟨g_3, 0, none⟩)), (6, .pointer (some ⟨g_4, 0, none⟩)), (7, U64 x7)] (Mm w [] h [.blk g_4 57 (cV U64 y_4) 4, .blk g_3 57 (cV U64 (Vec.rep 4 0#64)) 4, .blk g_2 57 (cV U64 (Vec.rep 4 0#64)) 4]) _
    refine z_storeA (j := 2) (cs' := cV U64 y_4) (L' := [.blk g_4 57 (cV U64 y_4) 4, .blk g_3 57 (cV U64 (Vec.rep 4 0#64)) 4, .blk g_2 57 (cV U64 y_4) 4]) rfl rfl rfl (cV_one (fun _ => rfl) _) sz57 rfl (cV_len _) rfl rfl rfl (fun _ _ _ => trivial) ?_
    refine z_storeA (j := 1) (cs' := cV U64 x26) (L' := [.blk g_4 57 (cV U64 y_4) 4, .blk g_3 57 (cV U64 x26) 4, .blk g_2 57 (cV U64 y_4) 4]) rfl rfl rfl (cV_one (fun _ => rfl) _) sz57 rfl (cV_len _) rfl rfl rfl (fun _ _ _ => trivial) ?_
    refine z_nil ?_
    refine t_ret ?_
    obtain rfl := Option.some.inj H
    exact ret2 rfl (res_row (j := 2) rfl Try.underlying57 rfl sz57 rfl (cV_len _)) (res_row (j := 1) rfl Try.underlying57 rfl sz57 rfl (cV_len _)) (fun _ hw => ⟨rfl, hw.below⟩)
def wide_step (a0 : Vec (BitVec 64) 4) (a1 : Vec (BitVec 64) 4) (a2 : Bool) : Option ((Vec (BitVec 64) 4) × (Bool)) :=
  (word_Bit a0 255#64).bind fun x10 => (word_Shl a0 1#64).bind fun x12 => (bif a2 then Let (x12.get 0) fun x15 => Let (x15 ||| 1#64) fun x16 => Let (x12.set 0 x16) fun y_1_5 => some y_1_5 else some x12).bind (fun (y_1 : Vec (BitVec 64) 4) => (bif x10 then some true else (word_Compare y_1 a1).bind fun x22 => Let (decide (0 ≤ x22)) fun x23 => some x23).bind (fun x24 => (bif x24 then (word_Sub y_1 a1).bind fun x27 => some (x27, true) else some (y_1, false))))
set_option maxRecDepth 100000 in
theorem wide_step.calls  (a0 : Vec (BitVec 64) 4) (a1 : Vec (BitVec 64) 4) (a2 : Bool) (r : (Vec (BitVec 64) 4) × (Bool)) (H : wide_step a0 a1 a2 = some r) (w : World)   :
    Made Try.prog 51 #[.agg (cV U64 a0).toArray, .agg (cV U64 a1).toArray, .bool a2] w (.tuple #[.agg (cV U64 r.1).toArray, .bool r.2]) := by
  unfold wide_step at H
  have hM := Mm.start w (snap w) (snap_ok w)
  generalize snap w = h at *
  refine t_enter (vs := [.agg (cV U64 a0).toArray, .agg (cV U64 a1).toArray, .bool a2]) (n := 29) Try.func51 rfl rfl rfl hM ?_
  clear hM
  change T 29 _ _ _
  refine t_seq ?_
  refine t_region (fun ops hops => ?_)
  clear hops
  refine z_box (cs := cV U64 a0) (room := 4) rfl rfl rfl (cV_len _) rfl rfl rfl (fun _ _ _ _ => trivial) (fun g_1 => ?_)
  refine z_box (cs := cV U64 a1) (room := 4) rfl rfl rfl (cV_len _) rfl rfl rfl (fun _ _ _ _ => trivial) (fun g_2 => ?_)
  refine z_alloc (cs := cV U64 (Vec.rep 4 0#64)) (room := 4) rfl ze57 rfl (cV_len _) rfl rfl rfl (fun _ _ _ _ => trivial) (fun g_3 => ?_)
  refine z_val (v := .bool false) (val_assign rfl rfl) rfl rfl rfl (fun _ _ _ => trivial) ?_
  refine z_nil ?_
  refine t_seq ?_
  refine t_region (fun ops hops => ?_)
  clear hops
  refine z_val (v := .agg (cV U64 a0).toArray) (val_loadR (off := 0) (cs := cV U64 a0) rfl rfl Try.underlying57 rfl (sz57.trans (congrArg some (cV_len _).symm)) (fun _ hw => hw.whole (j := 2) rfl)) rfl rfl rfl (fun _ _ _ => trivial) ?_
  obtain ⟨x10, hx, H⟩ := Option.bind_eq_some_iff.1 H
  refine z_made (v := .bool x10) rfl Try.func52 nm52 bs52 rfl (fun w hw => word_Bit.calls a0 255#64 x10 hx w) rfl rfl rfl (fun _ _ _ => trivial) ?_
  clear hx
  refine z_val (v := .bool x10) (val_assign rfl rfl) rfl rfl rfl (fun _ _ _ => trivial) ?_
  refine z_nil ?_
  refine t_seq ?_
  refine t_region (fun ops hops => ?_)
  clear hops
  refine z_val (v := .agg (cV U64 a0).toArray) (val_loadR (off := 0) (cs := cV U64 a0) rfl rfl Try.underlying57 rfl (sz57.trans (congrArg some (cV_len _).symm)) (fun _ hw => hw.whole (j := 2) rfl)) rfl rfl rfl (fun _ _ _ => trivial) ?_
  obtain ⟨x12, hx_4, H⟩ := Option.bind_eq_some_iff.1 H
  refine z_made (v := .agg (cV U64 x12).toArray) rfl Try.func57 nm57 bs57 rfl (fun w hw => word_Shl.calls a0 1#64 x12 hx_4 w) rfl rfl rfl (fun _ _ _ => trivial) ?_
  clear hx_4
  refine z_storeA (j := 2) (cs' := cV U64 x12) (L' := [.blk g_3 57 (cV U64 (Vec.rep 4 0#64)) 4, .blk g_2 57 (cV U64 a1) 4, .blk g_1 57 (cV U64 x12) 4]) rfl rfl rfl (cV_one (fun _ => rfl) _) sz57 rfl (cV_len _) rfl rfl rfl (fun _ _ _ => trivial) ?_
  refine z_nil ?_
  refine t_seq ?_
  refine t_seq ?_
  refine t_region (fun ops hops => ?_)
  clear hops
  refine z_val (v := .bool a2) (val_move rfl rfl) rfl rfl rfl (fun _ _ _ => trivial) ?_
  refine z_nil ?_
  refine t_bind H (fun (s : (Vec (BitVec 64) 4)) (g : Unit) => [(3, .pointer (some ⟨g_1, 0, none⟩)), (4, .pointer (some ⟨g_2, 0, none⟩)), (6, .pointer (some ⟨g_3, 0, none⟩)), (8, .bool x10)]) (fun (s : (Vec (BitVec 64) 4)) (g : Unit) => Mm w [] h [.blk g_3 57 (cV U64 (Vec.rep 4 0#64)) 4, .blk g_2 57 (cV U64 a1) 4, .blk g_1 57 (cV U64 s) 4]) (fun (s : (Vec (BitVec 64) 4)) (g : Unit) => True) (fun Gr K s he HJ => ?_) (fun s g HB hφ => ?_)
  ·
    clear H
    cases a2
    ·
      have H := cond_f he
      clear he
      refine t_cond_false rfl ?_
      refine t_skip ?_
      obtain rfl := Option.some.inj H
      exact t_reach ((K _ () HJ trivial).weak (fun a ha => ha.cons rfl (ha.cons rfl (ha.cons rfl (ha.cons rfl (ha.nil))))) (fun w hw => hw))
    ·
      have H := cond_t he
      clear he
      refine t_cond_true rfl ?_
      refine t_region (fun ops hops => ?_)
      clear hops
      refine z_val (v := .pointer (some ⟨g_1, 0, none⟩)) (val_idx0 rfl rfl rfl Try.underlying57 sz38 (by decide) rfl) rfl rfl rfl (fun _ _ _ => trivial) ?_
      obtain ⟨x15, hx15, H⟩ := Let_elim H
      refine z_val (v := U64 x15) (by subst hx15; exact val_load1 rfl rfl Try.underlying38 rfl (fun _ hw => hw.cell (j := 2) rfl (cV_at _ (by decide)))) rfl rfl rfl (fun _ _ _ => trivial) ?_
      clear hx15
      obtain ⟨x16, hx16, H⟩ := Let_elim H
      refine z_val (v := U64 x16) (by subst hx16; exact val_bin rfl rfl rfl rfl (u64_or_r _ _ _)) rfl rfl rfl (fun _ _ _ => trivial) ?_
      clear hx16
      refine z_val (v := .pointer (some ⟨g_1, 0, none⟩)) (val_idx0 rfl rfl rfl Try.underlying57 sz38 (by decide) rfl) rfl rfl rfl (fun _ _ _ => trivial) ?_
      obtain ⟨y_1_5, hy_1_5, H⟩ := Let_elim H
      refine z_store1 (j := 2) (cs' := cV U64 y_1_5) (L' := [.blk g_3 57 (cV U64 (Vec.rep 4 0#64)) 4, .blk g_2 57 (cV U64 a1) 4, .blk g_1 57 (cV U64 y_1_5) 4]) rfl rfl rfl rfl rfl sz38 rfl (by rw [cV_len]; exact (by decide)) (by subst hy_1_5; exact cV_set (f := U64) _ _ x16) rfl rfl rfl (fun _ _ _ => trivial) ?_
      clear hy_1_5
      refine z_nil ?_
      obtain rfl := Option.some.inj H
      exact t_reach ((K _ () HJ trivial).weak (fun a ha => ha.cons rfl (ha.cons rfl (ha.cons rfl (ha.cons rfl (ha.nil))))) (fun w hw => hw))
  ·
    replace H := HB
    clear HB
    obtain ⟨y_1, rfl⟩ : ∃ x, x = s := ⟨_, rfl⟩
    try dsimp only at H
    change T 29 _ _ _
    refine t_seq ?_
    refine t_seq ?_
    refine t_region (fun ops hops => ?_)
    refine z_val (v := .bool x10) (val_move rfl rfl) rfl rfl rfl (fun _ _ _ => trivial) ?_
    refine z_val (v := .bool x10) (val_move rfl rfl) rfl rfl rfl (fun _ _ _ => trivial) ?_
    refine z_bind H 5 (fun (s : Bool) (_ : Unit) => [(3, .pointer (some ⟨g_1, 0, none⟩)), (4, .pointer (some ⟨g_2, 0, none⟩)), (6, .pointer (some ⟨g_3, 0, none⟩)), (24, .bool s)]) (fun _ _ => Mm w [] h [.blk g_3 57 (cV U64 (Vec.rep 4 0#64)) 4, .blk g_2 57 (cV U64 a1) 4, .blk g_1 57 (cV U64 y_1) 4]) (fun _ _ => True) (fun Gr K s he HJ => ?_) (fun s g HB _ => ?_)
    ·
      clear H
      cases x10
      ·
        have H := cond_f he
        clear he
        refine z_val (v := .agg (cV U64 y_1).toArray) (val_loadR (off := 0) (cs := cV U64 y_1) rfl rfl Try.underlying57 rfl (sz57.trans (congrArg some (cV_len _).symm)) (fun _ hw => hw.whole (j := 2) rfl)) rfl rfl (by rw [hops]; rfl) (fun _ _ _ => trivial) ?_
        refine z_val (v := .agg (cV U64 a1).toArray) (val_loadR (off := 0) (cs := cV U64 a1) rfl rfl Try.underlying57 rfl (sz57.trans (congrArg some (cV_len _).symm)) (fun _ hw => hw.whole (j := 1) rfl)) rfl rfl (by rw [hops]; rfl) (fun _ _ _ => trivial) ?_
        obtain ⟨x22, hx_6, H⟩ := Option.bind_eq_some_iff.1 H
        refine z_made (v := .int .i64 x22) rfl Try.func58 nm58 bs58 rfl (fun w hw => word_Compare.calls y_1 a1 x22 hx_6 w) rfl rfl (by rw [hops]; rfl) (fun _ _ _ => trivial) ?_
        clear hx_6
        obtain ⟨x23, hx23, H⟩ := Let_elim H
        refine z_val (v := .bool x23) (by subst hx23; exact val_bin rfl rfl rfl rfl (i64_geq _ _ _)) rfl rfl (by rw [hops]; rfl) (fun _ _ _ => trivial) ?_
        clear hx23
        refine z_val (v := .bool x23) (val_pick rfl rfl rfl) rfl rfl rfl (fun _ _ _ => trivial) ?_
        obtain rfl := Option.some.inj H
        exact z_nil ((K _ () HJ trivial).weak (fun a ha => ha.cons rfl (ha.cons rfl (ha.cons rfl (ha.cons rfl (ha.nil))))) (fun w hw => hw))
      ·
        have H := cond_t he
        clear he
        refine z_skip rfl rfl (by rw [hops]; rfl) (fun _ _ _ => trivial) ?_
        refine z_skip rfl rfl (by rw [hops]; rfl) (fun _ _ _ => trivial) ?_
        refine z_skip rfl rfl (by rw [hops]; rfl) (fun _ _ _ => trivial) ?_
        refine z_skip rfl rfl (by rw [hops]; rfl) (fun _ _ _ => trivial) ?_
        refine z_val (v := .bool true) (val_pick rfl rfl rfl) rfl rfl rfl (fun _ _ _ => trivial) ?_
        obtain rfl := Option.some.inj H
        exact z_nil ((K _ () HJ trivial).weak (fun a ha => ha.cons rfl (ha.cons rfl (ha.cons rfl (ha.cons rfl (ha.nil))))) (fun w hw => hw))
    ·
      replace H := HB
      clear HB
      obtain ⟨x24, rfl⟩ : ∃ x, x = s := ⟨_, rfl⟩
      change T 29 _ _ _
      refine z_nil ?_
      cases x24
      ·
        replace H := cond_f H
        refine t_cond_false rfl ?_
        refine t_skip ?_
        refine t_seq ?_
        refine t_region (fun ops hops => ?_)
        clear hops
        refine z_val (v := .agg (cV U64 y_1).toArray) (val_loadR (off := 0) (cs := cV U64 y_1) rfl rfl Try.underlying57 rfl (sz57.trans (congrArg some (cV_len _).symm)) (fun _ hw => hw.whole (j := 2) rfl)) rfl rfl rfl (fun _ _ _ => trivial) ?_
        refine z_storeA (j := 0) (cs' := cV U64 y_1) (L' := [.blk g_3 57 (cV U64 y_1) 4, .blk g_2 57 (cV U64 a1) 4, .blk g_1 57 (cV U64 y_1) 4]) rfl rfl rfl (cV_one (fun _ => rfl) _) sz57 rfl (cV_len _) rfl rfl rfl (fun _ _ _ => trivial) ?_
        refine z_val (v := .bool false) (val_assign rfl rfl) rfl rfl rfl (fun _ _ _ => trivial) ?_
        refine z_nil ?_
        refine t_ret ?_
        obtain rfl := Option.some.inj H
        exact ret2 rfl (res_row (j := 0) rfl Try.underlying57 rfl sz57 rfl (cV_len _)) (res_tmp rfl) (fun _ hw => ⟨rfl, hw.below⟩)
      ·
        replace H := cond_t H
        refine t_cond_true rfl ?_
        refine t_seq ?_
        refine t_region (fun ops hops => ?_)
        clear hops
        refine z_val (v := .agg (cV U64 y_1).toArray) (val_loadR (off := 0) (cs := cV U64 y_1) rfl rfl Try.underlying57 rfl (sz57.trans (congrArg some (cV_len _).symm)) (fun _ hw => hw.whole (j := 2) rfl)) rfl rfl rfl (fun _ _ _ => trivial) ?_
        refine z_val (v := .agg (cV U64 a1).toArray) (val_loadR (off := 0) (cs := cV U64 a1) rfl rfl Try.underlying57 rfl (sz57.trans (congrArg some (cV_len _).symm)) (fun _ hw => hw.whole (j := 1) rfl)) rfl rfl rfl (fun _ _ _ => trivial) ?_
        obtain ⟨x27, hx_7, H⟩ := Option.bind_eq_some_iff.1 H
        refine z_made (v := .agg (cV U64 x27).toArray) rfl Try.func59 nm59 bs59 rfl (fun w hw => word_Sub.calls y_1 a1 x27 hx_7 w) rfl rfl rfl (fun _ _ _ => trivial) ?_
        clear hx_7
        refine z_storeA (j := 0) (cs' := cV U64 x27) (L' := [.blk g_3 57 (cV U64 x27) 4, .blk g_2 57 (cV U64 a1) 4, .blk g_1 57 (cV U64 y_1) 4]) rfl rfl rfl (cV_one (fun _ => rfl) _) sz57 rfl (cV_len _) rfl rfl rfl (fun _ _ _ => trivial) ?_
        refine z_val (v := .bool true) (val_assign rfl rfl) rfl rfl rfl (fun _ _ _ => trivial) ?_
        refine z_nil ?_
        refine t_ret ?_
        obtain rfl := Option.some.inj H
        exact ret2 rfl (res_row (j := 0) rfl Try.underlying57 rfl sz57 rfl (cV_len _)) (res_tmp rfl) (fun _ hw => ⟨rfl, hw.below⟩)
def wide_Div.b1 (a0 : Vec (BitVec 64) 4) (a1 : Vec (BitVec 64) 4) (y_6 : Vec (BitVec 64) 4) (y_5 : Vec (BitVec 64) 4) (x12 : Int) : Option (Ctl ((Vec (BitVec 64) 4) × (Vec (BitVec 64) 4) × (Int)) ((Vec (BitVec 64) 4) × (Vec (BitVec 64) 4))) :=
  Let (decide (0 ≤ x12)) fun x55 => (bif x55 then Let (BitVec.ofInt 64 x12) fun x63 => (word_Bit a0 x63).bind fun x64 => (wide_step y_6 a1 x64).bind fun x65 => (bif x65.2 then Let (wi (Int.tdiv x12 64)) fun x71 => Chk (0 ≤ x71 ∧ x71 < ((4 : Nat) : Int)) <| Let (y_5.get x71.toNat) fun x73 => Let (Int.tmod x12 64) fun x75 => Chk (0 ≤ x75) <| Let (1#64 <<< x75.toNat) fun x76 => Let (x73 ||| x76) fun x77 => Chk (0 ≤ x71 ∧ x71 < ((4 : Nat) : Int)) <| Let (y_5.set x71.toNat x77) fun y_5_19 => some y_5_19 else some y_5).bind (fun (y_5_14 : Vec (BitVec 64) 4) => Let (wi (x12 - 1)) fun x57 => some (.next (x65.1, y_5_14, x57))) else some (.brk (y_6, y_5, x12)))
def wide_Div (a0 : Vec (BitVec 64) 4) (a1 : Vec (BitVec 64) 4) : Option ((Vec (BitVec 64) 4) × (Vec (BitVec 64) 4)) :=
  (word_Small a0).bind fun x17 => (word_Small a1).bind fun x22 => Let (Vec.rep 4 0#64) fun x27 => Let (a1.l == x27.l) fun x28 => (bif x28 then some ((Vec.rep 4 0#64), (Vec.rep 4 0#64)) else (bif x17.2 then some x22.2 else some false).bind (fun x35 => (bif x35 then Chk (x22.1.toNat ≠ 0) <| Let (x17.1 / x22.1) fun x38 => (word_Of x38).bind fun x39 => Chk (x22.1.toNat ≠ 0) <| Let (x17.1 % x22.1) fun x42 => (word_Of x42).bind fun x43 => some (x39, x43) else (bif x22.2 then (wide_short64 a0 x22.1).bind fun x48 => some (x48.1, x48.2) else (word_Len a0).bind fun x52 => Let (wi (x52 - 1)) fun x53 => (wlx (σ := (Vec (BitVec 64) 4) × (Vec (BitVec 64) 4) × (Int)) (fun s => wide_Div.b1 a0 a1 s.1 s.2.1 s.2.2) ((Vec.rep 4 0#64), (Vec.rep 4 0#64), x53)).bind (Sum.elim (fun s => (fun y_6 y_5 x12 => some (y_5, y_6)) s.1 s.2.1 s.2.2) (fun r => some r))))))
set_option maxRecDepth 100000 in
theorem wide_Div.calls  (a0 : Vec (BitVec 64) 4) (a1 : Vec (BitVec 64) 4) (r : (Vec (BitVec 64) 4) × (Vec (BitVec 64) 4)) (H : wide_Div a0 a1 = some r) (w : World)   :
    Made Try.prog 38 #[.agg (cV U64 a0).toArray, .agg (cV U64 a1).toArray] w (.tuple #[.agg (cV U64 r.1).toArray, .agg (cV U64 r.2).toArray]) := by
  unfold wide_Div at H
  have hM := Mm.start w (snap w) (snap_ok w)
  generalize snap w = h at *
  refine t_enter (vs := [.agg (cV U64 a0).toArray, .agg (cV U64 a1).toArray]) (n := 81) Try.func38 rfl rfl rfl hM ?_
  clear hM
  change T 81 _ _ _
  refine t_seq ?_
  refine t_region (fun ops hops => ?_)
  clear hops
  refine z_box (cs := cV U64 a0) (room := 4) rfl rfl rfl (cV_len _) rfl rfl rfl (fun _ _ _ _ => trivial) (fun g_1 => ?_)
  refine z_box (cs := cV U64 a1) (room := 4) rfl rfl rfl (cV_len _) rfl rfl rfl (fun _ _ _ _ => trivial) (fun g_2 => ?_)
  refine z_alloc (cs := cV U64 (Vec.rep 4 0#64)) (room := 4) rfl ze57 rfl (cV_len _) rfl rfl rfl (fun _ _ _ _ => trivial) (fun g_3 => ?_)
  refine z_alloc (cs := cV U64 (Vec.rep 4 0#64)) (room := 4) rfl ze57 rfl (cV_len _) rfl rfl rfl (fun _ _ _ _ => trivial) (fun g_4 => ?_)
  refine z_nil ?_
  refine t_seq ?_
  refine t_region (fun ops hops => ?_)
  clear hops
  refine z_alloc (cs := cV U64 (Vec.rep 4 0#64)) (room := 4) rfl ze57 rfl (cV_len _) rfl rfl rfl (fun _ _ _ _ => trivial) (fun g_5 => ?_)
  refine z_alloc (cs := cV U64 (Vec.rep 4 0#64)) (room := 4) rfl ze57 rfl (cV_len _) rfl rfl rfl (fun _ _ _ _ => trivial) (fun g_6 => ?_)
  refine z_nil ?_
  refine t_seq ?_
  refine t_region (fun ops hops => ?_)
  clear hops
  refine z_val (v := .agg (cV U64 a0).toArray) (val_loadR (off := 0) (cs := cV U64 a0) rfl rfl Try.underlying57 rfl (sz57.trans (congrArg some (cV_len _).symm)) (fun _ hw => hw.whole (j := 5) rfl)) rfl rfl rfl (fun _ _ _ => trivial) ?_
  obtain ⟨x17, hx, H⟩ := Option.bind_eq_some_iff.1 H
  refine z_made (v := .tuple #[U64 x17.1, .bool x17.2]) rfl Try.func30 nm30 bs30 rfl (fun w hw => word_Small.calls a0 x17 hx w) rfl rfl rfl (fun _ _ _ => trivial) ?_
  clear hx
  refine z_val (v := .tuple #[U64 x17.1, .bool x17.2]) (val_move rfl rfl) rfl rfl rfl (fun _ _ _ => trivial) ?_
  refine z_val (v := U64 x17.1) (val_extract rfl rfl rfl) rfl rfl rfl (fun _ _ _ => trivial) ?_
  refine z_val (v := .bool x17.2) (val_extract rfl rfl rfl) rfl rfl rfl (fun _ _ _ => trivial) ?_
  refine z_val (v := U64 x17.1) (val_assign rfl rfl) rfl rfl rfl (fun _ _ _ => trivial) ?_
  refine z_val (v := .bool x17.2) (val_assign rfl rfl) rfl rfl rfl (fun _ _ _ => trivial) ?_
  refine z_nil ?_
  refine t_seq ?_
  refine t_region (fun ops hops => ?_)
  clear hops
  refine z_val (v := .agg (cV U64 a1).toArray) (val_loadR (off := 0) (cs := cV U64 a1) rfl rfl Try.underlying57 rfl (sz57.trans (congrArg some (cV_len _).symm)) (fun _ hw => hw.whole (j := 4) rfl)) rfl rfl rfl (fun _ _ _ => trivial) ?_
  obtain ⟨x22, hx_7, H⟩ := Option.bind_eq_some_iff.1 H
  refine z_made (v := .tuple #[U64 x22.1, .bool x22.2]) rfl Try.func30 nm30 bs30 rfl (fun w hw => word_Small.calls a1 x22 hx_7 w) rfl rfl rfl (fun _ _ _ => trivial) ?_
  clear hx_7
  refine z_val (v := .tuple #[U64 x22.1, .bool x22.2]) (val_move rfl rfl) rfl rfl rfl (fun _ _ _ => trivial) ?_
  refine z_val (v := U64 x22.1) (val_extract rfl rfl rfl) rfl rfl rfl (fun _ _ _ => trivial) ?_
  refine z_val (v := .bool x22.2) (val_extract rfl rfl rfl) rfl rfl rfl (fun _ _ _ => trivial) ?_
  refine z_val (v := U64 x22.1) (val_assign rfl rfl) rfl rfl rfl (fun _ _ _ => trivial) ?_
  refine z_val (v := .bool x22.2) (val_assign rfl rfl) rfl rfl rfl (fun _ _ _ => trivial) ?_
  refine z_nil ?_
  refine t_seq ?_
  refine t_block ?_
  refine t_seq ?_
  refine t_region (fun ops hops => ?_)
  clear hops
  refine z_val (v := .agg (cV U64 a1).toArray) (val_loadR (off := 0) (cs := cV U64 a1) rfl rfl Try.underlying57 rfl (sz57.trans (congrArg some (cV_len _).symm)) (fun _ hw => hw.whole (j := 4) rfl)) rfl rfl rfl (fun _ _ _ => trivial) ?_
  obtain ⟨x27, hx27, H⟩ := Let_elim H
  refine z_val (v := .agg (cV U64 x27).toArray) (by subst hx27; exact val_build (vs := []) rfl rfl (fun w => by kernel_rfl)) rfl rfl rfl (fun _ _ _ => trivial) ?_
  clear hx27
  obtain ⟨x28, hx28, H⟩ := Let_elim H
  refine z_val (v := .bool x28) (by subst hx28; exact val_bina rfl rfl rfl eg57 (fun w => vec_eql U64_inj (P := Try.prog) Try.underlying57 pk38 Try.underlying38 ce38 w _ _)) rfl rfl rfl (fun _ _ _ => trivial) ?_
  clear hx28
  refine z_val (v := .bool x28) (val_assign rfl rfl) rfl rfl rfl (fun _ _ _ => trivial) ?_
  refine z_nil ?_
  cases x28
  ·
    replace H := cond_f H
    refine t_cond_false rfl ?_
    refine t_seq ?_
    refine t_region (fun ops hops => ?_)
    refine z_val (v := .bool x17.2) (val_move rfl rfl) rfl rfl rfl (fun _ _ _ => trivial) ?_
    refine z_val (v := .bool x17.2) (val_move rfl rfl) rfl rfl rfl (fun _ _ _ => trivial) ?_
    refine z_bind H 2 (fun (s : Bool) (_ : Unit) => [(2, .pointer (some ⟨g_1, 0, none⟩)), (3, .pointer (some ⟨g_2, 0, none⟩)), (4, .pointer (some ⟨g_3, 0, none⟩)), (5, .pointer (some ⟨g_4, 0, none⟩)), (6, .pointer (some ⟨g_5, 0, none⟩)), (7, .pointer (some ⟨g_6, 0, none⟩)), (8, U64 x17.1), (10, U64 x22.1), (11, .bool x22.2), (35, .bool s)]) (fun _ _ => Mm w [] h [.blk g_6 57 (cV U64 (Vec.rep 4 0#64)) 4, .blk g_5 57 (cV U64 (Vec.rep 4 0#64)) 4, .blk g_4 57 (cV U64 (Vec.rep 4 0#64)) 4, .blk g_3 57 (cV U64 (Vec.rep 4 0#64)) 4, .blk g_2 57 (cV U64 a1) 4, .blk g_1 57 (cV U64 a0) 4]) (fun _ _ => True) (fun Gr K s he HJ => ?_) (fun s g HB _ => ?_)
    ·
      clear H
      generalize x17.2 = bb at *
      cases bb
      ·
        have H := cond_f he
        clear he
        refine z_skip rfl rfl (by rw [hops]; rfl) (fun _ _ _ => trivial) ?_
        refine z_val (v := .bool false) (val_pick rfl rfl rfl) rfl rfl rfl (fun _ _ _ => trivial) ?_
        obtain rfl := Option.some.inj H
        exact z_nil ((K _ () HJ trivial).weak (fun a ha => ha.cons rfl (ha.cons rfl (ha.cons rfl (ha.cons rfl (ha.cons rfl (ha.cons rfl (ha.cons rfl (ha.cons rfl (ha.cons rfl (ha.cons rfl (ha.nil))))))))))) (fun w hw => hw))
      ·
        have H := cond_t he
        clear he
        refine z_val (v := .bool x22.2) (val_move rfl rfl) rfl rfl (by rw [hops]; rfl) (fun _ _ _ => trivial) ?_
        refine z_val (v := .bool x22.2) (val_pick rfl rfl rfl) rfl rfl rfl (fun _ _ _ => trivial) ?_
        obtain rfl := Option.some.inj H
        exact z_nil ((K _ () HJ trivial).weak (fun a ha => ha.cons rfl (ha.cons rfl (ha.cons rfl (ha.cons rfl (ha.cons rfl (ha.cons rfl (ha.cons rfl (ha.cons rfl (ha.cons rfl (ha.cons rfl (ha.nil))))))))))) (fun w hw => hw))
    ·
      replace H := HB
      clear HB
      obtain ⟨x35, rfl⟩ : ∃ x, x = s := ⟨_, rfl⟩
      change T 81 _ _ _
      refine z_val (v := .bool x35) (val_assign rfl rfl) rfl rfl rfl (fun _ _ _ => trivial) ?_
      refine z_nil ?_
      cases x35
      ·
        replace H := cond_f H
        refine t_cond_false rfl ?_
        refine t_seq ?_
        refine t_region (fun ops hops => ?_)
        clear hops
        refine z_val (v := .bool x22.2) (val_move rfl rfl) rfl rfl rfl (fun _ _ _ => trivial) ?_
        refine z_val (v := .bool x22.2) (val_assign rfl rfl) rfl rfl rfl (fun _ _ _ => trivial) ?_
        refine z_nil ?_
        generalize x22.2 = bb_8 at *
        cases bb_8
        ·
          replace H := cond_f H
          refine t_cond_false rfl ?_
          refine t_skip ?_
          refine t_fin ?_
          refine t_seq ?_
          refine t_seq ?_
          refine t_region (fun ops hops => ?_)
          clear hops
          refine z_val (v := .agg (cV U64 a0).toArray) (val_loadR (off := 0) (cs := cV U64 a0) rfl rfl Try.underlying57 rfl (sz57.trans (congrArg some (cV_len _).symm)) (fun _ hw => hw.whole (j := 5) rfl)) rfl rfl rfl (fun _ _ _ => trivial) ?_
          obtain ⟨x52, hx_9, H⟩ := Option.bind_eq_some_iff.1 H
          refine z_made (v := .int .i64 x52) rfl Try.func34 nm34 bs34 rfl (fun w hw => word_Len.calls a0 x52 hx_9 w) rfl rfl rfl (fun _ _ _ => trivial) ?_
          clear hx_9
          obtain ⟨x53, hx53, H⟩ := Let_elim H
          refine z_val (v := .int .i64 x53) (by subst hx53; exact val_bin rfl rfl rfl rfl (i64_sub _ _ _)) rfl rfl rfl (fun _ _ _ => trivial) ?_
          clear hx53
          refine z_val (v := .int .i64 x53) (val_assign rfl rfl) rfl rfl rfl (fun _ _ _ => trivial) ?_
          refine z_nil ?_
          refine t_block ?_
          obtain ⟨z1, hz1, HK1⟩ := Option.bind_eq_some_iff.1 H
          clear H
          refine t_while hz1 (fun (s : (Vec (BitVec 64) 4) × (Vec (BitVec 64) 4) × (Int)) (g : Unit) => [(2, .pointer (some ⟨g_1, 0, none⟩)), (3, .pointer (some ⟨g_2, 0, none⟩)), (4, .pointer (some ⟨g_3, 0, none⟩)), (5, .pointer (some ⟨g_4, 0, none⟩)), (6, .pointer (some ⟨g_5, 0, none⟩)), (7, .pointer (some ⟨g_6, 0, none⟩)), (12, .int .i64 s.2.2)]) (fun (s : (Vec (BitVec 64) 4) × (Vec (BitVec 64) 4) × (Int)) (g : Unit) => [(4, .pointer (some ⟨g_3, 0, none⟩)), (5, .pointer (some ⟨g_4, 0, none⟩)), (6, .pointer (some ⟨g_5, 0, none⟩)), (7, .pointer (some ⟨g_6, 0, none⟩))]) (fun (s : (Vec (BitVec 64) 4) × (Vec (BitVec 64) 4) × (Int)) (g : Unit) => Mm w [] h [.blk g_6 57 (cV U64 s.1) 4, .blk g_5 57 (cV U64 s.2.1) 4, .blk g_4 57 (cV U64 (Vec.rep 4 0#64)) 4, .blk g_3 57 (cV U64 (Vec.rep 4 0#64)) 4, .blk g_2 57 (cV U64 a1) 4, .blk g_1 57 (cV U64 a0) 4]) (fun (s : (Vec (BitVec 64) 4) × (Vec (BitVec 64) 4) × (Int)) (g : Unit) => Mm w [] h [.blk g_6 57 (cV U64 s.1) 4, .blk g_5 57 (cV U64 s.2.1) 4, .blk g_4 57 (cV U64 (Vec.rep 4 0#64)) 4, .blk g_3 57 (cV U64 (Vec.rep 4 0#64)) 4]) (fun (s : (Vec (BitVec 64) 4) × (Vec (BitVec 64) 4) × (Int)) (g : Unit) => True) (fun (s : (Vec (BitVec 64) 4) × (Vec (BitVec 64) 4) × (Int)) (g : Unit) => True) () trivial (fun a w ha hw => ⟨ha.cons rfl (ha.cons rfl (ha.cons rfl (ha.cons rfl (ha.cons rfl (ha.cons rfl (ha.cons rfl (ha.nil))))))), hw⟩) (fun Gn Gb s g e hφ H hn1 hb1 hr1 => ?_) (fun s g hzz hφ => ?_)
          ·
            obtain ⟨y_6, y_5, x12⟩ := s
            change wide_Div.b1 a0 a1 y_6 y_5 x12 = some e at H
            unfold wide_Div.b1 at H
            clear hz1
            change T 81 _ _ _
            refine t_seq ?_
            refine t_seq ?_
            refine t_region (fun ops hops => ?_)
            clear hops
            refine z_val (v := .int .i64 x12) (val_move rfl rfl) rfl rfl rfl (fun _ _ _ => trivial) ?_
            obtain ⟨x55, hx55, H⟩ := Let_elim H
            refine z_val (v := .bool x55) (by subst hx55; exact val_bin rfl rfl rfl rfl (i64_geq _ _ _)) rfl rfl rfl (fun _ _ _ => trivial) ?_
            clear hx55
            refine z_nil ?_
            cases x55
            ·
              replace H := cond_f H
              refine t_cond_false rfl ?_
              refine t_exit rfl ?_
              obtain rfl := Option.some.inj H
              exact t_reach ((hb1 _ () rfl trivial).weak (fun a ha => ha.cons rfl (ha.cons rfl (ha.cons rfl (ha.cons rfl (ha.nil))))) (fun w hw => hw.sel [0, 1, 2, 3] rfl rfl))
            ·
              replace H := cond_t H
              refine t_cond_true rfl ?_
              refine t_skip ?_
              refine t_seq ?_
              refine t_block ?_
              refine t_seq ?_
              refine T.weak (S' := [(2, .pointer (some ⟨g_1, 0, none⟩)), (3, .pointer (some ⟨g_2, 0, none⟩)), (4, .pointer (some ⟨g_3, 0, none⟩)), (5, .pointer (some ⟨g_4, 0, none⟩)), (6, .pointer (some ⟨g_5, 0, none⟩)), (7, .pointer (some ⟨g_6, 0, none⟩)), (12, .int .i64 x12), (54, .int .i64 x12), (55, .bool true)]) (M' := Mm w [] h [.blk g_6 57 (cV U64 y_6) 4, .blk g_5 57 (cV U64 y_5) 4, .blk g_4 57 (cV U64 (Vec.rep 4 0#64)) 4, .blk g_3 57 (cV U64 (Vec.rep 4 0#64)) 4, .blk g_2 57 (cV U64 a1) 4, .blk g_1 57 (cV U64 a0) 4]) ?_ (fun a ha => ha.cons rfl (ha.cons rfl (ha.cons rfl (ha.cons rfl (ha.cons rfl (ha.cons rfl (ha.cons rfl (ha.cons rfl (ha.cons rfl (ha.nil)))))))))) (fun w hw => hw)
              obtain ⟨x63, hx63, H⟩ := Let_elim H
              obtain ⟨x64, hx_10, H⟩ := Option.bind_eq_some_iff.1 H
              obtain ⟨x65, hx_11, H⟩ := Option.bind_eq_some_iff.1 H
              refine t_free [⟨0, 59, [], fun _ => True, fun γ => .agg (cV U64 y_6).toArray, fun γ => none⟩, ⟨1, 60, [], fun _ => True, fun γ => .agg (cV U64 a1).toArray, fun γ => none⟩, ⟨2, 61, [], fun _ => True, fun γ => .agg (cV U64 a0).toArray, fun γ => none⟩, ⟨3, 62, [], fun _ => True, fun γ => .int .i64 x12, fun γ => none⟩, ⟨4, 63, [3], fun _ => True, fun γ => U64 x63, fun γ => none⟩, ⟨5, 64, [2, 3, 4], fun _ => True, fun γ => .bool x64, fun γ => none⟩, ⟨6, 65, [0, 1, 2, 3, 4, 5], fun _ => True, fun γ => .tuple #[.agg (cV U64 x65.1).toArray, .bool x65.2], fun γ => none⟩, ⟨7, 58, [0, 1, 2, 3, 4, 5, 6], fun _ => True, fun γ => .tuple #[.agg (cV U64 x65.1).toArray, .bool x65.2], fun γ => none⟩, ⟨8, 66, [0, 1, 2, 3, 4, 5, 6, 7], fun _ => True, fun γ => .agg (cV U64 x65.1).toArray, fun γ => none⟩, ⟨9, 67, [0, 1, 2, 3, 4, 5, 6, 7], fun _ => True, fun γ => .bool x65.2, fun γ => none⟩, ⟨10, 13, [], fun _ => True, fun γ => .pointer (some ⟨(γ 10).2, 0, none⟩), fun γ => some (.blk (γ 10).2 57 (cV U64 (Vec.rep 4 0#64)) 4)⟩] [(9, [0, 1, 2, 3, 4, 5, 6, 7])] [11, 12] (by kernel_rfl) (by kernel_rfl) (And.intro ?_ (And.intro ?_ (And.intro ?_ (And.intro ?_ (And.intro ?_ (And.intro ?_ (And.intro ?_ (And.intro ?_ (And.intro ?_ (And.intro ?_ (And.intro ?_ (trivial)))))))))))) (And.intro ?_ (trivial)) (fun γ hφ ops => ?_)
              ·
                intro γ hφ
                show Makes _ 81 [(2, .pointer (some ⟨g_1, 0, none⟩)), (3, .pointer (some ⟨g_2, 0, none⟩)), (4, .pointer (some ⟨g_3, 0, none⟩)), (5, .pointer (some ⟨g_4, 0, none⟩)), (6, .pointer (some ⟨g_5, 0, none⟩)), (7, .pointer (some ⟨g_6, 0, none⟩)), (12, .int .i64 x12), (54, .int .i64 x12), (55, .bool true)] (Mm w [] h [.blk g_6 57 (cV U64 y_6) 4, .blk g_5 57 (cV U64 y_5) 4, .blk g_4 57 (cV U64 (Vec.rep 4 0#64)) 4, .blk g_3 57 (cV U64 (Vec.rep 4 0#64)) 4, .blk g_2 57 (cV U64 a1) 4, .blk g_1 57 (cV U64 a0) 4]) _ (fun _ => True) (fun g => .agg (cV U64 y_6).toArray) (fun g => none)
                exact m_val (val_loadR (off := 0) (cs := cV U64 y_6) rfl rfl Try.underlying57 rfl (sz57.trans (congrArg some (cV_len _).symm)) (fun _ hw => hw.whole (j := 0) rfl))
              ·
                intro γ hφ
                show Makes _ 81 [(2, .pointer (some ⟨g_1, 0, none⟩)), (3, .pointer (some ⟨g_2, 0, none⟩)), (4, .pointer (some ⟨g_3, 0, none⟩)), (5, .pointer (some ⟨g_4, 0, none⟩)), (6, .pointer (some ⟨g_5, 0, none⟩)), (7, .pointer (some ⟨g_6, 0, none⟩)), (12, .int .i64 x12), (54, .int .i64 x12), (55, .bool true)] (Mm w [] h [.blk g_6 57 (cV U64 y_6) 4, .blk g_5 57 (cV U64 y_5) 4, .blk g_4 57 (cV U64 (Vec.rep 4 0#64)) 4, .blk g_3 57 (cV U64 (Vec.rep 4 0#64)) 4, .blk g_2 57 (cV U64 a1) 4, .blk g_1 57 (cV U64 a0) 4]) _ (fun _ => True) (fun g => .agg (cV U64 a1).toArray) (fun g => none)
                exact m_val (val_loadR (off := 0) (cs := cV U64 a1) rfl rfl Try.underlying57 rfl (sz57.trans (congrArg some (cV_len _).symm)) (fun _ hw => hw.whole (j := 4) rfl))
              ·
                intro γ hφ
                show Makes _ 81 [(2, .pointer (some ⟨g_1, 0, none⟩)), (3, .pointer (some ⟨g_2, 0, none⟩)), (4, .pointer (some ⟨g_3, 0, none⟩)), (5, .pointer (some ⟨g_4, 0, none⟩)), (6, .pointer (some ⟨g_5, 0, none⟩)), (7, .pointer (some ⟨g_6, 0, none⟩)), (12, .int .i64 x12), (54, .int .i64 x12), (55, .bool true)] (Mm w [] h [.blk g_6 57 (cV U64 y_6) 4, .blk g_5 57 (cV U64 y_5) 4, .blk g_4 57 (cV U64 (Vec.rep 4 0#64)) 4, .blk g_3 57 (cV U64 (Vec.rep 4 0#64)) 4, .blk g_2 57 (cV U64 a1) 4, .blk g_1 57 (cV U64 a0) 4]) _ (fun _ => True) (fun g => .agg (cV U64 a0).toArray) (fun g => none)
                exact m_val (val_loadR (off := 0) (cs := cV U64 a0) rfl rfl Try.underlying57 rfl (sz57.trans (congrArg some (cV_len _).symm)) (fun _ hw => hw.whole (j := 5) rfl))
              ·
                intro γ hφ
                show Makes _ 81 [(2, .pointer (some ⟨g_1, 0, none⟩)), (3, .pointer (some ⟨g_2, 0, none⟩)), (4, .pointer (some ⟨g_3, 0, none⟩)), (5, .pointer (some ⟨g_4, 0, none⟩)), (6, .pointer (some ⟨g_5, 0, none⟩)), (7, .pointer (some ⟨g_6, 0, none⟩)), (12, .int .i64 x12), (54, .int .i64 x12), (55, .bool true)] (Mm w [] h [.blk g_6 57 (cV U64 y_6) 4, .blk g_5 57 (cV U64 y_5) 4, .blk g_4 57 (cV U64 (Vec.rep 4 0#64)) 4, .blk g_3 57 (cV U64 (Vec.rep 4 0#64)) 4, .blk g_2 57 (cV U64 a1) 4, .blk g_1 57 (cV U64 a0) 4]) _ (fun _ => True) (fun g => .int .i64 x12) (fun g => none)
                exact m_val (val_move rfl rfl)
              ·
                intro γ hφ
                show Makes _ 81 [(62, .int .i64 x12), (2, .pointer (some ⟨g_1, 0, none⟩)), (3, .pointer (some ⟨g_2, 0, none⟩)), (4, .pointer (some ⟨g_3, 0, none⟩)), (5, .pointer (some ⟨g_4, 0, none⟩)), (6, .pointer (some ⟨g_5, 0, none⟩)), (7, .pointer (some ⟨g_6, 0, none⟩)), (12, .int .i64 x12), (54, .int .i64 x12), (55, .bool true)] (Mm w [] h [.blk g_6 57 (cV U64 y_6) 4, .blk g_5 57 (cV U64 y_5) 4, .blk g_4 57 (cV U64 (Vec.rep 4 0#64)) 4, .blk g_3 57 (cV U64 (Vec.rep 4 0#64)) 4, .blk g_2 57 (cV U64 a1) 4, .blk g_1 57 (cV U64 a0) 4]) _ (fun _ => True) (fun g => U64 x63) (fun g => none)
                exact m_val (by subst hx63; exact val_conv rfl rfl (fun w => conv_int_u64 w _ _ .i64 _ (by rw [Try.underlying3]; rfl) Try.underlying73))
              ·
                intro γ hφ
                show Makes _ 81 [(61, .agg (cV U64 a0).toArray), (62, .int .i64 x12), (63, U64 x63), (2, .pointer (some ⟨g_1, 0, none⟩)), (3, .pointer (some ⟨g_2, 0, none⟩)), (4, .pointer (some ⟨g_3, 0, none⟩)), (5, .pointer (some ⟨g_4, 0, none⟩)), (6, .pointer (some ⟨g_5, 0, none⟩)), (7, .pointer (some ⟨g_6, 0, none⟩)), (12, .int .i64 x12), (54, .int .i64 x12), (55, .bool true)] (Mm w [] h [.blk g_6 57 (cV U64 y_6) 4, .blk g_5 57 (cV U64 y_5) 4, .blk g_4 57 (cV U64 (Vec.rep 4 0#64)) 4, .blk g_3 57 (cV U64 (Vec.rep 4 0#64)) 4, .blk g_2 57 (cV U64 a1) 4, .blk g_1 57 (cV U64 a0) 4]) _ (fun _ => True) (fun g => .bool x64) (fun g => none)
                exact m_made rfl Try.func52 nm52 bs52 rfl (fun w hw => word_Bit.calls a0 x63 x64 hx_10 w)
              ·
                intro γ hφ
                show Makes _ 81 [(59, .agg (cV U64 y_6).toArray), (60, .agg (cV U64 a1).toArray), (61, .agg (cV U64 a0).toArray), (62, .int .i64 x12), (63, U64 x63), (64, .bool x64), (2, .pointer (some ⟨g_1, 0, none⟩)), (3, .pointer (some ⟨g_2, 0, none⟩)), (4, .pointer (some ⟨g_3, 0, none⟩)), (5, .pointer (some ⟨g_4, 0, none⟩)), (6, .pointer (some ⟨g_5, 0, none⟩)), (7, .pointer (some ⟨g_6, 0, none⟩)), (12, .int .i64 x12), (54, .int .i64 x12), (55, .bool true)] (Mm w [] h [.blk g_6 57 (cV U64 y_6) 4, .blk g_5 57 (cV U64 y_5) 4, .blk g_4 57 (cV U64 (Vec.rep 4 0#64)) 4, .blk g_3 57 (cV U64 (Vec.rep 4 0#64)) 4, .blk g_2 57 (cV U64 a1) 4, .blk g_1 57 (cV U64 a0) 4]) _ (fun _ => True) (fun g => .tuple #[.agg (cV U64 x65.1).toArray, .bool x65.2]) (fun g => none)
                exact m_made rfl Try.func51 nm51 bs51 rfl (fun w hw => wide_step.calls y_6 a1 x64 x65 hx_11 w)
              ·
                intro γ hφ
                show Makes _ 81 [(59, .agg (cV U64 y_6).toArray), (60, .agg (cV U64 a1).toArray), (61, .agg (cV U64 a0).toArray), (62, .int .i64 x12), (63, U64 x63), (64, .bool x64), (65, .tuple #[.agg (cV U64 x65.1).toArray, .bool x65.2]), (2, .pointer (some ⟨g_1, 0, none⟩)), (3, .pointer (some ⟨g_2, 0, none⟩)), (4, .pointer (some ⟨g_3, 0, none⟩)), (5, .pointer (some ⟨g_4, 0, none⟩)), (6, .pointer (some ⟨g_5, 0, none⟩)), (7, .pointer (some ⟨g_6, 0, none⟩)), (12, .int .i64 x12), (54, .int .i64 x12), (55, .bool true)] (Mm w [] h [.blk g_6 57 (cV U64 y_6) 4, .blk g_5 57 (cV U64 y_5) 4, .blk g_4 57 (cV U64 (Vec.rep 4 0#64)) 4, .blk g_3 57 (cV U64 (Vec.rep 4 0#64)) 4, .blk g_2 57 (cV U64 a1) 4, .blk g_1 57 (cV U64 a0) 4]) _ (fun _ => True) (fun g => .tuple #[.agg (cV U64 x65.1).toArray, .bool x65.2]) (fun g => none)
                exact m_val (val_move rfl rfl)
              ·
                intro γ hφ
                show Makes _ 81 [(59, .agg (cV U64 y_6).toArray), (60, .agg (cV U64 a1).toArray), (61, .agg (cV U64 a0).toArray), (62, .int .i64 x12), (63, U64 x63), (64, .bool x64), (65, .tuple #[.agg (cV U64 x65.1).toArray, .bool x65.2]), (58, .tuple #[.agg (cV U64 x65.1).toArray, .bool x65.2]), (2, .pointer (some ⟨g_1, 0, none⟩)), (3, .pointer (some ⟨g_2, 0, none⟩)), (4, .pointer (some ⟨g_3, 0, none⟩)), (5, .pointer (some ⟨g_4, 0, none⟩)), (6, .pointer (some ⟨g_5, 0, none⟩)), (7, .pointer (some ⟨g_6, 0, none⟩)), (12, .int .i64 x12), (54, .int .i64 x12), (55, .bool true)] (Mm w [] h [.blk g_6 57 (cV U64 y_6) 4, .blk g_5 57 (cV U64 y_5) 4, .blk g_4 57 (cV U64 (Vec.rep 4 0#64)) 4, .blk g_3 57 (cV U64 (Vec.rep 4 0#64)) 4, .blk g_2 57 (cV U64 a1) 4, .blk g_1 57 (cV U64 a0) 4]) _ (fun _ => True) (fun g => .agg (cV U64 x65.1).toArray) (fun g => none)
                exact m_val (val_extract rfl rfl rfl)
              ·
                intro γ hφ
                show Makes _ 81 [(59, .agg (cV U64 y_6).toArray), (60, .agg (cV U64 a1).toArray), (61, .agg (cV U64 a0).toArray), (62, .int .i64 x12), (63, U64 x63), (64, .bool x64), (65, .tuple #[.agg (cV U64 x65.1).toArray, .bool x65.2]), (58, .tuple #[.agg (cV U64 x65.1).toArray, .bool x65.2]), (2, .pointer (some ⟨g_1, 0, none⟩)), (3, .pointer (some ⟨g_2, 0, none⟩)), (4, .pointer (some ⟨g_3, 0, none⟩)), (5, .pointer (some ⟨g_4, 0, none⟩)), (6, .pointer (some ⟨g_5, 0, none⟩)), (7, .pointer (some ⟨g_6, 0, none⟩)), (12, .int .i64 x12), (54, .int .i64 x12), (55, .bool true)] (Mm w [] h [.blk g_6 57 (cV U64 y_6) 4, .blk g_5 57 (cV U64 y_5) 4, .blk g_4 57 (cV U64 (Vec.rep 4 0#64)) 4, .blk g_3 57 (cV U64 (Vec.rep 4 0#64)) 4, .blk g_2 57 (cV U64 a1) 4, .blk g_1 57 (cV U64 a0) 4]) _ (fun _ => True) (fun g => .bool x65.2) (fun g => none)
                exact m_val (val_extract rfl rfl rfl)
              ·
                intro γ hφ
                show Makes _ 81 [(2, .pointer (some ⟨g_1, 0, none⟩)), (3, .pointer (some ⟨g_2, 0, none⟩)), (4, .pointer (some ⟨g_3, 0, none⟩)), (5, .pointer (some ⟨g_4, 0, none⟩)), (6, .pointer (some ⟨g_5, 0, none⟩)), (7, .pointer (some ⟨g_6, 0, none⟩)), (12, .int .i64 x12), (54, .int .i64 x12), (55, .bool true)] (Mm w [] h [.blk g_6 57 (cV U64 y_6) 4, .blk g_5 57 (cV U64 y_5) 4, .blk g_4 57 (cV U64 (Vec.rep 4 0#64)) 4, .blk g_3 57 (cV U64 (Vec.rep 4 0#64)) 4, .blk g_2 57 (cV U64 a1) 4, .blk g_1 57 (cV U64 a0) 4]) _ (fun _ => True) (fun g => .pointer (some ⟨g.2, 0, none⟩)) (fun g => some (.blk g.2 57 (cV U64 (Vec.rep 4 0#64)) 4))
                exact m_alloc (cs := cV U64 (Vec.rep 4 0#64)) (room := 4) rfl ze57 rfl (cV_len _)
              ·
                intro γ hφ
                exact ⟨_, (show Val _ 81 [(59, .agg (cV U64 y_6).toArray), (60, .agg (cV U64 a1).toArray), (61, .agg (cV U64 a0).toArray), (62, .int .i64 x12), (63, U64 x63), (64, .bool x64), (65, .tuple #[.agg (cV U64 x65.1).toArray, .bool x65.2]), (58, .tuple #[.agg (cV U64 x65.1).toArray, .bool x65.2]), (2, .pointer (some ⟨g_1, 0, none⟩)), (3, .pointer (some ⟨g_2, 0, none⟩)), (4, .pointer (some ⟨g_3, 0, none⟩)), (5, .pointer (some ⟨g_4, 0, none⟩)), (6, .pointer (some ⟨g_5, 0, none⟩)), (7, .pointer (some ⟨g_6, 0, none⟩)), (12, .int .i64 x12), (54, .int .i64 x12), (55, .bool true)] (fun _ => True) _ (.bool x65.2) from val_extract rfl rfl rfl)⟩
              change T 81 [(59, .agg (cV U64 y_6).toArray), (60, .agg (cV U64 a1).toArray), (61, .agg (cV U64 a0).toArray), (62, .int .i64 x12), (63, U64 x63), (64, .bool x64), (65, .tuple #[.agg (cV U64 x65.1).toArray, .bool x65.2]), (58, .tuple #[.agg (cV U64 x65.1).toArray, .bool x65.2]), (66, .agg (cV U64 x65.1).toArray), (67, .bool x65.2), (13, .pointer (some ⟨(γ 10).2, 0, none⟩)), (2, .pointer (some ⟨g_1, 0, none⟩)), (3, .pointer (some ⟨g_2, 0, none⟩)), (4, .pointer (some ⟨g_3, 0, none⟩)), (5, .pointer (some ⟨g_4, 0, none⟩)), (6, .pointer (some ⟨g_5, 0, none⟩)), (7, .pointer (some ⟨g_6, 0, none⟩)), (12, .int .i64 x12), (54, .int .i64 x12), (55, .bool true)] (Mm w [] h [.blk (γ 10).2 57 (cV U64 (Vec.rep 4 0#64)) 4, .blk g_6 57 (cV U64 y_6) 4, .blk g_5 57 (cV U64 y_5) 4, .blk g_4 57 (cV U64 (Vec.rep 4 0#64)) 4, .blk g_3 57 (cV U64 (Vec.rep 4 0#64)) 4, .blk g_2 57 (cV U64 a1) 4, .blk g_1 57 (cV U64 a0) 4]) _
              generalize (γ 10).2 = g_13
              refine z_storeA (j := 0) (cs' := cV U64 x65.1) (L' := [.blk g_13 57 (cV U64 x65.1) 4, .blk g_6 57 (cV U64 y_6) 4, .blk g_5 57 (cV U64 y_5) 4, .blk g_4 57 (cV U64 (Vec.rep 4 0#64)) 4, .blk g_3 57 (cV U64 (Vec.rep 4 0#64)) 4, .blk g_2 57 (cV U64 a1) 4, .blk g_1 57 (cV U64 a0) 4]) rfl rfl rfl (cV_one (fun _ => rfl) _) sz57 rfl (cV_len _) rfl rfl rfl (fun _ _ _ => trivial) ?_
              refine z_val (v := .bool x65.2) (val_assign rfl rfl) rfl rfl rfl (fun _ _ _ => trivial) ?_
              refine z_nil ?_
              refine t_seq ?_
              refine t_region (fun ops hops => ?_)
              clear hops
              refine z_val (v := .agg (cV U64 x65.1).toArray) (val_loadR (off := 0) (cs := cV U64 x65.1) rfl rfl Try.underlying57 rfl (sz57.trans (congrArg some (cV_len _).symm)) (fun _ hw => hw.whole (j := 0) rfl)) rfl rfl rfl (fun _ _ _ => trivial) ?_
              refine z_storeA (j := 1) (cs' := cV U64 x65.1) (L' := [.blk g_13 57 (cV U64 x65.1) 4, .blk g_6 57 (cV U64 x65.1) 4, .blk g_5 57 (cV U64 y_5) 4, .blk g_4 57 (cV U64 (Vec.rep 4 0#64)) 4, .blk g_3 57 (cV U64 (Vec.rep 4 0#64)) 4, .blk g_2 57 (cV U64 a1) 4, .blk g_1 57 (cV U64 a0) 4]) rfl rfl rfl (cV_one (fun _ => rfl) _) sz57 rfl (cV_len _) rfl rfl rfl (fun _ _ _ => trivial) ?_
              refine z_nil ?_
              refine t_seq ?_
              refine t_region (fun ops hops => ?_)
              clear hops
              refine z_val (v := .bool x65.2) (val_move rfl rfl) rfl rfl rfl (fun _ _ _ => trivial) ?_
              refine z_nil ?_
              refine t_bind H (fun (s : (Vec (BitVec 64) 4)) (g : Unit) => [(2, .pointer (some ⟨g_1, 0, none⟩)), (3, .pointer (some ⟨g_2, 0, none⟩)), (4, .pointer (some ⟨g_3, 0, none⟩)), (5, .pointer (some ⟨g_4, 0, none⟩)), (6, .pointer (some ⟨g_5, 0, none⟩)), (7, .pointer (some ⟨g_6, 0, none⟩)), (12, .int .i64 x12)]) (fun (s : (Vec (BitVec 64) 4)) (g : Unit) => Mm w [] h [.blk g_6 57 (cV U64 x65.1) 4, .blk g_5 57 (cV U64 s) 4, .blk g_4 57 (cV U64 (Vec.rep 4 0#64)) 4, .blk g_3 57 (cV U64 (Vec.rep 4 0#64)) 4, .blk g_2 57 (cV U64 a1) 4, .blk g_1 57 (cV U64 a0) 4]) (fun (s : (Vec (BitVec 64) 4)) (g : Unit) => True) (fun Gr K s he HJ => ?_) (fun s g HB hφ => ?_)
              ·
                clear H
                generalize x65.2 = bb_15 at *
                cases bb_15
                ·
                  have H := cond_f he
                  clear he
                  refine t_cond_false rfl ?_
                  refine t_skip ?_
                  obtain rfl := Option.some.inj H
                  exact t_reach ((K _ () HJ trivial).weak (fun a ha => ha.cons rfl (ha.cons rfl (ha.cons rfl (ha.cons rfl (ha.cons rfl (ha.cons rfl (ha.cons rfl (ha.nil)))))))) (fun w hw => hw.sel [1, 2, 3, 4, 5, 6] rfl rfl))
                ·
                  have H := cond_t he
                  clear he
                  refine t_cond_true rfl ?_
                  refine t_plan (C := Mm w [] h [.blk g_13 57 (cV U64 x65.1) 4, .blk g_6 57 (cV U64 x65.1) 4, .blk g_5 57 (cV U64 y_5) 4, .blk g_4 57 (cV U64 (Vec.rep 4 0#64)) 4, .blk g_3 57 (cV U64 (Vec.rep 4 0#64)) 4, .blk g_2 57 (cV U64 a1) 4, .blk g_1 57 (cV U64 a0) 4]) [9] [(0, true), (1, true), (2, true), (3, true), (4, true), (5, true), (6, true), (7, true), (8, true), (9, false)] (by kernel_rfl) (by kernel_rfl) (fun _ hw => hw.drew) (fun ops hops => ?_)
                  clear hops
                  refine z_still (v := .int .i64 x12) (val_move rfl rfl) rfl rfl rfl (fun _ hw => hw) ?_
                  obtain ⟨x71, hx71, H⟩ := Let_elim H
                  refine z_still (v := .int .i64 x71) (by subst hx71; exact val_bin rfl rfl rfl rfl (i64_quo _ _ _ (by decide))) rfl rfl rfl (fun _ hw => hw) ?_
                  clear hx71
                  obtain ⟨hq_16, H⟩ := Chk_elim H
                  refine z_still (v := .pointer (some ⟨g_5, x71.toNat, none⟩)) (val_idx0 rfl rfl rfl Try.underlying57 sz38 hq_16 rfl) rfl rfl rfl (fun _ hw => hw) ?_
                  obtain ⟨x73, hx73, H⟩ := Let_elim H
                  refine z_still (v := U64 x73) (by subst hx73; exact val_load1 rfl rfl Try.underlying38 rfl (fun _ hw => hw.cell (j := 2) rfl (cV_at _ (idx_lt hq_16)))) rfl rfl rfl (fun _ hw => hw) ?_
                  clear hx73
                  refine z_still (v := .int .i64 x12) (val_move rfl rfl) rfl rfl rfl (fun _ hw => hw) ?_
                  obtain ⟨x75, hx75, H⟩ := Let_elim H
                  refine z_still (v := .int .i64 x75) (by subst hx75; exact val_bin rfl rfl rfl rfl (i64_rem _ _ _ (by decide))) rfl rfl rfl (fun _ hw => hw) ?_
                  clear hx75
                  obtain ⟨hq_17, H⟩ := Chk_elim H
                  obtain ⟨x76, hx76, H⟩ := Let_elim H
                  refine z_still (v := U64 x76) (by subst hx76; exact val_bin rfl rfl rfl rfl (u64_shl _ _ _ (1#64) hq_17)) rfl rfl rfl (fun _ hw => hw) ?_
                  clear hx76
                  obtain ⟨x77, hx77, H⟩ := Let_elim H
                  refine z_still (v := U64 x77) (by subst hx77; exact val_bin rfl rfl rfl rfl (u64_or _ _ _)) rfl rfl rfl (fun _ hw => hw) ?_
                  clear hx77
                  obtain ⟨hq_18, H⟩ := Chk_elim H
                  refine z_still (v := .pointer (some ⟨g_5, x71.toNat, none⟩)) (val_idx0 rfl rfl rfl Try.underlying57 sz38 hq_18 rfl) rfl rfl rfl (fun _ hw => hw) ?_
                  obtain ⟨y_5_19, hy_5_19, H⟩ := Let_elim H
                  refine z_store1 (j := 2) (cs' := cV U64 y_5_19) (L' := [.blk g_13 57 (cV U64 x65.1) 4, .blk g_6 57 (cV U64 x65.1) 4, .blk g_5 57 (cV U64 y_5_19) 4, .blk g_4 57 (cV U64 (Vec.rep 4 0#64)) 4, .blk g_3 57 (cV U64 (Vec.rep 4 0#64)) 4, .blk g_2 57 (cV U64 a1) 4, .blk g_1 57 (cV U64 a0) 4]) rfl rfl rfl rfl rfl sz38 rfl (by rw [cV_len]; exact (idx_lt hq_18)) (by subst hy_5_19; exact cV_set (f := U64) _ _ x77) rfl rfl rfl (fun hb => absurd hb (by decide)) ?_
                  clear hy_5_19
                  refine z_nil ?_
                  obtain rfl := Option.some.inj H
                  exact t_reach ((K _ () HJ trivial).weak (fun a ha => ha.cons rfl (ha.cons rfl (ha.cons rfl (ha.cons rfl (ha.cons rfl (ha.cons rfl (ha.cons rfl (ha.nil)))))))) (fun w hw => hw.sel [1, 2, 3, 4, 5, 6] rfl rfl))
              ·
                replace H := HB
                clear HB
                obtain ⟨y_5_14, rfl⟩ : ∃ x, x = s := ⟨_, rfl⟩
                try dsimp only at H
                change T 81 _ _ _
                refine t_fin ?_
                refine t_region (fun ops hops => ?_)
                clear hops
                refine z_val (v := .int .i64 x12) (val_move rfl rfl) rfl rfl rfl (fun _ _ _ => trivial) ?_
                obtain ⟨x57, hx57, H⟩ := Let_elim H
                refine z_val (v := .int .i64 x57) (by subst hx57; exact val_bin rfl rfl rfl rfl (i64_sub _ _ _)) rfl rfl rfl (fun _ _ _ => trivial) ?_
                clear hx57
                refine z_val (v := .int .i64 x57) (val_assign rfl rfl) rfl rfl rfl (fun _ _ _ => trivial) ?_
                refine z_nil ?_
                obtain rfl := Option.some.inj H
                exact t_reach ((hn1 _ () rfl trivial).weak (fun a ha => ha.cons rfl (ha.cons rfl (ha.cons rfl (ha.cons rfl (ha.cons rfl (ha.cons rfl (ha.cons rfl (ha.nil)))))))) (fun w hw => hw))
          ·
            obtain ⟨y_6, y_5, x12⟩ := s
            subst hzz
            have H := HK1
            clear HK1 hz1
            replace H := sum_l H
            try dsimp only at H
            change T 81 _ _ _
            refine t_seq ?_
            refine t_plan (C := Mm w [] h [.blk g_6 57 (cV U64 y_6) 4, .blk g_5 57 (cV U64 y_5) 4]) [] [(0, true), (1, true), (2, false), (3, false)] (by kernel_rfl) (by kernel_rfl) (fun _ hw => hw.drew) (fun ops hops => ?_)
            clear hops
            refine z_still (v := .agg (cV U64 y_5).toArray) (val_loadR (off := 0) (cs := cV U64 y_5) rfl rfl Try.underlying57 rfl (sz57.trans (congrArg some (cV_len _).symm)) (fun _ hw => hw.whole (j := 1) rfl)) rfl rfl rfl (fun _ hw => hw.sel [0, 1] rfl rfl) ?_
            refine z_still (v := .agg (cV U64 y_6).toArray) (val_loadR (off := 0) (cs := cV U64 y_6) rfl rfl Try.underlying57 rfl (sz57.trans (congrArg some (cV_len _).symm)) (fun _ hw => hw.whole (j := 0) rfl)) rfl rfl rfl (fun _ hw => hw.sel [0, 1] rfl rfl) ?_
            refine z_storeA (j := 3) (cs' := cV U64 y_5) (L' := [.blk g_6 57 (cV U64 y_6) 4, .blk g_5 57 (cV U64 y_5) 4, .blk g_4 57 (cV U64 (Vec.rep 4 0#64)) 4, .blk g_3 57 (cV U64 y_5) 4]) rfl rfl rfl (cV_one (fun _ => rfl) _) sz57 rfl (cV_len _) rfl rfl rfl (fun _ _ hw => hw.sel [0, 1] rfl rfl) ?_
            refine z_storeA (j := 2) (cs' := cV U64 y_6) (L' := [.blk g_6 57 (cV U64 y_6) 4, .blk g_5 57 (cV U64 y_5) 4, .blk g_4 57 (cV U64 y_6) 4, .blk g_3 57 (cV U64 y_5) 4]) rfl rfl rfl (cV_one (fun _ => rfl) _) sz57 rfl (cV_len _) rfl rfl rfl (fun _ _ hw => hw.sel [0, 1] rfl rfl) ?_
            refine z_nil ?_
            refine t_ret ?_
            obtain rfl := Option.some.inj H
            exact ret2 rfl (res_row (j := 3) rfl Try.underlying57 rfl sz57 rfl (cV_len _)) (res_row (j := 2) rfl Try.underlying57 rfl sz57 rfl (cV_len _)) (fun _ hw => ⟨rfl, hw.below⟩)
        ·
          replace H := cond_t H
          refine t_cond_true rfl ?_
          refine t_seq ?_
          refine t_region (fun ops hops => ?_)
          clear hops
          refine z_val (v := .agg (cV U64 a0).toArray) (val_loadR (off := 0) (cs := cV U64 a0) rfl rfl Try.underlying57 rfl (sz57.trans (congrArg some (cV_len _).symm)) (fun _ hw => hw.whole (j := 5) rfl)) rfl rfl rfl (fun _ _ _ => trivial) ?_
          refine z_val (v := U64 x22.1) (val_move rfl rfl) rfl rfl rfl (fun _ _ _ => trivial) ?_
          obtain ⟨x48, hx_20, H⟩ := Option.bind_eq_some_iff.1 H
          refine z_made (v := .tuple #[.agg (cV U64 x48.1).toArray, .agg (cV U64 x48.2).toArray]) rfl Try.func50 nm50 bs50 rfl (fun w hw => wide_short64.calls a0 x22.1 x48 hx_20 w) rfl rfl rfl (fun _ _ _ => trivial) ?_
          clear hx_20
          refine z_val (v := .agg (cV U64 x48.1).toArray) (val_extract rfl rfl rfl) rfl rfl rfl (fun _ _ _ => trivial) ?_
          refine z_val (v := .agg (cV U64 x48.2).toArray) (val_extract rfl rfl rfl) rfl rfl rfl (fun _ _ _ => trivial) ?_
          refine z_storeA (j := 3) (cs' := cV U64 x48.1) (L' := [.blk g_6 57 (cV U64 (Vec.rep 4 0#64)) 4, .blk g_5 57 (cV U64 (Vec.rep 4 0#64)) 4, .blk g_4 57 (cV U64 (Vec.rep 4 0#64)) 4, .blk g_3 57 (cV U64 x48.1) 4, .blk g_2 57 (cV U64 a1) 4, .blk g_1 57 (cV U64 a0) 4]) rfl rfl rfl (cV_one (fun _ => rfl) _) sz57 rfl (cV_len _) rfl rfl rfl (fun _ _ _ => trivial) ?_
          refine z_storeA (j := 2) (cs' := cV U64 x48.2) (L' := [.blk g_6 57 (cV U64 (Vec.rep 4 0#64)) 4, .blk g_5 57 (cV U64 (Vec.rep 4 0#64)) 4, .blk g_4 57 (cV U64 x48.2) 4, .blk g_3 57 (cV U64 x48.1) 4, .blk g_2 57 (cV U64 a1) 4, .blk g_1 57 (cV U64 a0) 4]) rfl rfl rfl (cV_one (fun _ => rfl) _) sz57 rfl (cV_len _) rfl rfl rfl (fun _ _ _ => trivial) ?_
          refine z_nil ?_
          refine t_ret ?_
          obtain rfl := Option.some.inj H
          exact ret2 rfl (res_row (j := 3) rfl Try.underlying57 rfl sz57 rfl (cV_len _)) (res_row (j := 2) rfl Try.underlying57 rfl sz57 rfl (cV_len _)) (fun _ hw => ⟨rfl, hw.below⟩)
      ·
        replace H := cond_t H
        refine t_cond_true rfl ?_
        refine t_seq ?_
        refine T.weak (S' := [(2, .pointer (some ⟨g_1, 0, none⟩)), (3, .pointer (some ⟨g_2, 0, none⟩)), (4, .pointer (some ⟨g_3, 0, none⟩)), (5, .pointer (some ⟨g_4, 0, none⟩)), (6, .pointer (some ⟨g_5, 0, none⟩)), (7, .pointer (some ⟨g_6, 0, none⟩)), (8, U64 x17.1), (10, U64 x22.1), (11, .bool x22.2), (31, .bool true), (35, .bool true)]) (M' := Mm w [] h [.blk g_6 57 (cV U64 (Vec.rep 4 0#64)) 4, .blk g_5 57 (cV U64 (Vec.rep 4 0#64)) 4, .blk g_4 57 (cV U64 (Vec.rep 4 0#64)) 4, .blk g_3 57 (cV U64 (Vec.rep 4 0#64)) 4, .blk g_2 57 (cV U64 a1) 4, .blk g_1 57 (cV U64 a0) 4]) ?_ (fun a ha => ha.cons rfl (ha.cons rfl (ha.cons rfl (ha.cons rfl (ha.cons rfl (ha.cons rfl (ha.cons rfl (ha.cons rfl (ha.cons rfl (ha.cons rfl (ha.cons rfl (ha.nil)))))))))))) (fun w hw => hw)
        obtain ⟨hq_21, H⟩ := Chk_elim H
        obtain ⟨x38, hx38, H⟩ := Let_elim H
        obtain ⟨x39, hx_22, H⟩ := Option.bind_eq_some_iff.1 H
        obtain ⟨hq_23, H⟩ := Chk_elim H
        obtain ⟨x42, hx42, H⟩ := Let_elim H
        obtain ⟨x43, hx_24, H⟩ := Option.bind_eq_some_iff.1 H
        refine t_free [⟨0, 36, [], fun _ => True, fun γ => U64 x17.1, fun γ => none⟩, ⟨1, 37, [], fun _ => True, fun γ => U64 x22.1, fun γ => none⟩, ⟨2, 38, [0, 1], fun _ => True, fun γ => U64 x38, fun γ => none⟩, ⟨3, 39, [0, 1, 2], fun _ => True, fun γ => .agg (cV U64 x39).toArray, fun γ => none⟩, ⟨4, 40, [], fun _ => True, fun γ => U64 x17.1, fun γ => none⟩, ⟨5, 41, [], fun _ => True, fun γ => U64 x22.1, fun γ => none⟩, ⟨6, 42, [4, 5], fun _ => True, fun γ => U64 x42, fun γ => none⟩, ⟨7, 43, [4, 5, 6], fun _ => True, fun γ => .agg (cV U64 x43).toArray, fun γ => none⟩] [] [8, 9] (by kernel_rfl) (by kernel_rfl) (And.intro ?_ (And.intro ?_ (And.intro ?_ (And.intro ?_ (And.intro ?_ (And.intro ?_ (And.intro ?_ (And.intro ?_ (trivial))))))))) (trivial) (fun γ hφ ops => ?_)
        ·
          intro γ hφ
          show Makes _ 81 [(2, .pointer (some ⟨g_1, 0, none⟩)), (3, .pointer (some ⟨g_2, 0, none⟩)), (4, .pointer (some ⟨g_3, 0, none⟩)), (5, .pointer (some ⟨g_4, 0, none⟩)), (6, .pointer (some ⟨g_5, 0, none⟩)), (7, .pointer (some ⟨g_6, 0, none⟩)), (8, U64 x17.1), (10, U64 x22.1), (11, .bool x22.2), (31, .bool true), (35, .bool true)] (Mm w [] h [.blk g_6 57 (cV U64 (Vec.rep 4 0#64)) 4, .blk g_5 57 (cV U64 (Vec.rep 4 0#64)) 4, .blk g_4 57 (cV U64 (Vec.rep 4 0#64)) 4, .blk g_3 57 (cV U64 (Vec.rep 4 0#64)) 4, .blk g_2 57 (cV U64 a1) 4, .blk g_1 57 (cV U64 a0) 4]) _ (fun _ => True) (fun g => U64 x17.1) (fun g => none)
          exact m_val (val_move rfl rfl)
        ·
          intro γ hφ
          show Makes _ 81 [(2, .pointer (some ⟨g_1, 0, none⟩)), (3, .pointer (some ⟨g_2, 0, none⟩)), (4, .pointer (some ⟨g_3, 0, none⟩)), (5, .pointer (some ⟨g_4, 0, none⟩)), (6, .pointer (some ⟨g_5, 0, none⟩)), (7, .pointer (some ⟨g_6, 0, none⟩)), (8, U64 x17.1), (10, U64 x22.1), (11, .bool x22.2), (31, .bool true), (35, .bool true)] (Mm w [] h [.blk g_6 57 (cV U64 (Vec.rep 4 0#64)) 4, .blk g_5 57 (cV U64 (Vec.rep 4 0#64)) 4, .blk g_4 57 (cV U64 (Vec.rep 4 0#64)) 4, .blk g_3 57 (cV U64 (Vec.rep 4 0#64)) 4, .blk g_2 57 (cV U64 a1) 4, .blk g_1 57 (cV U64 a0) 4]) _ (fun _ => True) (fun g => U64 x22.1) (fun g => none)
          exact m_val (val_move rfl rfl)
        ·
          intro γ hφ
          show Makes _ 81 [(36, U64 x17.1), (37, U64 x22.1), (2, .pointer (some ⟨g_1, 0, none⟩)), (3, .pointer (some ⟨g_2, 0, none⟩)), (4, .pointer (some ⟨g_3, 0, none⟩)), (5, .pointer (some ⟨g_4, 0, none⟩)), (6, .pointer (some ⟨g_5, 0, none⟩)), (7, .pointer (some ⟨g_6, 0, none⟩)), (8, U64 x17.1), (10, U64 x22.1), (11, .bool x22.2), (31, .bool true), (35, .bool true)] (Mm w [] h [.blk g_6 57 (cV U64 (Vec.rep 4 0#64)) 4, .blk g_5 57 (cV U64 (Vec.rep 4 0#64)) 4, .blk g_4 57 (cV U64 (Vec.rep 4 0#64)) 4, .blk g_3 57 (cV U64 (Vec.rep 4 0#64)) 4, .blk g_2 57 (cV U64 a1) 4, .blk g_1 57 (cV U64 a0) 4]) _ (fun _ => True) (fun g => U64 x38) (fun g => none)
          exact m_val (by subst hx38; exact val_bin rfl rfl rfl rfl (u64_quo _ _ _ hq_21))
        ·
          intro γ hφ
          show Makes _ 81 [(36, U64 x17.1), (37, U64 x22.1), (38, U64 x38), (2, .pointer (some ⟨g_1, 0, none⟩)), (3, .pointer (some ⟨g_2, 0, none⟩)), (4, .pointer (some ⟨g_3, 0, none⟩)), (5, .pointer (some ⟨g_4, 0, none⟩)), (6, .pointer (some ⟨g_5, 0, none⟩)), (7, .pointer (some ⟨g_6, 0, none⟩)), (8, U64 x17.1), (10, U64 x22.1), (11, .bool x22.2), (31, .bool true), (35, .bool true)] (Mm w [] h [.blk g_6 57 (cV U64 (Vec.rep 4 0#64)) 4, .blk g_5 57 (cV U64 (Vec.rep 4 0#64)) 4, .blk g_4 57 (cV U64 (Vec.rep 4 0#64)) 4, .blk g_3 57 (cV U64 (Vec.rep 4 0#64)) 4, .blk g_2 57 (cV U64 a1) 4, .blk g_1 57 (cV U64 a0) 4]) _ (fun _ => True) (fun g => .agg (cV U64 x39).toArray) (fun g => none)
          exact m_made rfl Try.func31 nm31 bs31 rfl (fun w hw => word_Of.calls x38 x39 hx_22 w)
        ·
          intro γ hφ
          show Makes _ 81 [(2, .pointer (some ⟨g_1, 0, none⟩)), (3, .pointer (some ⟨g_2, 0, none⟩)), (4, .pointer (some ⟨g_3, 0, none⟩)), (5, .pointer (some ⟨g_4, 0, none⟩)), (6, .pointer (some ⟨g_5, 0, none⟩)), (7, .pointer (some ⟨g_6, 0, none⟩)), (8, U64 x17.1), (10, U64 x22.1), (11, .bool x22.2), (31, .bool true), (35, .bool true)] (Mm w [] h [.blk g_6 57 (cV U64 (Vec.rep 4 0#64)) 4, .blk g_5 57 (cV U64 (Vec.rep 4 0#64)) 4, .blk g_4 57 (cV U64 (Vec.rep 4 0#64)) 4, .blk g_3 57 (cV U64 (Vec.rep 4 0#64)) 4, .blk g_2 57 (cV U64 a1) 4, .blk g_1 57 (cV U64 a0) 4]) _ (fun _ => True) (fun g => U64 x17.1) (fun g => none)
          exact m_val (val_move rfl rfl)
        ·
          intro γ hφ
          show Makes _ 81 [(2, .pointer (some ⟨g_1, 0, none⟩)), (3, .pointer (some ⟨g_2, 0, none⟩)), (4, .pointer (some ⟨g_3, 0, none⟩)), (5, .pointer (some ⟨g_4, 0, none⟩)), (6, .pointer (some ⟨g_5, 0, none⟩)), (7, .pointer (some ⟨g_6, 0, none⟩)), (8, U64 x17.1), (10, U64 x22.1), (11, .bool x22.2), (31, .bool true), (35, .bool true)] (Mm w [] h [.blk g_6 57 (cV U64 (Vec.rep 4 0#64)) 4, .blk g_5 57 (cV U64 (Vec.rep 4 0#64)) 4, .blk g_4 57 (cV U64 (Vec.rep 4 0#64)) 4, .blk g_3 57 (cV U64 (Vec.rep 4 0#64)) 4, .blk g_2 57 (cV U64 a1) 4, .blk g_1 57 (cV U64 a0) 4]) _ (fun _ => True) (fun g => U64 x22.1) (fun g => none)
          exact m_val (val_move rfl rfl)
        ·
          intro γ hφ
          show Makes _ 81 [(40, U64 x17.1), (41, U64 x22.1), (2, .pointer (some ⟨g_1, 0, none⟩)), (3, .pointer (some ⟨g_2, 0, none⟩)), (4, .pointer (some ⟨g_3, 0, none⟩)), (5, .pointer (some ⟨g_4, 0, none⟩)), (6, .pointer (some ⟨g_5, 0, none⟩)), (7, .pointer (some ⟨g_6, 0, none⟩)), (8, U64 x17.1), (10, U64 x22.1), (11, .bool x22.2), (31, .bool true), (35, .bool true)] (Mm w [] h [.blk g_6 57 (cV U64 (Vec.rep 4 0#64)) 4, .blk g_5 57 (cV U64 (Vec.rep 4 0#64)) 4, .blk g_4 57 (cV U64 (Vec.rep 4 0#64)) 4, .blk g_3 57 (cV U64 (Vec.rep 4 0#64)) 4, .blk g_2 57 (cV U64 a1) 4, .blk g_1 57 (cV U64 a0) 4]) _ (fun _ => True) (fun g => U64 x42) (fun g => none)
          exact m_val (by subst hx42; exact val_bin rfl rfl rfl rfl (u64_rem _ _ _ hq_23))
        ·
          intro γ hφ
          show Makes _ 81 [(40, U64 x17.1), (41, U64 x22.1), (42, U64 x42), (2, .pointer (some ⟨g_1, 0, none⟩)), (3, .pointer (some ⟨g_2, 0, none⟩)), (4, .pointer (some ⟨g_3, 0, none⟩)), (5, .pointer (some ⟨g_4, 0, none⟩)), (6, .pointer (some ⟨g_5, 0, none⟩)), (7, .pointer (some ⟨g_6, 0, none⟩)), (8, U64 x17.1), (10, U64 x22.1), (11, .bool x22.2), (31, .bool true), (35, .bool true)] (Mm w [] h [.blk g_6 57 (cV U64 (Vec.rep 4 0#64)) 4, .blk g_5 57 (cV U64 (Vec.rep 4 0#64)) 4, .blk g_4 57 (cV U64 (Vec.rep 4 0#64)) 4, .blk g_3 57 (cV U64 (Vec.rep 4 0#64)) 4, .blk g_2 57 (cV U64 a1) 4, .blk g_1 57 (cV U64 a0) 4]) _ (fun _ => True) (fun g => .agg (cV U64 x43).toArray) (fun g => none)
          exact m_made rfl Try.func31 nm31 bs31 rfl (fun w hw => word_Of.calls x42 x43 hx_24 w)
        change T 81 [(36, U64 x17.1), (37, U64 x22.1), (38, U64 x38), (39, .agg (cV U64 x39).toArray), (40, U64 x17.1), (41, U64 x22.1), (42, U64 x42), (43, .agg (cV U64 x43).toArray), (2, .pointer (some ⟨g_1, 0, none⟩)), (3, .pointer (some ⟨g_2, 0, none⟩)), (4, .pointer (some ⟨g_3, 0, none⟩)), (5, .pointer (some ⟨g_4, 0, none⟩)), (6, .pointer (some ⟨g_5, 0, none⟩)), (7, .pointer (some ⟨g_6, 0, none⟩)), (8, U64 x17.1), (10, U64 x22.1), (11, .bool x22.2), (31, .bool true), (35, .bool true)] (Mm w [] h [.blk g_6 57 (cV U64 (Vec.rep 4 0#64)) 4, .blk g_5 57 (cV U64 (Vec.rep 4 0#64)) 4, .blk g_4 57 (cV U64 (Vec.rep 4 0#64)) 4, .blk g_3 57 (cV U64 (Vec.rep 4 0#64)) 4, .blk g_2 57 (cV U64 a1) 4, .blk g_1 57 (cV U64 a0) 4]) _
        refine z_storeA (j := 3) (cs' := cV U64 x39) (L' := [.blk g_6 57 (cV U64 (Vec.rep 4 0#64)) 4, .blk g_5 57 (cV U64 (Vec.rep 4 0#64)) 4, .blk g_4 57 (cV U64 (Vec.rep 4 0#64)) 4, .blk g_3 57 (cV U64 x39) 4, .blk g_2 57 (cV U64 a1) 4, .blk g_1 57 (cV U64 a0) 4]) rfl rfl rfl (cV_one (fun _ => rfl) _) sz57 rfl (cV_len _) rfl rfl rfl (fun _ _ _ => trivial) ?_
        refine z_storeA (j := 2) (cs' := cV U64 x43) (L' := [.blk g_6 57 (cV U64 (Vec.rep 4 0#64)) 4, .blk g_5 57 (cV U64 (Vec.rep 4 0#64)) 4, .blk g_4 57 (cV U64 x43) 4, .blk g_3 57 (cV U64 x39) 4, .blk g_2 57 (cV U64 a1) 4, .blk g_1 57 (cV U64 a0) 4]) rfl rfl rfl (cV_one (fun _ => rfl) _) sz57 rfl (cV_len _) rfl rfl rfl (fun _ _ _ => trivial) ?_
        refine z_nil ?_
        refine t_ret ?_
        obtain rfl := Option.some.inj H
        exact ret2 rfl (res_row (j := 3) rfl Try.underlying57 rfl sz57 rfl (cV_len _)) (res_row (j := 2) rfl Try.underlying57 rfl sz57 rfl (cV_len _)) (fun _ hw => ⟨rfl, hw.below⟩)
  ·
    replace H := cond_t H
    refine t_cond_true rfl ?_
    refine t_seq ?_
    refine t_plan (C := Mm w [] h [.blk g_6 57 (cV U64 (Vec.rep 4 0#64)) 4, .blk g_5 57 (cV U64 (Vec.rep 4 0#64)) 4, .blk g_2 57 (cV U64 a1) 4, .blk g_1 57 (cV U64 a0) 4]) [] [(0, true), (1, true), (2, false), (3, false)] (by kernel_rfl) (by kernel_rfl) (fun _ hw => hw.drew) (fun ops hops => ?_)
    clear hops
    refine z_still (v := .agg (cV U64 (Vec.rep 4 0#64)).toArray) (val_loadR (off := 0) (cs := cV U64 (Vec.rep 4 0#64)) rfl rfl Try.underlying57 rfl (sz57.trans (congrArg some (cV_len _).symm)) (fun _ hw => hw.whole (j := 1) rfl)) rfl rfl rfl (fun _ hw => hw.sel [0, 1, 4, 5] rfl rfl) ?_
    refine z_still (v := .agg (cV U64 (Vec.rep 4 0#64)).toArray) (val_loadR (off := 0) (cs := cV U64 (Vec.rep 4 0#64)) rfl rfl Try.underlying57 rfl (sz57.trans (congrArg some (cV_len _).symm)) (fun _ hw => hw.whole (j := 0) rfl)) rfl rfl rfl (fun _ hw => hw.sel [0, 1, 4, 5] rfl rfl) ?_
    refine z_storeA (j := 3) (cs' := cV U64 (Vec.rep 4 0#64)) (L' := [.blk g_6 57 (cV U64 (Vec.rep 4 0#64)) 4, .blk g_5 57 (cV U64 (Vec.rep 4 0#64)) 4, .blk g_4 57 (cV U64 (Vec.rep 4 0#64)) 4, .blk g_3 57 (cV U64 (Vec.rep 4 0#64)) 4, .blk g_2 57 (cV U64 a1) 4, .blk g_1 57 (cV U64 a0) 4]) rfl rfl rfl (cV_one (fun _ => rfl) _) sz57 rfl (cV_len _) rfl rfl rfl (fun _ _ hw => hw.sel [0, 1, 4, 5] rfl rfl) ?_
    refine z_storeA (j := 2) (cs' := cV U64 (Vec.rep 4 0#64)) (L' := [.blk g_6 57 (cV U64 (Vec.rep 4 0#64)) 4, .blk g_5 57 (cV U64 (Vec.rep 4 0#64)) 4, .blk g_4 57 (cV U64 (Vec.rep 4 0#64)) 4, .blk g_3 57 (cV U64 (Vec.rep 4 0#64)) 4, .blk g_2 57 (cV U64 a1) 4, .blk g_1 57 (cV U64 a0) 4]) rfl rfl rfl (cV_one (fun _ => rfl) _) sz57 rfl (cV_len _) rfl rfl rfl (fun _ _ hw => hw.sel [0, 1, 4, 5] rfl rfl) ?_
    refine z_nil ?_
    refine t_ret ?_
    obtain rfl := Option.some.inj H
    exact ret2 rfl (res_row (j := 3) rfl Try.underlying57 rfl sz57 rfl (cV_len _)) (res_row (j := 2) rfl Try.underlying57 rfl sz57 rfl (cV_len _)) (fun _ hw => ⟨rfl, hw.below⟩)
end Go.Proofs.Ytccilbklafhjiaa
