/- Functions of the program as plain functions, and their walks, printed by walk.py. -/
import Derived.Test.YtapfkdcilfpbhaaWsF
import Derived.Test.YtapfkdcilfpbhaaWsA
import Derived.Test.YtapfkdcilfpbhaaWsB
namespace Go.Proofs.Ytapfkdcilfpbhaa
open Go.RowKit
set_option linter.unusedVariables false
set_option linter.unusedSimpArgs false
def mem_Words (a0 : BitVec 64) : Option (BitVec 64) :=
  Let (a0 / 32#64) fun x5 => Let (a0 % 32#64) fun x7 => Let (decide ((x7.toNat : Int) > 0)) fun x8 => (bif x8 then Let (x5 + 1#64) fun x10 => some x10 else some x5).bind (fun x3 => some x3)
set_option maxRecDepth 100000 in
theorem mem_Words.calls  (a0 : BitVec 64) (r : BitVec 64) (H : mem_Words a0 = some r) (w : World)   :
    Made Try.prog 73 #[U64 a0] w (U64 r) := by
  unfold mem_Words at H
  have hM := Mm.start w (snap w) (snap_ok w)
  generalize snap w = h at *
  refine t_enter (vs := [U64 a0]) (n := 12) Try.func73 rfl rfl rfl hM ?_
  clear hM
  change T 12 _ _ _
  refine t_seq ?_
  refine t_region (fun ops hops => ?_)
  clear hops
  refine z_val (v := .int .u64 0) (val_assign rfl rfl) rfl rfl rfl (fun _ _ _ => trivial) ?_
  refine z_nil ?_
  refine t_seq ?_
  refine t_region (fun ops hops => ?_)
  clear hops
  refine z_val (v := U64 a0) (val_move rfl rfl) rfl rfl rfl (fun _ _ _ => trivial) ?_
  obtain ⟨x5, hx5, H⟩ := Let_elim H
  refine z_val (v := U64 x5) (by subst hx5; exact val_bin rfl rfl rfl rfl (u64_quo_r _ _ _ (by decide) (by decide))) rfl rfl rfl (fun _ _ _ => trivial) ?_
  clear hx5
  refine z_val (v := U64 x5) (val_assign rfl rfl) rfl rfl rfl (fun _ _ _ => trivial) ?_
  refine z_nil ?_
  refine t_seq ?_
  refine t_seq ?_
  refine t_region (fun ops hops => ?_)
  clear hops
  refine z_val (v := U64 a0) (val_move rfl rfl) rfl rfl rfl (fun _ _ _ => trivial) ?_
  obtain ⟨x7, hx7, H⟩ := Let_elim H
  refine z_val (v := U64 x7) (by subst hx7; exact val_bin rfl rfl rfl rfl (u64_rem_r _ _ _ (by decide) (by decide))) rfl rfl rfl (fun _ _ _ => trivial) ?_
  clear hx7
  obtain ⟨x8, hx8, H⟩ := Let_elim H
  refine z_val (v := .bool x8) (by subst hx8; exact val_bin rfl rfl rfl rfl (u64_gtr_r _ _ _)) rfl rfl rfl (fun _ _ _ => trivial) ?_
  clear hx8
  refine z_nil ?_
  refine t_bind H (fun (s : (BitVec 64)) (g : Unit) => [(3, U64 s)]) (fun (s : (BitVec 64)) (g : Unit) => Mm w [] h []) (fun (s : (BitVec 64)) (g : Unit) => True) (fun Gr K s he HJ => ?_) (fun s g HB hφ => ?_)
  ·
    clear H
    cases x8
    ·
      have H := cond_f he
      clear he
      refine t_cond_false rfl ?_
      refine t_skip ?_
      obtain rfl := Option.some.inj H
      exact t_reach ((K _ () HJ trivial).weak (fun a ha => ha.cons rfl (ha.nil)) (fun w hw => hw))
    ·
      have H := cond_t he
      clear he
      refine t_cond_true rfl ?_
      refine t_region (fun ops hops => ?_)
      clear hops
      refine z_val (v := U64 x5) (val_move rfl rfl) rfl rfl rfl (fun _ _ _ => trivial) ?_
      obtain ⟨x10, hx10, H⟩ := Let_elim H
      refine z_val (v := U64 x10) (by subst hx10; exact val_bin rfl rfl rfl rfl (u64_add_r _ _ _)) rfl rfl rfl (fun _ _ _ => trivial) ?_
      clear hx10
      refine z_val (v := U64 x10) (val_assign rfl rfl) rfl rfl rfl (fun _ _ _ => trivial) ?_
      refine z_nil ?_
      obtain rfl := Option.some.inj H
      exact t_reach ((K _ () HJ trivial).weak (fun a ha => ha.cons rfl (ha.nil)) (fun w hw => hw))
  ·
    replace H := HB
    clear HB
    obtain ⟨x3, rfl⟩ : ∃ x, x = s := ⟨_, rfl⟩
    try dsimp only at H
    change T 12 _ _ _
    refine t_seq ?_
    refine t_region (fun ops hops => ?_)
    clear hops
    refine z_val (v := U64 x3) (val_move rfl rfl) rfl rfl rfl (fun _ _ _ => trivial) ?_
    refine z_val (v := U64 x3) (val_assign rfl rfl) rfl rfl rfl (fun _ _ _ => trivial) ?_
    refine z_nil ?_
    refine t_ret ?_
    obtain rfl := Option.some.inj H
    exact ret1 rfl (res_tmp rfl) (fun _ hw => ⟨rfl, hw.below⟩)
def gas_either (a0 : Bool) (a1 : BitVec 64) (a2 : BitVec 64) : Option (BitVec 64) :=
  (bif a0 then some a1 else some a2)
set_option maxRecDepth 100000 in
theorem gas_either.calls  (a0 : Bool) (a1 : BitVec 64) (a2 : BitVec 64) (r : BitVec 64) (H : gas_either a0 a1 a2 = some r) (w : World)   :
    Made Try.prog 72 #[.bool a0, U64 a1, U64 a2] w (U64 r) := by
  unfold gas_either at H
  have hM := Mm.start w (snap w) (snap_ok w)
  generalize snap w = h at *
  refine t_enter (vs := [.bool a0, U64 a1, U64 a2]) (n := 10) Try.func72 rfl rfl rfl hM ?_
  clear hM
  change T 10 _ _ _
  refine t_seq ?_
  refine t_region (fun ops hops => ?_)
  clear hops
  refine z_val (v := .int .u64 0) (val_assign rfl rfl) rfl rfl rfl (fun _ _ _ => trivial) ?_
  refine z_nil ?_
  refine t_seq ?_
  refine t_seq ?_
  refine t_region (fun ops hops => ?_)
  clear hops
  refine z_val (v := .bool a0) (val_move rfl rfl) rfl rfl rfl (fun _ _ _ => trivial) ?_
  refine z_nil ?_
  cases a0
  ·
    replace H := cond_f H
    refine t_cond_false rfl ?_
    refine t_skip ?_
    refine t_seq ?_
    refine t_region (fun ops hops => ?_)
    clear hops
    refine z_val (v := U64 a2) (val_move rfl rfl) rfl rfl rfl (fun _ _ _ => trivial) ?_
    refine z_val (v := U64 a2) (val_assign rfl rfl) rfl rfl rfl (fun _ _ _ => trivial) ?_
    refine z_nil ?_
    refine t_ret ?_
    obtain rfl := Option.some.inj H
    exact ret1 rfl (res_tmp rfl) (fun _ hw => ⟨rfl, hw.below⟩)
  ·
    replace H := cond_t H
    refine t_cond_true rfl ?_
    refine t_seq ?_
    refine t_region (fun ops hops => ?_)
    clear hops
    refine z_val (v := U64 a1) (val_move rfl rfl) rfl rfl rfl (fun _ _ _ => trivial) ?_
    refine z_val (v := U64 a1) (val_assign rfl rfl) rfl rfl rfl (fun _ _ _ => trivial) ?_
    refine z_nil ?_
    refine t_ret ?_
    obtain rfl := Option.some.inj H
    exact ret1 rfl (res_tmp rfl) (fun _ hw => ⟨rfl, hw.below⟩)
def gas_Intrinsic.b1 (x19 : Int) (a0 : List (BitVec 8)) (x9 : BitVec 64) (x20 : Int) : Option (Ctl ((BitVec 64) × (Int)) (BitVec 64)) :=
  Let (decide (x20 < x19)) fun x21 => (bif x21 then Chk ((0 : Int) ≤ x20 ∧ x20 < (a0.length : Int)) <| Let (lget a0 x20.toNat) fun x23 => Let ((x23.toNat : Int) == 0) fun x26 => (gas_either x26 4#64 16#64).bind fun x27 => Let (x9 + x27) fun x28 => Let (wi (x20 + 1)) fun x29 => some (.next (x28, x29)) else some (.brk (x9, x20)))
def gas_Intrinsic (a0 : List (BitVec 8)) (a1 : Bool) (a2 : BitVec 64) (a3 : BitVec 64) : Option (BitVec 64) :=
  Let (2400#64 * a2) fun x13 => Let (21000#64 + x13) fun x14 => Let (1900#64 * a3) fun x16 => Let (x14 + x16) fun x17 => Let ((a0.length : Int)) fun x19 => (wlx (σ := (BitVec 64) × (Int)) (fun s => gas_Intrinsic.b1 x19 a0 s.1 s.2) (x17, 0)).bind (Sum.elim (fun s => (fun x9 x20 => (bif a1 then Let ((a0.length : Int)) fun x33 => Let (BitVec.ofInt 64 x33) fun x34 => (mem_Words x34).bind fun x35 => Let (2#64 * x35) fun x36 => Let (32000#64 + x36) fun x37 => Let (x9 + x37) fun x38 => some x38 else some x9).bind (fun x9_6 => some x9_6)) s.1 s.2) (fun r => some r))
set_option maxRecDepth 100000 in
theorem gas_Intrinsic.calls  (a0 : List (BitVec 8)) (a1 : Bool) (a2 : BitVec 64) (a3 : BitVec 64) (A0 : Option Addr) (c0 : Nat) (r : BitVec 64) (H : gas_Intrinsic a0 a1 a2 a3 = some r) (w : World) (hs0 : SlW w U8 A0 a0) (hc0 : a0.length ≤ c0)  :
    Made Try.prog 50 #[.slice A0 a0.length c0, .bool a1, U64 a2, U64 a3] w (U64 r) := by
  unfold gas_Intrinsic at H
  replace hs0 := hs0.toH
  have hM := Mm.start w (snap w) (snap_ok w)
  generalize snap w = h at *
  refine t_enter (vs := [.slice A0 a0.length c0, .bool a1, U64 a2, U64 a3]) (n := 40) Try.func50 rfl rfl rfl hM ?_
  clear hM
  change T 40 _ _ _
  refine t_seq ?_
  refine t_region (fun ops hops => ?_)
  clear hops
  refine z_val (v := .int .u64 0) (val_assign rfl rfl) rfl rfl rfl (fun _ _ _ => trivial) ?_
  refine z_nil ?_
  refine t_seq ?_
  refine t_region (fun ops hops => ?_)
  clear hops
  refine z_val (v := U64 a2) (val_move rfl rfl) rfl rfl rfl (fun _ _ _ => trivial) ?_
  obtain ⟨x13, hx13, H⟩ := Let_elim H
  refine z_val (v := U64 x13) (by subst hx13; exact val_bin rfl rfl rfl rfl (u64_mul_l _ _ _)) rfl rfl rfl (fun _ _ _ => trivial) ?_
  clear hx13
  obtain ⟨x14, hx14, H⟩ := Let_elim H
  refine z_val (v := U64 x14) (by subst hx14; exact val_bin rfl rfl rfl rfl (u64_add_l _ _ _)) rfl rfl rfl (fun _ _ _ => trivial) ?_
  clear hx14
  refine z_val (v := U64 a3) (val_move rfl rfl) rfl rfl rfl (fun _ _ _ => trivial) ?_
  obtain ⟨x16, hx16, H⟩ := Let_elim H
  refine z_val (v := U64 x16) (by subst hx16; exact val_bin rfl rfl rfl rfl (u64_mul_l _ _ _)) rfl rfl rfl (fun _ _ _ => trivial) ?_
  clear hx16
  obtain ⟨x17, hx17, H⟩ := Let_elim H
  refine z_val (v := U64 x17) (by subst hx17; exact val_bin rfl rfl rfl rfl (u64_add _ _ _)) rfl rfl rfl (fun _ _ _ => trivial) ?_
  clear hx17
  refine z_val (v := U64 x17) (val_assign rfl rfl) rfl rfl rfl (fun _ _ _ => trivial) ?_
  refine z_nil ?_
  refine t_seq ?_
  refine t_seq ?_
  refine t_region (fun ops hops => ?_)
  clear hops
  refine z_val (v := .slice A0 a0.length c0) (val_move rfl rfl) rfl rfl rfl (fun _ _ _ => trivial) ?_
  obtain ⟨x19, hx19, H⟩ := Let_elim H
  refine z_val (v := .int .i64 x19) (by subst hx19; exact val_len rfl rfl rfl Try.underlying25) rfl rfl rfl (fun _ _ _ => trivial) ?_
  clear hx19
  refine z_val (v := .int .i64 0) (val_move rfl rfl) rfl rfl rfl (fun _ _ _ => trivial) ?_
  refine z_nil ?_
  refine t_block ?_
  obtain ⟨z1, hz1, HK1⟩ := Option.bind_eq_some_iff.1 H
  clear H
  refine t_while hz1 (fun (s : (BitVec 64) × (Int)) (g : Unit) => [(0, .slice A0 a0.length c0), (1, .bool a1), (9, U64 s.1), (18, .slice A0 a0.length c0), (19, .int .i64 x19), (20, .int .i64 s.2)]) (fun (s : (BitVec 64) × (Int)) (g : Unit) => [(0, .slice A0 a0.length c0), (1, .bool a1), (9, U64 s.1)]) (fun (s : (BitVec 64) × (Int)) (g : Unit) => Mm w [] h []) (fun (s : (BitVec 64) × (Int)) (g : Unit) => Mm w [] h []) (fun (s : (BitVec 64) × (Int)) (g : Unit) => True) (fun (s : (BitVec 64) × (Int)) (g : Unit) => True) () trivial (fun a w ha hw => ⟨ha.cons rfl (ha.cons rfl (ha.cons rfl (ha.cons rfl (ha.cons rfl (ha.cons rfl (ha.nil)))))), hw⟩) (fun Gn Gb s g e hφ H hn1 hb1 hr1 => ?_) (fun s g hzz hφ => ?_)
  ·
    obtain ⟨x9, x20⟩ := s
    change gas_Intrinsic.b1 x19 a0 x9 x20 = some e at H
    unfold gas_Intrinsic.b1 at H
    clear hz1
    change T 40 _ _ _
    refine t_seq ?_
    refine t_region (fun ops hops => ?_)
    clear hops
    obtain ⟨x21, hx21, H⟩ := Let_elim H
    refine z_val (v := .bool x21) (by subst hx21; exact val_bin rfl rfl rfl rfl (i64_lss _ _ _)) rfl rfl rfl (fun _ _ _ => trivial) ?_
    clear hx21
    refine z_nil ?_
    refine t_seq ?_
    cases x21
    ·
      replace H := cond_f H
      refine t_cond_false rfl ?_
      refine t_exit rfl ?_
      obtain rfl := Option.some.inj H
      exact t_reach ((hb1 _ () rfl trivial).weak (fun a ha => ha.cons rfl (ha.cons rfl (ha.cons rfl (ha.nil)))) (fun w hw => hw))
    ·
      replace H := cond_t H
      refine t_cond_true rfl ?_
      refine t_skip ?_
      refine t_seq ?_
      refine t_block ?_
      refine t_seq ?_
      refine t_region (fun ops hops => ?_)
      clear hops
      obtain ⟨hq_1, H⟩ := Chk_elim H
      obtain ⟨b_2, o_3, hA_4, hc_5⟩ := hs0.at_ (idx_lt hq_1)
      refine z_val (v := .pointer (some ⟨b_2, o_3 + x20.toNat, none⟩)) (val_idxS0 rfl rfl rfl Try.underlying25 sz5 hq_1 hA_4 rfl) rfl rfl rfl (fun _ _ _ => trivial) ?_
      obtain ⟨x23, hx23, H⟩ := Let_elim H
      refine z_val (v := U8 x23) (by subst hx23; exact val_load1 rfl rfl Try.underlying5 rfl (fun _ hw => hc_5.cell hw)) rfl rfl rfl (fun _ _ _ => trivial) ?_
      clear hx23
      refine z_val (v := U8 x23) (val_assign rfl rfl) rfl rfl rfl (fun _ _ _ => trivial) ?_
      refine z_nil ?_
      refine t_region (fun ops hops => ?_)
      clear hops
      refine z_val (v := U64 x9) (val_move rfl rfl) rfl rfl rfl (fun _ _ _ => trivial) ?_
      refine z_val (v := U8 x23) (val_move rfl rfl) rfl rfl rfl (fun _ _ _ => trivial) ?_
      obtain ⟨x26, hx26, H⟩ := Let_elim H
      refine z_val (v := .bool x26) (by subst hx26; exact val_bin rfl rfl rfl rfl (u8_eql_r _ _ _)) rfl rfl rfl (fun _ _ _ => trivial) ?_
      clear hx26
      obtain ⟨x27, hx, H⟩ := Option.bind_eq_some_iff.1 H
      refine z_made (v := U64 x27) rfl Try.func72 nm72 bs72 rfl (fun w hw => gas_either.calls x26 4#64 16#64 x27 hx w) rfl rfl rfl (fun _ _ _ => trivial) ?_
      clear hx
      obtain ⟨x28, hx28, H⟩ := Let_elim H
      refine z_val (v := U64 x28) (by subst hx28; exact val_bin rfl rfl rfl rfl (u64_add _ _ _)) rfl rfl rfl (fun _ _ _ => trivial) ?_
      clear hx28
      refine z_val (v := U64 x28) (val_assign rfl rfl) rfl rfl rfl (fun _ _ _ => trivial) ?_
      refine z_nil ?_
      refine t_fin ?_
      refine t_region (fun ops hops => ?_)
      clear hops
      obtain ⟨x29, hx29, H⟩ := Let_elim H
      refine z_val (v := .int .i64 x29) (by subst hx29; exact val_bin rfl rfl rfl rfl (i64_add _ _ _)) rfl rfl rfl (fun _ _ _ => trivial) ?_
      clear hx29
      refine z_val (v := .int .i64 x29) (val_move rfl rfl) rfl rfl rfl (fun _ _ _ => trivial) ?_
      refine z_nil ?_
      obtain rfl := Option.some.inj H
      exact t_reach ((hn1 _ () rfl trivial).weak (fun a ha => ha.cons rfl (ha.cons rfl (ha.cons rfl (ha.cons rfl (ha.cons rfl (ha.cons rfl (ha.nil))))))) (fun w hw => hw))
  ·
    obtain ⟨x9, x20⟩ := s
    subst hzz
    have H := HK1
    clear HK1 hz1
    replace H := sum_l H
    try dsimp only at H
    change T 40 _ _ _
    refine t_seq ?_
    refine t_seq ?_
    refine t_region (fun ops hops => ?_)
    clear hops
    refine z_val (v := .bool a1) (val_move rfl rfl) rfl rfl rfl (fun _ _ _ => trivial) ?_
    refine z_nil ?_
    refine t_bind H (fun (s : (BitVec 64)) (g : Unit) => [(9, U64 s)]) (fun (s : (BitVec 64)) (g : Unit) => Mm w [] h []) (fun (s : (BitVec 64)) (g : Unit) => True) (fun Gr K s he HJ => ?_) (fun s g HB hφ => ?_)
    ·
      clear H
      cases a1
      ·
        have H := cond_f he
        clear he
        refine t_cond_false rfl ?_
        refine t_skip ?_
        obtain rfl := Option.some.inj H
        exact t_reach ((K _ () HJ trivial).weak (fun a ha => ha.cons rfl (ha.nil)) (fun w hw => hw))
      ·
        have H := cond_t he
        clear he
        refine t_cond_true rfl ?_
        refine t_region (fun ops hops => ?_)
        clear hops
        refine z_val (v := U64 x9) (val_move rfl rfl) rfl rfl rfl (fun _ _ _ => trivial) ?_
        refine z_val (v := .slice A0 a0.length c0) (val_move rfl rfl) rfl rfl rfl (fun _ _ _ => trivial) ?_
        obtain ⟨x33, hx33, H⟩ := Let_elim H
        refine z_val (v := .int .i64 x33) (by subst hx33; exact val_len rfl rfl rfl Try.underlying25) rfl rfl rfl (fun _ _ _ => trivial) ?_
        clear hx33
        obtain ⟨x34, hx34, H⟩ := Let_elim H
        refine z_val (v := U64 x34) (by subst hx34; exact val_conv rfl rfl (fun w => conv_int_u64 w _ _ .i64 _ (by rw [Try.underlying3]; rfl) Try.underlying22)) rfl rfl rfl (fun _ _ _ => trivial) ?_
        clear hx34
        obtain ⟨x35, hx_7, H⟩ := Option.bind_eq_some_iff.1 H
        refine z_made (v := U64 x35) rfl Try.func73 nm73 bs73 rfl (fun w hw => mem_Words.calls x34 x35 hx_7 w) rfl rfl rfl (fun _ _ _ => trivial) ?_
        clear hx_7
        obtain ⟨x36, hx36, H⟩ := Let_elim H
        refine z_val (v := U64 x36) (by subst hx36; exact val_bin rfl rfl rfl rfl (u64_mul_l _ _ _)) rfl rfl rfl (fun _ _ _ => trivial) ?_
        clear hx36
        obtain ⟨x37, hx37, H⟩ := Let_elim H
        refine z_val (v := U64 x37) (by subst hx37; exact val_bin rfl rfl rfl rfl (u64_add_l _ _ _)) rfl rfl rfl (fun _ _ _ => trivial) ?_
        clear hx37
        obtain ⟨x38, hx38, H⟩ := Let_elim H
        refine z_val (v := U64 x38) (by subst hx38; exact val_bin rfl rfl rfl rfl (u64_add _ _ _)) rfl rfl rfl (fun _ _ _ => trivial) ?_
        clear hx38
        refine z_val (v := U64 x38) (val_assign rfl rfl) rfl rfl rfl (fun _ _ _ => trivial) ?_
        refine z_nil ?_
        obtain rfl := Option.some.inj H
        exact t_reach ((K _ () HJ trivial).weak (fun a ha => ha.cons rfl (ha.nil)) (fun w hw => hw))
    ·
      replace H := HB
      clear HB
      obtain ⟨x9_6, rfl⟩ : ∃ x, x = s := ⟨_, rfl⟩
      try dsimp only at H
      change T 40 _ _ _
      refine t_seq ?_
      refine t_region (fun ops hops => ?_)
      clear hops
      refine z_val (v := U64 x9_6) (val_move rfl rfl) rfl rfl rfl (fun _ _ _ => trivial) ?_
      refine z_val (v := U64 x9_6) (val_assign rfl rfl) rfl rfl rfl (fun _ _ _ => trivial) ?_
      refine z_nil ?_
      refine t_ret ?_
      obtain rfl := Option.some.inj H
      exact ret1 rfl (res_tmp rfl) (fun _ hw => ⟨rfl, hw.below⟩)
def smithyref10_Words (a0 : BitVec 64) : Option (BitVec 64) :=
  Let (a0 % 32#64) fun x4 => Let ((x4.toNat : Int) == 0) fun x5 => (bif x5 then Let (a0 / 32#64) fun x7 => some x7 else Let (a0 / 32#64) fun x9 => Let (x9 + 1#64) fun x10 => some x10)
set_option maxRecDepth 100000 in
theorem smithyref10_Words.calls  (a0 : BitVec 64) (r : BitVec 64) (H : smithyref10_Words a0 = some r) (w : World)   :
    Made Try.prog 74 #[U64 a0] w (U64 r) := by
  unfold smithyref10_Words at H
  have hM := Mm.start w (snap w) (snap_ok w)
  generalize snap w = h at *
  refine t_enter (vs := [U64 a0]) (n := 11) Try.func74 rfl rfl rfl hM ?_
  clear hM
  change T 11 _ _ _
  refine t_seq ?_
  refine t_region (fun ops hops => ?_)
  clear hops
  refine z_val (v := .int .u64 0) (val_assign rfl rfl) rfl rfl rfl (fun _ _ _ => trivial) ?_
  refine z_nil ?_
  refine t_seq ?_
  refine t_seq ?_
  refine t_region (fun ops hops => ?_)
  clear hops
  refine z_val (v := U64 a0) (val_move rfl rfl) rfl rfl rfl (fun _ _ _ => trivial) ?_
  obtain ⟨x4, hx4, H⟩ := Let_elim H
  refine z_val (v := U64 x4) (by subst hx4; exact val_bin rfl rfl rfl rfl (u64_rem_r _ _ _ (by decide) (by decide))) rfl rfl rfl (fun _ _ _ => trivial) ?_
  clear hx4
  obtain ⟨x5, hx5, H⟩ := Let_elim H
  refine z_val (v := .bool x5) (by subst hx5; exact val_bin rfl rfl rfl rfl (u64_eql_r _ _ _)) rfl rfl rfl (fun _ _ _ => trivial) ?_
  clear hx5
  refine z_nil ?_
  cases x5
  ·
    replace H := cond_f H
    refine t_cond_false rfl ?_
    refine t_skip ?_
    refine t_seq ?_
    refine t_region (fun ops hops => ?_)
    clear hops
    refine z_val (v := U64 a0) (val_move rfl rfl) rfl rfl rfl (fun _ _ _ => trivial) ?_
    obtain ⟨x9, hx9, H⟩ := Let_elim H
    refine z_val (v := U64 x9) (by subst hx9; exact val_bin rfl rfl rfl rfl (u64_quo_r _ _ _ (by decide) (by decide))) rfl rfl rfl (fun _ _ _ => trivial) ?_
    clear hx9
    obtain ⟨x10, hx10, H⟩ := Let_elim H
    refine z_val (v := U64 x10) (by subst hx10; exact val_bin rfl rfl rfl rfl (u64_add_r _ _ _)) rfl rfl rfl (fun _ _ _ => trivial) ?_
    clear hx10
    refine z_val (v := U64 x10) (val_assign rfl rfl) rfl rfl rfl (fun _ _ _ => trivial) ?_
    refine z_nil ?_
    refine t_ret ?_
    obtain rfl := Option.some.inj H
    exact ret1 rfl (res_tmp rfl) (fun _ hw => ⟨rfl, hw.below⟩)
  ·
    replace H := cond_t H
    refine t_cond_true rfl ?_
    refine t_seq ?_
    refine t_region (fun ops hops => ?_)
    clear hops
    refine z_val (v := U64 a0) (val_move rfl rfl) rfl rfl rfl (fun _ _ _ => trivial) ?_
    obtain ⟨x7, hx7, H⟩ := Let_elim H
    refine z_val (v := U64 x7) (by subst hx7; exact val_bin rfl rfl rfl rfl (u64_quo_r _ _ _ (by decide) (by decide))) rfl rfl rfl (fun _ _ _ => trivial) ?_
    clear hx7
    refine z_val (v := U64 x7) (val_assign rfl rfl) rfl rfl rfl (fun _ _ _ => trivial) ?_
    refine z_nil ?_
    refine t_ret ?_
    obtain rfl := Option.some.inj H
    exact ret1 rfl (res_tmp rfl) (fun _ hw => ⟨rfl, hw.below⟩)
def smithyref12_Intrinsic.b1 (x12 : Int) (a0 : List (BitVec 8)) (x9 : BitVec 64) (x13 : Int) : Option (Ctl ((BitVec 64) × (Int)) (BitVec 64)) :=
  Let (decide (x13 < x12)) fun x14 => (bif x14 then Let (x9 + 4#64) fun x17 => Chk ((0 : Int) ≤ x13 ∧ x13 < (a0.length : Int)) <| Let (lget a0 x13.toNat) fun x21 => Let ((x21.toNat : Int) != 0) fun x22 => (bif x22 then Let (x17 + 12#64) fun x24 => some x24 else some x17).bind (fun x9_6 => Let (wi (x13 + 1)) fun x25 => some (.next (x9_6, x25))) else some (.brk (x9, x13)))
def smithyref12_Intrinsic (a0 : List (BitVec 8)) (a1 : Bool) (a2 : BitVec 64) (a3 : BitVec 64) : Option (BitVec 64) :=
  Let ((a0.length : Int)) fun x12 => (wlx (σ := (BitVec 64) × (Int)) (fun s => smithyref12_Intrinsic.b1 x12 a0 s.1 s.2) (21000#64, 0)).bind (Sum.elim (fun s => (fun x9 x13 => (bif a1 then Let (x9 + 32000#64) fun x28 => Let ((a0.length : Int)) fun x31 => Let (BitVec.ofInt 64 x31) fun x32 => (smithyref10_Words x32).bind fun x33 => Let (2#64 * x33) fun x34 => Let (x28 + x34) fun x35 => some x35 else some x9).bind (fun x9_7 => Let (a2 * 2400#64) fun x38 => Let (x9_7 + x38) fun x39 => Let (a3 * 1900#64) fun x41 => Let (x39 + x41) fun x42 => some x42)) s.1 s.2) (fun r => some r))
set_option maxRecDepth 100000 in
theorem smithyref12_Intrinsic.calls  (a0 : List (BitVec 8)) (a1 : Bool) (a2 : BitVec 64) (a3 : BitVec 64) (A0 : Option Addr) (c0 : Nat) (r : BitVec 64) (H : smithyref12_Intrinsic a0 a1 a2 a3 = some r) (w : World) (hs0 : SlW w U8 A0 a0) (hc0 : a0.length ≤ c0)  :
    Made Try.prog 51 #[.slice A0 a0.length c0, .bool a1, U64 a2, U64 a3] w (U64 r) := by
  unfold smithyref12_Intrinsic at H
  replace hs0 := hs0.toH
  have hM := Mm.start w (snap w) (snap_ok w)
  generalize snap w = h at *
  refine t_enter (vs := [.slice A0 a0.length c0, .bool a1, U64 a2, U64 a3]) (n := 43) Try.func51 rfl rfl rfl hM ?_
  clear hM
  change T 43 _ _ _
  refine t_seq ?_
  refine t_region (fun ops hops => ?_)
  clear hops
  refine z_val (v := .int .u64 0) (val_assign rfl rfl) rfl rfl rfl (fun _ _ _ => trivial) ?_
  refine z_nil ?_
  refine t_seq ?_
  refine t_region (fun ops hops => ?_)
  clear hops
  refine z_val (v := .int .u64 21000) (val_assign rfl rfl) rfl rfl rfl (fun _ _ _ => trivial) ?_
  refine z_nil ?_
  refine t_seq ?_
  refine t_seq ?_
  refine t_region (fun ops hops => ?_)
  clear hops
  refine z_val (v := .slice A0 a0.length c0) (val_move rfl rfl) rfl rfl rfl (fun _ _ _ => trivial) ?_
  obtain ⟨x12, hx12, H⟩ := Let_elim H
  refine z_val (v := .int .i64 x12) (by subst hx12; exact val_len rfl rfl rfl Try.underlying25) rfl rfl rfl (fun _ _ _ => trivial) ?_
  clear hx12
  refine z_val (v := .int .i64 0) (val_move rfl rfl) rfl rfl rfl (fun _ _ _ => trivial) ?_
  refine z_nil ?_
  refine t_block ?_
  obtain ⟨z1, hz1, HK1⟩ := Option.bind_eq_some_iff.1 H
  clear H
  refine t_while hz1 (fun (s : (BitVec 64) × (Int)) (g : Unit) => [(0, .slice A0 a0.length c0), (1, .bool a1), (2, U64 a2), (3, U64 a3), (9, U64 s.1), (12, .int .i64 x12), (13, .int .i64 s.2)]) (fun (s : (BitVec 64) × (Int)) (g : Unit) => [(0, .slice A0 a0.length c0), (1, .bool a1), (2, U64 a2), (3, U64 a3), (9, U64 s.1)]) (fun (s : (BitVec 64) × (Int)) (g : Unit) => Mm w [] h []) (fun (s : (BitVec 64) × (Int)) (g : Unit) => Mm w [] h []) (fun (s : (BitVec 64) × (Int)) (g : Unit) => True) (fun (s : (BitVec 64) × (Int)) (g : Unit) => True) () trivial (fun a w ha hw => ⟨ha.cons rfl (ha.cons rfl (ha.cons rfl (ha.cons rfl (ha.cons rfl (ha.cons rfl (ha.cons rfl (ha.nil))))))), hw⟩) (fun Gn Gb s g e hφ H hn1 hb1 hr1 => ?_) (fun s g hzz hφ => ?_)
  ·
    obtain ⟨x9, x13⟩ := s
    change smithyref12_Intrinsic.b1 x12 a0 x9 x13 = some e at H
    unfold smithyref12_Intrinsic.b1 at H
    clear hz1
    change T 43 _ _ _
    refine t_seq ?_
    refine t_region (fun ops hops => ?_)
    clear hops
    obtain ⟨x14, hx14, H⟩ := Let_elim H
    refine z_val (v := .bool x14) (by subst hx14; exact val_bin rfl rfl rfl rfl (i64_lss _ _ _)) rfl rfl rfl (fun _ _ _ => trivial) ?_
    clear hx14
    refine z_nil ?_
    refine t_seq ?_
    cases x14
    ·
      replace H := cond_f H
      refine t_cond_false rfl ?_
      refine t_exit rfl ?_
      obtain rfl := Option.some.inj H
      exact t_reach ((hb1 _ () rfl trivial).weak (fun a ha => ha.cons rfl (ha.cons rfl (ha.cons rfl (ha.cons rfl (ha.cons rfl (ha.nil)))))) (fun w hw => hw))
    ·
      replace H := cond_t H
      refine t_cond_true rfl ?_
      refine t_skip ?_
      refine t_seq ?_
      refine t_block ?_
      refine t_seq ?_
      refine t_region (fun ops hops => ?_)
      clear hops
      refine z_val (v := .int .i64 x13) (val_move rfl rfl) rfl rfl rfl (fun _ _ _ => trivial) ?_
      refine z_val (v := .int .i64 x13) (val_assign rfl rfl) rfl rfl rfl (fun _ _ _ => trivial) ?_
      refine z_nil ?_
      refine t_seq ?_
      refine t_region (fun ops hops => ?_)
      clear hops
      refine z_val (v := U64 x9) (val_move rfl rfl) rfl rfl rfl (fun _ _ _ => trivial) ?_
      obtain ⟨x17, hx17, H⟩ := Let_elim H
      refine z_val (v := U64 x17) (by subst hx17; exact val_bin rfl rfl rfl rfl (u64_add_r _ _ _)) rfl rfl rfl (fun _ _ _ => trivial) ?_
      clear hx17
      refine z_val (v := U64 x17) (val_assign rfl rfl) rfl rfl rfl (fun _ _ _ => trivial) ?_
      refine z_nil ?_
      refine t_seq ?_
      refine t_region (fun ops hops => ?_)
      clear hops
      refine z_val (v := .slice A0 a0.length c0) (val_move rfl rfl) rfl rfl rfl (fun _ _ _ => trivial) ?_
      refine z_val (v := .int .i64 x13) (val_move rfl rfl) rfl rfl rfl (fun _ _ _ => trivial) ?_
      obtain ⟨hq_1, H⟩ := Chk_elim H
      obtain ⟨b_2, o_3, hA_4, hc_5⟩ := hs0.at_ (idx_lt hq_1)
      refine z_val (v := .pointer (some ⟨b_2, o_3 + x13.toNat, none⟩)) (val_idxS0 rfl rfl rfl Try.underlying25 sz5 hq_1 hA_4 rfl) rfl rfl rfl (fun _ _ _ => trivial) ?_
      obtain ⟨x21, hx21, H⟩ := Let_elim H
      refine z_val (v := U8 x21) (by subst hx21; exact val_load1 rfl rfl Try.underlying5 rfl (fun _ hw => hc_5.cell hw)) rfl rfl rfl (fun _ _ _ => trivial) ?_
      clear hx21
      obtain ⟨x22, hx22, H⟩ := Let_elim H
      refine z_val (v := .bool x22) (by subst hx22; exact val_bin rfl rfl rfl rfl (u8_neq_r _ _ _)) rfl rfl rfl (fun _ _ _ => trivial) ?_
      clear hx22
      refine z_nil ?_
      refine t_bind H (fun (s : (BitVec 64)) (g : Unit) => [(0, .slice A0 a0.length c0), (1, .bool a1), (2, U64 a2), (3, U64 a3), (9, U64 s), (12, .int .i64 x12), (13, .int .i64 x13)]) (fun (s : (BitVec 64)) (g : Unit) => Mm w [] h []) (fun (s : (BitVec 64)) (g : Unit) => True) (fun Gr K s he HJ => ?_) (fun s g HB hφ => ?_)
      ·
        clear H
        cases x22
        ·
          have H := cond_f he
          clear he
          refine t_cond_false rfl ?_
          refine t_skip ?_
          obtain rfl := Option.some.inj H
          exact t_reach ((K _ () HJ trivial).weak (fun a ha => ha.cons rfl (ha.cons rfl (ha.cons rfl (ha.cons rfl (ha.cons rfl (ha.cons rfl (ha.cons rfl (ha.nil)))))))) (fun w hw => hw))
        ·
          have H := cond_t he
          clear he
          refine t_cond_true rfl ?_
          refine t_region (fun ops hops => ?_)
          clear hops
          refine z_val (v := U64 x17) (val_move rfl rfl) rfl rfl rfl (fun _ _ _ => trivial) ?_
          obtain ⟨x24, hx24, H⟩ := Let_elim H
          refine z_val (v := U64 x24) (by subst hx24; exact val_bin rfl rfl rfl rfl (u64_add_r _ _ _)) rfl rfl rfl (fun _ _ _ => trivial) ?_
          clear hx24
          refine z_val (v := U64 x24) (val_assign rfl rfl) rfl rfl rfl (fun _ _ _ => trivial) ?_
          refine z_nil ?_
          obtain rfl := Option.some.inj H
          exact t_reach ((K _ () HJ trivial).weak (fun a ha => ha.cons rfl (ha.cons rfl (ha.cons rfl (ha.cons rfl (ha.cons rfl (ha.cons rfl (ha.cons rfl (ha.nil)))))))) (fun w hw => hw))
      ·
        replace H := HB
        clear HB
        obtain ⟨x9_6, rfl⟩ : ∃ x, x = s := ⟨_, rfl⟩
        try dsimp only at H
        change T 43 _ _ _
        refine t_fin ?_
        refine t_region (fun ops hops => ?_)
        clear hops
        obtain ⟨x25, hx25, H⟩ := Let_elim H
        refine z_val (v := .int .i64 x25) (by subst hx25; exact val_bin rfl rfl rfl rfl (i64_add _ _ _)) rfl rfl rfl (fun _ _ _ => trivial) ?_
        clear hx25
        refine z_val (v := .int .i64 x25) (val_move rfl rfl) rfl rfl rfl (fun _ _ _ => trivial) ?_
        refine z_nil ?_
        obtain rfl := Option.some.inj H
        exact t_reach ((hn1 _ () rfl trivial).weak (fun a ha => ha.cons rfl (ha.cons rfl (ha.cons rfl (ha.cons rfl (ha.cons rfl (ha.cons rfl (ha.cons rfl (ha.nil)))))))) (fun w hw => hw))
  ·
    obtain ⟨x9, x13⟩ := s
    subst hzz
    have H := HK1
    clear HK1 hz1
    replace H := sum_l H
    try dsimp only at H
    change T 43 _ _ _
    refine t_seq ?_
    refine t_seq ?_
    refine t_region (fun ops hops => ?_)
    clear hops
    refine z_val (v := .bool a1) (val_move rfl rfl) rfl rfl rfl (fun _ _ _ => trivial) ?_
    refine z_nil ?_
    refine t_bind H (fun (s : (BitVec 64)) (g : Unit) => [(2, U64 a2), (3, U64 a3), (9, U64 s)]) (fun (s : (BitVec 64)) (g : Unit) => Mm w [] h []) (fun (s : (BitVec 64)) (g : Unit) => True) (fun Gr K s he HJ => ?_) (fun s g HB hφ => ?_)
    ·
      clear H
      cases a1
      ·
        have H := cond_f he
        clear he
        refine t_cond_false rfl ?_
        refine t_skip ?_
        obtain rfl := Option.some.inj H
        exact t_reach ((K _ () HJ trivial).weak (fun a ha => ha.cons rfl (ha.cons rfl (ha.cons rfl (ha.nil)))) (fun w hw => hw))
      ·
        have H := cond_t he
        clear he
        refine t_cond_true rfl ?_
        refine t_seq ?_
        refine t_region (fun ops hops => ?_)
        clear hops
        refine z_val (v := U64 x9) (val_move rfl rfl) rfl rfl rfl (fun _ _ _ => trivial) ?_
        obtain ⟨x28, hx28, H⟩ := Let_elim H
        refine z_val (v := U64 x28) (by subst hx28; exact val_bin rfl rfl rfl rfl (u64_add_r _ _ _)) rfl rfl rfl (fun _ _ _ => trivial) ?_
        clear hx28
        refine z_val (v := U64 x28) (val_assign rfl rfl) rfl rfl rfl (fun _ _ _ => trivial) ?_
        refine z_nil ?_
        refine t_region (fun ops hops => ?_)
        clear hops
        refine z_val (v := U64 x28) (val_move rfl rfl) rfl rfl rfl (fun _ _ _ => trivial) ?_
        refine z_val (v := .slice A0 a0.length c0) (val_move rfl rfl) rfl rfl rfl (fun _ _ _ => trivial) ?_
        obtain ⟨x31, hx31, H⟩ := Let_elim H
        refine z_val (v := .int .i64 x31) (by subst hx31; exact val_len rfl rfl rfl Try.underlying25) rfl rfl rfl (fun _ _ _ => trivial) ?_
        clear hx31
        obtain ⟨x32, hx32, H⟩ := Let_elim H
        refine z_val (v := U64 x32) (by subst hx32; exact val_conv rfl rfl (fun w => conv_int_u64 w _ _ .i64 _ (by rw [Try.underlying3]; rfl) Try.underlying22)) rfl rfl rfl (fun _ _ _ => trivial) ?_
        clear hx32
        obtain ⟨x33, hx, H⟩ := Option.bind_eq_some_iff.1 H
        refine z_made (v := U64 x33) rfl Try.func74 nm74 bs74 rfl (fun w hw => smithyref10_Words.calls x32 x33 hx w) rfl rfl rfl (fun _ _ _ => trivial) ?_
        clear hx
        obtain ⟨x34, hx34, H⟩ := Let_elim H
        refine z_val (v := U64 x34) (by subst hx34; exact val_bin rfl rfl rfl rfl (u64_mul_l _ _ _)) rfl rfl rfl (fun _ _ _ => trivial) ?_
        clear hx34
        obtain ⟨x35, hx35, H⟩ := Let_elim H
        refine z_val (v := U64 x35) (by subst hx35; exact val_bin rfl rfl rfl rfl (u64_add _ _ _)) rfl rfl rfl (fun _ _ _ => trivial) ?_
        clear hx35
        refine z_val (v := U64 x35) (val_assign rfl rfl) rfl rfl rfl (fun _ _ _ => trivial) ?_
        refine z_nil ?_
        obtain rfl := Option.some.inj H
        exact t_reach ((K _ () HJ trivial).weak (fun a ha => ha.cons rfl (ha.cons rfl (ha.cons rfl (ha.nil)))) (fun w hw => hw))
    ·
      replace H := HB
      clear HB
      obtain ⟨x9_7, rfl⟩ : ∃ x, x = s := ⟨_, rfl⟩
      try dsimp only at H
      change T 43 _ _ _
      refine t_seq ?_
      refine t_region (fun ops hops => ?_)
      clear hops
      refine z_val (v := U64 x9_7) (val_move rfl rfl) rfl rfl rfl (fun _ _ _ => trivial) ?_
      refine z_val (v := U64 a2) (val_move rfl rfl) rfl rfl rfl (fun _ _ _ => trivial) ?_
      obtain ⟨x38, hx38, H⟩ := Let_elim H
      refine z_val (v := U64 x38) (by subst hx38; exact val_bin rfl rfl rfl rfl (u64_mul_r _ _ _)) rfl rfl rfl (fun _ _ _ => trivial) ?_
      clear hx38
      obtain ⟨x39, hx39, H⟩ := Let_elim H
      refine z_val (v := U64 x39) (by subst hx39; exact val_bin rfl rfl rfl rfl (u64_add _ _ _)) rfl rfl rfl (fun _ _ _ => trivial) ?_
      clear hx39
      refine z_val (v := U64 a3) (val_move rfl rfl) rfl rfl rfl (fun _ _ _ => trivial) ?_
      obtain ⟨x41, hx41, H⟩ := Let_elim H
      refine z_val (v := U64 x41) (by subst hx41; exact val_bin rfl rfl rfl rfl (u64_mul_r _ _ _)) rfl rfl rfl (fun _ _ _ => trivial) ?_
      clear hx41
      obtain ⟨x42, hx42, H⟩ := Let_elim H
      refine z_val (v := U64 x42) (by subst hx42; exact val_bin rfl rfl rfl rfl (u64_add _ _ _)) rfl rfl rfl (fun _ _ _ => trivial) ?_
      clear hx42
      refine z_val (v := U64 x42) (val_assign rfl rfl) rfl rfl rfl (fun _ _ _ => trivial) ?_
      refine z_nil ?_
      refine t_ret ?_
      obtain rfl := Option.some.inj H
      exact ret1 rfl (res_tmp rfl) (fun _ hw => ⟨rfl, hw.below⟩)
def tx_Intrinsic.b1 (x8 : Int) (a0 : (Vec (BitVec 8) 20) × (Vec (BitVec 8) 20) × (Bool) × (BitVec 64) × (Vec (BitVec 64) 4) × (List (BitVec 8)) × (BitVec 64) × (Vec (BitVec 64) 4) × (Vec (BitVec 64) 4) × (List ((Vec (BitVec 8) 20) × (List (Vec (BitVec 64) 4))))) (x3 : BitVec 64) (x9 : Int) : Option (Ctl ((BitVec 64) × (Int)) (BitVec 64)) :=
  Let (decide (x9 < x8)) fun x10 => (bif x10 then Chk ((0 : Int) ≤ x9 ∧ x9 < (a0.2.2.2.2.2.2.2.2.2.length : Int)) <| Let (lget a0.2.2.2.2.2.2.2.2.2 x9.toNat) fun x11 => Let ((x11.2.length : Int)) fun x16 => Let (BitVec.ofInt 64 x16) fun x17 => Let (x3 + x17) fun x18 => Let (wi (x9 + 1)) fun x19 => some (.next (x18, x19)) else some (.brk (x3, x9)))
def tx_Intrinsic (a0 : (Vec (BitVec 8) 20) × (Vec (BitVec 8) 20) × (Bool) × (BitVec 64) × (Vec (BitVec 64) 4) × (List (BitVec 8)) × (BitVec 64) × (Vec (BitVec 64) 4) × (Vec (BitVec 64) 4) × (List ((Vec (BitVec 8) 20) × (List (Vec (BitVec 64) 4))))) : Option (BitVec 64) :=
  Let ((a0.2.2.2.2.2.2.2.2.2.length : Int)) fun x8 => (wlx (σ := (BitVec 64) × (Int)) (fun s => tx_Intrinsic.b1 x8 a0 s.1 s.2) (0#64, 0)).bind (Sum.elim (fun s => (fun x3 x9 => Let ((a0.2.2.2.2.2.2.2.2.2.length : Int)) fun x26 => Let (BitVec.ofInt 64 x26) fun x27 => (gas_Intrinsic a0.2.2.2.2.2.1 a0.2.2.1 x27 x3).bind fun x29 => some x29) s.1 s.2) (fun r => some r))
set_option maxRecDepth 100000 in
theorem tx_Intrinsic.calls  (a0 : (Vec (BitVec 8) 20) × (Vec (BitVec 8) 20) × (Bool) × (BitVec 64) × (Vec (BitVec 64) 4) × (List (BitVec 8)) × (BitVec 64) × (Vec (BitVec 64) 4) × (Vec (BitVec 64) 4) × (List ((Vec (BitVec 8) 20) × (List (Vec (BitVec 64) 4))))) (A0 : Option Addr) (c0 : Nat) (A0_1 : Option Addr) (c0_2 : Nat) (r : BitVec 64) (H : tx_Intrinsic a0 = some r) (w : World) (hs0 : SlW w U8 A0 a0.2.2.2.2.2.1) (hc0 : a0.2.2.2.2.2.1.length ≤ c0) (hs0_3 : SlRW w R87 A0_1 a0.2.2.2.2.2.2.2.2.2) (hc0_4 : a0.2.2.2.2.2.2.2.2.2.length ≤ c0_2)  :
    Made Try.prog 21 #[.agg (cV U8 a0.1 ++ (cV U8 a0.2.1 ++ ([(.bool a0.2.2.1 : Value)] ++ ([(U64 a0.2.2.2.1 : Value)] ++ (cV U64 a0.2.2.2.2.1 ++ ([(.slice A0 a0.2.2.2.2.2.1.length c0 : Value)] ++ ([(U64 a0.2.2.2.2.2.2.1 : Value)] ++ (cV U64 a0.2.2.2.2.2.2.2.1 ++ (cV U64 a0.2.2.2.2.2.2.2.2.1 ++ ([(.slice A0_1 a0.2.2.2.2.2.2.2.2.2.length c0_2 : Value)])))))))))).toArray] w (U64 r) := by
  unfold tx_Intrinsic at H
  replace hs0 := hs0.toH
  replace hs0_3 := hs0_3.toH
  have hM := Mm.start w (snap w) (snap_ok w)
  generalize snap w = h at *
  refine t_enter (vs := [.agg (cV U8 a0.1 ++ (cV U8 a0.2.1 ++ ([(.bool a0.2.2.1 : Value)] ++ ([(U64 a0.2.2.2.1 : Value)] ++ (cV U64 a0.2.2.2.2.1 ++ ([(.slice A0 a0.2.2.2.2.2.1.length c0 : Value)] ++ ([(U64 a0.2.2.2.2.2.2.1 : Value)] ++ (cV U64 a0.2.2.2.2.2.2.2.1 ++ (cV U64 a0.2.2.2.2.2.2.2.2.1 ++ ([(.slice A0_1 a0.2.2.2.2.2.2.2.2.2.length c0_2 : Value)])))))))))).toArray]) (n := 30) Try.func21 rfl rfl rfl hM ?_
  clear hM
  change T 30 _ _ _
  refine t_seq ?_
  refine t_region (fun ops hops => ?_)
  clear hops
  refine z_box (cs := cV U8 a0.1 ++ (cV U8 a0.2.1 ++ ([(.bool a0.2.2.1 : Value)] ++ ([(U64 a0.2.2.2.1 : Value)] ++ (cV U64 a0.2.2.2.2.1 ++ ([(.slice A0 a0.2.2.2.2.2.1.length c0 : Value)] ++ ([(U64 a0.2.2.2.2.2.2.1 : Value)] ++ (cV U64 a0.2.2.2.2.2.2.2.1 ++ (cV U64 a0.2.2.2.2.2.2.2.2.1 ++ ([(.slice A0_1 a0.2.2.2.2.2.2.2.2.2.length c0_2 : Value)])))))))))) (room := 57) rfl rfl rfl (by simp [cV_len]) rfl rfl rfl (fun _ _ _ _ => trivial) (fun g_5 => ?_)
  refine z_val (v := .int .u64 0) (val_assign rfl rfl) rfl rfl rfl (fun _ _ _ => trivial) ?_
  refine z_nil ?_
  refine t_seq ?_
  refine t_region (fun ops hops => ?_)
  clear hops
  refine z_val (v := .int .u64 0) (val_assign rfl rfl) rfl rfl rfl (fun _ _ _ => trivial) ?_
  refine z_nil ?_
  refine t_seq ?_
  refine t_seq ?_
  refine t_region (fun ops hops => ?_)
  clear hops
  refine z_val (v := .pointer (some ⟨g_5, 56, none⟩)) (val_fld0 (sz := 1) rfl rfl Try.underlying33 rfl rfl sz31 (by decide)) rfl rfl rfl (fun _ _ _ => trivial) ?_
  refine z_val (v := .slice A0_1 a0.2.2.2.2.2.2.2.2.2.length c0_2) (val_load1 rfl rfl Try.underlying31 rfl (fun _ hw => hw.cell (j := 0) (q := 56) rfl (cells_skip (n := 20) (k := 36) (cV_len _) (cells_skip (n := 20) (k := 16) (cV_len _) (cells_skip (n := 1) (k := 15) rfl (cells_skip (n := 1) (k := 14) rfl (cells_skip (n := 4) (k := 10) (cV_len _) (cells_skip (n := 1) (k := 9) rfl (cells_skip (n := 1) (k := 8) rfl (cells_skip (n := 4) (k := 4) (cV_len _) (cells_skip (n := 4) (k := 0) (cV_len _) rfl))))))))))) rfl rfl rfl (fun _ _ _ => trivial) ?_
  obtain ⟨x8, hx8, H⟩ := Let_elim H
  refine z_val (v := .int .i64 x8) (by subst hx8; exact val_len rfl rfl rfl Try.underlying31) rfl rfl rfl (fun _ _ _ => trivial) ?_
  clear hx8
  refine z_val (v := .int .i64 0) (val_move rfl rfl) rfl rfl rfl (fun _ _ _ => trivial) ?_
  refine z_nil ?_
  refine t_block ?_
  obtain ⟨z1, hz1, HK1⟩ := Option.bind_eq_some_iff.1 H
  clear H
  refine t_while hz1 (fun (s : (BitVec 64) × (Int)) (g : Unit) => [(1, .pointer (some ⟨g_5, 0, none⟩)), (3, U64 s.1), (7, .slice A0_1 a0.2.2.2.2.2.2.2.2.2.length c0_2), (8, .int .i64 x8), (9, .int .i64 s.2)]) (fun (s : (BitVec 64) × (Int)) (g : Unit) => [(1, .pointer (some ⟨g_5, 0, none⟩)), (3, U64 s.1)]) (fun (s : (BitVec 64) × (Int)) (g : Unit) => Mm w [] h [.blk g_5 33 (cV U8 a0.1 ++ (cV U8 a0.2.1 ++ ([(.bool a0.2.2.1 : Value)] ++ ([(U64 a0.2.2.2.1 : Value)] ++ (cV U64 a0.2.2.2.2.1 ++ ([(.slice A0 a0.2.2.2.2.2.1.length c0 : Value)] ++ ([(U64 a0.2.2.2.2.2.2.1 : Value)] ++ (cV U64 a0.2.2.2.2.2.2.2.1 ++ (cV U64 a0.2.2.2.2.2.2.2.2.1 ++ ([(.slice A0_1 a0.2.2.2.2.2.2.2.2.2.length c0_2 : Value)])))))))))) 57]) (fun (s : (BitVec 64) × (Int)) (g : Unit) => Mm w [] h [.blk g_5 33 (cV U8 a0.1 ++ (cV U8 a0.2.1 ++ ([(.bool a0.2.2.1 : Value)] ++ ([(U64 a0.2.2.2.1 : Value)] ++ (cV U64 a0.2.2.2.2.1 ++ ([(.slice A0 a0.2.2.2.2.2.1.length c0 : Value)] ++ ([(U64 a0.2.2.2.2.2.2.1 : Value)] ++ (cV U64 a0.2.2.2.2.2.2.2.1 ++ (cV U64 a0.2.2.2.2.2.2.2.2.1 ++ ([(.slice A0_1 a0.2.2.2.2.2.2.2.2.2.length c0_2 : Value)])))))))))) 57]) (fun (s : (BitVec 64) × (Int)) (g : Unit) => True) (fun (s : (BitVec 64) × (Int)) (g : Unit) => True) () trivial (fun a w ha hw => ⟨ha.cons rfl (ha.cons rfl (ha.cons rfl (ha.cons rfl (ha.cons rfl (ha.nil))))), hw⟩) (fun Gn Gb s g e hφ H hn1 hb1 hr1 => ?_) (fun s g hzz hφ => ?_)
  ·
    obtain ⟨x3, x9⟩ := s
    change tx_Intrinsic.b1 x8 a0 x3 x9 = some e at H
    unfold tx_Intrinsic.b1 at H
    clear hz1
    change T 30 _ _ _
    refine t_seq ?_
    refine t_region (fun ops hops => ?_)
    clear hops
    obtain ⟨x10, hx10, H⟩ := Let_elim H
    refine z_val (v := .bool x10) (by subst hx10; exact val_bin rfl rfl rfl rfl (i64_lss _ _ _)) rfl rfl rfl (fun _ _ _ => trivial) ?_
    clear hx10
    refine z_nil ?_
    refine t_seq ?_
    cases x10
    ·
      replace H := cond_f H
      refine t_cond_false rfl ?_
      refine t_exit rfl ?_
      obtain rfl := Option.some.inj H
      exact t_reach ((hb1 _ () rfl trivial).weak (fun a ha => ha.cons rfl (ha.cons rfl (ha.nil))) (fun w hw => hw))
    ·
      replace H := cond_t H
      refine t_cond_true rfl ?_
      refine t_skip ?_
      refine t_seq ?_
      refine t_block ?_
      refine t_seq ?_
      refine t_region (fun ops hops => ?_)
      clear hops
      obtain ⟨hq_6, H⟩ := Chk_elim H
      obtain ⟨x11, hx11, H⟩ := Let_elim H
      obtain ⟨b_12, o_13, hA_14, cs, hr, hc_11⟩ := hs0_3.at_ (idx_lt hq_6)
      rw [← hx11] at hr
      clear hx11
      obtain ⟨A_7, c_8, rfl, hs_9, hc_10⟩ := hr
      refine z_val (v := .pointer (some ⟨b_12, o_13 + x9.toNat * 21, none⟩)) (val_idxR rfl rfl rfl Try.underlying31 sz87 hq_6 hA_14 rfl) rfl rfl rfl (fun _ _ _ => trivial) ?_
      refine z_val (v := .agg (cV U8 x11.1 ++ ([(.slice A_7 x11.2.length c_8 : Value)])).toArray) (val_loadR (off := o_13 + x9.toNat * 21) (cs := cV U8 x11.1 ++ ([(.slice A_7 x11.2.length c_8 : Value)])) rfl rfl Try.underlying87 rfl (sz87.trans (congrArg some (Eq.symm (by simp [cV_len])))) (fun _ hw => range_of hc_11 (k := 0) seg_all hw)) rfl rfl rfl (fun _ _ _ => trivial) ?_
      refine z_alloc (cs := cV U8 (Vec.rep 20 0#8) ++ ([(.slice none ([] : List (Vec (BitVec 64) 4)).length 0 : Value)])) (room := 21) rfl ze87 rfl (by simp [cV_len]) rfl rfl rfl (fun _ _ _ _ => trivial) (fun g_15 => ?_)
      refine z_storeA (j := 0) (cs' := cV U8 x11.1 ++ ([(.slice A_7 x11.2.length c_8 : Value)])) (L' := [.blk g_15 87 (cV U8 x11.1 ++ ([(.slice A_7 x11.2.length c_8 : Value)])) 21, .blk g_5 33 (cV U8 a0.1 ++ (cV U8 a0.2.1 ++ ([(.bool a0.2.2.1 : Value)] ++ ([(U64 a0.2.2.2.1 : Value)] ++ (cV U64 a0.2.2.2.2.1 ++ ([(.slice A0 a0.2.2.2.2.2.1.length c0 : Value)] ++ ([(U64 a0.2.2.2.2.2.2.1 : Value)] ++ (cV U64 a0.2.2.2.2.2.2.2.1 ++ (cV U64 a0.2.2.2.2.2.2.2.2.1 ++ ([(.slice A0_1 a0.2.2.2.2.2.2.2.2.2.length c0_2 : Value)])))))))))) 57]) rfl rfl rfl (one_app (cV_one (fun _ => rfl) _) one_one) sz87 rfl (by simp [cV_len]) rfl rfl rfl (fun _ _ _ => trivial) ?_
      refine z_nil ?_
      refine t_region (fun ops hops => ?_)
      clear hops
      refine z_val (v := U64 x3) (val_move rfl rfl) rfl rfl rfl (fun _ _ _ => trivial) ?_
      refine z_val (v := .pointer (some ⟨g_15, 20, none⟩)) (val_fld0 (sz := 1) rfl rfl Try.underlying87 rfl rfl sz85 (by decide)) rfl rfl rfl (fun _ _ _ => trivial) ?_
      refine z_val (v := .slice A_7 x11.2.length c_8) (val_load1 rfl rfl Try.underlying85 rfl (fun _ hw => hw.cell (j := 0) (q := 20) rfl (cells_skip (n := 20) (k := 0) (cV_len _) rfl))) rfl rfl rfl (fun _ _ _ => trivial) ?_
      obtain ⟨x16, hx16, H⟩ := Let_elim H
      refine z_val (v := .int .i64 x16) (by subst hx16; exact val_len rfl rfl rfl Try.underlying85) rfl rfl rfl (fun _ _ _ => trivial) ?_
      clear hx16
      obtain ⟨x17, hx17, H⟩ := Let_elim H
      refine z_val (v := U64 x17) (by subst hx17; exact val_conv rfl rfl (fun w => conv_int_u64 w _ _ .i64 _ (by rw [Try.underlying3]; rfl) Try.underlying22)) rfl rfl rfl (fun _ _ _ => trivial) ?_
      clear hx17
      obtain ⟨x18, hx18, H⟩ := Let_elim H
      refine z_val (v := U64 x18) (by subst hx18; exact val_bin rfl rfl rfl rfl (u64_add _ _ _)) rfl rfl rfl (fun _ _ _ => trivial) ?_
      clear hx18
      refine z_val (v := U64 x18) (val_assign rfl rfl) rfl rfl rfl (fun _ _ _ => trivial) ?_
      refine z_nil ?_
      refine t_fin ?_
      refine t_region (fun ops hops => ?_)
      clear hops
      obtain ⟨x19, hx19, H⟩ := Let_elim H
      refine z_val (v := .int .i64 x19) (by subst hx19; exact val_bin rfl rfl rfl rfl (i64_add _ _ _)) rfl rfl rfl (fun _ _ _ => trivial) ?_
      clear hx19
      refine z_val (v := .int .i64 x19) (val_move rfl rfl) rfl rfl rfl (fun _ _ _ => trivial) ?_
      refine z_nil ?_
      obtain rfl := Option.some.inj H
      exact t_reach ((hn1 _ () rfl trivial).weak (fun a ha => ha.cons rfl (ha.cons rfl (ha.cons rfl (ha.cons rfl (ha.cons rfl (ha.nil)))))) (fun w hw => hw.sel [1] rfl rfl))
  ·
    obtain ⟨x3, x9⟩ := s
    subst hzz
    have H := HK1
    clear HK1 hz1
    replace H := sum_l H
    try dsimp only at H
    change T 30 _ _ _
    refine t_seq ?_
    refine t_region (fun ops hops => ?_)
    clear hops
    refine z_val (v := .pointer (some ⟨g_5, 46, none⟩)) (val_fld0 (sz := 1) rfl rfl Try.underlying33 rfl rfl sz25 (by decide)) rfl rfl rfl (fun _ _ _ => trivial) ?_
    refine z_val (v := .slice A0 a0.2.2.2.2.2.1.length c0) (val_load1 rfl rfl Try.underlying25 rfl (fun _ hw => hw.cell (j := 0) (q := 46) rfl (cells_skip (n := 20) (k := 26) (cV_len _) (cells_skip (n := 20) (k := 6) (cV_len _) (cells_skip (n := 1) (k := 5) rfl (cells_skip (n := 1) (k := 4) rfl (cells_skip (n := 4) (k := 0) (cV_len _) (cells_here (k := 0) rfl)))))))) rfl rfl rfl (fun _ _ _ => trivial) ?_
    refine z_val (v := .pointer (some ⟨g_5, 40, none⟩)) (val_fld0 (sz := 1) rfl rfl Try.underlying33 rfl rfl sz4 (by decide)) rfl rfl rfl (fun _ _ _ => trivial) ?_
    refine z_val (v := .bool a0.2.2.1) (val_load1 rfl rfl Try.underlying4 rfl (fun _ hw => hw.cell (j := 0) (q := 40) rfl (cells_skip (n := 20) (k := 20) (cV_len _) (cells_skip (n := 20) (k := 0) (cV_len _) (cells_here (k := 0) rfl))))) rfl rfl rfl (fun _ _ _ => trivial) ?_
    refine z_val (v := .pointer (some ⟨g_5, 56, none⟩)) (val_fld0 (sz := 1) rfl rfl Try.underlying33 rfl rfl sz31 (by decide)) rfl rfl rfl (fun _ _ _ => trivial) ?_
    refine z_val (v := .slice A0_1 a0.2.2.2.2.2.2.2.2.2.length c0_2) (val_load1 rfl rfl Try.underlying31 rfl (fun _ hw => hw.cell (j := 0) (q := 56) rfl (cells_skip (n := 20) (k := 36) (cV_len _) (cells_skip (n := 20) (k := 16) (cV_len _) (cells_skip (n := 1) (k := 15) rfl (cells_skip (n := 1) (k := 14) rfl (cells_skip (n := 4) (k := 10) (cV_len _) (cells_skip (n := 1) (k := 9) rfl (cells_skip (n := 1) (k := 8) rfl (cells_skip (n := 4) (k := 4) (cV_len _) (cells_skip (n := 4) (k := 0) (cV_len _) rfl))))))))))) rfl rfl rfl (fun _ _ _ => trivial) ?_
    obtain ⟨x26, hx26, H⟩ := Let_elim H
    refine z_val (v := .int .i64 x26) (by subst hx26; exact val_len rfl rfl rfl Try.underlying31) rfl rfl rfl (fun _ _ _ => trivial) ?_
    clear hx26
    obtain ⟨x27, hx27, H⟩ := Let_elim H
    refine z_val (v := U64 x27) (by subst hx27; exact val_conv rfl rfl (fun w => conv_int_u64 w _ _ .i64 _ (by rw [Try.underlying3]; rfl) Try.underlying22)) rfl rfl rfl (fun _ _ _ => trivial) ?_
    clear hx27
    refine z_val (v := U64 x3) (val_move rfl rfl) rfl rfl rfl (fun _ _ _ => trivial) ?_
    obtain ⟨x29, hx, H⟩ := Option.bind_eq_some_iff.1 H
    refine z_made (v := U64 x29) rfl Try.func50 nm50 bs50 rfl (fun w hw => gas_Intrinsic.calls a0.2.2.2.2.2.1 a0.2.2.1 x27 x3 A0 c0 x29 hx w (hs0.toW hw) hc0) rfl rfl rfl (fun _ _ _ => trivial) ?_
    clear hx
    refine z_val (v := U64 x29) (val_assign rfl rfl) rfl rfl rfl (fun _ _ _ => trivial) ?_
    refine z_nil ?_
    refine t_ret ?_
    obtain rfl := Option.some.inj H
    exact ret1 rfl (res_tmp rfl) (fun _ hw => ⟨rfl, hw.below⟩)
def smithyref19_Intrinsic.b1 (x7 : Int) (a0 : (Vec (BitVec 8) 20) × (Vec (BitVec 8) 20) × (Bool) × (BitVec 64) × (Vec (BitVec 64) 4) × (List (BitVec 8)) × (BitVec 64) × (Vec (BitVec 64) 4) × (Vec (BitVec 64) 4) × (List ((Vec (BitVec 8) 20) × (List (Vec (BitVec 64) 4))))) (x3 : Int) (x8 : Int) : Option (Ctl ((Int) × (Int)) (BitVec 64)) :=
  Let (decide (x8 < x7)) fun x9 => (bif x9 then Chk ((0 : Int) ≤ x8 ∧ x8 < (a0.2.2.2.2.2.2.2.2.2.length : Int)) <| Let (lget a0.2.2.2.2.2.2.2.2.2 x8.toNat) fun x15 => Let ((x15.2.length : Int)) fun x18 => Let (wi (x3 + x18)) fun x19 => Let (wi (x8 + 1)) fun x20 => some (.next (x19, x20)) else some (.brk (x3, x8)))
def smithyref19_Intrinsic (a0 : (Vec (BitVec 8) 20) × (Vec (BitVec 8) 20) × (Bool) × (BitVec 64) × (Vec (BitVec 64) 4) × (List (BitVec 8)) × (BitVec 64) × (Vec (BitVec 64) 4) × (Vec (BitVec 64) 4) × (List ((Vec (BitVec 8) 20) × (List (Vec (BitVec 64) 4))))) : Option (BitVec 64) :=
  Let ((a0.2.2.2.2.2.2.2.2.2.length : Int)) fun x7 => (wlx (σ := (Int) × (Int)) (fun s => smithyref19_Intrinsic.b1 x7 a0 s.1 s.2) (0, 0)).bind (Sum.elim (fun s => (fun x3 x8 => Let ((a0.2.2.2.2.2.2.2.2.2.length : Int)) fun x27 => Let (BitVec.ofInt 64 x27) fun x28 => Let (BitVec.ofInt 64 x3) fun x30 => (smithyref12_Intrinsic a0.2.2.2.2.2.1 a0.2.2.1 x28 x30).bind fun x31 => some x31) s.1 s.2) (fun r => some r))
set_option maxRecDepth 100000 in
theorem smithyref19_Intrinsic.calls  (a0 : (Vec (BitVec 8) 20) × (Vec (BitVec 8) 20) × (Bool) × (BitVec 64) × (Vec (BitVec 64) 4) × (List (BitVec 8)) × (BitVec 64) × (Vec (BitVec 64) 4) × (Vec (BitVec 64) 4) × (List ((Vec (BitVec 8) 20) × (List (Vec (BitVec 64) 4))))) (A0 : Option Addr) (c0 : Nat) (A0_1 : Option Addr) (c0_2 : Nat) (r : BitVec 64) (H : smithyref19_Intrinsic a0 = some r) (w : World) (hs0 : SlW w U8 A0 a0.2.2.2.2.2.1) (hc0 : a0.2.2.2.2.2.1.length ≤ c0) (hs0_3 : SlRW w R87 A0_1 a0.2.2.2.2.2.2.2.2.2) (hc0_4 : a0.2.2.2.2.2.2.2.2.2.length ≤ c0_2)  :
    Made Try.prog 22 #[.agg (cV U8 a0.1 ++ (cV U8 a0.2.1 ++ ([(.bool a0.2.2.1 : Value)] ++ ([(U64 a0.2.2.2.1 : Value)] ++ (cV U64 a0.2.2.2.2.1 ++ ([(.slice A0 a0.2.2.2.2.2.1.length c0 : Value)] ++ ([(U64 a0.2.2.2.2.2.2.1 : Value)] ++ (cV U64 a0.2.2.2.2.2.2.2.1 ++ (cV U64 a0.2.2.2.2.2.2.2.2.1 ++ ([(.slice A0_1 a0.2.2.2.2.2.2.2.2.2.length c0_2 : Value)])))))))))).toArray] w (U64 r) := by
  unfold smithyref19_Intrinsic at H
  replace hs0 := hs0.toH
  replace hs0_3 := hs0_3.toH
  have hM := Mm.start w (snap w) (snap_ok w)
  generalize snap w = h at *
  refine t_enter (vs := [.agg (cV U8 a0.1 ++ (cV U8 a0.2.1 ++ ([(.bool a0.2.2.1 : Value)] ++ ([(U64 a0.2.2.2.1 : Value)] ++ (cV U64 a0.2.2.2.2.1 ++ ([(.slice A0 a0.2.2.2.2.2.1.length c0 : Value)] ++ ([(U64 a0.2.2.2.2.2.2.1 : Value)] ++ (cV U64 a0.2.2.2.2.2.2.2.1 ++ (cV U64 a0.2.2.2.2.2.2.2.2.1 ++ ([(.slice A0_1 a0.2.2.2.2.2.2.2.2.2.length c0_2 : Value)])))))))))).toArray]) (n := 32) Try.func22 rfl rfl rfl hM ?_
  clear hM
  change T 32 _ _ _
  refine t_seq ?_
  refine t_region (fun ops hops => ?_)
  clear hops
  refine z_box (cs := cV U8 a0.1 ++ (cV U8 a0.2.1 ++ ([(.bool a0.2.2.1 : Value)] ++ ([(U64 a0.2.2.2.1 : Value)] ++ (cV U64 a0.2.2.2.2.1 ++ ([(.slice A0 a0.2.2.2.2.2.1.length c0 : Value)] ++ ([(U64 a0.2.2.2.2.2.2.1 : Value)] ++ (cV U64 a0.2.2.2.2.2.2.2.1 ++ (cV U64 a0.2.2.2.2.2.2.2.2.1 ++ ([(.slice A0_1 a0.2.2.2.2.2.2.2.2.2.length c0_2 : Value)])))))))))) (room := 57) rfl rfl rfl (by simp [cV_len]) rfl rfl rfl (fun _ _ _ _ => trivial) (fun g_5 => ?_)
  refine z_val (v := .int .u64 0) (val_assign rfl rfl) rfl rfl rfl (fun _ _ _ => trivial) ?_
  refine z_nil ?_
  refine t_seq ?_
  refine t_region (fun ops hops => ?_)
  clear hops
  refine z_val (v := .int .i64 0) (val_assign rfl rfl) rfl rfl rfl (fun _ _ _ => trivial) ?_
  refine z_nil ?_
  refine t_seq ?_
  refine t_seq ?_
  refine t_region (fun ops hops => ?_)
  clear hops
  refine z_val (v := .pointer (some ⟨g_5, 56, none⟩)) (val_fld0 (sz := 1) rfl rfl Try.underlying33 rfl rfl sz31 (by decide)) rfl rfl rfl (fun _ _ _ => trivial) ?_
  refine z_val (v := .slice A0_1 a0.2.2.2.2.2.2.2.2.2.length c0_2) (val_load1 rfl rfl Try.underlying31 rfl (fun _ hw => hw.cell (j := 0) (q := 56) rfl (cells_skip (n := 20) (k := 36) (cV_len _) (cells_skip (n := 20) (k := 16) (cV_len _) (cells_skip (n := 1) (k := 15) rfl (cells_skip (n := 1) (k := 14) rfl (cells_skip (n := 4) (k := 10) (cV_len _) (cells_skip (n := 1) (k := 9) rfl (cells_skip (n := 1) (k := 8) rfl (cells_skip (n := 4) (k := 4) (cV_len _) (cells_skip (n := 4) (k := 0) (cV_len _) rfl))))))))))) rfl rfl rfl (fun _ _ _ => trivial) ?_
  obtain ⟨x7, hx7, H⟩ := Let_elim H
  refine z_val (v := .int .i64 x7) (by subst hx7; exact val_len rfl rfl rfl Try.underlying31) rfl rfl rfl (fun _ _ _ => trivial) ?_
  clear hx7
  refine z_val (v := .int .i64 0) (val_move rfl rfl) rfl rfl rfl (fun _ _ _ => trivial) ?_
  refine z_nil ?_
  refine t_block ?_
  obtain ⟨z1, hz1, HK1⟩ := Option.bind_eq_some_iff.1 H
  clear H
  refine t_while hz1 (fun (s : (Int) × (Int)) (g : Unit) => [(1, .pointer (some ⟨g_5, 0, none⟩)), (3, .int .i64 s.1), (7, .int .i64 x7), (8, .int .i64 s.2)]) (fun (s : (Int) × (Int)) (g : Unit) => [(1, .pointer (some ⟨g_5, 0, none⟩)), (3, .int .i64 s.1)]) (fun (s : (Int) × (Int)) (g : Unit) => Mm w [] h [.blk g_5 33 (cV U8 a0.1 ++ (cV U8 a0.2.1 ++ ([(.bool a0.2.2.1 : Value)] ++ ([(U64 a0.2.2.2.1 : Value)] ++ (cV U64 a0.2.2.2.2.1 ++ ([(.slice A0 a0.2.2.2.2.2.1.length c0 : Value)] ++ ([(U64 a0.2.2.2.2.2.2.1 : Value)] ++ (cV U64 a0.2.2.2.2.2.2.2.1 ++ (cV U64 a0.2.2.2.2.2.2.2.2.1 ++ ([(.slice A0_1 a0.2.2.2.2.2.2.2.2.2.length c0_2 : Value)])))))))))) 57]) (fun (s : (Int) × (Int)) (g : Unit) => Mm w [] h [.blk g_5 33 (cV U8 a0.1 ++ (cV U8 a0.2.1 ++ ([(.bool a0.2.2.1 : Value)] ++ ([(U64 a0.2.2.2.1 : Value)] ++ (cV U64 a0.2.2.2.2.1 ++ ([(.slice A0 a0.2.2.2.2.2.1.length c0 : Value)] ++ ([(U64 a0.2.2.2.2.2.2.1 : Value)] ++ (cV U64 a0.2.2.2.2.2.2.2.1 ++ (cV U64 a0.2.2.2.2.2.2.2.2.1 ++ ([(.slice A0_1 a0.2.2.2.2.2.2.2.2.2.length c0_2 : Value)])))))))))) 57]) (fun (s : (Int) × (Int)) (g : Unit) => True) (fun (s : (Int) × (Int)) (g : Unit) => True) () trivial (fun a w ha hw => ⟨ha.cons rfl (ha.cons rfl (ha.cons rfl (ha.cons rfl (ha.nil)))), hw⟩) (fun Gn Gb s g e hφ H hn1 hb1 hr1 => ?_) (fun s g hzz hφ => ?_)
  ·
    obtain ⟨x3, x8⟩ := s
    change smithyref19_Intrinsic.b1 x7 a0 x3 x8 = some e at H
    unfold smithyref19_Intrinsic.b1 at H
    clear hz1
    change T 32 _ _ _
    refine t_seq ?_
    refine t_region (fun ops hops => ?_)
    clear hops
    obtain ⟨x9, hx9, H⟩ := Let_elim H
    refine z_val (v := .bool x9) (by subst hx9; exact val_bin rfl rfl rfl rfl (i64_lss _ _ _)) rfl rfl rfl (fun _ _ _ => trivial) ?_
    clear hx9
    refine z_nil ?_
    refine t_seq ?_
    cases x9
    ·
      replace H := cond_f H
      refine t_cond_false rfl ?_
      refine t_exit rfl ?_
      obtain rfl := Option.some.inj H
      exact t_reach ((hb1 _ () rfl trivial).weak (fun a ha => ha.cons rfl (ha.cons rfl (ha.nil))) (fun w hw => hw))
    ·
      replace H := cond_t H
      refine t_cond_true rfl ?_
      refine t_skip ?_
      refine t_seq ?_
      refine t_block ?_
      refine t_seq ?_
      refine t_region (fun ops hops => ?_)
      clear hops
      refine z_val (v := .int .i64 x8) (val_move rfl rfl) rfl rfl rfl (fun _ _ _ => trivial) ?_
      refine z_val (v := .int .i64 x8) (val_assign rfl rfl) rfl rfl rfl (fun _ _ _ => trivial) ?_
      refine z_nil ?_
      refine t_region (fun ops hops => ?_)
      clear hops
      refine z_val (v := .int .i64 x3) (val_move rfl rfl) rfl rfl rfl (fun _ _ _ => trivial) ?_
      refine z_val (v := .pointer (some ⟨g_5, 56, none⟩)) (val_fld0 (sz := 1) rfl rfl Try.underlying33 rfl rfl sz31 (by decide)) rfl rfl rfl (fun _ _ _ => trivial) ?_
      refine z_val (v := .slice A0_1 a0.2.2.2.2.2.2.2.2.2.length c0_2) (val_load1 rfl rfl Try.underlying31 rfl (fun _ hw => hw.cell (j := 0) (q := 56) rfl (cells_skip (n := 20) (k := 36) (cV_len _) (cells_skip (n := 20) (k := 16) (cV_len _) (cells_skip (n := 1) (k := 15) rfl (cells_skip (n := 1) (k := 14) rfl (cells_skip (n := 4) (k := 10) (cV_len _) (cells_skip (n := 1) (k := 9) rfl (cells_skip (n := 1) (k := 8) rfl (cells_skip (n := 4) (k := 4) (cV_len _) (cells_skip (n := 4) (k := 0) (cV_len _) rfl))))))))))) rfl rfl rfl (fun _ _ _ => trivial) ?_
      refine z_val (v := .int .i64 x8) (val_move rfl rfl) rfl rfl rfl (fun _ _ _ => trivial) ?_
      obtain ⟨hq_6, H⟩ := Chk_elim H
      obtain ⟨x15, hx15, H⟩ := Let_elim H
      obtain ⟨b_12, o_13, hA_14, cs, hr, hc_11⟩ := hs0_3.at_ (idx_lt hq_6)
      rw [← hx15] at hr
      clear hx15
      obtain ⟨A_7, c_8, rfl, hs_9, hc_10⟩ := hr
      refine z_val (v := .pointer (some ⟨b_12, o_13 + x8.toNat * 21, none⟩)) (val_idxR rfl rfl rfl Try.underlying31 sz87 hq_6 hA_14 rfl) rfl rfl rfl (fun _ _ _ => trivial) ?_
      refine z_val (v := .pointer (some ⟨b_12, o_13 + x8.toNat * 21 + 20, none⟩)) (val_fldB (sz := 1) rfl rfl Try.underlying87 rfl rfl sz85 (by decide)) rfl rfl rfl (fun _ _ _ => trivial) ?_
      refine z_val (v := .slice A_7 x15.2.length c_8) (val_load1 rfl rfl Try.underlying85 rfl (fun _ hw => cell_of hc_11 (k := 20) (cells_skip (n := 20) (k := 0) (cV_len _) rfl) hw)) rfl rfl rfl (fun _ _ _ => trivial) ?_
      obtain ⟨x18, hx18, H⟩ := Let_elim H
      refine z_val (v := .int .i64 x18) (by subst hx18; exact val_len rfl rfl rfl Try.underlying85) rfl rfl rfl (fun _ _ _ => trivial) ?_
      clear hx18
      obtain ⟨x19, hx19, H⟩ := Let_elim H
      refine z_val (v := .int .i64 x19) (by subst hx19; exact val_bin rfl rfl rfl rfl (i64_add _ _ _)) rfl rfl rfl (fun _ _ _ => trivial) ?_
      clear hx19
      refine z_val (v := .int .i64 x19) (val_assign rfl rfl) rfl rfl rfl (fun _ _ _ => trivial) ?_
      refine z_nil ?_
      refine t_fin ?_
      refine t_region (fun ops hops => ?_)
      clear hops
      obtain ⟨x20, hx20, H⟩ := Let_elim H
      refine z_val (v := .int .i64 x20) (by subst hx20; exact val_bin rfl rfl rfl rfl (i64_add _ _ _)) rfl rfl rfl (fun _ _ _ => trivial) ?_
      clear hx20
      refine z_val (v := .int .i64 x20) (val_move rfl rfl) rfl rfl rfl (fun _ _ _ => trivial) ?_
      refine z_nil ?_
      obtain rfl := Option.some.inj H
      exact t_reach ((hn1 _ () rfl trivial).weak (fun a ha => ha.cons rfl (ha.cons rfl (ha.cons rfl (ha.cons rfl (ha.nil))))) (fun w hw => hw))
  ·
    obtain ⟨x3, x8⟩ := s
    subst hzz
    have H := HK1
    clear HK1 hz1
    replace H := sum_l H
    try dsimp only at H
    change T 32 _ _ _
    refine t_seq ?_
    refine t_region (fun ops hops => ?_)
    clear hops
    refine z_val (v := .pointer (some ⟨g_5, 46, none⟩)) (val_fld0 (sz := 1) rfl rfl Try.underlying33 rfl rfl sz25 (by decide)) rfl rfl rfl (fun _ _ _ => trivial) ?_
    refine z_val (v := .slice A0 a0.2.2.2.2.2.1.length c0) (val_load1 rfl rfl Try.underlying25 rfl (fun _ hw => hw.cell (j := 0) (q := 46) rfl (cells_skip (n := 20) (k := 26) (cV_len _) (cells_skip (n := 20) (k := 6) (cV_len _) (cells_skip (n := 1) (k := 5) rfl (cells_skip (n := 1) (k := 4) rfl (cells_skip (n := 4) (k := 0) (cV_len _) (cells_here (k := 0) rfl)))))))) rfl rfl rfl (fun _ _ _ => trivial) ?_
    refine z_val (v := .pointer (some ⟨g_5, 40, none⟩)) (val_fld0 (sz := 1) rfl rfl Try.underlying33 rfl rfl sz4 (by decide)) rfl rfl rfl (fun _ _ _ => trivial) ?_
    refine z_val (v := .bool a0.2.2.1) (val_load1 rfl rfl Try.underlying4 rfl (fun _ hw => hw.cell (j := 0) (q := 40) rfl (cells_skip (n := 20) (k := 20) (cV_len _) (cells_skip (n := 20) (k := 0) (cV_len _) (cells_here (k := 0) rfl))))) rfl rfl rfl (fun _ _ _ => trivial) ?_
    refine z_val (v := .pointer (some ⟨g_5, 56, none⟩)) (val_fld0 (sz := 1) rfl rfl Try.underlying33 rfl rfl sz31 (by decide)) rfl rfl rfl (fun _ _ _ => trivial) ?_
    refine z_val (v := .slice A0_1 a0.2.2.2.2.2.2.2.2.2.length c0_2) (val_load1 rfl rfl Try.underlying31 rfl (fun _ hw => hw.cell (j := 0) (q := 56) rfl (cells_skip (n := 20) (k := 36) (cV_len _) (cells_skip (n := 20) (k := 16) (cV_len _) (cells_skip (n := 1) (k := 15) rfl (cells_skip (n := 1) (k := 14) rfl (cells_skip (n := 4) (k := 10) (cV_len _) (cells_skip (n := 1) (k := 9) rfl (cells_skip (n := 1) (k := 8) rfl (cells_skip (n := 4) (k := 4) (cV_len _) (cells_skip (n := 4) (k := 0) (cV_len _) rfl))))))))))) rfl rfl rfl (fun _ _ _ => trivial) ?_
    obtain ⟨x27, hx27, H⟩ := Let_elim H
    refine z_val (v := .int .i64 x27) (by subst hx27; exact val_len rfl rfl rfl Try.underlying31) rfl rfl rfl (fun _ _ _ => trivial) ?_
    clear hx27
    obtain ⟨x28, hx28, H⟩ := Let_elim H
    refine z_val (v := U64 x28) (by subst hx28; exact val_conv rfl rfl (fun w => conv_int_u64 w _ _ .i64 _ (by rw [Try.underlying3]; rfl) Try.underlying22)) rfl rfl rfl (fun _ _ _ => trivial) ?_
    clear hx28
    refine z_val (v := .int .i64 x3) (val_move rfl rfl) rfl rfl rfl (fun _ _ _ => trivial) ?_
    obtain ⟨x30, hx30, H⟩ := Let_elim H
    refine z_val (v := U64 x30) (by subst hx30; exact val_conv rfl rfl (fun w => conv_int_u64 w _ _ .i64 _ (by rw [Try.underlying3]; rfl) Try.underlying22)) rfl rfl rfl (fun _ _ _ => trivial) ?_
    clear hx30
    obtain ⟨x31, hx, H⟩ := Option.bind_eq_some_iff.1 H
    refine z_made (v := U64 x31) rfl Try.func51 nm51 bs51 rfl (fun w hw => smithyref12_Intrinsic.calls a0.2.2.2.2.2.1 a0.2.2.1 x28 x30 A0 c0 x31 hx w (hs0.toW hw) hc0) rfl rfl rfl (fun _ _ _ => trivial) ?_
    clear hx
    refine z_val (v := U64 x31) (val_assign rfl rfl) rfl rfl rfl (fun _ _ _ => trivial) ?_
    refine z_nil ?_
    refine t_ret ?_
    obtain rfl := Option.some.inj H
    exact ret1 rfl (res_tmp rfl) (fun _ hw => ⟨rfl, hw.below⟩)
def smithylaw19_fixed  : Option (Bool) :=
  Let ((Vec.rep 4 0#64).set 0 10#64) fun x10 => Let ((Vec.rep 4 0#64).set 0 2#64) fun x11 => Let ((Vec.rep 4 0#64).set 0 5#64) fun x12 => (tx_Cost ((Vec.rep 20 0#8), (Vec.rep 20 0#8), false, 0#64, x12, ([] : List (BitVec 8)), 21000#64, x10, x11, ([] : List ((Vec (BitVec 8) 20) × (List (Vec (BitVec 64) 4)))))).bind fun x16 => Let ((Vec.rep 4 0#64).set 0 7#64) fun x21 => (tx_Price ((Vec.rep 20 0#8), (Vec.rep 20 0#8), false, 0#64, x12, ([] : List (BitVec 8)), 21000#64, x10, x11, ([] : List ((Vec (BitVec 8) 20) × (List (Vec (BitVec 64) 4))))) x21).bind fun x22 => Let ((Vec.rep 4 0#64).set 0 9#64) fun x27 => (tx_Price ((Vec.rep 20 0#8), (Vec.rep 20 0#8), false, 0#64, x12, ([] : List (BitVec 8)), 21000#64, x10, x11, ([] : List ((Vec (BitVec 8) 20) × (List (Vec (BitVec 64) 4))))) x27).bind fun x28 => Let ((Vec.rep 4 0#64).set 0 11#64) fun x33 => (tx_Price ((Vec.rep 20 0#8), (Vec.rep 20 0#8), false, 0#64, x12, ([] : List (BitVec 8)), 21000#64, x10, x11, ([] : List ((Vec (BitVec 8) 20) × (List (Vec (BitVec 64) 4))))) x33).bind fun x34 => (bif x16.2 then Let ((Vec.rep 4 0#64).set 0 210005#64) fun x40 => Let (x16.1.l == x40.l) fun x41 => some x41 else some false).bind (fun x42 => (bif x42 then some x22.2 else some false).bind (fun x45 => (bif x45 then Let ((Vec.rep 4 0#64).set 0 9#64) fun x48 => Let (x22.1.l == x48.l) fun x49 => some x49 else some false).bind (fun x50 => (bif x50 then some x28.2 else some false).bind (fun x53 => (bif x53 then Let ((Vec.rep 4 0#64).set 0 10#64) fun x56 => Let (x28.1.l == x56.l) fun x57 => some x57 else some false).bind (fun x58 => (bif x58 then Let (!x34.2) fun x61 => some x61 else some false).bind (fun x62 => some x62))))))
set_option maxRecDepth 100000 in
theorem smithylaw19_fixed.calls   (r : Bool) (H : smithylaw19_fixed = some r) (w : World)   :
    Made Try.prog 13 #[] w (.bool r) := by
  unfold smithylaw19_fixed at H
  have hM := Mm.start w (snap w) (snap_ok w)
  generalize snap w = h at *
  refine t_enter (vs := []) (n := 63) Try.func13 rfl rfl rfl hM ?_
  clear hM
  change T 63 _ _ _
  refine t_seq ?_
  refine t_region (fun ops hops => ?_)
  clear hops
  refine z_val (v := .bool false) (val_assign rfl rfl) rfl rfl rfl (fun _ _ _ => trivial) ?_
  refine z_nil ?_
  refine t_seq ?_
  refine t_region (fun ops hops => ?_)
  clear hops
  obtain ⟨x10, hx10, H⟩ := Let_elim H
  refine z_val (v := .agg (cV U64 x10).toArray) (by subst hx10; exact val_build (vs := [(0, .int .u64 10)]) rfl rfl (fun w => by kernel_rfl)) rfl rfl rfl (fun _ _ _ => trivial) ?_
  clear hx10
  obtain ⟨x11, hx11, H⟩ := Let_elim H
  refine z_val (v := .agg (cV U64 x11).toArray) (by subst hx11; exact val_build (vs := [(0, .int .u64 2)]) rfl rfl (fun w => by kernel_rfl)) rfl rfl rfl (fun _ _ _ => trivial) ?_
  clear hx11
  obtain ⟨x12, hx12, H⟩ := Let_elim H
  refine z_val (v := .agg (cV U64 x12).toArray) (by subst hx12; exact val_build (vs := [(0, .int .u64 5)]) rfl rfl (fun w => by kernel_rfl)) rfl rfl rfl (fun _ _ _ => trivial) ?_
  clear hx12
  refine z_val (v := .agg (cV U8 (Vec.rep 20 0#8) ++ (cV U8 (Vec.rep 20 0#8) ++ ([(.bool false : Value)] ++ ([(.int .u64 0 : Value)] ++ (cV U64 x12 ++ ([(.slice none ([] : List (BitVec 8)).length 0 : Value)] ++ ([(.int .u64 21000 : Value)] ++ (cV U64 x10 ++ (cV U64 x11 ++ ([(.slice none ([] : List ((Vec (BitVec 8) 20) × (List (Vec (BitVec 64) 4)))).length 0 : Value)])))))))))).toArray) (val_build (vs := [(6, .int .u64 21000), (7, .agg (cV U64 x10).toArray), (8, .agg (cV U64 x11).toArray), (4, .agg (cV U64 x12).toArray)]) rfl rfl (fun w => by rw [cV_lit (f := U64) x10]; rw [cV_lit (f := U64) x11]; rw [cV_lit (f := U64) x12]; kernel_rfl)) rfl rfl rfl (fun _ _ _ => trivial) ?_
  refine z_alloc (cs := cV U8 (Vec.rep 20 0#8) ++ (cV U8 (Vec.rep 20 0#8) ++ ([(.bool false : Value)] ++ ([(.int .u64 0 : Value)] ++ (cV U64 (Vec.rep 4 0#64) ++ ([(.slice none ([] : List (BitVec 8)).length 0 : Value)] ++ ([(.int .u64 0 : Value)] ++ (cV U64 (Vec.rep 4 0#64) ++ (cV U64 (Vec.rep 4 0#64) ++ ([(.slice none ([] : List ((Vec (BitVec 8) 20) × (List (Vec (BitVec 64) 4)))).length 0 : Value)])))))))))) (room := 57) rfl ze33 rfl (by simp [cV_len]) rfl rfl rfl (fun _ _ _ _ => trivial) (fun g_1 => ?_)
  refine z_storeA (j := 0) (cs' := cV U8 (Vec.rep 20 0#8) ++ (cV U8 (Vec.rep 20 0#8) ++ ([(.bool false : Value)] ++ ([(.int .u64 0 : Value)] ++ (cV U64 x12 ++ ([(.slice none ([] : List (BitVec 8)).length 0 : Value)] ++ ([(.int .u64 21000 : Value)] ++ (cV U64 x10 ++ (cV U64 x11 ++ ([(.slice none ([] : List ((Vec (BitVec 8) 20) × (List (Vec (BitVec 64) 4)))).length 0 : Value)])))))))))) (L' := [.blk g_1 33 (cV U8 (Vec.rep 20 0#8) ++ (cV U8 (Vec.rep 20 0#8) ++ ([(.bool false : Value)] ++ ([(.int .u64 0 : Value)] ++ (cV U64 x12 ++ ([(.slice none ([] : List (BitVec 8)).length 0 : Value)] ++ ([(.int .u64 21000 : Value)] ++ (cV U64 x10 ++ (cV U64 x11 ++ ([(.slice none ([] : List ((Vec (BitVec 8) 20) × (List (Vec (BitVec 64) 4)))).length 0 : Value)])))))))))) 57]) rfl rfl rfl (one_app (cV_one (fun _ => rfl) _) (one_app (cV_one (fun _ => rfl) _) (one_app one_one (one_app one_one (one_app (cV_one (fun _ => rfl) _) (one_app one_one (one_app one_one (one_app (cV_one (fun _ => rfl) _) (one_app (cV_one (fun _ => rfl) _) one_one))))))))) sz33 rfl (by simp [cV_len]) rfl rfl rfl (fun _ _ _ => trivial) ?_
  refine z_nil ?_
  refine t_seq ?_
  refine t_region (fun ops hops => ?_)
  clear hops
  refine z_val (v := .agg (cV U8 (Vec.rep 20 0#8) ++ (cV U8 (Vec.rep 20 0#8) ++ ([(.bool false : Value)] ++ ([(.int .u64 0 : Value)] ++ (cV U64 x12 ++ ([(.slice none ([] : List (BitVec 8)).length 0 : Value)] ++ ([(.int .u64 21000 : Value)] ++ (cV U64 x10 ++ (cV U64 x11 ++ ([(.slice none ([] : List ((Vec (BitVec 8) 20) × (List (Vec (BitVec 64) 4)))).length 0 : Value)])))))))))).toArray) (val_loadR (off := 0) (cs := cV U8 (Vec.rep 20 0#8) ++ (cV U8 (Vec.rep 20 0#8) ++ ([(.bool false : Value)] ++ ([(.int .u64 0 : Value)] ++ (cV U64 x12 ++ ([(.slice none ([] : List (BitVec 8)).length 0 : Value)] ++ ([(.int .u64 21000 : Value)] ++ (cV U64 x10 ++ (cV U64 x11 ++ ([(.slice none ([] : List ((Vec (BitVec 8) 20) × (List (Vec (BitVec 64) 4)))).length 0 : Value)])))))))))) rfl rfl Try.underlying33 rfl (sz33.trans (congrArg some (Eq.symm (by simp [cV_len])))) (fun _ hw => hw.whole (j := 0) rfl)) rfl rfl rfl (fun _ _ _ => trivial) ?_
  obtain ⟨x16, hx, H⟩ := Option.bind_eq_some_iff.1 H
  refine z_made (v := .tuple #[.agg (cV U64 x16.1).toArray, .bool x16.2]) rfl Try.func14 nm14 bs14 rfl (fun w hw => tx_Cost.calls ((Vec.rep 20 0#8), (Vec.rep 20 0#8), false, 0#64, x12, ([] : List (BitVec 8)), 21000#64, x10, x11, ([] : List ((Vec (BitVec 8) 20) × (List (Vec (BitVec 64) 4))))) none 0 none 0 x16 hx w ((SlH.nil : SlH _ U8 none (([] : List (BitVec 8)))).toW hw) (Nat.le_refl _) ((SlR.nil : SlR _ R87 none (([] : List ((Vec (BitVec 8) 20) × (List (Vec (BitVec 64) 4)))))).toW hw) (Nat.le_refl _)) rfl rfl rfl (fun _ _ _ => trivial) ?_
  clear hx
  refine z_val (v := .tuple #[.agg (cV U64 x16.1).toArray, .bool x16.2]) (val_move rfl rfl) rfl rfl rfl (fun _ _ _ => trivial) ?_
  refine z_val (v := .agg (cV U64 x16.1).toArray) (val_extract rfl rfl rfl) rfl rfl rfl (fun _ _ _ => trivial) ?_
  refine z_val (v := .bool x16.2) (val_extract rfl rfl rfl) rfl rfl rfl (fun _ _ _ => trivial) ?_
  refine z_alloc (cs := cV U64 (Vec.rep 4 0#64)) (room := 4) rfl ze24 rfl (cV_len _) rfl rfl rfl (fun _ _ _ _ => trivial) (fun g_2 => ?_)
  refine z_storeA (j := 0) (cs' := cV U64 x16.1) (L' := [.blk g_2 24 (cV U64 x16.1) 4, .blk g_1 33 (cV U8 (Vec.rep 20 0#8) ++ (cV U8 (Vec.rep 20 0#8) ++ ([(.bool false : Value)] ++ ([(.int .u64 0 : Value)] ++ (cV U64 x12 ++ ([(.slice none ([] : List (BitVec 8)).length 0 : Value)] ++ ([(.int .u64 21000 : Value)] ++ (cV U64 x10 ++ (cV U64 x11 ++ ([(.slice none ([] : List ((Vec (BitVec 8) 20) × (List (Vec (BitVec 64) 4)))).length 0 : Value)])))))))))) 57]) rfl rfl rfl (cV_one (fun _ => rfl) _) sz24 rfl (cV_len _) rfl rfl rfl (fun _ _ _ => trivial) ?_
  refine z_val (v := .bool x16.2) (val_assign rfl rfl) rfl rfl rfl (fun _ _ _ => trivial) ?_
  refine z_nil ?_
  refine t_seq ?_
  refine t_region (fun ops hops => ?_)
  clear hops
  refine z_val (v := .agg (cV U8 (Vec.rep 20 0#8) ++ (cV U8 (Vec.rep 20 0#8) ++ ([(.bool false : Value)] ++ ([(.int .u64 0 : Value)] ++ (cV U64 x12 ++ ([(.slice none ([] : List (BitVec 8)).length 0 : Value)] ++ ([(.int .u64 21000 : Value)] ++ (cV U64 x10 ++ (cV U64 x11 ++ ([(.slice none ([] : List ((Vec (BitVec 8) 20) × (List (Vec (BitVec 64) 4)))).length 0 : Value)])))))))))).toArray) (val_loadR (off := 0) (cs := cV U8 (Vec.rep 20 0#8) ++ (cV U8 (Vec.rep 20 0#8) ++ ([(.bool false : Value)] ++ ([(.int .u64 0 : Value)] ++ (cV U64 x12 ++ ([(.slice none ([] : List (BitVec 8)).length 0 : Value)] ++ ([(.int .u64 21000 : Value)] ++ (cV U64 x10 ++ (cV U64 x11 ++ ([(.slice none ([] : List ((Vec (BitVec 8) 20) × (List (Vec (BitVec 64) 4)))).length 0 : Value)])))))))))) rfl rfl Try.underlying33 rfl (sz33.trans (congrArg some (Eq.symm (by simp [cV_len])))) (fun _ hw => hw.whole (j := 1) rfl)) rfl rfl rfl (fun _ _ _ => trivial) ?_
  obtain ⟨x21, hx21, H⟩ := Let_elim H
  refine z_val (v := .agg (cV U64 x21).toArray) (by subst hx21; exact val_build (vs := [(0, .int .u64 7)]) rfl rfl (fun w => by kernel_rfl)) rfl rfl rfl (fun _ _ _ => trivial) ?_
  clear hx21
  obtain ⟨x22, hx_3, H⟩ := Option.bind_eq_some_iff.1 H
  refine z_made (v := .tuple #[.agg (cV U64 x22.1).toArray, .bool x22.2]) rfl Try.func19 nm19 bs19 rfl (fun w hw => tx_Price.calls ((Vec.rep 20 0#8), (Vec.rep 20 0#8), false, 0#64, x12, ([] : List (BitVec 8)), 21000#64, x10, x11, ([] : List ((Vec (BitVec 8) 20) × (List (Vec (BitVec 64) 4))))) x21 none 0 none 0 x22 hx_3 w ((SlH.nil : SlH _ U8 none (([] : List (BitVec 8)))).toW hw) (Nat.le_refl _) ((SlR.nil : SlR _ R87 none (([] : List ((Vec (BitVec 8) 20) × (List (Vec (BitVec 64) 4)))))).toW hw) (Nat.le_refl _)) rfl rfl rfl (fun _ _ _ => trivial) ?_
  clear hx_3
  refine z_val (v := .tuple #[.agg (cV U64 x22.1).toArray, .bool x22.2]) (val_move rfl rfl) rfl rfl rfl (fun _ _ _ => trivial) ?_
  refine z_val (v := .agg (cV U64 x22.1).toArray) (val_extract rfl rfl rfl) rfl rfl rfl (fun _ _ _ => trivial) ?_
  refine z_val (v := .bool x22.2) (val_extract rfl rfl rfl) rfl rfl rfl (fun _ _ _ => trivial) ?_
  refine z_alloc (cs := cV U64 (Vec.rep 4 0#64)) (room := 4) rfl ze24 rfl (cV_len _) rfl rfl rfl (fun _ _ _ _ => trivial) (fun g_4 => ?_)
  refine z_storeA (j := 0) (cs' := cV U64 x22.1) (L' := [.blk g_4 24 (cV U64 x22.1) 4, .blk g_2 24 (cV U64 x16.1) 4, .blk g_1 33 (cV U8 (Vec.rep 20 0#8) ++ (cV U8 (Vec.rep 20 0#8) ++ ([(.bool false : Value)] ++ ([(.int .u64 0 : Value)] ++ (cV U64 x12 ++ ([(.slice none ([] : List (BitVec 8)).length 0 : Value)] ++ ([(.int .u64 21000 : Value)] ++ (cV U64 x10 ++ (cV U64 x11 ++ ([(.slice none ([] : List ((Vec (BitVec 8) 20) × (List (Vec (BitVec 64) 4)))).length 0 : Value)])))))))))) 57]) rfl rfl rfl (cV_one (fun _ => rfl) _) sz24 rfl (cV_len _) rfl rfl rfl (fun _ _ _ => trivial) ?_
  refine z_val (v := .bool x22.2) (val_assign rfl rfl) rfl rfl rfl (fun _ _ _ => trivial) ?_
  refine z_nil ?_
  refine t_seq ?_
  refine t_region (fun ops hops => ?_)
  clear hops
  refine z_val (v := .agg (cV U8 (Vec.rep 20 0#8) ++ (cV U8 (Vec.rep 20 0#8) ++ ([(.bool false : Value)] ++ ([(.int .u64 0 : Value)] ++ (cV U64 x12 ++ ([(.slice none ([] : List (BitVec 8)).length 0 : Value)] ++ ([(.int .u64 21000 : Value)] ++ (cV U64 x10 ++ (cV U64 x11 ++ ([(.slice none ([] : List ((Vec (BitVec 8) 20) × (List (Vec (BitVec 64) 4)))).length 0 : Value)])))))))))).toArray) (val_loadR (off := 0) (cs := cV U8 (Vec.rep 20 0#8) ++ (cV U8 (Vec.rep 20 0#8) ++ ([(.bool false : Value)] ++ ([(.int .u64 0 : Value)] ++ (cV U64 x12 ++ ([(.slice none ([] : List (BitVec 8)).length 0 : Value)] ++ ([(.int .u64 21000 : Value)] ++ (cV U64 x10 ++ (cV U64 x11 ++ ([(.slice none ([] : List ((Vec (BitVec 8) 20) × (List (Vec (BitVec 64) 4)))).length 0 : Value)])))))))))) rfl rfl Try.underlying33 rfl (sz33.trans (congrArg some (Eq.symm (by simp [cV_len])))) (fun _ hw => hw.whole (j := 2) rfl)) rfl rfl rfl (fun _ _ _ => trivial) ?_
  obtain ⟨x27, hx27, H⟩ := Let_elim H
  refine z_val (v := .agg (cV U64 x27).toArray) (by subst hx27; exact val_build (vs := [(0, .int .u64 9)]) rfl rfl (fun w => by kernel_rfl)) rfl rfl rfl (fun _ _ _ => trivial) ?_
  clear hx27
  obtain ⟨x28, hx_5, H⟩ := Option.bind_eq_some_iff.1 H
  refine z_made (v := .tuple #[.agg (cV U64 x28.1).toArray, .bool x28.2]) rfl Try.func19 nm19 bs19 rfl (fun w hw => tx_Price.calls ((Vec.rep 20 0#8), (Vec.rep 20 0#8), false, 0#64, x12, ([] : List (BitVec 8)), 21000#64, x10, x11, ([] : List ((Vec (BitVec 8) 20) × (List (Vec (BitVec 64) 4))))) x27 none 0 none 0 x28 hx_5 w ((SlH.nil : SlH _ U8 none (([] : List (BitVec 8)))).toW hw) (Nat.le_refl _) ((SlR.nil : SlR _ R87 none (([] : List ((Vec (BitVec 8) 20) × (List (Vec (BitVec 64) 4)))))).toW hw) (Nat.le_refl _)) rfl rfl rfl (fun _ _ _ => trivial) ?_
  clear hx_5
  refine z_val (v := .tuple #[.agg (cV U64 x28.1).toArray, .bool x28.2]) (val_move rfl rfl) rfl rfl rfl (fun _ _ _ => trivial) ?_
  refine z_val (v := .agg (cV U64 x28.1).toArray) (val_extract rfl rfl rfl) rfl rfl rfl (fun _ _ _ => trivial) ?_
  refine z_val (v := .bool x28.2) (val_extract rfl rfl rfl) rfl rfl rfl (fun _ _ _ => trivial) ?_
  refine z_alloc (cs := cV U64 (Vec.rep 4 0#64)) (room := 4) rfl ze24 rfl (cV_len _) rfl rfl rfl (fun _ _ _ _ => trivial) (fun g_6 => ?_)
  refine z_storeA (j := 0) (cs' := cV U64 x28.1) (L' := [.blk g_6 24 (cV U64 x28.1) 4, .blk g_4 24 (cV U64 x22.1) 4, .blk g_2 24 (cV U64 x16.1) 4, .blk g_1 33 (cV U8 (Vec.rep 20 0#8) ++ (cV U8 (Vec.rep 20 0#8) ++ ([(.bool false : Value)] ++ ([(.int .u64 0 : Value)] ++ (cV U64 x12 ++ ([(.slice none ([] : List (BitVec 8)).length 0 : Value)] ++ ([(.int .u64 21000 : Value)] ++ (cV U64 x10 ++ (cV U64 x11 ++ ([(.slice none ([] : List ((Vec (BitVec 8) 20) × (List (Vec (BitVec 64) 4)))).length 0 : Value)])))))))))) 57]) rfl rfl rfl (cV_one (fun _ => rfl) _) sz24 rfl (cV_len _) rfl rfl rfl (fun _ _ _ => trivial) ?_
  refine z_val (v := .bool x28.2) (val_assign rfl rfl) rfl rfl rfl (fun _ _ _ => trivial) ?_
  refine z_nil ?_
  refine t_seq ?_
  refine t_region (fun ops hops => ?_)
  clear hops
  refine z_val (v := .agg (cV U8 (Vec.rep 20 0#8) ++ (cV U8 (Vec.rep 20 0#8) ++ ([(.bool false : Value)] ++ ([(.int .u64 0 : Value)] ++ (cV U64 x12 ++ ([(.slice none ([] : List (BitVec 8)).length 0 : Value)] ++ ([(.int .u64 21000 : Value)] ++ (cV U64 x10 ++ (cV U64 x11 ++ ([(.slice none ([] : List ((Vec (BitVec 8) 20) × (List (Vec (BitVec 64) 4)))).length 0 : Value)])))))))))).toArray) (val_loadR (off := 0) (cs := cV U8 (Vec.rep 20 0#8) ++ (cV U8 (Vec.rep 20 0#8) ++ ([(.bool false : Value)] ++ ([(.int .u64 0 : Value)] ++ (cV U64 x12 ++ ([(.slice none ([] : List (BitVec 8)).length 0 : Value)] ++ ([(.int .u64 21000 : Value)] ++ (cV U64 x10 ++ (cV U64 x11 ++ ([(.slice none ([] : List ((Vec (BitVec 8) 20) × (List (Vec (BitVec 64) 4)))).length 0 : Value)])))))))))) rfl rfl Try.underlying33 rfl (sz33.trans (congrArg some (Eq.symm (by simp [cV_len])))) (fun _ hw => hw.whole (j := 3) rfl)) rfl rfl rfl (fun _ _ _ => trivial) ?_
  obtain ⟨x33, hx33, H⟩ := Let_elim H
  refine z_val (v := .agg (cV U64 x33).toArray) (by subst hx33; exact val_build (vs := [(0, .int .u64 11)]) rfl rfl (fun w => by kernel_rfl)) rfl rfl rfl (fun _ _ _ => trivial) ?_
  clear hx33
  obtain ⟨x34, hx_7, H⟩ := Option.bind_eq_some_iff.1 H
  refine z_made (v := .tuple #[.agg (cV U64 x34.1).toArray, .bool x34.2]) rfl Try.func19 nm19 bs19 rfl (fun w hw => tx_Price.calls ((Vec.rep 20 0#8), (Vec.rep 20 0#8), false, 0#64, x12, ([] : List (BitVec 8)), 21000#64, x10, x11, ([] : List ((Vec (BitVec 8) 20) × (List (Vec (BitVec 64) 4))))) x33 none 0 none 0 x34 hx_7 w ((SlH.nil : SlH _ U8 none (([] : List (BitVec 8)))).toW hw) (Nat.le_refl _) ((SlR.nil : SlR _ R87 none (([] : List ((Vec (BitVec 8) 20) × (List (Vec (BitVec 64) 4)))))).toW hw) (Nat.le_refl _)) rfl rfl rfl (fun _ _ _ => trivial) ?_
  clear hx_7
  refine z_val (v := .tuple #[.agg (cV U64 x34.1).toArray, .bool x34.2]) (val_move rfl rfl) rfl rfl rfl (fun _ _ _ => trivial) ?_
  refine z_val (v := .agg (cV U64 x34.1).toArray) (val_extract rfl rfl rfl) rfl rfl rfl (fun _ _ _ => trivial) ?_
  refine z_val (v := .bool x34.2) (val_extract rfl rfl rfl) rfl rfl rfl (fun _ _ _ => trivial) ?_
  refine z_alloc (cs := cV U64 (Vec.rep 4 0#64)) (room := 4) rfl ze24 rfl (cV_len _) rfl rfl rfl (fun _ _ _ _ => trivial) (fun g_8 => ?_)
  refine z_storeA (j := 0) (cs' := cV U64 x34.1) (L' := [.blk g_8 24 (cV U64 x34.1) 4, .blk g_6 24 (cV U64 x28.1) 4, .blk g_4 24 (cV U64 x22.1) 4, .blk g_2 24 (cV U64 x16.1) 4, .blk g_1 33 (cV U8 (Vec.rep 20 0#8) ++ (cV U8 (Vec.rep 20 0#8) ++ ([(.bool false : Value)] ++ ([(.int .u64 0 : Value)] ++ (cV U64 x12 ++ ([(.slice none ([] : List (BitVec 8)).length 0 : Value)] ++ ([(.int .u64 21000 : Value)] ++ (cV U64 x10 ++ (cV U64 x11 ++ ([(.slice none ([] : List ((Vec (BitVec 8) 20) × (List (Vec (BitVec 64) 4)))).length 0 : Value)])))))))))) 57]) rfl rfl rfl (cV_one (fun _ => rfl) _) sz24 rfl (cV_len _) rfl rfl rfl (fun _ _ _ => trivial) ?_
  refine z_val (v := .bool x34.2) (val_assign rfl rfl) rfl rfl rfl (fun _ _ _ => trivial) ?_
  refine z_nil ?_
  refine t_seq ?_
  refine t_region (fun ops hops => ?_)
  refine z_val (v := .bool x16.2) (val_move rfl rfl) rfl rfl rfl (fun _ _ _ => trivial) ?_
  refine z_val (v := .bool x16.2) (val_move rfl rfl) rfl rfl rfl (fun _ _ _ => trivial) ?_
  refine z_bind H 4 (fun (s : Bool) (_ : Unit) => [(4, .pointer (some ⟨g_4, 0, none⟩)), (5, .bool x22.2), (6, .pointer (some ⟨g_6, 0, none⟩)), (7, .bool x28.2), (9, .bool x34.2), (42, .bool s)]) (fun _ _ => Mm w [] h [.blk g_8 24 (cV U64 x34.1) 4, .blk g_6 24 (cV U64 x28.1) 4, .blk g_4 24 (cV U64 x22.1) 4, .blk g_2 24 (cV U64 x16.1) 4, .blk g_1 33 (cV U8 (Vec.rep 20 0#8) ++ (cV U8 (Vec.rep 20 0#8) ++ ([(.bool false : Value)] ++ ([(.int .u64 0 : Value)] ++ (cV U64 x12 ++ ([(.slice none ([] : List (BitVec 8)).length 0 : Value)] ++ ([(.int .u64 21000 : Value)] ++ (cV U64 x10 ++ (cV U64 x11 ++ ([(.slice none ([] : List ((Vec (BitVec 8) 20) × (List (Vec (BitVec 64) 4)))).length 0 : Value)])))))))))) 57]) (fun _ _ => True) (fun Gr K s he HJ => ?_) (fun s g HB _ => ?_)
  ·
    clear H
    generalize x16.2 = bb at *
    cases bb
    ·
      have H := cond_f he
      clear he
      refine z_skip rfl rfl (by rw [hops]; rfl) (fun _ _ _ => trivial) ?_
      refine z_skip rfl rfl (by rw [hops]; rfl) (fun _ _ _ => trivial) ?_
      refine z_skip rfl rfl (by rw [hops]; rfl) (fun _ _ _ => trivial) ?_
      refine z_val (v := .bool false) (val_pick rfl rfl rfl) rfl rfl rfl (fun _ _ _ => trivial) ?_
      obtain rfl := Option.some.inj H
      exact z_nil ((K _ () HJ trivial).weak (fun a ha => ha.cons rfl (ha.cons rfl (ha.cons rfl (ha.cons rfl (ha.cons rfl (ha.cons rfl (ha.nil))))))) (fun w hw => hw))
    ·
      have H := cond_t he
      clear he
      refine z_val (v := .agg (cV U64 x16.1).toArray) (val_loadR (off := 0) (cs := cV U64 x16.1) rfl rfl Try.underlying24 rfl (sz24.trans (congrArg some (cV_len _).symm)) (fun _ hw => hw.whole (j := 3) rfl)) rfl rfl (by rw [hops]; rfl) (fun _ _ _ => trivial) ?_
      obtain ⟨x40, hx40, H⟩ := Let_elim H
      refine z_val (v := .agg (cV U64 x40).toArray) (by subst hx40; exact val_build (vs := [(0, .int .u64 210005)]) rfl rfl (fun w => by kernel_rfl)) rfl rfl (by rw [hops]; rfl) (fun _ _ _ => trivial) ?_
      clear hx40
      obtain ⟨x41, hx41, H⟩ := Let_elim H
      refine z_val (v := .bool x41) (by subst hx41; exact val_bina rfl rfl rfl eg24 (fun w => vec_eql U64_inj (P := Try.prog) Try.underlying24 pk22 Try.underlying22 ce22 w _ _)) rfl rfl (by rw [hops]; rfl) (fun _ _ _ => trivial) ?_
      clear hx41
      refine z_val (v := .bool x41) (val_pick rfl rfl rfl) rfl rfl rfl (fun _ _ _ => trivial) ?_
      obtain rfl := Option.some.inj H
      exact z_nil ((K _ () HJ trivial).weak (fun a ha => ha.cons rfl (ha.cons rfl (ha.cons rfl (ha.cons rfl (ha.cons rfl (ha.cons rfl (ha.nil))))))) (fun w hw => hw))
  ·
    replace H := HB
    clear HB
    obtain ⟨x42, rfl⟩ : ∃ x, x = s := ⟨_, rfl⟩
    change T 63 _ _ _
    refine z_val (v := .bool x42) (val_move rfl rfl) rfl rfl rfl (fun _ _ _ => trivial) ?_
    refine z_bind H 2 (fun (s : Bool) (_ : Unit) => [(4, .pointer (some ⟨g_4, 0, none⟩)), (6, .pointer (some ⟨g_6, 0, none⟩)), (7, .bool x28.2), (9, .bool x34.2), (45, .bool s)]) (fun _ _ => Mm w [] h [.blk g_8 24 (cV U64 x34.1) 4, .blk g_6 24 (cV U64 x28.1) 4, .blk g_4 24 (cV U64 x22.1) 4, .blk g_2 24 (cV U64 x16.1) 4, .blk g_1 33 (cV U8 (Vec.rep 20 0#8) ++ (cV U8 (Vec.rep 20 0#8) ++ ([(.bool false : Value)] ++ ([(.int .u64 0 : Value)] ++ (cV U64 x12 ++ ([(.slice none ([] : List (BitVec 8)).length 0 : Value)] ++ ([(.int .u64 21000 : Value)] ++ (cV U64 x10 ++ (cV U64 x11 ++ ([(.slice none ([] : List ((Vec (BitVec 8) 20) × (List (Vec (BitVec 64) 4)))).length 0 : Value)])))))))))) 57]) (fun _ _ => True) (fun Gr K s he HJ => ?_) (fun s g HB _ => ?_)
    ·
      clear H
      cases x42
      ·
        have H := cond_f he
        clear he
        refine z_skip rfl rfl (by rw [hops]; rfl) (fun _ _ _ => trivial) ?_
        refine z_val (v := .bool false) (val_pick rfl rfl rfl) rfl rfl rfl (fun _ _ _ => trivial) ?_
        obtain rfl := Option.some.inj H
        exact z_nil ((K _ () HJ trivial).weak (fun a ha => ha.cons rfl (ha.cons rfl (ha.cons rfl (ha.cons rfl (ha.cons rfl (ha.nil)))))) (fun w hw => hw))
      ·
        have H := cond_t he
        clear he
        refine z_val (v := .bool x22.2) (val_move rfl rfl) rfl rfl (by rw [hops]; rfl) (fun _ _ _ => trivial) ?_
        refine z_val (v := .bool x22.2) (val_pick rfl rfl rfl) rfl rfl rfl (fun _ _ _ => trivial) ?_
        obtain rfl := Option.some.inj H
        exact z_nil ((K _ () HJ trivial).weak (fun a ha => ha.cons rfl (ha.cons rfl (ha.cons rfl (ha.cons rfl (ha.cons rfl (ha.nil)))))) (fun w hw => hw))
    ·
      replace H := HB
      clear HB
      obtain ⟨x45, rfl⟩ : ∃ x, x = s := ⟨_, rfl⟩
      change T 63 _ _ _
      refine z_val (v := .bool x45) (val_move rfl rfl) rfl rfl rfl (fun _ _ _ => trivial) ?_
      refine z_bind H 4 (fun (s : Bool) (_ : Unit) => [(6, .pointer (some ⟨g_6, 0, none⟩)), (7, .bool x28.2), (9, .bool x34.2), (50, .bool s)]) (fun _ _ => Mm w [] h [.blk g_8 24 (cV U64 x34.1) 4, .blk g_6 24 (cV U64 x28.1) 4, .blk g_4 24 (cV U64 x22.1) 4, .blk g_2 24 (cV U64 x16.1) 4, .blk g_1 33 (cV U8 (Vec.rep 20 0#8) ++ (cV U8 (Vec.rep 20 0#8) ++ ([(.bool false : Value)] ++ ([(.int .u64 0 : Value)] ++ (cV U64 x12 ++ ([(.slice none ([] : List (BitVec 8)).length 0 : Value)] ++ ([(.int .u64 21000 : Value)] ++ (cV U64 x10 ++ (cV U64 x11 ++ ([(.slice none ([] : List ((Vec (BitVec 8) 20) × (List (Vec (BitVec 64) 4)))).length 0 : Value)])))))))))) 57]) (fun _ _ => True) (fun Gr K s he HJ => ?_) (fun s g HB _ => ?_)
      ·
        clear H
        cases x45
        ·
          have H := cond_f he
          clear he
          refine z_skip rfl rfl (by rw [hops]; rfl) (fun _ _ _ => trivial) ?_
          refine z_skip rfl rfl (by rw [hops]; rfl) (fun _ _ _ => trivial) ?_
          refine z_skip rfl rfl (by rw [hops]; rfl) (fun _ _ _ => trivial) ?_
          refine z_val (v := .bool false) (val_pick rfl rfl rfl) rfl rfl rfl (fun _ _ _ => trivial) ?_
          obtain rfl := Option.some.inj H
          exact z_nil ((K _ () HJ trivial).weak (fun a ha => ha.cons rfl (ha.cons rfl (ha.cons rfl (ha.cons rfl (ha.nil))))) (fun w hw => hw))
        ·
          have H := cond_t he
          clear he
          refine z_val (v := .agg (cV U64 x22.1).toArray) (val_loadR (off := 0) (cs := cV U64 x22.1) rfl rfl Try.underlying24 rfl (sz24.trans (congrArg some (cV_len _).symm)) (fun _ hw => hw.whole (j := 2) rfl)) rfl rfl (by rw [hops]; rfl) (fun _ _ _ => trivial) ?_
          obtain ⟨x48, hx48, H⟩ := Let_elim H
          refine z_val (v := .agg (cV U64 x48).toArray) (by subst hx48; exact val_build (vs := [(0, .int .u64 9)]) rfl rfl (fun w => by kernel_rfl)) rfl rfl (by rw [hops]; rfl) (fun _ _ _ => trivial) ?_
          clear hx48
          obtain ⟨x49, hx49, H⟩ := Let_elim H
          refine z_val (v := .bool x49) (by subst hx49; exact val_bina rfl rfl rfl eg24 (fun w => vec_eql U64_inj (P := Try.prog) Try.underlying24 pk22 Try.underlying22 ce22 w _ _)) rfl rfl (by rw [hops]; rfl) (fun _ _ _ => trivial) ?_
          clear hx49
          refine z_val (v := .bool x49) (val_pick rfl rfl rfl) rfl rfl rfl (fun _ _ _ => trivial) ?_
          obtain rfl := Option.some.inj H
          exact z_nil ((K _ () HJ trivial).weak (fun a ha => ha.cons rfl (ha.cons rfl (ha.cons rfl (ha.cons rfl (ha.nil))))) (fun w hw => hw))
      ·
        replace H := HB
        clear HB
        obtain ⟨x50, rfl⟩ : ∃ x, x = s := ⟨_, rfl⟩
        change T 63 _ _ _
        refine z_val (v := .bool x50) (val_move rfl rfl) rfl rfl rfl (fun _ _ _ => trivial) ?_
        refine z_bind H 2 (fun (s : Bool) (_ : Unit) => [(6, .pointer (some ⟨g_6, 0, none⟩)), (9, .bool x34.2), (53, .bool s)]) (fun _ _ => Mm w [] h [.blk g_8 24 (cV U64 x34.1) 4, .blk g_6 24 (cV U64 x28.1) 4, .blk g_4 24 (cV U64 x22.1) 4, .blk g_2 24 (cV U64 x16.1) 4, .blk g_1 33 (cV U8 (Vec.rep 20 0#8) ++ (cV U8 (Vec.rep 20 0#8) ++ ([(.bool false : Value)] ++ ([(.int .u64 0 : Value)] ++ (cV U64 x12 ++ ([(.slice none ([] : List (BitVec 8)).length 0 : Value)] ++ ([(.int .u64 21000 : Value)] ++ (cV U64 x10 ++ (cV U64 x11 ++ ([(.slice none ([] : List ((Vec (BitVec 8) 20) × (List (Vec (BitVec 64) 4)))).length 0 : Value)])))))))))) 57]) (fun _ _ => True) (fun Gr K s he HJ => ?_) (fun s g HB _ => ?_)
        ·
          clear H
          cases x50
          ·
            have H := cond_f he
            clear he
            refine z_skip rfl rfl (by rw [hops]; rfl) (fun _ _ _ => trivial) ?_
            refine z_val (v := .bool false) (val_pick rfl rfl rfl) rfl rfl rfl (fun _ _ _ => trivial) ?_
            obtain rfl := Option.some.inj H
            exact z_nil ((K _ () HJ trivial).weak (fun a ha => ha.cons rfl (ha.cons rfl (ha.cons rfl (ha.nil)))) (fun w hw => hw))
          ·
            have H := cond_t he
            clear he
            refine z_val (v := .bool x28.2) (val_move rfl rfl) rfl rfl (by rw [hops]; rfl) (fun _ _ _ => trivial) ?_
            refine z_val (v := .bool x28.2) (val_pick rfl rfl rfl) rfl rfl rfl (fun _ _ _ => trivial) ?_
            obtain rfl := Option.some.inj H
            exact z_nil ((K _ () HJ trivial).weak (fun a ha => ha.cons rfl (ha.cons rfl (ha.cons rfl (ha.nil)))) (fun w hw => hw))
        ·
          replace H := HB
          clear HB
          obtain ⟨x53, rfl⟩ : ∃ x, x = s := ⟨_, rfl⟩
          change T 63 _ _ _
          refine z_val (v := .bool x53) (val_move rfl rfl) rfl rfl rfl (fun _ _ _ => trivial) ?_
          refine z_bind H 4 (fun (s : Bool) (_ : Unit) => [(9, .bool x34.2), (58, .bool s)]) (fun _ _ => Mm w [] h [.blk g_8 24 (cV U64 x34.1) 4, .blk g_6 24 (cV U64 x28.1) 4, .blk g_4 24 (cV U64 x22.1) 4, .blk g_2 24 (cV U64 x16.1) 4, .blk g_1 33 (cV U8 (Vec.rep 20 0#8) ++ (cV U8 (Vec.rep 20 0#8) ++ ([(.bool false : Value)] ++ ([(.int .u64 0 : Value)] ++ (cV U64 x12 ++ ([(.slice none ([] : List (BitVec 8)).length 0 : Value)] ++ ([(.int .u64 21000 : Value)] ++ (cV U64 x10 ++ (cV U64 x11 ++ ([(.slice none ([] : List ((Vec (BitVec 8) 20) × (List (Vec (BitVec 64) 4)))).length 0 : Value)])))))))))) 57]) (fun _ _ => True) (fun Gr K s he HJ => ?_) (fun s g HB _ => ?_)
          ·
            clear H
            cases x53
            ·
              have H := cond_f he
              clear he
              refine z_skip rfl rfl (by rw [hops]; rfl) (fun _ _ _ => trivial) ?_
              refine z_skip rfl rfl (by rw [hops]; rfl) (fun _ _ _ => trivial) ?_
              refine z_skip rfl rfl (by rw [hops]; rfl) (fun _ _ _ => trivial) ?_
              refine z_val (v := .bool false) (val_pick rfl rfl rfl) rfl rfl rfl (fun _ _ _ => trivial) ?_
              obtain rfl := Option.some.inj H
              exact z_nil ((K _ () HJ trivial).weak (fun a ha => ha.cons rfl (ha.cons rfl (ha.nil))) (fun w hw => hw))
            ·
              have H := cond_t he
              clear he
              refine z_val (v := .agg (cV U64 x28.1).toArray) (val_loadR (off := 0) (cs := cV U64 x28.1) rfl rfl Try.underlying24 rfl (sz24.trans (congrArg some (cV_len _).symm)) (fun _ hw => hw.whole (j := 1) rfl)) rfl rfl (by rw [hops]; rfl) (fun _ _ _ => trivial) ?_
              obtain ⟨x56, hx56, H⟩ := Let_elim H
              refine z_val (v := .agg (cV U64 x56).toArray) (by subst hx56; exact val_build (vs := [(0, .int .u64 10)]) rfl rfl (fun w => by kernel_rfl)) rfl rfl (by rw [hops]; rfl) (fun _ _ _ => trivial) ?_
              clear hx56
              obtain ⟨x57, hx57, H⟩ := Let_elim H
              refine z_val (v := .bool x57) (by subst hx57; exact val_bina rfl rfl rfl eg24 (fun w => vec_eql U64_inj (P := Try.prog) Try.underlying24 pk22 Try.underlying22 ce22 w _ _)) rfl rfl (by rw [hops]; rfl) (fun _ _ _ => trivial) ?_
              clear hx57
              refine z_val (v := .bool x57) (val_pick rfl rfl rfl) rfl rfl rfl (fun _ _ _ => trivial) ?_
              obtain rfl := Option.some.inj H
              exact z_nil ((K _ () HJ trivial).weak (fun a ha => ha.cons rfl (ha.cons rfl (ha.nil))) (fun w hw => hw))
          ·
            replace H := HB
            clear HB
            obtain ⟨x58, rfl⟩ : ∃ x, x = s := ⟨_, rfl⟩
            change T 63 _ _ _
            refine z_val (v := .bool x58) (val_move rfl rfl) rfl rfl rfl (fun _ _ _ => trivial) ?_
            refine z_bind H 3 (fun (s : Bool) (_ : Unit) => [(62, .bool s)]) (fun _ _ => Mm w [] h [.blk g_8 24 (cV U64 x34.1) 4, .blk g_6 24 (cV U64 x28.1) 4, .blk g_4 24 (cV U64 x22.1) 4, .blk g_2 24 (cV U64 x16.1) 4, .blk g_1 33 (cV U8 (Vec.rep 20 0#8) ++ (cV U8 (Vec.rep 20 0#8) ++ ([(.bool false : Value)] ++ ([(.int .u64 0 : Value)] ++ (cV U64 x12 ++ ([(.slice none ([] : List (BitVec 8)).length 0 : Value)] ++ ([(.int .u64 21000 : Value)] ++ (cV U64 x10 ++ (cV U64 x11 ++ ([(.slice none ([] : List ((Vec (BitVec 8) 20) × (List (Vec (BitVec 64) 4)))).length 0 : Value)])))))))))) 57]) (fun _ _ => True) (fun Gr K s he HJ => ?_) (fun s g HB _ => ?_)
            ·
              clear H
              cases x58
              ·
                have H := cond_f he
                clear he
                refine z_skip rfl rfl (by rw [hops]; rfl) (fun _ _ _ => trivial) ?_
                refine z_skip rfl rfl (by rw [hops]; rfl) (fun _ _ _ => trivial) ?_
                refine z_val (v := .bool false) (val_pick rfl rfl rfl) rfl rfl rfl (fun _ _ _ => trivial) ?_
                obtain rfl := Option.some.inj H
                exact z_nil ((K _ () HJ trivial).weak (fun a ha => ha.cons rfl (ha.nil)) (fun w hw => hw))
              ·
                have H := cond_t he
                clear he
                refine z_val (v := .bool x34.2) (val_move rfl rfl) rfl rfl (by rw [hops]; rfl) (fun _ _ _ => trivial) ?_
                obtain ⟨x61, hx61, H⟩ := Let_elim H
                refine z_val (v := .bool x61) (by subst hx61; exact val_un rfl rfl (bool_not _)) rfl rfl (by rw [hops]; rfl) (fun _ _ _ => trivial) ?_
                clear hx61
                refine z_val (v := .bool x61) (val_pick rfl rfl rfl) rfl rfl rfl (fun _ _ _ => trivial) ?_
                obtain rfl := Option.some.inj H
                exact z_nil ((K _ () HJ trivial).weak (fun a ha => ha.cons rfl (ha.nil)) (fun w hw => hw))
            ·
              replace H := HB
              clear HB
              obtain ⟨x62, rfl⟩ : ∃ x, x = s := ⟨_, rfl⟩
              change T 63 _ _ _
              refine z_val (v := .bool x62) (val_assign rfl rfl) rfl rfl rfl (fun _ _ _ => trivial) ?_
              refine z_nil ?_
              refine t_ret ?_
              obtain rfl := Option.some.inj H
              exact ret1 rfl (res_tmp rfl) (fun _ hw => ⟨rfl, hw.below⟩)
def smithylaw19_TxPrices (a0 : (Vec (BitVec 8) 20) × (Vec (BitVec 8) 20) × (Bool) × (BitVec 64) × (Vec (BitVec 64) 4) × (List (BitVec 8)) × (BitVec 64) × (Vec (BitVec 64) 4) × (Vec (BitVec 64) 4) × (List ((Vec (BitVec 8) 20) × (List (Vec (BitVec 64) 4))))) (a1 : Vec (BitVec 64) 4) : Option (Bool) :=
  (smithyref19_Great (a0.1, a0.2.1, a0.2.2.1, a0.2.2.2.1, a0.2.2.2.2.1, a0.2.2.2.2.2.1, a0.2.2.2.2.2.2.1, a0.2.2.2.2.2.2.2.1, a0.2.2.2.2.2.2.2.2.1, a0.2.2.2.2.2.2.2.2.2)).bind fun x14 => (bif x14 then (smithylaw19_fixed).bind fun x15 => some x15 else (tx_Cost (a0.1, a0.2.1, a0.2.2.1, a0.2.2.2.1, a0.2.2.2.2.1, a0.2.2.2.2.2.1, a0.2.2.2.2.2.2.1, a0.2.2.2.2.2.2.2.1, a0.2.2.2.2.2.2.2.2.1, a0.2.2.2.2.2.2.2.2.2)).bind fun x18 => (smithyref19_Cost (a0.1, a0.2.1, a0.2.2.1, a0.2.2.2.1, a0.2.2.2.2.1, a0.2.2.2.2.2.1, a0.2.2.2.2.2.2.1, a0.2.2.2.2.2.2.2.1, a0.2.2.2.2.2.2.2.2.1, a0.2.2.2.2.2.2.2.2.2)).bind fun x22 => (smithyref02_N_High x22).bind fun x24 => (smithyref02_Zero x24).bind fun x25 => Let (x18.2 != x25) fun x28 => (bif x28 then some true else (bif x25 then (smithyref02_N_Word x22).bind fun x34 => Let (x18.1.l != x34.l) fun x35 => some x35 else some false).bind (fun x36 => some x36)).bind (fun x37 => (bif x37 then some true else Let (!x25) fun x40 => (bif x40 then Let (Vec.rep 4 0#64) fun x43 => Let (x18.1.l != x43.l) fun x44 => some x44 else some false).bind (fun x45 => some x45)).bind (fun x46 => (bif x46 then some false else (tx_Price (a0.1, a0.2.1, a0.2.2.1, a0.2.2.2.1, a0.2.2.2.2.1, a0.2.2.2.2.2.1, a0.2.2.2.2.2.2.1, a0.2.2.2.2.2.2.2.1, a0.2.2.2.2.2.2.2.2.1, a0.2.2.2.2.2.2.2.2.2) a1).bind fun x50 => (smithyref19_Price (a0.1, a0.2.1, a0.2.2.1, a0.2.2.2.1, a0.2.2.2.2.1, a0.2.2.2.2.2.1, a0.2.2.2.2.2.2.1, a0.2.2.2.2.2.2.2.1, a0.2.2.2.2.2.2.2.2.1, a0.2.2.2.2.2.2.2.2.2) a1).bind fun x56 => (smithylaw19_fixed).bind fun x59 => (bif x59 then Let (x50.1.l == x56.1.l) fun x63 => some x63 else some false).bind (fun x64 => (bif x64 then Let (x50.2 == x56.2) fun x68 => some x68 else some false).bind (fun x69 => (bif x69 then (tx_Intrinsic (a0.1, a0.2.1, a0.2.2.1, a0.2.2.2.1, a0.2.2.2.2.1, a0.2.2.2.2.2.1, a0.2.2.2.2.2.2.1, a0.2.2.2.2.2.2.2.1, a0.2.2.2.2.2.2.2.2.1, a0.2.2.2.2.2.2.2.2.2)).bind fun x72 => (smithyref19_Intrinsic (a0.1, a0.2.1, a0.2.2.1, a0.2.2.2.1, a0.2.2.2.2.1, a0.2.2.2.2.2.1, a0.2.2.2.2.2.2.1, a0.2.2.2.2.2.2.2.1, a0.2.2.2.2.2.2.2.2.1, a0.2.2.2.2.2.2.2.2.2)).bind fun x74 => Let (x72 == x74) fun x75 => some x75 else some false).bind (fun x76 => some x76)))))))
set_option maxRecDepth 100000 in
theorem smithylaw19_TxPrices.calls  (a0 : (Vec (BitVec 8) 20) × (Vec (BitVec 8) 20) × (Bool) × (BitVec 64) × (Vec (BitVec 64) 4) × (List (BitVec 8)) × (BitVec 64) × (Vec (BitVec 64) 4) × (Vec (BitVec 64) 4) × (List ((Vec (BitVec 8) 20) × (List (Vec (BitVec 64) 4))))) (a1 : Vec (BitVec 64) 4) (A0 : Option Addr) (c0 : Nat) (A0_1 : Option Addr) (c0_2 : Nat) (r : Bool) (H : smithylaw19_TxPrices a0 a1 = some r) (w : World) (hs0 : SlW w U8 A0 a0.2.2.2.2.2.1) (hc0 : a0.2.2.2.2.2.1.length ≤ c0) (hs0_3 : SlRW w R87 A0_1 a0.2.2.2.2.2.2.2.2.2) (hc0_4 : a0.2.2.2.2.2.2.2.2.2.length ≤ c0_2)  :
    Made Try.prog 4 #[.agg (cV U8 a0.1 ++ (cV U8 a0.2.1 ++ ([(.bool a0.2.2.1 : Value)] ++ ([(U64 a0.2.2.2.1 : Value)] ++ (cV U64 a0.2.2.2.2.1 ++ ([(.slice A0 a0.2.2.2.2.2.1.length c0 : Value)] ++ ([(U64 a0.2.2.2.2.2.2.1 : Value)] ++ (cV U64 a0.2.2.2.2.2.2.2.1 ++ (cV U64 a0.2.2.2.2.2.2.2.2.1 ++ ([(.slice A0_1 a0.2.2.2.2.2.2.2.2.2.length c0_2 : Value)])))))))))).toArray, .agg (cV U64 a1).toArray] w (.bool r) := by
  unfold smithylaw19_TxPrices at H
  replace hs0 := hs0.toH
  replace hs0_3 := hs0_3.toH
  have hM := Mm.start w (snap w) (snap_ok w)
  generalize snap w = h at *
  refine t_enter (vs := [.agg (cV U8 a0.1 ++ (cV U8 a0.2.1 ++ ([(.bool a0.2.2.1 : Value)] ++ ([(U64 a0.2.2.2.1 : Value)] ++ (cV U64 a0.2.2.2.2.1 ++ ([(.slice A0 a0.2.2.2.2.2.1.length c0 : Value)] ++ ([(U64 a0.2.2.2.2.2.2.1 : Value)] ++ (cV U64 a0.2.2.2.2.2.2.2.1 ++ (cV U64 a0.2.2.2.2.2.2.2.2.1 ++ ([(.slice A0_1 a0.2.2.2.2.2.2.2.2.2.length c0_2 : Value)])))))))))).toArray, .agg (cV U64 a1).toArray]) (n := 77) Try.func4 rfl rfl rfl hM ?_
  clear hM
  change T 77 _ _ _
  refine t_seq ?_
  refine t_region (fun ops hops => ?_)
  clear hops
  refine z_box (cs := cV U8 a0.1 ++ (cV U8 a0.2.1 ++ ([(.bool a0.2.2.1 : Value)] ++ ([(U64 a0.2.2.2.1 : Value)] ++ (cV U64 a0.2.2.2.2.1 ++ ([(.slice A0 a0.2.2.2.2.2.1.length c0 : Value)] ++ ([(U64 a0.2.2.2.2.2.2.1 : Value)] ++ (cV U64 a0.2.2.2.2.2.2.2.1 ++ (cV U64 a0.2.2.2.2.2.2.2.2.1 ++ ([(.slice A0_1 a0.2.2.2.2.2.2.2.2.2.length c0_2 : Value)])))))))))) (room := 57) rfl rfl rfl (by simp [cV_len]) rfl rfl rfl (fun _ _ _ _ => trivial) (fun g_5 => ?_)
  refine z_box (cs := cV U64 a1) (room := 4) rfl rfl rfl (cV_len _) rfl rfl rfl (fun _ _ _ _ => trivial) (fun g_6 => ?_)
  refine z_val (v := .bool false) (val_assign rfl rfl) rfl rfl rfl (fun _ _ _ => trivial) ?_
  refine z_nil ?_
  refine t_seq ?_
  refine t_seq ?_
  refine t_region (fun ops hops => ?_)
  clear hops
  refine z_val (v := .agg (cV U8 a0.1 ++ (cV U8 a0.2.1 ++ ([(.bool a0.2.2.1 : Value)] ++ ([(U64 a0.2.2.2.1 : Value)] ++ (cV U64 a0.2.2.2.2.1 ++ ([(.slice A0 a0.2.2.2.2.2.1.length c0 : Value)] ++ ([(U64 a0.2.2.2.2.2.2.1 : Value)] ++ (cV U64 a0.2.2.2.2.2.2.2.1 ++ (cV U64 a0.2.2.2.2.2.2.2.2.1 ++ ([(.slice A0_1 a0.2.2.2.2.2.2.2.2.2.length c0_2 : Value)])))))))))).toArray) (val_loadR (off := 0) (cs := cV U8 a0.1 ++ (cV U8 a0.2.1 ++ ([(.bool a0.2.2.1 : Value)] ++ ([(U64 a0.2.2.2.1 : Value)] ++ (cV U64 a0.2.2.2.2.1 ++ ([(.slice A0 a0.2.2.2.2.2.1.length c0 : Value)] ++ ([(U64 a0.2.2.2.2.2.2.1 : Value)] ++ (cV U64 a0.2.2.2.2.2.2.2.1 ++ (cV U64 a0.2.2.2.2.2.2.2.2.1 ++ ([(.slice A0_1 a0.2.2.2.2.2.2.2.2.2.length c0_2 : Value)])))))))))) rfl rfl Try.underlying33 rfl (sz33.trans (congrArg some (Eq.symm (by simp [cV_len])))) (fun _ hw => hw.whole (j := 1) rfl)) rfl rfl rfl (fun _ _ _ => trivial) ?_
  obtain ⟨x14, hx, H⟩ := Option.bind_eq_some_iff.1 H
  refine z_made (v := .bool x14) rfl Try.func12 nm12 bs12 rfl (fun w hw => smithyref19_Great.calls (a0.1, a0.2.1, a0.2.2.1, a0.2.2.2.1, a0.2.2.2.2.1, a0.2.2.2.2.2.1, a0.2.2.2.2.2.2.1, a0.2.2.2.2.2.2.2.1, a0.2.2.2.2.2.2.2.2.1, a0.2.2.2.2.2.2.2.2.2) A0 c0 A0_1 c0_2 x14 hx w (hs0.toW hw) hc0 (hs0_3.toW hw) hc0_4) rfl rfl rfl (fun _ _ _ => trivial) ?_
  clear hx
  refine z_nil ?_
  cases x14
  ·
    replace H := cond_f H
    refine t_cond_false rfl ?_
    refine t_skip ?_
    refine t_seq ?_
    refine t_region (fun ops hops => ?_)
    clear hops
    refine z_val (v := .agg (cV U8 a0.1 ++ (cV U8 a0.2.1 ++ ([(.bool a0.2.2.1 : Value)] ++ ([(U64 a0.2.2.2.1 : Value)] ++ (cV U64 a0.2.2.2.2.1 ++ ([(.slice A0 a0.2.2.2.2.2.1.length c0 : Value)] ++ ([(U64 a0.2.2.2.2.2.2.1 : Value)] ++ (cV U64 a0.2.2.2.2.2.2.2.1 ++ (cV U64 a0.2.2.2.2.2.2.2.2.1 ++ ([(.slice A0_1 a0.2.2.2.2.2.2.2.2.2.length c0_2 : Value)])))))))))).toArray) (val_loadR (off := 0) (cs := cV U8 a0.1 ++ (cV U8 a0.2.1 ++ ([(.bool a0.2.2.1 : Value)] ++ ([(U64 a0.2.2.2.1 : Value)] ++ (cV U64 a0.2.2.2.2.1 ++ ([(.slice A0 a0.2.2.2.2.2.1.length c0 : Value)] ++ ([(U64 a0.2.2.2.2.2.2.1 : Value)] ++ (cV U64 a0.2.2.2.2.2.2.2.1 ++ (cV U64 a0.2.2.2.2.2.2.2.2.1 ++ ([(.slice A0_1 a0.2.2.2.2.2.2.2.2.2.length c0_2 : Value)])))))))))) rfl rfl Try.underlying33 rfl (sz33.trans (congrArg some (Eq.symm (by simp [cV_len])))) (fun _ hw => hw.whole (j := 1) rfl)) rfl rfl rfl (fun _ _ _ => trivial) ?_
    obtain ⟨x18, hx_7, H⟩ := Option.bind_eq_some_iff.1 H
    refine z_made (v := .tuple #[.agg (cV U64 x18.1).toArray, .bool x18.2]) rfl Try.func14 nm14 bs14 rfl (fun w hw => tx_Cost.calls (a0.1, a0.2.1, a0.2.2.1, a0.2.2.2.1, a0.2.2.2.2.1, a0.2.2.2.2.2.1, a0.2.2.2.2.2.2.1, a0.2.2.2.2.2.2.2.1, a0.2.2.2.2.2.2.2.2.1, a0.2.2.2.2.2.2.2.2.2) A0 c0 A0_1 c0_2 x18 hx_7 w (hs0.toW hw) hc0 (hs0_3.toW hw) hc0_4) rfl rfl rfl (fun _ _ _ => trivial) ?_
    clear hx_7
    refine z_val (v := .tuple #[.agg (cV U64 x18.1).toArray, .bool x18.2]) (val_move rfl rfl) rfl rfl rfl (fun _ _ _ => trivial) ?_
    refine z_val (v := .agg (cV U64 x18.1).toArray) (val_extract rfl rfl rfl) rfl rfl rfl (fun _ _ _ => trivial) ?_
    refine z_val (v := .bool x18.2) (val_extract rfl rfl rfl) rfl rfl rfl (fun _ _ _ => trivial) ?_
    refine z_alloc (cs := cV U64 (Vec.rep 4 0#64)) (room := 4) rfl ze24 rfl (cV_len _) rfl rfl rfl (fun _ _ _ _ => trivial) (fun g_8 => ?_)
    refine z_storeA (j := 0) (cs' := cV U64 x18.1) (L' := [.blk g_8 24 (cV U64 x18.1) 4, .blk g_6 24 (cV U64 a1) 4, .blk g_5 33 (cV U8 a0.1 ++ (cV U8 a0.2.1 ++ ([(.bool a0.2.2.1 : Value)] ++ ([(U64 a0.2.2.2.1 : Value)] ++ (cV U64 a0.2.2.2.2.1 ++ ([(.slice A0 a0.2.2.2.2.2.1.length c0 : Value)] ++ ([(U64 a0.2.2.2.2.2.2.1 : Value)] ++ (cV U64 a0.2.2.2.2.2.2.2.1 ++ (cV U64 a0.2.2.2.2.2.2.2.2.1 ++ ([(.slice A0_1 a0.2.2.2.2.2.2.2.2.2.length c0_2 : Value)])))))))))) 57]) rfl rfl rfl (cV_one (fun _ => rfl) _) sz24 rfl (cV_len _) rfl rfl rfl (fun _ _ _ => trivial) ?_
    refine z_val (v := .bool x18.2) (val_assign rfl rfl) rfl rfl rfl (fun _ _ _ => trivial) ?_
    refine z_nil ?_
    refine t_seq ?_
    refine t_region (fun ops hops => ?_)
    clear hops
    refine z_val (v := .agg (cV U8 a0.1 ++ (cV U8 a0.2.1 ++ ([(.bool a0.2.2.1 : Value)] ++ ([(U64 a0.2.2.2.1 : Value)] ++ (cV U64 a0.2.2.2.2.1 ++ ([(.slice A0 a0.2.2.2.2.2.1.length c0 : Value)] ++ ([(U64 a0.2.2.2.2.2.2.1 : Value)] ++ (cV U64 a0.2.2.2.2.2.2.2.1 ++ (cV U64 a0.2.2.2.2.2.2.2.2.1 ++ ([(.slice A0_1 a0.2.2.2.2.2.2.2.2.2.length c0_2 : Value)])))))))))).toArray) (val_loadR (off := 0) (cs := cV U8 a0.1 ++ (cV U8 a0.2.1 ++ ([(.bool a0.2.2.1 : Value)] ++ ([(U64 a0.2.2.2.1 : Value)] ++ (cV U64 a0.2.2.2.2.1 ++ ([(.slice A0 a0.2.2.2.2.2.1.length c0 : Value)] ++ ([(U64 a0.2.2.2.2.2.2.1 : Value)] ++ (cV U64 a0.2.2.2.2.2.2.2.1 ++ (cV U64 a0.2.2.2.2.2.2.2.2.1 ++ ([(.slice A0_1 a0.2.2.2.2.2.2.2.2.2.length c0_2 : Value)])))))))))) rfl rfl Try.underlying33 rfl (sz33.trans (congrArg some (Eq.symm (by simp [cV_len])))) (fun _ hw => hw.whole (j := 2) rfl)) rfl rfl rfl (fun _ _ _ => trivial) ?_
    obtain ⟨x22, hx_9, H⟩ := Option.bind_eq_some_iff.1 H
    refine z_madeS (F := fun A_10 c_11 => .slice A_10 x22.length c_11) (xs := x22) rfl Try.func15 nm15 bs15 rfl (fun w hw => smithyref19_Cost.calls (a0.1, a0.2.1, a0.2.2.1, a0.2.2.2.1, a0.2.2.2.2.1, a0.2.2.2.2.2.1, a0.2.2.2.2.2.2.1, a0.2.2.2.2.2.2.2.1, a0.2.2.2.2.2.2.2.2.1, a0.2.2.2.2.2.2.2.2.2) A0 c0 A0_1 c0_2 x22 hx_9 w (hs0.toW hw) hc0 (hs0_3.toW hw) hc0_4) rfl rfl rfl (fun _ _ _ _ _ => trivial) (fun A_10 c_11 hs_12 => ?_)
    clear hx_9
    refine z_val (v := .slice A_10 x22.length c_11) (val_assign rfl rfl) rfl rfl rfl (fun _ _ _ => trivial) ?_
    refine z_nil ?_
    refine t_seq ?_
    refine t_seal (fun h_14 hS hs_15 => ?_)
    have hc_16 := hs_12.le
    replace hs0 := hs0.up hS
    replace hs0_3 := hs0_3.up hS
    refine t_region (fun ops hops => ?_)
    clear hops
    refine z_val (v := .slice A_10 x22.length c_11) (val_move rfl rfl) rfl rfl rfl (fun _ _ _ => trivial) ?_
    obtain ⟨x24, hx_17, H⟩ := Option.bind_eq_some_iff.1 H
    refine z_callG rfl Try.func17 nm17 bs17 rfl (fun w hw => smithyref02_N_High.calls x22 A_10 c_11 x24 hx_17 hs_15 hc_16 hw) rfl rfl rfl (fun _ _ _ _ _ => trivial) (fun g hφ => ?_)
    obtain ⟨h_18, A_20, c_21⟩ := g
    try dsimp only at hφ
    obtain ⟨hS_19, hs_22, hc_23⟩ := hφ
    clear hx_17
    change T 77 _ _ _
    replace hs0 := hs0.up hS_19
    replace hs0_3 := hs0_3.up hS_19
    replace hs_15 := hs_15.up hS_19
    obtain ⟨x25, hx_24, H⟩ := Option.bind_eq_some_iff.1 H
    refine z_made (v := .bool x25) rfl Try.func16 nm16 bs16 rfl (fun w hw => smithyref02_Zero.calls x24 A_20 c_21 x25 hx_24 w (hs_22.toW hw) hc_23) rfl rfl rfl (fun _ _ _ => trivial) ?_
    clear hx_24
    refine z_val (v := .bool x25) (val_assign rfl rfl) rfl rfl rfl (fun _ _ _ => trivial) ?_
    refine z_nil ?_
    refine t_seq ?_
    refine t_seq ?_
    refine t_plan (C := Mm w [] h_18 [.blk g_8 24 (cV U64 x18.1) 4, .blk g_6 24 (cV U64 a1) 4, .blk g_5 33 (cV U8 a0.1 ++ (cV U8 a0.2.1 ++ ([(.bool a0.2.2.1 : Value)] ++ ([(U64 a0.2.2.2.1 : Value)] ++ (cV U64 a0.2.2.2.2.1 ++ ([(.slice A0 a0.2.2.2.2.2.1.length c0 : Value)] ++ ([(U64 a0.2.2.2.2.2.2.1 : Value)] ++ (cV U64 a0.2.2.2.2.2.2.2.1 ++ (cV U64 a0.2.2.2.2.2.2.2.2.1 ++ ([(.slice A0_1 a0.2.2.2.2.2.2.2.2.2.length c0_2 : Value)])))))))))) 57]) [] [(0, true), (1, true), (2, true), (3, true), (4, true), (5, true), (6, true), (7, true), (8, false), (9, true), (10, true), (11, true), (12, true), (13, true), (14, true), (15, true), (16, true), (17, true), (18, true), (19, true), (20, true)] (by kernel_rfl) (by kernel_rfl) (fun _ hw => hw.drew) (fun ops hops => ?_)
    refine z_still (v := .bool x18.2) (val_move rfl rfl) rfl rfl rfl (fun _ hw => hw) ?_
    refine z_still (v := .bool x25) (val_move rfl rfl) rfl rfl rfl (fun _ hw => hw) ?_
    obtain ⟨x28, hx28, H⟩ := Let_elim H
    refine z_still (v := .bool x28) (by subst hx28; exact val_binw rfl rfl rfl rfl (fun w => bool_neq Try.underlying4)) rfl rfl rfl (fun _ hw => hw) ?_
    clear hx28
    refine z_still (v := .bool x28) (val_move rfl rfl) rfl rfl rfl (fun _ hw => hw) ?_
    refine z_bind H 8 (fun (s : Bool) (_ : Unit) => [(2, .pointer (some ⟨g_5, 0, none⟩)), (3, .pointer (some ⟨g_6, 0, none⟩)), (5, .pointer (some ⟨g_8, 0, none⟩)), (8, .bool x25), (37, .bool s)]) (fun _ _ => Mm w [] h_18 [.blk g_8 24 (cV U64 x18.1) 4, .blk g_6 24 (cV U64 a1) 4, .blk g_5 33 (cV U8 a0.1 ++ (cV U8 a0.2.1 ++ ([(.bool a0.2.2.1 : Value)] ++ ([(U64 a0.2.2.2.1 : Value)] ++ (cV U64 a0.2.2.2.2.1 ++ ([(.slice A0 a0.2.2.2.2.2.1.length c0 : Value)] ++ ([(U64 a0.2.2.2.2.2.2.1 : Value)] ++ (cV U64 a0.2.2.2.2.2.2.2.1 ++ (cV U64 a0.2.2.2.2.2.2.2.2.1 ++ ([(.slice A0_1 a0.2.2.2.2.2.2.2.2.2.length c0_2 : Value)])))))))))) 57]) (fun _ _ => True) (fun Gr K s he HJ => ?_) (fun s g HB _ => ?_)
    ·
      clear H
      cases x28
      ·
        have H := cond_f he
        clear he
        refine z_still (v := .bool x25) (val_move rfl rfl) rfl rfl (by rw [hops]; rfl) (fun _ hw => hw) ?_
        refine z_still (v := .bool x25) (val_move rfl rfl) rfl rfl (by rw [hops]; rfl) (fun _ hw => hw) ?_
        refine z_bind H 5 (fun (s : Bool) (_ : Unit) => [(2, .pointer (some ⟨g_5, 0, none⟩)), (3, .pointer (some ⟨g_6, 0, none⟩)), (5, .pointer (some ⟨g_8, 0, none⟩)), (8, .bool x25), (29, .bool false), (36, .bool s)]) (fun _ _ => Mm w [] h_18 [.blk g_8 24 (cV U64 x18.1) 4, .blk g_6 24 (cV U64 a1) 4, .blk g_5 33 (cV U8 a0.1 ++ (cV U8 a0.2.1 ++ ([(.bool a0.2.2.1 : Value)] ++ ([(U64 a0.2.2.2.1 : Value)] ++ (cV U64 a0.2.2.2.2.1 ++ ([(.slice A0 a0.2.2.2.2.2.1.length c0 : Value)] ++ ([(U64 a0.2.2.2.2.2.2.1 : Value)] ++ (cV U64 a0.2.2.2.2.2.2.2.1 ++ (cV U64 a0.2.2.2.2.2.2.2.2.1 ++ ([(.slice A0_1 a0.2.2.2.2.2.2.2.2.2.length c0_2 : Value)])))))))))) 57]) (fun _ _ => True) (fun Gr K s he HJ => ?_) (fun s g HB _ => ?_)
        ·
          clear H
          cases x25
          ·
            have H := cond_f he
            clear he
            refine z_skip_still rfl rfl (by rw [hops]; rfl) (fun _ hw => hw) ?_
            refine z_skip_still rfl rfl (by rw [hops]; rfl) (fun _ hw => hw) ?_
            refine z_skip rfl rfl (by rw [hops]; rfl) (fun _ _ hw => hw) ?_
            refine z_skip_still rfl rfl (by rw [hops]; rfl) (fun _ hw => hw) ?_
            refine z_still (v := .bool false) (val_pick rfl rfl rfl) rfl rfl (by rw [hops]; rfl) (fun _ hw => hw) ?_
            obtain rfl := Option.some.inj H
            exact z_nil ((K _ () HJ trivial).weak (fun a ha => ha.cons rfl (ha.cons rfl (ha.cons rfl (ha.cons rfl (ha.cons rfl (ha.cons rfl (ha.nil))))))) (fun w hw => hw))
          ·
            have H := cond_t he
            clear he
            refine z_still (v := .agg (cV U64 x18.1).toArray) (val_loadR (off := 0) (cs := cV U64 x18.1) rfl rfl Try.underlying24 rfl (sz24.trans (congrArg some (cV_len _).symm)) (fun _ hw => hw.whole (j := 0) rfl)) rfl rfl (by rw [hops]; rfl) (fun _ hw => hw) ?_
            refine z_still (v := .slice A_10 x22.length c_11) (val_move rfl rfl) rfl rfl (by rw [hops]; rfl) (fun _ hw => hw) ?_
            obtain ⟨x34, hx_25, H⟩ := Option.bind_eq_some_iff.1 H
            refine z_made (v := .agg (cV U64 x34).toArray) rfl Try.func18 nm18 bs18 rfl (fun w hw => smithyref02_N_Word.calls x22 A_10 c_11 x34 hx_25 w (hs_15.toW hw) hc_16) rfl rfl (by rw [hops]; rfl) (fun _ _ hw => hw) ?_
            clear hx_25
            obtain ⟨x35, hx35, H⟩ := Let_elim H
            refine z_still (v := .bool x35) (by subst hx35; exact val_bina rfl rfl rfl eg24 (fun w => vec_neq U64_inj (P := Try.prog) Try.underlying24 pk22 Try.underlying22 ce22 w _ _)) rfl rfl (by rw [hops]; rfl) (fun _ hw => hw) ?_
            clear hx35
            refine z_still (v := .bool x35) (val_pick rfl rfl rfl) rfl rfl (by rw [hops]; rfl) (fun _ hw => hw) ?_
            obtain rfl := Option.some.inj H
            exact z_nil ((K _ () HJ trivial).weak (fun a ha => ha.cons rfl (ha.cons rfl (ha.cons rfl (ha.cons rfl (ha.cons rfl (ha.cons rfl (ha.nil))))))) (fun w hw => hw))
        ·
          replace H := HB
          clear HB
          obtain ⟨x36, rfl⟩ : ∃ x, x = s := ⟨_, rfl⟩
          change T 77 _ _ _
          refine z_still (v := .bool x36) (val_pick rfl rfl rfl) rfl rfl rfl (fun _ hw => hw) ?_
          obtain rfl := Option.some.inj H
          exact z_nil ((K _ () HJ trivial).weak (fun a ha => ha.cons rfl (ha.cons rfl (ha.cons rfl (ha.cons rfl (ha.cons rfl (ha.nil)))))) (fun w hw => hw))
      ·
        have H := cond_t he
        clear he
        refine z_skip_still rfl rfl (by rw [hops]; rfl) (fun _ hw => hw) ?_
        refine z_skip_still rfl rfl (by rw [hops]; rfl) (fun _ hw => hw) ?_
        refine z_skip_still rfl rfl (by rw [hops]; rfl) (fun _ hw => hw) ?_
        refine z_skip_still rfl rfl (by rw [hops]; rfl) (fun _ hw => hw) ?_
        refine z_skip rfl rfl (by rw [hops]; rfl) (fun _ _ hw => hw) ?_
        refine z_skip_still rfl rfl (by rw [hops]; rfl) (fun _ hw => hw) ?_
        refine z_skip_still rfl rfl (by rw [hops]; rfl) (fun _ hw => hw) ?_
        refine z_still (v := .bool true) (val_pick rfl rfl rfl) rfl rfl rfl (fun _ hw => hw) ?_
        obtain rfl := Option.some.inj H
        exact z_nil ((K _ () HJ trivial).weak (fun a ha => ha.cons rfl (ha.cons rfl (ha.cons rfl (ha.cons rfl (ha.cons rfl (ha.nil)))))) (fun w hw => hw))
    ·
      replace H := HB
      clear HB
      obtain ⟨x37, rfl⟩ : ∃ x, x = s := ⟨_, rfl⟩
      change T 77 _ _ _
      refine z_still (v := .bool x37) (val_move rfl rfl) rfl rfl rfl (fun _ hw => hw) ?_
      refine z_bind H 8 (fun (s : Bool) (_ : Unit) => [(2, .pointer (some ⟨g_5, 0, none⟩)), (3, .pointer (some ⟨g_6, 0, none⟩)), (46, .bool s)]) (fun _ _ => Mm w [] h_18 [.blk g_8 24 (cV U64 x18.1) 4, .blk g_6 24 (cV U64 a1) 4, .blk g_5 33 (cV U8 a0.1 ++ (cV U8 a0.2.1 ++ ([(.bool a0.2.2.1 : Value)] ++ ([(U64 a0.2.2.2.1 : Value)] ++ (cV U64 a0.2.2.2.2.1 ++ ([(.slice A0 a0.2.2.2.2.2.1.length c0 : Value)] ++ ([(U64 a0.2.2.2.2.2.2.1 : Value)] ++ (cV U64 a0.2.2.2.2.2.2.2.1 ++ (cV U64 a0.2.2.2.2.2.2.2.2.1 ++ ([(.slice A0_1 a0.2.2.2.2.2.2.2.2.2.length c0_2 : Value)])))))))))) 57]) (fun _ _ => True) (fun Gr K s he HJ => ?_) (fun s g HB _ => ?_)
      ·
        clear H
        cases x37
        ·
          have H := cond_f he
          clear he
          refine z_still (v := .bool x25) (val_move rfl rfl) rfl rfl (by rw [hops]; rfl) (fun _ hw => hw) ?_
          obtain ⟨x40, hx40, H⟩ := Let_elim H
          refine z_still (v := .bool x40) (by subst hx40; exact val_un rfl rfl (bool_not _)) rfl rfl (by rw [hops]; rfl) (fun _ hw => hw) ?_
          clear hx40
          refine z_still (v := .bool x40) (val_move rfl rfl) rfl rfl (by rw [hops]; rfl) (fun _ hw => hw) ?_
          refine z_bind H 4 (fun (s : Bool) (_ : Unit) => [(2, .pointer (some ⟨g_5, 0, none⟩)), (3, .pointer (some ⟨g_6, 0, none⟩)), (38, .bool false), (45, .bool s)]) (fun _ _ => Mm w [] h_18 [.blk g_8 24 (cV U64 x18.1) 4, .blk g_6 24 (cV U64 a1) 4, .blk g_5 33 (cV U8 a0.1 ++ (cV U8 a0.2.1 ++ ([(.bool a0.2.2.1 : Value)] ++ ([(U64 a0.2.2.2.1 : Value)] ++ (cV U64 a0.2.2.2.2.1 ++ ([(.slice A0 a0.2.2.2.2.2.1.length c0 : Value)] ++ ([(U64 a0.2.2.2.2.2.2.1 : Value)] ++ (cV U64 a0.2.2.2.2.2.2.2.1 ++ (cV U64 a0.2.2.2.2.2.2.2.2.1 ++ ([(.slice A0_1 a0.2.2.2.2.2.2.2.2.2.length c0_2 : Value)])))))))))) 57]) (fun _ _ => True) (fun Gr K s he HJ => ?_) (fun s g HB _ => ?_)
          ·
            clear H
            cases x40
            ·
              have H := cond_f he
              clear he
              refine z_skip_still rfl rfl (by rw [hops]; rfl) (fun _ hw => hw) ?_
              refine z_skip_still rfl rfl (by rw [hops]; rfl) (fun _ hw => hw) ?_
              refine z_skip_still rfl rfl (by rw [hops]; rfl) (fun _ hw => hw) ?_
              refine z_still (v := .bool false) (val_pick rfl rfl rfl) rfl rfl (by rw [hops]; rfl) (fun _ hw => hw) ?_
              obtain rfl := Option.some.inj H
              exact z_nil ((K _ () HJ trivial).weak (fun a ha => ha.cons rfl (ha.cons rfl (ha.cons rfl (ha.cons rfl (ha.nil))))) (fun w hw => hw))
            ·
              have H := cond_t he
              clear he
              refine z_still (v := .agg (cV U64 x18.1).toArray) (val_loadR (off := 0) (cs := cV U64 x18.1) rfl rfl Try.underlying24 rfl (sz24.trans (congrArg some (cV_len _).symm)) (fun _ hw => hw.whole (j := 0) rfl)) rfl rfl (by rw [hops]; rfl) (fun _ hw => hw) ?_
              obtain ⟨x43, hx43, H⟩ := Let_elim H
              refine z_still (v := .agg (cV U64 x43).toArray) (by subst hx43; exact val_build (vs := []) rfl rfl (fun w => by kernel_rfl)) rfl rfl (by rw [hops]; rfl) (fun _ hw => hw) ?_
              clear hx43
              obtain ⟨x44, hx44, H⟩ := Let_elim H
              refine z_still (v := .bool x44) (by subst hx44; exact val_bina rfl rfl rfl eg24 (fun w => vec_neq U64_inj (P := Try.prog) Try.underlying24 pk22 Try.underlying22 ce22 w _ _)) rfl rfl (by rw [hops]; rfl) (fun _ hw => hw) ?_
              clear hx44
              refine z_still (v := .bool x44) (val_pick rfl rfl rfl) rfl rfl (by rw [hops]; rfl) (fun _ hw => hw) ?_
              obtain rfl := Option.some.inj H
              exact z_nil ((K _ () HJ trivial).weak (fun a ha => ha.cons rfl (ha.cons rfl (ha.cons rfl (ha.cons rfl (ha.nil))))) (fun w hw => hw))
          ·
            replace H := HB
            clear HB
            obtain ⟨x45, rfl⟩ : ∃ x, x = s := ⟨_, rfl⟩
            change T 77 _ _ _
            refine z_still (v := .bool x45) (val_pick rfl rfl rfl) rfl rfl rfl (fun _ hw => hw) ?_
            obtain rfl := Option.some.inj H
            exact z_nil ((K _ () HJ trivial).weak (fun a ha => ha.cons rfl (ha.cons rfl (ha.cons rfl (ha.nil)))) (fun w hw => hw))
        ·
          have H := cond_t he
          clear he
          refine z_skip_still rfl rfl (by rw [hops]; rfl) (fun _ hw => hw) ?_
          refine z_skip_still rfl rfl (by rw [hops]; rfl) (fun _ hw => hw) ?_
          refine z_skip_still rfl rfl (by rw [hops]; rfl) (fun _ hw => hw) ?_
          refine z_skip_still rfl rfl (by rw [hops]; rfl) (fun _ hw => hw) ?_
          refine z_skip_still rfl rfl (by rw [hops]; rfl) (fun _ hw => hw) ?_
          refine z_skip_still rfl rfl (by rw [hops]; rfl) (fun _ hw => hw) ?_
          refine z_skip_still rfl rfl (by rw [hops]; rfl) (fun _ hw => hw) ?_
          refine z_still (v := .bool true) (val_pick rfl rfl rfl) rfl rfl rfl (fun _ hw => hw) ?_
          obtain rfl := Option.some.inj H
          exact z_nil ((K _ () HJ trivial).weak (fun a ha => ha.cons rfl (ha.cons rfl (ha.cons rfl (ha.nil)))) (fun w hw => hw))
      ·
        replace H := HB
        clear HB
        obtain ⟨x46, rfl⟩ : ∃ x, x = s := ⟨_, rfl⟩
        change T 77 _ _ _
        refine z_nil ?_
        cases x46
        ·
          replace H := cond_f H
          refine t_cond_false rfl ?_
          refine t_skip ?_
          refine t_seq ?_
          refine t_region (fun ops hops => ?_)
          clear hops
          refine z_val (v := .agg (cV U8 a0.1 ++ (cV U8 a0.2.1 ++ ([(.bool a0.2.2.1 : Value)] ++ ([(U64 a0.2.2.2.1 : Value)] ++ (cV U64 a0.2.2.2.2.1 ++ ([(.slice A0 a0.2.2.2.2.2.1.length c0 : Value)] ++ ([(U64 a0.2.2.2.2.2.2.1 : Value)] ++ (cV U64 a0.2.2.2.2.2.2.2.1 ++ (cV U64 a0.2.2.2.2.2.2.2.2.1 ++ ([(.slice A0_1 a0.2.2.2.2.2.2.2.2.2.length c0_2 : Value)])))))))))).toArray) (val_loadR (off := 0) (cs := cV U8 a0.1 ++ (cV U8 a0.2.1 ++ ([(.bool a0.2.2.1 : Value)] ++ ([(U64 a0.2.2.2.1 : Value)] ++ (cV U64 a0.2.2.2.2.1 ++ ([(.slice A0 a0.2.2.2.2.2.1.length c0 : Value)] ++ ([(U64 a0.2.2.2.2.2.2.1 : Value)] ++ (cV U64 a0.2.2.2.2.2.2.2.1 ++ (cV U64 a0.2.2.2.2.2.2.2.2.1 ++ ([(.slice A0_1 a0.2.2.2.2.2.2.2.2.2.length c0_2 : Value)])))))))))) rfl rfl Try.underlying33 rfl (sz33.trans (congrArg some (Eq.symm (by simp [cV_len])))) (fun _ hw => hw.whole (j := 2) rfl)) rfl rfl rfl (fun _ _ _ => trivial) ?_
          refine z_val (v := .agg (cV U64 a1).toArray) (val_loadR (off := 0) (cs := cV U64 a1) rfl rfl Try.underlying24 rfl (sz24.trans (congrArg some (cV_len _).symm)) (fun _ hw => hw.whole (j := 1) rfl)) rfl rfl rfl (fun _ _ _ => trivial) ?_
          obtain ⟨x50, hx_26, H⟩ := Option.bind_eq_some_iff.1 H
          refine z_made (v := .tuple #[.agg (cV U64 x50.1).toArray, .bool x50.2]) rfl Try.func19 nm19 bs19 rfl (fun w hw => tx_Price.calls (a0.1, a0.2.1, a0.2.2.1, a0.2.2.2.1, a0.2.2.2.2.1, a0.2.2.2.2.2.1, a0.2.2.2.2.2.2.1, a0.2.2.2.2.2.2.2.1, a0.2.2.2.2.2.2.2.2.1, a0.2.2.2.2.2.2.2.2.2) a1 A0 c0 A0_1 c0_2 x50 hx_26 w (hs0.toW hw) hc0 (hs0_3.toW hw) hc0_4) rfl rfl rfl (fun _ _ _ => trivial) ?_
          clear hx_26
          refine z_val (v := .tuple #[.agg (cV U64 x50.1).toArray, .bool x50.2]) (val_move rfl rfl) rfl rfl rfl (fun _ _ _ => trivial) ?_
          refine z_val (v := .agg (cV U64 x50.1).toArray) (val_extract rfl rfl rfl) rfl rfl rfl (fun _ _ _ => trivial) ?_
          refine z_val (v := .bool x50.2) (val_extract rfl rfl rfl) rfl rfl rfl (fun _ _ _ => trivial) ?_
          refine z_alloc (cs := cV U64 (Vec.rep 4 0#64)) (room := 4) rfl ze24 rfl (cV_len _) rfl rfl rfl (fun _ _ _ _ => trivial) (fun g_27 => ?_)
          refine z_storeA (j := 0) (cs' := cV U64 x50.1) (L' := [.blk g_27 24 (cV U64 x50.1) 4, .blk g_8 24 (cV U64 x18.1) 4, .blk g_6 24 (cV U64 a1) 4, .blk g_5 33 (cV U8 a0.1 ++ (cV U8 a0.2.1 ++ ([(.bool a0.2.2.1 : Value)] ++ ([(U64 a0.2.2.2.1 : Value)] ++ (cV U64 a0.2.2.2.2.1 ++ ([(.slice A0 a0.2.2.2.2.2.1.length c0 : Value)] ++ ([(U64 a0.2.2.2.2.2.2.1 : Value)] ++ (cV U64 a0.2.2.2.2.2.2.2.1 ++ (cV U64 a0.2.2.2.2.2.2.2.2.1 ++ ([(.slice A0_1 a0.2.2.2.2.2.2.2.2.2.length c0_2 : Value)])))))))))) 57]) rfl rfl rfl (cV_one (fun _ => rfl) _) sz24 rfl (cV_len _) rfl rfl rfl (fun _ _ _ => trivial) ?_
          refine z_val (v := .bool x50.2) (val_assign rfl rfl) rfl rfl rfl (fun _ _ _ => trivial) ?_
          refine z_nil ?_
          refine t_seq ?_
          refine t_region (fun ops hops => ?_)
          clear hops
          refine z_val (v := .agg (cV U8 a0.1 ++ (cV U8 a0.2.1 ++ ([(.bool a0.2.2.1 : Value)] ++ ([(U64 a0.2.2.2.1 : Value)] ++ (cV U64 a0.2.2.2.2.1 ++ ([(.slice A0 a0.2.2.2.2.2.1.length c0 : Value)] ++ ([(U64 a0.2.2.2.2.2.2.1 : Value)] ++ (cV U64 a0.2.2.2.2.2.2.2.1 ++ (cV U64 a0.2.2.2.2.2.2.2.2.1 ++ ([(.slice A0_1 a0.2.2.2.2.2.2.2.2.2.length c0_2 : Value)])))))))))).toArray) (val_loadR (off := 0) (cs := cV U8 a0.1 ++ (cV U8 a0.2.1 ++ ([(.bool a0.2.2.1 : Value)] ++ ([(U64 a0.2.2.2.1 : Value)] ++ (cV U64 a0.2.2.2.2.1 ++ ([(.slice A0 a0.2.2.2.2.2.1.length c0 : Value)] ++ ([(U64 a0.2.2.2.2.2.2.1 : Value)] ++ (cV U64 a0.2.2.2.2.2.2.2.1 ++ (cV U64 a0.2.2.2.2.2.2.2.2.1 ++ ([(.slice A0_1 a0.2.2.2.2.2.2.2.2.2.length c0_2 : Value)])))))))))) rfl rfl Try.underlying33 rfl (sz33.trans (congrArg some (Eq.symm (by simp [cV_len])))) (fun _ hw => hw.whole (j := 3) rfl)) rfl rfl rfl (fun _ _ _ => trivial) ?_
          refine z_val (v := .agg (cV U64 a1).toArray) (val_loadR (off := 0) (cs := cV U64 a1) rfl rfl Try.underlying24 rfl (sz24.trans (congrArg some (cV_len _).symm)) (fun _ hw => hw.whole (j := 2) rfl)) rfl rfl rfl (fun _ _ _ => trivial) ?_
          obtain ⟨x56, hx_28, H⟩ := Option.bind_eq_some_iff.1 H
          refine z_made (v := .tuple #[.agg (cV U64 x56.1).toArray, .bool x56.2]) rfl Try.func20 nm20 bs20 rfl (fun w hw => smithyref19_Price.calls (a0.1, a0.2.1, a0.2.2.1, a0.2.2.2.1, a0.2.2.2.2.1, a0.2.2.2.2.2.1, a0.2.2.2.2.2.2.1, a0.2.2.2.2.2.2.2.1, a0.2.2.2.2.2.2.2.2.1, a0.2.2.2.2.2.2.2.2.2) a1 A0 c0 A0_1 c0_2 x56 hx_28 w (hs0.toW hw) hc0 (hs0_3.toW hw) hc0_4) rfl rfl rfl (fun _ _ _ => trivial) ?_
          clear hx_28
          refine z_val (v := .tuple #[.agg (cV U64 x56.1).toArray, .bool x56.2]) (val_move rfl rfl) rfl rfl rfl (fun _ _ _ => trivial) ?_
          refine z_val (v := .agg (cV U64 x56.1).toArray) (val_extract rfl rfl rfl) rfl rfl rfl (fun _ _ _ => trivial) ?_
          refine z_val (v := .bool x56.2) (val_extract rfl rfl rfl) rfl rfl rfl (fun _ _ _ => trivial) ?_
          refine z_alloc (cs := cV U64 (Vec.rep 4 0#64)) (room := 4) rfl ze24 rfl (cV_len _) rfl rfl rfl (fun _ _ _ _ => trivial) (fun g_29 => ?_)
          refine z_storeA (j := 0) (cs' := cV U64 x56.1) (L' := [.blk g_29 24 (cV U64 x56.1) 4, .blk g_27 24 (cV U64 x50.1) 4, .blk g_8 24 (cV U64 x18.1) 4, .blk g_6 24 (cV U64 a1) 4, .blk g_5 33 (cV U8 a0.1 ++ (cV U8 a0.2.1 ++ ([(.bool a0.2.2.1 : Value)] ++ ([(U64 a0.2.2.2.1 : Value)] ++ (cV U64 a0.2.2.2.2.1 ++ ([(.slice A0 a0.2.2.2.2.2.1.length c0 : Value)] ++ ([(U64 a0.2.2.2.2.2.2.1 : Value)] ++ (cV U64 a0.2.2.2.2.2.2.2.1 ++ (cV U64 a0.2.2.2.2.2.2.2.2.1 ++ ([(.slice A0_1 a0.2.2.2.2.2.2.2.2.2.length c0_2 : Value)])))))))))) 57]) rfl rfl rfl (cV_one (fun _ => rfl) _) sz24 rfl (cV_len _) rfl rfl rfl (fun _ _ _ => trivial) ?_
          refine z_val (v := .bool x56.2) (val_assign rfl rfl) rfl rfl rfl (fun _ _ _ => trivial) ?_
          refine z_nil ?_
          refine t_seq ?_
          refine t_plan (C := Mm w [] h_18 [.blk g_29 24 (cV U64 x56.1) 4, .blk g_27 24 (cV U64 x50.1) 4, .blk g_8 24 (cV U64 x18.1) 4, .blk g_6 24 (cV U64 a1) 4, .blk g_5 33 (cV U8 a0.1 ++ (cV U8 a0.2.1 ++ ([(.bool a0.2.2.1 : Value)] ++ ([(U64 a0.2.2.2.1 : Value)] ++ (cV U64 a0.2.2.2.2.1 ++ ([(.slice A0 a0.2.2.2.2.2.1.length c0 : Value)] ++ ([(U64 a0.2.2.2.2.2.2.1 : Value)] ++ (cV U64 a0.2.2.2.2.2.2.2.1 ++ (cV U64 a0.2.2.2.2.2.2.2.2.1 ++ ([(.slice A0_1 a0.2.2.2.2.2.2.2.2.2.length c0_2 : Value)])))))))))) 57]) [] [(0, false), (1, true), (2, true), (3, true), (4, true), (5, true), (6, true), (7, true), (8, true), (9, true), (10, true), (11, true), (12, true), (14, true), (13, false), (15, false), (16, true), (17, true), (18, true)] (by kernel_rfl) (by kernel_rfl) (fun _ hw => hw.drew) (fun ops hops => ?_)
          obtain ⟨x59, hx_30, H⟩ := Option.bind_eq_some_iff.1 H
          refine z_made (v := .bool x59) rfl Try.func13 nm13 bs13 rfl (fun w hw => smithylaw19_fixed.calls x59 hx_30 w) rfl rfl rfl (fun _ _ hw => hw) ?_
          clear hx_30
          refine z_still (v := .bool x59) (val_move rfl rfl) rfl rfl rfl (fun _ hw => hw) ?_
          refine z_bind H 4 (fun (s : Bool) (_ : Unit) => [(2, .pointer (some ⟨g_5, 0, none⟩)), (10, .bool x50.2), (12, .bool x56.2), (64, .bool s)]) (fun _ _ => Mm w [] h_18 [.blk g_29 24 (cV U64 x56.1) 4, .blk g_27 24 (cV U64 x50.1) 4, .blk g_8 24 (cV U64 x18.1) 4, .blk g_6 24 (cV U64 a1) 4, .blk g_5 33 (cV U8 a0.1 ++ (cV U8 a0.2.1 ++ ([(.bool a0.2.2.1 : Value)] ++ ([(U64 a0.2.2.2.1 : Value)] ++ (cV U64 a0.2.2.2.2.1 ++ ([(.slice A0 a0.2.2.2.2.2.1.length c0 : Value)] ++ ([(U64 a0.2.2.2.2.2.2.1 : Value)] ++ (cV U64 a0.2.2.2.2.2.2.2.1 ++ (cV U64 a0.2.2.2.2.2.2.2.2.1 ++ ([(.slice A0_1 a0.2.2.2.2.2.2.2.2.2.length c0_2 : Value)])))))))))) 57]) (fun _ _ => True) (fun Gr K s he HJ => ?_) (fun s g HB _ => ?_)
          ·
            clear H
            cases x59
            ·
              have H := cond_f he
              clear he
              refine z_skip_still rfl rfl (by rw [hops]; rfl) (fun _ hw => hw) ?_
              refine z_skip_still rfl rfl (by rw [hops]; rfl) (fun _ hw => hw) ?_
              refine z_skip_still rfl rfl (by rw [hops]; rfl) (fun _ hw => hw) ?_
              refine z_still (v := .bool false) (val_pick rfl rfl rfl) rfl rfl rfl (fun _ hw => hw) ?_
              obtain rfl := Option.some.inj H
              exact z_nil ((K _ () HJ trivial).weak (fun a ha => ha.cons rfl (ha.cons rfl (ha.cons rfl (ha.cons rfl (ha.nil))))) (fun w hw => hw))
            ·
              have H := cond_t he
              clear he
              refine z_still (v := .agg (cV U64 x50.1).toArray) (val_loadR (off := 0) (cs := cV U64 x50.1) rfl rfl Try.underlying24 rfl (sz24.trans (congrArg some (cV_len _).symm)) (fun _ hw => hw.whole (j := 1) rfl)) rfl rfl (by rw [hops]; rfl) (fun _ hw => hw) ?_
              refine z_still (v := .agg (cV U64 x56.1).toArray) (val_loadR (off := 0) (cs := cV U64 x56.1) rfl rfl Try.underlying24 rfl (sz24.trans (congrArg some (cV_len _).symm)) (fun _ hw => hw.whole (j := 0) rfl)) rfl rfl (by rw [hops]; rfl) (fun _ hw => hw) ?_
              obtain ⟨x63, hx63, H⟩ := Let_elim H
              refine z_still (v := .bool x63) (by subst hx63; exact val_bina rfl rfl rfl eg24 (fun w => vec_eql U64_inj (P := Try.prog) Try.underlying24 pk22 Try.underlying22 ce22 w _ _)) rfl rfl (by rw [hops]; rfl) (fun _ hw => hw) ?_
              clear hx63
              refine z_still (v := .bool x63) (val_pick rfl rfl rfl) rfl rfl rfl (fun _ hw => hw) ?_
              obtain rfl := Option.some.inj H
              exact z_nil ((K _ () HJ trivial).weak (fun a ha => ha.cons rfl (ha.cons rfl (ha.cons rfl (ha.cons rfl (ha.nil))))) (fun w hw => hw))
          ·
            replace H := HB
            clear HB
            obtain ⟨x64, rfl⟩ : ∃ x, x = s := ⟨_, rfl⟩
            change T 77 _ _ _
            refine z_still (v := .bool x64) (val_move rfl rfl) rfl rfl rfl (fun _ hw => hw) ?_
            refine z_bind H 4 (fun (s : Bool) (_ : Unit) => [(2, .pointer (some ⟨g_5, 0, none⟩)), (69, .bool s)]) (fun _ _ => Mm w [] h_18 [.blk g_29 24 (cV U64 x56.1) 4, .blk g_27 24 (cV U64 x50.1) 4, .blk g_8 24 (cV U64 x18.1) 4, .blk g_6 24 (cV U64 a1) 4, .blk g_5 33 (cV U8 a0.1 ++ (cV U8 a0.2.1 ++ ([(.bool a0.2.2.1 : Value)] ++ ([(U64 a0.2.2.2.1 : Value)] ++ (cV U64 a0.2.2.2.2.1 ++ ([(.slice A0 a0.2.2.2.2.2.1.length c0 : Value)] ++ ([(U64 a0.2.2.2.2.2.2.1 : Value)] ++ (cV U64 a0.2.2.2.2.2.2.2.1 ++ (cV U64 a0.2.2.2.2.2.2.2.2.1 ++ ([(.slice A0_1 a0.2.2.2.2.2.2.2.2.2.length c0_2 : Value)])))))))))) 57]) (fun _ _ => True) (fun Gr K s he HJ => ?_) (fun s g HB _ => ?_)
            ·
              clear H
              cases x64
              ·
                have H := cond_f he
                clear he
                refine z_skip_still rfl rfl (by rw [hops]; rfl) (fun _ hw => hw) ?_
                refine z_skip_still rfl rfl (by rw [hops]; rfl) (fun _ hw => hw) ?_
                refine z_skip_still rfl rfl (by rw [hops]; rfl) (fun _ hw => hw) ?_
                refine z_still (v := .bool false) (val_pick rfl rfl rfl) rfl rfl rfl (fun _ hw => hw) ?_
                obtain rfl := Option.some.inj H
                exact z_nil ((K _ () HJ trivial).weak (fun a ha => ha.cons rfl (ha.cons rfl (ha.nil))) (fun w hw => hw))
              ·
                have H := cond_t he
                clear he
                refine z_still (v := .bool x50.2) (val_move rfl rfl) rfl rfl (by rw [hops]; rfl) (fun _ hw => hw) ?_
                refine z_still (v := .bool x56.2) (val_move rfl rfl) rfl rfl (by rw [hops]; rfl) (fun _ hw => hw) ?_
                obtain ⟨x68, hx68, H⟩ := Let_elim H
                refine z_still (v := .bool x68) (by subst hx68; exact val_binw rfl rfl rfl rfl (fun w => bool_eql Try.underlying4)) rfl rfl (by rw [hops]; rfl) (fun _ hw => hw) ?_
                clear hx68
                refine z_still (v := .bool x68) (val_pick rfl rfl rfl) rfl rfl rfl (fun _ hw => hw) ?_
                obtain rfl := Option.some.inj H
                exact z_nil ((K _ () HJ trivial).weak (fun a ha => ha.cons rfl (ha.cons rfl (ha.nil))) (fun w hw => hw))
            ·
              replace H := HB
              clear HB
              obtain ⟨x69, rfl⟩ : ∃ x, x = s := ⟨_, rfl⟩
              change T 77 _ _ _
              refine z_still (v := .bool x69) (val_move rfl rfl) rfl rfl rfl (fun _ hw => hw) ?_
              refine z_bind H 6 (fun (s : Bool) (_ : Unit) => [(76, .bool s)]) (fun _ _ => Mm w [] h_18 [.blk g_29 24 (cV U64 x56.1) 4, .blk g_27 24 (cV U64 x50.1) 4, .blk g_8 24 (cV U64 x18.1) 4, .blk g_6 24 (cV U64 a1) 4, .blk g_5 33 (cV U8 a0.1 ++ (cV U8 a0.2.1 ++ ([(.bool a0.2.2.1 : Value)] ++ ([(U64 a0.2.2.2.1 : Value)] ++ (cV U64 a0.2.2.2.2.1 ++ ([(.slice A0 a0.2.2.2.2.2.1.length c0 : Value)] ++ ([(U64 a0.2.2.2.2.2.2.1 : Value)] ++ (cV U64 a0.2.2.2.2.2.2.2.1 ++ (cV U64 a0.2.2.2.2.2.2.2.2.1 ++ ([(.slice A0_1 a0.2.2.2.2.2.2.2.2.2.length c0_2 : Value)])))))))))) 57]) (fun _ _ => True) (fun Gr K s he HJ => ?_) (fun s g HB _ => ?_)
              ·
                clear H
                cases x69
                ·
                  have H := cond_f he
                  clear he
                  refine z_skip_still rfl rfl (by rw [hops]; rfl) (fun _ hw => hw) ?_
                  refine z_skip_still rfl rfl (by rw [hops]; rfl) (fun _ hw => hw) ?_
                  refine z_skip rfl rfl (by rw [hops]; rfl) (fun _ _ hw => hw) ?_
                  refine z_skip rfl rfl (by rw [hops]; rfl) (fun _ _ hw => hw) ?_
                  refine z_skip_still rfl rfl (by rw [hops]; rfl) (fun _ hw => hw) ?_
                  refine z_still (v := .bool false) (val_pick rfl rfl rfl) rfl rfl rfl (fun _ hw => hw) ?_
                  obtain rfl := Option.some.inj H
                  exact z_nil ((K _ () HJ trivial).weak (fun a ha => ha.cons rfl (ha.nil)) (fun w hw => hw))
                ·
                  have H := cond_t he
                  clear he
                  refine z_still (v := .agg (cV U8 a0.1 ++ (cV U8 a0.2.1 ++ ([(.bool a0.2.2.1 : Value)] ++ ([(U64 a0.2.2.2.1 : Value)] ++ (cV U64 a0.2.2.2.2.1 ++ ([(.slice A0 a0.2.2.2.2.2.1.length c0 : Value)] ++ ([(U64 a0.2.2.2.2.2.2.1 : Value)] ++ (cV U64 a0.2.2.2.2.2.2.2.1 ++ (cV U64 a0.2.2.2.2.2.2.2.2.1 ++ ([(.slice A0_1 a0.2.2.2.2.2.2.2.2.2.length c0_2 : Value)])))))))))).toArray) (val_loadR (off := 0) (cs := cV U8 a0.1 ++ (cV U8 a0.2.1 ++ ([(.bool a0.2.2.1 : Value)] ++ ([(U64 a0.2.2.2.1 : Value)] ++ (cV U64 a0.2.2.2.2.1 ++ ([(.slice A0 a0.2.2.2.2.2.1.length c0 : Value)] ++ ([(U64 a0.2.2.2.2.2.2.1 : Value)] ++ (cV U64 a0.2.2.2.2.2.2.2.1 ++ (cV U64 a0.2.2.2.2.2.2.2.2.1 ++ ([(.slice A0_1 a0.2.2.2.2.2.2.2.2.2.length c0_2 : Value)])))))))))) rfl rfl Try.underlying33 rfl (sz33.trans (congrArg some (Eq.symm (by simp [cV_len])))) (fun _ hw => hw.whole (j := 4) rfl)) rfl rfl (by rw [hops]; rfl) (fun _ hw => hw) ?_
                  refine z_still (v := .agg (cV U8 a0.1 ++ (cV U8 a0.2.1 ++ ([(.bool a0.2.2.1 : Value)] ++ ([(U64 a0.2.2.2.1 : Value)] ++ (cV U64 a0.2.2.2.2.1 ++ ([(.slice A0 a0.2.2.2.2.2.1.length c0 : Value)] ++ ([(U64 a0.2.2.2.2.2.2.1 : Value)] ++ (cV U64 a0.2.2.2.2.2.2.2.1 ++ (cV U64 a0.2.2.2.2.2.2.2.2.1 ++ ([(.slice A0_1 a0.2.2.2.2.2.2.2.2.2.length c0_2 : Value)])))))))))).toArray) (val_loadR (off := 0) (cs := cV U8 a0.1 ++ (cV U8 a0.2.1 ++ ([(.bool a0.2.2.1 : Value)] ++ ([(U64 a0.2.2.2.1 : Value)] ++ (cV U64 a0.2.2.2.2.1 ++ ([(.slice A0 a0.2.2.2.2.2.1.length c0 : Value)] ++ ([(U64 a0.2.2.2.2.2.2.1 : Value)] ++ (cV U64 a0.2.2.2.2.2.2.2.1 ++ (cV U64 a0.2.2.2.2.2.2.2.2.1 ++ ([(.slice A0_1 a0.2.2.2.2.2.2.2.2.2.length c0_2 : Value)])))))))))) rfl rfl Try.underlying33 rfl (sz33.trans (congrArg some (Eq.symm (by simp [cV_len])))) (fun _ hw => hw.whole (j := 4) rfl)) rfl rfl (by rw [hops]; rfl) (fun _ hw => hw) ?_
                  obtain ⟨x72, hx_31, H⟩ := Option.bind_eq_some_iff.1 H
                  refine z_made (v := U64 x72) rfl Try.func21 nm21 bs21 rfl (fun w hw => tx_Intrinsic.calls (a0.1, a0.2.1, a0.2.2.1, a0.2.2.2.1, a0.2.2.2.2.1, a0.2.2.2.2.2.1, a0.2.2.2.2.2.2.1, a0.2.2.2.2.2.2.2.1, a0.2.2.2.2.2.2.2.2.1, a0.2.2.2.2.2.2.2.2.2) A0 c0 A0_1 c0_2 x72 hx_31 w (hs0.toW hw) hc0 (hs0_3.toW hw) hc0_4) rfl rfl (by rw [hops]; rfl) (fun _ _ hw => hw) ?_
                  clear hx_31
                  obtain ⟨x74, hx_32, H⟩ := Option.bind_eq_some_iff.1 H
                  refine z_made (v := U64 x74) rfl Try.func22 nm22 bs22 rfl (fun w hw => smithyref19_Intrinsic.calls (a0.1, a0.2.1, a0.2.2.1, a0.2.2.2.1, a0.2.2.2.2.1, a0.2.2.2.2.2.1, a0.2.2.2.2.2.2.1, a0.2.2.2.2.2.2.2.1, a0.2.2.2.2.2.2.2.2.1, a0.2.2.2.2.2.2.2.2.2) A0 c0 A0_1 c0_2 x74 hx_32 w (hs0.toW hw) hc0 (hs0_3.toW hw) hc0_4) rfl rfl (by rw [hops]; rfl) (fun _ _ hw => hw) ?_
                  clear hx_32
                  obtain ⟨x75, hx75, H⟩ := Let_elim H
                  refine z_still (v := .bool x75) (by subst hx75; exact val_bin rfl rfl rfl rfl (u64_eql _ _ _)) rfl rfl (by rw [hops]; rfl) (fun _ hw => hw) ?_
                  clear hx75
                  refine z_still (v := .bool x75) (val_pick rfl rfl rfl) rfl rfl rfl (fun _ hw => hw) ?_
                  obtain rfl := Option.some.inj H
                  exact z_nil ((K _ () HJ trivial).weak (fun a ha => ha.cons rfl (ha.nil)) (fun w hw => hw))
              ·
                replace H := HB
                clear HB
                obtain ⟨x76, rfl⟩ : ∃ x, x = s := ⟨_, rfl⟩
                change T 77 _ _ _
                refine z_still (v := .bool x76) (val_assign rfl rfl) rfl rfl rfl (fun _ hw => hw) ?_
                refine z_nil ?_
                refine t_ret ?_
                obtain rfl := Option.some.inj H
                exact ret1 rfl (res_tmp rfl) (fun _ hw => ⟨rfl, hw.below⟩)
        ·
          replace H := cond_t H
          refine t_cond_true rfl ?_
          refine t_seq ?_
          refine t_region (fun ops hops => ?_)
          clear hops
          refine z_val (v := .bool false) (val_assign rfl rfl) rfl rfl rfl (fun _ _ _ => trivial) ?_
          refine z_nil ?_
          refine t_ret ?_
          obtain rfl := Option.some.inj H
          exact ret1 rfl (res_tmp rfl) (fun _ hw => ⟨rfl, hw.below⟩)
  ·
    replace H := cond_t H
    refine t_cond_true rfl ?_
    refine t_seq ?_
    refine t_region (fun ops hops => ?_)
    clear hops
    obtain ⟨x15, hx_33, H⟩ := Option.bind_eq_some_iff.1 H
    refine z_made (v := .bool x15) rfl Try.func13 nm13 bs13 rfl (fun w hw => smithylaw19_fixed.calls x15 hx_33 w) rfl rfl rfl (fun _ _ _ => trivial) ?_
    clear hx_33
    refine z_val (v := .bool x15) (val_assign rfl rfl) rfl rfl rfl (fun _ _ _ => trivial) ?_
    refine z_nil ?_
    refine t_ret ?_
    obtain rfl := Option.some.inj H
    exact ret1 rfl (res_tmp rfl) (fun _ hw => ⟨rfl, hw.below⟩)
end Go.Proofs.Ytapfkdcilfpbhaa
