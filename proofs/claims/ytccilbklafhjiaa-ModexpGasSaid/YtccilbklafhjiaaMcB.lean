/- Functions of the program as plain functions, and their walks, printed by walk.py. -/
import Derived.Test.YtccilbklafhjiaaMcF
import Derived.Test.YtccilbklafhjiaaMcA
namespace Go.Proofs.Ytccilbklafhjiaa
open Go.RowKit
set_option linter.unusedVariables false
set_option linter.unusedSimpArgs false
def modexp_number_trim.b1 (a0 : List (BitVec 32)) (x3 : Int) : Option (Ctl ((Int)) (List (BitVec 32))) :=
  Let (decide (0 < x3)) fun x7 => (bif x7 then Let (wi (x3 - 1)) fun x11 => Chk ((0 : Int) ≤ x11 ∧ x11 < (a0.length : Int)) <| Let (lget a0 x11.toNat) fun x13 => Let ((x13.toNat : Int) == 0) fun x14 => some x14 else some false).bind (fun x15 => (bif x15 then Let (wi (x3 - 1)) fun x17 => some (.next x17) else some (.brk x3)))
def modexp_number_trim (a0 : List (BitVec 32)) : Option (List (BitVec 32)) :=
  Let ((a0.length : Int)) fun x5 => (wlx (σ := (Int)) (fun s => modexp_number_trim.b1 a0 s) x5).bind (Sum.elim (fun x3 => Chk ((0 : Int) ≤ 0 ∧ 0 ≤ x3 ∧ x3 ≤ (a0.length : Int)) <| Let ((a0.take x3.toNat).drop 0) fun x20 => some x20) (fun r => some r))
set_option maxRecDepth 100000 in
theorem modexp_number_trim.calls  (a0 : List (BitVec 32)) (A0 : Option Addr) (c0 : Nat) (r : List (BitVec 32)) (H : modexp_number_trim a0 = some r) {w0 : World} {Ex : List Nat} {h : Frag} {Lr : List Ent} {w : World} (hs0 : SlH h U32 A0 a0) (hc0 : a0.length ≤ c0)  (hM : Mm w0 Ex h (Lr) w) :
    Calls Try.prog 42 #[.slice A0 a0.length c0] w fun e w' => ∃ (g : (Frag) × (Option Addr) × (Nat)), e = .returned (.slice g.2.1 r.length g.2.2) ∧ (Sub h g.1 ∧ SlH g.1 U32 g.2.1 r ∧ r.length ≤ g.2.2) ∧ Mm w0 Ex g.1 (Lr) w' := by
  unfold modexp_number_trim at H
  refine t_enter (vs := [.slice A0 a0.length c0]) (n := 21) Try.func42 rfl rfl rfl hM ?_
  clear hM
  change T 21 _ _ _
  refine t_seq ?_
  refine t_region (fun ops hops => ?_)
  clear hops
  refine z_val (v := .slice none 0 0) (val_assign rfl rfl) rfl rfl rfl (fun _ _ _ => trivial) ?_
  refine z_nil ?_
  refine t_seq ?_
  refine t_region (fun ops hops => ?_)
  clear hops
  refine z_val (v := .slice A0 a0.length c0) (val_move rfl rfl) rfl rfl rfl (fun _ _ _ => trivial) ?_
  obtain ⟨x5, hx5, H⟩ := Let_elim H
  refine z_val (v := .int .i64 x5) (by subst hx5; exact val_len rfl rfl rfl Try.underlying46) rfl rfl rfl (fun _ _ _ => trivial) ?_
  clear hx5
  refine z_val (v := .int .i64 x5) (val_assign rfl rfl) rfl rfl rfl (fun _ _ _ => trivial) ?_
  refine z_nil ?_
  refine t_seq ?_
  refine t_block ?_
  obtain ⟨z1, hz1, HK1⟩ := Option.bind_eq_some_iff.1 H
  clear H
  refine t_while hz1 (fun (s : (Int)) (g : Unit) => [(0, .slice A0 a0.length c0), (3, .int .i64 s)]) (fun (s : (Int)) (g : Unit) => [(0, .slice A0 a0.length c0), (3, .int .i64 s)]) (fun (s : (Int)) (g : Unit) => Mm w0 Ex h (Lr)) (fun (s : (Int)) (g : Unit) => Mm w0 Ex h (Lr)) (fun (s : (Int)) (g : Unit) => True) (fun (s : (Int)) (g : Unit) => True) () trivial (fun a w ha hw => ⟨ha.cons rfl (ha.cons rfl (ha.nil)), hw⟩) (fun Gn Gb s g e hφ H hn1 hb1 hr1 => ?_) (fun s g hzz hφ => ?_)
  ·
    obtain ⟨x3, rfl⟩ : ∃ x, x = s := ⟨_, rfl⟩
    change modexp_number_trim.b1 a0 x3 = some e at H
    unfold modexp_number_trim.b1 at H
    clear hz1
    change T 21 _ _ _
    refine t_seq ?_
    refine t_seq ?_
    refine t_region (fun ops hops => ?_)
    refine z_val (v := .int .i64 x3) (val_move rfl rfl) rfl rfl rfl (fun _ _ _ => trivial) ?_
    obtain ⟨x7, hx7, H⟩ := Let_elim H
    refine z_val (v := .bool x7) (by subst hx7; exact val_bin rfl rfl rfl rfl (i64_gtr _ _ _)) rfl rfl rfl (fun _ _ _ => trivial) ?_
    clear hx7
    refine z_val (v := .bool x7) (val_move rfl rfl) rfl rfl rfl (fun _ _ _ => trivial) ?_
    refine z_bind H 7 (fun (s : Bool) (_ : Unit) => [(0, .slice A0 a0.length c0), (3, .int .i64 x3), (15, .bool s)]) (fun _ _ => Mm w0 Ex h (Lr)) (fun _ _ => True) (fun Gr K s he HJ => ?_) (fun s g HB _ => ?_)
    ·
      clear H
      cases x7
      ·
        have H := cond_f he
        clear he
        refine z_skip rfl rfl (by rw [hops]; rfl) (fun _ _ _ => trivial) ?_
        refine z_skip rfl rfl (by rw [hops]; rfl) (fun _ _ _ => trivial) ?_
        refine z_skip rfl rfl (by rw [hops]; rfl) (fun _ _ _ => trivial) ?_
        refine z_skip rfl rfl (by rw [hops]; rfl) (fun _ _ _ => trivial) ?_
        refine z_skip rfl rfl (by rw [hops]; rfl) (fun _ _ _ => trivial) ?_
        refine z_skip rfl rfl (by rw [hops]; rfl) (fun _ _ _ => trivial) ?_
        refine z_val (v := .bool false) (val_pick rfl rfl rfl) rfl rfl rfl (fun _ _ _ => trivial) ?_
        obtain rfl := Option.some.inj H
        exact z_nil ((K _ () HJ trivial).weak (fun a ha => ha.cons rfl (ha.cons rfl (ha.cons rfl (ha.nil)))) (fun w hw => hw))
      ·
        have H := cond_t he
        clear he
        refine z_val (v := .slice A0 a0.length c0) (val_move rfl rfl) rfl rfl (by rw [hops]; rfl) (fun _ _ _ => trivial) ?_
        refine z_val (v := .int .i64 x3) (val_move rfl rfl) rfl rfl (by rw [hops]; rfl) (fun _ _ _ => trivial) ?_
        obtain ⟨x11, hx11, H⟩ := Let_elim H
        refine z_val (v := .int .i64 x11) (by subst hx11; exact val_bin rfl rfl rfl rfl (i64_sub _ _ _)) rfl rfl (by rw [hops]; rfl) (fun _ _ _ => trivial) ?_
        clear hx11
        obtain ⟨hq_1, H⟩ := Chk_elim H
        obtain ⟨b_2, o_3, hA_4, hc_5⟩ := hs0.at_ (idx_lt hq_1)
        refine z_val (v := .pointer (some ⟨b_2, o_3 + x11.toNat, none⟩)) (val_idxS0 rfl rfl rfl Try.underlying46 sz49 hq_1 hA_4 rfl) rfl rfl (by rw [hops]; rfl) (fun _ _ _ => trivial) ?_
        obtain ⟨x13, hx13, H⟩ := Let_elim H
        refine z_val (v := U32 x13) (by subst hx13; exact val_load1 rfl rfl Try.underlying49 rfl (fun _ hw => hc_5.cell hw)) rfl rfl (by rw [hops]; rfl) (fun _ _ _ => trivial) ?_
        clear hx13
        obtain ⟨x14, hx14, H⟩ := Let_elim H
        refine z_val (v := .bool x14) (by subst hx14; exact val_bin rfl rfl rfl rfl (u32_eql_r _ 0 x13)) rfl rfl (by rw [hops]; rfl) (fun _ _ _ => trivial) ?_
        clear hx14
        refine z_val (v := .bool x14) (val_pick rfl rfl rfl) rfl rfl rfl (fun _ _ _ => trivial) ?_
        obtain rfl := Option.some.inj H
        exact z_nil ((K _ () HJ trivial).weak (fun a ha => ha.cons rfl (ha.cons rfl (ha.cons rfl (ha.nil)))) (fun w hw => hw))
    ·
      replace H := HB
      clear HB
      obtain ⟨x15, rfl⟩ : ∃ x, x = s := ⟨_, rfl⟩
      change T 21 _ _ _
      refine z_nil ?_
      cases x15
      ·
        replace H := cond_f H
        refine t_cond_false rfl ?_
        refine t_exit rfl ?_
        obtain rfl := Option.some.inj H
        exact t_reach ((hb1 _ () rfl trivial).weak (fun a ha => ha.cons rfl (ha.cons rfl (ha.nil))) (fun w hw => hw))
      ·
        replace H := cond_t H
        refine t_cond_true rfl ?_
        refine t_skip ?_
        refine t_block ?_
        refine t_region (fun ops hops => ?_)
        clear hops
        refine z_val (v := .int .i64 x3) (val_move rfl rfl) rfl rfl rfl (fun _ _ _ => trivial) ?_
        obtain ⟨x17, hx17, H⟩ := Let_elim H
        refine z_val (v := .int .i64 x17) (by subst hx17; exact val_bin rfl rfl rfl rfl (i64_sub _ _ _)) rfl rfl rfl (fun _ _ _ => trivial) ?_
        clear hx17
        refine z_val (v := .int .i64 x17) (val_assign rfl rfl) rfl rfl rfl (fun _ _ _ => trivial) ?_
        refine z_nil ?_
        refine t_fin ?_
        obtain rfl := Option.some.inj H
        exact t_reach ((hn1 _ () rfl trivial).weak (fun a ha => ha.cons rfl (ha.cons rfl (ha.nil))) (fun w hw => hw))
  ·
    obtain ⟨x3, rfl⟩ : ∃ x, x = s := ⟨_, rfl⟩
    subst hzz
    have H := HK1
    clear HK1 hz1
    replace H := sum_l H
    try dsimp only at H
    change T 21 _ _ _
    refine t_seq ?_
    refine t_region (fun ops hops => ?_)
    clear hops
    refine z_val (v := .slice A0 a0.length c0) (val_move rfl rfl) rfl rfl rfl (fun _ _ _ => trivial) ?_
    refine z_val (v := .int .i64 x3) (val_move rfl rfl) rfl rfl rfl (fun _ _ _ => trivial) ?_
    obtain ⟨hq_6, H⟩ := Chk_elim H
    obtain ⟨x20, hx20, H⟩ := Let_elim H
    obtain ⟨A_7, hA_11⟩ : ∃ z, z = (if c0 = 0 then A0 else A0.map (·.add (0 * 1))) := ⟨_, rfl⟩
    obtain ⟨c_8, hc_100⟩ : ∃ z, z = c0 - 0 := ⟨_, rfl⟩
    have hl : x20.length = x3.toNat - 0 := by subst hx20; exact cut_len (by omega) (by omega)
    have hs_9 : SlH h U32 A_7 x20 := by subst hA_11 hx20; exact hs0.cut (by omega) hc0
    have hc_10 : x20.length ≤ c_8 := by have := hc0; omega
    refine z_val (v := .slice A_7 x20.length c_8) (val_sliceHz rfl rfl rfl Try.underlying46 sz49 (by omega) (by have := hc0; omega) (by rw [hl, hA_11, hc_100])) rfl rfl rfl (fun _ _ _ => trivial) ?_
    clear hl hA_11 hc_100 hx20
    refine z_val (v := .slice A_7 x20.length c_8) (val_assign rfl rfl) rfl rfl rfl (fun _ _ _ => trivial) ?_
    refine z_nil ?_
    refine t_ret ?_
    obtain rfl := Option.some.inj H
    exact ret1 rfl (res_tmp rfl) (fun _ hw => ⟨⟨h, A_7, c_8⟩, rfl, ⟨(Sub.refl _), hs_9, hc_10⟩, hw⟩)
def modexp_of.b1 (x13 : Int) (a0 : List (BitVec 8)) (y_3 : List (BitVec 32)) (x14 : Int) : Option (Ctl ((List (BitVec 32)) × (Int)) (List (BitVec 32))) :=
  Let (decide (x14 < x13)) fun x15 => (bif x15 then Chk ((0 : Int) ≤ x14 ∧ x14 < (a0.length : Int)) <| Let (lget a0 x14.toNat) fun x18 => Let ((a0.length : Int)) fun x20 => Let (wi (x20 - 1)) fun x21 => Let (wi (x21 - x14)) fun x23 => Let (wi (Int.tdiv x23 4)) fun x26 => Chk ((0 : Int) ≤ x26 ∧ x26 < (y_3.length : Int)) <| Let (lget y_3 x26.toNat) fun x28 => Let (x18.setWidth 32) fun x30 => Let (Int.tmod x23 4) fun x32 => Let (wi (8 * x32)) fun x33 => Chk (0 ≤ x33) <| Let (x30 <<< x33.toNat) fun x34 => Let (x28 ||| x34) fun x35 => Chk ((0 : Int) ≤ x26 ∧ x26 < (y_3.length : Int)) <| Let (y_3.set x26.toNat x35) fun x_18 => Let (wi (x14 + 1)) fun x37 => some (.next (x_18, x37)) else some (.brk (y_3, x14)))
def modexp_of (a0 : List (BitVec 8)) : Option (List (BitVec 32)) :=
  Let ((a0.length : Int)) fun x8 => Let (wi (x8 + 3)) fun x9 => Let (wi (Int.tdiv x9 4)) fun x10 => Chk ((0 : Int) ≤ x10 ∧ x10.toNat * 4 ≤ 140737488355328) <| Let (List.replicate x10.toNat 0#32) fun x11 => Let ((a0.length : Int)) fun x13 => (wlx (σ := (List (BitVec 32)) × (Int)) (fun s => modexp_of.b1 x13 a0 s.1 s.2) (x11, 0)).bind (Sum.elim (fun s => (fun y_3 x14 => (modexp_number_trim y_3).bind fun x39 => some x39) s.1 s.2) (fun r => some r))
set_option maxRecDepth 100000 in
theorem modexp_of.calls  (a0 : List (BitVec 8)) (A0 : Option Addr) (c0 : Nat) (r : List (BitVec 32)) (H : modexp_of a0 = some r) {w0 : World} {Ex : List Nat} {h : Frag} {Lr : List Ent} {w : World} (hs0 : SlH h U8 A0 a0) (hc0 : a0.length ≤ c0)  (hM : Mm w0 Ex h (Lr) w) :
    Calls Try.prog 22 #[.slice A0 a0.length c0] w fun e w' => ∃ (g : (Frag) × (Option Addr) × (Nat)), e = .returned (.slice g.2.1 r.length g.2.2) ∧ (Sub h g.1 ∧ SlH g.1 U32 g.2.1 r ∧ r.length ≤ g.2.2) ∧ Mm w0 Ex g.1 (Lr) w' := by
  unfold modexp_of at H
  refine t_enter (vs := [.slice A0 a0.length c0]) (n := 40) Try.func22 rfl rfl rfl hM ?_
  clear hM
  change T 40 _ _ _
  refine t_seq ?_
  refine t_region (fun ops hops => ?_)
  clear hops
  refine z_val (v := .slice none 0 0) (val_assign rfl rfl) rfl rfl rfl (fun _ _ _ => trivial) ?_
  refine z_nil ?_
  refine t_seq ?_
  refine t_region (fun ops hops => ?_)
  clear hops
  refine z_val (v := .slice A0 a0.length c0) (val_move rfl rfl) rfl rfl rfl (fun _ _ _ => trivial) ?_
  obtain ⟨x8, hx8, H⟩ := Let_elim H
  refine z_val (v := .int .i64 x8) (by subst hx8; exact val_len rfl rfl rfl Try.underlying22) rfl rfl rfl (fun _ _ _ => trivial) ?_
  clear hx8
  obtain ⟨x9, hx9, H⟩ := Let_elim H
  refine z_val (v := .int .i64 x9) (by subst hx9; exact val_bin rfl rfl rfl rfl (i64_add _ _ _)) rfl rfl rfl (fun _ _ _ => trivial) ?_
  clear hx9
  obtain ⟨x10, hx10, H⟩ := Let_elim H
  refine z_val (v := .int .i64 x10) (by subst hx10; exact val_bin rfl rfl rfl rfl (i64_quo _ _ _ (by decide))) rfl rfl rfl (fun _ _ _ => trivial) ?_
  clear hx10
  obtain ⟨hq_1, H⟩ := Chk_elim H
  obtain ⟨x11, hx11, H⟩ := Let_elim H
  refine z_makeSlice (f := U32) (z0 := 0#32) (N := x10.toNat) rfl rfl rfl Try.underlying46 (in49.trans rfl) rfl hq_1.1 rfl hq_1.2 (by decide) hx11 rfl rfl rfl (fun _ _ _ _ => trivial) (fun g_2 hs_4 => ?_)
  clear hx11
  refine z_val (v := .slice (some ⟨g_2, 0, none⟩) x11.length (x10.toNat)) (val_assign rfl rfl) rfl rfl rfl (fun _ _ _ => trivial) ?_
  refine z_nil ?_
  refine t_seq ?_
  refine t_seq ?_
  refine t_region (fun ops hops => ?_)
  clear hops
  refine z_val (v := .slice A0 a0.length c0) (val_move rfl rfl) rfl rfl rfl (fun _ _ _ => trivial) ?_
  obtain ⟨x13, hx13, H⟩ := Let_elim H
  refine z_val (v := .int .i64 x13) (by subst hx13; exact val_len rfl rfl rfl Try.underlying22) rfl rfl rfl (fun _ _ _ => trivial) ?_
  clear hx13
  refine z_val (v := .int .i64 0) (val_move rfl rfl) rfl rfl rfl (fun _ _ _ => trivial) ?_
  refine z_nil ?_
  refine t_block ?_
  obtain ⟨z1, hz1, HK1⟩ := Option.bind_eq_some_iff.1 H
  clear H
  refine t_while hz1 (fun (s : (List (BitVec 32)) × (Int)) (g : Unit) => [(0, .slice A0 a0.length c0), (3, .slice (some ⟨g_2, 0, none⟩) s.1.length (x10.toNat)), (12, .slice A0 a0.length c0), (13, .int .i64 x13), (14, .int .i64 s.2)]) (fun (s : (List (BitVec 32)) × (Int)) (g : Unit) => [(3, .slice (some ⟨g_2, 0, none⟩) s.1.length (x10.toNat))]) (fun (s : (List (BitVec 32)) × (Int)) (g : Unit) => Mm w0 Ex h ((.row (.slice (some ⟨g_2, 0, none⟩) s.1.length (x10.toNat)) 49 1 (s.1.map U32)) :: Lr)) (fun (s : (List (BitVec 32)) × (Int)) (g : Unit) => Mm w0 Ex h ((.row (.slice (some ⟨g_2, 0, none⟩) s.1.length (x10.toNat)) 49 1 (s.1.map U32)) :: Lr)) (fun (s : (List (BitVec 32)) × (Int)) (g : Unit) => Shp ((some ⟨g_2, 0, none⟩)) s.1.length (x10.toNat)) (fun (s : (List (BitVec 32)) × (Int)) (g : Unit) => Shp ((some ⟨g_2, 0, none⟩)) s.1.length (x10.toNat)) () hs_4 (fun a w ha hw => ⟨ha.cons rfl (ha.cons rfl (ha.cons rfl (ha.cons rfl (ha.cons rfl (ha.nil))))), hw⟩) (fun Gn Gb s g e hφ H hn1 hb1 hr1 => ?_) (fun s g hzz hφ => ?_)
  ·
    obtain ⟨y_3, x14⟩ := s
    try dsimp only at hφ
    have hs_5 := hφ; clear hφ
    change modexp_of.b1 x13 a0 y_3 x14 = some e at H
    unfold modexp_of.b1 at H
    clear hz1
    change T 40 _ _ _
    refine t_seq ?_
    refine t_region (fun ops hops => ?_)
    clear hops
    obtain ⟨x15, hx15, H⟩ := Let_elim H
    refine z_val (v := .bool x15) (by subst hx15; exact val_bin rfl rfl rfl rfl (i64_lss _ _ _)) rfl rfl rfl (fun _ _ _ => trivial) ?_
    clear hx15
    refine z_nil ?_
    refine t_seq ?_
    cases x15
    ·
      replace H := cond_f H
      refine t_cond_false rfl ?_
      refine t_exit rfl ?_
      obtain rfl := Option.some.inj H
      exact t_reach ((hb1 _ () rfl hs_5).weak (fun a ha => ha.cons rfl (ha.nil)) (fun w hw => hw))
    ·
      replace H := cond_t H
      refine t_cond_true rfl ?_
      refine t_skip ?_
      refine t_seq ?_
      refine t_block ?_
      refine t_seq ?_
      refine t_region (fun ops hops => ?_)
      clear hops
      refine z_val (v := .int .i64 x14) (val_move rfl rfl) rfl rfl rfl (fun _ _ _ => trivial) ?_
      obtain ⟨hq_6, H⟩ := Chk_elim H
      obtain ⟨b_7, o_8, hA_9, hc_10⟩ := hs0.at_ (idx_lt hq_6)
      refine z_val (v := .pointer (some ⟨b_7, o_8 + x14.toNat, none⟩)) (val_idxS0 rfl rfl rfl Try.underlying22 sz5 hq_6 hA_9 rfl) rfl rfl rfl (fun _ _ _ => trivial) ?_
      obtain ⟨x18, hx18, H⟩ := Let_elim H
      refine z_val (v := U8 x18) (by subst hx18; exact val_load1 rfl rfl Try.underlying5 rfl (fun _ hw => hc_10.cell hw)) rfl rfl rfl (fun _ _ _ => trivial) ?_
      clear hx18
      refine z_val (v := .int .i64 x14) (val_assign rfl rfl) rfl rfl rfl (fun _ _ _ => trivial) ?_
      refine z_val (v := U8 x18) (val_assign rfl rfl) rfl rfl rfl (fun _ _ _ => trivial) ?_
      refine z_nil ?_
      refine t_seq ?_
      refine t_region (fun ops hops => ?_)
      clear hops
      refine z_val (v := .slice A0 a0.length c0) (val_move rfl rfl) rfl rfl rfl (fun _ _ _ => trivial) ?_
      obtain ⟨x20, hx20, H⟩ := Let_elim H
      refine z_val (v := .int .i64 x20) (by subst hx20; exact val_len rfl rfl rfl Try.underlying22) rfl rfl rfl (fun _ _ _ => trivial) ?_
      clear hx20
      obtain ⟨x21, hx21, H⟩ := Let_elim H
      refine z_val (v := .int .i64 x21) (by subst hx21; exact val_bin rfl rfl rfl rfl (i64_sub _ _ _)) rfl rfl rfl (fun _ _ _ => trivial) ?_
      clear hx21
      refine z_val (v := .int .i64 x14) (val_move rfl rfl) rfl rfl rfl (fun _ _ _ => trivial) ?_
      obtain ⟨x23, hx23, H⟩ := Let_elim H
      refine z_val (v := .int .i64 x23) (by subst hx23; exact val_bin rfl rfl rfl rfl (i64_sub _ _ _)) rfl rfl rfl (fun _ _ _ => trivial) ?_
      clear hx23
      refine z_val (v := .int .i64 x23) (val_assign rfl rfl) rfl rfl rfl (fun _ _ _ => trivial) ?_
      refine z_nil ?_
      refine t_plan (C := Mm w0 Ex h ((.row (.slice (some ⟨g_2, 0, none⟩) y_3.length (x10.toNat)) 49 1 (y_3.map U32)) :: Lr)) [13] [(0, true), (1, true), (2, true), (3, true), (4, true), (5, true), (6, true), (7, true), (8, true), (9, true), (10, true), (11, true), (12, true), (13, false)] (by kernel_rfl) (by kernel_rfl) (fun _ hw => hw.drew) (fun ops hops => ?_)
      clear hops
      refine z_still (v := .slice (some ⟨g_2, 0, none⟩) y_3.length (x10.toNat)) (val_move rfl rfl) rfl rfl rfl (fun _ hw => hw) ?_
      refine z_still (v := .int .i64 x23) (val_move rfl rfl) rfl rfl rfl (fun _ hw => hw) ?_
      obtain ⟨x26, hx26, H⟩ := Let_elim H
      refine z_still (v := .int .i64 x26) (by subst hx26; exact val_bin rfl rfl rfl rfl (i64_quo _ _ _ (by decide))) rfl rfl rfl (fun _ hw => hw) ?_
      clear hx26
      obtain ⟨hq_11, H⟩ := Chk_elim H
      obtain ⟨g_12, hA_13⟩ := hs_5.blk (by omega)
      refine z_still (v := .pointer (some ⟨g_12, x26.toNat, none⟩)) (val_idxS1 rfl rfl rfl Try.underlying46 sz49 hq_11 hA_13 rfl) rfl rfl rfl (fun _ hw => hw) ?_
      obtain ⟨x28, hx28, H⟩ := Let_elim H
      refine z_still (v := U32 x28) (by subst hx28; exact val_load1 rfl rfl Try.underlying49 rfl (fun _ hw => row_cell' hw (j := 0) rfl hA_13 (idx_lt hq_11))) rfl rfl rfl (fun _ hw => hw) ?_
      clear hx28
      refine z_still (v := U8 x18) (val_move rfl rfl) rfl rfl rfl (fun _ hw => hw) ?_
      obtain ⟨x30, hx30, H⟩ := Let_elim H
      refine z_still (v := U32 x30) (by subst hx30; exact val_conv rfl rfl (fun w => conv_u8_u32 w _ _ _ (by rw [Try.underlying5]; rfl) Try.underlying49)) rfl rfl rfl (fun _ hw => hw) ?_
      clear hx30
      refine z_still (v := .int .i64 x23) (val_move rfl rfl) rfl rfl rfl (fun _ hw => hw) ?_
      obtain ⟨x32, hx32, H⟩ := Let_elim H
      refine z_still (v := .int .i64 x32) (by subst hx32; exact val_bin rfl rfl rfl rfl (i64_rem _ _ _ (by decide))) rfl rfl rfl (fun _ hw => hw) ?_
      clear hx32
      obtain ⟨x33, hx33, H⟩ := Let_elim H
      refine z_still (v := .int .i64 x33) (by subst hx33; exact val_bin rfl rfl rfl rfl (i64_mul _ _ _)) rfl rfl rfl (fun _ hw => hw) ?_
      clear hx33
      obtain ⟨hq_14, H⟩ := Chk_elim H
      obtain ⟨x34, hx34, H⟩ := Let_elim H
      refine z_still (v := U32 x34) (by subst hx34; exact val_bin rfl rfl rfl rfl (u32_shl _ _ _ _ hq_14)) rfl rfl rfl (fun _ hw => hw) ?_
      clear hx34
      obtain ⟨x35, hx35, H⟩ := Let_elim H
      refine z_still (v := U32 x35) (by subst hx35; exact val_bin rfl rfl rfl rfl (u32_or _ _ _)) rfl rfl rfl (fun _ hw => hw) ?_
      clear hx35
      obtain ⟨hq_15, H⟩ := Chk_elim H
      obtain ⟨g_16, hA_17⟩ := hs_5.blk (by omega)
      refine z_still (v := .pointer (some ⟨g_16, x26.toNat, none⟩)) (val_idxS1 rfl rfl rfl Try.underlying46 sz49 hq_15 hA_17 rfl) rfl rfl rfl (fun _ hw => hw) ?_
      obtain ⟨x_18, hx_18, H⟩ := Let_elim H
      have hs_19 : Shp ((some ⟨g_2, 0, none⟩)) x_18.length (x10.toNat) := by subst hx_18; rw [List.length_set]; exact hs_5
      refine z_storeRow' (j := 0) (zs := x_18) (L' := (.row (.slice (some ⟨g_2, 0, none⟩) x_18.length (x10.toNat)) 49 1 (x_18.map U32)) :: Lr) rfl rfl rfl rfl rfl rfl sz49 rfl hA_17 (idx_lt hq_15) (by subst hx_18; rfl) rfl rfl rfl (fun hb => absurd hb (by decide)) ?_
      have hl : y_3.length = x_18.length := by subst hx_18; rw [List.length_set]
      refine t_len (show y_3.length = x_18.length from hl) (fun z => [(0, .slice A0 a0.length c0), (3, .slice (some ⟨g_2, 0, none⟩) z (x10.toNat)), (4, .int .i64 x14), (5, U8 x18), (6, .int .i64 x23), (12, .slice A0 a0.length c0), (13, .int .i64 x13), (14, .int .i64 x14), (15, .bool true), (16, .int .i64 x14), (17, .pointer (some ⟨b_7, o_8 + x14.toNat, none⟩)), (18, U8 x18), (19, .slice A0 a0.length c0), (20, .int .i64 x20), (21, .int .i64 x21), (22, .int .i64 x14), (23, .int .i64 x23), (24, .slice (some ⟨g_2, 0, none⟩) z (x10.toNat)), (25, .int .i64 x23), (26, .int .i64 x26), (27, .pointer (some ⟨g_12, x26.toNat, none⟩)), (28, U32 x28), (29, U8 x18), (30, U32 x30), (31, .int .i64 x23), (32, .int .i64 x32), (33, .int .i64 x33), (34, U32 x34), (35, U32 x35), (36, .pointer (some ⟨g_16, x26.toNat, none⟩))]) (fun a ha => ha.cons rfl (ha.cons rfl (ha.cons rfl (ha.cons rfl (ha.cons rfl (ha.cons rfl (ha.cons rfl (ha.cons rfl (ha.cons rfl (ha.cons rfl (ha.cons rfl (ha.cons rfl (ha.cons rfl (ha.cons rfl (ha.cons rfl (ha.cons rfl (ha.cons rfl (ha.cons rfl (ha.cons rfl (ha.cons rfl (ha.cons rfl (ha.cons rfl (ha.cons rfl (ha.cons rfl (ha.cons rfl (ha.cons rfl (ha.cons rfl (ha.cons rfl (ha.cons rfl (ha.cons rfl (ha.nil))))))))))))))))))))))))))))))) ?_
      change T 40 _ _ _
      clear hx_18 hl
      refine z_nil ?_
      refine t_fin ?_
      refine t_region (fun ops hops => ?_)
      clear hops
      obtain ⟨x37, hx37, H⟩ := Let_elim H
      refine z_val (v := .int .i64 x37) (by subst hx37; exact val_bin rfl rfl rfl rfl (i64_add _ _ _)) rfl rfl rfl (fun _ _ _ => trivial) ?_
      clear hx37
      refine z_val (v := .int .i64 x37) (val_move rfl rfl) rfl rfl rfl (fun _ _ _ => trivial) ?_
      refine z_nil ?_
      obtain rfl := Option.some.inj H
      exact t_reach ((hn1 _ () rfl hs_19).weak (fun a ha => ha.cons rfl (ha.cons rfl (ha.cons rfl (ha.cons rfl (ha.cons rfl (ha.nil)))))) (fun w hw => hw))
  ·
    obtain ⟨y_3, x14⟩ := s
    try dsimp only at hφ
    have hs_5 := hφ; clear hφ
    subst hzz
    have H := HK1
    clear HK1 hz1
    replace H := sum_l H
    try dsimp only at H
    change T 40 _ _ _
    refine t_seq ?_
    refine t_seal (fun h_20 hS hs_21 => ?_)
    have hc_22 := hs_5.le
    refine t_region (fun ops hops => ?_)
    clear hops
    refine z_val (v := .slice (some ⟨g_2, 0, none⟩) y_3.length (x10.toNat)) (val_move rfl rfl) rfl rfl rfl (fun _ _ _ => trivial) ?_
    obtain ⟨x39, hx, H⟩ := Option.bind_eq_some_iff.1 H
    refine z_callG rfl Try.func42 nm42 bs42 rfl (fun w hw => modexp_number_trim.calls y_3 ((some ⟨g_2, 0, none⟩)) ((x10.toNat)) x39 hx hs_21 hc_22 hw) rfl rfl rfl (fun _ _ _ _ _ => trivial) (fun g hφ => ?_)
    obtain ⟨h_23, A_25, c_26⟩ := g
    try dsimp only at hφ
    obtain ⟨hS_24, hs_27, hc_28⟩ := hφ
    clear hx
    change T 40 _ _ _
    replace hs_21 := hs_21.up hS_24
    refine z_val (v := .slice A_25 x39.length c_26) (val_assign rfl rfl) rfl rfl rfl (fun _ _ _ => trivial) ?_
    refine z_nil ?_
    refine t_ret ?_
    obtain rfl := Option.some.inj H
    exact ret1 rfl (res_tmp rfl) (fun _ hw => ⟨⟨h_23, A_25, c_26⟩, rfl, ⟨(hS.trans hS_24), hs_27, hc_28⟩, hw⟩)
def modexp_number_times.b2 (x26 : Int) (a1 : List (BitVec 32)) (x24 : BitVec 32) (x20 : Int) (y_3_11 : List (BitVec 32)) (x8 : BitVec 64) (x27 : Int) : Option (Ctl ((List (BitVec 32)) × (BitVec 64) × (Int)) (List (BitVec 32))) :=
  Let (decide (x27 < x26)) fun x28 => (bif x28 then Chk ((0 : Int) ≤ x27 ∧ x27 < (a1.length : Int)) <| Let (lget a1 x27.toNat) fun x31 => Let (x24.setWidth 64) fun x33 => Let (x31.setWidth 64) fun x35 => Let (x33 * x35) fun x36 => Let (wi (x20 + x27)) fun x40 => Chk ((0 : Int) ≤ x40 ∧ x40 < (y_3_11.length : Int)) <| Let (lget y_3_11 x40.toNat) fun x42 => Let (x42.setWidth 64) fun x43 => Let (x36 + x43) fun x44 => Let (x44 + x8) fun x46 => Let (wi (x20 + x27)) fun x50 => Let (x46.setWidth 32) fun x52 => Chk ((0 : Int) ≤ x50 ∧ x50 < (y_3_11.length : Int)) <| Let (y_3_11.set x50.toNat x52) fun x_24 => Let (x46 >>> 32) fun x55 => Let (wi (x27 + 1)) fun x56 => some (.next (x_24, x55, x56)) else some (.brk (y_3_11, x8, x27)))
def modexp_number_times.b1 (x19 : Int) (a0 : List (BitVec 32)) (a1 : List (BitVec 32)) (y_3 : List (BitVec 32)) (x20 : Int) : Option (Ctl ((List (BitVec 32)) × (Int)) (List (BitVec 32))) :=
  Let (decide (x20 < x19)) fun x21 => (bif x21 then Chk ((0 : Int) ≤ x20 ∧ x20 < (a0.length : Int)) <| Let (lget a0 x20.toNat) fun x24 => Let ((a1.length : Int)) fun x26 => (wlx (σ := (List (BitVec 32)) × (BitVec 64) × (Int)) (fun s => modexp_number_times.b2 x26 a1 x24 x20 s.1 s.2.1 s.2.2) (y_3, 0#64, 0)).bind (Sum.elim (fun s => (fun y_3_11 x8 x27 => Let ((a1.length : Int)) fun x60 => Let (wi (x20 + x60)) fun x61 => Let (x8.setWidth 32) fun x63 => Chk ((0 : Int) ≤ x61 ∧ x61 < (y_3_11.length : Int)) <| Let (y_3_11.set x61.toNat x63) fun x_29 => Let (wi (x20 + 1)) fun x65 => some (.next (x_29, x65))) s.1 s.2.1 s.2.2) (fun r => some (.ret r))) else some (.brk (y_3, x20)))
def modexp_number_times (a0 : List (BitVec 32)) (a1 : List (BitVec 32)) : Option (List (BitVec 32)) :=
  Let ((a0.length : Int)) fun x13 => Let ((a1.length : Int)) fun x15 => Let (wi (x13 + x15)) fun x16 => Chk ((0 : Int) ≤ x16 ∧ x16.toNat * 4 ≤ 140737488355328) <| Let (List.replicate x16.toNat 0#32) fun x17 => Let ((a0.length : Int)) fun x19 => (wlx (σ := (List (BitVec 32)) × (Int)) (fun s => modexp_number_times.b1 x19 a0 a1 s.1 s.2) (x17, 0)).bind (Sum.elim (fun s => (fun y_3 x20 => (modexp_number_trim y_3).bind fun x67 => some x67) s.1 s.2) (fun r => some r))
set_option maxRecDepth 100000 in
theorem modexp_number_times.calls  (a0 : List (BitVec 32)) (a1 : List (BitVec 32)) (A0 : Option Addr) (c0 : Nat) (A1 : Option Addr) (c1 : Nat) (r : List (BitVec 32)) (H : modexp_number_times a0 a1 = some r) {w0 : World} {Ex : List Nat} {h : Frag} {Lr : List Ent} {w : World} (hs0 : SlH h U32 A0 a0) (hc0 : a0.length ≤ c0) (hs1 : SlH h U32 A1 a1) (hc1 : a1.length ≤ c1)  (hM : Mm w0 Ex h (Lr) w) :
    Calls Try.prog 24 #[.slice A0 a0.length c0, .slice A1 a1.length c1] w fun e w' => ∃ (g : (Frag) × (Option Addr) × (Nat)), e = .returned (.slice g.2.1 r.length g.2.2) ∧ (Sub h g.1 ∧ SlH g.1 U32 g.2.1 r ∧ r.length ≤ g.2.2) ∧ Mm w0 Ex g.1 (Lr) w' := by
  unfold modexp_number_times at H
  refine t_enter (vs := [.slice A0 a0.length c0, .slice A1 a1.length c1]) (n := 68) Try.func24 rfl rfl rfl hM ?_
  clear hM
  change T 68 _ _ _
  refine t_seq ?_
  refine t_region (fun ops hops => ?_)
  clear hops
  refine z_val (v := .slice none 0 0) (val_assign rfl rfl) rfl rfl rfl (fun _ _ _ => trivial) ?_
  refine z_nil ?_
  refine t_seq ?_
  refine t_region (fun ops hops => ?_)
  clear hops
  refine z_val (v := .slice A0 a0.length c0) (val_move rfl rfl) rfl rfl rfl (fun _ _ _ => trivial) ?_
  obtain ⟨x13, hx13, H⟩ := Let_elim H
  refine z_val (v := .int .i64 x13) (by subst hx13; exact val_len rfl rfl rfl Try.underlying46) rfl rfl rfl (fun _ _ _ => trivial) ?_
  clear hx13
  refine z_val (v := .slice A1 a1.length c1) (val_move rfl rfl) rfl rfl rfl (fun _ _ _ => trivial) ?_
  obtain ⟨x15, hx15, H⟩ := Let_elim H
  refine z_val (v := .int .i64 x15) (by subst hx15; exact val_len rfl rfl rfl Try.underlying46) rfl rfl rfl (fun _ _ _ => trivial) ?_
  clear hx15
  obtain ⟨x16, hx16, H⟩ := Let_elim H
  refine z_val (v := .int .i64 x16) (by subst hx16; exact val_bin rfl rfl rfl rfl (i64_add _ _ _)) rfl rfl rfl (fun _ _ _ => trivial) ?_
  clear hx16
  obtain ⟨hq_1, H⟩ := Chk_elim H
  obtain ⟨x17, hx17, H⟩ := Let_elim H
  refine z_makeSlice (f := U32) (z0 := 0#32) (N := x16.toNat) rfl rfl rfl Try.underlying46 (in49.trans rfl) rfl hq_1.1 rfl hq_1.2 (by decide) hx17 rfl rfl rfl (fun _ _ _ _ => trivial) (fun g_2 hs_4 => ?_)
  clear hx17
  refine z_val (v := .slice (some ⟨g_2, 0, none⟩) x17.length (x16.toNat)) (val_assign rfl rfl) rfl rfl rfl (fun _ _ _ => trivial) ?_
  refine z_nil ?_
  refine t_seq ?_
  refine t_seq ?_
  refine t_region (fun ops hops => ?_)
  clear hops
  refine z_val (v := .slice A0 a0.length c0) (val_move rfl rfl) rfl rfl rfl (fun _ _ _ => trivial) ?_
  obtain ⟨x19, hx19, H⟩ := Let_elim H
  refine z_val (v := .int .i64 x19) (by subst hx19; exact val_len rfl rfl rfl Try.underlying46) rfl rfl rfl (fun _ _ _ => trivial) ?_
  clear hx19
  refine z_val (v := .int .i64 0) (val_move rfl rfl) rfl rfl rfl (fun _ _ _ => trivial) ?_
  refine z_nil ?_
  refine t_block ?_
  obtain ⟨z1, hz1, HK1⟩ := Option.bind_eq_some_iff.1 H
  clear H
  refine t_while hz1 (fun (s : (List (BitVec 32)) × (Int)) (g : Unit) => [(1, .slice A1 a1.length c1), (5, .slice (some ⟨g_2, 0, none⟩) s.1.length (x16.toNat)), (18, .slice A0 a0.length c0), (19, .int .i64 x19), (20, .int .i64 s.2)]) (fun (s : (List (BitVec 32)) × (Int)) (g : Unit) => [(5, .slice (some ⟨g_2, 0, none⟩) s.1.length (x16.toNat))]) (fun (s : (List (BitVec 32)) × (Int)) (g : Unit) => Mm w0 Ex h ((.row (.slice (some ⟨g_2, 0, none⟩) s.1.length (x16.toNat)) 49 1 (s.1.map U32)) :: Lr)) (fun (s : (List (BitVec 32)) × (Int)) (g : Unit) => Mm w0 Ex h ((.row (.slice (some ⟨g_2, 0, none⟩) s.1.length (x16.toNat)) 49 1 (s.1.map U32)) :: Lr)) (fun (s : (List (BitVec 32)) × (Int)) (g : Unit) => Shp ((some ⟨g_2, 0, none⟩)) s.1.length (x16.toNat)) (fun (s : (List (BitVec 32)) × (Int)) (g : Unit) => Shp ((some ⟨g_2, 0, none⟩)) s.1.length (x16.toNat)) () hs_4 (fun a w ha hw => ⟨ha.cons rfl (ha.cons rfl (ha.cons rfl (ha.cons rfl (ha.cons rfl (ha.nil))))), hw⟩) (fun Gn Gb s g e hφ H hn1 hb1 hr1 => ?_) (fun s g hzz hφ => ?_)
  ·
    obtain ⟨y_3, x20⟩ := s
    try dsimp only at hφ
    have hs_5 := hφ; clear hφ
    change modexp_number_times.b1 x19 a0 a1 y_3 x20 = some e at H
    unfold modexp_number_times.b1 at H
    clear hz1
    change T 68 _ _ _
    refine t_seq ?_
    refine t_region (fun ops hops => ?_)
    clear hops
    obtain ⟨x21, hx21, H⟩ := Let_elim H
    refine z_val (v := .bool x21) (by subst hx21; exact val_bin rfl rfl rfl rfl (i64_lss _ _ _)) rfl rfl rfl (fun _ _ _ => trivial) ?_
    clear hx21
    refine z_nil ?_
    refine t_seq ?_
    cases x21
    ·
      replace H := cond_f H
      refine t_cond_false rfl ?_
      refine t_exit rfl ?_
      obtain rfl := Option.some.inj H
      exact t_reach ((hb1 _ () rfl hs_5).weak (fun a ha => ha.cons rfl (ha.nil)) (fun w hw => hw))
    ·
      replace H := cond_t H
      refine t_cond_true rfl ?_
      refine t_skip ?_
      refine t_seq ?_
      refine t_block ?_
      refine t_seq ?_
      refine t_region (fun ops hops => ?_)
      clear hops
      refine z_val (v := .int .i64 x20) (val_move rfl rfl) rfl rfl rfl (fun _ _ _ => trivial) ?_
      obtain ⟨hq_6, H⟩ := Chk_elim H
      obtain ⟨b_7, o_8, hA_9, hc_10⟩ := hs0.at_ (idx_lt hq_6)
      refine z_val (v := .pointer (some ⟨b_7, o_8 + x20.toNat, none⟩)) (val_idxS0 rfl rfl rfl Try.underlying46 sz49 hq_6 hA_9 rfl) rfl rfl rfl (fun _ _ _ => trivial) ?_
      obtain ⟨x24, hx24, H⟩ := Let_elim H
      refine z_val (v := U32 x24) (by subst hx24; exact val_load1 rfl rfl Try.underlying49 rfl (fun _ hw => hc_10.cell hw)) rfl rfl rfl (fun _ _ _ => trivial) ?_
      clear hx24
      refine z_val (v := .int .i64 x20) (val_assign rfl rfl) rfl rfl rfl (fun _ _ _ => trivial) ?_
      refine z_val (v := U32 x24) (val_assign rfl rfl) rfl rfl rfl (fun _ _ _ => trivial) ?_
      refine z_nil ?_
      refine t_seq ?_
      refine t_region (fun ops hops => ?_)
      clear hops
      refine z_val (v := .int .u64 0) (val_assign rfl rfl) rfl rfl rfl (fun _ _ _ => trivial) ?_
      refine z_nil ?_
      refine t_seq ?_
      refine t_seq ?_
      refine t_region (fun ops hops => ?_)
      clear hops
      refine z_val (v := .slice A1 a1.length c1) (val_move rfl rfl) rfl rfl rfl (fun _ _ _ => trivial) ?_
      obtain ⟨x26, hx26, H⟩ := Let_elim H
      refine z_val (v := .int .i64 x26) (by subst hx26; exact val_len rfl rfl rfl Try.underlying46) rfl rfl rfl (fun _ _ _ => trivial) ?_
      clear hx26
      refine z_val (v := .int .i64 0) (val_move rfl rfl) rfl rfl rfl (fun _ _ _ => trivial) ?_
      refine z_nil ?_
      refine t_block ?_
      obtain ⟨z2, hz2, HK2⟩ := Option.bind_eq_some_iff.1 H
      clear H
      refine t_while hz2 (fun (s : (List (BitVec 32)) × (BitVec 64) × (Int)) (g : Unit) => [(1, .slice A1 a1.length c1), (5, .slice (some ⟨g_2, 0, none⟩) s.1.length (x16.toNat)), (6, .int .i64 x20), (7, U32 x24), (8, U64 s.2.1), (18, .slice A0 a0.length c0), (19, .int .i64 x19), (20, .int .i64 x20), (25, .slice A1 a1.length c1), (26, .int .i64 x26), (27, .int .i64 s.2.2)]) (fun (s : (List (BitVec 32)) × (BitVec 64) × (Int)) (g : Unit) => [(1, .slice A1 a1.length c1), (5, .slice (some ⟨g_2, 0, none⟩) s.1.length (x16.toNat)), (6, .int .i64 x20), (8, U64 s.2.1), (18, .slice A0 a0.length c0), (19, .int .i64 x19), (20, .int .i64 x20)]) (fun (s : (List (BitVec 32)) × (BitVec 64) × (Int)) (g : Unit) => Mm w0 Ex h ((.row (.slice (some ⟨g_2, 0, none⟩) s.1.length (x16.toNat)) 49 1 (s.1.map U32)) :: Lr)) (fun (s : (List (BitVec 32)) × (BitVec 64) × (Int)) (g : Unit) => Mm w0 Ex h ((.row (.slice (some ⟨g_2, 0, none⟩) s.1.length (x16.toNat)) 49 1 (s.1.map U32)) :: Lr)) (fun (s : (List (BitVec 32)) × (BitVec 64) × (Int)) (g : Unit) => Shp ((some ⟨g_2, 0, none⟩)) s.1.length (x16.toNat)) (fun (s : (List (BitVec 32)) × (BitVec 64) × (Int)) (g : Unit) => Shp ((some ⟨g_2, 0, none⟩)) s.1.length (x16.toNat)) () hs_5 (fun a w ha hw => ⟨ha.cons rfl (ha.cons rfl (ha.cons rfl (ha.cons rfl (ha.cons rfl (ha.cons rfl (ha.cons rfl (ha.cons rfl (ha.cons rfl (ha.cons rfl (ha.cons rfl (ha.nil))))))))))), hw⟩) (fun Gn Gb s g e hφ H hn2 hb2 hr2 => ?_) (fun s g hzz hφ => ?_)
      ·
        obtain ⟨y_3_11, x8, x27⟩ := s
        try dsimp only at hφ
        have hs_12 := hφ; clear hφ
        change modexp_number_times.b2 x26 a1 x24 x20 y_3_11 x8 x27 = some e at H
        unfold modexp_number_times.b2 at H
        clear hz2
        change T 68 _ _ _
        refine t_seq ?_
        refine t_region (fun ops hops => ?_)
        clear hops
        obtain ⟨x28, hx28, H⟩ := Let_elim H
        refine z_val (v := .bool x28) (by subst hx28; exact val_bin rfl rfl rfl rfl (i64_lss _ _ _)) rfl rfl rfl (fun _ _ _ => trivial) ?_
        clear hx28
        refine z_nil ?_
        refine t_seq ?_
        cases x28
        ·
          replace H := cond_f H
          refine t_cond_false rfl ?_
          refine t_exit rfl ?_
          obtain rfl := Option.some.inj H
          exact t_reach ((hb2 _ () rfl hs_12).weak (fun a ha => ha.cons rfl (ha.cons rfl (ha.cons rfl (ha.cons rfl (ha.cons rfl (ha.cons rfl (ha.cons rfl (ha.nil)))))))) (fun w hw => hw))
        ·
          replace H := cond_t H
          refine t_cond_true rfl ?_
          refine t_skip ?_
          refine t_seq ?_
          refine t_block ?_
          refine t_seq ?_
          refine t_region (fun ops hops => ?_)
          clear hops
          refine z_val (v := .int .i64 x27) (val_move rfl rfl) rfl rfl rfl (fun _ _ _ => trivial) ?_
          obtain ⟨hq_13, H⟩ := Chk_elim H
          obtain ⟨b_14, o_15, hA_16, hc_17⟩ := hs1.at_ (idx_lt hq_13)
          refine z_val (v := .pointer (some ⟨b_14, o_15 + x27.toNat, none⟩)) (val_idxS0 rfl rfl rfl Try.underlying46 sz49 hq_13 hA_16 rfl) rfl rfl rfl (fun _ _ _ => trivial) ?_
          obtain ⟨x31, hx31, H⟩ := Let_elim H
          refine z_val (v := U32 x31) (by subst hx31; exact val_load1 rfl rfl Try.underlying49 rfl (fun _ hw => hc_17.cell hw)) rfl rfl rfl (fun _ _ _ => trivial) ?_
          clear hx31
          refine z_val (v := .int .i64 x27) (val_assign rfl rfl) rfl rfl rfl (fun _ _ _ => trivial) ?_
          refine z_val (v := U32 x31) (val_assign rfl rfl) rfl rfl rfl (fun _ _ _ => trivial) ?_
          refine z_nil ?_
          refine t_seq ?_
          refine t_region (fun ops hops => ?_)
          clear hops
          refine z_val (v := U32 x24) (val_move rfl rfl) rfl rfl rfl (fun _ _ _ => trivial) ?_
          obtain ⟨x33, hx33, H⟩ := Let_elim H
          refine z_val (v := U64 x33) (by subst hx33; exact val_conv rfl rfl (fun w => conv_u32_u64 w _ _ _ (by rw [Try.underlying49]; rfl) Try.underlying38)) rfl rfl rfl (fun _ _ _ => trivial) ?_
          clear hx33
          refine z_val (v := U32 x31) (val_move rfl rfl) rfl rfl rfl (fun _ _ _ => trivial) ?_
          obtain ⟨x35, hx35, H⟩ := Let_elim H
          refine z_val (v := U64 x35) (by subst hx35; exact val_conv rfl rfl (fun w => conv_u32_u64 w _ _ _ (by rw [Try.underlying49]; rfl) Try.underlying38)) rfl rfl rfl (fun _ _ _ => trivial) ?_
          clear hx35
          obtain ⟨x36, hx36, H⟩ := Let_elim H
          refine z_val (v := U64 x36) (by subst hx36; exact val_bin rfl rfl rfl rfl (u64_mul _ _ _)) rfl rfl rfl (fun _ _ _ => trivial) ?_
          clear hx36
          refine z_val (v := .slice (some ⟨g_2, 0, none⟩) y_3_11.length (x16.toNat)) (val_move rfl rfl) rfl rfl rfl (fun _ _ _ => trivial) ?_
          refine z_val (v := .int .i64 x20) (val_move rfl rfl) rfl rfl rfl (fun _ _ _ => trivial) ?_
          refine z_val (v := .int .i64 x27) (val_move rfl rfl) rfl rfl rfl (fun _ _ _ => trivial) ?_
          obtain ⟨x40, hx40, H⟩ := Let_elim H
          refine z_val (v := .int .i64 x40) (by subst hx40; exact val_bin rfl rfl rfl rfl (i64_add _ _ _)) rfl rfl rfl (fun _ _ _ => trivial) ?_
          clear hx40
          obtain ⟨hq_18, H⟩ := Chk_elim H
          obtain ⟨g_19, hA_20⟩ := hs_12.blk (by omega)
          refine z_val (v := .pointer (some ⟨g_19, x40.toNat, none⟩)) (val_idxS1 rfl rfl rfl Try.underlying46 sz49 hq_18 hA_20 rfl) rfl rfl rfl (fun _ _ _ => trivial) ?_
          obtain ⟨x42, hx42, H⟩ := Let_elim H
          refine z_val (v := U32 x42) (by subst hx42; exact val_load1 rfl rfl Try.underlying49 rfl (fun _ hw => row_cell' hw (j := 0) rfl hA_20 (idx_lt hq_18))) rfl rfl rfl (fun _ _ _ => trivial) ?_
          clear hx42
          obtain ⟨x43, hx43, H⟩ := Let_elim H
          refine z_val (v := U64 x43) (by subst hx43; exact val_conv rfl rfl (fun w => conv_u32_u64 w _ _ _ (by rw [Try.underlying49]; rfl) Try.underlying38)) rfl rfl rfl (fun _ _ _ => trivial) ?_
          clear hx43
          obtain ⟨x44, hx44, H⟩ := Let_elim H
          refine z_val (v := U64 x44) (by subst hx44; exact val_bin rfl rfl rfl rfl (u64_add _ _ _)) rfl rfl rfl (fun _ _ _ => trivial) ?_
          clear hx44
          refine z_val (v := U64 x8) (val_move rfl rfl) rfl rfl rfl (fun _ _ _ => trivial) ?_
          obtain ⟨x46, hx46, H⟩ := Let_elim H
          refine z_val (v := U64 x46) (by subst hx46; exact val_bin rfl rfl rfl rfl (u64_add _ _ _)) rfl rfl rfl (fun _ _ _ => trivial) ?_
          clear hx46
          refine z_val (v := U64 x46) (val_assign rfl rfl) rfl rfl rfl (fun _ _ _ => trivial) ?_
          refine z_nil ?_
          refine t_seq ?_
          refine t_region (fun ops hops => ?_)
          clear hops
          refine z_val (v := .slice (some ⟨g_2, 0, none⟩) y_3_11.length (x16.toNat)) (val_move rfl rfl) rfl rfl rfl (fun _ _ _ => trivial) ?_
          refine z_val (v := .int .i64 x20) (val_move rfl rfl) rfl rfl rfl (fun _ _ _ => trivial) ?_
          refine z_val (v := .int .i64 x27) (val_move rfl rfl) rfl rfl rfl (fun _ _ _ => trivial) ?_
          obtain ⟨x50, hx50, H⟩ := Let_elim H
          refine z_val (v := .int .i64 x50) (by subst hx50; exact val_bin rfl rfl rfl rfl (i64_add _ _ _)) rfl rfl rfl (fun _ _ _ => trivial) ?_
          clear hx50
          refine z_val (v := U64 x46) (val_move rfl rfl) rfl rfl rfl (fun _ _ _ => trivial) ?_
          obtain ⟨x52, hx52, H⟩ := Let_elim H
          refine z_val (v := U32 x52) (by subst hx52; exact val_conv rfl rfl (fun w => conv_u64_u32 w _ _ _ (by rw [Try.underlying38]; rfl) Try.underlying49)) rfl rfl rfl (fun _ _ _ => trivial) ?_
          clear hx52
          obtain ⟨hq_21, H⟩ := Chk_elim H
          obtain ⟨g_22, hA_23⟩ := hs_12.blk (by omega)
          refine z_val (v := .pointer (some ⟨g_22, x50.toNat, none⟩)) (val_idxS1 rfl rfl rfl Try.underlying46 sz49 hq_21 hA_23 rfl) rfl rfl rfl (fun _ _ _ => trivial) ?_
          obtain ⟨x_24, hx_24, H⟩ := Let_elim H
          have hs_25 : Shp ((some ⟨g_2, 0, none⟩)) x_24.length (x16.toNat) := by subst hx_24; rw [List.length_set]; exact hs_12
          refine z_storeRow' (j := 0) (zs := x_24) (L' := (.row (.slice (some ⟨g_2, 0, none⟩) x_24.length (x16.toNat)) 49 1 (x_24.map U32)) :: Lr) rfl rfl rfl rfl rfl rfl sz49 rfl hA_23 (idx_lt hq_21) (by subst hx_24; rfl) rfl rfl rfl (fun _ _ _ => trivial) ?_
          have hl : y_3_11.length = x_24.length := by subst hx_24; rw [List.length_set]
          refine t_len (show y_3_11.length = x_24.length from hl) (fun z => [(1, .slice A1 a1.length c1), (5, .slice (some ⟨g_2, 0, none⟩) z (x16.toNat)), (6, .int .i64 x20), (7, U32 x24), (8, U64 x8), (9, .int .i64 x27), (10, U32 x31), (11, U64 x46), (18, .slice A0 a0.length c0), (19, .int .i64 x19), (20, .int .i64 x20), (25, .slice A1 a1.length c1), (26, .int .i64 x26), (27, .int .i64 x27), (28, .bool true), (29, .int .i64 x27), (30, .pointer (some ⟨b_14, o_15 + x27.toNat, none⟩)), (31, U32 x31), (32, U32 x24), (33, U64 x33), (34, U32 x31), (35, U64 x35), (36, U64 x36), (37, .slice (some ⟨g_2, 0, none⟩) z (x16.toNat)), (38, .int .i64 x20), (39, .int .i64 x27), (40, .int .i64 x40), (41, .pointer (some ⟨g_19, x40.toNat, none⟩)), (42, U32 x42), (43, U64 x43), (44, U64 x44), (45, U64 x8), (46, U64 x46), (47, .slice (some ⟨g_2, 0, none⟩) z (x16.toNat)), (48, .int .i64 x20), (49, .int .i64 x27), (50, .int .i64 x50), (51, U64 x46), (52, U32 x52), (53, .pointer (some ⟨g_22, x50.toNat, none⟩))]) (fun a ha => ha.cons rfl (ha.cons rfl (ha.cons rfl (ha.cons rfl (ha.cons rfl (ha.cons rfl (ha.cons rfl (ha.cons rfl (ha.cons rfl (ha.cons rfl (ha.cons rfl (ha.cons rfl (ha.cons rfl (ha.cons rfl (ha.cons rfl (ha.cons rfl (ha.cons rfl (ha.cons rfl (ha.cons rfl (ha.cons rfl (ha.cons rfl (ha.cons rfl (ha.cons rfl (ha.cons rfl (ha.cons rfl (ha.cons rfl (ha.cons rfl (ha.cons rfl (ha.cons rfl (ha.cons rfl (ha.cons rfl (ha.cons rfl (ha.cons rfl (ha.cons rfl (ha.cons rfl (ha.cons rfl (ha.cons rfl (ha.cons rfl (ha.cons rfl (ha.cons rfl (ha.nil))))))))))))))))))))))))))))))))))))))))) ?_
          change T 68 _ _ _
          clear hx_24 hl
          refine z_nil ?_
          refine t_region (fun ops hops => ?_)
          clear hops
          refine z_val (v := U64 x46) (val_move rfl rfl) rfl rfl rfl (fun _ _ _ => trivial) ?_
          obtain ⟨x55, hx55, H⟩ := Let_elim H
          refine z_val (v := U64 x55) (by subst hx55; exact val_bin rfl rfl rfl rfl (u64_shr _ _ _ _ (by decide))) rfl rfl rfl (fun _ _ _ => trivial) ?_
          clear hx55
          refine z_val (v := U64 x55) (val_assign rfl rfl) rfl rfl rfl (fun _ _ _ => trivial) ?_
          refine z_nil ?_
          refine t_fin ?_
          refine t_region (fun ops hops => ?_)
          clear hops
          obtain ⟨x56, hx56, H⟩ := Let_elim H
          refine z_val (v := .int .i64 x56) (by subst hx56; exact val_bin rfl rfl rfl rfl (i64_add _ _ _)) rfl rfl rfl (fun _ _ _ => trivial) ?_
          clear hx56
          refine z_val (v := .int .i64 x56) (val_move rfl rfl) rfl rfl rfl (fun _ _ _ => trivial) ?_
          refine z_nil ?_
          obtain rfl := Option.some.inj H
          exact t_reach ((hn2 _ () rfl hs_25).weak (fun a ha => ha.cons rfl (ha.cons rfl (ha.cons rfl (ha.cons rfl (ha.cons rfl (ha.cons rfl (ha.cons rfl (ha.cons rfl (ha.cons rfl (ha.cons rfl (ha.cons rfl (ha.nil)))))))))))) (fun w hw => hw))
      ·
        obtain ⟨y_3_11, x8, x27⟩ := s
        try dsimp only at hφ
        have hs_12 := hφ; clear hφ
        subst hzz
        have H := HK2
        clear HK2 hz2
        replace H := sum_l H
        try dsimp only at H
        change T 68 _ _ _
        refine t_region (fun ops hops => ?_)
        clear hops
        refine z_val (v := .slice (some ⟨g_2, 0, none⟩) y_3_11.length (x16.toNat)) (val_move rfl rfl) rfl rfl rfl (fun _ _ _ => trivial) ?_
        refine z_val (v := .int .i64 x20) (val_move rfl rfl) rfl rfl rfl (fun _ _ _ => trivial) ?_
        refine z_val (v := .slice A1 a1.length c1) (val_move rfl rfl) rfl rfl rfl (fun _ _ _ => trivial) ?_
        obtain ⟨x60, hx60, H⟩ := Let_elim H
        refine z_val (v := .int .i64 x60) (by subst hx60; exact val_len rfl rfl rfl Try.underlying46) rfl rfl rfl (fun _ _ _ => trivial) ?_
        clear hx60
        obtain ⟨x61, hx61, H⟩ := Let_elim H
        refine z_val (v := .int .i64 x61) (by subst hx61; exact val_bin rfl rfl rfl rfl (i64_add _ _ _)) rfl rfl rfl (fun _ _ _ => trivial) ?_
        clear hx61
        refine z_val (v := U64 x8) (val_move rfl rfl) rfl rfl rfl (fun _ _ _ => trivial) ?_
        obtain ⟨x63, hx63, H⟩ := Let_elim H
        refine z_val (v := U32 x63) (by subst hx63; exact val_conv rfl rfl (fun w => conv_u64_u32 w _ _ _ (by rw [Try.underlying38]; rfl) Try.underlying49)) rfl rfl rfl (fun _ _ _ => trivial) ?_
        clear hx63
        obtain ⟨hq_26, H⟩ := Chk_elim H
        obtain ⟨g_27, hA_28⟩ := hs_12.blk (by omega)
        refine z_val (v := .pointer (some ⟨g_27, x61.toNat, none⟩)) (val_idxS1 rfl rfl rfl Try.underlying46 sz49 hq_26 hA_28 rfl) rfl rfl rfl (fun _ _ _ => trivial) ?_
        obtain ⟨x_29, hx_29, H⟩ := Let_elim H
        have hs_30 : Shp ((some ⟨g_2, 0, none⟩)) x_29.length (x16.toNat) := by subst hx_29; rw [List.length_set]; exact hs_12
        refine z_storeRow' (j := 0) (zs := x_29) (L' := (.row (.slice (some ⟨g_2, 0, none⟩) x_29.length (x16.toNat)) 49 1 (x_29.map U32)) :: Lr) rfl rfl rfl rfl rfl rfl sz49 rfl hA_28 (idx_lt hq_26) (by subst hx_29; rfl) rfl rfl rfl (fun _ _ _ => trivial) ?_
        have hl_31 : y_3_11.length = x_29.length := by subst hx_29; rw [List.length_set]
        refine t_len (show y_3_11.length = x_29.length from hl_31) (fun z => [(1, .slice A1 a1.length c1), (5, .slice (some ⟨g_2, 0, none⟩) z (x16.toNat)), (6, .int .i64 x20), (8, U64 x8), (18, .slice A0 a0.length c0), (19, .int .i64 x19), (20, .int .i64 x20), (57, .slice (some ⟨g_2, 0, none⟩) z (x16.toNat)), (58, .int .i64 x20), (59, .slice A1 a1.length c1), (60, .int .i64 x60), (61, .int .i64 x61), (62, U64 x8), (63, U32 x63), (64, .pointer (some ⟨g_27, x61.toNat, none⟩))]) (fun a ha => ha.cons rfl (ha.cons rfl (ha.cons rfl (ha.cons rfl (ha.cons rfl (ha.cons rfl (ha.cons rfl (ha.cons rfl (ha.cons rfl (ha.cons rfl (ha.cons rfl (ha.cons rfl (ha.cons rfl (ha.cons rfl (ha.cons rfl (ha.nil)))))))))))))))) ?_
        change T 68 _ _ _
        clear hx_29 hl_31
        refine z_nil ?_
        refine t_fin ?_
        refine t_region (fun ops hops => ?_)
        clear hops
        obtain ⟨x65, hx65, H⟩ := Let_elim H
        refine z_val (v := .int .i64 x65) (by subst hx65; exact val_bin rfl rfl rfl rfl (i64_add _ _ _)) rfl rfl rfl (fun _ _ _ => trivial) ?_
        clear hx65
        refine z_val (v := .int .i64 x65) (val_move rfl rfl) rfl rfl rfl (fun _ _ _ => trivial) ?_
        refine z_nil ?_
        obtain rfl := Option.some.inj H
        exact t_reach ((hn1 _ () rfl hs_30).weak (fun a ha => ha.cons rfl (ha.cons rfl (ha.cons rfl (ha.cons rfl (ha.cons rfl (ha.nil)))))) (fun w hw => hw))
  ·
    obtain ⟨y_3, x20⟩ := s
    try dsimp only at hφ
    have hs_5 := hφ; clear hφ
    subst hzz
    have H := HK1
    clear HK1 hz1
    replace H := sum_l H
    try dsimp only at H
    change T 68 _ _ _
    refine t_seq ?_
    refine t_seal (fun h_32 hS hs_33 => ?_)
    have hc_34 := hs_5.le
    refine t_region (fun ops hops => ?_)
    clear hops
    refine z_val (v := .slice (some ⟨g_2, 0, none⟩) y_3.length (x16.toNat)) (val_move rfl rfl) rfl rfl rfl (fun _ _ _ => trivial) ?_
    obtain ⟨x67, hx, H⟩ := Option.bind_eq_some_iff.1 H
    refine z_callG rfl Try.func42 nm42 bs42 rfl (fun w hw => modexp_number_trim.calls y_3 ((some ⟨g_2, 0, none⟩)) ((x16.toNat)) x67 hx hs_33 hc_34 hw) rfl rfl rfl (fun _ _ _ _ _ => trivial) (fun g hφ => ?_)
    obtain ⟨h_35, A_37, c_38⟩ := g
    try dsimp only at hφ
    obtain ⟨hS_36, hs_39, hc_40⟩ := hφ
    clear hx
    change T 68 _ _ _
    replace hs_33 := hs_33.up hS_36
    refine z_val (v := .slice A_37 x67.length c_38) (val_assign rfl rfl) rfl rfl rfl (fun _ _ _ => trivial) ?_
    refine z_nil ?_
    refine t_ret ?_
    obtain rfl := Option.some.inj H
    exact ret1 rfl (res_tmp rfl) (fun _ hw => ⟨⟨h_35, A_37, c_38⟩, rfl, ⟨(hS.trans hS_36), hs_39, hc_40⟩, hw⟩)
def modexp_number_less.b1 (a0 : List (BitVec 32)) (a1 : List (BitVec 32)) (x5 : Int) : Option (Ctl ((Int)) (Bool)) :=
  Let (decide (0 ≤ x5)) fun x20 => (bif x20 then Chk ((0 : Int) ≤ x5 ∧ x5 < (a0.length : Int)) <| Let (lget a0 x5.toNat) fun x26 => Chk ((0 : Int) ≤ x5 ∧ x5 < (a1.length : Int)) <| Let (lget a1 x5.toNat) fun x30 => Let (x26 != x30) fun x31 => (bif x31 then Chk ((0 : Int) ≤ x5 ∧ x5 < (a0.length : Int)) <| Let (lget a0 x5.toNat) fun x35 => Chk ((0 : Int) ≤ x5 ∧ x5 < (a1.length : Int)) <| Let (lget a1 x5.toNat) fun x39 => Let (decide (x35.toNat < x39.toNat)) fun x40 => some (.ret x40) else Let (wi (x5 - 1)) fun x22 => some (.next x22)) else some (.brk x5))
def modexp_number_less (a0 : List (BitVec 32)) (a1 : List (BitVec 32)) : Option (Bool) :=
  Let ((a0.length : Int)) fun x7 => Let ((a1.length : Int)) fun x9 => Let (x7 != x9) fun x10 => (bif x10 then Let ((a0.length : Int)) fun x12 => Let ((a1.length : Int)) fun x14 => Let (decide (x12 < x14)) fun x15 => some x15 else Let ((a0.length : Int)) fun x17 => Let (wi (x17 - 1)) fun x18 => (wlx (σ := (Int)) (fun s => modexp_number_less.b1 a0 a1 s) x18).bind (Sum.elim (fun x5 => some false) (fun r => some r)))
set_option maxRecDepth 100000 in
theorem modexp_number_less.calls  (a0 : List (BitVec 32)) (a1 : List (BitVec 32)) (A0 : Option Addr) (c0 : Nat) (A1 : Option Addr) (c1 : Nat) (r : Bool) (H : modexp_number_less a0 a1 = some r) (w : World) (hs0 : SlW w U32 A0 a0) (hc0 : a0.length ≤ c0) (hs1 : SlW w U32 A1 a1) (hc1 : a1.length ≤ c1)  :
    Made Try.prog 44 #[.slice A0 a0.length c0, .slice A1 a1.length c1] w (.bool r) := by
  unfold modexp_number_less at H
  replace hs0 := hs0.toH
  replace hs1 := hs1.toH
  have hM := Mm.start w (snap w) (snap_ok w)
  generalize snap w = h at *
  refine t_enter (vs := [.slice A0 a0.length c0, .slice A1 a1.length c1]) (n := 41) Try.func44 rfl rfl rfl hM ?_
  clear hM
  change T 41 _ _ _
  refine t_seq ?_
  refine t_region (fun ops hops => ?_)
  clear hops
  refine z_val (v := .bool false) (val_assign rfl rfl) rfl rfl rfl (fun _ _ _ => trivial) ?_
  refine z_nil ?_
  refine t_seq ?_
  refine t_seq ?_
  refine t_region (fun ops hops => ?_)
  clear hops
  refine z_val (v := .slice A0 a0.length c0) (val_move rfl rfl) rfl rfl rfl (fun _ _ _ => trivial) ?_
  obtain ⟨x7, hx7, H⟩ := Let_elim H
  refine z_val (v := .int .i64 x7) (by subst hx7; exact val_len rfl rfl rfl Try.underlying46) rfl rfl rfl (fun _ _ _ => trivial) ?_
  clear hx7
  refine z_val (v := .slice A1 a1.length c1) (val_move rfl rfl) rfl rfl rfl (fun _ _ _ => trivial) ?_
  obtain ⟨x9, hx9, H⟩ := Let_elim H
  refine z_val (v := .int .i64 x9) (by subst hx9; exact val_len rfl rfl rfl Try.underlying46) rfl rfl rfl (fun _ _ _ => trivial) ?_
  clear hx9
  obtain ⟨x10, hx10, H⟩ := Let_elim H
  refine z_val (v := .bool x10) (by subst hx10; exact val_bin rfl rfl rfl rfl (i64_neq _ _ _)) rfl rfl rfl (fun _ _ _ => trivial) ?_
  clear hx10
  refine z_nil ?_
  cases x10
  ·
    replace H := cond_f H
    refine t_cond_false rfl ?_
    refine t_skip ?_
    refine t_seq ?_
    refine t_seq ?_
    refine t_region (fun ops hops => ?_)
    clear hops
    refine z_val (v := .slice A0 a0.length c0) (val_move rfl rfl) rfl rfl rfl (fun _ _ _ => trivial) ?_
    obtain ⟨x17, hx17, H⟩ := Let_elim H
    refine z_val (v := .int .i64 x17) (by subst hx17; exact val_len rfl rfl rfl Try.underlying46) rfl rfl rfl (fun _ _ _ => trivial) ?_
    clear hx17
    obtain ⟨x18, hx18, H⟩ := Let_elim H
    refine z_val (v := .int .i64 x18) (by subst hx18; exact val_bin rfl rfl rfl rfl (i64_sub _ _ _)) rfl rfl rfl (fun _ _ _ => trivial) ?_
    clear hx18
    refine z_val (v := .int .i64 x18) (val_assign rfl rfl) rfl rfl rfl (fun _ _ _ => trivial) ?_
    refine z_nil ?_
    refine t_block ?_
    obtain ⟨z1, hz1, HK1⟩ := Option.bind_eq_some_iff.1 H
    clear H
    refine t_while hz1 (fun (s : (Int)) (g : Unit) => [(0, .slice A0 a0.length c0), (1, .slice A1 a1.length c1), (5, .int .i64 s)]) (fun (s : (Int)) (g : Unit) => []) (fun (s : (Int)) (g : Unit) => Mm w [] h []) (fun (s : (Int)) (g : Unit) => Mm w [] h []) (fun (s : (Int)) (g : Unit) => True) (fun (s : (Int)) (g : Unit) => True) () trivial (fun a w ha hw => ⟨ha.cons rfl (ha.cons rfl (ha.cons rfl (ha.nil))), hw⟩) (fun Gn Gb s g e hφ H hn1 hb1 hr1 => ?_) (fun s g hzz hφ => ?_)
    ·
      obtain ⟨x5, rfl⟩ : ∃ x, x = s := ⟨_, rfl⟩
      change modexp_number_less.b1 a0 a1 x5 = some e at H
      unfold modexp_number_less.b1 at H
      clear hz1
      change T 41 _ _ _
      refine t_seq ?_
      refine t_seq ?_
      refine t_region (fun ops hops => ?_)
      clear hops
      refine z_val (v := .int .i64 x5) (val_move rfl rfl) rfl rfl rfl (fun _ _ _ => trivial) ?_
      obtain ⟨x20, hx20, H⟩ := Let_elim H
      refine z_val (v := .bool x20) (by subst hx20; exact val_bin rfl rfl rfl rfl (i64_geq _ _ _)) rfl rfl rfl (fun _ _ _ => trivial) ?_
      clear hx20
      refine z_nil ?_
      cases x20
      ·
        replace H := cond_f H
        refine t_cond_false rfl ?_
        refine t_exit rfl ?_
        obtain rfl := Option.some.inj H
        exact t_reach ((hb1 _ () rfl trivial).weak (fun a ha => ha.nil) (fun w hw => hw))
      ·
        replace H := cond_t H
        refine t_cond_true rfl ?_
        refine t_skip ?_
        refine t_seq ?_
        refine t_block ?_
        refine t_seq ?_
        refine t_plan (C := Mm w [] h []) [] [(0, true), (1, true), (2, true), (3, true), (4, true), (5, true), (6, true), (7, true), (8, true)] (by kernel_rfl) (by kernel_rfl) (fun _ hw => hw.drew) (fun ops hops => ?_)
        clear hops
        refine z_still (v := .slice A0 a0.length c0) (val_move rfl rfl) rfl rfl rfl (fun _ hw => hw) ?_
        refine z_still (v := .int .i64 x5) (val_move rfl rfl) rfl rfl rfl (fun _ hw => hw) ?_
        obtain ⟨hq_1, H⟩ := Chk_elim H
        obtain ⟨b_2, o_3, hA_4, hc_5⟩ := hs0.at_ (idx_lt hq_1)
        refine z_still (v := .pointer (some ⟨b_2, o_3 + x5.toNat, none⟩)) (val_idxS0 rfl rfl rfl Try.underlying46 sz49 hq_1 hA_4 rfl) rfl rfl rfl (fun _ hw => hw) ?_
        obtain ⟨x26, hx26, H⟩ := Let_elim H
        refine z_still (v := U32 x26) (by subst hx26; exact val_load1 rfl rfl Try.underlying49 rfl (fun _ hw => hc_5.cell hw)) rfl rfl rfl (fun _ hw => hw) ?_
        clear hx26
        refine z_still (v := .slice A1 a1.length c1) (val_move rfl rfl) rfl rfl rfl (fun _ hw => hw) ?_
        refine z_still (v := .int .i64 x5) (val_move rfl rfl) rfl rfl rfl (fun _ hw => hw) ?_
        obtain ⟨hq_6, H⟩ := Chk_elim H
        obtain ⟨b_7, o_8, hA_9, hc_10⟩ := hs1.at_ (idx_lt hq_6)
        refine z_still (v := .pointer (some ⟨b_7, o_8 + x5.toNat, none⟩)) (val_idxS0 rfl rfl rfl Try.underlying46 sz49 hq_6 hA_9 rfl) rfl rfl rfl (fun _ hw => hw) ?_
        obtain ⟨x30, hx30, H⟩ := Let_elim H
        refine z_still (v := U32 x30) (by subst hx30; exact val_load1 rfl rfl Try.underlying49 rfl (fun _ hw => hc_10.cell hw)) rfl rfl rfl (fun _ hw => hw) ?_
        clear hx30
        obtain ⟨x31, hx31, H⟩ := Let_elim H
        refine z_still (v := .bool x31) (by subst hx31; exact val_bin rfl rfl rfl rfl (u32_neq _ _ _)) rfl rfl rfl (fun _ hw => hw) ?_
        clear hx31
        refine z_nil ?_
        cases x31
        ·
          replace H := cond_f H
          refine t_cond_false rfl ?_
          refine t_skip ?_
          refine t_fin ?_
          refine t_region (fun ops hops => ?_)
          clear hops
          refine z_val (v := .int .i64 x5) (val_move rfl rfl) rfl rfl rfl (fun _ _ _ => trivial) ?_
          obtain ⟨x22, hx22, H⟩ := Let_elim H
          refine z_val (v := .int .i64 x22) (by subst hx22; exact val_bin rfl rfl rfl rfl (i64_sub _ _ _)) rfl rfl rfl (fun _ _ _ => trivial) ?_
          clear hx22
          refine z_val (v := .int .i64 x22) (val_assign rfl rfl) rfl rfl rfl (fun _ _ _ => trivial) ?_
          refine z_nil ?_
          obtain rfl := Option.some.inj H
          exact t_reach ((hn1 _ () rfl trivial).weak (fun a ha => ha.cons rfl (ha.cons rfl (ha.cons rfl (ha.nil)))) (fun w hw => hw))
        ·
          replace H := cond_t H
          refine t_cond_true rfl ?_
          refine t_seq ?_
          refine t_plan (C := Mm w [] h []) [] [(0, true), (1, true), (2, true), (3, true), (4, true), (5, true), (6, true), (7, true), (8, true), (9, true)] (by kernel_rfl) (by kernel_rfl) (fun _ hw => hw.drew) (fun ops hops => ?_)
          clear hops
          refine z_still (v := .slice A0 a0.length c0) (val_move rfl rfl) rfl rfl rfl (fun _ hw => hw) ?_
          refine z_still (v := .int .i64 x5) (val_move rfl rfl) rfl rfl rfl (fun _ hw => hw) ?_
          obtain ⟨hq_11, H⟩ := Chk_elim H
          obtain ⟨b_12, o_13, hA_14, hc_15⟩ := hs0.at_ (idx_lt hq_11)
          refine z_still (v := .pointer (some ⟨b_12, o_13 + x5.toNat, none⟩)) (val_idxS0 rfl rfl rfl Try.underlying46 sz49 hq_11 hA_14 rfl) rfl rfl rfl (fun _ hw => hw) ?_
          obtain ⟨x35, hx35, H⟩ := Let_elim H
          refine z_still (v := U32 x35) (by subst hx35; exact val_load1 rfl rfl Try.underlying49 rfl (fun _ hw => hc_15.cell hw)) rfl rfl rfl (fun _ hw => hw) ?_
          clear hx35
          refine z_still (v := .slice A1 a1.length c1) (val_move rfl rfl) rfl rfl rfl (fun _ hw => hw) ?_
          refine z_still (v := .int .i64 x5) (val_move rfl rfl) rfl rfl rfl (fun _ hw => hw) ?_
          obtain ⟨hq_16, H⟩ := Chk_elim H
          obtain ⟨b_17, o_18, hA_19, hc_20⟩ := hs1.at_ (idx_lt hq_16)
          refine z_still (v := .pointer (some ⟨b_17, o_18 + x5.toNat, none⟩)) (val_idxS0 rfl rfl rfl Try.underlying46 sz49 hq_16 hA_19 rfl) rfl rfl rfl (fun _ hw => hw) ?_
          obtain ⟨x39, hx39, H⟩ := Let_elim H
          refine z_still (v := U32 x39) (by subst hx39; exact val_load1 rfl rfl Try.underlying49 rfl (fun _ hw => hc_20.cell hw)) rfl rfl rfl (fun _ hw => hw) ?_
          clear hx39
          obtain ⟨x40, hx40, H⟩ := Let_elim H
          refine z_still (v := .bool x40) (by subst hx40; exact val_bin rfl rfl rfl rfl (u32_lss _ _ _)) rfl rfl rfl (fun _ hw => hw) ?_
          clear hx40
          refine z_still (v := .bool x40) (val_assign rfl rfl) rfl rfl rfl (fun _ hw => hw) ?_
          refine z_nil ?_
          refine t_ret ?_
          obtain rfl := Option.some.inj H
          have hz := hr1 _ rfl
          subst hz
          obtain rfl := Option.some.inj HK1
          exact ret1 rfl (res_tmp rfl) (fun _ hw => ⟨rfl, hw.below⟩)
    ·
      obtain ⟨x5, rfl⟩ : ∃ x, x = s := ⟨_, rfl⟩
      subst hzz
      have H := HK1
      clear HK1 hz1
      replace H := sum_l H
      try dsimp only at H
      change T 41 _ _ _
      refine t_seq ?_
      refine t_region (fun ops hops => ?_)
      clear hops
      refine z_val (v := .bool false) (val_assign rfl rfl) rfl rfl rfl (fun _ _ _ => trivial) ?_
      refine z_nil ?_
      refine t_ret ?_
      obtain rfl := Option.some.inj H
      exact ret1 rfl (res_tmp rfl) (fun _ hw => ⟨rfl, hw.below⟩)
  ·
    replace H := cond_t H
    refine t_cond_true rfl ?_
    refine t_seq ?_
    refine t_region (fun ops hops => ?_)
    clear hops
    refine z_val (v := .slice A0 a0.length c0) (val_move rfl rfl) rfl rfl rfl (fun _ _ _ => trivial) ?_
    obtain ⟨x12, hx12, H⟩ := Let_elim H
    refine z_val (v := .int .i64 x12) (by subst hx12; exact val_len rfl rfl rfl Try.underlying46) rfl rfl rfl (fun _ _ _ => trivial) ?_
    clear hx12
    refine z_val (v := .slice A1 a1.length c1) (val_move rfl rfl) rfl rfl rfl (fun _ _ _ => trivial) ?_
    obtain ⟨x14, hx14, H⟩ := Let_elim H
    refine z_val (v := .int .i64 x14) (by subst hx14; exact val_len rfl rfl rfl Try.underlying46) rfl rfl rfl (fun _ _ _ => trivial) ?_
    clear hx14
    obtain ⟨x15, hx15, H⟩ := Let_elim H
    refine z_val (v := .bool x15) (by subst hx15; exact val_bin rfl rfl rfl rfl (i64_lss _ _ _)) rfl rfl rfl (fun _ _ _ => trivial) ?_
    clear hx15
    refine z_val (v := .bool x15) (val_assign rfl rfl) rfl rfl rfl (fun _ _ _ => trivial) ?_
    refine z_nil ?_
    refine t_ret ?_
    obtain rfl := Option.some.inj H
    exact ret1 rfl (res_tmp rfl) (fun _ hw => ⟨rfl, hw.below⟩)
def modexp_number_double.b1 (x13 : Int) (a0 : List (BitVec 32)) (y_3 : List (BitVec 32)) (x1 : BitVec 32) (x14 : Int) : Option (Ctl ((List (BitVec 32)) × (BitVec 32) × (Int)) (List (BitVec 32))) :=
  Let (decide (x14 < x13)) fun x15 => (bif x15 then Chk ((0 : Int) ≤ x14 ∧ x14 < (a0.length : Int)) <| Let (lget a0 x14.toNat) fun x18 => Let (x18 <<< 1) fun x22 => Let (x22 ||| x1) fun x24 => Chk ((0 : Int) ≤ x14 ∧ x14 < (y_3.length : Int)) <| Let (y_3.set x14.toNat x24) fun x_14 => Let (x18 >>> 31) fun x27 => Let (wi (x14 + 1)) fun x28 => some (.next (x_14, x27, x28)) else some (.brk (y_3, x1, x14)))
def modexp_number_double (a0 : List (BitVec 32)) (a1 : BitVec 32) : Option (List (BitVec 32)) :=
  Let ((a0.length : Int)) fun x9 => Let (wi (x9 + 1)) fun x10 => Chk ((0 : Int) ≤ x10 ∧ x10.toNat * 4 ≤ 140737488355328) <| Let (List.replicate x10.toNat 0#32) fun x11 => Let ((a0.length : Int)) fun x13 => (wlx (σ := (List (BitVec 32)) × (BitVec 32) × (Int)) (fun s => modexp_number_double.b1 x13 a0 s.1 s.2.1 s.2.2) (x11, a1, 0)).bind (Sum.elim (fun s => (fun y_3 x1 x14 => Let ((a0.length : Int)) fun x31 => Chk ((0 : Int) ≤ x31 ∧ x31 < (y_3.length : Int)) <| Let (y_3.set x31.toNat x1) fun x_19 => (modexp_number_trim x_19).bind fun x35 => some x35) s.1 s.2.1 s.2.2) (fun r => some r))
set_option maxRecDepth 100000 in
theorem modexp_number_double.calls  (a0 : List (BitVec 32)) (a1 : BitVec 32) (A0 : Option Addr) (c0 : Nat) (r : List (BitVec 32)) (H : modexp_number_double a0 a1 = some r) {w0 : World} {Ex : List Nat} {h : Frag} {Lr : List Ent} {w : World} (hs0 : SlH h U32 A0 a0) (hc0 : a0.length ≤ c0)  (hM : Mm w0 Ex h (Lr) w) :
    Calls Try.prog 43 #[.slice A0 a0.length c0, U32 a1] w fun e w' => ∃ (g : (Frag) × (Option Addr) × (Nat)), e = .returned (.slice g.2.1 r.length g.2.2) ∧ (Sub h g.1 ∧ SlH g.1 U32 g.2.1 r ∧ r.length ≤ g.2.2) ∧ Mm w0 Ex g.1 (Lr) w' := by
  unfold modexp_number_double at H
  refine t_enter (vs := [.slice A0 a0.length c0, U32 a1]) (n := 36) Try.func43 rfl rfl rfl hM ?_
  clear hM
  change T 36 _ _ _
  refine t_seq ?_
  refine t_region (fun ops hops => ?_)
  clear hops
  refine z_val (v := .slice none 0 0) (val_assign rfl rfl) rfl rfl rfl (fun _ _ _ => trivial) ?_
  refine z_nil ?_
  refine t_seq ?_
  refine t_region (fun ops hops => ?_)
  clear hops
  refine z_val (v := .slice A0 a0.length c0) (val_move rfl rfl) rfl rfl rfl (fun _ _ _ => trivial) ?_
  obtain ⟨x9, hx9, H⟩ := Let_elim H
  refine z_val (v := .int .i64 x9) (by subst hx9; exact val_len rfl rfl rfl Try.underlying46) rfl rfl rfl (fun _ _ _ => trivial) ?_
  clear hx9
  obtain ⟨x10, hx10, H⟩ := Let_elim H
  refine z_val (v := .int .i64 x10) (by subst hx10; exact val_bin rfl rfl rfl rfl (i64_add _ _ _)) rfl rfl rfl (fun _ _ _ => trivial) ?_
  clear hx10
  obtain ⟨hq_1, H⟩ := Chk_elim H
  obtain ⟨x11, hx11, H⟩ := Let_elim H
  refine z_makeSlice (f := U32) (z0 := 0#32) (N := x10.toNat) rfl rfl rfl Try.underlying46 (in49.trans rfl) rfl hq_1.1 rfl hq_1.2 (by decide) hx11 rfl rfl rfl (fun _ _ _ _ => trivial) (fun g_2 hs_4 => ?_)
  clear hx11
  refine z_val (v := .slice (some ⟨g_2, 0, none⟩) x11.length (x10.toNat)) (val_assign rfl rfl) rfl rfl rfl (fun _ _ _ => trivial) ?_
  refine z_nil ?_
  refine t_seq ?_
  refine t_seq ?_
  refine t_region (fun ops hops => ?_)
  clear hops
  refine z_val (v := .slice A0 a0.length c0) (val_move rfl rfl) rfl rfl rfl (fun _ _ _ => trivial) ?_
  obtain ⟨x13, hx13, H⟩ := Let_elim H
  refine z_val (v := .int .i64 x13) (by subst hx13; exact val_len rfl rfl rfl Try.underlying46) rfl rfl rfl (fun _ _ _ => trivial) ?_
  clear hx13
  refine z_val (v := .int .i64 0) (val_move rfl rfl) rfl rfl rfl (fun _ _ _ => trivial) ?_
  refine z_nil ?_
  refine t_block ?_
  obtain ⟨z1, hz1, HK1⟩ := Option.bind_eq_some_iff.1 H
  clear H
  refine t_while hz1 (fun (s : (List (BitVec 32)) × (BitVec 32) × (Int)) (g : Unit) => [(0, .slice A0 a0.length c0), (1, U32 s.2.1), (5, .slice (some ⟨g_2, 0, none⟩) s.1.length (x10.toNat)), (12, .slice A0 a0.length c0), (13, .int .i64 x13), (14, .int .i64 s.2.2)]) (fun (s : (List (BitVec 32)) × (BitVec 32) × (Int)) (g : Unit) => [(0, .slice A0 a0.length c0), (1, U32 s.2.1), (5, .slice (some ⟨g_2, 0, none⟩) s.1.length (x10.toNat))]) (fun (s : (List (BitVec 32)) × (BitVec 32) × (Int)) (g : Unit) => Mm w0 Ex h ((.row (.slice (some ⟨g_2, 0, none⟩) s.1.length (x10.toNat)) 49 1 (s.1.map U32)) :: Lr)) (fun (s : (List (BitVec 32)) × (BitVec 32) × (Int)) (g : Unit) => Mm w0 Ex h ((.row (.slice (some ⟨g_2, 0, none⟩) s.1.length (x10.toNat)) 49 1 (s.1.map U32)) :: Lr)) (fun (s : (List (BitVec 32)) × (BitVec 32) × (Int)) (g : Unit) => Shp ((some ⟨g_2, 0, none⟩)) s.1.length (x10.toNat)) (fun (s : (List (BitVec 32)) × (BitVec 32) × (Int)) (g : Unit) => Shp ((some ⟨g_2, 0, none⟩)) s.1.length (x10.toNat)) () hs_4 (fun a w ha hw => ⟨ha.cons rfl (ha.cons rfl (ha.cons rfl (ha.cons rfl (ha.cons rfl (ha.cons rfl (ha.nil)))))), hw⟩) (fun Gn Gb s g e hφ H hn1 hb1 hr1 => ?_) (fun s g hzz hφ => ?_)
  ·
    obtain ⟨y_3, x1, x14⟩ := s
    try dsimp only at hφ
    have hs_5 := hφ; clear hφ
    change modexp_number_double.b1 x13 a0 y_3 x1 x14 = some e at H
    unfold modexp_number_double.b1 at H
    clear hz1
    change T 36 _ _ _
    refine t_seq ?_
    refine t_region (fun ops hops => ?_)
    clear hops
    obtain ⟨x15, hx15, H⟩ := Let_elim H
    refine z_val (v := .bool x15) (by subst hx15; exact val_bin rfl rfl rfl rfl (i64_lss _ _ _)) rfl rfl rfl (fun _ _ _ => trivial) ?_
    clear hx15
    refine z_nil ?_
    refine t_seq ?_
    cases x15
    ·
      replace H := cond_f H
      refine t_cond_false rfl ?_
      refine t_exit rfl ?_
      obtain rfl := Option.some.inj H
      exact t_reach ((hb1 _ () rfl hs_5).weak (fun a ha => ha.cons rfl (ha.cons rfl (ha.cons rfl (ha.nil)))) (fun w hw => hw))
    ·
      replace H := cond_t H
      refine t_cond_true rfl ?_
      refine t_skip ?_
      refine t_seq ?_
      refine t_block ?_
      refine t_seq ?_
      refine t_region (fun ops hops => ?_)
      clear hops
      refine z_val (v := .int .i64 x14) (val_move rfl rfl) rfl rfl rfl (fun _ _ _ => trivial) ?_
      obtain ⟨hq_6, H⟩ := Chk_elim H
      obtain ⟨b_7, o_8, hA_9, hc_10⟩ := hs0.at_ (idx_lt hq_6)
      refine z_val (v := .pointer (some ⟨b_7, o_8 + x14.toNat, none⟩)) (val_idxS0 rfl rfl rfl Try.underlying46 sz49 hq_6 hA_9 rfl) rfl rfl rfl (fun _ _ _ => trivial) ?_
      obtain ⟨x18, hx18, H⟩ := Let_elim H
      refine z_val (v := U32 x18) (by subst hx18; exact val_load1 rfl rfl Try.underlying49 rfl (fun _ hw => hc_10.cell hw)) rfl rfl rfl (fun _ _ _ => trivial) ?_
      clear hx18
      refine z_val (v := .int .i64 x14) (val_assign rfl rfl) rfl rfl rfl (fun _ _ _ => trivial) ?_
      refine z_val (v := U32 x18) (val_assign rfl rfl) rfl rfl rfl (fun _ _ _ => trivial) ?_
      refine z_nil ?_
      refine t_seq ?_
      refine t_region (fun ops hops => ?_)
      clear hops
      refine z_val (v := .slice (some ⟨g_2, 0, none⟩) y_3.length (x10.toNat)) (val_move rfl rfl) rfl rfl rfl (fun _ _ _ => trivial) ?_
      refine z_val (v := .int .i64 x14) (val_move rfl rfl) rfl rfl rfl (fun _ _ _ => trivial) ?_
      refine z_val (v := U32 x18) (val_move rfl rfl) rfl rfl rfl (fun _ _ _ => trivial) ?_
      obtain ⟨x22, hx22, H⟩ := Let_elim H
      refine z_val (v := U32 x22) (by subst hx22; exact val_bin rfl rfl rfl rfl (u32_shl _ _ _ _ (by decide))) rfl rfl rfl (fun _ _ _ => trivial) ?_
      clear hx22
      refine z_val (v := U32 x1) (val_move rfl rfl) rfl rfl rfl (fun _ _ _ => trivial) ?_
      obtain ⟨x24, hx24, H⟩ := Let_elim H
      refine z_val (v := U32 x24) (by subst hx24; exact val_bin rfl rfl rfl rfl (u32_or _ _ _)) rfl rfl rfl (fun _ _ _ => trivial) ?_
      clear hx24
      obtain ⟨hq_11, H⟩ := Chk_elim H
      obtain ⟨g_12, hA_13⟩ := hs_5.blk (by omega)
      refine z_val (v := .pointer (some ⟨g_12, x14.toNat, none⟩)) (val_idxS1 rfl rfl rfl Try.underlying46 sz49 hq_11 hA_13 rfl) rfl rfl rfl (fun _ _ _ => trivial) ?_
      obtain ⟨x_14, hx_14, H⟩ := Let_elim H
      have hs_15 : Shp ((some ⟨g_2, 0, none⟩)) x_14.length (x10.toNat) := by subst hx_14; rw [List.length_set]; exact hs_5
      refine z_storeRow' (j := 0) (zs := x_14) (L' := (.row (.slice (some ⟨g_2, 0, none⟩) x_14.length (x10.toNat)) 49 1 (x_14.map U32)) :: Lr) rfl rfl rfl rfl rfl rfl sz49 rfl hA_13 (idx_lt hq_11) (by subst hx_14; rfl) rfl rfl rfl (fun _ _ _ => trivial) ?_
      have hl : y_3.length = x_14.length := by subst hx_14; rw [List.length_set]
      refine t_len (show y_3.length = x_14.length from hl) (fun z => [(0, .slice A0 a0.length c0), (1, U32 x1), (5, .slice (some ⟨g_2, 0, none⟩) z (x10.toNat)), (6, .int .i64 x14), (7, U32 x18), (12, .slice A0 a0.length c0), (13, .int .i64 x13), (14, .int .i64 x14), (15, .bool true), (16, .int .i64 x14), (17, .pointer (some ⟨b_7, o_8 + x14.toNat, none⟩)), (18, U32 x18), (19, .slice (some ⟨g_2, 0, none⟩) z (x10.toNat)), (20, .int .i64 x14), (21, U32 x18), (22, U32 x22), (23, U32 x1), (24, U32 x24), (25, .pointer (some ⟨g_12, x14.toNat, none⟩))]) (fun a ha => ha.cons rfl (ha.cons rfl (ha.cons rfl (ha.cons rfl (ha.cons rfl (ha.cons rfl (ha.cons rfl (ha.cons rfl (ha.cons rfl (ha.cons rfl (ha.cons rfl (ha.cons rfl (ha.cons rfl (ha.cons rfl (ha.cons rfl (ha.cons rfl (ha.cons rfl (ha.cons rfl (ha.cons rfl (ha.nil)))))))))))))))))))) ?_
      change T 36 _ _ _
      clear hx_14 hl
      refine z_nil ?_
      refine t_region (fun ops hops => ?_)
      clear hops
      refine z_val (v := U32 x18) (val_move rfl rfl) rfl rfl rfl (fun _ _ _ => trivial) ?_
      obtain ⟨x27, hx27, H⟩ := Let_elim H
      refine z_val (v := U32 x27) (by subst hx27; exact val_bin rfl rfl rfl rfl (u32_shr _ _ _ _ (by decide))) rfl rfl rfl (fun _ _ _ => trivial) ?_
      clear hx27
      refine z_val (v := U32 x27) (val_assign rfl rfl) rfl rfl rfl (fun _ _ _ => trivial) ?_
      refine z_nil ?_
      refine t_fin ?_
      refine t_region (fun ops hops => ?_)
      clear hops
      obtain ⟨x28, hx28, H⟩ := Let_elim H
      refine z_val (v := .int .i64 x28) (by subst hx28; exact val_bin rfl rfl rfl rfl (i64_add _ _ _)) rfl rfl rfl (fun _ _ _ => trivial) ?_
      clear hx28
      refine z_val (v := .int .i64 x28) (val_move rfl rfl) rfl rfl rfl (fun _ _ _ => trivial) ?_
      refine z_nil ?_
      obtain rfl := Option.some.inj H
      exact t_reach ((hn1 _ () rfl hs_15).weak (fun a ha => ha.cons rfl (ha.cons rfl (ha.cons rfl (ha.cons rfl (ha.cons rfl (ha.cons rfl (ha.nil))))))) (fun w hw => hw))
  ·
    obtain ⟨y_3, x1, x14⟩ := s
    try dsimp only at hφ
    have hs_5 := hφ; clear hφ
    subst hzz
    have H := HK1
    clear HK1 hz1
    replace H := sum_l H
    try dsimp only at H
    change T 36 _ _ _
    refine t_seq ?_
    refine t_region (fun ops hops => ?_)
    clear hops
    refine z_val (v := .slice (some ⟨g_2, 0, none⟩) y_3.length (x10.toNat)) (val_move rfl rfl) rfl rfl rfl (fun _ _ _ => trivial) ?_
    refine z_val (v := .slice A0 a0.length c0) (val_move rfl rfl) rfl rfl rfl (fun _ _ _ => trivial) ?_
    obtain ⟨x31, hx31, H⟩ := Let_elim H
    refine z_val (v := .int .i64 x31) (by subst hx31; exact val_len rfl rfl rfl Try.underlying46) rfl rfl rfl (fun _ _ _ => trivial) ?_
    clear hx31
    refine z_val (v := U32 x1) (val_move rfl rfl) rfl rfl rfl (fun _ _ _ => trivial) ?_
    obtain ⟨hq_16, H⟩ := Chk_elim H
    obtain ⟨g_17, hA_18⟩ := hs_5.blk (by omega)
    refine z_val (v := .pointer (some ⟨g_17, x31.toNat, none⟩)) (val_idxS1 rfl rfl rfl Try.underlying46 sz49 hq_16 hA_18 rfl) rfl rfl rfl (fun _ _ _ => trivial) ?_
    obtain ⟨x_19, hx_19, H⟩ := Let_elim H
    have hs_20 : Shp ((some ⟨g_2, 0, none⟩)) x_19.length (x10.toNat) := by subst hx_19; rw [List.length_set]; exact hs_5
    refine z_storeRow' (j := 0) (zs := x_19) (L' := (.row (.slice (some ⟨g_2, 0, none⟩) x_19.length (x10.toNat)) 49 1 (x_19.map U32)) :: Lr) rfl rfl rfl rfl rfl rfl sz49 rfl hA_18 (idx_lt hq_16) (by subst hx_19; rfl) rfl rfl rfl (fun _ _ _ => trivial) ?_
    have hl_21 : y_3.length = x_19.length := by subst hx_19; rw [List.length_set]
    refine t_len (show y_3.length = x_19.length from hl_21) (fun z => [(0, .slice A0 a0.length c0), (1, U32 x1), (5, .slice (some ⟨g_2, 0, none⟩) z (x10.toNat)), (29, .slice (some ⟨g_2, 0, none⟩) z (x10.toNat)), (30, .slice A0 a0.length c0), (31, .int .i64 x31), (32, U32 x1), (33, .pointer (some ⟨g_17, x31.toNat, none⟩))]) (fun a ha => ha.cons rfl (ha.cons rfl (ha.cons rfl (ha.cons rfl (ha.cons rfl (ha.cons rfl (ha.cons rfl (ha.cons rfl (ha.nil))))))))) ?_
    change T 36 _ _ _
    clear hx_19 hl_21
    refine z_nil ?_
    refine t_seq ?_
    refine t_seal (fun h_22 hS hs_23 => ?_)
    have hc_24 := hs_20.le
    replace hs0 := hs0.up hS
    refine t_region (fun ops hops => ?_)
    clear hops
    refine z_val (v := .slice (some ⟨g_2, 0, none⟩) x_19.length (x10.toNat)) (val_move rfl rfl) rfl rfl rfl (fun _ _ _ => trivial) ?_
    obtain ⟨x35, hx, H⟩ := Option.bind_eq_some_iff.1 H
    refine z_callG rfl Try.func42 nm42 bs42 rfl (fun w hw => modexp_number_trim.calls x_19 ((some ⟨g_2, 0, none⟩)) ((x10.toNat)) x35 hx hs_23 hc_24 hw) rfl rfl rfl (fun _ _ _ _ _ => trivial) (fun g hφ => ?_)
    obtain ⟨h_25, A_27, c_28⟩ := g
    try dsimp only at hφ
    obtain ⟨hS_26, hs_29, hc_30⟩ := hφ
    clear hx
    change T 36 _ _ _
    replace hs0 := hs0.up hS_26
    replace hs_23 := hs_23.up hS_26
    refine z_val (v := .slice A_27 x35.length c_28) (val_assign rfl rfl) rfl rfl rfl (fun _ _ _ => trivial) ?_
    refine z_nil ?_
    refine t_ret ?_
    obtain rfl := Option.some.inj H
    exact ret1 rfl (res_tmp rfl) (fun _ hw => ⟨⟨h_25, A_27, c_28⟩, rfl, ⟨(hS.trans hS_26), hs_29, hc_30⟩, hw⟩)
def modexp_number_minus.b1 (x14 : Int) (a0 : List (BitVec 32)) (a1 : List (BitVec 32)) (y_3 : List (BitVec 32)) (x6 : BitVec 32) (x15 : Int) : Option (Ctl ((List (BitVec 32)) × (BitVec 32) × (Int)) (List (BitVec 32))) :=
  Let (decide (x15 < x14)) fun x16 => (bif x16 then Chk ((0 : Int) ≤ x15 ∧ x15 < (a0.length : Int)) <| Let (lget a0 x15.toNat) fun x19 => Let ((a1.length : Int)) fun x22 => Let (decide (x15 < x22)) fun x23 => (bif x23 then Chk ((0 : Int) ≤ x15 ∧ x15 < (a1.length : Int)) <| Let (lget a1 x15.toNat) fun x27 => some x27 else some 0#32).bind (fun (x9 : BitVec 32) => (bits_Sub32 x19 x9 x6).bind fun x34 => Chk ((0 : Int) ≤ x15 ∧ x15 < (y_3.length : Int)) <| Let (y_3.set x15.toNat x34.1) fun x_19 => Let (wi (x15 + 1)) fun x38 => some (.next (x_19, x34.2, x38))) else some (.brk (y_3, x6, x15)))
def modexp_number_minus (a0 : List (BitVec 32)) (a1 : List (BitVec 32)) : Option (List (BitVec 32)) :=
  Let ((a0.length : Int)) fun x11 => Chk ((0 : Int) ≤ x11 ∧ x11.toNat * 4 ≤ 140737488355328) <| Let (List.replicate x11.toNat 0#32) fun x12 => Let ((a0.length : Int)) fun x14 => (wlx (σ := (List (BitVec 32)) × (BitVec 32) × (Int)) (fun s => modexp_number_minus.b1 x14 a0 a1 s.1 s.2.1 s.2.2) (x12, 0#32, 0)).bind (Sum.elim (fun s => (fun y_3 x6 x15 => (modexp_number_trim y_3).bind fun x40 => some x40) s.1 s.2.1 s.2.2) (fun r => some r))
set_option maxRecDepth 100000 in
theorem modexp_number_minus.calls  (a0 : List (BitVec 32)) (a1 : List (BitVec 32)) (A0 : Option Addr) (c0 : Nat) (A1 : Option Addr) (c1 : Nat) (r : List (BitVec 32)) (H : modexp_number_minus a0 a1 = some r) {w0 : World} {Ex : List Nat} {h : Frag} {Lr : List Ent} {w : World} (hs0 : SlH h U32 A0 a0) (hc0 : a0.length ≤ c0) (hs1 : SlH h U32 A1 a1) (hc1 : a1.length ≤ c1)  (hM : Mm w0 Ex h (Lr) w) :
    Calls Try.prog 45 #[.slice A0 a0.length c0, .slice A1 a1.length c1] w fun e w' => ∃ (g : (Frag) × (Option Addr) × (Nat)), e = .returned (.slice g.2.1 r.length g.2.2) ∧ (Sub h g.1 ∧ SlH g.1 U32 g.2.1 r ∧ r.length ≤ g.2.2) ∧ Mm w0 Ex g.1 (Lr) w' := by
  unfold modexp_number_minus at H
  refine t_enter (vs := [.slice A0 a0.length c0, .slice A1 a1.length c1]) (n := 41) Try.func45 rfl rfl rfl hM ?_
  clear hM
  change T 41 _ _ _
  refine t_seq ?_
  refine t_region (fun ops hops => ?_)
  clear hops
  refine z_val (v := .slice none 0 0) (val_assign rfl rfl) rfl rfl rfl (fun _ _ _ => trivial) ?_
  refine z_nil ?_
  refine t_seq ?_
  refine t_region (fun ops hops => ?_)
  clear hops
  refine z_val (v := .slice A0 a0.length c0) (val_move rfl rfl) rfl rfl rfl (fun _ _ _ => trivial) ?_
  obtain ⟨x11, hx11, H⟩ := Let_elim H
  refine z_val (v := .int .i64 x11) (by subst hx11; exact val_len rfl rfl rfl Try.underlying46) rfl rfl rfl (fun _ _ _ => trivial) ?_
  clear hx11
  obtain ⟨hq_1, H⟩ := Chk_elim H
  obtain ⟨x12, hx12, H⟩ := Let_elim H
  refine z_makeSlice (f := U32) (z0 := 0#32) (N := x11.toNat) rfl rfl rfl Try.underlying46 (in49.trans rfl) rfl hq_1.1 rfl hq_1.2 (by decide) hx12 rfl rfl rfl (fun _ _ _ _ => trivial) (fun g_2 hs_4 => ?_)
  clear hx12
  refine z_val (v := .slice (some ⟨g_2, 0, none⟩) x12.length (x11.toNat)) (val_assign rfl rfl) rfl rfl rfl (fun _ _ _ => trivial) ?_
  refine z_nil ?_
  refine t_seq ?_
  refine t_region (fun ops hops => ?_)
  clear hops
  refine z_val (v := .int .u32 0) (val_assign rfl rfl) rfl rfl rfl (fun _ _ _ => trivial) ?_
  refine z_nil ?_
  refine t_seq ?_
  refine t_seq ?_
  refine t_region (fun ops hops => ?_)
  clear hops
  refine z_val (v := .slice A0 a0.length c0) (val_move rfl rfl) rfl rfl rfl (fun _ _ _ => trivial) ?_
  obtain ⟨x14, hx14, H⟩ := Let_elim H
  refine z_val (v := .int .i64 x14) (by subst hx14; exact val_len rfl rfl rfl Try.underlying46) rfl rfl rfl (fun _ _ _ => trivial) ?_
  clear hx14
  refine z_val (v := .int .i64 0) (val_move rfl rfl) rfl rfl rfl (fun _ _ _ => trivial) ?_
  refine z_nil ?_
  refine t_block ?_
  obtain ⟨z1, hz1, HK1⟩ := Option.bind_eq_some_iff.1 H
  clear H
  refine t_while hz1 (fun (s : (List (BitVec 32)) × (BitVec 32) × (Int)) (g : Unit) => [(1, .slice A1 a1.length c1), (5, .slice (some ⟨g_2, 0, none⟩) s.1.length (x11.toNat)), (6, U32 s.2.1), (13, .slice A0 a0.length c0), (14, .int .i64 x14), (15, .int .i64 s.2.2)]) (fun (s : (List (BitVec 32)) × (BitVec 32) × (Int)) (g : Unit) => [(5, .slice (some ⟨g_2, 0, none⟩) s.1.length (x11.toNat))]) (fun (s : (List (BitVec 32)) × (BitVec 32) × (Int)) (g : Unit) => Mm w0 Ex h ((.row (.slice (some ⟨g_2, 0, none⟩) s.1.length (x11.toNat)) 49 1 (s.1.map U32)) :: Lr)) (fun (s : (List (BitVec 32)) × (BitVec 32) × (Int)) (g : Unit) => Mm w0 Ex h ((.row (.slice (some ⟨g_2, 0, none⟩) s.1.length (x11.toNat)) 49 1 (s.1.map U32)) :: Lr)) (fun (s : (List (BitVec 32)) × (BitVec 32) × (Int)) (g : Unit) => Shp ((some ⟨g_2, 0, none⟩)) s.1.length (x11.toNat)) (fun (s : (List (BitVec 32)) × (BitVec 32) × (Int)) (g : Unit) => Shp ((some ⟨g_2, 0, none⟩)) s.1.length (x11.toNat)) () hs_4 (fun a w ha hw => ⟨ha.cons rfl (ha.cons rfl (ha.cons rfl (ha.cons rfl (ha.cons rfl (ha.cons rfl (ha.nil)))))), hw⟩) (fun Gn Gb s g e hφ H hn1 hb1 hr1 => ?_) (fun s g hzz hφ => ?_)
  ·
    obtain ⟨y_3, x6, x15⟩ := s
    try dsimp only at hφ
    have hs_5 := hφ; clear hφ
    change modexp_number_minus.b1 x14 a0 a1 y_3 x6 x15 = some e at H
    unfold modexp_number_minus.b1 at H
    clear hz1
    change T 41 _ _ _
    refine t_seq ?_
    refine t_region (fun ops hops => ?_)
    clear hops
    obtain ⟨x16, hx16, H⟩ := Let_elim H
    refine z_val (v := .bool x16) (by subst hx16; exact val_bin rfl rfl rfl rfl (i64_lss _ _ _)) rfl rfl rfl (fun _ _ _ => trivial) ?_
    clear hx16
    refine z_nil ?_
    refine t_seq ?_
    cases x16
    ·
      replace H := cond_f H
      refine t_cond_false rfl ?_
      refine t_exit rfl ?_
      obtain rfl := Option.some.inj H
      exact t_reach ((hb1 _ () rfl hs_5).weak (fun a ha => ha.cons rfl (ha.nil)) (fun w hw => hw))
    ·
      replace H := cond_t H
      refine t_cond_true rfl ?_
      refine t_skip ?_
      refine t_seq ?_
      refine t_block ?_
      refine t_seq ?_
      refine t_region (fun ops hops => ?_)
      clear hops
      refine z_val (v := .int .i64 x15) (val_move rfl rfl) rfl rfl rfl (fun _ _ _ => trivial) ?_
      obtain ⟨hq_6, H⟩ := Chk_elim H
      obtain ⟨b_7, o_8, hA_9, hc_10⟩ := hs0.at_ (idx_lt hq_6)
      refine z_val (v := .pointer (some ⟨b_7, o_8 + x15.toNat, none⟩)) (val_idxS0 rfl rfl rfl Try.underlying46 sz49 hq_6 hA_9 rfl) rfl rfl rfl (fun _ _ _ => trivial) ?_
      obtain ⟨x19, hx19, H⟩ := Let_elim H
      refine z_val (v := U32 x19) (by subst hx19; exact val_load1 rfl rfl Try.underlying49 rfl (fun _ hw => hc_10.cell hw)) rfl rfl rfl (fun _ _ _ => trivial) ?_
      clear hx19
      refine z_val (v := .int .i64 x15) (val_assign rfl rfl) rfl rfl rfl (fun _ _ _ => trivial) ?_
      refine z_val (v := U32 x19) (val_assign rfl rfl) rfl rfl rfl (fun _ _ _ => trivial) ?_
      refine z_nil ?_
      refine t_seq ?_
      refine t_region (fun ops hops => ?_)
      clear hops
      refine z_val (v := .int .u32 0) (val_assign rfl rfl) rfl rfl rfl (fun _ _ _ => trivial) ?_
      refine z_nil ?_
      refine t_seq ?_
      refine t_seq ?_
      refine t_region (fun ops hops => ?_)
      clear hops
      refine z_val (v := .int .i64 x15) (val_move rfl rfl) rfl rfl rfl (fun _ _ _ => trivial) ?_
      refine z_val (v := .slice A1 a1.length c1) (val_move rfl rfl) rfl rfl rfl (fun _ _ _ => trivial) ?_
      obtain ⟨x22, hx22, H⟩ := Let_elim H
      refine z_val (v := .int .i64 x22) (by subst hx22; exact val_len rfl rfl rfl Try.underlying46) rfl rfl rfl (fun _ _ _ => trivial) ?_
      clear hx22
      obtain ⟨x23, hx23, H⟩ := Let_elim H
      refine z_val (v := .bool x23) (by subst hx23; exact val_bin rfl rfl rfl rfl (i64_lss _ _ _)) rfl rfl rfl (fun _ _ _ => trivial) ?_
      clear hx23
      refine z_nil ?_
      refine t_bind H (fun (s : (BitVec 32)) (g : Unit) => [(1, .slice A1 a1.length c1), (5, .slice (some ⟨g_2, 0, none⟩) y_3.length (x11.toNat)), (6, U32 x6), (7, .int .i64 x15), (8, U32 x19), (9, U32 s), (13, .slice A0 a0.length c0), (14, .int .i64 x14), (15, .int .i64 x15)]) (fun (s : (BitVec 32)) (g : Unit) => Mm w0 Ex h ((.row (.slice (some ⟨g_2, 0, none⟩) y_3.length (x11.toNat)) 49 1 (y_3.map U32)) :: Lr)) (fun (s : (BitVec 32)) (g : Unit) => True) (fun Gr K s he HJ => ?_) (fun s g HB hφ => ?_)
      ·
        clear H
        cases x23
        ·
          have H := cond_f he
          clear he
          refine t_cond_false rfl ?_
          refine t_skip ?_
          obtain rfl := Option.some.inj H
          exact t_reach ((K _ () HJ trivial).weak (fun a ha => ha.cons rfl (ha.cons rfl (ha.cons rfl (ha.cons rfl (ha.cons rfl (ha.cons rfl (ha.cons rfl (ha.cons rfl (ha.cons rfl (ha.nil)))))))))) (fun w hw => hw))
        ·
          have H := cond_t he
          clear he
          refine t_cond_true rfl ?_
          refine t_region (fun ops hops => ?_)
          clear hops
          refine z_val (v := .slice A1 a1.length c1) (val_move rfl rfl) rfl rfl rfl (fun _ _ _ => trivial) ?_
          refine z_val (v := .int .i64 x15) (val_move rfl rfl) rfl rfl rfl (fun _ _ _ => trivial) ?_
          obtain ⟨hq_11, H⟩ := Chk_elim H
          obtain ⟨b_12, o_13, hA_14, hc_15⟩ := hs1.at_ (idx_lt hq_11)
          refine z_val (v := .pointer (some ⟨b_12, o_13 + x15.toNat, none⟩)) (val_idxS0 rfl rfl rfl Try.underlying46 sz49 hq_11 hA_14 rfl) rfl rfl rfl (fun _ _ _ => trivial) ?_
          obtain ⟨x27, hx27, H⟩ := Let_elim H
          refine z_val (v := U32 x27) (by subst hx27; exact val_load1 rfl rfl Try.underlying49 rfl (fun _ hw => hc_15.cell hw)) rfl rfl rfl (fun _ _ _ => trivial) ?_
          clear hx27
          refine z_val (v := U32 x27) (val_assign rfl rfl) rfl rfl rfl (fun _ _ _ => trivial) ?_
          refine z_nil ?_
          obtain rfl := Option.some.inj H
          exact t_reach ((K _ () HJ trivial).weak (fun a ha => ha.cons rfl (ha.cons rfl (ha.cons rfl (ha.cons rfl (ha.cons rfl (ha.cons rfl (ha.cons rfl (ha.cons rfl (ha.cons rfl (ha.nil)))))))))) (fun w hw => hw))
      ·
        replace H := HB
        clear HB
        obtain ⟨x9, rfl⟩ : ∃ x, x = s := ⟨_, rfl⟩
        try dsimp only at H
        change T 41 _ _ _
        refine t_region (fun ops hops => ?_)
        clear hops
        refine z_val (v := .slice (some ⟨g_2, 0, none⟩) y_3.length (x11.toNat)) (val_move rfl rfl) rfl rfl rfl (fun _ _ _ => trivial) ?_
        refine z_val (v := .int .i64 x15) (val_move rfl rfl) rfl rfl rfl (fun _ _ _ => trivial) ?_
        refine z_val (v := U32 x19) (val_move rfl rfl) rfl rfl rfl (fun _ _ _ => trivial) ?_
        refine z_val (v := U32 x9) (val_move rfl rfl) rfl rfl rfl (fun _ _ _ => trivial) ?_
        refine z_val (v := U32 x6) (val_move rfl rfl) rfl rfl rfl (fun _ _ _ => trivial) ?_
        obtain ⟨x34, hx, H⟩ := Option.bind_eq_some_iff.1 H
        refine z_made (v := .tuple #[U32 x34.1, U32 x34.2]) rfl Try.func55 nm55 bs55 rfl (fun w hw => bits_Sub32.calls x19 x9 x6 x34 hx w) rfl rfl rfl (fun _ _ _ => trivial) ?_
        clear hx
        refine z_val (v := .tuple #[U32 x34.1, U32 x34.2]) (val_move rfl rfl) rfl rfl rfl (fun _ _ _ => trivial) ?_
        refine z_val (v := U32 x34.1) (val_extract rfl rfl rfl) rfl rfl rfl (fun _ _ _ => trivial) ?_
        refine z_val (v := U32 x34.2) (val_extract rfl rfl rfl) rfl rfl rfl (fun _ _ _ => trivial) ?_
        obtain ⟨hq_16, H⟩ := Chk_elim H
        obtain ⟨g_17, hA_18⟩ := hs_5.blk (by omega)
        refine z_val (v := .pointer (some ⟨g_17, x15.toNat, none⟩)) (val_idxS1 rfl rfl rfl Try.underlying46 sz49 hq_16 hA_18 rfl) rfl rfl rfl (fun _ _ _ => trivial) ?_
        obtain ⟨x_19, hx_19, H⟩ := Let_elim H
        have hs_20 : Shp ((some ⟨g_2, 0, none⟩)) x_19.length (x11.toNat) := by subst hx_19; rw [List.length_set]; exact hs_5
        refine z_storeRow' (j := 0) (zs := x_19) (L' := (.row (.slice (some ⟨g_2, 0, none⟩) x_19.length (x11.toNat)) 49 1 (x_19.map U32)) :: Lr) rfl rfl rfl rfl rfl rfl sz49 rfl hA_18 (idx_lt hq_16) (by subst hx_19; rfl) rfl rfl rfl (fun _ _ _ => trivial) ?_
        have hl : y_3.length = x_19.length := by subst hx_19; rw [List.length_set]
        refine t_len (show y_3.length = x_19.length from hl) (fun z => [(1, .slice A1 a1.length c1), (5, .slice (some ⟨g_2, 0, none⟩) z (x11.toNat)), (6, U32 x6), (7, .int .i64 x15), (8, U32 x19), (9, U32 x9), (13, .slice A0 a0.length c0), (14, .int .i64 x14), (15, .int .i64 x15), (28, .tuple #[U32 x34.1, U32 x34.2]), (29, .slice (some ⟨g_2, 0, none⟩) z (x11.toNat)), (30, .int .i64 x15), (31, U32 x19), (32, U32 x9), (33, U32 x6), (34, .tuple #[U32 x34.1, U32 x34.2]), (35, U32 x34.1), (36, U32 x34.2), (37, .pointer (some ⟨g_17, x15.toNat, none⟩))]) (fun a ha => ha.cons rfl (ha.cons rfl (ha.cons rfl (ha.cons rfl (ha.cons rfl (ha.cons rfl (ha.cons rfl (ha.cons rfl (ha.cons rfl (ha.cons rfl (ha.cons rfl (ha.cons rfl (ha.cons rfl (ha.cons rfl (ha.cons rfl (ha.cons rfl (ha.cons rfl (ha.cons rfl (ha.cons rfl (ha.nil)))))))))))))))))))) ?_
        change T 41 _ _ _
        clear hx_19 hl
        refine z_val (v := U32 x34.2) (val_assign rfl rfl) rfl rfl rfl (fun _ _ _ => trivial) ?_
        refine z_nil ?_
        refine t_fin ?_
        refine t_region (fun ops hops => ?_)
        clear hops
        obtain ⟨x38, hx38, H⟩ := Let_elim H
        refine z_val (v := .int .i64 x38) (by subst hx38; exact val_bin rfl rfl rfl rfl (i64_add _ _ _)) rfl rfl rfl (fun _ _ _ => trivial) ?_
        clear hx38
        refine z_val (v := .int .i64 x38) (val_move rfl rfl) rfl rfl rfl (fun _ _ _ => trivial) ?_
        refine z_nil ?_
        obtain rfl := Option.some.inj H
        exact t_reach ((hn1 _ () rfl hs_20).weak (fun a ha => ha.cons rfl (ha.cons rfl (ha.cons rfl (ha.cons rfl (ha.cons rfl (ha.cons rfl (ha.nil))))))) (fun w hw => hw))
  ·
    obtain ⟨y_3, x6, x15⟩ := s
    try dsimp only at hφ
    have hs_5 := hφ; clear hφ
    subst hzz
    have H := HK1
    clear HK1 hz1
    replace H := sum_l H
    try dsimp only at H
    change T 41 _ _ _
    refine t_seq ?_
    refine t_seal (fun h_21 hS hs_22 => ?_)
    have hc_23 := hs_5.le
    refine t_region (fun ops hops => ?_)
    clear hops
    refine z_val (v := .slice (some ⟨g_2, 0, none⟩) y_3.length (x11.toNat)) (val_move rfl rfl) rfl rfl rfl (fun _ _ _ => trivial) ?_
    obtain ⟨x40, hx_24, H⟩ := Option.bind_eq_some_iff.1 H
    refine z_callG rfl Try.func42 nm42 bs42 rfl (fun w hw => modexp_number_trim.calls y_3 ((some ⟨g_2, 0, none⟩)) ((x11.toNat)) x40 hx_24 hs_22 hc_23 hw) rfl rfl rfl (fun _ _ _ _ _ => trivial) (fun g hφ => ?_)
    obtain ⟨h_25, A_27, c_28⟩ := g
    try dsimp only at hφ
    obtain ⟨hS_26, hs_29, hc_30⟩ := hφ
    clear hx_24
    change T 41 _ _ _
    replace hs_22 := hs_22.up hS_26
    refine z_val (v := .slice A_27 x40.length c_28) (val_assign rfl rfl) rfl rfl rfl (fun _ _ _ => trivial) ?_
    refine z_nil ?_
    refine t_ret ?_
    obtain rfl := Option.some.inj H
    exact ret1 rfl (res_tmp rfl) (fun _ hw => ⟨⟨h_25, A_27, c_28⟩, rfl, ⟨(hS.trans hS_26), hs_29, hc_30⟩, hw⟩)
def modexp_number_mod.b1 (a0 : List (BitVec 32)) (a1 : List (BitVec 32)) (x5 : List (BitVec 32)) (x6 : Int) : Option (Ctl ((List (BitVec 32)) × (Int)) (List (BitVec 32))) :=
  Let (decide (0 ≤ x6)) fun x12 => (bif x12 then Let (wi (Int.tdiv x6 32)) fun x18 => Chk ((0 : Int) ≤ x18 ∧ x18 < (a0.length : Int)) <| Let (lget a0 x18.toNat) fun x20 => Let (Int.tmod x6 32) fun x22 => Chk (0 ≤ x22) <| Let (x20 >>> x22.toNat) fun x23 => Let (x23 &&& 1#32) fun x24 => (modexp_number_double x5 x24).bind fun x25 => (modexp_number_less x25 a1).bind fun x28 => Let (!x28) fun x29 => (bif x29 then (modexp_number_minus x25 a1).bind fun x32 => some x32 else some x25).bind (fun (x5_21 : List (BitVec 32)) => Let (wi (x6 - 1)) fun x14 => some (.next (x5_21, x14))) else some (.brk (x5, x6)))
def modexp_number_mod (a0 : List (BitVec 32)) (a1 : List (BitVec 32)) : Option (List (BitVec 32)) :=
  Let ((a0.length : Int)) fun x8 => Let (wi (32 * x8)) fun x9 => Let (wi (x9 - 1)) fun x10 => (wlx (σ := (List (BitVec 32)) × (Int)) (fun s => modexp_number_mod.b1 a0 a1 s.1 s.2) (([] : List (BitVec 32)), x10)).bind (Sum.elim (fun s => (fun x5 x6 => some x5) s.1 s.2) (fun r => some r))
set_option maxRecDepth 100000 in
theorem modexp_number_mod.calls  (a0 : List (BitVec 32)) (a1 : List (BitVec 32)) (A0 : Option Addr) (c0 : Nat) (A1 : Option Addr) (c1 : Nat) (r : List (BitVec 32)) (H : modexp_number_mod a0 a1 = some r) {w0 : World} {Ex : List Nat} {h : Frag} {Lr : List Ent} {w : World} (hs0 : SlH h U32 A0 a0) (hc0 : a0.length ≤ c0) (hs1 : SlH h U32 A1 a1) (hc1 : a1.length ≤ c1)  (hM : Mm w0 Ex h (Lr) w) :
    Calls Try.prog 23 #[.slice A0 a0.length c0, .slice A1 a1.length c1] w fun e w' => ∃ (g : (Frag) × (Option Addr) × (Nat)), e = .returned (.slice g.2.1 r.length g.2.2) ∧ (Sub h g.1 ∧ SlH g.1 U32 g.2.1 r ∧ r.length ≤ g.2.2) ∧ Mm w0 Ex g.1 (Lr) w' := by
  unfold modexp_number_mod at H
  refine t_enter (vs := [.slice A0 a0.length c0, .slice A1 a1.length c1]) (n := 34) Try.func23 rfl rfl rfl hM ?_
  clear hM
  change T 34 _ _ _
  refine t_seq ?_
  refine t_region (fun ops hops => ?_)
  clear hops
  refine z_val (v := .slice none 0 0) (val_assign rfl rfl) rfl rfl rfl (fun _ _ _ => trivial) ?_
  refine z_nil ?_
  refine t_seq ?_
  refine t_region (fun ops hops => ?_)
  clear hops
  refine z_val (v := .slice none 0 0) (val_assign rfl rfl) rfl rfl rfl (fun _ _ _ => trivial) ?_
  refine z_nil ?_
  refine t_seq ?_
  refine t_seq ?_
  refine t_region (fun ops hops => ?_)
  clear hops
  refine z_val (v := .slice A0 a0.length c0) (val_move rfl rfl) rfl rfl rfl (fun _ _ _ => trivial) ?_
  obtain ⟨x8, hx8, H⟩ := Let_elim H
  refine z_val (v := .int .i64 x8) (by subst hx8; exact val_len rfl rfl rfl Try.underlying46) rfl rfl rfl (fun _ _ _ => trivial) ?_
  clear hx8
  obtain ⟨x9, hx9, H⟩ := Let_elim H
  refine z_val (v := .int .i64 x9) (by subst hx9; exact val_bin rfl rfl rfl rfl (i64_mul _ _ _)) rfl rfl rfl (fun _ _ _ => trivial) ?_
  clear hx9
  obtain ⟨x10, hx10, H⟩ := Let_elim H
  refine z_val (v := .int .i64 x10) (by subst hx10; exact val_bin rfl rfl rfl rfl (i64_sub _ _ _)) rfl rfl rfl (fun _ _ _ => trivial) ?_
  clear hx10
  refine z_val (v := .int .i64 x10) (val_assign rfl rfl) rfl rfl rfl (fun _ _ _ => trivial) ?_
  refine z_nil ?_
  refine t_block ?_
  obtain ⟨z1, hz1, HK1⟩ := Option.bind_eq_some_iff.1 H
  clear H
  refine t_while hz1 (fun (s : (List (BitVec 32)) × (Int)) (g : (Frag) × (Option Addr) × (Nat)) => [(0, .slice A0 a0.length c0), (1, .slice A1 a1.length c1), (5, .slice g.2.1 s.1.length g.2.2), (6, .int .i64 s.2)]) (fun (s : (List (BitVec 32)) × (Int)) (g : (Frag) × (Option Addr) × (Nat)) => [(5, .slice g.2.1 s.1.length g.2.2)]) (fun (s : (List (BitVec 32)) × (Int)) (g : (Frag) × (Option Addr) × (Nat)) => Mm w0 Ex g.1 (Lr)) (fun (s : (List (BitVec 32)) × (Int)) (g : (Frag) × (Option Addr) × (Nat)) => Mm w0 Ex g.1 (Lr)) (fun (s : (List (BitVec 32)) × (Int)) (g : (Frag) × (Option Addr) × (Nat)) => Sub h g.1 ∧ SlH g.1 U32 g.2.1 s.1 ∧ s.1.length ≤ g.2.2) (fun (s : (List (BitVec 32)) × (Int)) (g : (Frag) × (Option Addr) × (Nat)) => Sub h g.1 ∧ SlH g.1 U32 g.2.1 s.1 ∧ s.1.length ≤ g.2.2) ⟨h, none, 0⟩ ⟨(Sub.refl _), (SlH.nil : SlH _ U32 none (([] : List (BitVec 32)))), (Nat.le_refl _)⟩ (fun a w ha hw => ⟨ha.cons rfl (ha.cons rfl (ha.cons rfl (ha.cons rfl (ha.nil)))), hw⟩) (fun Gn Gb s g e hφ H hn1 hb1 hr1 => ?_) (fun s g hzz hφ => ?_)
  ·
    obtain ⟨x5, x6⟩ := s
    obtain ⟨h_1, A_2, c_3⟩ := g
    try dsimp only at hφ
    obtain ⟨hS, hs_4, hc_5⟩ := hφ
    replace hs0 := hs0.up hS
    replace hs1 := hs1.up hS
    change modexp_number_mod.b1 a0 a1 x5 x6 = some e at H
    unfold modexp_number_mod.b1 at H
    clear hz1
    change T 34 _ _ _
    refine t_seq ?_
    refine t_seq ?_
    refine t_region (fun ops hops => ?_)
    clear hops
    refine z_val (v := .int .i64 x6) (val_move rfl rfl) rfl rfl rfl (fun _ _ _ => trivial) ?_
    obtain ⟨x12, hx12, H⟩ := Let_elim H
    refine z_val (v := .bool x12) (by subst hx12; exact val_bin rfl rfl rfl rfl (i64_geq _ _ _)) rfl rfl rfl (fun _ _ _ => trivial) ?_
    clear hx12
    refine z_nil ?_
    cases x12
    ·
      replace H := cond_f H
      refine t_cond_false rfl ?_
      refine t_exit rfl ?_
      obtain rfl := Option.some.inj H
      exact t_reach ((hb1 _ ⟨h_1, A_2, c_3⟩ rfl ⟨hS, hs_4, hc_5⟩).weak (fun a ha => ha.cons rfl (ha.nil)) (fun w hw => hw))
    ·
      replace H := cond_t H
      refine t_cond_true rfl ?_
      refine t_skip ?_
      refine t_seq ?_
      refine t_block ?_
      refine t_seq ?_
      refine t_region (fun ops hops => ?_)
      clear hops
      refine z_val (v := .slice A_2 x5.length c_3) (val_move rfl rfl) rfl rfl rfl (fun _ _ _ => trivial) ?_
      refine z_val (v := .slice A0 a0.length c0) (val_move rfl rfl) rfl rfl rfl (fun _ _ _ => trivial) ?_
      refine z_val (v := .int .i64 x6) (val_move rfl rfl) rfl rfl rfl (fun _ _ _ => trivial) ?_
      obtain ⟨x18, hx18, H⟩ := Let_elim H
      refine z_val (v := .int .i64 x18) (by subst hx18; exact val_bin rfl rfl rfl rfl (i64_quo _ _ _ (by decide))) rfl rfl rfl (fun _ _ _ => trivial) ?_
      clear hx18
      obtain ⟨hq_6, H⟩ := Chk_elim H
      obtain ⟨b_7, o_8, hA_9, hc_10⟩ := hs0.at_ (idx_lt hq_6)
      refine z_val (v := .pointer (some ⟨b_7, o_8 + x18.toNat, none⟩)) (val_idxS0 rfl rfl rfl Try.underlying46 sz49 hq_6 hA_9 rfl) rfl rfl rfl (fun _ _ _ => trivial) ?_
      obtain ⟨x20, hx20, H⟩ := Let_elim H
      refine z_val (v := U32 x20) (by subst hx20; exact val_load1 rfl rfl Try.underlying49 rfl (fun _ hw => hc_10.cell hw)) rfl rfl rfl (fun _ _ _ => trivial) ?_
      clear hx20
      refine z_val (v := .int .i64 x6) (val_move rfl rfl) rfl rfl rfl (fun _ _ _ => trivial) ?_
      obtain ⟨x22, hx22, H⟩ := Let_elim H
      refine z_val (v := .int .i64 x22) (by subst hx22; exact val_bin rfl rfl rfl rfl (i64_rem _ _ _ (by decide))) rfl rfl rfl (fun _ _ _ => trivial) ?_
      clear hx22
      obtain ⟨hq_11, H⟩ := Chk_elim H
      obtain ⟨x23, hx23, H⟩ := Let_elim H
      refine z_val (v := U32 x23) (by subst hx23; exact val_bin rfl rfl rfl rfl (u32_shr _ _ _ _ hq_11)) rfl rfl rfl (fun _ _ _ => trivial) ?_
      clear hx23
      obtain ⟨x24, hx24, H⟩ := Let_elim H
      refine z_val (v := U32 x24) (by subst hx24; exact val_bin rfl rfl rfl rfl (u32_and_r _ _ _)) rfl rfl rfl (fun _ _ _ => trivial) ?_
      clear hx24
      obtain ⟨x25, hx, H⟩ := Option.bind_eq_some_iff.1 H
      refine z_callG rfl Try.func43 nm43 bs43 rfl (fun w hw => modexp_number_double.calls x5 x24 A_2 c_3 x25 hx hs_4 hc_5 hw) rfl rfl rfl (fun _ _ _ _ _ => trivial) (fun g hφ => ?_)
      obtain ⟨h_12, A_14, c_15⟩ := g
      try dsimp only at hφ
      obtain ⟨hS_13, hs_16, hc_17⟩ := hφ
      clear hx
      change T 34 _ _ _
      replace hs0 := hs0.up hS_13
      replace hs1 := hs1.up hS_13
      replace hs_4 := hs_4.up hS_13
      replace hc_10 := hc_10.up hS_13
      refine z_val (v := .slice A_14 x25.length c_15) (val_assign rfl rfl) rfl rfl rfl (fun _ _ _ => trivial) ?_
      refine z_nil ?_
      refine t_seq ?_
      refine t_region (fun ops hops => ?_)
      clear hops
      refine z_val (v := .slice A_14 x25.length c_15) (val_move rfl rfl) rfl rfl rfl (fun _ _ _ => trivial) ?_
      refine z_val (v := .slice A1 a1.length c1) (val_move rfl rfl) rfl rfl rfl (fun _ _ _ => trivial) ?_
      obtain ⟨x28, hx_18, H⟩ := Option.bind_eq_some_iff.1 H
      refine z_made (v := .bool x28) rfl Try.func44 nm44 bs44 rfl (fun w hw => modexp_number_less.calls x25 a1 A_14 c_15 A1 c1 x28 hx_18 w (hs_16.toW hw) hc_17 (hs1.toW hw) hc1) rfl rfl rfl (fun _ _ _ => trivial) ?_
      clear hx_18
      obtain ⟨x29, hx29, H⟩ := Let_elim H
      refine z_val (v := .bool x29) (by subst hx29; exact val_un rfl rfl (bool_not _)) rfl rfl rfl (fun _ _ _ => trivial) ?_
      clear hx29
      refine z_nil ?_
      refine t_bind H (fun (s : (List (BitVec 32))) (g : (Frag) × (Option Addr) × (Nat)) => [(0, .slice A0 a0.length c0), (1, .slice A1 a1.length c1), (5, .slice g.2.1 s.length g.2.2), (6, .int .i64 x6)]) (fun (s : (List (BitVec 32))) (g : (Frag) × (Option Addr) × (Nat)) => Mm w0 Ex g.1 (Lr)) (fun (s : (List (BitVec 32))) (g : (Frag) × (Option Addr) × (Nat)) => Sub h_12 g.1 ∧ SlH g.1 U32 g.2.1 s ∧ s.length ≤ g.2.2) (fun Gr K s he HJ => ?_) (fun s g HB hφ => ?_)
      ·
        clear H
        cases x29
        ·
          have H := cond_f he
          clear he
          refine t_cond_false rfl ?_
          refine t_skip ?_
          obtain rfl := Option.some.inj H
          exact t_reach ((K _ ⟨h_12, A_14, c_15⟩ HJ ⟨(Sub.refl _), hs_16, hc_17⟩).weak (fun a ha => ha.cons rfl (ha.cons rfl (ha.cons rfl (ha.cons rfl (ha.nil))))) (fun w hw => hw))
        ·
          have H := cond_t he
          clear he
          refine t_cond_true rfl ?_
          refine t_region (fun ops hops => ?_)
          clear hops
          refine z_val (v := .slice A_14 x25.length c_15) (val_move rfl rfl) rfl rfl rfl (fun _ _ _ => trivial) ?_
          refine z_val (v := .slice A1 a1.length c1) (val_move rfl rfl) rfl rfl rfl (fun _ _ _ => trivial) ?_
          obtain ⟨x32, hx_26, H⟩ := Option.bind_eq_some_iff.1 H
          refine z_callG rfl Try.func45 nm45 bs45 rfl (fun w hw => modexp_number_minus.calls x25 a1 A_14 c_15 A1 c1 x32 hx_26 hs_16 hc_17 hs1 hc1 hw) rfl rfl rfl (fun _ _ _ _ _ => trivial) (fun g hφ => ?_)
          obtain ⟨h_27, A_29, c_30⟩ := g
          try dsimp only at hφ
          obtain ⟨hS_28, hs_31, hc_32⟩ := hφ
          clear hx_26
          change T 34 _ _ _
          replace hs0 := hs0.up hS_28
          replace hs1 := hs1.up hS_28
          replace hs_16 := hs_16.up hS_28
          replace hs_4 := hs_4.up hS_28
          replace hc_10 := hc_10.up hS_28
          refine z_val (v := .slice A_29 x32.length c_30) (val_assign rfl rfl) rfl rfl rfl (fun _ _ _ => trivial) ?_
          refine z_nil ?_
          obtain rfl := Option.some.inj H
          exact t_reach ((K _ ⟨h_27, A_29, c_30⟩ HJ ⟨hS_28, hs_31, hc_32⟩).weak (fun a ha => ha.cons rfl (ha.cons rfl (ha.cons rfl (ha.cons rfl (ha.nil))))) (fun w hw => hw))
      ·
        replace H := HB
        clear HB
        obtain ⟨x5_21, rfl⟩ : ∃ x, x = s := ⟨_, rfl⟩
        obtain ⟨h_19, A_22, c_23⟩ := g
        try dsimp only at hφ
        obtain ⟨hS_20, hs_24, hc_25⟩ := hφ
        replace hs0 := hs0.up hS_20
        replace hs1 := hs1.up hS_20
        try dsimp only at H
        change T 34 _ _ _
        refine t_fin ?_
        refine t_region (fun ops hops => ?_)
        clear hops
        refine z_val (v := .int .i64 x6) (val_move rfl rfl) rfl rfl rfl (fun _ _ _ => trivial) ?_
        obtain ⟨x14, hx14, H⟩ := Let_elim H
        refine z_val (v := .int .i64 x14) (by subst hx14; exact val_bin rfl rfl rfl rfl (i64_sub _ _ _)) rfl rfl rfl (fun _ _ _ => trivial) ?_
        clear hx14
        refine z_val (v := .int .i64 x14) (val_assign rfl rfl) rfl rfl rfl (fun _ _ _ => trivial) ?_
        refine z_nil ?_
        obtain rfl := Option.some.inj H
        exact t_reach ((hn1 _ ⟨h_19, A_22, c_23⟩ rfl ⟨((hS.trans hS_13).trans hS_20), hs_24, hc_25⟩).weak (fun a ha => ha.cons rfl (ha.cons rfl (ha.cons rfl (ha.cons rfl (ha.nil))))) (fun w hw => hw))
  ·
    obtain ⟨x5, x6⟩ := s
    obtain ⟨h_1, A_2, c_3⟩ := g
    try dsimp only at hφ
    obtain ⟨hS, hs_4, hc_5⟩ := hφ
    replace hs0 := hs0.up hS
    replace hs1 := hs1.up hS
    subst hzz
    have H := HK1
    clear HK1 hz1
    replace H := sum_l H
    try dsimp only at H
    change T 34 _ _ _
    refine t_seq ?_
    refine t_region (fun ops hops => ?_)
    clear hops
    refine z_val (v := .slice A_2 x5.length c_3) (val_move rfl rfl) rfl rfl rfl (fun _ _ _ => trivial) ?_
    refine z_val (v := .slice A_2 x5.length c_3) (val_assign rfl rfl) rfl rfl rfl (fun _ _ _ => trivial) ?_
    refine z_nil ?_
    refine t_ret ?_
    obtain rfl := Option.some.inj H
    exact ret1 rfl (res_tmp rfl) (fun _ hw => ⟨⟨h_1, A_2, c_3⟩, rfl, ⟨hS, hs_4, hc_5⟩, hw⟩)
def modexp_number_bytes.b2 (a1 : Int) (x14 : Int) (x18 : BitVec 32) (y_3_11 : List (BitVec 8)) (x19 : Int) : Option (Ctl ((List (BitVec 8)) × (Int)) (List (BitVec 8))) :=
  Let (decide (x19 < 4)) fun x20 => (bif x20 then Let (wi (a1 - 1)) fun x23 => Let (wi (4 * x14)) fun x25 => Let (wi (x23 - x25)) fun x26 => Let (wi (x26 - x19)) fun x28 => Let (decide (0 ≤ x28)) fun x30 => (bif x30 then Let (wi (8 * x19)) fun x35 => Chk (0 ≤ x35) <| Let (x18 >>> x35.toNat) fun x36 => Let (x36.setWidth 8) fun x37 => Chk ((0 : Int) ≤ x28 ∧ x28 < (y_3_11.length : Int)) <| Let (y_3_11.set x28.toNat x37) fun x_19 => some x_19 else some y_3_11).bind (fun (y_3_13 : List (BitVec 8)) => Let (wi (x19 + 1)) fun x39 => some (.next (y_3_13, x39))) else some (.brk (y_3_11, x19)))
def modexp_number_bytes.b1 (x13 : Int) (a0 : List (BitVec 32)) (a1 : Int) (y_3 : List (BitVec 8)) (x14 : Int) : Option (Ctl ((List (BitVec 8)) × (Int)) (List (BitVec 8))) :=
  Let (decide (x14 < x13)) fun x15 => (bif x15 then Chk ((0 : Int) ≤ x14 ∧ x14 < (a0.length : Int)) <| Let (lget a0 x14.toNat) fun x18 => (wlx (σ := (List (BitVec 8)) × (Int)) (fun s => modexp_number_bytes.b2 a1 x14 x18 s.1 s.2) (y_3, 0)).bind (Sum.elim (fun s => (fun y_3_11 x19 => Let (wi (x14 + 1)) fun x40 => some (.next (y_3_11, x40))) s.1 s.2) (fun r => some (.ret r))) else some (.brk (y_3, x14)))
def modexp_number_bytes (a0 : List (BitVec 32)) (a1 : Int) : Option (List (BitVec 8)) :=
  Chk ((0 : Int) ≤ a1 ∧ a1.toNat * 1 ≤ 140737488355328) <| Let (List.replicate a1.toNat 0#8) fun x11 => Let ((a0.length : Int)) fun x13 => (wlx (σ := (List (BitVec 8)) × (Int)) (fun s => modexp_number_bytes.b1 x13 a0 a1 s.1 s.2) (x11, 0)).bind (Sum.elim (fun s => (fun y_3 x14 => some y_3) s.1 s.2) (fun r => some r))
set_option maxRecDepth 100000 in
theorem modexp_number_bytes.calls  (a0 : List (BitVec 32)) (a1 : Int) (A0 : Option Addr) (c0 : Nat) (r : List (BitVec 8)) (H : modexp_number_bytes a0 a1 = some r) (w : World) (hs0 : SlW w U32 A0 a0) (hc0 : a0.length ≤ c0)  :
    Calls Try.prog 25 #[.slice A0 a0.length c0, .int .i64 a1] w fun e w' => ∃ A c, e = .returned (.slice A r.length c) ∧ Below w.heap.size w w' ∧ OwnR w w' 5 U8 A c r := by
  unfold modexp_number_bytes at H
  replace hs0 := hs0.toH
  have hM := Mm.start w (snap w) (snap_ok w)
  generalize snap w = h at *
  refine t_enter (vs := [.slice A0 a0.length c0, .int .i64 a1]) (n := 42) Try.func25 rfl rfl rfl hM ?_
  clear hM
  change T 42 _ _ _
  refine t_seq ?_
  refine t_region (fun ops hops => ?_)
  clear hops
  refine z_val (v := .slice none 0 0) (val_assign rfl rfl) rfl rfl rfl (fun _ _ _ => trivial) ?_
  refine z_nil ?_
  refine t_seq ?_
  refine t_region (fun ops hops => ?_)
  clear hops
  refine z_val (v := .int .i64 a1) (val_move rfl rfl) rfl rfl rfl (fun _ _ _ => trivial) ?_
  obtain ⟨hq_1, H⟩ := Chk_elim H
  obtain ⟨x11, hx11, H⟩ := Let_elim H
  refine z_makeSlice (f := U8) (z0 := 0#8) (N := a1.toNat) rfl rfl rfl Try.underlying22 (in5.trans rfl) rfl hq_1.1 rfl hq_1.2 (by decide) hx11 rfl rfl rfl (fun _ _ _ _ => trivial) (fun g_2 hs_4 => ?_)
  clear hx11
  refine z_val (v := .slice (some ⟨g_2, 0, none⟩) x11.length (a1.toNat)) (val_assign rfl rfl) rfl rfl rfl (fun _ _ _ => trivial) ?_
  refine z_nil ?_
  refine t_seq ?_
  refine t_seq ?_
  refine t_region (fun ops hops => ?_)
  clear hops
  refine z_val (v := .slice A0 a0.length c0) (val_move rfl rfl) rfl rfl rfl (fun _ _ _ => trivial) ?_
  obtain ⟨x13, hx13, H⟩ := Let_elim H
  refine z_val (v := .int .i64 x13) (by subst hx13; exact val_len rfl rfl rfl Try.underlying46) rfl rfl rfl (fun _ _ _ => trivial) ?_
  clear hx13
  refine z_val (v := .int .i64 0) (val_move rfl rfl) rfl rfl rfl (fun _ _ _ => trivial) ?_
  refine z_nil ?_
  refine t_block ?_
  obtain ⟨z1, hz1, HK1⟩ := Option.bind_eq_some_iff.1 H
  clear H
  refine t_while hz1 (fun (s : (List (BitVec 8)) × (Int)) (g : Unit) => [(1, .int .i64 a1), (5, .slice (some ⟨g_2, 0, none⟩) s.1.length (a1.toNat)), (12, .slice A0 a0.length c0), (13, .int .i64 x13), (14, .int .i64 s.2)]) (fun (s : (List (BitVec 8)) × (Int)) (g : Unit) => [(5, .slice (some ⟨g_2, 0, none⟩) s.1.length (a1.toNat))]) (fun (s : (List (BitVec 8)) × (Int)) (g : Unit) => Mm w [] h [.row (.slice (some ⟨g_2, 0, none⟩) s.1.length (a1.toNat)) 5 1 (s.1.map U8)]) (fun (s : (List (BitVec 8)) × (Int)) (g : Unit) => Mm w [] h [.row (.slice (some ⟨g_2, 0, none⟩) s.1.length (a1.toNat)) 5 1 (s.1.map U8)]) (fun (s : (List (BitVec 8)) × (Int)) (g : Unit) => Shp ((some ⟨g_2, 0, none⟩)) s.1.length (a1.toNat)) (fun (s : (List (BitVec 8)) × (Int)) (g : Unit) => Shp ((some ⟨g_2, 0, none⟩)) s.1.length (a1.toNat)) () hs_4 (fun a w ha hw => ⟨ha.cons rfl (ha.cons rfl (ha.cons rfl (ha.cons rfl (ha.cons rfl (ha.nil))))), hw⟩) (fun Gn Gb s g e hφ H hn1 hb1 hr1 => ?_) (fun s g hzz hφ => ?_)
  ·
    obtain ⟨y_3, x14⟩ := s
    try dsimp only at hφ
    have hs_5 := hφ; clear hφ
    change modexp_number_bytes.b1 x13 a0 a1 y_3 x14 = some e at H
    unfold modexp_number_bytes.b1 at H
    clear hz1
    change T 42 _ _ _
    refine t_seq ?_
    refine t_region (fun ops hops => ?_)
    clear hops
    obtain ⟨x15, hx15, H⟩ := Let_elim H
    refine z_val (v := .bool x15) (by subst hx15; exact val_bin rfl rfl rfl rfl (i64_lss _ _ _)) rfl rfl rfl (fun _ _ _ => trivial) ?_
    clear hx15
    refine z_nil ?_
    refine t_seq ?_
    cases x15
    ·
      replace H := cond_f H
      refine t_cond_false rfl ?_
      refine t_exit rfl ?_
      obtain rfl := Option.some.inj H
      exact t_reach ((hb1 _ () rfl hs_5).weak (fun a ha => ha.cons rfl (ha.nil)) (fun w hw => hw))
    ·
      replace H := cond_t H
      refine t_cond_true rfl ?_
      refine t_skip ?_
      refine t_seq ?_
      refine t_block ?_
      refine t_seq ?_
      refine t_region (fun ops hops => ?_)
      clear hops
      refine z_val (v := .int .i64 x14) (val_move rfl rfl) rfl rfl rfl (fun _ _ _ => trivial) ?_
      obtain ⟨hq_6, H⟩ := Chk_elim H
      obtain ⟨b_7, o_8, hA_9, hc_10⟩ := hs0.at_ (idx_lt hq_6)
      refine z_val (v := .pointer (some ⟨b_7, o_8 + x14.toNat, none⟩)) (val_idxS0 rfl rfl rfl Try.underlying46 sz49 hq_6 hA_9 rfl) rfl rfl rfl (fun _ _ _ => trivial) ?_
      obtain ⟨x18, hx18, H⟩ := Let_elim H
      refine z_val (v := U32 x18) (by subst hx18; exact val_load1 rfl rfl Try.underlying49 rfl (fun _ hw => hc_10.cell hw)) rfl rfl rfl (fun _ _ _ => trivial) ?_
      clear hx18
      refine z_val (v := .int .i64 x14) (val_assign rfl rfl) rfl rfl rfl (fun _ _ _ => trivial) ?_
      refine z_val (v := U32 x18) (val_assign rfl rfl) rfl rfl rfl (fun _ _ _ => trivial) ?_
      refine z_nil ?_
      refine t_seq ?_
      refine t_region (fun ops hops => ?_)
      clear hops
      refine z_val (v := .int .i64 0) (val_move rfl rfl) rfl rfl rfl (fun _ _ _ => trivial) ?_
      refine z_nil ?_
      refine t_block ?_
      obtain ⟨z2, hz2, HK2⟩ := Option.bind_eq_some_iff.1 H
      clear H
      refine t_while hz2 (fun (s : (List (BitVec 8)) × (Int)) (g : Unit) => [(1, .int .i64 a1), (5, .slice (some ⟨g_2, 0, none⟩) s.1.length (a1.toNat)), (6, .int .i64 x14), (7, U32 x18), (12, .slice A0 a0.length c0), (13, .int .i64 x13), (14, .int .i64 x14), (19, .int .i64 s.2)]) (fun (s : (List (BitVec 8)) × (Int)) (g : Unit) => [(1, .int .i64 a1), (5, .slice (some ⟨g_2, 0, none⟩) s.1.length (a1.toNat)), (12, .slice A0 a0.length c0), (13, .int .i64 x13), (14, .int .i64 x14)]) (fun (s : (List (BitVec 8)) × (Int)) (g : Unit) => Mm w [] h [.row (.slice (some ⟨g_2, 0, none⟩) s.1.length (a1.toNat)) 5 1 (s.1.map U8)]) (fun (s : (List (BitVec 8)) × (Int)) (g : Unit) => Mm w [] h [.row (.slice (some ⟨g_2, 0, none⟩) s.1.length (a1.toNat)) 5 1 (s.1.map U8)]) (fun (s : (List (BitVec 8)) × (Int)) (g : Unit) => Shp ((some ⟨g_2, 0, none⟩)) s.1.length (a1.toNat)) (fun (s : (List (BitVec 8)) × (Int)) (g : Unit) => Shp ((some ⟨g_2, 0, none⟩)) s.1.length (a1.toNat)) () hs_5 (fun a w ha hw => ⟨ha.cons rfl (ha.cons rfl (ha.cons rfl (ha.cons rfl (ha.cons rfl (ha.cons rfl (ha.cons rfl (ha.cons rfl (ha.nil)))))))), hw⟩) (fun Gn Gb s g e hφ H hn2 hb2 hr2 => ?_) (fun s g hzz hφ => ?_)
      ·
        obtain ⟨y_3_11, x19⟩ := s
        try dsimp only at hφ
        have hs_12 := hφ; clear hφ
        change modexp_number_bytes.b2 a1 x14 x18 y_3_11 x19 = some e at H
        unfold modexp_number_bytes.b2 at H
        clear hz2
        change T 42 _ _ _
        refine t_seq ?_
        refine t_region (fun ops hops => ?_)
        clear hops
        obtain ⟨x20, hx20, H⟩ := Let_elim H
        refine z_val (v := .bool x20) (by subst hx20; exact val_bin rfl rfl rfl rfl (i64_lss _ _ _)) rfl rfl rfl (fun _ _ _ => trivial) ?_
        clear hx20
        refine z_nil ?_
        refine t_seq ?_
        cases x20
        ·
          replace H := cond_f H
          refine t_cond_false rfl ?_
          refine t_exit rfl ?_
          obtain rfl := Option.some.inj H
          exact t_reach ((hb2 _ () rfl hs_12).weak (fun a ha => ha.cons rfl (ha.cons rfl (ha.cons rfl (ha.cons rfl (ha.cons rfl (ha.nil)))))) (fun w hw => hw))
        ·
          replace H := cond_t H
          refine t_cond_true rfl ?_
          refine t_skip ?_
          refine t_seq ?_
          refine t_block ?_
          refine t_seq ?_
          refine t_region (fun ops hops => ?_)
          clear hops
          refine z_val (v := .int .i64 x19) (val_move rfl rfl) rfl rfl rfl (fun _ _ _ => trivial) ?_
          refine z_val (v := .int .i64 x19) (val_assign rfl rfl) rfl rfl rfl (fun _ _ _ => trivial) ?_
          refine z_nil ?_
          refine t_seq ?_
          refine t_region (fun ops hops => ?_)
          clear hops
          refine z_val (v := .int .i64 a1) (val_move rfl rfl) rfl rfl rfl (fun _ _ _ => trivial) ?_
          obtain ⟨x23, hx23, H⟩ := Let_elim H
          refine z_val (v := .int .i64 x23) (by subst hx23; exact val_bin rfl rfl rfl rfl (i64_sub _ _ _)) rfl rfl rfl (fun _ _ _ => trivial) ?_
          clear hx23
          refine z_val (v := .int .i64 x14) (val_move rfl rfl) rfl rfl rfl (fun _ _ _ => trivial) ?_
          obtain ⟨x25, hx25, H⟩ := Let_elim H
          refine z_val (v := .int .i64 x25) (by subst hx25; exact val_bin rfl rfl rfl rfl (i64_mul _ _ _)) rfl rfl rfl (fun _ _ _ => trivial) ?_
          clear hx25
          obtain ⟨x26, hx26, H⟩ := Let_elim H
          refine z_val (v := .int .i64 x26) (by subst hx26; exact val_bin rfl rfl rfl rfl (i64_sub _ _ _)) rfl rfl rfl (fun _ _ _ => trivial) ?_
          clear hx26
          refine z_val (v := .int .i64 x19) (val_move rfl rfl) rfl rfl rfl (fun _ _ _ => trivial) ?_
          obtain ⟨x28, hx28, H⟩ := Let_elim H
          refine z_val (v := .int .i64 x28) (by subst hx28; exact val_bin rfl rfl rfl rfl (i64_sub _ _ _)) rfl rfl rfl (fun _ _ _ => trivial) ?_
          clear hx28
          refine z_val (v := .int .i64 x28) (val_assign rfl rfl) rfl rfl rfl (fun _ _ _ => trivial) ?_
          refine z_nil ?_
          refine t_seq ?_
          refine t_region (fun ops hops => ?_)
          clear hops
          refine z_val (v := .int .i64 x28) (val_move rfl rfl) rfl rfl rfl (fun _ _ _ => trivial) ?_
          obtain ⟨x30, hx30, H⟩ := Let_elim H
          refine z_val (v := .bool x30) (by subst hx30; exact val_bin rfl rfl rfl rfl (i64_geq _ _ _)) rfl rfl rfl (fun _ _ _ => trivial) ?_
          clear hx30
          refine z_nil ?_
          refine t_bind H (fun (s : (List (BitVec 8))) (g : Unit) => [(1, .int .i64 a1), (5, .slice (some ⟨g_2, 0, none⟩) s.length (a1.toNat)), (6, .int .i64 x14), (7, U32 x18), (12, .slice A0 a0.length c0), (13, .int .i64 x13), (14, .int .i64 x14), (19, .int .i64 x19)]) (fun (s : (List (BitVec 8))) (g : Unit) => Mm w [] h [.row (.slice (some ⟨g_2, 0, none⟩) s.length (a1.toNat)) 5 1 (s.map U8)]) (fun (s : (List (BitVec 8))) (g : Unit) => Shp ((some ⟨g_2, 0, none⟩)) s.length (a1.toNat)) (fun Gr K s he HJ => ?_) (fun s g HB hφ => ?_)
          ·
            clear H
            cases x30
            ·
              have H := cond_f he
              clear he
              refine t_cond_false rfl ?_
              refine t_skip ?_
              obtain rfl := Option.some.inj H
              exact t_reach ((K _ () HJ hs_12).weak (fun a ha => ha.cons rfl (ha.cons rfl (ha.cons rfl (ha.cons rfl (ha.cons rfl (ha.cons rfl (ha.cons rfl (ha.cons rfl (ha.nil))))))))) (fun w hw => hw))
            ·
              have H := cond_t he
              clear he
              refine t_cond_true rfl ?_
              refine t_region (fun ops hops => ?_)
              clear hops
              refine z_val (v := .slice (some ⟨g_2, 0, none⟩) y_3_11.length (a1.toNat)) (val_move rfl rfl) rfl rfl rfl (fun _ _ _ => trivial) ?_
              refine z_val (v := .int .i64 x28) (val_move rfl rfl) rfl rfl rfl (fun _ _ _ => trivial) ?_
              refine z_val (v := U32 x18) (val_move rfl rfl) rfl rfl rfl (fun _ _ _ => trivial) ?_
              refine z_val (v := .int .i64 x19) (val_move rfl rfl) rfl rfl rfl (fun _ _ _ => trivial) ?_
              obtain ⟨x35, hx35, H⟩ := Let_elim H
              refine z_val (v := .int .i64 x35) (by subst hx35; exact val_bin rfl rfl rfl rfl (i64_mul _ _ _)) rfl rfl rfl (fun _ _ _ => trivial) ?_
              clear hx35
              obtain ⟨hq_15, H⟩ := Chk_elim H
              obtain ⟨x36, hx36, H⟩ := Let_elim H
              refine z_val (v := U32 x36) (by subst hx36; exact val_bin rfl rfl rfl rfl (u32_shr _ _ _ _ hq_15)) rfl rfl rfl (fun _ _ _ => trivial) ?_
              clear hx36
              obtain ⟨x37, hx37, H⟩ := Let_elim H
              refine z_val (v := U8 x37) (by subst hx37; exact val_conv rfl rfl (fun w => conv_u32_u8 w _ _ _ (by rw [Try.underlying49]; rfl) Try.underlying5)) rfl rfl rfl (fun _ _ _ => trivial) ?_
              clear hx37
              obtain ⟨hq_16, H⟩ := Chk_elim H
              obtain ⟨g_17, hA_18⟩ := hs_12.blk (by omega)
              refine z_val (v := .pointer (some ⟨g_17, x28.toNat, none⟩)) (val_idxS1 rfl rfl rfl Try.underlying22 sz5 hq_16 hA_18 rfl) rfl rfl rfl (fun _ _ _ => trivial) ?_
              obtain ⟨x_19, hx_19, H⟩ := Let_elim H
              have hs_20 : Shp ((some ⟨g_2, 0, none⟩)) x_19.length (a1.toNat) := by subst hx_19; rw [List.length_set]; exact hs_12
              refine z_storeRow' (j := 0) (zs := x_19) (L' := [.row (.slice (some ⟨g_2, 0, none⟩) x_19.length (a1.toNat)) 5 1 (x_19.map U8)]) rfl rfl rfl rfl rfl rfl sz5 rfl hA_18 (idx_lt hq_16) (by subst hx_19; rfl) rfl rfl rfl (fun _ _ _ => trivial) ?_
              have hl : y_3_11.length = x_19.length := by subst hx_19; rw [List.length_set]
              refine t_len (show y_3_11.length = x_19.length from hl) (fun z => [(1, .int .i64 a1), (5, .slice (some ⟨g_2, 0, none⟩) z (a1.toNat)), (6, .int .i64 x14), (7, U32 x18), (8, .int .i64 x19), (9, .int .i64 x28), (12, .slice A0 a0.length c0), (13, .int .i64 x13), (14, .int .i64 x14), (19, .int .i64 x19), (20, .bool true), (21, .int .i64 x19), (22, .int .i64 a1), (23, .int .i64 x23), (24, .int .i64 x14), (25, .int .i64 x25), (26, .int .i64 x26), (27, .int .i64 x19), (28, .int .i64 x28), (29, .int .i64 x28), (30, .bool true), (31, .slice (some ⟨g_2, 0, none⟩) z (a1.toNat)), (32, .int .i64 x28), (33, U32 x18), (34, .int .i64 x19), (35, .int .i64 x35), (36, U32 x36), (37, U8 x37), (38, .pointer (some ⟨g_17, x28.toNat, none⟩))]) (fun a ha => ha.cons rfl (ha.cons rfl (ha.cons rfl (ha.cons rfl (ha.cons rfl (ha.cons rfl (ha.cons rfl (ha.cons rfl (ha.cons rfl (ha.cons rfl (ha.cons rfl (ha.cons rfl (ha.cons rfl (ha.cons rfl (ha.cons rfl (ha.cons rfl (ha.cons rfl (ha.cons rfl (ha.cons rfl (ha.cons rfl (ha.cons rfl (ha.cons rfl (ha.cons rfl (ha.cons rfl (ha.cons rfl (ha.cons rfl (ha.cons rfl (ha.cons rfl (ha.cons rfl (ha.nil)))))))))))))))))))))))))))))) ?_
              change T 42 _ _ _
              clear hx_19 hl
              refine z_nil ?_
              obtain rfl := Option.some.inj H
              exact t_reach ((K _ () HJ hs_20).weak (fun a ha => ha.cons rfl (ha.cons rfl (ha.cons rfl (ha.cons rfl (ha.cons rfl (ha.cons rfl (ha.cons rfl (ha.cons rfl (ha.nil))))))))) (fun w hw => hw))
          ·
            replace H := HB
            clear HB
            obtain ⟨y_3_13, rfl⟩ : ∃ x, x = s := ⟨_, rfl⟩
            try dsimp only at hφ
            have hs_14 := hφ; clear hφ
            try dsimp only at H
            change T 42 _ _ _
            refine t_fin ?_
            refine t_region (fun ops hops => ?_)
            clear hops
            obtain ⟨x39, hx39, H⟩ := Let_elim H
            refine z_val (v := .int .i64 x39) (by subst hx39; exact val_bin rfl rfl rfl rfl (i64_add _ _ _)) rfl rfl rfl (fun _ _ _ => trivial) ?_
            clear hx39
            refine z_val (v := .int .i64 x39) (val_move rfl rfl) rfl rfl rfl (fun _ _ _ => trivial) ?_
            refine z_nil ?_
            obtain rfl := Option.some.inj H
            exact t_reach ((hn2 _ () rfl hs_14).weak (fun a ha => ha.cons rfl (ha.cons rfl (ha.cons rfl (ha.cons rfl (ha.cons rfl (ha.cons rfl (ha.cons rfl (ha.cons rfl (ha.nil))))))))) (fun w hw => hw))
      ·
        obtain ⟨y_3_11, x19⟩ := s
        try dsimp only at hφ
        have hs_12 := hφ; clear hφ
        subst hzz
        have H := HK2
        clear HK2 hz2
        replace H := sum_l H
        try dsimp only at H
        change T 42 _ _ _
        refine t_fin ?_
        refine t_region (fun ops hops => ?_)
        clear hops
        obtain ⟨x40, hx40, H⟩ := Let_elim H
        refine z_val (v := .int .i64 x40) (by subst hx40; exact val_bin rfl rfl rfl rfl (i64_add _ _ _)) rfl rfl rfl (fun _ _ _ => trivial) ?_
        clear hx40
        refine z_val (v := .int .i64 x40) (val_move rfl rfl) rfl rfl rfl (fun _ _ _ => trivial) ?_
        refine z_nil ?_
        obtain rfl := Option.some.inj H
        exact t_reach ((hn1 _ () rfl hs_12).weak (fun a ha => ha.cons rfl (ha.cons rfl (ha.cons rfl (ha.cons rfl (ha.cons rfl (ha.nil)))))) (fun w hw => hw))
  ·
    obtain ⟨y_3, x14⟩ := s
    try dsimp only at hφ
    have hs_5 := hφ; clear hφ
    subst hzz
    have H := HK1
    clear HK1 hz1
    replace H := sum_l H
    try dsimp only at H
    change T 42 _ _ _
    refine t_seq ?_
    refine t_region (fun ops hops => ?_)
    clear hops
    refine z_val (v := .slice (some ⟨g_2, 0, none⟩) y_3.length (a1.toNat)) (val_move rfl rfl) rfl rfl rfl (fun _ _ _ => trivial) ?_
    refine z_val (v := .slice (some ⟨g_2, 0, none⟩) y_3.length (a1.toNat)) (val_assign rfl rfl) rfl rfl rfl (fun _ _ _ => trivial) ?_
    refine z_nil ?_
    refine t_ret ?_
    obtain rfl := Option.some.inj H
    exact ret1 rfl (res_tmp rfl) (fun _ hw => ⟨(some ⟨g_2, 0, none⟩), (a1.toNat), rfl, hw.below, (row_out hw (j := 0) rfl hs_5)⟩)
def modexp_Pow.b2 (x28 : List (BitVec 32)) (x47 : BitVec 8) (x38 : List (BitVec 32)) (x10_47 : List (BitVec 32)) (x13 : Int) : Option (Ctl ((List (BitVec 32)) × (Int)) ((List (BitVec 8)) × (Int))) :=
  Let (decide (0 ≤ x13)) fun x49 => (bif x49 then (modexp_number_times x10_47 x10_47).bind fun x54 => (modexp_number_mod x54 x28).bind fun x56 => Chk (0 ≤ x13) <| Let (x47 >>> x13.toNat) fun x59 => Let (x59 &&& 1#8) fun x60 => Let ((x60.toNat : Int) == 1) fun x61 => (bif x61 then (modexp_number_times x56 x38).bind fun x64 => (modexp_number_mod x64 x28).bind fun x66 => some x66 else some x56).bind (fun (x10_69 : List (BitVec 32)) => Let (wi (x13 - 1)) fun x51 => some (.next (x10_69, x51))) else some (.brk (x10_47, x13)))
def modexp_Pow.b1 (x43 : Int) (a1 : List (BitVec 8)) (x28 : List (BitVec 32)) (x38 : List (BitVec 32)) (x10 : List (BitVec 32)) (x44 : Int) : Option (Ctl ((List (BitVec 32)) × (Int)) ((List (BitVec 8)) × (Int))) :=
  Let (decide (x44 < x43)) fun x45 => (bif x45 then Chk ((0 : Int) ≤ x44 ∧ x44 < (a1.length : Int)) <| Let (lget a1 x44.toNat) fun x47 => (wlx (σ := (List (BitVec 32)) × (Int)) (fun s => modexp_Pow.b2 x28 x47 x38 s.1 s.2) (x10, 7)).bind (Sum.elim (fun s => (fun x10_47 x13 => Let (wi (x44 + 1)) fun x67 => some (.next (x10_47, x67))) s.1 s.2) (fun r => some (.ret r))) else some (.brk (x10, x44)))
def modexp_Pow (a0 : List (BitVec 8)) (a1 : List (BitVec 8)) (a2 : List (BitVec 8)) : Option ((List (BitVec 8)) × (Int)) :=
  Let ((a0.length : Int)) fun x15 => Let (decide (64 < x15)) fun x16 => (bif x16 then some true else Let ((a1.length : Int)) fun x19 => Let (decide (64 < x19)) fun x20 => some x20).bind (fun x21 => (bif x21 then some true else Let ((a2.length : Int)) fun x24 => Let (decide (64 < x24)) fun x25 => some x25).bind (fun x26 => (bif x26 then some ([], 4) else (modexp_of a2).bind fun x28 => Let ((x28.length : Int)) fun x30 => Let (x30 == 0) fun x31 => (bif x31 then Let ((a2.length : Int)) fun x33 => Chk ((0 : Int) ≤ x33 ∧ x33.toNat * 1 ≤ 140737488355328) <| Let (List.replicate x33.toNat 0#8) fun x34 => some (x34, 0) else (modexp_of a0).bind fun x36 => (modexp_number_mod x36 x28).bind fun x38 => Let ([1#32]) fun x39 => (modexp_number_mod x39 x28).bind fun x41 => Let ((a1.length : Int)) fun x43 => (wlx (σ := (List (BitVec 32)) × (Int)) (fun s => modexp_Pow.b1 x43 a1 x28 x38 s.1 s.2) (x41, 0)).bind (Sum.elim (fun s => (fun x10 x44 => Let ((a2.length : Int)) fun x70 => (modexp_number_bytes x10 x70).bind fun x71 => some (x71, 0)) s.1 s.2) (fun r => some r))))))
set_option maxRecDepth 100000 in
theorem modexp_Pow.calls  (a0 : List (BitVec 8)) (a1 : List (BitVec 8)) (a2 : List (BitVec 8)) (A0 : Option Addr) (c0 : Nat) (A1 : Option Addr) (c1 : Nat) (A2 : Option Addr) (c2 : Nat) (r : (List (BitVec 8)) × (Int)) (H : modexp_Pow a0 a1 a2 = some r) (w : World) (hs0 : SlW w U8 A0 a0) (hc0 : a0.length ≤ c0) (hs1 : SlW w U8 A1 a1) (hc1 : a1.length ≤ c1) (hs2 : SlW w U8 A2 a2) (hc2 : a2.length ≤ c2)  :
    Calls Try.prog 8 #[.slice A0 a0.length c0, .slice A1 a1.length c1, .slice A2 a2.length c2] w fun e w' => ∃ A c, e = .returned (.tuple #[.slice A r.1.length c, .int .i64 r.2]) ∧ Below w.heap.size w w' ∧ OwnR w w' 5 U8 A c r.1 := by
  unfold modexp_Pow at H
  replace hs0 := hs0.toH
  replace hs1 := hs1.toH
  replace hs2 := hs2.toH
  have hM := Mm.start w (snap w) (snap_ok w)
  generalize snap w = h at *
  refine t_enter (vs := [.slice A0 a0.length c0, .slice A1 a1.length c1, .slice A2 a2.length c2]) (n := 72) Try.func8 rfl rfl rfl hM ?_
  clear hM
  change T 72 _ _ _
  refine t_seq ?_
  refine t_region (fun ops hops => ?_)
  clear hops
  refine z_val (v := .slice none 0 0) (val_assign rfl rfl) rfl rfl rfl (fun _ _ _ => trivial) ?_
  refine z_val (v := .int .i64 0) (val_assign rfl rfl) rfl rfl rfl (fun _ _ _ => trivial) ?_
  refine z_nil ?_
  refine t_seq ?_
  refine t_seq ?_
  refine t_region (fun ops hops => ?_)
  refine z_val (v := .slice A0 a0.length c0) (val_move rfl rfl) rfl rfl rfl (fun _ _ _ => trivial) ?_
  obtain ⟨x15, hx15, H⟩ := Let_elim H
  refine z_val (v := .int .i64 x15) (by subst hx15; exact val_len rfl rfl rfl Try.underlying22) rfl rfl rfl (fun _ _ _ => trivial) ?_
  clear hx15
  obtain ⟨x16, hx16, H⟩ := Let_elim H
  refine z_val (v := .bool x16) (by subst hx16; exact val_bin rfl rfl rfl rfl (i64_gtr _ _ _)) rfl rfl rfl (fun _ _ _ => trivial) ?_
  clear hx16
  refine z_val (v := .bool x16) (val_move rfl rfl) rfl rfl rfl (fun _ _ _ => trivial) ?_
  refine z_bind H 4 (fun (s : Bool) (_ : Unit) => [(0, .slice A0 a0.length c0), (1, .slice A1 a1.length c1), (2, .slice A2 a2.length c2), (21, .bool s)]) (fun _ _ => Mm w [] h []) (fun _ _ => True) (fun Gr K s he HJ => ?_) (fun s g HB _ => ?_)
  ·
    clear H
    cases x16
    ·
      have H := cond_f he
      clear he
      refine z_val (v := .slice A1 a1.length c1) (val_move rfl rfl) rfl rfl (by rw [hops]; rfl) (fun _ _ _ => trivial) ?_
      obtain ⟨x19, hx19, H⟩ := Let_elim H
      refine z_val (v := .int .i64 x19) (by subst hx19; exact val_len rfl rfl rfl Try.underlying22) rfl rfl (by rw [hops]; rfl) (fun _ _ _ => trivial) ?_
      clear hx19
      obtain ⟨x20, hx20, H⟩ := Let_elim H
      refine z_val (v := .bool x20) (by subst hx20; exact val_bin rfl rfl rfl rfl (i64_gtr _ _ _)) rfl rfl (by rw [hops]; rfl) (fun _ _ _ => trivial) ?_
      clear hx20
      refine z_val (v := .bool x20) (val_pick rfl rfl rfl) rfl rfl rfl (fun _ _ _ => trivial) ?_
      obtain rfl := Option.some.inj H
      exact z_nil ((K _ () HJ trivial).weak (fun a ha => ha.cons rfl (ha.cons rfl (ha.cons rfl (ha.cons rfl (ha.nil))))) (fun w hw => hw))
    ·
      have H := cond_t he
      clear he
      refine z_skip rfl rfl (by rw [hops]; rfl) (fun _ _ _ => trivial) ?_
      refine z_skip rfl rfl (by rw [hops]; rfl) (fun _ _ _ => trivial) ?_
      refine z_skip rfl rfl (by rw [hops]; rfl) (fun _ _ _ => trivial) ?_
      refine z_val (v := .bool true) (val_pick rfl rfl rfl) rfl rfl rfl (fun _ _ _ => trivial) ?_
      obtain rfl := Option.some.inj H
      exact z_nil ((K _ () HJ trivial).weak (fun a ha => ha.cons rfl (ha.cons rfl (ha.cons rfl (ha.cons rfl (ha.nil))))) (fun w hw => hw))
  ·
    replace H := HB
    clear HB
    obtain ⟨x21, rfl⟩ : ∃ x, x = s := ⟨_, rfl⟩
    change T 72 _ _ _
    refine z_val (v := .bool x21) (val_move rfl rfl) rfl rfl rfl (fun _ _ _ => trivial) ?_
    refine z_bind H 4 (fun (s : Bool) (_ : Unit) => [(0, .slice A0 a0.length c0), (1, .slice A1 a1.length c1), (2, .slice A2 a2.length c2), (26, .bool s)]) (fun _ _ => Mm w [] h []) (fun _ _ => True) (fun Gr K s he HJ => ?_) (fun s g HB _ => ?_)
    ·
      clear H
      cases x21
      ·
        have H := cond_f he
        clear he
        refine z_val (v := .slice A2 a2.length c2) (val_move rfl rfl) rfl rfl (by rw [hops]; rfl) (fun _ _ _ => trivial) ?_
        obtain ⟨x24, hx24, H⟩ := Let_elim H
        refine z_val (v := .int .i64 x24) (by subst hx24; exact val_len rfl rfl rfl Try.underlying22) rfl rfl (by rw [hops]; rfl) (fun _ _ _ => trivial) ?_
        clear hx24
        obtain ⟨x25, hx25, H⟩ := Let_elim H
        refine z_val (v := .bool x25) (by subst hx25; exact val_bin rfl rfl rfl rfl (i64_gtr _ _ _)) rfl rfl (by rw [hops]; rfl) (fun _ _ _ => trivial) ?_
        clear hx25
        refine z_val (v := .bool x25) (val_pick rfl rfl rfl) rfl rfl rfl (fun _ _ _ => trivial) ?_
        obtain rfl := Option.some.inj H
        exact z_nil ((K _ () HJ trivial).weak (fun a ha => ha.cons rfl (ha.cons rfl (ha.cons rfl (ha.cons rfl (ha.nil))))) (fun w hw => hw))
      ·
        have H := cond_t he
        clear he
        refine z_skip rfl rfl (by rw [hops]; rfl) (fun _ _ _ => trivial) ?_
        refine z_skip rfl rfl (by rw [hops]; rfl) (fun _ _ _ => trivial) ?_
        refine z_skip rfl rfl (by rw [hops]; rfl) (fun _ _ _ => trivial) ?_
        refine z_val (v := .bool true) (val_pick rfl rfl rfl) rfl rfl rfl (fun _ _ _ => trivial) ?_
        obtain rfl := Option.some.inj H
        exact z_nil ((K _ () HJ trivial).weak (fun a ha => ha.cons rfl (ha.cons rfl (ha.cons rfl (ha.cons rfl (ha.nil))))) (fun w hw => hw))
    ·
      replace H := HB
      clear HB
      obtain ⟨x26, rfl⟩ : ∃ x, x = s := ⟨_, rfl⟩
      change T 72 _ _ _
      refine z_nil ?_
      cases x26
      ·
        replace H := cond_f H
        refine t_cond_false rfl ?_
        refine t_skip ?_
        refine t_seq ?_
        refine t_region (fun ops hops => ?_)
        clear hops
        refine z_val (v := .slice A2 a2.length c2) (val_move rfl rfl) rfl rfl rfl (fun _ _ _ => trivial) ?_
        obtain ⟨x28, hx, H⟩ := Option.bind_eq_some_iff.1 H
        refine z_callG rfl Try.func22 nm22 bs22 rfl (fun w hw => modexp_of.calls a2 A2 c2 x28 hx hs2 hc2 hw) rfl rfl rfl (fun _ _ _ _ _ => trivial) (fun g hφ => ?_)
        obtain ⟨h_1, A_2, c_3⟩ := g
        try dsimp only at hφ
        obtain ⟨hS, hs_4, hc_5⟩ := hφ
        clear hx
        change T 72 _ _ _
        replace hs0 := hs0.up hS
        replace hs1 := hs1.up hS
        replace hs2 := hs2.up hS
        refine z_val (v := .slice A_2 x28.length c_3) (val_assign rfl rfl) rfl rfl rfl (fun _ _ _ => trivial) ?_
        refine z_nil ?_
        refine t_seq ?_
        refine t_seq ?_
        refine t_region (fun ops hops => ?_)
        clear hops
        refine z_val (v := .slice A_2 x28.length c_3) (val_move rfl rfl) rfl rfl rfl (fun _ _ _ => trivial) ?_
        obtain ⟨x30, hx30, H⟩ := Let_elim H
        refine z_val (v := .int .i64 x30) (by subst hx30; exact val_len rfl rfl rfl Try.underlying46) rfl rfl rfl (fun _ _ _ => trivial) ?_
        clear hx30
        obtain ⟨x31, hx31, H⟩ := Let_elim H
        refine z_val (v := .bool x31) (by subst hx31; exact val_bin rfl rfl rfl rfl (i64_eql _ _ _)) rfl rfl rfl (fun _ _ _ => trivial) ?_
        clear hx31
        refine z_nil ?_
        cases x31
        ·
          replace H := cond_f H
          refine t_cond_false rfl ?_
          refine t_skip ?_
          refine t_seq ?_
          refine t_region (fun ops hops => ?_)
          clear hops
          refine z_val (v := .slice A0 a0.length c0) (val_move rfl rfl) rfl rfl rfl (fun _ _ _ => trivial) ?_
          obtain ⟨x36, hx_6, H⟩ := Option.bind_eq_some_iff.1 H
          refine z_callG rfl Try.func22 nm22 bs22 rfl (fun w hw => modexp_of.calls a0 A0 c0 x36 hx_6 hs0 hc0 hw) rfl rfl rfl (fun _ _ _ _ _ => trivial) (fun g hφ => ?_)
          obtain ⟨h_7, A_9, c_10⟩ := g
          try dsimp only at hφ
          obtain ⟨hS_8, hs_11, hc_12⟩ := hφ
          clear hx_6
          change T 72 _ _ _
          replace hs0 := hs0.up hS_8
          replace hs1 := hs1.up hS_8
          replace hs2 := hs2.up hS_8
          replace hs_4 := hs_4.up hS_8
          refine z_val (v := .slice A_2 x28.length c_3) (val_move rfl rfl) rfl rfl rfl (fun _ _ _ => trivial) ?_
          obtain ⟨x38, hx_13, H⟩ := Option.bind_eq_some_iff.1 H
          refine z_callG rfl Try.func23 nm23 bs23 rfl (fun w hw => modexp_number_mod.calls x36 x28 A_9 c_10 A_2 c_3 x38 hx_13 hs_11 hc_12 hs_4 hc_5 hw) rfl rfl rfl (fun _ _ _ _ _ => trivial) (fun g hφ => ?_)
          obtain ⟨h_14, A_16, c_17⟩ := g
          try dsimp only at hφ
          obtain ⟨hS_15, hs_18, hc_19⟩ := hφ
          clear hx_13
          change T 72 _ _ _
          replace hs0 := hs0.up hS_15
          replace hs1 := hs1.up hS_15
          replace hs2 := hs2.up hS_15
          replace hs_4 := hs_4.up hS_15
          replace hs_11 := hs_11.up hS_15
          obtain ⟨x39, hx39, H⟩ := Let_elim H
          have hlx39 : x39.length = 1 := by subst hx39; rfl
          refine z_buildSlice' (e := 49) (f := U32) (xs := x39) (vs := [(0, .int .u32 1)]) rfl rfl (by subst hx39; intro w; kernel_rfl) hlx39 (by decide) rfl rfl rfl (fun _ _ _ _ => trivial) (fun g_20 hs_22 => ?_)
          clear hx39 hlx39
          refine z_val (v := .slice A_2 x28.length c_3) (val_move rfl rfl) rfl rfl rfl (fun _ _ _ => trivial) ?_
          refine t_seal (fun h_23 hS_24 hs_25 => ?_)
          have hc_26 := hs_22.le
          replace hs0 := hs0.up hS_24
          replace hs1 := hs1.up hS_24
          replace hs2 := hs2.up hS_24
          replace hs_4 := hs_4.up hS_24
          replace hs_11 := hs_11.up hS_24
          replace hs_18 := hs_18.up hS_24
          obtain ⟨x41, hx_27, H⟩ := Option.bind_eq_some_iff.1 H
          refine z_callG rfl Try.func23 nm23 bs23 rfl (fun w hw => modexp_number_mod.calls x39 x28 ((some ⟨g_20, 0, none⟩)) 1 A_2 c_3 x41 hx_27 hs_25 hc_26 hs_4 hc_5 hw) rfl rfl rfl (fun _ _ _ _ _ => trivial) (fun g hφ => ?_)
          obtain ⟨h_28, A_30, c_31⟩ := g
          try dsimp only at hφ
          obtain ⟨hS_29, hs_32, hc_33⟩ := hφ
          clear hx_27
          change T 72 _ _ _
          replace hs0 := hs0.up hS_29
          replace hs1 := hs1.up hS_29
          replace hs2 := hs2.up hS_29
          replace hs_4 := hs_4.up hS_29
          replace hs_11 := hs_11.up hS_29
          replace hs_18 := hs_18.up hS_29
          replace hs_25 := hs_25.up hS_29
          refine z_val (v := .slice A_16 x38.length c_17) (val_assign rfl rfl) rfl rfl rfl (fun _ _ _ => trivial) ?_
          refine z_val (v := .slice A_30 x41.length c_31) (val_assign rfl rfl) rfl rfl rfl (fun _ _ _ => trivial) ?_
          refine z_nil ?_
          refine t_seq ?_
          refine t_seq ?_
          refine t_region (fun ops hops => ?_)
          clear hops
          refine z_val (v := .slice A1 a1.length c1) (val_move rfl rfl) rfl rfl rfl (fun _ _ _ => trivial) ?_
          obtain ⟨x43, hx43, H⟩ := Let_elim H
          refine z_val (v := .int .i64 x43) (by subst hx43; exact val_len rfl rfl rfl Try.underlying22) rfl rfl rfl (fun _ _ _ => trivial) ?_
          clear hx43
          refine z_val (v := .int .i64 0) (val_move rfl rfl) rfl rfl rfl (fun _ _ _ => trivial) ?_
          refine z_nil ?_
          refine t_block ?_
          obtain ⟨z1, hz1, HK1⟩ := Option.bind_eq_some_iff.1 H
          clear H
          refine t_while hz1 (fun (s : (List (BitVec 32)) × (Int)) (g : (Frag) × (Option Addr) × (Nat)) => [(2, .slice A2 a2.length c2), (8, .slice A_2 x28.length c_3), (9, .slice A_16 x38.length c_17), (10, .slice g.2.1 s.1.length g.2.2), (42, .slice A1 a1.length c1), (43, .int .i64 x43), (44, .int .i64 s.2)]) (fun (s : (List (BitVec 32)) × (Int)) (g : (Frag) × (Option Addr) × (Nat)) => [(2, .slice A2 a2.length c2), (10, .slice g.2.1 s.1.length g.2.2)]) (fun (s : (List (BitVec 32)) × (Int)) (g : (Frag) × (Option Addr) × (Nat)) => Mm w [] g.1 []) (fun (s : (List (BitVec 32)) × (Int)) (g : (Frag) × (Option Addr) × (Nat)) => Mm w [] g.1 []) (fun (s : (List (BitVec 32)) × (Int)) (g : (Frag) × (Option Addr) × (Nat)) => Sub h_28 g.1 ∧ SlH g.1 U32 g.2.1 s.1 ∧ s.1.length ≤ g.2.2) (fun (s : (List (BitVec 32)) × (Int)) (g : (Frag) × (Option Addr) × (Nat)) => Sub h_28 g.1 ∧ SlH g.1 U32 g.2.1 s.1 ∧ s.1.length ≤ g.2.2) ⟨h_28, A_30, c_31⟩ ⟨(Sub.refl _), hs_32, hc_33⟩ (fun a w ha hw => ⟨ha.cons rfl (ha.cons rfl (ha.cons rfl (ha.cons rfl (ha.cons rfl (ha.cons rfl (ha.cons rfl (ha.nil))))))), hw⟩) (fun Gn Gb s g e hφ H hn1 hb1 hr1 => ?_) (fun s g hzz hφ => ?_)
          ·
            obtain ⟨x10, x44⟩ := s
            obtain ⟨h_34, A_36, c_37⟩ := g
            try dsimp only at hφ
            obtain ⟨hS_35, hs_38, hc_39⟩ := hφ
            replace hs2 := hs2.up hS_35
            replace hs_4 := hs_4.up hS_35
            replace hs_18 := hs_18.up hS_35
            replace hs_32 := hs_32.up hS_35
            replace hs1 := hs1.up hS_35
            change modexp_Pow.b1 x43 a1 x28 x38 x10 x44 = some e at H
            unfold modexp_Pow.b1 at H
            clear hz1
            change T 72 _ _ _
            refine t_seq ?_
            refine t_region (fun ops hops => ?_)
            clear hops
            obtain ⟨x45, hx45, H⟩ := Let_elim H
            refine z_val (v := .bool x45) (by subst hx45; exact val_bin rfl rfl rfl rfl (i64_lss _ _ _)) rfl rfl rfl (fun _ _ _ => trivial) ?_
            clear hx45
            refine z_nil ?_
            refine t_seq ?_
            cases x45
            ·
              replace H := cond_f H
              refine t_cond_false rfl ?_
              refine t_exit rfl ?_
              obtain rfl := Option.some.inj H
              exact t_reach ((hb1 _ ⟨h_34, A_36, c_37⟩ rfl ⟨hS_35, hs_38, hc_39⟩).weak (fun a ha => ha.cons rfl (ha.cons rfl (ha.nil))) (fun w hw => hw))
            ·
              replace H := cond_t H
              refine t_cond_true rfl ?_
              refine t_skip ?_
              refine t_seq ?_
              refine t_block ?_
              refine t_seq ?_
              refine t_region (fun ops hops => ?_)
              clear hops
              obtain ⟨hq_40, H⟩ := Chk_elim H
              obtain ⟨b_41, o_42, hA_43, hc_44⟩ := hs1.at_ (idx_lt hq_40)
              refine z_val (v := .pointer (some ⟨b_41, o_42 + x44.toNat, none⟩)) (val_idxS0 rfl rfl rfl Try.underlying22 sz5 hq_40 hA_43 rfl) rfl rfl rfl (fun _ _ _ => trivial) ?_
              obtain ⟨x47, hx47, H⟩ := Let_elim H
              refine z_val (v := U8 x47) (by subst hx47; exact val_load1 rfl rfl Try.underlying5 rfl (fun _ hw => hc_44.cell hw)) rfl rfl rfl (fun _ _ _ => trivial) ?_
              clear hx47
              refine z_val (v := U8 x47) (val_assign rfl rfl) rfl rfl rfl (fun _ _ _ => trivial) ?_
              refine z_nil ?_
              refine t_seq ?_
              refine t_region (fun ops hops => ?_)
              clear hops
              refine z_val (v := .int .i64 7) (val_assign rfl rfl) rfl rfl rfl (fun _ _ _ => trivial) ?_
              refine z_nil ?_
              refine t_block ?_
              obtain ⟨z2, hz2, HK2⟩ := Option.bind_eq_some_iff.1 H
              clear H
              refine t_while hz2 (fun (s : (List (BitVec 32)) × (Int)) (g : (Frag) × (Option Addr) × (Nat)) => [(2, .slice A2 a2.length c2), (8, .slice A_2 x28.length c_3), (9, .slice A_16 x38.length c_17), (10, .slice g.2.1 s.1.length g.2.2), (12, U8 x47), (13, .int .i64 s.2), (42, .slice A1 a1.length c1), (43, .int .i64 x43), (44, .int .i64 x44)]) (fun (s : (List (BitVec 32)) × (Int)) (g : (Frag) × (Option Addr) × (Nat)) => [(2, .slice A2 a2.length c2), (8, .slice A_2 x28.length c_3), (9, .slice A_16 x38.length c_17), (10, .slice g.2.1 s.1.length g.2.2), (42, .slice A1 a1.length c1), (43, .int .i64 x43), (44, .int .i64 x44)]) (fun (s : (List (BitVec 32)) × (Int)) (g : (Frag) × (Option Addr) × (Nat)) => Mm w [] g.1 []) (fun (s : (List (BitVec 32)) × (Int)) (g : (Frag) × (Option Addr) × (Nat)) => Mm w [] g.1 []) (fun (s : (List (BitVec 32)) × (Int)) (g : (Frag) × (Option Addr) × (Nat)) => Sub h_34 g.1 ∧ SlH g.1 U32 g.2.1 s.1 ∧ s.1.length ≤ g.2.2) (fun (s : (List (BitVec 32)) × (Int)) (g : (Frag) × (Option Addr) × (Nat)) => Sub h_34 g.1 ∧ SlH g.1 U32 g.2.1 s.1 ∧ s.1.length ≤ g.2.2) ⟨h_34, A_36, c_37⟩ ⟨(Sub.refl _), hs_38, hc_39⟩ (fun a w ha hw => ⟨ha.cons rfl (ha.cons rfl (ha.cons rfl (ha.cons rfl (ha.cons rfl (ha.cons rfl (ha.cons rfl (ha.cons rfl (ha.cons rfl (ha.nil))))))))), hw⟩) (fun Gn Gb s g e hφ H hn2 hb2 hr2 => ?_) (fun s g hzz hφ => ?_)
              ·
                obtain ⟨x10_47, x13⟩ := s
                obtain ⟨h_45, A_48, c_49⟩ := g
                try dsimp only at hφ
                obtain ⟨hS_46, hs_50, hc_51⟩ := hφ
                replace hs2 := hs2.up hS_46
                replace hs_4 := hs_4.up hS_46
                replace hs_18 := hs_18.up hS_46
                replace hs_38 := hs_38.up hS_46
                replace hs1 := hs1.up hS_46
                change modexp_Pow.b2 x28 x47 x38 x10_47 x13 = some e at H
                unfold modexp_Pow.b2 at H
                clear hz2
                change T 72 _ _ _
                refine t_seq ?_
                refine t_seq ?_
                refine t_region (fun ops hops => ?_)
                clear hops
                refine z_val (v := .int .i64 x13) (val_move rfl rfl) rfl rfl rfl (fun _ _ _ => trivial) ?_
                obtain ⟨x49, hx49, H⟩ := Let_elim H
                refine z_val (v := .bool x49) (by subst hx49; exact val_bin rfl rfl rfl rfl (i64_geq _ _ _)) rfl rfl rfl (fun _ _ _ => trivial) ?_
                clear hx49
                refine z_nil ?_
                cases x49
                ·
                  replace H := cond_f H
                  refine t_cond_false rfl ?_
                  refine t_exit rfl ?_
                  obtain rfl := Option.some.inj H
                  exact t_reach ((hb2 _ ⟨h_45, A_48, c_49⟩ rfl ⟨hS_46, hs_50, hc_51⟩).weak (fun a ha => ha.cons rfl (ha.cons rfl (ha.cons rfl (ha.cons rfl (ha.cons rfl (ha.cons rfl (ha.cons rfl (ha.nil)))))))) (fun w hw => hw))
                ·
                  replace H := cond_t H
                  refine t_cond_true rfl ?_
                  refine t_skip ?_
                  refine t_seq ?_
                  refine t_block ?_
                  refine t_seq ?_
                  refine t_region (fun ops hops => ?_)
                  clear hops
                  refine z_val (v := .slice A_48 x10_47.length c_49) (val_move rfl rfl) rfl rfl rfl (fun _ _ _ => trivial) ?_
                  refine z_val (v := .slice A_48 x10_47.length c_49) (val_move rfl rfl) rfl rfl rfl (fun _ _ _ => trivial) ?_
                  obtain ⟨x54, hx_52, H⟩ := Option.bind_eq_some_iff.1 H
                  refine z_callG rfl Try.func24 nm24 bs24 rfl (fun w hw => modexp_number_times.calls x10_47 x10_47 A_48 c_49 A_48 c_49 x54 hx_52 hs_50 hc_51 hs_50 hc_51 hw) rfl rfl rfl (fun _ _ _ _ _ => trivial) (fun g hφ => ?_)
                  obtain ⟨h_53, A_55, c_56⟩ := g
                  try dsimp only at hφ
                  obtain ⟨hS_54, hs_57, hc_58⟩ := hφ
                  clear hx_52
                  change T 72 _ _ _
                  replace hs2 := hs2.up hS_54
                  replace hs_4 := hs_4.up hS_54
                  replace hs_18 := hs_18.up hS_54
                  replace hs_50 := hs_50.up hS_54
                  replace hs1 := hs1.up hS_54
                  refine z_val (v := .slice A_2 x28.length c_3) (val_move rfl rfl) rfl rfl rfl (fun _ _ _ => trivial) ?_
                  obtain ⟨x56, hx_59, H⟩ := Option.bind_eq_some_iff.1 H
                  refine z_callG rfl Try.func23 nm23 bs23 rfl (fun w hw => modexp_number_mod.calls x54 x28 A_55 c_56 A_2 c_3 x56 hx_59 hs_57 hc_58 hs_4 hc_5 hw) rfl rfl rfl (fun _ _ _ _ _ => trivial) (fun g hφ => ?_)
                  obtain ⟨h_60, A_62, c_63⟩ := g
                  try dsimp only at hφ
                  obtain ⟨hS_61, hs_64, hc_65⟩ := hφ
                  clear hx_59
                  change T 72 _ _ _
                  replace hs2 := hs2.up hS_61
                  replace hs_4 := hs_4.up hS_61
                  replace hs_18 := hs_18.up hS_61
                  replace hs_50 := hs_50.up hS_61
                  replace hs1 := hs1.up hS_61
                  replace hs_57 := hs_57.up hS_61
                  refine z_val (v := .slice A_62 x56.length c_63) (val_assign rfl rfl) rfl rfl rfl (fun _ _ _ => trivial) ?_
                  refine z_nil ?_
                  refine t_seq ?_
                  refine t_region (fun ops hops => ?_)
                  clear hops
                  refine z_val (v := U8 x47) (val_move rfl rfl) rfl rfl rfl (fun _ _ _ => trivial) ?_
                  refine z_val (v := .int .i64 x13) (val_move rfl rfl) rfl rfl rfl (fun _ _ _ => trivial) ?_
                  obtain ⟨hq_66, H⟩ := Chk_elim H
                  obtain ⟨x59, hx59, H⟩ := Let_elim H
                  refine z_val (v := U8 x59) (by subst hx59; exact val_bin rfl rfl rfl rfl (u8_shr _ _ _ _ hq_66)) rfl rfl rfl (fun _ _ _ => trivial) ?_
                  clear hx59
                  obtain ⟨x60, hx60, H⟩ := Let_elim H
                  refine z_val (v := U8 x60) (by subst hx60; exact val_bin rfl rfl rfl rfl (u8_and_r _ _ _)) rfl rfl rfl (fun _ _ _ => trivial) ?_
                  clear hx60
                  obtain ⟨x61, hx61, H⟩ := Let_elim H
                  refine z_val (v := .bool x61) (by subst hx61; exact val_bin rfl rfl rfl rfl (u8_eql_r _ 1 x60)) rfl rfl rfl (fun _ _ _ => trivial) ?_
                  clear hx61
                  refine z_nil ?_
                  refine t_bind H (fun (s : (List (BitVec 32))) (g : (Frag) × (Option Addr) × (Nat)) => [(2, .slice A2 a2.length c2), (8, .slice A_2 x28.length c_3), (9, .slice A_16 x38.length c_17), (10, .slice g.2.1 s.length g.2.2), (12, U8 x47), (13, .int .i64 x13), (42, .slice A1 a1.length c1), (43, .int .i64 x43), (44, .int .i64 x44)]) (fun (s : (List (BitVec 32))) (g : (Frag) × (Option Addr) × (Nat)) => Mm w [] g.1 []) (fun (s : (List (BitVec 32))) (g : (Frag) × (Option Addr) × (Nat)) => Sub h_60 g.1 ∧ SlH g.1 U32 g.2.1 s ∧ s.length ≤ g.2.2) (fun Gr K s he HJ => ?_) (fun s g HB hφ => ?_)
                  ·
                    clear H
                    cases x61
                    ·
                      have H := cond_f he
                      clear he
                      refine t_cond_false rfl ?_
                      refine t_skip ?_
                      obtain rfl := Option.some.inj H
                      exact t_reach ((K _ ⟨h_60, A_62, c_63⟩ HJ ⟨(Sub.refl _), hs_64, hc_65⟩).weak (fun a ha => ha.cons rfl (ha.cons rfl (ha.cons rfl (ha.cons rfl (ha.cons rfl (ha.cons rfl (ha.cons rfl (ha.cons rfl (ha.cons rfl (ha.nil)))))))))) (fun w hw => hw))
                    ·
                      have H := cond_t he
                      clear he
                      refine t_cond_true rfl ?_
                      refine t_region (fun ops hops => ?_)
                      clear hops
                      refine z_val (v := .slice A_62 x56.length c_63) (val_move rfl rfl) rfl rfl rfl (fun _ _ _ => trivial) ?_
                      refine z_val (v := .slice A_16 x38.length c_17) (val_move rfl rfl) rfl rfl rfl (fun _ _ _ => trivial) ?_
                      obtain ⟨x64, hx_74, H⟩ := Option.bind_eq_some_iff.1 H
                      refine z_callG rfl Try.func24 nm24 bs24 rfl (fun w hw => modexp_number_times.calls x56 x38 A_62 c_63 A_16 c_17 x64 hx_74 hs_64 hc_65 hs_18 hc_19 hw) rfl rfl rfl (fun _ _ _ _ _ => trivial) (fun g hφ => ?_)
                      obtain ⟨h_75, A_77, c_78⟩ := g
                      try dsimp only at hφ
                      obtain ⟨hS_76, hs_79, hc_80⟩ := hφ
                      clear hx_74
                      change T 72 _ _ _
                      replace hs2 := hs2.up hS_76
                      replace hs_4 := hs_4.up hS_76
                      replace hs_18 := hs_18.up hS_76
                      replace hs_64 := hs_64.up hS_76
                      replace hs1 := hs1.up hS_76
                      replace hs_50 := hs_50.up hS_76
                      replace hs_57 := hs_57.up hS_76
                      refine z_val (v := .slice A_2 x28.length c_3) (val_move rfl rfl) rfl rfl rfl (fun _ _ _ => trivial) ?_
                      obtain ⟨x66, hx_81, H⟩ := Option.bind_eq_some_iff.1 H
                      refine z_callG rfl Try.func23 nm23 bs23 rfl (fun w hw => modexp_number_mod.calls x64 x28 A_77 c_78 A_2 c_3 x66 hx_81 hs_79 hc_80 hs_4 hc_5 hw) rfl rfl rfl (fun _ _ _ _ _ => trivial) (fun g hφ => ?_)
                      obtain ⟨h_82, A_84, c_85⟩ := g
                      try dsimp only at hφ
                      obtain ⟨hS_83, hs_86, hc_87⟩ := hφ
                      clear hx_81
                      change T 72 _ _ _
                      replace hs2 := hs2.up hS_83
                      replace hs_4 := hs_4.up hS_83
                      replace hs_18 := hs_18.up hS_83
                      replace hs_64 := hs_64.up hS_83
                      replace hs1 := hs1.up hS_83
                      replace hs_50 := hs_50.up hS_83
                      replace hs_57 := hs_57.up hS_83
                      replace hs_79 := hs_79.up hS_83
                      refine z_val (v := .slice A_84 x66.length c_85) (val_assign rfl rfl) rfl rfl rfl (fun _ _ _ => trivial) ?_
                      refine z_nil ?_
                      obtain rfl := Option.some.inj H
                      exact t_reach ((K _ ⟨h_82, A_84, c_85⟩ HJ ⟨(hS_76.trans hS_83), hs_86, hc_87⟩).weak (fun a ha => ha.cons rfl (ha.cons rfl (ha.cons rfl (ha.cons rfl (ha.cons rfl (ha.cons rfl (ha.cons rfl (ha.cons rfl (ha.cons rfl (ha.nil)))))))))) (fun w hw => hw))
                  ·
                    replace H := HB
                    clear HB
                    obtain ⟨x10_69, rfl⟩ : ∃ x, x = s := ⟨_, rfl⟩
                    obtain ⟨h_67, A_70, c_71⟩ := g
                    try dsimp only at hφ
                    obtain ⟨hS_68, hs_72, hc_73⟩ := hφ
                    replace hs2 := hs2.up hS_68
                    replace hs_4 := hs_4.up hS_68
                    replace hs_18 := hs_18.up hS_68
                    replace hs1 := hs1.up hS_68
                    try dsimp only at H
                    change T 72 _ _ _
                    refine t_fin ?_
                    refine t_region (fun ops hops => ?_)
                    clear hops
                    refine z_val (v := .int .i64 x13) (val_move rfl rfl) rfl rfl rfl (fun _ _ _ => trivial) ?_
                    obtain ⟨x51, hx51, H⟩ := Let_elim H
                    refine z_val (v := .int .i64 x51) (by subst hx51; exact val_bin rfl rfl rfl rfl (i64_sub _ _ _)) rfl rfl rfl (fun _ _ _ => trivial) ?_
                    clear hx51
                    refine z_val (v := .int .i64 x51) (val_assign rfl rfl) rfl rfl rfl (fun _ _ _ => trivial) ?_
                    refine z_nil ?_
                    obtain rfl := Option.some.inj H
                    exact t_reach ((hn2 _ ⟨h_67, A_70, c_71⟩ rfl ⟨(((hS_46.trans hS_54).trans hS_61).trans hS_68), hs_72, hc_73⟩).weak (fun a ha => ha.cons rfl (ha.cons rfl (ha.cons rfl (ha.cons rfl (ha.cons rfl (ha.cons rfl (ha.cons rfl (ha.cons rfl (ha.cons rfl (ha.nil)))))))))) (fun w hw => hw))
              ·
                obtain ⟨x10_47, x13⟩ := s
                obtain ⟨h_45, A_48, c_49⟩ := g
                try dsimp only at hφ
                obtain ⟨hS_46, hs_50, hc_51⟩ := hφ
                replace hs2 := hs2.up hS_46
                replace hs_4 := hs_4.up hS_46
                replace hs_18 := hs_18.up hS_46
                replace hs_38 := hs_38.up hS_46
                replace hs1 := hs1.up hS_46
                subst hzz
                have H := HK2
                clear HK2 hz2
                replace H := sum_l H
                try dsimp only at H
                change T 72 _ _ _
                refine t_fin ?_
                refine t_region (fun ops hops => ?_)
                clear hops
                obtain ⟨x67, hx67, H⟩ := Let_elim H
                refine z_val (v := .int .i64 x67) (by subst hx67; exact val_bin rfl rfl rfl rfl (i64_add _ _ _)) rfl rfl rfl (fun _ _ _ => trivial) ?_
                clear hx67
                refine z_val (v := .int .i64 x67) (val_move rfl rfl) rfl rfl rfl (fun _ _ _ => trivial) ?_
                refine z_nil ?_
                obtain rfl := Option.some.inj H
                exact t_reach ((hn1 _ ⟨h_45, A_48, c_49⟩ rfl ⟨(hS_35.trans hS_46), hs_50, hc_51⟩).weak (fun a ha => ha.cons rfl (ha.cons rfl (ha.cons rfl (ha.cons rfl (ha.cons rfl (ha.cons rfl (ha.cons rfl (ha.nil)))))))) (fun w hw => hw))
          ·
            obtain ⟨x10, x44⟩ := s
            obtain ⟨h_34, A_36, c_37⟩ := g
            try dsimp only at hφ
            obtain ⟨hS_35, hs_38, hc_39⟩ := hφ
            replace hs2 := hs2.up hS_35
            replace hs_4 := hs_4.up hS_35
            replace hs_18 := hs_18.up hS_35
            replace hs_32 := hs_32.up hS_35
            replace hs1 := hs1.up hS_35
            subst hzz
            have H := HK1
            clear HK1 hz1
            replace H := sum_l H
            try dsimp only at H
            change T 72 _ _ _
            refine t_seq ?_
            refine t_region (fun ops hops => ?_)
            clear hops
            refine z_val (v := .slice A_36 x10.length c_37) (val_move rfl rfl) rfl rfl rfl (fun _ _ _ => trivial) ?_
            refine z_val (v := .slice A2 a2.length c2) (val_move rfl rfl) rfl rfl rfl (fun _ _ _ => trivial) ?_
            obtain ⟨x70, hx70, H⟩ := Let_elim H
            refine z_val (v := .int .i64 x70) (by subst hx70; exact val_len rfl rfl rfl Try.underlying22) rfl rfl rfl (fun _ _ _ => trivial) ?_
            clear hx70
            obtain ⟨x71, hx_88, H⟩ := Option.bind_eq_some_iff.1 H
            refine z_madeS (F := fun A_89 c_90 => .slice A_89 x71.length c_90) (xs := x71) rfl Try.func25 nm25 bs25 rfl (fun w hw => modexp_number_bytes.calls x10 x70 A_36 c_37 x71 hx_88 w (hs_38.toW hw) hc_39) rfl rfl rfl (fun _ _ _ _ _ => trivial) (fun A_89 c_90 hs_91 => ?_)
            clear hx_88
            refine z_val (v := .slice A_89 x71.length c_90) (val_assign rfl rfl) rfl rfl rfl (fun _ _ _ => trivial) ?_
            refine z_val (v := .int .i64 0) (val_assign rfl rfl) rfl rfl rfl (fun _ _ _ => trivial) ?_
            refine z_nil ?_
            refine t_ret ?_
            obtain rfl := Option.some.inj H
            exact ret2 rfl (res_tmp rfl) (res_tmp rfl) (fun _ hw => ⟨A_89, c_90, rfl, hw.below, (row_out hw (j := 0) rfl hs_91)⟩)
        ·
          replace H := cond_t H
          refine t_cond_true rfl ?_
          refine t_seq ?_
          refine t_region (fun ops hops => ?_)
          clear hops
          refine z_val (v := .slice A2 a2.length c2) (val_move rfl rfl) rfl rfl rfl (fun _ _ _ => trivial) ?_
          obtain ⟨x33, hx33, H⟩ := Let_elim H
          refine z_val (v := .int .i64 x33) (by subst hx33; exact val_len rfl rfl rfl Try.underlying22) rfl rfl rfl (fun _ _ _ => trivial) ?_
          clear hx33
          obtain ⟨hq_93, H⟩ := Chk_elim H
          obtain ⟨x34, hx34, H⟩ := Let_elim H
          refine z_makeSlice (f := U8) (z0 := 0#8) (N := x33.toNat) rfl rfl rfl Try.underlying22 (in5.trans rfl) rfl hq_93.1 rfl hq_93.2 (by decide) hx34 rfl rfl rfl (fun _ _ _ _ => trivial) (fun g_94 hs_96 => ?_)
          clear hx34
          refine z_val (v := .slice (some ⟨g_94, 0, none⟩) x34.length (x33.toNat)) (val_assign rfl rfl) rfl rfl rfl (fun _ _ _ => trivial) ?_
          refine z_val (v := .int .i64 0) (val_assign rfl rfl) rfl rfl rfl (fun _ _ _ => trivial) ?_
          refine z_nil ?_
          refine t_ret ?_
          obtain rfl := Option.some.inj H
          exact ret2 rfl (res_tmp rfl) (res_tmp rfl) (fun _ hw => ⟨(some ⟨g_94, 0, none⟩), (x33.toNat), rfl, hw.below, (row_out hw (j := 0) rfl hs_96)⟩)
      ·
        replace H := cond_t H
        refine t_cond_true rfl ?_
        refine t_seq ?_
        refine t_region (fun ops hops => ?_)
        clear hops
        refine z_val (v := .slice none 0 0) (val_assign rfl rfl) rfl rfl rfl (fun _ _ _ => trivial) ?_
        refine z_val (v := .int .i64 4) (val_assign rfl rfl) rfl rfl rfl (fun _ _ _ => trivial) ?_
        refine z_nil ?_
        refine t_ret ?_
        obtain rfl := Option.some.inj H
        exact ret2 rfl (res_tmp rfl) (res_tmp rfl) (fun _ hw => ⟨none, 0, rfl, hw.below, row_out_nil⟩)
def modexp_part (a0 : List (BitVec 8)) (a1 : BitVec 64) (a2 : BitVec 64) : Option (List (BitVec 8)) :=
  Chk ((0 : Int) ≤ (a2.toNat : Int) ∧ a2.toNat * 1 ≤ 140737488355328) <| Let (List.replicate a2.toNat 0#8) fun x9 => Let ((a0.length : Int)) fun x12 => Let (BitVec.ofInt 64 x12) fun x13 => Let (decide (a1.toNat < x13.toNat)) fun x14 => (bif x14 then Chk ((0 : Int) ≤ (a1.toNat : Int) ∧ (a1.toNat : Int) ≤ (a0.length : Int)) <| Let ((a0.take a0.length).drop (((a1.toNat : Int)).toNat)) fun x18 => Let (x18.take x9.length ++ x9.drop x18.length) fun x_12 => Let (((Nat.min x18.length x9.length : Nat) : Int)) fun x19 => some x_12 else some x9).bind (fun (y_3 : List (BitVec 8)) => some y_3)
set_option maxRecDepth 100000 in
theorem modexp_part.calls  (a0 : List (BitVec 8)) (a1 : BitVec 64) (a2 : BitVec 64) (A0 : Option Addr) (c0 : Nat) (r : List (BitVec 8)) (H : modexp_part a0 a1 a2 = some r) (w : World) (hs0 : SlW w U8 A0 a0) (hc0 : a0.length ≤ c0)  :
    Calls Try.prog 33 #[.slice A0 a0.length c0, U64 a1, U64 a2] w fun e w' => ∃ A c, e = .returned (.slice A r.length c) ∧ Below w.heap.size w w' ∧ OwnR w w' 5 U8 A c r := by
  unfold modexp_part at H
  replace hs0 := hs0.toH
  have hM := Mm.start w (snap w) (snap_ok w)
  generalize snap w = h at *
  refine t_enter (vs := [.slice A0 a0.length c0, U64 a1, U64 a2]) (n := 21) Try.func33 rfl rfl rfl hM ?_
  clear hM
  change T 21 _ _ _
  refine t_seq ?_
  refine t_region (fun ops hops => ?_)
  clear hops
  refine z_val (v := .slice none 0 0) (val_assign rfl rfl) rfl rfl rfl (fun _ _ _ => trivial) ?_
  refine z_nil ?_
  refine t_seq ?_
  refine t_region (fun ops hops => ?_)
  clear hops
  refine z_val (v := U64 a2) (val_move rfl rfl) rfl rfl rfl (fun _ _ _ => trivial) ?_
  obtain ⟨hq_1, H⟩ := Chk_elim H
  obtain ⟨x9, hx9, H⟩ := Let_elim H
  refine z_makeSlice (f := U8) (z0 := 0#8) (N := a2.toNat) rfl rfl rfl Try.underlying22 (in5.trans rfl) rfl hq_1.1 (Int.toNat_natCast _) hq_1.2 (by decide) hx9 rfl rfl rfl (fun _ _ _ _ => trivial) (fun g_2 hs_4 => ?_)
  clear hx9
  refine z_val (v := .slice (some ⟨g_2, 0, none⟩) x9.length (a2.toNat)) (val_assign rfl rfl) rfl rfl rfl (fun _ _ _ => trivial) ?_
  refine z_nil ?_
  refine t_seq ?_
  refine t_seq ?_
  refine t_region (fun ops hops => ?_)
  clear hops
  refine z_val (v := U64 a1) (val_move rfl rfl) rfl rfl rfl (fun _ _ _ => trivial) ?_
  refine z_val (v := .slice A0 a0.length c0) (val_move rfl rfl) rfl rfl rfl (fun _ _ _ => trivial) ?_
  obtain ⟨x12, hx12, H⟩ := Let_elim H
  refine z_val (v := .int .i64 x12) (by subst hx12; exact val_len rfl rfl rfl Try.underlying22) rfl rfl rfl (fun _ _ _ => trivial) ?_
  clear hx12
  obtain ⟨x13, hx13, H⟩ := Let_elim H
  refine z_val (v := U64 x13) (by subst hx13; exact val_conv rfl rfl (fun w => conv_int_u64 w _ _ .i64 _ (by rw [Try.underlying3]; rfl) Try.underlying38)) rfl rfl rfl (fun _ _ _ => trivial) ?_
  clear hx13
  obtain ⟨x14, hx14, H⟩ := Let_elim H
  refine z_val (v := .bool x14) (by subst hx14; exact val_bin rfl rfl rfl rfl (u64_lss _ _ _)) rfl rfl rfl (fun _ _ _ => trivial) ?_
  clear hx14
  refine z_nil ?_
  refine t_bind H (fun (s : (List (BitVec 8))) (g : Unit) => [(7, .slice (some ⟨g_2, 0, none⟩) s.length (a2.toNat))]) (fun (s : (List (BitVec 8))) (g : Unit) => Mm w [] h [.row (.slice (some ⟨g_2, 0, none⟩) s.length (a2.toNat)) 5 1 (s.map U8)]) (fun (s : (List (BitVec 8))) (g : Unit) => Shp ((some ⟨g_2, 0, none⟩)) s.length (a2.toNat)) (fun Gr K s he HJ => ?_) (fun s g HB hφ => ?_)
  ·
    clear H
    cases x14
    ·
      have H := cond_f he
      clear he
      refine t_cond_false rfl ?_
      refine t_skip ?_
      obtain rfl := Option.some.inj H
      exact t_reach ((K _ () HJ hs_4).weak (fun a ha => ha.cons rfl (ha.nil)) (fun w hw => hw))
    ·
      have H := cond_t he
      clear he
      refine t_cond_true rfl ?_
      refine t_region (fun ops hops => ?_)
      clear hops
      refine z_val (v := .slice (some ⟨g_2, 0, none⟩) x9.length (a2.toNat)) (val_move rfl rfl) rfl rfl rfl (fun _ _ _ => trivial) ?_
      refine z_val (v := .slice A0 a0.length c0) (val_move rfl rfl) rfl rfl rfl (fun _ _ _ => trivial) ?_
      refine z_val (v := U64 a1) (val_move rfl rfl) rfl rfl rfl (fun _ _ _ => trivial) ?_
      obtain ⟨hq_6, H⟩ := Chk_elim H
      obtain ⟨x18, hx18, H⟩ := Let_elim H
      obtain ⟨A_7, hA_11⟩ : ∃ z, z = (if c0 = ((a1.toNat : Int)).toNat then A0 else A0.map (·.add (((a1.toNat : Int)).toNat * 1))) := ⟨_, rfl⟩
      obtain ⟨c_8, hc_100⟩ : ∃ z, z = c0 - ((a1.toNat : Int)).toNat := ⟨_, rfl⟩
      have hl : x18.length = a0.length - ((a1.toNat : Int)).toNat := by subst hx18; exact cut_len (by omega) (by omega)
      have hs_9 : SlH h U8 A_7 x18 := by subst hA_11 hx18; exact hs0.cut (by omega) hc0
      have hc_10 : x18.length ≤ c_8 := by have := hc0; omega
      refine z_val (v := .slice A_7 x18.length c_8) (val_sliceLz rfl rfl rfl Try.underlying22 sz5 hq_6.1 hq_6.2 (by rw [hl, hA_11, hc_100])) rfl rfl rfl (fun _ _ _ => trivial) ?_
      clear hl hA_11 hc_100 hx18
      obtain ⟨x_12, hx_12, H⟩ := Let_elim H
      obtain ⟨x19, hx19, H⟩ := Let_elim H
      have hs_13 : Shp ((some ⟨g_2, 0, none⟩)) x_12.length (a2.toNat) := by subst hx_12; have := hs_4; rwa [show (x18.take x9.length ++ x9.drop x18.length).length = x9.length by simp; omega]
      have hl_14 : x9.length = x_12.length := by subst hx_12; simp; omega
      refine z_copyRow (f := U8) (j := 0) (xs := x9) (ys := x18) (zs := x_12) (r := x19) (L' := [.row (.slice (some ⟨g_2, 0, none⟩) x_12.length (a2.toNat)) 5 1 (x_12.map U8)]) rfl rfl Try.underlying22 sz5 rfl rfl rfl (fun w hw => (hs_9.toW hw)) (fun _ => rfl) hx_12 hx19 rfl rfl rfl rfl (fun _ _ _ => trivial) ?_
      refine t_len (show x9.length = x_12.length from hl_14) (fun z => [(0, .slice A0 a0.length c0), (1, U64 a1), (2, U64 a2), (6, .slice none 0 0), (7, .slice (some ⟨g_2, 0, none⟩) z (a2.toNat)), (8, U64 a2), (9, .slice (some ⟨g_2, 0, none⟩) z (a2.toNat)), (10, U64 a1), (11, .slice A0 a0.length c0), (12, .int .i64 x12), (13, U64 x13), (14, .bool true), (15, .slice (some ⟨g_2, 0, none⟩) z (a2.toNat)), (16, .slice A0 a0.length c0), (17, U64 a1), (18, .slice A_7 x18.length c_8), (19, .int .i64 x19)]) (fun a ha => ha.cons rfl (ha.cons rfl (ha.cons rfl (ha.cons rfl (ha.cons rfl (ha.cons rfl (ha.cons rfl (ha.cons rfl (ha.cons rfl (ha.cons rfl (ha.cons rfl (ha.cons rfl (ha.cons rfl (ha.cons rfl (ha.cons rfl (ha.cons rfl (ha.cons rfl (ha.nil)))))))))))))))))) ?_
      change T 21 _ _ _
      clear hx_12 hx19 hl_14
      refine z_nil ?_
      obtain rfl := Option.some.inj H
      exact t_reach ((K _ () HJ hs_13).weak (fun a ha => ha.cons rfl (ha.nil)) (fun w hw => hw))
  ·
    replace H := HB
    clear HB
    obtain ⟨y_3, rfl⟩ : ∃ x, x = s := ⟨_, rfl⟩
    try dsimp only at hφ
    have hs_5 := hφ; clear hφ
    try dsimp only at H
    change T 21 _ _ _
    refine t_seq ?_
    refine t_region (fun ops hops => ?_)
    clear hops
    refine z_val (v := .slice (some ⟨g_2, 0, none⟩) y_3.length (a2.toNat)) (val_move rfl rfl) rfl rfl rfl (fun _ _ _ => trivial) ?_
    refine z_val (v := .slice (some ⟨g_2, 0, none⟩) y_3.length (a2.toNat)) (val_assign rfl rfl) rfl rfl rfl (fun _ _ _ => trivial) ?_
    refine z_nil ?_
    refine t_ret ?_
    obtain rfl := Option.some.inj H
    exact ret1 rfl (res_tmp rfl) (fun _ hw => ⟨(some ⟨g_2, 0, none⟩), (a2.toNat), rfl, hw.below, (row_out hw (j := 0) rfl hs_5)⟩)
def modexp_lengths.b1 (a0 : List (BitVec 8)) (y_2 : Vec (Vec (BitVec 64) 4) 3) (x5 : Int) : Option (Ctl ((Vec (Vec (BitVec 64) 4) 3) × (Int)) (Vec (Vec (BitVec 64) 4) 3)) :=
  Let (decide (x5 < 3)) fun x6 => (bif x6 then Let (wi (32 * x5)) fun x11 => Let (BitVec.ofInt 64 x11) fun x12 => (modexp_part a0 x12 32#64).bind fun x13 => (word_From x13).bind fun x14 => Chk (0 ≤ x5 ∧ x5 < ((3 : Nat) : Int)) <| Let (y_2.set x5.toNat x14) fun y_2_9 => Let (wi (x5 + 1)) fun x16 => some (.next (y_2_9, x16)) else some (.brk (y_2, x5)))
def modexp_lengths (a0 : List (BitVec 8)) : Option (Vec (Vec (BitVec 64) 4) 3) :=
  (wlx (σ := (Vec (Vec (BitVec 64) 4) 3) × (Int)) (fun s => modexp_lengths.b1 a0 s.1 s.2) ((Vec.rep 3 (Vec.rep 4 0#64)), 0)).bind (Sum.elim (fun s => (fun y_2 x5 => some y_2) s.1 s.2) (fun r => some r))
set_option maxRecDepth 100000 in
theorem modexp_lengths.calls  (a0 : List (BitVec 8)) (A0 : Option Addr) (c0 : Nat) (r : Vec (Vec (BitVec 64) 4) 3) (H : modexp_lengths a0 = some r) (w : World) (hs0 : SlW w U8 A0 a0) (hc0 : a0.length ≤ c0)  :
    Made Try.prog 29 #[.slice A0 a0.length c0] w (.agg (cVV U64 r).toArray) := by
  unfold modexp_lengths at H
  replace hs0 := hs0.toH
  have hM := Mm.start w (snap w) (snap_ok w)
  generalize snap w = h at *
  refine t_enter (vs := [.slice A0 a0.length c0]) (n := 18) Try.func29 rfl rfl rfl hM ?_
  clear hM
  change T 18 _ _ _
  refine t_seq ?_
  refine t_region (fun ops hops => ?_)
  clear hops
  refine z_alloc (cs := cVV U64 (Vec.rep 3 (Vec.rep 4 0#64))) (room := 12) rfl ze58 rfl (cVV_len (n := 3) (m := 4) _) rfl rfl rfl (fun _ _ _ _ => trivial) (fun g_1 => ?_)
  refine z_nil ?_
  refine t_seq ?_
  refine t_region (fun ops hops => ?_)
  clear hops
  refine z_alloc (cs := cVV U64 (Vec.rep 3 (Vec.rep 4 0#64))) (room := 12) rfl ze58 rfl (cVV_len (n := 3) (m := 4) _) rfl rfl rfl (fun _ _ _ _ => trivial) (fun g_2 => ?_)
  refine z_nil ?_
  refine t_seq ?_
  refine t_seq ?_
  refine t_region (fun ops hops => ?_)
  clear hops
  refine z_val (v := .int .i64 0) (val_move rfl rfl) rfl rfl rfl (fun _ _ _ => trivial) ?_
  refine z_nil ?_
  refine t_block ?_
  obtain ⟨z1, hz1, HK1⟩ := Option.bind_eq_some_iff.1 H
  clear H
  refine t_while hz1 (fun (s : (Vec (Vec (BitVec 64) 4) 3) × (Int)) (g : Unit) => [(0, .slice A0 a0.length c0), (2, .pointer (some ⟨g_1, 0, none⟩)), (3, .pointer (some ⟨g_2, 0, none⟩)), (5, .int .i64 s.2)]) (fun (s : (Vec (Vec (BitVec 64) 4) 3) × (Int)) (g : Unit) => [(2, .pointer (some ⟨g_1, 0, none⟩)), (3, .pointer (some ⟨g_2, 0, none⟩))]) (fun (s : (Vec (Vec (BitVec 64) 4) 3) × (Int)) (g : Unit) => Mm w [] h [.blk g_2 58 (cVV U64 s.1) 12, .blk g_1 58 (cVV U64 (Vec.rep 3 (Vec.rep 4 0#64))) 12]) (fun (s : (Vec (Vec (BitVec 64) 4) 3) × (Int)) (g : Unit) => Mm w [] h [.blk g_2 58 (cVV U64 s.1) 12, .blk g_1 58 (cVV U64 (Vec.rep 3 (Vec.rep 4 0#64))) 12]) (fun (s : (Vec (Vec (BitVec 64) 4) 3) × (Int)) (g : Unit) => True) (fun (s : (Vec (Vec (BitVec 64) 4) 3) × (Int)) (g : Unit) => True) () trivial (fun a w ha hw => ⟨ha.cons rfl (ha.cons rfl (ha.cons rfl (ha.cons rfl (ha.nil)))), hw⟩) (fun Gn Gb s g e hφ H hn1 hb1 hr1 => ?_) (fun s g hzz hφ => ?_)
  ·
    obtain ⟨y_2, x5⟩ := s
    change modexp_lengths.b1 a0 y_2 x5 = some e at H
    unfold modexp_lengths.b1 at H
    clear hz1
    change T 18 _ _ _
    refine t_seq ?_
    refine t_region (fun ops hops => ?_)
    clear hops
    obtain ⟨x6, hx6, H⟩ := Let_elim H
    refine z_val (v := .bool x6) (by subst hx6; exact val_bin rfl rfl rfl rfl (i64_lss _ _ _)) rfl rfl rfl (fun _ _ _ => trivial) ?_
    clear hx6
    refine z_nil ?_
    refine t_seq ?_
    cases x6
    ·
      replace H := cond_f H
      refine t_cond_false rfl ?_
      refine t_exit rfl ?_
      obtain rfl := Option.some.inj H
      exact t_reach ((hb1 _ () rfl trivial).weak (fun a ha => ha.cons rfl (ha.cons rfl (ha.nil))) (fun w hw => hw))
    ·
      replace H := cond_t H
      refine t_cond_true rfl ?_
      refine t_skip ?_
      refine t_seq ?_
      refine t_block ?_
      refine t_seq ?_
      refine t_region (fun ops hops => ?_)
      clear hops
      refine z_val (v := .int .i64 x5) (val_move rfl rfl) rfl rfl rfl (fun _ _ _ => trivial) ?_
      refine z_val (v := .int .i64 x5) (val_assign rfl rfl) rfl rfl rfl (fun _ _ _ => trivial) ?_
      refine z_nil ?_
      refine t_region (fun ops hops => ?_)
      clear hops
      refine z_val (v := .int .i64 x5) (val_move rfl rfl) rfl rfl rfl (fun _ _ _ => trivial) ?_
      refine z_val (v := .slice A0 a0.length c0) (val_move rfl rfl) rfl rfl rfl (fun _ _ _ => trivial) ?_
      refine z_val (v := .int .i64 x5) (val_move rfl rfl) rfl rfl rfl (fun _ _ _ => trivial) ?_
      obtain ⟨x11, hx11, H⟩ := Let_elim H
      refine z_val (v := .int .i64 x11) (by subst hx11; exact val_bin rfl rfl rfl rfl (i64_mul _ _ _)) rfl rfl rfl (fun _ _ _ => trivial) ?_
      clear hx11
      obtain ⟨x12, hx12, H⟩ := Let_elim H
      refine z_val (v := U64 x12) (by subst hx12; exact val_conv rfl rfl (fun w => conv_int_u64 w _ _ .i64 _ (by rw [Try.underlying3]; rfl) Try.underlying38)) rfl rfl rfl (fun _ _ _ => trivial) ?_
      clear hx12
      obtain ⟨x13, hx, H⟩ := Option.bind_eq_some_iff.1 H
      refine z_madeS (F := fun A_3 c_4 => .slice A_3 x13.length c_4) (xs := x13) rfl Try.func33 nm33 bs33 rfl (fun w hw => modexp_part.calls a0 x12 32#64 A0 c0 x13 hx w (hs0.toW hw) hc0) rfl rfl rfl (fun _ _ _ _ _ => trivial) (fun A_3 c_4 hs_5 => ?_)
      clear hx
      obtain ⟨x14, hx_7, H⟩ := Option.bind_eq_some_iff.1 H
      refine z_made (v := .agg (cV U64 x14).toArray) rfl Try.func32 nm32 bs32 rfl (fun w hw => word_From.calls x13 A_3 c_4 x14 hx_7 w (row_w hw (j := 0) rfl) hs_5.le) rfl rfl rfl (fun _ _ _ => trivial) ?_
      clear hx_7
      obtain ⟨hq_8, H⟩ := Chk_elim H
      refine z_val (v := .pointer (some ⟨g_2, x5.toNat * 4, none⟩)) (val_idxA0 rfl rfl rfl Try.underlying58 sz57 hq_8 rfl) rfl rfl rfl (fun _ _ _ => trivial) ?_
      obtain ⟨y_2_9, hy_2_9, H⟩ := Let_elim H
      refine z_storePart (j := 1) (c := cV U64 x14) (cs' := cVV U64 y_2_9) (L' := [.row (.slice A_3 x13.length c_4) 5 1 (x13.map U8), .blk g_2 58 (cVV U64 y_2_9) 12, .blk g_1 58 (cVV U64 (Vec.rep 3 (Vec.rep 4 0#64))) 12]) rfl rfl rfl (cV_one (fun _ => rfl) _) (sz57.trans (congrArg some (cV_len _).symm)) rfl (by rw [cV_len, cVV_len]; have := (idx_lt hq_8); omega) (by subst hy_2_9; exact cVV_put _ (idx_lt hq_8) _) rfl rfl rfl (fun _ _ _ => trivial) ?_
      clear hy_2_9
      refine z_nil ?_
      refine t_fin ?_
      refine t_region (fun ops hops => ?_)
      clear hops
      obtain ⟨x16, hx16, H⟩ := Let_elim H
      refine z_val (v := .int .i64 x16) (by subst hx16; exact val_bin rfl rfl rfl rfl (i64_add _ _ _)) rfl rfl rfl (fun _ _ _ => trivial) ?_
      clear hx16
      refine z_val (v := .int .i64 x16) (val_move rfl rfl) rfl rfl rfl (fun _ _ _ => trivial) ?_
      refine z_nil ?_
      obtain rfl := Option.some.inj H
      exact t_reach ((hn1 _ () rfl trivial).weak (fun a ha => ha.cons rfl (ha.cons rfl (ha.cons rfl (ha.cons rfl (ha.nil))))) (fun w hw => hw.sel [1, 2] rfl rfl))
  ·
    obtain ⟨y_2, x5⟩ := s
    subst hzz
    have H := HK1
    clear HK1 hz1
    replace H := sum_l H
    try dsimp only at H
    change T 18 _ _ _
    refine t_seq ?_
    refine t_region (fun ops hops => ?_)
    clear hops
    refine z_val (v := .agg (cVV U64 y_2).toArray) (val_loadR (off := 0) (cs := cVV U64 y_2) rfl rfl Try.underlying58 rfl (sz58.trans (congrArg some (cVV_len (n := 3) (m := 4) _).symm)) (fun _ hw => hw.whole (j := 0) rfl)) rfl rfl rfl (fun _ _ _ => trivial) ?_
    refine z_storeA (j := 1) (cs' := cVV U64 y_2) (L' := [.blk g_2 58 (cVV U64 y_2) 12, .blk g_1 58 (cVV U64 y_2) 12]) rfl rfl rfl (cVV_one (fun _ => rfl) _) sz58 rfl (cVV_len (n := 3) (m := 4) _) rfl rfl rfl (fun _ _ _ => trivial) ?_
    refine z_nil ?_
    refine t_ret ?_
    obtain rfl := Option.some.inj H
    exact ret1 rfl (res_row (j := 1) rfl Try.underlying58 rfl sz58 rfl (cVV_len (n := 3) (m := 4) _)) (fun _ hw => ⟨rfl, hw.below⟩)
def modexp_Gas (a0 : List (BitVec 8)) : Option (BitVec 64) :=
  (modexp_lengths a0).bind fun x21 => Let (x21.get 0) fun x23 => Let (Vec.rep 4 0#64) fun x24 => Let (x23.l == x24.l) fun x25 => (bif x25 then Let (x21.get 2) fun x28 => Let (Vec.rep 4 0#64) fun x29 => Let (x28.l == x29.l) fun x30 => some x30 else some false).bind (fun x31 => (bif x31 then some 200#64 else Let (x21.get 0) fun x34 => (word_Small x34).bind fun x35 => Let (x21.get 1) fun x40 => (word_Small x40).bind fun x41 => Let (x21.get 2) fun x46 => (word_Small x46).bind fun x47 => Let (!x35.2) fun x51 => (bif x51 then some true else Let (!x41.2) fun x54 => some x54).bind (fun x55 => (bif x55 then some true else Let (!x47.2) fun x58 => some x58).bind (fun x59 => (bif x59 then some 18446744073709551615#64 else (word_Of 0#64).bind fun x60 => Let (96#64 + x35.1) fun x62 => Let (decide (x35.1.toNat ≤ x62.toNat)) fun x65 => (bif x65 then Let (if (32#64).toNat < x41.1.toNat then (32#64) else x41.1) fun x69 => (modexp_part a0 x62 x69).bind fun x70 => (word_From x70).bind fun x71 => some x71 else some x60).bind (fun (y_6 : Vec (BitVec 64) 4) => (word_Len y_6).bind fun x73 => Let (wi (x73 - 1)) fun x74 => Let (if x74 < 0 then 0 else x74) fun x75 => Let (BitVec.ofInt 64 x75) fun x76 => (word_Of x76).bind fun x77 => Let (decide ((x41.1.toNat : Int) > 32)) fun x79 => (bif x79 then Let (x41.1 - 32#64) fun x83 => (word_Of 8#64).bind fun x81 => (word_Of x83).bind fun x84 => (word_Mul x81 x84).bind fun x85 => (word_Add x77 x85).bind fun x86 => some x86 else some x77).bind (fun (y_15 : Vec (BitVec 64) 4) => Let (Vec.rep 4 0#64) fun x88 => Let (y_15.l == x88.l) fun x89 => (bif x89 then (word_Of 1#64).bind fun x90 => some x90 else some y_15).bind (fun (y_15_20 : Vec (BitVec 64) 4) => Let (if x35.1.toNat < x47.1.toNat then x47.1 else x35.1) fun x93 => Let (x93 / 8#64) fun x94 => Let (if x35.1.toNat < x47.1.toNat then x47.1 else x35.1) fun x97 => Let (x97 % 8#64) fun x98 => Let (decide ((x98.toNat : Int) > 0)) fun x99 => (bif x99 then Let (x94 + 1#64) fun x101 => some x101 else some x94).bind (fun (x13 : BitVec 64) => (word_Of x13).bind fun x104 => (word_Of x13).bind fun x106 => (word_Mul x104 x106).bind fun x107 => (wide_Product x107 y_15_20).bind fun x109 => (word_Of 3#64).bind fun x114 => (wide_Div x109.1 x114).bind fun x115 => (word_Small x115.1).bind fun x120 => Let (!x120.2) fun x124 => (bif x124 then some true else Let (Vec.rep 4 0#64) fun x127 => Let (x109.2.l != x127.l) fun x128 => some x128).bind (fun x129 => (bif x129 then some 18446744073709551615#64 else Let (if x120.1.toNat < (200#64).toNat then (200#64) else x120.1) fun x131 => some x131)))))))))))
set_option maxRecDepth 100000 in
theorem modexp_Gas.calls  (a0 : List (BitVec 8)) (A0 : Option Addr) (c0 : Nat) (r : BitVec 64) (H : modexp_Gas a0 = some r) (w : World) (hs0 : SlW w U8 A0 a0) (hc0 : a0.length ≤ c0)  :
    Made Try.prog 17 #[.slice A0 a0.length c0] w (U64 r) := by
  unfold modexp_Gas at H
  replace hs0 := hs0.toH
  have hM := Mm.start w (snap w) (snap_ok w)
  generalize snap w = h at *
  refine t_enter (vs := [.slice A0 a0.length c0]) (n := 132) Try.func17 rfl rfl rfl hM ?_
  clear hM
  change T 132 _ _ _
  refine t_seq ?_
  refine t_region (fun ops hops => ?_)
  clear hops
  refine z_val (v := .int .u64 0) (val_assign rfl rfl) rfl rfl rfl (fun _ _ _ => trivial) ?_
  refine z_nil ?_
  refine t_seq ?_
  refine t_region (fun ops hops => ?_)
  clear hops
  refine z_val (v := .slice A0 a0.length c0) (val_move rfl rfl) rfl rfl rfl (fun _ _ _ => trivial) ?_
  obtain ⟨x21, hx, H⟩ := Option.bind_eq_some_iff.1 H
  refine z_made (v := .agg (cVV U64 x21).toArray) rfl Try.func29 nm29 bs29 rfl (fun w hw => modexp_lengths.calls a0 A0 c0 x21 hx w (hs0.toW hw) hc0) rfl rfl rfl (fun _ _ _ => trivial) ?_
  clear hx
  refine z_alloc (cs := cVV U64 (Vec.rep 3 (Vec.rep 4 0#64))) (room := 12) rfl ze58 rfl (cVV_len (n := 3) (m := 4) _) rfl rfl rfl (fun _ _ _ _ => trivial) (fun g_1 => ?_)
  refine z_storeA (j := 0) (cs' := cVV U64 x21) (L' := [.blk g_1 58 (cVV U64 x21) 12]) rfl rfl rfl (cVV_one (fun _ => rfl) _) sz58 rfl (cVV_len (n := 3) (m := 4) _) rfl rfl rfl (fun _ _ _ => trivial) ?_
  refine z_nil ?_
  refine t_seq ?_
  refine t_seq ?_
  refine t_region (fun ops hops => ?_)
  refine z_val (v := .pointer (some ⟨g_1, 0 * 4, none⟩)) (val_idxA0 rfl rfl rfl Try.underlying58 sz57 (by decide) rfl) rfl rfl rfl (fun _ _ _ => trivial) ?_
  obtain ⟨x23, hx23, H⟩ := Let_elim H
  refine z_val (v := .agg (cV U64 x23).toArray) (by subst hx23; exact val_loadR (off := 0 * 4) (cs := cV U64 (x21.get 0)) rfl rfl Try.underlying57 rfl (sz57.trans (congrArg some (cV_len _).symm)) (fun _ hw => hw.range (j := 0) rfl _ _ (cVV_seg _ (by decide)))) rfl rfl rfl (fun _ _ _ => trivial) ?_
  clear hx23
  obtain ⟨x24, hx24, H⟩ := Let_elim H
  refine z_val (v := .agg (cV U64 x24).toArray) (by subst hx24; exact val_build (vs := []) rfl rfl (fun w => by kernel_rfl)) rfl rfl rfl (fun _ _ _ => trivial) ?_
  clear hx24
  obtain ⟨x25, hx25, H⟩ := Let_elim H
  refine z_val (v := .bool x25) (by subst hx25; exact val_bina rfl rfl rfl eg57 (fun w => vec_eql U64_inj (P := Try.prog) Try.underlying57 pk38 Try.underlying38 ce38 w _ _)) rfl rfl rfl (fun _ _ _ => trivial) ?_
  clear hx25
  refine z_val (v := .bool x25) (val_move rfl rfl) rfl rfl rfl (fun _ _ _ => trivial) ?_
  refine z_bind H 5 (fun (s : Bool) (_ : Unit) => [(0, .slice A0 a0.length c0), (3, .pointer (some ⟨g_1, 0, none⟩)), (31, .bool s)]) (fun _ _ => Mm w [] h [.blk g_1 58 (cVV U64 x21) 12]) (fun _ _ => True) (fun Gr K s he HJ => ?_) (fun s g HB _ => ?_)
  ·
    clear H
    cases x25
    ·
      have H := cond_f he
      clear he
      refine z_skip rfl rfl (by rw [hops]; rfl) (fun _ _ _ => trivial) ?_
      refine z_skip rfl rfl (by rw [hops]; rfl) (fun _ _ _ => trivial) ?_
      refine z_skip rfl rfl (by rw [hops]; rfl) (fun _ _ _ => trivial) ?_
      refine z_skip rfl rfl (by rw [hops]; rfl) (fun _ _ _ => trivial) ?_
      refine z_val (v := .bool false) (val_pick rfl rfl rfl) rfl rfl rfl (fun _ _ _ => trivial) ?_
      obtain rfl := Option.some.inj H
      exact z_nil ((K _ () HJ trivial).weak (fun a ha => ha.cons rfl (ha.cons rfl (ha.cons rfl (ha.nil)))) (fun w hw => hw))
    ·
      have H := cond_t he
      clear he
      refine z_val (v := .pointer (some ⟨g_1, 2 * 4, none⟩)) (val_idxA0 rfl rfl rfl Try.underlying58 sz57 (by decide) rfl) rfl rfl (by rw [hops]; rfl) (fun _ _ _ => trivial) ?_
      obtain ⟨x28, hx28, H⟩ := Let_elim H
      refine z_val (v := .agg (cV U64 x28).toArray) (by subst hx28; exact val_loadR (off := 2 * 4) (cs := cV U64 (x21.get 2)) rfl rfl Try.underlying57 rfl (sz57.trans (congrArg some (cV_len _).symm)) (fun _ hw => hw.range (j := 0) rfl _ _ (cVV_seg _ (by decide)))) rfl rfl (by rw [hops]; rfl) (fun _ _ _ => trivial) ?_
      clear hx28
      obtain ⟨x29, hx29, H⟩ := Let_elim H
      refine z_val (v := .agg (cV U64 x29).toArray) (by subst hx29; exact val_build (vs := []) rfl rfl (fun w => by kernel_rfl)) rfl rfl (by rw [hops]; rfl) (fun _ _ _ => trivial) ?_
      clear hx29
      obtain ⟨x30, hx30, H⟩ := Let_elim H
      refine z_val (v := .bool x30) (by subst hx30; exact val_bina rfl rfl rfl eg57 (fun w => vec_eql U64_inj (P := Try.prog) Try.underlying57 pk38 Try.underlying38 ce38 w _ _)) rfl rfl (by rw [hops]; rfl) (fun _ _ _ => trivial) ?_
      clear hx30
      refine z_val (v := .bool x30) (val_pick rfl rfl rfl) rfl rfl rfl (fun _ _ _ => trivial) ?_
      obtain rfl := Option.some.inj H
      exact z_nil ((K _ () HJ trivial).weak (fun a ha => ha.cons rfl (ha.cons rfl (ha.cons rfl (ha.nil)))) (fun w hw => hw))
  ·
    replace H := HB
    clear HB
    obtain ⟨x31, rfl⟩ : ∃ x, x = s := ⟨_, rfl⟩
    change T 132 _ _ _
    refine z_nil ?_
    cases x31
    ·
      replace H := cond_f H
      refine t_cond_false rfl ?_
      refine t_skip ?_
      refine t_seq ?_
      refine t_region (fun ops hops => ?_)
      clear hops
      refine z_val (v := .pointer (some ⟨g_1, 0 * 4, none⟩)) (val_idxA0 rfl rfl rfl Try.underlying58 sz57 (by decide) rfl) rfl rfl rfl (fun _ _ _ => trivial) ?_
      obtain ⟨x34, hx34, H⟩ := Let_elim H
      refine z_val (v := .agg (cV U64 x34).toArray) (by subst hx34; exact val_loadR (off := 0 * 4) (cs := cV U64 (x21.get 0)) rfl rfl Try.underlying57 rfl (sz57.trans (congrArg some (cV_len _).symm)) (fun _ hw => hw.range (j := 0) rfl _ _ (cVV_seg _ (by decide)))) rfl rfl rfl (fun _ _ _ => trivial) ?_
      clear hx34
      obtain ⟨x35, hx_2, H⟩ := Option.bind_eq_some_iff.1 H
      refine z_made (v := .tuple #[U64 x35.1, .bool x35.2]) rfl Try.func30 nm30 bs30 rfl (fun w hw => word_Small.calls x34 x35 hx_2 w) rfl rfl rfl (fun _ _ _ => trivial) ?_
      clear hx_2
      refine z_val (v := .tuple #[U64 x35.1, .bool x35.2]) (val_move rfl rfl) rfl rfl rfl (fun _ _ _ => trivial) ?_
      refine z_val (v := U64 x35.1) (val_extract rfl rfl rfl) rfl rfl rfl (fun _ _ _ => trivial) ?_
      refine z_val (v := .bool x35.2) (val_extract rfl rfl rfl) rfl rfl rfl (fun _ _ _ => trivial) ?_
      refine z_val (v := U64 x35.1) (val_assign rfl rfl) rfl rfl rfl (fun _ _ _ => trivial) ?_
      refine z_val (v := .bool x35.2) (val_assign rfl rfl) rfl rfl rfl (fun _ _ _ => trivial) ?_
      refine z_nil ?_
      refine t_seq ?_
      refine t_region (fun ops hops => ?_)
      clear hops
      refine z_val (v := .pointer (some ⟨g_1, 1 * 4, none⟩)) (val_idxA0 rfl rfl rfl Try.underlying58 sz57 (by decide) rfl) rfl rfl rfl (fun _ _ _ => trivial) ?_
      obtain ⟨x40, hx40, H⟩ := Let_elim H
      refine z_val (v := .agg (cV U64 x40).toArray) (by subst hx40; exact val_loadR (off := 1 * 4) (cs := cV U64 (x21.get 1)) rfl rfl Try.underlying57 rfl (sz57.trans (congrArg some (cV_len _).symm)) (fun _ hw => hw.range (j := 0) rfl _ _ (cVV_seg _ (by decide)))) rfl rfl rfl (fun _ _ _ => trivial) ?_
      clear hx40
      obtain ⟨x41, hx_3, H⟩ := Option.bind_eq_some_iff.1 H
      refine z_made (v := .tuple #[U64 x41.1, .bool x41.2]) rfl Try.func30 nm30 bs30 rfl (fun w hw => word_Small.calls x40 x41 hx_3 w) rfl rfl rfl (fun _ _ _ => trivial) ?_
      clear hx_3
      refine z_val (v := .tuple #[U64 x41.1, .bool x41.2]) (val_move rfl rfl) rfl rfl rfl (fun _ _ _ => trivial) ?_
      refine z_val (v := U64 x41.1) (val_extract rfl rfl rfl) rfl rfl rfl (fun _ _ _ => trivial) ?_
      refine z_val (v := .bool x41.2) (val_extract rfl rfl rfl) rfl rfl rfl (fun _ _ _ => trivial) ?_
      refine z_val (v := U64 x41.1) (val_assign rfl rfl) rfl rfl rfl (fun _ _ _ => trivial) ?_
      refine z_val (v := .bool x41.2) (val_assign rfl rfl) rfl rfl rfl (fun _ _ _ => trivial) ?_
      refine z_nil ?_
      refine t_seq ?_
      refine t_region (fun ops hops => ?_)
      clear hops
      refine z_val (v := .pointer (some ⟨g_1, 2 * 4, none⟩)) (val_idxA0 rfl rfl rfl Try.underlying58 sz57 (by decide) rfl) rfl rfl rfl (fun _ _ _ => trivial) ?_
      obtain ⟨x46, hx46, H⟩ := Let_elim H
      refine z_val (v := .agg (cV U64 x46).toArray) (by subst hx46; exact val_loadR (off := 2 * 4) (cs := cV U64 (x21.get 2)) rfl rfl Try.underlying57 rfl (sz57.trans (congrArg some (cV_len _).symm)) (fun _ hw => hw.range (j := 0) rfl _ _ (cVV_seg _ (by decide)))) rfl rfl rfl (fun _ _ _ => trivial) ?_
      clear hx46
      obtain ⟨x47, hx_4, H⟩ := Option.bind_eq_some_iff.1 H
      refine z_made (v := .tuple #[U64 x47.1, .bool x47.2]) rfl Try.func30 nm30 bs30 rfl (fun w hw => word_Small.calls x46 x47 hx_4 w) rfl rfl rfl (fun _ _ _ => trivial) ?_
      clear hx_4
      refine z_val (v := .tuple #[U64 x47.1, .bool x47.2]) (val_move rfl rfl) rfl rfl rfl (fun _ _ _ => trivial) ?_
      refine z_val (v := U64 x47.1) (val_extract rfl rfl rfl) rfl rfl rfl (fun _ _ _ => trivial) ?_
      refine z_val (v := .bool x47.2) (val_extract rfl rfl rfl) rfl rfl rfl (fun _ _ _ => trivial) ?_
      refine z_val (v := U64 x47.1) (val_assign rfl rfl) rfl rfl rfl (fun _ _ _ => trivial) ?_
      refine z_val (v := .bool x47.2) (val_assign rfl rfl) rfl rfl rfl (fun _ _ _ => trivial) ?_
      refine z_nil ?_
      refine t_seq ?_
      refine t_seq ?_
      refine t_region (fun ops hops => ?_)
      refine z_val (v := .bool x35.2) (val_move rfl rfl) rfl rfl rfl (fun _ _ _ => trivial) ?_
      obtain ⟨x51, hx51, H⟩ := Let_elim H
      refine z_val (v := .bool x51) (by subst hx51; exact val_un rfl rfl (bool_not _)) rfl rfl rfl (fun _ _ _ => trivial) ?_
      clear hx51
      refine z_val (v := .bool x51) (val_move rfl rfl) rfl rfl rfl (fun _ _ _ => trivial) ?_
      refine z_bind H 3 (fun (s : Bool) (_ : Unit) => [(0, .slice A0 a0.length c0), (4, U64 x35.1), (6, U64 x41.1), (8, U64 x47.1), (9, .bool x47.2), (55, .bool s)]) (fun _ _ => Mm w [] h [.blk g_1 58 (cVV U64 x21) 12]) (fun _ _ => True) (fun Gr K s he HJ => ?_) (fun s g HB _ => ?_)
      ·
        clear H
        cases x51
        ·
          have H := cond_f he
          clear he
          refine z_val (v := .bool x41.2) (val_move rfl rfl) rfl rfl (by rw [hops]; rfl) (fun _ _ _ => trivial) ?_
          obtain ⟨x54, hx54, H⟩ := Let_elim H
          refine z_val (v := .bool x54) (by subst hx54; exact val_un rfl rfl (bool_not _)) rfl rfl (by rw [hops]; rfl) (fun _ _ _ => trivial) ?_
          clear hx54
          refine z_val (v := .bool x54) (val_pick rfl rfl rfl) rfl rfl rfl (fun _ _ _ => trivial) ?_
          obtain rfl := Option.some.inj H
          exact z_nil ((K _ () HJ trivial).weak (fun a ha => ha.cons rfl (ha.cons rfl (ha.cons rfl (ha.cons rfl (ha.cons rfl (ha.cons rfl (ha.nil))))))) (fun w hw => hw))
        ·
          have H := cond_t he
          clear he
          refine z_skip rfl rfl (by rw [hops]; rfl) (fun _ _ _ => trivial) ?_
          refine z_skip rfl rfl (by rw [hops]; rfl) (fun _ _ _ => trivial) ?_
          refine z_val (v := .bool true) (val_pick rfl rfl rfl) rfl rfl rfl (fun _ _ _ => trivial) ?_
          obtain rfl := Option.some.inj H
          exact z_nil ((K _ () HJ trivial).weak (fun a ha => ha.cons rfl (ha.cons rfl (ha.cons rfl (ha.cons rfl (ha.cons rfl (ha.cons rfl (ha.nil))))))) (fun w hw => hw))
      ·
        replace H := HB
        clear HB
        obtain ⟨x55, rfl⟩ : ∃ x, x = s := ⟨_, rfl⟩
        change T 132 _ _ _
        refine z_val (v := .bool x55) (val_move rfl rfl) rfl rfl rfl (fun _ _ _ => trivial) ?_
        refine z_bind H 3 (fun (s : Bool) (_ : Unit) => [(0, .slice A0 a0.length c0), (4, U64 x35.1), (6, U64 x41.1), (8, U64 x47.1), (59, .bool s)]) (fun _ _ => Mm w [] h [.blk g_1 58 (cVV U64 x21) 12]) (fun _ _ => True) (fun Gr K s he HJ => ?_) (fun s g HB _ => ?_)
        ·
          clear H
          cases x55
          ·
            have H := cond_f he
            clear he
            refine z_val (v := .bool x47.2) (val_move rfl rfl) rfl rfl (by rw [hops]; rfl) (fun _ _ _ => trivial) ?_
            obtain ⟨x58, hx58, H⟩ := Let_elim H
            refine z_val (v := .bool x58) (by subst hx58; exact val_un rfl rfl (bool_not _)) rfl rfl (by rw [hops]; rfl) (fun _ _ _ => trivial) ?_
            clear hx58
            refine z_val (v := .bool x58) (val_pick rfl rfl rfl) rfl rfl rfl (fun _ _ _ => trivial) ?_
            obtain rfl := Option.some.inj H
            exact z_nil ((K _ () HJ trivial).weak (fun a ha => ha.cons rfl (ha.cons rfl (ha.cons rfl (ha.cons rfl (ha.cons rfl (ha.nil)))))) (fun w hw => hw))
          ·
            have H := cond_t he
            clear he
            refine z_skip rfl rfl (by rw [hops]; rfl) (fun _ _ _ => trivial) ?_
            refine z_skip rfl rfl (by rw [hops]; rfl) (fun _ _ _ => trivial) ?_
            refine z_val (v := .bool true) (val_pick rfl rfl rfl) rfl rfl rfl (fun _ _ _ => trivial) ?_
            obtain rfl := Option.some.inj H
            exact z_nil ((K _ () HJ trivial).weak (fun a ha => ha.cons rfl (ha.cons rfl (ha.cons rfl (ha.cons rfl (ha.cons rfl (ha.nil)))))) (fun w hw => hw))
        ·
          replace H := HB
          clear HB
          obtain ⟨x59, rfl⟩ : ∃ x, x = s := ⟨_, rfl⟩
          change T 132 _ _ _
          refine z_nil ?_
          cases x59
          ·
            replace H := cond_f H
            refine t_cond_false rfl ?_
            refine t_skip ?_
            refine t_seq ?_
            refine t_region (fun ops hops => ?_)
            clear hops
            obtain ⟨x60, hx_5, H⟩ := Option.bind_eq_some_iff.1 H
            refine z_made (v := .agg (cV U64 x60).toArray) rfl Try.func31 nm31 bs31 rfl (fun w hw => word_Of.calls 0#64 x60 hx_5 w) rfl rfl rfl (fun _ _ _ => trivial) ?_
            clear hx_5
            refine z_alloc (cs := cV U64 (Vec.rep 4 0#64)) (room := 4) rfl ze57 rfl (cV_len _) rfl rfl rfl (fun _ _ _ _ => trivial) (fun g_6 => ?_)
            refine z_storeA (j := 0) (cs' := cV U64 x60) (L' := [.blk g_6 57 (cV U64 x60) 4, .blk g_1 58 (cVV U64 x21) 12]) rfl rfl rfl (cV_one (fun _ => rfl) _) sz57 rfl (cV_len _) rfl rfl rfl (fun _ _ _ => trivial) ?_
            refine z_nil ?_
            refine t_seq ?_
            refine t_seq ?_
            refine t_region (fun ops hops => ?_)
            clear hops
            refine z_val (v := U64 x35.1) (val_move rfl rfl) rfl rfl rfl (fun _ _ _ => trivial) ?_
            obtain ⟨x62, hx62, H⟩ := Let_elim H
            refine z_val (v := U64 x62) (by subst hx62; exact val_bin rfl rfl rfl rfl (u64_add_l _ _ _)) rfl rfl rfl (fun _ _ _ => trivial) ?_
            clear hx62
            refine z_val (v := U64 x62) (val_assign rfl rfl) rfl rfl rfl (fun _ _ _ => trivial) ?_
            refine z_nil ?_
            refine t_seq ?_
            refine t_region (fun ops hops => ?_)
            clear hops
            refine z_val (v := U64 x62) (val_move rfl rfl) rfl rfl rfl (fun _ _ _ => trivial) ?_
            refine z_val (v := U64 x35.1) (val_move rfl rfl) rfl rfl rfl (fun _ _ _ => trivial) ?_
            obtain ⟨x65, hx65, H⟩ := Let_elim H
            refine z_val (v := .bool x65) (by subst hx65; exact val_bin rfl rfl rfl rfl (u64_geq _ _ _)) rfl rfl rfl (fun _ _ _ => trivial) ?_
            clear hx65
            refine z_nil ?_
            refine t_bind H (fun (s : (Vec (BitVec 64) 4)) (g : Unit) => [(4, U64 x35.1), (6, U64 x41.1), (8, U64 x47.1), (10, .pointer (some ⟨g_6, 0, none⟩))]) (fun (s : (Vec (BitVec 64) 4)) (g : Unit) => Mm w [] h [.blk g_6 57 (cV U64 s) 4]) (fun (s : (Vec (BitVec 64) 4)) (g : Unit) => True) (fun Gr K s he HJ => ?_) (fun s g HB hφ => ?_)
            ·
              clear H
              cases x65
              ·
                have H := cond_f he
                clear he
                refine t_cond_false rfl ?_
                refine t_skip ?_
                obtain rfl := Option.some.inj H
                exact t_reach ((K _ () HJ trivial).weak (fun a ha => ha.cons rfl (ha.cons rfl (ha.cons rfl (ha.cons rfl (ha.nil))))) (fun w hw => hw.sel [0] rfl rfl))
              ·
                have H := cond_t he
                clear he
                refine t_cond_true rfl ?_
                refine t_region (fun ops hops => ?_)
                clear hops
                refine z_val (v := .slice A0 a0.length c0) (val_move rfl rfl) rfl rfl rfl (fun _ _ _ => trivial) ?_
                refine z_val (v := U64 x62) (val_move rfl rfl) rfl rfl rfl (fun _ _ _ => trivial) ?_
                refine z_val (v := U64 x41.1) (val_move rfl rfl) rfl rfl rfl (fun _ _ _ => trivial) ?_
                obtain ⟨x69, hx69, H⟩ := Let_elim H
                refine z_val (v := U64 x69) (by subst hx69; exact val_minU (f := U64) (kk := .u64) rfl rfl (fun _ => rfl) rfl) rfl rfl rfl (fun _ _ _ => trivial) ?_
                clear hx69
                obtain ⟨x70, hx_7, H⟩ := Option.bind_eq_some_iff.1 H
                refine z_madeS (F := fun A_8 c_9 => .slice A_8 x70.length c_9) (xs := x70) rfl Try.func33 nm33 bs33 rfl (fun w hw => modexp_part.calls a0 x62 x69 A0 c0 x70 hx_7 w (hs0.toW hw) hc0) rfl rfl rfl (fun _ _ _ _ _ => trivial) (fun A_8 c_9 hs_10 => ?_)
                clear hx_7
                obtain ⟨x71, hx_12, H⟩ := Option.bind_eq_some_iff.1 H
                refine z_made (v := .agg (cV U64 x71).toArray) rfl Try.func32 nm32 bs32 rfl (fun w hw => word_From.calls x70 A_8 c_9 x71 hx_12 w (row_w hw (j := 0) rfl) hs_10.le) rfl rfl rfl (fun _ _ _ => trivial) ?_
                clear hx_12
                refine z_storeA (j := 1) (cs' := cV U64 x71) (L' := [.row (.slice A_8 x70.length c_9) 5 1 (x70.map U8), .blk g_6 57 (cV U64 x71) 4, .blk g_1 58 (cVV U64 x21) 12]) rfl rfl rfl (cV_one (fun _ => rfl) _) sz57 rfl (cV_len _) rfl rfl rfl (fun _ _ _ => trivial) ?_
                refine z_nil ?_
                obtain rfl := Option.some.inj H
                exact t_reach ((K _ () HJ trivial).weak (fun a ha => ha.cons rfl (ha.cons rfl (ha.cons rfl (ha.cons rfl (ha.nil))))) (fun w hw => hw.sel [1] rfl rfl))
            ·
              replace H := HB
              clear HB
              obtain ⟨y_6, rfl⟩ : ∃ x, x = s := ⟨_, rfl⟩
              try dsimp only at H
              change T 132 _ _ _
              refine t_seq ?_
              refine t_region (fun ops hops => ?_)
              clear hops
              refine z_val (v := .agg (cV U64 y_6).toArray) (val_loadR (off := 0) (cs := cV U64 y_6) rfl rfl Try.underlying57 rfl (sz57.trans (congrArg some (cV_len _).symm)) (fun _ hw => hw.whole (j := 0) rfl)) rfl rfl rfl (fun _ _ _ => trivial) ?_
              obtain ⟨x73, hx_13, H⟩ := Option.bind_eq_some_iff.1 H
              refine z_made (v := .int .i64 x73) rfl Try.func34 nm34 bs34 rfl (fun w hw => word_Len.calls y_6 x73 hx_13 w) rfl rfl rfl (fun _ _ _ => trivial) ?_
              clear hx_13
              obtain ⟨x74, hx74, H⟩ := Let_elim H
              refine z_val (v := .int .i64 x74) (by subst hx74; exact val_bin rfl rfl rfl rfl (i64_sub _ _ _)) rfl rfl rfl (fun _ _ _ => trivial) ?_
              clear hx74
              obtain ⟨x75, hx75, H⟩ := Let_elim H
              refine z_val (v := .int .i64 x75) (by subst hx75; exact val_max rfl rfl rfl) rfl rfl rfl (fun _ _ _ => trivial) ?_
              clear hx75
              obtain ⟨x76, hx76, H⟩ := Let_elim H
              refine z_val (v := U64 x76) (by subst hx76; exact val_conv rfl rfl (fun w => conv_int_u64 w _ _ .i64 _ (by rw [Try.underlying3]; rfl) Try.underlying38)) rfl rfl rfl (fun _ _ _ => trivial) ?_
              clear hx76
              obtain ⟨x77, hx_14, H⟩ := Option.bind_eq_some_iff.1 H
              refine z_made (v := .agg (cV U64 x77).toArray) rfl Try.func31 nm31 bs31 rfl (fun w hw => word_Of.calls x76 x77 hx_14 w) rfl rfl rfl (fun _ _ _ => trivial) ?_
              clear hx_14
              refine z_alloc (cs := cV U64 (Vec.rep 4 0#64)) (room := 4) rfl ze57 rfl (cV_len _) rfl rfl rfl (fun _ _ _ _ => trivial) (fun g_15 => ?_)
              refine z_storeA (j := 0) (cs' := cV U64 x77) (L' := [.blk g_15 57 (cV U64 x77) 4, .blk g_6 57 (cV U64 y_6) 4]) rfl rfl rfl (cV_one (fun _ => rfl) _) sz57 rfl (cV_len _) rfl rfl rfl (fun _ _ _ => trivial) ?_
              refine z_nil ?_
              refine t_seq ?_
              refine t_seq ?_
              refine t_region (fun ops hops => ?_)
              clear hops
              refine z_val (v := U64 x41.1) (val_move rfl rfl) rfl rfl rfl (fun _ _ _ => trivial) ?_
              obtain ⟨x79, hx79, H⟩ := Let_elim H
              refine z_val (v := .bool x79) (by subst hx79; exact val_bin rfl rfl rfl rfl (u64_gtr_r _ 32 x41.1)) rfl rfl rfl (fun _ _ _ => trivial) ?_
              clear hx79
              refine z_nil ?_
              refine t_bind H (fun (s : (Vec (BitVec 64) 4)) (g : Unit) => [(4, U64 x35.1), (8, U64 x47.1), (12, .pointer (some ⟨g_15, 0, none⟩))]) (fun (s : (Vec (BitVec 64) 4)) (g : Unit) => Mm w [] h [.blk g_15 57 (cV U64 s) 4]) (fun (s : (Vec (BitVec 64) 4)) (g : Unit) => True) (fun Gr K s he HJ => ?_) (fun s g HB hφ => ?_)
              ·
                clear H
                cases x79
                ·
                  have H := cond_f he
                  clear he
                  refine t_cond_false rfl ?_
                  refine t_skip ?_
                  obtain rfl := Option.some.inj H
                  exact t_reach ((K _ () HJ trivial).weak (fun a ha => ha.cons rfl (ha.cons rfl (ha.cons rfl (ha.nil)))) (fun w hw => hw.sel [0] rfl rfl))
                ·
                  have H := cond_t he
                  clear he
                  refine t_cond_true rfl ?_
                  refine t_plan (C := Mm w [] h [.blk g_15 57 (cV U64 x77) 4, .blk g_6 57 (cV U64 y_6) 4]) [7] [(0, true), (2, true), (3, true), (1, false), (4, false), (5, false), (6, false), (7, false)] (by kernel_rfl) (by kernel_rfl) (fun _ hw => hw.drew) (fun ops hops => ?_)
                  clear hops
                  refine z_still (v := .agg (cV U64 x77).toArray) (val_loadR (off := 0) (cs := cV U64 x77) rfl rfl Try.underlying57 rfl (sz57.trans (congrArg some (cV_len _).symm)) (fun _ hw => hw.whole (j := 0) rfl)) rfl rfl rfl (fun _ hw => hw) ?_
                  refine z_still (v := U64 x41.1) (val_move rfl rfl) rfl rfl rfl (fun _ hw => hw) ?_
                  obtain ⟨x83, hx83, H⟩ := Let_elim H
                  refine z_still (v := U64 x83) (by subst hx83; exact val_bin rfl rfl rfl rfl (u64_sub_r _ _ _)) rfl rfl rfl (fun _ hw => hw) ?_
                  clear hx83
                  obtain ⟨x81, hx_16, H⟩ := Option.bind_eq_some_iff.1 H
                  refine z_made (v := .agg (cV U64 x81).toArray) rfl Try.func31 nm31 bs31 rfl (fun w hw => word_Of.calls 8#64 x81 hx_16 w) rfl rfl rfl (fun _ _ hw => hw) ?_
                  clear hx_16
                  obtain ⟨x84, hx_17, H⟩ := Option.bind_eq_some_iff.1 H
                  refine z_made (v := .agg (cV U64 x84).toArray) rfl Try.func31 nm31 bs31 rfl (fun w hw => word_Of.calls x83 x84 hx_17 w) rfl rfl rfl (fun _ _ hw => hw) ?_
                  clear hx_17
                  obtain ⟨x85, hx_18, H⟩ := Option.bind_eq_some_iff.1 H
                  refine z_made (v := .agg (cV U64 x85).toArray) rfl Try.func36 nm36 bs36 rfl (fun w hw => word_Mul.calls x81 x84 x85 hx_18 w) rfl rfl rfl (fun _ _ hw => hw) ?_
                  clear hx_18
                  obtain ⟨x86, hx_19, H⟩ := Option.bind_eq_some_iff.1 H
                  refine z_made (v := .agg (cV U64 x86).toArray) rfl Try.func35 nm35 bs35 rfl (fun w hw => word_Add.calls x77 x85 x86 hx_19 w) rfl rfl rfl (fun _ _ hw => hw) ?_
                  clear hx_19
                  refine z_storeA (j := 0) (cs' := cV U64 x86) (L' := [.blk g_15 57 (cV U64 x86) 4, .blk g_6 57 (cV U64 y_6) 4]) rfl rfl rfl (cV_one (fun _ => rfl) _) sz57 rfl (cV_len _) rfl rfl rfl (fun hb => absurd hb (by decide)) ?_
                  refine z_nil ?_
                  obtain rfl := Option.some.inj H
                  exact t_reach ((K _ () HJ trivial).weak (fun a ha => ha.cons rfl (ha.cons rfl (ha.cons rfl (ha.nil)))) (fun w hw => hw.sel [0] rfl rfl))
              ·
                replace H := HB
                clear HB
                obtain ⟨y_15, rfl⟩ : ∃ x, x = s := ⟨_, rfl⟩
                try dsimp only at H
                change T 132 _ _ _
                refine t_seq ?_
                refine t_seq ?_
                refine t_region (fun ops hops => ?_)
                clear hops
                refine z_val (v := .agg (cV U64 y_15).toArray) (val_loadR (off := 0) (cs := cV U64 y_15) rfl rfl Try.underlying57 rfl (sz57.trans (congrArg some (cV_len _).symm)) (fun _ hw => hw.whole (j := 0) rfl)) rfl rfl rfl (fun _ _ _ => trivial) ?_
                obtain ⟨x88, hx88, H⟩ := Let_elim H
                refine z_val (v := .agg (cV U64 x88).toArray) (by subst hx88; exact val_build (vs := []) rfl rfl (fun w => by kernel_rfl)) rfl rfl rfl (fun _ _ _ => trivial) ?_
                clear hx88
                obtain ⟨x89, hx89, H⟩ := Let_elim H
                refine z_val (v := .bool x89) (by subst hx89; exact val_bina rfl rfl rfl eg57 (fun w => vec_eql U64_inj (P := Try.prog) Try.underlying57 pk38 Try.underlying38 ce38 w _ _)) rfl rfl rfl (fun _ _ _ => trivial) ?_
                clear hx89
                refine z_nil ?_
                refine t_bind H (fun (s : (Vec (BitVec 64) 4)) (g : Unit) => [(4, U64 x35.1), (8, U64 x47.1), (12, .pointer (some ⟨g_15, 0, none⟩))]) (fun (s : (Vec (BitVec 64) 4)) (g : Unit) => Mm w [] h [.blk g_15 57 (cV U64 s) 4]) (fun (s : (Vec (BitVec 64) 4)) (g : Unit) => True) (fun Gr K s he HJ => ?_) (fun s g HB hφ => ?_)
                ·
                  clear H
                  cases x89
                  ·
                    have H := cond_f he
                    clear he
                    refine t_cond_false rfl ?_
                    refine t_skip ?_
                    obtain rfl := Option.some.inj H
                    exact t_reach ((K _ () HJ trivial).weak (fun a ha => ha.cons rfl (ha.cons rfl (ha.cons rfl (ha.nil)))) (fun w hw => hw))
                  ·
                    have H := cond_t he
                    clear he
                    refine t_cond_true rfl ?_
                    refine t_region (fun ops hops => ?_)
                    clear hops
                    obtain ⟨x90, hx_21, H⟩ := Option.bind_eq_some_iff.1 H
                    refine z_made (v := .agg (cV U64 x90).toArray) rfl Try.func31 nm31 bs31 rfl (fun w hw => word_Of.calls 1#64 x90 hx_21 w) rfl rfl rfl (fun _ _ _ => trivial) ?_
                    clear hx_21
                    refine z_storeA (j := 0) (cs' := cV U64 x90) (L' := [.blk g_15 57 (cV U64 x90) 4]) rfl rfl rfl (cV_one (fun _ => rfl) _) sz57 rfl (cV_len _) rfl rfl rfl (fun _ _ _ => trivial) ?_
                    refine z_nil ?_
                    obtain rfl := Option.some.inj H
                    exact t_reach ((K _ () HJ trivial).weak (fun a ha => ha.cons rfl (ha.cons rfl (ha.cons rfl (ha.nil)))) (fun w hw => hw))
                ·
                  replace H := HB
                  clear HB
                  obtain ⟨y_15_20, rfl⟩ : ∃ x, x = s := ⟨_, rfl⟩
                  try dsimp only at H
                  change T 132 _ _ _
                  refine t_seq ?_
                  refine t_region (fun ops hops => ?_)
                  clear hops
                  refine z_val (v := U64 x35.1) (val_move rfl rfl) rfl rfl rfl (fun _ _ _ => trivial) ?_
                  refine z_val (v := U64 x47.1) (val_move rfl rfl) rfl rfl rfl (fun _ _ _ => trivial) ?_
                  obtain ⟨x93, hx93, H⟩ := Let_elim H
                  refine z_val (v := U64 x93) (by subst hx93; exact val_maxU (f := U64) (kk := .u64) rfl rfl (fun _ => rfl) rfl) rfl rfl rfl (fun _ _ _ => trivial) ?_
                  clear hx93
                  obtain ⟨x94, hx94, H⟩ := Let_elim H
                  refine z_val (v := U64 x94) (by subst hx94; exact val_bin rfl rfl rfl rfl (u64_quo_r _ _ _ (by decide) (by decide))) rfl rfl rfl (fun _ _ _ => trivial) ?_
                  clear hx94
                  refine z_val (v := U64 x94) (val_assign rfl rfl) rfl rfl rfl (fun _ _ _ => trivial) ?_
                  refine z_nil ?_
                  refine t_seq ?_
                  refine t_seq ?_
                  refine t_region (fun ops hops => ?_)
                  clear hops
                  refine z_val (v := U64 x35.1) (val_move rfl rfl) rfl rfl rfl (fun _ _ _ => trivial) ?_
                  refine z_val (v := U64 x47.1) (val_move rfl rfl) rfl rfl rfl (fun _ _ _ => trivial) ?_
                  obtain ⟨x97, hx97, H⟩ := Let_elim H
                  refine z_val (v := U64 x97) (by subst hx97; exact val_maxU (f := U64) (kk := .u64) rfl rfl (fun _ => rfl) rfl) rfl rfl rfl (fun _ _ _ => trivial) ?_
                  clear hx97
                  obtain ⟨x98, hx98, H⟩ := Let_elim H
                  refine z_val (v := U64 x98) (by subst hx98; exact val_bin rfl rfl rfl rfl (u64_rem_r _ _ _ (by decide) (by decide))) rfl rfl rfl (fun _ _ _ => trivial) ?_
                  clear hx98
                  obtain ⟨x99, hx99, H⟩ := Let_elim H
                  refine z_val (v := .bool x99) (by subst hx99; exact val_bin rfl rfl rfl rfl (u64_gtr_r _ 0 x98)) rfl rfl rfl (fun _ _ _ => trivial) ?_
                  clear hx99
                  refine z_nil ?_
                  refine t_bind H (fun (s : (BitVec 64)) (g : Unit) => [(12, .pointer (some ⟨g_15, 0, none⟩)), (13, U64 s)]) (fun (s : (BitVec 64)) (g : Unit) => Mm w [] h [.blk g_15 57 (cV U64 y_15_20) 4]) (fun (s : (BitVec 64)) (g : Unit) => True) (fun Gr K s he HJ => ?_) (fun s g HB hφ => ?_)
                  ·
                    clear H
                    cases x99
                    ·
                      have H := cond_f he
                      clear he
                      refine t_cond_false rfl ?_
                      refine t_skip ?_
                      obtain rfl := Option.some.inj H
                      exact t_reach ((K _ () HJ trivial).weak (fun a ha => ha.cons rfl (ha.cons rfl (ha.nil))) (fun w hw => hw))
                    ·
                      have H := cond_t he
                      clear he
                      refine t_cond_true rfl ?_
                      refine t_region (fun ops hops => ?_)
                      clear hops
                      refine z_val (v := U64 x94) (val_move rfl rfl) rfl rfl rfl (fun _ _ _ => trivial) ?_
                      obtain ⟨x101, hx101, H⟩ := Let_elim H
                      refine z_val (v := U64 x101) (by subst hx101; exact val_bin rfl rfl rfl rfl (u64_add_r _ _ _)) rfl rfl rfl (fun _ _ _ => trivial) ?_
                      clear hx101
                      refine z_val (v := U64 x101) (val_assign rfl rfl) rfl rfl rfl (fun _ _ _ => trivial) ?_
                      refine z_nil ?_
                      obtain rfl := Option.some.inj H
                      exact t_reach ((K _ () HJ trivial).weak (fun a ha => ha.cons rfl (ha.cons rfl (ha.nil))) (fun w hw => hw))
                  ·
                    replace H := HB
                    clear HB
                    obtain ⟨x13, rfl⟩ : ∃ x, x = s := ⟨_, rfl⟩
                    try dsimp only at H
                    change T 132 _ _ _
                    refine t_seq ?_
                    refine T.weak (S' := [(12, .pointer (some ⟨g_15, 0, none⟩)), (13, U64 x13)]) (M' := Mm w [] h [.blk g_15 57 (cV U64 y_15_20) 4]) ?_ (fun a ha => ha.cons rfl (ha.cons rfl (ha.nil))) (fun w hw => hw)
                    obtain ⟨x104, hx_22, H⟩ := Option.bind_eq_some_iff.1 H
                    obtain ⟨x106, hx_23, H⟩ := Option.bind_eq_some_iff.1 H
                    obtain ⟨x107, hx_24, H⟩ := Option.bind_eq_some_iff.1 H
                    obtain ⟨x109, hx_25, H⟩ := Option.bind_eq_some_iff.1 H
                    refine t_free [⟨0, 103, [], fun _ => True, fun γ => U64 x13, fun γ => none⟩, ⟨1, 104, [0], fun _ => True, fun γ => .agg (cV U64 x104).toArray, fun γ => none⟩, ⟨2, 105, [], fun _ => True, fun γ => U64 x13, fun γ => none⟩, ⟨3, 106, [2], fun _ => True, fun γ => .agg (cV U64 x106).toArray, fun γ => none⟩, ⟨4, 107, [0, 1, 2, 3], fun _ => True, fun γ => .agg (cV U64 x107).toArray, fun γ => none⟩, ⟨5, 108, [], fun _ => True, fun γ => .agg (cV U64 y_15_20).toArray, fun γ => none⟩, ⟨6, 109, [0, 1, 2, 3, 4, 5], fun _ => True, fun γ => .tuple #[.agg (cV U64 x109.1).toArray, .agg (cV U64 x109.2).toArray], fun γ => none⟩, ⟨7, 102, [0, 1, 2, 3, 4, 5, 6], fun _ => True, fun γ => .tuple #[.agg (cV U64 x109.1).toArray, .agg (cV U64 x109.2).toArray], fun γ => none⟩, ⟨8, 110, [0, 1, 2, 3, 4, 5, 6, 7], fun _ => True, fun γ => .agg (cV U64 x109.1).toArray, fun γ => none⟩, ⟨9, 111, [0, 1, 2, 3, 4, 5, 6, 7], fun _ => True, fun γ => .agg (cV U64 x109.2).toArray, fun γ => none⟩, ⟨10, 14, [], fun _ => True, fun γ => .pointer (some ⟨(γ 10).2, 0, none⟩), fun γ => some (.blk (γ 10).2 57 (cV U64 (Vec.rep 4 0#64)) 4)⟩, ⟨11, 15, [], fun _ => True, fun γ => .pointer (some ⟨(γ 11).2, 0, none⟩), fun γ => some (.blk (γ 11).2 57 (cV U64 (Vec.rep 4 0#64)) 4)⟩] [(9, [0, 1, 2, 3, 4, 5, 6, 7])] [12, 13] (by kernel_rfl) (by kernel_rfl) (And.intro ?_ (And.intro ?_ (And.intro ?_ (And.intro ?_ (And.intro ?_ (And.intro ?_ (And.intro ?_ (And.intro ?_ (And.intro ?_ (And.intro ?_ (And.intro ?_ (And.intro ?_ (trivial))))))))))))) (And.intro ?_ (trivial)) (fun γ hφ ops => ?_)
                    ·
                      intro γ hφ
                      show Makes _ 132 [(12, .pointer (some ⟨g_15, 0, none⟩)), (13, U64 x13)] (Mm w [] h [.blk g_15 57 (cV U64 y_15_20) 4]) _ (fun _ => True) (fun g => U64 x13) (fun g => none)
                      exact m_val (val_move rfl rfl)
                    ·
                      intro γ hφ
                      show Makes _ 132 [(103, U64 x13), (12, .pointer (some ⟨g_15, 0, none⟩)), (13, U64 x13)] (Mm w [] h [.blk g_15 57 (cV U64 y_15_20) 4]) _ (fun _ => True) (fun g => .agg (cV U64 x104).toArray) (fun g => none)
                      exact m_made rfl Try.func31 nm31 bs31 rfl (fun w hw => word_Of.calls x13 x104 hx_22 w)
                    ·
                      intro γ hφ
                      show Makes _ 132 [(12, .pointer (some ⟨g_15, 0, none⟩)), (13, U64 x13)] (Mm w [] h [.blk g_15 57 (cV U64 y_15_20) 4]) _ (fun _ => True) (fun g => U64 x13) (fun g => none)
                      exact m_val (val_move rfl rfl)
                    ·
                      intro γ hφ
                      show Makes _ 132 [(105, U64 x13), (12, .pointer (some ⟨g_15, 0, none⟩)), (13, U64 x13)] (Mm w [] h [.blk g_15 57 (cV U64 y_15_20) 4]) _ (fun _ => True) (fun g => .agg (cV U64 x106).toArray) (fun g => none)
                      exact m_made rfl Try.func31 nm31 bs31 rfl (fun w hw => word_Of.calls x13 x106 hx_23 w)
                    ·
                      intro γ hφ
                      show Makes _ 132 [(103, U64 x13), (104, .agg (cV U64 x104).toArray), (105, U64 x13), (106, .agg (cV U64 x106).toArray), (12, .pointer (some ⟨g_15, 0, none⟩)), (13, U64 x13)] (Mm w [] h [.blk g_15 57 (cV U64 y_15_20) 4]) _ (fun _ => True) (fun g => .agg (cV U64 x107).toArray) (fun g => none)
                      exact m_made rfl Try.func36 nm36 bs36 rfl (fun w hw => word_Mul.calls x104 x106 x107 hx_24 w)
                    ·
                      intro γ hφ
                      show Makes _ 132 [(12, .pointer (some ⟨g_15, 0, none⟩)), (13, U64 x13)] (Mm w [] h [.blk g_15 57 (cV U64 y_15_20) 4]) _ (fun _ => True) (fun g => .agg (cV U64 y_15_20).toArray) (fun g => none)
                      exact m_val (val_loadR (off := 0) (cs := cV U64 y_15_20) rfl rfl Try.underlying57 rfl (sz57.trans (congrArg some (cV_len _).symm)) (fun _ hw => hw.whole (j := 0) rfl))
                    ·
                      intro γ hφ
                      show Makes _ 132 [(103, U64 x13), (104, .agg (cV U64 x104).toArray), (105, U64 x13), (106, .agg (cV U64 x106).toArray), (107, .agg (cV U64 x107).toArray), (108, .agg (cV U64 y_15_20).toArray), (12, .pointer (some ⟨g_15, 0, none⟩)), (13, U64 x13)] (Mm w [] h [.blk g_15 57 (cV U64 y_15_20) 4]) _ (fun _ => True) (fun g => .tuple #[.agg (cV U64 x109.1).toArray, .agg (cV U64 x109.2).toArray]) (fun g => none)
                      exact m_made rfl Try.func37 nm37 bs37 rfl (fun w hw => wide_Product.calls x107 y_15_20 x109 hx_25 w)
                    ·
                      intro γ hφ
                      show Makes _ 132 [(103, U64 x13), (104, .agg (cV U64 x104).toArray), (105, U64 x13), (106, .agg (cV U64 x106).toArray), (107, .agg (cV U64 x107).toArray), (108, .agg (cV U64 y_15_20).toArray), (109, .tuple #[.agg (cV U64 x109.1).toArray, .agg (cV U64 x109.2).toArray]), (12, .pointer (some ⟨g_15, 0, none⟩)), (13, U64 x13)] (Mm w [] h [.blk g_15 57 (cV U64 y_15_20) 4]) _ (fun _ => True) (fun g => .tuple #[.agg (cV U64 x109.1).toArray, .agg (cV U64 x109.2).toArray]) (fun g => none)
                      exact m_val (val_move rfl rfl)
                    ·
                      intro γ hφ
                      show Makes _ 132 [(103, U64 x13), (104, .agg (cV U64 x104).toArray), (105, U64 x13), (106, .agg (cV U64 x106).toArray), (107, .agg (cV U64 x107).toArray), (108, .agg (cV U64 y_15_20).toArray), (109, .tuple #[.agg (cV U64 x109.1).toArray, .agg (cV U64 x109.2).toArray]), (102, .tuple #[.agg (cV U64 x109.1).toArray, .agg (cV U64 x109.2).toArray]), (12, .pointer (some ⟨g_15, 0, none⟩)), (13, U64 x13)] (Mm w [] h [.blk g_15 57 (cV U64 y_15_20) 4]) _ (fun _ => True) (fun g => .agg (cV U64 x109.1).toArray) (fun g => none)
                      exact m_val (val_extract rfl rfl rfl)
                    ·
                      intro γ hφ
                      show Makes _ 132 [(103, U64 x13), (104, .agg (cV U64 x104).toArray), (105, U64 x13), (106, .agg (cV U64 x106).toArray), (107, .agg (cV U64 x107).toArray), (108, .agg (cV U64 y_15_20).toArray), (109, .tuple #[.agg (cV U64 x109.1).toArray, .agg (cV U64 x109.2).toArray]), (102, .tuple #[.agg (cV U64 x109.1).toArray, .agg (cV U64 x109.2).toArray]), (12, .pointer (some ⟨g_15, 0, none⟩)), (13, U64 x13)] (Mm w [] h [.blk g_15 57 (cV U64 y_15_20) 4]) _ (fun _ => True) (fun g => .agg (cV U64 x109.2).toArray) (fun g => none)
                      exact m_val (val_extract rfl rfl rfl)
                    ·
                      intro γ hφ
                      show Makes _ 132 [(12, .pointer (some ⟨g_15, 0, none⟩)), (13, U64 x13)] (Mm w [] h [.blk g_15 57 (cV U64 y_15_20) 4]) _ (fun _ => True) (fun g => .pointer (some ⟨g.2, 0, none⟩)) (fun g => some (.blk g.2 57 (cV U64 (Vec.rep 4 0#64)) 4))
                      exact m_alloc (cs := cV U64 (Vec.rep 4 0#64)) (room := 4) rfl ze57 rfl (cV_len _)
                    ·
                      intro γ hφ
                      show Makes _ 132 [(12, .pointer (some ⟨g_15, 0, none⟩)), (13, U64 x13)] (Mm w [] h [.blk g_15 57 (cV U64 y_15_20) 4]) _ (fun _ => True) (fun g => .pointer (some ⟨g.2, 0, none⟩)) (fun g => some (.blk g.2 57 (cV U64 (Vec.rep 4 0#64)) 4))
                      exact m_alloc (cs := cV U64 (Vec.rep 4 0#64)) (room := 4) rfl ze57 rfl (cV_len _)
                    ·
                      intro γ hφ
                      exact ⟨_, (show Val _ 132 [(103, U64 x13), (104, .agg (cV U64 x104).toArray), (105, U64 x13), (106, .agg (cV U64 x106).toArray), (107, .agg (cV U64 x107).toArray), (108, .agg (cV U64 y_15_20).toArray), (109, .tuple #[.agg (cV U64 x109.1).toArray, .agg (cV U64 x109.2).toArray]), (102, .tuple #[.agg (cV U64 x109.1).toArray, .agg (cV U64 x109.2).toArray]), (12, .pointer (some ⟨g_15, 0, none⟩)), (13, U64 x13)] (fun _ => True) _ (.agg (cV U64 x109.2).toArray) from val_extract rfl rfl rfl)⟩
                    change T 132 [(103, U64 x13), (104, .agg (cV U64 x104).toArray), (105, U64 x13), (106, .agg (cV U64 x106).toArray), (107, .agg (cV U64 x107).toArray), (108, .agg (cV U64 y_15_20).toArray), (109, .tuple #[.agg (cV U64 x109.1).toArray, .agg (cV U64 x109.2).toArray]), (102, .tuple #[.agg (cV U64 x109.1).toArray, .agg (cV U64 x109.2).toArray]), (110, .agg (cV U64 x109.1).toArray), (111, .agg (cV U64 x109.2).toArray), (14, .pointer (some ⟨(γ 10).2, 0, none⟩)), (15, .pointer (some ⟨(γ 11).2, 0, none⟩)), (12, .pointer (some ⟨g_15, 0, none⟩)), (13, U64 x13)] (Mm w [] h [.blk (γ 10).2 57 (cV U64 (Vec.rep 4 0#64)) 4, .blk (γ 11).2 57 (cV U64 (Vec.rep 4 0#64)) 4, .blk g_15 57 (cV U64 y_15_20) 4]) _
                    generalize (γ 10).2 = g_28
                    generalize (γ 11).2 = g_29
                    refine z_storeA (j := 0) (cs' := cV U64 x109.1) (L' := [.blk g_28 57 (cV U64 x109.1) 4, .blk g_29 57 (cV U64 (Vec.rep 4 0#64)) 4, .blk g_15 57 (cV U64 y_15_20) 4]) rfl rfl rfl (cV_one (fun _ => rfl) _) sz57 rfl (cV_len _) rfl rfl rfl (fun _ _ _ => trivial) ?_
                    refine z_storeA (j := 1) (cs' := cV U64 x109.2) (L' := [.blk g_28 57 (cV U64 x109.1) 4, .blk g_29 57 (cV U64 x109.2) 4, .blk g_15 57 (cV U64 y_15_20) 4]) rfl rfl rfl (cV_one (fun _ => rfl) _) sz57 rfl (cV_len _) rfl rfl rfl (fun _ _ _ => trivial) ?_
                    refine z_nil ?_
                    refine t_seq ?_
                    refine T.weak (S' := [(12, .pointer (some ⟨g_15, 0, none⟩)), (13, U64 x13), (14, .pointer (some ⟨g_28, 0, none⟩)), (15, .pointer (some ⟨g_29, 0, none⟩)), (102, .tuple #[.agg (cV U64 x109.1).toArray, .agg (cV U64 x109.2).toArray]), (103, U64 x13), (104, .agg (cV U64 x104).toArray), (105, U64 x13), (106, .agg (cV U64 x106).toArray), (107, .agg (cV U64 x107).toArray), (108, .agg (cV U64 y_15_20).toArray), (109, .tuple #[.agg (cV U64 x109.1).toArray, .agg (cV U64 x109.2).toArray]), (110, .agg (cV U64 x109.1).toArray), (111, .agg (cV U64 x109.2).toArray)]) (M' := Mm w [] h [.blk g_28 57 (cV U64 x109.1) 4, .blk g_29 57 (cV U64 x109.2) 4, .blk g_15 57 (cV U64 y_15_20) 4]) ?_ (fun a ha => ha.cons rfl (ha.cons rfl (ha.cons rfl (ha.cons rfl (ha.cons rfl (ha.cons rfl (ha.cons rfl (ha.cons rfl (ha.cons rfl (ha.cons rfl (ha.cons rfl (ha.cons rfl (ha.cons rfl (ha.cons rfl (ha.nil))))))))))))))) (fun w hw => hw)
                    obtain ⟨x114, hx_30, H⟩ := Option.bind_eq_some_iff.1 H
                    obtain ⟨x115, hx_31, H⟩ := Option.bind_eq_some_iff.1 H
                    refine t_free [⟨0, 113, [], fun _ => True, fun γ => .agg (cV U64 x109.1).toArray, fun γ => none⟩, ⟨1, 114, [], fun _ => True, fun γ => .agg (cV U64 x114).toArray, fun γ => none⟩, ⟨2, 115, [0, 1], fun _ => True, fun γ => .tuple #[.agg (cV U64 x115.1).toArray, .agg (cV U64 x115.2).toArray], fun γ => none⟩, ⟨3, 112, [0, 1, 2], fun _ => True, fun γ => .tuple #[.agg (cV U64 x115.1).toArray, .agg (cV U64 x115.2).toArray], fun γ => none⟩, ⟨4, 116, [0, 1, 2, 3], fun _ => True, fun γ => .agg (cV U64 x115.1).toArray, fun γ => none⟩, ⟨5, 117, [0, 1, 2, 3], fun _ => True, fun γ => .agg (cV U64 x115.2).toArray, fun γ => none⟩, ⟨6, 16, [], fun _ => True, fun γ => .pointer (some ⟨(γ 6).2, 0, none⟩), fun γ => some (.blk (γ 6).2 57 (cV U64 (Vec.rep 4 0#64)) 4)⟩, ⟨7, 17, [], fun _ => True, fun γ => .pointer (some ⟨(γ 7).2, 0, none⟩), fun γ => some (.blk (γ 7).2 57 (cV U64 (Vec.rep 4 0#64)) 4)⟩] [(5, [0, 1, 2, 3])] [8, 9] (by kernel_rfl) (by kernel_rfl) (And.intro ?_ (And.intro ?_ (And.intro ?_ (And.intro ?_ (And.intro ?_ (And.intro ?_ (And.intro ?_ (And.intro ?_ (trivial))))))))) (And.intro ?_ (trivial)) (fun γ hφ ops => ?_)
                    ·
                      intro γ hφ
                      show Makes _ 132 [(12, .pointer (some ⟨g_15, 0, none⟩)), (13, U64 x13), (14, .pointer (some ⟨g_28, 0, none⟩)), (15, .pointer (some ⟨g_29, 0, none⟩)), (102, .tuple #[.agg (cV U64 x109.1).toArray, .agg (cV U64 x109.2).toArray]), (103, U64 x13), (104, .agg (cV U64 x104).toArray), (105, U64 x13), (106, .agg (cV U64 x106).toArray), (107, .agg (cV U64 x107).toArray), (108, .agg (cV U64 y_15_20).toArray), (109, .tuple #[.agg (cV U64 x109.1).toArray, .agg (cV U64 x109.2).toArray]), (110, .agg (cV U64 x109.1).toArray), (111, .agg (cV U64 x109.2).toArray)] (Mm w [] h [.blk g_28 57 (cV U64 x109.1) 4, .blk g_29 57 (cV U64 x109.2) 4, .blk g_15 57 (cV U64 y_15_20) 4]) _ (fun _ => True) (fun g => .agg (cV U64 x109.1).toArray) (fun g => none)
                      exact m_val (val_loadR (off := 0) (cs := cV U64 x109.1) rfl rfl Try.underlying57 rfl (sz57.trans (congrArg some (cV_len _).symm)) (fun _ hw => hw.whole (j := 0) rfl))
                    ·
                      intro γ hφ
                      show Makes _ 132 [(12, .pointer (some ⟨g_15, 0, none⟩)), (13, U64 x13), (14, .pointer (some ⟨g_28, 0, none⟩)), (15, .pointer (some ⟨g_29, 0, none⟩)), (102, .tuple #[.agg (cV U64 x109.1).toArray, .agg (cV U64 x109.2).toArray]), (103, U64 x13), (104, .agg (cV U64 x104).toArray), (105, U64 x13), (106, .agg (cV U64 x106).toArray), (107, .agg (cV U64 x107).toArray), (108, .agg (cV U64 y_15_20).toArray), (109, .tuple #[.agg (cV U64 x109.1).toArray, .agg (cV U64 x109.2).toArray]), (110, .agg (cV U64 x109.1).toArray), (111, .agg (cV U64 x109.2).toArray)] (Mm w [] h [.blk g_28 57 (cV U64 x109.1) 4, .blk g_29 57 (cV U64 x109.2) 4, .blk g_15 57 (cV U64 y_15_20) 4]) _ (fun _ => True) (fun g => .agg (cV U64 x114).toArray) (fun g => none)
                      exact m_made rfl Try.func31 nm31 bs31 rfl (fun w hw => word_Of.calls 3#64 x114 hx_30 w)
                    ·
                      intro γ hφ
                      show Makes _ 132 [(113, .agg (cV U64 x109.1).toArray), (114, .agg (cV U64 x114).toArray), (12, .pointer (some ⟨g_15, 0, none⟩)), (13, U64 x13), (14, .pointer (some ⟨g_28, 0, none⟩)), (15, .pointer (some ⟨g_29, 0, none⟩)), (102, .tuple #[.agg (cV U64 x109.1).toArray, .agg (cV U64 x109.2).toArray]), (103, U64 x13), (104, .agg (cV U64 x104).toArray), (105, U64 x13), (106, .agg (cV U64 x106).toArray), (107, .agg (cV U64 x107).toArray), (108, .agg (cV U64 y_15_20).toArray), (109, .tuple #[.agg (cV U64 x109.1).toArray, .agg (cV U64 x109.2).toArray]), (110, .agg (cV U64 x109.1).toArray), (111, .agg (cV U64 x109.2).toArray)] (Mm w [] h [.blk g_28 57 (cV U64 x109.1) 4, .blk g_29 57 (cV U64 x109.2) 4, .blk g_15 57 (cV U64 y_15_20) 4]) _ (fun _ => True) (fun g => .tuple #[.agg (cV U64 x115.1).toArray, .agg (cV U64 x115.2).toArray]) (fun g => none)
                      exact m_made rfl Try.func38 nm38 bs38 rfl (fun w hw => wide_Div.calls x109.1 x114 x115 hx_31 w)
                    ·
                      intro γ hφ
                      show Makes _ 132 [(113, .agg (cV U64 x109.1).toArray), (114, .agg (cV U64 x114).toArray), (115, .tuple #[.agg (cV U64 x115.1).toArray, .agg (cV U64 x115.2).toArray]), (12, .pointer (some ⟨g_15, 0, none⟩)), (13, U64 x13), (14, .pointer (some ⟨g_28, 0, none⟩)), (15, .pointer (some ⟨g_29, 0, none⟩)), (102, .tuple #[.agg (cV U64 x109.1).toArray, .agg (cV U64 x109.2).toArray]), (103, U64 x13), (104, .agg (cV U64 x104).toArray), (105, U64 x13), (106, .agg (cV U64 x106).toArray), (107, .agg (cV U64 x107).toArray), (108, .agg (cV U64 y_15_20).toArray), (109, .tuple #[.agg (cV U64 x109.1).toArray, .agg (cV U64 x109.2).toArray]), (110, .agg (cV U64 x109.1).toArray), (111, .agg (cV U64 x109.2).toArray)] (Mm w [] h [.blk g_28 57 (cV U64 x109.1) 4, .blk g_29 57 (cV U64 x109.2) 4, .blk g_15 57 (cV U64 y_15_20) 4]) _ (fun _ => True) (fun g => .tuple #[.agg (cV U64 x115.1).toArray, .agg (cV U64 x115.2).toArray]) (fun g => none)
                      exact m_val (val_move rfl rfl)
                    ·
                      intro γ hφ
                      show Makes _ 132 [(113, .agg (cV U64 x109.1).toArray), (114, .agg (cV U64 x114).toArray), (115, .tuple #[.agg (cV U64 x115.1).toArray, .agg (cV U64 x115.2).toArray]), (112, .tuple #[.agg (cV U64 x115.1).toArray, .agg (cV U64 x115.2).toArray]), (12, .pointer (some ⟨g_15, 0, none⟩)), (13, U64 x13), (14, .pointer (some ⟨g_28, 0, none⟩)), (15, .pointer (some ⟨g_29, 0, none⟩)), (102, .tuple #[.agg (cV U64 x109.1).toArray, .agg (cV U64 x109.2).toArray]), (103, U64 x13), (104, .agg (cV U64 x104).toArray), (105, U64 x13), (106, .agg (cV U64 x106).toArray), (107, .agg (cV U64 x107).toArray), (108, .agg (cV U64 y_15_20).toArray), (109, .tuple #[.agg (cV U64 x109.1).toArray, .agg (cV U64 x109.2).toArray]), (110, .agg (cV U64 x109.1).toArray), (111, .agg (cV U64 x109.2).toArray)] (Mm w [] h [.blk g_28 57 (cV U64 x109.1) 4, .blk g_29 57 (cV U64 x109.2) 4, .blk g_15 57 (cV U64 y_15_20) 4]) _ (fun _ => True) (fun g => .agg (cV U64 x115.1).toArray) (fun g => none)
                      exact m_val (val_extract rfl rfl rfl)
                    ·
                      intro γ hφ
                      show Makes _ 132 [(113, .agg (cV U64 x109.1).toArray), (114, .agg (cV U64 x114).toArray), (115, .tuple #[.agg (cV U64 x115.1).toArray, .agg (cV U64 x115.2).toArray]), (112, .tuple #[.agg (cV U64 x115.1).toArray, .agg (cV U64 x115.2).toArray]), (12, .pointer (some ⟨g_15, 0, none⟩)), (13, U64 x13), (14, .pointer (some ⟨g_28, 0, none⟩)), (15, .pointer (some ⟨g_29, 0, none⟩)), (102, .tuple #[.agg (cV U64 x109.1).toArray, .agg (cV U64 x109.2).toArray]), (103, U64 x13), (104, .agg (cV U64 x104).toArray), (105, U64 x13), (106, .agg (cV U64 x106).toArray), (107, .agg (cV U64 x107).toArray), (108, .agg (cV U64 y_15_20).toArray), (109, .tuple #[.agg (cV U64 x109.1).toArray, .agg (cV U64 x109.2).toArray]), (110, .agg (cV U64 x109.1).toArray), (111, .agg (cV U64 x109.2).toArray)] (Mm w [] h [.blk g_28 57 (cV U64 x109.1) 4, .blk g_29 57 (cV U64 x109.2) 4, .blk g_15 57 (cV U64 y_15_20) 4]) _ (fun _ => True) (fun g => .agg (cV U64 x115.2).toArray) (fun g => none)
                      exact m_val (val_extract rfl rfl rfl)
                    ·
                      intro γ hφ
                      show Makes _ 132 [(12, .pointer (some ⟨g_15, 0, none⟩)), (13, U64 x13), (14, .pointer (some ⟨g_28, 0, none⟩)), (15, .pointer (some ⟨g_29, 0, none⟩)), (102, .tuple #[.agg (cV U64 x109.1).toArray, .agg (cV U64 x109.2).toArray]), (103, U64 x13), (104, .agg (cV U64 x104).toArray), (105, U64 x13), (106, .agg (cV U64 x106).toArray), (107, .agg (cV U64 x107).toArray), (108, .agg (cV U64 y_15_20).toArray), (109, .tuple #[.agg (cV U64 x109.1).toArray, .agg (cV U64 x109.2).toArray]), (110, .agg (cV U64 x109.1).toArray), (111, .agg (cV U64 x109.2).toArray)] (Mm w [] h [.blk g_28 57 (cV U64 x109.1) 4, .blk g_29 57 (cV U64 x109.2) 4, .blk g_15 57 (cV U64 y_15_20) 4]) _ (fun _ => True) (fun g => .pointer (some ⟨g.2, 0, none⟩)) (fun g => some (.blk g.2 57 (cV U64 (Vec.rep 4 0#64)) 4))
                      exact m_alloc (cs := cV U64 (Vec.rep 4 0#64)) (room := 4) rfl ze57 rfl (cV_len _)
                    ·
                      intro γ hφ
                      show Makes _ 132 [(12, .pointer (some ⟨g_15, 0, none⟩)), (13, U64 x13), (14, .pointer (some ⟨g_28, 0, none⟩)), (15, .pointer (some ⟨g_29, 0, none⟩)), (102, .tuple #[.agg (cV U64 x109.1).toArray, .agg (cV U64 x109.2).toArray]), (103, U64 x13), (104, .agg (cV U64 x104).toArray), (105, U64 x13), (106, .agg (cV U64 x106).toArray), (107, .agg (cV U64 x107).toArray), (108, .agg (cV U64 y_15_20).toArray), (109, .tuple #[.agg (cV U64 x109.1).toArray, .agg (cV U64 x109.2).toArray]), (110, .agg (cV U64 x109.1).toArray), (111, .agg (cV U64 x109.2).toArray)] (Mm w [] h [.blk g_28 57 (cV U64 x109.1) 4, .blk g_29 57 (cV U64 x109.2) 4, .blk g_15 57 (cV U64 y_15_20) 4]) _ (fun _ => True) (fun g => .pointer (some ⟨g.2, 0, none⟩)) (fun g => some (.blk g.2 57 (cV U64 (Vec.rep 4 0#64)) 4))
                      exact m_alloc (cs := cV U64 (Vec.rep 4 0#64)) (room := 4) rfl ze57 rfl (cV_len _)
                    ·
                      intro γ hφ
                      exact ⟨_, (show Val _ 132 [(113, .agg (cV U64 x109.1).toArray), (114, .agg (cV U64 x114).toArray), (115, .tuple #[.agg (cV U64 x115.1).toArray, .agg (cV U64 x115.2).toArray]), (112, .tuple #[.agg (cV U64 x115.1).toArray, .agg (cV U64 x115.2).toArray]), (12, .pointer (some ⟨g_15, 0, none⟩)), (13, U64 x13), (14, .pointer (some ⟨g_28, 0, none⟩)), (15, .pointer (some ⟨g_29, 0, none⟩)), (102, .tuple #[.agg (cV U64 x109.1).toArray, .agg (cV U64 x109.2).toArray]), (103, U64 x13), (104, .agg (cV U64 x104).toArray), (105, U64 x13), (106, .agg (cV U64 x106).toArray), (107, .agg (cV U64 x107).toArray), (108, .agg (cV U64 y_15_20).toArray), (109, .tuple #[.agg (cV U64 x109.1).toArray, .agg (cV U64 x109.2).toArray]), (110, .agg (cV U64 x109.1).toArray), (111, .agg (cV U64 x109.2).toArray)] (fun _ => True) _ (.agg (cV U64 x115.2).toArray) from val_extract rfl rfl rfl)⟩
                    change T 132 [(113, .agg (cV U64 x109.1).toArray), (114, .agg (cV U64 x114).toArray), (115, .tuple #[.agg (cV U64 x115.1).toArray, .agg (cV U64 x115.2).toArray]), (112, .tuple #[.agg (cV U64 x115.1).toArray, .agg (cV U64 x115.2).toArray]), (116, .agg (cV U64 x115.1).toArray), (117, .agg (cV U64 x115.2).toArray), (16, .pointer (some ⟨(γ 6).2, 0, none⟩)), (17, .pointer (some ⟨(γ 7).2, 0, none⟩)), (12, .pointer (some ⟨g_15, 0, none⟩)), (13, U64 x13), (14, .pointer (some ⟨g_28, 0, none⟩)), (15, .pointer (some ⟨g_29, 0, none⟩)), (102, .tuple #[.agg (cV U64 x109.1).toArray, .agg (cV U64 x109.2).toArray]), (103, U64 x13), (104, .agg (cV U64 x104).toArray), (105, U64 x13), (106, .agg (cV U64 x106).toArray), (107, .agg (cV U64 x107).toArray), (108, .agg (cV U64 y_15_20).toArray), (109, .tuple #[.agg (cV U64 x109.1).toArray, .agg (cV U64 x109.2).toArray]), (110, .agg (cV U64 x109.1).toArray), (111, .agg (cV U64 x109.2).toArray)] (Mm w [] h [.blk (γ 6).2 57 (cV U64 (Vec.rep 4 0#64)) 4, .blk (γ 7).2 57 (cV U64 (Vec.rep 4 0#64)) 4, .blk g_28 57 (cV U64 x109.1) 4, .blk g_29 57 (cV U64 x109.2) 4, .blk g_15 57 (cV U64 y_15_20) 4]) _
                    generalize (γ 6).2 = g_34
                    generalize (γ 7).2 = g_35
                    refine z_storeA (j := 0) (cs' := cV U64 x115.1) (L' := [.blk g_34 57 (cV U64 x115.1) 4, .blk g_35 57 (cV U64 (Vec.rep 4 0#64)) 4, .blk g_28 57 (cV U64 x109.1) 4, .blk g_29 57 (cV U64 x109.2) 4, .blk g_15 57 (cV U64 y_15_20) 4]) rfl rfl rfl (cV_one (fun _ => rfl) _) sz57 rfl (cV_len _) rfl rfl rfl (fun _ _ _ => trivial) ?_
                    refine z_storeA (j := 1) (cs' := cV U64 x115.2) (L' := [.blk g_34 57 (cV U64 x115.1) 4, .blk g_35 57 (cV U64 x115.2) 4, .blk g_28 57 (cV U64 x109.1) 4, .blk g_29 57 (cV U64 x109.2) 4, .blk g_15 57 (cV U64 y_15_20) 4]) rfl rfl rfl (cV_one (fun _ => rfl) _) sz57 rfl (cV_len _) rfl rfl rfl (fun _ _ _ => trivial) ?_
                    refine z_nil ?_
                    refine t_seq ?_
                    refine t_region (fun ops hops => ?_)
                    clear hops
                    refine z_val (v := .agg (cV U64 x115.1).toArray) (val_loadR (off := 0) (cs := cV U64 x115.1) rfl rfl Try.underlying57 rfl (sz57.trans (congrArg some (cV_len _).symm)) (fun _ hw => hw.whole (j := 0) rfl)) rfl rfl rfl (fun _ _ _ => trivial) ?_
                    obtain ⟨x120, hx_36, H⟩ := Option.bind_eq_some_iff.1 H
                    refine z_made (v := .tuple #[U64 x120.1, .bool x120.2]) rfl Try.func30 nm30 bs30 rfl (fun w hw => word_Small.calls x115.1 x120 hx_36 w) rfl rfl rfl (fun _ _ _ => trivial) ?_
                    clear hx_36
                    refine z_val (v := .tuple #[U64 x120.1, .bool x120.2]) (val_move rfl rfl) rfl rfl rfl (fun _ _ _ => trivial) ?_
                    refine z_val (v := U64 x120.1) (val_extract rfl rfl rfl) rfl rfl rfl (fun _ _ _ => trivial) ?_
                    refine z_val (v := .bool x120.2) (val_extract rfl rfl rfl) rfl rfl rfl (fun _ _ _ => trivial) ?_
                    refine z_val (v := U64 x120.1) (val_assign rfl rfl) rfl rfl rfl (fun _ _ _ => trivial) ?_
                    refine z_val (v := .bool x120.2) (val_assign rfl rfl) rfl rfl rfl (fun _ _ _ => trivial) ?_
                    refine z_nil ?_
                    refine t_seq ?_
                    refine t_seq ?_
                    refine t_region (fun ops hops => ?_)
                    refine z_val (v := .bool x120.2) (val_move rfl rfl) rfl rfl rfl (fun _ _ _ => trivial) ?_
                    obtain ⟨x124, hx124, H⟩ := Let_elim H
                    refine z_val (v := .bool x124) (by subst hx124; exact val_un rfl rfl (bool_not _)) rfl rfl rfl (fun _ _ _ => trivial) ?_
                    clear hx124
                    refine z_val (v := .bool x124) (val_move rfl rfl) rfl rfl rfl (fun _ _ _ => trivial) ?_
                    refine z_bind H 4 (fun (s : Bool) (_ : Unit) => [(18, U64 x120.1), (129, .bool s)]) (fun _ _ => Mm w [] h [.blk g_34 57 (cV U64 x115.1) 4, .blk g_35 57 (cV U64 x115.2) 4, .blk g_28 57 (cV U64 x109.1) 4, .blk g_29 57 (cV U64 x109.2) 4, .blk g_15 57 (cV U64 y_15_20) 4]) (fun _ _ => True) (fun Gr K s he HJ => ?_) (fun s g HB _ => ?_)
                    ·
                      clear H
                      cases x124
                      ·
                        have H := cond_f he
                        clear he
                        refine z_val (v := .agg (cV U64 x109.2).toArray) (val_loadR (off := 0) (cs := cV U64 x109.2) rfl rfl Try.underlying57 rfl (sz57.trans (congrArg some (cV_len _).symm)) (fun _ hw => hw.whole (j := 3) rfl)) rfl rfl (by rw [hops]; rfl) (fun _ _ _ => trivial) ?_
                        obtain ⟨x127, hx127, H⟩ := Let_elim H
                        refine z_val (v := .agg (cV U64 x127).toArray) (by subst hx127; exact val_build (vs := []) rfl rfl (fun w => by kernel_rfl)) rfl rfl (by rw [hops]; rfl) (fun _ _ _ => trivial) ?_
                        clear hx127
                        obtain ⟨x128, hx128, H⟩ := Let_elim H
                        refine z_val (v := .bool x128) (by subst hx128; exact val_bina rfl rfl rfl eg57 (fun w => vec_neq U64_inj (P := Try.prog) Try.underlying57 pk38 Try.underlying38 ce38 w _ _)) rfl rfl (by rw [hops]; rfl) (fun _ _ _ => trivial) ?_
                        clear hx128
                        refine z_val (v := .bool x128) (val_pick rfl rfl rfl) rfl rfl rfl (fun _ _ _ => trivial) ?_
                        obtain rfl := Option.some.inj H
                        exact z_nil ((K _ () HJ trivial).weak (fun a ha => ha.cons rfl (ha.cons rfl (ha.nil))) (fun w hw => hw))
                      ·
                        have H := cond_t he
                        clear he
                        refine z_skip rfl rfl (by rw [hops]; rfl) (fun _ _ _ => trivial) ?_
                        refine z_skip rfl rfl (by rw [hops]; rfl) (fun _ _ _ => trivial) ?_
                        refine z_skip rfl rfl (by rw [hops]; rfl) (fun _ _ _ => trivial) ?_
                        refine z_val (v := .bool true) (val_pick rfl rfl rfl) rfl rfl rfl (fun _ _ _ => trivial) ?_
                        obtain rfl := Option.some.inj H
                        exact z_nil ((K _ () HJ trivial).weak (fun a ha => ha.cons rfl (ha.cons rfl (ha.nil))) (fun w hw => hw))
                    ·
                      replace H := HB
                      clear HB
                      obtain ⟨x129, rfl⟩ : ∃ x, x = s := ⟨_, rfl⟩
                      change T 132 _ _ _
                      refine z_nil ?_
                      cases x129
                      ·
                        replace H := cond_f H
                        refine t_cond_false rfl ?_
                        refine t_skip ?_
                        refine t_seq ?_
                        refine t_region (fun ops hops => ?_)
                        clear hops
                        refine z_val (v := U64 x120.1) (val_move rfl rfl) rfl rfl rfl (fun _ _ _ => trivial) ?_
                        obtain ⟨x131, hx131, H⟩ := Let_elim H
                        refine z_val (v := U64 x131) (by subst hx131; exact val_maxU (f := U64) (kk := .u64) rfl rfl (fun _ => rfl) rfl) rfl rfl rfl (fun _ _ _ => trivial) ?_
                        clear hx131
                        refine z_val (v := U64 x131) (val_assign rfl rfl) rfl rfl rfl (fun _ _ _ => trivial) ?_
                        refine z_nil ?_
                        refine t_ret ?_
                        obtain rfl := Option.some.inj H
                        exact ret1 rfl (res_tmp rfl) (fun _ hw => ⟨rfl, hw.below⟩)
                      ·
                        replace H := cond_t H
                        refine t_cond_true rfl ?_
                        refine t_seq ?_
                        refine t_region (fun ops hops => ?_)
                        clear hops
                        refine z_val (v := .int .u64 18446744073709551615) (val_assign rfl rfl) rfl rfl rfl (fun _ _ _ => trivial) ?_
                        refine z_nil ?_
                        refine t_ret ?_
                        obtain rfl := Option.some.inj H
                        exact ret1 rfl (res_tmp rfl) (fun _ hw => ⟨rfl, hw.below⟩)
          ·
            replace H := cond_t H
            refine t_cond_true rfl ?_
            refine t_seq ?_
            refine t_region (fun ops hops => ?_)
            clear hops
            refine z_val (v := .int .u64 18446744073709551615) (val_assign rfl rfl) rfl rfl rfl (fun _ _ _ => trivial) ?_
            refine z_nil ?_
            refine t_ret ?_
            obtain rfl := Option.some.inj H
            exact ret1 rfl (res_tmp rfl) (fun _ hw => ⟨rfl, hw.below⟩)
    ·
      replace H := cond_t H
      refine t_cond_true rfl ?_
      refine t_seq ?_
      refine t_region (fun ops hops => ?_)
      clear hops
      refine z_val (v := .int .u64 200) (val_assign rfl rfl) rfl rfl rfl (fun _ _ _ => trivial) ?_
      refine z_nil ?_
      refine t_ret ?_
      obtain rfl := Option.some.inj H
      exact ret1 rfl (res_tmp rfl) (fun _ hw => ⟨rfl, hw.below⟩)
def modexp_Run.b1 (x13 : Vec (Vec (BitVec 64) 4) 3) (y_2 : Vec (BitVec 64) 3) (x25 : Int) : Option (Ctl ((Vec (BitVec 64) 3) × (Int)) ((List (BitVec 8)) × (Int))) :=
  Let (decide (x25 < 3)) fun x26 => (bif x26 then Chk (0 ≤ x25 ∧ x25 < ((3 : Nat) : Int)) <| Let (x13.get x25.toNat) fun x28 => (word_Small x28).bind fun x31 => Let (!x31.2) fun x35 => (bif x35 then some true else Let (decide ((x31.1.toNat : Int) > 64)) fun x38 => some x38).bind (fun x39 => (bif x39 then some (.ret ([], 4)) else Chk (0 ≤ x25 ∧ x25 < ((3 : Nat) : Int)) <| Let (y_2.set x25.toNat x31.1) fun y_2_7 => Let (wi (x25 + 1)) fun x43 => some (.next (y_2_7, x43)))) else some (.brk (y_2, x25)))
def modexp_Run (a0 : List (BitVec 8)) : Option ((List (BitVec 8)) × (Int)) :=
  (modexp_lengths a0).bind fun x13 => Let (x13.get 0) fun x15 => Let (Vec.rep 4 0#64) fun x16 => Let (x15.l == x16.l) fun x17 => (bif x17 then Let (x13.get 2) fun x20 => Let (Vec.rep 4 0#64) fun x21 => Let (x20.l == x21.l) fun x22 => some x22 else some false).bind (fun x23 => (bif x23 then some ([], 0) else (wlx (σ := (Vec (BitVec 64) 3) × (Int)) (fun s => modexp_Run.b1 x13 s.1 s.2) ((Vec.rep 3 0#64), 0)).bind (Sum.elim (fun s => (fun y_2 x25 => Let (y_2.get 0) fun x46 => (modexp_part a0 96#64 x46).bind fun x47 => Let (y_2.get 0) fun x50 => Let (96#64 + x50) fun x51 => Let (y_2.get 1) fun x53 => (modexp_part a0 x51 x53).bind fun x54 => Let (y_2.get 0) fun x59 => Let (96#64 + x59) fun x60 => Let (y_2.get 1) fun x62 => Let (x60 + x62) fun x63 => Let (y_2.get 2) fun x65 => (modexp_part a0 x63 x65).bind fun x66 => (modexp_Pow x47 x54 x66).bind fun x67 => some (x67.1, x67.2)) s.1 s.2) (fun r => some r))))
set_option maxRecDepth 100000 in
theorem modexp_Run.calls  (a0 : List (BitVec 8)) (A0 : Option Addr) (c0 : Nat) (r : (List (BitVec 8)) × (Int)) (H : modexp_Run a0 = some r) (w : World) (hs0 : SlW w U8 A0 a0) (hc0 : a0.length ≤ c0)  :
    Calls Try.prog 19 #[.slice A0 a0.length c0] w fun e w' => ∃ A c, e = .returned (.tuple #[.slice A r.1.length c, .int .i64 r.2]) ∧ Below w.heap.size w w' ∧ OwnR w w' 5 U8 A c r.1 := by
  unfold modexp_Run at H
  replace hs0 := hs0.toH
  have hM := Mm.start w (snap w) (snap_ok w)
  generalize snap w = h at *
  refine t_enter (vs := [.slice A0 a0.length c0]) (n := 70) Try.func19 rfl rfl rfl hM ?_
  clear hM
  change T 70 _ _ _
  refine t_seq ?_
  refine t_region (fun ops hops => ?_)
  clear hops
  refine z_val (v := .slice none 0 0) (val_assign rfl rfl) rfl rfl rfl (fun _ _ _ => trivial) ?_
  refine z_val (v := .int .i64 0) (val_assign rfl rfl) rfl rfl rfl (fun _ _ _ => trivial) ?_
  refine z_nil ?_
  refine t_seq ?_
  refine t_region (fun ops hops => ?_)
  clear hops
  refine z_val (v := .slice A0 a0.length c0) (val_move rfl rfl) rfl rfl rfl (fun _ _ _ => trivial) ?_
  obtain ⟨x13, hx, H⟩ := Option.bind_eq_some_iff.1 H
  refine z_made (v := .agg (cVV U64 x13).toArray) rfl Try.func29 nm29 bs29 rfl (fun w hw => modexp_lengths.calls a0 A0 c0 x13 hx w (hs0.toW hw) hc0) rfl rfl rfl (fun _ _ _ => trivial) ?_
  clear hx
  refine z_alloc (cs := cVV U64 (Vec.rep 3 (Vec.rep 4 0#64))) (room := 12) rfl ze58 rfl (cVV_len (n := 3) (m := 4) _) rfl rfl rfl (fun _ _ _ _ => trivial) (fun g_1 => ?_)
  refine z_storeA (j := 0) (cs' := cVV U64 x13) (L' := [.blk g_1 58 (cVV U64 x13) 12]) rfl rfl rfl (cVV_one (fun _ => rfl) _) sz58 rfl (cVV_len (n := 3) (m := 4) _) rfl rfl rfl (fun _ _ _ => trivial) ?_
  refine z_nil ?_
  refine t_seq ?_
  refine t_seq ?_
  refine t_region (fun ops hops => ?_)
  refine z_val (v := .pointer (some ⟨g_1, 0 * 4, none⟩)) (val_idxA0 rfl rfl rfl Try.underlying58 sz57 (by decide) rfl) rfl rfl rfl (fun _ _ _ => trivial) ?_
  obtain ⟨x15, hx15, H⟩ := Let_elim H
  refine z_val (v := .agg (cV U64 x15).toArray) (by subst hx15; exact val_loadR (off := 0 * 4) (cs := cV U64 (x13.get 0)) rfl rfl Try.underlying57 rfl (sz57.trans (congrArg some (cV_len _).symm)) (fun _ hw => hw.range (j := 0) rfl _ _ (cVV_seg _ (by decide)))) rfl rfl rfl (fun _ _ _ => trivial) ?_
  clear hx15
  obtain ⟨x16, hx16, H⟩ := Let_elim H
  refine z_val (v := .agg (cV U64 x16).toArray) (by subst hx16; exact val_build (vs := []) rfl rfl (fun w => by kernel_rfl)) rfl rfl rfl (fun _ _ _ => trivial) ?_
  clear hx16
  obtain ⟨x17, hx17, H⟩ := Let_elim H
  refine z_val (v := .bool x17) (by subst hx17; exact val_bina rfl rfl rfl eg57 (fun w => vec_eql U64_inj (P := Try.prog) Try.underlying57 pk38 Try.underlying38 ce38 w _ _)) rfl rfl rfl (fun _ _ _ => trivial) ?_
  clear hx17
  refine z_val (v := .bool x17) (val_move rfl rfl) rfl rfl rfl (fun _ _ _ => trivial) ?_
  refine z_bind H 5 (fun (s : Bool) (_ : Unit) => [(0, .slice A0 a0.length c0), (4, .pointer (some ⟨g_1, 0, none⟩)), (23, .bool s)]) (fun _ _ => Mm w [] h [.blk g_1 58 (cVV U64 x13) 12]) (fun _ _ => True) (fun Gr K s he HJ => ?_) (fun s g HB _ => ?_)
  ·
    clear H
    cases x17
    ·
      have H := cond_f he
      clear he
      refine z_skip rfl rfl (by rw [hops]; rfl) (fun _ _ _ => trivial) ?_
      refine z_skip rfl rfl (by rw [hops]; rfl) (fun _ _ _ => trivial) ?_
      refine z_skip rfl rfl (by rw [hops]; rfl) (fun _ _ _ => trivial) ?_
      refine z_skip rfl rfl (by rw [hops]; rfl) (fun _ _ _ => trivial) ?_
      refine z_val (v := .bool false) (val_pick rfl rfl rfl) rfl rfl rfl (fun _ _ _ => trivial) ?_
      obtain rfl := Option.some.inj H
      exact z_nil ((K _ () HJ trivial).weak (fun a ha => ha.cons rfl (ha.cons rfl (ha.cons rfl (ha.nil)))) (fun w hw => hw))
    ·
      have H := cond_t he
      clear he
      refine z_val (v := .pointer (some ⟨g_1, 2 * 4, none⟩)) (val_idxA0 rfl rfl rfl Try.underlying58 sz57 (by decide) rfl) rfl rfl (by rw [hops]; rfl) (fun _ _ _ => trivial) ?_
      obtain ⟨x20, hx20, H⟩ := Let_elim H
      refine z_val (v := .agg (cV U64 x20).toArray) (by subst hx20; exact val_loadR (off := 2 * 4) (cs := cV U64 (x13.get 2)) rfl rfl Try.underlying57 rfl (sz57.trans (congrArg some (cV_len _).symm)) (fun _ hw => hw.range (j := 0) rfl _ _ (cVV_seg _ (by decide)))) rfl rfl (by rw [hops]; rfl) (fun _ _ _ => trivial) ?_
      clear hx20
      obtain ⟨x21, hx21, H⟩ := Let_elim H
      refine z_val (v := .agg (cV U64 x21).toArray) (by subst hx21; exact val_build (vs := []) rfl rfl (fun w => by kernel_rfl)) rfl rfl (by rw [hops]; rfl) (fun _ _ _ => trivial) ?_
      clear hx21
      obtain ⟨x22, hx22, H⟩ := Let_elim H
      refine z_val (v := .bool x22) (by subst hx22; exact val_bina rfl rfl rfl eg57 (fun w => vec_eql U64_inj (P := Try.prog) Try.underlying57 pk38 Try.underlying38 ce38 w _ _)) rfl rfl (by rw [hops]; rfl) (fun _ _ _ => trivial) ?_
      clear hx22
      refine z_val (v := .bool x22) (val_pick rfl rfl rfl) rfl rfl rfl (fun _ _ _ => trivial) ?_
      obtain rfl := Option.some.inj H
      exact z_nil ((K _ () HJ trivial).weak (fun a ha => ha.cons rfl (ha.cons rfl (ha.cons rfl (ha.nil)))) (fun w hw => hw))
  ·
    replace H := HB
    clear HB
    obtain ⟨x23, rfl⟩ : ∃ x, x = s := ⟨_, rfl⟩
    change T 70 _ _ _
    refine z_nil ?_
    cases x23
    ·
      replace H := cond_f H
      refine t_cond_false rfl ?_
      refine t_skip ?_
      refine t_seq ?_
      refine t_region (fun ops hops => ?_)
      clear hops
      refine z_alloc (cs := cV U64 (Vec.rep 3 0#64)) (room := 3) rfl ze69 rfl (cV_len _) rfl rfl rfl (fun _ _ _ _ => trivial) (fun g_2 => ?_)
      refine z_nil ?_
      refine t_seq ?_
      refine t_seq ?_
      refine t_region (fun ops hops => ?_)
      clear hops
      refine z_val (v := .agg (cVV U64 x13).toArray) (val_loadR (off := 0) (cs := cVV U64 x13) rfl rfl Try.underlying58 rfl (sz58.trans (congrArg some (cVV_len (n := 3) (m := 4) _).symm)) (fun _ hw => hw.whole (j := 1) rfl)) rfl rfl rfl (fun _ _ _ => trivial) ?_
      refine z_val (v := .int .i64 0) (val_move rfl rfl) rfl rfl rfl (fun _ _ _ => trivial) ?_
      refine z_nil ?_
      refine t_block ?_
      obtain ⟨z1, hz1, HK1⟩ := Option.bind_eq_some_iff.1 H
      clear H
      refine t_while hz1 (fun (s : (Vec (BitVec 64) 3) × (Int)) (g : Unit) => [(0, .slice A0 a0.length c0), (5, .pointer (some ⟨g_2, 0, none⟩)), (24, .agg (cVV U64 x13).toArray), (25, .int .i64 s.2)]) (fun (s : (Vec (BitVec 64) 3) × (Int)) (g : Unit) => [(0, .slice A0 a0.length c0), (5, .pointer (some ⟨g_2, 0, none⟩))]) (fun (s : (Vec (BitVec 64) 3) × (Int)) (g : Unit) => Mm w [] h [.blk g_2 69 (cV U64 s.1) 3]) (fun (s : (Vec (BitVec 64) 3) × (Int)) (g : Unit) => Mm w [] h [.blk g_2 69 (cV U64 s.1) 3]) (fun (s : (Vec (BitVec 64) 3) × (Int)) (g : Unit) => True) (fun (s : (Vec (BitVec 64) 3) × (Int)) (g : Unit) => True) () trivial (fun a w ha hw => ⟨ha.cons rfl (ha.cons rfl (ha.cons rfl (ha.cons rfl (ha.nil)))), hw.sel [0] rfl rfl⟩) (fun Gn Gb s g e hφ H hn1 hb1 hr1 => ?_) (fun s g hzz hφ => ?_)
      ·
        obtain ⟨y_2, x25⟩ := s
        change modexp_Run.b1 x13 y_2 x25 = some e at H
        unfold modexp_Run.b1 at H
        clear hz1
        change T 70 _ _ _
        refine t_seq ?_
        refine t_region (fun ops hops => ?_)
        clear hops
        obtain ⟨x26, hx26, H⟩ := Let_elim H
        refine z_val (v := .bool x26) (by subst hx26; exact val_bin rfl rfl rfl rfl (i64_lss _ _ _)) rfl rfl rfl (fun _ _ _ => trivial) ?_
        clear hx26
        refine z_nil ?_
        refine t_seq ?_
        cases x26
        ·
          replace H := cond_f H
          refine t_cond_false rfl ?_
          refine t_exit rfl ?_
          obtain rfl := Option.some.inj H
          exact t_reach ((hb1 _ () rfl trivial).weak (fun a ha => ha.cons rfl (ha.cons rfl (ha.nil))) (fun w hw => hw))
        ·
          replace H := cond_t H
          refine t_cond_true rfl ?_
          refine t_skip ?_
          refine t_seq ?_
          refine t_block ?_
          refine t_seq ?_
          refine t_region (fun ops hops => ?_)
          clear hops
          refine z_val (v := .int .i64 x25) (val_move rfl rfl) rfl rfl rfl (fun _ _ _ => trivial) ?_
          obtain ⟨hq_3, H⟩ := Chk_elim H
          obtain ⟨x28, hx28, H⟩ := Let_elim H
          refine z_val (v := .agg (cV U64 x28).toArray) (by subst hx28; exact val_indexA rfl rfl rfl Try.underlying58 Try.underlying57 sz57 hq_3 rfl) rfl rfl rfl (fun _ _ _ => trivial) ?_
          clear hx28
          refine z_alloc (cs := cV U64 (Vec.rep 4 0#64)) (room := 4) rfl ze57 rfl (cV_len _) rfl rfl rfl (fun _ _ _ _ => trivial) (fun g_4 => ?_)
          refine z_val (v := .int .i64 x25) (val_assign rfl rfl) rfl rfl rfl (fun _ _ _ => trivial) ?_
          refine z_storeA (j := 0) (cs' := cV U64 x28) (L' := [.blk g_4 57 (cV U64 x28) 4, .blk g_2 69 (cV U64 y_2) 3]) rfl rfl rfl (cV_one (fun _ => rfl) _) sz57 rfl (cV_len _) rfl rfl rfl (fun _ _ _ => trivial) ?_
          refine z_nil ?_
          refine t_seq ?_
          refine t_region (fun ops hops => ?_)
          clear hops
          refine z_val (v := .agg (cV U64 x28).toArray) (val_loadR (off := 0) (cs := cV U64 x28) rfl rfl Try.underlying57 rfl (sz57.trans (congrArg some (cV_len _).symm)) (fun _ hw => hw.whole (j := 0) rfl)) rfl rfl rfl (fun _ _ _ => trivial) ?_
          obtain ⟨x31, hx_5, H⟩ := Option.bind_eq_some_iff.1 H
          refine z_made (v := .tuple #[U64 x31.1, .bool x31.2]) rfl Try.func30 nm30 bs30 rfl (fun w hw => word_Small.calls x28 x31 hx_5 w) rfl rfl rfl (fun _ _ _ => trivial) ?_
          clear hx_5
          refine z_val (v := .tuple #[U64 x31.1, .bool x31.2]) (val_move rfl rfl) rfl rfl rfl (fun _ _ _ => trivial) ?_
          refine z_val (v := U64 x31.1) (val_extract rfl rfl rfl) rfl rfl rfl (fun _ _ _ => trivial) ?_
          refine z_val (v := .bool x31.2) (val_extract rfl rfl rfl) rfl rfl rfl (fun _ _ _ => trivial) ?_
          refine z_val (v := U64 x31.1) (val_assign rfl rfl) rfl rfl rfl (fun _ _ _ => trivial) ?_
          refine z_val (v := .bool x31.2) (val_assign rfl rfl) rfl rfl rfl (fun _ _ _ => trivial) ?_
          refine z_nil ?_
          refine t_seq ?_
          refine t_seq ?_
          refine t_region (fun ops hops => ?_)
          refine z_val (v := .bool x31.2) (val_move rfl rfl) rfl rfl rfl (fun _ _ _ => trivial) ?_
          obtain ⟨x35, hx35, H⟩ := Let_elim H
          refine z_val (v := .bool x35) (by subst hx35; exact val_un rfl rfl (bool_not _)) rfl rfl rfl (fun _ _ _ => trivial) ?_
          clear hx35
          refine z_val (v := .bool x35) (val_move rfl rfl) rfl rfl rfl (fun _ _ _ => trivial) ?_
          refine z_bind H 3 (fun (s : Bool) (_ : Unit) => [(0, .slice A0 a0.length c0), (5, .pointer (some ⟨g_2, 0, none⟩)), (6, .int .i64 x25), (8, U64 x31.1), (24, .agg (cVV U64 x13).toArray), (25, .int .i64 x25), (39, .bool s)]) (fun _ _ => Mm w [] h [.blk g_4 57 (cV U64 x28) 4, .blk g_2 69 (cV U64 y_2) 3]) (fun _ _ => True) (fun Gr K s he HJ => ?_) (fun s g HB _ => ?_)
          ·
            clear H
            cases x35
            ·
              have H := cond_f he
              clear he
              refine z_val (v := U64 x31.1) (val_move rfl rfl) rfl rfl (by rw [hops]; rfl) (fun _ _ _ => trivial) ?_
              obtain ⟨x38, hx38, H⟩ := Let_elim H
              refine z_val (v := .bool x38) (by subst hx38; exact val_bin rfl rfl rfl rfl (u64_gtr_r _ 64 x31.1)) rfl rfl (by rw [hops]; rfl) (fun _ _ _ => trivial) ?_
              clear hx38
              refine z_val (v := .bool x38) (val_pick rfl rfl rfl) rfl rfl rfl (fun _ _ _ => trivial) ?_
              obtain rfl := Option.some.inj H
              exact z_nil ((K _ () HJ trivial).weak (fun a ha => ha.cons rfl (ha.cons rfl (ha.cons rfl (ha.cons rfl (ha.cons rfl (ha.cons rfl (ha.cons rfl (ha.nil)))))))) (fun w hw => hw))
            ·
              have H := cond_t he
              clear he
              refine z_skip rfl rfl (by rw [hops]; rfl) (fun _ _ _ => trivial) ?_
              refine z_skip rfl rfl (by rw [hops]; rfl) (fun _ _ _ => trivial) ?_
              refine z_val (v := .bool true) (val_pick rfl rfl rfl) rfl rfl rfl (fun _ _ _ => trivial) ?_
              obtain rfl := Option.some.inj H
              exact z_nil ((K _ () HJ trivial).weak (fun a ha => ha.cons rfl (ha.cons rfl (ha.cons rfl (ha.cons rfl (ha.cons rfl (ha.cons rfl (ha.cons rfl (ha.nil)))))))) (fun w hw => hw))
          ·
            replace H := HB
            clear HB
            obtain ⟨x39, rfl⟩ : ∃ x, x = s := ⟨_, rfl⟩
            change T 70 _ _ _
            refine z_nil ?_
            cases x39
            ·
              replace H := cond_f H
              refine t_cond_false rfl ?_
              refine t_skip ?_
              refine t_region (fun ops hops => ?_)
              clear hops
              refine z_val (v := .int .i64 x25) (val_move rfl rfl) rfl rfl rfl (fun _ _ _ => trivial) ?_
              refine z_val (v := U64 x31.1) (val_move rfl rfl) rfl rfl rfl (fun _ _ _ => trivial) ?_
              obtain ⟨hq_6, H⟩ := Chk_elim H
              refine z_val (v := .pointer (some ⟨g_2, x25.toNat, none⟩)) (val_idx0 rfl rfl rfl Try.underlying69 sz38 hq_6 rfl) rfl rfl rfl (fun _ _ _ => trivial) ?_
              obtain ⟨y_2_7, hy_2_7, H⟩ := Let_elim H
              refine z_store1 (j := 1) (cs' := cV U64 y_2_7) (L' := [.blk g_4 57 (cV U64 x28) 4, .blk g_2 69 (cV U64 y_2_7) 3]) rfl rfl rfl rfl rfl sz38 rfl (by rw [cV_len]; exact (idx_lt hq_6)) (by subst hy_2_7; exact cV_set (f := U64) _ _ x31.1) rfl rfl rfl (fun _ _ _ => trivial) ?_
              clear hy_2_7
              refine z_nil ?_
              refine t_fin ?_
              refine t_region (fun ops hops => ?_)
              clear hops
              obtain ⟨x43, hx43, H⟩ := Let_elim H
              refine z_val (v := .int .i64 x43) (by subst hx43; exact val_bin rfl rfl rfl rfl (i64_add _ _ _)) rfl rfl rfl (fun _ _ _ => trivial) ?_
              clear hx43
              refine z_val (v := .int .i64 x43) (val_move rfl rfl) rfl rfl rfl (fun _ _ _ => trivial) ?_
              refine z_nil ?_
              obtain rfl := Option.some.inj H
              exact t_reach ((hn1 _ () rfl trivial).weak (fun a ha => ha.cons rfl (ha.cons rfl (ha.cons rfl (ha.cons rfl (ha.nil))))) (fun w hw => hw.sel [1] rfl rfl))
            ·
              replace H := cond_t H
              refine t_cond_true rfl ?_
              refine t_seq ?_
              refine t_region (fun ops hops => ?_)
              clear hops
              refine z_val (v := .slice none 0 0) (val_assign rfl rfl) rfl rfl rfl (fun _ _ _ => trivial) ?_
              refine z_val (v := .int .i64 4) (val_assign rfl rfl) rfl rfl rfl (fun _ _ _ => trivial) ?_
              refine z_nil ?_
              refine t_ret ?_
              obtain rfl := Option.some.inj H
              have hz := hr1 _ rfl
              subst hz
              obtain rfl := Option.some.inj HK1
              exact ret2 rfl (res_tmp rfl) (res_tmp rfl) (fun _ hw => ⟨none, 0, rfl, hw.below, row_out_nil⟩)
      ·
        obtain ⟨y_2, x25⟩ := s
        subst hzz
        have H := HK1
        clear HK1 hz1
        replace H := sum_l H
        try dsimp only at H
        change T 70 _ _ _
        refine t_seq ?_
        refine t_region (fun ops hops => ?_)
        clear hops
        refine z_val (v := .slice A0 a0.length c0) (val_move rfl rfl) rfl rfl rfl (fun _ _ _ => trivial) ?_
        refine z_val (v := .pointer (some ⟨g_2, 0, none⟩)) (val_idx0 rfl rfl rfl Try.underlying69 sz38 (by decide) rfl) rfl rfl rfl (fun _ _ _ => trivial) ?_
        obtain ⟨x46, hx46, H⟩ := Let_elim H
        refine z_val (v := U64 x46) (by subst hx46; exact val_load1 rfl rfl Try.underlying38 rfl (fun _ hw => hw.cell (j := 0) rfl (cV_at _ (by decide)))) rfl rfl rfl (fun _ _ _ => trivial) ?_
        clear hx46
        obtain ⟨x47, hx_8, H⟩ := Option.bind_eq_some_iff.1 H
        refine z_madeS (F := fun A_9 c_10 => .slice A_9 x47.length c_10) (xs := x47) rfl Try.func33 nm33 bs33 rfl (fun w hw => modexp_part.calls a0 96#64 x46 A0 c0 x47 hx_8 w (hs0.toW hw) hc0) rfl rfl rfl (fun _ _ _ _ _ => trivial) (fun A_9 c_10 hs_11 => ?_)
        clear hx_8
        refine z_val (v := .slice A_9 x47.length c_10) (val_assign rfl rfl) rfl rfl rfl (fun _ _ _ => trivial) ?_
        refine z_nil ?_
        refine t_seq ?_
        refine t_region (fun ops hops => ?_)
        clear hops
        refine z_val (v := .slice A0 a0.length c0) (val_move rfl rfl) rfl rfl rfl (fun _ _ _ => trivial) ?_
        refine z_val (v := .pointer (some ⟨g_2, 0, none⟩)) (val_idx0 rfl rfl rfl Try.underlying69 sz38 (by decide) rfl) rfl rfl rfl (fun _ _ _ => trivial) ?_
        obtain ⟨x50, hx50, H⟩ := Let_elim H
        refine z_val (v := U64 x50) (by subst hx50; exact val_load1 rfl rfl Try.underlying38 rfl (fun _ hw => hw.cell (j := 1) rfl (cV_at _ (by decide)))) rfl rfl rfl (fun _ _ _ => trivial) ?_
        clear hx50
        obtain ⟨x51, hx51, H⟩ := Let_elim H
        refine z_val (v := U64 x51) (by subst hx51; exact val_bin rfl rfl rfl rfl (u64_add_l _ _ _)) rfl rfl rfl (fun _ _ _ => trivial) ?_
        clear hx51
        refine z_val (v := .pointer (some ⟨g_2, 1, none⟩)) (val_idx0 rfl rfl rfl Try.underlying69 sz38 (by decide) rfl) rfl rfl rfl (fun _ _ _ => trivial) ?_
        obtain ⟨x53, hx53, H⟩ := Let_elim H
        refine z_val (v := U64 x53) (by subst hx53; exact val_load1 rfl rfl Try.underlying38 rfl (fun _ hw => hw.cell (j := 1) rfl (cV_at _ (by decide)))) rfl rfl rfl (fun _ _ _ => trivial) ?_
        clear hx53
        obtain ⟨x54, hx_13, H⟩ := Option.bind_eq_some_iff.1 H
        refine z_madeS (F := fun A_14 c_15 => .slice A_14 x54.length c_15) (xs := x54) rfl Try.func33 nm33 bs33 rfl (fun w hw => modexp_part.calls a0 x51 x53 A0 c0 x54 hx_13 w (hs0.toW hw) hc0) rfl rfl rfl (fun _ _ _ _ _ => trivial) (fun A_14 c_15 hs_16 => ?_)
        clear hx_13
        refine z_val (v := .slice A_14 x54.length c_15) (val_assign rfl rfl) rfl rfl rfl (fun _ _ _ => trivial) ?_
        refine z_nil ?_
        refine t_seq ?_
        refine t_region (fun ops hops => ?_)
        clear hops
        refine z_val (v := .slice A_9 x47.length c_10) (val_move rfl rfl) rfl rfl rfl (fun _ _ _ => trivial) ?_
        refine z_val (v := .slice A_14 x54.length c_15) (val_move rfl rfl) rfl rfl rfl (fun _ _ _ => trivial) ?_
        refine z_val (v := .slice A0 a0.length c0) (val_move rfl rfl) rfl rfl rfl (fun _ _ _ => trivial) ?_
        refine z_val (v := .pointer (some ⟨g_2, 0, none⟩)) (val_idx0 rfl rfl rfl Try.underlying69 sz38 (by decide) rfl) rfl rfl rfl (fun _ _ _ => trivial) ?_
        obtain ⟨x59, hx59, H⟩ := Let_elim H
        refine z_val (v := U64 x59) (by subst hx59; exact val_load1 rfl rfl Try.underlying38 rfl (fun _ hw => hw.cell (j := 2) rfl (cV_at _ (by decide)))) rfl rfl rfl (fun _ _ _ => trivial) ?_
        clear hx59
        obtain ⟨x60, hx60, H⟩ := Let_elim H
        refine z_val (v := U64 x60) (by subst hx60; exact val_bin rfl rfl rfl rfl (u64_add_l _ _ _)) rfl rfl rfl (fun _ _ _ => trivial) ?_
        clear hx60
        refine z_val (v := .pointer (some ⟨g_2, 1, none⟩)) (val_idx0 rfl rfl rfl Try.underlying69 sz38 (by decide) rfl) rfl rfl rfl (fun _ _ _ => trivial) ?_
        obtain ⟨x62, hx62, H⟩ := Let_elim H
        refine z_val (v := U64 x62) (by subst hx62; exact val_load1 rfl rfl Try.underlying38 rfl (fun _ hw => hw.cell (j := 2) rfl (cV_at _ (by decide)))) rfl rfl rfl (fun _ _ _ => trivial) ?_
        clear hx62
        obtain ⟨x63, hx63, H⟩ := Let_elim H
        refine z_val (v := U64 x63) (by subst hx63; exact val_bin rfl rfl rfl rfl (u64_add _ _ _)) rfl rfl rfl (fun _ _ _ => trivial) ?_
        clear hx63
        refine z_val (v := .pointer (some ⟨g_2, 2, none⟩)) (val_idx0 rfl rfl rfl Try.underlying69 sz38 (by decide) rfl) rfl rfl rfl (fun _ _ _ => trivial) ?_
        obtain ⟨x65, hx65, H⟩ := Let_elim H
        refine z_val (v := U64 x65) (by subst hx65; exact val_load1 rfl rfl Try.underlying38 rfl (fun _ hw => hw.cell (j := 2) rfl (cV_at _ (by decide)))) rfl rfl rfl (fun _ _ _ => trivial) ?_
        clear hx65
        obtain ⟨x66, hx_18, H⟩ := Option.bind_eq_some_iff.1 H
        refine z_madeS (F := fun A_19 c_20 => .slice A_19 x66.length c_20) (xs := x66) rfl Try.func33 nm33 bs33 rfl (fun w hw => modexp_part.calls a0 x63 x65 A0 c0 x66 hx_18 w (hs0.toW hw) hc0) rfl rfl rfl (fun _ _ _ _ _ => trivial) (fun A_19 c_20 hs_21 => ?_)
        clear hx_18
        obtain ⟨x67, hx_23, H⟩ := Option.bind_eq_some_iff.1 H
        refine z_madeS (F := fun A_24 c_25 => .tuple #[.slice A_24 x67.1.length c_25, .int .i64 x67.2]) (xs := x67.1) rfl Try.func8 nm8 bs8 rfl (fun w hw => modexp_Pow.calls x47 x54 x66 A_9 c_10 A_14 c_15 A_19 c_20 x67 hx_23 w (row_w hw (j := 2) rfl) hs_11.le (row_w hw (j := 1) rfl) hs_16.le (row_w hw (j := 0) rfl) hs_21.le) rfl rfl rfl (fun _ _ _ _ _ => trivial) (fun A_24 c_25 hs_26 => ?_)
        clear hx_23
        refine z_val (v := .slice A_24 x67.1.length c_25) (val_extract rfl rfl rfl) rfl rfl rfl (fun _ _ _ => trivial) ?_
        refine z_val (v := .int .i64 x67.2) (val_extract rfl rfl rfl) rfl rfl rfl (fun _ _ _ => trivial) ?_
        refine z_val (v := .slice A_24 x67.1.length c_25) (val_assign rfl rfl) rfl rfl rfl (fun _ _ _ => trivial) ?_
        refine z_val (v := .int .i64 x67.2) (val_assign rfl rfl) rfl rfl rfl (fun _ _ _ => trivial) ?_
        refine z_nil ?_
        refine t_ret ?_
        obtain rfl := Option.some.inj H
        exact ret2 rfl (res_tmp rfl) (res_tmp rfl) (fun _ hw => ⟨A_24, c_25, rfl, hw.below, (row_out hw (j := 0) rfl hs_26)⟩)
    ·
      replace H := cond_t H
      refine t_cond_true rfl ?_
      refine t_seq ?_
      refine t_region (fun ops hops => ?_)
      clear hops
      refine z_val (v := .slice none 0 0) (val_assign rfl rfl) rfl rfl rfl (fun _ _ _ => trivial) ?_
      refine z_val (v := .int .i64 0) (val_assign rfl rfl) rfl rfl rfl (fun _ _ _ => trivial) ?_
      refine z_nil ?_
      refine t_ret ?_
      obtain rfl := Option.some.inj H
      exact ret2 rfl (res_tmp rfl) (res_tmp rfl) (fun _ hw => ⟨none, 0, rfl, hw.below, row_out_nil⟩)
end Go.Proofs.Ytccilbklafhjiaa
