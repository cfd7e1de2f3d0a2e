/- Functions of the program as plain functions, and their walks, printed by walk.py. -/
import Derived.Test.YtapfkdcilfpbhaaRlF
namespace Go.Proofs.Ytapfkdcilfpbhaa
open Go.RowKit
set_option linter.unusedVariables false
set_option linter.unusedSimpArgs false
def smithyref07_Same.b1 (x12 : Int) (a0 : List ((Bool) × (List (BitVec 8)) × (Int))) (a1 : List ((Bool) × (List (BitVec 8)) × (Int))) (x13 : Int) : Option (Ctl ((Int)) (Bool)) :=
  Let (decide (x13 < x12)) fun x14 => (bif x14 then Chk ((0 : Int) ≤ x13 ∧ x13 < (a0.length : Int)) <| Let (lget a0 x13.toNat) fun x18 => Chk ((0 : Int) ≤ x13 ∧ x13 < (a1.length : Int)) <| Let (lget a1 x13.toNat) fun x23 => Let (x18.1 != x23.1) fun x26 => (bif x26 then some true else Chk ((0 : Int) ≤ x13 ∧ x13 < (a0.length : Int)) <| Let (lget a0 x13.toNat) fun x30 => Chk ((0 : Int) ≤ x13 ∧ x13 < (a1.length : Int)) <| Let (lget a1 x13.toNat) fun x35 => Let (x30.2.2 != x35.2.2) fun x38 => some x38).bind (fun x39 => (bif x39 then some true else Chk ((0 : Int) ≤ x13 ∧ x13 < (a0.length : Int)) <| Let (lget a0 x13.toNat) fun x43 => Let (strOf x43.2.1) fun x46 => Chk ((0 : Int) ≤ x13 ∧ x13 < (a1.length : Int)) <| Let (lget a1 x13.toNat) fun x49 => Let (strOf x49.2.1) fun x52 => Let (!(x46.toList == x52.toList)) fun x53 => some x53).bind (fun x54 => (bif x54 then some (.ret false) else Let (wi (x13 + 1)) fun x55 => some (.next x55)))) else some (.brk x13))
def smithyref07_Same (a0 : List ((Bool) × (List (BitVec 8)) × (Int))) (a1 : List ((Bool) × (List (BitVec 8)) × (Int))) : Option (Bool) :=
  Let ((a0.length : Int)) fun x7 => Let ((a1.length : Int)) fun x9 => Let (x7 != x9) fun x10 => (bif x10 then some false else Let ((a0.length : Int)) fun x12 => (wlx (σ := (Int)) (fun s => smithyref07_Same.b1 x12 a0 a1 s) 0).bind (Sum.elim (fun x13 => some true) (fun r => some r)))
set_option maxRecDepth 100000 in
theorem smithyref07_Same.calls  (a0 : List ((Bool) × (List (BitVec 8)) × (Int))) (a1 : List ((Bool) × (List (BitVec 8)) × (Int))) (A0 : Option Addr) (c0 : Nat) (A1 : Option Addr) (c1 : Nat) (r : Bool) (H : smithyref07_Same a0 a1 = some r) (w : World) (hs0 : SlRW w R60 A0 a0) (hc0 : a0.length ≤ c0) (hs1 : SlRW w R60 A1 a1) (hc1 : a1.length ≤ c1)  :
    Made Try.prog 27 #[.slice A0 a0.length c0, .slice A1 a1.length c1] w (.bool r) := by
  unfold smithyref07_Same at H
  replace hs0 := hs0.toH
  replace hs1 := hs1.toH
  have hM := Mm.start w (snap w) (snap_ok w)
  generalize snap w = h at *
  refine t_enter (vs := [.slice A0 a0.length c0, .slice A1 a1.length c1]) (n := 56) Try.func27 rfl rfl rfl hM ?_
  clear hM
  change T 56 _ _ _
  refine t_seq ?_
  refine t_region (fun ops hops => ?_)
  clear hops
  refine z_val (v := .bool false) (val_assign rfl rfl) rfl rfl rfl (fun _ _ _ => trivial) ?_
  refine z_nil ?_
  refine t_seq ?_
  refine t_seq ?_
  refine t_region (fun ops hops => ?_)
  clear hops
  refine z_val (v := .slice A0 a0.length c0) (val_move rfl rfl) rfl rfl rfl (fun _ _ _ => trivial) ?_
  obtain ⟨x7, hx7, H⟩ := Let_elim H
  refine z_val (v := .int .i64 x7) (by subst hx7; exact val_len rfl rfl rfl Try.underlying46) rfl rfl rfl (fun _ _ _ => trivial) ?_
  clear hx7
  refine z_val (v := .slice A1 a1.length c1) (val_move rfl rfl) rfl rfl rfl (fun _ _ _ => trivial) ?_
  obtain ⟨x9, hx9, H⟩ := Let_elim H
  refine z_val (v := .int .i64 x9) (by subst hx9; exact val_len rfl rfl rfl Try.underlying46) rfl rfl rfl (fun _ _ _ => trivial) ?_
  clear hx9
  obtain ⟨x10, hx10, H⟩ := Let_elim H
  refine z_val (v := .bool x10) (by subst hx10; exact val_bin rfl rfl rfl rfl (i64_neq _ _ _)) rfl rfl rfl (fun _ _ _ => trivial) ?_
  clear hx10
  refine z_nil ?_
  cases x10
  ·
    replace H := cond_f H
    refine t_cond_false rfl ?_
    refine t_skip ?_
    refine t_seq ?_
    refine t_seq ?_
    refine t_region (fun ops hops => ?_)
    clear hops
    refine z_val (v := .slice A0 a0.length c0) (val_move rfl rfl) rfl rfl rfl (fun _ _ _ => trivial) ?_
    obtain ⟨x12, hx12, H⟩ := Let_elim H
    refine z_val (v := .int .i64 x12) (by subst hx12; exact val_len rfl rfl rfl Try.underlying46) rfl rfl rfl (fun _ _ _ => trivial) ?_
    clear hx12
    refine z_val (v := .int .i64 0) (val_move rfl rfl) rfl rfl rfl (fun _ _ _ => trivial) ?_
    refine z_nil ?_
    refine t_block ?_
    obtain ⟨z1, hz1, HK1⟩ := Option.bind_eq_some_iff.1 H
    clear H
    refine t_while hz1 (fun (s : (Int)) (g : Unit) => [(0, .slice A0 a0.length c0), (1, .slice A1 a1.length c1), (12, .int .i64 x12), (13, .int .i64 s)]) (fun (s : (Int)) (g : Unit) => []) (fun (s : (Int)) (g : Unit) => Mm w [] h []) (fun (s : (Int)) (g : Unit) => Mm w [] h []) (fun (s : (Int)) (g : Unit) => True) (fun (s : (Int)) (g : Unit) => True) () trivial (fun a w ha hw => ⟨ha.cons rfl (ha.cons rfl (ha.cons rfl (ha.cons rfl (ha.nil)))), hw⟩) (fun Gn Gb s g e hφ H hn1 hb1 hr1 => ?_) (fun s g hzz hφ => ?_)
    ·
      obtain ⟨x13, rfl⟩ : ∃ x, x = s := ⟨_, rfl⟩
      change smithyref07_Same.b1 x12 a0 a1 x13 = some e at H
      unfold smithyref07_Same.b1 at H
      clear hz1
      change T 56 _ _ _
      refine t_seq ?_
      refine t_region (fun ops hops => ?_)
      clear hops
      obtain ⟨x14, hx14, H⟩ := Let_elim H
      refine z_val (v := .bool x14) (by subst hx14; exact val_bin rfl rfl rfl rfl (i64_lss _ _ _)) rfl rfl rfl (fun _ _ _ => trivial) ?_
      clear hx14
      refine z_nil ?_
      refine t_seq ?_
      cases x14
      ·
        replace H := cond_f H
        refine t_cond_false rfl ?_
        refine t_exit rfl ?_
        obtain rfl := Option.some.inj H
        exact t_reach ((hb1 _ () rfl trivial).weak (fun a ha => ha.nil) (fun w hw => hw))
      ·
        replace H := cond_t H
        refine t_cond_true rfl ?_
        refine t_skip ?_
        refine t_seq ?_
        refine t_block ?_
        refine t_seq ?_
        refine t_region (fun ops hops => ?_)
        clear hops
        refine z_val (v := .int .i64 x13) (val_move rfl rfl) rfl rfl rfl (fun _ _ _ => trivial) ?_
        refine z_val (v := .int .i64 x13) (val_assign rfl rfl) rfl rfl rfl (fun _ _ _ => trivial) ?_
        refine z_nil ?_
        refine t_seq ?_
        refine t_plan (C := Mm w [] h []) [] [(0, true), (1, true), (2, true), (3, true), (4, true), (5, true), (6, true), (7, true), (8, true), (9, true), (10, true), (11, true), (12, true), (13, true), (14, true), (15, true), (16, true), (17, true), (18, true), (19, true), (20, true), (21, true), (22, true), (23, true), (24, true), (25, true), (26, true), (27, true), (28, true), (29, true), (30, true), (31, true), (32, true), (33, true), (34, true), (35, true), (36, true), (37, true), (38, true)] (by kernel_rfl) (by kernel_rfl) (fun _ hw => hw.drew) (fun ops hops => ?_)
        refine z_still (v := .slice A0 a0.length c0) (val_move rfl rfl) rfl rfl rfl (fun _ hw => hw) ?_
        refine z_still (v := .int .i64 x13) (val_move rfl rfl) rfl rfl rfl (fun _ hw => hw) ?_
        obtain ⟨hq_1, H⟩ := Chk_elim H
        obtain ⟨x18, hx18, H⟩ := Let_elim H
        obtain ⟨b_7, o_8, hA_9, cs, hr, hc_6⟩ := hs0.at_ (show x13.toNat < a0.length from (idx_lt hq_1))
        rw [← hx18] at hr
        clear hx18
        obtain ⟨A_2, c_3, rfl, hs_4, hc_5⟩ := hr
        refine z_still (v := .pointer (some ⟨b_7, o_8 + x13.toNat * 3, none⟩)) (val_idxR rfl rfl rfl Try.underlying46 sz60 hq_1 hA_9 rfl) rfl rfl rfl (fun _ hw => hw) ?_
        refine z_still (v := .pointer (some ⟨b_7, o_8 + x13.toNat * 3 + 0, none⟩)) (val_fldB (sz := 1) rfl rfl Try.underlying60 rfl rfl sz4 (by decide)) rfl rfl rfl (fun _ hw => hw) ?_
        refine z_still (v := .bool x18.1) (val_load1 rfl rfl Try.underlying4 rfl (fun _ hw => cell_of hc_6 (k := 0) (cells_here (k := 0) rfl) hw)) rfl rfl rfl (fun _ hw => hw) ?_
        refine z_still (v := .slice A1 a1.length c1) (val_move rfl rfl) rfl rfl rfl (fun _ hw => hw) ?_
        refine z_still (v := .int .i64 x13) (val_move rfl rfl) rfl rfl rfl (fun _ hw => hw) ?_
        obtain ⟨hq_10, H⟩ := Chk_elim H
        obtain ⟨x23, hx23, H⟩ := Let_elim H
        obtain ⟨b_17, o_18, hA_19, cs_20, hr_15, hc_16⟩ := hs1.at_ (show x13.toNat < a1.length from (idx_lt hq_10))
        rw [← hx23] at hr_15
        clear hx23
        obtain ⟨A_11, c_12, rfl, hs_13, hc_14⟩ := hr_15
        refine z_still (v := .pointer (some ⟨b_17, o_18 + x13.toNat * 3, none⟩)) (val_idxR rfl rfl rfl Try.underlying46 sz60 hq_10 hA_19 rfl) rfl rfl rfl (fun _ hw => hw) ?_
        refine z_still (v := .pointer (some ⟨b_17, o_18 + x13.toNat * 3 + 0, none⟩)) (val_fldB (sz := 1) rfl rfl Try.underlying60 rfl rfl sz4 (by decide)) rfl rfl rfl (fun _ hw => hw) ?_
        refine z_still (v := .bool x23.1) (val_load1 rfl rfl Try.underlying4 rfl (fun _ hw => cell_of hc_16 (k := 0) (cells_here (k := 0) rfl) hw)) rfl rfl rfl (fun _ hw => hw) ?_
        obtain ⟨x26, hx26, H⟩ := Let_elim H
        refine z_still (v := .bool x26) (by subst hx26; exact val_binw rfl rfl rfl rfl (fun w => bool_neq Try.underlying4)) rfl rfl rfl (fun _ hw => hw) ?_
        clear hx26
        refine z_still (v := .bool x26) (val_move rfl rfl) rfl rfl rfl (fun _ hw => hw) ?_
        refine z_bind H 12 (fun (s : Bool) (_ : Unit) => [(0, .slice A0 a0.length c0), (1, .slice A1 a1.length c1), (5, .int .i64 x13), (12, .int .i64 x12), (13, .int .i64 x13), (39, .bool s)]) (fun _ _ => Mm w [] h []) (fun _ _ => True) (fun Gr K s he HJ => ?_) (fun s g HB _ => ?_)
        ·
          clear H
          cases x26
          ·
            have H := cond_f he
            clear he
            refine z_still (v := .slice A0 a0.length c0) (val_move rfl rfl) rfl rfl (by rw [hops]; rfl) (fun _ hw => hw) ?_
            refine z_still (v := .int .i64 x13) (val_move rfl rfl) rfl rfl (by rw [hops]; rfl) (fun _ hw => hw) ?_
            obtain ⟨hq_21, H⟩ := Chk_elim H
            obtain ⟨x30, hx30, H⟩ := Let_elim H
            obtain ⟨b_28, o_29, hA_30, cs_31, hr_26, hc_27⟩ := hs0.at_ (show x13.toNat < a0.length from (idx_lt hq_21))
            rw [← hx30] at hr_26
            clear hx30
            obtain ⟨A_22, c_23, rfl, hs_24, hc_25⟩ := hr_26
            refine z_still (v := .pointer (some ⟨b_28, o_29 + x13.toNat * 3, none⟩)) (val_idxR rfl rfl rfl Try.underlying46 sz60 hq_21 hA_30 rfl) rfl rfl (by rw [hops]; rfl) (fun _ hw => hw) ?_
            refine z_still (v := .pointer (some ⟨b_28, o_29 + x13.toNat * 3 + 2, none⟩)) (val_fldB (sz := 1) rfl rfl Try.underlying60 rfl rfl sz3 (by decide)) rfl rfl (by rw [hops]; rfl) (fun _ hw => hw) ?_
            refine z_still (v := .int .i64 x30.2.2) (val_load1 rfl rfl Try.underlying3 rfl (fun _ hw => cell_of hc_27 (k := 2) (cells_skip (n := 1) (k := 1) rfl (cells_skip (n := 1) (k := 0) rfl rfl)) hw)) rfl rfl (by rw [hops]; rfl) (fun _ hw => hw) ?_
            refine z_still (v := .slice A1 a1.length c1) (val_move rfl rfl) rfl rfl (by rw [hops]; rfl) (fun _ hw => hw) ?_
            refine z_still (v := .int .i64 x13) (val_move rfl rfl) rfl rfl (by rw [hops]; rfl) (fun _ hw => hw) ?_
            obtain ⟨hq_32, H⟩ := Chk_elim H
            obtain ⟨x35, hx35, H⟩ := Let_elim H
            obtain ⟨b_39, o_40, hA_41, cs_42, hr_37, hc_38⟩ := hs1.at_ (show x13.toNat < a1.length from (idx_lt hq_32))
            rw [← hx35] at hr_37
            clear hx35
            obtain ⟨A_33, c_34, rfl, hs_35, hc_36⟩ := hr_37
            refine z_still (v := .pointer (some ⟨b_39, o_40 + x13.toNat * 3, none⟩)) (val_idxR rfl rfl rfl Try.underlying46 sz60 hq_32 hA_41 rfl) rfl rfl (by rw [hops]; rfl) (fun _ hw => hw) ?_
            refine z_still (v := .pointer (some ⟨b_39, o_40 + x13.toNat * 3 + 2, none⟩)) (val_fldB (sz := 1) rfl rfl Try.underlying60 rfl rfl sz3 (by decide)) rfl rfl (by rw [hops]; rfl) (fun _ hw => hw) ?_
            refine z_still (v := .int .i64 x35.2.2) (val_load1 rfl rfl Try.underlying3 rfl (fun _ hw => cell_of hc_38 (k := 2) (cells_skip (n := 1) (k := 1) rfl (cells_skip (n := 1) (k := 0) rfl rfl)) hw)) rfl rfl (by rw [hops]; rfl) (fun _ hw => hw) ?_
            obtain ⟨x38, hx38, H⟩ := Let_elim H
            refine z_still (v := .bool x38) (by subst hx38; exact val_bin rfl rfl rfl rfl (i64_neq _ _ _)) rfl rfl (by rw [hops]; rfl) (fun _ hw => hw) ?_
            clear hx38
            refine z_still (v := .bool x38) (val_pick rfl rfl rfl) rfl rfl rfl (fun _ hw => hw) ?_
            obtain rfl := Option.some.inj H
            exact z_nil ((K _ () HJ trivial).weak (fun a ha => ha.cons rfl (ha.cons rfl (ha.cons rfl (ha.cons rfl (ha.cons rfl (ha.cons rfl (ha.nil))))))) (fun w hw => hw))
          ·
            have H := cond_t he
            clear he
            refine z_skip_still rfl rfl (by rw [hops]; rfl) (fun _ hw => hw) ?_
            refine z_skip_still rfl rfl (by rw [hops]; rfl) (fun _ hw => hw) ?_
            refine z_skip_still rfl rfl (by rw [hops]; rfl) (fun _ hw => hw) ?_
            refine z_skip_still rfl rfl (by rw [hops]; rfl) (fun _ hw => hw) ?_
            refine z_skip_still rfl rfl (by rw [hops]; rfl) (fun _ hw => hw) ?_
            refine z_skip_still rfl rfl (by rw [hops]; rfl) (fun _ hw => hw) ?_
            refine z_skip_still rfl rfl (by rw [hops]; rfl) (fun _ hw => hw) ?_
            refine z_skip_still rfl rfl (by rw [hops]; rfl) (fun _ hw => hw) ?_
            refine z_skip_still rfl rfl (by rw [hops]; rfl) (fun _ hw => hw) ?_
            refine z_skip_still rfl rfl (by rw [hops]; rfl) (fun _ hw => hw) ?_
            refine z_skip_still rfl rfl (by rw [hops]; rfl) (fun _ hw => hw) ?_
            refine z_still (v := .bool true) (val_pick rfl rfl rfl) rfl rfl rfl (fun _ hw => hw) ?_
            obtain rfl := Option.some.inj H
            exact z_nil ((K _ () HJ trivial).weak (fun a ha => ha.cons rfl (ha.cons rfl (ha.cons rfl (ha.cons rfl (ha.cons rfl (ha.cons rfl (ha.nil))))))) (fun w hw => hw))
        ·
          replace H := HB
          clear HB
          obtain ⟨x39, rfl⟩ : ∃ x, x = s := ⟨_, rfl⟩
          change T 56 _ _ _
          refine z_still (v := .bool x39) (val_move rfl rfl) rfl rfl rfl (fun _ hw => hw) ?_
          refine z_bind H 14 (fun (s : Bool) (_ : Unit) => [(0, .slice A0 a0.length c0), (1, .slice A1 a1.length c1), (12, .int .i64 x12), (13, .int .i64 x13), (54, .bool s)]) (fun _ _ => Mm w [] h []) (fun _ _ => True) (fun Gr K s he HJ => ?_) (fun s g HB _ => ?_)
          ·
            clear H
            cases x39
            ·
              have H := cond_f he
              clear he
              refine z_still (v := .slice A0 a0.length c0) (val_move rfl rfl) rfl rfl (by rw [hops]; rfl) (fun _ hw => hw) ?_
              refine z_still (v := .int .i64 x13) (val_move rfl rfl) rfl rfl (by rw [hops]; rfl) (fun _ hw => hw) ?_
              obtain ⟨hq_43, H⟩ := Chk_elim H
              obtain ⟨x43, hx43, H⟩ := Let_elim H
              obtain ⟨b_50, o_51, hA_52, cs_53, hr_48, hc_49⟩ := hs0.at_ (show x13.toNat < a0.length from (idx_lt hq_43))
              rw [← hx43] at hr_48
              clear hx43
              obtain ⟨A_44, c_45, rfl, hs_46, hc_47⟩ := hr_48
              refine z_still (v := .pointer (some ⟨b_50, o_51 + x13.toNat * 3, none⟩)) (val_idxR rfl rfl rfl Try.underlying46 sz60 hq_43 hA_52 rfl) rfl rfl (by rw [hops]; rfl) (fun _ hw => hw) ?_
              refine z_still (v := .pointer (some ⟨b_50, o_51 + x13.toNat * 3 + 1, none⟩)) (val_fldB (sz := 1) rfl rfl Try.underlying60 rfl rfl sz25 (by decide)) rfl rfl (by rw [hops]; rfl) (fun _ hw => hw) ?_
              refine z_still (v := .slice A_44 x43.2.1.length c_45) (val_load1 rfl rfl Try.underlying25 rfl (fun _ hw => cell_of hc_49 (k := 1) (cells_skip (n := 1) (k := 0) rfl (cells_here (k := 0) rfl)) hw)) rfl rfl (by rw [hops]; rfl) (fun _ hw => hw) ?_
              obtain ⟨x46, hx46, H⟩ := Let_elim H
              refine z_still (v := .string x46) (by subst hx46; exact val_convS rfl rfl Try.underlying25 Try.underlying5 Try.underlying9 (fun w hw => (hs_46.toW hw))) rfl rfl (by rw [hops]; rfl) (fun _ hw => hw) ?_
              clear hx46
              refine z_still (v := .slice A1 a1.length c1) (val_move rfl rfl) rfl rfl (by rw [hops]; rfl) (fun _ hw => hw) ?_
              refine z_still (v := .int .i64 x13) (val_move rfl rfl) rfl rfl (by rw [hops]; rfl) (fun _ hw => hw) ?_
              obtain ⟨hq_54, H⟩ := Chk_elim H
              obtain ⟨x49, hx49, H⟩ := Let_elim H
              obtain ⟨b_61, o_62, hA_63, cs_64, hr_59, hc_60⟩ := hs1.at_ (show x13.toNat < a1.length from (idx_lt hq_54))
              rw [← hx49] at hr_59
              clear hx49
              obtain ⟨A_55, c_56, rfl, hs_57, hc_58⟩ := hr_59
              refine z_still (v := .pointer (some ⟨b_61, o_62 + x13.toNat * 3, none⟩)) (val_idxR rfl rfl rfl Try.underlying46 sz60 hq_54 hA_63 rfl) rfl rfl (by rw [hops]; rfl) (fun _ hw => hw) ?_
              refine z_still (v := .pointer (some ⟨b_61, o_62 + x13.toNat * 3 + 1, none⟩)) (val_fldB (sz := 1) rfl rfl Try.underlying60 rfl rfl sz25 (by decide)) rfl rfl (by rw [hops]; rfl) (fun _ hw => hw) ?_
              refine z_still (v := .slice A_55 x49.2.1.length c_56) (val_load1 rfl rfl Try.underlying25 rfl (fun _ hw => cell_of hc_60 (k := 1) (cells_skip (n := 1) (k := 0) rfl (cells_here (k := 0) rfl)) hw)) rfl rfl (by rw [hops]; rfl) (fun _ hw => hw) ?_
              obtain ⟨x52, hx52, H⟩ := Let_elim H
              refine z_still (v := .string x52) (by subst hx52; exact val_convS rfl rfl Try.underlying25 Try.underlying5 Try.underlying9 (fun w hw => (hs_57.toW hw))) rfl rfl (by rw [hops]; rfl) (fun _ hw => hw) ?_
              clear hx52
              obtain ⟨x53, hx53, H⟩ := Let_elim H
              refine z_still (v := .bool x53) (by subst hx53; exact val_bin rfl rfl rfl rfl (str_neq _ _ _)) rfl rfl (by rw [hops]; rfl) (fun _ hw => hw) ?_
              clear hx53
              refine z_still (v := .bool x53) (val_pick rfl rfl rfl) rfl rfl rfl (fun _ hw => hw) ?_
              obtain rfl := Option.some.inj H
              exact z_nil ((K _ () HJ trivial).weak (fun a ha => ha.cons rfl (ha.cons rfl (ha.cons rfl (ha.cons rfl (ha.cons rfl (ha.nil)))))) (fun w hw => hw))
            ·
              have H := cond_t he
              clear he
              refine z_skip_still rfl rfl (by rw [hops]; rfl) (fun _ hw => hw) ?_
              refine z_skip_still rfl rfl (by rw [hops]; rfl) (fun _ hw => hw) ?_
              refine z_skip_still rfl rfl (by rw [hops]; rfl) (fun _ hw => hw) ?_
              refine z_skip_still rfl rfl (by rw [hops]; rfl) (fun _ hw => hw) ?_
              refine z_skip_still rfl rfl (by rw [hops]; rfl) (fun _ hw => hw) ?_
              refine z_skip_still rfl rfl (by rw [hops]; rfl) (fun _ hw => hw) ?_
              refine z_skip_still rfl rfl (by rw [hops]; rfl) (fun _ hw => hw) ?_
              refine z_skip_still rfl rfl (by rw [hops]; rfl) (fun _ hw => hw) ?_
              refine z_skip_still rfl rfl (by rw [hops]; rfl) (fun _ hw => hw) ?_
              refine z_skip_still rfl rfl (by rw [hops]; rfl) (fun _ hw => hw) ?_
              refine z_skip_still rfl rfl (by rw [hops]; rfl) (fun _ hw => hw) ?_
              refine z_skip_still rfl rfl (by rw [hops]; rfl) (fun _ hw => hw) ?_
              refine z_skip_still rfl rfl (by rw [hops]; rfl) (fun _ hw => hw) ?_
              refine z_still (v := .bool true) (val_pick rfl rfl rfl) rfl rfl rfl (fun _ hw => hw) ?_
              obtain rfl := Option.some.inj H
              exact z_nil ((K _ () HJ trivial).weak (fun a ha => ha.cons rfl (ha.cons rfl (ha.cons rfl (ha.cons rfl (ha.cons rfl (ha.nil)))))) (fun w hw => hw))
          ·
            replace H := HB
            clear HB
            obtain ⟨x54, rfl⟩ : ∃ x, x = s := ⟨_, rfl⟩
            change T 56 _ _ _
            refine z_nil ?_
            cases x54
            ·
              replace H := cond_f H
              refine t_cond_false rfl ?_
              refine t_skip ?_
              refine t_fin ?_
              refine t_region (fun ops hops => ?_)
              clear hops
              obtain ⟨x55, hx55, H⟩ := Let_elim H
              refine z_val (v := .int .i64 x55) (by subst hx55; exact val_bin rfl rfl rfl rfl (i64_add _ _ _)) rfl rfl rfl (fun _ _ _ => trivial) ?_
              clear hx55
              refine z_val (v := .int .i64 x55) (val_move rfl rfl) rfl rfl rfl (fun _ _ _ => trivial) ?_
              refine z_nil ?_
              obtain rfl := Option.some.inj H
              exact t_reach ((hn1 _ () rfl trivial).weak (fun a ha => ha.cons rfl (ha.cons rfl (ha.cons rfl (ha.cons rfl (ha.nil))))) (fun w hw => hw))
            ·
              replace H := cond_t H
              refine t_cond_true rfl ?_
              refine t_seq ?_
              refine t_region (fun ops hops => ?_)
              clear hops
              refine z_val (v := .bool false) (val_assign rfl rfl) rfl rfl rfl (fun _ _ _ => trivial) ?_
              refine z_nil ?_
              refine t_ret ?_
              obtain rfl := Option.some.inj H
              have hz := hr1 _ rfl
              subst hz
              obtain rfl := Option.some.inj HK1
              exact ret1 rfl (res_tmp rfl) (fun _ hw => ⟨rfl, hw.below⟩)
    ·
      obtain ⟨x13, rfl⟩ : ∃ x, x = s := ⟨_, rfl⟩
      subst hzz
      have H := HK1
      clear HK1 hz1
      replace H := sum_l H
      try dsimp only at H
      change T 56 _ _ _
      refine t_seq ?_
      refine t_region (fun ops hops => ?_)
      clear hops
      refine z_val (v := .bool true) (val_assign rfl rfl) rfl rfl rfl (fun _ _ _ => trivial) ?_
      refine z_nil ?_
      refine t_ret ?_
      obtain rfl := Option.some.inj H
      exact ret1 rfl (res_tmp rfl) (fun _ hw => ⟨rfl, hw.below⟩)
  ·
    replace H := cond_t H
    refine t_cond_true rfl ?_
    refine t_seq ?_
    refine t_region (fun ops hops => ?_)
    clear hops
    refine z_val (v := .bool false) (val_assign rfl rfl) rfl rfl rfl (fun _ _ _ => trivial) ?_
    refine z_nil ?_
    refine t_ret ?_
    obtain rfl := Option.some.inj H
    exact ret1 rfl (res_tmp rfl) (fun _ hw => ⟨rfl, hw.below⟩)
def smithyref07_Great.b1 (x6 : Int) (a0 : List ((Bool) × (List (BitVec 8)) × (Int))) (x3 : Int) (x7 : Int) : Option (Ctl ((Int) × (Int)) (Bool)) :=
  Let (decide (x7 < x6)) fun x8 => (bif x8 then Chk ((0 : Int) ≤ x7 ∧ x7 < (a0.length : Int)) <| Let (lget a0 x7.toNat) fun x13 => Let ((x13.2.1.length : Int)) fun x16 => Let (if 5000 < x16 then 5000 else x16) fun x17 => Let (wi (1 + x17)) fun x18 => Let (wi (x3 + x18)) fun x19 => Let (decide (4000 < x19)) fun x21 => (bif x21 then some (.ret true) else Let (wi (x7 + 1)) fun x22 => some (.next (x19, x22))) else some (.brk (x3, x7)))
def smithyref07_Great (a0 : List ((Bool) × (List (BitVec 8)) × (Int))) : Option (Bool) :=
  Let ((a0.length : Int)) fun x6 => (wlx (σ := (Int) × (Int)) (fun s => smithyref07_Great.b1 x6 a0 s.1 s.2) (0, 0)).bind (Sum.elim (fun s => (fun x3 x7 => some false) s.1 s.2) (fun r => some r))
set_option maxRecDepth 100000 in
theorem smithyref07_Great.calls  (a0 : List ((Bool) × (List (BitVec 8)) × (Int))) (A0 : Option Addr) (c0 : Nat) (r : Bool) (H : smithyref07_Great a0 = some r) (w : World) (hs0 : SlRW w R60 A0 a0) (hc0 : a0.length ≤ c0)  :
    Made Try.prog 23 #[.slice A0 a0.length c0] w (.bool r) := by
  unfold smithyref07_Great at H
  replace hs0 := hs0.toH
  have hM := Mm.start w (snap w) (snap_ok w)
  generalize snap w = h at *
  refine t_enter (vs := [.slice A0 a0.length c0]) (n := 23) Try.func23 rfl rfl rfl hM ?_
  clear hM
  change T 23 _ _ _
  refine t_seq ?_
  refine t_region (fun ops hops => ?_)
  clear hops
  refine z_val (v := .bool false) (val_assign rfl rfl) rfl rfl rfl (fun _ _ _ => trivial) ?_
  refine z_nil ?_
  refine t_seq ?_
  refine t_region (fun ops hops => ?_)
  clear hops
  refine z_val (v := .int .i64 0) (val_assign rfl rfl) rfl rfl rfl (fun _ _ _ => trivial) ?_
  refine z_nil ?_
  refine t_seq ?_
  refine t_seq ?_
  refine t_region (fun ops hops => ?_)
  clear hops
  refine z_val (v := .slice A0 a0.length c0) (val_move rfl rfl) rfl rfl rfl (fun _ _ _ => trivial) ?_
  obtain ⟨x6, hx6, H⟩ := Let_elim H
  refine z_val (v := .int .i64 x6) (by subst hx6; exact val_len rfl rfl rfl Try.underlying46) rfl rfl rfl (fun _ _ _ => trivial) ?_
  clear hx6
  refine z_val (v := .int .i64 0) (val_move rfl rfl) rfl rfl rfl (fun _ _ _ => trivial) ?_
  refine z_nil ?_
  refine t_block ?_
  obtain ⟨z1, hz1, HK1⟩ := Option.bind_eq_some_iff.1 H
  clear H
  refine t_while hz1 (fun (s : (Int) × (Int)) (g : Unit) => [(0, .slice A0 a0.length c0), (3, .int .i64 s.1), (6, .int .i64 x6), (7, .int .i64 s.2)]) (fun (s : (Int) × (Int)) (g : Unit) => []) (fun (s : (Int) × (Int)) (g : Unit) => Mm w [] h []) (fun (s : (Int) × (Int)) (g : Unit) => Mm w [] h []) (fun (s : (Int) × (Int)) (g : Unit) => True) (fun (s : (Int) × (Int)) (g : Unit) => True) () trivial (fun a w ha hw => ⟨ha.cons rfl (ha.cons rfl (ha.cons rfl (ha.cons rfl (ha.nil)))), hw⟩) (fun Gn Gb s g e hφ H hn1 hb1 hr1 => ?_) (fun s g hzz hφ => ?_)
  ·
    obtain ⟨x3, x7⟩ := s
    change smithyref07_Great.b1 x6 a0 x3 x7 = some e at H
    unfold smithyref07_Great.b1 at H
    clear hz1
    change T 23 _ _ _
    refine t_seq ?_
    refine t_region (fun ops hops => ?_)
    clear hops
    obtain ⟨x8, hx8, H⟩ := Let_elim H
    refine z_val (v := .bool x8) (by subst hx8; exact val_bin rfl rfl rfl rfl (i64_lss _ _ _)) rfl rfl rfl (fun _ _ _ => trivial) ?_
    clear hx8
    refine z_nil ?_
    refine t_seq ?_
    cases x8
    ·
      replace H := cond_f H
      refine t_cond_false rfl ?_
      refine t_exit rfl ?_
      obtain rfl := Option.some.inj H
      exact t_reach ((hb1 _ () rfl trivial).weak (fun a ha => ha.nil) (fun w hw => hw))
    ·
      replace H := cond_t H
      refine t_cond_true rfl ?_
      refine t_skip ?_
      refine t_seq ?_
      refine t_block ?_
      refine t_seq ?_
      refine t_region (fun ops hops => ?_)
      clear hops
      refine z_val (v := .int .i64 x7) (val_move rfl rfl) rfl rfl rfl (fun _ _ _ => trivial) ?_
      refine z_val (v := .int .i64 x7) (val_assign rfl rfl) rfl rfl rfl (fun _ _ _ => trivial) ?_
      refine z_nil ?_
      refine t_seq ?_
      refine t_region (fun ops hops => ?_)
      clear hops
      refine z_val (v := .int .i64 x3) (val_move rfl rfl) rfl rfl rfl (fun _ _ _ => trivial) ?_
      refine z_val (v := .slice A0 a0.length c0) (val_move rfl rfl) rfl rfl rfl (fun _ _ _ => trivial) ?_
      refine z_val (v := .int .i64 x7) (val_move rfl rfl) rfl rfl rfl (fun _ _ _ => trivial) ?_
      obtain ⟨hq_1, H⟩ := Chk_elim H
      obtain ⟨x13, hx13, H⟩ := Let_elim H
      obtain ⟨b_7, o_8, hA_9, cs, hr, hc_6⟩ := hs0.at_ (show x7.toNat < a0.length from (idx_lt hq_1))
      rw [← hx13] at hr
      clear hx13
      obtain ⟨A_2, c_3, rfl, hs_4, hc_5⟩ := hr
      refine z_val (v := .pointer (some ⟨b_7, o_8 + x7.toNat * 3, none⟩)) (val_idxR rfl rfl rfl Try.underlying46 sz60 hq_1 hA_9 rfl) rfl rfl rfl (fun _ _ _ => trivial) ?_
      refine z_val (v := .pointer (some ⟨b_7, o_8 + x7.toNat * 3 + 1, none⟩)) (val_fldB (sz := 1) rfl rfl Try.underlying60 rfl rfl sz25 (by decide)) rfl rfl rfl (fun _ _ _ => trivial) ?_
      refine z_val (v := .slice A_2 x13.2.1.length c_3) (val_load1 rfl rfl Try.underlying25 rfl (fun _ hw => cell_of hc_6 (k := 1) (cells_skip (n := 1) (k := 0) rfl (cells_here (k := 0) rfl)) hw)) rfl rfl rfl (fun _ _ _ => trivial) ?_
      obtain ⟨x16, hx16, H⟩ := Let_elim H
      refine z_val (v := .int .i64 x16) (by subst hx16; exact val_len rfl rfl rfl Try.underlying25) rfl rfl rfl (fun _ _ _ => trivial) ?_
      clear hx16
      obtain ⟨x17, hx17, H⟩ := Let_elim H
      refine z_val (v := .int .i64 x17) (by subst hx17; exact val_min rfl rfl rfl) rfl rfl rfl (fun _ _ _ => trivial) ?_
      clear hx17
      obtain ⟨x18, hx18, H⟩ := Let_elim H
      refine z_val (v := .int .i64 x18) (by subst hx18; exact val_bin rfl rfl rfl rfl (i64_add _ _ _)) rfl rfl rfl (fun _ _ _ => trivial) ?_
      clear hx18
      obtain ⟨x19, hx19, H⟩ := Let_elim H
      refine z_val (v := .int .i64 x19) (by subst hx19; exact val_bin rfl rfl rfl rfl (i64_add _ _ _)) rfl rfl rfl (fun _ _ _ => trivial) ?_
      clear hx19
      refine z_val (v := .int .i64 x19) (val_assign rfl rfl) rfl rfl rfl (fun _ _ _ => trivial) ?_
      refine z_nil ?_
      refine t_seq ?_
      refine t_region (fun ops hops => ?_)
      clear hops
      refine z_val (v := .int .i64 x19) (val_move rfl rfl) rfl rfl rfl (fun _ _ _ => trivial) ?_
      obtain ⟨x21, hx21, H⟩ := Let_elim H
      refine z_val (v := .bool x21) (by subst hx21; exact val_bin rfl rfl rfl rfl (i64_gtr _ _ _)) rfl rfl rfl (fun _ _ _ => trivial) ?_
      clear hx21
      refine z_nil ?_
      cases x21
      ·
        replace H := cond_f H
        refine t_cond_false rfl ?_
        refine t_skip ?_
        refine t_fin ?_
        refine t_region (fun ops hops => ?_)
        clear hops
        obtain ⟨x22, hx22, H⟩ := Let_elim H
        refine z_val (v := .int .i64 x22) (by subst hx22; exact val_bin rfl rfl rfl rfl (i64_add _ _ _)) rfl rfl rfl (fun _ _ _ => trivial) ?_
        clear hx22
        refine z_val (v := .int .i64 x22) (val_move rfl rfl) rfl rfl rfl (fun _ _ _ => trivial) ?_
        refine z_nil ?_
        obtain rfl := Option.some.inj H
        exact t_reach ((hn1 _ () rfl trivial).weak (fun a ha => ha.cons rfl (ha.cons rfl (ha.cons rfl (ha.cons rfl (ha.nil))))) (fun w hw => hw))
      ·
        replace H := cond_t H
        refine t_cond_true rfl ?_
        refine t_seq ?_
        refine t_region (fun ops hops => ?_)
        clear hops
        refine z_val (v := .bool true) (val_assign rfl rfl) rfl rfl rfl (fun _ _ _ => trivial) ?_
        refine z_nil ?_
        refine t_ret ?_
        obtain rfl := Option.some.inj H
        have hz := hr1 _ rfl
        subst hz
        obtain rfl := Option.some.inj HK1
        exact ret1 rfl (res_tmp rfl) (fun _ hw => ⟨rfl, hw.below⟩)
  ·
    obtain ⟨x3, x7⟩ := s
    subst hzz
    have H := HK1
    clear HK1 hz1
    replace H := sum_l H
    try dsimp only at H
    change T 23 _ _ _
    refine t_seq ?_
    refine t_region (fun ops hops => ?_)
    clear hops
    refine z_val (v := .bool false) (val_assign rfl rfl) rfl rfl rfl (fun _ _ _ => trivial) ?_
    refine z_nil ?_
    refine t_ret ?_
    obtain rfl := Option.some.inj H
    exact ret1 rfl (res_tmp rfl) (fun _ hw => ⟨rfl, hw.below⟩)
end Go.Proofs.Ytapfkdcilfpbhaa
