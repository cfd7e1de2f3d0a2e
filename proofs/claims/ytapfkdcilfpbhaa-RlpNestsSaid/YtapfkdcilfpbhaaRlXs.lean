/- Functions of the program as plain functions, and their walks, printed by walk.py. -/
import Derived.Test.YtapfkdcilfpbhaaRlF
import Derived.Test.YtapfkdcilfpbhaaRlXf
import Derived.Test.YtapfkdcilfpbhaaRlC
import Derived.Test.YtapfkdcilfpbhaaRlS
namespace Go.Proofs.Ytapfkdcilfpbhaa
open Go.RowKit
set_option linter.unusedVariables false
set_option linter.unusedSimpArgs false
def smithylaw07_RlpNests.b1 (x18 : Int) (x6 : List ((Bool) × (List (BitVec 8)) × (Int))) (x20 : Int) : Option (Ctl ((List ((Bool) × (List (BitVec 8)) × (Int))) × (Int)) (Bool)) :=
  Let (decide (x20 < x18)) fun x21 => (bif x21 then Let (wi (x18 - x20)) fun x26 => Let (([(true, ([] : List (BitVec 8)), x26)] : List ((Bool) × (List (BitVec 8)) × (Int)))) fun x28 => Chk ((x6.length + x28.length) * 40 ≤ 140737488355328) <| Let (x6 ++ x28) fun x29 => Let (wi (x20 + 1)) fun x30 => some (.next (x29, x30)) else some (.brk (x6, x20)))
def smithylaw07_RlpNests (a0 : BitVec 8) (a1 : List (BitVec 8)) : Option (Bool) :=
  Let ((a1.length : Int)) fun x13 => Let (decide (300 < x13)) fun x14 => (bif x14 then (smithylaw07_fixed).bind fun x15 => some x15 else Let ((a0.toNat : Int)) fun x17 => Let (Int.tmod x17 70) fun x18 => (wlx (σ := (List ((Bool) × (List (BitVec 8)) × (Int))) × (Int)) (fun s => smithylaw07_RlpNests.b1 x18 s.1 s.2) (([] : List ((Bool) × (List (BitVec 8)) × (Int))), 0)).bind (Sum.elim (fun s => (fun x6 x20 => Let (([(false, a1, 0)] : List ((Bool) × (List (BitVec 8)) × (Int)))) fun x34 => Chk ((x6.length + x34.length) * 40 ≤ 140737488355328) <| Let (x6 ++ x34) fun x35 => (rlp_Encode x35).bind fun x38 => Let (decide (64 < x18)) fun x42 => (bif x42 then (smithylaw07_fixed).bind fun x43 => (bif x43 then Let ((x38.1.length : Int)) fun x46 => Let (x46 == 0) fun x47 => some x47 else some false).bind (fun x48 => (bif x48 then Let (x38.2 == 4) fun x51 => some x51 else some false).bind (fun x52 => some x52)) else (rlp_Decode x38.1).bind fun x55 => (smithylaw07_fixed).bind fun x58 => (bif x58 then Let (x38.2 == 0) fun x61 => some x61 else some false).bind (fun x62 => (bif x62 then Let (x55.2 == 0) fun x65 => some x65 else some false).bind (fun x66 => (bif x66 then (smithyref07_Same x55.1 x35).bind fun x70 => some x70 else some false).bind (fun x71 => some x71))))) s.1 s.2) (fun r => some r)))
set_option maxRecDepth 100000 in
theorem smithylaw07_RlpNests.calls  (a0 : BitVec 8) (a1 : List (BitVec 8)) (A1 : Option Addr) (c1 : Nat) (r : Bool) (H : smithylaw07_RlpNests a0 a1 = some r) (w : World) (hs1 : SlW w U8 A1 a1) (hc1 : a1.length ≤ c1)  :
    Made Try.prog 7 #[U8 a0, .slice A1 a1.length c1] w (.bool r) := by
  unfold smithylaw07_RlpNests at H
  replace hs1 := hs1.toH
  have hM := Mm.start w (snap w) (snap_ok w)
  generalize snap w = h at *
  refine t_enter (vs := [U8 a0, .slice A1 a1.length c1]) (n := 72) Try.func7 rfl rfl rfl hM ?_
  clear hM
  change T 72 _ _ _
  refine t_seq ?_
  refine t_region (fun ops hops => ?_)
  clear hops
  refine z_val (v := .bool false) (val_assign rfl rfl) rfl rfl rfl (fun _ _ _ => trivial) ?_
  refine z_nil ?_
  refine t_seq ?_
  refine t_seq ?_
  refine t_region (fun ops hops => ?_)
  clear hops
  refine z_val (v := .slice A1 a1.length c1) (val_move rfl rfl) rfl rfl rfl (fun _ _ _ => trivial) ?_
  obtain ⟨x13, hx13, H⟩ := Let_elim H
  refine z_val (v := .int .i64 x13) (by subst hx13; exact val_len rfl rfl rfl Try.underlying25) rfl rfl rfl (fun _ _ _ => trivial) ?_
  clear hx13
  obtain ⟨x14, hx14, H⟩ := Let_elim H
  refine z_val (v := .bool x14) (by subst hx14; exact val_bin rfl rfl rfl rfl (i64_gtr _ _ _)) rfl rfl rfl (fun _ _ _ => trivial) ?_
  clear hx14
  refine z_nil ?_
  cases x14
  ·
    replace H := cond_f H
    refine t_cond_false rfl ?_
    refine t_skip ?_
    refine t_seq ?_
    refine t_region (fun ops hops => ?_)
    clear hops
    refine z_val (v := U8 a0) (val_move rfl rfl) rfl rfl rfl (fun _ _ _ => trivial) ?_
    obtain ⟨x17, hx17, H⟩ := Let_elim H
    refine z_val (v := .int .i64 x17) (by subst hx17; exact val_conv rfl rfl (fun w => conv_u8_int w _ _ _ (by rw [Try.underlying5]; rfl) Try.underlying3)) rfl rfl rfl (fun _ _ _ => trivial) ?_
    clear hx17
    obtain ⟨x18, hx18, H⟩ := Let_elim H
    refine z_val (v := .int .i64 x18) (by subst hx18; exact val_bin rfl rfl rfl rfl (i64_rem _ _ _ (by decide))) rfl rfl rfl (fun _ _ _ => trivial) ?_
    clear hx18
    refine z_val (v := .int .i64 x18) (val_assign rfl rfl) rfl rfl rfl (fun _ _ _ => trivial) ?_
    refine z_nil ?_
    refine t_seq ?_
    refine t_region (fun ops hops => ?_)
    clear hops
    refine z_val (v := .slice none 0 0) (val_assign rfl rfl) rfl rfl rfl (fun _ _ _ => trivial) ?_
    refine z_nil ?_
    refine t_seq ?_
    refine t_seq ?_
    refine t_region (fun ops hops => ?_)
    clear hops
    refine z_val (v := .int .i64 x18) (val_move rfl rfl) rfl rfl rfl (fun _ _ _ => trivial) ?_
    refine z_val (v := .int .i64 0) (val_move rfl rfl) rfl rfl rfl (fun _ _ _ => trivial) ?_
    refine z_nil ?_
    refine t_block ?_
    refine t_nil (e := 60) (sz := 3) ?_
    obtain ⟨z1, hz1, HK1⟩ := Option.bind_eq_some_iff.1 H
    clear H
    refine t_while hz1 (fun (s : (List ((Bool) × (List (BitVec 8)) × (Int))) × (Int)) (g : (Option Addr) × (Nat) × (List Value)) => [(1, .slice A1 a1.length c1), (5, .int .i64 x18), (6, .slice g.1 s.1.length g.2.1), (19, .int .i64 x18), (20, .int .i64 s.2)]) (fun (s : (List ((Bool) × (List (BitVec 8)) × (Int))) × (Int)) (g : (Option Addr) × (Nat) × (List Value)) => [(1, .slice A1 a1.length c1), (5, .int .i64 x18), (6, .slice g.1 s.1.length g.2.1)]) (fun (s : (List ((Bool) × (List (BitVec 8)) × (Int))) × (Int)) (g : (Option Addr) × (Nat) × (List Value)) => Mm w [] h [.row (.slice g.1 s.1.length g.2.1) 60 3 g.2.2]) (fun (s : (List ((Bool) × (List (BitVec 8)) × (Int))) × (Int)) (g : (Option Addr) × (Nat) × (List Value)) => Mm w [] h [.row (.slice g.1 s.1.length g.2.1) 60 3 g.2.2]) (fun (s : (List ((Bool) × (List (BitVec 8)) × (Int))) × (Int)) (g : (Option Addr) × (Nat) × (List Value)) => Shp g.1 s.1.length g.2.1 ∧ RpL h R60 s.1 g.2.2) (fun (s : (List ((Bool) × (List (BitVec 8)) × (Int))) × (Int)) (g : (Option Addr) × (Nat) × (List Value)) => Shp g.1 s.1.length g.2.1 ∧ RpL h R60 s.1 g.2.2) ⟨none, 0, []⟩ ⟨Shp.none_, RpL.nil⟩ (fun a w ha hw => ⟨ha.cons rfl (ha.cons rfl (ha.cons rfl (ha.cons rfl (ha.cons rfl (ha.nil))))), hw⟩) (fun Gn Gb s g e hφ H hn1 hb1 hr1 => ?_) (fun s g hzz hφ => ?_)
    ·
      obtain ⟨x6, x20⟩ := s
      obtain ⟨A_2, c_3, cs⟩ := g
      try dsimp only at hφ
      obtain ⟨hs_4, hr⟩ := hφ
      change smithylaw07_RlpNests.b1 x18 x6 x20 = some e at H
      unfold smithylaw07_RlpNests.b1 at H
      clear hz1
      change T 72 _ _ _
      refine t_seq ?_
      refine t_region (fun ops hops => ?_)
      clear hops
      obtain ⟨x21, hx21, H⟩ := Let_elim H
      refine z_val (v := .bool x21) (by subst hx21; exact val_bin rfl rfl rfl rfl (i64_lss _ _ _)) rfl rfl rfl (fun _ _ _ => trivial) ?_
      clear hx21
      refine z_nil ?_
      refine t_seq ?_
      cases x21
      ·
        replace H := cond_f H
        refine t_cond_false rfl ?_
        refine t_exit rfl ?_
        obtain rfl := Option.some.inj H
        exact t_reach ((hb1 _ ⟨A_2, c_3, cs⟩ rfl ⟨hs_4, hr⟩).weak (fun a ha => ha.cons rfl (ha.cons rfl (ha.cons rfl (ha.nil)))) (fun w hw => hw))
      ·
        replace H := cond_t H
        refine t_cond_true rfl ?_
        refine t_skip ?_
        refine t_seq ?_
        refine t_block ?_
        refine t_seq ?_
        refine t_region (fun ops hops => ?_)
        clear hops
        refine z_val (v := .int .i64 x20) (val_move rfl rfl) rfl rfl rfl (fun _ _ _ => trivial) ?_
        refine z_val (v := .int .i64 x20) (val_assign rfl rfl) rfl rfl rfl (fun _ _ _ => trivial) ?_
        refine z_nil ?_
        refine t_region (fun ops hops => ?_)
        clear hops
        refine z_val (v := .slice A_2 x6.length c_3) (val_move rfl rfl) rfl rfl rfl (fun _ _ _ => trivial) ?_
        refine z_val (v := .int .i64 x18) (val_move rfl rfl) rfl rfl rfl (fun _ _ _ => trivial) ?_
        refine z_val (v := .int .i64 x20) (val_move rfl rfl) rfl rfl rfl (fun _ _ _ => trivial) ?_
        obtain ⟨x26, hx26, H⟩ := Let_elim H
        refine z_val (v := .int .i64 x26) (by subst hx26; exact val_bin rfl rfl rfl rfl (i64_sub _ _ _)) rfl rfl rfl (fun _ _ _ => trivial) ?_
        clear hx26
        refine z_val (v := .agg ([(.bool true : Value)] ++ ([(.slice none ([] : List (BitVec 8)).length 0 : Value)] ++ ([(.int .i64 x26 : Value)]))).toArray) (val_build (vs := [(0, .bool true), (2, .int .i64 x26)]) rfl rfl (fun w => by kernel_rfl)) rfl rfl rfl (fun _ _ _ => trivial) ?_
        obtain ⟨x28, hx28, H⟩ := Let_elim H
        have hlx28 : x28.length = 1 := by subst hx28; rfl
        have hr_5 : RpL h R60 x28 (([(.bool true : Value)] ++ ([(.slice none ([] : List (BitVec 8)).length 0 : Value)] ++ ([(.int .i64 x26 : Value)]))) ++ (([] : List Value))) := by subst hx28; exact ⟨_, _, rfl, ⟨none, 0, rfl, (SlH.nil : SlH _ U8 none (([] : List (BitVec 8)))), (Nat.le_refl _)⟩, rfl⟩
        refine z_buildR (e := 60) (cs := ([(.bool true : Value)] ++ ([(.slice none ([] : List (BitVec 8)).length 0 : Value)] ++ ([(.int .i64 x26 : Value)]))) ++ (([] : List Value))) (xs := x28) (vs := [(0, .agg ([(.bool true : Value)] ++ ([(.slice none ([] : List (BitVec 8)).length 0 : Value)] ++ ([(.int .i64 x26 : Value)]))).toArray)]) rfl rfl (by intro w; kernel_rfl) hlx28 hr_5.len (by decide) rfl rfl rfl (fun _ _ _ _ => trivial) (fun g_6 hs_8 => ?_)
        generalize (([(.bool true : Value)] ++ ([(.slice none ([] : List (BitVec 8)).length 0 : Value)] ++ ([(.int .i64 x26 : Value)]))) ++ (([] : List Value))) = cs_9 at *
        clear hx28 hlx28
        obtain ⟨hq_10, H⟩ := Chk_elim H
        obtain ⟨x29, hx29, H⟩ := Let_elim H
        refine z_appendR (R := R60) (j := 1) (xs := x6) (ys := x28) (zs := x29) rfl rfl Try.underlying46 in60 rfl rfl (by decide) rfl rfl hr rfl (fun w hw => own_rd hw (j := 0) rfl hr_5 hs_8) hq_10 (by decide) hx29 (fun A_11 c_12 cs_14 => [.row (.slice (some ⟨g_6, 0, none⟩) x28.length 1) 60 3 cs_9, .row (.slice A_11 x29.length c_12) 60 3 cs_14]) (fun _ _ _ => rfl) rfl rfl rfl (fun _ _ _ _ _ _ => trivial) (fun A_11 c_12 cs_14 hs_13 hr_15 => ?_)
        clear hx29
        refine z_val (v := .slice A_11 x29.length c_12) (val_assign rfl rfl) rfl rfl rfl (fun _ _ _ => trivial) ?_
        refine z_nil ?_
        refine t_fin ?_
        refine t_region (fun ops hops => ?_)
        clear hops
        obtain ⟨x30, hx30, H⟩ := Let_elim H
        refine z_val (v := .int .i64 x30) (by subst hx30; exact val_bin rfl rfl rfl rfl (i64_add _ _ _)) rfl rfl rfl (fun _ _ _ => trivial) ?_
        clear hx30
        refine z_val (v := .int .i64 x30) (val_move rfl rfl) rfl rfl rfl (fun _ _ _ => trivial) ?_
        refine z_nil ?_
        obtain rfl := Option.some.inj H
        exact t_reach ((hn1 _ ⟨A_11, c_12, cs_14⟩ rfl ⟨hs_13, hr_15⟩).weak (fun a ha => ha.cons rfl (ha.cons rfl (ha.cons rfl (ha.cons rfl (ha.cons rfl (ha.nil)))))) (fun w hw => hw.sel [1] rfl rfl))
    ·
      obtain ⟨x6, x20⟩ := s
      obtain ⟨A_2, c_3, cs⟩ := g
      try dsimp only at hφ
      obtain ⟨hs_4, hr⟩ := hφ
      subst hzz
      have H := HK1
      clear HK1 hz1
      replace H := sum_l H
      try dsimp only at H
      change T 72 _ _ _
      refine t_seq ?_
      refine t_region (fun ops hops => ?_)
      clear hops
      refine z_val (v := .slice A_2 x6.length c_3) (val_move rfl rfl) rfl rfl rfl (fun _ _ _ => trivial) ?_
      refine z_val (v := .slice A1 a1.length c1) (val_move rfl rfl) rfl rfl rfl (fun _ _ _ => trivial) ?_
      refine z_val (v := .agg ([(.bool false : Value)] ++ ([(.slice A1 a1.length c1 : Value)] ++ ([(.int .i64 0 : Value)]))).toArray) (val_build (vs := [(1, .slice A1 a1.length c1)]) rfl rfl (fun w => by kernel_rfl)) rfl rfl rfl (fun _ _ _ => trivial) ?_
      obtain ⟨x34, hx34, H⟩ := Let_elim H
      have hlx34 : x34.length = 1 := by subst hx34; rfl
      have hr_16 : RpL h R60 x34 (([(.bool false : Value)] ++ ([(.slice A1 a1.length c1 : Value)] ++ ([(.int .i64 0 : Value)]))) ++ (([] : List Value))) := by subst hx34; exact ⟨_, _, rfl, ⟨A1, c1, rfl, hs1, hc1⟩, rfl⟩
      refine z_buildR (e := 60) (cs := ([(.bool false : Value)] ++ ([(.slice A1 a1.length c1 : Value)] ++ ([(.int .i64 0 : Value)]))) ++ (([] : List Value))) (xs := x34) (vs := [(0, .agg ([(.bool false : Value)] ++ ([(.slice A1 a1.length c1 : Value)] ++ ([(.int .i64 0 : Value)]))).toArray)]) rfl rfl (by intro w; kernel_rfl) hlx34 hr_16.len (by decide) rfl rfl rfl (fun _ _ _ _ => trivial) (fun g_17 hs_19 => ?_)
      generalize (([(.bool false : Value)] ++ ([(.slice A1 a1.length c1 : Value)] ++ ([(.int .i64 0 : Value)]))) ++ (([] : List Value))) = cs_20 at *
      clear hx34 hlx34
      obtain ⟨hq_21, H⟩ := Chk_elim H
      obtain ⟨x35, hx35, H⟩ := Let_elim H
      refine z_appendR (R := R60) (j := 1) (xs := x6) (ys := x34) (zs := x35) rfl rfl Try.underlying46 in60 rfl rfl (by decide) rfl rfl hr rfl (fun w hw => own_rd hw (j := 0) rfl hr_16 hs_19) hq_21 (by decide) hx35 (fun A_22 c_23 cs_25 => [.row (.slice (some ⟨g_17, 0, none⟩) x34.length 1) 60 3 cs_20, .row (.slice A_22 x35.length c_23) 60 3 cs_25]) (fun _ _ _ => rfl) rfl rfl rfl (fun _ _ _ _ _ _ => trivial) (fun A_22 c_23 cs_25 hs_24 hr_26 => ?_)
      clear hx35
      refine z_val (v := .slice A_22 x35.length c_23) (val_assign rfl rfl) rfl rfl rfl (fun _ _ _ => trivial) ?_
      refine z_nil ?_
      refine t_seq ?_
      refine t_region (fun ops hops => ?_)
      clear hops
      refine z_val (v := .slice A_22 x35.length c_23) (val_move rfl rfl) rfl rfl rfl (fun _ _ _ => trivial) ?_
      obtain ⟨x38, hx, H⟩ := Option.bind_eq_some_iff.1 H
      refine z_madeS (F := fun A_27 c_28 => .tuple #[.slice A_27 x38.1.length c_28, .int .i64 x38.2]) (xs := x38.1) rfl Try.func24 nm24 bs24 rfl (fun w hw => rlp_Encode.calls x35 A_22 c_23 x38 hx w (own_rw hw (j := 1) rfl hr_26 hs_24) hs_24.le) rfl rfl rfl (fun _ _ _ _ _ => trivial) (fun A_27 c_28 hs_29 => ?_)
      clear hx
      refine z_val (v := .tuple #[.slice A_27 x38.1.length c_28, .int .i64 x38.2]) (val_move rfl rfl) rfl rfl rfl (fun _ _ _ => trivial) ?_
      refine z_val (v := .slice A_27 x38.1.length c_28) (val_extract rfl rfl rfl) rfl rfl rfl (fun _ _ _ => trivial) ?_
      refine z_val (v := .int .i64 x38.2) (val_extract rfl rfl rfl) rfl rfl rfl (fun _ _ _ => trivial) ?_
      refine z_val (v := .slice A_27 x38.1.length c_28) (val_assign rfl rfl) rfl rfl rfl (fun _ _ _ => trivial) ?_
      refine z_val (v := .int .i64 x38.2) (val_assign rfl rfl) rfl rfl rfl (fun _ _ _ => trivial) ?_
      refine z_nil ?_
      refine t_seq ?_
      refine t_seq ?_
      refine t_region (fun ops hops => ?_)
      clear hops
      refine z_val (v := .int .i64 x18) (val_move rfl rfl) rfl rfl rfl (fun _ _ _ => trivial) ?_
      obtain ⟨x42, hx42, H⟩ := Let_elim H
      refine z_val (v := .bool x42) (by subst hx42; exact val_bin rfl rfl rfl rfl (i64_gtr _ _ _)) rfl rfl rfl (fun _ _ _ => trivial) ?_
      clear hx42
      refine z_nil ?_
      cases x42
      ·
        replace H := cond_f H
        refine t_cond_false rfl ?_
        refine t_skip ?_
        refine t_seq ?_
        refine t_seal (fun h_31 hS hs_32 => ?_)
        have hc_33 := hs_29.le
        replace hs1 := hs1.up hS
        replace hr_26 := RpL.up hS hr_26
        replace hr_16 := RpL.up hS hr_16
        refine t_region (fun ops hops => ?_)
        clear hops
        refine z_val (v := .slice A_27 x38.1.length c_28) (val_move rfl rfl) rfl rfl rfl (fun _ _ _ => trivial) ?_
        obtain ⟨x55, hx_34, H⟩ := Option.bind_eq_some_iff.1 H
        refine z_callG rfl Try.func26 nm26 bs26 rfl (fun w hw => rlp_Decode.calls x38.1 A_27 c_28 x55 hx_34 hs_32 hc_33 hw) rfl rfl rfl (fun _ _ _ _ _ => trivial) (fun g hφ => ?_)
        obtain ⟨h_35, A_38, c_39, cs_41⟩ := g
        try dsimp only at hφ
        obtain ⟨hS_36, hs_40, hr_42⟩ := hφ
        clear hx_34
        change T 72 _ _ _
        replace hs1 := hs1.up hS_36
        replace hr_26 := RpL.up hS_36 hr_26
        replace hr_16 := RpL.up hS_36 hr_16
        replace hs_32 := hs_32.up hS_36
        refine z_val (v := .tuple #[.slice A_38 x55.1.length c_39, .int .i64 x55.2]) (val_move rfl rfl) rfl rfl rfl (fun _ _ _ => trivial) ?_
        refine z_val (v := .slice A_38 x55.1.length c_39) (val_extract rfl rfl rfl) rfl rfl rfl (fun _ _ _ => trivial) ?_
        refine z_val (v := .int .i64 x55.2) (val_extract rfl rfl rfl) rfl rfl rfl (fun _ _ _ => trivial) ?_
        refine z_val (v := .slice A_38 x55.1.length c_39) (val_assign rfl rfl) rfl rfl rfl (fun _ _ _ => trivial) ?_
        refine z_val (v := .int .i64 x55.2) (val_assign rfl rfl) rfl rfl rfl (fun _ _ _ => trivial) ?_
        refine z_nil ?_
        refine t_seq ?_
        refine t_region (fun ops hops => ?_)
        obtain ⟨x58, hx_43, H⟩ := Option.bind_eq_some_iff.1 H
        refine z_made (v := .bool x58) rfl Try.func10 nm10 bs10 rfl (fun w hw => smithylaw07_fixed.calls x58 hx_43 w) rfl rfl rfl (fun _ _ _ => trivial) ?_
        clear hx_43
        refine z_val (v := .bool x58) (val_move rfl rfl) rfl rfl rfl (fun _ _ _ => trivial) ?_
        refine z_bind H 3 (fun (s : Bool) (_ : Unit) => [(6, .slice A_22 x35.length c_23), (10, .slice A_38 x55.1.length c_39), (11, .int .i64 x55.2), (62, .bool s)]) (fun _ _ => Mm w [] h_35 [.row (.slice A_38 x55.1.length c_39) 60 3 cs_41, .row (.slice (some ⟨g_17, 0, none⟩) x34.length 1) 60 3 cs_20, .row (.slice A_22 x35.length c_23) 60 3 cs_25]) (fun _ _ => True) (fun Gr K s he HJ => ?_) (fun s g HB _ => ?_)
        ·
          clear H
          cases x58
          ·
            have H := cond_f he
            clear he
            refine z_skip rfl rfl (by rw [hops]; rfl) (fun _ _ _ => trivial) ?_
            refine z_skip rfl rfl (by rw [hops]; rfl) (fun _ _ _ => trivial) ?_
            refine z_val (v := .bool false) (val_pick rfl rfl rfl) rfl rfl rfl (fun _ _ _ => trivial) ?_
            obtain rfl := Option.some.inj H
            exact z_nil ((K _ () HJ trivial).weak (fun a ha => ha.cons rfl (ha.cons rfl (ha.cons rfl (ha.cons rfl (ha.nil))))) (fun w hw => hw))
          ·
            have H := cond_t he
            clear he
            refine z_val (v := .int .i64 x38.2) (val_move rfl rfl) rfl rfl (by rw [hops]; rfl) (fun _ _ _ => trivial) ?_
            obtain ⟨x61, hx61, H⟩ := Let_elim H
            refine z_val (v := .bool x61) (by subst hx61; exact val_bin rfl rfl rfl rfl (i64_eql _ _ _)) rfl rfl (by rw [hops]; rfl) (fun _ _ _ => trivial) ?_
            clear hx61
            refine z_val (v := .bool x61) (val_pick rfl rfl rfl) rfl rfl rfl (fun _ _ _ => trivial) ?_
            obtain rfl := Option.some.inj H
            exact z_nil ((K _ () HJ trivial).weak (fun a ha => ha.cons rfl (ha.cons rfl (ha.cons rfl (ha.cons rfl (ha.nil))))) (fun w hw => hw))
        ·
          replace H := HB
          clear HB
          obtain ⟨x62, rfl⟩ : ∃ x, x = s := ⟨_, rfl⟩
          change T 72 _ _ _
          refine z_val (v := .bool x62) (val_move rfl rfl) rfl rfl rfl (fun _ _ _ => trivial) ?_
          refine z_bind H 3 (fun (s : Bool) (_ : Unit) => [(6, .slice A_22 x35.length c_23), (10, .slice A_38 x55.1.length c_39), (66, .bool s)]) (fun _ _ => Mm w [] h_35 [.row (.slice A_38 x55.1.length c_39) 60 3 cs_41, .row (.slice (some ⟨g_17, 0, none⟩) x34.length 1) 60 3 cs_20, .row (.slice A_22 x35.length c_23) 60 3 cs_25]) (fun _ _ => True) (fun Gr K s he HJ => ?_) (fun s g HB _ => ?_)
          ·
            clear H
            cases x62
            ·
              have H := cond_f he
              clear he
              refine z_skip rfl rfl (by rw [hops]; rfl) (fun _ _ _ => trivial) ?_
              refine z_skip rfl rfl (by rw [hops]; rfl) (fun _ _ _ => trivial) ?_
              refine z_val (v := .bool false) (val_pick rfl rfl rfl) rfl rfl rfl (fun _ _ _ => trivial) ?_
              obtain rfl := Option.some.inj H
              exact z_nil ((K _ () HJ trivial).weak (fun a ha => ha.cons rfl (ha.cons rfl (ha.cons rfl (ha.nil)))) (fun w hw => hw))
            ·
              have H := cond_t he
              clear he
              refine z_val (v := .int .i64 x55.2) (val_move rfl rfl) rfl rfl (by rw [hops]; rfl) (fun _ _ _ => trivial) ?_
              obtain ⟨x65, hx65, H⟩ := Let_elim H
              refine z_val (v := .bool x65) (by subst hx65; exact val_bin rfl rfl rfl rfl (i64_eql _ _ _)) rfl rfl (by rw [hops]; rfl) (fun _ _ _ => trivial) ?_
              clear hx65
              refine z_val (v := .bool x65) (val_pick rfl rfl rfl) rfl rfl rfl (fun _ _ _ => trivial) ?_
              obtain rfl := Option.some.inj H
              exact z_nil ((K _ () HJ trivial).weak (fun a ha => ha.cons rfl (ha.cons rfl (ha.cons rfl (ha.nil)))) (fun w hw => hw))
          ·
            replace H := HB
            clear HB
            obtain ⟨x66, rfl⟩ : ∃ x, x = s := ⟨_, rfl⟩
            change T 72 _ _ _
            refine z_val (v := .bool x66) (val_move rfl rfl) rfl rfl rfl (fun _ _ _ => trivial) ?_
            refine z_bind H 4 (fun (s : Bool) (_ : Unit) => [(71, .bool s)]) (fun _ _ => Mm w [] h_35 [.row (.slice A_38 x55.1.length c_39) 60 3 cs_41, .row (.slice (some ⟨g_17, 0, none⟩) x34.length 1) 60 3 cs_20, .row (.slice A_22 x35.length c_23) 60 3 cs_25]) (fun _ _ => True) (fun Gr K s he HJ => ?_) (fun s g HB _ => ?_)
            ·
              clear H
              cases x66
              ·
                have H := cond_f he
                clear he
                refine z_skip rfl rfl (by rw [hops]; rfl) (fun _ _ _ => trivial) ?_
                refine z_skip rfl rfl (by rw [hops]; rfl) (fun _ _ _ => trivial) ?_
                refine z_skip rfl rfl (by rw [hops]; rfl) (fun _ _ _ => trivial) ?_
                refine z_val (v := .bool false) (val_pick rfl rfl rfl) rfl rfl rfl (fun _ _ _ => trivial) ?_
                obtain rfl := Option.some.inj H
                exact z_nil ((K _ () HJ trivial).weak (fun a ha => ha.cons rfl (ha.nil)) (fun w hw => hw))
              ·
                have H := cond_t he
                clear he
                refine z_val (v := .slice A_38 x55.1.length c_39) (val_move rfl rfl) rfl rfl (by rw [hops]; rfl) (fun _ _ _ => trivial) ?_
                refine z_val (v := .slice A_22 x35.length c_23) (val_move rfl rfl) rfl rfl (by rw [hops]; rfl) (fun _ _ _ => trivial) ?_
                obtain ⟨x70, hx_44, H⟩ := Option.bind_eq_some_iff.1 H
                refine z_made (v := .bool x70) rfl Try.func27 nm27 bs27 rfl (fun w hw => smithyref07_Same.calls x55.1 x35 A_38 c_39 A_22 c_23 x70 hx_44 w (own_rw hw (j := 0) rfl hr_42 hs_40) hs_40.le (own_rw hw (j := 2) rfl hr_26 hs_24) hs_24.le) rfl rfl (by rw [hops]; rfl) (fun _ _ _ => trivial) ?_
                clear hx_44
                refine z_val (v := .bool x70) (val_pick rfl rfl rfl) rfl rfl rfl (fun _ _ _ => trivial) ?_
                obtain rfl := Option.some.inj H
                exact z_nil ((K _ () HJ trivial).weak (fun a ha => ha.cons rfl (ha.nil)) (fun w hw => hw))
            ·
              replace H := HB
              clear HB
              obtain ⟨x71, rfl⟩ : ∃ x, x = s := ⟨_, rfl⟩
              change T 72 _ _ _
              refine z_val (v := .bool x71) (val_assign rfl rfl) rfl rfl rfl (fun _ _ _ => trivial) ?_
              refine z_nil ?_
              refine t_ret ?_
              obtain rfl := Option.some.inj H
              exact ret1 rfl (res_tmp rfl) (fun _ hw => ⟨rfl, hw.below⟩)
      ·
        replace H := cond_t H
        refine t_cond_true rfl ?_
        refine t_seq ?_
        refine t_region (fun ops hops => ?_)
        obtain ⟨x43, hx_45, H⟩ := Option.bind_eq_some_iff.1 H
        refine z_made (v := .bool x43) rfl Try.func10 nm10 bs10 rfl (fun w hw => smithylaw07_fixed.calls x43 hx_45 w) rfl rfl rfl (fun _ _ _ => trivial) ?_
        clear hx_45
        refine z_val (v := .bool x43) (val_move rfl rfl) rfl rfl rfl (fun _ _ _ => trivial) ?_
        refine z_bind H 4 (fun (s : Bool) (_ : Unit) => [(9, .int .i64 x38.2), (48, .bool s)]) (fun _ _ => Mm w [] h [.row (.slice A_27 x38.1.length c_28) 5 1 (x38.1.map U8), .row (.slice (some ⟨g_17, 0, none⟩) x34.length 1) 60 3 cs_20, .row (.slice A_22 x35.length c_23) 60 3 cs_25]) (fun _ _ => True) (fun Gr K s he HJ => ?_) (fun s g HB _ => ?_)
        ·
          clear H
          cases x43
          ·
            have H := cond_f he
            clear he
            refine z_skip rfl rfl (by rw [hops]; rfl) (fun _ _ _ => trivial) ?_
            refine z_skip rfl rfl (by rw [hops]; rfl) (fun _ _ _ => trivial) ?_
            refine z_skip rfl rfl (by rw [hops]; rfl) (fun _ _ _ => trivial) ?_
            refine z_val (v := .bool false) (val_pick rfl rfl rfl) rfl rfl rfl (fun _ _ _ => trivial) ?_
            obtain rfl := Option.some.inj H
            exact z_nil ((K _ () HJ trivial).weak (fun a ha => ha.cons rfl (ha.cons rfl (ha.nil))) (fun w hw => hw))
          ·
            have H := cond_t he
            clear he
            refine z_val (v := .slice A_27 x38.1.length c_28) (val_move rfl rfl) rfl rfl (by rw [hops]; rfl) (fun _ _ _ => trivial) ?_
            obtain ⟨x46, hx46, H⟩ := Let_elim H
            refine z_val (v := .int .i64 x46) (by subst hx46; exact val_len rfl rfl rfl Try.underlying25) rfl rfl (by rw [hops]; rfl) (fun _ _ _ => trivial) ?_
            clear hx46
            obtain ⟨x47, hx47, H⟩ := Let_elim H
            refine z_val (v := .bool x47) (by subst hx47; exact val_bin rfl rfl rfl rfl (i64_eql _ _ _)) rfl rfl (by rw [hops]; rfl) (fun _ _ _ => trivial) ?_
            clear hx47
            refine z_val (v := .bool x47) (val_pick rfl rfl rfl) rfl rfl rfl (fun _ _ _ => trivial) ?_
            obtain rfl := Option.some.inj H
            exact z_nil ((K _ () HJ trivial).weak (fun a ha => ha.cons rfl (ha.cons rfl (ha.nil))) (fun w hw => hw))
        ·
          replace H := HB
          clear HB
          obtain ⟨x48, rfl⟩ : ∃ x, x = s := ⟨_, rfl⟩
          change T 72 _ _ _
          refine z_val (v := .bool x48) (val_move rfl rfl) rfl rfl rfl (fun _ _ _ => trivial) ?_
          refine z_bind H 3 (fun (s : Bool) (_ : Unit) => [(52, .bool s)]) (fun _ _ => Mm w [] h [.row (.slice A_27 x38.1.length c_28) 5 1 (x38.1.map U8), .row (.slice (some ⟨g_17, 0, none⟩) x34.length 1) 60 3 cs_20, .row (.slice A_22 x35.length c_23) 60 3 cs_25]) (fun _ _ => True) (fun Gr K s he HJ => ?_) (fun s g HB _ => ?_)
          ·
            clear H
            cases x48
            ·
              have H := cond_f he
              clear he
              refine z_skip rfl rfl (by rw [hops]; rfl) (fun _ _ _ => trivial) ?_
              refine z_skip rfl rfl (by rw [hops]; rfl) (fun _ _ _ => trivial) ?_
              refine z_val (v := .bool false) (val_pick rfl rfl rfl) rfl rfl rfl (fun _ _ _ => trivial) ?_
              obtain rfl := Option.some.inj H
              exact z_nil ((K _ () HJ trivial).weak (fun a ha => ha.cons rfl (ha.nil)) (fun w hw => hw))
            ·
              have H := cond_t he
              clear he
              refine z_val (v := .int .i64 x38.2) (val_move rfl rfl) rfl rfl (by rw [hops]; rfl) (fun _ _ _ => trivial) ?_
              obtain ⟨x51, hx51, H⟩ := Let_elim H
              refine z_val (v := .bool x51) (by subst hx51; exact val_bin rfl rfl rfl rfl (i64_eql _ _ _)) rfl rfl (by rw [hops]; rfl) (fun _ _ _ => trivial) ?_
              clear hx51
              refine z_val (v := .bool x51) (val_pick rfl rfl rfl) rfl rfl rfl (fun _ _ _ => trivial) ?_
              obtain rfl := Option.some.inj H
              exact z_nil ((K _ () HJ trivial).weak (fun a ha => ha.cons rfl (ha.nil)) (fun w hw => hw))
          ·
            replace H := HB
            clear HB
            obtain ⟨x52, rfl⟩ : ∃ x, x = s := ⟨_, rfl⟩
            change T 72 _ _ _
            refine z_val (v := .bool x52) (val_assign rfl rfl) rfl rfl rfl (fun _ _ _ => trivial) ?_
            refine z_nil ?_
            refine t_ret ?_
            obtain rfl := Option.some.inj H
            exact ret1 rfl (res_tmp rfl) (fun _ hw => ⟨rfl, hw.below⟩)
  ·
    replace H := cond_t H
    refine t_cond_true rfl ?_
    refine t_seq ?_
    refine t_region (fun ops hops => ?_)
    clear hops
    obtain ⟨x15, hx_46, H⟩ := Option.bind_eq_some_iff.1 H
    refine z_made (v := .bool x15) rfl Try.func10 nm10 bs10 rfl (fun w hw => smithylaw07_fixed.calls x15 hx_46 w) rfl rfl rfl (fun _ _ _ => trivial) ?_
    clear hx_46
    refine z_val (v := .bool x15) (val_assign rfl rfl) rfl rfl rfl (fun _ _ _ => trivial) ?_
    refine z_nil ?_
    refine t_ret ?_
    obtain rfl := Option.some.inj H
    exact ret1 rfl (res_tmp rfl) (fun _ hw => ⟨rfl, hw.below⟩)
end Go.Proofs.Ytapfkdcilfpbhaa
