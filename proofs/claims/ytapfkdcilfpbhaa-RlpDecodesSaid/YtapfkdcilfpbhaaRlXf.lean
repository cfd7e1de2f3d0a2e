/- Functions of the program as plain functions, and their walks, printed by walk.py. -/
import Derived.Test.YtapfkdcilfpbhaaRlF
import Derived.Test.YtapfkdcilfpbhaaRlB
namespace Go.Proofs.Ytapfkdcilfpbhaa
open Go.RowKit
set_option linter.unusedVariables false
set_option linter.unusedSimpArgs false
def smithylaw07_fixed  : Option (Bool) :=
  Let ([100#8, 111#8, 103#8]) fun x8 => Let (([(false, x8, 0)] : List ((Bool) × (List (BitVec 8)) × (Int)))) fun x11 => (rlp_Encode x11).bind fun x12 => Let ([99#8, 97#8, 116#8]) fun x17 => Let ([100#8, 111#8, 103#8]) fun x20 => Let (([(true, ([] : List (BitVec 8)), 2), (false, x17, 0), (false, x20, 0)] : List ((Bool) × (List (BitVec 8)) × (Int)))) fun x23 => (rlp_Encode x23).bind fun x24 => Let (([(true, ([] : List (BitVec 8)), 0)] : List ((Bool) × (List (BitVec 8)) × (Int)))) fun x29 => (rlp_Encode x29).bind fun x30 => Let (strOf x12.1) fun x34 => Let (x34.toList == (⟨#[131, 100, 111, 103]⟩ : ByteArray).toList) fun x35 => (bif x35 then Let (x12.2 == 0) fun x38 => some x38 else some false).bind (fun x39 => (bif x39 then Let (strOf x24.1) fun x42 => Let (x42.toList == (⟨#[200, 131, 99, 97, 116, 131, 100, 111, 103]⟩ : ByteArray).toList) fun x43 => some x43 else some false).bind (fun x44 => (bif x44 then Let (x24.2 == 0) fun x47 => some x47 else some false).bind (fun x48 => (bif x48 then Let (strOf x30.1) fun x51 => Let (x51.toList == (⟨#[192]⟩ : ByteArray).toList) fun x52 => some x52 else some false).bind (fun x53 => (bif x53 then Let (x30.2 == 0) fun x56 => some x56 else some false).bind (fun x57 => some x57)))))
set_option maxRecDepth 100000 in
theorem smithylaw07_fixed.calls   (r : Bool) (H : smithylaw07_fixed = some r) (w : World)   :
    Made Try.prog 10 #[] w (.bool r) := by
  unfold smithylaw07_fixed at H
  have hM := Mm.start w (snap w) (snap_ok w)
  generalize snap w = h at *
  refine t_enter (vs := []) (n := 58) Try.func10 rfl rfl rfl hM ?_
  clear hM
  change T 58 _ _ _
  refine t_seq ?_
  refine t_region (fun ops hops => ?_)
  clear hops
  refine z_val (v := .bool false) (val_assign rfl rfl) rfl rfl rfl (fun _ _ _ => trivial) ?_
  refine z_nil ?_
  refine t_seq ?_
  refine t_region (fun ops hops => ?_)
  clear hops
  obtain ⟨x8, hx8, H⟩ := Let_elim H
  have hlx8 : x8.length = 3 := by subst hx8; rfl
  refine z_buildSlice' (e := 5) (f := U8) (xs := x8) (vs := [(0, .int .u8 100), (1, .int .u8 111), (2, .int .u8 103)]) rfl rfl (by subst hx8; intro w; kernel_rfl) hlx8 (by decide) rfl rfl rfl (fun _ _ _ _ => trivial) (fun g_1 hs_3 => ?_)
  clear hx8 hlx8
  refine z_strMark rfl rfl Try.underlying25 Try.underlying5 rfl rfl rfl (fun _ _ _ _ _ => trivial) (fun h_4 hS hs_5 => ?_)
  have hc_6 := hs_3.le
  refine z_val (v := .agg ([(.bool false : Value)] ++ ([(.slice (some ⟨g_1, 0, none⟩) x8.length 3 : Value)] ++ ([(.int .i64 0 : Value)]))).toArray) (val_build (vs := [(1, .slice (some ⟨g_1, 0, none⟩) x8.length 3)]) rfl rfl (fun w => by kernel_rfl)) rfl rfl rfl (fun _ _ _ => trivial) ?_
  obtain ⟨x11, hx11, H⟩ := Let_elim H
  have hlx11 : x11.length = 1 := by subst hx11; rfl
  have hr : RpL h_4 R60 x11 (([(.bool false : Value)] ++ ([(.slice (some ⟨g_1, 0, none⟩) x8.length 3 : Value)] ++ ([(.int .i64 0 : Value)]))) ++ (([] : List Value))) := by subst hx11; exact ⟨_, _, rfl, ⟨((some ⟨g_1, 0, none⟩)), 3, rfl, hs_5, hc_6⟩, rfl⟩
  refine z_buildR (e := 60) (cs := ([(.bool false : Value)] ++ ([(.slice (some ⟨g_1, 0, none⟩) x8.length 3 : Value)] ++ ([(.int .i64 0 : Value)]))) ++ (([] : List Value))) (xs := x11) (vs := [(0, .agg ([(.bool false : Value)] ++ ([(.slice (some ⟨g_1, 0, none⟩) x8.length 3 : Value)] ++ ([(.int .i64 0 : Value)]))).toArray)]) rfl rfl (by intro w; kernel_rfl) hlx11 hr.len (by decide) rfl rfl rfl (fun _ _ _ _ => trivial) (fun g_7 hs_9 => ?_)
  generalize (([(.bool false : Value)] ++ ([(.slice (some ⟨g_1, 0, none⟩) x8.length 3 : Value)] ++ ([(.int .i64 0 : Value)]))) ++ (([] : List Value))) = cs at *
  clear hx11 hlx11
  obtain ⟨x12, hx, H⟩ := Option.bind_eq_some_iff.1 H
  refine z_madeS (F := fun A_10 c_11 => .tuple #[.slice A_10 x12.1.length c_11, .int .i64 x12.2]) (xs := x12.1) rfl Try.func24 nm24 bs24 rfl (fun w hw => rlp_Encode.calls x11 ((some ⟨g_7, 0, none⟩)) 1 x12 hx w (own_rw hw (j := 0) rfl hr hs_9) hs_9.le) rfl rfl rfl (fun _ _ _ _ _ => trivial) (fun A_10 c_11 hs_12 => ?_)
  clear hx
  refine z_val (v := .tuple #[.slice A_10 x12.1.length c_11, .int .i64 x12.2]) (val_move rfl rfl) rfl rfl rfl (fun _ _ _ => trivial) ?_
  refine z_val (v := .slice A_10 x12.1.length c_11) (val_extract rfl rfl rfl) rfl rfl rfl (fun _ _ _ => trivial) ?_
  refine z_val (v := .int .i64 x12.2) (val_extract rfl rfl rfl) rfl rfl rfl (fun _ _ _ => trivial) ?_
  refine z_val (v := .slice A_10 x12.1.length c_11) (val_assign rfl rfl) rfl rfl rfl (fun _ _ _ => trivial) ?_
  refine z_val (v := .int .i64 x12.2) (val_assign rfl rfl) rfl rfl rfl (fun _ _ _ => trivial) ?_
  refine z_nil ?_
  refine t_seq ?_
  refine t_region (fun ops hops => ?_)
  clear hops
  refine z_val (v := .agg ([(.bool true : Value)] ++ ([(.slice none ([] : List (BitVec 8)).length 0 : Value)] ++ ([(.int .i64 2 : Value)]))).toArray) (val_build (vs := [(0, .bool true), (2, .int .i64 2)]) rfl rfl (fun w => by kernel_rfl)) rfl rfl rfl (fun _ _ _ => trivial) ?_
  obtain ⟨x17, hx17, H⟩ := Let_elim H
  have hlx17 : x17.length = 3 := by subst hx17; rfl
  refine z_buildSlice' (e := 5) (f := U8) (xs := x17) (vs := [(0, .int .u8 99), (1, .int .u8 97), (2, .int .u8 116)]) rfl rfl (by subst hx17; intro w; kernel_rfl) hlx17 (by decide) rfl rfl rfl (fun _ _ _ _ => trivial) (fun g_14 hs_16 => ?_)
  clear hx17 hlx17
  refine z_strMark rfl rfl Try.underlying25 Try.underlying5 rfl rfl rfl (fun _ _ _ _ _ => trivial) (fun h_17 hS_18 hs_19 => ?_)
  replace hs_5 := hs_5.up hS_18
  replace hr := RpL.up hS_18 hr
  have hc_20 := hs_16.le
  refine z_val (v := .agg ([(.bool false : Value)] ++ ([(.slice (some ⟨g_14, 0, none⟩) x17.length 3 : Value)] ++ ([(.int .i64 0 : Value)]))).toArray) (val_build (vs := [(1, .slice (some ⟨g_14, 0, none⟩) x17.length 3)]) rfl rfl (fun w => by kernel_rfl)) rfl rfl rfl (fun _ _ _ => trivial) ?_
  obtain ⟨x20, hx20, H⟩ := Let_elim H
  have hlx20 : x20.length = 3 := by subst hx20; rfl
  refine z_buildSlice' (e := 5) (f := U8) (xs := x20) (vs := [(0, .int .u8 100), (1, .int .u8 111), (2, .int .u8 103)]) rfl rfl (by subst hx20; intro w; kernel_rfl) hlx20 (by decide) rfl rfl rfl (fun _ _ _ _ => trivial) (fun g_21 hs_23 => ?_)
  clear hx20 hlx20
  refine z_strMark rfl rfl Try.underlying25 Try.underlying5 rfl rfl rfl (fun _ _ _ _ _ => trivial) (fun h_24 hS_25 hs_26 => ?_)
  replace hs_5 := hs_5.up hS_25
  replace hr := RpL.up hS_25 hr
  replace hs_19 := hs_19.up hS_25
  have hc_27 := hs_23.le
  refine z_val (v := .agg ([(.bool false : Value)] ++ ([(.slice (some ⟨g_21, 0, none⟩) x20.length 3 : Value)] ++ ([(.int .i64 0 : Value)]))).toArray) (val_build (vs := [(1, .slice (some ⟨g_21, 0, none⟩) x20.length 3)]) rfl rfl (fun w => by kernel_rfl)) rfl rfl rfl (fun _ _ _ => trivial) ?_
  obtain ⟨x23, hx23, H⟩ := Let_elim H
  have hlx23 : x23.length = 3 := by subst hx23; rfl
  have hr_28 : RpL h_24 R60 x23 (([(.bool true : Value)] ++ ([(.slice none ([] : List (BitVec 8)).length 0 : Value)] ++ ([(.int .i64 2 : Value)]))) ++ (([(.bool false : Value)] ++ ([(.slice (some ⟨g_14, 0, none⟩) x17.length 3 : Value)] ++ ([(.int .i64 0 : Value)]))) ++ (([(.bool false : Value)] ++ ([(.slice (some ⟨g_21, 0, none⟩) x20.length 3 : Value)] ++ ([(.int .i64 0 : Value)]))) ++ (([] : List Value))))) := by subst hx23; exact ⟨_, _, rfl, ⟨none, 0, rfl, (SlH.nil : SlH _ U8 none (([] : List (BitVec 8)))), (Nat.le_refl _)⟩, ⟨_, _, rfl, ⟨((some ⟨g_14, 0, none⟩)), 3, rfl, hs_19, hc_20⟩, ⟨_, _, rfl, ⟨((some ⟨g_21, 0, none⟩)), 3, rfl, hs_26, hc_27⟩, rfl⟩⟩⟩
  refine z_buildR (e := 60) (cs := ([(.bool true : Value)] ++ ([(.slice none ([] : List (BitVec 8)).length 0 : Value)] ++ ([(.int .i64 2 : Value)]))) ++ (([(.bool false : Value)] ++ ([(.slice (some ⟨g_14, 0, none⟩) x17.length 3 : Value)] ++ ([(.int .i64 0 : Value)]))) ++ (([(.bool false : Value)] ++ ([(.slice (some ⟨g_21, 0, none⟩) x20.length 3 : Value)] ++ ([(.int .i64 0 : Value)]))) ++ (([] : List Value))))) (xs := x23) (vs := [(0, .agg ([(.bool true : Value)] ++ ([(.slice none ([] : List (BitVec 8)).length 0 : Value)] ++ ([(.int .i64 2 : Value)]))).toArray), (1, .agg ([(.bool false : Value)] ++ ([(.slice (some ⟨g_14, 0, none⟩) x17.length 3 : Value)] ++ ([(.int .i64 0 : Value)]))).toArray), (2, .agg ([(.bool false : Value)] ++ ([(.slice (some ⟨g_21, 0, none⟩) x20.length 3 : Value)] ++ ([(.int .i64 0 : Value)]))).toArray)]) rfl rfl (by intro w; kernel_rfl) hlx23 hr_28.len (by decide) rfl rfl rfl (fun _ _ _ _ => trivial) (fun g_29 hs_31 => ?_)
  generalize (([(.bool true : Value)] ++ ([(.slice none ([] : List (BitVec 8)).length 0 : Value)] ++ ([(.int .i64 2 : Value)]))) ++ (([(.bool false : Value)] ++ ([(.slice (some ⟨g_14, 0, none⟩) x17.length 3 : Value)] ++ ([(.int .i64 0 : Value)]))) ++ (([(.bool false : Value)] ++ ([(.slice (some ⟨g_21, 0, none⟩) x20.length 3 : Value)] ++ ([(.int .i64 0 : Value)]))) ++ (([] : List Value))))) = cs_32 at *
  clear hx23 hlx23
  obtain ⟨x24, hx_33, H⟩ := Option.bind_eq_some_iff.1 H
  refine z_madeS (F := fun A_34 c_35 => .tuple #[.slice A_34 x24.1.length c_35, .int .i64 x24.2]) (xs := x24.1) rfl Try.func24 nm24 bs24 rfl (fun w hw => rlp_Encode.calls x23 ((some ⟨g_29, 0, none⟩)) 3 x24 hx_33 w (own_rw hw (j := 0) rfl hr_28 hs_31) hs_31.le) rfl rfl rfl (fun _ _ _ _ _ => trivial) (fun A_34 c_35 hs_36 => ?_)
  clear hx_33
  refine z_val (v := .tuple #[.slice A_34 x24.1.length c_35, .int .i64 x24.2]) (val_move rfl rfl) rfl rfl rfl (fun _ _ _ => trivial) ?_
  refine z_val (v := .slice A_34 x24.1.length c_35) (val_extract rfl rfl rfl) rfl rfl rfl (fun _ _ _ => trivial) ?_
  refine z_val (v := .int .i64 x24.2) (val_extract rfl rfl rfl) rfl rfl rfl (fun _ _ _ => trivial) ?_
  refine z_val (v := .slice A_34 x24.1.length c_35) (val_assign rfl rfl) rfl rfl rfl (fun _ _ _ => trivial) ?_
  refine z_val (v := .int .i64 x24.2) (val_assign rfl rfl) rfl rfl rfl (fun _ _ _ => trivial) ?_
  refine z_nil ?_
  refine t_seq ?_
  refine t_region (fun ops hops => ?_)
  clear hops
  refine z_val (v := .agg ([(.bool true : Value)] ++ ([(.slice none ([] : List (BitVec 8)).length 0 : Value)] ++ ([(.int .i64 0 : Value)]))).toArray) (val_build (vs := [(0, .bool true)]) rfl rfl (fun w => by kernel_rfl)) rfl rfl rfl (fun _ _ _ => trivial) ?_
  obtain ⟨x29, hx29, H⟩ := Let_elim H
  have hlx29 : x29.length = 1 := by subst hx29; rfl
  have hr_38 : RpL h_24 R60 x29 (([(.bool true : Value)] ++ ([(.slice none ([] : List (BitVec 8)).length 0 : Value)] ++ ([(.int .i64 0 : Value)]))) ++ (([] : List Value))) := by subst hx29; exact ⟨_, _, rfl, ⟨none, 0, rfl, (SlH.nil : SlH _ U8 none (([] : List (BitVec 8)))), (Nat.le_refl _)⟩, rfl⟩
  refine z_buildR (e := 60) (cs := ([(.bool true : Value)] ++ ([(.slice none ([] : List (BitVec 8)).length 0 : Value)] ++ ([(.int .i64 0 : Value)]))) ++ (([] : List Value))) (xs := x29) (vs := [(0, .agg ([(.bool true : Value)] ++ ([(.slice none ([] : List (BitVec 8)).length 0 : Value)] ++ ([(.int .i64 0 : Value)]))).toArray)]) rfl rfl (by intro w; kernel_rfl) hlx29 hr_38.len (by decide) rfl rfl rfl (fun _ _ _ _ => trivial) (fun g_39 hs_41 => ?_)
  generalize (([(.bool true : Value)] ++ ([(.slice none ([] : List (BitVec 8)).length 0 : Value)] ++ ([(.int .i64 0 : Value)]))) ++ (([] : List Value))) = cs_42 at *
  clear hx29 hlx29
  obtain ⟨x30, hx_43, H⟩ := Option.bind_eq_some_iff.1 H
  refine z_madeS (F := fun A_44 c_45 => .tuple #[.slice A_44 x30.1.length c_45, .int .i64 x30.2]) (xs := x30.1) rfl Try.func24 nm24 bs24 rfl (fun w hw => rlp_Encode.calls x29 ((some ⟨g_39, 0, none⟩)) 1 x30 hx_43 w (own_rw hw (j := 0) rfl hr_38 hs_41) hs_41.le) rfl rfl rfl (fun _ _ _ _ _ => trivial) (fun A_44 c_45 hs_46 => ?_)
  clear hx_43
  refine z_val (v := .tuple #[.slice A_44 x30.1.length c_45, .int .i64 x30.2]) (val_move rfl rfl) rfl rfl rfl (fun _ _ _ => trivial) ?_
  refine z_val (v := .slice A_44 x30.1.length c_45) (val_extract rfl rfl rfl) rfl rfl rfl (fun _ _ _ => trivial) ?_
  refine z_val (v := .int .i64 x30.2) (val_extract rfl rfl rfl) rfl rfl rfl (fun _ _ _ => trivial) ?_
  refine z_val (v := .slice A_44 x30.1.length c_45) (val_assign rfl rfl) rfl rfl rfl (fun _ _ _ => trivial) ?_
  refine z_val (v := .int .i64 x30.2) (val_assign rfl rfl) rfl rfl rfl (fun _ _ _ => trivial) ?_
  refine z_nil ?_
  refine t_seq ?_
  refine t_region (fun ops hops => ?_)
  refine z_val (v := .slice A_10 x12.1.length c_11) (val_move rfl rfl) rfl rfl rfl (fun _ _ _ => trivial) ?_
  obtain ⟨x34, hx34, H⟩ := Let_elim H
  refine z_val (v := .string x34) (by subst hx34; exact val_convS rfl rfl Try.underlying25 Try.underlying5 Try.underlying9 (fun w hw => (row_w hw (j := 4) rfl))) rfl rfl rfl (fun _ _ _ => trivial) ?_
  clear hx34
  obtain ⟨x35, hx35, H⟩ := Let_elim H
  refine z_val (v := .bool x35) (by subst hx35; exact val_bin rfl rfl rfl rfl (str_eql _ _ _)) rfl rfl rfl (fun _ _ _ => trivial) ?_
  clear hx35
  refine z_val (v := .bool x35) (val_move rfl rfl) rfl rfl rfl (fun _ _ _ => trivial) ?_
  refine z_bind H 3 (fun (s : Bool) (_ : Unit) => [(3, .slice A_34 x24.1.length c_35), (4, .int .i64 x24.2), (5, .slice A_44 x30.1.length c_45), (6, .int .i64 x30.2), (39, .bool s)]) (fun _ _ => Mm w [] h_24 [.row (.slice A_44 x30.1.length c_45) 5 1 (x30.1.map U8), .row (.slice (some ⟨g_39, 0, none⟩) x29.length 1) 60 3 cs_42, .row (.slice A_34 x24.1.length c_35) 5 1 (x24.1.map U8), .row (.slice (some ⟨g_29, 0, none⟩) x23.length 3) 60 3 cs_32, .row (.slice A_10 x12.1.length c_11) 5 1 (x12.1.map U8), .row (.slice (some ⟨g_7, 0, none⟩) x11.length 1) 60 3 cs]) (fun _ _ => True) (fun Gr K s he HJ => ?_) (fun s g HB _ => ?_)
  ·
    clear H
    cases x35
    ·
      have H := cond_f he
      clear he
      refine z_skip rfl rfl (by rw [hops]; rfl) (fun _ _ _ => trivial) ?_
      refine z_skip rfl rfl (by rw [hops]; rfl) (fun _ _ _ => trivial) ?_
      refine z_val (v := .bool false) (val_pick rfl rfl rfl) rfl rfl rfl (fun _ _ _ => trivial) ?_
      obtain rfl := Option.some.inj H
      exact z_nil ((K _ () HJ trivial).weak (fun a ha => ha.cons rfl (ha.cons rfl (ha.cons rfl (ha.cons rfl (ha.cons rfl (ha.nil)))))) (fun w hw => hw))
    ·
      have H := cond_t he
      clear he
      refine z_val (v := .int .i64 x12.2) (val_move rfl rfl) rfl rfl (by rw [hops]; rfl) (fun _ _ _ => trivial) ?_
      obtain ⟨x38, hx38, H⟩ := Let_elim H
      refine z_val (v := .bool x38) (by subst hx38; exact val_bin rfl rfl rfl rfl (i64_eql _ _ _)) rfl rfl (by rw [hops]; rfl) (fun _ _ _ => trivial) ?_
      clear hx38
      refine z_val (v := .bool x38) (val_pick rfl rfl rfl) rfl rfl rfl (fun _ _ _ => trivial) ?_
      obtain rfl := Option.some.inj H
      exact z_nil ((K _ () HJ trivial).weak (fun a ha => ha.cons rfl (ha.cons rfl (ha.cons rfl (ha.cons rfl (ha.cons rfl (ha.nil)))))) (fun w hw => hw))
  ·
    replace H := HB
    clear HB
    obtain ⟨x39, rfl⟩ : ∃ x, x = s := ⟨_, rfl⟩
    change T 58 _ _ _
    refine z_val (v := .bool x39) (val_move rfl rfl) rfl rfl rfl (fun _ _ _ => trivial) ?_
    refine z_bind H 4 (fun (s : Bool) (_ : Unit) => [(4, .int .i64 x24.2), (5, .slice A_44 x30.1.length c_45), (6, .int .i64 x30.2), (44, .bool s)]) (fun _ _ => Mm w [] h_24 [.row (.slice A_44 x30.1.length c_45) 5 1 (x30.1.map U8), .row (.slice (some ⟨g_39, 0, none⟩) x29.length 1) 60 3 cs_42, .row (.slice A_34 x24.1.length c_35) 5 1 (x24.1.map U8), .row (.slice (some ⟨g_29, 0, none⟩) x23.length 3) 60 3 cs_32, .row (.slice A_10 x12.1.length c_11) 5 1 (x12.1.map U8), .row (.slice (some ⟨g_7, 0, none⟩) x11.length 1) 60 3 cs]) (fun _ _ => True) (fun Gr K s he HJ => ?_) (fun s g HB _ => ?_)
    ·
      clear H
      cases x39
      ·
        have H := cond_f he
        clear he
        refine z_skip rfl rfl (by rw [hops]; rfl) (fun _ _ _ => trivial) ?_
        refine z_skip rfl rfl (by rw [hops]; rfl) (fun _ _ _ => trivial) ?_
        refine z_skip rfl rfl (by rw [hops]; rfl) (fun _ _ _ => trivial) ?_
        refine z_val (v := .bool false) (val_pick rfl rfl rfl) rfl rfl rfl (fun _ _ _ => trivial) ?_
        obtain rfl := Option.some.inj H
        exact z_nil ((K _ () HJ trivial).weak (fun a ha => ha.cons rfl (ha.cons rfl (ha.cons rfl (ha.cons rfl (ha.nil))))) (fun w hw => hw))
      ·
        have H := cond_t he
        clear he
        refine z_val (v := .slice A_34 x24.1.length c_35) (val_move rfl rfl) rfl rfl (by rw [hops]; rfl) (fun _ _ _ => trivial) ?_
        obtain ⟨x42, hx42, H⟩ := Let_elim H
        refine z_val (v := .string x42) (by subst hx42; exact val_convS rfl rfl Try.underlying25 Try.underlying5 Try.underlying9 (fun w hw => (row_w hw (j := 2) rfl))) rfl rfl (by rw [hops]; rfl) (fun _ _ _ => trivial) ?_
        clear hx42
        obtain ⟨x43, hx43, H⟩ := Let_elim H
        refine z_val (v := .bool x43) (by subst hx43; exact val_bin rfl rfl rfl rfl (str_eql _ _ _)) rfl rfl (by rw [hops]; rfl) (fun _ _ _ => trivial) ?_
        clear hx43
        refine z_val (v := .bool x43) (val_pick rfl rfl rfl) rfl rfl rfl (fun _ _ _ => trivial) ?_
        obtain rfl := Option.some.inj H
        exact z_nil ((K _ () HJ trivial).weak (fun a ha => ha.cons rfl (ha.cons rfl (ha.cons rfl (ha.cons rfl (ha.nil))))) (fun w hw => hw))
    ·
      replace H := HB
      clear HB
      obtain ⟨x44, rfl⟩ : ∃ x, x = s := ⟨_, rfl⟩
      change T 58 _ _ _
      refine z_val (v := .bool x44) (val_move rfl rfl) rfl rfl rfl (fun _ _ _ => trivial) ?_
      refine z_bind H 3 (fun (s : Bool) (_ : Unit) => [(5, .slice A_44 x30.1.length c_45), (6, .int .i64 x30.2), (48, .bool s)]) (fun _ _ => Mm w [] h_24 [.row (.slice A_44 x30.1.length c_45) 5 1 (x30.1.map U8), .row (.slice (some ⟨g_39, 0, none⟩) x29.length 1) 60 3 cs_42, .row (.slice A_34 x24.1.length c_35) 5 1 (x24.1.map U8), .row (.slice (some ⟨g_29, 0, none⟩) x23.length 3) 60 3 cs_32, .row (.slice A_10 x12.1.length c_11) 5 1 (x12.1.map U8), .row (.slice (some ⟨g_7, 0, none⟩) x11.length 1) 60 3 cs]) (fun _ _ => True) (fun Gr K s he HJ => ?_) (fun s g HB _ => ?_)
      ·
        clear H
        cases x44
        ·
          have H := cond_f he
          clear he
          refine z_skip rfl rfl (by rw [hops]; rfl) (fun _ _ _ => trivial) ?_
          refine z_skip rfl rfl (by rw [hops]; rfl) (fun _ _ _ => trivial) ?_
          refine z_val (v := .bool false) (val_pick rfl rfl rfl) rfl rfl rfl (fun _ _ _ => trivial) ?_
          obtain rfl := Option.some.inj H
          exact z_nil ((K _ () HJ trivial).weak (fun a ha => ha.cons rfl (ha.cons rfl (ha.cons rfl (ha.nil)))) (fun w hw => hw))
        ·
          have H := cond_t he
          clear he
          refine z_val (v := .int .i64 x24.2) (val_move rfl rfl) rfl rfl (by rw [hops]; rfl) (fun _ _ _ => trivial) ?_
          obtain ⟨x47, hx47, H⟩ := Let_elim H
          refine z_val (v := .bool x47) (by subst hx47; exact val_bin rfl rfl rfl rfl (i64_eql _ _ _)) rfl rfl (by rw [hops]; rfl) (fun _ _ _ => trivial) ?_
          clear hx47
          refine z_val (v := .bool x47) (val_pick rfl rfl rfl) rfl rfl rfl (fun _ _ _ => trivial) ?_
          obtain rfl := Option.some.inj H
          exact z_nil ((K _ () HJ trivial).weak (fun a ha => ha.cons rfl (ha.cons rfl (ha.cons rfl (ha.nil)))) (fun w hw => hw))
      ·
        replace H := HB
        clear HB
        obtain ⟨x48, rfl⟩ : ∃ x, x = s := ⟨_, rfl⟩
        change T 58 _ _ _
        refine z_val (v := .bool x48) (val_move rfl rfl) rfl rfl rfl (fun _ _ _ => trivial) ?_
        refine z_bind H 4 (fun (s : Bool) (_ : Unit) => [(6, .int .i64 x30.2), (53, .bool s)]) (fun _ _ => Mm w [] h_24 [.row (.slice A_44 x30.1.length c_45) 5 1 (x30.1.map U8), .row (.slice (some ⟨g_39, 0, none⟩) x29.length 1) 60 3 cs_42, .row (.slice A_34 x24.1.length c_35) 5 1 (x24.1.map U8), .row (.slice (some ⟨g_29, 0, none⟩) x23.length 3) 60 3 cs_32, .row (.slice A_10 x12.1.length c_11) 5 1 (x12.1.map U8), .row (.slice (some ⟨g_7, 0, none⟩) x11.length 1) 60 3 cs]) (fun _ _ => True) (fun Gr K s he HJ => ?_) (fun s g HB _ => ?_)
        ·
          clear H
          cases x48
          ·
            have H := cond_f he
            clear he
            refine z_skip rfl rfl (by rw [hops]; rfl) (fun _ _ _ => trivial) ?_
            refine z_skip rfl rfl (by rw [hops]; rfl) (fun _ _ _ => trivial) ?_
            refine z_skip rfl rfl (by rw [hops]; rfl) (fun _ _ _ => trivial) ?_
            refine z_val (v := .bool false) (val_pick rfl rfl rfl) rfl rfl rfl (fun _ _ _ => trivial) ?_
            obtain rfl := Option.some.inj H
            exact z_nil ((K _ () HJ trivial).weak (fun a ha => ha.cons rfl (ha.cons rfl (ha.nil))) (fun w hw => hw))
          ·
            have H := cond_t he
            clear he
            refine z_val (v := .slice A_44 x30.1.length c_45) (val_move rfl rfl) rfl rfl (by rw [hops]; rfl) (fun _ _ _ => trivial) ?_
            obtain ⟨x51, hx51, H⟩ := Let_elim H
            refine z_val (v := .string x51) (by subst hx51; exact val_convS rfl rfl Try.underlying25 Try.underlying5 Try.underlying9 (fun w hw => (row_w hw (j := 0) rfl))) rfl rfl (by rw [hops]; rfl) (fun _ _ _ => trivial) ?_
            clear hx51
            obtain ⟨x52, hx52, H⟩ := Let_elim H
            refine z_val (v := .bool x52) (by subst hx52; exact val_bin rfl rfl rfl rfl (str_eql _ _ _)) rfl rfl (by rw [hops]; rfl) (fun _ _ _ => trivial) ?_
            clear hx52
            refine z_val (v := .bool x52) (val_pick rfl rfl rfl) rfl rfl rfl (fun _ _ _ => trivial) ?_
            obtain rfl := Option.some.inj H
            exact z_nil ((K _ () HJ trivial).weak (fun a ha => ha.cons rfl (ha.cons rfl (ha.nil))) (fun w hw => hw))
        ·
          replace H := HB
          clear HB
          obtain ⟨x53, rfl⟩ : ∃ x, x = s := ⟨_, rfl⟩
          change T 58 _ _ _
          refine z_val (v := .bool x53) (val_move rfl rfl) rfl rfl rfl (fun _ _ _ => trivial) ?_
          refine z_bind H 3 (fun (s : Bool) (_ : Unit) => [(57, .bool s)]) (fun _ _ => Mm w [] h_24 [.row (.slice A_44 x30.1.length c_45) 5 1 (x30.1.map U8), .row (.slice (some ⟨g_39, 0, none⟩) x29.length 1) 60 3 cs_42, .row (.slice A_34 x24.1.length c_35) 5 1 (x24.1.map U8), .row (.slice (some ⟨g_29, 0, none⟩) x23.length 3) 60 3 cs_32, .row (.slice A_10 x12.1.length c_11) 5 1 (x12.1.map U8), .row (.slice (some ⟨g_7, 0, none⟩) x11.length 1) 60 3 cs]) (fun _ _ => True) (fun Gr K s he HJ => ?_) (fun s g HB _ => ?_)
          ·
            clear H
            cases x53
            ·
              have H := cond_f he
              clear he
              refine z_skip rfl rfl (by rw [hops]; rfl) (fun _ _ _ => trivial) ?_
              refine z_skip rfl rfl (by rw [hops]; rfl) (fun _ _ _ => trivial) ?_
              refine z_val (v := .bool false) (val_pick rfl rfl rfl) rfl rfl rfl (fun _ _ _ => trivial) ?_
              obtain rfl := Option.some.inj H
              exact z_nil ((K _ () HJ trivial).weak (fun a ha => ha.cons rfl (ha.nil)) (fun w hw => hw))
            ·
              have H := cond_t he
              clear he
              refine z_val (v := .int .i64 x30.2) (val_move rfl rfl) rfl rfl (by rw [hops]; rfl) (fun _ _ _ => trivial) ?_
              obtain ⟨x56, hx56, H⟩ := Let_elim H
              refine z_val (v := .bool x56) (by subst hx56; exact val_bin rfl rfl rfl rfl (i64_eql _ _ _)) rfl rfl (by rw [hops]; rfl) (fun _ _ _ => trivial) ?_
              clear hx56
              refine z_val (v := .bool x56) (val_pick rfl rfl rfl) rfl rfl rfl (fun _ _ _ => trivial) ?_
              obtain rfl := Option.some.inj H
              exact z_nil ((K _ () HJ trivial).weak (fun a ha => ha.cons rfl (ha.nil)) (fun w hw => hw))
          ·
            replace H := HB
            clear HB
            obtain ⟨x57, rfl⟩ : ∃ x, x = s := ⟨_, rfl⟩
            change T 58 _ _ _
            refine z_val (v := .bool x57) (val_assign rfl rfl) rfl rfl rfl (fun _ _ _ => trivial) ?_
            refine z_nil ?_
            refine t_ret ?_
            obtain rfl := Option.some.inj H
            exact ret1 rfl (res_tmp rfl) (fun _ hw => ⟨rfl, hw.below⟩)
end Go.Proofs.Ytapfkdcilfpbhaa
