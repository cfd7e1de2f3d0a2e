/- The walks of the two laws. -/
import Derived.Test.YtfcbkmgkdbdabaaDoorShaF
import Derived.Test.YtfcbkmgkdbdabaaDoorShaI
import Derived.Test.YtfcbkmgkdbdabaaDoorShaK
import Derived.Test.YtfcbkmgkdbdabaaDoorEq
import Derived.Test.YtfcbkmgkdbdabaaDoorPlanYes
namespace Go.Proofs.YtfcbkmgkdbdabaaDoor
open Go.RowKit

theorem hash_eq (bs : List (BitVec 8)) : outS (absS kL hL (allB bs) ((allB bs).length / 64)) 32 = shaF kL bs := by rw [hL_iv, shaF_eq]

theorem plain5 : Tryd.prog.plainKey 5 = true := by kernel_rfl
theorem cells5 : Tryd.prog.cellsOf 5 = 1 := by kernel_rfl
theorem u8_int (x : BitVec 8) : ∃ n, U8 x = .int .u8 n := ⟨x.toNat, rfl⟩
theorem hash_eql (X : List (BitVec 8)) (h : X.length = 32) (W : World) : (binOp .eql 30 (.agg (row U8 X)) (.agg (row U8 X))).run Tryd.prog W = .ok (.bool true) W := by
  obtain ⟨ii, hi, _⟩ := info_parts info8
  exact eq_row (f := U8) (k := .u8) (k' := .u8) (t := 30) (e := 5) (n := 32) Tryd.underlying30 hi plain5 Tryd.underlying5 cells5 u8_int X h

set_option maxRecDepth 100000 in
set_option maxHeartbeats 8000000 in
theorem walk_sums (K H : List (BitVec 32)) (bs : List (BitVec 8)) (A : Option Addr) (c : Nat) (w : World) (hkh : Hid ((∀ w, 0 < w.heap.size → Cells U32 w 0 0 K → Calls Tryd.prog 5 #[] w fun e w' => e = .returned (.bool true) ∧ Below w.heap.size w w') ∧ (∀ w, Calls Tryd.prog 6 #[] w fun e w' => e = .returned (.tuple #[.agg (row U32 K), .agg (row U32 H)]) ∧ Below w.heap.size w w') ∧ outS (absS K H (allB bs) ((allB bs).length / 64)) 32 = shaF K bs ∧ K.length = 64 ∧ H.length = 8))
    (hA : A = none → c = 0) (hc : bs.length ≤ c) (hr : Sl U8 w w.heap.size A bs) (h0 : 0 < w.heap.size) (hT : Cells U32 w 0 0 K) :
    Calls Tryd.prog 3 #[.slice A bs.length c] w fun e w' => e = .returned (.bool true) ∧ Below w.heap.size w w' := by
  by_cases hb : 2000 < bs.length
  · go_enter Tryd.func3, Tryd.ntmps3
    go_wp2_with fail
    refine (hkh.out.1 _ h0 hT).mono ?_
    rintro e w1 ⟨rfl, hB1⟩
    dsimp only
    go_wp2
    go_ret
    exact ⟨rfl, hB1⟩
  · obtain ⟨ii, hi, hz, hsi, hbi⟩ := info_parts info8
    have Hi := (show Hid (Tryd.prog.info? 5 = some ii ∧ ii.zero = some (.int .u8 0) ∧ ii.size = 1 ∧ ii.bytes = 1) from ⟨hi, hz, hsi, hbi⟩)
    clear hi hz hsi hbi
    go_enter Tryd.func3, Tryd.ntmps3
    go_wp2_with fail
    refine (hkh.out.2.1 _).mono ?_
    rintro e w1 ⟨rfl, hB1⟩
    dsimp only
    have hr1 := hr.below hB1
    have hT1 := hT.below hB1 h0
    have hs1 := hB1.size
    iterate 16 go_step
    refine store_put (f := U32) (n := 64) rfl 25 _ _ rfl rfl rfl ((Blk.new w1 25 (row U32 (List.replicate 64 0#32))).alloc _) (by kernel_rfl) hkh.out.2.2.2.1 rfl (fun _ => rfl) ?_
    intro w2 p2
    refine store_put (f := U32) (n := 8) rfl 26 _ _ rfl rfl rfl (p2.far (Blk.new' (w1.alloc (.cells (row U32 (List.replicate 64 0#32)) 25)) 26 (row U32 (List.replicate 8 0#32)) (n := w1.heap.size + 1) (by simp)) (by omega)) (by kernel_rfl) hkh.out.2.2.2.2 rfl (fun _ => rfl) ?_
    intro w3 p3
    have k3 := p3.far p2.blk (by omega)
    have k4 := p3.blk
    have B3 := p3.below (p2.below (((Below.refl w1.heap.size w1).alloc (Nat.le_refl _) (.cells (row U32 (List.replicate 64 0#32)) 25)).alloc (by simp) (.cells (row U32 (List.replicate 8 0#32)) 26)) (by omega)) (by omega)
    clear p2 p3
    refine wpList_nil ?_
    have hr3 := hr1.below (B3.mono hs1)
    have hT3 := hT1.below B3 (by omega)
    have B03 := hB1.trans (B3.mono hs1)
    have hs3 := k4.lt
    clear hr1 hT1 hr hT hB1
    go_upto_region 4 with (fail)
    have oz := Own.lit (B := w3.heap.size) w3 5 U8 [] (Nat.le_refl _) (Nat.zero_le _)
    have hG : Grow w3.heap.size 5 w3 (w3.alloc (.cells (row U8 []) 5)) := Grow.alloc (Nat.le_refl _) _
    have hr4 := hr3.below (hG.below.mono B03.size)
    go_upto_region 5 with (at_builtin; refine own_append rfl _ _ 22 rfl ii (.int .u8 0) 1 Tryd.underlying22 Hi.out.1 Hi.out.2.1 Hi.out.2.2.1 Hi.out.2.2.2 rfl rfl oz (ys := bs) rfl rfl hA hr4 (fun _ => rfl) ?c1 ?c2 ?c3 ?_; rotate_left 3; intro v5 w5 o5 g5)
    case c1 => simp; omega
    case c2 => simp [maxLen]; omega
    case c3 => simp
    rw [List.nil_append] at o5
    obtain ⟨A5, c5, rfl, hc5, hs5, hn5⟩ := o5.slice
    have hG5 := hG.trans g5
    have k3' := k3.below hG5.below k3.lt
    have k4' := k4.below hG5.below k4.lt
    have hr5 := hr3.below (hG5.below.mono B03.size)
    have hT5 := hT3.below hG5.below (by omega)
    have B05 := B03.trans (hG5.below.mono B03.size)
    have hz5 := hG5.below.size
    have hcv1 : ∀ W, Ext w5 W → (convert 22 9 (.slice A5 bs.length c5)).run Tryd.prog W = .ok (.string (strOf bs)) W := fun W hW => conv_str Tryd.underlying22 Tryd.underlying5 Tryd.underlying9 (hs5.below hW) hn5 hc5
    have hcv2 : ∀ W, Ext w5 W → (convert 22 9 (.slice A bs.length c)).run Tryd.prog W = .ok (.string (strOf bs)) W := fun W hW => conv_str Tryd.underlying22 Tryd.underlying5 Tryd.underlying9 (hr5.below (hW.mono B05.size)) hA hc
    have hln : (shaF K bs).length = 32 := by unfold shaF; exact outS_len _ _
    have hEq : ∀ W, (binOp .eql 30 (.agg (row U8 (shaF K bs))) (.agg (row U8 (shaF K bs)))).run Tryd.prog W = .ok (.bool true) W := fun W => hash_eql _ hln W
    have h05 : 0 < w5.heap.size := by omega
    have hCq := Ext.drew w5
    have hsz1 : w.heap.size ≤ w5.heap.size := B05.size
    clear oz hG hr4 g5 o5 k3 k4 hr3 hT3 hG5
    generalize hF : shaF K bs = F at hEq hln
    have hkr := hkh.out.2.2.1
    rw [hF] at hkr
    have hl2 : bs.length ≤ 100000 := by omega
    refine wp_plan (Ext w5) [] [(0, false), (1, true), (2, true), (4, true), (5, true), (6, true), (3, false), (7, false), (8, true), (9, true), (10, true), (11, true), (12, true), (13, true), (14, true), (15, true), (16, true), (17, true)] (by kernel_rfl) (by kernel_rfl) (fun ops hops => ?_)
    dsimp only [zipPlan, pickOp]
    refine plan_effect false rfl rfl ?_
    go_step
    go_step
    refine (hkh.out.1 w5.drew h05 (hT5.below hCq h05)).mono ?_
    rintro e w6 ⟨rfl, hB6⟩
    dsimp only
    repeat go_step
    have E6 : Ext w5 w6 := Ext.of_drew hB6
    refine Eff.mk_ E6 ?_
    iterate 1 (refine plan_still _ rfl rfl rfl E6 ?_; apply Exists.intro; refine ⟨fun W hW K' N' hK => ?_, ?_, ?_⟩; (· (go_step; first | exact hK | (repeat go_step; exact hK))); (· rfl))
    iterate 2 (refine plan_still_yes _ rfl rfl (by rw [hops]; rfl) E6 ?_; apply Exists.intro; refine ⟨fun W hW K' N' hK => ?_, ?_, ?_⟩; (· (go_step; first | exact hK | (repeat go_step; exact hK))); (· rfl))
    refine plan_still_yes _ rfl rfl (by rw [hops]; rfl) E6 ?_; apply Exists.intro; refine ⟨fun W hW K' N' hK => ?_, ?_, ?_⟩
    · refine load_wp 25 _ rfl rfl (k3'.below hW k3'.lt) Tryd.underlying25 (by kernel_rfl) hkh.out.2.2.2.1 ?_
      simp only [Act.put, List.setIfInBounds_toArray, List.set_cons_succ, List.set_cons_zero]
      exact hK
    · rfl
    refine plan_still_yes _ rfl rfl (by rw [hops]; rfl) E6 ?_; apply Exists.intro; refine ⟨fun W hW K' N' hK => ?_, ?_, ?_⟩
    · refine load_wp 26 _ rfl rfl (k4'.below hW k4'.lt) Tryd.underlying26 (by kernel_rfl) hkh.out.2.2.2.2 ?_
      simp only [Act.put, List.setIfInBounds_toArray, List.set_cons_succ, List.set_cons_zero]
      exact hK
    · rfl
    refine plan_effect_yes false (by rw [hops]; rfl) rfl (fun KK hKK => ?_)
    go_step
    refine Made.use (sha_Sum K bs A5 c5 _ hkh.out.2.2.2.1 hc5 (by omega) ((hs5.below E6).more E6.size) (by have := E6.size; omega) (hT5.below E6 h05)) ?_
    intro w7 hB7
    dsimp only
    rw [hF]
    have E7 : Ext w5 w7 := Ext.trans E6 hB7
    refine hKK _ _ (Eff.mk_ E7 ?_)
    refine plan_effect_yes false (by rw [hops]; rfl) rfl (fun KK hKK => ?_)
    go_step
    refine Made.use (ref_Sum K H bs A c _ hkh.out.2.2.2.1 hkh.out.2.2.2.2 hA hl2 ((hr5.below (E7.mono hsz1)).more (Nat.le_trans hsz1 E7.size))) ?_
    intro w8 hB8
    dsimp only
    rw [hkr]
    have E8 : Ext w5 w8 := Ext.trans E7 hB8
    refine hKK _ _ (Eff.mk_ E8 ?_)
    iterate 1 (refine plan_still_yes _ rfl rfl (by rw [hops]; rfl) E8 ?_; apply Exists.intro; refine ⟨fun W hW K' N' hK => ?_, ?_, ?_⟩; (· (go_step; first | exact hK | (repeat go_step; exact hK))); (· rfl))
    iterate 2 (refine plan_still _ rfl rfl rfl E8 ?_; apply Exists.intro; refine ⟨fun W hW K' N' hK => ?_, ?_, ?_⟩; (· (go_step; first | exact hK | (repeat go_step; exact hK))); (· rfl))
    iterate 5 (refine plan_still_yes _ rfl rfl (by rw [hops]; rfl) E8 ?_; apply Exists.intro; refine ⟨fun W hW K' N' hK => ?_, ?_, ?_⟩; (· (go_step; first | exact hK | (repeat go_step; exact hK))); (· rfl))
    iterate 2 (refine plan_still _ rfl rfl rfl E8 ?_; apply Exists.intro; refine ⟨fun W hW K' N' hK => ?_, ?_, ?_⟩; (· (go_step; first | exact hK | (repeat go_step; exact hK))); (· rfl))
    refine plan_nil ?_
    have B8 := B05.trans (E8.mono hsz1)
    go_wp2
    go_ret
    exact ⟨rfl, B8⟩
end Go.Proofs.YtfcbkmgkdbdabaaDoor
