/- The walk of ShaEnds. -/
import Derived.Test.YtfcbkmgkdbdabaaDoorShaL
import Derived.Laws.MakeOwn
namespace Go.Proofs.YtfcbkmgkdbdabaaDoor
open Go.RowKit

theorem made_zeros (N : Nat) : madeCells (Value.int .u8 0).cells N = row U8 (zeros N) := by
  apply Array.ext
  · simp [row, zeros, size_madeCells]
  · intro i h1 h2
    simp only [madeCells, row, zeros, Value.cells, Array.getElem_map, Array.getElem_range, List.getElem_toArray, List.getElem_map, List.getElem_replicate]
    rw [show i % (#[Value.int .u8 0] : Array Value).size = 0 from Nat.mod_one i]; rfl
theorem make_bytes (n : BitVec 8) (w : World) : (Instr.makeSlice 22 (.int .i64 (50 + (n.toNat : Int) % 32)) (.int .i64 (50 + (n.toNat : Int) % 32))).run Tryd.prog w = .ok (.slice (some ⟨w.heap.size, 0, none⟩) (50 + n.toNat % 32) (50 + n.toNat % 32)) (w.alloc (.cells (row U8 (zeros (50 + n.toNat % 32))) 5)) := by
  obtain ⟨ii, hi, hz, hsi, hbi⟩ := info_parts info8
  have e : (50 + (n.toNat : Int) % 32).toNat = 50 + n.toNat % 32 := by omega
  have h := run_makeSlice (P := Tryd.prog) (w := w) 22 5 ii (.int .u8 0) Tryd.underlying22 hi hz .i64 .i64 (50 + (n.toNat : Int) % 32) (50 + (n.toNat : Int) % 32) (by omega) (Int.le_refl _) (by rw [e, hsi]; omega) (by rw [hbi]; omega) (by omega)
  rw [e, hsi, Nat.mul_one, made_zeros] at h
  exact h

def fillS (c : BitVec 8) (N : Nat) : Nat → List (BitVec 8)
  | 0 => zeros N
  | j + 1 => (fillS c N j).set j (c + BitVec.ofNat 8 j)
theorem fillS_len (c : BitVec 8) (N : Nat) : ∀ j, (fillS c N j).length = N
  | 0 => zeros_len N
  | j + 1 => by rw [fillS, List.length_set, fillS_len]

set_option maxRecDepth 100000 in
set_option maxHeartbeats 8000000 in
theorem walk_ends (K H : List (BitVec 32)) (n c : BitVec 8) (w : World) (hkh : Hid ((∀ w, 0 < w.heap.size → Cells U32 w 0 0 K → Calls Tryd.prog 5 #[] w fun e w' => e = .returned (.bool true) ∧ Below w.heap.size w w') ∧ (∀ w, Calls Tryd.prog 6 #[] w fun e w' => e = .returned (.tuple #[.agg (row U32 K), .agg (row U32 H)]) ∧ Below w.heap.size w w') ∧ (∀ bs, outS (absS K H (allB bs) ((allB bs).length / 64)) 32 = shaF K bs) ∧ K.length = 64 ∧ H.length = 8))
    (h0 : 0 < w.heap.size) (hT : Cells U32 w 0 0 K) :
    Calls Tryd.prog 4 #[U8 n, U8 c] w fun e w' => e = .returned (.bool true) ∧ Below w.heap.size w w' := by
  go_enter Tryd.func4, Tryd.ntmps4
  go_wp2_with fail
  refine (hkh.out.2.1 _).mono ?_
  rintro e w1 ⟨rfl, hB1⟩
  dsimp only
  have hT1 := hT.below hB1 h0
  have hs1 := hB1.size
  iterate 16 go_step
  refine store_put (f := U32) (n := 64) rfl 25 _ _ rfl rfl rfl ((Blk.new w1 25 (row U32 (List.replicate 64 0#32))).alloc _) (by kernel_rfl) hkh.out.2.2.2.1 rfl (fun _ => rfl) ?_
  intro w2 p2
  refine store_put (f := U32) (n := 8) rfl 26 _ _ rfl rfl rfl (p2.far (Blk.new' (w1.alloc (.cells (row U32 (List.replicate 64 0#32)) 25)) 26 (row U32 (List.replicate 8 0#32)) (n := w1.heap.size + 1) (by simp)) (by omega)) (by kernel_rfl) hkh.out.2.2.2.2 rfl (fun _ => rfl) ?_
  intro w3 p3
  have k3 := p3.far p2.blk (by omega)
  have k4 := p3.blk
  have B3 := p3.below (p2.below (((Below.refl w1.heap.size w1).alloc (Nat.le_refl _) (.cells (row U32 (List.replicate 64 0#32)) 25)).alloc (by simp) (.cells (row U32 (List.replicate 8 0#32)) 26)) (by omega)) (by omega)
  clear p2 p3
  refine wpList_nil ?_
  have hT3 := hT1.below B3 (by omega)
  have B03 := hB1.trans (B3.mono hs1)
  have hs3 := k4.lt
  clear hT1 hT hB1
  have hmk := make_bytes n w3
  have hN1 : 50 + n.toNat % 32 ≤ 81 := by omega
  have hN0 : 50 ≤ 50 + n.toNat % 32 := by omega
  generalize 50 + n.toNat % 32 = N at hmk hN1 hN0
  have B4 : Below w3.heap.size w3 (w3.alloc (.cells (row U8 (zeros N)) 5)) := (Below.refl _ _).alloc (Nat.le_refl _) _
  have b4 := Blk.new w3 5 (row U8 (zeros N))
  go_upto_region 4 with (fail)
  clear hmk
  go_loopg [20] N (fun k i wr => ∃ j : Nat, j + k = N ∧ i = .int .i64 j ∧ Blk wr w3.heap.size 5 (row U8 (fillS c N j)) ∧ Below w3.heap.size w3 wr)
  case atStart => exact ⟨0, by omega, rfl, b4, B4⟩
  case round =>
    clear b4 B4
    obtain ⟨j, hj, rfl, b4, B4⟩ := hrel
    have hl : (fillS c N j).length = N := fillS_len c N j
    by_cases hlt : j < N
    · have e1 := b4.rd8 (i := j) (by omega)
      have f1 := b4.free j
      have Hj := (show Hid (j + gk = N) from hj)
      have hgk : 0 < gk := by omega
      clear hj hl
      go_wp2
      go_roundg (gk - 1)
      case measure => omega
      case rel =>
        have hj := Hj.out
        exact ⟨j + 1, by omega, by go_num, b4.set_ _ _, B4.setCell (Nat.le_refl _) _⟩
    · obtain rfl : j = N := by omega
      clear hj hlt
      go_upto_region 8 with (fail)
      have k3' := k3.below B4 k3.lt
      have k4' := k4.below B4 k4.lt
      have hz5 := B4.size
      have hT5 := hT3.below B4 (by omega)
      have B05 := B03.trans (B4.mono B03.size)
      have h05 : 0 < wr.heap.size := by omega
      have hCq := Ext.drew wr
      have hsl : Sl U8 wr wr.heap.size (some ⟨w3.heap.size, 0, none⟩) (fillS c j j) := fun _ => ⟨w3.heap.size, 0, rfl, b4.lt, b4.cells (k := 0)⟩
      have hln : (shaF K (fillS c j j)).length = 32 := by unfold shaF; exact outS_len _ _
      have hEq : ∀ W, (binOp .eql 30 (.agg (row U8 (shaF K (fillS c j j)))) (.agg (row U8 (shaF K (fillS c j j))))).run Tryd.prog W = .ok (.bool true) W := fun W => hash_eql _ hln W
      have hkr := hkh.out.2.2.1 (fillS c j j)
      clear k3 k4 hT3 b4 B4 B03
      generalize fillS c j j = bs at *
      generalize hF : shaF K bs = F at hEq hln hkr
      subst hl
      refine wp_plan (Ext wr) [] [(0, false), (1, true), (2, true), (4, true), (5, true), (6, true), (3, false), (7, false), (8, true), (9, true), (10, true)] (by kernel_rfl) (by kernel_rfl) (fun ops hops => ?_)
      dsimp only [zipPlan, pickOp]
      refine plan_effect false rfl rfl ?_
      go_step
      go_step
      refine (hkh.out.1 wr.drew h05 (hT5.below hCq h05)).mono ?_
      rintro e w6 ⟨rfl, hB6⟩
      dsimp only
      repeat go_step
      have E6 : Ext wr w6 := Ext.of_drew hB6
      refine Eff.mk_ E6 ?_
      iterate 1 (refine plan_still _ rfl rfl rfl E6 ?_; apply Exists.intro; refine ⟨fun W hW K' N' hK => ?_, ?_, ?_⟩; (· (go_step; first | exact hK | (repeat go_step; exact hK))); (· rfl))
      iterate 2 (refine plan_still_yes _ rfl rfl (by rw [hops]; rfl) E6 ?_; apply Exists.intro; refine ⟨fun W hW K' N' hK => ?_, ?_, ?_⟩; (· (go_step; first | exact hK | (repeat go_step; exact hK))); (· rfl))
      refine plan_still_yes _ rfl rfl (by rw [hops]; rfl) E6 ?_; apply Exists.intro; refine ⟨fun W hW K' N' hK => ?_, ?_, ?_⟩
      · refine load_wp 25 _ rfl rfl (k3'.below hW k3'.lt) Tryd.underlying25 (by kernel_rfl) hkh.out.2.2.2.1 ?_
        simp only [Act.put, List.setIfInBounds_toArray, List.set_cons_succ, List.set_cons_zero]
        exact hK
      · rfl
      refine plan_still_yes _ rfl rfl (by rw [hops]; rfl) E6 ?_; apply Exists.intro; refine ⟨fun W hW K' N' hK => ?_, ?_, ?_⟩
      · refine load_wp 26 _ rfl rfl (k4'.below hW k4'.lt) Tryd.underlying26 (by kernel_rfl) hkh.out.2.2.2.2 ?_
        simp only [Act.put, List.setIfInBounds_toArray, List.set_cons_succ, List.set_cons_zero]
        exact hK
      · rfl
      refine plan_effect_yes false (by rw [hops]; rfl) rfl (fun KK hKK => ?_)
      go_step
      refine Made.use (sha_Sum K bs (some ⟨w3.heap.size, 0, none⟩) bs.length _ hkh.out.2.2.2.1 (Nat.le_refl _) (by omega) ((hsl.below E6).more E6.size) (by have := E6.size; omega) (hT5.below E6 h05)) ?_
      intro w7 hB7
      dsimp only
      rw [hF]
      have E7 : Ext wr w7 := Ext.trans E6 hB7
      refine hKK _ _ (Eff.mk_ E7 ?_)
      refine plan_effect_yes false (by rw [hops]; rfl) rfl (fun KK hKK => ?_)
      go_step
      refine Made.use (ref_Sum K H bs (some ⟨w3.heap.size, 0, none⟩) bs.length _ hkh.out.2.2.2.1 hkh.out.2.2.2.2 (fun h => by cases h) (by omega) ((hsl.below E7).more E7.size)) ?_
      intro w8 hB8
      dsimp only
      rw [hkr]
      have E8 : Ext wr w8 := Ext.trans E7 hB8
      refine hKK _ _ (Eff.mk_ E8 ?_)
      iterate 1 (refine plan_still_yes _ rfl rfl (by rw [hops]; rfl) E8 ?_; apply Exists.intro; refine ⟨fun W hW K' N' hK => ?_, ?_, ?_⟩; (· (go_step; first | exact hK | (repeat go_step; exact hK))); (· rfl))
      iterate 2 (refine plan_still _ rfl rfl rfl E8 ?_; apply Exists.intro; refine ⟨fun W hW K' N' hK => ?_, ?_, ?_⟩; (· (go_step; first | exact hK | (repeat go_step; exact hK))); (· rfl))
      refine plan_nil ?_
      have B8 := B05.trans (E8.mono B05.size)
      go_wp2
      go_ret
      exact ⟨rfl, B8⟩
end Go.Proofs.YtfcbkmgkdbdabaaDoor
