/- The walk of sha.block. -/
import Derived.Test.YtfcbkmgkdbdabaaDoorShaA
namespace Go.Proofs.YtfcbkmgkdbdabaaDoor
open Go.RowKit
set_option maxRecDepth 100000 in
set_option maxHeartbeats 8000000 in
theorem sha_block (K s : List (BitVec 32)) (bs : List (BitVec 8)) (b o c : Nat) (w : World) (hK : K.length = 64) (hs : s.length = 8) (hl : bs.length = 64) (hb : b < w.heap.size) (hr : Cells U8 w b o bs)
    (h0 : 0 < w.heap.size) (hT : Cells U32 w 0 0 K) :
    Made Tryd.prog 11 #[.agg (row U32 s), .slice (some ⟨b, o, none⟩) 64 c] w (.agg (row U32 (blockF K s bs))) := by
  go_enter Tryd.func11, Tryd.ntmps11
  go_wp2_with fail
  refine Made.use (sha_numbers bs b o c _ hl ?_ ?_) ?_
  · simp; omega
  · exact hr.below (((Below.refl w.heap.size w).alloc (Nat.le_refl _) _).alloc (by simp) _) hb
  intro w2 hB2
  dsimp only
  have hB := (((Below.refl w.heap.size w).alloc (Nat.le_refl _) (.cells (row U32 s) 26)).alloc (by simp) (.cells (row U32 (List.replicate 8 0#32)) 26)).trans (hB2.mono (by simp; omega))
  have k0 : Blk w2 w.heap.size 26 (row U32 s) := Blk.below ((Blk.new w 26 (row U32 s)).alloc _) hB2 (by simp; omega)
  have k1 : Blk w2 (w.heap.size + 1) 26 (row U32 (List.replicate 8 0#32)) := Blk.below (Blk.new' _ 26 (row U32 (List.replicate 8 0#32)) (by simp)) hB2 (by simp)
  have hsz : w.heap.size + 1 < w2.heap.size := k1.lt
  clear hB2
  have Hn : Hid ((numF bs).length = 64) := numF_len bs
  have Hs : Hid (s.length = 8) := hs
  clear hs hl
  go_upto_region 2 with (refine store_put rfl 25 _ _ rfl rfl rfl (Blk.new w2 25 (row U32 (List.replicate 64 0#32))) (by kernel_rfl) Hn.out rfl (fun _ => rfl) ?_; intro w3 p3)
  have hB3 := p3.below (hB.alloc (by omega) _) (by omega)
  have a0 := p3.far (k0.alloc _) (by omega)
  have a1 := p3.far (k1.alloc _) (by omega)
  have a2 := p3.blk
  have hz3 : w3.heap.size = w2.heap.size + 1 := by rw [p3.size]; simp
  clear p3 k0 k1 hB
  have hsz3 : w2.heap.size < w3.heap.size := by omega
  clear hz3
  generalize w2.heap.size = gn at hsz hsz3 a2 ⊢
  clear w2
  go_upto_region 3 with (first | (refine load_blk rfl 26 _ rfl rfl a0 Tryd.underlying26 (by kernel_rfl) Hs.out ?_) | (refine store_put rfl 26 _ _ rfl rfl rfl (Blk.new w3 26 (row U32 (List.replicate 8 0#32))) (by kernel_rfl) Hs.out rfl (fun _ => rfl) ?_; intro w4 p4))
  have hB4 := p4.below (hB3.alloc (by omega) _) (by omega)
  have c0 := p4.far (a0.alloc _) (by omega)
  have c1 := p4.far (a1.alloc _) (by omega)
  have c2 := p4.far (a2.alloc _) (by omega)
  have c3 := p4.blk
  clear p4 a0 a1 a2 hB3
  generalize w3.heap.size = gv at hsz3 c3 ⊢
  clear w3
  go_wp2
  go_loopg [16] 64 (fun k i wr => ∃ j : Nat, j + k = 64 ∧ i = .int .i64 j ∧ Blk wr w.heap.size 26 (row U32 s) ∧ Blk wr (w.heap.size + 1) 26 (row U32 (List.replicate 8 0#32)) ∧ Blk wr gn 25 (row U32 (numF bs)) ∧ Blk wr gv 26 (row U32 (rndS K (numF bs) s j)) ∧ Below w.heap.size w wr)
  case atStart => exact ⟨0, rfl, rfl, c0, c1, c2, c3, hB4⟩
  case round =>
    clear c0 c1 c2 c3 hB4
    obtain ⟨j, hj, rfl, c0, c1, c2, c3, hB⟩ := hrel
    have hv : (rndS K (numF bs) s j).length = 8 := rndS_len _ _ _ Hs.out _
    generalize hV : rndS K (numF bs) s j = v at c3 hv
    by_cases hlt : j < 64
    · have e0 := c3.rd32 (i := 0) (by omega)
      have e1 := c3.rd32 (i := 1) (by omega)
      have e2 := c3.rd32 (i := 2) (by omega)
      have e3 := c3.rd32 (i := 3) (by omega)
      have e4 := c3.rd32 (i := 4) (by omega)
      have e5 := c3.rd32 (i := 5) (by omega)
      have e6 := c3.rd32 (i := 6) (by omega)
      have e7 := c3.rd32 (i := 7) (by omega)
      have en := c2.rd32 (i := j) (by rw [Hn.out]; omega)
      have eK := (hT.below hB h0).at32 (i := j) (by omega)
      have H : Hid (j + gk = 64 ∧ v.length = 8 ∧ K.length = 64 ∧ rndS K (numF bs) s j = v) := ⟨hj, hv, hK, hV⟩
      have hgk : 0 < gk := by omega
      clear hv hj hK hV
      repeat go_step
      go_quiet (fail)
      repeat go_step
      go_quiet ((go_at_call 16; refine Pure.quiet (sha_down _ _ ?_ _) ⟨_, rfl⟩; omega))
      repeat go_step
      go_quiet ((go_at_call 16; refine Pure.quiet (sha_down _ _ ?_ _) ⟨_, rfl⟩; omega))
      go_wp2_with (refine store_put (xs := [_, _, _, _, _, _, _, _]) rfl 26 _ _ rfl rfl rfl c3 (by kernel_rfl) rfl (by rw [row_size]; exact H.out.2.1) (fun _ => rfl) ?_; intro w5 p5)
      go_roundg (gk - 1)
      case measure => omega
      case rel =>
        obtain ⟨hj, hv, hK, hV⟩ := H.out
        refine ⟨j + 1, by omega, by go_num, p5.far c0 (by omega), p5.far c1 (by omega), p5.far c2 (by omega), ?_, p5.below (below_drewN hB _) (by omega)⟩
        have := p5.blk
        unfold rndS rndF
        rw [hV]
        exact this
    · obtain rfl : j = 64 := by omega
      clear hj hK hT hr hb h0
      go_wp2
      go_loopg [96] 8 (fun k i wr => ∃ j : Nat, j + k = 8 ∧ i = .int .i64 j ∧ Blk wr w.heap.size 26 (row U32 (addS v s j)) ∧ Blk wr (w.heap.size + 1) 26 (row U32 (List.replicate 8 0#32)) ∧ Blk wr gv 26 (row U32 v) ∧ Below w.heap.size w wr)
      case atStart => exact ⟨0, rfl, rfl, c0, c1, c3, hB⟩
      case round =>
        clear c0 c1 c2 c3 hB
        obtain ⟨j, hj, rfl, c0, c1, c3, hB⟩ := hrel
        have hlen : (addS v s j).length = 8 := by rw [addS_len]; exact Hs.out
        by_cases hlt : j < 8
        · have e1 := Ext.cell (c0.rd32 (i := j) (by omega))
          have e2 := Ext.cell (c3.rd32 (i := j) (by omega))
          have e3 := c0.rd32 (i := j) (by omega)
          have g1 := c0.free j
          have H : Hid (j + gk = 8 ∧ v.length = 8 ∧ (addS v s j).length = 8 ∧ rndS K (numF bs) s 64 = v) := ⟨hj, hv, hlen, hV⟩
          have hgk : 0 < gk := by omega
          clear hv hj hV hlen
          go_wp2
          have hCq := Ext.drew wr
          refine wp_plan (Ext wr) [8] [(0, true), (1, true), (2, true), (3, true), (4, true), (5, true), (6, true), (7, true), (8, false)] (by kernel_rfl) (by kernel_rfl) (fun ops hops => ?_)
          dsimp only [zipPlan, pickOp]
          iterate 8 (refine plan_still _ rfl rfl rfl hCq ?_; apply Exists.intro; refine ⟨fun W hW K N hK => ?_, ?_, ?_⟩; (· (go_step; first | exact hK | (repeat go_step; exact hK))); (· rfl))
          refine plan_effect true rfl rfl ?_
          go_wp2
          refine Eff.wild (plan_nil ?_)
          go_wp2
          go_roundg (gk - 1)
          case measure => omega
          case rel =>
            obtain ⟨hj, hv, hlen, hV⟩ := H.out
            exact ⟨j + 1, by omega, by go_num, c0.drew.set_ _ _, c1.drew.far (by simp) _, c3.drew.far (by simp; omega) _, hB.drew.setCell (by simp) _⟩
        · obtain rfl : j = 8 := by omega
          have Ha : Hid ((addS v s 8).length = 8) := hlen
          clear hv hj hlen
          go_wp2_with (first | (refine load_blk rfl 26 _ rfl rfl c0 Tryd.underlying26 (by kernel_rfl) Ha.out ?_) | (refine store_put rfl 26 _ _ rfl rfl rfl c1 (by kernel_rfl) Ha.out rfl (fun _ => rfl) ?_; intro w5 p5))
          unfold blockF
          rw [hV]
          exact ret_blk rfl rfl p5.blk Tryd.underlying26 (by kernel_rfl) Ha.out rfl ⟨rfl, p5.below hB (by omega)⟩
end Go.Proofs.YtfcbkmgkdbdabaaDoor
