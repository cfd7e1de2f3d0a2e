/- The reference's constants. -/
import Derived.Test.YtfcbkmgkdbdabaaDoorShaE
import Derived.Test.YtfcbkmgkdbdabaaDoorWWords
namespace Go.Proofs.YtfcbkmgkdbdabaaDoor
open Go.RowKit Go.Proofs.YtfcbkmgkdbdabaaDoorW.PrintWords

def upto (l : List (BitVec 32)) (i : Nat) : List (BitVec 32) := l.take i ++ List.replicate (l.length - i) 0#32
theorem upto_len (l : List (BitVec 32)) (i : Nat) : (upto l i).length = l.length := by
  simp only [upto, List.length_append, List.length_take, List.length_replicate]; omega
theorem upto_set (l : List (BitVec 32)) (i : Nat) (h : i < l.length) : (upto l i).set i (rd l i) = upto l (i + 1) := by
  have e : l.length - i = (l.length - (i + 1)) + 1 := by omega
  have ht : (l.take i).length = i := by rw [List.length_take]; omega
  unfold upto
  rw [e, List.replicate_succ, List.set_append_right (h := by omega), ht, Nat.sub_self, List.set_cons_zero, List.take_succ_eq_append_getElem h, ← rd_eq l i h]
  simp
theorem upto_all (l : List (BitVec 32)) (i : Nat) (h : l.length ≤ i) : upto l i = l := by
  unfold upto
  rw [List.take_of_length_le h, show l.length - i = 0 by omega]; simp
theorem kL_len : kL.length = 64 := by unfold kL; decide
theorem hL_len : hL.length = 8 := by unfold hL; decide

set_option maxRecDepth 100000 in
set_option maxHeartbeats 8000000 in
theorem ref_constants_ (k : Nat) (K H : List (BitVec 32)) (P : List Int) (w : World) (hd : Hid (K.length = 64 ∧ H.length = 8 ∧ P.length = 64 ∧ (∀ i, i < 64 → rootF (P.getD i 0) true = some (rd K i)) ∧ (∀ i, i < 8 → rootF (P.getD i 0) false = some (rd H i)))) (hP' : Hid (PShaSums.smithyref06_Primes.f k 64 = some P)) :
    Calls Tryd.prog 6 #[] w fun e w' => e = .returned (.tuple #[.agg (row U32 K), .agg (row U32 H)]) ∧ Below w.heap.size w w' := by
  go_enter Tryd.func6, Tryd.ntmps6
  go_wp2_with fail
  refine (PShaSums.smithyref06_Primes.calls k 64 P _ hP'.out).mono ?_
  rintro e w1 ⟨v1, rfl, hR1, hB1⟩
  have o1 := own_of_R hR1
  obtain ⟨A1, c1, rfl, hc1, hs1, _⟩ := o1.slice
  obtain ⟨pb, po, rfl, hpb, hcl⟩ := hs1 (by have := hd.out.2.2.1; omega)
  have k0 := (Blk.new' (w.alloc (.cells (row U32 (List.replicate 64 0#32)) 25)) 26 (row U32 (List.replicate 8 0#32)) (n := w.heap.size + 1) (by simp))
  have k1 := (Blk.new w 25 (row U32 (List.replicate 64 0#32))).alloc (.cells (row U32 (List.replicate 8 0#32)) 26)
  replace k0 := k0.below hB1 k0.lt
  replace k1 := k1.below hB1 k1.lt
  have hsz : w.heap.size + 1 < w1.heap.size := by have := hB1.size; simp at this; omega
  have hBw := (((Below.refl w.heap.size w).alloc (Nat.le_refl _) (.cells (row U32 (List.replicate 64 0#32)) 25)).alloc (by simp) (.cells (row U32 (List.replicate 8 0#32)) 26)).trans (hB1.mono (by simp; omega))
  clear hR1 o1 hB1 hs1
  dsimp only
  have hg := (show Hid (w.heap.size + 1 < w1.heap.size) from hsz)
  clear hsz
  go_upto_region 2 with (fail)
  iterate 7 go_step
  refine store_put (f := U32) (xs := List.replicate 64 0#32) rfl 25 _ _ rfl rfl rfl (Blk.new w1 25 (row U32 (List.replicate 64 0#32))) (by kernel_rfl) rfl rfl (fun _ => rfl) ?_
  intro w2 p2
  have q2 := p2.blk
  have q0 := p2.far (k0.alloc _) (by have := hg.out; omega)
  have q1 := p2.far (k1.alloc _) (by have := hg.out; omega)
  have hs2 := p2.below ((Below.refl w1.heap.size w1).alloc (Nat.le_refl _) _) (Nat.le_refl _)
  have hz2 : w2.heap.size = w1.heap.size + 1 := by have := p2.size; simpa using this
  clear p2 k0 k1
  generalize hz7 : (Value.agg _) = z7
  have hz7 := (show Hid _ from hz7)
  go_upto_region 3 with (fail)
  iterate 7 go_step
  refine store_put (f := U32) (xs := List.replicate 8 0#32) rfl 26 _ _ rfl rfl rfl (Blk.new' w2 26 (row U32 (List.replicate 8 0#32)) (n := w1.heap.size + 1) (by omega)) (by kernel_rfl) rfl rfl (fun _ => rfl) ?_
  intro w3 p3
  have r3 := p3.blk
  have r0 := p3.far (q0.alloc _) (by have := q0.lt; omega)
  have r1 := p3.far (q1.alloc _) (by have := q1.lt; omega)
  have r2 := p3.far (q2.alloc _) (by have := q2.lt; omega)
  have hs3 := p3.below (hs2.alloc (by omega) _) (by omega)
  clear p3 q0 q1 q2 hs2
  generalize hz8 : (Value.agg _) = z8
  have hz8 := (show Hid _ from hz8)
  clear hz2
  go_wp2
  go_loopg [5] 64 (fun k i wr => ∃ j : Nat, j + k = 64 ∧ i = .int .i64 j ∧ Blk wr w.heap.size 25 (row U32 (List.replicate 64 0#32)) ∧ Blk wr (w.heap.size + 1) 26 (row U32 (List.replicate 8 0#32)) ∧ Blk wr w1.heap.size 25 (row U32 (upto K j)) ∧ Blk wr (w1.heap.size + 1) 26 (row U32 (upto H j)) ∧ Below w1.heap.size w1 wr)
  case atStart =>
    have hK : upto K 0 = List.replicate 64 0#32 := by simp [upto, hd.out.1]
    have hH : upto H 0 = List.replicate 8 0#32 := by simp [upto, hd.out.2.1]
    exact ⟨0, rfl, rfl, r1, r0, by rw [hK]; exact r2, by rw [hH]; exact r3, hs3⟩
  case round =>
    clear r0 r1 r2 r3 hs3
    obtain ⟨j, hj, rfl, h0, h1, h2, h3, hB⟩ := hrel
    by_cases hlt : j < 64
    · have c1 : wr.cell? ⟨pb, po + j, none⟩ = some (.int .u64 (P.getD j 0)) := (hcl.below hB hpb) j _ (by have := hd.out.2.2.1; rw [List.getD_eq_getElem?_getD, List.getElem?_eq_getElem (by omega)]; rfl)
      have hx : (j : Int) < (P.length : Int) := by have := hd.out.2.2.1; omega
      generalize hpj : P.getD j 0 = p at c1
      have Hj := (show Hid (j + gk = 64 ∧ P.getD j 0 = p) from ⟨hj, hpj⟩)
      have hgk : 0 < gk := by omega
      clear hj hpj
      have e1 : rootF p true = some (rd K j) := by rw [← Hj.out.2]; exact hd.out.2.2.2.1 j hlt
      have E1 := (show Hid _ from e1)
      clear e1
      go_wp2_with fail
      refine (ref_root _ true _ _ E1.out).mono ?_
      rintro e w2 ⟨rfl, hb2⟩
      dsimp only
      have m0 := h0.below hb2 h0.lt
      have m1 := h1.below hb2 h1.lt
      have m2 := h2.below hb2 h2.lt
      have m3 := h3.below hb2 h3.lt
      have hs := h3.lt
      have hB2 := hB.trans (hb2.mono hB.size)
      clear h0 h1 h2 h3 hB hb2 c1
      by_cases h8 : j < 8
      · have c2 : w2.cell? ⟨pb, po + j, none⟩ = some (.int .u64 p) := by
          have := (hcl.below hB2 hpb) j _ (show P[j]? = some (P.getD j 0) by have := hd.out.2.2.1; rw [List.getD_eq_getElem?_getD, List.getElem?_eq_getElem (by omega)]; rfl)
          rw [Hj.out.2] at this; exact this
        have e2 : rootF p false = some (rd H j) := by rw [← Hj.out.2]; exact hd.out.2.2.2.2 j h8
        have E2 := (show Hid _ from e2)
        have i1 := m2.rd32 (i := j) (by rw [upto_len, hd.out.1]; exact hlt)
        have f1 := m2.free j
        have hlk : j < K.length := by rw [hd.out.1]; exact hlt
        have hlh : j < H.length := by rw [hd.out.2.1]; exact h8
        clear e2
        go_wp2_with fail
        refine (ref_root _ false _ _ E2.out).mono ?_
        rintro e w4 ⟨rfl, hb4⟩
        dsimp only
        have n0 := (m0.far (p := ⟨w1.heap.size, j, none⟩) (show w.heap.size ≠ w1.heap.size by have := hg.out; omega) (U32 (rd K j))).below hb4 (by simpa using m0.lt)
        have n1 := (m1.far (p := ⟨w1.heap.size, j, none⟩) (show w.heap.size + 1 ≠ w1.heap.size by have := hg.out; omega) (U32 (rd K j))).below hb4 (by simpa using m1.lt)
        have n2 := (m2.set_ j (rd K j)).below hb4 (by simpa using m2.lt)
        have n3 := (m3.far (p := ⟨w1.heap.size, j, none⟩) (show w1.heap.size + 1 ≠ w1.heap.size by omega) (U32 (rd K j))).below hb4 (by simpa using m3.lt)
        rw [upto_set K j hlk] at n2
        have hsz2 := hB2.size
        have hB4 := (hB2.setCell (p := ⟨w1.heap.size, j, none⟩) (Nat.le_refl _) (U32 (rd K j))).trans (hb4.mono (by simpa using hsz2))
        have i3 := n3.rd32 (i := j) (by rw [upto_len]; exact hlh)
        have f3 := n3.free j
        clear m0 m1 m2 m3 hB2 hb4 i1 f1 c2
        go_wp2
        go_roundg (gk - 1)
        case measure => omega
        case rel =>
          have hj := Hj.out.1
          refine ⟨j + 1, by omega, by go_num, n0.far (p := ⟨w1.heap.size + 1, j, none⟩) (show w.heap.size ≠ w1.heap.size + 1 by have := hg.out; omega) _, n1.far (p := ⟨w1.heap.size + 1, j, none⟩) (show w.heap.size + 1 ≠ w1.heap.size + 1 by have := hg.out; omega) _, n2.far (p := ⟨w1.heap.size + 1, j, none⟩) (show w1.heap.size ≠ w1.heap.size + 1 by omega) _, ?_, hB4.setCell (p := ⟨w1.heap.size + 1, j, none⟩) (show w1.heap.size ≤ w1.heap.size + 1 by omega) _⟩
          have := n3.set_ j (rd H j); rw [upto_set H j hlh] at this; exact this
      · have i1 := m2.rd32 (i := j) (by rw [upto_len, hd.out.1]; exact hlt)
        have f1 := m2.free j
        have hlk : j < K.length := by rw [hd.out.1]; exact hlt
        go_wp2
        go_roundg (gk - 1)
        case measure => omega
        case rel =>
          have hj := Hj.out.1
          refine ⟨j + 1, by omega, by go_num, m0.far (p := ⟨w1.heap.size, j, none⟩) (show w.heap.size ≠ w1.heap.size by have := hg.out; omega) _, m1.far (p := ⟨w1.heap.size, j, none⟩) (show w.heap.size + 1 ≠ w1.heap.size by have := hg.out; omega) _, ?_, ?_, hB2.setCell (Nat.le_refl _) _⟩
          · have := m2.set_ j (rd K j); rw [upto_set K j hlk] at this; exact this
          · have := m3.far (p := ⟨w1.heap.size, j, none⟩) (show w1.heap.size + 1 ≠ w1.heap.size by omega) (U32 (rd K j))
            rw [upto_all H j (by have := hd.out.2.1; omega)] at this
            rw [upto_all H (j + 1) (by have := hd.out.2.1; omega)]; exact this
    · obtain rfl : j = 64 := by omega
      clear hj
      rw [upto_all K 64 (by rw [hd.out.1]; omega)] at h2
      rw [upto_all H 64 (by rw [hd.out.2.1]; omega)] at h3
      repeat go_step
      have hlr := h3.lt
      have hbw := hBw.trans (hB.mono (by have := hg.out; omega))
      have hCq : Blk wr.drew w1.heap.size 25 (row U32 K) ∧ Blk wr.drew (w1.heap.size + 1) 26 (row U32 H) := ⟨h2.drew, h3.drew⟩
      refine wp_plan (fun W => Blk W w1.heap.size 25 (row U32 K) ∧ Blk W (w1.heap.size + 1) 26 (row U32 H)) [3] [(0, true), (1, true), (2, false), (3, false)] (by kernel_rfl) (by kernel_rfl) (fun ops hops => ?_)
      dsimp only [zipPlan, pickOp]
      refine plan_still _ rfl rfl rfl hCq ?_; apply Exists.intro; refine ⟨fun W hW K' N hK => ?_, ?_, ?_⟩
      · refine load_wp 25 _ rfl rfl hW.1 Tryd.underlying25 (by kernel_rfl) hd.out.1 ?_
        simp only [Act.put, List.setIfInBounds_toArray, List.set_cons_succ, List.set_cons_zero]
        exact hK
      · rfl
      refine plan_still _ rfl rfl rfl hCq ?_; apply Exists.intro; refine ⟨fun W hW K' N hK => ?_, ?_, ?_⟩
      · refine load_wp 26 _ rfl rfl hW.2 Tryd.underlying26 (by kernel_rfl) hd.out.2.1 ?_
        simp only [Act.put, List.setIfInBounds_toArray, List.set_cons_succ, List.set_cons_zero]
        exact hK
      · rfl
      have q0 : Blk wr.drew w.heap.size 25 (row U32 (List.replicate 64 0#32)) := h0.drew
      have q1 : Blk wr.drew (w.heap.size + 1) 26 (row U32 (List.replicate 8 0#32)) := h1.drew
      have qB : Below w.heap.size w wr.drew := hbw.drew
      clear h0 h1 h2 h3 hbw hB hops hcl
      refine plan_effect false rfl rfl ?_
      refine store_put (f := U32) (n := 64) rfl 25 _ _ rfl rfl rfl q0 (by kernel_rfl) hd.out.1 rfl (fun _ => rfl) ?_
      intro w4 p4
      refine wpList_nil ?_
      refine Eff.mk_ ⟨p4.far hCq.1 (by have := hg.out; omega), p4.far hCq.2 (by have := hg.out; omega)⟩ ?_
      refine plan_effect true rfl rfl ?_
      refine store_put (f := U32) (n := 8) rfl 26 _ _ rfl rfl rfl (p4.far q1 (by omega)) (by kernel_rfl) hd.out.2.1 rfl (fun _ => rfl) ?_
      intro w5 p5
      refine wpList_nil ?_
      refine Eff.wild (plan_nil ?_)
      have z0 := p5.far p4.blk (by omega)
      have z1 := p5.blk
      have zB := p5.below (p4.below qB (by omega)) (by omega)
      clear p4 p5
      go_wp2
      exact bodyPost_ret (results_cc rfl _ _ _ _ _ _ _ _ (0, 0) (0, 0) _ _ rfl z0 Tryd.underlying25 rfl (by rw [row_size, hd.out.1]; kernel_rfl) rfl z1 Tryd.underlying26 rfl (by rw [row_size, hd.out.2.1]; kernel_rfl)) rfl ⟨rfl, zB⟩

theorem ref_constants (w : World) : Calls Tryd.prog 6 #[] w fun e w' => e = .returned (.tuple #[.agg (row U32 kL), .agg (row U32 hL)]) ∧ Below w.heap.size w w' :=
  ref_constants_ 4000 kL hL primesL w (show _ ∧ _ from ⟨kL_len, hL_len, by decide, cube_at, square_at⟩) primes64
end Go.Proofs.YtfcbkmgkdbdabaaDoor
