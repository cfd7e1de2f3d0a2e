/- What a transaction may cost. -/
import Derived.Test.YtapfkdcilfpbhaaWvG
namespace Go.Proofs.Ytapfkdcilfpbhaa
open Go.RowKit
set_option linter.unusedVariables false
set_option linter.unusedSimpArgs false
def wordOf (g : W64) : Word4 := (Vec.rep 4 0#64).set 0 g
theorem wordOf_val (g : W64) : wv (wordOf g) = g.toNat := by
  unfold wv wordOf
  rw [Vec.get_set _ (by omega), Vec.get_set _ (by omega), Vec.get_set _ (by omega), Vec.get_set _ (by omega), if_pos rfl, if_neg (by omega), if_neg (by omega), if_neg (by omega), Vec.get_rep (by omega), Vec.get_rep (by omega), Vec.get_rep (by omega)]
  simp
theorem Of_eq (g : W64) : word_Of g = some (wordOf g) := by unfold word_Of; rw [Let_eq]; rfl
theorem digs_get (a : Word4) {i : Nat} (hi : i < 32) : dat ((List.range 32).map (digF a)) i = digF a i := by
  unfold dat lget; simp [hi]
theorem digs_dg (a : Word4) : Dg ((List.range 32).map (digF a)) := fun i hi => by
  have : i < 32 := by simpa using hi
  have h := digF_bounds a i
  unfold lget; simp [this]; exact h
theorem digs_val (a : Word4) : dV ((List.range 32).map (digF a)) = wv a := by
  unfold dV
  rw [show ((List.range 32).map (digF a)).length = 32 by simp, dsum_congr (g := digF a) fun j hj => digs_get a hj, digF_val]
theorem Plus_val {a b : List Int} (ha : Dg a) (hb : Dg b) (la : a.length ≤ 1000) (lb : b.length ≤ 1000) : ∃ r, smithyref02_Plus a b = some r ∧ Dg r ∧ r.length = max a.length b.length + 1 ∧ dV r = dV a + dV b := by
  refine ⟨_, Plus_eq ha hb la lb, fun i hi => ?_, by simp, ?_⟩
  · have hi' : i < max a.length b.length + 1 := by simpa using hi
    have h : lget ((List.range (max a.length b.length + 1)).map (plD (dat a) (dat b))) i = plD (dat a) (dat b) i := by unfold lget; simp [hi']
    rw [h]; unfold plD; omega
  · have h1 : ∀ j, j < max a.length b.length + 1 → dat ((List.range (max a.length b.length + 1)).map (plD (dat a) (dat b))) j = plD (dat a) (dat b) j := fun j hj => by unfold dat lget; simp [hj]
    unfold dV
    rw [show ((List.range (max a.length b.length + 1)).map (plD (dat a) (dat b))).length = max a.length b.length + 1 by simp, dsum_congr h1]
    have h2 := plD_val (dat a) (dat b) (max a.length b.length + 1)
    have h3 : plC (dat a) (dat b) (max a.length b.length + 1) = 0 := by
      show (dat a (max a.length b.length) + dat b (max a.length b.length) + plC (dat a) (dat b) (max a.length b.length)) / 256 = 0
      have c := plC_bounds (dat_bounds ha) (dat_bounds hb) (max a.length b.length)
      have d1 : dat a (max a.length b.length) = 0 := by unfold dat; rw [if_neg (by omega)]
      have d2 : dat b (max a.length b.length) = 0 := by unfold dat; rw [if_neg (by omega)]
      rw [d1, d2]; omega
    rw [h3, Int.zero_mul, Int.add_zero, dV_more (by omega), dV_more (by omega)] at h2
    exact h2
abbrev TX := (Vec (BitVec 8) 20) × (Vec (BitVec 8) 20) × (Bool) × (BitVec 64) × (Vec (BitVec 64) 4) × (List (BitVec 8)) × (BitVec 64) × (Vec (BitVec 64) 4) × (Vec (BitVec 64) 4) × (List ((Vec (BitVec 8) 20) × (List (Vec (BitVec 64) 4))))
def costN (t : TX) : Nat := t.2.2.2.2.2.2.1.toNat * wv t.2.2.2.2.2.2.2.1 + wv t.2.2.2.2.1
theorem ref_Cost_val (t : TX) : ∃ n, smithyref19_Cost t = some n ∧ Dg n ∧ n.length ≤ 100 ∧ dV n = costN t := by
  obtain ⟨p, hp, dp, lp, vp⟩ := Times_val (digs_dg (wordOf t.2.2.2.2.2.2.1)) (digs_dg t.2.2.2.2.2.2.2.1) (by simp) (by simp)
  have lp' : p.length = 65 := by simpa using lp
  obtain ⟨n, hn, dn, ln, vn⟩ := Plus_val dp (digs_dg t.2.2.2.2.1) (by omega) (by simp)
  have ln' : n.length = 66 := by simp only [List.length_map, List.length_range, lp'] at ln; omega
  refine ⟨n, ?_, dn, by omega, ?_⟩
  · unfold smithyref19_Cost
    rw [Let_eq]
    show (smithyref02_Of (wordOf t.2.2.2.2.2.2.1)).bind _ = _
    rw [ref_Of_eq, Option.bind_some, ref_Of_eq, Option.bind_some, hp, Option.bind_some, ref_Of_eq, Option.bind_some, hn]; rfl
  · rw [vn, vp, digs_val, digs_val, digs_val, wordOf_val]
    unfold costN
    rw [Int.natCast_add, Int.natCast_mul]
theorem zero_wv : wv (Vec.rep 4 0#64) = 0 := by decide
theorem Cost_val (t : TX) : ∃ w, tx_Cost t = some (w, decide (costN t < 2 ^ 256)) ∧ wv w = if costN t < 2 ^ 256 then costN t else 0 := by
  obtain ⟨lo, hi, hP, hv⟩ := Product_val (wordOf t.2.2.2.2.2.2.1) t.2.2.2.2.2.2.2.1
  rw [wordOf_val] at hv
  have hlo := wv_lt lo
  have hval := wv_lt t.2.2.2.2.1
  have hs := addS_val lo t.2.2.2.2.1
  have hc := addC_le lo t.2.2.2.2.1 4
  have hsl := wv_lt (addS lo t.2.2.2.2.1 4)
  have hcost : costN t = wv lo + 2 ^ 256 * wv hi + wv t.2.2.2.2.1 := by unfold costN; omega
  have hz : (hi.l != (Vec.rep 4 0#64).l) = decide (wv hi ≠ 0) := by
    by_cases e : wv hi = 0
    · have : hi = Vec.rep 4 0#64 := wv_inj (by rw [e, zero_wv])
      rw [this]; simp [zero_wv]
    · rw [decide_eq_true e]
      exact bne_iff_ne.2 fun h => e (by rw [Vec.ext h, zero_wv])
  have hcm : decide (cmpV (addS lo t.2.2.2.2.1 4) lo < 0) = decide (wv (addS lo t.2.2.2.2.1 4) < wv lo) := by
    unfold cmpV
    by_cases e1 : wv (addS lo t.2.2.2.2.1 4) = wv lo
    · rw [if_pos e1, decide_eq_false (by omega), decide_eq_false (by omega)]
    · rw [if_neg e1]
      by_cases e2 : wv (addS lo t.2.2.2.2.1 4) < wv lo
      · rw [if_pos e2, decide_eq_true (by omega), decide_eq_true e2]
      · rw [if_neg e2, decide_eq_false (by omega), decide_eq_false e2]
  have hrun : tx_Cost t = some (bif decide (costN t < 2 ^ 256) then (addS lo t.2.2.2.2.1 4, true) else (Vec.rep 4 0#64, false)) := by
    unfold tx_Cost
    rw [Of_eq, Option.bind_some, hP, Option.bind_some]
    simp only [Add_eq, Option.bind_some, Let_eq, hz, Compare_eq, hcm]
    by_cases e : costN t < 2 ^ 256
    · have e1 : wv hi = 0 := by omega
      have e2 : ¬ wv (addS lo t.2.2.2.2.1 4) < wv lo := by omega
      simp only [decide_eq_true e, decide_eq_false e2, e1, ne_eq, not_true, decide_false, cond_false, Option.bind_some, cond_true]
    · simp only [decide_eq_false e, cond_false]
      by_cases e1 : wv hi = 0
      · have e2 : wv (addS lo t.2.2.2.2.1 4) < wv lo := by omega
        simp only [e1, ne_eq, not_true, decide_false, cond_false, decide_eq_true e2, Option.bind_some, cond_true]
      · simp only [decide_eq_true (show wv hi ≠ 0 from e1), cond_true, Option.bind_some]
  by_cases e : costN t < 2 ^ 256
  · refine ⟨addS lo t.2.2.2.2.1 4, by rw [hrun, decide_eq_true e]; rfl, ?_⟩
    rw [if_pos e]; omega
  · exact ⟨Vec.rep 4 0#64, by rw [hrun, decide_eq_false e]; rfl, by rw [if_neg e, zero_wv]⟩
end Go.Proofs.Ytapfkdcilfpbhaa
