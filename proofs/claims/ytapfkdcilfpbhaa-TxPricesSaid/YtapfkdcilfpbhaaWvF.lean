/- Noughts behind the lowest 32 digits. -/
import Derived.Test.YtapfkdcilfpbhaaWvZ
import Derived.Test.YtapfkdcilfpbhaaWvO
namespace Go.Proofs.Ytapfkdcilfpbhaa
open Go.RowKit
set_option linter.unusedVariables false
set_option linter.unusedSimpArgs false
theorem High_eq (a : List Int) (la : a.length ≤ 3000) : smithyref02_N_High a = some (a.drop 32) := by
  unfold smithyref02_N_High
  simp only [Let_eq]
  by_cases e : a.length ≤ 32
  · rw [decide_eq_true (by omega), cond_true, List.drop_eq_nil_of_le e]
  · rw [decide_eq_false (by omega), cond_false, Chk_ok (by omega), List.take_length]; rfl
/-- The digits behind the lowest 32 are noughts: the number is a word's. -/
theorem fits_eq {a : List Int} (ha : Dg a) (la : a.length ≤ 3000) : ((smithyref02_N_High a).bind smithyref02_Zero) = some (decide (dV a < 256 ^ 32)) := by
  obtain ⟨r, hr, hri⟩ := Zero_eq (a.drop 32) (by rw [List.length_drop]; omega)
  rw [High_eq a la, Option.bind_some, hr]
  refine congrArg some ?_
  suffices hk : r = true ↔ dV a < 256 ^ 32 by
    cases r with
    | true => exact (decide_eq_true (hk.1 rfl)).symm
    | false => exact (decide_eq_false fun h => by cases hk.2 h).symm
  have hb := dsum_bounds (dat_bounds ha) 32
  have hd : dV a = dsum (dat a) 32 + 256 ^ 32 * dsum (fun j => dat a (32 + j)) a.length := by
    rw [← dsum_split, dV_more (by omega)]
  have hn := dsum_nought (f := fun j => dat a (32 + j)) (fun i => dat_bounds ha _) a.length
  have hs := dsum_bounds (f := fun j => dat a (32 + j)) (fun i => dat_bounds ha _) a.length
  have hp : (0 : Int) < 256 ^ 32 := Int.pow_pos (by omega)
  have key : (∀ j, j < (a.drop 32).length → lget (a.drop 32) j = 0) ↔ ∀ j, j < a.length → dat a (32 + j) = 0 := by
    constructor
    · intro h j hj
      rw [← dat_drop]
      by_cases e : j < (a.drop 32).length
      · unfold dat; rw [if_pos e]; exact h j e
      · unfold dat; rw [if_neg e]
    · intro h j hj
      have := h j (by rw [List.length_drop] at hj; omega)
      rw [← dat_drop] at this
      unfold dat at this
      rwa [if_pos hj] at this
  rw [hri, key, ← hn, hd]
  generalize dsum (fun j => dat a (32 + j)) a.length = s at *
  generalize dsum (dat a) 32 = q at *
  constructor
  · intro e; rw [e]; omega
  · intro h
    by_cases e : s = 0
    · exact e
    · have : 256 ^ 32 * 1 ≤ 256 ^ 32 * s := Int.mul_le_mul_of_nonneg_left (by omega) (by omega)
      omega
end Go.Proofs.Ytapfkdcilfpbhaa
