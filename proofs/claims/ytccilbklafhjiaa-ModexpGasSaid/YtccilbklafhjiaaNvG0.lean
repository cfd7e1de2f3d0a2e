/- Digits and numbers. -/
import Derived.Test.YtccilbklafhjiaaNvF
import Derived.Test.YtccilbklafhjiaaNvD
namespace Go.Proofs.Ytccilbklafhjiaa
open Go.RowKit
set_option linter.unusedVariables false
set_option linter.unusedSimpArgs false
theorem dat_div {a : List Int} (ha : Dg a) {V : Nat} (hV : dV a = (V : Int)) (i : Nat) : dat a i = ((V / 256 ^ i % 256 : Nat) : Int) := by
  have h1 := dsum_split (dat a) i (1 + a.length)
  rw [dV_more (show a.length ≤ i + (1 + a.length) by omega), dsum_front] at h1
  have h2 := dsum_bounds (dat_bounds ha) i
  have h3 := dat_bounds ha i
  have hp : (0 : Int) < 256 ^ i := Int.pow_pos (by omega)
  have e : ((256 ^ i : Nat) : Int) = (256 : Int) ^ i := by rw [Int.natCast_pow]; rfl
  rw [Int.natCast_emod, Int.natCast_ediv, e, ← hV, h1, Nat.add_zero, Int.add_mul_ediv_left _ _ (by omega), Int.ediv_eq_zero_of_lt h2.1 h2.2, Int.zero_add]
  show dat a i = (dat a i + 256 * _) % 256
  rw [Int.add_mul_emod_self_left, Int.emod_eq_of_lt h3.1 h3.2]
theorem ref_Zero_val {m : List Int} (hm : Dg m) (lm : m.length ≤ 3000) {M : Nat} (hM : dV m = (M : Int)) : smithyref02_Zero m = some (decide (M = 0)) := by
  obtain ⟨z, hz, hzi⟩ := Zero_eq m lm
  rw [hz]
  refine congrArg some ?_
  have h1 := dsum_nought (dat_bounds hm) m.length
  have h2 : (M = 0) ↔ z = true := by
    rw [hzi]
    constructor
    · intro e j hj
      have := h1.1 (show dsum (dat m) m.length = 0 by show dV m = 0; omega) j hj
      unfold dat at this
      rwa [if_pos hj] at this
    · intro h
      have : dV m = 0 := h1.2 fun j hj => by unfold dat; rw [if_pos hj]; exact h j hj
      omega
  by_cases e : M = 0
  · rw [decide_eq_true e]; exact h2.1 e
  · rw [decide_eq_false e]
    cases z with
    | false => rfl
    | true => exact absurd (h2.2 rfl) e
end Go.Proofs.Ytccilbklafhjiaa
