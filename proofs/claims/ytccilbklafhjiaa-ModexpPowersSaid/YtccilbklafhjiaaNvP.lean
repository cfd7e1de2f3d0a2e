/- The law of powers. -/
import Derived.Test.YtccilbklafhjiaaNvE0
import Derived.Test.YtccilbklafhjiaaNvG
import Derived.Test.YtccilbklafhjiaaMcDp
namespace Go.Proofs.Ytccilbklafhjiaa
open Go.RowKit
set_option linter.unusedVariables false
set_option linter.unusedSimpArgs false
theorem Pow_long (b e m : List B8) (h : 64 < b.length ∨ 64 < e.length ∨ 64 < m.length) : modexp_Pow b e m = some ([], 4) := by
  unfold modexp_Pow
  simp only [Let_eq]
  by_cases h1 : 64 < b.length
  · simp only [decide_eq_true (show (64 : Int) < (b.length : Int) by omega), cond_true, Option.bind_some]
  simp only [decide_eq_false (show ¬ (64 : Int) < (b.length : Int) by omega), cond_false]
  by_cases h2 : 64 < e.length
  · simp only [decide_eq_true (show (64 : Int) < (e.length : Int) by omega), cond_true, Option.bind_some]
  simp only [decide_eq_false (show ¬ (64 : Int) < (e.length : Int) by omega), cond_false, Option.bind_some]
  simp only [decide_eq_true (show (64 : Int) < (m.length : Int) by omega), cond_true, Option.bind_some]
theorem powV_len (b e m : List B8) : (powV b e m).length = m.length := be_len _ _
theorem powers_true (b e m : List B8) : smithylaw09_ModexpPowers b e m = some true := by
  unfold smithylaw09_ModexpPowers
  simp only [Let_eq, long_eq, fixed_eq, Option.bind_some]
  by_cases h : 64 < b.length ∨ 64 < e.length ∨ 64 < m.length
  · rw [Pow_long b e m h, Option.bind_some]
    have hl : (decide (64 < b.length) || decide (64 < e.length) || decide (64 < m.length)) = true := by
      rcases h with h | h | h <;> simp [h]
    rw [hl]; rfl
  · have hb : b.length ≤ 64 := by omega
    have he : e.length ≤ 64 := by omega
    have hm : m.length ≤ 64 := by omega
    rw [Pow_val b e m hb he hm, Option.bind_some, decide_eq_false (show ¬ 64 < b.length by omega), decide_eq_false (show ¬ 64 < e.length by omega), decide_eq_false (show ¬ 64 < m.length by omega)]
    simp only [Bool.or_self, cond_false, cond_true, Option.bind_some, powV_len, ref_Pow_val b e m (by omega) (by omega) (by omega), str_same, show (((0 : Int) == 0) : Bool) = true from rfl, beq_self_eq_true]
    by_cases h1 : (20 : Int) < (b.length : Int)
    · simp only [decide_eq_true h1, cond_true, Option.bind_some]
    simp only [decide_eq_false h1, cond_false, Option.bind_some]
    by_cases h2 : (9 : Int) < (e.length : Int)
    · simp only [decide_eq_true h2, cond_true, Option.bind_some]
    simp only [decide_eq_false h2, cond_false, Option.bind_some]
    by_cases h3 : (9 : Int) < (m.length : Int)
    · simp only [decide_eq_true h3, cond_true, Option.bind_some]
    simp only [decide_eq_false h3, cond_false, Option.bind_some]
end Go.Proofs.Ytccilbklafhjiaa
