/- Which of two numbers of digits is less. -/
import Derived.Test.YtccilbklafhjiaaWvD
namespace Go.Proofs.Ytccilbklafhjiaa
open Go.RowKit
set_option linter.unusedVariables false
set_option linter.unusedSimpArgs false
theorem dsum_bounds {f : Nat → Int} (hf : ∀ i, 0 ≤ f i ∧ f i < 256) : ∀ n, 0 ≤ dsum f n ∧ dsum f n < 256 ^ n
  | 0 => by simp [dsum]
  | n + 1 => by
    have ih := dsum_bounds hf n
    have h := hf n
    have hp : (0 : Int) < 256 ^ n := Int.pow_pos (by omega)
    have h1 : 0 ≤ f n * 256 ^ n := Int.mul_nonneg h.1 (by omega)
    have h2 : f n * 256 ^ n ≤ 255 * 256 ^ n := Int.mul_le_mul_of_nonneg_right (by omega) (by omega)
    unfold dsum
    rw [Int.pow_succ]
    omega
theorem dsum_cmp {f g : Nat → Int} (hf : ∀ i, 0 ≤ f i ∧ f i < 256) (hg : ∀ i, 0 ≤ g i ∧ g i < 256) {n : Nat} (h : f n ≠ g n) : decide (dsum f (n + 1) < dsum g (n + 1)) = decide (f n < g n) := by
  have h1 := dsum_bounds hf n
  have h2 := dsum_bounds hg n
  have hp : (0 : Int) < 256 ^ n := Int.pow_pos (by omega)
  unfold dsum
  by_cases e : f n < g n
  · have : (f n + 1) * 256 ^ n ≤ g n * 256 ^ n := Int.mul_le_mul_of_nonneg_right (by omega) (by omega)
    rw [Int.add_mul, Int.one_mul] at this
    rw [decide_eq_true e, decide_eq_true (by omega)]
  · have : (g n + 1) * 256 ^ n ≤ f n * 256 ^ n := Int.mul_le_mul_of_nonneg_right (by omega) (by omega)
    rw [Int.add_mul, Int.one_mul] at this
    rw [decide_eq_false e, decide_eq_false (by omega)]
theorem less_loop {a b : List Int} (ha : Dg a) (hb : Dg b) (la : a.length ≤ 3000) (lb : b.length ≤ 3000) : ∀ n, n ≤ 3000 → ∃ o, wlk (fun s => smithyref02_Less.b1 a b s) (n + 1) ((n : Int) - 1) = some o ∧ Sum.elim (fun (_ : Int) => some false) (fun r => some r) o = some (decide (dsum (dat a) n < dsum (dat b) n))
  | 0, _ => ⟨.inl (((0 : Nat) : Int) - 1), wlk_brk (by simp only [smithyref02_Less.b1, Let_eq]; rfl), by simp [dsum]⟩
  | n + 1, hn => by
    have h1 : (((n + 1 : Nat) : Int) - 1) = ((n : Nat) : Int) := by omega
    have h2 : wi ((n : Int) - 1) = (n : Int) - 1 := wi_id (by omega)
    have hs : smithyref02_Less.b1 a b (n : Int) = bif (dat a n != dat b n) then some (.ret (decide (dat a n < dat b n))) else some (.next ((n : Int) - 1)) := by
      simp only [smithyref02_Less.b1, Let_eq, decide_eq_true (show (0 : Int) ≤ (n : Int) by omega), cond_true, at_eq a n (by omega), at_eq b n (by omega), Option.bind_some, h2]
    rw [h1]
    cases e : (dat a n != dat b n) with
    | true =>
      rw [e] at hs
      have hne : dat a n ≠ dat b n := bne_iff_ne.1 e
      exact ⟨_, wlk_ret hs, by rw [dsum_cmp (dat_bounds ha) (dat_bounds hb) hne]; rfl⟩
    | false =>
      rw [e] at hs
      have heq : dat a n = dat b n := by simpa using e
      obtain ⟨o, ho, hv⟩ := less_loop ha hb la lb n (by omega)
      refine ⟨o, by rw [wlk_next (b := fun s => smithyref02_Less.b1 a b s) hs]; exact ho, ?_⟩
      rw [hv]
      have ea : dsum (dat a) (n + 1) = dsum (dat a) n + dat b n * 256 ^ n := by rw [← heq]; rfl
      have eb : dsum (dat b) (n + 1) = dsum (dat b) n + dat b n * 256 ^ n := rfl
      rw [ea, eb]
      congr 1
      by_cases q : dsum (dat a) n < dsum (dat b) n
      · rw [decide_eq_true q, decide_eq_true (by omega)]
      · rw [decide_eq_false q, decide_eq_false (by omega)]
theorem dV_more {a : List Int} : ∀ {n : Nat}, a.length ≤ n → dsum (dat a) n = dV a
  | n, h => by
    obtain ⟨k, rfl⟩ : ∃ k, n = a.length + k := ⟨n - a.length, by omega⟩
    induction k with
    | zero => rfl
    | succ k ih =>
      show dsum (dat a) (a.length + k) + dat a (a.length + k) * 256 ^ (a.length + k) = _
      rw [ih (by omega), show dat a (a.length + k) = 0 by unfold dat; rw [if_neg (by omega)]]
      simp
theorem Less_val {a b : List Int} (ha : Dg a) (hb : Dg b) (la : a.length ≤ 3000) (lb : b.length ≤ 3000) : smithyref02_Less a b = some (decide (dV a < dV b)) := by
  obtain ⟨o, ho, hv⟩ := less_loop ha hb la lb (max a.length b.length) (by omega)
  have hm : wi ((if (a.length : Int) < (b.length : Int) then (b.length : Int) else (a.length : Int)) - 1) = ((max a.length b.length : Nat) : Int) - 1 := by
    split <;> rw [wi_id (by omega)] <;> omega
  unfold smithyref02_Less
  simp only [Let_eq, hm]
  rw [wlx_of ho (by omega), Option.bind_some]
  rw [dV_more (show a.length ≤ max a.length b.length by omega), dV_more (show b.length ≤ max a.length b.length by omega)] at hv
  exact hv
end Go.Proofs.Ytccilbklafhjiaa
