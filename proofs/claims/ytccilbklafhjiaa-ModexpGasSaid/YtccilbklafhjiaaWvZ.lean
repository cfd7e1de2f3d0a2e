/- Noughts. -/
import Derived.Test.YtccilbklafhjiaaWvE
namespace Go.Proofs.Ytccilbklafhjiaa
open Go.RowKit
set_option linter.unusedVariables false
set_option linter.unusedSimpArgs false
theorem zero_loop (a : List Int) (la : a.length ≤ 3000) : ∀ (n i : Nat), i + n = a.length → ∃ o r, wlk (fun s => smithyref02_Zero.b1 (a.length : Int) a s) (n + 1) (i : Int) = some o ∧ Sum.elim (fun (_ : Int) => some true) (fun r => some r) o = some r ∧ (r = true ↔ ∀ j, i ≤ j → j < a.length → lget a j = 0)
  | 0, i, h => by
    obtain rfl : i = a.length := by omega
    exact ⟨.inl (a.length : Int), true, wlk_brk (by simp only [smithyref02_Zero.b1, Let_eq, decide_eq_false (show ¬ (a.length : Int) < (a.length : Int) by omega), cond_false]), rfl, ⟨fun _ j h1 h2 => absurd h2 (by omega), fun _ => rfl⟩⟩
  | n + 1, i, h => by
    have h2 : wi ((i : Int) + 1) = ((i + 1 : Nat) : Int) := by rw [wi_id (by omega)]; omega
    have hs : smithyref02_Zero.b1 (a.length : Int) a (i : Int) = bif (lget a i != 0) then some (.ret false) else some (.next ((i + 1 : Nat) : Int)) := by
      simp only [smithyref02_Zero.b1, Let_eq, decide_eq_true (show (i : Int) < (a.length : Int) by omega), cond_true, Chk_ok (show (0 : Int) ≤ (i : Int) ∧ (i : Int) < (a.length : Int) by omega), Int.toNat_natCast, h2]
    cases e : (lget a i != 0) with
    | true =>
      rw [e] at hs
      have hne : lget a i ≠ 0 := bne_iff_ne.1 e
      exact ⟨_, false, wlk_ret hs, rfl, ⟨fun h => (by cases h), fun hall => absurd (hall i (Nat.le_refl _) (by omega)) hne⟩⟩
    | false =>
      rw [e] at hs
      have heq : lget a i = 0 := by simpa using e
      obtain ⟨o, r, ho, hv, hr⟩ := zero_loop a la n (i + 1) (by omega)
      refine ⟨o, r, by rw [wlk_next (b := fun s => smithyref02_Zero.b1 (a.length : Int) a s) hs]; exact ho, hv, hr.trans ⟨fun hall j h1 h2 => ?_, fun hall j h1 h2 => hall j (by omega) h2⟩⟩
      by_cases ej : j = i
      · subst ej; exact heq
      · exact hall j (by omega) h2
theorem Zero_eq (a : List Int) (la : a.length ≤ 3000) : ∃ r, smithyref02_Zero a = some r ∧ (r = true ↔ ∀ j, j < a.length → lget a j = 0) := by
  obtain ⟨o, r, ho, hv, hr⟩ := zero_loop a la a.length 0 (by omega)
  refine ⟨r, ?_, hr.trans ⟨fun h j hj => h j (by omega) hj, fun h j _ hj => h j hj⟩⟩
  unfold smithyref02_Zero
  rw [Let_eq, show (0 : Int) = ((0 : Nat) : Int) from rfl, wlx_of ho (by omega), Option.bind_some, hv]
theorem dat_drop (a : List Int) (k j : Nat) : dat (a.drop k) j = dat a (k + j) := by
  unfold dat lget
  simp only [List.length_drop, List.getD_eq_getElem?_getD, List.getElem?_drop]
  by_cases e : j < a.length - k
  · rw [if_pos e, if_pos (by omega)]
  · rw [if_neg e, if_neg (by omega)]
theorem dsum_split (f : Nat → Int) (k : Nat) : ∀ n, dsum f (k + n) = dsum f k + 256 ^ k * dsum (fun j => f (k + j)) n
  | 0 => by simp [dsum]
  | n + 1 => by
    show dsum f (k + n) + f (k + n) * 256 ^ (k + n) = dsum f k + 256 ^ k * (dsum (fun j => f (k + j)) n + f (k + n) * 256 ^ n)
    rw [dsum_split f k n, Int.mul_add, Int.pow_add, Int.mul_left_comm (256 ^ k), Int.add_assoc]
theorem dsum_nought {f : Nat → Int} (hf : ∀ i, 0 ≤ f i ∧ f i < 256) : ∀ n, dsum f n = 0 ↔ ∀ j, j < n → f j = 0
  | 0 => by simp [dsum]
  | n + 1 => by
    have ih := dsum_nought hf n
    have hb := dsum_bounds hf n
    have h := hf n
    have hp : (0 : Int) < 256 ^ n := Int.pow_pos (by omega)
    have h1 : 0 ≤ f n * 256 ^ n := Int.mul_nonneg h.1 (by omega)
    unfold dsum
    constructor
    · intro e j hj
      have e1 : dsum f n = 0 := by omega
      have e2 : f n * 256 ^ n = 0 := by omega
      by_cases ej : j = n
      · subst ej
        rcases Int.mul_eq_zero.1 e2 with e3 | e3
        · exact e3
        · omega
      · exact ih.1 e1 j (by omega)
    · intro hall
      rw [ih.2 fun j hj => hall j (by omega), hall n (by omega)]; simp
end Go.Proofs.Ytccilbklafhjiaa
