/- The document's products of digits. -/
import Derived.Test.YtccilbklafhjiaaWvC
namespace Go.Proofs.Ytccilbklafhjiaa
open Go.RowKit
set_option linter.unusedVariables false
set_option linter.unusedSimpArgs false
theorem dsum_set {f g : Nat → Int} {k : Nat} (hg : ∀ j, j ≠ k → g j = f j) : ∀ {n : Nat}, k < n → dsum g n + f k * 256 ^ k = dsum f n + g k * 256 ^ k
  | n + 1, hk => by
    unfold dsum
    by_cases e : k = n
    · subst e
      rw [dsum_congr (f := g) (g := f) fun j hj => hg j (by omega)]; omega
    · have ih := dsum_set hg (n := n) (by omega)
      rw [hg n (Ne.symm e)]; omega
def dV (y : List Int) : Int := dsum (dat y) y.length
theorem dat_set (y : List Int) {k : Nat} (hk : k < y.length) (x : Int) (j : Nat) : dat (y.set k x) j = if j = k then x else dat y j := by
  unfold dat lget
  simp only [List.length_set, List.getD_eq_getElem?_getD, List.getElem?_set]
  by_cases e : j = k
  · subst e; simp [hk]
  · simp [e, Ne.symm e]
theorem dV_set (y : List Int) {k : Nat} (hk : k < y.length) (x : Int) : dV (y.set k x) + dat y k * 256 ^ k = dV y + x * 256 ^ k := by
  have h := dsum_set (f := dat y) (g := dat (y.set k x)) (k := k) (fun j hj => by rw [dat_set y hk, if_neg hj]) hk
  have e : dat (y.set k x) k = x := by rw [dat_set y hk, if_pos rfl]
  rw [e] at h
  unfold dV
  rw [List.length_set]; exact h
theorem dg_of_dat {y : List Int} (h : ∀ i, 0 ≤ dat y i ∧ dat y i < 256) : Dg y := fun i hi => by
  have := h i
  unfold dat at this
  rwa [if_pos hi] at this
theorem times_step {a b y : List Int} (ha : Dg a) (hb : Dg b) (hy : Dg y) (la : a.length ≤ 1000) (lb : b.length ≤ 1000) (ly : y.length ≤ 3000) {i k : Nat} (hi : i < a.length) (hik : i + k < y.length) {c : Int} (hc : 0 ≤ c ∧ c < 256) (hgo : k < b.length ∨ 0 < c) :
    smithyref02_Times.b2 b (i : Int) a y c (k : Int) = some (.next (y.set (i + k) ((dat y (i + k) + dat a i * dat b k + c) % 256), (dat y (i + k) + dat a i * dat b k + c) / 256, ((k + 1 : Nat) : Int))) := by
  have b1 := dat_bounds ha i
  have b2 := dat_bounds hb k
  have b3 := dat_bounds hy (i + k)
  have hp : 0 ≤ dat a i * dat b k ∧ dat a i * dat b k ≤ 65025 := ⟨Int.mul_nonneg b1.1 b2.1, by
    calc dat a i * dat b k ≤ 255 * 255 := Int.mul_le_mul (by omega) (by omega) b2.1 (by omega)
      _ = 65025 := rfl⟩
  have g1 : lget a i = dat a i := by unfold dat; rw [if_pos hi]
  have g2 : lget y (i + k) = dat y (i + k) := by unfold dat; rw [if_pos hik]
  by_cases hk : k < 1000000
  · have h1 : (bif decide ((k : Int) < (b.length : Int)) then some true else Let (decide (0 < c)) fun x28 => some x28) = some true := by
      by_cases e : k < b.length
      · rw [decide_eq_true (by omega), cond_true]
      · rw [decide_eq_false (by omega), cond_false, Let_eq, decide_eq_true (by omega)]
    have h2 : wi ((k : Int) + 1) = ((k + 1 : Nat) : Int) := by rw [wi_id (by omega)]; omega
    have h3 : wi ((i : Int) + (k : Int)) = ((i + k : Nat) : Int) := by rw [wi_id (by omega)]; omega
    have h4 : wi (dat a i * dat b k) = dat a i * dat b k := wi_id (by omega)
    have h5 : wi (dat y (i + k) + dat a i * dat b k) = dat y (i + k) + dat a i * dat b k := wi_id (by omega)
    have h6 : wi (dat y (i + k) + dat a i * dat b k + c) = dat y (i + k) + dat a i * dat b k + c := wi_id (by omega)
    have h7 : Int.tmod (dat y (i + k) + dat a i * dat b k + c) 256 = (dat y (i + k) + dat a i * dat b k + c) % 256 := Int.tmod_eq_emod_of_nonneg (by omega)
    have h8 : wi (Int.tdiv (dat y (i + k) + dat a i * dat b k + c) 256) = (dat y (i + k) + dat a i * dat b k + c) / 256 := by
      rw [Int.tdiv_eq_ediv_of_nonneg (by omega), wi_id (by omega)]
    unfold smithyref02_Times.b2
    simp only [Let_eq] at h1 ⊢
    rw [h1, Option.bind_some]
    simp only [cond_true, h3, Int.toNat_natCast, g1, g2, at_eq b k (by omega), Option.bind_some, h4, h5, h6, h7, h8, h2]
    rw [Chk_ok (by omega), Chk_ok (by omega), Chk_ok (by omega)]
  · omega
theorem times_stop {a b y : List Int} {i k : Nat} (hk : ¬ k < b.length) : smithyref02_Times.b2 b (i : Int) a y 0 (k : Int) = some (.brk (y, 0, (k : Int))) := by
  simp only [smithyref02_Times.b2, Let_eq, decide_eq_false (show ¬ (k : Int) < (b.length : Int) by omega), cond_false]
  rfl
theorem step_vals {a b y : List Int} (ha : Dg a) (hb : Dg b) (hy : Dg y) (i k j : Nat) {c : Int} (hc : 0 ≤ c ∧ c < 256) : 0 ≤ (dat y j + dat a i * dat b k + c) / 256 ∧ (dat y j + dat a i * dat b k + c) / 256 < 256 := by
  have b1 := dat_bounds ha i
  have b2 := dat_bounds hb k
  have b3 := dat_bounds hy j
  have hp : 0 ≤ dat a i * dat b k ∧ dat a i * dat b k ≤ 65025 := ⟨Int.mul_nonneg b1.1 b2.1, by
    calc dat a i * dat b k ≤ 255 * 255 := Int.mul_le_mul (by omega) (by omega) b2.1 (by omega)
      _ = 65025 := rfl⟩
  omega
theorem dg_set {y : List Int} (hy : Dg y) {k : Nat} (hk : k < y.length) (x : Int) : Dg (y.set k (x % 256)) := dg_of_dat fun j => by
  rw [dat_set y hk]
  split
  · omega
  · exact dat_bounds hy j
theorem times_inner {a b : List Int} (ha : Dg a) (hb : Dg b) (la : a.length ≤ 1000) (lb : b.length ≤ 1000) {i : Nat} (hi : i < a.length) : ∀ (n k : Nat) (y : List Int) (c : Int), k + n = b.length → Dg y → y.length = a.length + b.length + 1 → 0 ≤ c ∧ c < 256 →
    ∃ y' c', (∀ m, wlk (fun s => smithyref02_Times.b2 b (i : Int) a s.1 s.2.1 s.2.2) (n + m) (y, c, (k : Int)) = wlk (fun s => smithyref02_Times.b2 b (i : Int) a s.1 s.2.1 s.2.2) m (y', c', (b.length : Int))) ∧ Dg y' ∧ y'.length = a.length + b.length + 1 ∧ (0 ≤ c' ∧ c' < 256) ∧
      (∀ j, i + b.length ≤ j → dat y' j = dat y j) ∧ dV y' + c' * 256 ^ (i + b.length) + dat a i * dsum (dat b) k * 256 ^ i = dV y + c * 256 ^ (i + k) + dat a i * dsum (dat b) b.length * 256 ^ i
  | 0, k, y, c, h, hy, hl, hc => by
    obtain rfl : k = b.length := by omega
    exact ⟨y, c, fun m => by rw [Nat.zero_add], hy, hl, hc, fun _ _ => rfl, rfl⟩
  | n + 1, k, y, c, h, hy, hl, hc => by
    have hik : i + k < y.length := by omega
    have hs := times_step ha hb hy la lb (by omega) hi hik hc (.inl (show k < b.length by omega))
    obtain ⟨x, hx⟩ : ∃ x, x = dat y (i + k) + dat a i * dat b k + c := ⟨_, rfl⟩
    have hc1 := step_vals ha hb hy i k (i + k) hc
    rw [← hx] at hs hc1
    obtain ⟨y', c', hw, h1, h2, h3, h4, h5⟩ := times_inner ha hb la lb hi n (k + 1) (y.set (i + k) (x % 256)) (x / 256) (by omega) (dg_set hy hik x) (by rw [List.length_set]; exact hl) hc1
    refine ⟨y', c', fun m => ?_, h1, h2, h3, fun j hj => ?_, ?_⟩
    · rw [show n + 1 + m = (n + m) + 1 by omega, wlk_next (b := fun s => smithyref02_Times.b2 b (i : Int) a s.1 s.2.1 s.2.2) hs]; exact hw m
    · rw [h4 j hj, dat_set y hik, if_neg (by omega)]
    · have hset := dV_set y hik (x % 256)
      have hvs : dsum (dat b) (k + 1) = dsum (dat b) k + dat b k * 256 ^ k := rfl
      rw [hvs, Int.mul_add, Int.add_mul] at h5
      have hm : (x % 256 + 256 * (x / 256)) * 256 ^ (i + k) = (dat y (i + k) + dat a i * dat b k + c) * 256 ^ (i + k) := by rw [← hx]; congr 1; omega
      simp only [Int.add_mul] at hm
      have e1 : 256 * (x / 256) * 256 ^ (i + k) = x / 256 * 256 ^ (i + (k + 1)) := by
        rw [show i + (k + 1) = (i + k) + 1 by omega, Int.pow_succ, Int.mul_comm 256 (x / 256), Int.mul_assoc, Int.mul_comm 256 ((256 : Int) ^ (i + k))]
      have e2 : dat a i * (dat b k * 256 ^ k) * 256 ^ i = dat a i * dat b k * 256 ^ (i + k) := by
        rw [Int.pow_add, Int.mul_assoc, Int.mul_assoc, Int.mul_assoc, Int.mul_comm ((256 : Int) ^ k) (256 ^ i)]
      omega
theorem times_round {a b : List Int} (ha : Dg a) (hb : Dg b) (la : a.length ≤ 1000) (lb : b.length ≤ 1000) {i : Nat} (hi : i < a.length) {y : List Int} (hy : Dg y) (hl : y.length = a.length + b.length + 1) (hz : ∀ j, i + b.length ≤ j → dat y j = 0) :
    ∃ y' k', wlx (fun s => smithyref02_Times.b2 b (i : Int) a s.1 s.2.1 s.2.2) (y, 0, 0) = some (.inl (y', 0, k')) ∧ Dg y' ∧ y'.length = a.length + b.length + 1 ∧ (∀ j, i + 1 + b.length ≤ j → dat y' j = 0) ∧ dV y' = dV y + dat a i * dsum (dat b) b.length * 256 ^ i := by
  obtain ⟨y', c', hw, h1, h2, h3, h4, h5⟩ := times_inner ha hb la lb hi b.length 0 y 0 (by omega) hy hl (by omega)
  rw [show dsum (dat b) 0 = 0 from rfl, Int.mul_zero, Int.zero_mul, Int.zero_mul, Int.add_zero, Int.add_zero] at h5
  have h0 : ((y, 0, 0) : List Int × Int × Int) = (y, 0, ((0 : Nat) : Int)) := rfl
  rw [h0]
  by_cases e : c' = 0
  · subst e
    refine ⟨y', (b.length : Int), wlx_of (k := b.length + 1) ?_ (by omega), h1, h2, fun j hj => ?_, ?_⟩
    · rw [hw 1]; exact wlk_brk (k := 0) (times_stop (a := a) (y := y') (i := i) (k := b.length) (by omega))
    · rw [h4 j (by omega)]; exact hz j (by omega)
    · rw [Int.zero_mul, Int.add_zero] at h5; exact h5
  · have hik : i + b.length < y'.length := by omega
    have hs := times_step ha hb h1 la lb (by omega) hi hik h3 (.inr (by omega))
    have d0 : dat y' (i + b.length) = 0 := by rw [h4 _ (by omega)]; exact hz _ (by omega)
    have d1 : dat b b.length = 0 := by unfold dat; rw [if_neg (by omega)]
    rw [d0, d1, Int.mul_zero, Int.zero_add, Int.zero_add] at hs
    have m1 : c' % 256 = c' := Int.emod_eq_of_lt h3.1 h3.2
    have m2 : c' / 256 = 0 := Int.ediv_eq_zero_of_lt h3.1 h3.2
    have hset := dV_set y' hik c'
    rw [d0, Int.zero_mul, Int.add_zero] at hset
    refine ⟨y'.set (i + b.length) c', ((b.length + 1 : Nat) : Int), wlx_of (k := b.length + 2) ?_ (by omega), ?_, by rw [List.length_set]; exact h2, fun j hj => ?_, by omega⟩
    · rw [hw 2, wlk_next (b := fun s => smithyref02_Times.b2 b (i : Int) a s.1 s.2.1 s.2.2) hs, m1, m2]
      exact wlk_brk (k := 0) (times_stop (a := a) (i := i) (k := b.length + 1) (by omega))
    · have := dg_set h1 hik c'; rwa [m1] at this
    · rw [dat_set y' hik, if_neg (by omega), h4 j (by omega)]; exact hz j (by omega)
theorem times_outer {a b : List Int} (ha : Dg a) (hb : Dg b) (la : a.length ≤ 1000) (lb : b.length ≤ 1000) : ∀ (n i : Nat) (y : List Int), i + n = a.length → Dg y → y.length = a.length + b.length + 1 → (∀ j, i + b.length ≤ j → dat y j = 0) →
    ∃ y', wlk (fun s => smithyref02_Times.b1 (a.length : Int) b a s.1 s.2) (n + 1) (y, (i : Int)) = some (.inl (y', (a.length : Int))) ∧ Dg y' ∧ y'.length = a.length + b.length + 1 ∧ dV y' + dsum (dat a) i * dsum (dat b) b.length = dV y + dsum (dat a) a.length * dsum (dat b) b.length
  | 0, i, y, h, hy, hl, _ => by
    obtain rfl : i = a.length := by omega
    exact ⟨y, wlk_brk (by simp only [smithyref02_Times.b1, Let_eq, decide_eq_false (show ¬ (a.length : Int) < (a.length : Int) by omega), cond_false]), hy, hl, rfl⟩
  | n + 1, i, y, h, hy, hl, hz => by
    obtain ⟨y1, k1, hw, g1, g2, g3, g4⟩ := times_round ha hb la lb (show i < a.length by omega) hy hl hz
    have h2 : wi ((i : Int) + 1) = ((i + 1 : Nat) : Int) := by rw [wi_id (by omega)]; omega
    have hb1 : smithyref02_Times.b1 (a.length : Int) b a y (i : Int) = some (.next (y1, ((i + 1 : Nat) : Int))) := by
      simp only [smithyref02_Times.b1, Let_eq, decide_eq_true (show (i : Int) < (a.length : Int) by omega), cond_true]
      rw [hw]
      simp only [Option.bind_some, Sum.elim_inl, h2]
    obtain ⟨y', hw2, e1, e2, e3⟩ := times_outer ha hb la lb n (i + 1) y1 (by omega) g1 g2 g3
    refine ⟨y', ?_, e1, e2, ?_⟩
    · rw [wlk_next (b := fun s => smithyref02_Times.b1 (a.length : Int) b a s.1 s.2) hb1]; exact hw2
    · have hvs : dsum (dat a) (i + 1) = dsum (dat a) i + dat a i * 256 ^ i := rfl
      rw [hvs, Int.add_mul, g4] at e3
      have e4 : dat a i * 256 ^ i * dsum (dat b) b.length = dat a i * dsum (dat b) b.length * 256 ^ i := Int.mul_right_comm _ _ _
      omega
theorem dat_rep (n j : Nat) : dat (List.replicate n 0) j = 0 := by
  unfold dat lget
  split
  · rename_i h; simp at h; simp [h]
  · rfl
theorem dsum_zero : ∀ n, dsum (fun _ => 0) n = 0
  | 0 => rfl
  | n + 1 => by unfold dsum; rw [dsum_zero n]; simp
/-- The whole product. -/
theorem Times_val {a b : List Int} (ha : Dg a) (hb : Dg b) (la : a.length ≤ 1000) (lb : b.length ≤ 1000) : ∃ y, smithyref02_Times a b = some y ∧ Dg y ∧ y.length = a.length + b.length + 1 ∧ dV y = dV a * dV b := by
  have hr : Dg (List.replicate (a.length + b.length + 1) (0 : Int)) := dg_of_dat fun j => by rw [dat_rep]; omega
  obtain ⟨y, hw, h1, h2, h3⟩ := times_outer ha hb la lb a.length 0 (List.replicate (a.length + b.length + 1) 0) (by omega) hr (by simp) fun j _ => dat_rep _ j
  refine ⟨y, ?_, h1, h2, ?_⟩
  · have k1 : wi ((a.length : Int) + (b.length : Int)) = ((a.length + b.length : Nat) : Int) := by rw [wi_id (by omega)]; omega
    have k2 : wi (((a.length + b.length : Nat) : Int) + 1) = ((a.length + b.length + 1 : Nat) : Int) := by rw [wi_id (by omega)]; omega
    unfold smithyref02_Times
    simp only [Let_eq, k1, k2, Int.toNat_natCast]
    rw [Chk_ok (by omega), show ((List.replicate (a.length + b.length + 1) 0, 0) : List Int × Int) = (List.replicate (a.length + b.length + 1) 0, ((0 : Nat) : Int)) from rfl, wlx_of hw (by omega)]
    rfl
  · have hz : dV (List.replicate (a.length + b.length + 1) 0) = 0 := by
      unfold dV
      rw [dsum_congr (g := fun _ => 0) fun j _ => dat_rep _ j, dsum_zero]
    rw [hz, show dsum (dat a) 0 = 0 from rfl] at h3
    unfold dV at h3 ⊢
    omega
end Go.Proofs.Ytccilbklafhjiaa
