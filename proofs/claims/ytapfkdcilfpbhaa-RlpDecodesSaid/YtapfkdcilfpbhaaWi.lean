/- Loops by what holds in them. -/
import Derived.Test.YtapfkdcilfpbhaaTp
namespace Go.Proofs.Ytapfkdcilfpbhaa
open Go.RowKit
set_option linter.unusedVariables false
set_option linter.unusedSimpArgs false
/-- A loop, by what holds ahead of each round. -/
theorem wlx_inv {σ ρ : Type} {b : σ → Option (Ctl σ ρ)} (Inv : Nat → σ → Prop) {Q : σ → Prop} (n : Nat) (step : ∀ i s, i < n → Inv i s → ∃ s', b s = some (.next s') ∧ Inv (i + 1) s') (fin : ∀ s, Inv n s → ∃ s', b s = some (.brk s') ∧ Q s') {s0 : σ} (h0 : Inv 0 s0) (hn : n < 18446744073709551616) : ∃ s', wlx b s0 = some (.inl s') ∧ Q s' := by
  have key : ∀ m i s, i + m = n → Inv i s → ∃ s', wlk b (m + 1) s = some (.inl s') ∧ Q s' := by
    intro m
    induction m with
    | zero =>
      intro i s hi hs
      obtain rfl : i = n := by omega
      obtain ⟨s', h1, h2⟩ := fin s hs
      exact ⟨s', wlk_brk h1, h2⟩
    | succ m ih =>
      intro i s hi hs
      obtain ⟨s', h1, h2⟩ := step i s (by omega) hs
      obtain ⟨t, h3, h4⟩ := ih (i + 1) s' (by omega) h2
      exact ⟨t, by rw [wlk_next h1]; exact h3, h4⟩
  obtain ⟨s', h1, h2⟩ := key n 0 s0 (by omega) h0
  exact ⟨s', wlx_of h1 (by omega), h2⟩
/-- .. that may end ahead of time; rounds that come nearer to an end. -/
theorem wlx_down {σ ρ : Type} {b : σ → Option (Ctl σ ρ)} (Inv : Nat → σ → Prop) {Q : Sum σ ρ → Prop} (n : Nat)
    (step : ∀ m s, m ≤ n → Inv m s → (∃ s' m', m' < m ∧ b s = some (.next s') ∧ Inv m' s') ∨ (∃ s', b s = some (.brk s') ∧ Q (.inl s')) ∨ (∃ r, b s = some (.ret r) ∧ Q (.inr r))) {s0 : σ} (h0 : Inv n s0) (hn : n < 18446744073709551616) : ∃ o, wlx b s0 = some o ∧ Q o := by
  have key : ∀ m s, m ≤ n → Inv m s → ∃ o, wlk b (m + 1) s = some o ∧ Q o := by
    intro m
    induction m using Nat.strongRecOn with
    | ind m ih =>
      intro s hm hs
      rcases step m s hm hs with ⟨s', m', hlt, h1, h2⟩ | ⟨s', h1, h2⟩ | ⟨r, h1, h2⟩
      · obtain ⟨o, h3, h4⟩ := ih m' hlt s' (by omega) h2
        refine ⟨o, ?_, h4⟩
        rw [wlk_next h1]
        have := wlk_more h3 (m - (m' + 1))
        rwa [show m' + 1 + (m - (m' + 1)) = m by omega] at this
      · exact ⟨_, wlk_brk h1, h2⟩
      · exact ⟨_, wlk_ret h1, h2⟩
  obtain ⟨o, h1, h2⟩ := key n s0 (Nat.le_refl _) h0
  exact ⟨o, wlx_of h1 (by omega), h2⟩
end Go.Proofs.Ytapfkdcilfpbhaa
