/- An effect whose guard says yes. -/
import Derived.Test.YtapfkdcilfpbhaaPlan
namespace Go.Proofs.Ytapfkdcilfpbhaa
open Go.RowKit
set_option linter.unusedVariables false
set_option linter.unusedSimpArgs false
section
variable {P : Program} {ops : Array Oper} {md : Region.Mode} {C : World → Prop} {Q : Exit → Act → World → Prop} {wl : List Nat}
/-- An effect whose guard says yes. -/
theorem plan_effect_yes {i : Nat} {rest : List (Oper × Nat × Bool)} {o : Oper} {a : Act} {w : World} (b : Bool) (hw : Region.wanted o (yielded ops a.tmps) = true) (hb : wl.contains i = b)
    (h : ∀ (K : Act → World → Prop), (∀ a' w', Eff C P ops wl (NoPan Q) b rest .normal a' w' → K a' w') → o.wp P a w K NoQ) : wpZip P ops C wl (NoPan Q) ((o, i, false) :: rest) a w := by
  unfold wpZip
  simp only [hw, if_true, hb]
  refine .inl ?_
  have h0 := h (fun a' w' => (b = false → C w') ∧ wpZip P ops C wl (NoPan Q) rest a' w') (fun _ _ hx => hx)
  clear h
  unfold Oper.wp at *
  generalize (execOp a.eval o).run P w = r at *
  cases r with
  | ok n w' =>
    cases n <;> simp only [Oper.upon] at h0 ⊢
    case value u => exact h0
    case skip => exact h0
    case defer d => exact h0
    case enter f args =>
      refine Calls.mono h0 fun e w'' he => ?_
      cases e with
      | returned u => exact he
      | panicked c => exact (he : False).elim
      | outgrown => obtain ⟨_, _, hf⟩ := he; exact (hf : False).elim
    case row row args => exact h0
  | halt x w' => cases x <;> simp only [Oper.upon] at h0 ⊢ <;> exact (h0 : False).elim

end
end Go.Proofs.Ytapfkdcilfpbhaa
