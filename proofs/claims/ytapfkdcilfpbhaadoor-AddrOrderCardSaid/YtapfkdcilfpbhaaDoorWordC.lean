/- The laws of addresses by salts and of addresses as words hold. -/
import Derived.Test.YtapfkdcilfpbhaaDoorWordB
namespace Go.Proofs.YtapfkdcilfpbhaaDoor
open Go.RowKit
set_option linter.unusedVariables false
set_option linter.unusedSimpArgs false
set_option maxRecDepth 100000 in
theorem fixed_eq : smithylaw08_fixed constT placesT turnsT = some true := by
  unfold smithylaw08_fixed
  rw [Let_eq, Let_eq, Let_eq, Create2_eq _ _ (by simp)]
  kernel_rfl
theorem words_true (a : A20) (w : Word4) : smithylaw08_AddrWords constT placesT turnsT a w = some true := by
  unfold smithylaw08_AddrWords
  rw [fixed_eq]
  simp only [Option.bind_some, cond_true, addr_Word_eq, ref_addr_Word_eq, addr_Of_eq, ref_addr_Of_eq, Let_eq, beq_self_eq_true, addr_back]
theorem salts_true (a : A20) (w : Word4) (c : List B8) : smithylaw08_AddrSalts constT placesT turnsT a w c = some true := by
  unfold smithylaw08_AddrSalts
  simp only [Let_eq, List.nil_append, List.length_nil]
  by_cases h : (3000 : Int) < (c.length : Int)
  · simp only [decide_eq_true h, cond_true, fixed_eq, Option.bind_some]
  · simp only [decide_eq_false h, cond_false]
    rw [Chk_ok (by omega)]
    simp only [fixed_eq, Option.bind_some, cond_true, Create2_eq _ _ (show c.length ≤ 140737488355000 by omega), ref_Create2_eq _ _ (show c.length ≤ 140737488355000 by omega), beq_self_eq_true]
end Go.Proofs.YtapfkdcilfpbhaaDoor
