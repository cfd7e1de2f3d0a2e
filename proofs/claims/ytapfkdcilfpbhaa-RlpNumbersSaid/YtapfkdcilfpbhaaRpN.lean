/- The law of numbers. -/
import Derived.Test.YtapfkdcilfpbhaaRpB
import Derived.Test.YtapfkdcilfpbhaaRlXn
namespace Go.Proofs.Ytapfkdcilfpbhaa
open Go.RowKit
set_option linter.unusedVariables false
set_option linter.unusedSimpArgs false
set_option maxRecDepth 100000 in
theorem rlp_fixed : smithylaw07_fixed = some true := by kernel_rfl
theorem numbers_true (a : Word4) : smithylaw07_RlpNumbers a = some true := by
  have hs := nby_32 a
  unfold smithylaw07_RlpNumbers
  rw [Number_val, Option.bind_some, rlp_fixed, Option.bind_some, ref_Number_val]
  simp only [Let_eq, cond_true, Option.bind_some, str_same, numB_len]
  by_cases e : nby (wv a) = 0
  · rw [e]; rfl
  · have h := numB_first (V := wv a) (by omega)
    rw [show (((nby (wv a) : Nat) : Int) == 0) = false from beq_eq_false_iff_ne.2 (by omega), cond_false, Chk_ok (by omega), show ((((lget (numB (wv a)) 0).toNat : Int) != 0) : Bool) = true from bne_iff_ne.2 (by omega)]
    rfl
end Go.Proofs.Ytapfkdcilfpbhaa
