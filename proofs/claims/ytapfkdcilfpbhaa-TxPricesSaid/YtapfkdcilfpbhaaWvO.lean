/- The document's digits of a word. -/
import Derived.Test.YtapfkdcilfpbhaaWvC
namespace Go.Proofs.Ytapfkdcilfpbhaa
open Go.RowKit
set_option linter.unusedVariables false
set_option linter.unusedSimpArgs false
set_option maxRecDepth 100000 in
theorem ref_Of_list (a : Word4) : smithyref02_Of a = some ((List.range 32).map fun i => IntKind.i64.wrap (((a.get (i / 8) >>> (8 * (i % 8))) % 256#64).toNat : Int)) := by kernel_rfl
theorem limb_sum (x : Nat) (h : x < 18446744073709551616) : x % 256 + 256 * (x / 256 % 256) + 65536 * (x / 65536 % 256) + 16777216 * (x / 16777216 % 256) + 4294967296 * (x / 4294967296 % 256) + 1099511627776 * (x / 1099511627776 % 256) + 281474976710656 * (x / 281474976710656 % 256) + 72057594037927936 * (x / 72057594037927936 % 256) = x := by omega
def digF (a : Word4) (i : Nat) : Int := (((a.get (i / 8)).toNat / 2 ^ (8 * (i % 8)) % 256 : Nat) : Int)
theorem digF_bounds (a : Word4) (i : Nat) : 0 ≤ digF a i ∧ digF a i < 256 := by unfold digF; omega
theorem digF_val (a : Word4) : dsum (digF a) 32 = wv a := by
  have h0 := limb_sum _ (a.get 0).isLt
  have h1 := limb_sum _ (a.get 1).isLt
  have h2 := limb_sum _ (a.get 2).isLt
  have h3 := limb_sum _ (a.get 3).isLt
  unfold wv
  simp only [dsum, digF]
  simp only [Nat.reduceDiv, Nat.reduceMod, Nat.reduceMul, Nat.reducePow, Int.reducePow, Nat.div_one]
  omega
theorem ref_Of_eq (a : Word4) : smithyref02_Of a = some ((List.range 32).map (digF a)) := by
  rw [ref_Of_list]
  refine congrArg some (List.map_congr_left fun i _ => ?_)
  unfold digF
  have h : ((a.get (i / 8) >>> (8 * (i % 8))) % 256#64).toNat = (a.get (i / 8)).toNat / 2 ^ (8 * (i % 8)) % 256 := by
    rw [BitVec.toNat_umod, BitVec.toNat_ushiftRight, Nat.shiftRight_eq_div_pow]; rfl
  rw [h]
  exact IntWalk.i64_in _ (by omega)
end Go.Proofs.Ytapfkdcilfpbhaa
