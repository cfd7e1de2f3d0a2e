/- What operations on numbers leave, by name. -/
import Derived.Test.YtapfkdcilfpbhaaTm
namespace Go.Proofs.Ytapfkdcilfpbhaa
open Go.RowKit
set_option linter.unusedVariables false
set_option linter.unusedSimpArgs false
section
variable (t : TypeId) (a b : Int)
theorem i64_add : binOp .add t (.int .i64 a) (.int .i64 b) = pure (.int .i64 (wi (a + b))) := by
  simp only [binOp_add, Op.intArith]; rfl
theorem i64_sub : binOp .sub t (.int .i64 a) (.int .i64 b) = pure (.int .i64 (wi (a - b))) := by
  simp only [binOp_sub, Op.intArith]; rfl
theorem i64_mul : binOp .mul t (.int .i64 a) (.int .i64 b) = pure (.int .i64 (wi (a * b))) := by
  simp only [binOp_mul, Op.intArith]; rfl
theorem i64_quo (h : b ≠ 0) : binOp .quo t (.int .i64 a) (.int .i64 b) = pure (.int .i64 (wi (a.tdiv b))) := by
  simp only [binOp_quo, Op.intDiv, if_neg h]; rfl
theorem i64_rem (h : b ≠ 0) : binOp .rem t (.int .i64 a) (.int .i64 b) = pure (.int .i64 (a.tmod b)) := by
  simp only [binOp_rem, Op.intDiv, if_neg h]
theorem i64_lss : binOp .lss t (.int .i64 a) (.int .i64 b) = pure (.bool (decide (a < b))) := by simp only [binOp_lss]
theorem i64_leq : binOp .leq t (.int .i64 a) (.int .i64 b) = pure (.bool (decide (a ≤ b))) := by simp only [binOp_leq]
theorem i64_gtr : binOp .gtr t (.int .i64 a) (.int .i64 b) = pure (.bool (decide (b < a))) := by simp only [binOp_gtr]
theorem i64_geq : binOp .geq t (.int .i64 a) (.int .i64 b) = pure (.bool (decide (b ≤ a))) := by simp only [binOp_geq]
theorem i64_eql : binOp .eql t (.int .i64 a) (.int .i64 b) = pure (.bool (a == b)) := by simp only [binOp_eql]
theorem i64_neq : binOp .neq t (.int .i64 a) (.int .i64 b) = pure (.bool (a != b)) := by simp only [binOp_neq]
end
theorem i64_and (t : TypeId) (a b : Int) : binOp .and t (.int .i64 a) (.int .i64 b) = pure (.int .i64 (Go.bits .and .i64 a b)) := by simp only [binOp_and, intBits_and]
theorem i64_or (t : TypeId) (a b : Int) : binOp .or t (.int .i64 a) (.int .i64 b) = pure (.int .i64 (Go.bits .or .i64 a b)) := by simp only [binOp_or, intBits_or]
theorem i64_xor (t : TypeId) (a b : Int) : binOp .xor t (.int .i64 a) (.int .i64 b) = pure (.int .i64 (Go.bits .xor .i64 a b)) := by simp only [binOp_xor, intBits_xor]
theorem i64_neg (a : Int) : Op.unary .neg (.int .i64 a) = pure (.int .i64 (wi (0 - a))) := by simp only [unary_neg, Op.intArith]; rfl
theorem bool_not (b : Bool) : Op.unary .not (.bool b) = pure (.bool (!b)) := rfl
theorem cond_t {α : Type} {a b : Option α} {r : α} (H : (bif true then a else b) = some r) : a = some r := H
theorem cond_f {α : Type} {a b : Option α} {r : α} (H : (bif false then a else b) = some r) : b = some r := H
section
variable {P : Program} {n : Nat} {S : List (Nat × Value)} {M : World → Prop} {o : Oper}
/-- The address of an element, of one cell, of an array that begins its block. -/
theorem val_idx0 {t e : TypeId} {N k : Nat} {x y : Operand} {g : Nat} {kk : IntKind} {q : Int} (ho : o.op = .indexAddr t x y) (hx : ev S x = some (.pointer (some ⟨g, 0, none⟩))) (hy : ev S y = some (.int kk q)) (hu : P.underlying t = some (.array N e)) (hs : (P.info? e).map (·.size) = some 1) (hq : 0 ≤ q ∧ q < N) (hk : q.toNat = k) :
    Val P n S M o (.pointer (some ⟨g, k, none⟩)) := by
  have := val_idxA (M := M) (n := n) ho hx hy hu hs hq
  rw [Nat.zero_add, Nat.mul_one, hk] at this
  exact this
theorem cVa_at {α : Type} [Inhabited α] {N : Nat} {f : α → Value} (x : Vec α N) {i : Nat} (h : i < N) : (cV f x).toArray[i]? = some (f (x.get i)) := by
  simpa using cV_at (f := f) x h
theorem nat_idx {q N : Nat} (h : q < N) : (0 : Int) ≤ (q : Int) ∧ (q : Int) < (N : Int) := by omega
end
end Go.Proofs.Ytapfkdcilfpbhaa
