/- Numbers of 8, 32 and 64 bits as values of the model, each behind a name of its own, and what the model's operations do on them: laws for the walk. -/
import Derived.Test.YtapfkdcilfpbhaaProg
import Derived.WalkKit
import Derived.WalkSpells
import Derived.WalkLawsBesides
namespace Go.Proofs.Ytapfkdcilfpbhaa
open Go.RowKit
set_option linter.unusedVariables false
set_option linter.unusedSimpArgs false
theorem ofInt_sub' {w : Nat} (a b : Int) : BitVec.ofInt w (a - b) = BitVec.ofInt w a - BitVec.ofInt w b := by
  rw [Int.sub_eq_add_neg, BitVec.ofInt_add, BitVec.ofInt_neg, BitVec.sub_eq_add_neg]

def U8 (x : BitVec 8) : Value := .int .u8 (x.toNat : Int)
theorem wrapn_u8 (n : Int) : IntKind.u8.wrap n = ((BitVec.ofInt 8 n).toNat : Int) := by
  simp [IntKind.wrap, IntKind.bits, IntKind.signed, BitVec.toNat_ofInt]; omega
theorem ofInt_u8 (x : BitVec 8) : BitVec.ofInt 8 (x.toNat : Int) = x := by simp
theorem u8_of (n : Int) (h0 : 0 ≤ n) (h1 : n < 2 ^ 8) : Value.int .u8 n = U8 (BitVec.ofInt 8 n) := by
  unfold U8; congr 1; rw [BitVec.toNat_ofInt]; omega
theorem bits_u8 (op : BinOp) (x y : Int) : bits op .u8 x y = ((match op with
    | .and => BitVec.ofInt 8 x &&& BitVec.ofInt 8 y
    | .or => BitVec.ofInt 8 x ||| BitVec.ofInt 8 y
    | .xor => BitVec.ofInt 8 x ^^^ BitVec.ofInt 8 y
    | _ => BitVec.ofInt 8 x &&& ~~~ BitVec.ofInt 8 y).toNat : Int) := by
  unfold bits; rw [wrapn_u8]; simp only [IntKind.bits]; rw [ofInt_u8]; cases op <;> rfl
section
variable (t : TypeId) (yk : IntKind) (n m : Int) (x y : BitVec 8)
@[go_sem] theorem u8_add : binOp .add t (U8 x) (U8 y) = pure (U8 (x + y)) := by
  simp only [U8, binOp_add, Op.intArith, wrapn_u8, BitVec.ofInt_add, ofInt_u8]
@[go_sem] theorem u8_add_l : binOp .add t (.int .u8 n) (U8 y) = pure (U8 (BitVec.ofInt 8 n + y)) := by
  simp only [U8, binOp_add, Op.intArith, wrapn_u8, BitVec.ofInt_add, ofInt_u8]
@[go_sem] theorem u8_add_r : binOp .add t (U8 x) (.int .u8 m) = pure (U8 (x + BitVec.ofInt 8 m)) := by
  simp only [U8, binOp_add, Op.intArith, wrapn_u8, BitVec.ofInt_add, ofInt_u8]
@[go_sem] theorem u8_sub : binOp .sub t (U8 x) (U8 y) = pure (U8 (x - y)) := by
  simp only [U8, binOp_sub, Op.intArith, wrapn_u8, ofInt_sub', ofInt_u8]
@[go_sem] theorem u8_sub_l : binOp .sub t (.int .u8 n) (U8 y) = pure (U8 (BitVec.ofInt 8 n - y)) := by
  simp only [U8, binOp_sub, Op.intArith, wrapn_u8, ofInt_sub', ofInt_u8]
@[go_sem] theorem u8_sub_r : binOp .sub t (U8 x) (.int .u8 m) = pure (U8 (x - BitVec.ofInt 8 m)) := by
  simp only [U8, binOp_sub, Op.intArith, wrapn_u8, ofInt_sub', ofInt_u8]
@[go_sem] theorem u8_mul : binOp .mul t (U8 x) (U8 y) = pure (U8 (x * y)) := by
  simp only [U8, binOp_mul, Op.intArith, wrapn_u8, BitVec.ofInt_mul, ofInt_u8]
@[go_sem] theorem u8_mul_l : binOp .mul t (.int .u8 n) (U8 y) = pure (U8 (BitVec.ofInt 8 n * y)) := by
  simp only [U8, binOp_mul, Op.intArith, wrapn_u8, BitVec.ofInt_mul, ofInt_u8]
@[go_sem] theorem u8_mul_r : binOp .mul t (U8 x) (.int .u8 m) = pure (U8 (x * BitVec.ofInt 8 m)) := by
  simp only [U8, binOp_mul, Op.intArith, wrapn_u8, BitVec.ofInt_mul, ofInt_u8]
@[go_sem] theorem u8_and : binOp .and t (U8 x) (U8 y) = pure (U8 (x &&& y)) := by
  simp only [U8, binOp_and, intBits_and, bits_u8, ofInt_u8]
@[go_sem] theorem u8_and_l : binOp .and t (.int .u8 n) (U8 y) = pure (U8 (BitVec.ofInt 8 n &&& y)) := by
  simp only [U8, binOp_and, intBits_and, bits_u8, ofInt_u8]
@[go_sem] theorem u8_and_r : binOp .and t (U8 x) (.int .u8 m) = pure (U8 (x &&& BitVec.ofInt 8 m)) := by
  simp only [U8, binOp_and, intBits_and, bits_u8, ofInt_u8]
@[go_sem] theorem u8_or : binOp .or t (U8 x) (U8 y) = pure (U8 (x ||| y)) := by
  simp only [U8, binOp_or, intBits_or, bits_u8, ofInt_u8]
@[go_sem] theorem u8_or_l : binOp .or t (.int .u8 n) (U8 y) = pure (U8 (BitVec.ofInt 8 n ||| y)) := by
  simp only [U8, binOp_or, intBits_or, bits_u8, ofInt_u8]
@[go_sem] theorem u8_or_r : binOp .or t (U8 x) (.int .u8 m) = pure (U8 (x ||| BitVec.ofInt 8 m)) := by
  simp only [U8, binOp_or, intBits_or, bits_u8, ofInt_u8]
@[go_sem] theorem u8_xor : binOp .xor t (U8 x) (U8 y) = pure (U8 (x ^^^ y)) := by
  simp only [U8, binOp_xor, intBits_xor, bits_u8, ofInt_u8]
@[go_sem] theorem u8_xor_l : binOp .xor t (.int .u8 n) (U8 y) = pure (U8 (BitVec.ofInt 8 n ^^^ y)) := by
  simp only [U8, binOp_xor, intBits_xor, bits_u8, ofInt_u8]
@[go_sem] theorem u8_xor_r : binOp .xor t (U8 x) (.int .u8 m) = pure (U8 (x ^^^ BitVec.ofInt 8 m)) := by
  simp only [U8, binOp_xor, intBits_xor, bits_u8, ofInt_u8]
theorem u8_eqi : (((x.toNat : Int)) == (y.toNat : Int)) = (x == y) := by
  rw [Bool.eq_iff_iff]; simp only [beq_iff_eq]; exact ⟨fun h => BitVec.eq_of_toNat_eq (by omega), fun h => by rw [h]⟩
@[go_sem] theorem u8_eql : binOp .eql t (U8 x) (U8 y) = pure (.bool (x == y)) := by
  simp only [U8, binOp_eql, u8_eqi]
@[go_sem] theorem u8_eql_r : binOp .eql t (U8 x) (.int .u8 m) = pure (.bool ((x.toNat : Int) == m)) := by
  simp only [U8, binOp_eql]
@[go_sem] theorem u8_eql_l : binOp .eql t (.int .u8 n) (U8 y) = pure (.bool (n == (y.toNat : Int))) := by
  simp only [U8, binOp_eql]
@[go_sem] theorem u8_neq : binOp .neq t (U8 x) (U8 y) = pure (.bool (x != y)) := by
  simp only [U8, binOp_neq, bne, u8_eqi]
@[go_sem] theorem u8_neq_r : binOp .neq t (U8 x) (.int .u8 m) = pure (.bool ((x.toNat : Int) != m)) := by
  simp only [U8, binOp_neq]
@[go_sem] theorem u8_neq_l : binOp .neq t (.int .u8 n) (U8 y) = pure (.bool (n != (y.toNat : Int))) := by
  simp only [U8, binOp_neq]
@[go_sem] theorem u8_lss : binOp .lss t (U8 x) (U8 y) = pure (.bool (decide (x.toNat < y.toNat))) := by
  simp only [U8, binOp_lss]; congr 2; simp
@[go_sem] theorem u8_lss_r : binOp .lss t (U8 x) (.int .u8 m) = pure (.bool (decide ((x.toNat : Int) < m))) := by
  simp only [U8, binOp_lss]
@[go_sem] theorem u8_lss_l : binOp .lss t (.int .u8 n) (U8 y) = pure (.bool (decide (n < (y.toNat : Int)))) := by
  simp only [U8, binOp_lss]
@[go_sem] theorem u8_leq : binOp .leq t (U8 x) (U8 y) = pure (.bool (decide (x.toNat ≤ y.toNat))) := by
  simp only [U8, binOp_leq]; congr 2; simp
@[go_sem] theorem u8_leq_r : binOp .leq t (U8 x) (.int .u8 m) = pure (.bool (decide ((x.toNat : Int) ≤ m))) := by
  simp only [U8, binOp_leq]
@[go_sem] theorem u8_leq_l : binOp .leq t (.int .u8 n) (U8 y) = pure (.bool (decide (n ≤ (y.toNat : Int)))) := by
  simp only [U8, binOp_leq]
@[go_sem] theorem u8_gtr : binOp .gtr t (U8 x) (U8 y) = pure (.bool (decide (y.toNat < x.toNat))) := by
  simp only [U8, binOp_gtr]; congr 2; simp
@[go_sem] theorem u8_gtr_r : binOp .gtr t (U8 x) (.int .u8 m) = pure (.bool (decide ((x.toNat : Int) > m))) := by
  simp only [U8, binOp_gtr]
@[go_sem] theorem u8_gtr_l : binOp .gtr t (.int .u8 n) (U8 y) = pure (.bool (decide (n > (y.toNat : Int)))) := by
  simp only [U8, binOp_gtr]
@[go_sem] theorem u8_geq : binOp .geq t (U8 x) (U8 y) = pure (.bool (decide (y.toNat ≤ x.toNat))) := by
  simp only [U8, binOp_geq]; congr 2; simp
@[go_sem] theorem u8_geq_r : binOp .geq t (U8 x) (.int .u8 m) = pure (.bool (decide ((x.toNat : Int) ≥ m))) := by
  simp only [U8, binOp_geq]
@[go_sem] theorem u8_geq_l : binOp .geq t (.int .u8 n) (U8 y) = pure (.bool (decide (n ≥ (y.toNat : Int)))) := by
  simp only [U8, binOp_geq]
@[go_sem ↓ high] theorem u8_cells : (U8 x).cells = #[U8 x] := rfl
@[go_sem] theorem u8_cells_m (f : Array Value → Array Value) (g : Value → Array Value) : Value.cells.match_1 (motive := fun _ => Array Value) (U8 x) f g = g (U8 x) := rfl
@[go_sem] theorem u8_asIntOf_m (f : IntKind → Int → Sem (IntKind × Int)) (g : Addr → Sem (IntKind × Int)) (h : Value → Sem (IntKind × Int)) : asIntOf.match_1 (motive := fun _ => Sem (IntKind × Int)) (U8 x) f g h = f .u8 (x.toNat : Int) := rfl
@[go_sem ↓ high] theorem u8_asIntOf : asIntOf (U8 x) = pure (IntKind.u8, (x.toNat : Int)) := rfl
@[go_sem ↓ high] theorem u8_asInt : asInt (U8 x) = pure (x.toNat : Int) := rfl
@[go_sem ↓ high] theorem u8_guard_eq (op : BinOp) (o1 o2 : Operand) (v : Value) : eqGuard op t o1 o2 (U8 x) v = pure () := by unfold U8; simp [go_sem]
@[go_sem] theorem u8_store (P : Program) (w : World) (a : Addr) (md : Mode) : (store a (U8 x) md).run P w = stored P w a (U8 x) md := run_store P w a _ md rfl
@[go_sem] theorem u8_not : Op.unary .xor (U8 x) = pure (U8 (~~~ x)) := by
  have e : (BitVec.ofInt 8 (if IntKind.u8.signed then (-1 : Int) else IntKind.u8.max)) = BitVec.allOnes 8 := by decide
  simp only [U8, unary_xor, intBits_xor, bits_u8, ofInt_u8, e]
  rw [BitVec.allOnes_xor]
@[go_sem] theorem u8_neg : Op.unary .neg (U8 x) = pure (U8 (- x)) := by
  simp only [U8, unary_neg, Op.intArith, wrapn_u8, ofInt_sub', ofInt_u8]
  have e : BitVec.ofInt 8 0 = 0#8 := by decide
  rw [e, BitVec.zero_sub]
theorem shl_u8 (n : Nat) : IntKind.u8.wrap ((x.toNat : Int) * 2 ^ min n IntKind.u8.bits) = ((x <<< n).toNat : Int) := by
  rw [wrapn_u8, BitVec.toNat_ofInt]; simp only [IntKind.bits, BitVec.toNat_shiftLeft]
  have e : ((x.toNat : Int) * 2 ^ min n 8) % ((2 ^ 8 : Nat) : Int) = (((x.toNat * 2 ^ min n 8) % 2 ^ 8 : Nat) : Int) := by simp
  rw [e, Int.toNat_natCast]; congr 1
  rw [Nat.shiftLeft_eq]
  rcases Nat.le_total n 8 with h | h
  · rw [Nat.min_eq_left h]
  · rw [Nat.min_eq_right h]
    obtain ⟨d, rfl⟩ : ∃ d, n = 8 + d := ⟨n - 8, by omega⟩
    rw [Nat.pow_add, ← Nat.mul_assoc, Nat.mul_right_comm, Nat.mul_mod_left, Nat.mul_mod_left]
theorem shr_u8 (n : Nat) : (x.toNat : Int).fdiv (2 ^ min n IntKind.u8.bits) = ((x >>> n).toNat : Int) := by
  have hp : (0 : Int) ≤ 2 ^ min n IntKind.u8.bits := Int.pow_nonneg (by decide)
  rw [Int.fdiv_eq_ediv_of_nonneg _ hp]; simp only [IntKind.bits, BitVec.toNat_ushiftRight, Nat.shiftRight_eq_div_pow]
  have hx := x.isLt
  rcases Nat.le_total n 8 with h | h
  · rw [Nat.min_eq_left h]; simp
  · rw [Nat.min_eq_right h]
    rw [Nat.div_eq_of_lt (Nat.lt_of_lt_of_le hx (Nat.pow_le_pow_right (by decide) h))]
    omega
theorem u8_shl (h : 0 ≤ n) : binOp .shl t (U8 x) (.int yk n) = pure (U8 (x <<< n.toNat)) := by
  have h' : ¬ n < 0 := by omega
  simp only [U8, binOp_shl, Op.shift, if_neg h', shl_u8]
theorem u8_shr (h : 0 ≤ n) : binOp .shr t (U8 x) (.int yk n) = pure (U8 (x >>> n.toNat)) := by
  have h' : ¬ n < 0 := by omega
  simp only [U8, binOp_shr, Op.shift, if_neg h', shr_u8]
@[go_sem] theorem u8_shl_any : binOp .shl t (U8 x) (.int yk n) = if 0 ≤ n then pure (U8 (x <<< n.toNat)) else runtimePanic (.error "negative shift amount") := by
  split
  · rename_i h; exact u8_shl t yk n x h
  · rename_i h; simp only [U8, binOp_shl, Op.shift, if_pos (show n < 0 by omega)]
@[go_sem] theorem u8_shr_any : binOp .shr t (U8 x) (.int yk n) = if 0 ≤ n then pure (U8 (x >>> n.toNat)) else runtimePanic (.error "negative shift amount") := by
  split
  · rename_i h; exact u8_shr t yk n x h
  · rename_i h; simp only [U8, binOp_shr, Op.shift, if_pos (show n < 0 by omega)]
@[go_sem] theorem u8_quo (h : y.toNat ≠ 0) : binOp .quo t (U8 x) (U8 y) = pure (U8 (x / y)) := by
  have h' : ¬ ((y.toNat : Int) = 0) := by omega
  simp only [U8, binOp_quo, Op.intDiv, if_neg h', wrapn_u8]; congr 3; rw [BitVec.toNat_ofInt]
  have := x.isLt
  have e : ((x.toNat : Int).tdiv (y.toNat : Int)) = ((x.toNat / y.toNat : Nat) : Int) := rfl
  have l := Nat.div_le_self x.toNat y.toNat
  have hd : x.toNat / y.toNat < 2 ^ 8 := Nat.lt_of_le_of_lt l this
  rw [e, BitVec.toNat_udiv]; generalize x.toNat / y.toNat = q at *; omega
@[go_sem] theorem u8_quo_r (h0 : 0 < m) (h1 : m < 2 ^ 8) : binOp .quo t (U8 x) (.int .u8 m) = pure (U8 (x / BitVec.ofInt 8 m)) := by
  rw [u8_of m (by omega) (by simpa using h1)]
  exact u8_quo t x _ (by rw [BitVec.toNat_ofInt]; simp only [Nat.reducePow] at *; omega)
@[go_sem] theorem u8_rem (h : y.toNat ≠ 0) : binOp .rem t (U8 x) (U8 y) = pure (U8 (x % y)) := by
  have h' : ¬ ((y.toNat : Int) = 0) := by omega
  simp only [U8, binOp_rem, Op.intDiv, if_neg h']; congr 2
@[go_sem] theorem u8_rem_r (h0 : 0 < m) (h1 : m < 2 ^ 8) : binOp .rem t (U8 x) (.int .u8 m) = pure (U8 (x % BitVec.ofInt 8 m)) := by
  rw [u8_of m (by omega) (by simpa using h1)]
  exact u8_rem t x _ (by rw [BitVec.toNat_ofInt]; simp only [Nat.reducePow] at *; omega)
end
def U32 (x : BitVec 32) : Value := .int .u32 (x.toNat : Int)
theorem wrapn_u32 (n : Int) : IntKind.u32.wrap n = ((BitVec.ofInt 32 n).toNat : Int) := by
  simp [IntKind.wrap, IntKind.bits, IntKind.signed, BitVec.toNat_ofInt]; omega
theorem ofInt_u32 (x : BitVec 32) : BitVec.ofInt 32 (x.toNat : Int) = x := by simp
theorem u32_of (n : Int) (h0 : 0 ≤ n) (h1 : n < 2 ^ 32) : Value.int .u32 n = U32 (BitVec.ofInt 32 n) := by
  unfold U32; congr 1; rw [BitVec.toNat_ofInt]; omega
theorem bits_u32 (op : BinOp) (x y : Int) : bits op .u32 x y = ((match op with
    | .and => BitVec.ofInt 32 x &&& BitVec.ofInt 32 y
    | .or => BitVec.ofInt 32 x ||| BitVec.ofInt 32 y
    | .xor => BitVec.ofInt 32 x ^^^ BitVec.ofInt 32 y
    | _ => BitVec.ofInt 32 x &&& ~~~ BitVec.ofInt 32 y).toNat : Int) := by
  unfold bits; rw [wrapn_u32]; simp only [IntKind.bits]; rw [ofInt_u32]; cases op <;> rfl
section
variable (t : TypeId) (yk : IntKind) (n m : Int) (x y : BitVec 32)
@[go_sem] theorem u32_add : binOp .add t (U32 x) (U32 y) = pure (U32 (x + y)) := by
  simp only [U32, binOp_add, Op.intArith, wrapn_u32, BitVec.ofInt_add, ofInt_u32]
@[go_sem] theorem u32_add_l : binOp .add t (.int .u32 n) (U32 y) = pure (U32 (BitVec.ofInt 32 n + y)) := by
  simp only [U32, binOp_add, Op.intArith, wrapn_u32, BitVec.ofInt_add, ofInt_u32]
@[go_sem] theorem u32_add_r : binOp .add t (U32 x) (.int .u32 m) = pure (U32 (x + BitVec.ofInt 32 m)) := by
  simp only [U32, binOp_add, Op.intArith, wrapn_u32, BitVec.ofInt_add, ofInt_u32]
@[go_sem] theorem u32_sub : binOp .sub t (U32 x) (U32 y) = pure (U32 (x - y)) := by
  simp only [U32, binOp_sub, Op.intArith, wrapn_u32, ofInt_sub', ofInt_u32]
@[go_sem] theorem u32_sub_l : binOp .sub t (.int .u32 n) (U32 y) = pure (U32 (BitVec.ofInt 32 n - y)) := by
  simp only [U32, binOp_sub, Op.intArith, wrapn_u32, ofInt_sub', ofInt_u32]
@[go_sem] theorem u32_sub_r : binOp .sub t (U32 x) (.int .u32 m) = pure (U32 (x - BitVec.ofInt 32 m)) := by
  simp only [U32, binOp_sub, Op.intArith, wrapn_u32, ofInt_sub', ofInt_u32]
@[go_sem] theorem u32_mul : binOp .mul t (U32 x) (U32 y) = pure (U32 (x * y)) := by
  simp only [U32, binOp_mul, Op.intArith, wrapn_u32, BitVec.ofInt_mul, ofInt_u32]
@[go_sem] theorem u32_mul_l : binOp .mul t (.int .u32 n) (U32 y) = pure (U32 (BitVec.ofInt 32 n * y)) := by
  simp only [U32, binOp_mul, Op.intArith, wrapn_u32, BitVec.ofInt_mul, ofInt_u32]
@[go_sem] theorem u32_mul_r : binOp .mul t (U32 x) (.int .u32 m) = pure (U32 (x * BitVec.ofInt 32 m)) := by
  simp only [U32, binOp_mul, Op.intArith, wrapn_u32, BitVec.ofInt_mul, ofInt_u32]
@[go_sem] theorem u32_and : binOp .and t (U32 x) (U32 y) = pure (U32 (x &&& y)) := by
  simp only [U32, binOp_and, intBits_and, bits_u32, ofInt_u32]
@[go_sem] theorem u32_and_l : binOp .and t (.int .u32 n) (U32 y) = pure (U32 (BitVec.ofInt 32 n &&& y)) := by
  simp only [U32, binOp_and, intBits_and, bits_u32, ofInt_u32]
@[go_sem] theorem u32_and_r : binOp .and t (U32 x) (.int .u32 m) = pure (U32 (x &&& BitVec.ofInt 32 m)) := by
  simp only [U32, binOp_and, intBits_and, bits_u32, ofInt_u32]
@[go_sem] theorem u32_or : binOp .or t (U32 x) (U32 y) = pure (U32 (x ||| y)) := by
  simp only [U32, binOp_or, intBits_or, bits_u32, ofInt_u32]
@[go_sem] theorem u32_or_l : binOp .or t (.int .u32 n) (U32 y) = pure (U32 (BitVec.ofInt 32 n ||| y)) := by
  simp only [U32, binOp_or, intBits_or, bits_u32, ofInt_u32]
@[go_sem] theorem u32_or_r : binOp .or t (U32 x) (.int .u32 m) = pure (U32 (x ||| BitVec.ofInt 32 m)) := by
  simp only [U32, binOp_or, intBits_or, bits_u32, ofInt_u32]
@[go_sem] theorem u32_xor : binOp .xor t (U32 x) (U32 y) = pure (U32 (x ^^^ y)) := by
  simp only [U32, binOp_xor, intBits_xor, bits_u32, ofInt_u32]
@[go_sem] theorem u32_xor_l : binOp .xor t (.int .u32 n) (U32 y) = pure (U32 (BitVec.ofInt 32 n ^^^ y)) := by
  simp only [U32, binOp_xor, intBits_xor, bits_u32, ofInt_u32]
@[go_sem] theorem u32_xor_r : binOp .xor t (U32 x) (.int .u32 m) = pure (U32 (x ^^^ BitVec.ofInt 32 m)) := by
  simp only [U32, binOp_xor, intBits_xor, bits_u32, ofInt_u32]
theorem u32_eqi : (((x.toNat : Int)) == (y.toNat : Int)) = (x == y) := by
  rw [Bool.eq_iff_iff]; simp only [beq_iff_eq]; exact ⟨fun h => BitVec.eq_of_toNat_eq (by omega), fun h => by rw [h]⟩
@[go_sem] theorem u32_eql : binOp .eql t (U32 x) (U32 y) = pure (.bool (x == y)) := by
  simp only [U32, binOp_eql, u32_eqi]
@[go_sem] theorem u32_eql_r : binOp .eql t (U32 x) (.int .u32 m) = pure (.bool ((x.toNat : Int) == m)) := by
  simp only [U32, binOp_eql]
@[go_sem] theorem u32_eql_l : binOp .eql t (.int .u32 n) (U32 y) = pure (.bool (n == (y.toNat : Int))) := by
  simp only [U32, binOp_eql]
@[go_sem] theorem u32_neq : binOp .neq t (U32 x) (U32 y) = pure (.bool (x != y)) := by
  simp only [U32, binOp_neq, bne, u32_eqi]
@[go_sem] theorem u32_neq_r : binOp .neq t (U32 x) (.int .u32 m) = pure (.bool ((x.toNat : Int) != m)) := by
  simp only [U32, binOp_neq]
@[go_sem] theorem u32_neq_l : binOp .neq t (.int .u32 n) (U32 y) = pure (.bool (n != (y.toNat : Int))) := by
  simp only [U32, binOp_neq]
@[go_sem] theorem u32_lss : binOp .lss t (U32 x) (U32 y) = pure (.bool (decide (x.toNat < y.toNat))) := by
  simp only [U32, binOp_lss]; congr 2; simp
@[go_sem] theorem u32_lss_r : binOp .lss t (U32 x) (.int .u32 m) = pure (.bool (decide ((x.toNat : Int) < m))) := by
  simp only [U32, binOp_lss]
@[go_sem] theorem u32_lss_l : binOp .lss t (.int .u32 n) (U32 y) = pure (.bool (decide (n < (y.toNat : Int)))) := by
  simp only [U32, binOp_lss]
@[go_sem] theorem u32_leq : binOp .leq t (U32 x) (U32 y) = pure (.bool (decide (x.toNat ≤ y.toNat))) := by
  simp only [U32, binOp_leq]; congr 2; simp
@[go_sem] theorem u32_leq_r : binOp .leq t (U32 x) (.int .u32 m) = pure (.bool (decide ((x.toNat : Int) ≤ m))) := by
  simp only [U32, binOp_leq]
@[go_sem] theorem u32_leq_l : binOp .leq t (.int .u32 n) (U32 y) = pure (.bool (decide (n ≤ (y.toNat : Int)))) := by
  simp only [U32, binOp_leq]
@[go_sem] theorem u32_gtr : binOp .gtr t (U32 x) (U32 y) = pure (.bool (decide (y.toNat < x.toNat))) := by
  simp only [U32, binOp_gtr]; congr 2; simp
@[go_sem] theorem u32_gtr_r : binOp .gtr t (U32 x) (.int .u32 m) = pure (.bool (decide ((x.toNat : Int) > m))) := by
  simp only [U32, binOp_gtr]
@[go_sem] theorem u32_gtr_l : binOp .gtr t (.int .u32 n) (U32 y) = pure (.bool (decide (n > (y.toNat : Int)))) := by
  simp only [U32, binOp_gtr]
@[go_sem] theorem u32_geq : binOp .geq t (U32 x) (U32 y) = pure (.bool (decide (y.toNat ≤ x.toNat))) := by
  simp only [U32, binOp_geq]; congr 2; simp
@[go_sem] theorem u32_geq_r : binOp .geq t (U32 x) (.int .u32 m) = pure (.bool (decide ((x.toNat : Int) ≥ m))) := by
  simp only [U32, binOp_geq]
@[go_sem] theorem u32_geq_l : binOp .geq t (.int .u32 n) (U32 y) = pure (.bool (decide (n ≥ (y.toNat : Int)))) := by
  simp only [U32, binOp_geq]
@[go_sem ↓ high] theorem u32_cells : (U32 x).cells = #[U32 x] := rfl
@[go_sem] theorem u32_cells_m (f : Array Value → Array Value) (g : Value → Array Value) : Value.cells.match_1 (motive := fun _ => Array Value) (U32 x) f g = g (U32 x) := rfl
@[go_sem] theorem u32_asIntOf_m (f : IntKind → Int → Sem (IntKind × Int)) (g : Addr → Sem (IntKind × Int)) (h : Value → Sem (IntKind × Int)) : asIntOf.match_1 (motive := fun _ => Sem (IntKind × Int)) (U32 x) f g h = f .u32 (x.toNat : Int) := rfl
@[go_sem ↓ high] theorem u32_asIntOf : asIntOf (U32 x) = pure (IntKind.u32, (x.toNat : Int)) := rfl
@[go_sem ↓ high] theorem u32_asInt : asInt (U32 x) = pure (x.toNat : Int) := rfl
@[go_sem ↓ high] theorem u32_guard_eq (op : BinOp) (o1 o2 : Operand) (v : Value) : eqGuard op t o1 o2 (U32 x) v = pure () := by unfold U32; simp [go_sem]
@[go_sem] theorem u32_store (P : Program) (w : World) (a : Addr) (md : Mode) : (store a (U32 x) md).run P w = stored P w a (U32 x) md := run_store P w a _ md rfl
@[go_sem] theorem u32_not : Op.unary .xor (U32 x) = pure (U32 (~~~ x)) := by
  have e : (BitVec.ofInt 32 (if IntKind.u32.signed then (-1 : Int) else IntKind.u32.max)) = BitVec.allOnes 32 := by decide
  simp only [U32, unary_xor, intBits_xor, bits_u32, ofInt_u32, e]
  rw [BitVec.allOnes_xor]
@[go_sem] theorem u32_neg : Op.unary .neg (U32 x) = pure (U32 (- x)) := by
  simp only [U32, unary_neg, Op.intArith, wrapn_u32, ofInt_sub', ofInt_u32]
  have e : BitVec.ofInt 32 0 = 0#32 := by decide
  rw [e, BitVec.zero_sub]
theorem shl_u32 (n : Nat) : IntKind.u32.wrap ((x.toNat : Int) * 2 ^ min n IntKind.u32.bits) = ((x <<< n).toNat : Int) := by
  rw [wrapn_u32, BitVec.toNat_ofInt]; simp only [IntKind.bits, BitVec.toNat_shiftLeft]
  have e : ((x.toNat : Int) * 2 ^ min n 32) % ((2 ^ 32 : Nat) : Int) = (((x.toNat * 2 ^ min n 32) % 2 ^ 32 : Nat) : Int) := by simp
  rw [e, Int.toNat_natCast]; congr 1
  rw [Nat.shiftLeft_eq]
  rcases Nat.le_total n 32 with h | h
  · rw [Nat.min_eq_left h]
  · rw [Nat.min_eq_right h]
    obtain ⟨d, rfl⟩ : ∃ d, n = 32 + d := ⟨n - 32, by omega⟩
    rw [Nat.pow_add, ← Nat.mul_assoc, Nat.mul_right_comm, Nat.mul_mod_left, Nat.mul_mod_left]
theorem shr_u32 (n : Nat) : (x.toNat : Int).fdiv (2 ^ min n IntKind.u32.bits) = ((x >>> n).toNat : Int) := by
  have hp : (0 : Int) ≤ 2 ^ min n IntKind.u32.bits := Int.pow_nonneg (by decide)
  rw [Int.fdiv_eq_ediv_of_nonneg _ hp]; simp only [IntKind.bits, BitVec.toNat_ushiftRight, Nat.shiftRight_eq_div_pow]
  have hx := x.isLt
  rcases Nat.le_total n 32 with h | h
  · rw [Nat.min_eq_left h]; simp
  · rw [Nat.min_eq_right h]
    rw [Nat.div_eq_of_lt (Nat.lt_of_lt_of_le hx (Nat.pow_le_pow_right (by decide) h))]
    omega
theorem u32_shl (h : 0 ≤ n) : binOp .shl t (U32 x) (.int yk n) = pure (U32 (x <<< n.toNat)) := by
  have h' : ¬ n < 0 := by omega
  simp only [U32, binOp_shl, Op.shift, if_neg h', shl_u32]
theorem u32_shr (h : 0 ≤ n) : binOp .shr t (U32 x) (.int yk n) = pure (U32 (x >>> n.toNat)) := by
  have h' : ¬ n < 0 := by omega
  simp only [U32, binOp_shr, Op.shift, if_neg h', shr_u32]
@[go_sem] theorem u32_shl_any : binOp .shl t (U32 x) (.int yk n) = if 0 ≤ n then pure (U32 (x <<< n.toNat)) else runtimePanic (.error "negative shift amount") := by
  split
  · rename_i h; exact u32_shl t yk n x h
  · rename_i h; simp only [U32, binOp_shl, Op.shift, if_pos (show n < 0 by omega)]
@[go_sem] theorem u32_shr_any : binOp .shr t (U32 x) (.int yk n) = if 0 ≤ n then pure (U32 (x >>> n.toNat)) else runtimePanic (.error "negative shift amount") := by
  split
  · rename_i h; exact u32_shr t yk n x h
  · rename_i h; simp only [U32, binOp_shr, Op.shift, if_pos (show n < 0 by omega)]
@[go_sem] theorem u32_quo (h : y.toNat ≠ 0) : binOp .quo t (U32 x) (U32 y) = pure (U32 (x / y)) := by
  have h' : ¬ ((y.toNat : Int) = 0) := by omega
  simp only [U32, binOp_quo, Op.intDiv, if_neg h', wrapn_u32]; congr 3; rw [BitVec.toNat_ofInt]
  have := x.isLt
  have e : ((x.toNat : Int).tdiv (y.toNat : Int)) = ((x.toNat / y.toNat : Nat) : Int) := rfl
  have l := Nat.div_le_self x.toNat y.toNat
  have hd : x.toNat / y.toNat < 2 ^ 32 := Nat.lt_of_le_of_lt l this
  rw [e, BitVec.toNat_udiv]; generalize x.toNat / y.toNat = q at *; omega
@[go_sem] theorem u32_quo_r (h0 : 0 < m) (h1 : m < 2 ^ 32) : binOp .quo t (U32 x) (.int .u32 m) = pure (U32 (x / BitVec.ofInt 32 m)) := by
  rw [u32_of m (by omega) (by simpa using h1)]
  exact u32_quo t x _ (by rw [BitVec.toNat_ofInt]; simp only [Nat.reducePow] at *; omega)
@[go_sem] theorem u32_rem (h : y.toNat ≠ 0) : binOp .rem t (U32 x) (U32 y) = pure (U32 (x % y)) := by
  have h' : ¬ ((y.toNat : Int) = 0) := by omega
  simp only [U32, binOp_rem, Op.intDiv, if_neg h']; congr 2
@[go_sem] theorem u32_rem_r (h0 : 0 < m) (h1 : m < 2 ^ 32) : binOp .rem t (U32 x) (.int .u32 m) = pure (U32 (x % BitVec.ofInt 32 m)) := by
  rw [u32_of m (by omega) (by simpa using h1)]
  exact u32_rem t x _ (by rw [BitVec.toNat_ofInt]; simp only [Nat.reducePow] at *; omega)
end
def U64 (x : BitVec 64) : Value := .int .u64 (x.toNat : Int)
theorem wrapn_u64 (n : Int) : IntKind.u64.wrap n = ((BitVec.ofInt 64 n).toNat : Int) := by
  simp [IntKind.wrap, IntKind.bits, IntKind.signed, BitVec.toNat_ofInt]; omega
theorem ofInt_u64 (x : BitVec 64) : BitVec.ofInt 64 (x.toNat : Int) = x := by simp
theorem u64_of (n : Int) (h0 : 0 ≤ n) (h1 : n < 2 ^ 64) : Value.int .u64 n = U64 (BitVec.ofInt 64 n) := by
  unfold U64; congr 1; rw [BitVec.toNat_ofInt]; omega
theorem bits_u64 (op : BinOp) (x y : Int) : bits op .u64 x y = ((match op with
    | .and => BitVec.ofInt 64 x &&& BitVec.ofInt 64 y
    | .or => BitVec.ofInt 64 x ||| BitVec.ofInt 64 y
    | .xor => BitVec.ofInt 64 x ^^^ BitVec.ofInt 64 y
    | _ => BitVec.ofInt 64 x &&& ~~~ BitVec.ofInt 64 y).toNat : Int) := by
  unfold bits; rw [wrapn_u64]; simp only [IntKind.bits]; rw [ofInt_u64]; cases op <;> rfl
section
variable (t : TypeId) (yk : IntKind) (n m : Int) (x y : BitVec 64)
@[go_sem] theorem u64_add : binOp .add t (U64 x) (U64 y) = pure (U64 (x + y)) := by
  simp only [U64, binOp_add, Op.intArith, wrapn_u64, BitVec.ofInt_add, ofInt_u64]
@[go_sem] theorem u64_add_l : binOp .add t (.int .u64 n) (U64 y) = pure (U64 (BitVec.ofInt 64 n + y)) := by
  simp only [U64, binOp_add, Op.intArith, wrapn_u64, BitVec.ofInt_add, ofInt_u64]
@[go_sem] theorem u64_add_r : binOp .add t (U64 x) (.int .u64 m) = pure (U64 (x + BitVec.ofInt 64 m)) := by
  simp only [U64, binOp_add, Op.intArith, wrapn_u64, BitVec.ofInt_add, ofInt_u64]
@[go_sem] theorem u64_sub : binOp .sub t (U64 x) (U64 y) = pure (U64 (x - y)) := by
  simp only [U64, binOp_sub, Op.intArith, wrapn_u64, ofInt_sub', ofInt_u64]
@[go_sem] theorem u64_sub_l : binOp .sub t (.int .u64 n) (U64 y) = pure (U64 (BitVec.ofInt 64 n - y)) := by
  simp only [U64, binOp_sub, Op.intArith, wrapn_u64, ofInt_sub', ofInt_u64]
@[go_sem] theorem u64_sub_r : binOp .sub t (U64 x) (.int .u64 m) = pure (U64 (x - BitVec.ofInt 64 m)) := by
  simp only [U64, binOp_sub, Op.intArith, wrapn_u64, ofInt_sub', ofInt_u64]
@[go_sem] theorem u64_mul : binOp .mul t (U64 x) (U64 y) = pure (U64 (x * y)) := by
  simp only [U64, binOp_mul, Op.intArith, wrapn_u64, BitVec.ofInt_mul, ofInt_u64]
@[go_sem] theorem u64_mul_l : binOp .mul t (.int .u64 n) (U64 y) = pure (U64 (BitVec.ofInt 64 n * y)) := by
  simp only [U64, binOp_mul, Op.intArith, wrapn_u64, BitVec.ofInt_mul, ofInt_u64]
@[go_sem] theorem u64_mul_r : binOp .mul t (U64 x) (.int .u64 m) = pure (U64 (x * BitVec.ofInt 64 m)) := by
  simp only [U64, binOp_mul, Op.intArith, wrapn_u64, BitVec.ofInt_mul, ofInt_u64]
@[go_sem] theorem u64_and : binOp .and t (U64 x) (U64 y) = pure (U64 (x &&& y)) := by
  simp only [U64, binOp_and, intBits_and, bits_u64, ofInt_u64]
@[go_sem] theorem u64_and_l : binOp .and t (.int .u64 n) (U64 y) = pure (U64 (BitVec.ofInt 64 n &&& y)) := by
  simp only [U64, binOp_and, intBits_and, bits_u64, ofInt_u64]
@[go_sem] theorem u64_and_r : binOp .and t (U64 x) (.int .u64 m) = pure (U64 (x &&& BitVec.ofInt 64 m)) := by
  simp only [U64, binOp_and, intBits_and, bits_u64, ofInt_u64]
@[go_sem] theorem u64_or : binOp .or t (U64 x) (U64 y) = pure (U64 (x ||| y)) := by
  simp only [U64, binOp_or, intBits_or, bits_u64, ofInt_u64]
@[go_sem] theorem u64_or_l : binOp .or t (.int .u64 n) (U64 y) = pure (U64 (BitVec.ofInt 64 n ||| y)) := by
  simp only [U64, binOp_or, intBits_or, bits_u64, ofInt_u64]
@[go_sem] theorem u64_or_r : binOp .or t (U64 x) (.int .u64 m) = pure (U64 (x ||| BitVec.ofInt 64 m)) := by
  simp only [U64, binOp_or, intBits_or, bits_u64, ofInt_u64]
@[go_sem] theorem u64_xor : binOp .xor t (U64 x) (U64 y) = pure (U64 (x ^^^ y)) := by
  simp only [U64, binOp_xor, intBits_xor, bits_u64, ofInt_u64]
@[go_sem] theorem u64_xor_l : binOp .xor t (.int .u64 n) (U64 y) = pure (U64 (BitVec.ofInt 64 n ^^^ y)) := by
  simp only [U64, binOp_xor, intBits_xor, bits_u64, ofInt_u64]
@[go_sem] theorem u64_xor_r : binOp .xor t (U64 x) (.int .u64 m) = pure (U64 (x ^^^ BitVec.ofInt 64 m)) := by
  simp only [U64, binOp_xor, intBits_xor, bits_u64, ofInt_u64]
theorem u64_eqi : (((x.toNat : Int)) == (y.toNat : Int)) = (x == y) := by
  rw [Bool.eq_iff_iff]; simp only [beq_iff_eq]; exact ⟨fun h => BitVec.eq_of_toNat_eq (by omega), fun h => by rw [h]⟩
@[go_sem] theorem u64_eql : binOp .eql t (U64 x) (U64 y) = pure (.bool (x == y)) := by
  simp only [U64, binOp_eql, u64_eqi]
@[go_sem] theorem u64_eql_r : binOp .eql t (U64 x) (.int .u64 m) = pure (.bool ((x.toNat : Int) == m)) := by
  simp only [U64, binOp_eql]
@[go_sem] theorem u64_eql_l : binOp .eql t (.int .u64 n) (U64 y) = pure (.bool (n == (y.toNat : Int))) := by
  simp only [U64, binOp_eql]
@[go_sem] theorem u64_neq : binOp .neq t (U64 x) (U64 y) = pure (.bool (x != y)) := by
  simp only [U64, binOp_neq, bne, u64_eqi]
@[go_sem] theorem u64_neq_r : binOp .neq t (U64 x) (.int .u64 m) = pure (.bool ((x.toNat : Int) != m)) := by
  simp only [U64, binOp_neq]
@[go_sem] theorem u64_neq_l : binOp .neq t (.int .u64 n) (U64 y) = pure (.bool (n != (y.toNat : Int))) := by
  simp only [U64, binOp_neq]
@[go_sem] theorem u64_lss : binOp .lss t (U64 x) (U64 y) = pure (.bool (decide (x.toNat < y.toNat))) := by
  simp only [U64, binOp_lss]; congr 2; simp
@[go_sem] theorem u64_lss_r : binOp .lss t (U64 x) (.int .u64 m) = pure (.bool (decide ((x.toNat : Int) < m))) := by
  simp only [U64, binOp_lss]
@[go_sem] theorem u64_lss_l : binOp .lss t (.int .u64 n) (U64 y) = pure (.bool (decide (n < (y.toNat : Int)))) := by
  simp only [U64, binOp_lss]
@[go_sem] theorem u64_leq : binOp .leq t (U64 x) (U64 y) = pure (.bool (decide (x.toNat ≤ y.toNat))) := by
  simp only [U64, binOp_leq]; congr 2; simp
@[go_sem] theorem u64_leq_r : binOp .leq t (U64 x) (.int .u64 m) = pure (.bool (decide ((x.toNat : Int) ≤ m))) := by
  simp only [U64, binOp_leq]
@[go_sem] theorem u64_leq_l : binOp .leq t (.int .u64 n) (U64 y) = pure (.bool (decide (n ≤ (y.toNat : Int)))) := by
  simp only [U64, binOp_leq]
@[go_sem] theorem u64_gtr : binOp .gtr t (U64 x) (U64 y) = pure (.bool (decide (y.toNat < x.toNat))) := by
  simp only [U64, binOp_gtr]; congr 2; simp
@[go_sem] theorem u64_gtr_r : binOp .gtr t (U64 x) (.int .u64 m) = pure (.bool (decide ((x.toNat : Int) > m))) := by
  simp only [U64, binOp_gtr]
@[go_sem] theorem u64_gtr_l : binOp .gtr t (.int .u64 n) (U64 y) = pure (.bool (decide (n > (y.toNat : Int)))) := by
  simp only [U64, binOp_gtr]
@[go_sem] theorem u64_geq : binOp .geq t (U64 x) (U64 y) = pure (.bool (decide (y.toNat ≤ x.toNat))) := by
  simp only [U64, binOp_geq]; congr 2; simp
@[go_sem] theorem u64_geq_r : binOp .geq t (U64 x) (.int .u64 m) = pure (.bool (decide ((x.toNat : Int) ≥ m))) := by
  simp only [U64, binOp_geq]
@[go_sem] theorem u64_geq_l : binOp .geq t (.int .u64 n) (U64 y) = pure (.bool (decide (n ≥ (y.toNat : Int)))) := by
  simp only [U64, binOp_geq]
@[go_sem ↓ high] theorem u64_cells : (U64 x).cells = #[U64 x] := rfl
@[go_sem] theorem u64_cells_m (f : Array Value → Array Value) (g : Value → Array Value) : Value.cells.match_1 (motive := fun _ => Array Value) (U64 x) f g = g (U64 x) := rfl
@[go_sem] theorem u64_asIntOf_m (f : IntKind → Int → Sem (IntKind × Int)) (g : Addr → Sem (IntKind × Int)) (h : Value → Sem (IntKind × Int)) : asIntOf.match_1 (motive := fun _ => Sem (IntKind × Int)) (U64 x) f g h = f .u64 (x.toNat : Int) := rfl
@[go_sem ↓ high] theorem u64_asIntOf : asIntOf (U64 x) = pure (IntKind.u64, (x.toNat : Int)) := rfl
@[go_sem ↓ high] theorem u64_asInt : asInt (U64 x) = pure (x.toNat : Int) := rfl
@[go_sem ↓ high] theorem u64_guard_eq (op : BinOp) (o1 o2 : Operand) (v : Value) : eqGuard op t o1 o2 (U64 x) v = pure () := by unfold U64; simp [go_sem]
@[go_sem] theorem u64_store (P : Program) (w : World) (a : Addr) (md : Mode) : (store a (U64 x) md).run P w = stored P w a (U64 x) md := run_store P w a _ md rfl
@[go_sem] theorem u64_not : Op.unary .xor (U64 x) = pure (U64 (~~~ x)) := by
  have e : (BitVec.ofInt 64 (if IntKind.u64.signed then (-1 : Int) else IntKind.u64.max)) = BitVec.allOnes 64 := by decide
  simp only [U64, unary_xor, intBits_xor, bits_u64, ofInt_u64, e]
  rw [BitVec.allOnes_xor]
@[go_sem] theorem u64_neg : Op.unary .neg (U64 x) = pure (U64 (- x)) := by
  simp only [U64, unary_neg, Op.intArith, wrapn_u64, ofInt_sub', ofInt_u64]
  have e : BitVec.ofInt 64 0 = 0#64 := by decide
  rw [e, BitVec.zero_sub]
theorem shl_u64 (n : Nat) : IntKind.u64.wrap ((x.toNat : Int) * 2 ^ min n IntKind.u64.bits) = ((x <<< n).toNat : Int) := by
  rw [wrapn_u64, BitVec.toNat_ofInt]; simp only [IntKind.bits, BitVec.toNat_shiftLeft]
  have e : ((x.toNat : Int) * 2 ^ min n 64) % ((2 ^ 64 : Nat) : Int) = (((x.toNat * 2 ^ min n 64) % 2 ^ 64 : Nat) : Int) := by simp
  rw [e, Int.toNat_natCast]; congr 1
  rw [Nat.shiftLeft_eq]
  rcases Nat.le_total n 64 with h | h
  · rw [Nat.min_eq_left h]
  · rw [Nat.min_eq_right h]
    obtain ⟨d, rfl⟩ : ∃ d, n = 64 + d := ⟨n - 64, by omega⟩
    rw [Nat.pow_add, ← Nat.mul_assoc, Nat.mul_right_comm, Nat.mul_mod_left, Nat.mul_mod_left]
theorem shr_u64 (n : Nat) : (x.toNat : Int).fdiv (2 ^ min n IntKind.u64.bits) = ((x >>> n).toNat : Int) := by
  have hp : (0 : Int) ≤ 2 ^ min n IntKind.u64.bits := Int.pow_nonneg (by decide)
  rw [Int.fdiv_eq_ediv_of_nonneg _ hp]; simp only [IntKind.bits, BitVec.toNat_ushiftRight, Nat.shiftRight_eq_div_pow]
  have hx := x.isLt
  rcases Nat.le_total n 64 with h | h
  · rw [Nat.min_eq_left h]; simp
  · rw [Nat.min_eq_right h]
    rw [Nat.div_eq_of_lt (Nat.lt_of_lt_of_le hx (Nat.pow_le_pow_right (by decide) h))]
    omega
theorem u64_shl (h : 0 ≤ n) : binOp .shl t (U64 x) (.int yk n) = pure (U64 (x <<< n.toNat)) := by
  have h' : ¬ n < 0 := by omega
  simp only [U64, binOp_shl, Op.shift, if_neg h', shl_u64]
theorem u64_shr (h : 0 ≤ n) : binOp .shr t (U64 x) (.int yk n) = pure (U64 (x >>> n.toNat)) := by
  have h' : ¬ n < 0 := by omega
  simp only [U64, binOp_shr, Op.shift, if_neg h', shr_u64]
@[go_sem] theorem u64_shl_any : binOp .shl t (U64 x) (.int yk n) = if 0 ≤ n then pure (U64 (x <<< n.toNat)) else runtimePanic (.error "negative shift amount") := by
  split
  · rename_i h; exact u64_shl t yk n x h
  · rename_i h; simp only [U64, binOp_shl, Op.shift, if_pos (show n < 0 by omega)]
@[go_sem] theorem u64_shr_any : binOp .shr t (U64 x) (.int yk n) = if 0 ≤ n then pure (U64 (x >>> n.toNat)) else runtimePanic (.error "negative shift amount") := by
  split
  · rename_i h; exact u64_shr t yk n x h
  · rename_i h; simp only [U64, binOp_shr, Op.shift, if_pos (show n < 0 by omega)]
@[go_sem] theorem u64_quo (h : y.toNat ≠ 0) : binOp .quo t (U64 x) (U64 y) = pure (U64 (x / y)) := by
  have h' : ¬ ((y.toNat : Int) = 0) := by omega
  simp only [U64, binOp_quo, Op.intDiv, if_neg h', wrapn_u64]; congr 3; rw [BitVec.toNat_ofInt]
  have := x.isLt
  have e : ((x.toNat : Int).tdiv (y.toNat : Int)) = ((x.toNat / y.toNat : Nat) : Int) := rfl
  have l := Nat.div_le_self x.toNat y.toNat
  have hd : x.toNat / y.toNat < 2 ^ 64 := Nat.lt_of_le_of_lt l this
  rw [e, BitVec.toNat_udiv]; generalize x.toNat / y.toNat = q at *; omega
@[go_sem] theorem u64_quo_r (h0 : 0 < m) (h1 : m < 2 ^ 64) : binOp .quo t (U64 x) (.int .u64 m) = pure (U64 (x / BitVec.ofInt 64 m)) := by
  rw [u64_of m (by omega) (by simpa using h1)]
  exact u64_quo t x _ (by rw [BitVec.toNat_ofInt]; simp only [Nat.reducePow] at *; omega)
@[go_sem] theorem u64_rem (h : y.toNat ≠ 0) : binOp .rem t (U64 x) (U64 y) = pure (U64 (x % y)) := by
  have h' : ¬ ((y.toNat : Int) = 0) := by omega
  simp only [U64, binOp_rem, Op.intDiv, if_neg h']; congr 2
@[go_sem] theorem u64_rem_r (h0 : 0 < m) (h1 : m < 2 ^ 64) : binOp .rem t (U64 x) (.int .u64 m) = pure (U64 (x % BitVec.ofInt 64 m)) := by
  rw [u64_of m (by omega) (by simpa using h1)]
  exact u64_rem t x _ (by rw [BitVec.toNat_ofInt]; simp only [Nat.reducePow] at *; omega)
end
@[go_sem] theorem u8_shl_u8 (t : TypeId) (x : BitVec 8) (y : BitVec 8) : binOp .shl t (U8 x) (U8 y) = pure (U8 (x <<< y.toNat)) := by
  rw [show U8 y = Value.int .u8 (y.toNat : Int) from rfl, u8_shl _ _ _ _ (by omega), Int.toNat_natCast]
@[go_sem] theorem u8_shr_u8 (t : TypeId) (x : BitVec 8) (y : BitVec 8) : binOp .shr t (U8 x) (U8 y) = pure (U8 (x >>> y.toNat)) := by
  rw [show U8 y = Value.int .u8 (y.toNat : Int) from rfl, u8_shr _ _ _ _ (by omega), Int.toNat_natCast]
@[go_sem] theorem u8_shl_u32 (t : TypeId) (x : BitVec 8) (y : BitVec 32) : binOp .shl t (U8 x) (U32 y) = pure (U8 (x <<< y.toNat)) := by
  rw [show U32 y = Value.int .u32 (y.toNat : Int) from rfl, u8_shl _ _ _ _ (by omega), Int.toNat_natCast]
@[go_sem] theorem u8_shr_u32 (t : TypeId) (x : BitVec 8) (y : BitVec 32) : binOp .shr t (U8 x) (U32 y) = pure (U8 (x >>> y.toNat)) := by
  rw [show U32 y = Value.int .u32 (y.toNat : Int) from rfl, u8_shr _ _ _ _ (by omega), Int.toNat_natCast]
@[go_sem] theorem u8_shl_u64 (t : TypeId) (x : BitVec 8) (y : BitVec 64) : binOp .shl t (U8 x) (U64 y) = pure (U8 (x <<< y.toNat)) := by
  rw [show U64 y = Value.int .u64 (y.toNat : Int) from rfl, u8_shl _ _ _ _ (by omega), Int.toNat_natCast]
@[go_sem] theorem u8_shr_u64 (t : TypeId) (x : BitVec 8) (y : BitVec 64) : binOp .shr t (U8 x) (U64 y) = pure (U8 (x >>> y.toNat)) := by
  rw [show U64 y = Value.int .u64 (y.toNat : Int) from rfl, u8_shr _ _ _ _ (by omega), Int.toNat_natCast]
@[go_sem] theorem u32_shl_u8 (t : TypeId) (x : BitVec 32) (y : BitVec 8) : binOp .shl t (U32 x) (U8 y) = pure (U32 (x <<< y.toNat)) := by
  rw [show U8 y = Value.int .u8 (y.toNat : Int) from rfl, u32_shl _ _ _ _ (by omega), Int.toNat_natCast]
@[go_sem] theorem u32_shr_u8 (t : TypeId) (x : BitVec 32) (y : BitVec 8) : binOp .shr t (U32 x) (U8 y) = pure (U32 (x >>> y.toNat)) := by
  rw [show U8 y = Value.int .u8 (y.toNat : Int) from rfl, u32_shr _ _ _ _ (by omega), Int.toNat_natCast]
@[go_sem] theorem u32_shl_u32 (t : TypeId) (x : BitVec 32) (y : BitVec 32) : binOp .shl t (U32 x) (U32 y) = pure (U32 (x <<< y.toNat)) := by
  rw [show U32 y = Value.int .u32 (y.toNat : Int) from rfl, u32_shl _ _ _ _ (by omega), Int.toNat_natCast]
@[go_sem] theorem u32_shr_u32 (t : TypeId) (x : BitVec 32) (y : BitVec 32) : binOp .shr t (U32 x) (U32 y) = pure (U32 (x >>> y.toNat)) := by
  rw [show U32 y = Value.int .u32 (y.toNat : Int) from rfl, u32_shr _ _ _ _ (by omega), Int.toNat_natCast]
@[go_sem] theorem u32_shl_u64 (t : TypeId) (x : BitVec 32) (y : BitVec 64) : binOp .shl t (U32 x) (U64 y) = pure (U32 (x <<< y.toNat)) := by
  rw [show U64 y = Value.int .u64 (y.toNat : Int) from rfl, u32_shl _ _ _ _ (by omega), Int.toNat_natCast]
@[go_sem] theorem u32_shr_u64 (t : TypeId) (x : BitVec 32) (y : BitVec 64) : binOp .shr t (U32 x) (U64 y) = pure (U32 (x >>> y.toNat)) := by
  rw [show U64 y = Value.int .u64 (y.toNat : Int) from rfl, u32_shr _ _ _ _ (by omega), Int.toNat_natCast]
@[go_sem] theorem u64_shl_u8 (t : TypeId) (x : BitVec 64) (y : BitVec 8) : binOp .shl t (U64 x) (U8 y) = pure (U64 (x <<< y.toNat)) := by
  rw [show U8 y = Value.int .u8 (y.toNat : Int) from rfl, u64_shl _ _ _ _ (by omega), Int.toNat_natCast]
@[go_sem] theorem u64_shr_u8 (t : TypeId) (x : BitVec 64) (y : BitVec 8) : binOp .shr t (U64 x) (U8 y) = pure (U64 (x >>> y.toNat)) := by
  rw [show U8 y = Value.int .u8 (y.toNat : Int) from rfl, u64_shr _ _ _ _ (by omega), Int.toNat_natCast]
@[go_sem] theorem u64_shl_u32 (t : TypeId) (x : BitVec 64) (y : BitVec 32) : binOp .shl t (U64 x) (U32 y) = pure (U64 (x <<< y.toNat)) := by
  rw [show U32 y = Value.int .u32 (y.toNat : Int) from rfl, u64_shl _ _ _ _ (by omega), Int.toNat_natCast]
@[go_sem] theorem u64_shr_u32 (t : TypeId) (x : BitVec 64) (y : BitVec 32) : binOp .shr t (U64 x) (U32 y) = pure (U64 (x >>> y.toNat)) := by
  rw [show U32 y = Value.int .u32 (y.toNat : Int) from rfl, u64_shr _ _ _ _ (by omega), Int.toNat_natCast]
@[go_sem] theorem u64_shl_u64 (t : TypeId) (x : BitVec 64) (y : BitVec 64) : binOp .shl t (U64 x) (U64 y) = pure (U64 (x <<< y.toNat)) := by
  rw [show U64 y = Value.int .u64 (y.toNat : Int) from rfl, u64_shl _ _ _ _ (by omega), Int.toNat_natCast]
@[go_sem] theorem u64_shr_u64 (t : TypeId) (x : BitVec 64) (y : BitVec 64) : binOp .shr t (U64 x) (U64 y) = pure (U64 (x >>> y.toNat)) := by
  rw [show U64 y = Value.int .u64 (y.toNat : Int) from rfl, u64_shr _ _ _ _ (by omega), Int.toNat_natCast]
section
variable {P : Program} (w : World) (src dst : TypeId)
@[go_sem] theorem conv_u8_u8 (x : BitVec 8) (hs : (P.underlying src).isSome = true) (hd : P.underlying dst = some (.int .u8)) :
    (convert src dst (U8 x)).run P w = .ok (U8 (x.setWidth 8)) w := by
  have e : P.intKind dst = .u8 := by simp [Program.intKind, hd]
  have e2 : (BitVec.ofInt 8 (x.toNat : Int)) = x.setWidth 8 := by
    apply BitVec.eq_of_toNat_eq; rw [BitVec.toNat_ofInt, BitVec.toNat_setWidth]; omega
  rw [show U8 x = Value.int .u8 (x.toNat : Int) from rfl, run_convert_int w src dst _ _ hs (by rw [e]; exact hd), e, wrapn_u8, e2]; rfl
@[go_sem] theorem conv_u8_u32 (x : BitVec 8) (hs : (P.underlying src).isSome = true) (hd : P.underlying dst = some (.int .u32)) :
    (convert src dst (U8 x)).run P w = .ok (U32 (x.setWidth 32)) w := by
  have e : P.intKind dst = .u32 := by simp [Program.intKind, hd]
  have e2 : (BitVec.ofInt 32 (x.toNat : Int)) = x.setWidth 32 := by
    apply BitVec.eq_of_toNat_eq; rw [BitVec.toNat_ofInt, BitVec.toNat_setWidth]; omega
  rw [show U8 x = Value.int .u8 (x.toNat : Int) from rfl, run_convert_int w src dst _ _ hs (by rw [e]; exact hd), e, wrapn_u32, e2]; rfl
@[go_sem] theorem conv_u8_u64 (x : BitVec 8) (hs : (P.underlying src).isSome = true) (hd : P.underlying dst = some (.int .u64)) :
    (convert src dst (U8 x)).run P w = .ok (U64 (x.setWidth 64)) w := by
  have e : P.intKind dst = .u64 := by simp [Program.intKind, hd]
  have e2 : (BitVec.ofInt 64 (x.toNat : Int)) = x.setWidth 64 := by
    apply BitVec.eq_of_toNat_eq; rw [BitVec.toNat_ofInt, BitVec.toNat_setWidth]; omega
  rw [show U8 x = Value.int .u8 (x.toNat : Int) from rfl, run_convert_int w src dst _ _ hs (by rw [e]; exact hd), e, wrapn_u64, e2]; rfl
@[go_sem] theorem conv_u8_int (x : BitVec 8) (hs : (P.underlying src).isSome = true) (hd : P.underlying dst = some (.int .i64)) :
    (convert src dst (U8 x)).run P w = .ok (.int .i64 (x.toNat : Int)) w := by
  have e : P.intKind dst = .i64 := by simp [Program.intKind, hd]
  rw [show U8 x = Value.int .u8 (x.toNat : Int) from rfl, run_convert_int w src dst _ _ hs (by rw [e]; exact hd), e]; rw [IntWalk.i64_in _ (by have := x.isLt; omega)]
@[go_sem high] theorem conv_int_u8 (kk : IntKind) (n : Int) (hs : (P.underlying src).isSome = true) (hd : P.underlying dst = some (.int .u8)) :
    (convert src dst (.int kk n)).run P w = .ok (U8 (BitVec.ofInt 8 n)) w := by
  have e : P.intKind dst = .u8 := by simp [Program.intKind, hd]
  rw [run_convert_int w src dst _ _ hs (by rw [e]; exact hd), e, wrapn_u8]; rfl
@[go_sem] theorem conv_u32_u8 (x : BitVec 32) (hs : (P.underlying src).isSome = true) (hd : P.underlying dst = some (.int .u8)) :
    (convert src dst (U32 x)).run P w = .ok (U8 (x.setWidth 8)) w := by
  have e : P.intKind dst = .u8 := by simp [Program.intKind, hd]
  have e2 : (BitVec.ofInt 8 (x.toNat : Int)) = x.setWidth 8 := by
    apply BitVec.eq_of_toNat_eq; rw [BitVec.toNat_ofInt, BitVec.toNat_setWidth]; omega
  rw [show U32 x = Value.int .u32 (x.toNat : Int) from rfl, run_convert_int w src dst _ _ hs (by rw [e]; exact hd), e, wrapn_u8, e2]; rfl
@[go_sem] theorem conv_u32_u32 (x : BitVec 32) (hs : (P.underlying src).isSome = true) (hd : P.underlying dst = some (.int .u32)) :
    (convert src dst (U32 x)).run P w = .ok (U32 (x.setWidth 32)) w := by
  have e : P.intKind dst = .u32 := by simp [Program.intKind, hd]
  have e2 : (BitVec.ofInt 32 (x.toNat : Int)) = x.setWidth 32 := by
    apply BitVec.eq_of_toNat_eq; rw [BitVec.toNat_ofInt, BitVec.toNat_setWidth]; omega
  rw [show U32 x = Value.int .u32 (x.toNat : Int) from rfl, run_convert_int w src dst _ _ hs (by rw [e]; exact hd), e, wrapn_u32, e2]; rfl
@[go_sem] theorem conv_u32_u64 (x : BitVec 32) (hs : (P.underlying src).isSome = true) (hd : P.underlying dst = some (.int .u64)) :
    (convert src dst (U32 x)).run P w = .ok (U64 (x.setWidth 64)) w := by
  have e : P.intKind dst = .u64 := by simp [Program.intKind, hd]
  have e2 : (BitVec.ofInt 64 (x.toNat : Int)) = x.setWidth 64 := by
    apply BitVec.eq_of_toNat_eq; rw [BitVec.toNat_ofInt, BitVec.toNat_setWidth]; omega
  rw [show U32 x = Value.int .u32 (x.toNat : Int) from rfl, run_convert_int w src dst _ _ hs (by rw [e]; exact hd), e, wrapn_u64, e2]; rfl
@[go_sem] theorem conv_u32_int (x : BitVec 32) (hs : (P.underlying src).isSome = true) (hd : P.underlying dst = some (.int .i64)) :
    (convert src dst (U32 x)).run P w = .ok (.int .i64 (x.toNat : Int)) w := by
  have e : P.intKind dst = .i64 := by simp [Program.intKind, hd]
  rw [show U32 x = Value.int .u32 (x.toNat : Int) from rfl, run_convert_int w src dst _ _ hs (by rw [e]; exact hd), e]; rw [IntWalk.i64_in _ (by have := x.isLt; omega)]
@[go_sem high] theorem conv_int_u32 (kk : IntKind) (n : Int) (hs : (P.underlying src).isSome = true) (hd : P.underlying dst = some (.int .u32)) :
    (convert src dst (.int kk n)).run P w = .ok (U32 (BitVec.ofInt 32 n)) w := by
  have e : P.intKind dst = .u32 := by simp [Program.intKind, hd]
  rw [run_convert_int w src dst _ _ hs (by rw [e]; exact hd), e, wrapn_u32]; rfl
@[go_sem] theorem conv_u64_u8 (x : BitVec 64) (hs : (P.underlying src).isSome = true) (hd : P.underlying dst = some (.int .u8)) :
    (convert src dst (U64 x)).run P w = .ok (U8 (x.setWidth 8)) w := by
  have e : P.intKind dst = .u8 := by simp [Program.intKind, hd]
  have e2 : (BitVec.ofInt 8 (x.toNat : Int)) = x.setWidth 8 := by
    apply BitVec.eq_of_toNat_eq; rw [BitVec.toNat_ofInt, BitVec.toNat_setWidth]; omega
  rw [show U64 x = Value.int .u64 (x.toNat : Int) from rfl, run_convert_int w src dst _ _ hs (by rw [e]; exact hd), e, wrapn_u8, e2]; rfl
@[go_sem] theorem conv_u64_u32 (x : BitVec 64) (hs : (P.underlying src).isSome = true) (hd : P.underlying dst = some (.int .u32)) :
    (convert src dst (U64 x)).run P w = .ok (U32 (x.setWidth 32)) w := by
  have e : P.intKind dst = .u32 := by simp [Program.intKind, hd]
  have e2 : (BitVec.ofInt 32 (x.toNat : Int)) = x.setWidth 32 := by
    apply BitVec.eq_of_toNat_eq; rw [BitVec.toNat_ofInt, BitVec.toNat_setWidth]; omega
  rw [show U64 x = Value.int .u64 (x.toNat : Int) from rfl, run_convert_int w src dst _ _ hs (by rw [e]; exact hd), e, wrapn_u32, e2]; rfl
@[go_sem] theorem conv_u64_u64 (x : BitVec 64) (hs : (P.underlying src).isSome = true) (hd : P.underlying dst = some (.int .u64)) :
    (convert src dst (U64 x)).run P w = .ok (U64 (x.setWidth 64)) w := by
  have e : P.intKind dst = .u64 := by simp [Program.intKind, hd]
  have e2 : (BitVec.ofInt 64 (x.toNat : Int)) = x.setWidth 64 := by
    apply BitVec.eq_of_toNat_eq; rw [BitVec.toNat_ofInt, BitVec.toNat_setWidth]; omega
  rw [show U64 x = Value.int .u64 (x.toNat : Int) from rfl, run_convert_int w src dst _ _ hs (by rw [e]; exact hd), e, wrapn_u64, e2]; rfl
@[go_sem] theorem conv_u64_int (x : BitVec 64) (hs : (P.underlying src).isSome = true) (hd : P.underlying dst = some (.int .i64)) :
    (convert src dst (U64 x)).run P w = .ok (.int .i64 (IntKind.i64.wrap x.toNat)) w := by
  have e : P.intKind dst = .i64 := by simp [Program.intKind, hd]
  rw [show U64 x = Value.int .u64 (x.toNat : Int) from rfl, run_convert_int w src dst _ _ hs (by rw [e]; exact hd), e]
@[go_sem high] theorem conv_int_u64 (kk : IntKind) (n : Int) (hs : (P.underlying src).isSome = true) (hd : P.underlying dst = some (.int .u64)) :
    (convert src dst (.int kk n)).run P w = .ok (U64 (BitVec.ofInt 64 n)) w := by
  have e : P.intKind dst = .u64 := by simp [Program.intKind, hd]
  rw [run_convert_int w src dst _ _ hs (by rw [e]; exact hd), e, wrapn_u64]; rfl
end
end Go.Proofs.Ytapfkdcilfpbhaa
