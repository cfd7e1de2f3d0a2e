/- The reference's down and choose. -/
import Derived.Test.YtfcbkmgkdbdabaaDoorShaC
import Derived.Test.YtfcbkmgkdbdabaaDoorOwn
namespace Go.Proofs.YtfcbkmgkdbdabaaDoor
open Go.RowKit

theorem rot_amount : ∀ n : Nat, n < 32 → 0 < n → ((BitVec.ofInt 64 (-(n : Int)) &&& 31#64).toNat = 32 - n ∧ (32#64 - (BitVec.ofInt 64 (-(n : Int)) &&& 31#64)).toNat = n) := by decide
theorem rot_right (x : BitVec 32) (n : Nat) (h0 : 0 < n) (h : n < 32) : x >>> n ||| x <<< (32 - n) = rotl32 x (-(n : Int)) := by
  unfold rotl32
  rw [(rot_amount n h h0).1, (rot_amount n h h0).2, BitVec.or_comm]
theorem choose_eq (e f g : BitVec 32) : e &&& f ||| (4294967295#32 - e) &&& g = e &&& f ^^^ ~~~ e &&& g := by
  have h : 4294967295#32 - e = ~~~ e := by
    apply BitVec.eq_of_toNat_eq
    rw [BitVec.toNat_not, BitVec.toNat_sub]
    have := e.isLt
    simp only [BitVec.toNat_ofNat]
    omega
  rw [h]
  ext i hi
  simp only [BitVec.getElem_or, BitVec.getElem_and, BitVec.getElem_xor, BitVec.getElem_not]
  cases e[i] <;> cases f[i] <;> cases g[i] <;> rfl
theorem major_eq (a b c : BitVec 32) : a &&& b ||| a &&& c ||| b &&& c = a &&& b ^^^ a &&& c ^^^ b &&& c := by
  ext i hi
  simp only [BitVec.getElem_or, BitVec.getElem_and, BitVec.getElem_xor]
  cases a[i] <;> cases b[i] <;> cases c[i] <;> rfl
theorem quo_shr (x : BitVec 32) : x / 8#32 = x >>> 3 ∧ x / 1024#32 = x >>> 10 := by
  constructor <;> apply BitVec.eq_of_toNat_eq <;> simp [Nat.shiftRight_eq_div_pow]

theorem ref_down (x : BitVec 32) (n : Nat) (h0 : 0 < n) (h : n < 32) (w : World) :
    Calls Tryd.prog 12 #[U32 x, .int .i64 n] w fun e w' => e = .returned (U32 (rotl32 x (-(n : Int)))) ∧ ∃ q, w' = w.drewN q := by
  go_enter Tryd.func12, Tryd.ntmps12
  go_wp2
  go_quiet (fail)
  go_wp2
  go_ret
  refine ⟨?_, nq, rfl⟩
  rw [← rot_right x n h0 h]
  rfl
theorem ref_choose (e f g : BitVec 32) (w : World) : Pure Tryd.prog 13 #[U32 e, U32 f, U32 g] w (U32 (e &&& f ^^^ ~~~ e &&& g)) := by
  go_enter Tryd.func13, Tryd.ntmps13
  go_wp2
  go_ret
  rw [← choose_eq]
  exact ⟨rfl, rfl⟩
end Go.Proofs.YtfcbkmgkdbdabaaDoor
