/- A word's bytes without noughts ahead; what stands ahead of an item. -/
import Derived.Test.YtapfkdcilfpbhaaRpA
namespace Go.Proofs.Ytapfkdcilfpbhaa
open Go.RowKit
set_option linter.unusedVariables false
set_option linter.unusedSimpArgs false
def blen (V : Nat) : Nat := if V = 0 then 0 else Nat.log2 V + 1
theorem blen_bl (V : Nat) : BL V (blen V) := by
  unfold blen
  by_cases e : V = 0
  · rw [if_pos e, e]; exact ⟨by decide, fun h => absurd h (by omega)⟩
  · rw [if_neg e]; exact ⟨Nat.lt_log2_self, fun _ => Nat.log2_self_le e⟩
theorem blen_le {V n : Nat} (h : V < 2 ^ n) : blen V ≤ n := BL_le (blen_bl V) h
/-- How many bytes a number has. -/
def nby (V : Nat) : Nat := (blen V + 7) / 8
def numB (V : Nat) : List B8 := be (nby V) V
theorem numB_len (V : Nat) : (numB V).length = nby V := be_len _ _
theorem nby_lt (V : Nat) : V < 256 ^ nby V := by
  have h := (blen_bl V).1
  have e : (256 : Nat) ^ nby V = 2 ^ (8 * nby V) := by rw [show (256 : Nat) = 2 ^ 8 from rfl, ← Nat.pow_mul]
  have : 2 ^ blen V ≤ 2 ^ (8 * nby V) := Nat.pow_le_pow_right (by omega) (by unfold nby; omega)
  omega
theorem nby_ge {V : Nat} (h0 : 0 < nby V) : 256 ^ (nby V - 1) ≤ V := by
  have hb : 0 < blen V := by unfold nby at h0; omega
  have h := (blen_bl V).2 hb
  have e : (256 : Nat) ^ (nby V - 1) = 2 ^ (8 * (nby V - 1)) := by rw [show (256 : Nat) = 2 ^ 8 from rfl, ← Nat.pow_mul]
  have : 2 ^ (8 * (nby V - 1)) ≤ 2 ^ (blen V - 1) := Nat.pow_le_pow_right (by omega) (by unfold nby at h0 ⊢; omega)
  omega
theorem nby_le {V n : Nat} (h : V < 256 ^ n) : nby V ≤ n := by
  have e : (256 : Nat) ^ n = 2 ^ (8 * n) := by rw [show (256 : Nat) = 2 ^ 8 from rfl, ← Nat.pow_mul]
  have := blen_le (n := 8 * n) (by rw [← e]; exact h)
  unfold nby; omega
theorem nby_pos {V : Nat} (h : 0 < V) : 0 < nby V := by
  apply Nat.pos_of_ne_zero
  intro e
  have := nby_lt V
  rw [e, Nat.pow_zero] at this; omega
theorem bv_numB (V : Nat) : bv (numB V) = V := bv_be (nby_lt V)
theorem numB_first {V : Nat} (h0 : 0 < nby V) : (lget (numB V) 0).toNat ≠ 0 := by
  unfold numB
  rw [be_get _ _ h0, Nat.sub_zero]
  have h1 := nby_ge h0
  have h2 := nby_lt V
  have h3 : 0 < V / 256 ^ (nby V - 1) := Nat.div_pos h1 (Nat.pow_pos (by omega))
  have h4 : V / 256 ^ (nby V - 1) < 256 := by
    rw [Nat.div_lt_iff_lt_mul (Nat.pow_pos (by omega)), ← Nat.pow_succ', show (nby V - 1).succ = nby V by omega]
    exact h2
  omega
theorem mod_part (v r m n : Nat) (h : r + m ≤ n) : v % 2 ^ n / 2 ^ r % 2 ^ m = v / 2 ^ r % 2 ^ m := by
  apply Nat.eq_of_testBit_eq
  intro i
  rw [Nat.testBit_mod_two_pow, Nat.testBit_mod_two_pow, ← Nat.shiftRight_eq_div_pow, ← Nat.shiftRight_eq_div_pow, Nat.testBit_shiftRight, Nat.testBit_shiftRight, Nat.testBit_mod_two_pow]
  by_cases e : i < m
  · rw [decide_eq_true (show r + i < n by omega)]; simp
  · rw [decide_eq_false e]; simp
theorem limb_of (a : Word4) {i : Nat} (hi : i < 4) : wv a / 2 ^ (64 * i) % 2 ^ 64 = (a.get i).toNat := by
  have h0 := (a.get 0).isLt
  have h1 := (a.get 1).isLt
  have h2 := (a.get 2).isLt
  have h3 := (a.get 3).isLt
  unfold wv
  match i, hi with
  | 0, _ => omega
  | 1, _ => omega
  | 2, _ => omega
  | 3, _ => omega
theorem bytesW_nat (a : Word4) {k : Nat} (hk : k < 32) : ((bytesW a).get k).toNat = wv a / 256 ^ (31 - k) % 256 := by
  unfold bytesW
  rw [Vec.get_map _ _ hk, BitVec.toNat_setWidth, BitVec.toNat_ushiftRight, Nat.shiftRight_eq_div_pow, ← limb_of a (by omega), mod_part _ _ _ _ (by omega), Nat.div_div_eq_div_mul, ← Nat.pow_add, show (256 : Nat) ^ (31 - k) = 2 ^ (8 * (31 - k)) by rw [show (256 : Nat) = 2 ^ 8 from rfl, ← Nat.pow_mul], show 64 * ((31 - k) / 8) + 8 * ((31 - k) % 8) = 8 * (31 - k) by omega]
theorem Size_val (a : Word4) : word_Size a = some ((nby (wv a) : Nat) : Int) := by
  obtain ⟨L, hL, hb, hl⟩ := Len_val a
  obtain rfl : L = blen (wv a) := BL_uniq hb (blen_bl _)
  unfold word_Size
  simp only [hL, Option.bind_some, Let_eq]
  rw [wi_id (n := ((blen (wv a) : Nat) : Int) + 7) (by omega), show ((blen (wv a) : Nat) : Int) + 7 = ((blen (wv a) + 7 : Nat) : Int) by omega, show Int.tdiv ((blen (wv a) + 7 : Nat) : Int) 8 = (((blen (wv a) + 7) / 8 : Nat) : Int) from (Int.ofNat_tdiv _ 8).symm, wi_id (by omega)]
  rfl
theorem nby_32 (a : Word4) : nby (wv a) ≤ 32 := nby_le (wv_lt a)
theorem lget_vec {n : Nat} (v : Vec B8 n) (i : Nat) : lget v.l i = v.get i := rfl
theorem drop_num (a : Word4) : ((bytesW a).l.take 32).drop (32 - nby (wv a)) = numB (wv a) := by
  have hs := nby_32 a
  have hl := (bytesW a).hl
  rw [List.take_of_length_le (by rw [hl]; omega)]
  refine list_ext8 (by rw [List.length_drop, hl, numB_len]; omega) fun j hj => ?_
  rw [List.length_drop, hl] at hj
  have e : lget ((bytesW a).l.drop (32 - nby (wv a))) j = (bytesW a).get (32 - nby (wv a) + j) := by
    unfold lget Vec.get; rw [List.getD_eq_getElem?_getD, List.getD_eq_getElem?_getD, List.getElem?_drop]
  rw [e, bytesW_nat a (by omega)]
  unfold numB
  rw [be_get _ _ (by omega), show 31 - (32 - nby (wv a) + j) = nby (wv a) - 1 - j by omega]
theorem Number_val (a : Word4) : rlp_Number a = some (numB (wv a)) := by
  have hs := nby_32 a
  unfold rlp_Number
  rw [word_Bytes_eq, Option.bind_some]
  simp only [Let_eq, Size_val, Option.bind_some]
  rw [wi_id (by omega), show (32 : Int) - ((nby (wv a) : Nat) : Int) = ((32 - nby (wv a) : Nat) : Int) by omega, Int.toNat_natCast, drop_num, Chk_ok (by omega), Chk_ok (by rw [numB_len]; simp; omega), List.nil_append]
theorem ref_Number_val (a : Word4) : smithyref07_Number a = some (numB (wv a)) := by
  have hs := nby_32 a
  unfold smithyref07_Number
  rw [ref_Of_eq, Option.bind_some, ref_Bytes_eq, Option.bind_some, bytesD_digW]
  have hl := wlx_for (b := fun s => smithyref07_Number.b1 (bytesW a) s) (ρ := List B8) (fun i => (i : Int)) (n := 32 - nby (wv a)) (s' := ((32 - nby (wv a) : Nat) : Int)) (fun i hi => by
    have h1 : decide ((i : Int) < 32) = true := decide_eq_true (by omega)
    have h2 : wi ((i : Int) + 1) = ((i + 1 : Nat) : Int) := by rw [wi_id (by omega)]; omega
    have h0 : ((bytesW a).get i).toNat = 0 := by
      have h3 := nby_lt (wv a)
      have h4 : 256 ^ nby (wv a) ≤ 256 ^ (31 - i) := Nat.pow_le_pow_right (by omega) (by omega)
      rw [bytesW_nat a (by omega), Nat.div_eq_of_lt (by omega)]
    simp only [smithyref07_Number.b1, Let_eq, h1, cond_true, Int.toNat_natCast, h0, h2]
    rw [Chk_ok (by omega)]; rfl) (by
    by_cases e : nby (wv a) = 0
    · rw [e]; simp only [smithyref07_Number.b1, Let_eq]; rfl
    · have h1 : decide (((32 - nby (wv a) : Nat) : Int) < 32) = true := decide_eq_true (by omega)
      have h3 := numB_first (V := wv a) (by omega)
      have h0 : ((bytesW a).get (32 - nby (wv a))).toNat ≠ 0 := by
        unfold numB at h3
        rw [be_get _ _ (by omega)] at h3
        rw [bytesW_nat a (by omega), show 31 - (32 - nby (wv a)) = nby (wv a) - 1 - 0 by omega]; exact h3
      simp only [smithyref07_Number.b1, Let_eq, h1, cond_true, Int.toNat_natCast]
      rw [Chk_ok (by omega), show (((((bytesW a).get (32 - nby (wv a))).toNat : Int) == 0) : Bool) = false from beq_eq_false_iff_ne.2 (by omega)]; rfl) (by omega)
  rw [show (0 : Int) = ((fun i : Nat => (i : Int)) 0) from rfl, hl, Option.bind_some, Sum.elim_inl]
  simp only [Let_eq, Int.toNat_natCast, drop_num]
  rw [Chk_ok (by omega), Chk_ok (by rw [numB_len]; simp; omega), List.nil_append]
/-- What stands ahead of so many bytes. -/
def headV (n more : Nat) : List B8 := if n ≤ 55 then [BitVec.ofNat 8 (128 + more + n)] else BitVec.ofNat 8 (183 + more + nby n) :: numB n
theorem wv_of (n : W64) : wv ((Vec.rep 4 0#64).set 0 n) = n.toNat := by
  show n.toNat + 18446744073709551616 * ((0#64 : W64).toNat + 18446744073709551616 * ((0#64 : W64).toNat + 18446744073709551616 * (0#64 : W64).toNat)) = _
  rw [show (0#64 : W64).toNat = 0 from rfl]; omega
theorem ofInt_nat64 {n : Nat} (h : n < 18446744073709551616) : (BitVec.ofInt 64 (n : Int)).toNat = n := by rw [BitVec.ofInt_natCast, BitVec.toNat_ofNat, Nat.mod_eq_of_lt h]
theorem head_val (n : Nat) (m : B8) (h : n ≤ 1099511627776) : rlp_head (n : Int) m = some (headV n m.toNat) := by
  unfold rlp_head headV
  simp only [Let_eq]
  by_cases e : n ≤ 55
  · rw [if_pos e, decide_eq_true (by omega), cond_true]
    congr 2
    apply BitVec.eq_of_toNat_eq
    rw [BitVec.toNat_add, BitVec.toNat_add, BitVec.ofInt_natCast, BitVec.toNat_ofNat, BitVec.toNat_ofNat, BitVec.toNat_ofNat]; omega
  · have hn : nby n ≤ 8 := nby_le (by omega)
    rw [if_neg e, decide_eq_false (by omega), cond_false]
    show (word_Of _).bind _ = _
    rw [show word_Of (BitVec.ofInt 64 (n : Int)) = some ((Vec.rep 4 0#64).set 0 (BitVec.ofInt 64 (n : Int))) by unfold word_Of; rw [Let_eq], Option.bind_some, Number_val, Option.bind_some, wv_of, ofInt_nat64 (by omega), numB_len, Chk_ok (by simp; omega), List.singleton_append]
    congr 2
    apply BitVec.eq_of_toNat_eq
    rw [BitVec.toNat_add, BitVec.toNat_add, BitVec.ofInt_natCast, BitVec.toNat_ofNat, BitVec.toNat_ofNat, BitVec.toNat_ofNat]; omega
theorem Head_val (n m : Nat) (h : n ≤ 1099511627776) (hm : m ≤ 64) : smithyref07_Head (n : Int) (m : Int) = some (headV n m) := by
  unfold smithyref07_Head headV
  simp only [Let_eq]
  by_cases e : n ≤ 55
  · rw [if_pos e, decide_eq_true (by omega), cond_true, wi_id (n := 128 + (m : Int)) (by omega), wi_id (by omega), show 128 + (m : Int) + (n : Int) = ((128 + m + n : Nat) : Int) by omega, BitVec.ofInt_natCast]
  · have hn : nby n ≤ 8 := nby_le (by omega)
    rw [if_neg e, decide_eq_false (by omega), cond_false, ref_Number_val, Option.bind_some, wv_of, ofInt_nat64 (by omega), numB_len, Chk_ok (by simp; omega), List.singleton_append, wi_id (n := 183 + (m : Int)) (by omega), wi_id (by omega), show 183 + (m : Int) + ((nby n : Nat) : Int) = ((183 + m + nby n : Nat) : Int) by omega, BitVec.ofInt_natCast]
theorem headV_len (n m : Nat) (h : n ≤ 1099511627776) : 1 ≤ (headV n m).length ∧ (headV n m).length ≤ 9 := by
  unfold headV
  split
  · simp
  · have hn : nby n ≤ 8 := nby_le (by omega)
    simp only [List.length_cons, numB_len]; omega
end Go.Proofs.Ytapfkdcilfpbhaa
