/- The program's hash is the reference's, in plain terms. -/
import Derived.Test.YtfcbkmgkdbdabaaDoorShaH
namespace Go.Proofs.YtfcbkmgkdbdabaaDoor
open Go.RowKit

theorem absS_congr (K s : List (BitVec 32)) (xs ys : List (BitVec 8)) : ∀ j, (∀ i, i < j → (xs.drop (64 * i)).take 64 = (ys.drop (64 * i)).take 64) → absS K s xs j = absS K s ys j
  | 0, _ => rfl
  | j + 1, h => by rw [absS, absS, absS_congr K s xs ys j (fun i hi => h i (by omega)), h j (by omega)]
theorem absS_add (K s : List (BitVec 32)) (xs : List (BitVec 8)) (m : Nat) : ∀ n, absS K s xs (m + n) = absS K (absS K s xs m) (xs.drop (64 * m)) n
  | 0 => rfl
  | n + 1 => by
    rw [show m + (n + 1) = m + n + 1 by omega, absS, absS, absS_add K s xs m n, List.drop_drop]
    congr 3
    omega
theorem lenB_len (n : BitVec 64) : ∀ j, (lenB n j).length = j
  | 0 => rfl
  | j + 1 => by simp [lenB, lenB_len n j]
theorem lenB_at (n : BitVec 64) : ∀ j k, k < j → rd (lenB n j) k = (n >>> (8 * (7 - k))).setWidth 8
  | 0, _, h => by omega
  | j + 1, k, h => by
    have hl := lenB_len n j
    unfold rd
    rw [lenB, List.getD_eq_getElem?_getD]
    by_cases hk : k < j
    · rw [List.getElem?_append_left (by omega), ← List.getD_eq_getElem?_getD]
      exact lenB_at n j k hk
    · obtain rfl : k = j := by omega
      rw [List.getElem?_append_right (by omega), hl, Nat.sub_self]
      rfl
theorem lenS_at (n : BitVec 64) (e : Nat) (l : List (BitVec 8)) (he : e ≤ l.length) (h8 : 8 ≤ e) : ∀ j i, j ≤ 8 → rd (lenS n e l j) i = if e - j ≤ i ∧ i < e then (n >>> (8 * (e - 1 - i))).setWidth 8 else rd l i
  | 0, i, _ => by rw [lenS, if_neg (by omega)]
  | j + 1, i, h => by
    rw [lenS, rd_set _ _ _ _ (by rw [lenS_len]; omega), lenS_at n e l he h8 j i (by omega)]
    by_cases h1 : e - 1 - j = i
    · rw [if_pos h1, if_pos (by omega), show e - 1 - i = j by omega]
    · rw [if_neg h1]
      by_cases h2 : e - j ≤ i ∧ i < e
      · rw [if_pos h2, if_pos (by omega)]
      · rw [if_neg h2, if_neg (by omega)]
theorem rd_append {n : Nat} (xs ys : List (BitVec n)) (i : Nat) : rd (xs ++ ys) i = if i < xs.length then rd xs i else rd ys (i - xs.length) := by
  unfold rd
  simp only [List.getD_eq_getElem?_getD, List.getElem?_append]
  split <;> rfl
theorem rd_rep {n : Nat} (k i : Nat) : rd (List.replicate k (0#n)) i = 0#n := by
  unfold rd; rw [List.getD_eq_getElem?_getD, List.getElem?_replicate]; split <;> rfl
/-- The padded rest, up to its end. -/
theorem last_eq (bs r : List (BitVec 8)) (hr : r.length = bs.length % 64) (i : Nat) (hi : i < endOf r.length) :
    rd (lastF bs r) i = rd (r ++ ([128#8] ++ List.replicate (padN bs.length) 0#8 ++ lenB (BitVec.ofNat 64 bs.length * 8#64) 8)) i := by
  have he : endOf r.length ≤ 128 ∧ 64 ≤ endOf r.length ∧ padN bs.length + 9 + r.length = endOf r.length := by unfold endOf padN; split <;> omega
  have hlen : (splc (zeros 128) 0 r : List (BitVec 8)).length = 128 := by rw [splc_len _ _ _ (by simp [zeros_len]; omega), zeros_len]
  have hl2 : ((splc (zeros 128) 0 r).set r.length 128#8 : List (BitVec 8)).length = 128 := by rw [List.length_set, hlen]
  unfold lastF
  rw [lenS_at _ _ _ (by omega) (by omega) 8 i (Nat.le_refl _), rd_append, rd_append, rd_append]
  simp only [List.length_append, List.length_replicate, List.length_cons, List.length_nil]
  by_cases h1 : i < r.length
  · rw [if_neg (by omega), if_pos h1, rd_set _ _ _ _ (by omega), if_neg (by omega)]
    unfold splc
    rw [List.take_zero, List.nil_append, rd_append, if_pos h1]
  · rw [if_neg h1]
    by_cases h2 : endOf r.length - 8 ≤ i
    · rw [if_pos ⟨h2, hi⟩, if_neg (by omega), lenB_at _ _ _ (by omega)]
      congr 2
      omega
    · rw [if_neg (by omega), if_pos (by omega), rd_set _ _ _ _ (by omega)]
      by_cases h3 : r.length = i
      · rw [if_pos h3, if_pos (by omega), show i - r.length = 0 by omega]
        rfl
      · rw [if_neg h3, if_neg (by omega), rd_rep]
        unfold splc
        rw [List.take_zero, List.nil_append, rd_append, if_neg h1]
        unfold zeros
        rw [List.drop_replicate, rd_rep]
theorem rd_ext {n : Nat} (xs ys : List (BitVec n)) (h : xs.length = ys.length) (h2 : ∀ i, i < xs.length → rd xs i = rd ys i) : xs = ys := by
  refine List.ext_getElem h (fun i h1 h3 => ?_)
  rw [← rd_eq xs i h1, ← rd_eq ys i h3]; exact h2 i h1
theorem rd_drop {n : Nat} (xs : List (BitVec n)) (k i : Nat) : rd (xs.drop k) i = rd xs (k + i) := by
  unfold rd; simp only [List.getD_eq_getElem?_getD, List.getElem?_drop]
theorem rd_take {n : Nat} (xs : List (BitVec n)) (k i : Nat) (h : i < k) : rd (xs.take k) i = rd xs i := by
  unfold rd; simp only [List.getD_eq_getElem?_getD, List.getElem?_take, if_pos h]
theorem shaF_eq (K : List (BitVec 32)) (bs : List (BitVec 8)) : shaF K bs = outS (absS K iv (allB bs) ((allB bs).length / 64)) 32 := by
  have hall : allB bs = bs ++ ([128#8] ++ List.replicate (padN bs.length) 0#8 ++ lenB (BitVec.ofNat 64 bs.length * 8#64) 8) := by unfold allB; simp only [List.append_assoc]
  have hr : (bs.drop (64 * (bs.length / 64))).length = bs.length % 64 := by rw [List.length_drop]; omega
  have he : endOf (bs.length % 64) ≤ 128 ∧ 64 ≤ endOf (bs.length % 64) ∧ endOf (bs.length % 64) = 64 * (endOf (bs.length % 64) / 64) ∧ padN bs.length + 9 + bs.length % 64 = endOf (bs.length % 64) := by
    unfold endOf padN; split <;> omega
  have hlast : (lastF bs (bs.drop (64 * (bs.length / 64)))).length = 128 := by
    unfold lastF
    rw [lenS_len, List.length_set, splc_len _ _ _ (by rw [hr]; simp [zeros_len]; omega), zeros_len]
  have hn : (allB bs).length / 64 = bs.length / 64 + endOf (bs.length % 64) / 64 := by
    rw [hall]
    simp only [List.length_append, List.length_replicate, List.length_cons, List.length_nil, lenB_len]
    omega
  have hdrop : (allB bs).drop (64 * (bs.length / 64)) = bs.drop (64 * (bs.length / 64)) ++ ([128#8] ++ List.replicate (padN bs.length) 0#8 ++ lenB (BitVec.ofNat 64 bs.length * 8#64) 8) := by
    rw [hall, List.drop_append_of_le_length (by omega)]
  unfold shaF
  simp only []
  rw [hn, absS_add]
  have h1 : absS K iv bs (bs.length / 64) = absS K iv (allB bs) (bs.length / 64) := by
    refine absS_congr _ _ _ _ _ (fun i hi => ?_)
    rw [hall, List.drop_append_of_le_length (by omega), List.take_append_of_le_length (by rw [List.length_drop]; omega)]
  rw [h1, hr]
  congr 1
  refine absS_congr _ _ _ _ _ (fun i hi => ?_)
  rw [hdrop]
  refine rd_ext _ _ ?_ (fun k hk => ?_)
  · simp only [List.length_take, List.length_drop, List.length_append, List.length_replicate, List.length_cons, List.length_nil, lenB_len, hlast]
    omega
  · rw [List.length_take, List.length_drop, hlast] at hk
    rw [rd_take _ _ _ (by omega), rd_take _ _ _ (by omega), rd_drop, rd_drop]
    exact last_eq bs _ hr _ (by rw [hr]; omega)
end Go.Proofs.YtfcbkmgkdbdabaaDoor
