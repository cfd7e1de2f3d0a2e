/- The examples; noughts ahead. -/
import Derived.Test.YtccilbklafhjiaaNvD
import Derived.Test.YtccilbklafhjiaaMcD
namespace Go.Proofs.Ytccilbklafhjiaa
open Go.RowKit
set_option linter.unusedVariables false
set_option linter.unusedSimpArgs false
theorem push_all : ∀ (l : List Int) (acc : ByteArray), l.foldl (fun r n => r.push (UInt8.ofNat n.toNat)) acc = ⟨acc.data ++ (l.map fun n => UInt8.ofNat n.toNat).toArray⟩
  | [], acc => by simp
  | x :: l, acc => by
    rw [List.foldl_cons, push_all l]
    congr 1
    show (acc.data.push _) ++ _ = _
    simp
theorem strOf_eq (bs : List B8) : strOf bs = ⟨(bs.map fun b => UInt8.ofNat b.toNat).toArray⟩ := by
  unfold strOf
  rw [push_all]
  congr 1
  simp [List.map_map]
theorem strOf_toList (bs : List B8) : (strOf bs).toList = bs.map fun b => UInt8.ofNat b.toNat := by rw [strOf_eq, ByteArray.toList_mk]
theorem strOf_size (bs : List B8) : (strOf bs).size = bs.length := by rw [strOf_eq]; simp [ByteArray.size]
theorem str_app (x y : List B8) : strOf x ++ strOf y = strOf (x ++ y) := by
  rw [strOf_eq, strOf_eq, strOf_eq]
  apply ByteArray.ext
  simp [List.map_append]
theorem str_same (x : List B8) : ((strOf x).toList == (strOf x).toList) = true := beq_self_eq_true _
theorem long_eq (a b c : List B8) : smithylaw09_long [a, b, c] = some (decide (64 < a.length) || decide (64 < b.length) || decide (64 < c.length)) := by
  have h0 : ∀ (i : Nat) (x : List B8), [a, b, c][i]? = some x → smithylaw09_long.b1 3 [a, b, c] (i : Int) = bif decide (64 < x.length) then some (.ret true) else some (.next ((i + 1 : Nat) : Int)) := fun i x hx => by
    have hi : i < 3 := by have := (List.getElem?_eq_some_iff.1 hx).1; simpa using this
    have h1 : lget [a, b, c] i = x := by unfold lget; rw [List.getD_eq_getElem?_getD, hx]; rfl
    have h2 : wi ((i : Int) + 1) = ((i + 1 : Nat) : Int) := by rw [wi_id (by omega)]; omega
    simp only [smithylaw09_long.b1, Let_eq, decide_eq_true (show (i : Int) < 3 by omega), cond_true, Chk_ok (show (0 : Int) ≤ (i : Int) ∧ (i : Int) < (([a, b, c] : List (List B8)).length : Int) by simp; omega), Int.toNat_natCast, h1, h2]
    by_cases e : 64 < x.length
    · rw [decide_eq_true (show (64 : Int) < (x.length : Int) by omega), decide_eq_true e]
    · rw [decide_eq_false (show ¬ (64 : Int) < (x.length : Int) by omega), decide_eq_false e]
  have ha := h0 0 a rfl
  have hb := h0 1 b rfl
  have hc := h0 2 c rfl
  have hd : smithylaw09_long.b1 3 [a, b, c] ((3 : Nat) : Int) = some (.brk ((3 : Nat) : Int)) := by simp only [smithylaw09_long.b1, Let_eq]; rfl
  unfold smithylaw09_long
  rw [Let_eq]
  show (wlx (fun s => smithylaw09_long.b1 3 [a, b, c] s) ((0 : Nat) : Int)).bind _ = _
  by_cases ea : 64 < a.length
  · rw [decide_eq_true ea] at ha
    rw [wlx_of (wlk_ret (k := 0) ha) (by omega), decide_eq_true ea]; rfl
  · rw [decide_eq_false ea] at ha
    by_cases eb : 64 < b.length
    · rw [decide_eq_true eb] at hb
      rw [wlx_of (k := 2) ((wlk_next (k := 1) ha).trans (wlk_ret (k := 0) hb)) (by omega), decide_eq_true eb, decide_eq_false ea]; rfl
    · rw [decide_eq_false eb] at hb
      by_cases ec : 64 < c.length
      · rw [decide_eq_true ec] at hc
        rw [wlx_of (k := 3) ((wlk_next (k := 2) ha).trans ((wlk_next (k := 1) hb).trans (wlk_ret (k := 0) hc))) (by omega), decide_eq_true ec, decide_eq_false ea, decide_eq_false eb]; rfl
      · rw [decide_eq_false ec] at hc
        rw [wlx_of (k := 4) ((wlk_next (k := 3) ha).trans ((wlk_next (k := 2) hb).trans ((wlk_next (k := 1) hc).trans (wlk_brk (k := 0) hd)))) (by omega), decide_eq_false ea, decide_eq_false eb, decide_eq_false ec]; rfl
set_option maxRecDepth 100000 in
theorem Gas_nil : modexp_Gas [] = some 200#64 := by kernel_rfl
set_option maxRecDepth 100000 in
theorem fixed_eq : smithylaw09_fixed = some true := by
  have h1 : powV [3#8] [5#8] [7#8] = [5#8] := by decide
  have h2 : powV [2#8] (List.replicate 64 0#8) [5#8] = [1#8] := by
    have e1 : bv (List.replicate 64 0#8) = 0 := by decide
    unfold powV
    rw [e1]; decide
  unfold smithylaw09_fixed
  simp only [Let_eq]
  rw [Pow_val _ _ _ (by simp) (by simp) (by simp), Option.bind_some, Chk_ok (by omega), Pow_val _ _ _ (by simp) (by simp) (by simp), Option.bind_some, h1, h2, Gas_nil]
  refine Eq.trans (b := some true) ?_ rfl
  kernel_rfl
/-! ### Noughts ahead -/
theorem bp_app (b c : List B8) : ∀ i, bp (b ++ c) (b.length + i) = bp b b.length * 256 ^ i + bp c i
  | 0 => by
    have key : ∀ i, i ≤ b.length → bp (b ++ c) i = bp b i := by
      intro i
      induction i with
      | zero => intro _; rfl
      | succ i ih =>
        intro hi
        unfold bp
        rw [ih (by omega)]
        congr 1
        unfold nd lget
        rw [if_pos (by simp; omega), if_pos (by omega), List.getD_eq_getElem?_getD, List.getD_eq_getElem?_getD, List.getElem?_append_left (by omega)]
    rw [Nat.add_zero, key _ (Nat.le_refl _)]; simp [bp]
  | i + 1 => by
    have ih := bp_app b c i
    show bp (b ++ c) (b.length + i) * 256 + nd (b ++ c) (b.length + i) = bp b b.length * 256 ^ (i + 1) + (bp c i * 256 + nd c i)
    have h : nd (b ++ c) (b.length + i) = nd c i := by
      unfold nd lget
      by_cases e : i < c.length
      · rw [if_pos (by simp; omega), if_pos e, List.getD_eq_getElem?_getD, List.getD_eq_getElem?_getD, List.getElem?_append_right (by omega), Nat.add_sub_cancel_left]
      · rw [if_neg (by simp; omega), if_neg e]
    rw [ih, h, Nat.pow_succ, Nat.add_mul, Nat.mul_assoc, Nat.add_assoc]
theorem bv_app (b c : List B8) : bv (b ++ c) = bv b * 256 ^ c.length + bv c := by
  unfold bv
  rw [List.length_append]; exact bp_app b c c.length
theorem bv_rep (k : Nat) : bv (List.replicate k 0#8) = 0 := by
  have : ∀ i, bp (List.replicate k 0#8) i = 0 := by
    intro i
    induction i with
    | zero => rfl
    | succ i ih =>
      unfold bp
      rw [ih]
      unfold nd lget
      split
      · rename_i h; simp at h; simp [h]
      · rfl
  exact this _
theorem be_more (k n v : Nat) (hv : v < 256 ^ n) : be (k + n) v = List.replicate k 0#8 ++ be n v := list_ext8 (by simp [be_len]) fun j hj => by
  rw [be_len] at hj
  rw [be_get _ _ hj]
  by_cases e : j < k
  · have h1 : (lget (List.replicate k 0#8 ++ be n v) j) = 0#8 := by
      unfold lget
      rw [List.getD_eq_getElem?_getD, List.getElem?_append_left (by simpa using e)]; simp [e]
    have h2 : 256 ^ n ≤ 256 ^ (k + n - 1 - j) := Nat.pow_le_pow_right (by decide) (by omega)
    rw [h1, Nat.div_eq_of_lt (by omega)]; rfl
  · have h1 : lget (List.replicate k 0#8 ++ be n v) j = lget (be n v) (j - k) := by
      unfold lget
      rw [List.getD_eq_getElem?_getD, List.getElem?_append_right (by simp; omega), List.getD_eq_getElem?_getD, List.length_replicate]
    rw [h1, be_get _ _ (by omega), show n - 1 - (j - k) = k + n - 1 - j by omega]
theorem powV_lt (b e m : List B8) : (if bv m = 0 then 0 else bv b ^ bv e % bv m) < 256 ^ m.length := by
  have h := bp_lt m m.length
  split
  · exact Nat.pow_pos (by decide)
  · rename_i h0
    have := Nat.mod_lt (bv b ^ bv e) (show bv m > 0 by omega)
    have : bv m < 256 ^ m.length := h
    omega
theorem noughts_true (a b c : List B8) (n : B8) : smithylaw09_ModexpNoughts a b c n = some true := by
  have hn := n.isLt
  have e1 : Int.tmod (n.toNat : Int) 8 = ((n.toNat % 8 : Nat) : Int) := by rw [Int.tmod_eq_emod_of_nonneg (by omega)]; omega
  unfold smithylaw09_ModexpNoughts
  simp only [Let_eq, e1, Int.toNat_natCast]
  have hk8 : n.toNat % 8 < 8 := Nat.mod_lt _ (by omega)
  generalize n.toNat % 8 = k at *
  by_cases h : k < 8 ∧ a.length + k ≤ 64 ∧ b.length + k ≤ 64 ∧ c.length + k ≤ 64
  · obtain ⟨hk, ha, hb, hc⟩ := h
    have w1 : ∀ l : List B8, l.length + k ≤ 64 → wi ((l.length : Int) + (k : Int)) = ((l.length + k : Nat) : Int) := fun l hl => by rw [wi_id (by omega)]; omega
    simp only [w1 a ha, w1 b hb, w1 c hc, decide_eq_false (show ¬ (64 : Int) < ((a.length + k : Nat) : Int) by omega), decide_eq_false (show ¬ (64 : Int) < ((b.length + k : Nat) : Int) by omega), decide_eq_false (show ¬ (64 : Int) < ((c.length + k : Nat) : Int) by omega), decide_eq_false (show ¬ (100 : Int) < (a.length : Int) by omega), decide_eq_false (show ¬ (100 : Int) < (b.length : Int) by omega), decide_eq_false (show ¬ (100 : Int) < (c.length : Int) by omega), cond_false, Option.bind_some, List.nil_append]
    rw [Chk_ok (by omega), Pow_val a b c (by omega) (by omega) (by omega), Option.bind_some, Chk_ok (by simp; omega), Chk_ok (by simp; omega), Chk_ok (by simp; omega), Chk_ok (by simp; omega), Chk_ok (by simp; omega), Chk_ok (by simp; omega), Pow_val _ _ _ (by simp; omega) (by simp; omega) (by simp; omega), Option.bind_some, fixed_eq, Option.bind_some]
    have hp : powV (List.replicate k 0#8 ++ a) (List.replicate k 0#8 ++ b) (List.replicate k 0#8 ++ c) = List.replicate k 0#8 ++ powV a b c := by
      unfold powV
      simp only [bv_app, bv_rep, Nat.zero_mul, Nat.zero_add, List.length_append, List.length_replicate]
      exact be_more k c.length _ (powV_lt a b c)
    simp only [cond_true, Option.bind_some, hp, str_app, str_same, show (((0 : Int) == 0) : Bool) = true from rfl]
    rw [Chk_ok (by rw [strOf_size, strOf_size]; simp [powV, be_len]; omega)]; rfl
  · simp only [fixed_eq, Option.bind_some]
    by_cases c1 : (64 : Int) < wi ((a.length : Int) + (k : Int))
    · simp only [decide_eq_true c1, cond_true, Option.bind_some]
    simp only [decide_eq_false c1, cond_false, Option.bind_some]
    by_cases c2 : (64 : Int) < wi ((b.length : Int) + (k : Int))
    · simp only [decide_eq_true c2, cond_true, Option.bind_some]
    simp only [decide_eq_false c2, cond_false, Option.bind_some]
    by_cases c3 : (64 : Int) < wi ((c.length : Int) + (k : Int))
    · simp only [decide_eq_true c3, cond_true, Option.bind_some]
    simp only [decide_eq_false c3, cond_false, Option.bind_some]
    by_cases c4 : (100 : Int) < (a.length : Int)
    · simp only [decide_eq_true c4, cond_true, Option.bind_some]
    simp only [decide_eq_false c4, cond_false, Option.bind_some]
    by_cases c5 : (100 : Int) < (b.length : Int)
    · simp only [decide_eq_true c5, cond_true, Option.bind_some]
    simp only [decide_eq_false c5, cond_false, Option.bind_some]
    by_cases c6 : (100 : Int) < (c.length : Int)
    · simp only [decide_eq_true c6, cond_true, Option.bind_some]
    rw [wi_id (by omega)] at c1 c2 c3
    exact absurd ⟨hk8, by omega, by omega, by omega⟩ h
end Go.Proofs.Ytccilbklafhjiaa
