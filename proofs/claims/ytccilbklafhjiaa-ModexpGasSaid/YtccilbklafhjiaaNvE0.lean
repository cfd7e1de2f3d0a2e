/- The examples. -/
import Derived.Test.YtccilbklafhjiaaNvD
import Derived.Test.YtccilbklafhjiaaMcD
namespace Go.Proofs.Ytccilbklafhjiaa
open Go.RowKit
set_option linter.unusedVariables false
set_option linter.unusedSimpArgs false
theorem push_all : ∀ (l : List Int) (acc : ByteArray), l.foldl (fun r n => r.push (UInt8.ofNat n.toNat)) acc = ⟨acc.data ++ (l.map fun n => UInt8.ofNat n.toNat).toArray⟩
  | [], acc => by simp
  | x :: l, acc => by
    rw [List.foldl_cons, push_all l]
    congr 1
    show (acc.data.push _) ++ _ = _
    simp
theorem strOf_eq (bs : List B8) : strOf bs = ⟨(bs.map fun b => UInt8.ofNat b.toNat).toArray⟩ := by
  unfold strOf
  rw [push_all]
  congr 1
  simp [List.map_map]
theorem strOf_toList (bs : List B8) : (strOf bs).toList = bs.map fun b => UInt8.ofNat b.toNat := by rw [strOf_eq, ByteArray.toList_mk]
theorem strOf_size (bs : List B8) : (strOf bs).size = bs.length := by rw [strOf_eq]; simp [ByteArray.size]
theorem str_app (x y : List B8) : strOf x ++ strOf y = strOf (x ++ y) := by
  rw [strOf_eq, strOf_eq, strOf_eq]
  apply ByteArray.ext
  simp [List.map_append]
theorem str_same (x : List B8) : ((strOf x).toList == (strOf x).toList) = true := beq_self_eq_true _
theorem long_eq (a b c : List B8) : smithylaw09_long [a, b, c] = some (decide (64 < a.length) || decide (64 < b.length) || decide (64 < c.length)) := by
  have h0 : ∀ (i : Nat) (x : List B8), [a, b, c][i]? = some x → smithylaw09_long.b1 3 [a, b, c] (i : Int) = bif decide (64 < x.length) then some (.ret true) else some (.next ((i + 1 : Nat) : Int)) := fun i x hx => by
    have hi : i < 3 := by have := (List.getElem?_eq_some_iff.1 hx).1; simpa using this
    have h1 : lget [a, b, c] i = x := by unfold lget; rw [List.getD_eq_getElem?_getD, hx]; rfl
    have h2 : wi ((i : Int) + 1) = ((i + 1 : Nat) : Int) := by rw [wi_id (by omega)]; omega
    simp only [smithylaw09_long.b1, Let_eq, decide_eq_true (show (i : Int) < 3 by omega), cond_true, Chk_ok (show (0 : Int) ≤ (i : Int) ∧ (i : Int) < (([a, b, c] : List (List B8)).length : Int) by simp; omega), Int.toNat_natCast, h1, h2]
    by_cases e : 64 < x.length
    · rw [decide_eq_true (show (64 : Int) < (x.length : Int) by omega), decide_eq_true e]
    · rw [decide_eq_false (show ¬ (64 : Int) < (x.length : Int) by omega), decide_eq_false e]
  have ha := h0 0 a rfl
  have hb := h0 1 b rfl
  have hc := h0 2 c rfl
  have hd : smithylaw09_long.b1 3 [a, b, c] ((3 : Nat) : Int) = some (.brk ((3 : Nat) : Int)) := by simp only [smithylaw09_long.b1, Let_eq]; rfl
  unfold smithylaw09_long
  rw [Let_eq]
  show (wlx (fun s => smithylaw09_long.b1 3 [a, b, c] s) ((0 : Nat) : Int)).bind _ = _
  by_cases ea : 64 < a.length
  · rw [decide_eq_true ea] at ha
    rw [wlx_of (wlk_ret (k := 0) ha) (by omega), decide_eq_true ea]; rfl
  · rw [decide_eq_false ea] at ha
    by_cases eb : 64 < b.length
    · rw [decide_eq_true eb] at hb
      rw [wlx_of (k := 2) ((wlk_next (k := 1) ha).trans (wlk_ret (k := 0) hb)) (by omega), decide_eq_true eb, decide_eq_false ea]; rfl
    · rw [decide_eq_false eb] at hb
      by_cases ec : 64 < c.length
      · rw [decide_eq_true ec] at hc
        rw [wlx_of (k := 3) ((wlk_next (k := 2) ha).trans ((wlk_next (k := 1) hb).trans (wlk_ret (k := 0) hc))) (by omega), decide_eq_true ec, decide_eq_false ea, decide_eq_false eb]; rfl
      · rw [decide_eq_false ec] at hc
        rw [wlx_of (k := 4) ((wlk_next (k := 3) ha).trans ((wlk_next (k := 2) hb).trans ((wlk_next (k := 1) hc).trans (wlk_brk (k := 0) hd)))) (by omega), decide_eq_false ea, decide_eq_false eb, decide_eq_false ec]; rfl
set_option maxRecDepth 100000 in
theorem Gas_nil : modexp_Gas [] = some 200#64 := by kernel_rfl
set_option maxRecDepth 100000 in
theorem fixed_eq : smithylaw09_fixed = some true := by
  have h1 : powV [3#8] [5#8] [7#8] = [5#8] := by decide
  have h2 : powV [2#8] (List.replicate 64 0#8) [5#8] = [1#8] := by
    have e1 : bv (List.replicate 64 0#8) = 0 := by decide
    unfold powV
    rw [e1]; decide
  unfold smithylaw09_fixed
  simp only [Let_eq]
  rw [Pow_val _ _ _ (by simp) (by simp) (by simp), Option.bind_some, Chk_ok (by omega), Pow_val _ _ _ (by simp) (by simp) (by simp), Option.bind_some, h1, h2, Gas_nil]
  refine Eq.trans (b := some true) ?_ rfl
  kernel_rfl
end Go.Proofs.Ytccilbklafhjiaa
