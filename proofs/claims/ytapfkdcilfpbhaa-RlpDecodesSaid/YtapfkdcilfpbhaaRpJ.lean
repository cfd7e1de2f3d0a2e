/- The laws of rows' writing, of nests. -/
import Derived.Test.YtapfkdcilfpbhaaRpF
import Derived.Test.YtapfkdcilfpbhaaRpI
import Derived.Test.YtapfkdcilfpbhaaRlS
import Derived.Test.YtapfkdcilfpbhaaRlXf
namespace Go.Proofs.Ytapfkdcilfpbhaa
open Go.RowKit
set_option linter.unusedVariables false
set_option linter.unusedSimpArgs false
set_option maxRecDepth 100000 in
theorem rlp_fixed_ : smithylaw07_fixed = some true := by kernel_rfl
def gw (x : Node) : Nat := 1 + min x.2.1.length 5000
def gs (l : List Node) (i : Nat) : Nat := ((l.take i).map gw).sum
theorem gs_succ (l : List Node) {i : Nat} (h : i < l.length) : gs l (i + 1) = gs l i + gw (lget l i) := by
  unfold gs
  rw [List.take_add_one, List.getElem?_eq_getElem h]
  simp only [Option.toList, List.map_append, List.sum_append, List.map_cons, List.map_nil, List.sum_cons, List.sum_nil, Nat.add_zero]
  congr 2
  unfold lget; rw [List.getD_eq_getElem?_getD, List.getElem?_eq_getElem h]; rfl
theorem Great_val (l : List Node) : ∃ r, smithyref07_Great l = some r ∧ (r = false → gs l l.length ≤ 4000) := by
  obtain ⟨o, hl, hq⟩ := wlx_down (b := fun s => smithyref07_Great.b1 (l.length : Int) l s.1 s.2) (fun m s => ∃ i : Nat, s = (((gs l i : Nat) : Int), (i : Int)) ∧ i + m = 4001 ∧ i ≤ gs l i ∧ gs l i ≤ 4000 ∧ i ≤ l.length) (Q := fun o => (∃ s, o = .inl s ∧ gs l l.length ≤ 4000) ∨ o = .inr true) 4001 (fun m s hm ⟨i, hs, h1, h2, h3, h4⟩ => by
      subst hs
      by_cases e : i < l.length
      · have g1 : decide ((i : Int) < (l.length : Int)) = true := decide_eq_true (by omega)
        have g2 : wi ((i : Int) + 1) = ((i + 1 : Nat) : Int) := by rw [wi_id (by omega)]; omega
        have g3 : (if (5000 : Int) < ((lget l i).2.1.length : Int) then 5000 else ((lget l i).2.1.length : Int)) = ((min (lget l i).2.1.length 5000 : Nat) : Int) := by split <;> omega
        have g4 : wi (1 + ((min (lget l i).2.1.length 5000 : Nat) : Int)) = ((gw (lget l i) : Nat) : Int) := by unfold gw; rw [wi_id (by omega)]; omega
        have g5 : gw (lget l i) ≤ 5001 := by unfold gw; omega
        have g6 : wi (((gs l i : Nat) : Int) + ((gw (lget l i) : Nat) : Int)) = ((gs l (i + 1) : Nat) : Int) := by rw [gs_succ l e, wi_id (by omega)]; omega
        have g7 : 1 ≤ gw (lget l i) := by unfold gw; omega
        have hb : smithyref07_Great.b1 (l.length : Int) l ((gs l i : Nat) : Int) (i : Int) = bif decide (4000 < ((gs l (i + 1) : Nat) : Int)) then some (.ret true) else some (.next (((gs l (i + 1) : Nat) : Int), ((i + 1 : Nat) : Int))) := by
          simp only [smithyref07_Great.b1, Let_eq, g1, cond_true, Int.toNat_natCast, g3, g4, g6, g2]
          rw [Chk_ok (by omega)]
        by_cases e2 : 4000 < gs l (i + 1)
        · rw [decide_eq_true (by omega), cond_true] at hb
          exact .inr (.inr ⟨true, hb, .inr rfl⟩)
        · rw [decide_eq_false (by omega), cond_false] at hb
          have hg := gs_succ l e
          exact .inl ⟨_, m - 1, by omega, hb, i + 1, rfl, by omega, by omega, by omega, by omega⟩
      · have : i = l.length := by omega
        subst this
        refine .inr (.inl ⟨(((gs l l.length : Nat) : Int), (l.length : Int)), ?_, .inl ⟨_, rfl, h3⟩⟩)
        exact (show smithyref07_Great.b1 (l.length : Int) l ((gs l l.length : Nat) : Int) (l.length : Int) = some (.brk (((gs l l.length : Nat) : Int), (l.length : Int))) by
          simp only [smithyref07_Great.b1, Let_eq, decide_eq_false (show ¬ (l.length : Int) < (l.length : Int) by omega), cond_false])) (s0 := (0, 0)) ⟨0, by unfold gs; simp, by omega, by omega, by unfold gs; simp, by omega⟩ (by omega)
  unfold smithyref07_Great
  rw [Let_eq, hl, Option.bind_some]
  rcases hq with ⟨s, rfl, h⟩ | rfl
  · exact ⟨false, rfl, fun _ => h⟩
  · exact ⟨true, rfl, fun h => by cases h⟩
def szN (l : List Node) : Nat := (l.map fun x => 9 + x.2.1.length).sum
theorem gs_all (l : List Node) : gs l l.length = (l.map gw).sum := by unfold gs; rw [List.take_length]
theorem gs_size : ∀ (l : List Node), (l.map gw).sum ≤ 4000 → l.length ≤ (l.map gw).sum ∧ szN l ≤ 9 * (l.map gw).sum
  | [], _ => ⟨Nat.le_refl _, Nat.le_refl _⟩
  | x :: l, h => by
    unfold szN
    rw [List.map_cons, List.sum_cons] at h ⊢
    rw [List.map_cons, List.sum_cons, List.length_cons]
    have h1 : gw x = 1 + min x.2.1.length 5000 := rfl
    have ih := gs_size l (by omega)
    unfold szN at ih
    omega
theorem RIt.size {b : Bool} {n : List Node} {e : List B8} {d : Nat} (h : RIt b n e d) : szN n ≤ 1000000 → e.length ≤ szN n := by
  induction h with
  | one b h h2 => intro _; show b.length ≤ (9 + b.length) + 0; omega
  | bytes b h =>
    intro hl
    have hl : (9 + b.length) + 0 ≤ 1000000 := hl
    have := headV_len b.length 0 (by omega)
    rw [List.length_append]
    show _ ≤ (9 + b.length) + 0
    omega
  | @list ns es d h ih =>
    intro hl
    have hl : (9 + 0) + szN ns ≤ 1000000 := hl
    have ih := ih (by omega)
    have := headV_len es.length 64 (by omega)
    rw [List.length_append]
    show _ ≤ (9 + 0) + szN ns
    omega
  | nil => intro _; exact Nat.le_refl _
  | @cons n e d ns es d' h t ih1 ih2 =>
    intro hl
    have ha : szN (n ++ ns) = szN n + szN ns := by unfold szN; rw [List.map_append, List.sum_append]
    rw [ha] at hl ⊢
    have h1 := ih1 (by omega)
    have h2 := ih2 (by omega)
    rw [List.length_append]; omega
theorem Same_self (l : List Node) (hl : l.length ≤ 10000000) : smithyref07_Same l l = some true := by
  unfold smithyref07_Same
  have hw := wlx_for (b := fun s => smithyref07_Same.b1 (l.length : Int) l l s) (ρ := Bool) (fun i => (i : Int)) (n := l.length) (s' := (l.length : Int)) (fun i hi => by
    have h1 : decide ((i : Int) < (l.length : Int)) = true := decide_eq_true (by omega)
    have h2 : wi ((i : Int) + 1) = ((i + 1 : Nat) : Int) := by rw [wi_id (by omega)]; omega
    simp only [smithyref07_Same.b1, Let_eq, h1, cond_true, Int.toNat_natCast, h2, bne_self_eq_false, cond_false, str_same]
    rw [Chk_ok (by omega), Chk_ok (by omega), Chk_ok (by omega), Chk_ok (by omega), Option.bind_some, cond_false, Chk_ok (by omega), Chk_ok (by omega)]; rfl) (by
    simp only [smithyref07_Same.b1, Let_eq, decide_eq_false (show ¬ (l.length : Int) < (l.length : Int) by omega), cond_false]) (by omega)
  simp only [Let_eq, bne_self_eq_false, cond_false]
  rw [show (0 : Int) = (fun i : Nat => (i : Int)) 0 from rfl, hw]; rfl
end Go.Proofs.Ytapfkdcilfpbhaa
