/- Which rows are items: both tests. -/
import Derived.Test.YtapfkdcilfpbhaaRpD
import Derived.Test.YtapfkdcilfpbhaaRlE
namespace Go.Proofs.Ytapfkdcilfpbhaa
open Go.RowKit
set_option linter.unusedVariables false
set_option linter.unusedSimpArgs false
def Good (l : List Node) : Prop := 0 < l.length ∧ okN l 0 ∧ endN l 0 = l.length ∧ Sq l 1 l.length
theorem one_val (l : List Node) (hl : l.length ≤ 100000) : ∃ r, rlp_one l = some r ∧ (r = true ↔ Good l) := by
  unfold rlp_one
  simp only [Let_eq]
  by_cases h0 : l.length = 0
  · rw [h0]
    exact ⟨false, rfl, ⟨fun h => (by cases h), fun h => absurd h.1 (by omega)⟩⟩
  · rw [show (((l.length : Int) == 0) : Bool) = false from beq_eq_false_iff_ne.2 (by omega), cond_false, Chk_ok (by omega), wi_id (by omega), Option.bind_some]
    by_cases h1 : (lget l 0).2.2 = (l.length : Int) - 1
    · rw [show (((lget l 0).2.2 != (l.length : Int) - 1) : Bool) = false by rw [h1]; exact bne_self_eq_false _, cond_false]
      have hr := round_one l hl (i := 0) (by omega) [] (by simp)
      have he : endN l 0 = l.length := by unfold endN; rw [h1]; omega
      have hone : (encS [] : List Int) = [] := rfl
      rw [hone] at hr
      cases hb : bad l 0
      · rw [hb, if_neg (by decide)] at hr
        have hr : rlp_one.b1 (l.length : Int) l [] ((0 : Nat) : Int) = some (.next (encS [endN l 0], ((1 : Nat) : Int))) := hr
        have hok := (bad_ok l 0).1 hb
        obtain ⟨o, hw, ho⟩ := run_one l hl (l.length - 1) 1 [endN l 0] (by omega) (by simp) (fun t ht => by
          rw [List.mem_singleton.1 ht, he]; omega) (by simp) (by rw [he]; rfl)
        have hc : Ch l 1 [endN l 0] ↔ Sq l 1 l.length := by rw [he]; exact ⟨fun h => h.1, fun h => ⟨h, trivial⟩⟩
        rw [hc] at ho
        have hx : wlx (fun s => rlp_one.b1 (l.length : Int) l s.1 s.2) (([], 0) : List Int × Int) = some o := by
          refine wlx_of (k := l.length + 1) ?_ (by omega)
          have := (wlk_next (k := l.length - 1 + 1) (b := fun s => rlp_one.b1 (l.length : Int) l s.1 s.2) (s := (([], 0) : List Int × Int)) hr).trans hw
          rw [show l.length + 1 = l.length - 1 + 1 + 1 by omega]
          exact this
        rw [hx, Option.bind_some]
        rcases ho with ⟨⟨s, rfl⟩, hs⟩ | ⟨rfl, hs⟩
        · exact ⟨true, rfl, ⟨fun _ => ⟨by omega, hok, he, hs⟩, fun _ => rfl⟩⟩
        · exact ⟨false, rfl, ⟨fun h => (by cases h), fun h => absurd h.2.2.2 hs⟩⟩
      · rw [hb, if_pos rfl] at hr
        have hx : wlx (fun s => rlp_one.b1 (l.length : Int) l s.1 s.2) (([], 0) : List Int × Int) = some (.inr false) := wlx_of (k := 1) (wlk_ret (s := (([], 0) : List Int × Int)) hr) (by omega)
        rw [hx, Option.bind_some]
        refine ⟨false, rfl, ⟨fun h => (by cases h), fun h => ?_⟩⟩
        have := (bad_ok l 0).2 h.2.1
        rw [hb] at this; cases this
    · rw [show (((lget l 0).2.2 != (l.length : Int) - 1) : Bool) = true from bne_iff_ne.2 h1, cond_true]
      refine ⟨false, rfl, ⟨fun h => (by cases h), fun h => absurd ?_ h1⟩⟩
      have h3 := h.2.2.1
      have h4 := h.2.1.2.2.1
      unfold endN at h3; omega
/-! ### Places and items -/
def seg (l : List Node) (i j : Nat) : List Node := (l.take j).drop i
theorem seg_len {l : List Node} {i j : Nat} (h : j ≤ l.length) : (seg l i j).length = j - i := by
  unfold seg; rw [List.length_drop, List.length_take]; omega
theorem seg_nil (l : List Node) (i : Nat) : seg l i i = [] := by unfold seg; simp
theorem seg_cons {l : List Node} {i j : Nat} (h : i < j) (hj : j ≤ l.length) : seg l i j = lget l i :: seg l (i + 1) j := by
  unfold seg
  rw [List.drop_eq_getElem_cons (by rw [List.length_take]; omega)]
  congr 1
  rw [List.getElem_take]
  unfold lget; rw [List.getD_eq_getElem?_getD, List.getElem?_eq_getElem (by omega)]; rfl
theorem seg_app {l : List Node} {i m j : Nat} (h : i ≤ m) (hm : m ≤ j) (hj : j ≤ l.length) : seg l i j = seg l i m ++ seg l m j := by
  unfold seg
  have : l.take j = l.take m ++ (l.take j).drop m := by
    conv => lhs; rw [← List.take_append_drop m (l.take j)]
    rw [List.take_take, show min m j = m by omega]
  conv => lhs; rw [this]
  rw [List.drop_append, List.length_take, show i - min m l.length = 0 by omega, List.drop_zero]
theorem segl_all (l : List Node) : seg l 0 l.length = l := by unfold seg; rw [List.take_length, List.drop_zero]
theorem item_of {l : List Node} {i : Nat} (h : okN l i) (hi : i < l.length) {es : List B8} {d : Nat} (hs : RIt false (seg l (i + 1) (endN l i)) es d) : ∃ e d', RIt true (seg l i (endN l i)) e d' := by
  have hend := endN_le h hi
  have hlt : i < endN l i := by unfold endN; omega
  rw [seg_cons hlt hend]
  have hlen := seg_len (i := i + 1) hend
  obtain ⟨h1, h2, h3, h4⟩ := h
  have hsz : (endN l i : Int) = i + 1 + (lget l i).2.2 := by unfold endN; omega
  generalize endN l i = E at *
  generalize lget l i = x at *
  obtain ⟨a, b, c⟩ := x
  cases a with
  | false =>
    obtain rfl : c = 0 := h1 rfl
    have : E = i + 1 := by dsimp only at hsz; omega
    rw [this, seg_nil]
    by_cases e : b.length = 1 ∧ (lget b 0).toNat < 128
    · exact ⟨_, _, .one b e.1 e.2⟩
    · exact ⟨_, _, .bytes b e⟩
  | true =>
    obtain rfl : b = [] := h2 rfl
    have : c = ((seg l (i + 1) E).length : Int) := by rw [hlen]; dsimp only at hsz h3; omega
    rw [this]
    exact ⟨_, _, .list hs⟩
theorem Sq.items {l : List Node} {i j : Nat} (h : Sq l i j) : j ≤ l.length → ∃ e d, RIt false (seg l i j) e d := by
  induction h with
  | nil i => intro _; rw [seg_nil]; exact ⟨_, _, .nil⟩
  | @cons i hi h a b iha ihb =>
    intro hj
    have hle := b.le
    have hlt : i < endN l i := by unfold endN; omega
    obtain ⟨es, d, hs⟩ := iha (by omega)
    obtain ⟨e, d1, h1⟩ := item_of h (by omega) hs
    obtain ⟨e2, d2, h2⟩ := ihb hj
    rw [seg_app (m := endN l i) (by omega) hle hj]
    exact ⟨_, _, .cons h1 h2⟩
theorem lget_at_pre (pre : List Node) (x : Node) (r : List Node) : lget (pre ++ x :: r) pre.length = x := by
  unfold lget; rw [List.getD_eq_getElem?_getD, List.getElem?_append_right (Nat.le_refl _), Nat.sub_self]; rfl
theorem RIt.sq {b : Bool} {n : List Node} {e : List B8} {d : Nat} (h : RIt b n e d) : ∀ (pre post : List Node), (b = true → okN (pre ++ (n ++ post)) pre.length ∧ endN (pre ++ (n ++ post)) pre.length = pre.length + n.length ∧ Sq (pre ++ (n ++ post)) (pre.length + 1) (pre.length + n.length)) ∧ Sq (pre ++ (n ++ post)) pre.length (pre.length + n.length) := by
  have bytes : ∀ (b : List B8) (pre post : List Node), (okN (pre ++ ([(false, b, 0)] ++ post)) pre.length ∧ endN (pre ++ ([(false, b, 0)] ++ post)) pre.length = pre.length + [((false, b, 0) : Node)].length ∧ Sq (pre ++ ([(false, b, 0)] ++ post)) (pre.length + 1) (pre.length + [((false, b, 0) : Node)].length)) ∧ Sq (pre ++ ([(false, b, 0)] ++ post)) pre.length (pre.length + [((false, b, 0) : Node)].length) := fun b pre post => by
    have hg : lget (pre ++ ([((false, b, 0) : Node)] ++ post)) pre.length = (false, b, 0) := lget_at_pre _ _ _
    have hok : okN (pre ++ ([((false, b, 0) : Node)] ++ post)) pre.length := by
      unfold okN
      rw [hg]
      exact ⟨fun _ => rfl, fun h => (by cases h), Int.le_refl _, by simp only [List.length_append, List.length_singleton]; omega⟩
    have he : endN (pre ++ ([((false, b, 0) : Node)] ++ post)) pre.length = pre.length + 1 := by unfold endN; rw [hg]; rfl
    have h3 : Sq (pre ++ ([((false, b, 0) : Node)] ++ post)) (pre.length + 1) (pre.length + 1) := .nil _
    refine ⟨⟨hok, he, h3⟩, .cons hok (by rw [he]; exact .nil _) (by rw [he]; exact .nil _)⟩
  induction h with
  | one b h h2 => intro pre post; exact ⟨fun _ => (bytes b pre post).1, (bytes b pre post).2⟩
  | bytes b h => intro pre post; exact ⟨fun _ => (bytes b pre post).1, (bytes b pre post).2⟩
  | @list ns es d h ih =>
    intro pre post
    have hg : lget (pre ++ ((((true, [], (ns.length : Int)) : Node) :: ns) ++ post)) pre.length = (true, [], (ns.length : Int)) := lget_at_pre _ _ _
    have hok : okN (pre ++ ((((true, [], (ns.length : Int)) : Node) :: ns) ++ post)) pre.length := by
      unfold okN
      rw [hg]
      exact ⟨fun h => (by cases h), fun _ => rfl, by dsimp only; omega, by simp only [List.length_append, List.length_cons]; omega⟩
    have he : endN (pre ++ ((((true, [], (ns.length : Int)) : Node) :: ns) ++ post)) pre.length = pre.length + 1 + ns.length := by unfold endN; rw [hg]; rfl
    have hi := (ih (pre ++ [(true, [], (ns.length : Int))]) post).2
    rw [List.append_assoc, List.singleton_append, List.length_append, List.length_singleton] at hi
    have hl : pre.length + (((true, [], (ns.length : Int)) : Node) :: ns).length = pre.length + 1 + ns.length := by rw [List.length_cons]; omega
    rw [hl, List.cons_append]
    rw [List.cons_append] at hok he
    exact ⟨fun _ => ⟨hok, he, hi⟩, .cons hok (by rw [he]; exact hi) (by rw [he]; exact .nil _)⟩
  | nil => intro pre post; exact ⟨fun h => (by cases h), .nil _⟩
  | @cons n e d ns es d' h t ih1 ih2 =>
    intro pre post
    refine ⟨fun h => (by cases h), ?_⟩
    have h1 := (ih1 pre (ns ++ post)).1 rfl
    have h2 := (ih2 (pre ++ n) post).2
    rw [List.append_assoc, List.length_append] at h2
    rw [List.append_assoc, List.length_append, ← Nat.add_assoc]
    exact .cons h1.1 (by rw [h1.2.1]; exact h1.2.2) (by rw [h1.2.1]; exact h2)
theorem good_iff (l : List Node) : Good l ↔ ∃ e d, RIt true l e d := by
  constructor
  · intro ⟨h0, hok, he, hs⟩
    obtain ⟨es, d, hi⟩ := hs.items (Nat.le_refl _)
    have := item_of hok h0 (by rw [he]; exact hi)
    rw [he, segl_all] at this
    exact this
  · intro ⟨e, d, h⟩
    have hs := (h.sq [] []).1 rfl
    rw [List.nil_append, List.append_nil, List.length_nil, Nat.zero_add, Nat.zero_add] at hs
    exact ⟨h.pos rfl, hs.1, hs.2.1, hs.2.2⟩
/-! ### The document's test -/
theorem end_succ (k : Nat) (l : List Node) (a : Int) : smithyref07_end (k + 1) l a = smithyref07_endB (smithyref07_end k) l a := rfl
def endV (l : List Node) (i : Nat) : Prop := i < l.length ∧ okN l i ∧ Sq l (i + 1) (endN l i)
open Classical in
theorem end_val (l : List Node) (hl : l.length ≤ 100000) : ∀ (k i : Nat), 0 < k ∧ l.length < k + i → i ≤ 200000 → smithyref07_end k l (i : Int) = some (if endV l i then ((endN l i : Nat) : Int) else -1)
  | 0, i, h, hi => absurd h.1 (by omega)
  | k + 1, i, h, hi => by
    rw [end_succ]
    unfold smithyref07_endB
    simp only [Let_eq, Int.toNat_natCast]
    by_cases hin : i < l.length
    · rw [decide_eq_false (by omega), cond_false, Chk_ok (by omega)]
      have h1 : wi ((i : Int) + 1) = ((i + 1 : Nat) : Int) := by rw [wi_id (by omega)]; omega
      have h2 : wi ((l.length : Int) - 1) = (l.length : Int) - 1 := wi_id (by omega)
      have h3 : wi ((l.length : Int) - 1 - (i : Int)) = (l.length : Int) - 1 - (i : Int) := wi_id (by omega)
      rw [h1, h2, h3]
      by_cases hok : okN l i
      · have hend := endN_le hok hin
        have h4 : wi (((i + 1 : Nat) : Int) + (lget l i).2.2) = ((endN l i : Nat) : Int) := by
          have := hok.2.2.1
          have := hok.2.2.2
          rw [wi_id (by omega)]; unfold endN; omega
        have key : ∀ (m j : Nat), i < j → endN l i ≤ j + m → j ≤ 200000 → ∃ n r, n ≤ m + 1 ∧ wlk (ρ := Int) (fun s => smithyref07_endB.b1 (i : Int) (lget l i) (smithyref07_end k) l s) n (j : Int) = some (.inl r) ∧ (r = ((endN l i : Nat) : Int) ↔ j ≤ endN l i ∧ Sq l j (endN l i)) := by
          intro m
          induction m with
          | zero =>
            intro j hij hj hj2
            refine ⟨1, (j : Int), by omega, wlk_brk ?_, ?_⟩
            · simp only [smithyref07_endB.b1, Let_eq, h1, h4]
              rw [decide_eq_true (by omega), cond_true, decide_eq_false (by omega)]; rfl
            · constructor
              · intro e
                have : j = endN l i := by omega
                rw [this]; exact ⟨Nat.le_refl _, .nil _⟩
              · intro ⟨e, _⟩; omega
          | succ m ih =>
            intro j hij hj hj2
            by_cases hje : j < endN l i
            · have hF := end_val l hl k j (by omega) hj2
              have hb : smithyref07_endB.b1 (i : Int) (lget l i) (smithyref07_end k) l (j : Int) = some (.next (if endV l j then ((endN l j : Nat) : Int) else -1)) := by
                simp only [smithyref07_endB.b1, Let_eq, h1, h4]
                rw [decide_eq_true (by omega), cond_true, decide_eq_true (by omega), Option.bind_some, cond_true, hF]; rfl
              by_cases hv : endV l j
              · rw [if_pos hv] at hb
                have hlt : j < endN l j := by unfold endN; omega
                obtain ⟨n, r, hn, hw, hr⟩ := ih (endN l j) (by omega) (by omega) (by have := endN_le hv.2.1 hv.1; omega)
                refine ⟨n + 1, r, by omega, (wlk_next hb).trans hw, hr.trans ?_⟩
                exact ⟨fun ⟨_, h⟩ => ⟨by omega, .cons hv.2.1 hv.2.2 h⟩, fun ⟨_, h⟩ => ⟨(h.head hje).2.2.le, (h.head hje).2.2⟩⟩
              · rw [if_neg hv] at hb
                refine ⟨2, -1, by omega, (wlk_next hb).trans (wlk_brk ?_), ?_⟩
                · simp only [smithyref07_endB.b1, Let_eq]; rfl
                · exact ⟨fun e => by omega, fun ⟨_, h⟩ => absurd ⟨by omega, (h.head hje).1, (h.head hje).2.1⟩ hv⟩
            · refine ⟨1, (j : Int), by omega, wlk_brk ?_, ?_⟩
              · simp only [smithyref07_endB.b1, Let_eq, h1, h4]
                rw [decide_eq_true (by omega), cond_true, decide_eq_false (by omega)]; rfl
              · constructor
                · intro e
                  have : j = endN l i := by omega
                  rw [this]; exact ⟨Nat.le_refl _, .nil _⟩
                · intro ⟨e, _⟩; omega
        cases hx : (lget l i).1 with
        | false =>
          have hz := hok.1 hx
          have he : endN l i = i + 1 := by unfold endN; rw [hz]; rfl
          rw [if_pos ⟨hin, hok, by rw [he]; exact .nil _⟩, he, Bool.not_false, cond_true, hz]; rfl
        | true =>
          have hb := hok.2.1 hx
          obtain ⟨n, r, hn, hw, hr⟩ := key (endN l i) (i + 1) (by omega) (by omega) (by omega)
          rw [Bool.not_true, cond_false, hb, show decide ((0 : Int) < (([] : List B8).length : Int)) = false from rfl, cond_false, decide_eq_false (by have := hok.2.2.1; omega), Option.bind_some, cond_false, decide_eq_false (by have := hok.2.2.2; omega), Option.bind_some, cond_false, wlx_of hw (by omega), Option.bind_some, Sum.elim_inl, h4]
          have hle : i + 1 ≤ endN l i := by unfold endN; omega
          by_cases hv : endV l i
          · have : r = ((endN l i : Nat) : Int) := hr.2 ⟨hle, hv.2.2⟩
            rw [if_pos hv, this, show (((endN l i : Nat) : Int) != ((endN l i : Nat) : Int)) = false from bne_self_eq_false _, cond_false]
          · have : r ≠ ((endN l i : Nat) : Int) := fun e => hv ⟨hin, hok, (hr.1 e).2⟩
            rw [if_neg hv, show ((r != ((endN l i : Nat) : Int)) : Bool) = true from bne_iff_ne.2 this, cond_true]
      · rw [if_neg (fun h => hok h.2.1)]
        have hb : bad l i = true := by
          cases hb : bad l i
          · exact absurd ((bad_ok l i).1 hb) hok
          · rfl
        unfold bad at hb
        revert hb
        generalize lget l i = x
        obtain ⟨a, b, c⟩ := x
        cases a
        · simp only [Bool.not_false, cond_true, cond_false]
          by_cases e : c = 0
          · subst e
            rw [show ((0 : Int) != 0) = false from rfl, cond_false, show decide ((0 : Int) < 0) = false from rfl, cond_false, decide_eq_false (show ¬ ((l.length : Int) - 1 - (i : Int) < 0) by omega)]
            intro h; cases h
          · rw [show ((c != 0) : Bool) = true from bne_iff_ne.2 e]; intro _; rfl
        · simp only [Bool.not_true, cond_true, cond_false]
          intro hb
          have cs : ∀ {β : Type} (c x y : Bool) (f : Bool → Option β), (bif c then some x else some y).bind f = f (bif c then x else y) := fun c x y f => by cases c <;> rfl
          rw [cs, cs]
          rw [hb, cond_true]
    · rw [decide_eq_true (by omega), cond_true, if_neg (fun h => hin h.1)]
end Go.Proofs.Ytapfkdcilfpbhaa
