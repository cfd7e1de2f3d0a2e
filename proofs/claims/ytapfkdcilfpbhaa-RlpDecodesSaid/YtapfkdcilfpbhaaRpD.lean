/- Which rows are items: the program's test. -/
import Derived.Test.YtapfkdcilfpbhaaRpC
namespace Go.Proofs.Ytapfkdcilfpbhaa
open Go.RowKit
set_option linter.unusedVariables false
set_option linter.unusedSimpArgs false
def okN (l : List Node) (i : Nat) : Prop := ((lget l i).1 = false → (lget l i).2.2 = 0) ∧ ((lget l i).1 = true → (lget l i).2.1 = []) ∧ 0 ≤ (lget l i).2.2 ∧ (lget l i).2.2 ≤ (l.length : Int) - 1 - i
def endN (l : List Node) (i : Nat) : Nat := i + 1 + (lget l i).2.2.toNat
/-- From one place to another stand items. -/
inductive Sq (l : List Node) : Nat → Nat → Prop
  | nil (i : Nat) : Sq l i i
  | cons {i hi : Nat} (h : okN l i) (a : Sq l (i + 1) (endN l i)) (b : Sq l (endN l i) hi) : Sq l i hi
theorem Sq.le {l : List Node} {i j : Nat} (h : Sq l i j) : i ≤ j := by
  induction h with
  | nil i => exact Nat.le_refl _
  | cons h a b _ ih => unfold endN at ih; omega
theorem Sq.head {l : List Node} {i j : Nat} (h : Sq l i j) (hij : i < j) : okN l i ∧ Sq l (i + 1) (endN l i) ∧ Sq l (endN l i) j := by
  cases h with
  | nil => omega
  | cons h a b => exact ⟨h, a, b⟩
theorem endN_le {l : List Node} {i : Nat} (h : okN l i) (hi : i < l.length) : endN l i ≤ l.length := by
  have h3 := h.2.2.1
  have h4 := h.2.2.2
  unfold endN; omega
def Ch (l : List Node) : Nat → List Nat → Prop
  | _, [] => True
  | i, t :: r => Sq l i t ∧ Ch l t r
def encS (st : List Nat) : List Int := st.reverse.map fun (n : Nat) => (n : Int)
theorem encS_cons (t : Nat) (r : List Nat) : encS (t :: r) = encS r ++ [(t : Int)] := by unfold encS; simp
theorem encS_len (st : List Nat) : (encS st).length = st.length := by simp [encS]
theorem encS_top (t : Nat) (r : List Nat) : lget (encS (t :: r)) r.length = (t : Int) := by
  rw [encS_cons]; unfold lget; rw [List.getD_eq_getElem?_getD, List.getElem?_append_right (by rw [encS_len]; omega), encS_len, Nat.sub_self]; rfl
theorem encS_pop (t : Nat) (r : List Nat) : (encS (t :: r)).take r.length = encS r := by
  rw [encS_cons, List.take_append_of_le_length (by rw [encS_len]; omega), List.take_of_length_le (by rw [encS_len]; omega)]
theorem pop_val (i : Nat) : ∀ (st : List Nat), st.length ≤ 1000000 → wlk (ρ := Bool) (fun s => rlp_one.b2 (i : Int) s) (st.length + 1) (encS st) = some (.inl (encS (st.dropWhile (· == i))))
  | [], _ => wlk_brk (by simp [rlp_one.b2, Let_eq, encS])
  | t :: r, hl => by
    rw [List.length_cons] at hl
    have h1 : decide ((0 : Int) < ((encS (t :: r)).length : Int)) = true := decide_eq_true (by rw [encS_len, List.length_cons]; omega)
    have h2 : wi (((encS (t :: r)).length : Int) - 1) = (r.length : Int) := by rw [encS_len, List.length_cons, wi_id (by omega)]; omega
    have hb : rlp_one.b2 (i : Int) (encS (t :: r)) = if t = i then some (.next (encS r)) else some (.brk (encS (t :: r))) := by
      simp only [rlp_one.b2, Let_eq, h1, cond_true, h2, Int.toNat_natCast, encS_top, encS_pop]
      rw [Chk_ok (by rw [encS_len, List.length_cons]; omega), Option.bind_some, Chk_ok (by rw [encS_len, List.length_cons]; omega)]
      by_cases e : t = i
      · rw [if_pos e, show (((t : Int) == (i : Int)) : Bool) = true by rw [e]; exact beq_self_eq_true _]; rfl
      · rw [if_neg e, show (((t : Int) == (i : Int)) : Bool) = false from beq_eq_false_iff_ne.2 (by omega)]; rfl
    by_cases e : t = i
    · rw [if_pos e] at hb
      rw [List.length_cons, wlk_next hb, pop_val i r (by omega), List.dropWhile_cons, if_pos (by rw [e]; exact beq_self_eq_true _)]
    · rw [if_neg e] at hb
      rw [wlk_brk hb, List.dropWhile_cons, if_neg (by rw [beq_iff_eq]; exact e)]
def bad (l : List Node) (i : Nat) : Bool := (bif (bif (bif (bif !(lget l i).1 then ((lget l i).2.2 != 0) else false) then true else (bif (lget l i).1 then decide ((0 : Int) < ((lget l i).2.1.length : Int)) else false)) then true else decide ((lget l i).2.2 < 0)) then true else decide ((l.length : Int) - 1 - i < (lget l i).2.2))
theorem bad_ok (l : List Node) (i : Nat) : bad l i = false ↔ okN l i := by
  unfold bad okN
  generalize lget l i = x
  obtain ⟨a, b, c⟩ := x
  cases a
  · simp only [Bool.not_false, cond_true, cond_false]
    by_cases e : c = 0
    · subst e; simp
    · rw [show ((c != 0) : Bool) = true from bne_iff_ne.2 e]; simp [e]
  · simp only [Bool.not_true, cond_true, cond_false]
    cases b with
    | nil =>
      rw [show decide ((0 : Int) < (([] : List B8).length : Int)) = false from rfl, cond_false]
      by_cases e : c < 0
      · rw [decide_eq_true e]; simp; omega
      · rw [decide_eq_false e, cond_false]; simp; omega
    | cons y ys =>
      rw [decide_eq_true (by rw [List.length_cons]; omega)]; simp
theorem round_one (l : List Node) (hl : l.length ≤ 100000) {i : Nat} (hi : i < l.length) (st : List Nat) (hs : st.length ≤ 100001) :
    rlp_one.b1 (l.length : Int) l (encS st) (i : Int) = if bad l i then some (.ret false) else
      match st.dropWhile (· == i) with
      | [] => some (.next (encS [endN l i], ((i + 1 : Nat) : Int)))
      | t :: r => if t < endN l i then some (.ret false) else some (.next (encS (endN l i :: t :: r), ((i + 1 : Nat) : Int))) := by
  have h1 : decide ((i : Int) < (l.length : Int)) = true := decide_eq_true (by omega)
  have h2 : wi ((i : Int) + 1) = ((i + 1 : Nat) : Int) := by rw [wi_id (by omega)]; omega
  have h3 : wi ((l.length : Int) - 1) = (l.length : Int) - 1 := wi_id (by omega)
  have h4 : wi ((l.length : Int) - 1 - (i : Int)) = (l.length : Int) - 1 - (i : Int) := wi_id (by omega)
  have hp := wlx_of (pop_val i st (by omega)) (by omega)
  have cs : ∀ {β : Type} (c x y : Bool) (f : Bool → Option β), (bif c then some x else some y).bind f = f (bif c then x else y) := fun c x y f => by cases c <;> rfl
  simp only [rlp_one.b1, Let_eq, h1, cond_true, Int.toNat_natCast, hp, Option.bind_some, Sum.elim_inl, h3, h4, h2, cs]
  rw [Chk_ok (by omega)]
  have hbad : (bif (bif (bif (bif !(lget l i).1 then ((lget l i).2.2 != 0) else false) then true else (bif (lget l i).1 then decide ((0 : Int) < ((lget l i).2.1.length : Int)) else false)) then true else decide ((lget l i).2.2 < 0)) then true else decide ((l.length : Int) - 1 - (i : Int) < (lget l i).2.2)) = bad l i := rfl
  rw [hbad]
  cases hb : bad l i
  · rw [if_neg (by decide), cond_false]
    have hok := (bad_ok l i).1 hb
    have hend := endN_le hok hi
    have h5 : wi (((i + 1 : Nat) : Int) + (lget l i).2.2) = ((endN l i : Nat) : Int) := by
      have := hok.2.2.1
      have := hok.2.2.2
      rw [wi_id (by omega)]; unfold endN; omega
    rw [h5]
    have hdl : (st.dropWhile (· == i)).length ≤ st.length := (List.dropWhile_sublist _).length_le
    generalize st.dropWhile (· == i) = st' at *
    cases st' with
    | nil =>
      simp only [encS_len]
      rw [show decide ((0 : Int) < (([] : List Nat).length : Int)) = false from rfl, cond_false, Option.bind_some, cond_false, Chk_ok (by rw [List.length_nil, List.length_singleton]; omega), ← encS_cons]
    | cons t r =>
      rw [List.length_cons] at hdl
      simp only [encS_len]
      rw [decide_eq_true (show (0 : Int) < ((t :: r).length : Int) by rw [List.length_cons]; omega), cond_true, show wi (((t :: r).length : Int) - 1) = (r.length : Int) by rw [List.length_cons, wi_id (by omega)]; omega, Int.toNat_natCast, encS_top, Chk_ok (by rw [List.length_cons]; omega), Option.bind_some]
      by_cases e : t < endN l i
      · rw [if_pos e, decide_eq_true (by omega), cond_true]
      · rw [if_neg e, decide_eq_false (by omega), cond_false, Chk_ok (by rw [List.length_cons, List.length_singleton]; omega), ← encS_cons]
  · rfl
theorem Ch_pop {l : List Node} {i : Nat} : ∀ (st : List Nat), Ch l i st ↔ Ch l i (st.dropWhile (· == i))
  | [] => Iff.rfl
  | t :: r => by
    rw [List.dropWhile_cons]
    by_cases e : t = i
    · rw [if_pos (by rw [e]; exact beq_self_eq_true _), ← Ch_pop r, e]
      exact ⟨fun h => h.2, fun h => ⟨Sq.nil i, h⟩⟩
    · rw [if_neg (by rw [beq_iff_eq]; exact e)]
theorem run_one (l : List Node) (hl : l.length ≤ 100000) : ∀ (n i : Nat) (st : List Nat), i + n = l.length → st.length ≤ i + 1 → (∀ t ∈ st, i ≤ t ∧ t ≤ l.length) → st.Pairwise (· ≤ ·) → st.getLast? = some l.length →
    ∃ o, wlk (fun s => rlp_one.b1 (l.length : Int) l s.1 s.2) (n + 1) (encS st, (i : Int)) = some o ∧ ((∃ s, o = .inl s) ∧ Ch l i st ∨ o = .inr false ∧ ¬ Ch l i st)
  | 0, i, st, h, hs, ht, hpw, hla => by
    obtain rfl : i = l.length := by omega
    refine ⟨.inl (encS st, (l.length : Int)), wlk_brk (by simp only [rlp_one.b1, Let_eq, decide_eq_false (show ¬ (l.length : Int) < (l.length : Int) by omega), cond_false]), .inl ⟨⟨_, rfl⟩, ?_⟩⟩
    clear hs hpw hla
    induction st with
    | nil => trivial
    | cons t r ih =>
      have := ht t (by simp)
      obtain rfl : t = l.length := by omega
      exact ⟨Sq.nil _, ih fun u hu => ht u (by simp [hu])⟩
  | n + 1, i, st, h, hs, ht, hpw, hlast => by
    have hi : i < l.length := by omega
    have hr := round_one l hl hi st (by omega)
    rw [Ch_pop st]
    have hsub : ∀ t ∈ st.dropWhile (· == i), t ∈ st := fun t h => (List.dropWhile_sublist _).subset h
    have hdl : (st.dropWhile (· == i)).length ≤ st.length := (List.dropWhile_sublist _).length_le
    have hpw' : (st.dropWhile (· == i)).Pairwise (· ≤ ·) := hpw.sublist (List.dropWhile_sublist _)
    have hne : ∃ t r, st.dropWhile (· == i) = t :: r ∧ t ≠ i ∧ (t :: r).getLast? = some l.length := by
      clear hr hs hdl hsub ht hpw hpw'
      induction st with
      | nil => cases hlast
      | cons t r ih =>
        rw [List.dropWhile_cons]
        by_cases e : t = i
        · rw [if_pos (by rw [e]; exact beq_self_eq_true _)]
          cases r with
          | nil => simp at hlast; omega
          | cons u r' => exact ih (by simpa using hlast)
        · rw [if_neg (by rw [beq_iff_eq]; exact e)]; exact ⟨t, r, rfl, e, hlast⟩
    obtain ⟨t, r, hd, hti, hlast'⟩ := hne
    rw [hd] at hr hsub hdl hpw' ⊢
    dsimp only at hr
    have htb := ht t (hsub t (by simp))
    cases hb : bad l i
    · rw [hb, if_neg (by decide)] at hr
      have hok := (bad_ok l i).1 hb
      have hend := endN_le hok hi
      by_cases e : t < endN l i
      · rw [if_pos e] at hr
        refine ⟨.inr false, wlk_ret hr, .inr ⟨rfl, fun hc => ?_⟩⟩
        have := (hc.1.head (by omega)).2.2.le
        omega
      · rw [if_neg e] at hr
        have hlt : i < endN l i := by unfold endN; omega
        obtain ⟨o, hw, ho⟩ := run_one l hl n (i + 1) (endN l i :: t :: r) (by omega) (by simp only [List.length_cons] at hdl ⊢; omega) (fun u hu => by
          rcases List.mem_cons.1 hu with rfl | hu
          · omega
          · rcases List.mem_cons.1 hu with rfl | hu
            · omega
            · have := ht u (hsub u (by simp [hu]))
              have := (List.pairwise_cons.1 hpw').1 u hu
              omega) (List.pairwise_cons.2 ⟨fun u hu => by
            rcases List.mem_cons.1 hu with rfl | hu
            · omega
            · have := (List.pairwise_cons.1 hpw').1 u hu
              omega, hpw'⟩) (by rw [List.getLast?_cons_cons]; exact hlast')
        have hiff : Ch l (i + 1) (endN l i :: t :: r) ↔ Ch l i (t :: r) := ⟨fun hc => ⟨.cons hok hc.1 hc.2.1, hc.2.2⟩, fun hc => ⟨(hc.1.head (by omega)).2.1, (hc.1.head (by omega)).2.2, hc.2⟩⟩
        rw [hiff] at ho
        exact ⟨o, (wlk_next (b := fun s => rlp_one.b1 (l.length : Int) l s.1 s.2) hr).trans hw, ho⟩
    · rw [hb, if_pos rfl] at hr
      refine ⟨.inr false, wlk_ret hr, .inr ⟨rfl, fun hc => ?_⟩⟩
      have := (bad_ok l i).2 (hc.1.head (by omega)).1
      rw [hb] at this; cases this
end Go.Proofs.Ytapfkdcilfpbhaa
