/- The writing of rows: both. -/
import Derived.Test.YtapfkdcilfpbhaaRpE
namespace Go.Proofs.Ytapfkdcilfpbhaa
open Go.RowKit
set_option linter.unusedVariables false
set_option linter.unusedSimpArgs false
/-! ### How deep -/
def cov (l : List Node) (i k : Nat) : Nat := if (lget l k).1 = true ∧ (i : Int) ≤ k + (lget l k).2.2 then 1 else 0
def cnt (l : List Node) (i : Nat) : Nat → Nat
  | 0 => 0
  | m + 1 => cnt l i m + cov l i m
def dpV (l : List Node) : Nat → Nat
  | 0 => 0
  | n + 1 => max (dpV l n) (cnt l n (n + 1))
theorem cnt_le (l : List Node) (i : Nat) : ∀ m, cnt l i m ≤ m
  | 0 => Nat.le_refl _
  | m + 1 => by
    have := cnt_le l i m
    show cnt l i m + cov l i m ≤ m + 1
    have : cov l i m ≤ 1 := by unfold cov; split <;> omega
    omega
theorem dpV_le (l : List Node) : ∀ n, dpV l n ≤ n
  | 0 => Nat.le_refl _
  | n + 1 => by
    have := dpV_le l n
    have := cnt_le l n (n + 1)
    show max (dpV l n) (cnt l n (n + 1)) ≤ n + 1
    omega
theorem lget_appL (a b : List Node) {k : Nat} (h : k < a.length) : lget (a ++ b) k = lget a k := by
  unfold lget; rw [List.getD_eq_getElem?_getD, List.getD_eq_getElem?_getD, List.getElem?_append_left h]
theorem lget_appR (a b : List Node) (k : Nat) : lget (a ++ b) (a.length + k) = lget b k := by
  unfold lget; rw [List.getD_eq_getElem?_getD, List.getD_eq_getElem?_getD, List.getElem?_append_right (by omega), Nat.add_sub_cancel_left]
/-- No item sticks out. -/
def Snug (l : List Node) : Prop := ∀ k, k < l.length → 0 ≤ (lget l k).2.2 ∧ (k : Int) + (lget l k).2.2 < l.length
theorem cnt_left (a b : List Node) (i : Nat) : ∀ m, m ≤ a.length → cnt (a ++ b) i m = cnt a i m
  | 0, _ => rfl
  | m + 1, h => by
    show cnt (a ++ b) i m + cov (a ++ b) i m = cnt a i m + cov a i m
    rw [cnt_left a b i m (by omega)]
    unfold cov
    rw [lget_appL a b (by omega)]
theorem cnt_zero {a : List Node} (h : Snug a) {i : Nat} (hi : a.length ≤ i) : ∀ m, m ≤ a.length → cnt a i m = 0
  | 0, _ => rfl
  | m + 1, hm => by
    show cnt a i m + cov a i m = 0
    have := h m (by omega)
    rw [cnt_zero h hi m (by omega)]
    unfold cov
    rw [if_neg (by omega)]
theorem cnt_right {a : List Node} (b : List Node) (h : Snug a) (j : Nat) : ∀ m, cnt (a ++ b) (a.length + j) (a.length + m) = cnt b j m
  | 0 => by rw [Nat.add_zero, cnt_left a b _ _ (Nat.le_refl _), cnt_zero h (by omega) _ (Nat.le_refl _)]; rfl
  | m + 1 => by
    show cnt (a ++ b) (a.length + j) (a.length + m) + cov (a ++ b) (a.length + j) (a.length + m) = cnt b j m + cov b j m
    rw [cnt_right b h j m]
    unfold cov
    rw [lget_appR]
    congr 1
    by_cases e : (lget b m).1 = true ∧ (j : Int) ≤ m + (lget b m).2.2
    · rw [if_pos e, if_pos ⟨e.1, by have := e.2; omega⟩]
    · rw [if_neg e, if_neg (fun h => e ⟨h.1, by have := h.2; omega⟩)]
theorem dpV_left (a b : List Node) : ∀ m, m ≤ a.length → dpV (a ++ b) m = dpV a m
  | 0, _ => rfl
  | m + 1, h => by
    show max (dpV (a ++ b) m) (cnt (a ++ b) m (m + 1)) = max (dpV a m) (cnt a m (m + 1))
    rw [dpV_left a b m (by omega), cnt_left a b _ _ (by omega)]
theorem dpV_right {a : List Node} (b : List Node) (h : Snug a) : ∀ m, dpV (a ++ b) (a.length + m) = max (dpV a a.length) (dpV b m)
  | 0 => by rw [Nat.add_zero, dpV_left a b _ (Nat.le_refl _)]; show _ = max _ 0; omega
  | m + 1 => by
    show max (dpV (a ++ b) (a.length + m)) (cnt (a ++ b) (a.length + m) (a.length + (m + 1))) = max (dpV a a.length) (max (dpV b m) (cnt b m (m + 1)))
    rw [dpV_right b h m, cnt_right b h m (m + 1)]; omega
theorem cnt_list (ns : List Node) (j : Nat) (hj : j < ns.length) : ∀ m, cnt ((true, [], (ns.length : Int)) :: ns) (j + 1) (m + 1) = 1 + cnt ns j m
  | 0 => by
    show 0 + cov _ (j + 1) 0 = 1 + 0
    unfold cov
    rw [if_pos ⟨rfl, by show ((j + 1 : Nat) : Int) ≤ ((0 : Nat) : Int) + (ns.length : Int); omega⟩]
  | m + 1 => by
    show cnt _ (j + 1) (m + 1) + cov _ (j + 1) (m + 1) = 1 + (cnt ns j m + cov ns j m)
    rw [cnt_list ns j hj m, Nat.add_assoc]
    congr 2
    unfold cov
    rw [show lget ((true, [], (ns.length : Int)) :: ns : List Node) (m + 1) = lget ns m from rfl]
    by_cases e : (lget ns m).1 = true ∧ (j : Int) ≤ m + (lget ns m).2.2
    · rw [if_pos e, if_pos ⟨e.1, by have := e.2; omega⟩]
    · rw [if_neg e, if_neg (fun h => e ⟨h.1, by have := h.2; omega⟩)]
theorem dpV_list (ns : List Node) : ∀ m, m ≤ ns.length → dpV ((true, [], (ns.length : Int)) :: ns) (m + 1) = dpV ns m + 1
  | 0, _ => by
    show max 0 (0 + cov _ 0 0) = 0 + 1
    unfold cov
    rw [if_pos ⟨rfl, by show ((0 : Nat) : Int) ≤ ((0 : Nat) : Int) + (ns.length : Int); omega⟩]; rfl
  | m + 1, h => by
    show max (dpV _ (m + 1)) (cnt _ (m + 1) (m + 1 + 1)) = max (dpV ns m) (cnt ns m (m + 1)) + 1
    rw [dpV_list ns m (by omega), cnt_list ns m (by omega)]; omega
theorem RIt.snug {b : Bool} {n : List Node} {e : List B8} {d : Nat} (h : RIt b n e d) : Snug n ∧ dpV n n.length = d := by
  have bytes : ∀ b : List B8, Snug [(false, b, 0)] ∧ dpV [((false, b, 0) : Node)] 1 = 0 := fun b => ⟨fun k hk => by
    obtain rfl : k = 0 := by simpa using hk
    show 0 ≤ (0 : Int) ∧ ((0 : Nat) : Int) + (0 : Int) < ((1 : Nat) : Int)
    omega, rfl⟩
  induction h with
  | one b h h2 => exact bytes b
  | bytes b h => exact bytes b
  | @list ns es d h ih =>
    refine ⟨fun k hk => ?_, ?_⟩
    · rw [List.length_cons] at hk ⊢
      cases k with
      | zero => show 0 ≤ (ns.length : Int) ∧ ((0 : Nat) : Int) + (ns.length : Int) < _; omega
      | succ k =>
        have := ih.1 k (by omega)
        rw [show lget ((true, [], (ns.length : Int)) :: ns : List Node) (k + 1) = lget ns k from rfl]; omega
    · rw [List.length_cons, dpV_list ns _ (Nat.le_refl _), ih.2]
  | nil => exact ⟨fun k hk => absurd hk (by simp), rfl⟩
  | @cons n e d ns es d' h t ih1 ih2 =>
    refine ⟨fun k hk => ?_, ?_⟩
    · rw [List.length_append] at hk ⊢
      by_cases e : k < n.length
      · have := ih1.1 k e
        rw [lget_appL _ _ e]; omega
      · have := ih2.1 (k - n.length) (by omega)
        have h2 := lget_appR n ns (k - n.length)
        rw [show n.length + (k - n.length) = k by omega] at h2
        rw [h2]; omega
    · rw [List.length_append, dpV_right ns ih1.1, ih1.2, ih2.2]
theorem deep_val (l : List Node) (hl : l.length ≤ 100000) (hs : Snug l) : smithyref07_deep l = some ((dpV l l.length : Nat) : Int) := by
  have inner : ∀ i, i < l.length → wlx (ρ := Int) (fun s => smithyref07_deep.b2 (i : Int) l s.1 s.2) ((0, 0) : Int × Int) = some (.inl (((cnt l i (i + 1) : Nat) : Int), ((i + 1 : Nat) : Int))) := fun i hi =>
    wlx_for (b := fun s => smithyref07_deep.b2 (i : Int) l s.1 s.2) (fun k => (((cnt l i k : Nat) : Int), (k : Int))) (n := i + 1) (fun k hk => by
      have h1 : decide ((k : Int) ≤ (i : Int)) = true := decide_eq_true (by omega)
      have h2 : wi ((k : Int) + 1) = ((k + 1 : Nat) : Int) := by rw [wi_id (by omega)]; omega
      have hk := hs k (by omega)
      have hc := cnt_le l i k
      have h3 : wi ((k : Int) + (lget l k).2.2) = (k : Int) + (lget l k).2.2 := wi_id (by omega)
      have h4 : wi (((cnt l i k : Nat) : Int) + 1) = ((cnt l i k + 1 : Nat) : Int) := by rw [wi_id (by omega)]; omega
      have hcn : cnt l i (k + 1) = cnt l i k + cov l i k := rfl
      simp only [smithyref07_deep.b2, Let_eq, h1, cond_true, h2, Int.toNat_natCast, h3, h4]
      rw [Chk_ok (by omega), hcn]
      unfold cov
      cases hx : (lget l k).1
      · rw [cond_false, Option.bind_some, cond_false, if_neg (fun h => by cases h.1)]; rfl
      · rw [cond_true, Chk_ok (by omega), Option.bind_some]
        by_cases e : (i : Int) ≤ k + (lget l k).2.2
        · rw [decide_eq_true e, cond_true, if_pos ⟨rfl, e⟩]; rfl
        · rw [decide_eq_false e, cond_false, if_neg (fun h => e h.2)]; rfl) (by
      have h1 : decide (((i + 1 : Nat) : Int) ≤ (i : Int)) = false := decide_eq_false (by omega)
      simp only [smithyref07_deep.b2, Let_eq, h1, cond_false]) (by omega)
  unfold smithyref07_deep
  have outer := wlx_for (b := fun s => smithyref07_deep.b1 (l.length : Int) l s.1 s.2) (ρ := Int) (fun i => (((dpV l i : Nat) : Int), (i : Int))) (n := l.length) (s' := (((dpV l l.length : Nat) : Int), (l.length : Int))) (fun i hi => by
      have h1 : decide ((i : Int) < (l.length : Int)) = true := decide_eq_true (by omega)
      have h2 : wi ((i : Int) + 1) = ((i + 1 : Nat) : Int) := by rw [wi_id (by omega)]; omega
      simp only [smithyref07_deep.b1, Let_eq, h1, cond_true, inner i hi, Option.bind_some, Sum.elim_inl, h2]
      congr 3
      show _ = ((max (dpV l i) (cnt l i (i + 1)) : Nat) : Int)
      by_cases e : ((dpV l i : Nat) : Int) < ((cnt l i (i + 1) : Nat) : Int)
      · rw [if_pos e]; omega
      · rw [if_neg e]; omega) (by
      have h1 : decide ((l.length : Int) < (l.length : Int)) = false := decide_eq_false (by omega)
      simp only [smithyref07_deep.b1, Let_eq, h1, cond_false]) (by omega)
  rw [Let_eq, show ((0, 0) : Int × Int) = (fun i : Nat => (((dpV l i : Nat) : Int), (i : Int))) 0 from rfl, outer]; rfl
/-! ### The document's writing -/
theorem write_succ (k : Nat) (l : List Node) (a : Int) : smithyref07_write (k + 1) l a = smithyref07_writeB (smithyref07_write k) l a := rfl
theorem end_item {n : List Node} {e : List B8} {d : Nat} (h : RIt true n e d) (pre post : List Node) (hl : (pre ++ (n ++ post)).length ≤ 100000) : smithyref07_end 18446744073709551616 (pre ++ (n ++ post)) (pre.length : Int) = some ((pre.length + n.length : Nat) : Int) := by
  have hs := (h.sq pre post).1 rfl
  have hp := h.pos rfl
  have hlen : (pre ++ (n ++ post)).length = pre.length + (n.length + post.length) := by rw [List.length_append, List.length_append]
  rw [end_val _ hl _ _ ⟨by omega, by omega⟩ (by omega), if_pos ⟨by omega, hs.1, by rw [hs.2.1]; exact hs.2.2⟩, hs.2.1]
def Rw (b : Bool) (n : List Node) (e : List B8) (d : Nat) : Prop :=
  if b then ∀ (pre post : List Node) (k : Nat), (pre ++ (n ++ post)).length ≤ 100000 → d ≤ k → smithyref07_write (k + 1) (pre ++ (n ++ post)) (pre.length : Int) = some e
  else ∀ (pre post : List Node) (k : Nat) (acc : List B8) (i : Nat) (x : Node), (pre ++ (n ++ post)).length ≤ 100000 → d ≤ k → acc.length + e.length ≤ 1000000 → i ≤ 100000 → 0 ≤ x.2.2 → (i : Int) + 1 + x.2.2 = ((pre.length + n.length : Nat) : Int) →
      ∃ m, m ≤ n.length + 1 ∧ wlk (ρ := List B8) (fun s => smithyref07_writeB.b1 (i : Int) x (smithyref07_write (k + 1)) (pre ++ (n ++ post)) s.1 s.2) m (acc, (pre.length : Int)) = some (.inl (acc ++ e, ((pre.length + n.length : Nat) : Int)))
theorem RIt.rw_ {b : Bool} {n : List Node} {e : List B8} {d : Nat} (h : RIt b n e d) : e.length ≤ 1000000 → Rw b n e d := by
  have bytes : ∀ (b : List B8) (pre post : List Node) (k : Nat), b.length ≤ 1000000 → smithyref07_write (k + 1) (pre ++ ([(false, b, 0)] ++ post)) (pre.length : Int) = some (if b.length = 1 ∧ (lget b 0).toNat < 128 then b else headV b.length 0 ++ b) := fun b pre post k lb => by
    have hg : lget (pre ++ ([((false, b, 0) : Node)] ++ post)) pre.length = (false, b, 0) := lget_at_pre _ _ _
    have hd : smithyref07_Head (b.length : Int) 0 = some (headV b.length 0) := Head_val b.length 0 (by omega) (by omega)
    have hh := headV_len b.length 0 (by omega)
    rw [write_succ]
    unfold smithyref07_writeB
    simp only [Let_eq, Int.toNat_natCast, hg, Bool.not_false, cond_true, hd]
    rw [Chk_ok (by simp only [List.length_append, List.length_singleton]; omega)]
    by_cases e : b.length = 1
    · rw [show (((b.length : Int) == 1) : Bool) = true by rw [e]; rfl, cond_true, Chk_ok (by omega), Option.bind_some]
      by_cases e2 : (lget b 0).toNat < 128
      · rw [if_pos ⟨e, e2⟩, decide_eq_true (by omega), cond_true, Chk_ok (by omega)]
        obtain ⟨c, rfl⟩ := List.length_eq_one_iff.1 e
        rfl
      · rw [if_neg (fun h => e2 h.2), decide_eq_false (by omega), cond_false, Option.bind_some, Chk_ok (by omega)]
    · rw [if_neg (fun h => e h.1), show (((b.length : Int) == 1) : Bool) = false from beq_eq_false_iff_ne.2 (by omega), cond_false, Option.bind_some, cond_false, Option.bind_some, Chk_ok (by omega)]
  induction h with
  | one b h h2 => intro hl pre post k _ _; rw [bytes b pre post k hl, if_pos ⟨h, h2⟩]
  | bytes b h => intro hl pre post k _ _; rw [bytes b pre post k (by rw [List.length_append] at hl; omega), if_neg h]
  | @list ns es d h ih =>
    intro hl pre post k hlen hk
    rw [List.length_append] at hl
    have ih := ih (by omega)
    unfold Rw at ih
    rw [if_neg (by decide)] at ih
    obtain ⟨k, rfl⟩ : ∃ k', k = k' + 1 := ⟨k - 1, by omega⟩
    have hes : es.length ≤ 1099511627776 := by omega
    have hg : lget (pre ++ ((((true, [], (ns.length : Int)) : Node) :: ns) ++ post)) pre.length = (true, [], (ns.length : Int)) := lget_at_pre _ _ _
    have hd : smithyref07_Head (es.length : Int) 64 = some (headV es.length 64) := Head_val es.length 64 hes (by omega)
    have hh := headV_len es.length 64 hes
    have hL : (pre ++ ((((true, [], (ns.length : Int)) : Node) :: ns) ++ post)) = (pre ++ [(true, [], (ns.length : Int))]) ++ (ns ++ post) := by simp
    have hln : (pre ++ ((((true, [], (ns.length : Int)) : Node) :: ns) ++ post)).length = pre.length + (ns.length + 1 + post.length) := by simp only [List.length_append, List.length_cons]
    have hpl : (pre ++ [((true, [], (ns.length : Int)) : Node)]).length = pre.length + 1 := by rw [List.length_append, List.length_singleton]
    obtain ⟨m, hm, hw⟩ := ih (pre ++ [(true, [], (ns.length : Int))]) post k [] pre.length (true, [], (ns.length : Int)) (by rw [← hL]; exact hlen) (by omega) (by simp; omega) (by omega) (by dsimp only; omega) (by rw [hpl]; dsimp only; omega)
    rw [← hL, hpl] at hw
    rw [write_succ]
    unfold smithyref07_writeB
    have h1 : wi ((pre.length : Int) + 1) = ((pre.length + 1 : Nat) : Int) := by rw [wi_id (by omega)]; omega
    simp only [Let_eq, Int.toNat_natCast, hg, Bool.not_true, cond_false, h1]
    rw [Chk_ok (by omega), wlx_of hw (by omega), Option.bind_some, Sum.elim_inl]
    dsimp only
    rw [List.nil_append, hd, Option.bind_some, Chk_ok (by omega)]
  | nil =>
    intro _ pre post k acc i x hlen hk ha hi h0 hx
    rw [List.length_nil, Nat.add_zero] at hx ⊢
    refine ⟨1, by omega, ?_⟩
    rw [List.append_nil]
    have hplen : pre.length ≤ 100000 := by simp only [List.length_append] at hlen; omega
    refine wlk_brk ?_
    show smithyref07_writeB.b1 _ _ _ _ acc (pre.length : Int) = _
    simp only [smithyref07_writeB.b1, Let_eq]
    rw [wi_id (n := (i : Int) + 1) (by omega), hx, wi_id (by omega), decide_eq_false (by omega)]; rfl
  | @cons n e d ns es d' h t ih1 ih2 =>
    intro hl pre post k acc i x hlen hk ha hi h0 hx
    generalize hD : max d d' = D at *
    have hD1 : d ≤ D := by omega
    have hD2 : d' ≤ D := by omega
    clear hD
    rw [List.length_append] at hl ha
    have hnl : (n ++ ns).length = n.length + ns.length := List.length_append
    rw [hnl] at hx ⊢
    have hpos := h.pos rfl
    have ih1 := ih1 (by omega)
    have ih2 := ih2 (by omega)
    unfold Rw at ih1 ih2
    rw [if_pos rfl] at ih1
    rw [if_neg (by decide)] at ih2
    rw [List.append_assoc n ns post] at hlen ⊢
    have hlen2 := hlen
    simp only [List.length_append] at hlen2
    have hL : pre ++ (n ++ (ns ++ post)) = (pre ++ n) ++ (ns ++ post) := by rw [List.append_assoc]
    have hpl : (pre ++ n).length = pre.length + n.length := List.length_append
    obtain ⟨m, hm, hw⟩ := ih2 (pre ++ n) post k (acc ++ e) i x (by rw [← hL]; exact hlen) (by omega) (by rw [List.length_append]; omega) hi h0 (by rw [hpl, hx]; omega)
    rw [← hL, hpl] at hw
    have hb : smithyref07_writeB.b1 (i : Int) x (smithyref07_write (k + 1)) (pre ++ (n ++ (ns ++ post))) acc (pre.length : Int) = some (.next (acc ++ e, ((pre.length + n.length : Nat) : Int))) := by
      simp only [smithyref07_writeB.b1, Let_eq]
      rw [wi_id (n := (i : Int) + 1) (by omega), hx, wi_id (by omega), decide_eq_true (by omega), cond_true, ih1 pre (ns ++ post) k hlen (by omega), Option.bind_some, Chk_ok (by omega), end_item h pre (ns ++ post) hlen, Option.bind_some]
    refine ⟨m + 1, by omega, ?_⟩
    rw [wlk_next (b := fun s => smithyref07_writeB.b1 (i : Int) x (smithyref07_write (k + 1)) (pre ++ (n ++ (ns ++ post))) s.1 s.2) (s := (acc, (pre.length : Int))) hb, hw, List.append_assoc, Nat.add_assoc]
/-! ### Both -/
theorem Encode_bad (l : List Node) (hl : l.length ≤ 100000) (h : ¬ Good l) : rlp_Encode l = some ([], 2) := by
  obtain ⟨r, h1, h2⟩ := one_val l hl
  have : r = false := by
    cases r
    · rfl
    · exact absurd (h2.1 rfl) h
  unfold rlp_Encode
  rw [h1, this, Option.bind_some, Let_eq]; rfl
theorem Encode_good {l : List Node} {e : List B8} {d : Nat} (h : RIt true l e d) (hl : l.length ≤ 100000) (he : e.length ≤ 1000000) : rlp_Encode l = some (if d ≤ 64 then (e, 0) else ([], 4)) := by
  obtain ⟨r, h1, h2⟩ := one_val l hl
  have : r = true := h2.2 ((good_iff l).2 ⟨e, d, h⟩)
  have hw := h.wr hl he
  unfold Wr at hw
  rw [if_pos rfl] at hw
  have hw := hw [] 18446744073709551615 0 (by simp; omega) (by omega) (by have := h.depth; omega)
  rw [List.append_nil] at hw
  unfold rlp_Encode
  rw [h1, this, Option.bind_some]
  simp only [Let_eq, Bool.not_true, cond_false]
  by_cases hd : d ≤ 64
  · have hi : rlp_writer_item 18446744073709551616 (l, 0) 0 = some (e, ([], 0)) := hw.1 (by omega)
    rw [if_pos hd, hi, Option.bind_some]
    dsimp only
    rw [show ((0 : Int) != 0) = false from rfl, cond_false, decide_eq_false (by omega)]; rfl
  · obtain ⟨o, l', hi, _⟩ := hw.2 (by omega)
    have hi : rlp_writer_item 18446744073709551616 (l, 0) 0 = some (o, (l', 4)) := hi
    rw [if_neg hd, hi, Option.bind_some]
    rfl
open Classical in
theorem ref_Encode_bad (l : List Node) (hl : l.length ≤ 100000) (h : ¬ Good l) : smithyref07_Encode l = some ([], 2) := by
  have he : smithyref07_end 18446744073709551616 l 0 = _ := end_val l hl 18446744073709551616 0 ⟨by omega, by omega⟩ (by omega)
  unfold smithyref07_Encode
  rw [Let_eq, he, Option.bind_some]
  simp only [Let_eq]
  by_cases h0 : l.length = 0
  · have : l = [] := List.eq_nil_of_length_eq_zero h0
    subst this
    rw [if_neg (fun hv => by have := hv.1; simp at this)]; rfl
  · have hne : ((if endV l 0 then ((endN l 0 : Nat) : Int) else -1) != (l.length : Int)) = true := by
      refine bne_iff_ne.2 fun e => ?_
      by_cases hv : endV l 0
      · rw [if_pos hv] at e
        have e' : endN l 0 = l.length := by omega
        exact h ⟨hv.1, hv.2.1, e', by have := hv.2.2; rw [e'] at this; exact this⟩
      · rw [if_neg hv] at e; omega
    rw [hne]; rfl
theorem ref_Encode_good {l : List Node} {e : List B8} {d : Nat} (h : RIt true l e d) (hl : l.length ≤ 100000) (he : e.length ≤ 1000000) : smithyref07_Encode l = some (if d ≤ 64 then (e, 0) else ([], 4)) := by
  have hend := end_item h [] [] (by simpa using hl)
  rw [List.nil_append, List.append_nil, List.length_nil, Nat.zero_add] at hend
  have hend : smithyref07_end 18446744073709551616 l 0 = some (l.length : Int) := hend
  have hsn := h.snug
  have hpos := h.pos rfl
  have hw := h.rw_ he
  unfold Rw at hw
  rw [if_pos rfl] at hw
  have hw := hw [] [] 18446744073709551615 (by simpa using hl) (by have := h.depth; omega)
  rw [List.nil_append, List.append_nil] at hw
  have hw : smithyref07_write 18446744073709551616 l 0 = some e := hw
  unfold smithyref07_Encode
  rw [Let_eq, hend, Option.bind_some]
  simp only [Let_eq]
  rw [show (((l.length : Int) != (l.length : Int)) : Bool) = false from bne_self_eq_false _, cond_false, show (((l.length : Int) == 0) : Bool) = false from beq_eq_false_iff_ne.2 (by omega), Option.bind_some, cond_false, deep_val l hl hsn.1, hsn.2, Option.bind_some]
  by_cases hd : d ≤ 64
  · rw [if_pos hd, decide_eq_false (by omega), cond_false, hw, Option.bind_some, decide_eq_false (by omega)]; rfl
  · rw [if_neg hd, decide_eq_true (by omega)]; rfl
end Go.Proofs.Ytapfkdcilfpbhaa
