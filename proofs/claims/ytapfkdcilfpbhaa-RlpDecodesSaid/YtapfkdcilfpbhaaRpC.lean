/- Items and their writing: the program's writer. -/
import Derived.Test.YtapfkdcilfpbhaaRpB
import Derived.Test.YtapfkdcilfpbhaaRlB
namespace Go.Proofs.Ytapfkdcilfpbhaa
open Go.RowKit
set_option linter.unusedVariables false
set_option linter.unusedSimpArgs false
abbrev Node := Bool × List B8 × Int
/-- The nodes of an item (or of many), its writing, how deep lists stand in lists. -/
inductive RIt : Bool → List Node → List B8 → Nat → Prop
  | one (b : List B8) (h : b.length = 1) (h2 : (lget b 0).toNat < 128) : RIt true [(false, b, 0)] b 0
  | bytes (b : List B8) (h : ¬ (b.length = 1 ∧ (lget b 0).toNat < 128)) : RIt true [(false, b, 0)] (headV b.length 0 ++ b) 0
  | list {ns : List Node} {es : List B8} {d : Nat} (h : RIt false ns es d) : RIt true ((true, [], (ns.length : Int)) :: ns) (headV es.length 64 ++ es) (d + 1)
  | nil : RIt false [] [] 0
  | cons {n : List Node} {e : List B8} {d : Nat} {ns : List Node} {es : List B8} {d' : Nat} (h : RIt true n e d) (t : RIt false ns es d') : RIt false (n ++ ns) (e ++ es) (max d d')
theorem headV_mono {a b : Nat} (m : Nat) (h : a ≤ b) : (headV a m).length ≤ (headV b m).length := by
  unfold headV
  by_cases e : b ≤ 55
  · rw [if_pos e, if_pos (by omega)]; exact Nat.le_refl _
  · rw [if_neg e]
    by_cases e2 : a ≤ 55
    · rw [if_pos e2]; simp
    · rw [if_neg e2]
      simp only [List.length_cons, numB_len]
      have := nby_le (V := a) (n := nby b) (Nat.lt_of_le_of_lt h (nby_lt b))
      omega
theorem RIt.pos {b : Bool} {n : List Node} {e : List B8} {d : Nat} (h : RIt b n e d) : b = true → 0 < n.length := by
  induction h <;> simp
theorem RIt.depth {b : Bool} {n : List Node} {e : List B8} {d : Nat} (h : RIt b n e d) : d ≤ n.length := by
  induction h with
  | one => simp
  | bytes => simp
  | list h ih => simpa using ih
  | nil => simp
  | cons h t ih1 ih2 => rw [List.length_append]; omega
theorem fail_val (l : List Node) (e c : Int) : rlp_writer_fail (l, e) c = some ([], (l, if e = 0 then c else e)) := by
  unfold rlp_writer_fail
  simp only [Let_eq]
  by_cases h : e = 0
  · rw [h, if_pos rfl]; rfl
  · rw [if_neg h, show ((e == 0) : Bool) = false from beq_eq_false_iff_ne.2 h]; rfl
theorem take_all {α : Type} (l : List α) : l.take l.length = l := List.take_of_length_le (Nat.le_refl _)
theorem len_cons_ne {α : Type} (x : α) (l : List α) : ((((x :: l).length : Nat) : Int) == 0) = false := beq_eq_false_iff_ne.2 (by simp; omega)
/-- The writer at bytes. -/
theorem item_bytes (F : (List Node × Int) → Int → Option (List B8 × (List Node × Int))) (b : List B8) (post : List Node) (dp : Int) (lb : b.length ≤ 1000000) :
    rlp_writer_itemB F ((false, b, 0) :: post, 0) dp = some (if b.length = 1 ∧ (lget b 0).toNat < 128 then b else headV b.length 0 ++ b, (post, 0)) := by
  unfold rlp_writer_itemB
  have h1 : ((((false, b, 0) :: post : List Node).length : Int) == 0) = false := len_cons_ne _ _
  have h2 : lget ((false, b, 0) :: post : List Node) 0 = (false, b, 0) := rfl
  have h3 : (((false, b, 0) :: post : List Node).take ((false, b, 0) :: post : List Node).length).drop ((1 : Int).toNat) = post := by rw [take_all]; rfl
  have h4 : decide ((post.length : Int) < 0) = false := decide_eq_false (by omega)
  have h5 : ((0 : Int) != 0) = false := rfl
  have h6 : decide ((0 : Int) < 0) = false := rfl
  have hd : rlp_head (b.length : Int) 0#8 = some (headV b.length 0) := head_val b.length 0#8 (by omega)
  have hl := headV_len b.length 0 (by omega)
  simp only [Let_eq, h5, cond_false, h1, Option.bind_some, h2, h3, Bool.not_false, cond_true, h4, h6, hd]
  rw [Chk_ok (by rw [List.length_cons]; omega), Chk_ok (by rw [List.length_cons]; omega)]
  by_cases e : b.length = 1
  · rw [show (((b.length : Int) == 1) : Bool) = true by rw [e]; rfl]
    simp only [cond_true]
    rw [Chk_ok (by omega), Option.bind_some]
    by_cases e2 : (lget b 0).toNat < 128
    · rw [if_pos ⟨e, e2⟩, decide_eq_true (by omega), cond_true, Chk_ok (by omega)]
      obtain ⟨c, rfl⟩ := List.length_eq_one_iff.1 e
      rfl
    · rw [if_neg (fun h => e2 h.2), decide_eq_false (by omega), cond_false, Chk_ok (by omega)]
  · rw [if_neg (fun h => e h.1), show (((b.length : Int) == 1) : Bool) = false from beq_eq_false_iff_ne.2 (by omega)]
    simp only [cond_false, Option.bind_some]
    rw [Chk_ok (by omega)]
/-- .. at a list. -/
theorem item_list (F : (List Node × Int) → Int → Option (List B8 × (List Node × Int))) (ns post : List Node) (dp : Nat) (hn : ns.length + post.length ≤ 1000000) :
    rlp_writer_itemB F ((true, [], (ns.length : Int)) :: (ns ++ post), 0) (dp : Int) = if dp = 64 then some ([], (ns ++ post, 4)) else
      (wlx (fun s => rlp_writer_itemB.b1 (post.length : Int) (dp : Int) F s.1 s.2) ((ns ++ post, 0), [])).bind (Sum.elim (fun s => (fun (y0 : List Node × Int) (x7 : List B8) => bif decide ((y0.1.length : Int) < (post.length : Int)) then (rlp_writer_fail (y0.1, y0.2) 2).bind fun x148 => some (x148.1, (x148.2.1, x148.2.2)) else (rlp_head (x7.length : Int) 64#8).bind fun x151 => Chk ((x151.length + x7.length) * 1 ≤ 140737488355328) <| some (x151 ++ x7, (y0.1, y0.2))) s.1 s.2) (fun r => some r)) := by
  unfold rlp_writer_itemB
  have h1 : ((((true, [], (ns.length : Int)) :: (ns ++ post) : List Node).length : Int) == 0) = false := len_cons_ne _ _
  have h2 : lget ((true, [], (ns.length : Int)) :: (ns ++ post) : List Node) 0 = (true, [], (ns.length : Int)) := rfl
  have h3 : (((true, [], (ns.length : Int)) :: (ns ++ post) : List Node).take ((true, [], (ns.length : Int)) :: (ns ++ post) : List Node).length).drop ((1 : Int).toNat) = ns ++ post := by rw [take_all]; rfl
  have h4 : decide (((ns ++ post).length : Int) < (ns.length : Int)) = false := decide_eq_false (by rw [List.length_append]; omega)
  have h5 : ((0 : Int) != 0) = false := rfl
  have h6 : decide ((ns.length : Int) < 0) = false := decide_eq_false (by omega)
  have h7 : decide ((0 : Int) < (([] : List B8).length : Int)) = false := rfl
  have h8 : wi (((ns ++ post).length : Int) - (ns.length : Int)) = (post.length : Int) := by rw [List.length_append, wi_id (by omega)]; omega
  simp only [Let_eq, h5, cond_false, h1, Option.bind_some, h2, h3, Bool.not_true, cond_true, h4, h6, h7, h8, fail_val]
  rw [Chk_ok (by rw [List.length_cons]; omega), Chk_ok (by rw [List.length_cons]; omega)]
  by_cases e : dp = 64
  · rw [if_pos e, show (((dp : Int) == 64) : Bool) = true by rw [e]; rfl]; rfl
  · rw [if_neg e, show (((dp : Int) == 64) : Bool) = false from beq_eq_false_iff_ne.2 (by omega), cond_false]
/-- One round of a list's. -/
theorem round_val (F : (List Node × Int) → Int → Option (List B8 × (List Node × Int))) (l : List Node) (e : Int) (acc : List B8) (p dp : Nat) (hd : dp ≤ 1000) :
    rlp_writer_itemB.b1 (p : Int) (dp : Int) F (l, e) acc = if p < l.length ∧ e = 0 then (F (l, e) ((dp + 1 : Nat) : Int)).bind fun x133 => Chk ((acc.length + x133.1.length) * 1 ≤ 140737488355328) <| bif decide (1048576 < ((acc ++ x133.1).length : Int)) then (rlp_writer_fail (x133.2.1, x133.2.2) 4).bind fun x139 => some (.ret (x139.1, (x139.2.1, x139.2.2))) else some (.next ((x133.2.1, x133.2.2), acc ++ x133.1)) else some (.brk ((l, e), acc)) := by
  have h1 : wi ((dp : Int) + 1) = ((dp + 1 : Nat) : Int) := by rw [wi_id (by omega)]; omega
  simp only [rlp_writer_itemB.b1, Let_eq, h1]
  by_cases h : p < l.length
  · rw [decide_eq_true (show (p : Int) < (l.length : Int) by omega)]
    by_cases h2 : e = 0
    · rw [if_pos ⟨h, h2⟩, show ((e == 0) : Bool) = true by rw [h2]; rfl]; rfl
    · rw [if_neg (fun h3 => h2 h3.2), show ((e == 0) : Bool) = false from beq_eq_false_iff_ne.2 h2]; rfl
  · rw [if_neg (fun h3 => h h3.1), decide_eq_false (show ¬ (p : Int) < (l.length : Int) by omega)]; rfl
/-- What the writer makes of an item; of a list's items. -/
def Wr (b : Bool) (n : List Node) (e : List B8) (d : Nat) : Prop :=
  if b then ∀ (post : List Node) (k dp : Nat), n.length + post.length ≤ 100000 → dp ≤ 64 → d ≤ k →
      (dp + d ≤ 64 → rlp_writer_item (k + 1) (n ++ post, 0) (dp : Int) = some (e, (post, 0))) ∧
      (64 < dp + d → ∃ o l, rlp_writer_item (k + 1) (n ++ post, 0) (dp : Int) = some (o, (l, 4)) ∧ o.length ≤ e.length)
  else ∀ (post : List Node) (k dp : Nat) (acc : List B8), n.length + post.length ≤ 100000 → dp < 64 → d ≤ k → acc.length + e.length ≤ 1000000 →
      (dp + 1 + d ≤ 64 → ∃ m, m ≤ n.length + 1 ∧ wlk (fun s => rlp_writer_itemB.b1 (post.length : Int) (dp : Int) (rlp_writer_item (k + 1)) s.1 s.2) m ((n ++ post, 0), acc) = some (.inl ((post, 0), acc ++ e))) ∧
      (64 < dp + 1 + d → ∃ m o l, m ≤ n.length + 1 ∧ wlk (fun s => rlp_writer_itemB.b1 (post.length : Int) (dp : Int) (rlp_writer_item (k + 1)) s.1 s.2) m ((n ++ post, 0), acc) = some (.inl ((l, 4), o)) ∧ o.length ≤ acc.length + e.length)
theorem item_succ (k : Nat) (a : List Node × Int) (dp : Int) : rlp_writer_item (k + 1) a dp = rlp_writer_itemB (rlp_writer_item k) a dp := rfl
theorem RIt.wr {b : Bool} {n : List Node} {e : List B8} {d : Nat} (h : RIt b n e d) : n.length ≤ 100000 → e.length ≤ 1000000 → Wr b n e d := by
  induction h with
  | one b h h2 =>
    intro _ hl post k dp hp hdp hk
    refine ⟨fun _ => ?_, fun h => absurd h (by omega)⟩
    rw [item_succ, List.singleton_append, item_bytes _ _ _ _ hl, if_pos ⟨h, h2⟩]
  | bytes b h =>
    intro _ hl post k dp hp hdp hk
    refine ⟨fun _ => ?_, fun h => absurd h (by omega)⟩
    rw [item_succ, List.singleton_append, item_bytes _ _ _ _ (by rw [List.length_append] at hl; omega), if_neg h]
  | @list ns es d h ih =>
    intro hn hl post k dp hp hdp hk
    rw [List.length_append] at hl
    rw [List.length_cons] at hn hp
    have ih := ih (by omega) (by omega)
    unfold Wr at ih
    rw [if_neg (by decide)] at ih
    obtain ⟨k, rfl⟩ : ∃ k', k = k' + 1 := ⟨k - 1, by omega⟩
    have hes : es.length ≤ 1099511627776 := by omega
    refine ⟨fun hd => ?_, fun hd => ?_⟩
    · rw [item_succ, List.cons_append, item_list _ _ _ _ (by omega), if_neg (by omega)]
      obtain ⟨m, hm, hw⟩ := (ih post k dp [] (by omega) (by omega) (by omega) (by simp; omega)).1 (by omega)
      rw [wlx_of hw (by omega), Option.bind_some, Sum.elim_inl]
      dsimp only
      rw [decide_eq_false (by omega), cond_false, List.nil_append, show rlp_head (es.length : Int) 64#8 = some (headV es.length 64) from head_val es.length 64#8 hes, Option.bind_some, Chk_ok (by omega)]
    · by_cases e64 : dp = 64
      · refine ⟨[], ns ++ post, ?_, by simp⟩
        rw [item_succ, List.cons_append, item_list _ _ _ _ (by omega), if_pos e64]
      · obtain ⟨m, o, l, hm, hw, ho⟩ := (ih post k dp [] (by omega) (by omega) (by omega) (by simp; omega)).2 (by omega)
        rw [List.length_nil, Nat.zero_add] at ho
        rw [item_succ, List.cons_append, item_list _ _ _ _ (by omega), if_neg e64, wlx_of hw (by omega), Option.bind_some, Sum.elim_inl]
        dsimp only
        by_cases e2 : l.length < post.length
        · refine ⟨[], l, ?_, by simp⟩
          rw [decide_eq_true (by omega), cond_true, fail_val]; rfl
        · have hm64 := headV_mono 64 ho
          have hh := headV_len o.length 64 (by omega)
          refine ⟨headV o.length 64 ++ o, l, ?_, by rw [List.length_append, List.length_append]; omega⟩
          rw [decide_eq_false (by omega), cond_false, show rlp_head (o.length : Int) 64#8 = some (headV o.length 64) from head_val o.length 64#8 (by omega), Option.bind_some, Chk_ok (by omega)]
  | nil =>
    intro _ _ post k dp acc hp hdp hk ha
    refine ⟨fun _ => ⟨1, by simp, ?_⟩, fun h => absurd h (by omega)⟩
    rw [List.append_nil]
    refine wlk_brk ?_
    show rlp_writer_itemB.b1 _ _ _ (post, 0) acc = _
    rw [round_val _ _ _ _ _ _ (by omega), if_neg (by omega)]
  | @cons n e d ns es d' h t ih1 ih2 =>
    intro hn hl post k dp acc hp hdp hk ha
    generalize hD : max d d' = D at *
    have hD1 : d ≤ D := by omega
    have hD2 : d' ≤ D := by omega
    have hD3 : D = d ∨ D = d' := by omega
    clear hD
    rw [List.length_append] at hn hl ha hp
    have hpos := h.pos rfl
    have ih1 := ih1 (by omega) (by omega)
    have ih2 := ih2 (by omega) (by omega)
    unfold Wr at ih1 ih2
    rw [if_pos rfl] at ih1
    rw [if_neg (by decide)] at ih2
    have i1 := ih1 (ns ++ post) k (dp + 1) (by rw [List.length_append]; omega) (by omega) (by omega)
    have hcond : post.length < (n ++ (ns ++ post)).length ∧ (0 : Int) = 0 := ⟨by rw [List.length_append, List.length_append]; omega, rfl⟩
    have step : dp + 1 + d ≤ 64 → rlp_writer_itemB.b1 (post.length : Int) (dp : Int) (rlp_writer_item (k + 1)) (n ++ (ns ++ post), 0) acc = some (.next ((ns ++ post, 0), acc ++ e)) := fun hd => by
      rw [round_val _ _ _ _ _ _ (by omega), if_pos hcond, i1.1 hd, Option.bind_some]
      dsimp only
      rw [Chk_ok (by omega), decide_eq_false (by rw [List.length_append]; omega), cond_false]
    rw [List.append_assoc, List.length_append]
    refine ⟨fun hd => ?_, fun hd => ?_⟩
    · obtain ⟨m, hm, hw⟩ := (ih2 post k dp (acc ++ e) (by omega) hdp (by omega) (by rw [List.length_append]; omega)).1 (by omega)
      refine ⟨m + 1, by omega, ?_⟩
      rw [wlk_next (b := fun s => rlp_writer_itemB.b1 (post.length : Int) (dp : Int) (rlp_writer_item (k + 1)) s.1 s.2) (step (by omega)), hw, List.append_assoc]
    · by_cases hd1 : dp + 1 + d ≤ 64
      · obtain ⟨m, o, l, hm, hw, ho⟩ := (ih2 post k dp (acc ++ e) (by omega) hdp (by omega) (by rw [List.length_append]; omega)).2 (by omega)
        refine ⟨m + 1, o, l, by omega, ?_, by rw [List.length_append] at ho ⊢; omega⟩
        rw [wlk_next (b := fun s => rlp_writer_itemB.b1 (post.length : Int) (dp : Int) (rlp_writer_item (k + 1)) s.1 s.2) (step hd1), hw]
      · obtain ⟨o, l, hw, ho⟩ := i1.2 (by omega)
        have hs : rlp_writer_itemB.b1 (post.length : Int) (dp : Int) (rlp_writer_item (k + 1)) (n ++ (ns ++ post), 0) acc = some (.next ((l, 4), acc ++ o)) := by
          rw [round_val _ _ _ _ _ _ (by omega), if_pos hcond, hw, Option.bind_some]
          dsimp only
          rw [Chk_ok (by omega), decide_eq_false (by rw [List.length_append]; omega), cond_false]
        refine ⟨2, acc ++ o, l, by omega, ?_, by rw [List.length_append, List.length_append]; omega⟩
        rw [wlk_next (b := fun s => rlp_writer_itemB.b1 (post.length : Int) (dp : Int) (rlp_writer_item (k + 1)) s.1 s.2) hs]
        refine wlk_brk ?_
        show rlp_writer_itemB.b1 _ _ _ (l, 4) (acc ++ o) = _
        rw [round_val _ _ _ _ _ _ (by omega), if_neg (fun h => absurd h.2 (by decide))]
end Go.Proofs.Ytapfkdcilfpbhaa
