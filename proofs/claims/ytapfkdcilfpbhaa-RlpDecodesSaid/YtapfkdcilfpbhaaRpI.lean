/- The reading of bytes: both; what was written is read. -/
import Derived.Test.YtapfkdcilfpbhaaRpH
namespace Go.Proofs.Ytapfkdcilfpbhaa
open Go.RowKit
set_option linter.unusedVariables false
set_option linter.unusedSimpArgs false
theorem RIt.epos {b : Bool} {n : List Node} {e : List B8} {d : Nat} (h : RIt b n e d) : e.length ≤ 1000000 → (b = true → 0 < e.length) ∧ n.length ≤ e.length := by
  induction h with
  | one b h h2 => intro _; exact ⟨fun _ => by omega, by simp; omega⟩
  | bytes b h =>
    intro hl
    rw [List.length_append] at hl
    have := headV_len b.length 0 (by omega)
    rw [List.length_append]
    exact ⟨fun _ => by omega, by simp; omega⟩
  | @list ns es d h ih =>
    intro hl
    rw [List.length_append] at hl
    have := headV_len es.length 64 (by omega)
    have := ih (by omega)
    rw [List.length_append]
    exact ⟨fun _ => by omega, by rw [List.length_cons]; omega⟩
  | nil => intro _; exact ⟨fun h => (by cases h), Nat.le_refl _⟩
  | cons h t ih1 ih2 =>
    intro hl
    rw [List.length_append] at hl
    have h1 := ih1 (by omega)
    have h2 := ih2 (by omega)
    rw [List.length_append, List.length_append]
    exact ⟨fun h => (by cases h), by omega⟩
theorem ritem_succ (k : Nat) (a : List B8 × List Node) (l dp : Int) : rlp_reader_item (k + 1) a l dp = rlp_reader_itemB (rlp_reader_item k) a l dp := rfl
theorem dread_succ (k : Nat) (b : List B8) (a s dp : Int) : smithyref07_read (k + 1) b a s dp = smithyref07_readB (smithyref07_read k) b a s dp := rfl
/-- The list's items, and its size. -/
theorem rlist_val (F : RF) (rest : List B8) (out : List Node) (v dp : Nat) (hv : v ≤ rest.length) (hl : rest.length ≤ 10000000) (ho : out.length ≤ 10000000) (hd : dp ≤ 64) :
    rlp_reader_list F (rest, out) (v : Int) (dp : Int) = if dp = 64 then some (4, (rest, out)) else
      (wlx (fun s => rlp_reader_list.b1 ((rest.length - v : Nat) : Int) (dp : Int) F s) ((rest, out ++ [(true, [], 0)]) : List B8 × List Node)).bind (Sum.elim (fun y0 => Chk ((0 : Int) ≤ (out.length : Int) ∧ (out.length : Int) < (y0.2.length : Int)) <| some (0, (y0.1, y0.2.set out.length ((lget y0.2 out.length).1, (lget y0.2 out.length).2.1, wi (wi ((y0.2.length : Int) - (out.length : Int)) - 1))))) (fun r => some r)) := by
  unfold rlp_reader_list
  have h1 : wi ((rest.length : Int) - (v : Int)) = ((rest.length - v : Nat) : Int) := by rw [wi_id (by omega)]; omega
  simp only [Let_eq, h1, Int.toNat_natCast]
  by_cases e : dp = 64
  · rw [if_pos e, show (((dp : Int) == 64) : Bool) = true by rw [e]; rfl]; rfl
  · rw [if_neg e, show (((dp : Int) == 64) : Bool) = false from beq_eq_false_iff_ne.2 (by omega), cond_false, Chk_ok (by rw [List.length_singleton]; omega)]
theorem rround (F : RF) (y : List B8) (out : List Node) (en dp : Nat) (hd : dp ≤ 1000) (hl : y.length ≤ 10000000) (he : en ≤ 10000000) :
    rlp_reader_list.b1 (en : Int) (dp : Int) F (y, out) = if en < y.length then (F (y, out) ((y.length - en : Nat) : Int) ((dp + 1 : Nat) : Int)).bind fun x51 => bif (x51.1 != 0) then some (.ret (x51.1, (x51.2.1, x51.2.2))) else some (.next (x51.2.1, x51.2.2)) else some (.brk (y, out)) := by
  have h1 : wi ((dp : Int) + 1) = ((dp + 1 : Nat) : Int) := by rw [wi_id (by omega)]; omega
  simp only [rlp_reader_list.b1, Let_eq, h1]
  by_cases e : en < y.length
  · rw [if_pos e, decide_eq_true (by omega), cond_true, show wi ((y.length : Int) - (en : Int)) = ((y.length - en : Nat) : Int) by rw [wi_id (by omega)]; omega]
  · rw [if_neg e, decide_eq_false (by omega), cond_false]
theorem set_list (out ns : List Node) (x y : Node) : (out ++ [x] ++ ns).set out.length y = out ++ y :: ns := by
  rw [List.append_assoc, List.set_append_right _ _ (Nat.le_refl _), Nat.sub_self]; rfl
theorem lget_list (out ns : List Node) (x : Node) : lget (out ++ [x] ++ ns) out.length = x := by
  rw [List.append_assoc]
  unfold lget; rw [List.getD_eq_getElem?_getD, List.getElem?_append_right (Nat.le_refl _), Nat.sub_self]; rfl
/-- What the reader makes of what was written. -/
def RdS (b : Bool) (n : List Node) (e : List B8) (d : Nat) : Prop :=
  if b then ∀ (rest : List B8) (out : List Node) (left dp k : Nat), e.length ≤ left → left ≤ 10000000 → dp + d ≤ 64 → d ≤ k → e.length + rest.length ≤ 5000000 → out.length + e.length ≤ 5000000 →
      rlp_reader_item (k + 1) (e ++ rest, out) (left : Int) (dp : Int) = some (0, (rest, out ++ n))
  else ∀ (rest : List B8) (out : List Node) (dp k : Nat), dp + 1 + d ≤ 64 → d ≤ k → e.length + rest.length ≤ 5000000 → out.length + e.length ≤ 5000000 →
      ∃ m, m ≤ e.length + 1 ∧ wlk (fun s => rlp_reader_list.b1 (rest.length : Int) (dp : Int) (rlp_reader_item (k + 1)) s) m ((e ++ rest, out) : List B8 × List Node) = some (.inl (rest, out ++ n))
theorem drop_app (a b : List B8) : (a ++ b).drop a.length = b := by simp
theorem take_app (a b : List B8) : (a ++ b).take a.length = a := by simp
theorem lget_app0 (a b : List B8) (h : 0 < a.length) : lget (a ++ b) 0 = lget a 0 := by
  unfold lget; rw [List.getD_eq_getElem?_getD, List.getD_eq_getElem?_getD, List.getElem?_append_left h]
theorem RIt.rd {b : Bool} {n : List Node} {e : List B8} {d : Nat} (h : RIt b n e d) : e.length ≤ 1000000 → RdS b n e d := by
  induction h with
  | one b h h2 =>
    intro hl rest out left dp k hle hlt hdp hk hr ho
    have h0 : 0 < (b ++ rest).length := by rw [List.length_append]; omega
    have hg := lget_app0 b rest (by omega)
    rw [ritem_succ, ritem_byte _ _ _ _ _ h0 (by rw [hg]; exact h2) (by omega), hg]
    obtain ⟨c, rfl⟩ := List.length_eq_one_iff.1 h
    rfl
  | bytes b h =>
    intro hl rest out left dp k hle hlt hdp hk hr ho
    rw [List.length_append] at hl hr ho hle
    rw [List.append_assoc]
    have hb := hd_back b.length false (b ++ rest) (by omega)
    rw [show (if false = true then 64 else 0) = 0 from rfl] at hb
    obtain ⟨h0, h1, h2, h3⟩ := hb
    have hlen : (headV b.length 0 ++ (b ++ rest)).length = (headV b.length 0).length + (b.length + rest.length) := by rw [List.length_append, List.length_append]
    have hc : ¬ 192 ≤ (lget (headV b.length 0 ++ (b ++ rest)) 0).toNat := of_decide_eq_false h2
    have := (ritem_head (rlp_reader_item k) (headV b.length 0 ++ (b ++ rest)) out left dp h0 h1 (by omega) (by omega) hlt).2 (by rw [h3])
    rw [h3] at this
    dsimp only at this
    rw [drop_app, take_app, drop_app] at this
    have := (this.2.2 (by rw [List.length_append]; omega) (by omega)).1 (by omega)
    rw [ritem_succ, this.2 (fun h4 => h ⟨h4.1, by rw [← lget_app0 b rest (by omega)]; exact h4.2⟩)]
  | @list ns es d h ih =>
    intro hl rest out left dp k hle hlt hdp hk hr ho
    have hep := h.epos (by rw [List.length_append] at hl; omega)
    rw [List.length_append] at hl hr ho hle
    have ih := ih (by omega)
    unfold RdS at ih
    rw [if_neg (by decide)] at ih
    obtain ⟨k, rfl⟩ : ∃ k', k = k' + 1 := ⟨k - 1, by omega⟩
    rw [List.append_assoc]
    have hb := hd_back es.length true (es ++ rest) (by omega)
    rw [show (if true = true then 64 else 0) = 64 from rfl] at hb
    obtain ⟨h0, h1, h2, h3⟩ := hb
    have hh := headV_len es.length 64 (by omega)
    have hlen : (headV es.length 64 ++ (es ++ rest)).length = (headV es.length 64).length + (es.length + rest.length) := by rw [List.length_append, List.length_append]
    have hc : 192 ≤ (lget (headV es.length 64 ++ (es ++ rest)) 0).toNat := of_decide_eq_true h2
    have := (ritem_head (rlp_reader_item (k + 1)) (headV es.length 64 ++ (es ++ rest)) out left dp h0 h1 (by omega) (by omega) hlt).2 (by rw [h3])
    rw [h3] at this
    dsimp only at this
    rw [drop_app] at this
    have := (this.2.2 (by rw [List.length_append]; omega) (by omega)).2 hc
    obtain ⟨m, hm, hw⟩ := ih rest (out ++ [(true, [], 0)]) dp k (by omega) (by omega) (by omega) (by rw [List.length_append, List.length_singleton]; omega)
    rw [ritem_succ, this, rlist_val _ _ _ _ _ (by rw [List.length_append]; omega) (by rw [List.length_append]; omega) (by omega) (by omega), if_neg (by omega), show (es ++ rest).length - es.length = rest.length by rw [List.length_append]; omega, wlx_of hw (by omega), Option.bind_some, Sum.elim_inl]
    dsimp only
    have hl2 : (out ++ [(true, [], 0)] ++ ns).length = out.length + 1 + ns.length := by simp only [List.length_append, List.length_singleton]
    rw [Chk_ok (by rw [hl2]; omega), Option.bind_some, lget_list, hl2, wi_id (n := ((out.length + 1 + ns.length : Nat) : Int) - (out.length : Int)) (by omega), wi_id (by omega), set_list, show ((out.length + 1 + ns.length : Nat) : Int) - (out.length : Int) - 1 = (ns.length : Int) by omega]
  | nil =>
    intro _ rest out dp k hdp hk hr ho
    rw [List.length_nil, Nat.zero_add] at hr
    refine ⟨1, by simp, ?_⟩
    rw [List.nil_append, List.append_nil]
    refine wlk_brk ?_
    rw [rround _ _ _ _ _ (by omega) (by omega) (by omega), if_neg (by omega)]
  | @cons n e d ns es d' h t ih1 ih2 =>
    intro hl rest out dp k hdp hk hr ho
    generalize hD : max d d' = D at *
    have hD1 : d ≤ D := by omega
    have hD2 : d' ≤ D := by omega
    clear hD
    rw [List.length_append] at hl hr ho
    have hp := h.epos (by omega)
    have hpos := hp.1 rfl
    have ih1 := ih1 (by omega)
    have ih2 := ih2 (by omega)
    unfold RdS at ih1 ih2
    rw [if_pos rfl] at ih1
    rw [if_neg (by decide)] at ih2
    have hlen : (e ++ (es ++ rest)).length = e.length + (es.length + rest.length) := by rw [List.length_append, List.length_append]
    have i1 := ih1 (es ++ rest) out ((e ++ (es ++ rest)).length - rest.length) (dp + 1) k (by omega) (by omega) (by omega) (by omega) (by rw [List.length_append]; omega) (by omega)
    obtain ⟨m, hm, hw⟩ := ih2 rest (out ++ n) dp k (by omega) (by omega) (by omega) (by rw [List.length_append]; omega)
    rw [List.append_assoc]
    have hs : rlp_reader_list.b1 (rest.length : Int) (dp : Int) (rlp_reader_item (k + 1)) (e ++ (es ++ rest), out) = some (.next (es ++ rest, out ++ n)) := by
      rw [rround _ _ _ _ _ (by omega) (by omega) (by omega), if_pos (by omega), i1]; rfl
    refine ⟨m + 1, by rw [List.length_append]; omega, ?_⟩
    rw [wlk_next hs, hw, List.append_assoc]
theorem Decode_back {n : List Node} {e : List B8} {d : Nat} (h : RIt true n e d) (he : e.length ≤ 1000000) (hd : d ≤ 64) : rlp_Decode e = some (n, 0) := by
  have hr := h.rd he
  unfold RdS at hr
  rw [if_pos rfl] at hr
  have hr := hr [] [] e.length 0 18446744073709551615 (Nat.le_refl _) (by omega) (by omega) (by have := h.depth; have := (h.epos he).2; omega) (by simp; omega) (by simp; omega)
  rw [List.append_nil, List.nil_append] at hr
  have hr : rlp_reader_item 18446744073709551616 (e, []) (e.length : Int) 0 = some (0, ([], n)) := hr
  unfold rlp_Decode
  simp only [Let_eq]
  rw [decide_eq_false (by omega), cond_false, hr, Option.bind_some]
  rfl
end Go.Proofs.Ytapfkdcilfpbhaa
