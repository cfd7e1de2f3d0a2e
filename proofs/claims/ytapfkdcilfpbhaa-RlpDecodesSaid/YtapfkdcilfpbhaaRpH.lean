/- The reading of bytes. -/
import Derived.Test.YtapfkdcilfpbhaaRpG
namespace Go.Proofs.Ytapfkdcilfpbhaa
open Go.RowKit
set_option linter.unusedVariables false
set_option linter.unusedSimpArgs false
abbrev RF := (List B8 × List Node) → Int → Int → Option (Int × (List B8 × List Node))
theorem ritem_none (F : RF) (out : List Node) (left dp : Int) : rlp_reader_itemB F ([], out) left dp = some (3, ([], out)) := by
  unfold rlp_reader_itemB
  simp only [Let_eq]; rfl
theorem ritem_byte (F : RF) (bs : List B8) (out : List Node) (left dp : Int) (h0 : 0 < bs.length) (hc : (lget bs 0).toNat < 128) (ho : out.length ≤ 10000000) :
    rlp_reader_itemB F (bs, out) left dp = some (0, (bs.drop 1, out ++ [(false, [lget bs 0], 0)])) := by
  unfold rlp_reader_itemB
  have ht : (bs.take bs.length).drop ((1 : Int).toNat) = bs.drop 1 := by rw [take_all]; rfl
  simp only [Let_eq, ht]
  rw [show (((bs.length : Int) == 0) : Bool) = false from beq_eq_false_iff_ne.2 (by omega), cond_false, Chk_ok (by omega), decide_eq_true (by omega), cond_true, Chk_ok (by omega), Chk_ok (by rw [List.length_singleton]; omega), Chk_ok (by omega)]
/-- An item with a head. -/
theorem ritem_head (F : RF) (bs : List B8) (out : List Node) (left dp : Nat) (h0 : 0 < bs.length) (hc : 128 ≤ (lget bs 0).toNat) (hl : bs.length ≤ 10000000) (ho : out.length ≤ 10000000) (hle : left ≤ 10000000) :
    ((hdE bs).1 ≠ 0 → ∃ X, rlp_reader_itemB F (bs, out) (left : Int) (dp : Int) = some ((hdE bs).1, X)) ∧
    ((hdE bs).1 = 0 → 
      ((bs.drop (hdE bs).2.2).length < (hdE bs).2.1 → ∃ X, rlp_reader_itemB F (bs, out) (left : Int) (dp : Int) = some (3, X)) ∧
      ((hdE bs).2.1 ≤ (bs.drop (hdE bs).2.2).length → left < (hdE bs).2.2 + (hdE bs).2.1 → ∃ X, rlp_reader_itemB F (bs, out) (left : Int) (dp : Int) = some (2, X)) ∧
      ((hdE bs).2.1 ≤ (bs.drop (hdE bs).2.2).length → (hdE bs).2.2 + (hdE bs).2.1 ≤ left → 
        ((lget bs 0).toNat < 192 → ((hdE bs).2.1 = 1 ∧ (lget (bs.drop (hdE bs).2.2) 0).toNat < 128 → ∃ X, rlp_reader_itemB F (bs, out) (left : Int) (dp : Int) = some (2, X)) ∧
           (¬ ((hdE bs).2.1 = 1 ∧ (lget (bs.drop (hdE bs).2.2) 0).toNat < 128) → rlp_reader_itemB F (bs, out) (left : Int) (dp : Int) = some (0, ((bs.drop (hdE bs).2.2).drop (hdE bs).2.1, out ++ [(false, (bs.drop (hdE bs).2.2).take (hdE bs).2.1, 0)])))) ∧
        (192 ≤ (lget bs 0).toNat → rlp_reader_itemB F (bs, out) (left : Int) (dp : Int) = (rlp_reader_list F (bs.drop (hdE bs).2.2, out) (((hdE bs).2.1 : Nat) : Int) (dp : Int)).bind fun x127 => some (x127.1, (x127.2.1, x127.2.2))))) := by
  obtain ⟨X, hs, hX⟩ := size_val bs out h0 hc hl
  have hun : rlp_reader_itemB F (bs, out) (left : Int) (dp : Int) = (bif ((hdE bs).1 != 0) then some ((hdE bs).1, (X.1, X.2)) else bif decide ((X.1.length : Int) < ((if (hdE bs).1 = 0 then min (hdE bs).2.1 1099511627776 else 0 : Nat) : Int)) then some (3, (X.1, X.2)) else bif decide ((left : Int) < wi (wi ((bs.length : Int) - (X.1.length : Int)) + ((if (hdE bs).1 = 0 then min (hdE bs).2.1 1099511627776 else 0 : Nat) : Int))) then some (2, (X.1, X.2)) else bif !(decide (192 ≤ (lget bs 0).toNat)) then (bif (((if (hdE bs).1 = 0 then min (hdE bs).2.1 1099511627776 else 0 : Nat) : Int) == 1) then Chk ((0 : Int) ≤ 0 ∧ 0 < (X.1.length : Int)) <| some (decide (((lget X.1 0).toNat : Int) < 128)) else some false).bind (fun x96 => bif x96 then some (2, (X.1, X.2)) else Chk ((0 : Int) ≤ 0 ∧ 0 ≤ ((if (hdE bs).1 = 0 then min (hdE bs).2.1 1099511627776 else 0 : Nat) : Int) ∧ ((if (hdE bs).1 = 0 then min (hdE bs).2.1 1099511627776 else 0 : Nat) : Int) ≤ (X.1.length : Int)) <| Chk ((([] : List B8).length + ((X.1.take ((if (hdE bs).1 = 0 then min (hdE bs).2.1 1099511627776 else 0 : Nat) : Int).toNat).drop 0).length) * 1 ≤ 140737488355328) <| Chk ((X.2.length + [((false, [] ++ ((X.1.take ((if (hdE bs).1 = 0 then min (hdE bs).2.1 1099511627776 else 0 : Nat) : Int).toNat).drop 0), 0) : Node)].length) * 40 ≤ 140737488355328) <| Chk ((0 : Int) ≤ ((if (hdE bs).1 = 0 then min (hdE bs).2.1 1099511627776 else 0 : Nat) : Int) ∧ ((if (hdE bs).1 = 0 then min (hdE bs).2.1 1099511627776 else 0 : Nat) : Int) ≤ (X.1.length : Int)) <| some (0, ((X.1.take X.1.length).drop ((if (hdE bs).1 = 0 then min (hdE bs).2.1 1099511627776 else 0 : Nat) : Int).toNat, X.2 ++ [(false, [] ++ ((X.1.take ((if (hdE bs).1 = 0 then min (hdE bs).2.1 1099511627776 else 0 : Nat) : Int).toNat).drop 0), 0)]))) else (rlp_reader_list F (X.1, X.2) ((if (hdE bs).1 = 0 then min (hdE bs).2.1 1099511627776 else 0 : Nat) : Int) (dp : Int)).bind fun x127 => some (x127.1, (x127.2.1, x127.2.2))) := by
    unfold rlp_reader_itemB
    simp only [Let_eq, hs, Option.bind_some]
    rw [show (((bs.length : Int) == 0) : Bool) = false from beq_eq_false_iff_ne.2 (by omega), cond_false, Chk_ok (by omega), decide_eq_false (show ¬ ((lget bs 0).toNat : Int) < 128 by omega), cond_false]
  rw [hun]
  constructor
  · intro he
    rw [show (((hdE bs).1 != 0) : Bool) = true from bne_iff_ne.2 he, cond_true]
    exact ⟨_, rfl⟩
  · intro he
    have hh : (hdE bs).2.2 ≤ bs.length := (hd_sound bs h0 hc he).2.2
    have hX := hX he
    have hX1 : X.1 = bs.drop (hdE bs).2.2 := by rw [hX]
    have hX2 : X.2 = out := by rw [hX]
    have hlen : (bs.drop (hdE bs).2.2).length = bs.length - (hdE bs).2.2 := List.length_drop
    rw [if_pos he, he, hX1, hX2, show (((0 : Int) != 0) : Bool) = false from rfl, cond_false]
    clear hun hs hX
    generalize (hdE bs).2.1 = v at *
    generalize (hdE bs).2.2 = hd at *
    have hwi : wi ((bs.length : Int) - ((bs.drop hd).length : Int)) = (hd : Int) := by rw [hlen, wi_id (by omega)]; omega
    rw [hwi]
    refine ⟨fun h1 => ?_, fun h1 h2 => ?_, fun h1 h2 => ?_⟩
    · rw [decide_eq_true (by omega), cond_true]; exact ⟨_, rfl⟩
    · rw [decide_eq_false (by omega), cond_false, wi_id (by omega), decide_eq_true (by omega), cond_true]; exact ⟨_, rfl⟩
    · have hm : min v 1099511627776 = v := by omega
      rw [hm, decide_eq_false (by omega), cond_false, wi_id (by omega), decide_eq_false (by omega), cond_false, Int.toNat_natCast, List.drop_zero, List.nil_append, take_all]
      refine ⟨fun h3 => ?_, fun h3 => by rw [decide_eq_true h3]; rfl⟩
      rw [decide_eq_false (by omega), Bool.not_false, cond_true]
      by_cases e1 : v = 1
      · rw [show (((v : Int) == 1) : Bool) = true by rw [e1]; rfl, cond_true, Chk_ok (by omega), Option.bind_some]
        refine ⟨fun h4 => ?_, fun h4 => ?_⟩
        · rw [decide_eq_true (by have := h4.2; omega), cond_true]; exact ⟨_, rfl⟩
        · rw [decide_eq_false (fun h5 => h4 ⟨e1, by omega⟩), cond_false, Chk_ok (by omega), Chk_ok (by rw [List.length_nil, List.length_take]; omega), Chk_ok (by rw [List.length_singleton]; omega), Chk_ok (by omega)]
      · rw [show (((v : Int) == 1) : Bool) = false from beq_eq_false_iff_ne.2 (by omega), cond_false, Option.bind_some, cond_false]
        refine ⟨fun h4 => absurd h4.1 e1, fun h4 => ?_⟩
        rw [Chk_ok (by omega), Chk_ok (by rw [List.length_nil, List.length_take]; omega), Chk_ok (by rw [List.length_singleton]; omega), Chk_ok (by omega)]
/-- The document's. -/
abbrev DF := List B8 → Int → Int → Int → Option (List Node × Int × Int)
theorem dread_none (F : DF) (b : List B8) (a : Nat) (stop dp : Int) (h : b.length ≤ a) : smithyref07_readB F b (a : Int) stop dp = some ([], 0, 3) := by
  unfold smithyref07_readB
  simp only [Let_eq]
  rw [decide_eq_true (by omega)]; rfl
theorem dread_byte (F : DF) (b : List B8) (a : Nat) (stop dp : Int) (h : a < b.length) (hl : b.length ≤ 10000000) (hc : (lget (b.drop a) 0).toNat < 128) : smithyref07_readB F b (a : Int) stop dp = some ([(false, [lget (b.drop a) 0], 0)], ((a + 1 : Nat) : Int), 0) := by
  have hg0 : lget b a = lget (b.drop a) 0 := by unfold lget; rw [List.getD_eq_getElem?_getD, List.getD_eq_getElem?_getD, List.getElem?_drop]; rfl
  unfold smithyref07_readB
  simp only [Let_eq, Int.toNat_natCast, hg0]
  rw [decide_eq_false (by omega), cond_false, Chk_ok (by omega), decide_eq_true (by omega), cond_true, Chk_ok (by omega), wi_id (by omega)]
  rfl
theorem dread_head (F : DF) (b : List B8) (a stop dp : Nat) (h0 : a < b.length) (hc : 128 ≤ (lget (b.drop a) 0).toNat) (hl : b.length ≤ 10000000) (hst : stop ≤ 10000000) :
    ((hdE (b.drop a)).1 ≠ 0 → smithyref07_readB F b (a : Int) (stop : Int) (dp : Int) = some ([], 0, (hdE (b.drop a)).1)) ∧
    ((hdE (b.drop a)).1 = 0 → 
      (((b.drop a).drop (hdE (b.drop a)).2.2).length < (hdE (b.drop a)).2.1 → smithyref07_readB F b (a : Int) (stop : Int) (dp : Int) = some ([], 0, 3)) ∧
      ((hdE (b.drop a)).2.1 ≤ ((b.drop a).drop (hdE (b.drop a)).2.2).length → stop < a + (hdE (b.drop a)).2.2 + (hdE (b.drop a)).2.1 → smithyref07_readB F b (a : Int) (stop : Int) (dp : Int) = some ([], 0, 2)) ∧
      ((hdE (b.drop a)).2.1 ≤ ((b.drop a).drop (hdE (b.drop a)).2.2).length → a + (hdE (b.drop a)).2.2 + (hdE (b.drop a)).2.1 ≤ stop → 
        ((lget (b.drop a) 0).toNat < 192 → ((hdE (b.drop a)).2.1 = 1 ∧ (lget ((b.drop a).drop (hdE (b.drop a)).2.2) 0).toNat < 128 → smithyref07_readB F b (a : Int) (stop : Int) (dp : Int) = some ([], 0, 2)) ∧
           (¬ ((hdE (b.drop a)).2.1 = 1 ∧ (lget ((b.drop a).drop (hdE (b.drop a)).2.2) 0).toNat < 128) → smithyref07_readB F b (a : Int) (stop : Int) (dp : Int) = some ([(false, ((b.drop a).drop (hdE (b.drop a)).2.2).take (hdE (b.drop a)).2.1, 0)], ((a + (hdE (b.drop a)).2.2 + (hdE (b.drop a)).2.1 : Nat) : Int), 0))) ∧
        (192 ≤ (lget (b.drop a) 0).toNat → 64 ≤ dp → smithyref07_readB F b (a : Int) (stop : Int) (dp : Int) = some ([], 0, 4)) ∧
        (192 ≤ (lget (b.drop a) 0).toNat → dp < 64 → ∃ x45 : Bool × Int × Int × Int, x45.2.1 = ((a + (hdE (b.drop a)).2.2 : Nat) : Int) ∧ x45.2.2.1 = (((hdE (b.drop a)).2.1 : Nat) : Int) ∧ smithyref07_readB F b (a : Int) (stop : Int) (dp : Int) = (wlx (fun s => smithyref07_readB.b1 x45 (dp : Int) F b [] s.1 s.2) (([(true, [], 0)], ((a + (hdE (b.drop a)).2.2 : Nat) : Int)) : List Node × Int)).bind (Sum.elim (fun s => Chk ((0 : Int) ≤ 0 ∧ 0 < (s.1.length : Int)) <| some (s.1.set 0 ((lget s.1 0).1, (lget s.1 0).2.1, wi ((s.1.length : Int) - 1)), ((a + (hdE (b.drop a)).2.2 + (hdE (b.drop a)).2.1 : Nat) : Int), 0)) (fun r => some r))))) := by
  have hg : ∀ j, lget (b.drop a) j = lget b (a + j) := fun j => by
    unfold lget; rw [List.getD_eq_getElem?_getD, List.getD_eq_getElem?_getD, List.getElem?_drop]
  have hg0 : lget b a = lget (b.drop a) 0 := (hg 0).symm
  have hh := head_ref b a h0 hc hl
  have hlen0 : (b.drop a).length = b.length - a := List.length_drop
  constructor
  · intro he
    unfold smithyref07_readB
    simp only [Let_eq, Int.toNat_natCast, hg0]
    rw [decide_eq_false (by omega), cond_false, Chk_ok (by omega), decide_eq_false (by omega), cond_false, hh, if_neg he, Option.bind_some]
    dsimp only
    rw [show (((hdE (b.drop a)).1 != 0) : Bool) = true from bne_iff_ne.2 he]; rfl
  · intro he
    have hsd := hd_sound (b.drop a) (by omega) hc he
    have hlen : ((b.drop a).drop (hdE (b.drop a)).2.2).length = b.length - a - (hdE (b.drop a)).2.2 := by rw [List.length_drop, hlen0]
    rw [if_pos he] at hh
    generalize (hdE (b.drop a)).2.1 = v at *
    generalize (hdE (b.drop a)).2.2 = hd at *
    obtain ⟨n, hn⟩ : ∃ n, n = (if 1000000000 < v then 1000000000 else v) := ⟨_, rfl⟩
    rw [← hn] at hh
    have hun : smithyref07_readB F b (a : Int) (stop : Int) (dp : Int) = (bif decide ((b.length : Int) - ((a + hd : Nat) : Int) < (n : Int)) then some ([], 0, 3) else bif decide ((stop : Int) < ((a + hd + n : Nat) : Int)) then some ([], 0, 2) else bif !(decide (192 ≤ (lget (b.drop a) 0).toNat)) then (bif ((n : Int) == 1) then Chk ((0 : Int) ≤ ((a + hd : Nat) : Int) ∧ ((a + hd : Nat) : Int) < (b.length : Int)) <| some (decide (((lget b (a + hd)).toNat : Int) < 128)) else some false).bind (fun x77 => bif x77 then some ([], 0, 2) else Chk ((0 : Int) ≤ ((a + hd : Nat) : Int) ∧ ((a + hd : Nat) : Int) ≤ ((a + hd + n : Nat) : Int) ∧ ((a + hd + n : Nat) : Int) ≤ (b.length : Int)) <| Chk ((([] : List B8).length + ((b.take (a + hd + n)).drop (a + hd)).length) * 1 ≤ 140737488355328) <| some ([(false, [] ++ ((b.take (a + hd + n)).drop (a + hd)), 0)], ((a + hd + n : Nat) : Int), 0)) else bif decide (64 ≤ (dp : Int)) then some ([], 0, 4) else (wlx (fun s => smithyref07_readB.b1 (decide (192 ≤ (lget (b.drop a) 0).toNat), ((a + hd : Nat) : Int), (n : Int), 0) (dp : Int) F b [] s.1 s.2) (([(true, [], 0)], ((a + hd : Nat) : Int)) : List Node × Int)).bind (Sum.elim (fun s => Chk ((0 : Int) ≤ 0 ∧ 0 < (s.1.length : Int)) <| some (s.1.set 0 ((lget s.1 0).1, (lget s.1 0).2.1, wi ((s.1.length : Int) - 1)), ((a + hd + n : Nat) : Int), 0)) (fun r => some r))) := by
      have hn9 : n ≤ 1000000000 := by rw [hn]; split <;> omega
      have w1 : wi ((b.length : Int) - ((a + hd : Nat) : Int)) = (b.length : Int) - ((a + hd : Nat) : Int) := wi_id (by omega)
      have w2 : wi (((a + hd : Nat) : Int) + (n : Int)) = ((a + hd + n : Nat) : Int) := by rw [wi_id (by omega)]; omega
      unfold smithyref07_readB
      simp only [Let_eq, Int.toNat_natCast, hg0]
      rw [decide_eq_false (by omega), cond_false, Chk_ok (by omega), decide_eq_false (by omega), cond_false, hh, Option.bind_some]
      dsimp only
      rw [show ((0 : Int) != 0) = false from rfl, cond_false, w1, w2]
      simp only [Int.toNat_natCast]
    rw [hun]
    refine ⟨fun h1 => ?_, fun h1 h2 => ?_, fun h1 h2 => ?_⟩
    · rw [decide_eq_true (by rw [hn]; split <;> omega), cond_true]
    · have hnv : n = v := by rw [hn, if_neg (by omega)]
      rw [hnv, decide_eq_false (by omega), cond_false, decide_eq_true (by omega), cond_true]
    · have hnv : n = v := by rw [hn, if_neg (by omega)]
      rw [hnv, decide_eq_false (by omega), cond_false, decide_eq_false (by omega), cond_false]
      have hcut : (b.take (a + hd + v)).drop (a + hd) = ((b.drop a).drop hd).take v := by
        rw [List.drop_drop, List.drop_take, show a + hd + v - (a + hd) = v by omega]
      have hgx : lget b (a + hd) = lget ((b.drop a).drop hd) 0 := by
        rw [List.drop_drop]; unfold lget; rw [List.getD_eq_getElem?_getD, List.getD_eq_getElem?_getD, List.getElem?_drop]; rfl
      refine ⟨fun h3 => ?_, fun h3 h4 => ?_, fun h3 h4 => ?_⟩
      · rw [decide_eq_false (show ¬ 192 ≤ (lget (b.drop a) 0).toNat by omega), Bool.not_false, cond_true, hcut, hgx]
        by_cases e1 : v = 1
        · rw [show (((v : Int) == 1) : Bool) = true by rw [e1]; rfl, cond_true, Chk_ok (by omega), Option.bind_some]
          refine ⟨fun h4 => ?_, fun h4 => ?_⟩
          · rw [decide_eq_true (by have := h4.2; omega), cond_true]
          · rw [decide_eq_false (fun h5 => h4 ⟨e1, by omega⟩), cond_false, Chk_ok (by omega), Chk_ok (by rw [List.length_nil, List.length_take]; omega), List.nil_append]
        · rw [show (((v : Int) == 1) : Bool) = false from beq_eq_false_iff_ne.2 (by omega), cond_false, Option.bind_some, cond_false]
          refine ⟨fun h4 => absurd h4.1 e1, fun h4 => ?_⟩
          rw [Chk_ok (by omega), Chk_ok (by rw [List.length_nil, List.length_take]; omega), List.nil_append]
      · rw [decide_eq_true h3, Bool.not_true, cond_false, decide_eq_true (by omega), cond_true]
      · rw [decide_eq_true h3, Bool.not_true, cond_false, decide_eq_false (by omega), cond_false]
        exact ⟨_, rfl, rfl, rfl⟩
end Go.Proofs.Ytapfkdcilfpbhaa
