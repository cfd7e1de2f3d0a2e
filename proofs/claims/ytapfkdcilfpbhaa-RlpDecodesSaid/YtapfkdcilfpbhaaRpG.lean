/- What stands ahead of an item, read. -/
import Derived.Test.YtapfkdcilfpbhaaRpC
import Derived.Test.YtapfkdcilfpbhaaRlC
import Derived.Test.YtapfkdcilfpbhaaRlG
namespace Go.Proofs.Ytapfkdcilfpbhaa
open Go.RowKit
set_option linter.unusedVariables false
set_option linter.unusedSimpArgs false
def cOf (bs : List B8) : Nat := if 192 ≤ (lget bs 0).toNat then (lget bs 0).toNat - 64 else (lget bs 0).toNat
/-- The error's number; how many bytes; how many stand ahead. -/
def hdE (bs : List B8) : Int × Nat × Nat :=
  if cOf bs ≤ 183 then (0, cOf bs - 128, 1)
  else if bs.length < 1 + (cOf bs - 183) then (3, 0, 0)
  else if (lget bs 1).toNat = 0 then (2, 0, 0)
  else if bv ((bs.drop 1).take (cOf bs - 183)) ≤ 55 then (2, 0, 0)
  else (0, bv ((bs.drop 1).take (cOf bs - 183)), 1 + (cOf bs - 183))
theorem cOf_le (bs : List B8) : cOf bs ≤ 191 := by
  have := (lget bs 0).isLt
  unfold cOf; split <;> omega
theorem size_val (bs : List B8) (out : List Node) (h0 : 0 < bs.length) (hc : 128 ≤ (lget bs 0).toNat) (hl : bs.length ≤ 10000000) :
    ∃ X, rlp_reader_size (bs, out) = some (decide (192 ≤ (lget bs 0).toNat), ((if (hdE bs).1 = 0 then min (hdE bs).2.1 1099511627776 else 0 : Nat) : Int), (hdE bs).1, X) ∧ ((hdE bs).1 = 0 → X = (bs.drop (hdE bs).2.2, out)) := by
  unfold rlp_reader_size
  have hcl := cOf_le bs
  have ht : (bs.take bs.length).drop ((1 : Int).toNat) = bs.drop 1 := by rw [take_all]; rfl
  simp only [Let_eq, ht]
  rw [Chk_ok (by omega)]
  have hcv : ∃ c : B8, (bif decide (((lget bs 0).toNat : Int) ≥ 192) then some (lget bs 0 - 64#8) else some (lget bs 0)) = some c ∧ c.toNat = cOf bs := by
    unfold cOf
    by_cases e : 192 ≤ (lget bs 0).toNat
    · rw [decide_eq_true (by omega), cond_true, if_pos e]
      have := (lget bs 0).isLt
      exact ⟨_, rfl, by rw [BitVec.toNat_sub, show (64#8 : B8).toNat = 64 from rfl]; omega⟩
    · rw [decide_eq_false (by omega), cond_false, if_neg e]
      exact ⟨_, rfl, rfl⟩
  obtain ⟨c, hcc, hcn⟩ := hcv
  rw [hcc, Option.bind_some, Chk_ok (by omega), hcn]
  have hlist : decide (((lget bs 0).toNat : Int) ≥ 192) = decide (192 ≤ (lget bs 0).toNat) := decide_eq_decide.2 (by omega)
  rw [hlist]
  unfold hdE
  by_cases e1 : cOf bs ≤ 183
  · have h128 : 128 ≤ cOf bs := by unfold cOf; split <;> omega
    rw [decide_eq_true (by omega), cond_true, if_pos e1, wi_id (by omega)]
    refine ⟨(bs.drop 1, out), ?_, fun _ => rfl⟩
    dsimp only
    rw [if_pos rfl, show ((cOf bs : Nat) : Int) - 128 = ((min (cOf bs - 128) 1099511627776 : Nat) : Int) by omega]
  · rw [decide_eq_false (by omega), cond_false, if_neg e1, wi_id (by omega)]
    obtain ⟨k, hk⟩ : ∃ k, cOf bs - 183 = k := ⟨_, rfl⟩
    have hki : ((cOf bs : Nat) : Int) - 183 = (k : Int) := by omega
    rw [hki, hk, List.length_drop]
    by_cases e2 : bs.length < 1 + k
    · rw [decide_eq_true (by omega), cond_true, if_pos e2]
      exact ⟨_, rfl, fun h => absurd h (by decide)⟩
    · rw [decide_eq_false (by omega), cond_false, if_neg e2, Chk_ok (by omega), Int.toNat_natCast, List.drop_zero]
      have htl : ((bs.drop 1).take k).length = k := by rw [List.length_take, List.length_drop]; omega
      have hg1 : lget bs 1 = lget ((bs.drop 1).take k) 0 := by
        unfold lget; rw [List.getD_eq_getElem?_getD, List.getD_eq_getElem?_getD, List.getElem?_take, if_pos (by omega), List.getElem?_drop]
      rw [hg1, htl]
      generalize hT : (bs.drop 1).take k = t at *
      have step : ∀ i x, i < k → rlp_reader_size.b1 (k : Int) t (decide (192 ≤ (lget bs 0).toNat)) (bs.drop 1) (bs, out) x (i : Int) = if i = 0 ∧ (lget t 0).toNat = 0 then some (.ret (decide (192 ≤ (lget bs 0).toNat), 0, 2, (bs.drop 1, out))) else some (.next (if 1099511627776 < wi (wi (256 * x) + ((lget t i).toNat : Int)) then 1099511627776 else wi (wi (256 * x) + ((lget t i).toNat : Int)), ((i + 1 : Nat) : Int))) := fun i x hi => by
        have h1 : decide ((i : Int) < (k : Int)) = true := decide_eq_true (by omega)
        have h2 : wi ((i : Int) + 1) = ((i + 1 : Nat) : Int) := by rw [wi_id (by omega)]; omega
        simp only [rlp_reader_size.b1, Let_eq, h1, cond_true, Int.toNat_natCast, h2]
        rw [Chk_ok (by omega)]
        generalize (if 1099511627776 < wi (wi (256 * x) + ((lget t i).toNat : Int)) then (1099511627776 : Int) else wi (wi (256 * x) + ((lget t i).toNat : Int))) = z
        by_cases e : i = 0
        · subst e
          by_cases e3 : (lget t 0).toNat = 0
          · rw [if_pos ⟨rfl, e3⟩, e3]; rfl
          · rw [if_neg (fun h => e3 h.2), show (((0 : Nat) : Int) == 0) = true from rfl, cond_true, show ((((lget t 0).toNat : Int) == 0) : Bool) = false from beq_eq_false_iff_ne.2 (by omega)]; rfl
        · rw [if_neg (fun h => e h.1), show (((i : Int) == 0) : Bool) = false from beq_eq_false_iff_ne.2 (by omega)]; rfl
      by_cases e3 : (lget t 0).toNat = 0
      · have hw : wlx (fun s => rlp_reader_size.b1 (k : Int) t (decide (192 ≤ (lget bs 0).toNat)) (bs.drop 1) (bs, out) s.1 s.2) ((0, 0) : Int × Int) = some (.inr (decide (192 ≤ (lget bs 0).toNat), 0, 2, (bs.drop 1, out))) := wlx_of (k := 1) (wlk_ret (s := ((0, 0) : Int × Int)) ((step 0 0 (by omega)).trans (if_pos ⟨rfl, e3⟩))) (by omega)
        rw [hw, if_pos e3]
        exact ⟨_, rfl, fun h => absurd h (by decide)⟩
      · rw [if_neg e3]
        have hw := wlx_for (b := fun s => rlp_reader_size.b1 (k : Int) t (decide (192 ≤ (lget bs 0).toNat)) (bs.drop 1) (bs, out) s.1 s.2) (fun i => (((min (bp t i) 1099511627776 : Nat) : Int), (i : Int))) (n := k) (s' := (((min (bp t k) 1099511627776 : Nat) : Int), (k : Int))) (fun i hi => by
          dsimp only
          have hx := (lget t i).isLt
          have hbp : bp t (i + 1) = bp t i * 256 + nd t i := rfl
          have hval : (if 1099511627776 < wi (wi (256 * ((min (bp t i) 1099511627776 : Nat) : Int)) + ((lget t i).toNat : Int)) then 1099511627776 else wi (wi (256 * ((min (bp t i) 1099511627776 : Nat) : Int)) + ((lget t i).toNat : Int))) = ((min (bp t (i + 1)) 1099511627776 : Nat) : Int) := by
            rw [hbp, nd_in (by omega), wi_id (n := 256 * ((min (bp t i) 1099511627776 : Nat) : Int)) (by omega), wi_id (by omega)]
            split <;> omega
          rw [step i _ hi, if_neg (fun h => e3 h.2), hval]) (by
          have h1 : decide ((k : Int) < (k : Int)) = false := decide_eq_false (by omega)
          simp only [rlp_reader_size.b1, Let_eq, h1, cond_false]) (by omega)
        rw [show ((0, 0) : Int × Int) = (fun i : Nat => (((min (bp t i) 1099511627776 : Nat) : Int), (i : Int))) 0 from rfl, hw, Option.bind_some, Sum.elim_inl]
        dsimp only
        have hbv : bp t k = bv t := by unfold bv; rw [htl]
        rw [Chk_ok (by omega), hbv]
        by_cases e4 : bv t ≤ 55
        · rw [decide_eq_true (by omega), cond_true, if_pos e4]
          exact ⟨_, rfl, fun h => absurd h (by decide)⟩
        · rw [decide_eq_false (by omega), cond_false, if_neg e4]
          refine ⟨_, rfl, fun _ => ?_⟩
          rw [← List.length_drop, take_all, List.drop_drop, Nat.add_comm]
theorem head_ref (b : List B8) (a : Nat) (h0 : a < b.length) (hc : 128 ≤ (lget (b.drop a) 0).toNat) (hl : b.length ≤ 10000000) :
    smithyref07_head b (a : Int) = some (if (hdE (b.drop a)).1 = 0 then (decide (192 ≤ (lget (b.drop a) 0).toNat), ((a + (hdE (b.drop a)).2.2 : Nat) : Int), ((if 1000000000 < (hdE (b.drop a)).2.1 then 1000000000 else (hdE (b.drop a)).2.1 : Nat) : Int), 0) else (decide (192 ≤ (lget (b.drop a) 0).toNat), 0, 0, (hdE (b.drop a)).1)) := by
  have hg : ∀ j, lget (b.drop a) j = lget b (a + j) := fun j => by
    unfold lget; rw [List.getD_eq_getElem?_getD, List.getD_eq_getElem?_getD, List.getElem?_drop]
  have hg0 : lget b a = lget (b.drop a) 0 := (hg 0).symm
  have hcl := cOf_le (b.drop a)
  have hlen : (b.drop a).length = b.length - a := List.length_drop
  unfold smithyref07_head
  have h1 : wi ((a : Int) + 1) = ((a + 1 : Nat) : Int) := by rw [wi_id (by omega)]; omega
  simp only [Let_eq, Int.toNat_natCast, hg0, h1]
  rw [Chk_ok (by omega)]
  have hlist : decide (192 ≤ ((lget (b.drop a) 0).toNat : Int)) = decide (192 ≤ (lget (b.drop a) 0).toNat) := decide_eq_decide.2 (by omega)
  rw [hlist]
  have hcv : (bif decide (192 ≤ (lget (b.drop a) 0).toNat) then some (wi (((lget (b.drop a) 0).toNat : Int) - 64)) else some ((lget (b.drop a) 0).toNat : Int)) = some ((cOf (b.drop a) : Nat) : Int) := by
    have := (lget (b.drop a) 0).isLt
    unfold cOf
    by_cases e : 192 ≤ (lget (b.drop a) 0).toNat
    · rw [decide_eq_true e, cond_true, if_pos e, wi_id (by omega)]; congr 1; omega
    · rw [decide_eq_false e, cond_false, if_neg e]
  rw [hcv, Option.bind_some]
  unfold hdE
  by_cases e1 : cOf (b.drop a) ≤ 183
  · have h128 : 128 ≤ cOf (b.drop a) := by unfold cOf; split <;> omega
    rw [decide_eq_true (by omega), cond_true, if_pos e1, wi_id (by omega)]
    dsimp only
    rw [if_pos rfl, if_neg (by omega), show ((cOf (b.drop a) : Nat) : Int) - 128 = ((cOf (b.drop a) - 128 : Nat) : Int) by omega]
  · rw [decide_eq_false (by omega), cond_false, if_neg e1, wi_id (n := ((cOf (b.drop a) : Nat) : Int) - 183) (by omega)]
    obtain ⟨k, hk⟩ : ∃ k, cOf (b.drop a) - 183 = k := ⟨_, rfl⟩
    have hki : ((cOf (b.drop a) : Nat) : Int) - 183 = (k : Int) := by omega
    have h2 : wi (((a + 1 : Nat) : Int) + (k : Int)) = ((a + 1 + k : Nat) : Int) := by rw [wi_id (by omega)]; omega
    rw [hki, hk, h2, hlen]
    by_cases e2 : b.length - a < 1 + k
    · rw [decide_eq_true (by omega), cond_true, if_pos e2, if_neg (by decide)]
    · rw [decide_eq_false (by omega), cond_false, if_neg e2, Chk_ok (by omega), ← hg 1]
      by_cases e3 : (lget (b.drop a) 1).toNat = 0
      · rw [if_pos e3, e3, if_neg (by decide)]; rfl
      · rw [if_neg e3, show ((((lget (b.drop a) 1).toNat : Int) == 0) : Bool) = false from beq_eq_false_iff_ne.2 (by omega), cond_false]
        have htl : (((b.drop a).drop 1).take k).length = k := by rw [List.length_take, List.length_drop, hlen]; omega
        have hgt : ∀ j, j < k → lget (((b.drop a).drop 1).take k) j = lget b (a + 1 + j) := fun j hj => by
          have : lget (((b.drop a).drop 1).take k) j = lget (b.drop a) (1 + j) := by
            unfold lget; rw [List.getD_eq_getElem?_getD, List.getD_eq_getElem?_getD, List.getElem?_take, if_pos hj, List.getElem?_drop]
          rw [this, hg, Nat.add_assoc]
        generalize ((b.drop a).drop 1).take k = t at *
        have hw := wlx_for (b := fun s => smithyref07_head.b1 (k : Int) (a : Int) b s.1 s.2) (ρ := Bool × Int × Int × Int) (fun i => (((if 1000000000 < bp t i then 1000000000 else bp t i : Nat) : Int), (i : Int))) (n := k) (s' := (((if 1000000000 < bp t k then 1000000000 else bp t k : Nat) : Int), (k : Int))) (fun i hi => by
          have g1 : decide ((i : Int) < (k : Int)) = true := decide_eq_true (by omega)
          have g2 : wi ((i : Int) + 1) = ((i + 1 : Nat) : Int) := by rw [wi_id (by omega)]; omega
          have g3 : wi (((a + 1 : Nat) : Int) + (i : Int)) = ((a + 1 + i : Nat) : Int) := by rw [wi_id (by omega)]; omega
          have hx := (lget t i).isLt
          have hbp : bp t (i + 1) = bp t i * 256 + nd t i := rfl
          simp only [smithyref07_head.b1, Let_eq, g1, cond_true, h1, g2, g3, Int.toNat_natCast, ← hgt i hi]
          rw [Chk_ok (by omega), hbp, nd_in (by omega), wi_id (n := ((if 1000000000 < bp t i then 1000000000 else bp t i : Nat) : Int) * 256) (by split <;> omega), wi_id (by split <;> omega)]
          by_cases c1 : 1000000000 < bp t i
          · rw [if_pos c1, decide_eq_true (by omega), cond_true, Option.bind_some, if_pos (by omega)]; rfl
          · rw [if_neg c1]
            by_cases c2 : 1000000000 < bp t i * 256 + (lget t i).toNat
            · rw [decide_eq_true (by omega), cond_true, Option.bind_some, if_pos c2]; rfl
            · rw [decide_eq_false (by omega), cond_false, Option.bind_some, if_neg c2]
              congr 3) (by
          have g1 : decide ((k : Int) < (k : Int)) = false := decide_eq_false (by omega)
          simp only [smithyref07_head.b1, Let_eq, g1, cond_false]) (by omega)
        rw [show ((0, 0) : Int × Int) = (fun i : Nat => (((if 1000000000 < bp t i then 1000000000 else bp t i : Nat) : Int), (i : Int))) 0 from rfl, hw, Option.bind_some, Sum.elim_inl]
        dsimp only
        have hbv : bp t k = bv t := by unfold bv; rw [htl]
        rw [hbv]
        by_cases e4 : bv t ≤ 55
        · rw [if_neg (by omega), decide_eq_true (by omega), cond_true, if_pos e4, if_neg (by decide)]
        · rw [if_neg e4, decide_eq_false (by split <;> omega), cond_false]
          dsimp only
          rw [if_pos rfl, Nat.add_assoc]
/-- What was read is what would be written. -/
theorem hd_sound (bs : List B8) (h0 : 0 < bs.length) (hc : 128 ≤ (lget bs 0).toNat) (he : (hdE bs).1 = 0) :
    bs = headV (hdE bs).2.1 (if 192 ≤ (lget bs 0).toNat then 64 else 0) ++ bs.drop (hdE bs).2.2 ∧ 1 ≤ (hdE bs).2.2 ∧ (hdE bs).2.2 ≤ bs.length := by
  have hcl := cOf_le bs
  have hb0 : bs = lget bs 0 :: bs.drop 1 := by
    cases bs with
    | nil => simp at h0
    | cons x r => rfl
  have hce : cOf bs + (if 192 ≤ (lget bs 0).toNat then 64 else 0) = (lget bs 0).toNat := by unfold cOf; split <;> omega
  revert he
  unfold hdE
  by_cases e1 : cOf bs ≤ 183
  · have h128 : 128 ≤ cOf bs := by unfold cOf; split <;> omega
    rw [if_pos e1]
    intro _
    refine ⟨?_, Nat.le_refl _, h0⟩
    dsimp only
    unfold headV
    rw [if_pos (by omega), List.singleton_append]
    have : BitVec.ofNat 8 (128 + (if 192 ≤ (lget bs 0).toNat then 64 else 0) + (cOf bs - 128)) = lget bs 0 := by
      apply BitVec.eq_of_toNat_eq
      have := (lget bs 0).isLt
      rw [BitVec.toNat_ofNat]; omega
    rw [this]; exact hb0
  · rw [if_neg e1]
    by_cases e2 : bs.length < 1 + (cOf bs - 183)
    · rw [if_pos e2]; intro h; exact absurd h (by decide)
    · rw [if_neg e2]
      by_cases e3 : (lget bs 1).toNat = 0
      · rw [if_pos e3]; intro h; exact absurd h (by decide)
      · rw [if_neg e3]
        obtain ⟨k, hk⟩ : ∃ k, cOf bs - 183 = k := ⟨_, rfl⟩
        rw [hk]
        rw [hk] at e2
        by_cases e4 : bv ((bs.drop 1).take k) ≤ 55
        · rw [if_pos e4]; intro h; exact absurd h (by decide)
        · rw [if_neg e4]
          intro _
          refine ⟨?_, by dsimp only; omega, by dsimp only; omega⟩
          dsimp only
          have htl : ((bs.drop 1).take k).length = k := by rw [List.length_take, List.length_drop]; omega
          have hg1 : lget bs 1 = lget ((bs.drop 1).take k) 0 := by
            unfold lget; rw [List.getD_eq_getElem?_getD, List.getD_eq_getElem?_getD, List.getElem?_take, if_pos (by omega), List.getElem?_drop]
          have hdrop : bs.drop 1 = (bs.drop 1).take k ++ bs.drop (1 + k) := by
            conv => lhs; rw [← List.take_append_drop k (bs.drop 1)]
            rw [List.drop_drop]
          rw [hg1] at e3
          generalize hT : (bs.drop 1).take k = t at *
          have hlt : bv t < 256 ^ k := by have := bp_lt t t.length; rw [htl] at this; unfold bv; rw [htl]; exact this
          have hge : 256 ^ (k - 1) ≤ bv t := by
            have hd := bp_be k (bv t)
            have hx : bv t = nd t 0 * 256 ^ (k - 1) + ns 256 (fun j => nd t (k - 1 - j)) (k - 1) := by
              rw [bv_ns, htl]
              obtain ⟨q, hq⟩ : ∃ q, k = q + 1 := ⟨k - 1, by omega⟩
              subst hq
              rw [ns_succ, Nat.add_sub_cancel, Nat.sub_self, Nat.add_comm]
            have h1 : 1 ≤ nd t 0 := by rw [nd_in (by omega)]; omega
            have : 1 * 256 ^ (k - 1) ≤ nd t 0 * 256 ^ (k - 1) := Nat.mul_le_mul_right _ h1
            omega
          have hnby : nby (bv t) = k := by
            have h1 := nby_le hlt
            have h2 := nby_lt (bv t)
            apply Nat.le_antisymm h1
            apply Nat.le_of_not_lt
            intro h3
            have : 256 ^ nby (bv t) ≤ 256 ^ (k - 1) := Nat.pow_le_pow_right (by omega) (by omega)
            omega
          have hnum : numB (bv t) = t := by
            refine list_ext8 (by rw [numB_len, hnby, htl]) fun j hj => ?_
            rw [numB_len, hnby] at hj
            unfold numB
            rw [hnby, be_get _ _ hj, bv_ns, htl, ns_digit (by omega) (fun j => nd8_lt t _) (by omega), show k - 1 - (k - 1 - j) = j by omega, nd_in (by omega)]
          unfold headV
          rw [if_neg e4, hnby, hnum, List.cons_append, ← hdrop]
          have : BitVec.ofNat 8 (183 + (if 192 ≤ (lget bs 0).toNat then 64 else 0) + k) = lget bs 0 := by
            apply BitVec.eq_of_toNat_eq
            have := (lget bs 0).isLt
            rw [BitVec.toNat_ofNat]; omega
          rw [this]; exact hb0
/-- What was written is read. -/
theorem hd_back (n : Nat) (list : Bool) (rest : List B8) (hn : n < 1099511627776) : 0 < (headV n (if list then 64 else 0) ++ rest).length ∧ 128 ≤ (lget (headV n (if list then 64 else 0) ++ rest) 0).toNat ∧ decide (192 ≤ (lget (headV n (if list then 64 else 0) ++ rest) 0).toNat) = list ∧ (hdE (headV n (if list then 64 else 0) ++ rest)) = (0, n, (headV n (if list then 64 else 0)).length) := by
  have hnl : nby n ≤ 8 := nby_le (by omega)
  have hh := headV_len n (if list then 64 else 0) (by omega)
  have hm : (list = false ∧ (if list then 64 else 0) = 0) ∨ (list = true ∧ (if list then 64 else 0) = 64) := by cases list <;> simp
  generalize (if list then 64 else 0) = m at *
  have hm64 : m ≤ 64 := by omega
  refine ⟨by rw [List.length_append]; omega, ?_⟩
  unfold headV
  by_cases e : n ≤ 55
  · rw [if_pos e, List.singleton_append]
    have h0 : (lget (BitVec.ofNat 8 (128 + m + n) :: rest) 0).toNat = 128 + m + n := by
      show (BitVec.ofNat 8 _ : B8).toNat = _
      rw [BitVec.toNat_ofNat]; omega
    have hc : cOf (BitVec.ofNat 8 (128 + m + n) :: rest) = 128 + n := by
      unfold cOf; rw [h0]
      rcases hm with ⟨_, hm⟩ | ⟨_, hm⟩
      · rw [if_neg (by omega)]; omega
      · rw [if_pos (by omega)]; omega
    refine ⟨by rw [h0]; omega, ?_, ?_⟩
    · rw [h0]
      rcases hm with ⟨hl, hm⟩ | ⟨hl, hm⟩
      · rw [hl]; exact decide_eq_false (by omega)
      · rw [hl]; exact decide_eq_true (by omega)
    · unfold hdE
      rw [hc, if_pos (by omega)]
      show (0, 128 + n - 128, 1) = (0, n, 1)
      rw [show 128 + n - 128 = n by omega]
  · rw [if_neg e, List.cons_append]
    have hnp : 0 < nby n := nby_pos (by omega)
    have h0 : (lget (BitVec.ofNat 8 (183 + m + nby n) :: (numB n ++ rest)) 0).toNat = 183 + m + nby n := by
      show (BitVec.ofNat 8 _ : B8).toNat = _
      rw [BitVec.toNat_ofNat]; omega
    have hc : cOf (BitVec.ofNat 8 (183 + m + nby n) :: (numB n ++ rest)) = 183 + nby n := by
      unfold cOf; rw [h0]
      rcases hm with ⟨_, hm⟩ | ⟨_, hm⟩
      · rw [if_neg (by omega)]; omega
      · rw [if_pos (by omega)]; omega
    refine ⟨by rw [h0]; omega, ?_, ?_⟩
    · rw [h0]
      rcases hm with ⟨hl, hm⟩ | ⟨hl, hm⟩
      · rw [hl]; exact decide_eq_false (by omega)
      · rw [hl]; exact decide_eq_true (by omega)
    · have ht : (((BitVec.ofNat 8 (183 + m + nby n) : B8) :: (numB n ++ rest)).drop 1).take (183 + nby n - 183) = numB n := by
        rw [show 183 + nby n - 183 = (numB n).length by rw [numB_len]; omega]
        show (numB n ++ rest).take (numB n).length = numB n
        rw [List.take_append_of_le_length (Nat.le_refl _), take_all]
      have h1 : lget ((BitVec.ofNat 8 (183 + m + nby n) : B8) :: (numB n ++ rest)) 1 = lget (numB n) 0 := by
        show lget (numB n ++ rest) 0 = _
        unfold lget; rw [List.getD_eq_getElem?_getD, List.getD_eq_getElem?_getD, List.getElem?_append_left (by rw [numB_len]; exact hnp)]
      unfold hdE
      rw [hc, if_neg (by omega), if_neg (by rw [List.length_cons, List.length_append, numB_len]; omega), h1, if_neg (numB_first hnp), ht, bv_numB, if_neg e]
      rw [List.length_cons, numB_len, show 1 + (183 + nby n - 183) = nby n + 1 by omega]
end Go.Proofs.Ytapfkdcilfpbhaa
