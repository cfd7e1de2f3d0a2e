/- What an input costs: the program's; the law. -/
import Derived.Test.YtccilbklafhjiaaNvU
import Derived.Test.YtccilbklafhjiaaMcDg
import Derived.Test.YtccilbklafhjiaaNvE0
namespace Go.Proofs.Ytccilbklafhjiaa
open Go.RowKit
set_option linter.unusedVariables false
set_option linter.unusedSimpArgs false
theorem bv_out (a : List B8) {p n : Nat} (h : a.length ≤ p) : bv (partV a p n) = 0 := by
  unfold bv
  refine (bp_small _ (Nat.le_refl _)).2 fun j hj => ?_
  rw [partV_len] at hj
  rw [nd_in (by rw [partV_len]; exact hj), partV_get _ _ _ hj, if_neg (by omega)]; rfl
theorem width_pos {v : Nat} (hv : v < 18446744073709551616) : (bif decide (((BitVec.ofNat 64 v % 8#64 : W64).toNat : Int) > 0) then some (BitVec.ofNat 64 v / 8#64 + 1#64 : W64) else some (BitVec.ofNat 64 v / 8#64)) = some (BitVec.ofNat 64 ((v + 7) / 8)) := by
  rw [← width_u64 hv]
  congr 1
  by_cases e : (BitVec.ofNat 64 v % 8#64 : W64).toNat = 0
  · rw [e]; rfl
  · rw [decide_eq_true (by omega)]; exact (bne_iff_ne.2 (by omega)).symm
theorem three_le {w c : Nat} (hw : w ≤ 2305843009213693952) (hc : c ≤ 295147905179352825856) : w * w * c ≤ 2305843009213693952 * 2305843009213693952 * 295147905179352825856 := Nat.mul_le_mul (Nat.mul_le_mul hw hw) hc
theorem Gas_val (a : List B8) (la : a.length ≤ 100000) : modexp_Gas a = some (BitVec.ofNat 64 (gasV a)) := by
  unfold modexp_Gas
  rw [lengths_val a la, Option.bind_some]
  generalize hx : (⟨[wordV (padV (partV a (32 * 0) 32)), wordV (padV (partV a (32 * 1) 32)), wordV (padV (partV a (32 * 2) 32))], rfl⟩ : Vec Word4 3) = x
  have h0 : wv (x.get 0) = lenV a 0 := by rw [← hx]; exact wv_len a 0
  have h1 : wv (x.get 1) = lenV a 1 := by rw [← hx]; exact wv_len a 1
  have h2 : wv (x.get 2) = lenV a 2 := by rw [← hx]; exact wv_len a 2
  simp only [Let_eq, zero_word, h0, h2]
  by_cases e : lenV a 0 = 0 ∧ lenV a 2 = 0
  · rw [show gasV a = 200 from if_pos e, decide_eq_true e.1, decide_eq_true e.2]; rfl
  have hg : gasV a = if lenV a 0 < 18446744073709551616 ∧ lenV a 1 < 18446744073709551616 ∧ lenV a 2 < 18446744073709551616 then (if costV a < 18446744073709551615 then max (costV a) 200 else 18446744073709551615) else 18446744073709551615 := if_neg e
  have hc : (bif decide (lenV a 0 = 0) then some (decide (lenV a 2 = 0)) else some false) = some false := by
    by_cases e0 : lenV a 0 = 0
    · rw [decide_eq_true e0, decide_eq_false (fun h => e ⟨e0, h⟩)]; rfl
    · rw [decide_eq_false e0]; rfl
  rw [hg, hc, Option.bind_some, cond_false, Small_val, h0, Option.bind_some, Small_val, h1, Option.bind_some, Small_val, h2, Option.bind_some]
  have ct : ∀ {α : Type} (x y : α), (bif true then x else y) = x := fun _ _ => rfl
  have cf : ∀ {α : Type} (x y : α), (bif false then x else y) = y := fun _ _ => rfl
  have nt : (!true) = false := rfl
  by_cases g : lenV a 0 < 18446744073709551616 ∧ lenV a 1 < 18446744073709551616 ∧ lenV a 2 < 18446744073709551616
  · obtain ⟨g0, g1, g2⟩ := g
    have pk : ∀ k : Nat, k < 18446744073709551616 → ∃ p : W64 × Bool, (if k < 18446744073709551616 then (BitVec.ofNat 64 k, true) else (0#64, false) : W64 × Bool) = p ∧ p.2 = true ∧ p.1.toNat = k := fun k hk => ⟨_, rfl, by rw [if_pos hk], by rw [if_pos hk]; exact small64 hk⟩
    obtain ⟨p0, q0, r0, hb⟩ := pk _ g0
    obtain ⟨p1, q1, r1, he⟩ := pk _ g1
    obtain ⟨p2, q2, r2, hm⟩ := pk _ g2
    rw [q0, q1, q2, if_pos (show lenV a 0 < 18446744073709551616 ∧ lenV a 1 < 18446744073709551616 ∧ lenV a 2 < 18446744073709551616 from ⟨g0, g1, g2⟩)]
    simp only [r0, r1, r2, ct, cf, nt, Option.bind_some]
    generalize p0.1 = B at *
    generalize p1.1 = E at *
    generalize p2.1 = M at *
    rw [max_w B M, min_w E, hb, he, hm, Of_eq, Option.bind_some]
    obtain ⟨hd, hd1, hdv⟩ : ∃ v : Word4, (bif decide (lenV a 0 ≤ (96#64 + B).toNat) then (modexp_part a (96#64 + B) (BitVec.ofNat 64 (min (lenV a 1) 32))).bind fun x70 => (word_From x70).bind fun x71 => some x71 else some (wordOf 0#64)) = some v ∧ wv v = headV a := by
      have hs : (96#64 + B : W64).toNat = (96 + lenV a 0) % 18446744073709551616 := by rw [BitVec.toNat_add, hb]; rfl
      have hmn : (BitVec.ofNat 64 (min (lenV a 1) 32) : W64).toNat = min (lenV a 1) 32 := small64 (by omega)
      rw [hs]
      unfold headV
      by_cases h : lenV a 0 < 1099511627776
      · rw [if_pos h, decide_eq_true (by omega), cond_true, prog_part_val a _ _ la (by rw [hmn]; omega), Option.bind_some, hs, hmn, From_eq (by rw [partV_len]; omega), Option.bind_some]
        refine ⟨_, rfl, ?_⟩
        rw [wv_padV (by rw [partV_len]; omega), show (96 + lenV a 0) % 18446744073709551616 = 96 + lenV a 0 by omega]
      · rw [if_neg h]
        by_cases ho : lenV a 0 ≤ (96 + lenV a 0) % 18446744073709551616
        · rw [decide_eq_true ho, cond_true, prog_part_val a _ _ la (by rw [hmn]; omega), Option.bind_some, hs, hmn, From_eq (by rw [partV_len]; omega), Option.bind_some]
          refine ⟨_, rfl, ?_⟩
          rw [wv_padV (by rw [partV_len]; omega), bv_out a (by omega)]
        · rw [decide_eq_false ho, cond_false]
          exact ⟨_, rfl, wordOf_val _⟩
    obtain ⟨L, hL, hbl, hL6⟩ := Len_val hd
    rw [hdv] at hbl
    obtain rfl : L = blen (headV a) := BL_uniq hbl (blen_bl _)
    rw [hd1, Option.bind_some, hL, Option.bind_some]
    have hi : BitVec.ofInt 64 (if wi (((blen (headV a) : Nat) : Int) - 1) < 0 then 0 else wi (((blen (headV a) : Nat) : Int) - 1)) = (BitVec.ofNat 64 (blen (headV a) - 1) : W64) := by
      rw [wi_id (by omega)]
      by_cases h : blen (headV a) = 0
      · rw [h]; rfl
      · rw [if_neg (by omega), show ((blen (headV a) : Nat) : Int) - 1 = ((blen (headV a) - 1 : Nat) : Int) by omega, BitVec.ofInt_natCast]
    rw [hi, Of_eq, Option.bind_some]
    have hiv : wv (wordOf (BitVec.ofNat 64 (blen (headV a) - 1))) = blen (headV a) - 1 := by rw [wordOf_val]; exact small64 (by omega)
    have hcl : countV a ≤ 147573952589676412928 := by unfold countV; split <;> omega
    obtain ⟨cn, hcn, hcv⟩ : ∃ v : Word4, (bif decide (((lenV a 1 : Nat) : Int) > 32) then (word_Of 8#64).bind fun x81 => (word_Of (E - 32#64)).bind fun x84 => (word_Mul x81 x84).bind fun x85 => (word_Add (wordOf (BitVec.ofNat 64 (blen (headV a) - 1))) x85).bind fun x86 => some x86 else some (wordOf (BitVec.ofNat 64 (blen (headV a) - 1)))) = some v ∧ wv v = countV a := by
      unfold countV
      by_cases h : 32 < lenV a 1
      · have hs : (E - 32#64 : W64).toNat = lenV a 1 - 32 := by
          rw [BitVec.toNat_sub, he, show (32#64 : W64).toNat = 32 from rfl]; omega
        obtain ⟨m, hm1, hm2⟩ := Mul_val (wordOf 8#64) (wordOf (E - 32#64))
        rw [wordOf_val, wordOf_val, hs, show (8#64 : W64).toNat = 8 from rfl, Nat.mod_eq_of_lt (by omega)] at hm2
        rw [decide_eq_true (by omega), cond_true, if_pos h, Of_eq, Option.bind_some, Of_eq, Option.bind_some, hm1, Option.bind_some, Add_eq, Option.bind_some]
        refine ⟨_, rfl, ?_⟩
        rw [Add_val, hiv, hm2, Nat.mod_eq_of_lt (by omega), Nat.mul_comm 8]
      · rw [decide_eq_false (by omega), cond_false, if_neg h]
        exact ⟨_, rfl, hiv⟩
    rw [hcn, Option.bind_some, hcv]
    obtain ⟨c2, hc2, hcv2⟩ : ∃ v : Word4, (bif decide (countV a = 0) then (word_Of 1#64).bind fun x90 => some x90 else some cn) = some v ∧ wv v = if countV a = 0 then 1 else countV a := by
      by_cases h : countV a = 0
      · rw [decide_eq_true h, cond_true, if_pos h, Of_eq, Option.bind_some]
        exact ⟨_, rfl, wordOf_val _⟩
      · rw [decide_eq_false h, cond_false, if_neg h]
        exact ⟨_, rfl, hcv⟩
    rw [hc2, Option.bind_some, width_pos (by omega), Option.bind_some, Of_eq, Option.bind_some, Option.bind_some]
    have hw : (BitVec.ofNat 64 ((max (lenV a 0) (lenV a 2) + 7) / 8) : W64).toNat = widthV a := small64 (by omega)
    have hwl : widthV a ≤ 2305843009213693952 := by unfold widthV; omega
    generalize (BitVec.ofNat 64 ((max (lenV a 0) (lenV a 2) + 7) / 8) : W64) = W at *
    obtain ⟨sq, hsq, hsv⟩ := Mul_val (wordOf W) (wordOf W)
    have hc2l : (if countV a = 0 then 1 else countV a) ≤ 295147905179352825856 := by split <;> omega
    have hle := three_le hwl hc2l
    have hle2 : widthV a * widthV a ≤ 2305843009213693952 * 2305843009213693952 := Nat.mul_le_mul hwl hwl
    have hp : (2305843009213693952 : Nat) * 2305843009213693952 < 2 ^ 256 := by decide
    have hp2 : (2305843009213693952 : Nat) * 2305843009213693952 * 295147905179352825856 < 2 ^ 256 := by decide
    rw [wordOf_val, hw, Nat.mod_eq_of_lt (Nat.lt_of_le_of_lt hle2 hp)] at hsv
    obtain ⟨lo, hi_, hpr, hpv⟩ := Product_val sq c2
    rw [hsv, hcv2] at hpv
    have hlt := Nat.lt_of_le_of_lt hle hp2
    have hhi : wv hi_ = 0 := by
      apply Nat.eq_zero_of_not_pos
      intro hpos
      have : 2 ^ 256 * 1 ≤ 2 ^ 256 * wv hi_ := Nat.mul_le_mul_left _ hpos
      omega
    rw [hhi, Nat.mul_zero, Nat.add_zero] at hpv
    obtain ⟨q, r, hq, hqv⟩ := Div3_val lo
    have hqc : wv q = costV a := by rw [hqv, hpv]; rfl
    rw [hsq, Option.bind_some, hpr, Option.bind_some, Of_eq, Option.bind_some]
    show ((wide_Div lo (wordOf 3#64)).bind _) = _
    rw [hq, Option.bind_some]
    show ((word_Small q).bind _) = _
    rw [Small_val, hqc, Option.bind_some]
    have hne : (hi_.l != (Vec.rep 4 0#64 : Word4).l) = false := by
      show (!(hi_.l == (Vec.rep 4 0#64 : Word4).l)) = false
      rw [zero_word, hhi]; rfl
    by_cases hs : costV a < 18446744073709551616
    · obtain ⟨ps, qs, rs, hps⟩ := pk _ hs
      have hsf : ps.1 = BitVec.ofNat 64 (costV a) := by rw [← hps, ofNat_self]
      rw [qs, rs, nt, cf]
      show ((some (hi_.l != (Vec.rep 4 0#64 : Word4).l)).bind _) = _
      rw [hne, Option.bind_some, cf, hps, show (200#64 : W64).toNat = 200 from rfl, hsf, max200]
      by_cases hlt : costV a < 18446744073709551615
      · rw [if_pos hlt]
      · rw [if_neg hlt, show max (costV a) 200 = 18446744073709551615 by omega]
    · rw [if_neg hs, if_neg (show ¬ costV a < 18446744073709551615 by omega), show (!((0#64, false) : W64 × Bool).2) = true from rfl, ct, Option.bind_some, ct]
  · rw [if_neg g]
    have t : (bif (bif !(if lenV a 0 < 18446744073709551616 then (BitVec.ofNat 64 (lenV a 0), true) else (0#64, false) : W64 × Bool).2 then true else !(if lenV a 1 < 18446744073709551616 then (BitVec.ofNat 64 (lenV a 1), true) else (0#64, false) : W64 × Bool).2) then true else !(if lenV a 2 < 18446744073709551616 then (BitVec.ofNat 64 (lenV a 2), true) else (0#64, false) : W64 × Bool).2) = true := by
      by_cases g0 : lenV a 0 < 18446744073709551616
      · by_cases g1 : lenV a 1 < 18446744073709551616
        · rw [if_pos g0, if_pos g1, if_neg (fun g2 => g ⟨g0, g1, g2⟩)]; rfl
        · rw [if_pos g0, if_neg g1]; rfl
      · rw [if_neg g0]; rfl
    have cs : ∀ {β : Type} (c x y : Bool) (f : Bool → Option β), (bif c then some x else some y).bind f = f (bif c then x else y) := fun c x y f => by cases c <;> rfl
    rw [cs, cs, t, cond_true]
theorem gas_true (a : List B8) : smithylaw09_ModexpGas a = some true := by
  unfold smithylaw09_ModexpGas
  simp only [Let_eq, fixed_eq, Option.bind_some]
  by_cases h : a.length ≤ 2000
  · rw [decide_eq_false (show ¬ (2000 : Int) < (a.length : Int) by omega), cond_false, cond_true, Gas_val a (by omega), Option.bind_some, ref_Gas_val a (by omega), Option.bind_some, beq_self_eq_true]
    rfl
  · rw [decide_eq_true (show (2000 : Int) < (a.length : Int) by omega), cond_true]
end Go.Proofs.Ytccilbklafhjiaa
