/- What an input costs: the document's. -/
import Derived.Test.YtccilbklafhjiaaNvT
namespace Go.Proofs.Ytccilbklafhjiaa
open Go.RowKit
set_option linter.unusedVariables false
set_option linter.unusedSimpArgs false
theorem ofNat_self (E : W64) : (BitVec.ofNat 64 E.toNat : W64) = E := by simp
theorem min_w (E : W64) : (if (32#64 : W64).toNat < E.toNat then (32#64 : W64) else E) = BitVec.ofNat 64 (min E.toNat 32) := by
  rw [show (32#64 : W64).toNat = 32 from rfl]
  by_cases e : 32 < E.toNat
  · rw [if_pos e, show min E.toNat 32 = 32 by omega]
  · rw [if_neg e, show min E.toNat 32 = E.toNat by omega, ofNat_self]
theorem max_w (B M : W64) : (if B.toNat < M.toNat then M else B) = BitVec.ofNat 64 (max B.toNat M.toNat) := by
  by_cases e : B.toNat < M.toNat
  · rw [if_pos e, show max B.toNat M.toNat = M.toNat by omega, ofNat_self]
  · rw [if_neg e, show max B.toNat M.toNat = B.toNat by omega, ofNat_self]
theorem max200 (k : Nat) : (if k < 200 then (200#64 : W64) else BitVec.ofNat 64 k) = BitVec.ofNat 64 (max k 200) := by
  by_cases e : k < 200
  · rw [if_pos e, show max k 200 = 200 by omega]
  · rw [if_neg e, show max k 200 = k by omega]
theorem len_lt (a : List B8) (k : Nat) : lenV a k < 2 ^ 256 := bv_lt (n := 32) (by rw [partV_len]; omega)
theorem head_lt (a : List B8) : headV a < 2 ^ 256 := by
  unfold headV
  split
  · exact bv_lt (n := 32) (by rw [partV_len]; omega)
  · decide
theorem ref_Gas_val (a : List B8) (la : a.length ≤ 100000) : smithyref09_Gas a = some (BitVec.ofNat 64 (gasV a)) := by
  have hL0 : smithyref09_Length a 0 = _ := ref_Length_val a 0 la (by omega)
  have hL1 : smithyref09_Length a 1 = _ := ref_Length_val a 1 la (by omega)
  have hL2 : smithyref09_Length a 2 = _ := ref_Length_val a 2 la (by omega)
  unfold smithyref09_Gas
  rw [hL0, Option.bind_some, hL1, Option.bind_some, hL2, Option.bind_some]
  have cs : ∀ {β : Type} (c x y : Bool) (f : Bool → Option β), (bif c then some x else some y).bind f = f (bif c then x else y) := fun c x y f => by cases c <;> rfl
  simp only [Let_eq, cs]
  by_cases e : lenV a 0 = 0 ∧ lenV a 2 = 0
  · rw [show gasV a = 200 from if_pos e, e.1, e.2]; rfl
  have hg : gasV a = if lenV a 0 < 18446744073709551616 ∧ lenV a 1 < 18446744073709551616 ∧ lenV a 2 < 18446744073709551616 then (if costV a < 18446744073709551615 then max (costV a) 200 else 18446744073709551615) else 18446744073709551615 := if_neg e
  rw [hg]
  by_cases g : lenV a 0 < 18446744073709551616 ∧ lenV a 1 < 18446744073709551616 ∧ lenV a 2 < 18446744073709551616
  · obtain ⟨g0, g1, g2⟩ := g
    have pk : ∀ k : Nat, k < 18446744073709551616 → ∃ p : W64 × Bool, (if k < 18446744073709551616 then (BitVec.ofNat 64 k, true) else (0#64, false) : W64 × Bool) = p ∧ p.2 = true ∧ p.1.toNat = k := fun k hk => ⟨_, rfl, by rw [if_pos hk], by rw [if_pos hk]; exact small64 hk⟩
    obtain ⟨p0, q0, r0, hb⟩ := pk _ g0
    obtain ⟨p1, q1, r1, he⟩ := pk _ g1
    obtain ⟨p2, q2, r2, hm⟩ := pk _ g2
    have ct : ∀ {α : Type} (x y : α), (bif true then x else y) = x := fun _ _ => rfl
    have cf : ∀ {α : Type} (x y : α), (bif false then x else y) = y := fun _ _ => rfl
    have nt : (!true) = false := rfl
    rw [q0, q1, q2, if_pos (show lenV a 0 < 18446744073709551616 ∧ lenV a 1 < 18446744073709551616 ∧ lenV a 2 < 18446744073709551616 from ⟨g0, g1, g2⟩)]
    simp only [r0, r1, r2, ct, cf, nt]
    generalize p0.1 = B at *
    generalize p1.1 = E at *
    generalize p2.1 = M at *
    rw [max_w B M, min_w E, hb, he, hm]
    have hz : (bif (((lenV a 0 : Nat) : Int) == 0) then (((lenV a 2 : Nat) : Int) == 0) else false) = false := by
      by_cases h0 : lenV a 0 = 0
      · rw [show (((lenV a 2 : Nat) : Int) == 0) = false from beq_eq_false_iff_ne.2 fun h => e ⟨h0, by omega⟩]; simp
      · rw [show (((lenV a 0 : Nat) : Int) == 0) = false from beq_eq_false_iff_ne.2 (by omega)]; rfl
    rw [hz, cond_false]
    have hm32 : (BitVec.ofNat 64 (min (lenV a 1) 32) : W64).toNat = min (lenV a 1) 32 := small64 (by omega)
    rw [hm32, show IntKind.i64.wrap ((min (lenV a 1) 32 : Nat) : Int) = ((min (lenV a 1) 32 : Nat) : Int) from wi_id (by omega)]
    obtain ⟨hd, hd1, hdl, hdv⟩ : ∃ l, (bif decide (((lenV a 0 : Nat) : Int) < 1099511627776) then (smithyref09_Part a (wi (96 + IntKind.i64.wrap ((lenV a 0 : Nat) : Int))) ((min (lenV a 1) 32 : Nat) : Int)).bind fun x66 => some x66 else some []) = some l ∧ l.length ≤ 32 ∧ bv l = headV a := by
      unfold headV
      by_cases h : lenV a 0 < 1099511627776
      · rw [decide_eq_true (by omega), cond_true, if_pos h]
        have w1 : wi (96 + IntKind.i64.wrap ((lenV a 0 : Nat) : Int)) = ((96 + lenV a 0 : Nat) : Int) := by
          rw [show IntKind.i64.wrap ((lenV a 0 : Nat) : Int) = ((lenV a 0 : Nat) : Int) from wi_id (by omega), wi_id (by omega)]; omega
        rw [w1, ref_Part_val a _ _ la (by omega) (by omega)]
        exact ⟨_, rfl, by rw [partV_len]; omega, rfl⟩
      · rw [decide_eq_false (by omega), cond_false, if_neg h]
        exact ⟨_, rfl, by simp, rfl⟩
    rw [hd1, Option.bind_some, top_val hd hdl, hdv, Option.bind_some, width_u64 (by omega), Option.bind_some]
    have hbl := blen_le (head_lt a)
    have hw : (BitVec.ofNat 64 ((max (lenV a 0) (lenV a 2) + 7) / 8) : W64).toNat = widthV a := small64 (by omega)
    have hwl : widthV a ≤ 2305843009213693952 := by unfold widthV; omega
    obtain ⟨d1, e1, dg1, dl1, dv1⟩ := digits_val (BitVec.ofNat 64 (blen (headV a) - 1))
    rw [small64 (by omega)] at dv1
    rw [e1, Option.bind_some]
    obtain ⟨cn, hc, dgc, dlc, dvc⟩ : ∃ c, (bif decide (((lenV a 1 : Nat) : Int) > 32) then (smithyref09_digits (E - 32#64)).bind fun x87 => (smithyref09_digits 8#64).bind fun x88 => (smithyref02_Times x87 x88).bind fun x89 => (smithyref02_Plus d1 x89).bind fun x90 => some x90 else some d1) = some c ∧ Dg c ∧ c.length ≤ 100 ∧ dV c = ((countV a : Nat) : Int) := by
      unfold countV
      by_cases h : 32 < lenV a 1
      · rw [decide_eq_true (by omega), cond_true, if_pos h]
        obtain ⟨d2, e2, dg2, dl2, dv2⟩ := digits_val (E - 32#64)
        have hs : (E - 32#64 : W64).toNat = lenV a 1 - 32 := by
          rw [BitVec.toNat_sub, he, show (32#64 : W64).toNat = 32 from rfl]; omega
        rw [hs] at dv2
        obtain ⟨d3, e3, dg3, dl3, dv3⟩ := digits_val 8#64
        obtain ⟨d4, e4, dg4, dl4, dv4⟩ := Times_val dg2 dg3 (by omega) (by omega)
        obtain ⟨d5, e5, dg5, dl5, dv5⟩ := Plus_val dg1 dg4 (by omega) (by omega)
        rw [e2, Option.bind_some, e3, Option.bind_some, e4, Option.bind_some, e5, Option.bind_some]
        refine ⟨_, rfl, dg5, by omega, ?_⟩
        rw [dv5, dv4, dv1, dv2, dv3, show ((8#64 : W64).toNat : Int) = 8 from rfl]; omega
      · rw [decide_eq_false (by omega), cond_false, if_neg h]
        exact ⟨_, rfl, dg1, by omega, by rw [dv1, Nat.add_zero]⟩
    rw [hc, Option.bind_some, ref_Zero_val dgc (by omega) dvc, Option.bind_some]
    obtain ⟨c2, hc2, dgc2, dlc2, dvc2⟩ : ∃ c, (bif decide (countV a = 0) then (smithyref09_digits 1#64).bind fun x93 => some x93 else some cn) = some c ∧ Dg c ∧ c.length ≤ 100 ∧ dV c = ((if countV a = 0 then 1 else countV a : Nat) : Int) := by
      by_cases h : countV a = 0
      · obtain ⟨d2, e2, dg2, dl2, dv2⟩ := digits_val 1#64
        rw [decide_eq_true h, cond_true, if_pos h, e2]
        exact ⟨_, rfl, dg2, by omega, dv2⟩
      · rw [decide_eq_false h, cond_false, if_neg h]
        exact ⟨_, rfl, dgc, dlc, dvc⟩
    rw [hc2, Option.bind_some]
    obtain ⟨w1, f1, wg1, wl1, wv1⟩ := digits_val (BitVec.ofNat 64 ((max (lenV a 0) (lenV a 2) + 7) / 8))
    rw [hw] at wv1
    rw [f1, Option.bind_some, Option.bind_some]
    obtain ⟨t1, f2, tg1, tl1, tv1⟩ := Times_val wg1 wg1 (by omega) (by omega)
    obtain ⟨t2, f3, tg2, tl2, tv2⟩ := Times_val tg1 dgc2 (by omega) (by omega)
    obtain ⟨d3, f4, dg3, dl3, dv3⟩ := digits_val 3#64
    have hv2 : dV t2 = ((widthV a * widthV a * (if countV a = 0 then 1 else countV a) : Nat) : Int) := by
      rw [tv2, tv1, wv1, dvc2]; simp only [Int.natCast_mul]
    obtain ⟨q, r, f5, qg, ql, qv, _⟩ := Div_val tg2 dg3 (by omega) (by omega) (by rw [dv3]; decide)
    have hqv : dV q = ((costV a : Nat) : Int) := by
      rw [qv, hv2, dv3, show ((3#64 : W64).toNat : Int) = ((3 : Nat) : Int) from rfl, ← Int.natCast_ediv]; rfl
    obtain ⟨n1, f6, ng, nl, nv_⟩ := digits_val 18446744073709551615#64
    rw [f2, Option.bind_some, f3, Option.bind_some, f4, Option.bind_some, f5, Option.bind_some, f6, Option.bind_some]
    dsimp only
    rw [Less_val qg ng (by omega) (by omega), Option.bind_some, hqv, nv_, show ((18446744073709551615#64 : W64).toNat : Int) = 18446744073709551615 from rfl]
    by_cases hlt : costV a < 18446744073709551615
    · rw [if_pos hlt, decide_eq_true (by omega), Bool.not_true, cond_false, wi_id (by omega)]
      obtain ⟨j, hs⟩ := ref_sum qg (by omega) hqv (by omega) (q, r) rfl
      rw [hs, Option.bind_some, Sum.elim_inl]
      dsimp only
      rw [small64 (show costV a < 18446744073709551616 by omega), show (200#64 : W64).toNat = 200 from rfl]
      rw [max200]
    · rw [if_neg hlt, decide_eq_false (by omega), Bool.not_false, cond_true]
  · rw [if_neg g]
    have t : (bif (bif !(if lenV a 0 < 18446744073709551616 then (BitVec.ofNat 64 (lenV a 0), true) else (0#64, false) : W64 × Bool).2 then true else !(if lenV a 1 < 18446744073709551616 then (BitVec.ofNat 64 (lenV a 1), true) else (0#64, false) : W64 × Bool).2) then true else !(if lenV a 2 < 18446744073709551616 then (BitVec.ofNat 64 (lenV a 2), true) else (0#64, false) : W64 × Bool).2) = true := by
      by_cases g0 : lenV a 0 < 18446744073709551616
      · by_cases g1 : lenV a 1 < 18446744073709551616
        · rw [if_pos g0, if_pos g1, if_neg (fun g2 => g ⟨g0, g1, g2⟩)]; rfl
        · rw [if_pos g0, if_neg g1]; rfl
      · rw [if_neg g0]; rfl
    have hz : (bif (bif (bif (if lenV a 0 < 18446744073709551616 then (BitVec.ofNat 64 (lenV a 0), true) else (0#64, false) : W64 × Bool).2 then (if lenV a 2 < 18446744073709551616 then (BitVec.ofNat 64 (lenV a 2), true) else (0#64, false) : W64 × Bool).2 else false) then (((if lenV a 0 < 18446744073709551616 then (BitVec.ofNat 64 (lenV a 0), true) else (0#64, false) : W64 × Bool).1.toNat : Int) == 0) else false) then (((if lenV a 2 < 18446744073709551616 then (BitVec.ofNat 64 (lenV a 2), true) else (0#64, false) : W64 × Bool).1.toNat : Int) == 0) else false) = false := by
      by_cases hb : lenV a 0 < 18446744073709551616
      · by_cases hm : lenV a 2 < 18446744073709551616
        · simp only [if_pos hb, if_pos hm, cond_true, small64 hb, small64 hm]
          by_cases hb0 : lenV a 0 = 0
          · have : (((lenV a 2 : Int) == 0) : Bool) = false := beq_eq_false_iff_ne.2 fun h => e ⟨hb0, by omega⟩
            rw [this]; simp
          · have : (((lenV a 0 : Int) == 0) : Bool) = false := beq_eq_false_iff_ne.2 (by omega)
            rw [this]; rfl
        · simp only [if_neg hm, if_pos hb]; rfl
      · simp only [if_neg hb]; rfl
    rw [hz, t]; rfl
end Go.Proofs.Ytccilbklafhjiaa
