/- What an input costs: the document's. -/
import Derived.Test.YtccilbklafhjiaaNvS2
import Derived.Test.YtccilbklafhjiaaMcG
namespace Go.Proofs.Ytccilbklafhjiaa
open Go.RowKit
set_option linter.unusedVariables false
set_option linter.unusedSimpArgs false
def digL (l : List B8) (i : Nat) : Vec Int 32 := ⟨(List.range 32).map fun p => if p < i then ((lget l (l.length - 1 - p)).toNat : Int) else 0, by simp⟩
theorem digL_get (l : List B8) (i : Nat) {p : Nat} (hp : p < 32) : (digL l i).get p = if p < i then ((lget l (l.length - 1 - p)).toNat : Int) else 0 := Vec.get_map _ _ hp
theorem digL_succ (l : List B8) {i : Nat} (hi : i < 32) : (digL l i).set i ((lget l (l.length - 1 - i)).toNat : Int) = digL l (i + 1) := by
  refine Vec.ext_get fun p hp => ?_
  rw [Vec.get_set _ hi, digL_get _ _ hp, digL_get _ _ hp]
  by_cases e : i = p
  · subst e; rw [if_pos rfl, if_pos (by omega)]
  · rw [if_neg e]
    by_cases e2 : p < i
    · rw [if_pos e2, if_pos (by omega)]
    · rw [if_neg e2, if_neg (by omega)]
theorem ref_From_dig {l : List B8} (h : l.length ≤ 32) : smithyref01_From l = some (digL l l.length) := by
  have hl := wlx_for (b := fun s => smithyref01_From.b1 l s.1 s.2) (fun i => (digL l i, (i : Int))) (n := l.length) (s' := (digL l l.length, (l.length : Int))) (fun i hi => by
    have h1 : decide ((i : Int) < 32) = true := decide_eq_true (by omega)
    have h2 : decide ((i : Int) < (l.length : Int)) = true := decide_eq_true (by omega)
    have h3 : wi ((l.length : Int) - 1) = ((l.length - 1 : Nat) : Int) := by rw [wi_id (by omega)]; omega
    have h4 : wi (((l.length - 1 : Nat) : Int) - (i : Int)) = ((l.length - 1 - i : Nat) : Int) := by rw [wi_id (by omega)]; omega
    have h5 : wi ((i : Int) + 1) = ((i + 1 : Nat) : Int) := by rw [wi_id (by omega)]; omega
    simp only [smithyref01_From.b1, Let_eq, h1, cond_true, Option.bind_some, h2, h3, h4, h5, Int.toNat_natCast]
    rw [Chk_ok (by omega), Chk_ok (by omega), digL_succ l (by omega)]) (by
    have h2 : decide ((l.length : Int) < (l.length : Int)) = false := decide_eq_false (by omega)
    by_cases e : (l.length : Int) < 32
    · simp only [smithyref01_From.b1, Let_eq, decide_eq_true e, cond_true, h2, Option.bind_some, cond_false]
    · simp only [smithyref01_From.b1, Let_eq, decide_eq_false e, cond_false, Option.bind_some]) (by omega)
  have h0 : (Vec.rep 32 (0 : Int), (0 : Int)) = (fun i : Nat => (digL l i, (i : Int))) 0 := by
    refine Prod.ext (Vec.ext_get fun p hp => ?_) rfl
    show (Vec.rep 32 (0 : Int)).get p = (digL l 0).get p
    rw [Vec.get_rep hp, digL_get _ _ hp, if_neg (by omega)]
  unfold smithyref01_From
  rw [Let_eq, h0, hl]; rfl
theorem Plus_val {a b : List Int} (ha : Dg a) (hb : Dg b) (la : a.length ≤ 1000) (lb : b.length ≤ 1000) : ∃ r, smithyref02_Plus a b = some r ∧ Dg r ∧ r.length = max a.length b.length + 1 ∧ dV r = dV a + dV b := by
  refine ⟨_, Plus_eq ha hb la lb, fun i hi => ?_, by simp, ?_⟩
  · have hi' : i < max a.length b.length + 1 := by simpa using hi
    have h : lget ((List.range (max a.length b.length + 1)).map (plD (dat a) (dat b))) i = plD (dat a) (dat b) i := by unfold lget; simp [hi']
    rw [h]; unfold plD; omega
  · have h1 : ∀ j, j < max a.length b.length + 1 → dat ((List.range (max a.length b.length + 1)).map (plD (dat a) (dat b))) j = plD (dat a) (dat b) j := fun j hj => by unfold dat lget; simp [hj]
    unfold dV
    rw [show ((List.range (max a.length b.length + 1)).map (plD (dat a) (dat b))).length = max a.length b.length + 1 by simp, dsum_congr h1]
    have h2 := plD_val (dat a) (dat b) (max a.length b.length + 1)
    have h3 : plC (dat a) (dat b) (max a.length b.length + 1) = 0 := by
      show (dat a (max a.length b.length) + dat b (max a.length b.length) + plC (dat a) (dat b) (max a.length b.length)) / 256 = 0
      have c := plC_bounds (dat_bounds ha) (dat_bounds hb) (max a.length b.length)
      have d1 : dat a (max a.length b.length) = 0 := by unfold dat; rw [if_neg (by omega)]
      have d2 : dat b (max a.length b.length) = 0 := by unfold dat; rw [if_neg (by omega)]
      rw [d1, d2]; omega
    rw [h3, Int.zero_mul, Int.add_zero, dV_more (by omega), dV_more (by omega)] at h2
    exact h2
def blen (V : Nat) : Nat := if V = 0 then 0 else Nat.log2 V + 1
theorem blen_bl (V : Nat) : BL V (blen V) := by
  unfold blen
  by_cases e : V = 0
  · rw [if_pos e, e]; exact ⟨by decide, fun h => absurd h (by omega)⟩
  · rw [if_neg e]; exact ⟨Nat.lt_log2_self, fun _ => Nat.log2_self_le e⟩
theorem ns_digit {B : Nat} (hB : 0 < B) {f : Nat → Nat} (hf : ∀ j, f j < B) {n p : Nat} (hp : p < n) : ns B f n / B ^ p % B = f p := by
  obtain ⟨k, rfl⟩ : ∃ k, n = p + (1 + k) := ⟨n - p - 1, by omega⟩
  rw [ns_split, ns_front, Nat.add_mul_div_left _ _ (Nat.pow_pos hB), Nat.div_eq_of_lt (ns_lt hB fun j _ => hf j), Nat.zero_add, Nat.add_zero, Nat.add_mul_mod_self_left, Nat.mod_eq_of_lt (hf p)]
theorem digL_bv {l : List B8} (h : l.length ≤ 32) {p : Nat} (hp : p < 32) : (digL l l.length).get p = ((bv l / 256 ^ p % 256 : Nat) : Int) := by
  have hb : bv l = ns 256 (fun j => if j < l.length then (lget l (l.length - 1 - j)).toNat else 0) 32 := by
    rw [bv_ns]
    refine (ns_pad h fun j hj => ?_).symm
    by_cases e : j < l.length
    · rw [if_pos e, if_pos e, nd_in (by omega), Nat.mul_one]
    · rw [if_neg e, if_neg e, Nat.mul_zero]
  rw [hb, ns_digit (by omega) (fun j => by
    by_cases e : j < l.length
    · rw [if_pos e]; exact (lget l _).isLt
    · rw [if_neg e]; omega) hp, digL_get _ _ hp]
  by_cases e : p < l.length
  · rw [if_pos e, if_pos e]
  · rw [if_neg e, if_neg e]; rfl
theorem bit_val (d : Vec Int 32) {V i : Nat} (hi : i < 256) (hd : d.get (i / 8) = ((V / 256 ^ (i / 8) % 256 : Nat) : Int)) : smithyref01_D_Bit d (i : Int) = some ((V / 2 ^ i % 2 : Nat) : Int) := by
  unfold smithyref01_D_Bit
  have h1 : decide ((i : Int) < 0) = false := decide_eq_false (by omega)
  have h2 : decide ((255 : Int) < (i : Int)) = false := decide_eq_false (by omega)
  have h3 : wi (Int.tdiv (i : Int) 8) = ((i / 8 : Nat) : Int) := by
    rw [show Int.tdiv (i : Int) 8 = ((i / 8 : Nat) : Int) from (Int.ofNat_tdiv i 8).symm, wi_id (by omega)]
  simp only [Let_eq, h1, h2, cond_false, Option.bind_some, h3, Int.toNat_natCast]
  rw [Chk_ok (by omega), hd]
  generalize hx : V / 256 ^ (i / 8) % 256 = x
  have hx256 : x < 256 := by rw [← hx]; exact Nat.mod_lt _ (by omega)
  have h4 : Int.tmod (i : Int) 8 = ((i % 8 : Nat) : Int) := (Int.ofNat_tmod i 8).symm
  have hl := wlx_for (b := fun s => smithyref01_D_Bit.b1 (i : Int) s.1 s.2) (fun j => (((x / 2 ^ j : Nat) : Int), (j : Int))) (n := i % 8) (s' := (((x / 2 ^ (i % 8) : Nat) : Int), ((i % 8 : Nat) : Int))) (fun j hj => by
    have g1 : decide ((j : Int) < ((i % 8 : Nat) : Int)) = true := decide_eq_true (by omega)
    have g2 : wi ((j : Int) + 1) = ((j + 1 : Nat) : Int) := by rw [wi_id (by omega)]; omega
    have g3' : wi (Int.tdiv ((x / 2 ^ j : Nat) : Int) 2) = ((x / 2 ^ j / 2 : Nat) : Int) := by
      have : x / 2 ^ j ≤ x := Nat.div_le_self _ _
      generalize x / 2 ^ j = z at this
      rw [show Int.tdiv (z : Int) 2 = ((z / 2 : Nat) : Int) from (Int.ofNat_tdiv _ 2).symm, wi_id (by omega)]
    have g3 : wi (Int.tdiv ((x / 2 ^ j : Nat) : Int) 2) = ((x / 2 ^ (j + 1) : Nat) : Int) := by rw [g3', Nat.div_div_eq_div_mul, Nat.pow_succ]
    simp only [smithyref01_D_Bit.b1, Let_eq, h4, g1, cond_true, g2, g3]) (by
    have g1 : decide (((i % 8 : Nat) : Int) < ((i % 8 : Nat) : Int)) = false := decide_eq_false (by omega)
    simp only [smithyref01_D_Bit.b1, Let_eq, h4, g1, cond_false]) (by omega)
  rw [show (((x : Nat) : Int), (0 : Int)) = (fun j : Nat => (((x / 2 ^ j : Nat) : Int), (j : Int))) 0 from by simp, hl]
  show some (Int.tmod ((x / 2 ^ (i % 8) : Nat) : Int) 2) = _
  rw [show Int.tmod ((x / 2 ^ (i % 8) : Nat) : Int) 2 = ((x / 2 ^ (i % 8) % 2 : Nat) : Int) from (Int.ofNat_tmod _ 2).symm, ← hx]
  congr 2
  have e1 : V / 256 ^ (i / 8) % 256 / 2 ^ (i % 8) % 2 = V / 256 ^ (i / 8) / 2 ^ (i % 8) % 2 := by
    have h8 : i % 8 < 8 := Nat.mod_lt _ (by omega)
    have := Nat.testBit_mod_two_pow (V / 256 ^ (i / 8)) 8 (i % 8)
    rw [Nat.testBit_eq_decide_div_mod_eq, Nat.testBit_eq_decide_div_mod_eq, decide_eq_true h8, Bool.true_and] at this
    have h2 := decide_eq_decide.1 this
    rw [show (2 : Nat) ^ 8 = 256 from rfl] at h2
    omega
  rw [e1, Nat.div_div_eq_div_mul, show (256 : Nat) = 2 ^ 8 from rfl, ← Nat.pow_mul, ← Nat.pow_add, Nat.div_add_mod]
theorem D_Len_val (d : Vec Int 32) {V : Nat} (hV : V < 2 ^ 256) (hd : ∀ p, p < 32 → d.get p = ((V / 256 ^ p % 256 : Nat) : Int)) : smithyref01_D_Len d = some ((blen V : Nat) : Int) := by
  unfold smithyref01_D_Len
  obtain ⟨s', hl, hq⟩ := wlx_inv (ρ := Int) (b := fun s => smithyref01_D_Len.b1 d s.1 s.2) (fun i s => s.2 = (i : Int) ∧ i ≤ 256 ∧ s.1 = ((blen (V % 2 ^ i) : Nat) : Int)) (Q := fun s => s.1 = ((blen V : Nat) : Int)) 256 (fun i ⟨x, j⟩ hi ⟨hj, _, hx⟩ => by
      dsimp only at hj hx
      subst hj; subst hx
      have h1 : decide ((i : Int) < 256) = true := decide_eq_true (by omega)
      have h2 : wi ((i : Int) + 1) = ((i + 1 : Nat) : Int) := by rw [wi_id (by omega)]; omega
      have hb := bit_val d (V := V) hi (hd _ (by omega))
      have hmod : V % 2 ^ (i + 1) = V % 2 ^ i + 2 ^ i * (V / 2 ^ i % 2) := by rw [Nat.pow_succ, Nat.mod_mul]
      have hlt := Nat.mod_lt V (Nat.two_pow_pos i)
      refine ⟨(((blen (V % 2 ^ (i + 1)) : Nat) : Int), ((i + 1 : Nat) : Int)), ?_, rfl, by omega, rfl⟩
      simp only [smithyref01_D_Len.b1, Let_eq, h1, cond_true, h2, hb, Option.bind_some]
      by_cases e : V / 2 ^ i % 2 = 1
      · rw [e, show ((((1 : Nat) : Int) == 1) : Bool) = true from rfl, cond_true, Option.bind_some]
        have : blen (V % 2 ^ (i + 1)) = i + 1 := BL_uniq (blen_bl _) ⟨Nat.mod_lt _ (Nat.two_pow_pos _), fun _ => by rw [hmod, e]; simp⟩
        rw [this]
      · have e0 : V / 2 ^ i % 2 = 0 := by omega
        have hm0 : V % 2 ^ (i + 1) = V % 2 ^ i := by rw [hmod, e0, Nat.mul_zero, Nat.add_zero]
        rw [e0, show ((((0 : Nat) : Int) == 1) : Bool) = false from rfl, cond_false, Option.bind_some, hm0]) (fun ⟨x, j⟩ ⟨hj, _, hx⟩ => by
      dsimp only at hj hx
      subst hj; subst hx
      refine ⟨(((blen V : Nat) : Int), ((256 : Nat) : Int)), ?_, rfl⟩
      have h1 : decide (((256 : Nat) : Int) < 256) = false := rfl
      simp only [smithyref01_D_Len.b1, Let_eq, h1, cond_false, Nat.mod_eq_of_lt hV]) (s0 := (0, 0)) ⟨rfl, by omega, by
        rw [Nat.pow_zero, Nat.mod_one]; rfl⟩ (by omega)
  rw [hl, Option.bind_some]
  show some s'.1 = _
  rw [hq]
theorem bv_lt {l : List B8} {n : Nat} (h : l.length ≤ n) : bv l < 256 ^ n := Nat.lt_of_lt_of_le (bp_lt l _) (Nat.pow_le_pow_right (by omega) h)
theorem blen_le {V n : Nat} (h : V < 2 ^ n) : blen V ≤ n := BL_le (blen_bl V) h
theorem top_val (l : List B8) (h : l.length ≤ 32) : smithyref09_top l = some (BitVec.ofNat 64 (blen (bv l) - 1)) := by
  have hV : bv l < 2 ^ 256 := by
    have := bv_lt h
    exact this
  unfold smithyref09_top
  rw [ref_From_dig h, Option.bind_some, D_Len_val _ hV fun p hp => digL_bv h hp, Option.bind_some]
  have hle := blen_le hV
  simp only [Let_eq]
  by_cases e : blen (bv l) = 0
  · rw [e]; rfl
  · rw [show ((((blen (bv l) : Nat) : Int) == 0) : Bool) = false from beq_eq_false_iff_ne.2 (by omega), cond_false, wi_id (by omega), show ((blen (bv l) : Nat) : Int) - 1 = ((blen (bv l) - 1 : Nat) : Int) by omega, BitVec.ofInt_natCast]
theorem digits_val (n : W64) : ∃ d, smithyref09_digits n = some d ∧ Dg d ∧ d.length ≤ 8 ∧ dV d = (n.toNat : Int) := by
  obtain ⟨o, hl, s', ho, h1, h2, h3⟩ := wlx_down (b := fun s => smithyref09_digits.b1 s.1 s.2) (fun m s => Dg s.2 ∧ s.2.length + m ≤ 8 ∧ s.1.toNat < 256 ^ m ∧ dV s.2 + (s.1.toNat : Int) * 256 ^ s.2.length = (n.toNat : Int)) (Q := fun o => ∃ s', o = .inl s' ∧ Dg s'.2 ∧ s'.2.length ≤ 8 ∧ dV s'.2 = (n.toNat : Int)) 8 (fun m ⟨x, d⟩ hm ⟨g1, g2, g3, g4⟩ => by
      dsimp only at g1 g2 g3 g4
      by_cases e : x.toNat = 0
      · refine .inr (.inl ⟨(x, d), ?_, _, rfl, g1, by dsimp only; omega, ?_⟩)
        · simp only [smithyref09_digits.b1, Let_eq]
          rw [decide_eq_false (by omega)]; rfl
        · dsimp only
          rw [e] at g4; simpa using g4
      · refine .inl ?_
        have hm0 : 0 < m := by
          apply Nat.pos_of_ne_zero
          intro h0; subst h0
          rw [Nat.pow_zero] at g3; omega
        have hr : (x % 256#64).toNat = x.toNat % 256 := by rw [BitVec.toNat_umod]; rfl
        have hq : (x / 256#64).toNat = x.toNat / 256 := by rw [BitVec.toNat_udiv]; rfl
        have hw : IntKind.i64.wrap ((x % 256#64).toNat : Int) = ((x.toNat % 256 : Nat) : Int) := by rw [hr]; exact wi_id (by omega)
        refine ⟨(x / 256#64, d ++ [((x.toNat % 256 : Nat) : Int)]), m - 1, by omega, ?_, ?_, ?_, ?_, ?_⟩
        · simp only [smithyref09_digits.b1, Let_eq]
          rw [decide_eq_true (by omega), cond_true, hw, Chk_ok (by simp; omega)]
        · exact dg_app g1 (dg_one (by omega))
        · simp; omega
        · show (x / 256#64).toNat < _
          rw [hq]
          have : 256 ^ m = 256 * 256 ^ (m - 1) := by rw [← Nat.pow_succ']; congr 1; omega
          omega
        · show dV (d ++ _) + ((x / 256#64).toNat : Int) * 256 ^ (d ++ [_]).length = _
          rw [dV_snoc, hq, List.length_append, List.length_singleton, ← g4, Int.pow_succ]
          have e5 : (x.toNat : Int) = ((x.toNat % 256 : Nat) : Int) + 256 * ((x.toNat / 256 : Nat) : Int) := by omega
          have e6 : (x.toNat : Int) * 256 ^ d.length = ((x.toNat % 256 : Nat) : Int) * 256 ^ d.length + ((x.toNat / 256 : Nat) : Int) * (256 ^ d.length * 256) := by
            rw [show ((x.toNat / 256 : Nat) : Int) * (256 ^ d.length * 256) = 256 * ((x.toNat / 256 : Nat) : Int) * 256 ^ d.length by ac_rfl, ← Int.add_mul, ← e5]
          omega) (s0 := (n, [])) ⟨dg_nil, by simp, n.isLt, by simp [dV, dsum]⟩ (by omega)
  subst ho
  refine ⟨s'.2, ?_, h1, h2, h3⟩
  unfold smithyref09_digits
  rw [Let_eq, hl]; rfl
/-- What an input costs. -/
def headV (a : List B8) : Nat := if lenV a 0 < 1099511627776 then bv (partV a (96 + lenV a 0) (min (lenV a 1) 32)) else 0
def countV (a : List B8) : Nat := blen (headV a) - 1 + (if 32 < lenV a 1 then (lenV a 1 - 32) * 8 else 0)
def widthV (a : List B8) : Nat := (max (lenV a 0) (lenV a 2) + 7) / 8
def costV (a : List B8) : Nat := widthV a * widthV a * (if countV a = 0 then 1 else countV a) / 3
def gasV (a : List B8) : Nat :=
  if lenV a 0 = 0 ∧ lenV a 2 = 0 then 200
  else if lenV a 0 < 18446744073709551616 ∧ lenV a 1 < 18446744073709551616 ∧ lenV a 2 < 18446744073709551616 then
    (if costV a < 18446744073709551615 then max (costV a) 200 else 18446744073709551615)
  else 18446744073709551615
theorem min_u64 {k : Nat} (hk : k < 18446744073709551616) : (if (32#64 : W64).toNat < (BitVec.ofNat 64 k : W64).toNat then (32#64 : W64) else BitVec.ofNat 64 k) = BitVec.ofNat 64 (min k 32) := by
  rw [small64 hk, show (32#64 : W64).toNat = 32 from rfl]
  by_cases e : 32 < k
  · rw [if_pos e, show min k 32 = 32 by omega]
  · rw [if_neg e, show min k 32 = k by omega]
theorem max_u64 {k m : Nat} (hk : k < 18446744073709551616) (hm : m < 18446744073709551616) : (if (BitVec.ofNat 64 k : W64).toNat < (BitVec.ofNat 64 m : W64).toNat then (BitVec.ofNat 64 m : W64) else BitVec.ofNat 64 k) = BitVec.ofNat 64 (max k m) := by
  rw [small64 hk, small64 hm]
  by_cases e : k < m
  · rw [if_pos e, show max k m = m by omega]
  · rw [if_neg e, show max k m = k by omega]
theorem width_u64 {v : Nat} (hv : v < 18446744073709551616) : (bif (((BitVec.ofNat 64 v % 8#64 : W64).toNat : Int) != 0) then some (BitVec.ofNat 64 v / 8#64 + 1#64 : W64) else some (BitVec.ofNat 64 v / 8#64)) = some (BitVec.ofNat 64 ((v + 7) / 8)) := by
  have h1 : (BitVec.ofNat 64 v % 8#64 : W64).toNat = v % 8 := by rw [BitVec.toNat_umod, small64 hv]; rfl
  have h2 : (BitVec.ofNat 64 v / 8#64 : W64).toNat = v / 8 := by rw [BitVec.toNat_udiv, small64 hv]; rfl
  rw [h1]
  by_cases e : v % 8 = 0
  · rw [e, show ((((0 : Nat) : Int) != 0) : Bool) = false from rfl, cond_false]
    congr 1
    apply BitVec.eq_of_toNat_eq
    rw [h2, small64 (by omega)]; omega
  · rw [show (((v % 8 : Nat) : Int) != 0 : Bool) = true from bne_iff_ne.2 (by omega), cond_true]
    congr 1
    apply BitVec.eq_of_toNat_eq
    rw [BitVec.toNat_add, h2, small64 (show (v + 7) / 8 < 18446744073709551616 by omega), show (1#64 : W64).toNat = 1 from rfl]; omega
theorem ref_sum {q : List Int} (hq : Dg q) (lq : q.length ≤ 1000) {V : Nat} (hv : dV q = (V : Int)) (hV : V < 18446744073709551616) (p : List Int × List Int) (hp : p.1 = q) : ∃ j, wlx (fun s => smithyref09_Gas.b1 p s.1 s.2) ((0#64, (q.length : Int) - 1) : W64 × Int) = some (.inl (BitVec.ofNat 64 V, j)) := by
  obtain ⟨o, hl, j, ho⟩ := wlx_down (b := fun s => smithyref09_Gas.b1 p s.1 s.2) (fun k s => s.2 = (k : Int) - 1 ∧ k ≤ q.length ∧ s.1 = BitVec.ofNat 64 (V / 256 ^ k)) (Q := fun o => ∃ j, o = .inl (BitVec.ofNat 64 V, j)) q.length (fun k ⟨x, j⟩ hk ⟨hj, hkl, hx⟩ => by
      dsimp only at hj hx
      subst hj; subst hx
      cases k with
      | zero =>
        refine .inr (.inl ⟨(BitVec.ofNat 64 (V / 256 ^ 0), ((0 : Nat) : Int) - 1), ?_, ((0 : Nat) : Int) - 1, ?_⟩)
        · simp only [smithyref09_Gas.b1, Let_eq]; rfl
        · rw [Nat.pow_zero, Nat.div_one]
      | succ k =>
        have e0 : ((k + 1 : Nat) : Int) - 1 = (k : Int) := by omega
        rw [e0]
        have h1 : decide (0 ≤ (k : Int)) = true := decide_eq_true (by omega)
        have h2 : wi ((k : Int) - 1) = (k : Int) - 1 := wi_id (by omega)
        have hd := dat_div hq hv k
        unfold dat at hd
        rw [if_pos (by omega)] at hd
        refine .inl ⟨(BitVec.ofNat 64 (V / 256 ^ k), (k : Int) - 1), k, by omega, ?_, rfl, by omega, rfl⟩
        simp only [smithyref09_Gas.b1, Let_eq, h1, cond_true, h2, hp, Int.toNat_natCast]
        rw [Chk_ok (by omega), hd, BitVec.ofInt_natCast]
        congr 3
        have hle : V / 256 ^ k ≤ V := Nat.div_le_self _ _
        have hle2 : V / 256 ^ (k + 1) ≤ V := Nat.div_le_self _ _
        have hdd : V / 256 ^ (k + 1) = V / 256 ^ k / 256 := by rw [Nat.div_div_eq_div_mul, Nat.pow_succ]
        apply BitVec.eq_of_toNat_eq
        rw [BitVec.toNat_add, BitVec.toNat_mul, small64 (show V / 256 ^ (k + 1) < 18446744073709551616 by omega), small64 (show V / 256 ^ k % 256 < 18446744073709551616 by omega), small64 (show V / 256 ^ k < 18446744073709551616 by omega), show (256#64 : W64).toNat = 256 from rfl, hdd]
        omega) (s0 := (0#64, (q.length : Int) - 1)) ⟨rfl, Nat.le_refl _, by
      have h1 := dV_lt hq
      have e : ((256 ^ q.length : Nat) : Int) = (256 : Int) ^ q.length := by rw [Int.natCast_pow]; rfl
      rw [hv, ← e] at h1
      rw [Nat.div_eq_of_lt (by omega)]⟩ (by omega)
  exact ⟨j, by rw [hl, ho]⟩
end Go.Proofs.Ytccilbklafhjiaa
