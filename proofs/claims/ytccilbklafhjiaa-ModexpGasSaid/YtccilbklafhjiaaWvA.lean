/- Words as numbers: sums, differences. -/
import Derived.Test.YtccilbklafhjiaaMcA
namespace Go.Proofs.Ytccilbklafhjiaa
open Go.RowKit
set_option linter.unusedVariables false
set_option linter.unusedSimpArgs false
theorem Chk_ok {β : Type} {c : Prop} {inst : Decidable c} (h : c) (x : Option β) : @Chk β c inst x = x := if_pos h
abbrev W64 := BitVec 64
abbrev Word4 := Vec W64 4
theorem int_idx {i n : Nat} (h : i < n) : 0 ≤ (i : Int) ∧ (i : Int) < ((n : Nat) : Int) := by omega
theorem Vec.get_map {α : Type} [Inhabited α] {n i : Nat} (f : Nat → α) (h : ((List.range n).map f).length = n) (hi : i < n) : (⟨(List.range n).map f, h⟩ : Vec α n).get i = f i := by
  unfold Vec.get; simp [hi]
/-- A word's number. -/
def wv (a : Word4) : Nat := (a.get 0).toNat + 18446744073709551616 * ((a.get 1).toNat + 18446744073709551616 * ((a.get 2).toNat + 18446744073709551616 * (a.get 3).toNat))
theorem wv_lt (a : Word4) : wv a < 2 ^ 256 := by
  have h0 := (a.get 0).isLt; have h1 := (a.get 1).isLt; have h2 := (a.get 2).isLt; have h3 := (a.get 3).isLt
  unfold wv; omega
theorem wv_inj {a b : Word4} (h : wv a = wv b) : a = b := by
  have h0 := (a.get 0).isLt; have h1 := (a.get 1).isLt; have h2 := (a.get 2).isLt; have h3 := (a.get 3).isLt
  have k0 := (b.get 0).isLt; have k1 := (b.get 1).isLt; have k2 := (b.get 2).isLt; have k3 := (b.get 3).isLt
  unfold wv at h
  refine Vec.ext_get fun i hi => BitVec.eq_of_toNat_eq ?_
  match i, hi with
  | 0, _ => omega
  | 1, _ => omega
  | 2, _ => omega
  | 3, _ => omega
theorem add64_val (x y c : W64) : (add64 x y c).1.toNat + 18446744073709551616 * (add64 x y c).2.toNat = x.toNat + y.toNat + c.toNat := by
  have hx := x.isLt; have hy := y.isLt; have hc := c.isLt
  unfold add64
  simp only [BitVec.toNat_add, BitVec.toNat_ofNat]
  omega
theorem sub64_val (x y c : W64) (h : c.toNat ≤ 1) : (sub64 x y c).1.toNat + y.toNat + c.toNat = x.toNat + 18446744073709551616 * (sub64 x y c).2.toNat := by
  have hx := x.isLt; have hy := y.isLt; have hc := c.isLt
  unfold sub64
  simp only [BitVec.toNat_sub]
  split
  · rw [show (1#64 : W64).toNat = 1 from rfl]; omega
  · rw [show (0#64 : W64).toNat = 0 from rfl]; omega
def addC (a b : Word4) : Nat → W64
  | 0 => 0#64
  | i + 1 => (add64 (a.get i) (b.get i) (addC a b i)).2
theorem addC_le (a b : Word4) : ∀ i, (addC a b i).toNat ≤ 1
  | 0 => by show (0#64 : W64).toNat ≤ 1; decide
  | i + 1 => carry_le _ _ _ (addC_le a b i)
def addS (a b : Word4) (n : Nat) : Word4 := ⟨(List.range 4).map fun i => if i < n then (add64 (a.get i) (b.get i) (addC a b i)).1 else 0#64, by simp⟩
theorem addS_get (a b : Word4) (n : Nat) {i : Nat} (hi : i < 4) : (addS a b n).get i = if i < n then (add64 (a.get i) (b.get i) (addC a b i)).1 else 0#64 := Vec.get_map _ _ hi
theorem addS_succ (a b : Word4) {i : Nat} (hi : i < 4) : (addS a b i).set i (add64 (a.get i) (b.get i) (addC a b i)).1 = addS a b (i + 1) := by
  refine Vec.ext_get fun p hp => ?_
  rw [Vec.get_set _ hi, addS_get _ _ _ hp, addS_get _ _ _ hp]
  by_cases e : i = p
  · subst e; rw [if_pos rfl, if_pos (by omega)]
  · rw [if_neg e]
    by_cases e2 : p < i
    · rw [if_pos e2, if_pos (by omega)]
    · rw [if_neg e2, if_neg (by omega)]
theorem Add_eq (a b : Word4) : word_Add a b = some (addS a b 4) := by
  have h := wlx_for (b := fun s => word_Add.b1 a b s.1 s.2.1 s.2.2) (fun i => (addS a b i, addC a b i, (i : Int))) (n := 4) (s' := (addS a b 4, addC a b 4, (4 : Int))) (fun i hi => by
    have h1 : decide ((i : Int) < 4) = true := decide_eq_true (by omega)
    have h2 : wi ((i : Int) + 1) = ((i + 1 : Nat) : Int) := by rw [wi_id (by omega)]; omega
    simp only [word_Add.b1, Let_eq, h1, cond_true, Chk_ok (int_idx hi), Int.toNat_natCast, h2, Chk_ok (addC_le a b i), addS_succ a b hi]
    rfl) (by simp only [word_Add.b1, Let_eq]; rfl) (by omega)
  have h0 : ((Vec.rep 4 0#64, 0#64, 0) : Word4 × W64 × Int) = (fun i : Nat => (addS a b i, addC a b i, (i : Int))) 0 := by
    refine Prod.ext (Vec.ext_get fun p hp => ?_) rfl
    show (Vec.rep 4 0#64).get p = (addS a b 0).get p
    rw [Vec.get_rep hp, addS_get _ _ _ hp, if_neg (by omega)]
  unfold word_Add
  rw [h0, h]; rfl
theorem addS_val (a b : Word4) : wv (addS a b 4) + 2 ^ 256 * (addC a b 4).toNat = wv a + wv b := by
  have e0 := add64_val (a.get 0) (b.get 0) (addC a b 0)
  have e1 := add64_val (a.get 1) (b.get 1) (addC a b 1)
  have e2 := add64_val (a.get 2) (b.get 2) (addC a b 2)
  have e3 := add64_val (a.get 3) (b.get 3) (addC a b 3)
  have c0 : (addC a b 0).toNat = 0 := rfl
  have c1 : addC a b 1 = (add64 (a.get 0) (b.get 0) (addC a b 0)).2 := rfl
  have c2 : addC a b 2 = (add64 (a.get 1) (b.get 1) (addC a b 1)).2 := rfl
  have c3 : addC a b 3 = (add64 (a.get 2) (b.get 2) (addC a b 2)).2 := rfl
  have c4 : addC a b 4 = (add64 (a.get 3) (b.get 3) (addC a b 3)).2 := rfl
  rw [← c1] at e0; rw [← c2] at e1; rw [← c3] at e2; rw [← c4] at e3
  unfold wv
  rw [addS_get _ _ _ (show 0 < 4 by omega), addS_get _ _ _ (show 1 < 4 by omega), addS_get _ _ _ (show 2 < 4 by omega), addS_get _ _ _ (show 3 < 4 by omega)]
  simp only [show (0 < 4) = True from by simp, show (1 < 4) = True from by simp, show (2 < 4) = True from by simp, show (3 < 4) = True from by simp, if_true]
  omega
/-- The sum, and whether it went round. -/
theorem Add_val (a b : Word4) : wv (addS a b 4) = (wv a + wv b) % 2 ^ 256 := by
  have h := addS_val a b
  have h1 := wv_lt (addS a b 4)
  omega
def subC (a b : Word4) : Nat → W64
  | 0 => 0#64
  | i + 1 => (sub64 (a.get i) (b.get i) (subC a b i)).2
theorem subC_le (a b : Word4) : ∀ i, (subC a b i).toNat ≤ 1
  | 0 => by show (0#64 : W64).toNat ≤ 1; decide
  | i + 1 => borrow_le _ _ _
def subS (a b : Word4) (n : Nat) : Word4 := ⟨(List.range 4).map fun i => if i < n then (sub64 (a.get i) (b.get i) (subC a b i)).1 else 0#64, by simp⟩
theorem subS_get (a b : Word4) (n : Nat) {i : Nat} (hi : i < 4) : (subS a b n).get i = if i < n then (sub64 (a.get i) (b.get i) (subC a b i)).1 else 0#64 := Vec.get_map _ _ hi
theorem subS_succ (a b : Word4) {i : Nat} (hi : i < 4) : (subS a b i).set i (sub64 (a.get i) (b.get i) (subC a b i)).1 = subS a b (i + 1) := by
  refine Vec.ext_get fun p hp => ?_
  rw [Vec.get_set _ hi, subS_get _ _ _ hp, subS_get _ _ _ hp]
  by_cases e : i = p
  · subst e; rw [if_pos rfl, if_pos (by omega)]
  · rw [if_neg e]
    by_cases e2 : p < i
    · rw [if_pos e2, if_pos (by omega)]
    · rw [if_neg e2, if_neg (by omega)]
theorem Sub_eq (a b : Word4) : word_Sub a b = some (subS a b 4) := by
  have h := wlx_for (b := fun s => word_Sub.b1 a b s.1 s.2.1 s.2.2) (fun i => (subS a b i, subC a b i, (i : Int))) (n := 4) (s' := (subS a b 4, subC a b 4, (4 : Int))) (fun i hi => by
    have h1 : decide ((i : Int) < 4) = true := decide_eq_true (by omega)
    have h2 : wi ((i : Int) + 1) = ((i + 1 : Nat) : Int) := by rw [wi_id (by omega)]; omega
    simp only [word_Sub.b1, Let_eq, h1, cond_true, Chk_ok (int_idx hi), Int.toNat_natCast, h2, Chk_ok (subC_le a b i), subS_succ a b hi]
    rfl) (by simp only [word_Sub.b1, Let_eq]; rfl) (by omega)
  have h0 : ((Vec.rep 4 0#64, 0#64, 0) : Word4 × W64 × Int) = (fun i : Nat => (subS a b i, subC a b i, (i : Int))) 0 := by
    refine Prod.ext (Vec.ext_get fun p hp => ?_) rfl
    show (Vec.rep 4 0#64).get p = (subS a b 0).get p
    rw [Vec.get_rep hp, subS_get _ _ _ hp, if_neg (by omega)]
  unfold word_Sub
  rw [h0, h]; rfl
theorem subS_val (a b : Word4) : wv (subS a b 4) + wv b = wv a + 2 ^ 256 * (subC a b 4).toNat := by
  have e0 := sub64_val (a.get 0) (b.get 0) (subC a b 0) (subC_le a b 0)
  have e1 := sub64_val (a.get 1) (b.get 1) (subC a b 1) (subC_le a b 1)
  have e2 := sub64_val (a.get 2) (b.get 2) (subC a b 2) (subC_le a b 2)
  have e3 := sub64_val (a.get 3) (b.get 3) (subC a b 3) (subC_le a b 3)
  have c0 : (subC a b 0).toNat = 0 := rfl
  have c1 : subC a b 1 = (sub64 (a.get 0) (b.get 0) (subC a b 0)).2 := rfl
  have c2 : subC a b 2 = (sub64 (a.get 1) (b.get 1) (subC a b 1)).2 := rfl
  have c3 : subC a b 3 = (sub64 (a.get 2) (b.get 2) (subC a b 2)).2 := rfl
  have c4 : subC a b 4 = (sub64 (a.get 3) (b.get 3) (subC a b 3)).2 := rfl
  rw [← c1] at e0; rw [← c2] at e1; rw [← c3] at e2; rw [← c4] at e3
  unfold wv
  rw [subS_get _ _ _ (show 0 < 4 by omega), subS_get _ _ _ (show 1 < 4 by omega), subS_get _ _ _ (show 2 < 4 by omega), subS_get _ _ _ (show 3 < 4 by omega)]
  simp only [show (0 < 4) = True from by simp, show (1 < 4) = True from by simp, show (2 < 4) = True from by simp, show (3 < 4) = True from by simp, if_true]
  omega
/-- The difference, of a number that is not less. -/
theorem Sub_val {a b : Word4} (h : wv b ≤ wv a) : wv (subS a b 4) = wv a - wv b := by
  have h0 := subS_val a b
  have h1 := wv_lt (subS a b 4)
  have h2 := subC_le a b 4
  have h3 := wv_lt a
  omega
/-- How words stand to each other. -/
def cmpV (a b : Word4) : Int := if wv a = wv b then 0 else if wv a < wv b then -1 else 1
theorem cmp_step (a b : Word4) {i : Nat} (hi : i < 4) : word_Compare.b1 a b (i : Int) = bif (a.get i == b.get i) then some (.next (wi ((i : Int) - 1))) else some (.brk (i : Int)) := by
  simp only [word_Compare.b1, Let_eq, Chk_ok (int_idx hi), Int.toNat_natCast]
theorem cmp_end (a b : Word4) {i : Nat} (hi : i < 4) (hw : wlx (fun s => word_Compare.b1 a b s) 3 = some (.inl (i : Int))) (hne : a ≠ b) : word_Compare a b = some (if (a.get i).toNat < (b.get i).toNat then -1 else 1) := by
  have hl : (a.l == b.l) = false := beq_eq_false_iff_ne.2 fun h => hne (Vec.ext h)
  unfold word_Compare
  simp only [Let_eq, hl, cond_false]
  rw [hw]
  show (Chk _ _) = _
  simp only [Chk_ok (int_idx hi), Int.toNat_natCast, Let_eq]
  by_cases e : (a.get i).toNat < (b.get i).toNat
  · rw [decide_eq_true e, if_pos e]; rfl
  · rw [decide_eq_false e, if_neg e]; rfl
theorem Compare_eq (a b : Word4) : word_Compare a b = some (cmpV a b) := by
  by_cases hab : a = b
  · subst hab
    unfold word_Compare cmpV
    simp only [Let_eq, beq_self_eq_true, cond_true, if_true]
  have hwv : wv a ≠ wv b := fun h => hab (wv_inj h)
  have a0 := (a.get 0).isLt; have a1 := (a.get 1).isLt; have a2 := (a.get 2).isLt; have a3 := (a.get 3).isLt
  have b0 := (b.get 0).isLt; have b1 := (b.get 1).isLt; have b2 := (b.get 2).isLt; have b3 := (b.get 3).isLt
  have hw3 : wi (((3 : Nat) : Int) - 1) = ((2 : Nat) : Int) := by rw [wi_id (by omega)]; rfl
  have hw2 : wi (((2 : Nat) : Int) - 1) = ((1 : Nat) : Int) := by rw [wi_id (by omega)]; rfl
  have hw1 : wi (((1 : Nat) : Int) - 1) = ((0 : Nat) : Int) := by rw [wi_id (by omega)]; rfl
  have s3 := cmp_step a b (show 3 < 4 by omega)
  have s2 := cmp_step a b (show 2 < 4 by omega)
  have s1 := cmp_step a b (show 1 < 4 by omega)
  have s0 := cmp_step a b (show 0 < 4 by omega)
  rw [hw3] at s3; rw [hw2] at s2; rw [hw1] at s1
  unfold cmpV
  rw [if_neg hwv]
  unfold wv at hwv ⊢
  have ne_of : ∀ {x y : W64}, (x == y) = false → x.toNat ≠ y.toNat := fun h e => by
    have := BitVec.eq_of_toNat_eq e; subst this; simp at h
  have eq_of : ∀ {x y : W64}, (x == y) = true → x = y := fun h => by simpa using h
  cases h3 : (a.get 3 == b.get 3) with
  | false =>
    rw [h3] at s3
    rw [cmp_end a b (show 3 < 4 by omega) (wlx_of (wlk_brk (k := 0) s3) (by omega)) hab]
    have := ne_of h3
    by_cases e : (a.get 3).toNat < (b.get 3).toNat
    · rw [if_pos e, if_pos (by omega)]
    · rw [if_neg e, if_neg (by omega)]
  | true =>
    rw [h3] at s3
    have e3 := eq_of h3
    rw [e3] at hwv ⊢
    cases h2 : (a.get 2 == b.get 2) with
    | false =>
      rw [h2] at s2
      rw [cmp_end a b (show 2 < 4 by omega) (wlx_of (k := 2) ((wlk_next (k := 1) s3).trans (wlk_brk (k := 0) s2)) (by omega)) hab]
      have := ne_of h2
      by_cases e : (a.get 2).toNat < (b.get 2).toNat
      · rw [if_pos e, if_pos (by omega)]
      · rw [if_neg e, if_neg (by omega)]
    | true =>
      rw [h2] at s2
      have e2 := eq_of h2
      rw [e2] at hwv ⊢
      cases h1 : (a.get 1 == b.get 1) with
      | false =>
        rw [h1] at s1
        rw [cmp_end a b (show 1 < 4 by omega) (wlx_of (k := 3) ((wlk_next (k := 2) s3).trans ((wlk_next (k := 1) s2).trans (wlk_brk (k := 0) s1))) (by omega)) hab]
        have := ne_of h1
        by_cases e : (a.get 1).toNat < (b.get 1).toNat
        · rw [if_pos e, if_pos (by omega)]
        · rw [if_neg e, if_neg (by omega)]
      | true =>
        rw [h1] at s1
        have e1 := eq_of h1
        rw [e1] at hwv ⊢
        cases h0 : (a.get 0 == b.get 0) with
        | false =>
          rw [h0] at s0
          rw [cmp_end a b (show 0 < 4 by omega) (wlx_of (k := 4) ((wlk_next (k := 3) s3).trans ((wlk_next (k := 2) s2).trans ((wlk_next (k := 1) s1).trans (wlk_brk (k := 0) s0)))) (by omega)) hab]
          have := ne_of h0
          by_cases e : (a.get 0).toNat < (b.get 0).toNat
          · rw [if_pos e, if_pos (by omega)]
          · rw [if_neg e, if_neg (by omega)]
        | true =>
          have e0 := eq_of h0
          rw [e0] at hwv
          exact absurd rfl hwv
end Go.Proofs.Ytccilbklafhjiaa
