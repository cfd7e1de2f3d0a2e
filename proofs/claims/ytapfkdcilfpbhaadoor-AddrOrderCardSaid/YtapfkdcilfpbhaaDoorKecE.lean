/- keccak's Sum: the document's. -/
import Derived.Test.YtapfkdcilfpbhaaDoorKecD
namespace Go.Proofs.YtapfkdcilfpbhaaDoor
open Go.RowKit
set_option linter.unusedVariables false
set_option linter.unusedSimpArgs false
def refS (f : Nat → B8) : Nat → Vec W64 25
  | 0 => Vec.rep 25 0#64
  | i + 1 => if i % 136 = 135 then turnV (xorB (refS f i) (i % 136) (f i)) else xorB (refS f i) (i % 136) (f i)
theorem refS_succ (f : Nat → B8) (i : Nat) : refS f (i + 1) = if i % 136 = 135 then turnV (xorB (refS f i) (i % 136) (f i)) else xorB (refS f i) (i % 136) (f i) := rfl
theorem refS_in {f : Nat → B8} {j : Nat} (h : refS f (136 * j) = spF f j) : ∀ {r : Nat}, r < 136 → refS f (136 * j + r) = xorF (spF f j) (fun i => f (136 * j + i)) r
  | 0, _ => h
  | r + 1, hr => by
    have ih := refS_in h (r := r) (by omega)
    show refS f ((136 * j + r) + 1) = _
    unfold refS xorF
    rw [if_neg (by omega), ih, show (136 * j + r) % 136 = r by omega]
theorem refS_eq (f : Nat → B8) : ∀ j, refS f (136 * j) = spF f j
  | 0 => rfl
  | j + 1 => by
    have ih := refS_in (refS_eq f j) (r := 135) (by omega)
    show refS f ((136 * j + 135) + 1) = _
    unfold refS
    rw [if_pos (by omega), ih, show (136 * j + 135) % 136 = 135 by omega]
    rfl
theorem ref_byte {l : List B8} {i : Nat} (hi : i < l.length) (hl : l.length ≤ 281474976710656) : smithyref05_Sum.b2 l (refS (lget l) i) (i : Int) = some (.next (refS (lget l) (i + 1), ((i + 1 : Nat) : Int))) := by
  have h1 : decide ((i : Int) < (l.length : Int)) = true := decide_eq_true (by omega)
  have h2 : wi ((i : Int) + 1) = ((i + 1 : Nat) : Int) := by rw [wi_id (by omega)]; omega
  have h3 : Int.tmod (i : Int) 136 = ((i % 136 : Nat) : Int) := tmod_nat i 136
  have h4 : wi (Int.tdiv ((i % 136 : Nat) : Int) 8) = ((i % 136 / 8 : Nat) : Int) := by rw [show (8 : Int) = ((8 : Nat) : Int) from rfl, tdiv_nat]; exact wi_nat (by omega)
  have h5 : wi (8 * Int.tmod ((i % 136 : Nat) : Int) 8) = ((8 * (i % 136 % 8) : Nat) : Int) := by rw [show (8 : Int) = ((8 : Nat) : Int) from rfl, tmod_nat, wi_id (by omega)]; omega
  have h6 : (((i % 136 : Nat) : Int) == 135) = decide (i % 136 = 135) := by
    by_cases e : i % 136 = 135
    · rw [e]; rfl
    · rw [decide_eq_false e]; exact beq_eq_false_iff_ne.2 (by omega)
  rw [refS_succ]
  simp only [smithyref05_Sum.b2, Let_eq, h1, cond_true, h2, h3, h4, h5, h6, Int.toNat_natCast, Chk_ok (show (0 : Int) ≤ (i : Int) ∧ (i : Int) < (l.length : Int) by omega), Chk_ok (int_idx (show i % 136 / 8 < 25 by omega)), Chk_ok (Int.natCast_nonneg (8 * (i % 136 % 8)))]
  by_cases e : i % 136 = 135
  · simp only [e, decide_true, cond_true, if_true, ref_turn_eq, Option.bind_some, xorB]
  · simp only [e, decide_false, cond_false, if_false, Option.bind_some, xorB]
theorem ref_sum_eq {l : List B8} (hl : l.length ≤ 140737488355000) : smithyref05_Sum l = some (kecV l) := by
  obtain ⟨n, hn⟩ : ∃ n, n = 135 - l.length % 136 := ⟨_, rfl⟩
  have hN : l.length + 1 + n = 136 * (l.length / 136 + 1) := by omega
  have h := wlx_for (b := fun s => smithyref05_Sum.b1 s) (fun i => (l ++ [1#8]) ++ List.replicate i 0#8) (n := n) (s' := (l ++ [1#8]) ++ List.replicate n 0#8) (fun i hi => by
    have h1 : Int.tmod ((((l ++ [1#8]) ++ List.replicate i 0#8).length : Nat) : Int) 136 = (((l.length + 1 + i) % 136 : Nat) : Int) := by
      rw [show (((l ++ [1#8]) ++ List.replicate i 0#8).length) = l.length + 1 + i by simp; omega]; exact tmod_nat _ 136
    have h2 : ((((l.length + 1 + i) % 136 : Nat) : Int) != 0) = true := by
      have : (l.length + 1 + i) % 136 ≠ 0 := by omega
      exact bne_iff_ne.2 (by omega)
    simp only [smithyref05_Sum.b1, Let_eq, h1, h2, cond_true]
    rw [Chk_ok (by simp; omega)]
    simp [List.replicate_succ']) (by
    have h1 : Int.tmod ((((l ++ [1#8]) ++ List.replicate n 0#8).length : Nat) : Int) 136 = 0 := by
      rw [show (((l ++ [1#8]) ++ List.replicate n 0#8).length) = 136 * (l.length / 136 + 1) by rw [← hN]; simp; omega]
      rw [show (136 : Int) = ((136 : Nat) : Int) from rfl, tmod_nat, Nat.mul_mod_right]; rfl
    simp only [smithyref05_Sum.b1, Let_eq, h1]; rfl) (by omega)
  simp only [List.replicate_zero, List.append_nil] at h
  obtain ⟨p, hp⟩ : ∃ p, p = (l ++ [1#8]) ++ List.replicate n 0#8 := ⟨_, rfl⟩
  have hpl : p.length = 136 * (l.length / 136 + 1) := by rw [hp, ← hN]; simp; omega
  rw [← hp] at h
  have hw : wi ((p.length : Int) - 1) = ((p.length - 1 : Nat) : Int) := by rw [wi_id (by omega)]; omega
  have hpg : ∀ i, i < p.length → lget p i = if i < l.length then lget l i else if i = l.length then 1#8 else 0#8 := fun i hi => by
    rw [hp]; unfold lget
    simp only [List.getD_eq_getElem?_getD, List.append_assoc, List.getElem?_append, List.getElem?_cons, List.getElem?_replicate, List.length_cons, List.length_nil]
    by_cases e : i < l.length
    · simp [e]
    · by_cases e2 : i = l.length
      · subst e2; simp
      · have h1 : ¬ i - l.length < 0 + 1 := by omega
        have h2 : i - l.length - (0 + 1) < n := by omega
        simp only [e, e2, h1, h2, if_false, if_true]
        rfl
  obtain ⟨q, hq⟩ : ∃ q, q = p.set (p.length - 1) (lget p (p.length - 1) ||| 128#8) := ⟨_, rfl⟩
  have hql : q.length = 136 * (l.length / 136 + 1) := by rw [hq, List.length_set, hpl]
  have hqg : ∀ i, i < q.length → lget q i = padF l i := fun i hi => by
    have h1 : lget q i = if p.length - 1 = i then lget p (p.length - 1) ||| 128#8 else lget p i := by
      rw [hq]; unfold lget
      simp only [List.getD_eq_getElem?_getD, List.getElem?_set]
      by_cases e : p.length - 1 = i
      · rw [if_pos e, if_pos e, if_pos (by omega)]; simp
      · rw [if_neg e, if_neg e]
    unfold padF
    rw [h1]
    by_cases e : p.length - 1 = i
    · rw [if_pos e, if_pos (show i = 136 * (l.length / 136) + 135 by omega), hpg _ (by omega), e]
    · rw [if_neg e, if_neg (show ¬ i = 136 * (l.length / 136) + 135 by omega), hpg i (by omega)]; simp
  have hloop := wlx_for (b := fun s => smithyref05_Sum.b2 q s.1 s.2) (fun i => (refS (lget q) i, (i : Int))) (n := q.length) (s' := (refS (lget q) q.length, (q.length : Int))) (fun i hi => ref_byte hi (by omega)) (by
    simp only [smithyref05_Sum.b2, Let_eq, decide_eq_false (show ¬ (q.length : Int) < (q.length : Int) by omega), cond_false]) (by omega)
  have h0 : (Vec.rep 25 0#64, (0 : Int)) = (fun i : Nat => (refS (lget q) i, (i : Int))) 0 := rfl
  unfold smithyref05_Sum
  simp only [Let_eq, List.nil_append, List.length_nil, List.length_append, List.length_cons]
  rw [Chk_ok (by omega), Chk_ok (by omega), h]
  show Chk _ _ = _
  rw [Chk_ok (show (0 : Int) ≤ wi ((p.length : Int) - 1) ∧ wi ((p.length : Int) - 1) < (p.length : Int) by rw [hw]; omega)]
  rw [Chk_ok (show (0 : Int) ≤ wi ((p.length : Int) - 1) ∧ wi ((p.length : Int) - 1) < (p.length : Int) by rw [hw]; omega)]
  rw [hw, Int.toNat_natCast, ← hq, h0, hloop]
  show (wlx _ _).bind _ = _
  rw [ref_squeeze]
  show some (outV _) = some (outV _)
  rw [hql, refS_eq]
  exact congrArg (fun x => some (outV x)) (spF_congr fun i hi => hqg i (by omega))
end Go.Proofs.YtapfkdcilfpbhaaDoor
