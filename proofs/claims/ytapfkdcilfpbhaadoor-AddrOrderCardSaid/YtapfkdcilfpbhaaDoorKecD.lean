/- keccak's Sum: the program's. -/
import Derived.Test.YtapfkdcilfpbhaaDoorKecC
namespace Go.Proofs.YtapfkdcilfpbhaaDoor
open Go.RowKit
set_option linter.unusedVariables false
set_option linter.unusedSimpArgs false
theorem sum_step {l : List B8} {s : Vec W64 25} (hl : 136 ≤ l.length) : keccak_Sum.b1 constT placesT turnsT s l = some (.next (turnV (xorF s (lget l) 136), l.drop 136)) := by
  have h1 : decide ((136 : Int) ≤ (l.length : Int)) = true := decide_eq_true (by omega)
  have hn : (136 : Int).toNat = 136 := rfl
  have hc : ((l.take 136).drop 0).length = 136 := by simp; omega
  simp only [keccak_Sum.b1, Let_eq, h1, cond_true, Chk_ok (show (0 : Int) ≤ 136 ∧ (136 : Int) ≤ (l.length : Int) by omega), hn, absorb_eq (show ((l.take 136).drop 0).length ≤ 200 by omega), Option.bind_some, hc]
  rw [Chk_ok (show (0 : Int) ≤ 0 ∧ (0 : Nat) ≤ 136 ∧ (136 : Int) ≤ (l.length : Int) by omega), List.take_length]
  refine congrArg (fun x => some (Ctl.next (x, l.drop 136))) ?_
  exact congrArg turnV (xorF_congr fun i hi => by
    have := lget_cut (l := l) (k := 0) hi
    simpa using this)
theorem sum_eq {l : List B8} (hl : l.length ≤ 140737488355328) : keccak_Sum constT placesT turnsT l = some (kecV l) := by
  have hq : l.length / 136 * 136 ≤ l.length := Nat.div_mul_le_self _ _
  have h := wlx_for (b := fun s => keccak_Sum.b1 constT placesT turnsT s.1 s.2) (fun i => (spF (lget l) i, l.drop (136 * i))) (n := l.length / 136) (s' := (spF (lget l) (l.length / 136), l.drop (136 * (l.length / 136)))) (fun i hi => by
    have hi' : 136 * i + 136 ≤ l.length := by
      have : (i + 1) * 136 ≤ l.length / 136 * 136 := Nat.mul_le_mul_right _ hi
      omega
    show keccak_Sum.b1 constT placesT turnsT (spF (lget l) i) (l.drop (136 * i)) = _
    rw [sum_step (by rw [List.length_drop]; omega)]
    refine congrArg (fun x => some (Ctl.next x)) (Prod.ext ?_ ?_)
    · exact congrArg turnV (xorF_congr fun j hj => by
        unfold lget; simp [List.getElem?_drop])
    · show (l.drop (136 * i)).drop 136 = l.drop (136 * (i + 1))
      rw [List.drop_drop, Nat.mul_succ]) (by
    have : ¬ (136 : Int) ≤ ((l.drop (136 * (l.length / 136))).length : Int) := by rw [List.length_drop]; omega
    simp only [keccak_Sum.b1, Let_eq, decide_eq_false this, cond_false]) (by omega)
  have h0 : (Vec.rep 25 0#64, l) = (fun i : Nat => (spF (lget l) i, l.drop (136 * i))) 0 := by simp [spF]
  unfold keccak_Sum
  rw [h0, h]
  show (Let (((Vec.rep 136 0#8).l.take 136).drop 0) fun x17 => _) = _
  obtain ⟨r, hr⟩ : ∃ r, r = l.drop (136 * (l.length / 136)) := ⟨_, rfl⟩
  have hrl : r.length = l.length % 136 := by rw [hr, List.length_drop]; omega
  have hrm : r.length < 136 := by omega
  have hmin : ((Nat.min r.length (136 - 0) : Nat) : Int) = (r.length : Int) := by rw [show Nat.min r.length (136 - 0) = r.length from Nat.min_eq_left (by omega)]
  simp only [← hr, Let_eq, hmin, Chk_ok (int_idx hrm), Int.toNat_natCast, List.drop_zero]
  have hlast : ∀ v : Vec B8 136, (v.l.take 136) = v.l := fun v => by rw [List.take_of_length_le (by rw [v.hl]; omega)]
  rw [hlast]
  have hv : ∀ v : Vec B8 136, keccak_absorb constT placesT turnsT (spF (lget l) (l.length / 136)) v.l = some (turnV (xorF (spF (lget l) (l.length / 136)) (lget v.l) 136)) := fun v => by
    rw [absorb_eq (by rw [v.hl]; omega), v.hl]
  rw [hv, Option.bind_some, squeeze_eq]
  show some (outV _) = some (outV _)
  refine congrArg (fun x => some (outV x)) ?_
  show turnV _ = turnV _
  rw [spF_congr (f := lget l) (g := padF l) fun i hi => by
    unfold padF
    rw [if_pos (by omega), if_neg (by omega)]; simp]
  refine congrArg turnV (xorF_congr fun i hi => ?_)
  have hget : ∀ (v : Vec B8 136) (j : Nat), lget v.l j = v.get j := fun _ _ => rfl
  rw [hget]
  simp only [Vec.get_set _ (show 135 < 136 by omega), Vec.get_set _ hrm, Vec.get_put _ _ _ hi, Vec.get_put _ _ _ (show 135 < 136 by omega), Vec.get_rep hi, Vec.get_rep (show 135 < 136 by omega)]
  have htk : r.take (136 - 0) = r := List.take_of_length_le (by omega)
  have hri : ∀ j, lget r j = lget l (136 * (l.length / 136) + j) := fun j => by rw [hr]; unfold lget; simp [List.getElem?_drop]
  rw [htk]
  unfold padF
  simp only [Nat.zero_add, Nat.zero_le, true_and, Nat.sub_zero, hri]
  by_cases e : 135 = i
  · subst e
    simp only [if_true]
    by_cases e2 : r.length = 135
    · simp [e2, show 136 * (l.length / 136) + 135 = l.length by omega]
    · rw [if_neg e2, if_neg (show ¬ 135 < r.length by omega), if_neg (show ¬ 136 * (l.length / 136) + 135 < l.length by omega), if_neg (show ¬ 136 * (l.length / 136) + 135 = l.length by omega)]
  · rw [if_neg e, if_neg (show ¬ 136 * (l.length / 136) + i = 136 * (l.length / 136) + 135 by omega)]
    by_cases e2 : r.length = i
    · rw [if_pos e2, if_neg (show ¬ 136 * (l.length / 136) + i < l.length by omega), if_pos (show 136 * (l.length / 136) + i = l.length by omega)]; rfl
    · rw [if_neg e2]
      by_cases e3 : i < r.length
      · rw [if_pos e3, if_pos (show 136 * (l.length / 136) + i < l.length by omega)]; simp
      · rw [if_neg e3, if_neg (show ¬ 136 * (l.length / 136) + i < l.length by omega), if_neg (show ¬ 136 * (l.length / 136) + i = l.length by omega)]; rfl
end Go.Proofs.YtapfkdcilfpbhaaDoor
