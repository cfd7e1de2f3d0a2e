/- The document's numbers of any length: digits. -/
import Derived.Test.YtccilbklafhjiaaWvB
import Derived.Test.YtccilbklafhjiaaMcC
namespace Go.Proofs.Ytccilbklafhjiaa
open Go.RowKit
set_option linter.unusedVariables false
set_option linter.unusedSimpArgs false
/-- Digits to the base 256. -/
def Dg (l : List Int) : Prop := ∀ i, i < l.length → 0 ≤ lget l i ∧ lget l i < 256
def dv (l : List Int) : Int := match l with
  | [] => 0
  | x :: r => x + 256 * dv r
/-- The digit at a place; nought behind the end. -/
def dat (l : List Int) (i : Nat) : Int := if i < l.length then lget l i else 0
theorem at_eq (l : List Int) (i : Nat) (hl : l.length < 1152921504606846976) : smithyref02_at l (i : Int) = some (dat l i) := by
  unfold smithyref02_at dat
  simp only [Let_eq]
  by_cases e : i < l.length
  · rw [decide_eq_true (show (i : Int) < (l.length : Int) by omega), cond_true, Chk_ok (by omega), if_pos e, Int.toNat_natCast]
  · rw [decide_eq_false (show ¬ (i : Int) < (l.length : Int) by omega), cond_false, if_neg e]
theorem dat_bounds {l : List Int} (h : Dg l) (i : Nat) : 0 ≤ dat l i ∧ dat l i < 256 := by
  unfold dat
  by_cases e : i < l.length
  · rw [if_pos e]; exact h i e
  · rw [if_neg e]; omega
def dsum (f : Nat → Int) : Nat → Int
  | 0 => 0
  | n + 1 => dsum f n + f n * 256 ^ n
theorem dsum_congr {f g : Nat → Int} : ∀ {n : Nat}, (∀ j, j < n → f j = g j) → dsum f n = dsum g n
  | 0, _ => rfl
  | n + 1, h => by unfold dsum; rw [dsum_congr fun j hj => h j (by omega), h n (by omega)]
/-! Sums. -/
def plC (f g : Nat → Int) : Nat → Int
  | 0 => 0
  | i + 1 => (f i + g i + plC f g i) / 256
def plD (f g : Nat → Int) (i : Nat) : Int := (f i + g i + plC f g i) % 256
theorem plC_bounds {f g : Nat → Int} (hf : ∀ i, 0 ≤ f i ∧ f i < 256) (hg : ∀ i, 0 ≤ g i ∧ g i < 256) : ∀ i, 0 ≤ plC f g i ∧ plC f g i ≤ 1
  | 0 => by unfold plC; omega
  | i + 1 => by
    have := plC_bounds hf hg i
    have h1 := hf i
    have h2 := hg i
    unfold plC; omega
theorem plD_val (f g : Nat → Int) : ∀ n, dsum (plD f g) n + plC f g n * 256 ^ n = dsum f n + dsum g n
  | 0 => by simp [dsum, plC]
  | n + 1 => by
    have ih := plD_val f g n
    have e : plD f g n + 256 * plC f g (n + 1) = f n + g n + plC f g n := by
      show (f n + g n + plC f g n) % 256 + 256 * ((f n + g n + plC f g n) / 256) = _
      omega
    have e2 : (plD f g n + 256 * plC f g (n + 1)) * 256 ^ n = (f n + g n + plC f g n) * 256 ^ n := by rw [e]
    have e3 : plC f g (n + 1) * 256 ^ (n + 1) = 256 * plC f g (n + 1) * 256 ^ n := by rw [Int.pow_succ, Int.mul_comm (256 ^ n) 256, ← Int.mul_assoc, Int.mul_comm (plC f g (n + 1)) 256]
    simp only [Int.add_mul] at e2
    show dsum (plD f g) n + plD f g n * 256 ^ n + plC f g (n + 1) * 256 ^ (n + 1) = dsum f n + f n * 256 ^ n + (dsum g n + g n * 256 ^ n)
    omega
theorem Plus_eq {a b : List Int} (ha : Dg a) (hb : Dg b) (la : a.length ≤ 1000) (lb : b.length ≤ 1000) : smithyref02_Plus a b = some ((List.range (max a.length b.length + 1)).map (plD (dat a) (dat b))) := by
  have h := wlx_for (b := fun s => smithyref02_Plus.b1 a b s.1 s.2.1 s.2.2) (fun i => ((List.range i).map (plD (dat a) (dat b)), plC (dat a) (dat b) i, (i : Int))) (n := max a.length b.length + 1) (s' := ((List.range (max a.length b.length + 1)).map (plD (dat a) (dat b)), plC (dat a) (dat b) (max a.length b.length + 1), ((max a.length b.length + 1 : Nat) : Int))) (fun i hi => by
    have hm : wi ((if (a.length : Int) < (b.length : Int) then (b.length : Int) else (a.length : Int)) + 1) = ((max a.length b.length + 1 : Nat) : Int) := by
      split <;> rw [wi_id (by omega)] <;> omega
    have h1 : decide ((i : Int) < ((max a.length b.length + 1 : Nat) : Int)) = true := decide_eq_true (by omega)
    have h2 : wi ((i : Int) + 1) = ((i + 1 : Nat) : Int) := by rw [wi_id (by omega)]; omega
    have b1 := dat_bounds ha i
    have b2 := dat_bounds hb i
    have b3 := plC_bounds (dat_bounds ha) (dat_bounds hb) i
    have h3 : wi (dat a i + dat b i) = dat a i + dat b i := wi_id (by omega)
    have h4 : wi (dat a i + dat b i + plC (dat a) (dat b) i) = dat a i + dat b i + plC (dat a) (dat b) i := wi_id (by omega)
    have h5 : Int.tmod (dat a i + dat b i + plC (dat a) (dat b) i) 256 = plD (dat a) (dat b) i := Int.tmod_eq_emod_of_nonneg (by omega)
    have h6 : wi (Int.tdiv (dat a i + dat b i + plC (dat a) (dat b) i) 256) = plC (dat a) (dat b) (i + 1) := by
      rw [Int.tdiv_eq_ediv_of_nonneg (by omega), wi_id (by omega)]; rfl
    simp only [smithyref02_Plus.b1, Let_eq, hm, h1, cond_true, at_eq a i (by omega), at_eq b i (by omega), Option.bind_some, h2, h3, h4, h5, h6]
    rw [Chk_ok (by simp; omega)]
    refine congrArg (fun x => some (Ctl.next (x, plC (dat a) (dat b) (i + 1), ((i + 1 : Nat) : Int)))) ?_
    rw [List.range_succ, List.map_append]; rfl) (by
    have hm : wi ((if (a.length : Int) < (b.length : Int) then (b.length : Int) else (a.length : Int)) + 1) = ((max a.length b.length + 1 : Nat) : Int) := by
      split <;> rw [wi_id (by omega)] <;> omega
    simp only [smithyref02_Plus.b1, Let_eq, hm, decide_eq_false (show ¬ ((max a.length b.length + 1 : Nat) : Int) < ((max a.length b.length + 1 : Nat) : Int) by omega), cond_false]) (by omega)
  unfold smithyref02_Plus
  rw [Let_eq, show (([], 0, 0) : List Int × Int × Int) = (fun i : Nat => ((List.range i).map (plD (dat a) (dat b)), plC (dat a) (dat b) i, (i : Int))) 0 from rfl, h]
  rfl
end Go.Proofs.Ytccilbklafhjiaa
