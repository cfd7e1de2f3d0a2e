/- The law of a byte more. -/
import Derived.Test.YtccilbklafhjiaaNvE0
import Derived.Test.YtccilbklafhjiaaNvG
import Derived.Test.YtccilbklafhjiaaMcDb
namespace Go.Proofs.Ytccilbklafhjiaa
open Go.RowKit
set_option linter.unusedVariables false
set_option linter.unusedSimpArgs false
theorem bp_be (n v : Nat) : ∀ i, i ≤ n → bp (be n v) i = v / 256 ^ (n - i) % 256 ^ i
  | 0, _ => by simp [bp, Nat.mod_one]
  | i + 1, hi => by
    have ih := bp_be n v i (by omega)
    have h1 : nd (be n v) i = v / 256 ^ (n - 1 - i) % 256 := by rw [nd_in (by rw [be_len]; omega), be_get n v (by omega)]
    show bp (be n v) i * 256 + nd (be n v) i = _
    rw [ih, h1, show n - 1 - i = n - (i + 1) by omega, show n - i = n - (i + 1) + 1 by omega, Nat.pow_succ, Nat.pow_succ, ← Nat.div_div_eq_div_mul, Nat.mul_comm (256 ^ i) 256, Nat.mod_mul, Nat.mul_comm 256, Nat.add_comm]
theorem bv_be {n v : Nat} (h : v < 256 ^ n) : bv (be n v) = v := by
  unfold bv
  rw [be_len, bp_be n v n (Nat.le_refl _), Nat.sub_self, Nat.pow_zero, Nat.div_one, Nat.mod_eq_of_lt h]
theorem bv_snoc (e : List B8) (c : B8) : bv (e ++ [c]) = bv e * 256 + c.toNat := by
  unfold bv
  rw [List.length_append, List.length_singleton]
  show bp (e ++ [c]) e.length * 256 + nd (e ++ [c]) e.length = _
  have h1 : ∀ i, i ≤ e.length → bp (e ++ [c]) i = bp e i := by
    intro i
    induction i with
    | zero => intro _; rfl
    | succ i ih =>
      intro hi
      unfold bp
      rw [ih (by omega)]
      congr 1
      unfold nd lget
      rw [if_pos (by simp; omega), if_pos (by omega), List.getD_eq_getElem?_getD, List.getD_eq_getElem?_getD, List.getElem?_append_left (by omega)]
  have h2 : nd (e ++ [c]) e.length = c.toNat := by
    unfold nd lget
    rw [if_pos (by simp), List.getD_eq_getElem?_getD, List.getElem?_append_right (by omega), Nat.sub_self]; rfl
  rw [h1 _ (Nat.le_refl _), h2]
theorem bv_one (c : B8) : bv [c] = c.toNat := by
  have := bv_snoc [] c
  rw [List.nil_append] at this
  rw [this]; show 0 * 256 + c.toNat = _; omega
theorem bytes_true (b e m : List B8) (c : B8) : smithylaw09_ModexpBytes b e m c = some true := by
  unfold smithylaw09_ModexpBytes
  simp only [Let_eq, long_eq, fixed_eq, Option.bind_some]
  by_cases h : b.length ≤ 64 ∧ e.length < 64 ∧ m.length ≤ 64 ∧ 0 < m.length
  · obtain ⟨hb, he, hm, hm0⟩ := h
    rw [decide_eq_false (show ¬ 64 < b.length by omega), decide_eq_false (show ¬ 64 < e.length by omega), decide_eq_false (show ¬ 64 < m.length by omega), show ((e.length : Int) == 64) = false from beq_eq_false_iff_ne.2 (by omega), show ((m.length : Int) == 0) = false from beq_eq_false_iff_ne.2 (by omega)]
    simp only [Bool.or_self, cond_false, Option.bind_some, List.nil_append]
    have hxl : (powV b e m).length = m.length := be_len _ _
    rw [Pow_val b e m hb (by omega) hm, Option.bind_some, Chk_ok (by simp; omega), Chk_ok (by simp; omega), Pow_val b (e ++ [c]) m hb (by simp; omega) hm, Option.bind_some, Pow_val (powV b e m) [1#8, 0#8] m (by omega) (by simp) hm, Option.bind_some, Pow_val b [c] m hb (by simp) hm, Option.bind_some]
    obtain ⟨mm, hmm, hmd, hml, hmv⟩ := ref_Of_val m (by omega)
    simp only [show (((0 : Int) != 0) : Bool) = false from rfl, cond_false, Option.bind_some, hmm, ref_Zero_val hmd (by omega) hmv]
    by_cases h0 : bv m = 0
    · simp only [decide_eq_true h0, cond_true, Int.toNat_natCast]
      rw [Chk_ok (by omega)]
      have : powV b (e ++ [c]) m = List.replicate m.length 0#8 := by unfold powV; rw [if_pos h0, be_zero]
      rw [this, str_same]; rfl
    · simp only [decide_eq_false h0, cond_false, cond_true]
      have hM : bv m < 256 ^ m.length := bp_lt m m.length
      have hmod : ∀ n, n % bv m < 256 ^ m.length := fun n => by have := Nat.mod_lt n (show bv m > 0 by omega); omega
      have hx : bv (powV b e m) = bv b ^ bv e % bv m := by unfold powV; rw [if_neg h0]; exact bv_be (hmod _)
      have hz : bv (powV (powV b e m) [1#8, 0#8] m) = bv b ^ (bv e * 256) % bv m := by
        have h256 : bv [1#8, 0#8] = 256 := by decide
        have : bv (powV (powV b e m) [1#8, 0#8] m) = bv (powV b e m) ^ bv [1#8, 0#8] % bv m := by
          conv => lhs; unfold powV
          rw [if_neg h0]; exact bv_be (hmod _)
        rw [this, hx, h256, ← Nat.pow_mod, ← Nat.pow_mul]
      have hw : bv (powV b [c] m) = bv b ^ c.toNat % bv m := by
        have : bv (powV b [c] m) = bv b ^ bv [c] % bv m := by unfold powV; rw [if_neg h0]; exact bv_be (hmod _)
        rw [this, bv_one]
      have hy : powV b (e ++ [c]) m = be m.length (bv b ^ (bv e * 256 + c.toNat) % bv m) := by unfold powV; rw [if_neg h0, bv_snoc]
      obtain ⟨zz, hzz, hzd, hzl, hzv⟩ := ref_Of_val (powV (powV b e m) [1#8, 0#8] m) (by rw [show (powV (powV b e m) [1#8, 0#8] m).length = m.length from be_len _ _]; omega)
      obtain ⟨ww, hww, hwd, hwl, hwv⟩ := ref_Of_val (powV b [c] m) (by rw [show (powV b [c] m).length = m.length from be_len _ _]; omega)
      obtain ⟨yy, hyy, hyd, hyl, hyv⟩ := ref_Of_val (powV b (e ++ [c]) m) (by rw [show (powV b (e ++ [c]) m).length = m.length from be_len _ _]; omega)
      rw [show (powV (powV b e m) [1#8, 0#8] m).length = m.length from be_len _ _] at hzl
      rw [show (powV b [c] m).length = m.length from be_len _ _] at hwl
      rw [show (powV b (e ++ [c]) m).length = m.length from be_len _ _] at hyl
      rw [hz] at hzv
      rw [hw] at hwv
      obtain ⟨r, hr, hrd, hrl, hrv⟩ := ref_Mul_val hzd hwd hmd (by omega) (by omega) (by omega) hzv hwv hmv (by omega)
      rw [pow_mul_mod] at hrv
      have hby : bv (powV b (e ++ [c]) m) = bv b ^ (bv e * 256 + c.toNat) % bv m := by rw [hy]; exact bv_be (hmod _)
      rw [hby] at hyv
      rw [hzz, Option.bind_some, hww, Option.bind_some, hr, Option.bind_some, ref_Bytes_val hrd (by omega) hrv m.length (by omega), Option.bind_some, ← hy, str_same]
      simp only [Option.bind_some, cond_true, hyy, Less_val hyd hmd (by omega) (by omega)]
      have : dV yy < dV mm := by rw [hyv, hmv]; have := Nat.mod_lt (bv b ^ (bv e * 256 + c.toNat)) (show bv m > 0 by omega); omega
      rw [decide_eq_true this]
  · have hcond : (bif (bif decide (64 < b.length) || decide (64 < e.length) || decide (64 < m.length) then some true else some ((e.length : Int) == 64)) == some true then true else ((m.length : Int) == 0)) = true := by
      by_cases h1 : 64 < b.length
      · simp [h1]
      by_cases h2 : 64 < e.length
      · simp [h2]
      by_cases h3 : 64 < m.length
      · simp [h3]
      by_cases h4 : e.length = 64
      · simp [h1, h2, h3, h4]
      · have : m.length = 0 := by omega
        simp [this]
    by_cases hl : (decide (64 < b.length) || decide (64 < e.length) || decide (64 < m.length)) = true
    · rw [hl]; rfl
    · rw [Bool.not_eq_true] at hl
      rw [hl]
      by_cases h4 : ((e.length : Int) == 64) = true
      · rw [h4]; rfl
      · rw [Bool.not_eq_true] at h4
        rw [h4]
        have h5 : ((m.length : Int) == 0) = true := by
          rw [hl, h4] at hcond; simpa using hcond
        rw [h5]; rfl
end Go.Proofs.Ytccilbklafhjiaa
