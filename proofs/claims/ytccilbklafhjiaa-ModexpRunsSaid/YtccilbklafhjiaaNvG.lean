/- The document's powers of bytes. -/
import Derived.Test.YtccilbklafhjiaaNvF
import Derived.Test.YtccilbklafhjiaaNvD
import Derived.Test.YtccilbklafhjiaaMcP
namespace Go.Proofs.Ytccilbklafhjiaa
open Go.RowKit
set_option linter.unusedVariables false
set_option linter.unusedSimpArgs false
theorem ref_Of_val (b : List B8) (lb : b.length ≤ 10000) : ∃ x, smithyref09_Of b = some x ∧ Dg x ∧ x.length = b.length ∧ dV x = (bv b : Int) := by
  have h := wlx_down (b := fun s => smithyref09_Of.b1 b s.1 s.2) (fun k s => s.2 = (k : Int) - 1 ∧ k ≤ b.length ∧ s.1.length = b.length - k ∧ Dg s.1 ∧ (bv b : Int) = bp b k * 256 ^ (b.length - k) + dV s.1) (Q := fun o => ∃ x j, o = .inl (x, j) ∧ Dg x ∧ x.length = b.length ∧ dV x = (bv b : Int)) b.length
    (fun k ⟨x, j⟩ hk ⟨hj, hkl, hl, hd, hv⟩ => by
      dsimp only at hj hl hd hv
      subst hj
      cases k with
      | zero =>
        refine .inr (.inl ⟨(x, ((0 : Nat) : Int) - 1), ?_, x, _, rfl, hd, by omega, ?_⟩)
        · simp only [smithyref09_Of.b1, Let_eq]; rfl
        · rw [hv]; simp [bp]
      | succ k =>
        have e0 : ((k + 1 : Nat) : Int) - 1 = (k : Int) := by omega
        have e3 : wi ((k : Int) - 1) = (k : Int) - 1 := wi_id (by omega)
        have hlt := (lget b k).isLt
        refine .inl ⟨(x ++ [((lget b k).toNat : Int)], (k : Int) - 1), k, by omega, ?_, rfl, by omega, by simp [hl]; omega, dg_app hd (dg_one (by omega)), ?_⟩
        · show smithyref09_Of.b1 b x (((k + 1 : Nat) : Int) - 1) = _
          rw [e0]
          simp only [smithyref09_Of.b1, Let_eq, decide_eq_true (show (0 : Int) ≤ (k : Int) by omega), cond_true, Chk_ok (show (0 : Int) ≤ (k : Int) ∧ (k : Int) < (b.length : Int) by omega), Int.toNat_natCast, e3]
          rw [Chk_ok (by simp; omega)]
        · show (bv b : Int) = bp b k * 256 ^ (b.length - k) + dV (x ++ [((lget b k).toNat : Int)])
          rw [dV_snoc, hv, hl, show b.length - k = (b.length - (k + 1)) + 1 by omega, Int.pow_succ]
          have e5 : bp b (k + 1) = bp b k * 256 + (lget b k).toNat := by show bp b k * 256 + nd b k = _; rw [nd_in (by omega)]
          rw [e5, Int.natCast_add, Int.natCast_mul, Int.add_mul, Int.mul_comm (256 ^ _) 256, ← Int.mul_assoc]
          have : (((256 : Nat) : Int)) = 256 := rfl
          rw [this]; omega) (s0 := ([], wi ((b.length : Int) - 1))) ⟨by rw [wi_id (by omega)], Nat.le_refl _, by simp, dg_nil, by rw [Nat.sub_self]; show ((bp b b.length : Nat) : Int) = _; simp [dV, dsum]⟩ (by omega)
  obtain ⟨o, ho, x, j, rfl, hd, hl, hv⟩ := h
  refine ⟨x, ?_, hd, hl, hv⟩
  unfold smithyref09_Of
  simp only [Let_eq]
  rw [ho, Option.bind_some]; rfl
/-- A digit, out of the number. -/
theorem dat_div {a : List Int} (ha : Dg a) {V : Nat} (hV : dV a = (V : Int)) (i : Nat) : dat a i = ((V / 256 ^ i % 256 : Nat) : Int) := by
  have h1 := dsum_split (dat a) i (1 + a.length)
  rw [dV_more (show a.length ≤ i + (1 + a.length) by omega), dsum_front] at h1
  have h2 := dsum_bounds (dat_bounds ha) i
  have h3 := dat_bounds ha i
  have hp : (0 : Int) < 256 ^ i := Int.pow_pos (by omega)
  have e : ((256 ^ i : Nat) : Int) = (256 : Int) ^ i := by rw [Int.natCast_pow]; rfl
  rw [Int.natCast_emod, Int.natCast_ediv, e, ← hV, h1, Nat.add_zero, Int.add_mul_ediv_left _ _ (by omega), Int.ediv_eq_zero_of_lt h2.1 h2.2, Int.zero_add]
  show dat a i = (dat a i + 256 * _) % 256
  rw [Int.add_mul_emod_self_left, Int.emod_eq_of_lt h3.1 h3.2]
theorem ref_Bytes_val {a : List Int} (ha : Dg a) (la : a.length ≤ 10000) {V : Nat} (hV : dV a = (V : Int)) (n : Nat) (hn : n ≤ 10000) : smithyref09_Bytes a (n : Int) = some (be n V) := by
  have h := wlx_down (b := fun s => smithyref09_Bytes.b1 a s.1 s.2) (fun k s => s.2 = (k : Int) - 1 ∧ k ≤ n ∧ s.1.length = n - k ∧ ∀ p, p < n - k → (lget s.1 p).toNat = V / 256 ^ (n - 1 - p) % 256) (Q := fun o => ∃ j, o = .inl (be n V, j)) n
    (fun k ⟨x, j⟩ hk ⟨hj, hkl, hl, hg⟩ => by
      dsimp only at hj hl hg
      subst hj
      cases k with
      | zero =>
        refine .inr (.inl ⟨(x, ((0 : Nat) : Int) - 1), ?_, ((0 : Nat) : Int) - 1, ?_⟩)
        · simp only [smithyref09_Bytes.b1, Let_eq]; rfl
        · have : x = be n V := list_ext8 (by rw [hl, be_len]; omega) fun p hp => by rw [hg p (by omega), be_get n V (by omega)]
          rw [this]
      | succ k =>
        have e0 : ((k + 1 : Nat) : Int) - 1 = (k : Int) := by omega
        have e3 : wi ((k : Int) - 1) = (k : Int) - 1 := wi_id (by omega)
        have hd : (bif decide ((k : Int) < (a.length : Int)) then Chk ((0 : Int) ≤ (k : Int) ∧ (k : Int) < (a.length : Int)) (some (lget a k)) else some 0) = some (dat a k) := by
          unfold dat
          by_cases e : k < a.length
          · rw [decide_eq_true (by omega), cond_true, Chk_ok (by omega), if_pos e]
          · rw [decide_eq_false (by omega), cond_false, if_neg e]
        have hdv := dat_div ha hV k
        refine .inl ⟨(x ++ [BitVec.ofInt 8 (dat a k)], (k : Int) - 1), k, by omega, ?_, rfl, by omega, by simp [hl]; omega, fun p hp => ?_⟩
        · show smithyref09_Bytes.b1 a x (((k + 1 : Nat) : Int) - 1) = _
          rw [e0]
          simp only [smithyref09_Bytes.b1, Let_eq, decide_eq_true (show (0 : Int) ≤ (k : Int) by omega), cond_true, Int.toNat_natCast, hd, Option.bind_some, e3]
          rw [Chk_ok (by simp; omega)]
        · show (lget (x ++ [BitVec.ofInt 8 (dat a k)]) p).toNat = _
          by_cases ep : p < x.length
          · have : lget (x ++ [BitVec.ofInt 8 (dat a k)]) p = lget x p := by
              unfold lget; rw [List.getD_eq_getElem?_getD, List.getD_eq_getElem?_getD, List.getElem?_append_left ep]
            rw [this]; exact hg p (by omega)
          · have : lget (x ++ [BitVec.ofInt 8 (dat a k)]) p = BitVec.ofInt 8 (dat a k) := by
              unfold lget; rw [List.getD_eq_getElem?_getD, List.getElem?_append_right (by omega), show p - x.length = 0 by omega]; rfl
            rw [this, hdv, BitVec.ofInt_natCast, BitVec.toNat_ofNat, show n - 1 - p = k by omega]
            exact Nat.mod_mod _ _) (s0 := ([], wi ((n : Int) - 1))) ⟨by rw [wi_id (by omega)], Nat.le_refl _, by simp, fun p hp => by omega⟩ (by omega)
  obtain ⟨o, ho, j, rfl⟩ := h
  unfold smithyref09_Bytes
  simp only [Let_eq]
  rw [ho, Option.bind_some]; rfl
theorem ref_Mul_val {a b m : List Int} (ha : Dg a) (hb : Dg b) (hm : Dg m) (la : a.length ≤ 400) (lb : b.length ≤ 400) (lm : m.length ≤ 400) {x y M : Nat} (hx : dV a = (x : Int)) (hy : dV b = (y : Int)) (hM : dV m = (M : Int)) (h0 : 0 < M) : ∃ r, smithyref09_Mul a b m = some r ∧ Dg r ∧ r.length ≤ m.length ∧ dV r = ((x * y % M : Nat) : Int) := by
  obtain ⟨p, hp, dp, lp, vp⟩ := Times_val ha hb (by omega) (by omega)
  obtain ⟨q, r, hq, _, _, _, dr, tr, vr⟩ := Div_val dp hm (by omega) (by omega) (by omega)
  refine ⟨r, ?_, dr, ?_, ?_⟩
  · unfold smithyref09_Mul
    rw [hp, Option.bind_some, hq]; rfl
  · have := Int.emod_lt_of_pos (dV p) (show 0 < dV m by omega)
    exact ti_le dr hm tr (by omega)
  · rw [vr, vp, hx, hy, hM, Int.natCast_emod, Int.natCast_mul]
theorem ref_Zero_val {m : List Int} (hm : Dg m) (lm : m.length ≤ 3000) {M : Nat} (hM : dV m = (M : Int)) : smithyref02_Zero m = some (decide (M = 0)) := by
  obtain ⟨z, hz, hzi⟩ := Zero_eq m lm
  rw [hz]
  refine congrArg some ?_
  have h1 := dsum_nought (dat_bounds hm) m.length
  have h2 : (M = 0) ↔ z = true := by
    rw [hzi]
    constructor
    · intro e j hj
      have := h1.1 (show dsum (dat m) m.length = 0 by show dV m = 0; omega) j hj
      unfold dat at this
      rwa [if_pos hj] at this
    · intro h
      have : dV m = 0 := h1.2 fun j hj => by unfold dat; rw [if_pos hj]; exact h j hj
      omega
  by_cases e : M = 0
  · rw [decide_eq_true e]; exact h2.1 e
  · rw [decide_eq_false e]
    cases z with
    | false => rfl
    | true => exact absurd (h2.2 rfl) e
theorem pow_mul_mod (B X Y M : Nat) : (B ^ X % M) * (B ^ Y % M) % M = B ^ (X + Y) % M := by rw [← Nat.mul_mod, ← Nat.pow_add]
theorem ref_bits {m : List Int} (hm : Dg m) (lm : m.length ≤ 400) {M : Nat} (hM : dV m = (M : Int)) (h0 : 0 < M) (B E n : Nat) (c : B8) {b0 x0 : List Int} (hb : Dg b0) (hx : Dg x0) (lb : b0.length ≤ 400) (lx : x0.length ≤ 400) (vb : dV b0 = ((B ^ (256 ^ n) % M : Nat) : Int)) (vx : dV x0 = ((B ^ E % M : Nat) : Int)) :
    ∃ b x c' j, wlx (fun s => smithyref09_Pow.b2 m s.1 s.2.1 s.2.2.1 s.2.2.2) (b0, x0, c, 0) = some (.inl (b, x, c', j)) ∧ Dg b ∧ Dg x ∧ b.length ≤ 400 ∧ x.length ≤ 400 ∧ dV b = ((B ^ (256 ^ (n + 1)) % M : Nat) : Int) ∧ dV x = ((B ^ (E + c.toNat * 256 ^ n) % M : Nat) : Int) := by
  have h := wlx_inv (b := fun s => smithyref09_Pow.b2 m s.1 s.2.1 s.2.2.1 s.2.2.2) (fun k s => s.2.2.2 = (k : Int) ∧ Dg s.1 ∧ Dg s.2.1 ∧ s.1.length ≤ 400 ∧ s.2.1.length ≤ 400 ∧ s.2.2.1.toNat = c.toNat / 2 ^ k ∧ dV s.1 = ((B ^ (256 ^ n * 2 ^ k) % M : Nat) : Int) ∧ dV s.2.1 = ((B ^ (E + c.toNat % 2 ^ k * 256 ^ n) % M : Nat) : Int)) (Q := fun s => Dg s.1 ∧ Dg s.2.1 ∧ s.1.length ≤ 400 ∧ s.2.1.length ≤ 400 ∧ dV s.1 = ((B ^ (256 ^ (n + 1)) % M : Nat) : Int) ∧ dV s.2.1 = ((B ^ (E + c.toNat * 256 ^ n) % M : Nat) : Int)) 8
    (fun k ⟨b, x, d, j⟩ hk ⟨hj, hbd, hxd, hbl, hxl, hdv, hbv, hxv⟩ => by
      dsimp only at hj hbd hxd hbl hxl hdv hbv hxv
      subst hj
      have h2 : wi ((k : Int) + 1) = ((k + 1 : Nat) : Int) := by rw [wi_id (by omega)]; omega
      obtain ⟨r, hr, hrd, hrl, hrv⟩ := ref_Mul_val hbd hbd hm hbl hbl lm hbv hbv hM h0
      obtain ⟨r2, hr2, hr2d, hr2l, hr2v⟩ := ref_Mul_val hxd hbd hm hxl hbl lm hxv hbv hM h0
      rw [pow_mul_mod] at hrv hr2v
      have hd2 : (d / 2#8).toNat = c.toNat / 2 ^ (k + 1) := by
        rw [BitVec.toNat_udiv, hdv, Nat.pow_succ, ← Nat.div_div_eq_div_mul]; rfl
      have hbit : (((d % 2#8).toNat : Int) == 1) = decide (c.toNat / 2 ^ k % 2 = 1) := by
        have h1 : (d % 2#8).toNat = c.toNat / 2 ^ k % 2 := by rw [BitVec.toNat_umod, hdv]; rfl
        rw [h1]
        by_cases h2 : c.toNat / 2 ^ k % 2 = 1
        · rw [h2]; rfl
        · rw [decide_eq_false h2]; exact beq_eq_false_iff_ne.2 (by omega)
      have hmod : c.toNat % 2 ^ (k + 1) = c.toNat % 2 ^ k + 2 ^ k * (c.toNat / 2 ^ k % 2) := by
        rw [Nat.pow_succ]; exact Nat.mod_mul
      have hexp : 256 ^ n * 2 ^ k + 256 ^ n * 2 ^ k = 256 ^ n * 2 ^ (k + 1) := by rw [Nat.pow_succ, ← Nat.mul_assoc, Nat.mul_two]
      rw [hexp] at hrv
      have hstep : ∀ z, (bif decide (c.toNat / 2 ^ k % 2 = 1) then (smithyref09_Mul x b m).bind fun x56 => some x56 else some x) = some z → smithyref09_Pow.b2 m b x d (k : Int) = some (.next (r, z, d / 2#8, ((k + 1 : Nat) : Int))) := fun z hz => by
        simp only [smithyref09_Pow.b2, Let_eq, decide_eq_true (show (k : Int) < 8 by omega), cond_true, hbit, hz, Option.bind_some, hr, h2]
      by_cases hb1 : c.toNat / 2 ^ k % 2 = 1
      · refine ⟨(r, r2, d / 2#8, ((k + 1 : Nat) : Int)), hstep r2 (by rw [decide_eq_true hb1, cond_true, hr2]; rfl), rfl, hrd, hr2d, by show r.length ≤ 400; omega, by show r2.length ≤ 400; omega, hd2, hrv, ?_⟩
        show dV r2 = _
        rw [hr2v, hmod, hb1, Nat.mul_one, Nat.add_mul, Nat.mul_comm (2 ^ k), Nat.add_assoc]
      · refine ⟨(r, x, d / 2#8, ((k + 1 : Nat) : Int)), hstep x (by rw [decide_eq_false hb1]; rfl), rfl, hrd, hxd, by show r.length ≤ 400; omega, hxl, hd2, hrv, ?_⟩
        show dV x = _
        rw [hxv, hmod, show c.toNat / 2 ^ k % 2 = 0 by omega, Nat.mul_zero, Nat.add_zero])
    (fun ⟨b, x, d, j⟩ ⟨hj, hbd, hxd, hbl, hxl, hdv, hbv, hxv⟩ => by
      dsimp only at hj hbd hxd hbl hxl hdv hbv hxv
      subst hj
      have hc := c.isLt
      refine ⟨(b, x, d, ((8 : Nat) : Int)), by simp only [smithyref09_Pow.b2, Let_eq]; rfl, hbd, hxd, hbl, hxl, ?_, ?_⟩
      · rw [hbv, show (256 : Nat) ^ (n + 1) = 256 ^ n * 2 ^ 8 from Nat.pow_succ _ _]
      · rw [hxv, Nat.mod_eq_of_lt (show c.toNat < 2 ^ 8 by omega)])
    (s0 := (b0, x0, c, ((0 : Nat) : Int))) ⟨rfl, hb, hx, lb, lx, by simp, by rw [Nat.pow_zero, Nat.mul_one]; exact vb, by rw [Nat.pow_zero, Nat.mod_one, Nat.zero_mul, Nat.add_zero]; exact vx⟩ (by omega)
  obtain ⟨⟨b, x, c', j⟩, hw, h1, h2, h3, h4, h5, h6⟩ := h
  exact ⟨b, x, c', j, hw, h1, h2, h3, h4, h5, h6⟩
/-- The number of the bytes from a place on. -/
theorem bv_tail (b : List B8) {k : Nat} (hk : k < b.length) : bv b % 256 ^ (b.length - k) = bv b % 256 ^ (b.length - (k + 1)) + (lget b k).toNat * 256 ^ (b.length - (k + 1)) := by
  have key : ∀ n i, i + n ≤ b.length → bp b (i + n) / 256 ^ n = bp b i := by
    intro n
    induction n with
    | zero => intro i _; simp
    | succ n ih =>
      intro i hi
      have h1 := ih (i + 1) (by omega)
      have h2 : bp b (i + 1) = bp b i * 256 + nd b i := rfl
      have h3 := nd8_lt b i
      rw [show i + (n + 1) = i + 1 + n by omega, Nat.pow_succ, ← Nat.div_div_eq_div_mul, h1, h2]; omega
  have h1 := key (b.length - (k + 1)) (k + 1) (by omega)
  rw [show k + 1 + (b.length - (k + 1)) = b.length by omega] at h1
  have h2 : bp b (k + 1) = bp b k * 256 + (lget b k).toNat := by show bp b k * 256 + nd b k = _; rw [nd_in hk]
  have hlt := (lget b k).isLt
  rw [show b.length - k = b.length - (k + 1) + 1 by omega, Nat.pow_succ, Nat.mod_mul]
  have h3 : bv b / 256 ^ (b.length - (k + 1)) % 256 = (lget b k).toNat := by
    show bp b b.length / _ % 256 = _
    rw [h1, h2]; omega
  rw [h3, Nat.mul_comm]
theorem ref_Pow_val (b e m : List B8) (lb : b.length ≤ 100) (le : e.length ≤ 100) (lm : m.length ≤ 100) : smithyref09_Pow b e m = some (powV b e m) := by
  obtain ⟨mm, hmm, hmd, hml, hmv⟩ := ref_Of_val m (by omega)
  unfold smithyref09_Pow
  rw [hmm, Option.bind_some, ref_Zero_val hmd (by omega) hmv, Option.bind_some]
  by_cases h0 : bv m = 0
  · rw [decide_eq_true h0, cond_true]
    simp only [Let_eq, Int.toNat_natCast]
    rw [Chk_ok (by omega)]
    unfold powV
    rw [if_pos h0, be_zero]
  · rw [decide_eq_false h0, cond_false]
    obtain ⟨x, hx, hxd, hxl, hxv⟩ := ref_Of_val b (by omega)
    obtain ⟨q, r, hq, _, _, _, hrd, hrt, hrv⟩ := Div_val hxd hmd (by omega) (by omega) (by omega)
    obtain ⟨q1, r1, hq1, _, _, _, hr1d, hr1t, hr1v⟩ := Div_val (a := [1]) (dg_one (by omega)) hmd (by simp) (by omega) (by omega)
    have hrl : r.length ≤ mm.length := ti_le hrd hmd hrt (by have := Int.emod_lt_of_pos (dV x) (show 0 < dV mm by omega); omega)
    have hr1l : r1.length ≤ mm.length := ti_le hr1d hmd hr1t (by have := Int.emod_lt_of_pos (dV [1]) (show 0 < dV mm by omega); omega)
    have hone : dV [1] = 1 := by decide
    have hrv2 : dV r = ((bv b ^ (256 ^ 0) % bv m : Nat) : Int) := by rw [hrv, hxv, hmv, Nat.pow_zero, Nat.pow_one, Int.natCast_emod]
    have hr1v2 : dV r1 = ((bv b ^ 0 % bv m : Nat) : Int) := by rw [hr1v, hone, hmv, Nat.pow_zero, Int.natCast_emod]; rfl
    have h := wlx_down (b := fun s => smithyref09_Pow.b1 e mm s.1 s.2.1 s.2.2) (fun k s => s.2.2 = (k : Int) - 1 ∧ k ≤ e.length ∧ Dg s.1 ∧ Dg s.2.1 ∧ s.1.length ≤ 400 ∧ s.2.1.length ≤ 400 ∧ dV s.1 = ((bv b ^ (256 ^ (e.length - k)) % bv m : Nat) : Int) ∧ dV s.2.1 = ((bv b ^ (bv e % 256 ^ (e.length - k)) % bv m : Nat) : Int)) (Q := fun o => ∃ y x j, o = .inl (y, x, j) ∧ Dg x ∧ x.length ≤ 400 ∧ dV x = ((bv b ^ bv e % bv m : Nat) : Int)) e.length
      (fun k ⟨y, z, j⟩ hk ⟨hj, hkl, hyd, hzd, hyl, hzl, hyv, hzv⟩ => by
        dsimp only at hj hyd hzd hyl hzl hyv hzv
        subst hj
        cases k with
        | zero =>
          refine .inr (.inl ⟨(y, z, ((0 : Nat) : Int) - 1), ?_, y, z, _, rfl, hzd, hzl, ?_⟩)
          · simp only [smithyref09_Pow.b1, Let_eq]; rfl
          · rw [hzv, Nat.sub_zero, Nat.mod_eq_of_lt (show bv e < 256 ^ e.length from bp_lt e e.length)]
        | succ k =>
          have e0 : ((k + 1 : Nat) : Int) - 1 = (k : Int) := by omega
          have e3 : wi ((k : Int) - 1) = (k : Int) - 1 := wi_id (by omega)
          obtain ⟨y', z', c', j', hw, hy'd, hz'd, hy'l, hz'l, hy'v, hz'v⟩ := ref_bits hmd (by omega) hmv (by omega) (bv b) (bv e % 256 ^ (e.length - (k + 1))) (e.length - (k + 1)) (lget e k) hyd hzd hyl hzl hyv hzv
          refine .inl ⟨(y', z', (k : Int) - 1), k, by omega, ?_, rfl, by omega, hy'd, hz'd, hy'l, hz'l, ?_, ?_⟩
          · show smithyref09_Pow.b1 e mm y z (((k + 1 : Nat) : Int) - 1) = _
            rw [e0]
            simp only [smithyref09_Pow.b1, Let_eq, decide_eq_true (show (0 : Int) ≤ (k : Int) by omega), cond_true, Chk_ok (show (0 : Int) ≤ (k : Int) ∧ (k : Int) < (e.length : Int) by omega), Int.toNat_natCast]
            rw [hw, Option.bind_some]
            simp only [Sum.elim_inl, e3]
          · show dV y' = _
            rw [hy'v, show e.length - (k + 1) + 1 = e.length - k by omega]
          · show dV z' = _
            rw [hz'v, bv_tail e (k := k) (by omega)]) (s0 := (r, r1, wi ((e.length : Int) - 1))) ⟨by rw [wi_id (by omega)], Nat.le_refl _, hrd, hr1d, by show r.length ≤ 400; omega, by show r1.length ≤ 400; omega, by rw [Nat.sub_self]; exact hrv2, by rw [Nat.sub_self, Nat.pow_zero, Nat.mod_one]; exact hr1v2⟩ (by omega)
    obtain ⟨o, ho, y, z, j, rfl, hzd, hzl, hzv⟩ := h
    rw [hx, Option.bind_some, hq, Option.bind_some, Let_eq, hq1, Option.bind_some]
    simp only [Let_eq]
    rw [ho, Option.bind_some]
    show (smithyref09_Bytes z (m.length : Int)).bind _ = _
    rw [ref_Bytes_val hzd (by omega) hzv m.length (by omega), Option.bind_some]
    unfold powV
    rw [if_neg h0]
end Go.Proofs.Ytccilbklafhjiaa
