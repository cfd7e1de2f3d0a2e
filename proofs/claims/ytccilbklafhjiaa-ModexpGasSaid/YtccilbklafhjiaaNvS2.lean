/- Words: a third. -/
import Derived.Test.YtccilbklafhjiaaNvS
namespace Go.Proofs.Ytccilbklafhjiaa
open Go.RowKit
set_option linter.unusedVariables false
set_option linter.unusedSimpArgs false
/-! ### A third -/
theorem Div3_64 (hi lo : W64) (h : hi.toNat < 3) : ∃ q r, bits_Div64 hi lo 3#64 = some (q, r) ∧ r.toNat < 3 ∧ hi.toNat * 18446744073709551616 + lo.toNat = 3 * q.toNat + r.toNat := by
  have h3 : ((3#64 : W64).toNat : Int) = 3 := rfl
  have hlo := lo.isLt
  unfold bits_Div64
  simp only [Let_eq]
  rw [show ((((3#64 : W64).toNat : Int) == 0) : Bool) = false from rfl, cond_false, decide_eq_false (show ¬ (3#64 : W64).toNat ≤ hi.toNat by rw [show (3#64 : W64).toNat = 3 from rfl]; omega), cond_false]
  by_cases e : hi.toNat = 0
  · rw [e, show ((((0 : Nat) : Int) == 0) : Bool) = true from rfl, cond_true, Chk_ok (by decide), Chk_ok (by decide)]
    refine ⟨_, _, rfl, ?_, ?_⟩
    · rw [BitVec.toNat_umod]; exact Nat.mod_lt _ (by decide)
    · rw [BitVec.toNat_umod, BitVec.toNat_udiv, show (3#64 : W64).toNat = 3 from rfl]; omega
  · rw [show (((hi.toNat : Int) == 0) : Bool) = false from beq_eq_false_iff_ne.2 (by omega), cond_false, show bits_LeadingZeros64 3#64 = some 62 from by kernel_rfl, Option.bind_some]
    rw [show (BitVec.ofInt 64 62 : W64).toNat = 62 from rfl, show (64#64 - BitVec.ofInt 64 62 : W64).toNat = 2 from rfl, show ((3#64 : W64) <<< 62) = 13835058055282163712#64 from by decide, show ((13835058055282163712#64 : W64) >>> 32) = 3221225472#64 from by decide, show ((13835058055282163712#64 : W64) &&& 4294967295#64) = 0#64 from by decide]
    have hx : (hi <<< 62 ||| lo >>> 2 : W64).toNat = hi.toNat * 4611686018427387904 + lo.toNat / 4 := by
      have h1 : (hi <<< 62 : W64).toNat = hi.toNat * 4611686018427387904 := by
        rw [BitVec.toNat_shiftLeft, Nat.shiftLeft_eq]; omega
      have h2 : (lo >>> 2 : W64).toNat = lo.toNat / 4 := by rw [BitVec.toNat_ushiftRight, Nat.shiftRight_eq_div_pow]
      have h3 : lo.toNat / 4 < 2 ^ 62 := by omega
      rw [BitVec.toNat_or, h1, h2, show hi.toNat * 4611686018427387904 = hi.toNat <<< 62 by rw [Nat.shiftLeft_eq], ← Nat.shiftLeft_add_eq_or_of_lt h3, Nat.shiftLeft_eq]
    have hu1 : ((lo <<< 62 : W64) >>> 32).toNat = lo.toNat % 4 * 1073741824 := by
      rw [BitVec.toNat_ushiftRight, BitVec.toNat_shiftLeft, Nat.shiftRight_eq_div_pow, Nat.shiftLeft_eq]; omega
    have hu0 : ((lo <<< 62 : W64) &&& 4294967295#64) = 0#64 := by
      apply BitVec.eq_of_toNat_eq
      rw [low32, BitVec.toNat_shiftLeft, Nat.shiftLeft_eq, show (0#64 : W64).toNat = 0 from rfl]; omega
    rw [hu0]
    generalize (hi <<< 62 ||| lo >>> 2 : W64) = x at *
    generalize (lo <<< 62 : W64) >>> 32 = u at *
    have y1 : (3221225472#64 : W64).toNat = 3221225472 := rfl
    have yy : (13835058055282163712#64 : W64).toNat = 13835058055282163712 := rfl
    have tt : (4294967296#64 : W64).toNat = 4294967296 := rfl
    have b1 : ∀ (q r : W64), q.toNat < 4294967296 → bits_Div64.b1 0#64 u 3221225472#64 q r = some (.brk (q, r)) := fun q r hq => by
      simp only [bits_Div64.b1, Let_eq, BitVec.mul_zero]
      rw [decide_eq_false (show ¬ ((q.toNat : Int) ≥ 4294967296) by omega), cond_false, decide_eq_false (show ¬ ((4294967296#64 * r + u).toNat < (0#64 : W64).toNat) by rw [show (0#64 : W64).toNat = 0 from rfl]; omega)]; rfl
    have b2 : ∀ (q r : W64), q.toNat < 4294967296 → bits_Div64.b2 0#64 0#64 3221225472#64 r q = some (.brk (r, q)) := fun q r hq => by
      simp only [bits_Div64.b2, Let_eq, BitVec.mul_zero]
      rw [decide_eq_false (show ¬ ((q.toNat : Int) ≥ 4294967296) by omega), cond_false, decide_eq_false (show ¬ ((4294967296#64 * r + 0#64).toNat < (0#64 : W64).toNat) by rw [show (0#64 : W64).toNat = 0 from rfl]; omega)]; rfl
    have hq1 : (x / 3221225472#64).toNat = x.toNat / 3221225472 := by rw [BitVec.toNat_udiv, y1]
    rw [Chk_ok (by decide), wlx_of (k := 1) (wlk_brk (b1 _ _ (by rw [hq1]; omega))) (by omega), Option.bind_some]
    rw [Sum.elim_inl]; dsimp only
    have hv : (x * 4294967296#64 + u - x / 3221225472#64 * 13835058055282163712#64 : W64).toNat = x.toNat % 3221225472 * 4294967296 + u.toNat := by
      rw [BitVec.toNat_sub, BitVec.toNat_add, BitVec.toNat_mul, BitVec.toNat_mul, hq1, tt, yy]
      omega
    generalize (x * 4294967296#64 + u - x / 3221225472#64 * 13835058055282163712#64 : W64) = v at *
    have hq2 : (v / 3221225472#64).toNat = v.toNat / 3221225472 := by rw [BitVec.toNat_udiv, y1]
    rw [Chk_ok (by decide), wlx_of (k := 1) (wlk_brk (b2 _ _ (by rw [hq2]; omega))) (by omega), Option.bind_some]
    rw [Sum.elim_inl]; dsimp only
    have hr : (v * 4294967296#64 + 0#64 - v / 3221225472#64 * 13835058055282163712#64 : W64).toNat = v.toNat % 3221225472 * 4294967296 := by
      rw [BitVec.toNat_sub, BitVec.toNat_add, BitVec.toNat_mul, BitVec.toNat_mul, hq2, tt, yy, show (0#64 : W64).toNat = 0 from rfl]
      omega
    have hq : (x / 3221225472#64 * 4294967296#64 + v / 3221225472#64 : W64).toNat = x.toNat / 3221225472 * 4294967296 + v.toNat / 3221225472 := by
      rw [BitVec.toNat_add, BitVec.toNat_mul, hq1, hq2, tt]
      omega
    generalize (v * 4294967296#64 + 0#64 - v / 3221225472#64 * 13835058055282163712#64 : W64) = R at *
    generalize (x / 3221225472#64 * 4294967296#64 + v / 3221225472#64 : W64) = Q at *
    have hR : (R >>> 62 : W64).toNat = R.toNat / 4611686018427387904 := by rw [BitVec.toNat_ushiftRight, Nat.shiftRight_eq_div_pow]
    refine ⟨Q, R >>> 62, rfl, ?_, ?_⟩
    · rw [hR, hr]; omega
    · rw [hR, hr, hq, hv]; omega
theorem third_step (a : Word4) (y : Word4) (l : W64) (hl : l.toNat < 3) {k : Nat} (hk : k < 4) : ∃ q r : W64, wide_short64.b1 a 3#64 y l (k : Int) = some (.next (y.set k q, r, (k : Int) - 1)) ∧ r.toNat < 3 ∧ l.toNat * 18446744073709551616 + (a.get k).toNat = 3 * q.toNat + r.toNat := by
  obtain ⟨q, r, h, hr, hv⟩ := Div3_64 l (a.get k) hl
  refine ⟨q, r, ?_, hr, hv⟩
  have h1 : decide (0 ≤ (k : Int)) = true := decide_eq_true (by omega)
  have h2 : wi ((k : Int) - 1) = (k : Int) - 1 := wi_id (by omega)
  simp only [wide_short64.b1, Let_eq, h1, cond_true, Int.toNat_natCast, h2, h, Option.bind_some]
  rw [Chk_ok (by omega), Chk_ok (by omega)]
theorem third_one {x a y q r r' : Nat} (h : x = 3 * y + r) (v : r * 18446744073709551616 + a = 3 * q + r') : a + 18446744073709551616 * x = 3 * (q + 18446744073709551616 * y) + r' := by omega
theorem third_lin {a0 a1 a2 a3 q0 q1 q2 q3 r0 r1 r2 r3 : Nat} (v3 : 0 * 18446744073709551616 + a3 = 3 * q3 + r3) (v2 : r3 * 18446744073709551616 + a2 = 3 * q2 + r2) (v1 : r2 * 18446744073709551616 + a1 = 3 * q1 + r1) (v0 : r1 * 18446744073709551616 + a0 = 3 * q0 + r0) (h : r0 < 3) :
    q0 + 18446744073709551616 * (q1 + 18446744073709551616 * (q2 + 18446744073709551616 * q3)) = (a0 + 18446744073709551616 * (a1 + 18446744073709551616 * (a2 + 18446744073709551616 * a3))) / 3 := by
  have e := third_one (third_one (third_one (show a3 = 3 * q3 + r3 by omega) v2) v1) v0
  rw [e, Nat.mul_add_div (by omega), Nat.div_eq_of_lt h, Nat.add_zero]
theorem short3 (a : Word4) : ∃ q r, wide_short64 a 3#64 = some (q, r) ∧ wv q = wv a / 3 := by
  obtain ⟨q3, r3, s3, l3, v3⟩ := third_step a (Vec.rep 4 0#64) 0#64 (by decide) (k := 3) (by omega)
  obtain ⟨q2, r2, s2, l2, v2⟩ := third_step a ((Vec.rep 4 0#64).set 3 q3) r3 l3 (k := 2) (by omega)
  obtain ⟨q1, r1, s1, l1, v1⟩ := third_step a (((Vec.rep 4 0#64).set 3 q3).set 2 q2) r2 l2 (k := 1) (by omega)
  obtain ⟨q0, r0, s0, l0, v0⟩ := third_step a ((((Vec.rep 4 0#64).set 3 q3).set 2 q2).set 1 q1) r1 l1 (k := 0) (by omega)
  have hl : wlx (fun s => wide_short64.b1 a 3#64 s.1 s.2.1 s.2.2) ((Vec.rep 4 0#64, 0#64, 3) : Word4 × W64 × Int) = some (.inl (⟨[q0, q1, q2, q3], rfl⟩, r0, -1)) := wlx_of (k := 5) (by
    refine (wlk_next s3).trans ((wlk_next s2).trans ((wlk_next s1).trans ((wlk_next s0).trans ?_)))
    exact wlk_brk (show wide_short64.b1 a 3#64 ⟨[q0, q1, q2, q3], rfl⟩ r0 (-1) = some (.brk (⟨[q0, q1, q2, q3], rfl⟩, r0, -1)) by simp [wide_short64.b1, Let_eq])) (by omega)
  refine ⟨⟨[q0, q1, q2, q3], rfl⟩, wordOf r0, ?_, ?_⟩
  · unfold wide_short64
    rw [hl, Option.bind_some]
    show (word_Of r0).bind _ = _
    rw [Of_eq]; rfl
  · have z0 : (0#64 : W64).toNat = 0 := rfl
    rw [z0] at v3
    have g0 : (⟨[q0, q1, q2, q3], rfl⟩ : Word4).get 0 = q0 := rfl
    have g1 : (⟨[q0, q1, q2, q3], rfl⟩ : Word4).get 1 = q1 := rfl
    have g2 : (⟨[q0, q1, q2, q3], rfl⟩ : Word4).get 2 = q2 := rfl
    have g3 : (⟨[q0, q1, q2, q3], rfl⟩ : Word4).get 3 = q3 := rfl
    unfold wv
    rw [g0, g1, g2, g3]
    exact third_lin v3 v2 v1 v0 l0
theorem Div3_val (a : Word4) : ∃ q r, wide_Div a (wordOf 3#64) = some (q, r) ∧ wv q = wv a / 3 := by
  unfold wide_Div
  have h3 : wv (wordOf 3#64) = 3 := wordOf_val _
  rw [Small_val, Small_val, h3, Option.bind_some, Option.bind_some]
  simp only [Let_eq]
  have hz : ((wordOf 3#64).l == (Vec.rep 4 0#64 : Word4).l) = false := by decide
  rw [hz, cond_false, if_pos (show 3 < 18446744073709551616 by omega)]
  by_cases e : wv a < 18446744073709551616
  · rw [if_pos e]
    simp only [cond_true, Option.bind_some]
    rw [show (BitVec.ofNat 64 3 : W64) = 3#64 from rfl, Chk_ok (by decide), Of_eq, Option.bind_some, Chk_ok (by decide), Of_eq]
    refine ⟨_, _, rfl, ?_⟩
    rw [wordOf_val, BitVec.toNat_udiv, BitVec.toNat_ofNat, Nat.mod_eq_of_lt e]; rfl
  · rw [if_neg e]
    simp only [cond_true, cond_false, Option.bind_some]
    obtain ⟨q, r, h, hv⟩ := short3 a
    refine ⟨q, r, ?_, hv⟩
    rw [show (BitVec.ofNat 64 3 : W64) = 3#64 from rfl, h]; rfl
end Go.Proofs.Ytccilbklafhjiaa
