/- The program's numbers of bytes, products, bytes of numbers, powers. -/
import Derived.Test.YtccilbklafhjiaaNvB
namespace Go.Proofs.Ytccilbklafhjiaa
open Go.RowKit
set_option linter.unusedVariables false
set_option linter.unusedSimpArgs false
abbrev B8 := BitVec 8
/-- The number of the first so many bytes, the highest first. -/
def bp (b : List B8) : Nat → Nat
  | 0 => 0
  | i + 1 => bp b i * 256 + nd b i
/-- The number of bytes. -/
def bv (b : List B8) : Nat := bp b b.length
theorem nd8_lt (b : List B8) (i : Nat) : nd b i < 256 := by
  unfold nd; split
  · exact (lget b i).isLt
  · decide
theorem bp_lt (b : List B8) : ∀ i, bp b i < 256 ^ i
  | 0 => by simp [bp]
  | i + 1 => by
    have h1 := bp_lt b i
    have h2 := nd8_lt b i
    unfold bp
    rw [Nat.pow_succ]; omega
theorem or_up (d c r : Nat) (h1 : d % 256 ^ (r + 1) = 0) (h2 : c < 256) : d ||| c * 256 ^ r = d + c * 256 ^ r := by
  have e : d = 2 ^ (8 * (r + 1)) * (d / 2 ^ (8 * (r + 1))) := by
    have h3 : (256 : Nat) ^ (r + 1) = 2 ^ (8 * (r + 1)) := by rw [Nat.pow_mul]
    rw [h3] at h1
    have := Nat.div_add_mod d (2 ^ (8 * (r + 1)))
    omega
  have h4 : c * 256 ^ r < 2 ^ (8 * (r + 1)) := by
    have h5 : (256 : Nat) ^ r = 2 ^ (8 * r) := by rw [Nat.pow_mul]
    have h6 : 2 ^ (8 * (r + 1)) = 256 * 2 ^ (8 * r) := by rw [Nat.mul_add, Nat.pow_add]; omega
    rw [h5, h6]
    exact Nat.mul_lt_mul_of_pos_right h2 (Nat.pow_pos (by decide))
  have h7 := Nat.two_pow_add_eq_or_of_lt h4 (d / 2 ^ (8 * (r + 1)))
  rw [← e] at h7
  exact h7.symm
theorem of_val (b : List B8) (lb : b.length ≤ 10000) : ∃ c, modexp_of b = some c ∧ nv c = bv b ∧ Tr c ∧ c.length ≤ (b.length + 3) / 4 := by
  have h := wlx_inv (b := fun s => modexp_of.b1 (b.length : Int) b s.1 s.2) (fun i s => s.2 = (i : Int) ∧ s.1.length = (b.length + 3) / 4 ∧ nv s.1 = bp b i * 256 ^ (b.length - i)) (Q := fun s => s.1.length = (b.length + 3) / 4 ∧ nv s.1 = bv b) b.length
    (fun i ⟨y, j⟩ hi ⟨hj, hl, hv⟩ => by
      dsimp only at hj hl hv
      subst hj
      obtain ⟨k, hk⟩ : ∃ k, b.length = i + (k + 1) := ⟨b.length - i - 1, by omega⟩
      have e1 : wi ((b.length : Int) - 1) = (b.length : Int) - 1 := wi_id (by omega)
      have e2 : wi ((b.length : Int) - 1 - (i : Int)) = (k : Int) := by rw [wi_id (by omega)]; omega
      have e3 : wi (Int.tdiv (k : Int) 4) = ((k / 4 : Nat) : Int) := by rw [Int.tdiv_eq_ediv_of_nonneg (by omega), wi_id (by omega)]; omega
      have e4 : Int.tmod (k : Int) 4 = ((k % 4 : Nat) : Int) := by rw [Int.tmod_eq_emod_of_nonneg (by omega)]; omega
      have e5 : wi (8 * ((k % 4 : Nat) : Int)) = ((8 * (k % 4) : Nat) : Int) := by rw [wi_id (by omega)]; omega
      have e6 : wi ((i : Int) + 1) = ((i + 1 : Nat) : Int) := by rw [wi_id (by omega)]; omega
      have hq : k / 4 < y.length := by omega
      refine ⟨(y.set (k / 4) (lget y (k / 4) ||| (lget b i).setWidth 32 <<< (8 * (k % 4))), ((i + 1 : Nat) : Int)), ?_, rfl, by simp [hl], ?_⟩
      · simp only [modexp_of.b1, Let_eq, decide_eq_true (show (i : Int) < (b.length : Int) by omega), cond_true, e1, e2, e3, e4, e5, e6, Int.toNat_natCast, Chk_ok (show (0 : Int) ≤ (i : Int) ∧ (i : Int) < (b.length : Int) by omega), Chk_ok (show (0 : Int) ≤ ((k / 4 : Nat) : Int) ∧ ((k / 4 : Nat) : Int) < (y.length : Int) by omega), Chk_ok (show (0 : Int) ≤ ((8 * (k % 4) : Nat) : Int) by omega)]
      · show nv (y.set (k / 4) _) = bp b (i + 1) * 256 ^ (b.length - (i + 1))
        have hc := (lget b i).isLt
        have hw : ((lget b i).setWidth 32 <<< (8 * (k % 4))).toNat = (lget b i).toNat * 256 ^ (k % 4) := by
          rw [BitVec.toNat_shiftLeft, BitVec.toNat_setWidth, Nat.shiftLeft_eq, Nat.pow_mul]
          have : (lget b i).toNat % 2 ^ 32 = (lget b i).toNat := Nat.mod_eq_of_lt (by omega)
          rw [this]
          refine Nat.mod_eq_of_lt ?_
          have h4 : k % 4 = 0 ∨ k % 4 = 1 ∨ k % 4 = 2 ∨ k % 4 = 3 := by omega
          rcases h4 with h4 | h4 | h4 | h4 <;> rw [h4] <;> omega
        have hd : nd y (k / 4) % 256 ^ (k % 4 + 1) = 0 := by
          rw [nd_div, hv, show b.length - i = k + 1 by omega]
          have e7 : 256 ^ (k + 1) = BB ^ (k / 4) * 256 ^ (k % 4 + 1) := by
            show 256 ^ (k + 1) = (256 ^ 4) ^ (k / 4) * 256 ^ (k % 4 + 1)
            rw [← Nat.pow_mul, ← Nat.pow_add]; congr 1; omega
          rw [e7, Nat.mul_left_comm, Nat.mul_div_cancel_left _ (Nat.pow_pos (by decide))]
          have h4 : k % 4 = 0 ∨ k % 4 = 1 ∨ k % 4 = 2 ∨ k % 4 = 3 := by omega
          rcases h4 with h4 | h4 | h4 | h4 <;> rw [h4] <;> simp only [BB] <;> omega
        have hset := nv_set y hq (lget y (k / 4) ||| (lget b i).setWidth 32 <<< (8 * (k % 4)))
        have hor : (lget y (k / 4) ||| (lget b i).setWidth 32 <<< (8 * (k % 4))).toNat = nd y (k / 4) + (lget b i).toNat * 256 ^ (k % 4) := by
          rw [BitVec.toNat_or, hw, ← nd_in hq]
          exact or_up _ _ _ hd hc
        rw [hor, Nat.add_mul] at hset
        have e8 : (lget b i).toNat * 256 ^ (k % 4) * BB ^ (k / 4) = (lget b i).toNat * 256 ^ k := by
          rw [Nat.mul_assoc]
          congr 1
          show 256 ^ (k % 4) * (256 ^ 4) ^ (k / 4) = 256 ^ k
          rw [← Nat.pow_mul, ← Nat.pow_add]; congr 1; omega
        rw [e8] at hset
        have e9 : nv (y.set (k / 4) (lget y (k / 4) ||| (lget b i).setWidth 32 <<< (8 * (k % 4)))) = nv y + (lget b i).toNat * 256 ^ k := by omega
        rw [e9, hv, show b.length - i = k + 1 by omega, show b.length - (i + 1) = k by omega]
        show _ = (bp b i * 256 + nd b i) * 256 ^ k
        rw [nd_in hi, Nat.add_mul, Nat.pow_succ, Nat.mul_comm (256 ^ k) 256, ← Nat.mul_assoc])
    (fun ⟨y, j⟩ ⟨hj, hl, hv⟩ => by
      dsimp only at hj hl hv
      subst hj
      refine ⟨(y, (b.length : Int)), by simp only [modexp_of.b1, Let_eq, decide_eq_false (show ¬ (b.length : Int) < (b.length : Int) by omega), cond_false], hl, ?_⟩
      rw [hv, Nat.sub_self, Nat.pow_zero, Nat.mul_one]; rfl)
    (s0 := (List.replicate ((b.length + 3) / 4) 0#32, ((0 : Nat) : Int))) ⟨rfl, by simp, by show nv (List.replicate _ _) = _; rw [nv_rep]; simp [bp]⟩ (by omega)
  obtain ⟨⟨y, j⟩, h1, hl, hv⟩ := h
  dsimp only at hl hv
  obtain ⟨z, hz, hzv, hzt, hzl⟩ := trim_val y (by omega)
  refine ⟨z, ?_, by rw [hzv, hv], hzt, by omega⟩
  have e1 : wi ((b.length : Int) + 3) = ((b.length + 3 : Nat) : Int) := by rw [wi_id (by omega)]; omega
  have e2 : wi (Int.tdiv ((b.length + 3 : Nat) : Int) 4) = (((b.length + 3) / 4 : Nat) : Int) := by rw [Int.tdiv_eq_ediv_of_nonneg (by omega), wi_id (by omega)]; omega
  unfold modexp_of
  simp only [Let_eq, e1, e2, Int.toNat_natCast]
  rw [Chk_ok (by omega), show (0 : Int) = ((0 : Nat) : Int) from rfl, h1, Option.bind_some]
  show (modexp_number_trim y).bind _ = _
  rw [hz]; rfl
/-! ### Products -/
theorem mac_val (x y o : B32) (c : BitVec 64) (hc : c.toNat < BB) : (x.setWidth 64 * y.setWidth 64 + o.setWidth 64 + c).toNat = x.toNat * y.toNat + o.toNat + c.toNat := by
  have hx := x.isLt; have hy := y.isLt; have ho := o.isLt
  have h1 := mul_le_ hx hy
  have hc' : c.toNat < 4294967296 := hc
  rw [BitVec.toNat_add, BitVec.toNat_add, BitVec.toNat_mul, BitVec.toNat_setWidth, BitVec.toNat_setWidth, BitVec.toNat_setWidth]
  have e1 : x.toNat % 2 ^ 64 = x.toNat := Nat.mod_eq_of_lt (by omega)
  have e2 : y.toNat % 2 ^ 64 = y.toNat := Nat.mod_eq_of_lt (by omega)
  have e3 : o.toNat % 2 ^ 64 = o.toNat := Nat.mod_eq_of_lt (by omega)
  rw [e1, e2, e3]
  generalize x.toNat * y.toNat = p at *
  omega
theorem times_in (a b : List B32) (x : B32) (i : Nat) (n : Nat) (hn : n ≤ 100000) (hin : i + b.length < n) (y0 : List B32) (hy0 : y0.length = n) (hz : ∀ j, i + b.length ≤ j → nd y0 j = 0) :
    ∃ y c k, wlx (fun s => modexp_number_times.b2 (b.length : Int) b x (i : Int) s.1 s.2.1 s.2.2) (y0, 0#64, 0) = some (.inl (y, c, k)) ∧ y.length = n ∧ c.toNat < BB ∧ nv y + c.toNat * BB ^ (i + b.length) = nv y0 + x.toNat * nv b * BB ^ i ∧ ∀ j, i + b.length ≤ j → nd y j = 0 := by
  have h := wlx_inv (b := fun s => modexp_number_times.b2 (b.length : Int) b x (i : Int) s.1 s.2.1 s.2.2) (fun k s => s.2.2 = (k : Int) ∧ s.1.length = n ∧ s.2.1.toNat < BB ∧ nv s.1 + s.2.1.toNat * BB ^ (i + k) = nv y0 + x.toNat * ns BB (nd b) k * BB ^ i ∧ ∀ j, i + b.length ≤ j → nd s.1 j = 0) (Q := fun s => s.1.length = n ∧ s.2.1.toNat < BB ∧ nv s.1 + s.2.1.toNat * BB ^ (i + b.length) = nv y0 + x.toNat * nv b * BB ^ i ∧ ∀ j, i + b.length ≤ j → nd s.1 j = 0) b.length
    (fun k ⟨y, c, j⟩ hk ⟨hj, hl, hc, hv, hzz⟩ => by
      dsimp only at hj hl hc hv hzz
      subst hj
      have e1 : wi ((i : Int) + (k : Int)) = ((i + k : Nat) : Int) := by rw [wi_id (by omega)]; omega
      have e2 : wi ((k : Int) + 1) = ((k + 1 : Nat) : Int) := by rw [wi_id (by omega)]; omega
      have hm := mac_val x (lget b k) (lget y (i + k)) c hc
      have hx := x.isLt; have hy := (lget b k).isLt; have ho := (lget y (i + k)).isLt
      have h1 := mul_le_ hx hy
      have hc' : c.toNat < 4294967296 := hc
      obtain ⟨s, hs⟩ : ∃ s, s = x.setWidth 64 * (lget b k).setWidth 64 + (lget y (i + k)).setWidth 64 + c := ⟨_, rfl⟩
      rw [← hs] at hm
      have hlo : (s.setWidth 32).toNat = s.toNat % 4294967296 := by rw [BitVec.toNat_setWidth]
      have hhi : (s >>> 32).toNat = s.toNat / 4294967296 := high32 s
      have hslt := s.isLt
      refine ⟨(y.set (i + k) (s.setWidth 32), s >>> 32, ((k + 1 : Nat) : Int)), ?_, rfl, by simp [hl], ?_, ?_, ?_⟩
      · simp only [modexp_number_times.b2, Let_eq, decide_eq_true (show (k : Int) < (b.length : Int) by omega), cond_true, e1, e2, Int.toNat_natCast, Chk_ok (show (0 : Int) ≤ (k : Int) ∧ (k : Int) < (b.length : Int) by omega), Chk_ok (show (0 : Int) ≤ ((i + k : Nat) : Int) ∧ ((i + k : Nat) : Int) < (y.length : Int) by omega), ← hs]
      · show (s >>> 32).toNat < BB
        rw [hhi]; simp only [BB]; omega
      · show nv (y.set (i + k) (s.setWidth 32)) + (s >>> 32).toNat * BB ^ (i + (k + 1)) = nv y0 + x.toNat * ns BB (nd b) (k + 1) * BB ^ i
        have hset := nv_set y (k := i + k) (by omega) (s.setWidth 32)
        rw [hlo] at hset
        rw [hhi, ns_succ, Nat.mul_add, Nat.add_mul, nd_in hk]
        have e3 : s.toNat / 4294967296 * BB ^ (i + (k + 1)) = s.toNat / 4294967296 * 4294967296 * BB ^ (i + k) := by
          rw [← Nat.add_assoc, Nat.pow_succ, Nat.mul_comm (BB ^ (i + k)) BB, ← Nat.mul_assoc]
        have e4 : x.toNat * ((lget b k).toNat * BB ^ k) * BB ^ i = x.toNat * (lget b k).toNat * BB ^ (i + k) := by
          rw [← Nat.mul_assoc, Nat.mul_assoc (x.toNat * (lget b k).toNat), ← Nat.pow_add, Nat.add_comm k i]
        have e5 : (s.toNat % 4294967296 + s.toNat / 4294967296 * 4294967296) * BB ^ (i + k) = (x.toNat * (lget b k).toNat + (lget y (i + k)).toNat + c.toNat) * BB ^ (i + k) := by rw [← hm]; congr 1; omega
        have e6 : nd y (i + k) = (lget y (i + k)).toNat := nd_in (by omega)
        rw [e3, e4]
        rw [e6] at hset
        simp only [Nat.add_mul] at e5
        omega
      · intro j hj
        show nd (y.set (i + k) _) j = 0
        rw [nd_set y (by omega), if_neg (by omega)]; exact hzz j hj)
    (fun ⟨y, c, j⟩ ⟨hj, hl, hc, hv, hzz⟩ => by
      dsimp only at hj hl hc hv hzz
      subst hj
      exact ⟨(y, c, (b.length : Int)), by simp only [modexp_number_times.b2, Let_eq, decide_eq_false (show ¬ (b.length : Int) < (b.length : Int) by omega), cond_false], hl, hc, hv, hzz⟩)
    (s0 := (y0, 0#64, ((0 : Nat) : Int))) ⟨rfl, hy0, by show (0#64 : BitVec 64).toNat < BB; decide, by simp [ns], hz⟩ (by omega)
  obtain ⟨⟨y, c, k⟩, h1, h2⟩ := h
  exact ⟨y, c, k, h1, h2⟩
theorem times_val (a b : List B32) (la : a.length ≤ 10000) (lb : b.length ≤ 10000) : ∃ c, modexp_number_times a b = some c ∧ nv c = nv a * nv b ∧ Tr c ∧ c.length ≤ a.length + b.length := by
  have h := wlx_inv (b := fun s => modexp_number_times.b1 (a.length : Int) a b s.1 s.2) (fun i s => s.2 = (i : Int) ∧ s.1.length = a.length + b.length ∧ nv s.1 = ns BB (nd a) i * nv b ∧ ∀ j, i + b.length ≤ j → nd s.1 j = 0) (Q := fun s => s.1.length = a.length + b.length ∧ nv s.1 = nv a * nv b) a.length
    (fun i ⟨y, j⟩ hi ⟨hj, hl, hv, hz⟩ => by
      dsimp only at hj hl hv hz
      subst hj
      have e1 : wi ((i : Int) + (b.length : Int)) = ((i + b.length : Nat) : Int) := by rw [wi_id (by omega)]; omega
      have e2 : wi ((i : Int) + 1) = ((i + 1 : Nat) : Int) := by rw [wi_id (by omega)]; omega
      obtain ⟨y', c, k, hw, hl', hc, hv', hz'⟩ := times_in a b (lget a i) i (a.length + b.length) (by omega) (by omega) y hl hz
      refine ⟨(y'.set (i + b.length) (c.setWidth 32), ((i + 1 : Nat) : Int)), ?_, rfl, by simp [hl'], ?_, ?_⟩
      · simp only [modexp_number_times.b1, Let_eq, decide_eq_true (show (i : Int) < (a.length : Int) by omega), cond_true, Chk_ok (show (0 : Int) ≤ (i : Int) ∧ (i : Int) < (a.length : Int) by omega), Int.toNat_natCast, hw, Option.bind_some, Sum.elim_inl, e1, e2, Chk_ok (show (0 : Int) ≤ ((i + b.length : Nat) : Int) ∧ ((i + b.length : Nat) : Int) < (y'.length : Int) by omega)]
      · show nv (y'.set (i + b.length) (c.setWidth 32)) = ns BB (nd a) (i + 1) * nv b
        have hset := nv_set y' (k := i + b.length) (by omega) (c.setWidth 32)
        have hcw : (c.setWidth 32).toNat = c.toNat := by rw [BitVec.toNat_setWidth]; exact Nat.mod_eq_of_lt hc
        rw [hz' _ (Nat.le_refl _), hcw, Nat.zero_mul] at hset
        rw [ns_succ, Nat.add_mul, nd_in hi]
        have e3 : (lget a i).toNat * BB ^ i * nv b = (lget a i).toNat * nv b * BB ^ i := by rw [Nat.mul_assoc, Nat.mul_assoc, Nat.mul_comm (BB ^ i)]
        rw [e3]; omega
      · intro j hj
        show nd (y'.set (i + b.length) _) j = 0
        rw [nd_set y' (by omega), if_neg (by omega)]; exact hz' j (by omega))
    (fun ⟨y, j⟩ ⟨hj, hl, hv, hz⟩ => by
      dsimp only at hj hl hv hz
      subst hj
      exact ⟨(y, (a.length : Int)), by simp only [modexp_number_times.b1, Let_eq, decide_eq_false (show ¬ (a.length : Int) < (a.length : Int) by omega), cond_false], hl, hv⟩)
    (s0 := (List.replicate (a.length + b.length) 0#32, ((0 : Nat) : Int))) ⟨rfl, by simp, by show nv (List.replicate _ _) = _; rw [nv_rep]; simp [ns], fun j _ => nd_rep _ j⟩ (by omega)
  obtain ⟨⟨y, j⟩, h1, hl, hv⟩ := h
  dsimp only at hl hv
  obtain ⟨z, hz, hzv, hzt, hzl⟩ := trim_val y (by omega)
  refine ⟨z, ?_, by rw [hzv, hv], hzt, by omega⟩
  have e1 : wi ((a.length : Int) + (b.length : Int)) = ((a.length + b.length : Nat) : Int) := by rw [wi_id (by omega)]; omega
  unfold modexp_number_times
  simp only [Let_eq, e1, Int.toNat_natCast]
  rw [Chk_ok (by omega), show (0 : Int) = ((0 : Nat) : Int) from rfl, h1, Option.bind_some]
  show (modexp_number_trim y).bind _ = _
  rw [hz]; rfl
end Go.Proofs.Ytccilbklafhjiaa
