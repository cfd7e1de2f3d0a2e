/- The program's differences, remainders, products of digits. -/
import Derived.Test.YtccilbklafhjiaaNvA
import Derived.Test.YtccilbklafhjiaaWvB
namespace Go.Proofs.Ytccilbklafhjiaa
open Go.RowKit
set_option linter.unusedVariables false
set_option linter.unusedSimpArgs false
theorem msb_top (e : B32) : (e >>> 31).toNat = if e.msb then 1 else 0 := by
  have := e.isLt
  rw [shr31, BitVec.msb_eq_decide]
  by_cases h : 2 ^ (32 - 1) ≤ e.toNat
  · rw [decide_eq_true h, if_pos rfl]; omega
  · rw [decide_eq_false h, if_neg (by simp)]; omega
theorem Sub32_val (x y b : B32) (hb : b.toNat ≤ 1) : ∃ d c, bits_Sub32 x y b = some (d, c) ∧ c.toNat ≤ 1 ∧ d.toNat + y.toNat + b.toNat = x.toNat + BB * c.toNat := by
  refine ⟨x - y - b, ((~~~x &&& y) ||| (~~~(x ^^^ y) &&& (x - y - b))) >>> 31, by unfold bits_Sub32; simp only [Let_eq], ?_⟩
  have hx := x.isLt; have hy := y.isLt
  have hd : (x - y - b).toNat = (x.toNat + 4294967296 - y.toNat + 4294967296 - b.toNat) % 4294967296 := by
    rw [BitVec.toNat_sub, BitVec.toNat_sub]; omega
  have hm : ((~~~x &&& y) ||| (~~~(x ^^^ y) &&& (x - y - b))).msb = ((!x.msb && y.msb) || (!(x.msb ^^ y.msb) && (x - y - b).msb)) := by
    simp [BitVec.msb_or, BitVec.msb_and, BitVec.msb_not, BitVec.msb_xor]
  rw [msb_top, hm]
  simp only [BitVec.msb_eq_decide, hd, BB]
  by_cases h1 : 2 ^ (32 - 1) ≤ x.toNat
  · by_cases h2 : 2 ^ (32 - 1) ≤ y.toNat
    · by_cases h3 : 2 ^ (32 - 1) ≤ (x.toNat + 4294967296 - y.toNat + 4294967296 - b.toNat) % 4294967296
      · simp only [decide_eq_true h1, decide_eq_true h2, decide_eq_true h3]; simp; omega
      · simp only [decide_eq_true h1, decide_eq_true h2, decide_eq_false h3]; simp; omega
    · simp only [decide_eq_true h1, decide_eq_false h2]; simp; omega
  · by_cases h2 : 2 ^ (32 - 1) ≤ y.toNat
    · simp only [decide_eq_false h1, decide_eq_true h2]; simp; omega
    · by_cases h3 : 2 ^ (32 - 1) ≤ (x.toNat + 4294967296 - y.toNat + 4294967296 - b.toNat) % 4294967296
      · simp only [decide_eq_false h1, decide_eq_false h2, decide_eq_true h3]; simp; omega
      · simp only [decide_eq_false h1, decide_eq_false h2, decide_eq_false h3]; simp; omega
theorem minus_val (a b : List B32) (hle : nv b ≤ nv a) (hb : Tr b) (la : a.length ≤ 100000) : ∃ c, modexp_number_minus a b = some c ∧ nv c = nv a - nv b ∧ Tr c ∧ c.length ≤ a.length := by
  have lb : b.length ≤ a.length := nm_le hb hle
  have h := wlx_inv (b := fun s => modexp_number_minus.b1 (a.length : Int) a b s.1 s.2.1 s.2.2) (fun i s => s.2.2 = (i : Int) ∧ s.1.length = a.length ∧ s.2.1.toNat ≤ 1 ∧ ns BB (nd s.1) i + ns BB (nd b) i = ns BB (nd a) i + s.2.1.toNat * BB ^ i) (Q := fun s => s.1.length = a.length ∧ s.2.1.toNat ≤ 1 ∧ ns BB (nd s.1) a.length + nv b = nv a + s.2.1.toNat * BB ^ a.length) a.length
    (fun i ⟨y, c, k⟩ hi ⟨hk, hl, hc, hv⟩ => by
      dsimp only at hk hl hc hv
      subst hk
      have h1 : decide ((i : Int) < (a.length : Int)) = true := decide_eq_true (by omega)
      have h2 : wi ((i : Int) + 1) = ((i + 1 : Nat) : Int) := by rw [wi_id (by omega)]; omega
      obtain ⟨yb, hyb, hyv⟩ : ∃ yb : B32, (bif decide ((i : Int) < (b.length : Int)) then Chk ((0 : Int) ≤ (i : Int) ∧ (i : Int) < (b.length : Int)) (some (lget b i)) else some 0#32) = some yb ∧ yb.toNat = nd b i := by
        by_cases e : i < b.length
        · exact ⟨lget b i, by rw [decide_eq_true (by omega), cond_true, Chk_ok (by omega)], (nd_in e).symm⟩
        · exact ⟨0#32, by rw [decide_eq_false (by omega), cond_false], (nd_out (by omega)).symm⟩
      obtain ⟨d, c', hs, hc', he⟩ := Sub32_val (lget a i) yb c hc
      refine ⟨(y.set i d, c', ((i + 1 : Nat) : Int)), ?_, rfl, by simp [hl], hc', ?_⟩
      · simp only [modexp_number_minus.b1, Let_eq, h1, cond_true, Chk_ok (show (0 : Int) ≤ (i : Int) ∧ (i : Int) < (a.length : Int) by omega), Int.toNat_natCast, Chk_ok (show (0 : Int) ≤ (i : Int) ∧ (i : Int) < (y.length : Int) by omega), h2, hyb, Option.bind_some, hs]
      · show ns BB (nd (y.set i d)) (i + 1) + ns BB (nd b) (i + 1) = ns BB (nd a) (i + 1) + c'.toNat * BB ^ (i + 1)
        rw [ns_succ, ns_succ, ns_succ, ns_congr (g := nd y) fun j hj => by rw [nd_set y (by omega), if_neg (by omega)], nd_set y (by omega), if_pos rfl, nd_in hi, ← hyv, Nat.pow_succ]
        have e2 : (d.toNat + yb.toNat + c.toNat) * BB ^ i = ((lget a i).toNat + BB * c'.toNat) * BB ^ i := by rw [he]
        have e3 : c'.toNat * (BB ^ i * BB) = BB * c'.toNat * BB ^ i := by rw [Nat.mul_comm (BB ^ i), ← Nat.mul_assoc, Nat.mul_comm c'.toNat]
        rw [e3]
        simp only [Nat.add_mul] at e2
        omega)
    (fun ⟨y, c, k⟩ ⟨hk, hl, hc, hv⟩ => by
      dsimp only at hk hl hc hv
      subst hk
      refine ⟨(y, c, (a.length : Int)), by simp only [modexp_number_minus.b1, Let_eq, decide_eq_false (show ¬ (a.length : Int) < (a.length : Int) by omega), cond_false], hl, hc, ?_⟩
      rw [nv_more lb] at hv; exact hv)
    (s0 := (List.replicate a.length 0#32, 0#32, ((0 : Nat) : Int))) ⟨rfl, by simp, by show (0#32 : B32).toNat ≤ 1; decide, by simp [ns]⟩ (by omega)
  obtain ⟨⟨y, c, k⟩, h1, hl, hc, hv⟩ := h
  dsimp only at hl hc hv
  have hyv : ns BB (nd y) a.length = nv y := by rw [← hl]; rfl
  rw [hyv] at hv
  have hyl := nv_lt y
  rw [hl] at hyl
  have hc0 : c.toNat = 0 := by
    rcases Nat.lt_or_ge 0 c.toNat with h0 | h0
    · have : 1 * BB ^ a.length ≤ c.toNat * BB ^ a.length := Nat.mul_le_mul_right _ h0
      omega
    · omega
  rw [hc0, Nat.zero_mul] at hv
  obtain ⟨z, hz, hzv, hzn, hzl⟩ := trim_val y (by omega)
  refine ⟨z, ?_, by omega, hzn, by omega⟩
  unfold modexp_number_minus
  simp only [Let_eq, Int.toNat_natCast]
  rw [Chk_ok (by omega), show (0 : Int) = ((0 : Nat) : Int) from rfl, h1, Option.bind_some]
  show (modexp_number_trim y).bind _ = _
  rw [hz]; rfl
/-- A part of a digit is a part of the number. -/
theorem nd_div (a : List B32) (q : Nat) : nd a q = nv a / BB ^ q % BB := by
  rcases Nat.lt_or_ge q a.length with h | h
  · obtain ⟨k, hk⟩ : ∃ k, a.length = q + (1 + k) := ⟨a.length - q - 1, by omega⟩
    have e : nv a = ns BB (nd a) q + BB ^ q * (nd a q + BB * ns BB (fun j => nd a (q + (1 + j))) k) := by
      unfold nv
      rw [hk, ns_split, ns_split BB (fun j => nd a (q + j)) 1 k]
      show _ + BB ^ q * (ns BB (fun j => nd a (q + j)) 0 + nd a (q + 0) * BB ^ 0 + BB ^ 1 * _) = _
      rw [Nat.pow_zero, Nat.pow_one, Nat.mul_one]
      show _ + BB ^ q * (0 + nd a q + _) = _
      rw [Nat.zero_add]
    have hlt := ns_lt (B := BB) (by decide) (f := nd a) (n := q) fun j _ => nd_lt a j
    rw [e, Nat.add_mul_div_left _ _ (Nat.pow_pos (by decide)), Nat.div_eq_of_lt hlt, Nat.zero_add, Nat.add_mul_mod_self_left, Nat.mod_eq_of_lt (nd_lt a q)]
  · have h1 := nv_lt a
    have h2 : BB ^ a.length ≤ BB ^ q := Nat.pow_le_pow_right (by decide) h
    rw [nd_out h, Nat.div_eq_of_lt (by omega)]; rfl
theorem part_of (v r m : Nat) (h : r + m ≤ 32) : v % BB / 2 ^ r % 2 ^ m = v / 2 ^ r % 2 ^ m := by
  obtain ⟨k, hk⟩ : ∃ k, 32 = r + (m + k) := ⟨32 - r - m, by omega⟩
  have e : BB = 2 ^ r * (2 ^ m * 2 ^ k) := by rw [← Nat.pow_add, ← Nat.pow_add, ← hk]
  rw [e, Nat.mod_mul_right_div_self, Nat.mod_mul_right_mod]
theorem nd_part (a : List B32) (q r m : Nat) (h : r + m ≤ 32) : nd a q / 2 ^ r % 2 ^ m = nv a / 2 ^ (32 * q + r) % 2 ^ m := by
  rw [nd_div, part_of _ _ _ h, Nat.div_div_eq_div_mul]
  congr 2
  rw [Nat.pow_add, Nat.pow_mul]
/-- What is left of a number. -/
theorem mod_val (a m : List B32) (hm : Tr m) (h0 : nv m ≠ 0) (la : a.length ≤ 10000) (lm : m.length ≤ 10000) : ∃ c, modexp_number_mod a m = some c ∧ nv c = nv a % nv m ∧ Tr c ∧ c.length ≤ m.length := by
  have h := wlx_down (b := fun s => modexp_number_mod.b1 a m s.1 s.2) (fun k s => s.2 = (k : Int) - 1 ∧ k ≤ 32 * a.length ∧ nv s.1 = nv a / 2 ^ k % nv m ∧ Tr s.1 ∧ s.1.length ≤ m.length) (Q := fun o => ∃ c j, o = .inl (c, j) ∧ nv c = nv a % nv m ∧ Tr c ∧ c.length ≤ m.length) (32 * a.length)
    (fun k ⟨x, j⟩ hk ⟨hj, hkl, hv, htr, hxl⟩ => by
      dsimp only at hj hv htr hxl
      subst hj
      cases k with
      | zero =>
        refine .inr (.inl ⟨(x, ((0 : Nat) : Int) - 1), ?_, x, _, rfl, ?_, htr, hxl⟩)
        · simp only [modexp_number_mod.b1, Let_eq]; rfl
        · rw [hv]; simp
      | succ k =>
        have e0 : ((k + 1 : Nat) : Int) - 1 = (k : Int) := by omega
        have e1 : wi (Int.tdiv (k : Int) 32) = ((k / 32 : Nat) : Int) := by rw [Int.tdiv_eq_ediv_of_nonneg (by omega), wi_id (by omega)]; omega
        have e2 : Int.tmod (k : Int) 32 = ((k % 32 : Nat) : Int) := by rw [Int.tmod_eq_emod_of_nonneg (by omega)]; omega
        have e3 : wi ((k : Int) - 1) = (k : Int) - 1 := wi_id (by omega)
        have hq : k / 32 < a.length := by omega
        have hbit : (lget a (k / 32) >>> (k % 32) &&& 1#32).toNat = nv a / 2 ^ k % 2 := by
          have h1 := nd_part a (k / 32) (k % 32) 1 (by omega)
          rw [show 32 * (k / 32) + k % 32 = k by omega, Nat.pow_one] at h1
          rw [← h1, nd_in hq, BitVec.toNat_and, BitVec.toNat_ushiftRight, Nat.shiftRight_eq_div_pow]
          exact Nat.and_one_is_mod _
        have hb1 : (lget a (k / 32) >>> (k % 32) &&& 1#32).toNat ≤ 1 := by rw [hbit]; omega
        obtain ⟨c, hc, hcv, hct, hcl⟩ := double_val x _ hb1 (by omega)
        have hless := less_val hct hm (by omega) (by omega)
        have hdv : nv a / 2 ^ k = 2 * (nv a / 2 ^ (k + 1)) + nv a / 2 ^ k % 2 := by
          rw [Nat.pow_succ, ← Nat.div_div_eq_div_mul]; omega
        have hxm : nv x < nv m := by rw [hv]; exact Nat.mod_lt _ (by omega)
        have hmod : nv a / 2 ^ k % nv m = (2 * nv x + nv a / 2 ^ k % 2) % nv m := by
          rw [hv]
          conv => lhs; rw [hdv]
          rw [Nat.add_mod, Nat.mul_mod, Nat.add_mod (2 * (nv a / 2 ^ (k + 1) % nv m)), Nat.mul_mod 2 (nv a / 2 ^ (k + 1) % nv m), Nat.mod_mod]
        rw [hbit] at hcv
        have hb : ∀ x5 : List B32, (bif !(decide (nv c < nv m)) then (modexp_number_minus c m).bind fun x32 => some x32 else some c) = some x5 → modexp_number_mod.b1 a m x (k : Int) = some (.next (x5, (k : Int) - 1)) := fun x5 h5 => by
          simp only [modexp_number_mod.b1, Let_eq, decide_eq_true (show (0 : Int) ≤ (k : Int) by omega), cond_true, e1, e2, Int.toNat_natCast, Chk_ok (show (0 : Int) ≤ ((k / 32 : Nat) : Int) ∧ ((k / 32 : Nat) : Int) < (a.length : Int) by omega), Chk_ok (show (0 : Int) ≤ ((k % 32 : Nat) : Int) by omega), hc, hless, Option.bind_some, h5, e3]
        rw [e0]
        by_cases hlt : nv c < nv m
        · refine .inl ⟨(c, (k : Int) - 1), k, by omega, hb c (by rw [decide_eq_true hlt]; rfl), rfl, by omega, ?_, hct, nm_le hct (Nat.le_of_lt hlt)⟩
          show nv c = nv a / 2 ^ k % nv m
          rw [hmod, ← hcv, Nat.mod_eq_of_lt hlt]
        · obtain ⟨d, hd, hdv2, hdt, hdl⟩ := minus_val c m (by omega) hm (by omega)
          have hdm : nv d < nv m := by omega
          refine .inl ⟨(d, (k : Int) - 1), k, by omega, hb d (by rw [decide_eq_false hlt]; show (modexp_number_minus c m).bind _ = _; rw [hd]; rfl), rfl, by omega, ?_, hdt, nm_le hdt (Nat.le_of_lt hdm)⟩
          show nv d = nv a / 2 ^ k % nv m
          rw [hmod, ← hcv, Nat.mod_eq_sub_mod (by omega), hdv2, Nat.mod_eq_of_lt (by omega)]) (s0 := ([], wi (wi (32 * (a.length : Int)) - 1))) ⟨by rw [wi_id (n := 32 * (a.length : Int)) (by omega), wi_id (by omega)]; omega, Nat.le_refl _, by
      have h1 := nv_lt a
      have h2 : BB ^ a.length = 2 ^ (32 * a.length) := by rw [Nat.pow_mul]
      rw [← h2, Nat.div_eq_of_lt h1]; simp [nv, ns], nm_nil, by simp⟩ (by omega)
  obtain ⟨o, ho, c, j, rfl, hv, ht, hl⟩ := h
  refine ⟨c, ?_, hv, ht, hl⟩
  unfold modexp_number_mod
  rw [Let_eq, Let_eq, Let_eq, ho, Option.bind_some]; rfl
end Go.Proofs.Ytccilbklafhjiaa
