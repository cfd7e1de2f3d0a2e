/- The program's powers of bytes. -/
import Derived.Test.YtccilbklafhjiaaNvC
namespace Go.Proofs.Ytccilbklafhjiaa
open Go.RowKit
set_option linter.unusedVariables false
set_option linter.unusedSimpArgs false
/-- So many bytes of a number, the highest first. -/
def be (n v : Nat) : List B8 := (List.range n).map fun j => BitVec.ofNat 8 (v / 256 ^ (n - 1 - j))
theorem be_len (n v : Nat) : (be n v).length = n := by simp [be]
theorem list_ext8 {l r : List B8} (hl : l.length = r.length) (h : ∀ j, j < l.length → (lget l j).toNat = (lget r j).toNat) : l = r := by
  apply List.ext_getElem?
  intro j
  by_cases hj : j < l.length
  · rw [lget_at hj, lget_at (by omega), BitVec.eq_of_toNat_eq (h j hj)]
  · rw [List.getElem?_eq_none (by omega), List.getElem?_eq_none (by omega)]
theorem be_get (n v : Nat) {j : Nat} (hj : j < n) : (lget (be n v) j).toNat = v / 256 ^ (n - 1 - j) % 256 := by
  unfold be lget; simp [hj]
theorem lget_set {w : Nat} (y : List (BitVec w)) {k : Nat} (hk : k < y.length) (x : BitVec w) {j : Nat} : lget (y.set k x) j = if j = k then x else lget y j := by
  unfold lget
  simp only [List.getD_eq_getElem?_getD, List.getElem?_set]
  by_cases e : j = k
  · subst e; simp [hk]
  · simp [e, Ne.symm e]
/-- What stands in the bytes so far. -/
def Bys (a : List B32) (n P : Nat) (y : List B8) : Prop := y.length = n ∧ ∀ j, j < n → (lget y j).toNat = if n - 1 - j < P then nv a / 256 ^ (n - 1 - j) % 256 else 0
theorem byte_of (a : List B32) (i k : Nat) (hi : i < a.length) (hk : k < 4) : ((lget a i >>> (8 * k)).setWidth 8).toNat = nv a / 256 ^ (4 * i + k) % 256 := by
  have h := nd_part a i (8 * k) 8 (by omega)
  rw [nd_in hi] at h
  rw [BitVec.toNat_setWidth, BitVec.toNat_ushiftRight, Nat.shiftRight_eq_div_pow, h, show 32 * i + 8 * k = 8 * (4 * i + k) by omega, Nat.pow_mul]
theorem bytes_step (a : List B32) (n i k : Nat) (hi : i < a.length) (hk : k < 4) (la : a.length ≤ 10000) (hn : n ≤ 1000000) {y : List B8} (hy : Bys a n (4 * i + k) y) : ∃ y', modexp_number_bytes.b2 (n : Int) (i : Int) (lget a i) y (k : Int) = some (.next (y', ((k + 1 : Nat) : Int))) ∧ Bys a n (4 * i + (k + 1)) y' := by
  have e1 : wi ((n : Int) - 1) = (n : Int) - 1 := wi_id (by omega)
  have e2 : wi (4 * (i : Int)) = ((4 * i : Nat) : Int) := by rw [wi_id (by omega)]; omega
  have e3 : wi ((n : Int) - 1 - ((4 * i : Nat) : Int)) = (n : Int) - 1 - ((4 * i : Nat) : Int) := wi_id (by omega)
  have e4 : wi ((n : Int) - 1 - ((4 * i : Nat) : Int) - (k : Int)) = (n : Int) - 1 - ((4 * i + k : Nat) : Int) := by rw [wi_id (by omega)]; omega
  have e5 : wi (8 * (k : Int)) = ((8 * k : Nat) : Int) := by rw [wi_id (by omega)]; omega
  have e6 : wi ((k : Int) + 1) = ((k + 1 : Nat) : Int) := by rw [wi_id (by omega)]; omega
  obtain ⟨hl, hg⟩ := hy
  by_cases h : 4 * i + k < n
  · have hpos : (n : Int) - 1 - ((4 * i + k : Nat) : Int) = ((n - 1 - (4 * i + k) : Nat) : Int) := by omega
    refine ⟨y.set (n - 1 - (4 * i + k)) ((lget a i >>> (8 * k)).setWidth 8), ?_, by simp [hl], fun j hj => ?_⟩
    · simp only [modexp_number_bytes.b2, Let_eq, decide_eq_true (show (k : Int) < 4 by omega), cond_true, e1, e2, e3, e4, hpos, decide_eq_true (show (0 : Int) ≤ ((n - 1 - (4 * i + k) : Nat) : Int) by omega), e5, Chk_ok (show (0 : Int) ≤ ((8 * k : Nat) : Int) by omega), Int.toNat_natCast, Chk_ok (show (0 : Int) ≤ ((n - 1 - (4 * i + k) : Nat) : Int) ∧ ((n - 1 - (4 * i + k) : Nat) : Int) < (y.length : Int) by omega), Option.bind_some, e6]
    · rw [lget_set y (by omega)]
      by_cases ej : j = n - 1 - (4 * i + k)
      · rw [if_pos ej, byte_of a i k hi hk, if_pos (by omega), show n - 1 - j = 4 * i + k by omega]
      · rw [if_neg ej, hg j hj]
        by_cases e7 : n - 1 - j < 4 * i + k
        · rw [if_pos e7, if_pos (by omega)]
        · rw [if_neg e7, if_neg (by omega)]
  · refine ⟨y, ?_, hl, fun j hj => ?_⟩
    · simp only [modexp_number_bytes.b2, Let_eq, decide_eq_true (show (k : Int) < 4 by omega), cond_true, e1, e2, e3, e4, decide_eq_false (show ¬ (0 : Int) ≤ (n : Int) - 1 - ((4 * i + k : Nat) : Int) by omega), cond_false, Option.bind_some, e6]
    · rw [hg j hj]
      by_cases e7 : n - 1 - j < 4 * i + k
      · rw [if_pos e7, if_pos (by omega)]
      · exfalso; omega
theorem bytes_val (a : List B32) (n : Nat) (la : a.length ≤ 10000) (hn : n ≤ 1000000) : modexp_number_bytes a (n : Int) = some (be n (nv a)) := by
  have h := wlx_inv (b := fun s => modexp_number_bytes.b1 (a.length : Int) a (n : Int) s.1 s.2) (fun i s => s.2 = (i : Int) ∧ Bys a n (4 * i) s.1) (Q := fun s => Bys a n (4 * a.length) s.1) a.length
    (fun i ⟨y, j⟩ hi ⟨hj, hy⟩ => by
      dsimp only at hj hy
      subst hj
      have e6 : wi ((i : Int) + 1) = ((i + 1 : Nat) : Int) := by rw [wi_id (by omega)]; omega
      have hw := wlx_inv (b := fun s => modexp_number_bytes.b2 (n : Int) (i : Int) (lget a i) s.1 s.2) (fun k s => s.2 = (k : Int) ∧ Bys a n (4 * i + k) s.1) (Q := fun s => Bys a n (4 * (i + 1)) s.1) 4
        (fun k ⟨y, j⟩ hk ⟨hj, hy⟩ => by
          dsimp only at hj hy
          subst hj
          obtain ⟨y', h1, h2⟩ := bytes_step a n i k hi hk la hn hy
          exact ⟨_, h1, rfl, h2⟩)
        (fun ⟨y, j⟩ ⟨hj, hy⟩ => by
          dsimp only at hj hy
          subst hj
          exact ⟨(y, ((4 : Nat) : Int)), by simp only [modexp_number_bytes.b2, Let_eq]; rfl, hy⟩)
        (s0 := (y, ((0 : Nat) : Int))) ⟨rfl, hy⟩ (by omega)
      obtain ⟨⟨y', j'⟩, hw1, hw2⟩ := hw
      refine ⟨(y', ((i + 1 : Nat) : Int)), ?_, rfl, hw2⟩
      simp only [modexp_number_bytes.b1, Let_eq, decide_eq_true (show (i : Int) < (a.length : Int) by omega), cond_true, Chk_ok (show (0 : Int) ≤ (i : Int) ∧ (i : Int) < (a.length : Int) by omega), Int.toNat_natCast]
      rw [show (0 : Int) = ((0 : Nat) : Int) from rfl, hw1]
      simp only [Option.bind_some, Sum.elim_inl, e6])
    (fun ⟨y, j⟩ ⟨hj, hy⟩ => by
      dsimp only at hj hy
      subst hj
      exact ⟨(y, (a.length : Int)), by simp only [modexp_number_bytes.b1, Let_eq, decide_eq_false (show ¬ (a.length : Int) < (a.length : Int) by omega), cond_false], hy⟩)
    (s0 := (List.replicate n 0#8, ((0 : Nat) : Int))) ⟨rfl, by simp, fun j hj => by
      show (lget (List.replicate n 0#8) j).toNat = _
      rw [if_neg (by omega)]; unfold lget; simp [hj]⟩ (by omega)
  obtain ⟨⟨y, j⟩, h1, hl, hg⟩ := h
  dsimp only at hl hg
  unfold modexp_number_bytes
  simp only [Let_eq, Int.toNat_natCast]
  rw [Chk_ok (by omega), show (0 : Int) = ((0 : Nat) : Int) from rfl, h1, Option.bind_some]
  refine congrArg some (list_ext8 (by rw [hl, be_len]) fun j hj => ?_)
  have hjn : j < n := by rw [← hl]; exact hj
  rw [be_get n _ hjn, hg j hjn]
  split
  · rfl
  · rename_i h2
    have h3 := nv_lt a
    have h4 : BB ^ a.length = 256 ^ (4 * a.length) := by rw [Nat.pow_mul]
    have h5 : 256 ^ (4 * a.length) ≤ 256 ^ (n - 1 - j) := Nat.pow_le_pow_right (by decide) (by omega)
    rw [Nat.div_eq_of_lt (by omega)]
/-! ### Powers -/
theorem sq_mod (b X M : Nat) : (b ^ X % M) * (b ^ X % M) % M = b ^ (2 * X) % M := by
  rw [← Nat.mul_mod, ← Nat.pow_add, Nat.two_mul]
theorem mul_pow_mod (b X M : Nat) : (b ^ X % M) * (b % M) % M = b ^ (X + 1) % M := by
  rw [← Nat.mul_mod, Nat.pow_succ]
theorem pow_bits (m b : List B32) (B0 : Nat) (hm : Tr m) (h0 : nv m ≠ 0) (lm : m.length ≤ 100) (hb : nv b = B0 % nv m) (lb : b.length ≤ 100) (c : B8) (E : Nat) (x0 : List B32) (hx : nv x0 = B0 ^ E % nv m) (lx : x0.length ≤ m.length) :
    ∃ x j, wlx (fun s => modexp_Pow.b2 m c b s.1 s.2) (x0, 7) = some (.inl (x, j)) ∧ nv x = B0 ^ (E * 256 + c.toNat) % nv m ∧ x.length ≤ m.length := by
  have h := wlx_down (b := fun s => modexp_Pow.b2 m c b s.1 s.2) (fun k s => s.2 = (k : Int) - 1 ∧ k ≤ 8 ∧ nv s.1 = B0 ^ (E * 2 ^ (8 - k) + c.toNat / 2 ^ k) % nv m ∧ s.1.length ≤ m.length) (Q := fun o => ∃ x j, o = .inl (x, j) ∧ nv x = B0 ^ (E * 256 + c.toNat) % nv m ∧ x.length ≤ m.length) 8
    (fun k ⟨x, j⟩ hk ⟨hj, hk8, hv, hl⟩ => by
      dsimp only at hj hv hl
      subst hj
      cases k with
      | zero =>
        refine .inr (.inl ⟨(x, ((0 : Nat) : Int) - 1), ?_, x, _, rfl, ?_, hl⟩)
        · simp only [modexp_Pow.b2, Let_eq]; rfl
        · rw [hv]; simp
      | succ k =>
        have e0 : ((k + 1 : Nat) : Int) - 1 = (k : Int) := by omega
        have e3 : wi ((k : Int) - 1) = (k : Int) - 1 := wi_id (by omega)
        obtain ⟨p, hp, hpv, _, hpl⟩ := times_val x x (by omega) (by omega)
        obtain ⟨q, hq, hqv, _, hql⟩ := mod_val p m hm h0 (by omega) (by omega)
        have hqv2 : nv q = B0 ^ (2 * (E * 2 ^ (8 - (k + 1)) + c.toNat / 2 ^ (k + 1))) % nv m := by rw [hqv, hpv, hv, sq_mod]
        have hexp : E * 2 ^ (8 - k) + c.toNat / 2 ^ k = 2 * (E * 2 ^ (8 - (k + 1)) + c.toNat / 2 ^ (k + 1)) + c.toNat / 2 ^ k % 2 := by
          have h1 : c.toNat / 2 ^ (k + 1) = c.toNat / 2 ^ k / 2 := by rw [Nat.pow_succ, ← Nat.div_div_eq_div_mul]
          have h2 : 2 ^ (8 - k) = 2 ^ (8 - (k + 1)) * 2 := by rw [show 8 - k = (8 - (k + 1)) + 1 by omega, Nat.pow_succ]
          rw [h1, h2, ← Nat.mul_assoc]
          omega
        have hbit : (((c >>> k &&& 1#8).toNat : Int) == 1) = decide (c.toNat / 2 ^ k % 2 = 1) := by
          have h1 : (c >>> k &&& 1#8).toNat = c.toNat / 2 ^ k % 2 := by
            rw [BitVec.toNat_and, BitVec.toNat_ushiftRight, Nat.shiftRight_eq_div_pow]; exact Nat.and_one_is_mod _
          rw [h1]
          by_cases h2 : c.toNat / 2 ^ k % 2 = 1
          · rw [h2]; rfl
          · rw [decide_eq_false h2]; exact beq_eq_false_iff_ne.2 (by omega)
        have hbd : ∀ z, (bif decide (c.toNat / 2 ^ k % 2 = 1) then (modexp_number_times q b).bind fun x64 => (modexp_number_mod x64 m).bind fun x66 => some x66 else some q) = some z → modexp_Pow.b2 m c b x (k : Int) = some (.next (z, (k : Int) - 1)) := fun z hz => by
          simp only [modexp_Pow.b2, Let_eq, decide_eq_true (show (0 : Int) ≤ (k : Int) by omega), cond_true, hp, Option.bind_some, hq, Chk_ok (show (0 : Int) ≤ (k : Int) by omega), Int.toNat_natCast, hbit, hz, e3]
        rw [e0]
        by_cases hb1 : c.toNat / 2 ^ k % 2 = 1
        · obtain ⟨p2, hp2, hp2v, _, hp2l⟩ := times_val q b (by omega) (by omega)
          obtain ⟨q2, hq2, hq2v, _, hq2l⟩ := mod_val p2 m hm h0 (by omega) (by omega)
          refine .inl ⟨(q2, (k : Int) - 1), k, by omega, hbd q2 (by rw [decide_eq_true hb1, cond_true, hp2, Option.bind_some, hq2]; rfl), rfl, by omega, ?_, hq2l⟩
          show nv q2 = B0 ^ (E * 2 ^ (8 - k) + c.toNat / 2 ^ k) % nv m
          rw [hq2v, hp2v, hb, hqv2, mul_pow_mod, hexp, hb1]
        · refine .inl ⟨(q, (k : Int) - 1), k, by omega, hbd q (by rw [decide_eq_false hb1]; rfl), rfl, by omega, ?_, hql⟩
          show nv q = B0 ^ (E * 2 ^ (8 - k) + c.toNat / 2 ^ k) % nv m
          rw [hqv2, hexp, show c.toNat / 2 ^ k % 2 = 0 by omega]; rfl) (s0 := (x0, 7)) ⟨rfl, Nat.le_refl _, by
      have := c.isLt
      show nv x0 = _
      rw [hx, Nat.sub_self, Nat.pow_zero, Nat.mul_one, Nat.div_eq_of_lt (by omega), Nat.add_zero], lx⟩ (by omega)
  obtain ⟨o, ho, x, j, rfl, hv, hl⟩ := h
  exact ⟨x, j, ho, hv, hl⟩
/-- The power, its bytes as many as the modulus has. -/
def powV (b e m : List B8) : List B8 := be m.length (if bv m = 0 then 0 else bv b ^ bv e % bv m)
theorem be_zero (n : Nat) : be n 0 = List.replicate n 0#8 := list_ext8 (by simp [be_len]) fun j hj => by
  rw [be_len] at hj
  rw [be_get n 0 hj, Nat.zero_div]; unfold lget; simp [hj]
theorem Pow_val (b e m : List B8) (lb : b.length ≤ 64) (le : e.length ≤ 64) (lm : m.length ≤ 64) : modexp_Pow b e m = some (powV b e m, 0) := by
  obtain ⟨mm, hmm, hmv, hmt, hml⟩ := of_val m (by omega)
  unfold modexp_Pow
  simp only [Let_eq, decide_eq_false (show ¬ (64 : Int) < (b.length : Int) by omega), decide_eq_false (show ¬ (64 : Int) < (e.length : Int) by omega), decide_eq_false (show ¬ (64 : Int) < (m.length : Int) by omega), cond_false, Option.bind_some, hmm]
  by_cases h0 : nv mm = 0
  · have h1 : mm = [] := (nm_zero hmt).1 h0
    have h2 : bv m = 0 := by rw [← hmv, h0]
    subst h1
    rw [show (((([] : List B32).length : Int)) == 0) = true from rfl, cond_true, Int.toNat_natCast, Chk_ok (by omega)]
    unfold powV
    rw [if_pos h2, be_zero]
  · have h2 : bv m ≠ 0 := by rw [← hmv]; exact h0
    have h1 : ((mm.length : Int) == 0) = false := beq_eq_false_iff_ne.2 fun h => h0 (by
      have : mm = [] := List.eq_nil_of_length_eq_zero (by omega)
      rw [this]; rfl)
    obtain ⟨x, hx, hxv, _, hxl⟩ := of_val b (by omega)
    obtain ⟨x2, hx2, hx2v, _, hx2l⟩ := mod_val x mm hmt h0 (by omega) (by omega)
    obtain ⟨o, ho, hov, _, hol⟩ := mod_val [1#32] mm hmt h0 (by simp) (by omega)
    have hone : nv [1#32] = 1 := by decide
    have h := wlx_inv (b := fun s => modexp_Pow.b1 (e.length : Int) e mm x2 s.1 s.2) (fun i s => s.2 = (i : Int) ∧ nv s.1 = bv b ^ bp e i % nv mm ∧ s.1.length ≤ mm.length) (Q := fun s => nv s.1 = bv b ^ bv e % nv mm ∧ s.1.length ≤ mm.length) e.length
      (fun i ⟨y, j⟩ hi ⟨hj, hv, hl⟩ => by
        dsimp only at hj hv hl
        subst hj
        have e6 : wi ((i : Int) + 1) = ((i + 1 : Nat) : Int) := by rw [wi_id (by omega)]; omega
        obtain ⟨z, j', hw, hzv, hzl⟩ := pow_bits mm x2 (bv b) hmt h0 (by omega) (by rw [hx2v, hxv]) (by omega) (lget e i) (bp e i) y hv hl
        refine ⟨(z, ((i + 1 : Nat) : Int)), ?_, rfl, ?_, hzl⟩
        · simp only [modexp_Pow.b1, Let_eq, decide_eq_true (show (i : Int) < (e.length : Int) by omega), cond_true, Chk_ok (show (0 : Int) ≤ (i : Int) ∧ (i : Int) < (e.length : Int) by omega), Int.toNat_natCast, hw, Option.bind_some, Sum.elim_inl, e6]
        · show nv z = _
          rw [hzv]
          show _ = bv b ^ (bp e i * 256 + nd e i) % nv mm
          rw [nd_in hi])
      (fun ⟨y, j⟩ ⟨hj, hv, hl⟩ => by
        dsimp only at hj hv hl
        subst hj
        exact ⟨(y, (e.length : Int)), by simp only [modexp_Pow.b1, Let_eq, decide_eq_false (show ¬ (e.length : Int) < (e.length : Int) by omega), cond_false], hv, hl⟩)
      (s0 := (o, ((0 : Nat) : Int))) ⟨rfl, by show nv o = _; rw [hov, hone]; simp [bp], hol⟩ (by omega)
    obtain ⟨⟨y, j⟩, hw, hv, hl⟩ := h
    dsimp only at hv hl
    rw [h1, cond_false, hx, Option.bind_some, hx2, Option.bind_some, ho, Option.bind_some, show (0 : Int) = ((0 : Nat) : Int) from rfl, hw, Option.bind_some]
    show (modexp_number_bytes y (m.length : Int)).bind _ = _
    rw [bytes_val y m.length (by omega) (by omega), Option.bind_some]
    unfold powV
    rw [if_neg h2, hv, hmv]
end Go.Proofs.Ytccilbklafhjiaa
