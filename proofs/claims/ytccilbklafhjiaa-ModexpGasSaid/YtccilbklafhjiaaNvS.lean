/- Words: how many bits, products, a third. -/
import Derived.Test.YtccilbklafhjiaaNvR0
namespace Go.Proofs.Ytccilbklafhjiaa
open Go.RowKit
set_option linter.unusedVariables false
set_option linter.unusedSimpArgs false
def wordOf (g : W64) : Word4 := (Vec.rep 4 0#64).set 0 g
theorem wordOf_val (g : W64) : wv (wordOf g) = g.toNat := by
  show g.toNat + 18446744073709551616 * ((0#64 : W64).toNat + 18446744073709551616 * ((0#64 : W64).toNat + 18446744073709551616 * (0#64 : W64).toNat)) = _
  rw [show (0#64 : W64).toNat = 0 from rfl]; omega
theorem Of_eq (g : W64) : word_Of g = some (wordOf g) := by unfold word_Of; rw [Let_eq]; rfl
/-! ### How many bits -/
def BL (V L : Nat) : Prop := V < 2 ^ L ∧ (0 < L → 2 ^ (L - 1) ≤ V)
theorem BL_le {V L M : Nat} (h : BL V L) (g : V < 2 ^ M) : L ≤ M := by
  apply Nat.le_of_not_lt
  intro hlt
  have h1 := h.2 (by omega)
  have h2 : 2 ^ M ≤ 2 ^ (L - 1) := Nat.pow_le_pow_right (by omega) (by omega)
  omega
theorem BL_uniq {V L M : Nat} (h : BL V L) (g : BL V M) : L = M := Nat.le_antisymm (BL_le h g.1) (BL_le g h.1)
theorem BL_shift {V k L : Nat} (h0 : 0 < V / 2 ^ k) (h : BL (V / 2 ^ k) L) : BL V (k + L) := by
  have hp : 0 < 2 ^ k := Nat.two_pow_pos k
  have hL : 0 < L := by
    apply Nat.pos_of_ne_zero
    intro e; subst e
    have := h.1
    rw [Nat.pow_zero] at this; omega
  refine ⟨?_, fun _ => ?_⟩
  · rw [Nat.pow_add, Nat.mul_comm]; exact (Nat.div_lt_iff_lt_mul hp).1 h.1
  · rw [show k + L - 1 = (L - 1) + k by omega, Nat.pow_add]
    exact (Nat.le_div_iff_mul_le hp).1 (h.2 hL)
def len8 : ByteArray := ⟨#[0, 1, 2, 2, 3, 3, 3, 3, 4, 4, 4, 4, 4, 4, 4, 4, 5, 5, 5, 5, 5, 5, 5, 5, 5, 5, 5, 5, 5, 5, 5, 5, 6, 6, 6, 6, 6, 6, 6, 6, 6, 6, 6, 6, 6, 6, 6, 6, 6, 6, 6, 6, 6, 6, 6, 6, 6, 6, 6, 6, 6, 6, 6, 6, 7, 7, 7, 7, 7, 7, 7, 7, 7, 7, 7, 7, 7, 7, 7, 7, 7, 7, 7, 7, 7, 7, 7, 7, 7, 7, 7, 7, 7, 7, 7, 7, 7, 7, 7, 7, 7, 7, 7, 7, 7, 7, 7, 7, 7, 7, 7, 7, 7, 7, 7, 7, 7, 7, 7, 7, 7, 7, 7, 7, 7, 7, 7, 7, 8, 8, 8, 8, 8, 8, 8, 8, 8, 8, 8, 8, 8, 8, 8, 8, 8, 8, 8, 8, 8, 8, 8, 8, 8, 8, 8, 8, 8, 8, 8, 8, 8, 8, 8, 8, 8, 8, 8, 8, 8, 8, 8, 8, 8, 8, 8, 8, 8, 8, 8, 8, 8, 8, 8, 8, 8, 8, 8, 8, 8, 8, 8, 8, 8, 8, 8, 8, 8, 8, 8, 8, 8, 8, 8, 8, 8, 8, 8, 8, 8, 8, 8, 8, 8, 8, 8, 8, 8, 8, 8, 8, 8, 8, 8, 8, 8, 8, 8, 8, 8, 8, 8, 8, 8, 8, 8, 8, 8, 8, 8, 8, 8, 8, 8, 8, 8, 8, 8, 8, 8, 8, 8, 8, 8, 8, 8, 8]⟩
def l8 (k : Nat) : Nat := (strAt len8 k).toNat
set_option maxRecDepth 100000 in
theorem l8_all : (List.range 256).all (fun k => decide (k < 2 ^ l8 k) && (decide (l8 k = 0) || decide (2 ^ (l8 k - 1) ≤ k))) = true := by kernel_rfl
theorem l8_bl {k : Nat} (h : k < 256) : BL k (l8 k) := by
  have := List.all_eq_true.1 l8_all k (by simpa using h)
  simp only [Bool.and_eq_true, Bool.or_eq_true, decide_eq_true_eq] at this
  refine ⟨this.1, fun h0 => ?_⟩
  rcases this.2 with e | e
  · omega
  · exact e
def lenTail (x : W64) (n : Int) : Option Int := Let (x.setWidth 8) fun x21 => Chk (0 ≤ (x21.toNat : Int) ∧ (x21.toNat : Int) < ((len8.size : Nat) : Int)) <| Let (strAt len8 x21.toNat) fun x22 => Let ((x22.toNat : Int)) fun x23 => Let (wi (n + x23)) fun x24 => some x24
set_option maxRecDepth 100000 in
theorem Len64_unf (a0 : W64) : bits_Len64 a0 = (bif decide ((a0.toNat : Int) ≥ 4294967296) then some (a0 >>> 32, (32 : Int)) else some (a0, 0)).bind (fun s => (bif decide ((s.1.toNat : Int) ≥ 65536) then some (s.1 >>> 16, wi (s.2 + 16)) else some (s.1, s.2)).bind (fun s => (bif decide ((s.1.toNat : Int) ≥ 256) then some (s.1 >>> 8, wi (s.2 + 8)) else some (s.1, s.2)).bind (fun s => lenTail s.1 s.2))) := by
  unfold bits_Len64
  simp only [Let_eq]
  unfold lenTail
  simp only [Let_eq]
  rfl
theorem tail_val (x : W64) (hx : x.toNat < 256) (n : Nat) (hn : n ≤ 1000) : lenTail x (n : Int) = some ((n + l8 x.toNat : Nat) : Int) := by
  have h1 : (x.setWidth 8 : BitVec 8).toNat = x.toNat := by rw [BitVec.toNat_setWidth]; omega
  have h2 : (len8.size : Nat) = 256 := by kernel_rfl
  have h3 : l8 x.toNat < 256 := (strAt len8 x.toNat).isLt
  unfold lenTail
  simp only [Let_eq, h1, h2]
  rw [Chk_ok (by omega)]
  show some (wi ((n : Int) + (l8 x.toNat : Int))) = _
  rw [wi_id (by omega)]; congr 1
theorem Len64_val (a : W64) : ∃ L : Nat, bits_Len64 a = some (L : Int) ∧ BL a.toNat L ∧ L ≤ 64 := by
  rw [Len64_unf]
  have st : ∀ (k : Nat) (x : W64) (m : Nat) (y : Int) (B : Nat), 0 < k → k < 64 → m ≤ 500 → y = ((m + k : Nat) : Int) → (x.toNat / 2 ^ k < 2 ^ B) → 2 ^ k ≤ 2 ^ B → ∃ (x' : W64) (m' : Nat), (bif decide ((x.toNat : Int) ≥ ((2 ^ k : Nat) : Int)) then some (x >>> k, y) else some (x, (m : Int))) = some (x', (m' : Int)) ∧ x'.toNat < 2 ^ B ∧ m' ≤ m + k ∧ ∀ L, BL x'.toNat L → BL x.toNat (m' - m + L) ∧ m ≤ m' := fun k x m y B h0 h64 hm hy hB hkB => by
    by_cases e : 2 ^ k ≤ x.toNat
    · have hs : (x >>> k).toNat = x.toNat / 2 ^ k := by rw [BitVec.toNat_ushiftRight, Nat.shiftRight_eq_div_pow]
      refine ⟨x >>> k, m + k, by rw [decide_eq_true (by omega), cond_true, hy], by rw [hs]; exact hB, by omega, fun L hL => ⟨?_, by omega⟩⟩
      rw [hs] at hL
      rw [show m + k - m = k by omega]
      exact BL_shift (Nat.div_pos e (Nat.two_pow_pos k)) hL
    · refine ⟨x, m, by rw [decide_eq_false (by omega), cond_false], by omega, by omega, fun L hL => ⟨?_, by omega⟩⟩
      rw [Nat.sub_self, Nat.zero_add]; exact hL
  have ha := a.isLt
  obtain ⟨x1, m1, e1, b1, l1, g1⟩ := st 32 a 0 32 32 (by omega) (by omega) (by omega) rfl (by omega) (by omega)
  rw [show (((2 ^ 32 : Nat)) : Int) = 4294967296 from rfl] at e1
  have e1' : (bif decide ((a.toNat : Int) ≥ 4294967296) then some (a >>> 32, (32 : Int)) else some (a, 0)) = some (x1, (m1 : Int)) := e1
  rw [e1', Option.bind_some]
  obtain ⟨x2, m2, e2, b2, l2, g2⟩ := st 16 x1 m1 (wi ((m1 : Int) + 16)) 16 (by omega) (by omega) (by omega) (by rw [wi_id (by omega)]; omega) (by omega) (by omega)
  obtain ⟨x3, m3, e3, b3, l3, g3⟩ := st 8 x2 m2 (wi ((m2 : Int) + 8)) 8 (by omega) (by omega) (by omega) (by rw [wi_id (by omega)]; omega) (by omega) (by omega)
  rw [show (bif decide (((x1, (m1 : Int)).1.toNat : Int) ≥ 65536) then some ((x1, (m1 : Int)).1 >>> 16, wi ((x1, (m1 : Int)).2 + 16)) else some ((x1, (m1 : Int)).1, (x1, (m1 : Int)).2)) = some (x2, (m2 : Int)) from e2, Option.bind_some, show (bif decide (((x2, (m2 : Int)).1.toNat : Int) ≥ 256) then some ((x2, (m2 : Int)).1 >>> 8, wi ((x2, (m2 : Int)).2 + 8)) else some ((x2, (m2 : Int)).1, (x2, (m2 : Int)).2)) = some (x3, (m3 : Int)) from e3, Option.bind_some]
  have t := tail_val x3 b3 m3 (by omega)
  have h3 := g3 _ (l8_bl b3)
  have h2 := g2 _ h3.1
  have h1 := g1 _ h2.1
  have hL : BL a.toNat (m3 + l8 x3.toNat) := by
    have e : m1 - 0 + (m2 - m1 + (m3 - m2 + l8 x3.toNat)) = m3 + l8 x3.toNat := by omega
    rw [← e]; exact h1.1
  exact ⟨_, t, hL, BL_le hL ha⟩
theorem len_step (a : Word4) {k : Nat} (hk : k < 4) : ∃ L : Nat, BL (a.get k).toNat L ∧ L ≤ 64 ∧ word_Len.b1 a (k : Int) = if (a.get k).toNat = 0 then some (.next ((k : Int) - 1)) else some (.ret ((64 * k + L : Nat) : Int)) := by
  obtain ⟨L, h, hb, hl⟩ := Len64_val (a.get k)
  refine ⟨L, hb, hl, ?_⟩
  have h1 : decide (0 ≤ (k : Int)) = true := decide_eq_true (by omega)
  have h2 : wi ((k : Int) - 1) = (k : Int) - 1 := wi_id (by omega)
  have h3 : wi (64 * (k : Int)) = ((64 * k : Nat) : Int) := by rw [wi_id (by omega)]; omega
  have h4 : wi (((64 * k : Nat) : Int) + (L : Int)) = ((64 * k + L : Nat) : Int) := by rw [wi_id (by omega)]; omega
  simp only [word_Len.b1, Let_eq, h1, cond_true, Int.toNat_natCast, h2, h3, h, Option.bind_some, h4]
  rw [Chk_ok (by omega)]
  by_cases e : (a.get k).toNat = 0
  · rw [if_pos e, e]; rfl
  · rw [if_neg e, show ((((a.get k).toNat : Int) != 0) : Bool) = true from bne_iff_ne.2 (by omega), cond_true, Chk_ok (by omega)]
theorem Len_val (a : Word4) : ∃ L : Nat, word_Len a = some (L : Int) ∧ BL (wv a) L ∧ L ≤ 256 := by
  obtain ⟨L0, b0, l0, s0⟩ := len_step a (k := 0) (by omega)
  obtain ⟨L1, b1, l1, s1⟩ := len_step a (k := 1) (by omega)
  obtain ⟨L2, b2, l2, s2⟩ := len_step a (k := 2) (by omega)
  obtain ⟨L3, b3, l3, s3⟩ := len_step a (k := 3) (by omega)
  have g0 := (a.get 0).isLt
  have g1 := (a.get 1).isLt
  have g2 := (a.get 2).isLt
  have g3 := (a.get 3).isLt
  have fin : ∀ (o : Sum Int Int) (L : Nat) (n : Nat), n ≤ 10 → wlk (fun s => word_Len.b1 a s) n (3 : Int) = some o → Sum.elim (fun (_ : Int) => some (0 : Int)) (fun r => some r) o = some (L : Int) → word_Len a = some (L : Int) := fun o L n hn h1 h2 => by
    unfold word_Len
    rw [wlx_of h1 (by omega)]; exact h2
  by_cases e3 : (a.get 3).toNat = 0
  · rw [if_pos e3] at s3
    by_cases e2 : (a.get 2).toNat = 0
    · rw [if_pos e2] at s2
      by_cases e1 : (a.get 1).toNat = 0
      · rw [if_pos e1] at s1
        by_cases e0 : (a.get 0).toNat = 0
        · rw [if_pos e0] at s0
          have hv : wv a = 0 := by unfold wv; omega
          refine ⟨0, fin (.inl (-1)) 0 5 (by omega) ?_ rfl, ⟨by rw [hv]; decide, fun h => absurd h (by omega)⟩, by omega⟩
          refine (wlk_next s3).trans ((wlk_next s2).trans ((wlk_next s1).trans ((wlk_next s0).trans ?_)))
          exact wlk_brk (show word_Len.b1 a (-1) = some (.brk (-1)) by simp [word_Len.b1, Let_eq])
        · rw [if_neg e0] at s0
          have hv : wv a / 2 ^ 0 = (a.get 0).toNat := by unfold wv; omega
          rw [← hv] at b0
          refine ⟨_, fin _ _ 4 (by omega) ((wlk_next s3).trans ((wlk_next s2).trans ((wlk_next s1).trans (wlk_ret s0)))) rfl, BL_shift (by rw [hv]; omega) b0, by omega⟩
      · rw [if_neg e1] at s1
        have hv : wv a / 2 ^ 64 = (a.get 1).toNat := by unfold wv; omega
        rw [← hv] at b1
        exact ⟨_, fin _ _ 3 (by omega) ((wlk_next s3).trans ((wlk_next s2).trans (wlk_ret s1))) rfl, BL_shift (by rw [hv]; omega) b1, by omega⟩
    · rw [if_neg e2] at s2
      have hv : wv a / 2 ^ 128 = (a.get 2).toNat := by unfold wv; omega
      rw [← hv] at b2
      exact ⟨_, fin _ _ 2 (by omega) ((wlk_next s3).trans (wlk_ret s2)) rfl, BL_shift (by rw [hv]; omega) b2, by omega⟩
  · rw [if_neg e3] at s3
    have hv : wv a / 2 ^ 192 = (a.get 3).toNat := by unfold wv; omega
    rw [← hv] at b3
    exact ⟨_, fin _ _ 1 (by omega) (wlk_ret s3) rfl, BL_shift (by rw [hv]; omega) b3, by omega⟩
/-! ### Products -/
theorem v4_set (y : Word4) {k : Nat} (hk : k < 4) (x : W64) : wv (y.set k x) + (y.get k).toNat * 18446744073709551616 ^ k = wv y + x.toNat * 18446744073709551616 ^ k := by
  have h := vs_set (f := fun j => (y.get j).toNat) (g := fun j => ((y.set k x).get j).toNat) (k := k) (fun j hj => by
    show ((y.set k x).get j).toNat = (y.get j).toNat
    rw [Vec.get_set _ hk, if_neg (Ne.symm hj)]) hk
  have e : ((y.set k x).get k).toNat = x.toNat := by rw [Vec.get_set _ hk, if_pos rfl]
  rw [e] at h
  rw [vs_val, vs_val]
  exact h
theorem mul_step (a b : Word4) {i k : Nat} (hik : i + k < 4) (y : Word4) (c : W64) : ∃ x c', word_Mul.b2 (i : Int) a b y c (k : Int) = some (.next (y.set (i + k) x, c', ((k + 1 : Nat) : Int))) ∧
    x.toNat + 18446744073709551616 * c'.toNat = (a.get i).toNat * (b.get k).toNat + (y.get (i + k)).toNat + c.toNat := by
  obtain ⟨hi_, lo, hm, hv⟩ := Mul64_val (a.get i) (b.get k)
  have h2 : wi ((k : Int) + 1) = ((k + 1 : Nat) : Int) := by rw [wi_id (by omega)]; omega
  have h3 : wi ((i : Int) + (k : Int)) = ((i + k : Nat) : Int) := by rw [wi_id (by omega)]; omega
  have h1 : decide (((i + k : Nat) : Int) < 4) = true := decide_eq_true (by omega)
  have hz : (0#64 : W64).toNat ≤ 1 := by decide
  refine ⟨_, _, by
    simp only [word_Mul.b2, Let_eq, h3, h1, cond_true, Chk_ok (int_idx (show i < 4 by omega)), Chk_ok (int_idx (show k < 4 by omega)), Int.toNat_natCast, hm, Option.bind_some, h2, Chk_ok (int_idx (show i + k < 4 by omega)), Chk_ok hz]
    rfl, ?_⟩
  have e1 := add64_val lo (y.get (i + k)) 0#64
  have e2 := add64_val (add64 lo (y.get (i + k)) 0#64).1 c 0#64
  have z0 : (0#64 : W64).toNat = 0 := rfl
  have hP := mul_lt_ (x := a.get i) (y := b.get k)
  have hy := (y.get (i + k)).isLt
  have hc := c.isLt
  have hx := (add64 (add64 lo (y.get (i + k)) 0#64).1 c 0#64).1.isLt
  rw [z0] at e1 e2
  have hlt : hi_.toNat + (add64 lo (y.get (i + k)) 0#64).2.toNat + (add64 (add64 lo (y.get (i + k)) 0#64).1 c 0#64).2.toNat < 18446744073709551616 := by omega
  rw [BitVec.toNat_add, BitVec.toNat_add, Nat.mod_eq_of_lt (a := hi_.toNat + _) (by omega), Nat.mod_eq_of_lt (by omega)]
  omega
theorem mul_inner (a b : Word4) {i : Nat} (hi : i < 4) : ∀ (n k : Nat) (y : Word4) (c : W64), i + k + n = 4 → ∃ y' c', wlk (fun s => word_Mul.b2 (i : Int) a b s.1 s.2.1 s.2.2) (n + 1) (y, c, (k : Int)) = some (.inl (y', c', ((4 - i : Nat) : Int))) ∧
    wv y' + c'.toNat * 18446744073709551616 ^ 4 + (a.get i).toNat * vs (fun k => (b.get k).toNat) k * 18446744073709551616 ^ i = wv y + c.toNat * 18446744073709551616 ^ (i + k) + (a.get i).toNat * vs (fun k => (b.get k).toNat) (4 - i) * 18446744073709551616 ^ i
  | 0, k, y, c, h => by
    obtain rfl : k = 4 - i := by omega
    refine ⟨y, c, ?_, by rw [show i + (4 - i) = 4 by omega]⟩
    refine wlk_brk ?_
    have h3 : wi ((i : Int) + ((4 - i : Nat) : Int)) = 4 := by rw [wi_id (by omega)]; omega
    show word_Mul.b2 (i : Int) a b y c ((4 - i : Nat) : Int) = _
    simp only [word_Mul.b2, Let_eq, h3]
    rfl
  | n + 1, k, y, c, h => by
    obtain ⟨x, c1, hb, hv⟩ := mul_step a b (show i + k < 4 by omega) y c
    obtain ⟨y', c', hw, hval⟩ := mul_inner a b hi n (k + 1) (y.set (i + k) x) c1 (by omega)
    refine ⟨y', c', ?_, ?_⟩
    · rw [wlk_next (b := fun s => word_Mul.b2 (i : Int) a b s.1 s.2.1 s.2.2) hb]; exact hw
    · have hset := v4_set y (show i + k < 4 by omega) x
      have hvs : vs (fun k => (b.get k).toNat) (k + 1) = vs (fun k => (b.get k).toNat) k + (b.get k).toNat * 18446744073709551616 ^ k := rfl
      rw [hvs, Nat.mul_add, Nat.add_mul] at hval
      have hm : (x.toNat + 18446744073709551616 * c1.toNat) * 18446744073709551616 ^ (i + k) = ((a.get i).toNat * (b.get k).toNat + (y.get (i + k)).toNat + c.toNat) * 18446744073709551616 ^ (i + k) := by rw [hv]
      simp only [Nat.add_mul] at hm
      have e1 : 18446744073709551616 * c1.toNat * 18446744073709551616 ^ (i + k) = c1.toNat * 18446744073709551616 ^ (i + (k + 1)) := by
        rw [show i + (k + 1) = (i + k) + 1 by omega, Nat.pow_succ, Nat.mul_comm 18446744073709551616 c1.toNat, Nat.mul_assoc, Nat.mul_comm 18446744073709551616 (18446744073709551616 ^ (i + k))]
      have e2 : (a.get i).toNat * ((b.get k).toNat * 18446744073709551616 ^ k) * 18446744073709551616 ^ i = (a.get i).toNat * (b.get k).toNat * 18446744073709551616 ^ (i + k) := by
        rw [Nat.pow_add, Nat.mul_assoc, Nat.mul_assoc, Nat.mul_assoc, Nat.mul_comm (18446744073709551616 ^ k) (18446744073709551616 ^ i)]
      omega
theorem vs_split (f : Nat → Nat) (k : Nat) : ∀ n, ∃ r, vs f (k + n) = vs f k + 18446744073709551616 ^ k * r
  | 0 => ⟨0, by simp⟩
  | n + 1 => by
    obtain ⟨r, hr⟩ := vs_split f k n
    refine ⟨r + f (k + n) * 18446744073709551616 ^ n, ?_⟩
    show vs f (k + n) + f (k + n) * 18446744073709551616 ^ (k + n) = _
    rw [hr, Nat.mul_add, Nat.pow_add, Nat.mul_left_comm (18446744073709551616 ^ k), Nat.add_assoc]
theorem mul_outer (a b : Word4) : ∀ (n i : Nat) (y : Word4), i + n = 4 → ∃ y' t, wlk (fun s => word_Mul.b1 a b s.1 s.2) (n + 1) (y, (i : Int)) = some (.inl (y', 4)) ∧
    wv y' + vs (fun k => (a.get k).toNat) i * wv b + t * 18446744073709551616 ^ 4 = wv y + vs (fun k => (a.get k).toNat) 4 * wv b
  | 0, i, y, h => by
    obtain rfl : i = 4 := by omega
    refine ⟨y, 0, ?_, by omega⟩
    exact wlk_brk (by show word_Mul.b1 a b y ((4 : Nat) : Int) = _; simp only [word_Mul.b1, Let_eq]; rfl)
  | n + 1, i, y, h => by
    have hi : i < 4 := by omega
    obtain ⟨y1, c1, hw, hval⟩ := mul_inner a b hi (4 - i) 0 y 0#64 (by omega)
    have h1 : decide ((i : Int) < 4) = true := decide_eq_true (by omega)
    have h2 : wi ((i : Int) + 1) = ((i + 1 : Nat) : Int) := by rw [wi_id (by omega)]; omega
    have hb : word_Mul.b1 a b y (i : Int) = some (.next (y1, ((i + 1 : Nat) : Int))) := by
      have hw' : wlx (fun s => word_Mul.b2 (i : Int) a b s.1 s.2.1 s.2.2) ((y, 0#64, 0) : Word4 × W64 × Int) = _ := wlx_of hw (by omega)
      simp only [word_Mul.b1, Let_eq, h1, cond_true]
      rw [hw']
      simp only [Option.bind_some, Sum.elim_inl, h2]
    obtain ⟨y', t, hw2, hval2⟩ := mul_outer a b n (i + 1) y1 (by omega)
    obtain ⟨r, hr⟩ := vs_split (fun k => (b.get k).toNat) (4 - i) i
    refine ⟨y', t + c1.toNat + (a.get i).toNat * r, ?_, ?_⟩
    · rw [wlk_next (b := fun s => word_Mul.b1 a b s.1 s.2) hb]; exact hw2
    · have hvs : vs (fun k => (a.get k).toNat) (i + 1) = vs (fun k => (a.get k).toNat) i + (a.get i).toNat * 18446744073709551616 ^ i := rfl
      rw [hvs, Nat.add_mul] at hval2
      rw [show vs (fun k => (b.get k).toNat) 0 = 0 from rfl, show (0#64 : W64).toNat = 0 from rfl, Nat.mul_zero, Nat.zero_mul, Nat.zero_mul] at hval
      have h4 : 4 - i + i = 4 := by omega
      rw [h4, ← vs_val] at hr
      have hB : (18446744073709551616 : Nat) ^ (4 - i) * 18446744073709551616 ^ i = 18446744073709551616 ^ 4 := by rw [← Nat.pow_add, h4]
      have e1 : (a.get i).toNat * 18446744073709551616 ^ i * wv b = (a.get i).toNat * vs (fun k => (b.get k).toNat) (4 - i) * 18446744073709551616 ^ i + (a.get i).toNat * r * 18446744073709551616 ^ 4 := by
        rw [← hB, hr, Nat.mul_add]
        generalize (18446744073709551616 : Nat) ^ (4 - i) = Q
        generalize (18446744073709551616 : Nat) ^ i = R
        congr 1 <;> ac_rfl
      rw [Nat.add_mul, Nat.add_mul]
      omega
theorem Mul_val (a b : Word4) : ∃ r, word_Mul a b = some r ∧ wv r = wv a * wv b % 2 ^ 256 := by
  obtain ⟨y, t, hw, hval⟩ := mul_outer a b 4 0 (Vec.rep 4 0#64) rfl
  have hw' : wlx (fun s => word_Mul.b1 a b s.1 s.2) ((Vec.rep 4 0#64, 0) : Word4 × Int) = _ := wlx_of hw (by omega)
  refine ⟨y, by unfold word_Mul; rw [hw']; rfl, ?_⟩
  rw [show wv (Vec.rep 4 0#64) = 0 from by decide, ← vs_val a, show vs (fun k => (a.get k).toNat) 0 = 0 from rfl] at hval
  have := wv_lt y
  have e : (18446744073709551616 : Nat) ^ 4 = 2 ^ 256 := rfl
  rw [e] at hval
  have h2 : wv a * wv b = wv y + t * 2 ^ 256 := by omega
  rw [h2, Nat.add_mul_mod_self_right, Nat.mod_eq_of_lt this]
end Go.Proofs.Ytccilbklafhjiaa
