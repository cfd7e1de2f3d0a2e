/- Words as numbers: products. -/
import Derived.Test.YtccilbklafhjiaaWvA
namespace Go.Proofs.Ytccilbklafhjiaa
open Go.RowKit
set_option linter.unusedVariables false
set_option linter.unusedSimpArgs false
theorem low32 (x : W64) : (x &&& 4294967295#64).toNat = x.toNat % 4294967296 := by
  rw [BitVec.toNat_and, show (4294967295#64 : W64).toNat = 2 ^ 32 - 1 from rfl, Nat.and_two_pow_sub_one_eq_mod]
theorem high32 (x : W64) : (x >>> 32).toNat = x.toNat / 4294967296 := by
  rw [BitVec.toNat_ushiftRight, Nat.shiftRight_eq_div_pow]
theorem mul_le_ {x y : Nat} (hx : x < 4294967296) (hy : y < 4294967296) : x * y ≤ 18446744065119617025 := by
  calc x * y ≤ 4294967295 * 4294967295 := Nat.mul_le_mul (by omega) (by omega)
    _ = 18446744065119617025 := rfl
/-- The product of two parts: the upper and the lower part. -/
theorem Mul64_val (a b : W64) : ∃ hi lo, bits_Mul64 a b = some (hi, lo) ∧ 18446744073709551616 * hi.toNat + lo.toNat = a.toNat * b.toNat := by
  refine ⟨_, _, by unfold bits_Mul64; simp only [Let_eq]; rfl, ?_⟩
  have ha := a.isLt
  have hb := b.isLt
  obtain ⟨al, hal⟩ : ∃ x, x = a.toNat % 4294967296 := ⟨_, rfl⟩
  obtain ⟨ah, hah⟩ : ∃ x, x = a.toNat / 4294967296 := ⟨_, rfl⟩
  obtain ⟨bl, hbl⟩ : ∃ x, x = b.toNat % 4294967296 := ⟨_, rfl⟩
  obtain ⟨bh, hbh⟩ : ∃ x, x = b.toNat / 4294967296 := ⟨_, rfl⟩
  have ea : a.toNat = 4294967296 * ah + al := by omega
  have eb : b.toNat = 4294967296 * bh + bl := by omega
  have hp := mul_le_ (show al < 4294967296 by omega) (show bl < 4294967296 by omega)
  have hq := mul_le_ (show ah < 4294967296 by omega) (show bl < 4294967296 by omega)
  have hr := mul_le_ (show al < 4294967296 by omega) (show bh < 4294967296 by omega)
  have hs := mul_le_ (show ah < 4294967296 by omega) (show bh < 4294967296 by omega)
  have hab : a.toNat * b.toNat = 18446744073709551616 * (ah * bh) + 4294967296 * (ah * bl) + 4294967296 * (al * bh) + al * bl := by
    rw [ea, eb, Nat.add_mul, Nat.mul_add, Nat.mul_add]
    have e1 : 4294967296 * ah * (4294967296 * bh) = 18446744073709551616 * (ah * bh) := by rw [Nat.mul_mul_mul_comm]
    have e2 : 4294967296 * ah * bl = 4294967296 * (ah * bl) := Nat.mul_assoc _ _ _
    have e3 : al * (4294967296 * bh) = 4294967296 * (al * bh) := Nat.mul_left_comm _ _ _
    omega
  simp only [BitVec.toNat_add, BitVec.toNat_mul, low32, high32, ← hal, ← hah, ← hbl, ← hbh]
  rw [hab]
  generalize ah * bh = s at *
  generalize ah * bl = q at *
  generalize al * bh = r at *
  generalize al * bl = p at *
  omega
/-! Rows of parts as numbers. -/
def vs (f : Nat → Nat) : Nat → Nat
  | 0 => 0
  | n + 1 => vs f n + f n * 18446744073709551616 ^ n
theorem vs_congr {f g : Nat → Nat} : ∀ {n : Nat}, (∀ j, j < n → f j = g j) → vs f n = vs g n
  | 0, _ => rfl
  | n + 1, h => by unfold vs; rw [vs_congr fun j hj => h j (by omega), h n (by omega)]
theorem vs_set {f g : Nat → Nat} {k : Nat} (hg : ∀ j, j ≠ k → g j = f j) : ∀ {n : Nat}, k < n → vs g n + f k * 18446744073709551616 ^ k = vs f n + g k * 18446744073709551616 ^ k
  | n + 1, hk => by
    unfold vs
    by_cases e : k = n
    · subst e
      rw [vs_congr (f := g) (g := f) fun j hj => hg j (by omega)]; omega
    · have ih := vs_set hg (n := n) (by omega)
      rw [hg n (Ne.symm e)]; omega
def v8 (y : Vec W64 8) : Nat := vs (fun j => (y.get j).toNat) 8
theorem v8_set (y : Vec W64 8) {k : Nat} (hk : k < 8) (x : W64) : v8 (y.set k x) + (y.get k).toNat * 18446744073709551616 ^ k = v8 y + x.toNat * 18446744073709551616 ^ k := by
  have h := vs_set (f := fun j => (y.get j).toNat) (g := fun j => ((y.set k x).get j).toNat) (k := k) (fun j hj => by
    show ((y.set k x).get j).toNat = (y.get j).toNat
    rw [Vec.get_set _ hk, if_neg (Ne.symm hj)]) hk
  have e : ((y.set k x).get k).toNat = x.toNat := by rw [Vec.get_set _ hk, if_pos rfl]
  rw [e] at h
  exact h
theorem mul_lt_ {x y : W64} : x.toNat * y.toNat ≤ 340282366920938463426481119284349108225 := by
  have hx := x.isLt
  have hy := y.isLt
  calc x.toNat * y.toNat ≤ 18446744073709551615 * 18446744073709551615 := Nat.mul_le_mul (by omega) (by omega)
    _ = 340282366920938463426481119284349108225 := rfl
theorem prod_step (a b : Word4) {i k : Nat} (hi : i < 4) (hk : k < 4) (y : Vec W64 8) (c : W64) : ∃ x c', wide_Product.b2 (i : Int) a b y c (k : Int) = some (.next (y.set (i + k) x, c', ((k + 1 : Nat) : Int))) ∧
    x.toNat + 18446744073709551616 * c'.toNat = (a.get i).toNat * (b.get k).toNat + (y.get (i + k)).toNat + c.toNat := by
  obtain ⟨hi_, lo, hm, hv⟩ := Mul64_val (a.get i) (b.get k)
  have h1 : decide ((k : Int) < 4) = true := decide_eq_true (by omega)
  have h2 : wi ((k : Int) + 1) = ((k + 1 : Nat) : Int) := by rw [wi_id (by omega)]; omega
  have h3 : wi ((i : Int) + (k : Int)) = ((i + k : Nat) : Int) := by rw [wi_id (by omega)]; omega
  have hz : (0#64 : W64).toNat ≤ 1 := by decide
  refine ⟨_, _, by
    simp only [wide_Product.b2, Let_eq, h1, cond_true, Chk_ok (int_idx hi), Chk_ok (int_idx hk), Int.toNat_natCast, hm, Option.bind_some, h2, h3, Chk_ok (int_idx (show i + k < 8 by omega)), Chk_ok hz]
    rfl, ?_⟩
  have e1 := add64_val lo (y.get (i + k)) 0#64
  have e2 := add64_val (add64 lo (y.get (i + k)) 0#64).1 c 0#64
  have z0 : (0#64 : W64).toNat = 0 := rfl
  have hP := mul_lt_ (x := a.get i) (y := b.get k)
  have hy := (y.get (i + k)).isLt
  have hc := c.isLt
  have hx := (add64 (add64 lo (y.get (i + k)) 0#64).1 c 0#64).1.isLt
  rw [z0] at e1 e2
  have hlt : hi_.toNat + (add64 lo (y.get (i + k)) 0#64).2.toNat + (add64 (add64 lo (y.get (i + k)) 0#64).1 c 0#64).2.toNat < 18446744073709551616 := by omega
  rw [BitVec.toNat_add, BitVec.toNat_add, Nat.mod_eq_of_lt (a := hi_.toNat + _) (by omega), Nat.mod_eq_of_lt (by omega)]
  omega
theorem vs_val (b : Word4) : wv b = vs (fun k => (b.get k).toNat) 4 := by
  unfold wv vs vs vs vs vs
  omega
/-- The inner rounds from k on. -/
theorem prod_inner (a b : Word4) {i : Nat} (hi : i < 4) : ∀ (n k : Nat) (y : Vec W64 8) (c : W64), k + n = 4 → ∃ y' c', wlk (fun s => wide_Product.b2 (i : Int) a b s.1 s.2.1 s.2.2) (n + 1) (y, c, (k : Int)) = some (.inl (y', c', 4)) ∧
    v8 y' + c'.toNat * 18446744073709551616 ^ (i + 4) + (a.get i).toNat * vs (fun k => (b.get k).toNat) k * 18446744073709551616 ^ i = v8 y + c.toNat * 18446744073709551616 ^ (i + k) + (a.get i).toNat * vs (fun k => (b.get k).toNat) 4 * 18446744073709551616 ^ i ∧ ∀ j, i + 4 ≤ j → y'.get j = y.get j
  | 0, k, y, c, h => by
    obtain rfl : k = 4 := by omega
    refine ⟨y, c, ?_, rfl, fun j _ => rfl⟩
    exact wlk_brk (by show wide_Product.b2 (i : Int) a b y c ((4 : Nat) : Int) = _; simp only [wide_Product.b2, Let_eq]; rfl)
  | n + 1, k, y, c, h => by
    obtain ⟨x, c1, hb, hv⟩ := prod_step a b hi (show k < 4 by omega) y c
    obtain ⟨y', c', hw, hval, hun⟩ := prod_inner a b hi n (k + 1) (y.set (i + k) x) c1 (by omega)
    refine ⟨y', c', ?_, ?_, fun j hj => ?_⟩
    · rw [wlk_next (b := fun s => wide_Product.b2 (i : Int) a b s.1 s.2.1 s.2.2) hb]; exact hw
    · have hset := v8_set y (show i + k < 8 by omega) x
      have hvs : vs (fun k => (b.get k).toNat) (k + 1) = vs (fun k => (b.get k).toNat) k + (b.get k).toNat * 18446744073709551616 ^ k := rfl
      rw [hvs, Nat.mul_add, Nat.add_mul] at hval
      have hm : (x.toNat + 18446744073709551616 * c1.toNat) * 18446744073709551616 ^ (i + k) = ((a.get i).toNat * (b.get k).toNat + (y.get (i + k)).toNat + c.toNat) * 18446744073709551616 ^ (i + k) := by rw [hv]
      simp only [Nat.add_mul] at hm
      have e1 : 18446744073709551616 * c1.toNat * 18446744073709551616 ^ (i + k) = c1.toNat * 18446744073709551616 ^ (i + (k + 1)) := by
        rw [show i + (k + 1) = (i + k) + 1 by omega, Nat.pow_succ, Nat.mul_comm 18446744073709551616 c1.toNat, Nat.mul_assoc, Nat.mul_comm 18446744073709551616 (18446744073709551616 ^ (i + k))]
      have e2 : (a.get i).toNat * ((b.get k).toNat * 18446744073709551616 ^ k) * 18446744073709551616 ^ i = (a.get i).toNat * (b.get k).toNat * 18446744073709551616 ^ (i + k) := by
        rw [Nat.pow_add, Nat.mul_assoc, Nat.mul_assoc, Nat.mul_assoc, Nat.mul_comm (18446744073709551616 ^ k) (18446744073709551616 ^ i)]
      omega
    · rw [hun j (by omega), Vec.get_set _ (by omega), if_neg (by omega)]
/-- The outer rounds from i on. -/
theorem prod_outer (a b : Word4) : ∀ (n i : Nat) (y : Vec W64 8), i + n = 4 → (∀ j, i + 4 ≤ j → j < 8 → y.get j = 0#64) → ∃ y', wlk (fun s => wide_Product.b1 a b s.1 s.2) (n + 1) (y, (i : Int)) = some (.inl (y', 4)) ∧
    v8 y' + vs (fun k => (a.get k).toNat) i * wv b = v8 y + vs (fun k => (a.get k).toNat) 4 * wv b
  | 0, i, y, h, _ => by
    obtain rfl : i = 4 := by omega
    refine ⟨y, ?_, rfl⟩
    exact wlk_brk (by show wide_Product.b1 a b y ((4 : Nat) : Int) = _; simp only [wide_Product.b1, Let_eq]; rfl)
  | n + 1, i, y, h, hz => by
    have hi : i < 4 := by omega
    obtain ⟨y1, c1, hw, hval, hun⟩ := prod_inner a b hi 4 0 y 0#64 rfl
    have h1 : decide ((i : Int) < 4) = true := decide_eq_true (by omega)
    have h2 : wi ((i : Int) + 1) = ((i + 1 : Nat) : Int) := by rw [wi_id (by omega)]; omega
    have h3 : wi ((i : Int) + 4) = ((i + 4 : Nat) : Int) := by rw [wi_id (by omega)]; omega
    have hb : wide_Product.b1 a b y (i : Int) = some (.next (y1.set (i + 4) c1, ((i + 1 : Nat) : Int))) := by
      have hw' := wlx_of hw (by omega)
      simp only [wide_Product.b1, Let_eq, h1, cond_true]
      rw [show ((y, 0#64, 0) : Vec W64 8 × W64 × Int) = (y, 0#64, ((0 : Nat) : Int)) from rfl, hw']
      simp only [Option.bind_some, Sum.elim_inl, h2, h3, Chk_ok (int_idx (show i + 4 < 8 by omega)), Int.toNat_natCast]
    have h0 : y1.get (i + 4) = 0#64 := by rw [hun _ (by omega)]; exact hz _ (by omega) (by omega)
    have hset := v8_set y1 (show i + 4 < 8 by omega) c1
    rw [h0, show (0#64 : W64).toNat = 0 from rfl, Nat.zero_mul, Nat.add_zero] at hset
    obtain ⟨y', hw2, hval2⟩ := prod_outer a b n (i + 1) (y1.set (i + 4) c1) (by omega) fun j hj hj8 => by
      rw [Vec.get_set _ (by omega), if_neg (by omega), hun j (by omega)]; exact hz j (by omega) hj8
    refine ⟨y', ?_, ?_⟩
    · rw [wlk_next (b := fun s => wide_Product.b1 a b s.1 s.2) hb]; exact hw2
    · have hvs : vs (fun k => (a.get k).toNat) (i + 1) = vs (fun k => (a.get k).toNat) i + (a.get i).toNat * 18446744073709551616 ^ i := rfl
      rw [hvs, Nat.add_mul] at hval2
      rw [← vs_val b, show vs (fun k => (b.get k).toNat) 0 = 0 from rfl, show (0#64 : W64).toNat = 0 from rfl, Nat.mul_zero, Nat.zero_mul, Nat.zero_mul] at hval
      have e1 : (a.get i).toNat * 18446744073709551616 ^ i * wv b = (a.get i).toNat * wv b * 18446744073709551616 ^ i := Nat.mul_right_comm _ _ _
      omega
theorem part_val (y : Vec W64 8) : wv (y.part 0 4) + 2 ^ 256 * wv (y.part 4 4) = v8 y := by
  unfold wv v8 vs vs vs vs vs vs vs vs vs
  simp only [Vec.get_part _ _ _ (show 0 < 4 by omega), Vec.get_part _ _ _ (show 1 < 4 by omega), Vec.get_part _ _ _ (show 2 < 4 by omega), Vec.get_part _ _ _ (show 3 < 4 by omega), Nat.reduceAdd]
  omega
/-- The whole product. -/
theorem Product_val (a b : Word4) : ∃ lo hi, wide_Product a b = some (lo, hi) ∧ wv lo + 2 ^ 256 * wv hi = wv a * wv b := by
  obtain ⟨y, hw, hval⟩ := prod_outer a b 4 0 (Vec.rep 8 0#64) rfl fun j _ hj => Vec.get_rep hj _
  have hw' := wlx_of hw (by omega)
  refine ⟨y.part 0 4, y.part 4 4, ?_, ?_⟩
  · unfold wide_Product
    rw [show ((Vec.rep 8 0#64, 0) : Vec W64 8 × Int) = (Vec.rep 8 0#64, ((0 : Nat) : Int)) from rfl, hw']
    show (Let ((y.l.take 4).drop 0) fun x62 => _) = _
    simp only [Let_eq]
    rw [Chk_ok (by simp [y.hl]), Chk_ok (by simp [y.hl])]
  · rw [part_val]
    have hz : v8 (Vec.rep 8 0#64) = 0 := by decide
    rw [hz, ← vs_val a, show vs (fun k => (a.get k).toNat) 0 = 0 from rfl] at hval
    omega
end Go.Proofs.Ytccilbklafhjiaa
