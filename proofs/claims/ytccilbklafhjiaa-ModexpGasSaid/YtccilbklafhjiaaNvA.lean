/- Loops by what holds in them; numbers of digits to the base 2^32. -/
import Derived.Test.YtccilbklafhjiaaWvA
import Derived.Test.YtccilbklafhjiaaMcB
import Derived.Test.YtccilbklafhjiaaWi
namespace Go.Proofs.Ytccilbklafhjiaa
open Go.RowKit
set_option linter.unusedVariables false
set_option linter.unusedSimpArgs false
/-! ### Sums of digits -/
def ns (B : Nat) (f : Nat → Nat) : Nat → Nat
  | 0 => 0
  | n + 1 => ns B f n + f n * B ^ n
theorem ns_succ (B : Nat) (f : Nat → Nat) (n : Nat) : ns B f (n + 1) = ns B f n + f n * B ^ n := rfl
theorem ns_congr {B : Nat} {f g : Nat → Nat} : ∀ {n : Nat}, (∀ j, j < n → f j = g j) → ns B f n = ns B g n
  | 0, _ => rfl
  | n + 1, h => by unfold ns; rw [ns_congr fun j hj => h j (by omega), h n (by omega)]
theorem ns_lt {B : Nat} (hB : 0 < B) {f : Nat → Nat} : ∀ {n : Nat}, (∀ j, j < n → f j < B) → ns B f n < B ^ n
  | 0, _ => by simp [ns]
  | n + 1, h => by
    have ih := ns_lt hB (n := n) fun j hj => h j (by omega)
    have h1 : (f n + 1) * B ^ n ≤ B * B ^ n := Nat.mul_le_mul_right _ (h n (by omega))
    unfold ns
    rw [Nat.pow_succ, Nat.mul_comm (B ^ n)]
    rw [Nat.add_mul, Nat.one_mul] at h1
    omega
theorem ns_zero {B : Nat} {f : Nat → Nat} : ∀ {n : Nat}, (∀ j, j < n → f j = 0) → ns B f n = 0
  | 0, _ => rfl
  | n + 1, h => by unfold ns; rw [ns_zero fun j hj => h j (by omega), h n (by omega)]; simp
theorem ns_split (B : Nat) (f : Nat → Nat) (k : Nat) : ∀ n, ns B f (k + n) = ns B f k + B ^ k * ns B (fun j => f (k + j)) n
  | 0 => by simp [ns]
  | n + 1 => by
    show ns B f (k + n) + f (k + n) * B ^ (k + n) = ns B f k + B ^ k * (ns B (fun j => f (k + j)) n + f (k + n) * B ^ n)
    rw [ns_split B f k n, Nat.mul_add, Nat.pow_add, Nat.mul_left_comm (B ^ k), Nat.add_assoc]
theorem ns_more {B : Nat} {f : Nat → Nat} {n : Nat} (h : ∀ j, n ≤ j → f j = 0) : ∀ k, ns B f (n + k) = ns B f n
  | 0 => rfl
  | k + 1 => by show ns B f (n + k) + f (n + k) * B ^ (n + k) = _; rw [ns_more h k, h _ (by omega)]; simp
theorem ns_set {B : Nat} {f g : Nat → Nat} {k : Nat} (hg : ∀ j, j ≠ k → g j = f j) : ∀ {n : Nat}, k < n → ns B g n + f k * B ^ k = ns B f n + g k * B ^ k
  | n + 1, hk => by
    unfold ns
    by_cases e : k = n
    · subst e
      rw [ns_congr (f := g) (g := f) fun j hj => hg j (by omega)]; omega
    · have ih := ns_set (B := B) hg (n := n) (by omega)
      rw [hg n (Ne.symm e)]; omega
/-- Which of two is greater: the highest digit that differs. -/
theorem ns_cmp {B : Nat} (hB : 0 < B) {f g : Nat → Nat} {n : Nat} (hf : ∀ j, j < n → f j < B) (h : f n < g n) : ns B f (n + 1) < ns B g (n + 1) := by
  have h1 := ns_lt hB hf
  have h2 : (f n + 1) * B ^ n ≤ g n * B ^ n := Nat.mul_le_mul_right _ h
  rw [Nat.add_mul, Nat.one_mul] at h2
  unfold ns; omega
/-! ### Lists of digits -/
abbrev B32 := BitVec 32
abbrev BB : Nat := 4294967296
def nd {w : Nat} (xs : List (BitVec w)) (i : Nat) : Nat := if i < xs.length then (lget xs i).toNat else 0
def nv (xs : List B32) : Nat := ns BB (nd xs) xs.length
theorem nd_lt (xs : List B32) (i : Nat) : nd xs i < BB := by
  unfold nd; split
  · exact (lget xs i).isLt
  · decide
theorem nd_in {w : Nat} {xs : List (BitVec w)} {i : Nat} (h : i < xs.length) : nd xs i = (lget xs i).toNat := if_pos h
theorem nd_out {w : Nat} {xs : List (BitVec w)} {i : Nat} (h : xs.length ≤ i) : nd xs i = 0 := if_neg (by omega)
theorem nd_set {w : Nat} (xs : List (BitVec w)) {k : Nat} (hk : k < xs.length) (x : BitVec w) (j : Nat) : nd (xs.set k x) j = if j = k then x.toNat else nd xs j := by
  unfold nd lget
  simp only [List.length_set, List.getD_eq_getElem?_getD, List.getElem?_set]
  by_cases e : j = k
  · subst e; simp [hk]
  · simp [e, Ne.symm e]
theorem nd_rep (n j : Nat) : nd (List.replicate n (0#32)) j = 0 := by
  unfold nd lget
  split
  · rename_i h; simp at h; simp [h]
  · rfl
theorem nv_lt (xs : List B32) : nv xs < BB ^ xs.length := ns_lt (by decide) fun j _ => nd_lt xs j
theorem nv_set (xs : List B32) {k : Nat} (hk : k < xs.length) (x : B32) : nv (xs.set k x) + nd xs k * BB ^ k = nv xs + x.toNat * BB ^ k := by
  have h := ns_set (B := BB) (f := nd xs) (g := nd (xs.set k x)) (k := k) (fun j hj => by rw [nd_set xs hk, if_neg hj]) hk
  rw [nd_set xs hk, if_pos rfl] at h
  unfold nv
  rw [List.length_set]; exact h
theorem nv_rep (n : Nat) : nv (List.replicate n (0#32)) = 0 := ns_zero fun j _ => nd_rep n j
theorem nv_more {xs : List B32} {n : Nat} (h : xs.length ≤ n) : ns BB (nd xs) n = nv xs := by
  obtain ⟨k, rfl⟩ : ∃ k, n = xs.length + k := ⟨n - xs.length, by omega⟩
  exact ns_more (fun j hj => nd_out hj) k
/-- No noughts at the end. -/
def Tr (xs : List B32) : Prop := 0 < xs.length → nd xs (xs.length - 1) ≠ 0
theorem nm_nil : Tr [] := fun h => absurd h (by simp)
theorem nm_len {xs : List B32} (h : Tr xs) (h0 : 0 < xs.length) : BB ^ (xs.length - 1) ≤ nv xs := by
  have h1 := h h0
  have h2 : nv xs = ns BB (nd xs) (xs.length - 1 + 1) := by rw [show xs.length - 1 + 1 = xs.length by omega]; rfl
  have h3 : 1 * BB ^ (xs.length - 1) ≤ nd xs (xs.length - 1) * BB ^ (xs.length - 1) := Nat.mul_le_mul_right _ (by omega)
  rw [h2]; unfold ns; omega
/-- A lesser number has no more digits. -/
theorem nm_le {xs ys : List B32} (h : Tr xs) (hv : nv xs ≤ nv ys) : xs.length ≤ ys.length := by
  rcases Nat.lt_or_ge ys.length xs.length with hl | hl
  · have h1 := nm_len h (by omega)
    have h2 := nv_lt ys
    have h3 : BB ^ ys.length ≤ BB ^ (xs.length - 1) := Nat.pow_le_pow_right (by decide) (by omega)
    omega
  · exact hl
theorem nm_zero {xs : List B32} (h : Tr xs) : nv xs = 0 ↔ xs = [] := by
  constructor
  · intro e
    rcases Nat.eq_zero_or_pos xs.length with h0 | h0
    · exact List.eq_nil_of_length_eq_zero h0
    · have := nm_len h h0
      have : 0 < BB ^ (xs.length - 1) := Nat.pow_pos (by decide)
      omega
  · intro e; rw [e]; rfl
theorem nd_take (xs : List B32) (k j : Nat) (hj : j < k) : nd (xs.take k) j = nd xs j := by
  unfold nd lget
  simp only [List.length_take, List.getD_eq_getElem?_getD, List.getElem?_take_of_lt hj]
  by_cases e : j < xs.length
  · rw [if_pos (by omega), if_pos e]
  · rw [if_neg (by omega), if_neg e]
/-! ### Noughts taken off -/
theorem trim_val (a : List B32) (la : a.length ≤ 1000000) : ∃ c, modexp_number_trim a = some c ∧ nv c = nv a ∧ Tr c ∧ c.length ≤ a.length := by
  have h := wlx_down (b := fun s => modexp_number_trim.b1 a s) (fun m s => s = (m : Int) ∧ m ≤ a.length ∧ ns BB (nd a) m = nv a) (Q := fun o => ∃ k : Nat, o = .inl (k : Int) ∧ k ≤ a.length ∧ ns BB (nd a) k = nv a ∧ (0 < k → nd a (k - 1) ≠ 0)) a.length
    (fun m s hm ⟨hs, hml, hv⟩ => by
      subst hs
      cases m with
      | zero =>
        refine .inr (.inl ⟨((0 : Nat) : Int), ?_, 0, rfl, Nat.zero_le _, hv, fun h => absurd h (by omega)⟩)
        simp only [modexp_number_trim.b1, Let_eq]; rfl
      | succ m =>
        have h1 : decide ((0 : Int) < ((m + 1 : Nat) : Int)) = true := decide_eq_true (by omega)
        have h2 : wi (((m + 1 : Nat) : Int) - 1) = (m : Int) := by rw [wi_id (by omega)]; omega
        have hb : modexp_number_trim.b1 a ((m + 1 : Nat) : Int) = bif (((lget a m).toNat : Int) == 0) then some (.next (m : Int)) else some (.brk ((m + 1 : Nat) : Int)) := by
          simp only [modexp_number_trim.b1, Let_eq, h1, cond_true, h2, Chk_ok (show (0 : Int) ≤ (m : Int) ∧ (m : Int) < (a.length : Int) by omega), Int.toNat_natCast, Option.bind_some]
        cases e : (((lget a m).toNat : Int) == 0) with
        | true =>
          rw [e] at hb
          have e0 : (lget a m).toNat = 0 := by have := eq_of_beq e; omega
          refine .inl ⟨(m : Int), m, by omega, hb, rfl, by omega, ?_⟩
          rw [← hv, ns_succ, nd_in (by omega), e0]; simp
        | false =>
          rw [e] at hb
          refine .inr (.inl ⟨_, hb, m + 1, rfl, hml, hv, fun _ => ?_⟩)
          rw [show m + 1 - 1 = m by omega, nd_in (by omega)]
          intro e0; rw [e0] at e; simp at e) ⟨rfl, Nat.le_refl _, rfl⟩ (by omega)
  obtain ⟨o, ho, k, rfl, hk, hv, hne⟩ := h
  have hlen : (a.take k).length = k := by simp; omega
  refine ⟨a.take k, ?_, ?_, fun h0 => ?_, by rw [hlen]; exact hk⟩
  · unfold modexp_number_trim
    rw [Let_eq, ho, Option.bind_some]
    show Chk _ _ = _
    rw [Chk_ok (by omega), Let_eq, Int.toNat_natCast, List.drop_zero]
  · rw [← hv]; unfold nv; rw [hlen]; exact ns_congr fun j hj => nd_take a k j hj
  · rw [hlen] at h0 ⊢; rw [nd_take a k _ (by omega)]; exact hne h0
/-! ### Twice, less, minus -/
theorem or_bit (x : B32) (c : B32) (hc : c.toNat ≤ 1) : (x <<< 1 ||| c).toNat = 2 * x.toNat % 4294967296 + c.toNat := by
  have hx := x.isLt
  rw [BitVec.toNat_or, BitVec.toNat_shiftLeft, Nat.shiftLeft_eq, Nat.pow_one]
  have h2 : (x.toNat * 2 % 2 ^ 32) = 2 * (x.toNat % 2 ^ 31) := by omega
  rw [h2]
  have hb : c.toNat < 2 ^ 1 := by omega
  have := Nat.two_pow_add_eq_or_of_lt hb (x.toNat % 2 ^ 31)
  rw [Nat.pow_one] at this
  rw [← this]; omega
theorem shr31 (x : B32) : (x >>> 31).toNat = x.toNat / 2147483648 := by rw [BitVec.toNat_ushiftRight, Nat.shiftRight_eq_div_pow]
theorem double_val (a : List B32) (bit : B32) (hb : bit.toNat ≤ 1) (la : a.length ≤ 100000) : ∃ c, modexp_number_double a bit = some c ∧ nv c = 2 * nv a + bit.toNat ∧ Tr c ∧ c.length ≤ a.length + 1 := by
  have h := wlx_inv (b := fun s => modexp_number_double.b1 (a.length : Int) a s.1 s.2.1 s.2.2) (fun i s => s.2.2 = (i : Int) ∧ s.1.length = a.length + 1 ∧ s.2.1.toNat ≤ 1 ∧ ns BB (nd s.1) i + s.2.1.toNat * BB ^ i = 2 * ns BB (nd a) i + bit.toNat) (Q := fun s => s.1.length = a.length + 1 ∧ s.2.1.toNat ≤ 1 ∧ ns BB (nd s.1) a.length + s.2.1.toNat * BB ^ a.length = 2 * nv a + bit.toNat) a.length
    (fun i ⟨y, c, k⟩ hi ⟨hk, hl, hc, hv⟩ => by
      dsimp only at hk hl hc hv
      subst hk
      have h1 : decide ((i : Int) < (a.length : Int)) = true := decide_eq_true (by omega)
      have h2 : wi ((i : Int) + 1) = ((i + 1 : Nat) : Int) := by rw [wi_id (by omega)]; omega
      have hx := (lget a i).isLt
      refine ⟨(y.set i (lget a i <<< 1 ||| c), lget a i >>> 31, ((i + 1 : Nat) : Int)), ?_, rfl, by simp [hl], ?_, ?_⟩
      · simp only [modexp_number_double.b1, Let_eq, h1, cond_true, Chk_ok (show (0 : Int) ≤ (i : Int) ∧ (i : Int) < (a.length : Int) by omega), Int.toNat_natCast, Chk_ok (show (0 : Int) ≤ (i : Int) ∧ (i : Int) < (y.length : Int) by omega), h2]
      · show (lget a i >>> 31).toNat ≤ 1
        rw [shr31]; omega
      · show ns BB (nd (y.set i _)) (i + 1) + (lget a i >>> 31).toNat * BB ^ (i + 1) = 2 * ns BB (nd a) (i + 1) + bit.toNat
        rw [ns_succ, ns_succ, ns_congr (g := nd y) fun j hj => by rw [nd_set y (by omega), if_neg (by omega)], nd_set y (by omega), if_pos rfl, or_bit _ _ hc, shr31, nd_in hi, Nat.pow_succ]
        have e : (2 * (lget a i).toNat % 4294967296 + c.toNat) + (lget a i).toNat / 2147483648 * BB = 2 * (lget a i).toNat + c.toNat := by simp only [BB]; omega
        have e2 : ((2 * (lget a i).toNat % 4294967296 + c.toNat) + (lget a i).toNat / 2147483648 * BB) * BB ^ i = (2 * (lget a i).toNat + c.toNat) * BB ^ i := by rw [e]
        have e3 : (lget a i).toNat / 2147483648 * (BB ^ i * BB) = (lget a i).toNat / 2147483648 * BB * BB ^ i := by rw [Nat.mul_comm (BB ^ i), Nat.mul_assoc]
        have e4 : 2 * (lget a i).toNat * BB ^ i = 2 * ((lget a i).toNat * BB ^ i) := Nat.mul_assoc _ _ _
        rw [e3]
        simp only [Nat.add_mul, Nat.mul_add, e4] at e2 ⊢
        omega)
    (fun ⟨y, c, k⟩ ⟨hk, hl, hc, hv⟩ => by
      dsimp only at hk hl hc hv
      subst hk
      exact ⟨(y, c, (a.length : Int)), by simp only [modexp_number_double.b1, Let_eq, decide_eq_false (show ¬ (a.length : Int) < (a.length : Int) by omega), cond_false], hl, hc, hv⟩)
    (s0 := (List.replicate (a.length + 1) 0#32, bit, ((0 : Nat) : Int))) ⟨rfl, by simp, hb, by simp [ns]⟩ (by omega)
  obtain ⟨⟨y, c, k⟩, h1, hl, hc, hv⟩ := h
  dsimp only at hl hc hv
  obtain ⟨z, hz, hzv, hzn, hzl⟩ := trim_val (y.set a.length c) (by simp [hl]; omega)
  refine ⟨z, ?_, ?_, hzn, by simp [hl] at hzl; exact hzl⟩
  · unfold modexp_number_double
    have h2 : wi ((a.length : Int) + 1) = ((a.length + 1 : Nat) : Int) := by rw [wi_id (by omega)]; omega
    simp only [Let_eq, h2, Int.toNat_natCast]
    rw [Chk_ok (by omega), show (0 : Int) = ((0 : Nat) : Int) from rfl, h1, Option.bind_some]
    show Chk ((0 : Int) ≤ (a.length : Int) ∧ (a.length : Int) < (y.length : Int)) _ = _
    rw [Chk_ok (by omega)]
    simp only [Let_eq, Int.toNat_natCast, hz, Option.bind_some]
  · rw [hzv, ← hv]
    unfold nv
    rw [List.length_set, hl, ns_succ, ns_congr (g := nd y) fun j hj => by rw [nd_set y (by omega), if_neg (by omega)], nd_set y (by omega), if_pos rfl]
theorem less_val {a b : List B32} (ha : Tr a) (hb : Tr b) (la : a.length ≤ 100000) (lb : b.length ≤ 100000) : modexp_number_less a b = some (decide (nv a < nv b)) := by
  unfold modexp_number_less
  simp only [Let_eq]
  by_cases hl : a.length = b.length
  · rw [show ((a.length : Int) != (b.length : Int)) = false by simp [hl], cond_false]
    have h := wlx_down (b := fun s => modexp_number_less.b1 a b s) (fun m s => s = (m : Int) - 1 ∧ m ≤ a.length ∧ decide (nv a < nv b) = decide (ns BB (nd a) m < ns BB (nd b) m)) (Q := fun o => (match o with | .inl _ => false | .inr r => r) = decide (nv a < nv b)) a.length
      (fun m s hm ⟨hs, hml, hv⟩ => by
        subst hs
        cases m with
        | zero =>
          refine .inr (.inl ⟨((0 : Nat) : Int) - 1, ?_, ?_⟩)
          · simp only [modexp_number_less.b1, Let_eq]; rfl
          · rw [hv]; simp [ns]
        | succ m =>
          have h0 : ((m + 1 : Nat) : Int) - 1 = (m : Int) := by omega
          have h2 : wi ((m : Int) - 1) = (m : Int) - 1 := wi_id (by omega)
          have hbd : modexp_number_less.b1 a b (m : Int) = bif (lget a m != lget b m) then some (.ret (decide ((lget a m).toNat < (lget b m).toNat))) else some (.next ((m : Int) - 1)) := by
            simp only [modexp_number_less.b1, Let_eq, decide_eq_true (show (0 : Int) ≤ (m : Int) by omega), cond_true, Chk_ok (show (0 : Int) ≤ (m : Int) ∧ (m : Int) < (a.length : Int) by omega), Chk_ok (show (0 : Int) ≤ (m : Int) ∧ (m : Int) < (b.length : Int) by omega), Int.toNat_natCast, h2]
          rw [h0]
          have ea : nd a m = (lget a m).toNat := nd_in (by omega)
          have eb : nd b m = (lget b m).toNat := nd_in (by omega)
          cases e : (lget a m != lget b m) with
          | true =>
            rw [e] at hbd
            refine .inr (.inr ⟨_, hbd, ?_⟩)
            rw [hv]
            have hne : (lget a m).toNat ≠ (lget b m).toNat := fun he => by
              have := BitVec.eq_of_toNat_eq he
              rw [this] at e; simp at e
            by_cases hlt : (lget a m).toNat < (lget b m).toNat
            · have := ns_cmp (B := BB) (by decide) (f := nd a) (g := nd b) (n := m) (fun j _ => nd_lt a j) (by omega)
              rw [decide_eq_true this]; exact decide_eq_true hlt
            · have := ns_cmp (B := BB) (by decide) (f := nd b) (g := nd a) (n := m) (fun j _ => nd_lt b j) (by omega)
              rw [decide_eq_false (show ¬ ns BB (nd a) (m + 1) < ns BB (nd b) (m + 1) by omega)]; exact decide_eq_false hlt
          | false =>
            rw [e] at hbd
            have he : lget a m = lget b m := by simpa using e
            refine .inl ⟨_, m, by omega, hbd, rfl, by omega, ?_⟩
            rw [hv]
            show decide (ns BB (nd a) m + nd a m * BB ^ m < ns BB (nd b) m + nd b m * BB ^ m) = _
            rw [ea, eb, he]
            by_cases hlt : ns BB (nd a) m < ns BB (nd b) m
            · rw [decide_eq_true hlt, decide_eq_true (by omega)]
            · rw [decide_eq_false hlt, decide_eq_false (by omega)]) ⟨rfl, Nat.le_refl _, by rw [show ns BB (nd b) a.length = nv b by rw [hl]; rfl]; rfl⟩ (by omega)
    obtain ⟨o, ho, hq⟩ := h
    rw [wi_id (by omega), ho, Option.bind_some]
    cases o with
    | inl s => rw [← hq]; rfl
    | inr r => rw [← hq]; rfl
  · rw [show ((a.length : Int) != (b.length : Int)) = true by simp; omega, cond_true]
    refine congrArg some ?_
    by_cases h1 : a.length < b.length
    · have h2 := nm_len hb (by omega)
      have h3 := nv_lt a
      have h4 : BB ^ a.length ≤ BB ^ (b.length - 1) := Nat.pow_le_pow_right (by decide) (by omega)
      rw [decide_eq_true (by omega), decide_eq_true (by omega)]
    · have h2 := nm_len ha (by omega)
      have h3 := nv_lt b
      have h4 : BB ^ b.length ≤ BB ^ (a.length - 1) := Nat.pow_le_pow_right (by decide) (by omega)
      rw [decide_eq_false (by omega), decide_eq_false (by omega)]
end Go.Proofs.Ytccilbklafhjiaa
