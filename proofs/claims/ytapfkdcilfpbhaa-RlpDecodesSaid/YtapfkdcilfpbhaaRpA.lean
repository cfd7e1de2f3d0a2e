/- Numbers, words and bytes, for the writing of rows. -/
import Derived.Test.YtapfkdcilfpbhaaWi
import Derived.Test.YtapfkdcilfpbhaaRlA
import Derived.Test.YtapfkdcilfpbhaaRlD
namespace Go.Proofs.Ytapfkdcilfpbhaa
open Go.RowKit
set_option linter.unusedVariables false
set_option linter.unusedSimpArgs false
theorem Chk_ok {β : Type} {c : Prop} {inst : Decidable c} (h : c) (x : Option β) : @Chk β c inst x = x := if_pos h
abbrev W64 := BitVec 64
abbrev Word4 := Vec W64 4
theorem int_idx {i n : Nat} (h : i < n) : 0 ≤ (i : Int) ∧ (i : Int) < ((n : Nat) : Int) := by omega
theorem Vec.get_map {α : Type} [Inhabited α] {n i : Nat} (f : Nat → α) (h : ((List.range n).map f).length = n) (hi : i < n) : (⟨(List.range n).map f, h⟩ : Vec α n).get i = f i := by
  unfold Vec.get; simp [hi]
def wv (a : Word4) : Nat := (a.get 0).toNat + 18446744073709551616 * ((a.get 1).toNat + 18446744073709551616 * ((a.get 2).toNat + 18446744073709551616 * (a.get 3).toNat))
theorem wv_lt (a : Word4) : wv a < 2 ^ 256 := by
  have h0 := (a.get 0).isLt; have h1 := (a.get 1).isLt; have h2 := (a.get 2).isLt; have h3 := (a.get 3).isLt
  unfold wv; omega
abbrev B8 := BitVec 8
def ns (B : Nat) (f : Nat → Nat) : Nat → Nat
  | 0 => 0
  | n + 1 => ns B f n + f n * B ^ n
theorem ns_succ (B : Nat) (f : Nat → Nat) (n : Nat) : ns B f (n + 1) = ns B f n + f n * B ^ n := rfl
theorem ns_congr {B : Nat} {f g : Nat → Nat} : ∀ {n : Nat}, (∀ j, j < n → f j = g j) → ns B f n = ns B g n
  | 0, _ => rfl
  | n + 1, h => by unfold ns; rw [ns_congr fun j hj => h j (by omega), h n (by omega)]
theorem ns_lt {B : Nat} (hB : 0 < B) {f : Nat → Nat} : ∀ {n : Nat}, (∀ j, j < n → f j < B) → ns B f n < B ^ n
  | 0, _ => by simp [ns]
  | n + 1, h => by
    have ih := ns_lt hB (n := n) fun j hj => h j (by omega)
    have h1 : (f n + 1) * B ^ n ≤ B * B ^ n := Nat.mul_le_mul_right _ (h n (by omega))
    unfold ns
    rw [Nat.pow_succ, Nat.mul_comm (B ^ n)]
    rw [Nat.add_mul, Nat.one_mul] at h1
    omega
theorem ns_zero {B : Nat} {f : Nat → Nat} : ∀ {n : Nat}, (∀ j, j < n → f j = 0) → ns B f n = 0
  | 0, _ => rfl
  | n + 1, h => by unfold ns; rw [ns_zero fun j hj => h j (by omega), h n (by omega)]; simp
theorem ns_split (B : Nat) (f : Nat → Nat) (k : Nat) : ∀ n, ns B f (k + n) = ns B f k + B ^ k * ns B (fun j => f (k + j)) n
  | 0 => by simp [ns]
  | n + 1 => by
    show ns B f (k + n) + f (k + n) * B ^ (k + n) = ns B f k + B ^ k * (ns B (fun j => f (k + j)) n + f (k + n) * B ^ n)
    rw [ns_split B f k n, Nat.mul_add, Nat.pow_add, Nat.mul_left_comm (B ^ k), Nat.add_assoc]
theorem ns_more {B : Nat} {f : Nat → Nat} {n : Nat} (h : ∀ j, n ≤ j → f j = 0) : ∀ k, ns B f (n + k) = ns B f n
  | 0 => rfl
  | k + 1 => by show ns B f (n + k) + f (n + k) * B ^ (n + k) = _; rw [ns_more h k, h _ (by omega)]; simp
def nd {w : Nat} (xs : List (BitVec w)) (i : Nat) : Nat := if i < xs.length then (lget xs i).toNat else 0
theorem nd_in {w : Nat} {xs : List (BitVec w)} {i : Nat} (h : i < xs.length) : nd xs i = (lget xs i).toNat := if_pos h
theorem nd_out {w : Nat} {xs : List (BitVec w)} {i : Nat} (h : xs.length ≤ i) : nd xs i = 0 := if_neg (by omega)
def bp (b : List B8) : Nat → Nat
  | 0 => 0
  | i + 1 => bp b i * 256 + nd b i
def bv (b : List B8) : Nat := bp b b.length
theorem nd8_lt (b : List B8) (i : Nat) : nd b i < 256 := by
  unfold nd; split
  · exact (lget b i).isLt
  · decide
theorem bp_lt (b : List B8) : ∀ i, bp b i < 256 ^ i
  | 0 => by simp [bp]
  | i + 1 => by
    have h1 := bp_lt b i
    have h2 := nd8_lt b i
    unfold bp
    rw [Nat.pow_succ]; omega
def be (n v : Nat) : List B8 := (List.range n).map fun j => BitVec.ofNat 8 (v / 256 ^ (n - 1 - j))
theorem be_len (n v : Nat) : (be n v).length = n := by simp [be]
theorem list_ext8 {l r : List B8} (hl : l.length = r.length) (h : ∀ j, j < l.length → (lget l j).toNat = (lget r j).toNat) : l = r := by
  apply List.ext_getElem?
  intro j
  by_cases hj : j < l.length
  · rw [lget_at hj, lget_at (by omega), BitVec.eq_of_toNat_eq (h j hj)]
  · rw [List.getElem?_eq_none (by omega), List.getElem?_eq_none (by omega)]
theorem be_get (n v : Nat) {j : Nat} (hj : j < n) : (lget (be n v) j).toNat = v / 256 ^ (n - 1 - j) % 256 := by
  unfold be lget; simp [hj]
theorem bp_be (n v : Nat) : ∀ i, i ≤ n → bp (be n v) i = v / 256 ^ (n - i) % 256 ^ i
  | 0, _ => by simp [bp, Nat.mod_one]
  | i + 1, hi => by
    have ih := bp_be n v i (by omega)
    have h1 : nd (be n v) i = v / 256 ^ (n - 1 - i) % 256 := by rw [nd_in (by rw [be_len]; omega), be_get n v (by omega)]
    show bp (be n v) i * 256 + nd (be n v) i = _
    rw [ih, h1, show n - 1 - i = n - (i + 1) by omega, show n - i = n - (i + 1) + 1 by omega, Nat.pow_succ, Nat.pow_succ, ← Nat.div_div_eq_div_mul, Nat.mul_comm (256 ^ i) 256, Nat.mod_mul, Nat.mul_comm 256, Nat.add_comm]
theorem bv_be {n v : Nat} (h : v < 256 ^ n) : bv (be n v) = v := by
  unfold bv
  rw [be_len, bp_be n v n (Nat.le_refl _), Nat.sub_self, Nat.pow_zero, Nat.div_one, Nat.mod_eq_of_lt h]
theorem bv_snoc (e : List B8) (c : B8) : bv (e ++ [c]) = bv e * 256 + c.toNat := by
  unfold bv
  rw [List.length_append, List.length_singleton]
  show bp (e ++ [c]) e.length * 256 + nd (e ++ [c]) e.length = _
  have h1 : ∀ i, i ≤ e.length → bp (e ++ [c]) i = bp e i := by
    intro i
    induction i with
    | zero => intro _; rfl
    | succ i ih =>
      intro hi
      unfold bp
      rw [ih (by omega)]
      congr 1
      unfold nd lget
      rw [if_pos (by simp; omega), if_pos (by omega), List.getD_eq_getElem?_getD, List.getD_eq_getElem?_getD, List.getElem?_append_left (by omega)]
  have h2 : nd (e ++ [c]) e.length = c.toNat := by
    unfold nd lget
    rw [if_pos (by simp), List.getD_eq_getElem?_getD, List.getElem?_append_right (by omega), Nat.sub_self]; rfl
  rw [h1 _ (Nat.le_refl _), h2]
theorem bv_one (c : B8) : bv [c] = c.toNat := by
  have := bv_snoc [] c
  rw [List.nil_append] at this
  rw [this]; show 0 * 256 + c.toNat = _; omega
theorem push_all : ∀ (l : List Int) (acc : ByteArray), l.foldl (fun r n => r.push (UInt8.ofNat n.toNat)) acc = ⟨acc.data ++ (l.map fun n => UInt8.ofNat n.toNat).toArray⟩
  | [], acc => by simp
  | x :: l, acc => by
    rw [List.foldl_cons, push_all l]
    congr 1
    show (acc.data.push _) ++ _ = _
    simp
theorem strOf_eq (bs : List B8) : strOf bs = ⟨(bs.map fun b => UInt8.ofNat b.toNat).toArray⟩ := by
  unfold strOf
  rw [push_all]
  congr 1
  simp [List.map_map]
theorem strOf_toList (bs : List B8) : (strOf bs).toList = bs.map fun b => UInt8.ofNat b.toNat := by rw [strOf_eq, ByteArray.toList_mk]
theorem strOf_size (bs : List B8) : (strOf bs).size = bs.length := by rw [strOf_eq]; simp [ByteArray.size]
theorem str_app (x y : List B8) : strOf x ++ strOf y = strOf (x ++ y) := by
  rw [strOf_eq, strOf_eq, strOf_eq]
  apply ByteArray.ext
  simp [List.map_append]
theorem str_same (x : List B8) : ((strOf x).toList == (strOf x).toList) = true := beq_self_eq_true _
theorem ns_front (B : Nat) (f : Nat → Nat) (n : Nat) : ns B f (1 + n) = f 0 + B * ns B (fun j => f (1 + j)) n := by
  rw [ns_split]; simp [ns]
theorem bv_ns (b : List B8) : bv b = ns 256 (fun j => nd b (b.length - 1 - j)) b.length := by
  unfold bv
  have key : ∀ i, i ≤ b.length → bp b i = ns 256 (fun j => nd b (i - 1 - j)) i := by
    intro i
    induction i with
    | zero => intro _; rfl
    | succ i ih =>
      intro hi
      rw [Nat.add_comm i 1, ns_front, Nat.add_comm 1 i]
      show bp b i * 256 + nd b i = _
      rw [ih (by omega), show i + 1 - 1 - 0 = i by omega, Nat.add_comm, Nat.mul_comm]
      congr 2
      exact ns_congr fun j hj => by rw [show i + 1 - 1 - (1 + j) = i - 1 - j by omega]
  exact key _ (Nat.le_refl _)
def BL (V L : Nat) : Prop := V < 2 ^ L ∧ (0 < L → 2 ^ (L - 1) ≤ V)
theorem BL_le {V L M : Nat} (h : BL V L) (g : V < 2 ^ M) : L ≤ M := by
  apply Nat.le_of_not_lt
  intro hlt
  have h1 := h.2 (by omega)
  have h2 : 2 ^ M ≤ 2 ^ (L - 1) := Nat.pow_le_pow_right (by omega) (by omega)
  omega
theorem BL_uniq {V L M : Nat} (h : BL V L) (g : BL V M) : L = M := Nat.le_antisymm (BL_le h g.1) (BL_le g h.1)
theorem BL_shift {V k L : Nat} (h0 : 0 < V / 2 ^ k) (h : BL (V / 2 ^ k) L) : BL V (k + L) := by
  have hp : 0 < 2 ^ k := Nat.two_pow_pos k
  have hL : 0 < L := by
    apply Nat.pos_of_ne_zero
    intro e; subst e
    have := h.1
    rw [Nat.pow_zero] at this; omega
  refine ⟨?_, fun _ => ?_⟩
  · rw [Nat.pow_add, Nat.mul_comm]; exact (Nat.div_lt_iff_lt_mul hp).1 h.1
  · rw [show k + L - 1 = (L - 1) + k by omega, Nat.pow_add]
    exact (Nat.le_div_iff_mul_le hp).1 (h.2 hL)
def len8 : ByteArray := ⟨#[0, 1, 2, 2, 3, 3, 3, 3, 4, 4, 4, 4, 4, 4, 4, 4, 5, 5, 5, 5, 5, 5, 5, 5, 5, 5, 5, 5, 5, 5, 5, 5, 6, 6, 6, 6, 6, 6, 6, 6, 6, 6, 6, 6, 6, 6, 6, 6, 6, 6, 6, 6, 6, 6, 6, 6, 6, 6, 6, 6, 6, 6, 6, 6, 7, 7, 7, 7, 7, 7, 7, 7, 7, 7, 7, 7, 7, 7, 7, 7, 7, 7, 7, 7, 7, 7, 7, 7, 7, 7, 7, 7, 7, 7, 7, 7, 7, 7, 7, 7, 7, 7, 7, 7, 7, 7, 7, 7, 7, 7, 7, 7, 7, 7, 7, 7, 7, 7, 7, 7, 7, 7, 7, 7, 7, 7, 7, 7, 8, 8, 8, 8, 8, 8, 8, 8, 8, 8, 8, 8, 8, 8, 8, 8, 8, 8, 8, 8, 8, 8, 8, 8, 8, 8, 8, 8, 8, 8, 8, 8, 8, 8, 8, 8, 8, 8, 8, 8, 8, 8, 8, 8, 8, 8, 8, 8, 8, 8, 8, 8, 8, 8, 8, 8, 8, 8, 8, 8, 8, 8, 8, 8, 8, 8, 8, 8, 8, 8, 8, 8, 8, 8, 8, 8, 8, 8, 8, 8, 8, 8, 8, 8, 8, 8, 8, 8, 8, 8, 8, 8, 8, 8, 8, 8, 8, 8, 8, 8, 8, 8, 8, 8, 8, 8, 8, 8, 8, 8, 8, 8, 8, 8, 8, 8, 8, 8, 8, 8, 8, 8, 8, 8, 8, 8, 8, 8]⟩
def l8 (k : Nat) : Nat := (strAt len8 k).toNat
set_option maxRecDepth 100000 in
theorem l8_all : (List.range 256).all (fun k => decide (k < 2 ^ l8 k) && (decide (l8 k = 0) || decide (2 ^ (l8 k - 1) ≤ k))) = true := by kernel_rfl
theorem l8_bl {k : Nat} (h : k < 256) : BL k (l8 k) := by
  have := List.all_eq_true.1 l8_all k (by simpa using h)
  simp only [Bool.and_eq_true, Bool.or_eq_true, decide_eq_true_eq] at this
  refine ⟨this.1, fun h0 => ?_⟩
  rcases this.2 with e | e
  · omega
  · exact e
def lenTail (x : W64) (n : Int) : Option Int := Let (x.setWidth 8) fun x21 => Chk (0 ≤ (x21.toNat : Int) ∧ (x21.toNat : Int) < ((len8.size : Nat) : Int)) <| Let (strAt len8 x21.toNat) fun x22 => Let ((x22.toNat : Int)) fun x23 => Let (wi (n + x23)) fun x24 => some x24
set_option maxRecDepth 100000 in
theorem Len64_unf (a0 : W64) : bits_Len64 a0 = (bif decide ((a0.toNat : Int) ≥ 4294967296) then some (a0 >>> 32, (32 : Int)) else some (a0, 0)).bind (fun s => (bif decide ((s.1.toNat : Int) ≥ 65536) then some (s.1 >>> 16, wi (s.2 + 16)) else some (s.1, s.2)).bind (fun s => (bif decide ((s.1.toNat : Int) ≥ 256) then some (s.1 >>> 8, wi (s.2 + 8)) else some (s.1, s.2)).bind (fun s => lenTail s.1 s.2))) := by
  unfold bits_Len64
  simp only [Let_eq]
  unfold lenTail
  simp only [Let_eq]
  rfl
theorem tail_val (x : W64) (hx : x.toNat < 256) (n : Nat) (hn : n ≤ 1000) : lenTail x (n : Int) = some ((n + l8 x.toNat : Nat) : Int) := by
  have h1 : (x.setWidth 8 : BitVec 8).toNat = x.toNat := by rw [BitVec.toNat_setWidth]; omega
  have h2 : (len8.size : Nat) = 256 := by kernel_rfl
  have h3 : l8 x.toNat < 256 := (strAt len8 x.toNat).isLt
  unfold lenTail
  simp only [Let_eq, h1, h2]
  rw [Chk_ok (by omega)]
  show some (wi ((n : Int) + (l8 x.toNat : Int))) = _
  rw [wi_id (by omega)]; congr 1
theorem Len64_val (a : W64) : ∃ L : Nat, bits_Len64 a = some (L : Int) ∧ BL a.toNat L ∧ L ≤ 64 := by
  rw [Len64_unf]
  have st : ∀ (k : Nat) (x : W64) (m : Nat) (y : Int) (B : Nat), 0 < k → k < 64 → m ≤ 500 → y = ((m + k : Nat) : Int) → (x.toNat / 2 ^ k < 2 ^ B) → 2 ^ k ≤ 2 ^ B → ∃ (x' : W64) (m' : Nat), (bif decide ((x.toNat : Int) ≥ ((2 ^ k : Nat) : Int)) then some (x >>> k, y) else some (x, (m : Int))) = some (x', (m' : Int)) ∧ x'.toNat < 2 ^ B ∧ m' ≤ m + k ∧ ∀ L, BL x'.toNat L → BL x.toNat (m' - m + L) ∧ m ≤ m' := fun k x m y B h0 h64 hm hy hB hkB => by
    by_cases e : 2 ^ k ≤ x.toNat
    · have hs : (x >>> k).toNat = x.toNat / 2 ^ k := by rw [BitVec.toNat_ushiftRight, Nat.shiftRight_eq_div_pow]
      refine ⟨x >>> k, m + k, by rw [decide_eq_true (by omega), cond_true, hy], by rw [hs]; exact hB, by omega, fun L hL => ⟨?_, by omega⟩⟩
      rw [hs] at hL
      rw [show m + k - m = k by omega]
      exact BL_shift (Nat.div_pos e (Nat.two_pow_pos k)) hL
    · refine ⟨x, m, by rw [decide_eq_false (by omega), cond_false], by omega, by omega, fun L hL => ⟨?_, by omega⟩⟩
      rw [Nat.sub_self, Nat.zero_add]; exact hL
  have ha := a.isLt
  obtain ⟨x1, m1, e1, b1, l1, g1⟩ := st 32 a 0 32 32 (by omega) (by omega) (by omega) rfl (by omega) (by omega)
  rw [show (((2 ^ 32 : Nat)) : Int) = 4294967296 from rfl] at e1
  have e1' : (bif decide ((a.toNat : Int) ≥ 4294967296) then some (a >>> 32, (32 : Int)) else some (a, 0)) = some (x1, (m1 : Int)) := e1
  rw [e1', Option.bind_some]
  obtain ⟨x2, m2, e2, b2, l2, g2⟩ := st 16 x1 m1 (wi ((m1 : Int) + 16)) 16 (by omega) (by omega) (by omega) (by rw [wi_id (by omega)]; omega) (by omega) (by omega)
  obtain ⟨x3, m3, e3, b3, l3, g3⟩ := st 8 x2 m2 (wi ((m2 : Int) + 8)) 8 (by omega) (by omega) (by omega) (by rw [wi_id (by omega)]; omega) (by omega) (by omega)
  rw [show (bif decide (((x1, (m1 : Int)).1.toNat : Int) ≥ 65536) then some ((x1, (m1 : Int)).1 >>> 16, wi ((x1, (m1 : Int)).2 + 16)) else some ((x1, (m1 : Int)).1, (x1, (m1 : Int)).2)) = some (x2, (m2 : Int)) from e2, Option.bind_some, show (bif decide (((x2, (m2 : Int)).1.toNat : Int) ≥ 256) then some ((x2, (m2 : Int)).1 >>> 8, wi ((x2, (m2 : Int)).2 + 8)) else some ((x2, (m2 : Int)).1, (x2, (m2 : Int)).2)) = some (x3, (m3 : Int)) from e3, Option.bind_some]
  have t := tail_val x3 b3 m3 (by omega)
  have h3 := g3 _ (l8_bl b3)
  have h2 := g2 _ h3.1
  have h1 := g1 _ h2.1
  have hL : BL a.toNat (m3 + l8 x3.toNat) := by
    have e : m1 - 0 + (m2 - m1 + (m3 - m2 + l8 x3.toNat)) = m3 + l8 x3.toNat := by omega
    rw [← e]; exact h1.1
  exact ⟨_, t, hL, BL_le hL ha⟩
theorem len_step (a : Word4) {k : Nat} (hk : k < 4) : ∃ L : Nat, BL (a.get k).toNat L ∧ L ≤ 64 ∧ word_Len.b1 a (k : Int) = if (a.get k).toNat = 0 then some (.next ((k : Int) - 1)) else some (.ret ((64 * k + L : Nat) : Int)) := by
  obtain ⟨L, h, hb, hl⟩ := Len64_val (a.get k)
  refine ⟨L, hb, hl, ?_⟩
  have h1 : decide (0 ≤ (k : Int)) = true := decide_eq_true (by omega)
  have h2 : wi ((k : Int) - 1) = (k : Int) - 1 := wi_id (by omega)
  have h3 : wi (64 * (k : Int)) = ((64 * k : Nat) : Int) := by rw [wi_id (by omega)]; omega
  have h4 : wi (((64 * k : Nat) : Int) + (L : Int)) = ((64 * k + L : Nat) : Int) := by rw [wi_id (by omega)]; omega
  simp only [word_Len.b1, Let_eq, h1, cond_true, Int.toNat_natCast, h2, h3, h, Option.bind_some, h4]
  rw [Chk_ok (by omega)]
  by_cases e : (a.get k).toNat = 0
  · rw [if_pos e, e]; rfl
  · rw [if_neg e, show ((((a.get k).toNat : Int) != 0) : Bool) = true from bne_iff_ne.2 (by omega), cond_true, Chk_ok (by omega)]
theorem Len_val (a : Word4) : ∃ L : Nat, word_Len a = some (L : Int) ∧ BL (wv a) L ∧ L ≤ 256 := by
  obtain ⟨L0, b0, l0, s0⟩ := len_step a (k := 0) (by omega)
  obtain ⟨L1, b1, l1, s1⟩ := len_step a (k := 1) (by omega)
  obtain ⟨L2, b2, l2, s2⟩ := len_step a (k := 2) (by omega)
  obtain ⟨L3, b3, l3, s3⟩ := len_step a (k := 3) (by omega)
  have g0 := (a.get 0).isLt
  have g1 := (a.get 1).isLt
  have g2 := (a.get 2).isLt
  have g3 := (a.get 3).isLt
  have fin : ∀ (o : Sum Int Int) (L : Nat) (n : Nat), n ≤ 10 → wlk (fun s => word_Len.b1 a s) n (3 : Int) = some o → Sum.elim (fun (_ : Int) => some (0 : Int)) (fun r => some r) o = some (L : Int) → word_Len a = some (L : Int) := fun o L n hn h1 h2 => by
    unfold word_Len
    rw [wlx_of h1 (by omega)]; exact h2
  by_cases e3 : (a.get 3).toNat = 0
  · rw [if_pos e3] at s3
    by_cases e2 : (a.get 2).toNat = 0
    · rw [if_pos e2] at s2
      by_cases e1 : (a.get 1).toNat = 0
      · rw [if_pos e1] at s1
        by_cases e0 : (a.get 0).toNat = 0
        · rw [if_pos e0] at s0
          have hv : wv a = 0 := by unfold wv; omega
          refine ⟨0, fin (.inl (-1)) 0 5 (by omega) ?_ rfl, ⟨by rw [hv]; decide, fun h => absurd h (by omega)⟩, by omega⟩
          refine (wlk_next s3).trans ((wlk_next s2).trans ((wlk_next s1).trans ((wlk_next s0).trans ?_)))
          exact wlk_brk (show word_Len.b1 a (-1) = some (.brk (-1)) by simp [word_Len.b1, Let_eq])
        · rw [if_neg e0] at s0
          have hv : wv a / 2 ^ 0 = (a.get 0).toNat := by unfold wv; omega
          rw [← hv] at b0
          refine ⟨_, fin _ _ 4 (by omega) ((wlk_next s3).trans ((wlk_next s2).trans ((wlk_next s1).trans (wlk_ret s0)))) rfl, BL_shift (by rw [hv]; omega) b0, by omega⟩
      · rw [if_neg e1] at s1
        have hv : wv a / 2 ^ 64 = (a.get 1).toNat := by unfold wv; omega
        rw [← hv] at b1
        exact ⟨_, fin _ _ 3 (by omega) ((wlk_next s3).trans ((wlk_next s2).trans (wlk_ret s1))) rfl, BL_shift (by rw [hv]; omega) b1, by omega⟩
    · rw [if_neg e2] at s2
      have hv : wv a / 2 ^ 128 = (a.get 2).toNat := by unfold wv; omega
      rw [← hv] at b2
      exact ⟨_, fin _ _ 2 (by omega) ((wlk_next s3).trans (wlk_ret s2)) rfl, BL_shift (by rw [hv]; omega) b2, by omega⟩
  · rw [if_neg e3] at s3
    have hv : wv a / 2 ^ 192 = (a.get 3).toNat := by unfold wv; omega
    rw [← hv] at b3
    exact ⟨_, fin _ _ 1 (by omega) (wlk_ret s3) rfl, BL_shift (by rw [hv]; omega) b3, by omega⟩
theorem ns_digit {B : Nat} (hB : 0 < B) {f : Nat → Nat} (hf : ∀ j, f j < B) {n p : Nat} (hp : p < n) : ns B f n / B ^ p % B = f p := by
  obtain ⟨k, rfl⟩ : ∃ k, n = p + (1 + k) := ⟨n - p - 1, by omega⟩
  rw [ns_split, ns_front, Nat.add_mul_div_left _ _ (Nat.pow_pos hB), Nat.div_eq_of_lt (ns_lt hB fun j _ => hf j), Nat.zero_add, Nat.add_zero, Nat.add_mul_mod_self_left, Nat.mod_eq_of_lt (hf p)]
def bytesW (a : Word4) : Vec B8 32 := ⟨(List.range 32).map fun k => (a.get ((31 - k) / 8) >>> (8 * ((31 - k) % 8))).setWidth 8, by simp⟩
set_option maxRecDepth 100000 in
theorem word_Bytes_eq (a : Word4) : word_Bytes a = some (bytesW a) := by kernel_rfl
def digW (a : Word4) : Vec Int 32 := ⟨(List.range 32).map fun i => IntKind.i64.wrap (((a.get (i / 8) >>> (8 * (i % 8))) % 256#64).toNat : Int), by simp⟩
set_option maxRecDepth 100000 in
theorem ref_Of_eq (a : Word4) : smithyref01_Of a = some (digW a) := by kernel_rfl
def bytesD (d : Vec Int 32) : Vec B8 32 := ⟨(List.range 32).map fun k => BitVec.ofInt 8 (d.get (31 - k)), by simp⟩
set_option maxRecDepth 100000 in
theorem ref_Bytes_eq (d : Vec Int 32) : smithyref01_D_Bytes d = some (bytesD d) := by kernel_rfl
theorem dig_byte (x : W64) : IntKind.i64.wrap ((x % 256#64).toNat : Int) = ((x.setWidth 8).toNat : Int) := by
  have h : (x % 256#64).toNat = (x.setWidth 8).toNat := by
    simp only [BitVec.toNat_setWidth, BitVec.toNat_umod, show (256#64).toNat = 256 from rfl]
  rw [h]
  have := (x.setWidth 8).isLt
  exact IntWalk.i64_in _ (by omega)
theorem digW_get (a : Word4) {i : Nat} (hi : i < 32) : (digW a).get i = (((a.get (i / 8) >>> (8 * (i % 8))).setWidth 8 : B8).toNat : Int) := by
  unfold digW; rw [Vec.get_map _ _ hi, dig_byte]
theorem ofInt_byte (b : B8) : BitVec.ofInt 8 (b.toNat : Int) = b := by simp
theorem bytesD_digW (a : Word4) : bytesD (digW a) = bytesW a := by
  apply Vec.ext
  show List.map _ _ = List.map _ _
  refine List.map_congr_left fun k hk => ?_
  have : k < 32 := by simpa using hk
  rw [digW_get a (by omega), ofInt_byte]
end Go.Proofs.Ytapfkdcilfpbhaa
