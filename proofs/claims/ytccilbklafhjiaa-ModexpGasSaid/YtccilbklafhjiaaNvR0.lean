/- Words of bytes. -/
import Derived.Test.YtccilbklafhjiaaNvG0
import Derived.Test.YtccilbklafhjiaaMcL
namespace Go.Proofs.Ytccilbklafhjiaa
open Go.RowKit
set_option linter.unusedVariables false
set_option linter.unusedSimpArgs false
def limbN (y : Nat → Nat) : Nat := y 0 + 256 * (y 1 + 256 * (y 2 + 256 * (y 3 + 256 * (y 4 + 256 * (y 5 + 256 * (y 6 + 256 * y 7))))))
def limbV (y : Vec B8 32) (i : Nat) : W64 := BitVec.ofNat 64 (limbN fun j => (y.get (31 - (8 * i + j))).toNat)
def wordV (y : Vec B8 32) : Word4 := ⟨[limbV y 0, limbV y 1, limbV y 2, limbV y 3], rfl⟩
def limbO (y : Nat → B8) : W64 := ((((((((0#64 ||| ((y 0).setWidth 64 <<< 0)) ||| ((y 1).setWidth 64 <<< 8)) ||| ((y 2).setWidth 64 <<< 16)) ||| ((y 3).setWidth 64 <<< 24)) ||| ((y 4).setWidth 64 <<< 32)) ||| ((y 5).setWidth 64 <<< 40)) ||| ((y 6).setWidth 64 <<< 48)) ||| ((y 7).setWidth 64 <<< 56))
set_option maxRecDepth 100000 in
theorem From_loop (y : Vec B8 32) : wlx (σ := (Vec (BitVec 64) 4) × (Int)) (fun s => word_From.b1 y s.1 s.2) ((Vec.rep 4 0#64), 0) = some (.inl (⟨[limbO fun j => y.get (31 - (8 * 0 + j)), limbO fun j => y.get (31 - (8 * 1 + j)), limbO fun j => y.get (31 - (8 * 2 + j)), limbO fun j => y.get (31 - (8 * 3 + j))], rfl⟩, 4)) := by kernel_rfl
theorem or_step (x : W64) (b : B8) (j : Nat) (hj : j ≤ 56) (hx : x.toNat < 2 ^ j) : (x ||| (b.setWidth 64 <<< j)).toNat = x.toNat + b.toNat * 2 ^ j := by
  have hb := b.isLt
  have h1 : (b.setWidth 64 <<< j).toNat = b.toNat * 2 ^ j := by
    have h2 : b.toNat * 2 ^ j < 2 ^ 64 := by
      have : b.toNat * 2 ^ j < 2 ^ 8 * 2 ^ j := Nat.mul_lt_mul_of_pos_right hb (Nat.two_pow_pos j)
      have h3 : 2 ^ 8 * 2 ^ j ≤ 2 ^ 64 := by rw [← Nat.pow_add]; exact Nat.pow_le_pow_right (by omega) (by omega)
      omega
    simp only [BitVec.toNat_shiftLeft, BitVec.toNat_setWidth, Nat.shiftLeft_eq]
    rw [Nat.mod_eq_of_lt (show b.toNat < 2 ^ 64 by omega), Nat.mod_eq_of_lt h2]
  rw [BitVec.toNat_or, h1, Nat.or_comm, ← Nat.shiftLeft_eq, ← Nat.shiftLeft_add_eq_or_of_lt hx, Nat.add_comm]
theorem limbO_eq (y : Nat → B8) : limbO y = BitVec.ofNat 64 (limbN fun j => (y j).toNat) := by
  have h0 := (y 0).isLt
  have h1 := (y 1).isLt
  have h2 := (y 2).isLt
  have h3 := (y 3).isLt
  have h4 := (y 4).isLt
  have h5 := (y 5).isLt
  have h6 := (y 6).isLt
  have h7 := (y 7).isLt
  apply BitVec.eq_of_toNat_eq
  unfold limbO limbN
  dsimp only
  have e0 := or_step 0#64 (y 0) 0 (by omega) (by simp)
  have z0 : (0#64).toNat = 0 := rfl
  have e1 := or_step _ (y 1) 8 (by omega) (show (0#64 ||| ((y 0).setWidth 64 <<< 0)).toNat < 2 ^ 8 by omega)
  have e2 := or_step _ (y 2) 16 (by omega) (show ((0#64 ||| ((y 0).setWidth 64 <<< 0)) ||| ((y 1).setWidth 64 <<< 8)).toNat < 2 ^ 16 by omega)
  have e3 := or_step (((0#64 ||| ((y 0).setWidth 64 <<< 0)) ||| ((y 1).setWidth 64 <<< 8)) ||| ((y 2).setWidth 64 <<< 16)) (y 3) 24 (by omega) (by omega)
  have e4 := or_step ((((0#64 ||| ((y 0).setWidth 64 <<< 0)) ||| ((y 1).setWidth 64 <<< 8)) ||| ((y 2).setWidth 64 <<< 16)) ||| ((y 3).setWidth 64 <<< 24)) (y 4) 32 (by omega) (by omega)
  have e5 := or_step (((((0#64 ||| ((y 0).setWidth 64 <<< 0)) ||| ((y 1).setWidth 64 <<< 8)) ||| ((y 2).setWidth 64 <<< 16)) ||| ((y 3).setWidth 64 <<< 24)) ||| ((y 4).setWidth 64 <<< 32)) (y 5) 40 (by omega) (by omega)
  have e6 := or_step ((((((0#64 ||| ((y 0).setWidth 64 <<< 0)) ||| ((y 1).setWidth 64 <<< 8)) ||| ((y 2).setWidth 64 <<< 16)) ||| ((y 3).setWidth 64 <<< 24)) ||| ((y 4).setWidth 64 <<< 32)) ||| ((y 5).setWidth 64 <<< 40)) (y 6) 48 (by omega) (by omega)
  have e7 := or_step (((((((0#64 ||| ((y 0).setWidth 64 <<< 0)) ||| ((y 1).setWidth 64 <<< 8)) ||| ((y 2).setWidth 64 <<< 16)) ||| ((y 3).setWidth 64 <<< 24)) ||| ((y 4).setWidth 64 <<< 32)) ||| ((y 5).setWidth 64 <<< 40)) ||| ((y 6).setWidth 64 <<< 48)) (y 7) 56 (by omega) (by omega)
  rw [BitVec.toNat_ofNat, Nat.mod_eq_of_lt (by omega)]
  omega
theorem From_loop_eq (y : Vec B8 32) : wlx (σ := (Vec (BitVec 64) 4) × (Int)) (fun s => word_From.b1 y s.1 s.2) ((Vec.rep 4 0#64), 0) = some (.inl (wordV y, 4)) := by
  rw [From_loop]
  simp only [limbO_eq]
  rfl
def padV (l : List B8) : Vec B8 32 := (Vec.rep 32 0#8).put (32 - l.length) l
theorem padV_get {l : List B8} (h : l.length ≤ 32) {p : Nat} (hp : p < 32) : (padV l).get (31 - p) = if p < l.length then lget l (l.length - 1 - p) else 0#8 := by
  unfold padV
  rw [Vec.get_put _ _ _ (by omega), Vec.get_rep (by omega)]
  by_cases e : p < l.length
  · rw [if_pos e, if_pos (by omega), show 31 - p - (32 - l.length) = l.length - 1 - p by omega]
  · rw [if_neg e, if_neg (by omega)]
theorem From_eq {l : List B8} (h : l.length ≤ 32) : word_From l = some (wordV (padV l)) := by
  have h1 : decide ((32 : Int) < (l.length : Int)) = false := decide_eq_false (by omega)
  have h2 : wi (32 - (l.length : Int)) = ((32 - l.length : Nat) : Int) := by rw [wi_id (by omega)]; omega
  have h3 : l.take (32 - (32 - l.length)) = l := List.take_of_length_le (by omega)
  unfold word_From
  simp only [Let_eq, h1, cond_false, Option.bind_some, h2, Int.toNat_natCast, h3]
  rw [Chk_ok (by omega)]
  show (wlx (fun s => word_From.b1 (padV l) s.1 s.2) _).bind _ = _
  rw [From_loop_eq]; rfl
theorem limb_ns (f : Nat → Nat) : limbN f = ns 256 f 8 := by
  unfold limbN
  simp only [ns]
  omega
theorem limbN_lt (y : Nat → Nat) (hy : ∀ j, j < 8 → y j < 256) : limbN y < 2 ^ 64 := by
  have := ns_lt (B := 256) (by omega) (n := 8) hy
  rw [limb_ns]; exact this
theorem wordV_get (y : Vec B8 32) {i : Nat} (hi : i < 4) : (wordV y).get i = limbV y i := by
  match i, hi with
  | 0, _ => rfl
  | 1, _ => rfl
  | 2, _ => rfl
  | 3, _ => rfl
theorem limbV_ns (y : Vec B8 32) {i : Nat} (hi : i < 4) : (limbV y i).toNat = ns 256 (fun j => (y.get (31 - (8 * i + j))).toNat) 8 := by
  unfold limbV
  have h : limbN (fun j => (y.get (31 - (8 * i + j))).toNat) < 2 ^ 64 := limbN_lt _ fun j _ => (y.get _).isLt
  rw [BitVec.toNat_ofNat, Nat.mod_eq_of_lt h, limb_ns]
theorem ns_four (f : Nat → Nat) : ns 256 f 32 = ns 256 (fun j => f (8 * 0 + j)) 8 + 18446744073709551616 * (ns 256 (fun j => f (8 * 1 + j)) 8 + 18446744073709551616 * (ns 256 (fun j => f (8 * 2 + j)) 8 + 18446744073709551616 * ns 256 (fun j => f (8 * 3 + j)) 8)) := by
  have h := ns_split 256 f 8 24
  have h1 := ns_split 256 (fun j => f (8 + j)) 8 16
  have h2 := ns_split 256 (fun j => f (8 + (8 + j))) 8 8
  have e0 : ns 256 (fun j => f (8 * 0 + j)) 8 = ns 256 f 8 := ns_congr fun j _ => by rw [Nat.mul_zero, Nat.zero_add]
  have e3 : ns 256 (fun j => f (8 * 3 + j)) 8 = ns 256 (fun j => f (8 + (8 + (8 + j)))) 8 := ns_congr fun j _ => by congr 1; omega
  have e2 : ns 256 (fun j => f (8 * 2 + j)) 8 = ns 256 (fun j => f (8 + (8 + j))) 8 := ns_congr fun j _ => by congr 1; omega
  rw [e0, e3, e2]
  simp only [Nat.mul_one] at *
  rw [show (256 : Nat) ^ 8 = 18446744073709551616 from rfl] at h h1 h2
  rw [← h2, ← h1]
  exact h
theorem ns_pad {l : List B8} {g : Nat → Nat} (h : l.length ≤ 32) (hg : ∀ j, j < 32 → g j = nd l (l.length - 1 - j) * (if j < l.length then 1 else 0)) : ns 256 g 32 = ns 256 (fun j => nd l (l.length - 1 - j)) l.length := by
  rw [ns_congr hg, show (32 : Nat) = l.length + (32 - l.length) by omega, ns_more (n := l.length) (fun j hj => by rw [if_neg (by omega), Nat.mul_zero])]
  exact ns_congr fun j hj => by rw [if_pos hj, Nat.mul_one]
theorem wv_ns (y : Vec B8 32) : wv (wordV y) = ns 256 (fun j => (y.get (31 - j)).toNat) 32 := by
  unfold wv
  rw [wordV_get y (by omega), wordV_get y (by omega), wordV_get y (by omega), wordV_get y (by omega), limbV_ns y (by omega), limbV_ns y (by omega), limbV_ns y (by omega), limbV_ns y (by omega)]
  rw [ns_four]
theorem ns_front (B : Nat) (f : Nat → Nat) (n : Nat) : ns B f (1 + n) = f 0 + B * ns B (fun j => f (1 + j)) n := by
  rw [ns_split]; simp [ns]
theorem bv_ns (b : List B8) : bv b = ns 256 (fun j => nd b (b.length - 1 - j)) b.length := by
  unfold bv
  have key : ∀ i, i ≤ b.length → bp b i = ns 256 (fun j => nd b (i - 1 - j)) i := by
    intro i
    induction i with
    | zero => intro _; rfl
    | succ i ih =>
      intro hi
      rw [Nat.add_comm i 1, ns_front, Nat.add_comm 1 i]
      show bp b i * 256 + nd b i = _
      rw [ih (by omega), show i + 1 - 1 - 0 = i by omega, Nat.add_comm, Nat.mul_comm]
      congr 2
      exact ns_congr fun j hj => by rw [show i + 1 - 1 - (1 + j) = i - 1 - j by omega]
  exact key _ (Nat.le_refl _)
theorem wv_padV {l : List B8} (h : l.length ≤ 32) : wv (wordV (padV l)) = bv l := by
  rw [wv_ns, bv_ns]
  refine ns_pad h fun j hj => ?_
  rw [padV_get h (by omega)]
  by_cases e : j < l.length
  · rw [if_pos e, if_pos e, nd_in (by omega), Nat.mul_one]
  · rw [if_neg e, if_neg e]; rfl
theorem Small_val (a : Word4) : word_Small a = some (if wv a < 18446744073709551616 then (BitVec.ofNat 64 (wv a), true) else (0#64, false)) := by
  unfold word_Small
  simp only [Let_eq]
  have h0 := (a.get 0).isLt
  have h1 := (a.get 1).isLt
  have h2 := (a.get 2).isLt
  have h3 := (a.get 3).isLt
  have hor : ((a.get 1 ||| a.get 2 ||| a.get 3).toNat = 0) ↔ wv a < 18446744073709551616 := by
    rw [BitVec.toNat_or, BitVec.toNat_or, Nat.or_eq_zero_iff, Nat.or_eq_zero_iff]
    unfold wv; omega
  by_cases e : wv a < 18446744073709551616
  · rw [if_pos e, show ((((a.get 1 ||| a.get 2 ||| a.get 3).toNat : Int) != 0) : Bool) = false by rw [hor.2 e]; rfl]
    simp only [cond_false]
    have : a.get 0 = BitVec.ofNat 64 (wv a) := by
      apply BitVec.eq_of_toNat_eq
      rw [BitVec.toNat_ofNat, Nat.mod_eq_of_lt e]
      have := hor.2 e
      unfold wv at e ⊢; omega
    rw [this]
  · rw [if_neg e, show ((((a.get 1 ||| a.get 2 ||| a.get 3).toNat : Int) != 0) : Bool) = true by
      have : (a.get 1 ||| a.get 2 ||| a.get 3).toNat ≠ 0 := fun h => e (hor.1 h)
      exact bne_iff_ne.2 (by omega)]
    rfl
/-- So many bytes from a place on, with noughts behind. -/
def partV (a : List B8) (at_ n : Nat) : List B8 := (List.range n).map fun j => if at_ + j < a.length then lget a (at_ + j) else 0#8
theorem partV_len (a : List B8) (p n : Nat) : (partV a p n).length = n := by simp [partV]
theorem partV_get (a : List B8) (p n : Nat) {j : Nat} (hj : j < n) : lget (partV a p n) j = if p + j < a.length then lget a (p + j) else 0#8 := by
  unfold partV lget; simp [hj]
theorem prog_part_val (a : List B8) (p n : W64) (la : a.length ≤ 100000) (ln : n.toNat ≤ 100000) : modexp_part a p n = some (partV a p.toNat n.toNat) := by
  unfold modexp_part
  simp only [Let_eq]
  rw [Chk_ok (by omega)]
  have hl : (BitVec.ofInt 64 (a.length : Int)).toNat = a.length := by
    rw [BitVec.ofInt_natCast, BitVec.toNat_ofNat, Nat.mod_eq_of_lt (by omega)]
  rw [hl]
  by_cases e : p.toNat < a.length
  · simp only [decide_eq_true e, cond_true]
    rw [Chk_ok (by omega), Option.bind_some]
    congr 1
    rw [List.take_of_length_le (Nat.le_refl _), Int.toNat_natCast]
    refine list_ext8 ?_ fun j hj => ?_
    · simp [partV]; omega
    · have hj' : j < n.toNat := by simp at hj; omega
      rw [partV_get _ _ _ hj']
      unfold lget
      simp only [List.getD_eq_getElem?_getD, List.getElem?_append, List.getElem?_take, List.getElem?_drop, List.getElem?_replicate, List.length_take, List.length_replicate, List.length_drop]
      by_cases e2 : p.toNat + j < a.length
      · rw [if_pos e2, if_pos (by omega), if_pos (by omega)]
      · rw [if_neg e2, if_neg (by omega), if_pos (by omega)]; rfl
  · simp only [decide_eq_false e, cond_false, Option.bind_some]
    congr 1
    refine list_ext8 (by simp [partV]) fun j hj => ?_
    have hj' : j < n.toNat := by simpa using hj
    rw [partV_get _ _ _ hj', if_neg (by omega)]
    unfold lget; simp [hj']
theorem partV_succ (a : List B8) (p n : Nat) : partV a p (n + 1) = partV a p n ++ [if p + n < a.length then lget a (p + n) else 0#8] := by
  unfold partV; rw [List.range_succ, List.map_append]; rfl
theorem ref_Part_val (a : List B8) (p n : Nat) (la : a.length ≤ 100000) (lp : p ≤ 4611686018427387904) (ln : n ≤ 100000) : smithyref09_Part a (p : Int) (n : Int) = some (partV a p n) := by
  unfold smithyref09_Part
  simp only [Let_eq]
  have hl := wlx_for (b := fun s => smithyref09_Part.b1 (n : Int) (p : Int) a s.1 s.2) (fun i => (partV a p i, (i : Int))) (n := n) (s' := (partV a p n, (n : Int))) (fun i hi => by
    have h1 : decide ((i : Int) < (n : Int)) = true := decide_eq_true (by omega)
    have h2 : wi ((p : Int) + (i : Int)) = ((p + i : Nat) : Int) := by rw [wi_id (by omega)]; omega
    have h3 : wi ((i : Int) + 1) = ((i + 1 : Nat) : Int) := by rw [wi_id (by omega)]; omega
    simp only [smithyref09_Part.b1, Let_eq, h1, cond_true, h2, h3]
    have hlen := partV_len a p i
    by_cases e : p + i < a.length
    · simp only [decide_eq_true (show ((p + i : Nat) : Int) < (a.length : Int) by omega), cond_true]
      rw [Chk_ok (by omega), Chk_ok (by rw [hlen]; simp; omega), Option.bind_some, partV_succ, if_pos e, Int.toNat_natCast]
    · simp only [decide_eq_false (show ¬ ((p + i : Nat) : Int) < (a.length : Int) by omega), cond_false]
      rw [Chk_ok (by rw [hlen]; simp; omega), Option.bind_some, partV_succ, if_neg e]) (by
    have h1 : decide ((n : Int) < (n : Int)) = false := decide_eq_false (by omega)
    simp only [smithyref09_Part.b1, Let_eq, h1, cond_false]) (by omega)
  rw [show ([], (0 : Int)) = ((fun i : Nat => (partV a p i, (i : Int))) 0) from rfl, hl]; rfl
/-- One of the three lengths. -/
def lenV (a : List B8) (k : Nat) : Nat := bv (partV a (32 * k) 32)
theorem bp_small (b : List B8) {n : Nat} (h : n ≤ b.length) : bp b n = 0 ↔ ∀ j, j < n → nd b j = 0 := by
  induction n with
  | zero => exact ⟨fun _ j hj => absurd hj (by omega), fun _ => rfl⟩
  | succ n ih =>
    show bp b n * 256 + nd b n = 0 ↔ _
    constructor
    · intro e j hj
      by_cases ej : j = n
      · subst ej; omega
      · exact (ih (by omega)).1 (by omega) j (by omega)
    · intro hall
      rw [(ih (by omega)).2 fun j hj => hall j (by omega), hall n (by omega)]
theorem bp_tail (b : List B8) (n : Nat) : ∀ m, bp b (n + m) = bp b n * 256 ^ m + ns 256 (fun j => nd b (n + m - 1 - j)) m
  | 0 => by simp [ns]
  | m + 1 => by
    show bp b (n + m) * 256 + nd b (n + m) = _
    rw [bp_tail b n m, Nat.add_comm m 1, ns_front, Nat.pow_add, Nat.add_mul]
    have : ns 256 (fun j => nd b (n + (1 + m) - 1 - (1 + j))) m = ns 256 (fun j => nd b (n + m - 1 - j)) m := ns_congr fun j hj => by rw [show n + (1 + m) - 1 - (1 + j) = n + m - 1 - j by omega]
    rw [this, show n + (1 + m) - 1 - 0 = n + m by omega, Nat.mul_assoc, Nat.mul_comm (256 ^ m) 256, Nat.pow_one, Nat.mul_comm 256 (ns _ _ _)]
    omega
theorem ref_Length_val (a : List B8) (k : Nat) (la : a.length ≤ 100000) (hk : k ≤ 3) : smithyref09_Length a (k : Int) = some (if lenV a k < 18446744073709551616 then (BitVec.ofNat 64 (lenV a k), true) else (0#64, false)) := by
  unfold smithyref09_Length
  have h0 : wi (32 * (k : Int)) = ((32 * k : Nat) : Int) := by rw [wi_id (by omega)]; omega
  simp only [Let_eq, h0]
  rw [show (32 : Int) = ((32 : Nat) : Int) from rfl, ref_Part_val a (32 * k) 32 la (by omega) (by omega), Option.bind_some]
  unfold lenV
  generalize hb : partV a (32 * k) 32 = b
  have lb : b.length = 32 := by rw [← hb, partV_len]
  have step : ∀ i : Nat, i < 32 → ∀ x : W64, smithyref09_Length.b1 b x (i : Int) = if i < 24 ∧ nd b i ≠ 0 then some (.ret (0#64, false)) else some (.next (x * 256#64 + (lget b i).setWidth 64, ((i + 1 : Nat) : Int))) := fun i hi x => by
    have h1 : decide ((i : Int) < 32) = true := decide_eq_true (by omega)
    have h3 : wi ((i : Int) + 1) = ((i + 1 : Nat) : Int) := by rw [wi_id (by omega)]; omega
    simp only [smithyref09_Length.b1, Let_eq, h1, cond_true, h3, Int.toNat_natCast]
    by_cases e : i < 24
    · simp only [decide_eq_true (show (i : Int) < 24 by omega), cond_true]
      rw [Chk_ok (by omega), Option.bind_some]
      by_cases e2 : nd b i = 0
      · rw [if_neg (fun h => h.2 e2), show ((((lget b i).toNat : Int) != 0) : Bool) = false by rw [← nd_in (by omega), e2]; rfl]
        simp only [cond_false]
        rw [Chk_ok (by omega)]
      · rw [if_pos ⟨e, e2⟩, show ((((lget b i).toNat : Int) != 0) : Bool) = true by rw [← nd_in (by omega)]; exact bne_iff_ne.2 (by omega)]
        rfl
    · simp only [decide_eq_false (show ¬ (i : Int) < 24 by omega), cond_false, Option.bind_some]
      rw [if_neg (fun h => e h.1), Chk_ok (by omega)]
  have hfin : ∀ x, smithyref09_Length.b1 b x (32 : Int) = some (.brk (x, 32)) := fun x => by simp [smithyref09_Length.b1, Let_eq]
  have key : ∀ n i : Nat, i + n = 32 → (∀ j, j < i → j < 24 → nd b j = 0) → ∀ x : W64, x.toNat = bp b i → ∃ o, wlk (fun s => smithyref09_Length.b1 b s.1 s.2) (n + 1) (x, (i : Int)) = some o ∧ Sum.elim (fun s : W64 × Int => some (s.1, true)) (fun r => some r) o = some (if bv b < 18446744073709551616 then (BitVec.ofNat 64 (bv b), true) else (0#64, false)) := by
    intro n
    induction n with
    | zero =>
      intro i hi hz x hx
      obtain rfl : i = 32 := by omega
      refine ⟨.inl (x, 32), wlk_brk (hfin x), ?_⟩
      have h : bv b = x.toNat := by unfold bv; rw [lb, hx]
      have := x.isLt
      rw [if_pos (by omega), h, BitVec.ofNat_toNat, BitVec.setWidth_eq]; rfl
    | succ n ih =>
      intro i hi hz x hx
      by_cases e : i < 24 ∧ nd b i ≠ 0
      · refine ⟨.inr (0#64, false), wlk_ret (by rw [step i (by omega), if_pos e]), ?_⟩
        have hne : bp b (i + 1) ≠ 0 := by show bp b i * 256 + nd b i ≠ 0; omega
        have h24 : 1 ≤ bp b (i + 1) * 256 ^ (31 - i) / 256 ^ (31 - i) := by rw [Nat.mul_div_cancel _ (Nat.pow_pos (by omega))]; omega
        have hb1 := bp_tail b (i + 1) (31 - i)
        have hb2 : bv b = bp b (i + 1 + (31 - i)) := by unfold bv; rw [lb]; congr 1; omega
        have hb3 : 256 ^ 8 ≤ 256 ^ (31 - i) := Nat.pow_le_pow_right (by omega) (by omega)
        have hb4 : 256 ^ (31 - i) ≤ bp b (i + 1) * 256 ^ (31 - i) := Nat.le_mul_of_pos_left _ (by omega)
        have : ¬ bv b < 18446744073709551616 := by
          rw [hb2, hb1]
          have : (256 : Nat) ^ 8 = 18446744073709551616 := rfl
          omega
        rw [if_neg this]; rfl
      · have hz' : ∀ j, j < i + 1 → j < 24 → nd b j = 0 := fun j h1 h2 => by
          by_cases ej : j = i
          · subst ej; omega
          · exact hz j (by omega) h2
        have hsmall : bp b (i + 1) < 18446744073709551616 := by
          by_cases e3 : i + 1 ≤ 24
          · rw [(bp_small b (by omega)).2 fun j hj => hz' j hj (by omega)]; omega
          · have h1 := bp_tail b 24 (i + 1 - 24)
            rw [(bp_small b (by omega)).2 fun j hj => hz' j (by omega) hj, show 24 + (i + 1 - 24) = i + 1 by omega] at h1
            have h2 := ns_lt (B := 256) (by omega) (f := fun j => nd b (i + 1 - 1 - j)) (n := i + 1 - 24) fun j _ => nd8_lt b _
            have h3 : 256 ^ (i + 1 - 24) ≤ 256 ^ 8 := Nat.pow_le_pow_right (by omega) (by omega)
            have : (256 : Nat) ^ 8 = 18446744073709551616 := rfl
            omega
        have hx' : (x * 256#64 + (lget b i).setWidth 64).toNat = bp b (i + 1) := by
          show _ = bp b i * 256 + nd b i
          have hs : bp b i * 256 + nd b i < 18446744073709551616 := hsmall
          rw [nd_in (by omega)] at hs ⊢
          have := (lget b i).isLt
          rw [BitVec.toNat_add, BitVec.toNat_mul, BitVec.toNat_setWidth, hx, show (256#64).toNat = 256 from rfl]
          omega
        obtain ⟨o, h1, h2⟩ := ih (i + 1) (by omega) hz' _ hx'
        exact ⟨o, by rw [wlk_next (s' := (x * 256#64 + (lget b i).setWidth 64, ((i + 1 : Nat) : Int))) (by rw [step i (by omega), if_neg e])]; exact h1, h2⟩
  obtain ⟨o, h1, h2⟩ := key 32 0 rfl (fun j h => absurd h (by omega)) 0#64 rfl
  have h3 : wlx (fun s => smithyref09_Length.b1 b s.1 s.2) ((0#64, 0) : W64 × Int) = some o := wlx_of (k := 33) h1 (by omega)
  rw [h3, Option.bind_some]
  exact h2
theorem lengths_val (a : List B8) (la : a.length ≤ 100000) : modexp_lengths a = some ⟨[wordV (padV (partV a (32 * 0) 32)), wordV (padV (partV a (32 * 1) 32)), wordV (padV (partV a (32 * 2) 32))], rfl⟩ := by
  have hp : ∀ k : Nat, k < 3 → modexp_part a (BitVec.ofInt 64 ((32 * k : Nat) : Int)) 32#64 = some (partV a (32 * k) 32) := fun k hk => by
    rw [prog_part_val a _ _ la (by decide), BitVec.ofInt_natCast, BitVec.toNat_ofNat, Nat.mod_eq_of_lt (by omega)]; rfl
  have hf : ∀ k : Nat, word_From (partV a (32 * k) 32) = some (wordV (padV (partV a (32 * k) 32))) := fun k => From_eq (by rw [partV_len]; omega)
  have st : ∀ k : Nat, k < 3 → ∀ y, modexp_lengths.b1 a y (k : Int) = some (.next (y.set k (wordV (padV (partV a (32 * k) 32))), ((k + 1 : Nat) : Int))) := fun k hk y => by
    have h1 : decide ((k : Int) < 3) = true := decide_eq_true (by omega)
    have h2 : wi (32 * (k : Int)) = ((32 * k : Nat) : Int) := by rw [wi_id (by omega)]; omega
    have h3 : wi ((k : Int) + 1) = ((k + 1 : Nat) : Int) := by rw [wi_id (by omega)]; omega
    simp only [modexp_lengths.b1, Let_eq, h1, cond_true, h2, h3, hp k hk, Option.bind_some, hf k, Int.toNat_natCast]
    rw [Chk_ok (by omega)]
  unfold modexp_lengths
  rw [wlx_of (k := 4) (o := .inl (((((Vec.rep 3 (Vec.rep 4 0#64)).set 0 (wordV (padV (partV a (32 * 0) 32)))).set 1 (wordV (padV (partV a (32 * 1) 32)))).set 2 (wordV (padV (partV a (32 * 2) 32)))), 3)) (by
    rw [wlk_next (st 0 (by omega) _), wlk_next (st 1 (by omega) _), wlk_next (st 2 (by omega) _)]
    exact wlk_brk (by simp [modexp_lengths.b1, Let_eq])) (by omega)]
  rfl
theorem wv_len (a : List B8) (k : Nat) : wv (wordV (padV (partV a (32 * k) 32))) = lenV a k := wv_padV (by rw [partV_len]; omega)
theorem zero_word (a : Word4) : (a.l == (Vec.rep 4 0#64 : Word4).l) = decide (wv a = 0) := by
  by_cases e : wv a = 0
  · have : a = Vec.rep 4 0#64 := wv_inj (by rw [e]; rfl)
    rw [decide_eq_true e, this]; exact beq_self_eq_true _
  · rw [decide_eq_false e]
    refine beq_eq_false_iff_ne.2 fun h => e ?_
    have : a = Vec.rep 4 0#64 := Vec.ext h
    rw [this]; rfl
theorem small64 {n : Nat} (h : n < 18446744073709551616) : (BitVec.ofNat 64 n).toNat = n := by rw [BitVec.toNat_ofNat, Nat.mod_eq_of_lt h]
end Go.Proofs.Ytccilbklafhjiaa
