/- Bytes as words; addresses; Create2: the program's and the document's. -/
import Derived.Test.YtapfkdcilfpbhaaDoorWordA
import Derived.Test.YtapfkdcilfpbhaaDoorWkC
namespace Go.Proofs.YtapfkdcilfpbhaaDoor
open Go.RowKit
set_option linter.unusedVariables false
set_option linter.unusedSimpArgs false
/-- Bytes, at most 32, with noughts ahead. -/
def padV (l : List B8) : Vec B8 32 := (Vec.rep 32 0#8).put (32 - l.length) l
theorem padV_get {l : List B8} (h : l.length ≤ 32) {p : Nat} (hp : p < 32) : (padV l).get (31 - p) = if p < l.length then lget l (l.length - 1 - p) else 0#8 := by
  unfold padV
  rw [Vec.get_put _ _ _ (by omega), Vec.get_rep (by omega)]
  by_cases e : p < l.length
  · rw [if_pos e, if_pos (by omega), show 31 - p - (32 - l.length) = l.length - 1 - p by omega]
  · rw [if_neg e, if_neg (by omega)]
theorem From_eq {l : List B8} (h : l.length ≤ 32) : word_From l = some (wordV (padV l)) := by
  have h1 : decide ((32 : Int) < (l.length : Int)) = false := decide_eq_false (by omega)
  have h2 : wi (32 - (l.length : Int)) = ((32 - l.length : Nat) : Int) := by rw [wi_id (by omega)]; omega
  have h3 : l.take (32 - (32 - l.length)) = l := List.take_of_length_le (by omega)
  unfold word_From
  simp only [Let_eq, h1, cond_false, Option.bind_some, h2, Int.toNat_natCast, h3]
  rw [Chk_ok (by omega)]
  show (wlx (fun s => word_From.b1 (padV l) s.1 s.2) _).bind _ = _
  rw [From_loop_eq]; rfl
def digL (l : List B8) (i : Nat) : Vec Int 32 := ⟨(List.range 32).map fun p => if p < i then ((lget l (l.length - 1 - p)).toNat : Int) else 0, by simp⟩
theorem digL_get (l : List B8) (i : Nat) {p : Nat} (hp : p < 32) : (digL l i).get p = if p < i then ((lget l (l.length - 1 - p)).toNat : Int) else 0 := Vec.get_map _ _ hp
theorem digL_succ (l : List B8) {i : Nat} (hi : i < 32) : (digL l i).set i ((lget l (l.length - 1 - i)).toNat : Int) = digL l (i + 1) := by
  refine Vec.ext_get fun p hp => ?_
  rw [Vec.get_set _ hi, digL_get _ _ hp, digL_get _ _ hp]
  by_cases e : i = p
  · subst e; rw [if_pos rfl, if_pos (by omega)]
  · rw [if_neg e]
    by_cases e2 : p < i
    · rw [if_pos e2, if_pos (by omega)]
    · rw [if_neg e2, if_neg (by omega)]
theorem ref_From_dig {l : List B8} (h : l.length ≤ 32) : smithyref01_From l = some (digL l l.length) := by
  have hl := wlx_for (b := fun s => smithyref01_From.b1 l s.1 s.2) (fun i => (digL l i, (i : Int))) (n := l.length) (s' := (digL l l.length, (l.length : Int))) (fun i hi => by
    have h1 : decide ((i : Int) < 32) = true := decide_eq_true (by omega)
    have h2 : decide ((i : Int) < (l.length : Int)) = true := decide_eq_true (by omega)
    have h3 : wi ((l.length : Int) - 1) = ((l.length - 1 : Nat) : Int) := by rw [wi_id (by omega)]; omega
    have h4 : wi (((l.length - 1 : Nat) : Int) - (i : Int)) = ((l.length - 1 - i : Nat) : Int) := by rw [wi_id (by omega)]; omega
    have h5 : wi ((i : Int) + 1) = ((i + 1 : Nat) : Int) := by rw [wi_id (by omega)]; omega
    simp only [smithyref01_From.b1, Let_eq, h1, cond_true, Option.bind_some, h2, h3, h4, h5, Int.toNat_natCast]
    rw [Chk_ok (by omega), Chk_ok (by omega), digL_succ l (by omega)]) (by
    have h2 : decide ((l.length : Int) < (l.length : Int)) = false := decide_eq_false (by omega)
    by_cases e : (l.length : Int) < 32
    · simp only [smithyref01_From.b1, Let_eq, decide_eq_true e, cond_true, h2, Option.bind_some, cond_false]
    · simp only [smithyref01_From.b1, Let_eq, decide_eq_false e, cond_false, Option.bind_some]) (by omega)
  have h0 : (Vec.rep 32 (0 : Int), (0 : Int)) = (fun i : Nat => (digL l i, (i : Int))) 0 := by
    refine Prod.ext (Vec.ext_get fun p hp => ?_) rfl
    show (Vec.rep 32 (0 : Int)).get p = (digL l 0).get p
    rw [Vec.get_rep hp, digL_get _ _ hp, if_neg (by omega)]
  unfold smithyref01_From
  rw [Let_eq, h0, hl]; rfl
theorem ref_From_eq {l : List B8} (h : l.length ≤ 32) : (smithyref01_From l).bind smithyref01_D_Word = some (wordV (padV l)) := by
  rw [ref_From_dig h, Option.bind_some]
  refine ref_Word_eq _ _ fun i hi => ?_
  rw [digL_get _ _ hi, padV_get h hi]
  by_cases e : i < l.length
  · rw [if_pos e, if_pos e]
  · rw [if_neg e, if_neg e]; rfl
theorem limb_byte (y : Nat → Nat) (hy : ∀ j, j < 8 → y j < 256) (j : Nat) (hj : j < 8) : limbN y / 2 ^ (8 * j) % 256 = y j := by
  have h0 := hy 0 (by omega)
  have h1 := hy 1 (by omega)
  have h2 := hy 2 (by omega)
  have h3 := hy 3 (by omega)
  have h4 := hy 4 (by omega)
  have h5 := hy 5 (by omega)
  have h6 := hy 6 (by omega)
  have h7 := hy 7 (by omega)
  unfold limbN
  match j, hj with
  | 0, _ => omega
  | 1, _ => omega
  | 2, _ => omega
  | 3, _ => omega
  | 4, _ => omega
  | 5, _ => omega
  | 6, _ => omega
  | 7, _ => omega
theorem limbN_lt (y : Nat → Nat) (hy : ∀ j, j < 8 → y j < 256) : limbN y < 2 ^ 64 := by
  have h0 := hy 0 (by omega)
  have h1 := hy 1 (by omega)
  have h2 := hy 2 (by omega)
  have h3 := hy 3 (by omega)
  have h4 := hy 4 (by omega)
  have h5 := hy 5 (by omega)
  have h6 := hy 6 (by omega)
  have h7 := hy 7 (by omega)
  unfold limbN; omega
theorem wordV_get (y : Vec B8 32) {i : Nat} (hi : i < 4) : (wordV y).get i = limbV y i := by
  match i, hi with
  | 0, _ => rfl
  | 1, _ => rfl
  | 2, _ => rfl
  | 3, _ => rfl
theorem bytesW_wordV (y : Vec B8 32) : bytesW (wordV y) = y := by
  refine Vec.ext_get fun k hk => ?_
  unfold bytesW
  rw [Vec.get_map _ _ hk, wordV_get _ (by omega)]
  apply BitVec.eq_of_toNat_eq
  have hb : ∀ j, j < 8 → (y.get (31 - (8 * ((31 - k) / 8) + j))).toNat < 256 := fun j _ => (y.get _).isLt
  unfold limbV
  rw [BitVec.toNat_setWidth, BitVec.toNat_ushiftRight, BitVec.toNat_ofNat, Nat.mod_eq_of_lt (limbN_lt _ hb), Nat.shiftRight_eq_div_pow]
  have := limb_byte _ hb ((31 - k) % 8) (by omega)
  rw [show (2 : Nat) ^ 8 = 256 from rfl, this, show 31 - (8 * ((31 - k) / 8) + (31 - k) % 8) = k by omega]
theorem padV_full (v : Vec B8 32) : padV v.l = v := by
  refine Vec.ext_get fun k hk => ?_
  have := padV_get (l := v.l) (by rw [v.hl]; omega) (p := 31 - k) (by omega)
  rw [show 31 - (31 - k) = k by omega, v.hl, if_pos (by omega), show 32 - 1 - (31 - k) = k by omega] at this
  rw [this]; rfl
/-! Addresses. -/
abbrev A20 := Vec B8 20
theorem cut20 (v : A20) : (v.l.take 20).drop 0 = v.l := by rw [List.drop_zero, List.take_of_length_le (by rw [v.hl]; omega)]
theorem cut32 (v : Vec B8 32) : (v.l.take 32).drop 0 = v.l := by rw [List.drop_zero, List.take_of_length_le (by rw [v.hl]; omega)]
theorem addr_Word_eq (a : A20) : addr_Word a = some (wordV (padV a.l)) := by
  unfold addr_Word
  rw [Let_eq, cut20, From_eq (by rw [a.hl]; omega)]; rfl
theorem ref_addr_Word_eq (a : A20) : smithyref08_Word a = some (wordV (padV a.l)) := by
  unfold smithyref08_Word
  rw [Let_eq, cut20]
  have := ref_From_eq (l := a.l) (by rw [a.hl]; omega)
  rw [ref_From_dig (by rw [a.hl]; omega)] at this ⊢
  rw [Option.bind_some] at this ⊢
  rw [this]; rfl
set_option maxRecDepth 100000 in
theorem last_eq (v : Vec B8 32) : smithyref08_last v = some (v.part 12 20) := by kernel_rfl
theorem addr_Of_eq (a : Word4) : addr_Of a = some ((bytesW a).part 12 20) := by
  unfold addr_Of
  rw [word_Bytes_eq, Option.bind_some, Let_eq, Chk_ok (by rw [List.length_drop, List.length_take, Vec.hl]; omega), Let_eq]
theorem ref_addr_Of_eq (a : Word4) : smithyref08_Of a = some ((bytesW a).part 12 20) := by
  unfold smithyref08_Of
  rw [ref_Of_eq, Option.bind_some, ref_Bytes_eq, Option.bind_some, bytesD_digW, last_eq]; rfl
theorem addr_back (a : A20) : (bytesW (wordV (padV a.l))).part 12 20 = a := by
  rw [bytesW_wordV]
  refine Vec.ext_get fun k hk => ?_
  rw [Vec.get_part _ _ _ hk]
  have := padV_get (l := a.l) (by rw [a.hl]; omega) (p := 19 - k) (by omega)
  rw [show 31 - (19 - k) = 12 + k by omega, a.hl, if_pos (by omega), show 20 - 1 - (19 - k) = k by omega] at this
  rw [this]; rfl
/-- What Create2 hashes. -/
def salted (a : A20) (s : Word4) (c : List B8) : List B8 := (([255#8] ++ a.l) ++ (bytesW s).l) ++ (kecV c).l
theorem salted_len (a : A20) (s : Word4) (c : List B8) : (salted a s c).length = 85 := by simp [salted, Vec.hl]
theorem Create2_eq (a : A20) (s : Word4) {c : List B8} (hc : c.length ≤ 140737488355000) : addr_Create2 constT placesT turnsT a s c = some ((kecV (salted a s c)).part 12 20) := by
  unfold addr_Create2
  rw [sum_eq (by omega), Option.bind_some, word_Bytes_eq, Option.bind_some]
  simp only [Let_eq, cut20, cut32]
  rw [Chk_ok (by simp [Vec.hl]), Chk_ok (by simp [Vec.hl]), Chk_ok (by simp [Vec.hl])]
  show (keccak_Word _ _ _ (salted a s c)).bind _ = _
  unfold keccak_Word
  rw [sum_eq (by rw [salted_len]; omega), Option.bind_some, Let_eq, cut32, From_eq (by rw [Vec.hl]; omega), padV_full]
  show (addr_Of _).bind _ = _
  rw [addr_Of_eq, bytesW_wordV]; rfl
theorem ref_Create2_eq (a : A20) (s : Word4) {c : List B8} (hc : c.length ≤ 140737488355000) : smithyref08_Create2 a s c = some ((kecV (salted a s c)).part 12 20) := by
  unfold smithyref08_Create2
  rw [ref_sum_eq hc, Option.bind_some, ref_Of_eq, Option.bind_some, ref_Bytes_eq, Option.bind_some, bytesD_digW]
  simp only [Let_eq, cut20, cut32]
  rw [Chk_ok (by simp [Vec.hl]), Chk_ok (by simp [Vec.hl]), Chk_ok (by simp [Vec.hl])]
  show (smithyref05_Sum (salted a s c)).bind _ = _
  rw [ref_sum_eq (by rw [salted_len]; omega), Option.bind_some, last_eq]; rfl
end Go.Proofs.YtapfkdcilfpbhaaDoor
