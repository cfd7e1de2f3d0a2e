/- The reference's Sum: what it computes, in plain terms. -/
import Derived.Test.YtfcbkmgkdbdabaaDoorShaG
namespace Go.Proofs.YtfcbkmgkdbdabaaDoor
open Go.RowKit

theorem Own.at_ {α : Type} {f : α → Value} {w : World} {B : Nat} {e : TypeId} {g n c : Nat} {xs : List α} (h : Own w B e f (.slice (some ⟨g, 0, none⟩) n c) xs) : xs.length = n ∧ n ≤ c ∧ B ≤ g ∧ g < w.heap.size ∧ Cells f w g 0 xs := by
  rcases h.cases with ⟨hv, _⟩ | ⟨g', c', hv, h1, h2, h3, h4, _⟩
  · cases hv
  · cases hv; exact ⟨rfl, h2, h1, h3, h4⟩
/-- How many noughts. -/
def padN (n : Nat) : Nat := (119 - n % 64) % 64
theorem padN_spec (n : Nat) : (n + 1 + padN n) % 64 = 56 ∧ ∀ i, i < padN n → (n + 1 + i) % 64 ≠ 56 := by
  unfold padN
  constructor
  · omega
  · intro i hi; omega
def lenB (n : BitVec 64) : Nat → List (BitVec 8)
  | 0 => []
  | j + 1 => lenB n j ++ [(n >>> (8 * (7 - j))).setWidth 8]
theorem rem8 (x : BitVec 64) : (x % 256#64).setWidth 8 = x.setWidth 8 := by
  apply BitVec.eq_of_toNat_eq
  simp
theorem rem8' (x : BitVec 32) : (x % 256#32).setWidth 8 = x.setWidth 8 := by
  apply BitVec.eq_of_toNat_eq
  simp
def allB (bs : List (BitVec 8)) : List (BitVec 8) := bs ++ [128#8] ++ List.replicate (padN bs.length) 0#8 ++ lenB (BitVec.ofNat 64 bs.length * 8#64) 8
def beW (blk : List (BitVec 8)) (i : Nat) : BitVec 32 := (rd blk (4 * i)).setWidth 32 <<< 24 + (rd blk (4 * i + 1)).setWidth 32 <<< 16 + (rd blk (4 * i + 2)).setWidth 32 <<< 8 + (rd blk (4 * i + 3)).setWidth 32
def nxW (v : List (BitVec 32)) (i : Nat) : BitVec 32 :=
  rd v (i - 16) + rd v (i - 7) + (rotl32 (rd v (i - 15)) (-7) ^^^ rotl32 (rd v (i - 15)) (-18) ^^^ rd v (i - 15) / 8#32) + (rotl32 (rd v (i - 2)) (-17) ^^^ rotl32 (rd v (i - 2)) (-19) ^^^ rd v (i - 2) / 1024#32)
def rW (blk : List (BitVec 8)) : Nat → List (BitVec 32)
  | 0 => List.replicate 64 0#32
  | i + 1 => (rW blk i).set i (if i < 16 then beW blk i else nxW (rW blk i) i)
theorem rW_len (blk : List (BitVec 8)) : ∀ i, (rW blk i).length = 64
  | 0 => rfl
  | i + 1 => by rw [rW, List.length_set, rW_len]
attribute [irreducible] allB
theorem Drawn.quiet {P : Program} {f : FuncId} {args : Array Value} {w w0 : World} {v : Value} (h : Calls P f args w fun e w' => e = .returned v ∧ ∃ q, w' = w.drewN q) (hC : ∃ n, w = w0.drewN n) :
    Calls P f args w fun e w'' => e = .returned v ∧ ∃ n, w'' = w0.drewN n := by
  obtain ⟨n, rfl⟩ := hC
  exact h.mono fun e w' ⟨he, q, hq⟩ => ⟨he, n + q, by rw [hq]; simp [World.drewN, Nat.add_assoc]⟩
def shS (v : List (BitVec 32)) : Nat → List (BitVec 32)
  | 0 => v
  | t + 1 => (shS v t).set (7 - t) (rd (shS v t) (7 - t - 1))
theorem shS_len (v : List (BitVec 32)) : ∀ t, (shS v t).length = v.length
  | 0 => rfl
  | t + 1 => by rw [shS, List.length_set, shS_len]
def tF (k n : BitVec 32) (v : List (BitVec 32)) : BitVec 32 := rd v 7 + (rotl32 (rd v 4) (-6) ^^^ rotl32 (rd v 4) (-11) ^^^ rotl32 (rd v 4) (-25)) + (rd v 4 &&& rd v 5 ^^^ ~~~ rd v 4 &&& rd v 6) + k + n
def uF (v : List (BitVec 32)) : BitVec 32 := (rotl32 (rd v 0) (-2) ^^^ rotl32 (rd v 0) (-13) ^^^ rotl32 (rd v 0) (-22)) + (rd v 0 &&& rd v 1 ||| rd v 0 &&& rd v 2 ||| rd v 1 &&& rd v 2)
theorem rnd_chain (k n : BitVec 32) (v : List (BitVec 32)) (h : v.length = 8) : ((shS v 7).set 4 (rd (shS v 7) 4 + tF k n v)).set 0 (tF k n v + uF v) = rndF k n v :=
  match v, h with
  | [a, b, c, d, e, f, g, h], _ => by unfold rndF uF; rw [major_eq]; rfl
theorem blockF_eq (K s : List (BitVec 32)) (bs : List (BitVec 8)) : blockF K s bs = addS (rndS K (numF bs) s 64) s 8 := by unfold blockF; rfl

theorem rW_zero (blk : List (BitVec 8)) : ∀ i j, i ≤ j → rd (rW blk i) j = 0#32
  | 0, j, _ => by unfold rW rd; rw [List.getD_eq_getElem?_getD, List.getElem?_replicate]; split <;> rfl
  | i + 1, j, h => by
    rw [rW]
    by_cases hi : i < (rW blk i).length
    · rw [rd_set _ _ _ _ hi, if_neg (by omega)]; exact rW_zero blk i j (by omega)
    · rw [List.set_eq_of_length_le (by omega)]; exact rW_zero blk i j (by omega)
theorem or8 (x : BitVec 32) (b : BitVec 8) : x <<< 8 ||| b.setWidth 32 = x <<< 8 + b.setWidth 32 := by
  refine (BitVec.add_eq_or_of_and_eq_zero _ _ ?_).symm
  ext i hi
  simp only [BitVec.getElem_and, BitVec.getElem_shiftLeft, BitVec.getElem_setWidth, BitVec.getElem_zero]
  by_cases h8 : i < 8
  · simp [h8]
  · simp [BitVec.getLsbD_of_ge b i (by omega)]
theorem be4 (a b c d : BitVec 8) : (((0#32 <<< 8 ||| a.setWidth 32) <<< 8 ||| b.setWidth 32) <<< 8 ||| c.setWidth 32) <<< 8 ||| d.setWidth 32 = a.setWidth 32 <<< 24 + b.setWidth 32 <<< 16 + c.setWidth 32 <<< 8 + d.setWidth 32 := by
  rw [or8, or8, or8, or8]
  apply BitVec.eq_of_toNat_eq
  have ha := a.isLt; have hb := b.isLt; have hc := c.isLt; have hd := d.isLt
  simp only [BitVec.toNat_add, BitVec.toNat_shiftLeft, BitVec.toNat_setWidth, BitVec.toNat_ofNat, Nat.shiftLeft_eq]
  omega
theorem numL_rW (blk : List (BitVec 8)) : ∀ i, i ≤ 16 → numL blk (4 * i) = rW blk i
  | 0, _ => rfl
  | i + 1, h => by
    have ih := numL_rW blk i (by omega)
    have hl : (rW blk i).length = 64 := rW_len blk i
    have hz : rd (rW blk i) i = 0#32 := rW_zero blk i i (Nat.le_refl _)
    rw [show 4 * (i + 1) = 4 * i + 1 + 1 + 1 + 1 by omega, numL, numL, numL, numL, ih, rW, if_pos (by omega)]
    rw [show (4 * i) / 4 = i by omega, show (4 * i + 1) / 4 = i by omega, show (4 * i + 1 + 1) / 4 = i by omega, show (4 * i + 1 + 1 + 1) / 4 = i by omega]
    rw [rd_set _ _ _ _ (by omega), if_pos rfl, hz, List.set_set, rd_set _ _ _ _ (by simp only [List.length_set]; omega), if_pos rfl, List.set_set, rd_set _ _ _ _ (by simp only [List.length_set]; omega), if_pos rfl, List.set_set]
    rw [be4]
    rfl
theorem nxW_next (v : List (BitVec 32)) (j : Nat) : nxW v (16 + j) = nextN v j := by
  unfold nxW nextN
  rw [(quo_shr _).1, (quo_shr _).2, show 16 + j - 16 = j by omega]
theorem numS_rW (blk : List (BitVec 8)) : ∀ j, numS (rW blk 16) j = rW blk (16 + j)
  | 0 => rfl
  | j + 1 => by rw [numS, numS_rW blk j, show 16 + (j + 1) = 16 + j + 1 by omega, rW, if_neg (by omega), nxW_next]
theorem rW_numF (blk : List (BitVec 8)) : rW blk 64 = numF blk := by
  unfold numF
  rw [show (64 : Nat) = 4 * 16 by omega, numL_rW blk 16 (by omega), numS_rW blk 48]
end Go.Proofs.YtfcbkmgkdbdabaaDoor
