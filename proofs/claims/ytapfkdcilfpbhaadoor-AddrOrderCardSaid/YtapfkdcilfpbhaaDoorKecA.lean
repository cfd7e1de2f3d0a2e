/- keccak's round: the program's and the document's, of 25 lanes. -/
import Derived.Test.YtapfkdcilfpbhaaDoorWkA
import Derived.Test.YtapfkdcilfpbhaaDoorWkB
namespace Go.Proofs.YtapfkdcilfpbhaaDoor
open Go.RowKit
set_option linter.unusedVariables false
set_option linter.unusedSimpArgs false
abbrev W64 := BitVec 64
def placesT : Vec Int 24 := ⟨[10, 7, 11, 17, 18, 3, 5, 16, 8, 21, 24, 4, 15, 23, 19, 13, 12, 2, 20, 14, 22, 9, 6, 1], rfl⟩
def turnsT : Vec Int 24 := ⟨[1, 3, 6, 10, 15, 21, 28, 36, 45, 55, 2, 14, 27, 41, 56, 8, 25, 43, 62, 18, 39, 61, 20, 44], rfl⟩
def rotl (x : W64) (k : Nat) : W64 := (x <<< k) ||| (x >>> (64 - k))
def colS (l : List W64) (x : Nat) : W64 := lget l x ^^^ lget l (x + 5) ^^^ lget l (x + 10) ^^^ lget l (x + 15) ^^^ lget l (x + 20)
def thetaS (l : List W64) : List W64 := (List.range 25).map fun i => lget l i ^^^ (colS l ((i + 4) % 5) ^^^ rotl (colS l ((i + 1) % 5)) 1)
def rhoS (l : List W64) : List W64 := [lget l 0, rotl (lget l 6) 44, rotl (lget l 12) 43, rotl (lget l 18) 21, rotl (lget l 24) 14, rotl (lget l 3) 28, rotl (lget l 9) 20, rotl (lget l 10) 3, rotl (lget l 16) 45, rotl (lget l 22) 61, rotl (lget l 1) 1, rotl (lget l 7) 6, rotl (lget l 13) 25, rotl (lget l 19) 8, rotl (lget l 20) 18, rotl (lget l 4) 27, rotl (lget l 5) 36, rotl (lget l 11) 10, rotl (lget l 17) 15, rotl (lget l 23) 56, rotl (lget l 2) 62, rotl (lget l 8) 55, rotl (lget l 14) 39, rotl (lget l 15) 41, rotl (lget l 21) 2]
def chiS (l : List W64) : List W64 := (List.range 25).map fun i => lget l i ^^^ (~~~ lget l (5 * (i / 5) + (i + 1) % 5) &&& lget l (5 * (i / 5) + (i + 2) % 5))
def roundS (l : List W64) : List W64 := chiS (rhoS (thetaS l))
def lanes (x0 x1 x2 x3 x4 x5 x6 x7 x8 x9 x10 x11 x12 x13 x14 x15 x16 x17 x18 x19 x20 x21 x22 x23 x24 : W64) : Vec W64 25 := ⟨[x0, x1, x2, x3, x4, x5, x6, x7, x8, x9, x10, x11, x12, x13, x14, x15, x16, x17, x18, x19, x20, x21, x22, x23, x24], rfl⟩
set_option maxRecDepth 100000 in
theorem round_lanes (x0 x1 x2 x3 x4 x5 x6 x7 x8 x9 x10 x11 x12 x13 x14 x15 x16 x17 x18 x19 x20 x21 x22 x23 x24 : W64) : keccak_round placesT turnsT (lanes x0 x1 x2 x3 x4 x5 x6 x7 x8 x9 x10 x11 x12 x13 x14 x15 x16 x17 x18 x19 x20 x21 x22 x23 x24) = some ⟨roundS [x0, x1, x2, x3, x4, x5, x6, x7, x8, x9, x10, x11, x12, x13, x14, x15, x16, x17, x18, x19, x20, x21, x22, x23, x24], rfl⟩ := by kernel_rfl
/-! The document's round. -/
def colR (l : List W64) (x : Nat) : W64 := 0#64 ^^^ lget l x ^^^ lget l (x + 5) ^^^ lget l (x + 10) ^^^ lget l (x + 15) ^^^ lget l (x + 20)
def thetaR (l : List W64) : List W64 := (List.range 25).map fun i => lget l i ^^^ colR l ((i + 4) % 5) ^^^ rotl (colR l ((i + 1) % 5)) 1
def chiR (l : List W64) : List W64 := (List.range 25).map fun i => lget l i ^^^ ((18446744073709551615#64 - lget l (5 * (i / 5) + (i + 1) % 5)) &&& lget l (5 * (i / 5) + (i + 2) % 5))
def roundR (l : List W64) : List W64 := chiR (rhoS (thetaR l))
set_option maxRecDepth 100000 in
theorem ref_round_lanes (x0 x1 x2 x3 x4 x5 x6 x7 x8 x9 x10 x11 x12 x13 x14 x15 x16 x17 x18 x19 x20 x21 x22 x23 x24 : W64) (k : W64) : smithyref05_Round (lanes x0 x1 x2 x3 x4 x5 x6 x7 x8 x9 x10 x11 x12 x13 x14 x15 x16 x17 x18 x19 x20 x21 x22 x23 x24) k = some ⟨(roundR [x0, x1, x2, x3, x4, x5, x6, x7, x8, x9, x10, x11, x12, x13, x14, x15, x16, x17, x18, x19, x20, x21, x22, x23, x24]).set 0 (lget (roundR [x0, x1, x2, x3, x4, x5, x6, x7, x8, x9, x10, x11, x12, x13, x14, x15, x16, x17, x18, x19, x20, x21, x22, x23, x24]) 0 ^^^ k), rfl⟩ := by kernel_rfl
theorem colR_eq (l : List W64) (x : Nat) : colR l x = colS l x := by unfold colR colS; rw [BitVec.zero_xor]
theorem thetaR_eq (l : List W64) : thetaR l = thetaS l := by
  unfold thetaR thetaS
  refine List.map_congr_left fun i _ => ?_
  rw [colR_eq, colR_eq, BitVec.xor_assoc]
theorem ones_sub (x : W64) : 18446744073709551615#64 - x = ~~~x := by
  rw [show (18446744073709551615#64 : W64) = BitVec.allOnes 64 from rfl, BitVec.allOnes_sub_eq_not]
theorem chiR_eq (l : List W64) : chiR l = chiS l := by
  unfold chiR chiS
  refine List.map_congr_left fun i _ => ?_
  rw [ones_sub]
theorem roundR_eq (l : List W64) : roundR l = roundS l := by unfold roundR roundS; rw [thetaR_eq, chiR_eq]
theorem roundS_len (l : List W64) : (roundS l).length = 25 := by simp [roundS, chiS]
theorem lanes_of (v : Vec W64 25) : ∃ x0 x1 x2 x3 x4 x5 x6 x7 x8 x9 x10 x11 x12 x13 x14 x15 x16 x17 x18 x19 x20 x21 x22 x23 x24 : W64, v = lanes x0 x1 x2 x3 x4 x5 x6 x7 x8 x9 x10 x11 x12 x13 x14 x15 x16 x17 x18 x19 x20 x21 x22 x23 x24 := by
  obtain ⟨l, h⟩ := v
  iterate 25 (cases l with | nil => simp at h | cons x l => ?_)
  cases l with
  | cons x l => simp at h
  | nil => exact ⟨_, _, _, _, _, _, _, _, _, _, _, _, _, _, _, _, _, _, _, _, _, _, _, _, _, rfl⟩
def roundV (v : Vec W64 25) : Vec W64 25 := ⟨roundS v.l, roundS_len _⟩
theorem round_eq (v : Vec W64 25) : keccak_round placesT turnsT v = some (roundV v) := by
  obtain ⟨x0, x1, x2, x3, x4, x5, x6, x7, x8, x9, x10, x11, x12, x13, x14, x15, x16, x17, x18, x19, x20, x21, x22, x23, x24, rfl⟩ := lanes_of v
  exact round_lanes x0 x1 x2 x3 x4 x5 x6 x7 x8 x9 x10 x11 x12 x13 x14 x15 x16 x17 x18 x19 x20 x21 x22 x23 x24
theorem ref_round_eq (v : Vec W64 25) (k : W64) : smithyref05_Round v k = some ((roundV v).set 0 ((roundV v).get 0 ^^^ k)) := by
  obtain ⟨x0, x1, x2, x3, x4, x5, x6, x7, x8, x9, x10, x11, x12, x13, x14, x15, x16, x17, x18, x19, x20, x21, x22, x23, x24, rfl⟩ := lanes_of v
  rw [ref_round_lanes]
  refine congrArg some (Vec.ext ?_)
  show (roundR _).set 0 (lget (roundR _) 0 ^^^ k) = (roundS _).set 0 (lget (roundS _) 0 ^^^ k)
  rw [roundR_eq]; rfl
end Go.Proofs.YtapfkdcilfpbhaaDoor
