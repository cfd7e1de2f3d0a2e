/- keccak: the constants, all rounds; the program's and the document's. -/
import Derived.Test.YtapfkdcilfpbhaaDoorKecA
namespace Go.Proofs.YtapfkdcilfpbhaaDoor
open Go.RowKit
set_option linter.unusedVariables false
set_option linter.unusedSimpArgs false
def constL : List W64 := [0x0000000000000001#64, 0x0000000000008082#64, 0x800000000000808a#64, 0x8000000080008000#64,
  0x000000000000808b#64, 0x0000000080000001#64, 0x8000000080008081#64, 0x8000000000008009#64,
  0x000000000000008a#64, 0x0000000000000088#64, 0x0000000080008009#64, 0x000000008000000a#64,
  0x000000008000808b#64, 0x800000000000008b#64, 0x8000000000008089#64, 0x8000000000008003#64,
  0x8000000000008002#64, 0x8000000000000080#64, 0x000000000000800a#64, 0x800000008000000a#64,
  0x8000000080008081#64, 0x8000000000008080#64, 0x0000000080000001#64, 0x8000000080008008#64]
def constT : Vec W64 24 := ⟨constL, rfl⟩
set_option maxRecDepth 100000 in
theorem ref_constants : smithyref05_Constants = some constT := by kernel_rfl
def stepV (v : Vec W64 25) (c : W64) : Vec W64 25 := (roundV v).set 0 ((roundV v).get 0 ^^^ c)
def turnV (v : Vec W64 25) : Vec W64 25 := constL.foldl stepV v
def turnAt (v : Vec W64 25) (i : Nat) : Vec W64 25 := (constL.take i).foldl stepV v
theorem turnAt_succ (v : Vec W64 25) {i : Nat} (h : i < 24) : turnAt v (i + 1) = stepV (turnAt v i) (constT.get i) := by
  have hl : i < constL.length := h
  unfold turnAt
  rw [List.take_add_one, List.getElem?_eq_getElem hl]
  simp only [Option.toList_some, List.foldl_append, List.foldl_cons, List.foldl_nil]
  congr 1
  unfold Vec.get
  show _ = constL.getD i default
  simp [hl]
theorem int_idx {i n : Nat} (h : i < n) : 0 ≤ (i : Int) ∧ (i : Int) < ((n : Nat) : Int) := by omega
theorem wi_nat {i : Nat} (h : i < 1152921504606846976) : wi (i : Int) = i := wi_id (by omega)
theorem turn_eq (v : Vec W64 25) : keccak_Turn constT placesT turnsT v = some (turnV v) := by
  have h := wlx_for (b := fun s => keccak_Turn.b1 constT placesT turnsT s.1 s.2) (fun i => (turnAt v i, (i : Int))) (n := 24) (s' := (turnAt v 24, (24 : Int))) (fun i hi => by
    have h1 : decide ((i : Int) < 24) = true := decide_eq_true (by omega)
    have h2 : wi ((i : Int) + 1) = ((i + 1 : Nat) : Int) := by rw [wi_id (by omega)]; omega
    simp only [keccak_Turn.b1, Let_eq, h1, cond_true, Chk_pos (int_idx hi), round_eq, Option.bind_some, Int.toNat_natCast, h2, turnAt_succ v hi, stepV]) (by
    simp only [keccak_Turn.b1, Let_eq]; rfl) (by omega)
  unfold keccak_Turn
  have h0 : (v, (0 : Int)) = (fun i : Nat => (turnAt v i, (i : Int))) 0 := rfl
  rw [h0, h]; rfl
theorem ref_turn_eq (v : Vec W64 25) : smithyref05_Turn v = some (turnV v) := by
  have h := wlx_for (b := fun s => smithyref05_Turn.b1 constT s.1 s.2) (fun i => (turnAt v i, (i : Int))) (n := 24) (s' := (turnAt v 24, (24 : Int))) (fun i hi => by
    have h1 : decide ((i : Int) < 24) = true := decide_eq_true (by omega)
    have h2 : wi ((i : Int) + 1) = ((i + 1 : Nat) : Int) := by rw [wi_id (by omega)]; omega
    simp only [smithyref05_Turn.b1, Let_eq, h1, cond_true, Chk_pos (int_idx hi), ref_round_eq, Option.bind_some, Int.toNat_natCast, h2, turnAt_succ v hi, stepV]) (by
    simp only [smithyref05_Turn.b1, Let_eq]; rfl) (by omega)
  unfold smithyref05_Turn
  have h0 : (v, (0 : Int)) = (fun i : Nat => (turnAt v i, (i : Int))) 0 := rfl
  rw [ref_constants, Option.bind_some, h0, h]; rfl
end Go.Proofs.YtapfkdcilfpbhaaDoor
