/- The laid tables of keccak; a world that meets them. -/
import Derived.Test.YtapfkdcilfpbhaaDoorXRow
import Derived.Test.YtapfkdcilfpbhaaDoorKecB
namespace Go.Proofs.YtapfkdcilfpbhaaDoor
open Go.RowKit Go.ChangeShapes Go.WideShapes
set_option linter.unusedVariables false
set_option linter.unusedSimpArgs false
abbrev laidL : List (String × DataW Unit) := [("smithy/keccak.constants", Rows.laid_smithy_keccak_constants), ("smithy/keccak.turns", Rows.laid_smithy_keccak_turns), ("smithy/keccak.places", Rows.laid_smithy_keccak_places)]
theorem laid_constants : (Rows.laid_smithy_keccak_constants : DataW Unit) = Lib.tabData .u64 (constT.l.map fun x => (x.toNat : Int)) := rfl
theorem laid_turns : (Rows.laid_smithy_keccak_turns : DataW Unit) = Lib.tabData .i64 turnsT.l := rfl
theorem laid_places : (Rows.laid_smithy_keccak_places : DataW Unit) = Lib.tabData .i64 placesT.l := rfl
theorem gC : Tryd.prog.globalNamed "smithy/keccak.constants" = some 1 := by kernel_rfl
theorem gP : Tryd.prog.globalNamed "smithy/keccak.places" = some 2 := by kernel_rfl
theorem gT : Tryd.prog.globalNamed "smithy/keccak.turns" = some 3 := by kernel_rfl
theorem tabs_of_laid {W : World} (h : laidMetH Tryd.prog laidL W) : TabW W 1 U64 constT ∧ TabW W 2 (Value.int .i64) placesT ∧ TabW W 3 (Value.int .i64) turnsT := by
  have h' : laidMet Tryd.prog laidL W := h
  obtain ⟨ps, hv, _⟩ := h'
  refine ⟨tabW_of (zs := constT.l.map fun x => (x.toNat : Int)) (tabIs_of_vars (k := .u64) gC (t := 141) (e := 24) (n := 24) (by kernel_rfl) (by kernel_rfl) (by kernel_rfl) (by kernel_rfl) (by kernel_rfl) hv (by rw [← laid_constants]; simp [laidL])) gC (by simp [cV, List.map_map]; exact fun a _ => rfl), ?_, ?_⟩
  · exact tabW_of (tabIs_of_vars (k := .i64) gP (t := 166) (e := 3) (n := 24) (by kernel_rfl) (by kernel_rfl) (by kernel_rfl) (by kernel_rfl) (by kernel_rfl) hv (by rw [← laid_places]; simp [laidL])) gP rfl
  · exact tabW_of (tabIs_of_vars (k := .i64) gT (t := 166) (e := 3) (n := 24) (by kernel_rfl) (by kernel_rfl) (by kernel_rfl) (by kernel_rfl) (by kernel_rfl) hv (by rw [← laid_turns]; simp [laidL])) gT rfl
/-- The blocks of the tables, filled. -/
def fill (g : Nat) (l : List Value) (h : Array Obj) : Array Obj := h.modify g fun
  | .cells _ t frozen => .cells l.toArray t frozen
  | o => o
noncomputable def laidWorld (os : Os) : World :=
  { World.holding Tryd.prog os ⟨#[], #[], []⟩ with heap := fill 3 (turnsT.l.map (Value.int .i64)) (fill 2 (placesT.l.map (Value.int .i64)) (fill 1 (constT.l.map fun x => Value.int .u64 x.toNat) (World.holding Tryd.prog os ⟨#[], #[], []⟩).heap)) }
theorem laidWorld_met (os : Os) (args : Array Value) : laidMetH Tryd.prog laidL ((laidWorld os).forCall (fun _ _ => 0) ⟨#[], args, []⟩).memory :=
  show laidMet Tryd.prog laidL _ from laidMet_of_run' 8 (by kernel_rfl) (by kernel_rfl)
end Go.Proofs.YtapfkdcilfpbhaaDoor
