/- What the laid table gives a walk; a world that meets it. -/
import Derived.Test.YtfcbkmgkdbdabaaDoorShaE
import Derived.Test.YtfcbkmgkdbdabaaDoorRows
import Derived.Lib.LaidTab
import Derived.LaidHandle
import Derived.ProofKit
import Derived.OpenShut
import Derived.Carry
import Derived.ChangeSame
import Derived.ChangeSlices
namespace Go.Proofs.YtfcbkmgkdbdabaaDoor
open Go.RowKit

theorem own_ : ownKnob Tryd.prog.godebug = none := by kernel_rfl
theorem laidOut_ : laidOutB Tryd.prog = true := by kernel_rfl
theorem gT : Tryd.prog.globalNamed "smithy/sha.constants" = some 0 := by kernel_rfl
theorem gTType : (Tryd.prog.globals[0]?).map (·.type) = some 25 := by kernel_rfl
theorem cells24 : Tryd.prog.cellsOf 24 = 1 := by kernel_rfl
theorem cells25 : Tryd.prog.cellsOf 25 = 64 := by kernel_rfl
abbrev laidL : List (String × DataW Unit) := [("smithy/sha.constants", Rows.laid_smithy_sha_constants)]
theorem laid_tab : (Rows.laid_smithy_sha_constants : DataW Unit) = Lib.tabData .u32 (kL.map fun x => (x.toNat : Int)) := by
  unfold kL; rfl
theorem cells_of_laid {W : World} (h : laidMetH Tryd.prog laidL W) : Cells U32 W 0 0 kL := by
  have h' : laidMet Tryd.prog laidL W := h
  unfold laidL at h'
  rw [laid_tab] at h'
  have ht := Lib.tabIs_of_head gT gTType Tryd.underlying25 Tryd.underlying24 cells24 cells25 h'
  intro i x hx
  have hi : i < kL.length := (List.getElem?_eq_some_iff.1 hx).1
  have := ht.cell gT i (by simpa using hi)
  rw [Nat.zero_add, this]
  simp only [List.getD_eq_getElem?_getD, List.getElem?_map, hx, Option.map_some, Option.getD_some]
  rfl
theorem heap_pos {W : World} (h : Cells U32 W 0 0 kL) (hk : kL.length = 64) : 0 < W.heap.size := by
  have h0 := h 0 _ (rd_some (by omega))
  exact block_lt_of_cell h0

noncomputable def laidWorld (os : Os) : World :=
  { World.holding Tryd.prog os ⟨#[], #[], []⟩ with heap := (World.holding Tryd.prog os ⟨#[], #[], []⟩).heap.modify 0 fun
      | .cells _ t frozen => .cells #[.int .u32 1116352408, .int .u32 1899447441, .int .u32 3049323471, .int .u32 3921009573, .int .u32 961987163, .int .u32 1508970993, .int .u32 2453635748, .int .u32 2870763221, .int .u32 3624381080, .int .u32 310598401, .int .u32 607225278, .int .u32 1426881987, .int .u32 1925078388, .int .u32 2162078206, .int .u32 2614888103, .int .u32 3248222580, .int .u32 3835390401, .int .u32 4022224774, .int .u32 264347078, .int .u32 604807628, .int .u32 770255983, .int .u32 1249150122, .int .u32 1555081692, .int .u32 1996064986, .int .u32 2554220882, .int .u32 2821834349, .int .u32 2952996808, .int .u32 3210313671, .int .u32 3336571891, .int .u32 3584528711, .int .u32 113926993, .int .u32 338241895, .int .u32 666307205, .int .u32 773529912, .int .u32 1294757372, .int .u32 1396182291, .int .u32 1695183700, .int .u32 1986661051, .int .u32 2177026350, .int .u32 2456956037, .int .u32 2730485921, .int .u32 2820302411, .int .u32 3259730800, .int .u32 3345764771, .int .u32 3516065817, .int .u32 3600352804, .int .u32 4094571909, .int .u32 275423344, .int .u32 430227734, .int .u32 506948616, .int .u32 659060556, .int .u32 883997877, .int .u32 958139571, .int .u32 1322822218, .int .u32 1537002063, .int .u32 1747873779, .int .u32 1955562222, .int .u32 2024104815, .int .u32 2227730452, .int .u32 2361852424, .int .u32 2428436474, .int .u32 2756734187, .int .u32 3204031479, .int .u32 3329325298] t frozen
      | o => o }
end Go.Proofs.YtfcbkmgkdbdabaaDoor
