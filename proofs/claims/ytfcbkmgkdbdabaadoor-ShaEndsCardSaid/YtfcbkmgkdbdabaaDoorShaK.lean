/- The chapter's example; the program's constants are the reference's. -/
import Derived.Test.YtfcbkmgkdbdabaaDoorShaJ
import Derived.Test.YtfcbkmgkdbdabaaDoorShaE
import Derived.Lib.SlBytesConst
namespace Go.Proofs.YtfcbkmgkdbdabaaDoor
open Go.RowKit

theorem hL_iv : hL = iv := by unfold hL; rfl
theorem abc_at : [0, 1, 2, 30, 31].map (rd (shaF kL [97#8, 98#8, 99#8])) = [186#8, 120#8, 22#8, 21#8, 173#8] := by decide +kernel
theorem kL_length : kL.length = 64 := by unfold kL; rfl

set_option maxRecDepth 100000 in
set_option maxHeartbeats 8000000 in
theorem fixed_ (K : List (BitVec 32)) (w : World) (hK : K.length = 64) (hh : [0, 1, 2, 30, 31].map (rd (shaF K [97#8, 98#8, 99#8])) = [186#8, 120#8, 22#8, 21#8, 173#8]) (h0 : 0 < w.heap.size) (hT : Cells U32 w 0 0 K) :
    Calls Tryd.prog 5 #[] w fun e w' => e = .returned (.bool true) ∧ Below w.heap.size w w' := by
  go_enter Tryd.func5, Tryd.ntmps5
  have hcv := Go.Lib.run_convert_bytes_const (P := Tryd.prog) w 22 5 #[.int .u8 97, .int .u8 98, .int .u8 99] 3 3 Tryd.underlying22 Tryd.underlying5
  have hcl : Cells U8 (w.alloc (.cells #[.int .u8 97, .int .u8 98, .int .u8 99] 5 (3, 4))) w.heap.size 0 [97#8, 98#8, 99#8] := by
    have hb : (w.alloc (.cells #[.int .u8 97, .int .u8 98, .int .u8 99] 5 (3, 4))).heap[w.heap.size]? = some (.cells #[.int .u8 97, .int .u8 98, .int .u8 99] 5 (3, 4)) := heap_alloc_new w _
    generalize w.alloc (.cells #[.int .u8 97, .int .u8 98, .int .u8 99] 5 (3, 4)) = W at hb
    intro i x hx
    match i, hx with
    | 0, hx => obtain rfl : 97#8 = x := by simpa using hx
               unfold World.cell?; rw [hb]; rfl
    | 1, hx => obtain rfl : 98#8 = x := by simpa using hx
               unfold World.cell?; rw [hb]; rfl
    | 2, hx => obtain rfl : 99#8 = x := by simpa using hx
               unfold World.cell?; rw [hb]; rfl
    | n + 3, hx => simp at hx
  have hB0 : Below w.heap.size w (w.alloc (.cells #[.int .u8 97, .int .u8 98, .int .u8 99] 5 (3, 4))) := (Below.refl w.heap.size w).alloc (Nat.le_refl _) _
  have hz0 : w.heap.size < (w.alloc (.cells #[.int .u8 97, .int .u8 98, .int .u8 99] 5 (3, 4))).heap.size := by simp
  have Hh := (show Hid _ from hh)
  clear hh
  go_upto_region 1 with (fail)
  go_wp2_with fail
  refine Made.use (sha_Sum K [97#8, 98#8, 99#8] (some ⟨w.heap.size, 0, none⟩) 3 _ hK (by decide) (by decide) (fun _ => ⟨w.heap.size, 0, rfl, hz0, hcl⟩) (by omega) (hT.below hB0 h0)) ?_
  intro w1 hB1
  dsimp only
  iterate 4 go_step
  have hln : (shaF K [97#8, 98#8, 99#8]).length = 32 := by unfold shaF; exact outS_len _ _
  refine store_put (f := U8) (n := 32) rfl 30 _ _ rfl rfl rfl (Blk.new w1 30 (row U8 (List.replicate 32 0#8))) (by kernel_rfl) hln rfl (fun _ => rfl) ?_
  intro w2 p2
  have b2 := p2.blk
  have hB2 := p2.below ((hB0.trans (hB1.mono (by omega))).alloc (by have := hB1.size; omega) _) (by have := hB1.size; omega)
  clear p2 hcv hcl
  generalize shaF K [97#8, 98#8, 99#8] = h at *
  obtain ⟨g0, g1, g2, g3, g4⟩ : rd h 0 = 186#8 ∧ rd h 1 = 120#8 ∧ rd h 2 = 22#8 ∧ rd h 30 = 21#8 ∧ rd h 31 = 173#8 := by simpa using Hh.out
  have c0 : w2.cell? ⟨w1.heap.size, 0, none⟩ = some (.int .u8 186) := by rw [b2.rd8 (i := 0) (by omega), g0]; rfl
  have c1 : w2.cell? ⟨w1.heap.size, 1, none⟩ = some (.int .u8 120) := by rw [b2.rd8 (i := 1) (by omega), g1]; rfl
  have c2 : w2.cell? ⟨w1.heap.size, 2, none⟩ = some (.int .u8 22) := by rw [b2.rd8 (i := 2) (by omega), g2]; rfl
  have c3 : w2.cell? ⟨w1.heap.size, 30, none⟩ = some (.int .u8 21) := by rw [b2.rd8 (i := 30) (by omega), g3]; rfl
  have c4 : w2.cell? ⟨w1.heap.size, 31, none⟩ = some (.int .u8 173) := by rw [b2.rd8 (i := 31) (by omega), g4]; rfl
  clear g0 g1 g2 g3 g4 b2 hln hB0 hB1 hz0
  go_wp2
  go_ret
  exact ⟨rfl, hB2⟩
theorem fixed (w : World) (h0 : 0 < w.heap.size) (hT : Cells U32 w 0 0 kL) : Calls Tryd.prog 5 #[] w fun e w' => e = .returned (.bool true) ∧ Below w.heap.size w w' :=
  fixed_ kL w kL_length abc_at h0 hT
end Go.Proofs.YtfcbkmgkdbdabaaDoor
