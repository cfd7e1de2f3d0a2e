/- The walks of the program's package sha: down, numbers, block. -/
import Derived.Test.YtfcbkmgkdbdabaaDoorPlan
namespace Go.Proofs.YtfcbkmgkdbdabaaDoor
open Go.RowKit

def rotl32 (x : BitVec 32) (k : Int) : BitVec 32 := x <<< (BitVec.ofInt 64 k &&& 31#64).toNat ||| x >>> (32#64 - (BitVec.ofInt 64 k &&& 31#64)).toNat
theorem rot32 (x : BitVec 32) (k : Int) (w : World) : Pure Tryd.prog 20 #[U32 x, .int .i64 k] w (U32 (rotl32 x k)) := by
  go_enter Tryd.func20, Tryd.ntmps20
  go_wp2
  go_ret
  exact ⟨rfl, rfl⟩
theorem sha_down (x : BitVec 32) (k : Int) (h : 0 ≤ k ∧ k ≤ 100) (w : World) : Pure Tryd.prog 16 #[U32 x, .int .i64 k] w (U32 (rotl32 x (-k))) := by
  go_enter Tryd.func16, Tryd.ntmps16
  go_wp2_with (go_at_call 20; refine Pure.use (rot32 _ _ _) ?_)
  go_ret
  exact ⟨rfl, rfl⟩

def numL (bs : List (BitVec 8)) : Nat → List (BitVec 32)
  | 0 => List.replicate 64 0#32
  | k + 1 => (numL bs k).set (k / 4) (rd (numL bs k) (k / 4) <<< 8 ||| (rd bs k).setWidth 32)
theorem numL_len (bs : List (BitVec 8)) : ∀ k, (numL bs k).length = 64
  | 0 => rfl
  | k + 1 => by rw [numL, List.length_set, numL_len bs k]
def nextN (v : List (BitVec 32)) (j : Nat) : BitVec 32 :=
  rd v j + rd v (16 + j - 7) + (rotl32 (rd v (16 + j - 15)) (-7) ^^^ rotl32 (rd v (16 + j - 15)) (-18) ^^^ rd v (16 + j - 15) >>> 3) + (rotl32 (rd v (16 + j - 2)) (-17) ^^^ rotl32 (rd v (16 + j - 2)) (-19) ^^^ rd v (16 + j - 2) >>> 10)
def numS (v0 : List (BitVec 32)) : Nat → List (BitVec 32)
  | 0 => v0
  | j + 1 => (numS v0 j).set (16 + j) (nextN (numS v0 j) j)
theorem numS_len (v0 : List (BitVec 32)) : ∀ k, (numS v0 k).length = v0.length
  | 0 => rfl
  | k + 1 => by rw [numS, List.length_set, numS_len v0 k]
/-- The 64 numbers of a block. -/
@[irreducible] def numF (bs : List (BitVec 8)) : List (BitVec 32) := numS (numL bs 64) 48
theorem numF_len (bs : List (BitVec 8)) : (numF bs).length = 64 := by unfold numF; rw [numS_len, numL_len]

theorem sha_numbers (bs : List (BitVec 8)) (b o c : Nat) (w : World) (hl : bs.length = 64) (hb : b < w.heap.size) (hr : Cells U8 w b o bs) :
    Made Tryd.prog 15 #[.slice (some ⟨b, o, none⟩) 64 c] w (.agg (row U32 (numF bs))) := by
  go_enter Tryd.func15, Tryd.ntmps15
  go_wp2
  go_loopg [11] 64 (fun k i wr => ∃ j : Nat, j + k = 64 ∧ i = .int .i64 j ∧ Blk wr w.heap.size 25 (row U32 (List.replicate 64 0#32)) ∧ Blk wr (w.heap.size + 1) 25 (row U32 (numL bs j)) ∧ Below w.heap.size w wr)
  case atStart =>
    exact ⟨0, rfl, rfl, (Blk.new w _ _).alloc _, Blk.new' _ _ _ (by simp), ((Below.refl _ _).alloc (Nat.le_refl _) _).alloc (by simp) _⟩
  case round =>
    obtain ⟨j, hj, rfl, h1, h2, hB⟩ := hrel
    have hlen := numL_len bs j
    by_cases hlt : j < 64
    · have c1 := (hr.below hB hb).at8 (i := j) (by omega)
      have c2 := h2.rd32 (i := j / 4) (by omega)
      have f2 := h2.free (j / 4)
      have H : Hid (j + gk = 64 ∧ bs.length = 64 ∧ (numL bs j).length = 64) := ⟨hj, hl, hlen⟩
      have hgk : 0 < gk := by omega
      clear hl hlen hj hr
      go_wp2
      go_roundg (gk - 1)
      case measure => omega
      case rel =>
        obtain ⟨hj, hl, hlen⟩ := H.out
        exact ⟨j + 1, by omega, by go_num, h1.far (by simp) _, h2.set_ _ _, hB.setCell (by simp) _⟩
    · obtain rfl : j = 64 := by omega
      have H : Hid (64 + gk = 64 ∧ bs.length = 64 ∧ (numL bs 64).length = 64) := ⟨hj, hl, hlen⟩
      clear hl hlen hj hr
      go_wp2
      go_loopg [6] 48 (fun k i wr => ∃ j : Nat, j + k = 48 ∧ i = .int .i64 ((16 + j : Nat) : Int) ∧ Blk wr w.heap.size 25 (row U32 (List.replicate 64 0#32)) ∧ Blk wr (w.heap.size + 1) 25 (row U32 (numS (numL bs 64) j)) ∧ Below w.heap.size w wr)
      case atStart => exact ⟨0, rfl, rfl, h1, h2, hB⟩
      case round =>
        clear h1 h2 hB
        obtain ⟨j, hj, rfl, h1, h2, hB⟩ := hrel
        have hlen : (numS (numL bs 64) j).length = 64 := by rw [numS_len, numL_len]
        by_cases hlt : j < 48
        · have c1 := h2.rd32 (i := 16 + j - 15) (by omega)
          have c2 := h2.rd32 (i := 16 + j - 2) (by omega)
          have H' : Hid (j + gk = 48 ∧ (numS (numL bs 64) j).length = 64) := ⟨hj, hlen⟩
          have hgk : 0 < gk := by omega
          clear hlen hj
          go_wp2
          go_quiet (fail)
          go_wp2
          clear c1 c2
          replace h1 := Blk.drewN h1 nq
          replace h2 := Blk.drewN h2 nq
          replace hB := below_drewN hB nq
          generalize wr.drewN nq = wq at h1 h2 hB ⊢
          have hlen := H'.out.2
          have e1 := Ext.cell (h2.rd32 (i := 16 + j - 15) (by omega))
          have e2 := Ext.cell (h2.rd32 (i := 16 + j - 2) (by omega))
          have e3 := Ext.cell (h2.rd32 (i := j) (by omega))
          have e4 := Ext.cell (h2.rd32 (i := 16 + j - 7) (by omega))
          have e5 := h2.rd32 (i := 16 + j) (by omega)
          have g4 := h2.free (16 + j)
          clear hlen
          have hCq := Ext.drew wq
          refine wp_plan (Ext wq) [29] [(0, true), (1, true), (2, true), (3, true), (4, true), (5, true), (6, true), (7, true), (8, true), (9, true), (10, true), (11, true), (12, true), (13, true), (14, true), (15, true), (16, true), (17, true), (18, true), (19, true), (20, true), (21, true), (22, true), (23, true), (24, true), (25, true), (26, true), (27, true), (28, true), (29, false)] (by kernel_rfl) (by kernel_rfl) (fun ops hops => ?_)
          dsimp only [zipPlan, pickOp]
          iterate 29 (refine plan_still _ rfl rfl rfl hCq ?_; apply Exists.intro; refine ⟨fun W hW K N hK => ?_, ?_, ?_⟩; (· (go_step; first | exact hK | (refine Pure.use (sha_down _ _ ?_ _) ?_; (· omega); exact hK) | (repeat go_step; exact hK))); (· rfl))
          refine plan_effect true rfl rfl ?_
          go_wp2
          refine Eff.wild (plan_nil ?_)
          go_wp2
          go_roundg (gk - 1)
          case measure => omega
          case rel =>
            obtain ⟨hj, hlen⟩ := H'.out
            exact ⟨j + 1, by omega, by go_num, h1.drew.far (by simp) _, h2.drew.set_ _ _, hB.drew.setCell (by simp) _⟩
        · obtain rfl : j = 48 := by omega
          have hz : (row U32 (List.replicate 64 0#32)).size = 64 := rfl
          have Hn : Hid ((numS (numL bs 64) 48).length = 64) := hlen
          have Hz : Hid ((row U32 (List.replicate 64 0#32)).size = 64) := hz
          clear hlen hj hz
          go_wp2_with (first | (refine load_blk rfl 25 _ rfl rfl h2 Tryd.underlying25 (by kernel_rfl) Hn.out ?_) | (refine store_blk rfl 25 _ _ rfl rfl rfl h1 (by kernel_rfl) Hn.out Hz.out (fun _ => rfl) ?_))
          unfold numF
          exact ret_blk rfl rfl h1.setRow Tryd.underlying25 (by kernel_rfl) Hn.out rfl ⟨rfl, below_setRow hB (by simp)⟩

/-- One round. -/
@[irreducible] def rndF (k n : BitVec 32) (v : List (BitVec 32)) : List (BitVec 32) :=
  let a := rd v 0
  let e := rd v 4
  let t := rd v 7 + (rotl32 e (-6) ^^^ rotl32 e (-11) ^^^ rotl32 e (-25)) + (e &&& rd v 5 ^^^ ~~~ e &&& rd v 6) + k + n
  let u := rotl32 a (-2) ^^^ rotl32 a (-13) ^^^ rotl32 a (-22)
  let u := u + (a &&& rd v 1 ^^^ a &&& rd v 2 ^^^ rd v 1 &&& rd v 2)
  [t + u, a, rd v 1, rd v 2, rd v 3 + t, e, rd v 5, rd v 6]
def rndS (K ns : List (BitVec 32)) (v : List (BitVec 32)) : Nat → List (BitVec 32)
  | 0 => v
  | j + 1 => rndF (rd K j) (rd ns j) (rndS K ns v j)
theorem rndS_len (K ns v : List (BitVec 32)) (h : v.length = 8) : ∀ j, (rndS K ns v j).length = 8
  | 0 => h
  | _ + 1 => by unfold rndS rndF; rfl
def addS (v : List (BitVec 32)) (s : List (BitVec 32)) : Nat → List (BitVec 32)
  | 0 => s
  | j + 1 => (addS v s j).set j (rd (addS v s j) j + rd v j)
theorem addS_len (v s : List (BitVec 32)) : ∀ j, (addS v s j).length = s.length
  | 0 => rfl
  | j + 1 => by rw [addS, List.length_set, addS_len v s j]
@[irreducible] def blockF (K s : List (BitVec 32)) (bs : List (BitVec 8)) : List (BitVec 32) := addS (rndS K (numF bs) s 64) s 8
theorem blockF_len (K s : List (BitVec 32)) (bs : List (BitVec 8)) : (blockF K s bs).length = s.length := by unfold blockF; exact addS_len _ _ _

end Go.Proofs.YtfcbkmgkdbdabaaDoor
