/- Words and their bytes: the program's and the document's. -/
import Derived.Test.YtapfkdcilfpbhaaDoorKecE
namespace Go.Proofs.YtapfkdcilfpbhaaDoor
open Go.RowKit
set_option linter.unusedVariables false
set_option linter.unusedSimpArgs false
abbrev Word4 := Vec W64 4
/-- A word's bytes, the greatest first. -/
def bytesW (a : Word4) : Vec B8 32 := ⟨(List.range 32).map fun k => (a.get ((31 - k) / 8) >>> (8 * ((31 - k) % 8))).setWidth 8, by simp⟩
set_option maxRecDepth 100000 in
theorem word_Bytes_eq (a : Word4) : word_Bytes a = some (bytesW a) := by kernel_rfl
def digW (a : Word4) : Vec Int 32 := ⟨(List.range 32).map fun i => IntKind.i64.wrap (((a.get (i / 8) >>> (8 * (i % 8))) % 256#64).toNat : Int), by simp⟩
set_option maxRecDepth 100000 in
theorem ref_Of_eq (a : Word4) : smithyref01_Of a = some (digW a) := by kernel_rfl
def bytesD (d : Vec Int 32) : Vec B8 32 := ⟨(List.range 32).map fun k => BitVec.ofInt 8 (d.get (31 - k)), by simp⟩
set_option maxRecDepth 100000 in
theorem ref_Bytes_eq (d : Vec Int 32) : smithyref01_D_Bytes d = some (bytesD d) := by kernel_rfl
theorem dig_byte (x : W64) : IntKind.i64.wrap ((x % 256#64).toNat : Int) = ((x.setWidth 8).toNat : Int) := by
  have h : (x % 256#64).toNat = (x.setWidth 8).toNat := by
    simp only [BitVec.toNat_setWidth, BitVec.toNat_umod, show (256#64).toNat = 256 from rfl]
  rw [h]
  have := (x.setWidth 8).isLt
  exact IntWalk.i64_in _ (by omega)
theorem Vec.get_map {α : Type} [Inhabited α] {n i : Nat} (f : Nat → α) (h : ((List.range n).map f).length = n) (hi : i < n) : (⟨(List.range n).map f, h⟩ : Vec α n).get i = f i := by
  unfold Vec.get; simp [hi]
theorem digW_get (a : Word4) {i : Nat} (hi : i < 32) : (digW a).get i = (((a.get (i / 8) >>> (8 * (i % 8))).setWidth 8 : B8).toNat : Int) := by
  unfold digW; rw [Vec.get_map _ _ hi, dig_byte]
theorem ofInt_byte (b : B8) : BitVec.ofInt 8 (b.toNat : Int) = b := by simp
theorem bytesD_digW (a : Word4) : bytesD (digW a) = bytesW a := by
  apply Vec.ext
  show List.map _ _ = List.map _ _
  refine List.map_congr_left fun k hk => ?_
  have : k < 32 := by simpa using hk
  rw [digW_get a (by omega), ofInt_byte]
/-- The word whose bytes these are. -/
def limbN (y : Nat → Nat) : Nat := y 0 + 256 * (y 1 + 256 * (y 2 + 256 * (y 3 + 256 * (y 4 + 256 * (y 5 + 256 * (y 6 + 256 * y 7))))))
def limbV (y : Vec B8 32) (i : Nat) : W64 := BitVec.ofNat 64 (limbN fun j => (y.get (31 - (8 * i + j))).toNat)
def wordV (y : Vec B8 32) : Word4 := ⟨[limbV y 0, limbV y 1, limbV y 2, limbV y 3], rfl⟩
def limbO (y : Nat → B8) : W64 := ((((((((0#64 ||| ((y 0).setWidth 64 <<< 0)) ||| ((y 1).setWidth 64 <<< 8)) ||| ((y 2).setWidth 64 <<< 16)) ||| ((y 3).setWidth 64 <<< 24)) ||| ((y 4).setWidth 64 <<< 32)) ||| ((y 5).setWidth 64 <<< 40)) ||| ((y 6).setWidth 64 <<< 48)) ||| ((y 7).setWidth 64 <<< 56))
def limbH (y : Nat → Int) : W64 := (((((((0#64 * 256#64 + BitVec.ofInt 64 (y 7)) * 256#64 + BitVec.ofInt 64 (y 6)) * 256#64 + BitVec.ofInt 64 (y 5)) * 256#64 + BitVec.ofInt 64 (y 4)) * 256#64 + BitVec.ofInt 64 (y 3)) * 256#64 + BitVec.ofInt 64 (y 2)) * 256#64 + BitVec.ofInt 64 (y 1)) * 256#64 + BitVec.ofInt 64 (y 0)
set_option maxRecDepth 100000 in
theorem From_loop (y : Vec B8 32) : wlx (σ := (Vec (BitVec 64) 4) × (Int)) (fun s => word_From.b1 y s.1 s.2) ((Vec.rep 4 0#64), 0) = some (.inl (⟨[limbO fun j => y.get (31 - (8 * 0 + j)), limbO fun j => y.get (31 - (8 * 1 + j)), limbO fun j => y.get (31 - (8 * 2 + j)), limbO fun j => y.get (31 - (8 * 3 + j))], rfl⟩, 4)) := by kernel_rfl
set_option maxRecDepth 100000 in
theorem ref_Word_loop (d : Vec Int 32) : smithyref01_D_Word d = some ⟨[limbH fun j => d.get (8 * 0 + j), limbH fun j => d.get (8 * 1 + j), limbH fun j => d.get (8 * 2 + j), limbH fun j => d.get (8 * 3 + j)], rfl⟩ := by kernel_rfl
theorem or_step (x : W64) (b : B8) (j : Nat) (hj : j ≤ 56) (hx : x.toNat < 2 ^ j) : (x ||| (b.setWidth 64 <<< j)).toNat = x.toNat + b.toNat * 2 ^ j := by
  have hb := b.isLt
  have h1 : (b.setWidth 64 <<< j).toNat = b.toNat * 2 ^ j := by
    have h2 : b.toNat * 2 ^ j < 2 ^ 64 := by
      have : b.toNat * 2 ^ j < 2 ^ 8 * 2 ^ j := Nat.mul_lt_mul_of_pos_right hb (Nat.two_pow_pos j)
      have h3 : 2 ^ 8 * 2 ^ j ≤ 2 ^ 64 := by rw [← Nat.pow_add]; exact Nat.pow_le_pow_right (by omega) (by omega)
      omega
    simp only [BitVec.toNat_shiftLeft, BitVec.toNat_setWidth, Nat.shiftLeft_eq]
    rw [Nat.mod_eq_of_lt (show b.toNat < 2 ^ 64 by omega), Nat.mod_eq_of_lt h2]
  rw [BitVec.toNat_or, h1, Nat.or_comm, ← Nat.shiftLeft_eq, ← Nat.shiftLeft_add_eq_or_of_lt hx, Nat.add_comm]
theorem limbO_eq (y : Nat → B8) : limbO y = BitVec.ofNat 64 (limbN fun j => (y j).toNat) := by
  have h0 := (y 0).isLt
  have h1 := (y 1).isLt
  have h2 := (y 2).isLt
  have h3 := (y 3).isLt
  have h4 := (y 4).isLt
  have h5 := (y 5).isLt
  have h6 := (y 6).isLt
  have h7 := (y 7).isLt
  apply BitVec.eq_of_toNat_eq
  unfold limbO limbN
  dsimp only
  have e0 := or_step 0#64 (y 0) 0 (by omega) (by simp)
  have z0 : (0#64).toNat = 0 := rfl
  have e1 := or_step _ (y 1) 8 (by omega) (show (0#64 ||| ((y 0).setWidth 64 <<< 0)).toNat < 2 ^ 8 by omega)
  have e2 := or_step _ (y 2) 16 (by omega) (show ((0#64 ||| ((y 0).setWidth 64 <<< 0)) ||| ((y 1).setWidth 64 <<< 8)).toNat < 2 ^ 16 by omega)
  have e3 := or_step (((0#64 ||| ((y 0).setWidth 64 <<< 0)) ||| ((y 1).setWidth 64 <<< 8)) ||| ((y 2).setWidth 64 <<< 16)) (y 3) 24 (by omega) (by omega)
  have e4 := or_step ((((0#64 ||| ((y 0).setWidth 64 <<< 0)) ||| ((y 1).setWidth 64 <<< 8)) ||| ((y 2).setWidth 64 <<< 16)) ||| ((y 3).setWidth 64 <<< 24)) (y 4) 32 (by omega) (by omega)
  have e5 := or_step (((((0#64 ||| ((y 0).setWidth 64 <<< 0)) ||| ((y 1).setWidth 64 <<< 8)) ||| ((y 2).setWidth 64 <<< 16)) ||| ((y 3).setWidth 64 <<< 24)) ||| ((y 4).setWidth 64 <<< 32)) (y 5) 40 (by omega) (by omega)
  have e6 := or_step ((((((0#64 ||| ((y 0).setWidth 64 <<< 0)) ||| ((y 1).setWidth 64 <<< 8)) ||| ((y 2).setWidth 64 <<< 16)) ||| ((y 3).setWidth 64 <<< 24)) ||| ((y 4).setWidth 64 <<< 32)) ||| ((y 5).setWidth 64 <<< 40)) (y 6) 48 (by omega) (by omega)
  have e7 := or_step (((((((0#64 ||| ((y 0).setWidth 64 <<< 0)) ||| ((y 1).setWidth 64 <<< 8)) ||| ((y 2).setWidth 64 <<< 16)) ||| ((y 3).setWidth 64 <<< 24)) ||| ((y 4).setWidth 64 <<< 32)) ||| ((y 5).setWidth 64 <<< 40)) ||| ((y 6).setWidth 64 <<< 48)) (y 7) 56 (by omega) (by omega)
  rw [BitVec.toNat_ofNat, Nat.mod_eq_of_lt (by omega)]
  omega
theorem limbH_eq (y : Nat → B8) : limbH (fun j => ((y j).toNat : Int)) = BitVec.ofNat 64 (limbN fun j => (y j).toNat) := by
  have hof : ∀ b : B8, (BitVec.ofInt 64 (b.toNat : Int)) = BitVec.ofNat 64 b.toNat := fun b => by simp
  apply BitVec.eq_of_toNat_eq
  unfold limbH limbN
  simp only [hof, BitVec.toNat_add, BitVec.toNat_mul, BitVec.toNat_ofNat]
  have h0 := (y 0).isLt
  have h1 := (y 1).isLt
  have h2 := (y 2).isLt
  have h3 := (y 3).isLt
  have h4 := (y 4).isLt
  have h5 := (y 5).isLt
  have h6 := (y 6).isLt
  have h7 := (y 7).isLt
  omega
theorem From_loop_eq (y : Vec B8 32) : wlx (σ := (Vec (BitVec 64) 4) × (Int)) (fun s => word_From.b1 y s.1 s.2) ((Vec.rep 4 0#64), 0) = some (.inl (wordV y, 4)) := by
  rw [From_loop]
  simp only [limbO_eq]
  rfl
theorem ref_Word_eq (y : Vec B8 32) (d : Vec Int 32) (h : ∀ i, i < 32 → d.get i = ((y.get (31 - i)).toNat : Int)) : smithyref01_D_Word d = some (wordV y) := by
  rw [ref_Word_loop]
  have e : ∀ k, k < 4 → (limbH fun j => d.get (8 * k + j)) = limbV y k := fun k hk => by
    unfold limbV
    rw [← limbH_eq fun j => y.get (31 - (8 * k + j))]
    unfold limbH
    dsimp only
    rw [h (8 * k + 7) (by omega), h (8 * k + 6) (by omega), h (8 * k + 5) (by omega), h (8 * k + 4) (by omega), h (8 * k + 3) (by omega), h (8 * k + 2) (by omega), h (8 * k + 1) (by omega), h (8 * k + 0) (by omega)]
  rw [e 0 (by omega), e 1 (by omega), e 2 (by omega), e 3 (by omega)]
  rfl
end Go.Proofs.YtapfkdcilfpbhaaDoor
