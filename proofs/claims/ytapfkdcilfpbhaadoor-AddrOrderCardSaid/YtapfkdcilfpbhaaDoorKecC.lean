/- keccak's sponge: the program's and the document's. -/
import Derived.Test.YtapfkdcilfpbhaaDoorKecB
namespace Go.Proofs.YtapfkdcilfpbhaaDoor
open Go.RowKit
set_option linter.unusedVariables false
set_option linter.unusedSimpArgs false
abbrev B8 := BitVec 8
theorem Chk_ok {β : Type} {c : Prop} {inst : Decidable c} (h : c) (x : Option β) : @Chk β c inst x = x := if_pos h
def xorB (s : Vec W64 25) (r : Nat) (b : B8) : Vec W64 25 := s.set (r / 8) (s.get (r / 8) ^^^ (b.setWidth 64 <<< (8 * (r % 8))))
def xorF (s : Vec W64 25) (f : Nat → B8) : Nat → Vec W64 25
  | 0 => s
  | i + 1 => xorB (xorF s f i) i (f i)
def spF (f : Nat → B8) : Nat → Vec W64 25
  | 0 => Vec.rep 25 0#64
  | j + 1 => turnV (xorF (spF f j) (fun i => f (136 * j + i)) 136)
theorem xorF_congr {s : Vec W64 25} {f g : Nat → B8} : ∀ {n : Nat}, (∀ i, i < n → f i = g i) → xorF s f n = xorF s g n
  | 0, _ => rfl
  | n + 1, h => by unfold xorF; rw [xorF_congr fun i hi => h i (by omega), h n (by omega)]
theorem spF_congr {f g : Nat → B8} : ∀ {n : Nat}, (∀ i, i < 136 * n → f i = g i) → spF f n = spF g n
  | 0, _ => rfl
  | n + 1, h => by
    unfold spF
    rw [spF_congr fun i hi => h i (by omega), xorF_congr fun i hi => h (136 * n + i) (by omega)]
def outV (s : Vec W64 25) : Vec B8 32 := ⟨(List.range 32).map fun i => (s.get (i / 8) >>> (8 * (i % 8))).setWidth 8, by simp⟩
/-- The message, padded. -/
def padF (l : List B8) (i : Nat) : B8 :=
  (if i < l.length then lget l i else if i = l.length then 1#8 else 0#8) ||| (if i = 136 * (l.length / 136) + 135 then 128#8 else 0#8)
def kecV (l : List B8) : Vec B8 32 := outV (spF (padF l) (l.length / 136 + 1))

theorem tdiv_nat (i k : Nat) : Int.tdiv (i : Int) (k : Int) = ((i / k : Nat) : Int) := (Int.ofNat_tdiv i k).symm
theorem tmod_nat (i k : Nat) : Int.tmod (i : Int) (k : Int) = ((i % k : Nat) : Int) := (Int.ofNat_tmod i k).symm
theorem lget_cut {l : List B8} {k m i : Nat} (h : i < m) : lget ((l.drop k).take m) i = lget l (k + i) := by
  unfold lget
  simp only [List.getD_eq_getElem?_getD, List.getElem?_take, h, if_true, List.getElem?_drop]
theorem absorb_step {l : List B8} {s : Vec W64 25} {i : Nat} (hi : i < l.length) (hl : l.length ≤ 200) : keccak_absorb.b1 (l.length : Int) l s (i : Int) = some (.next (xorB s i (lget l i), ((i + 1 : Nat) : Int))) := by
  have h1 : decide ((i : Int) < (l.length : Int)) = true := decide_eq_true (by omega)
  have h2 : wi ((i : Int) + 1) = ((i + 1 : Nat) : Int) := by rw [wi_id (by omega)]; omega
  have h3 : wi (Int.tdiv (i : Int) 8) = ((i / 8 : Nat) : Int) := by rw [show (8 : Int) = ((8 : Nat) : Int) from rfl, tdiv_nat]; exact wi_nat (by omega)
  have h4 : wi (Int.tmod (i : Int) 8 * 8) = ((8 * (i % 8) : Nat) : Int) := by rw [show (8 : Int) = ((8 : Nat) : Int) from rfl, tmod_nat, wi_id (by omega)]; omega
  simp only [keccak_absorb.b1, Let_eq, h1, cond_true, Chk_pos (show (0 : Int) ≤ (i : Int) ∧ (i : Int) < (l.length : Int) by omega), Int.toNat_natCast, h2, h3, h4, Chk_pos (int_idx (show i / 8 < 25 by omega)), Chk_pos (Int.natCast_nonneg (8 * (i % 8)))]
  rfl
theorem absorb_eq {l : List B8} {s : Vec W64 25} (hl : l.length ≤ 200) : keccak_absorb constT placesT turnsT s l = some (turnV (xorF s (lget l) l.length)) := by
  have h := wlx_for (b := fun s => keccak_absorb.b1 (l.length : Int) l s.1 s.2) (fun i => (xorF s (lget l) i, (i : Int))) (n := l.length) (s' := (xorF s (lget l) l.length, (l.length : Int))) (fun i hi => absorb_step hi hl) (by
    simp only [keccak_absorb.b1, Let_eq, decide_eq_false (show ¬ (l.length : Int) < (l.length : Int) by omega), cond_false]) (by omega)
  unfold keccak_absorb
  rw [Let_eq]
  have h0 : (s, (0 : Int)) = (fun i : Nat => (xorF s (lget l) i, (i : Int))) 0 := rfl
  rw [h0, h]
  show (keccak_Turn constT placesT turnsT _).bind _ = _
  rw [turn_eq]; rfl
set_option maxRecDepth 100000 in
theorem squeeze_eq (x : Vec W64 25) : wlx (σ := (Vec (BitVec 8) 32) × (Int)) (fun s => keccak_Sum.b2 x s.1 s.2) ((Vec.rep 32 0#8), 0) = some (.inl (⟨(List.range 32).map fun i => (x.get (i / 8) >>> (8 * (i % 8))).setWidth 8, by simp⟩, 32)) := by kernel_rfl
set_option maxRecDepth 100000 in
theorem ref_squeeze_ (x : Vec W64 25) : wlx (σ := (Vec (BitVec 8) 32) × (Int)) (fun s => smithyref05_Sum.b3 x s.1 s.2) ((Vec.rep 32 0#8), 0) = some (.inl (⟨(List.range 32).map fun i => ((x.get (i / 8) >>> (8 * (i % 8))) % 256#64).setWidth 8, by simp⟩, 32)) := by kernel_rfl
theorem ref_squeeze (x : Vec W64 25) : wlx (σ := (Vec (BitVec 8) 32) × (Int)) (fun s => smithyref05_Sum.b3 x s.1 s.2) ((Vec.rep 32 0#8), 0) = some (.inl (outV x, 32)) := by
  rw [ref_squeeze_]
  refine congrArg (fun l => some (Sum.inl (l, (32 : Int)))) (Vec.ext ?_)
  show List.map _ _ = List.map _ _
  refine List.map_congr_left fun i _ => ?_
  apply BitVec.eq_of_toNat_eq
  simp only [BitVec.toNat_setWidth, BitVec.toNat_umod, show (256#64).toNat = 256 from rfl]
  omega
end Go.Proofs.YtapfkdcilfpbhaaDoor
