/- The logic: what walk.py leans on besides. -/
import Derived.Test.YtapfkdcilfpbhaaTs
import Derived.ChangeKeysEq
namespace Go.Proofs.Ytapfkdcilfpbhaa
open Go.RowKit
set_option linter.unusedVariables false
set_option linter.unusedSimpArgs false
section
variable {P : Program} {n : Nat} {S : List (Nat × Value)} {M : World → Prop} {o : Oper}
theorem val_idxS0 {t e : TypeId} {x y : Operand} {A : Option Addr} {b q0 N c k : Nat} {kk : IntKind} {q : Int} (ho : o.op = .indexAddr t x y) (hx : ev S x = some (.slice A N c)) (hy : ev S y = some (.int kk q)) (hu : P.underlying t = some (.slice e)) (hs : (P.info? e).map (·.size) = some 1) (hq : 0 ≤ q ∧ q < N) (hA : A = some ⟨b, q0, none⟩) (hk : q.toNat = k) :
    Val P n S M o (.pointer (some ⟨b, q0 + k, none⟩)) := by
  subst hA
  have := val_idxS (M := M) (n := n) ho hx hy hu hs hq
  rw [Nat.mul_one, hk, Addr.add_mid] at this
  exact this
end
section
variable {P : Program} {n : Nat} {S : List (Nat × Value)} {M : World → Prop} {o : Oper}
theorem val_idxS1 {t e : TypeId} {x y : Operand} {A : Option Addr} {b N c k : Nat} {kk : IntKind} {q : Int} (ho : o.op = .indexAddr t x y) (hx : ev S x = some (.slice A N c)) (hy : ev S y = some (.int kk q)) (hu : P.underlying t = some (.slice e)) (hs : (P.info? e).map (·.size) = some 1) (hq : 0 ≤ q ∧ q < N) (hA : A = some ⟨b, 0, none⟩) (hk : q.toNat = k) :
    Val P n S M o (.pointer (some ⟨b, k, none⟩)) := by
  have := val_idxS0 (M := M) (n := n) ho hx hy hu hs hq hA hk
  rwa [Nat.zero_add] at this
end
/-- A package-level table, in sealed memory; in a world. -/
def TabH {α : Type} {N : Nat} (h : Frag) (g : Nat) (f : α → Value) (T : Vec α N) : Prop := ∀ (i : Nat) (v : Value), (cV f T)[i]? = some v → HC h g i v
def TabW {α : Type} {N : Nat} (w : World) (g : Nat) (f : α → Value) (T : Vec α N) : Prop := ∀ (i : Nat) (v : Value), (cV f T)[i]? = some v → w.cell? ⟨g, i, none⟩ = some v
section
variable {α : Type} {N : Nat} {h : Frag} {g : Nat} {f : α → Value} {T : Vec α N} {w0 w w' : World} {Ex : List Nat} {L : List Ent}
theorem TabW.toH (t : TabW w g f T) : TabH (snap w) g f T := fun i v hv => by
  have := t i v hv
  unfold World.cell? at this
  split at this
  · rename_i c ty fz e
    exact ⟨c, ty, fz, e, by simpa using this⟩
  · cases this
theorem TabH.toW (t : TabH h g f T) (m : Mm w0 Ex h L w) : TabW w g f T := fun i v hv => (t i v hv).cell m
theorem TabW.below (t : TabW w g f T) (hb : Below w.heap.size w w') : TabW w' g f T := fun i v hv => by
  rw [hb.cell (p := ⟨g, i, none⟩) (block_lt_of_cell (t i v hv))]; exact t i v hv
theorem tab_range (t : TabH h g f T) (m : Mm w0 Ex h L w) : w.rangeAt g 0 (cV f T) := fun i v hv => by rw [Nat.zero_add]; exact (t i v hv).cell m
theorem tab_cell [Inhabited α] (t : TabH h g f T) (m : Mm w0 Ex h L w) {i : Nat} (hi : i < N) : w.cell? ⟨g, i, none⟩ = some (f (T.get i)) := (t i _ (cV_at T hi)).cell m
end
section
variable {P : Program} {α : Type} [BEq α] [LawfulBEq α] {N : Nat} {f : α → Value}
/-- Rows of numbers, equal or not. -/
theorem run_eqItems {k k' : IntKind} {e : TypeId} (hf : ∀ x, ∃ q, f x = .int k q) (hinj : ∀ x y, f x = f y → x = y) (d : Nat) (he : P.plainKey e = true) (hu : P.underlying e = some (.int k')) (hc : P.cellsOf e = 1) (w : World) (x y : Vec α N) :
    ∀ is : List Nat, (∀ i ∈ is, i < N) → (Op.eqItems (d + 1) e (P.cellsOf e) (cV f x).toArray (cV f y).toArray is).run P w = .ok (is.all fun i => x.l[i]? == y.l[i]?) w
  | [], _ => by simp [Op.eqItems]
  | i :: is, h => by
    have hi : i < N := h i (by simp)
    have hx : x.l[i]? = some (x.l[i]'(by rw [x.hl]; exact hi)) := by simp
    have hy : y.l[i]? = some (y.l[i]'(by rw [y.hl]; exact hi)) := by simp
    generalize x.l[i]'(by rw [x.hl]; exact hi) = a at hx
    generalize y.l[i]'(by rw [y.hl]; exact hi) = b at hy
    obtain ⟨p, hp⟩ := hf a
    obtain ⟨q, hq⟩ := hf b
    have ex : (cV f x).toArray[i * P.cellsOf e]? = some (.int k p) := by rw [hc, Nat.mul_one]; simp [cV, hx, hp]
    have ey : (cV f y).toArray[i * P.cellsOf e]? = some (.int k q) := by rw [hc, Nat.mul_one]; simp [cV, hy, hq]
    have ih := run_eqItems hf hinj d he hu hc w x y is (fun j hj => h j (by simp [hj]))
    have hab : (a == b) = (p == q) := by
      rw [Bool.eq_iff_iff]
      simp only [beq_iff_eq]
      constructor
      · intro h; subst h; rw [hp] at hq; injection hq
      · intro h; subst h; exact hinj a b (hp.trans hq.symm)
    simp only [Op.eqItems, Sem.run_bind, run_part_plain (w := w) he ex, run_part_plain (w := w) he ey, Result.andThen_ok, run_equalIn_int w d e k k' p q hu, List.all_cons, hx, hy]
    rw [show ((some a == some b) : Bool) = (a == b) from rfl, hab]
    cases (p == q)
    · simp
    · simpa using ih
theorem all_range (x y : Vec α N) : ((List.range N).all fun i => x.l[i]? == y.l[i]?) = (x.l == y.l) := by
  rw [Bool.eq_iff_iff]
  simp only [List.all_eq_true, List.mem_range, beq_iff_eq]
  constructor
  · intro h
    apply List.ext_getElem?
    intro i
    by_cases hi : i < N
    · exact h i hi
    · rw [List.getElem?_eq_none (by rw [x.hl]; omega), List.getElem?_eq_none (by rw [y.hl]; omega)]
  · intro h i _; rw [h]
end
section
variable {P : Program} {α : Type} [BEq α] [LawfulBEq α] {N : Nat} {f : α → Value} {k k' : IntKind} {t e : TypeId}
theorem U8_inj : (∀ x : BitVec 8, ∃ q, U8 x = .int .u8 q) ∧ ∀ x y : BitVec 8, U8 x = U8 y → x = y := ⟨fun x => ⟨_, rfl⟩, fun x y h => by unfold U8 at h; injection h with _ h; exact BitVec.eq_of_toNat_eq (by omega)⟩
theorem U32_inj : (∀ x : BitVec 32, ∃ q, U32 x = .int .u32 q) ∧ ∀ x y : BitVec 32, U32 x = U32 y → x = y := ⟨fun x => ⟨_, rfl⟩, fun x y h => by unfold U32 at h; injection h with _ h; exact BitVec.eq_of_toNat_eq (by omega)⟩
theorem U64_inj : (∀ x : BitVec 64, ∃ q, U64 x = .int .u64 q) ∧ ∀ x y : BitVec 64, U64 x = U64 y → x = y := ⟨fun x => ⟨_, rfl⟩, fun x y h => by unfold U64 at h; injection h with _ h; exact BitVec.eq_of_toNat_eq (by omega)⟩
theorem i64_inj : (∀ x : Int, ∃ q, Value.int .i64 x = .int .i64 q) ∧ ∀ x y : Int, Value.int .i64 x = Value.int .i64 y → x = y := ⟨fun x => ⟨_, rfl⟩, fun x y h => by injection h⟩
theorem vec_eql (hf : (∀ x, ∃ q, f x = .int k q) ∧ ∀ x y, f x = f y → x = y) (hu : P.underlying t = some (.array N e)) (he : P.plainKey e = true) (hue : P.underlying e = some (.int k')) (hc : P.cellsOf e = 1) (w : World) (x y : Vec α N) :
    (binOp .eql t (.agg (cV f x).toArray) (.agg (cV f y).toArray)).run P w = .ok (.bool (x.l == y.l)) w := by
  obtain ⟨i, hi⟩ : ∃ i, P.info? e = some i := by
    unfold Program.cellsOf at hc
    cases h : P.info? e with
    | some i => exact ⟨i, rfl⟩
    | none => simp [h] at hc
  rw [run_eql_struct, run_equalIn_array w 9999 _ _ hu hi, run_eqItems hf.1 hf.2 9998 he hue hc w x y (List.range N) (fun j hj => by simpa using hj), all_range]
  rfl
theorem vec_neq (hf : (∀ x, ∃ q, f x = .int k q) ∧ ∀ x y, f x = f y → x = y) (hu : P.underlying t = some (.array N e)) (he : P.plainKey e = true) (hue : P.underlying e = some (.int k')) (hc : P.cellsOf e = 1) (w : World) (x y : Vec α N) :
    (binOp .neq t (.agg (cV f x).toArray) (.agg (cV f y).toArray)).run P w = .ok (.bool (x.l != y.l)) w := by
  obtain ⟨i, hi⟩ : ∃ i, P.info? e = some i := by
    unfold Program.cellsOf at hc
    cases h : P.info? e with
    | some i => exact ⟨i, rfl⟩
    | none => simp [h] at hc
  rw [run_neq_struct, run_equalIn_array w 9999 _ _ hu hi, run_eqItems hf.1 hf.2 9998 he hue hc w x y (List.range N) (fun j hj => by simpa using hj), all_range]
  rfl
theorem conv_i64_i64 {P : Program} (w : World) (src dst : TypeId) (n : Int) (hs : (P.underlying src).isSome = true) (hd : P.underlying dst = some (.int .i64)) : (convert src dst (.int .i64 n)).run P w = .ok (.int .i64 (wi n)) w := by
  have e : P.intKind dst = .i64 := by simp [Program.intKind, hd]
  rw [run_convert_int w src dst _ _ hs (by rw [e]; exact hd), e]; rfl
end
end Go.Proofs.Ytapfkdcilfpbhaa
