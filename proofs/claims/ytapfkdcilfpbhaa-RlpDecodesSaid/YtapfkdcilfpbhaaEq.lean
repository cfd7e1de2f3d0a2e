/- A row is equal to itself; the string of a slice of bytes. -/
import Derived.Test.YtapfkdcilfpbhaaArr
import Derived.ChangeKeysEq
import Derived.Laws.BytesString
namespace Go.Proofs.Ytapfkdcilfpbhaa
open Go.RowKit
set_option linter.unusedVariables false
set_option linter.unusedSimpArgs false

section
variable {P : Program} {w : World}
theorem eqItems_self {α : Type} {f : α → Value} {k k' : IntKind} (d : Nat) {e : TypeId} (he : P.plainKey e = true) (hu : P.underlying e = some (.int k')) (hc : P.cellsOf e = 1) (hf : ∀ x, ∃ n, f x = .int k n) (xs : List α) :
    ∀ is : List Nat, (∀ i ∈ is, i < xs.length) → (Op.eqItems (d + 1) e (P.cellsOf e) (row f xs) (row f xs) is).run P w = .ok true w
  | [], _ => by simp [Op.eqItems]
  | i :: is, h => by
    have hi : i < xs.length := h i (by simp)
    obtain ⟨n, hn⟩ := hf xs[i]
    have hx : (row f xs)[i * P.cellsOf e]? = some (.int k n) := by
      rw [hc, Nat.mul_one]; simp [row, List.getElem?_eq_getElem hi, hn]
    have ih := eqItems_self d he hu hc hf xs is (fun j hj => h j (by simp [hj]))
    simp only [Op.eqItems, Sem.run_bind, run_part_plain (w := w) he hx, Result.andThen_ok, run_equalIn_int w d e k k' n n hu]
    simpa using ih
theorem eq_row {α : Type} {f : α → Value} {k k' : IntKind} {t e : TypeId} {n : Nat} {i : TypeInfo} (hu : P.underlying t = some (.array n e)) (hi : P.info? e = some i) (he : P.plainKey e = true) (hue : P.underlying e = some (.int k')) (hc : P.cellsOf e = 1)
    (hf : ∀ x, ∃ n, f x = .int k n) (xs : List α) (hl : xs.length = n) : (binOp .eql t (.agg (row f xs)) (.agg (row f xs))).run P w = .ok (.bool true) w := by
  rw [run_eql_struct, run_equalIn_array w 9999 _ _ hu hi, eqItems_self 9998 he hue hc hf xs (List.range n) (fun j hj => by rw [hl]; simpa using hj)]
  rfl

def strOf (bs : List (BitVec 8)) : ByteArray := (bs.map fun b => (b.toNat : Int)).foldl (fun r n => r.push (UInt8.ofNat n.toNat)) ByteArray.empty
theorem conv_str {src dst e : TypeId} (hs : P.underlying src = some (.slice e)) (he : P.underlying e = some (.int .u8)) (hd : P.underlying dst = some .string) {A : Option Addr} {B c : Nat} {bs : List (BitVec 8)} (h : Sl U8 w B A bs) (hA : A = none → c = 0) (hc : bs.length ≤ c) :
    (convert src dst (.slice A bs.length c)).run P w = .ok (.string (strOf bs)) w := by
  rw [run_convert_bytes_string w src dst e A bs.length c hs he hd]
  cases A with
  | none =>
    have h0 : bs = [] := List.eq_nil_of_length_eq_zero (by have := hA rfl; omega)
    subst h0
    have := hA rfl
    subst this
    first | rfl | simp [Conv.bytesToString, strOf]
  | some a =>
    have hn : bs.map U8 = (bs.map fun b => (b.toNat : Int)).map (Value.int .u8) := by rw [List.map_map]; rfl
    refine run_bytesToString w a bs.length c _ ?_
    rw [← hn]
    by_cases h0 : 0 < bs.length
    · obtain ⟨b, o, ha, _, hcl⟩ := h h0
      obtain rfl := Option.some.inj ha
      have h1 := run_loadCells_list (P := P) (w := w) ⟨b, o, none⟩ (bs.map U8) (fun j v hv => by
        rw [List.getElem?_map] at hv
        obtain ⟨x, hx, rfl⟩ := Option.map_eq_some_iff.mp hv
        rw [Addr.add_lit]; exact hcl j x hx)
      simpa using h1
    · have e0 : bs = [] := List.eq_nil_of_length_eq_zero (by omega)
      subst e0
      have h1 := run_loadCells_list (P := P) (w := w) a [] (fun j v hv => by simp at hv)
      simpa using h1
end
end Go.Proofs.Ytapfkdcilfpbhaa
