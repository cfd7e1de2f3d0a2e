/- Calls of functions without a body: comparing bytes, carrying sums. -/
import Derived.Test.YtapfkdcilfpbhaaDoorFree
import Derived.Laws.Externs
import GoSem.Extern.MathBitsCarry
namespace Go.Proofs.YtapfkdcilfpbhaaDoor
open Go.RowKit
set_option linter.unusedVariables false
set_option linter.unusedSimpArgs false
section
variable {P : Program} {n : Nat} {S : List (Nat × Value)} {M : World → Prop} {o : Oper} {v : Value}
theorem val_extern {f : FuncId} {fn : Func} {e : Array Value → Sem Value} {ags : Array Operand} {ts : Array TypeId} {vs : List Value} (ho : o.op = .call { callee := .value (.func f), args := ags, argTypes := ts }) (hf : P.funcs[f]? = some fn) (hname : (fn.name == "runtime.NumGoroutine") = false)
    (hb : fn.body.isNone = true) (hx : Extern.findNext fn = none) (he : Extern.find fn = some e) (hargs : evs S ags.toList = some vs) (hr : ∀ w, M w → (e vs.toArray).run P w = .ok v w) : Val P n S M o v := fun a w ha hm => by
  have hmap : ags.map a.eval = vs.toArray := by
    apply Array.ext'
    rw [Array.toList_map, ha.evals hargs]
  have h1 : (callFunc f vs.toArray).run P w = .ok (.value v) w := by
    rw [run_callFunc_extern hf hname hb hx he, hr w hm]; rfl
  unfold execOp
  simp [ho, resolve, Deferred.ofValue, invoke, Act.eval, hmap, h1]
theorem run_loadBytes {w : World} {b : Nat} : ∀ (bs : List (BitVec 8)) (q : Nat) (acc : ByteArray), (∀ (i : Nat) (x : BitVec 8), bs[i]? = some x → w.cell? ⟨b, q + i, none⟩ = some (U8 x)) →
    (Extern.Bytes.loadBytes ⟨b, q, none⟩ bs.length acc).run P w = .ok ((bs.map fun b => (b.toNat : Int)).foldl (fun r n => r.push (UInt8.ofNat n.toNat)) acc) w
  | [], _, _, _ => by simp [Extern.Bytes.loadBytes]
  | x :: bs, q, acc, h => by
    have h0 := h 0 x rfl
    have ih := run_loadBytes bs (q + 1) (acc.push (UInt8.ofNat x.toNat)) fun i y hy => by
      have := h (i + 1) y (by simpa using hy)
      rw [show q + 1 + i = q + (i + 1) by omega]; exact this
    rw [Nat.add_zero] at h0
    show (Extern.Bytes.loadBytes _ (bs.length + 1) acc).run P w = _
    unfold Extern.Bytes.loadBytes
    simp only [Sem.run_bind, run_load, h0, Result.andThen_ok]
    simpa [U8, Addr.add] using ih
theorem run_bytesOf {w : World} {A : Option Addr} {bs : List (BitVec 8)} (h : SlW w U8 A bs) (c : Nat) : (Extern.Bytes.bytesOf (.slice A bs.length c)).run P w = .ok (strOf bs) w := by
  cases A with
  | none =>
    have h0 : bs = [] := List.eq_nil_of_length_eq_zero (by
      rcases Nat.eq_zero_or_pos bs.length with h1 | h1
      · exact h1
      · obtain ⟨b, o, hA, _⟩ := h h1; cases hA)
    subst h0
    rfl
  | some a =>
    by_cases h0 : 0 < bs.length
    · obtain ⟨b, q, ha, hc⟩ := h h0
      obtain rfl := Option.some.inj ha
      exact run_loadBytes bs q ByteArray.empty hc
    · have e0 : bs = [] := List.eq_nil_of_length_eq_zero (by omega)
      subst e0
      show (Extern.Bytes.loadBytes a 0 _).run P w = _
      simp [Extern.Bytes.loadBytes, strOf]
/-- How bytes stand to bytes. -/
def cmpS (a b : List (BitVec 8)) : Int := Extern.BytealgCompare.cmp (strOf a) (strOf b)
theorem run_compare {w : World} {A B : Option Addr} {xs bs : List (BitVec 8)} (ha : SlW w U8 A xs) (hb : SlW w U8 B bs) (c d : Nat) : (Extern.BytealgCompare.compare #[.slice A xs.length c, .slice B bs.length d]).run P w = .ok (.int .i64 (cmpS xs bs)) w := by
  show Sem.run P (do pure (goInt (Extern.BytealgCompare.cmp (← Extern.Bytes.bytesOf (.slice A xs.length c)) (← Extern.Bytes.bytesOf (.slice B bs.length d))))) w = _
  simp [run_bytesOf ha, run_bytesOf hb, goInt, cmpS]
end
end Go.Proofs.YtapfkdcilfpbhaaDoor
