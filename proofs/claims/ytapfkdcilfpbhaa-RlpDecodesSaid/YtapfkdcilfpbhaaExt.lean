/- Calls of functions without a body: comparing bytes, carrying sums. -/
import Derived.Test.YtapfkdcilfpbhaaFree
import Derived.Laws.Externs
import GoSem.Extern.MathBitsCarry
namespace Go.Proofs.Ytapfkdcilfpbhaa
open Go.RowKit
set_option linter.unusedVariables false
set_option linter.unusedSimpArgs false
section
variable {P : Program} {n : Nat} {S : List (Nat × Value)} {M : World → Prop} {o : Oper} {v : Value}
theorem val_extern {f : FuncId} {fn : Func} {e : Array Value → Sem Value} {ags : Array Operand} {ts : Array TypeId} {vs : List Value} (ho : o.op = .call { callee := .value (.func f), args := ags, argTypes := ts }) (hf : P.funcs[f]? = some fn) (hname : (fn.name == "runtime.NumGoroutine") = false)
    (hb : fn.body.isNone = true) (hx : Extern.findNext fn = none) (he : Extern.find fn = some e) (hargs : evs S ags.toList = some vs) (hr : ∀ w, M w → (e vs.toArray).run P w = .ok v w) : Val P n S M o v := fun a w ha hm => by
  have hmap : ags.map a.eval = vs.toArray := by
    apply Array.ext'
    rw [Array.toList_map, ha.evals hargs]
  have h1 : (callFunc f vs.toArray).run P w = .ok (.value v) w := by
    rw [run_callFunc_extern hf hname hb hx he, hr w hm]; rfl
  unfold execOp
  simp [ho, resolve, Deferred.ofValue, invoke, Act.eval, hmap, h1]
theorem run_loadBytes {w : World} {b : Nat} : ∀ (bs : List (BitVec 8)) (q : Nat) (acc : ByteArray), (∀ (i : Nat) (x : BitVec 8), bs[i]? = some x → w.cell? ⟨b, q + i, none⟩ = some (U8 x)) →
    (Extern.Bytes.loadBytes ⟨b, q, none⟩ bs.length acc).run P w = .ok ((bs.map fun b => (b.toNat : Int)).foldl (fun r n => r.push (UInt8.ofNat n.toNat)) acc) w
  | [], _, _, _ => by simp [Extern.Bytes.loadBytes]
  | x :: bs, q, acc, h => by
    have h0 := h 0 x rfl
    have ih := run_loadBytes bs (q + 1) (acc.push (UInt8.ofNat x.toNat)) fun i y hy => by
      have := h (i + 1) y (by simpa using hy)
      rw [show q + 1 + i = q + (i + 1) by omega]; exact this
    rw [Nat.add_zero] at h0
    show (Extern.Bytes.loadBytes _ (bs.length + 1) acc).run P w = _
    unfold Extern.Bytes.loadBytes
    simp only [Sem.run_bind, run_load, h0, Result.andThen_ok]
    simpa [U8, Addr.add] using ih
theorem run_bytesOf {w : World} {A : Option Addr} {bs : List (BitVec 8)} (h : SlW w U8 A bs) (c : Nat) : (Extern.Bytes.bytesOf (.slice A bs.length c)).run P w = .ok (strOf bs) w := by
  cases A with
  | none =>
    have h0 : bs = [] := List.eq_nil_of_length_eq_zero (by
      rcases Nat.eq_zero_or_pos bs.length with h1 | h1
      · exact h1
      · obtain ⟨b, o, hA, _⟩ := h h1; cases hA)
    subst h0
    rfl
  | some a =>
    by_cases h0 : 0 < bs.length
    · obtain ⟨b, q, ha, hc⟩ := h h0
      obtain rfl := Option.some.inj ha
      exact run_loadBytes bs q ByteArray.empty hc
    · have e0 : bs = [] := List.eq_nil_of_length_eq_zero (by omega)
      subst e0
      show (Extern.Bytes.loadBytes a 0 _).run P w = _
      simp [Extern.Bytes.loadBytes, strOf]
/-- How bytes stand to bytes. -/
def cmpS (a b : List (BitVec 8)) : Int := Extern.BytealgCompare.cmp (strOf a) (strOf b)
theorem run_compare {w : World} {A B : Option Addr} {xs bs : List (BitVec 8)} (ha : SlW w U8 A xs) (hb : SlW w U8 B bs) (c d : Nat) : (Extern.BytealgCompare.compare #[.slice A xs.length c, .slice B bs.length d]).run P w = .ok (.int .i64 (cmpS xs bs)) w := by
  show Sem.run P (do pure (goInt (Extern.BytealgCompare.cmp (← Extern.Bytes.bytesOf (.slice A xs.length c)) (← Extern.Bytes.bytesOf (.slice B bs.length d))))) w = _
  simp [run_bytesOf ha, run_bytesOf hb, goInt, cmpS]
theorem run_three {w : World} (nm : String) {x y c : BitVec 64} (hc : c.toNat ≤ 1) : (Extern.MathBitsCarry.three nm #[U64 x, U64 y, U64 c]).run P w = .ok (x.toNat, y.toNat, c.toNat) w := by
  have h : Extern.MathBitsCarry.three nm #[U64 x, U64 y, U64 c] = (if c.toNat > 1 then (unsupported (.noEntry ("extern/math/bits." ++ nm ++ ": a carry that is neither 0 nor 1")) : Sem Unit) >>= fun _ => pure (x.toNat, y.toNat, c.toNat) else pure (x.toNat, y.toNat, c.toNat)) := rfl
  rw [h, if_neg (by omega)]
  rfl
def addE : Array Value → Sem Value := fun args => Extern.MathBitsCarry.three "Add64" args >>= fun q => pure (Extern.MathBitsCarry.pair ((q.1 + q.2.1 + q.2.2) % Extern.MathBitsCarry.m64) ((q.1 + q.2.1 + q.2.2) / Extern.MathBitsCarry.m64))
def subE : Array Value → Sem Value := fun args => Extern.MathBitsCarry.three "Sub64" args >>= fun q => pure (Extern.MathBitsCarry.pair ((q.1 + Extern.MathBitsCarry.m64 - q.2.1 - q.2.2) % Extern.MathBitsCarry.m64) (if q.1 < q.2.1 + q.2.2 then 1 else 0))
def add64 (x y c : BitVec 64) : BitVec 64 × BitVec 64 := (x + y + c, BitVec.ofNat 64 ((x.toNat + y.toNat + c.toNat) / 18446744073709551616))
def sub64 (x y c : BitVec 64) : BitVec 64 × BitVec 64 := (x - y - c, if x.toNat < y.toNat + c.toNat then 1#64 else 0#64)
theorem u64_nat {m : Nat} {z : BitVec 64} (h : m = z.toNat) : Value.int .u64 (Int.ofNat m) = U64 z := by subst h; rfl
theorem run_add64 {w : World} {x y c : BitVec 64} (hc : c.toNat ≤ 1)   :
    (addE #[U64 x, U64 y, U64 c]).run P w = .ok (.tuple #[U64 (add64 x y c).1, U64 (add64 x y c).2]) w := by
  unfold addE
  rw [Sem.run_bind, run_three _ hc]
  show Result.ok (Extern.MathBitsCarry.pair _ _) w = _
  have h1 : ((x.toNat + y.toNat + c.toNat) % Extern.MathBitsCarry.m64 : Nat) = (x + y + c).toNat := by
    rw [BitVec.toNat_add, BitVec.toNat_add, show Extern.MathBitsCarry.m64 = 2 ^ 64 from rfl]; omega
  have h2 : ((x.toNat + y.toNat + c.toNat) / Extern.MathBitsCarry.m64 : Nat) = (BitVec.ofNat 64 ((x.toNat + y.toNat + c.toNat) / 18446744073709551616)).toNat := by
    have := x.isLt; have := y.isLt; have := c.isLt
    rw [BitVec.toNat_ofNat, show Extern.MathBitsCarry.m64 = 18446744073709551616 from rfl]; omega
  unfold Extern.MathBitsCarry.pair
  rw [u64_nat h1, u64_nat h2]; rfl
theorem run_sub64 {w : World} {x y c : BitVec 64} (hc : c.toNat ≤ 1)   :
    (subE #[U64 x, U64 y, U64 c]).run P w = .ok (.tuple #[U64 (sub64 x y c).1, U64 (sub64 x y c).2]) w := by
  unfold subE
  rw [Sem.run_bind, run_three _ hc]
  show Result.ok (Extern.MathBitsCarry.pair _ _) w = _
  have h1 : ((x.toNat + Extern.MathBitsCarry.m64 - y.toNat - c.toNat) % Extern.MathBitsCarry.m64 : Nat) = (x - y - c).toNat := by
    have := x.isLt; have := y.isLt
    rw [BitVec.toNat_sub, BitVec.toNat_sub, show Extern.MathBitsCarry.m64 = 18446744073709551616 from rfl]; omega
  have h2 : ((if x.toNat < y.toNat + c.toNat then 1 else 0 : Nat)) = (if x.toNat < y.toNat + c.toNat then 1#64 else 0#64).toNat := by split <;> rfl
  unfold Extern.MathBitsCarry.pair
  rw [u64_nat h1, u64_nat h2]; rfl
theorem carry_le (x y c : BitVec 64) (hc : c.toNat ≤ 1) : (add64 x y c).2.toNat ≤ 1 := by
  have := x.isLt; have := y.isLt
  show (BitVec.ofNat 64 _).toNat ≤ 1
  rw [BitVec.toNat_ofNat]; omega
theorem borrow_le (x y c : BitVec 64) : (sub64 x y c).2.toNat ≤ 1 := by
  show (if x.toNat < y.toNat + c.toNat then 1#64 else 0#64).toNat ≤ 1
  split <;> decide
end
end Go.Proofs.Ytapfkdcilfpbhaa
