/- The logic: slices that are read. -/
import Derived.Test.YtapfkdcilfpbhaaTo
import Derived.Laws.Slices
namespace Go.Proofs.Ytapfkdcilfpbhaa
open Go.RowKit
set_option linter.unusedVariables false
set_option linter.unusedSimpArgs false

/-- A sealed cell. -/
def HC (h : Frag) (b q : Nat) (v : Value) : Prop := ∃ (cur : Array Value) (t : TypeId) (fz : Nat × Nat), h b = some (.cells cur t fz) ∧ cur[q]? = some v
theorem HC.up {h h' : Frag} (s : Sub h h') {b q : Nat} {v : Value} (c : HC h b q v) : HC h' b q v := by
  obtain ⟨cur, t, fz, h1, h2⟩ := c
  exact ⟨cur, t, fz, s _ _ h1, h2⟩
theorem HC.cell {w0 w : World} {Ex : List Nat} {h : Frag} {L : List Ent} {b q : Nat} {v : Value} (c : HC h b q v) (m : Mm w0 Ex h L w) : w.cell? ⟨b, q, none⟩ = some v := by
  obtain ⟨cur, t, fz, h1, h2⟩ := c
  rw [cell_of_row w b q cur t fz (m.seal_ _ _ h1)]; exact h2
/-- A slice that reads as a list, in sealed memory. -/
def SlH {α : Type} (h : Frag) (f : α → Value) (A : Option Addr) (xs : List α) : Prop := 0 < xs.length → ∃ b o, A = some ⟨b, o, none⟩ ∧ ∀ (i : Nat) (x : α), xs[i]? = some x → HC h b (o + i) (f x)
/-- .. in a world. -/
def SlW {α : Type} (w : World) (f : α → Value) (A : Option Addr) (xs : List α) : Prop := 0 < xs.length → ∃ b o, A = some ⟨b, o, none⟩ ∧ ∀ (i : Nat) (x : α), xs[i]? = some x → w.cell? ⟨b, o + i, none⟩ = some (f x)
section
variable {α : Type} {h h' : Frag} {f : α → Value} {A : Option Addr} {xs : List α} {w0 w w' : World} {Ex : List Nat} {L : List Ent}
theorem SlH.up (s : Sub h h') (r : SlH h f A xs) : SlH h' f A xs := fun hp => by
  obtain ⟨b, o, hA, hc⟩ := r hp
  exact ⟨b, o, hA, fun i x hx => (hc i x hx).up s⟩
theorem SlH.at_ [Inhabited α] (r : SlH h f A xs) {i : Nat} (hi : i < xs.length) : ∃ b o, A = some ⟨b, o, none⟩ ∧ HC h b (o + i) (f (lget xs i)) := by
  obtain ⟨b, o, hA, hc⟩ := r (by omega)
  exact ⟨b, o, hA, hc i _ (lget_at hi)⟩
theorem SlH.toW (r : SlH h f A xs) (m : Mm w0 Ex h L w) : SlW w f A xs := fun hp => by
  obtain ⟨b, o, hA, hc⟩ := r hp
  exact ⟨b, o, hA, fun i x hx => (hc i x hx).cell m⟩
/-- All memory as it is. -/
def snap (w : World) : Frag := fun k => w.heap[k]?
theorem snap_ok (w : World) : ∀ k o, snap w k = some o → w.heap[k]? = some o := fun _ _ e => e
theorem SlW.toH (r : SlW w f A xs) : SlH (snap w) f A xs := fun hp => by
  obtain ⟨b, o, hA, hc⟩ := r hp
  refine ⟨b, o, hA, fun i x hx => ?_⟩
  have := hc i x hx
  unfold World.cell? at this
  split at this
  · rename_i c t fz e
    exact ⟨c, t, fz, e, by simpa using this⟩
  · cases this
theorem SlW.below (r : SlW w f A xs) (hb : Below w.heap.size w w') : SlW w' f A xs := fun hp => by
  obtain ⟨b, o, hA, hc⟩ := r hp
  exact ⟨b, o, hA, fun i x hx => by rw [hb.cell (p := ⟨b, o + i, none⟩) (block_lt_of_cell (hc i x hx))]; exact hc i x hx⟩
theorem SlH.cut (r : SlH h f A xs) {l k c : Nat} (hk : k ≤ xs.length) (hc : xs.length ≤ c) : SlH h f (if c = l then A else A.map (·.add (l * 1))) ((xs.take k).drop l) := fun hp => by
  have hlk : l < k := by simp at hp; omega
  obtain ⟨b, o, rfl, hcl⟩ := r (by omega)
  have hne : c ≠ l := by omega
  refine ⟨b, o + l, by rw [if_neg hne]; simp [Addr.add], fun i x hx => ?_⟩
  rw [List.getElem?_drop, List.getElem?_take] at hx
  split at hx
  · have := hcl _ _ hx
    rwa [← Nat.add_assoc] at this
  · cases hx
theorem cut_len {l k : Nat} (hl : l ≤ k) (hk : k ≤ xs.length) : ((xs.take k).drop l).length = k - l := by simp; omega
end
section
variable {P : Program} {n : Nat} {S : List (Nat × Value)} {M : World → Prop} {o : Oper} {v : Value}
theorem Pelem {t e : TypeId} (hu : P.underlying t = some (.slice e)) : P.underlying t = some (.slice (P.elem t)) := by simp [Program.elem, hu]
theorem Pelem' {t e : TypeId} (hu : P.underlying t = some (.slice e)) : P.elem t = e := by simp [Program.elem, hu]
/-- x[l:k] -/
theorem val_sliceLH {t e : TypeId} {x y z : Operand} {A : Option Addr} {N c : Nat} {kl kh : IntKind} {l k : Int} (ho : o.op = .slice t x (some y) (some z) none) (hx : ev S x = some (.slice A N c)) (hy : ev S y = some (.int kl l)) (hz : ev S z = some (.int kh k)) (hu : P.underlying t = some (.slice e)) (hs : (P.info? e).map (·.size) = some 1)
    (h0 : 0 ≤ l) (h1 : l ≤ k) (h2 : k ≤ c) (hv : .slice (if c = l.toNat then A else A.map (·.add (l.toNat * 1))) (k.toNat - l.toNat) (c - l.toNat) = v) : Val P n S M o v := fun a w ha _ => by
  subst hv
  unfold execOp
  simp [ho, ha.eval hx, ha.eval hy, ha.eval hz, run_sliceAt_slice w t _ _ _ _ (Pelem hu), run_slice_lh w t A N c (Pelem hu) kl kh l k h0 h1 h2, Pelem' hu, run_sizeOf hs, Result.andThen, sliced]
theorem val_sliceH {t e : TypeId} {x z : Operand} {A : Option Addr} {N c : Nat} {kh : IntKind} {k : Int} (ho : o.op = .slice t x none (some z) none) (hx : ev S x = some (.slice A N c)) (hz : ev S z = some (.int kh k)) (hu : P.underlying t = some (.slice e)) (hs : (P.info? e).map (·.size) = some 1)
    (h0 : 0 ≤ k) (h2 : k ≤ c) (hv : .slice (if c = 0 then A else A.map (·.add (0 * 1))) (k.toNat - 0) (c - 0) = v) : Val P n S M o v := fun a w ha _ => by
  subst hv
  unfold execOp
  simp [ho, ha.eval hx, ha.eval hz, run_sliceAt_slice w t _ _ _ _ (Pelem hu), run_slice_h w t A N c (Pelem hu) kh k h0 h2, Pelem' hu, run_sizeOf hs, Result.andThen, sliced]
theorem val_sliceL {t e : TypeId} {x y : Operand} {A : Option Addr} {N c : Nat} {kl : IntKind} {l : Int} (ho : o.op = .slice t x (some y) none none) (hx : ev S x = some (.slice A N c)) (hy : ev S y = some (.int kl l)) (hu : P.underlying t = some (.slice e)) (hs : (P.info? e).map (·.size) = some 1)
    (h0 : 0 ≤ l) (h1 : l ≤ N) (hv : .slice (if c = l.toNat then A else A.map (·.add (l.toNat * 1))) (N - l.toNat) (c - l.toNat) = v) : Val P n S M o v := fun a w ha _ => by
  subst hv
  unfold execOp
  simp [ho, ha.eval hx, ha.eval hy, run_sliceAt_slice w t _ _ _ _ (Pelem hu), run_slice_l w t A N c (Pelem hu) kl l h0 h1, Pelem' hu, run_sizeOf hs, Result.andThen, sliced]
/-- A slice of an array of the call's own. -/
theorem val_sliceA {t e : TypeId} {x : Operand} {y z : Option Operand} {g off N l k : Nat} (ho : o.op = .slice t x y z none) (hx : ev S x = some (.pointer (some ⟨g, off, none⟩))) (hu : P.underlying t = some (.array N e)) (hs : (P.info? e).map (·.size) = some 1)
    (hy : (y = none ∧ l = 0) ∨ ∃ y', y = some y' ∧ ∃ kl q, ev S y' = some (.int kl q) ∧ q = (l : Int)) (hz : (z = none ∧ k = N) ∨ ∃ z', z = some z' ∧ ∃ kh q, ev S z' = some (.int kh q) ∧ q = (k : Int)) (h1 : l ≤ k) (h2 : k ≤ N)
    (hv : .slice (some (if N = l then ⟨g, off, none⟩ else ⟨g, off + l, none⟩)) (k - l) (N - l) = v) : Val P n S M o v := fun a w ha _ => by
  subst hv
  unfold execOp
  have e : ∀ j : Nat, (⟨g, off, none⟩ : Addr).add j = ⟨g, off + j, none⟩ := fun j => Addr.add_mid g off j
  rcases hy with ⟨rfl, rfl⟩ | ⟨y', rfl, kl, q, hy, rfl⟩
  · rcases hz with ⟨rfl, rfl⟩ | ⟨z', rfl, kh, q', hz, rfl⟩
    · simp [ho, ha.eval hx, e, Instr.sliceAt, run_underlying hu, Instr.sureAddr, Instr.sliceBounds, run_sizeOf hs, Result.andThen]
    · simp [ho, ha.eval hx, ha.eval hz, e, h2, Instr.sliceAt, run_underlying hu, Instr.sureAddr, Instr.sliceBounds, Instr.sliceBound, asIntOf, run_sizeOf hs, Result.andThen]
  · rcases hz with ⟨rfl, rfl⟩ | ⟨z', rfl, kh, q', hz, rfl⟩
    · simp [ho, ha.eval hx, ha.eval hy, e, h1, h2, Instr.sliceAt, run_underlying hu, Instr.sureAddr, Instr.sliceBounds, Instr.sliceBound, asIntOf, run_sizeOf hs, Result.andThen]
    · simp [ho, ha.eval hx, ha.eval hy, ha.eval hz, e, h1, h2, Instr.sliceAt, run_underlying hu, Instr.sureAddr, Instr.sliceBounds, Instr.sliceBound, asIntOf, run_sizeOf hs, Result.andThen]
end
end Go.Proofs.Ytapfkdcilfpbhaa
