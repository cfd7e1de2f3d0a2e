/- A logic for walks: the frame by its live slots, memory by the call's own blocks and by what is sealed. The core. -/
import Derived.Test.YtapfkdcilfpbhaaPlanYes
import Derived.Lib.LaidTab
import Derived.Deep.MidRow
import Derived.Deep.LoopGhost
namespace Go.Proofs.Ytapfkdcilfpbhaa
open Go.RowKit
set_option linter.unusedVariables false
set_option linter.unusedSimpArgs false

/-! ### Frames -/
def look : List (Nat × Value) → Nat → Option Value
  | [], _ => none
  | (k, v) :: r, d => bif Nat.beq k d then some v else look r d
structure Fr (a : Act) (n : Nat) (S : List (Nat × Value)) : Prop where
  size : a.tmps.size = n
  defers : a.defers = []
  has : ∀ d v, look S d = some v → a.tmps[d]? = some v
theorem Fr.put {a : Act} {n : Nat} {S : List (Nat × Value)} (h : Fr a n S) {d : Tmp} (hd : Nat.blt d n = true) (v : Value) : Fr (a.put (some d) v) n ((d, v) :: S) := by
  have hd' : d < n := by simpa [Nat.blt_eq] using hd
  refine ⟨by simp [Act.put, h.size], h.defers, fun e u hu => ?_⟩
  simp only [Act.put, Array.getElem?_setIfInBounds]
  simp only [look] at hu
  by_cases he : d = e
  · subst he
    simp only [Nat.beq_refl, cond_true, Option.some.injEq] at hu
    subst hu
    simp [h.size, hd']
  · have : Nat.beq d e = false := by
      cases hb : Nat.beq d e with
      | false => rfl
      | true => exact absurd (Nat.eq_of_beq_eq_true hb) he
    rw [this] at hu
    simp only [cond_false] at hu
    rw [if_neg he]
    exact h.has e u hu
theorem Fr.put_none {a : Act} {n : Nat} {S : List (Nat × Value)} (h : Fr a n S) (v : Value) : Fr (a.put none v) n S := h
def ev (S : List (Nat × Value)) : Operand → Option Value
  | .tmp t => look S t
  | .const v => some v
  | .global g => some (.pointer (some ⟨g, 0, none⟩))
  | .func f => some (.func (.func f) #[] #[])
theorem Fr.eval {a : Act} {n : Nat} {S : List (Nat × Value)} (h : Fr a n S) {x : Operand} {v : Value} (hx : ev S x = some v) : a.eval x = v := by
  cases x <;> simp only [ev, Option.some.injEq] at hx
  · rename_i t; have := h.has t v hx; simp [Act.eval, Array.getD_eq_getD_getElem?, this]
  all_goals (subst hx; rfl)
def evs (S : List (Nat × Value)) : List Operand → Option (List Value)
  | [] => some []
  | x :: r => match ev S x, evs S r with
    | some v, some vs => some (v :: vs)
    | _, _ => none
theorem Fr.evals {a : Act} {n : Nat} {S : List (Nat × Value)} (h : Fr a n S) : ∀ {xs : List Operand} {vs : List Value}, evs S xs = some vs → xs.map a.eval = vs
  | [], vs, hx => by simp only [evs, Option.some.injEq] at hx; subst hx; rfl
  | x :: r, vs, hx => by
    unfold evs at hx
    split at hx
    · rename_i v vs' h1 h2
      obtain rfl := Option.some.inj hx
      simp [h.eval h1, h.evals h2]
    · cases hx
/-- Some of the slots alone. -/
theorem Fr.nil {a : Act} {n : Nat} {S : List (Nat × Value)} (h : Fr a n S) : Fr a n [] := ⟨h.size, h.defers, fun _ _ hu => by cases hu⟩
theorem Fr.cons {a : Act} {n : Nat} {S S' : List (Nat × Value)} (h : Fr a n S) {d : Nat} {v : Value} (hd : look S d = some v) (h' : Fr a n S') : Fr a n ((d, v) :: S') := by
  refine ⟨h.size, h.defers, fun e u hu => ?_⟩
  simp only [look] at hu
  cases hb : Nat.beq d e with
  | true =>
    rw [hb] at hu
    simp only [cond_true, Option.some.injEq] at hu
    subst hu
    have := Nat.eq_of_beq_eq_true hb
    subst this
    exact h.has d v hd
  | false => rw [hb] at hu; exact h'.has e u hu
theorem Fr.enter (args : List Value) (n : Nat) (S : List (Nat × Value)) (hn : args.length ≤ n) (hS : ∀ d v, look S d = some v → args[d]? = some v) :
    Fr { tmps := args.toArray ++ Array.replicate (n - args.toArray.size) undef, defers := [] } n S := by
  refine ⟨by simp; omega, rfl, fun d v hu => ?_⟩
  have := hS d v hu
  have hlt : d < args.length := (List.getElem?_eq_some_iff.1 this).1
  rw [Array.getElem?_append_left (by simpa using hlt)]
  simpa using this
/-- The arguments, numbered. -/
def numbered : Nat → List Value → List (Nat × Value)
  | _, [] => []
  | k, v :: r => (k, v) :: numbered (k + 1) r
theorem look_numbered : ∀ (l : List Value) (k d : Nat) (v : Value), look (numbered k l) d = some v → k ≤ d ∧ l[d - k]? = some v
  | [], _, _, _, h => by cases h
  | x :: r, k, d, v, h => by
    simp only [numbered, look] at h
    cases hb : Nat.beq k d with
    | true =>
      rw [hb] at h
      have := Nat.eq_of_beq_eq_true hb
      subst this
      simpa using h
    | false =>
      rw [hb] at h
      obtain ⟨h1, h2⟩ := look_numbered r (k + 1) d v h
      refine ⟨by omega, ?_⟩
      rw [show d - k = (d - (k + 1)) + 1 by omega]
      simpa using h2

/-! ### Memory -/
abbrev Frag := Nat → Option Obj
def Sub (h h' : Frag) : Prop := ∀ k o, h k = some o → h' k = some o
theorem Sub.refl (h : Frag) : Sub h h := fun _ _ e => e
theorem Sub.trans {a b c : Frag} (h : Sub a b) (k : Sub b c) : Sub a c := fun i o e => k i o (h i o e)
/-- What the call has of its own: a block (its number, its type, its first cells, how many it has); a slice that may be appended to (its value, its elements' type and size, its cells). -/
inductive Ent where
  | blk (g : Nat) (t : TypeId) (cs : List Value) (room : Nat)
  | row (v : Value) (e : TypeId) (sz : Nat) (cs : List Value)
def Ent.key : Ent → Option Nat
  | .blk g _ _ _ => some g
  | .row v _ _ _ => v.ownBlock
def Ent.on : Ent → World → Prop
  | .blk g t cs room, w => ∃ cur : Array Value, w.heap[g]? = some (.cells cur t (0, 0)) ∧ cur.size = room ∧ ∀ (i : Nat) (v : Value), cs[i]? = some v → cur[i]? = some v
  | .row v e sz cs, w => ∃ n, w.ownsRow 0 e sz v n cs
theorem heap_lt {w : World} {g : Nat} {o : Obj} (h : w.heap[g]? = some o) : g < w.heap.size := by
  rcases Nat.lt_or_ge g w.heap.size with hlt | hge
  · exact hlt
  · rw [Array.getElem?_eq_none hge] at h; cases h
theorem ownBlock_lt {w : World} {v : Value} {e : TypeId} {sz n g : Nat} {cs : List Value} (h : w.ownsRow 0 e sz v n cs) (k : v.ownBlock = some g) : g < w.heap.size := by
  obtain ⟨_, h2 | ⟨g', cap, cur, hv, _, hh, _⟩⟩ := h
  · rw [h2.1] at k; cases k
  · rw [hv] at k; obtain rfl : g' = g := by simpa [Value.ownBlock] using k
    exact heap_lt hh
theorem Ent.on.lt {b : Ent} {w : World} (h : b.on w) {g : Nat} (k : b.key = some g) : g < w.heap.size := by
  cases b with
  | blk g' t cs room => obtain ⟨cur, h, _⟩ := h; obtain rfl := Option.some.inj k; exact heap_lt h
  | row v e sz cs => obtain ⟨n, h⟩ := h; exact ownBlock_lt h k
theorem on_whole {g : Nat} {t : TypeId} {cs : List Value} {room : Nat} {w : World} (h : (Ent.blk g t cs room).on w) (hx : cs.length = room) : w.heap[g]? = some (.cells cs.toArray t (0, 0)) := by
  obtain ⟨cur, h, h1, h2⟩ := h
  have : cur = cs.toArray := by
    apply Array.ext'
    apply List.ext_getElem?
    intro i
    cases hc : cs[i]? with
    | some v => simpa [hc] using h2 i v hc
    | none =>
      have : cs.length ≤ i := by simpa using hc
      rw [List.getElem?_eq_none (by simp; omega)]
  rw [h, this]
theorem on_cell {g : Nat} {t : TypeId} {cs : List Value} {room : Nat} {w : World} (h : (Ent.blk g t cs room).on w) {i : Nat} {v : Value} (hi : cs[i]? = some v) : w.cell? ⟨g, i, none⟩ = some v := by
  obtain ⟨cur, h, _, h2⟩ := h
  rw [cell_of_row w g i cur t (0, 0) h]
  exact h2 i v hi
theorem on_free {g : Nat} {t : TypeId} {cs : List Value} {room : Nat} {w : World} (h : (Ent.blk g t cs room).on w) (i : Nat) : w.frozen? ⟨g, i, none⟩ = false := by
  obtain ⟨cur, h, _⟩ := h
  simp [World.frozen?, h]
theorem Ent.on.of_block {b : Ent} {w w' : World} (h : b.on w) (e : ∀ g, b.key = some g → w'.heap[g]? = w.heap[g]?) : b.on w' := by
  cases b with
  | blk g t cs room => obtain ⟨cur, h, r⟩ := h; exact ⟨cur, (e g rfl).trans h, r⟩
  | row v e' sz cs =>
    obtain ⟨n, h1, h2 | ⟨g, cap, cur, hv, hg, hh, r⟩⟩ := h
    · exact ⟨n, h1, .inl h2⟩
    · exact ⟨n, h1, .inr ⟨g, cap, cur, hv, hg, (e g (by rw [hv]; rfl)).trans hh, r⟩⟩
structure Mm (w0 : World) (Ex : List Nat) (h : Frag) (L : List Ent) (w : World) : Prop where
  os : w.os = w0.os
  tape : w.tape = w0.tape
  output : w.output = w0.output
  size : w0.heap.size ≤ w.heap.size
  old : ∀ k, k < w0.heap.size → k ∉ Ex → w.heap[k]? = w0.heap[k]?
  seal_ : ∀ k o, h k = some o → w.heap[k]? = some o
  ents : ∀ b ∈ L, b.on w
  sep : ∀ b ∈ L, ∀ g, b.key = some g → h g = none
  nodup : ∀ (i j : Nat) (b c : Ent) (g : Nat), L[i]? = some b → L[j]? = some c → b.key = some g → c.key = some g → i = j
  own : ∀ b ∈ L, ∀ g, b.key = some g → w0.heap.size ≤ g ∨ g ∈ Ex
section
variable {w0 w w' : World} {Ex : List Nat} {h h' : Frag} {L L' : List Ent}
theorem Mm.below (m : Mm w0 [] h L w) : Below w0.heap.size w0 w := ⟨m.os, m.tape, m.output, m.size, fun k hk => m.old k hk (by simp)⟩
theorem Mm.start (w : World) (h : Frag) (hs : ∀ k o, h k = some o → w.heap[k]? = some o) : Mm w [] h [] w :=
  ⟨rfl, rfl, rfl, Nat.le_refl _, fun _ _ _ => rfl, hs, (fun _ hb => by cases hb), (fun _ hb => by cases hb), (fun i _ _ _ _ hb => by simp at hb), (fun _ hb => by cases hb)⟩
theorem Mm.seal_lt (m : Mm w0 Ex h L w) {k : Nat} {o : Obj} (e : h k = some o) : k < w.heap.size := heap_lt (m.seal_ k o e)
theorem Mm.drewN (m : Mm w0 Ex h L w) (n : Nat) : Mm w0 Ex h L (w.drewN n) := ⟨m.os, m.tape, m.output, m.size, m.old, m.seal_, fun b hb => (m.ents b hb).of_block fun _ _ => rfl, m.sep, m.nodup, m.own⟩
theorem Mm.drew (m : Mm w0 Ex h L w) : Mm w0 Ex h L w.drew := ⟨m.os, m.tape, m.output, m.size, m.old, m.seal_, fun b hb => (m.ents b hb).of_block fun _ _ => rfl, m.sep, m.nodup, m.own⟩
theorem Mm.key_lt (m : Mm w0 Ex h L w) {b : Ent} (hb : b ∈ L) {g : Nat} (k : b.key = some g) : g < w.heap.size := (m.ents b hb).lt k
/-- One more, whose block is a new one. -/
theorem Mm.push (m : Mm w0 Ex h L w) {b : Ent} (hb : b.on w') (hk : ∀ g, b.key = some g → w.heap.size ≤ g) (hw : Below w.heap.size w w') : Mm w0 Ex h (b :: L) w' := by
  refine ⟨hw.os.trans m.os, hw.tape.trans m.tape, hw.output.trans m.output, Nat.le_trans m.size hw.size, fun k hlt hx => (hw.block k (Nat.lt_of_lt_of_le hlt m.size)).trans (m.old k hlt hx), fun k o e => (hw.block k (m.seal_lt e)).trans (m.seal_ k o e), ?_, ?_, ?_, ?_⟩
  · intro c hc
    rcases List.mem_cons.1 hc with rfl | hc
    · exact hb
    · exact (m.ents c hc).of_block fun g k => hw.block g (m.key_lt hc k)
  · intro c hc g k
    rcases List.mem_cons.1 hc with rfl | hc
    · cases e : h g with
      | none => rfl
      | some o => have := m.seal_lt e; have := hk g k; omega
    · exact m.sep c hc g k
  · intro i j c d g hi hj k1 k2
    cases i with
    | zero =>
      obtain rfl : b = c := by simpa using hi
      cases j with
      | zero => rfl
      | succ j => have := m.key_lt (List.mem_of_getElem? (by simpa using hj)) k2; have := hk g k1; omega
    | succ i =>
      cases j with
      | zero =>
        obtain rfl : b = d := by simpa using hj
        have := m.key_lt (List.mem_of_getElem? (by simpa using hi)) k1; have := hk g k2; omega
      | succ j => exact congrArg Nat.succ (m.nodup i j c d g (by simpa using hi) (by simpa using hj) k1 k2)
  · intro c hc g k
    rcases List.mem_cons.1 hc with rfl | hc
    · exact .inl (Nat.le_trans m.size (hk g k))
    · exact m.own c hc g k
theorem Mm.alloc (m : Mm w0 Ex h L w) (cs : List Value) (t : TypeId) (room : Nat) (hr : cs.length = room) : Mm w0 Ex h (.blk w.heap.size t cs room :: L) (w.alloc (.cells cs.toArray t)) :=
  m.push ⟨cs.toArray, heap_alloc_new w _, by simpa using hr, fun i v hi => by simpa using hi⟩ (fun g k => by obtain rfl := Option.some.inj k; exact Nat.le_refl _) ((Below.refl _ _).alloc (Nat.le_refl _) _)
/-- Nothing that was there has changed. -/
theorem Mm.more (m : Mm w0 Ex h L w) (b : Below w.heap.size w w') : Mm w0 Ex h L w' :=
  ⟨b.os.trans m.os, b.tape.trans m.tape, b.output.trans m.output, Nat.le_trans m.size b.size, fun k hk hx => (b.block k (Nat.lt_of_lt_of_le hk m.size)).trans (m.old k hk hx),
    fun k o e => (b.block k (m.seal_lt e)).trans (m.seal_ k o e), fun e he => (m.ents e he).of_block fun g k => b.block g (m.key_lt he k), m.sep, m.nodup, m.own⟩
/-- One has changed: what it is now. -/
theorem Mm.change (m : Mm w0 Ex h L w) {i : Nat} {b b' : Ent} (hi : L[i]? = some b) (hg : ∀ g, b'.key = some g → b.key = some g ∨ w.heap.size ≤ g) (hb : b'.on w') (ho : w'.os = w.os) (ht : w'.tape = w.tape) (hou : w'.output = w.output) (hs : w.heap.size ≤ w'.heap.size)
    (hk : ∀ k, b.key ≠ some k → k < w.heap.size → w'.heap[k]? = w.heap[k]?) : Mm w0 Ex h (L.set i b') w' := by
  have hm := List.mem_of_getElem? hi
  have hne : ∀ k o, h k = some o → b.key ≠ some k := fun k o e he => by rw [m.sep b hm k he] at e; cases e
  have hget : ∀ (j : Nat) (c : Ent), (L.set i b')[j]? = some c → (j = i ∧ c = b') ∨ (j ≠ i ∧ L[j]? = some c) := fun j c hj => by
    rw [List.getElem?_set] at hj
    split at hj
    · split at hj
      · rename_i e _; exact .inl ⟨e.symm, (Option.some.inj hj).symm⟩
      · cases hj
    · rename_i hij
      exact .inr ⟨fun e => hij e.symm, hj⟩
  have hoth : ∀ (j : Nat) (c : Ent), j ≠ i → L[j]? = some c → ∀ g, c.key = some g → b.key ≠ some g := fun j c hj hc g k k' => hj (m.nodup j i c b g hc hi k k')
  have hmem : ∀ c ∈ L.set i b', c = b' ∨ (c ∈ L ∧ ∀ g, c.key = some g → b.key ≠ some g) := fun c hc => by
    obtain ⟨j, hj⟩ := List.mem_iff_getElem?.1 hc
    rcases hget j c hj with ⟨_, rfl⟩ | ⟨hne', hj'⟩
    · exact .inl rfl
    · exact .inr ⟨List.mem_of_getElem? hj', hoth j c hne' hj'⟩
  refine ⟨ho.trans m.os, ht.trans m.tape, hou.trans m.output, Nat.le_trans m.size hs, ?_, fun k o e => (hk k (hne k o e) (m.seal_lt e)).trans (m.seal_ k o e), ?_, ?_, ?_, ?_⟩
  · intro k hlt hx
    refine (hk k ?_ (Nat.lt_of_lt_of_le hlt m.size)).trans (m.old k hlt hx)
    intro e
    rcases m.own b hm k e with h1 | h1
    · omega
    · exact hx h1
  · intro c hc
    rcases hmem c hc with rfl | ⟨h1, h2⟩
    · exact hb
    · exact (m.ents c h1).of_block fun g k => hk g (h2 g k) (m.key_lt h1 k)
  · intro c hc g k
    rcases hmem c hc with rfl | ⟨h1, h2⟩
    · rcases hg g k with e | e
      · exact m.sep b hm g e
      · cases e' : h g with
        | none => rfl
        | some o => have := m.seal_lt e'; omega
    · exact m.sep c h1 g k
  · intro x y c d g hx hy k1 k2
    rcases hget x c hx with ⟨rfl, rfl⟩ | ⟨nx, hx'⟩
    · rcases hget y d hy with ⟨rfl, rfl⟩ | ⟨ny, hy'⟩
      · rfl
      · rcases hg g k1 with e | e
        · exact absurd e (hoth y d ny hy' g k2)
        · have := m.key_lt (List.mem_of_getElem? hy') k2; omega
    · rcases hget y d hy with ⟨rfl, rfl⟩ | ⟨ny, hy'⟩
      · rcases hg g k2 with e | e
        · exact absurd e (hoth x c nx hx' g k1)
        · have := m.key_lt (List.mem_of_getElem? hx') k1; omega
      · exact m.nodup x y c d g hx' hy' k1 k2
  · intro c hc g k
    rcases hmem c hc with rfl | ⟨h1, h2⟩
    · rcases hg g k with e | e
      · exact m.own b hm g e
      · exact .inl (Nat.le_trans m.size e)
    · exact m.own c h1 g k
/-- Some of them alone, in any order. -/
theorem Mm.sel (m : Mm w0 Ex h L w) (is : List Nat) (hn : decide is.Nodup = true) (hL : is.mapM (L[·]?) = some L') : Mm w0 Ex h L' w := by
  have hn' : is.Nodup := of_decide_eq_true hn
  have hlen := Lib.mapM_length hL
  have hat : ∀ (j : Nat) (b : Ent), L'[j]? = some b → ∃ k, is[j]? = some k ∧ L[k]? = some b := fun j b hj => by
    have hjl : j < L'.length := (List.getElem?_eq_some_iff.1 hj).1
    obtain ⟨c, hc, hf⟩ := Lib.mapM_at hL j (is[j]'(by omega)) (by simp)
    rw [hj] at hc
    obtain rfl := Option.some.inj hc
    exact ⟨_, by simp, hf⟩
  have hsub : ∀ b ∈ L', b ∈ L := fun b hb => by
    obtain ⟨j, hj⟩ := List.mem_iff_getElem?.1 hb
    obtain ⟨k, _, hk⟩ := hat j b hj
    exact List.mem_of_getElem? hk
  refine ⟨m.os, m.tape, m.output, m.size, m.old, m.seal_, fun b hb => m.ents b (hsub b hb), fun b hb => m.sep b (hsub b hb), ?_, fun b hb => m.own b (hsub b hb)⟩
  intro i j b c g hi hj k1 k2
  obtain ⟨x, hx, hx'⟩ := hat i b hi
  obtain ⟨y, hy, hy'⟩ := hat j c hj
  obtain rfl := m.nodup x y b c g hx' hy' k1 k2
  have l1 := (List.getElem?_eq_some_iff.1 hx)
  have l2 := (List.getElem?_eq_some_iff.1 hy)
  exact (List.getElem_inj hn').1 (l1.2.trans l2.2.symm)
theorem Mm.frag (m : Mm w0 Ex h L w) (hs : Sub h' h) : Mm w0 Ex h' L w :=
  ⟨m.os, m.tape, m.output, m.size, m.old, fun k o e => m.seal_ k o (hs k o e), m.ents, (fun b hb g k => by
    cases e : h' g with
    | none => rfl
    | some o => have := hs g o e; rw [m.sep b hb g k] at this; cases this), m.nodup, m.own⟩
/-- The first one is sealed: it will not change again. -/
theorem Mm.close {g : Nat} {t : TypeId} {cs : List Value} {room : Nat} (m : Mm w0 Ex h (.blk g t cs room :: L) w) : ∃ h' cur, Sub h h' ∧ h' g = some (.cells cur t (0, 0)) ∧ (∀ (i : Nat) (v : Value), cs[i]? = some v → cur[i]? = some v) ∧ Mm w0 Ex h' L w := by
  obtain ⟨cur, hb, _, hc⟩ := m.ents (.blk g t cs room) (by simp)
  refine ⟨fun k => if k = g then some (.cells cur t (0, 0)) else h k, cur, ?_, by simp, hc, m.os, m.tape, m.output, m.size, m.old, ?_, fun c hm => m.ents c (by simp [hm]), ?_, ?_, fun c hm => m.own c (by simp [hm])⟩
  · intro k o e
    have : k ≠ g := fun he => by rw [he, m.sep (.blk g t cs room) (by simp) g rfl] at e; cases e
    simp [this, e]
  · intro k o e
    split at e
    · rename_i hk; obtain rfl := Option.some.inj e; rw [hk]; exact hb
    · exact m.seal_ k o e
  · intro c hm k hk
    obtain ⟨j, hj⟩ := List.mem_iff_getElem?.1 hm
    have : k ≠ g := fun e => by
      subst e
      have := m.nodup 0 (j + 1) (.blk k t cs room) c k rfl (by simpa using hj) rfl hk
      omega
    simp [this, m.sep c (by simp [hm]) k hk]
  · intro i j b c k hi hj k1 k2
    have := m.nodup (i + 1) (j + 1) b c k (by simpa using hi) (by simpa using hj) k1 k2
    omega
end

/-! ### Code -/
inductive It where
  | code (c : Code)
  | fin (id : Nat)
  | again (J : Act → World → Prop)
/-- What is to hold when this is left so, this code still to come. -/
def Hd (P : Program) (Q : Exit → Act → World → Prop) : List It → Exit → Act → World → Prop
  | [] => Q
  | .code c :: k => Exit.then (c.wp P (Hd P Q k)) (Hd P Q k)
  | .fin id :: k => Exit.inBlock id (Hd P Q k)
  | .again J :: k => Exit.then J (Hd P Q k)
def Go (P : Program) (Q : Exit → Act → World → Prop) (k : List It) : Act → World → Prop := Hd P Q k .normal
/-- In every frame and world like that. -/
def T (n : Nat) (S : List (Nat × Value)) (M : World → Prop) (G : Act → World → Prop) : Prop := ∀ a w, Fr a n S → M w → G a w
section
variable {P : Program} {Q : Exit → Act → World → Prop} {w0 : World} {Ex : List Nat} {n : Nat} {S S' : List (Nat × Value)} {h : Frag} {L L' : List Ent} {M M' : World → Prop} {k : List It} {c c' : Code} {G G' : Act → World → Prop}
theorem T.imp (t : T n S M G) (hg : ∀ a w, G a w → G' a w) : T n S M G' := fun a w ha hw => hg a w (t a w ha hw)
theorem t_seq (t : T n S M (Go P Q (.code c :: .code c' :: k))) : T n S M (Go P Q (.code (.seq c c') :: k)) := fun a w ha hw => wp_seq (t a w ha hw)
theorem t_skip (t : T n S M (Go P Q k)) : T n S M (Go P Q (.code .skip :: k)) := fun a w ha hw => wp_skip (t a w ha hw)
theorem t_block {id : Nat} (t : T n S M (Go P Q (.code c :: .fin id :: k))) : T n S M (Go P Q (.code (.block id c) :: k)) := fun a w ha hw => wp_block (t a w ha hw)
theorem t_fin {id : Nat} (t : T n S M (Go P Q k)) : T n S M (Go P Q (.fin id :: k)) := t
def unw (id : Nat) : List It → Option (List It)
  | [] => none
  | .fin i :: k => bif Nat.beq i id then some k else unw id k
  | _ :: k => unw id k
theorem unw_hd {id : Nat} : ∀ {k k' : List It}, unw id k = some k' → ∀ {a : Act} {w : World}, Go P Q k' a w → Hd P Q k (.exit id) a w
  | [], _, e, _, _, _ => by cases e
  | .code _ :: k, k', e, a, w, g => unw_hd (k := k) e g
  | .again _ :: k, k', e, a, w, g => unw_hd (k := k) e g
  | .fin i :: k, k', e, a, w, g => by
    simp only [unw] at e
    cases hb : Nat.beq i id with
    | true =>
      rw [hb] at e
      have := Nat.eq_of_beq_eq_true hb
      subst this
      obtain rfl := Option.some.inj e
      simp only [Hd, Exit.inBlock, if_true]
      exact g
    | false =>
      rw [hb] at e
      have : ¬ id = i := fun h => by rw [h, Nat.beq_refl] at hb; cases hb
      simp only [Hd, Exit.inBlock, this, if_false]
      exact unw_hd (k := k) e g
theorem t_exit {id : Nat} {k' : List It} (e : unw id k = some k') (t : T n S M (Go P Q k')) : T n S M (Go P Q (.code (.exit id) :: k)) := fun a w ha hw => wp_exit (unw_hd e (t a w ha hw))
theorem t_cond_true {x : Operand} (hx : ev S x = some (.bool true)) (t : T n S M (Go P Q (.code c :: k))) : T n S M (Go P Q (.code (.cond x c c') :: k)) := fun a w ha hw => wp_cond_true (ha.eval hx) (t a w ha hw)
theorem t_cond_false {x : Operand} (hx : ev S x = some (.bool false)) (t : T n S M (Go P Q (.code c' :: k))) : T n S M (Go P Q (.code (.cond x c c') :: k)) := fun a w ha hw => wp_cond_false (ha.eval hx) (t a w ha hw)
theorem t_loop (J : Nat → Act → World → Prop) (n0 : Nat) (h0 : T n S M (J n0)) (r : ∀ m a w, J m a w → Go P Q (.code c :: .again (fun a' w' => ∃ m', m' < m ∧ J m' a' w') :: k) a w) : T n S M (Go P Q (.code (.loop c) :: k)) := fun a w ha hw =>
  wp_loop_ghost J n0 (h0 a w ha hw) r
theorem t_again {J : Nat → Act → World → Prop} {m : Nat} (m' : Nat) (hlt : m' < m) (t : T n S M (J m')) : T n S M (Go P Q (.again (fun a' w' => ∃ m', m' < m ∧ J m' a' w') :: k)) := fun a w ha hw => ⟨m', hlt, t a w ha hw⟩
theorem hd_ret : ∀ (k : List It) (a : Act) (w : World), Q .ret a w → Hd P Q k .ret a w
  | [], _, _, q => q
  | .code _ :: k, a, w, q => hd_ret k a w q
  | .again _ :: k, a, w, q => hd_ret k a w q
  | .fin _ :: k, a, w, q => hd_ret k a w q
theorem t_ret (t : T n S M (Q .ret)) : T n S M (Go P Q (.code .ret :: k)) := fun a w ha hw => wp_ret (hd_ret k a w (t a w ha hw))
/-- Fewer slots, fewer blocks. -/
theorem T.weak (t : T n S' M' G) (hS : ∀ a, Fr a n S → Fr a n S') (hM : ∀ w, M w → M' w) : T n S M G := fun a w ha hw => t a w (hS a ha) (hM w hw)
theorem T.sel (is : List Nat) (hn : decide is.Nodup = true) (hL : is.mapM (L[·]?) = some L') (t : T n S (Mm w0 Ex h L') G) : T n S (Mm w0 Ex h L) G := fun a w ha hw => t a w ha (hw.sel is hn hL)
/-- Behind the code that stands next ways meet again: what holds there is shown once. -/
theorem t_bind {α β τ : Type} {e : Option α} {f : α → Option β} {r : β} (H : e.bind f = some r) (S' : α → τ → List (Nat × Value)) (M' : α → τ → World → Prop) (Φ : α → τ → Prop)
    (A : ∀ Gr : Act → World → Prop, (∀ x g, f x = some r → Φ x g → T n (S' x g) (M' x g) Gr) → ∀ x, e = some x → f x = some r → T n S M (Go P Q (.code c :: .again Gr :: k)))
    (B : ∀ x g, f x = some r → Φ x g → T n (S' x g) (M' x g) (Go P Q k)) : T n S M (Go P Q (.code c :: k)) := by
  obtain ⟨x, he, hx⟩ := Option.bind_eq_some_iff.1 H
  intro a w ha hw
  have := A (Go P Q k) B x he hx a w ha hw
  refine wp_mono this ?_
  intro e a w hq
  cases e <;> exact hq
theorem t_reach {J : Act → World → Prop} (t : T n S M J) : T n S M (Go P Q (.again J :: k)) := t
end
end Go.Proofs.Ytapfkdcilfpbhaa
