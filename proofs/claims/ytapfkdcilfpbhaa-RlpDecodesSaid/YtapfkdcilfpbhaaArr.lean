/- Rows of numbers in blocks of memory: how they read, what a store makes of them; slices that read as lists. -/
import Derived.Test.YtapfkdcilfpbhaaBv
import Derived.Deep.LoopGhost
import Derived.Deep.QuietTactic
import Derived.BigQuiet
import Derived.StillTailTactics
import Derived.Deep.DeepCutAuto
import Derived.Laws.CopyOwn
namespace Go.Proofs.Ytapfkdcilfpbhaa
open Go.RowKit
set_option linter.unusedVariables false
set_option linter.unusedSimpArgs false

/-- The number at a place; nought beyond the end. -/
def rd {n : Nat} (xs : List (BitVec n)) (i : Nat) : BitVec n := xs.getD i 0#n
theorem rd_eq {n : Nat} (xs : List (BitVec n)) (i : Nat) (h : i < xs.length) : rd xs i = xs[i] := by
  unfold rd; simp [h]
theorem rd_some {n : Nat} {xs : List (BitVec n)} {i : Nat} (h : i < xs.length) : xs[i]? = some (rd xs i) := by
  rw [rd_eq xs i h, List.getElem?_eq_getElem h]
theorem rd_set {n : Nat} (xs : List (BitVec n)) (i j : Nat) (x : BitVec n) (h : i < xs.length) : rd (xs.set i x) j = if i = j then x else rd xs j := by
  unfold rd; simp only [List.getD_eq_getElem?_getD, List.getElem?_set]
  by_cases e : i = j
  · subst e; simp [h]
  · simp [e]

/-- So many noughts. -/
def zeros {n : Nat} (k : Nat) : List (BitVec n) := List.replicate k 0#n
theorem zeros_len {n : Nat} (k : Nat) : (zeros k : List (BitVec n)).length = k := by simp [zeros]

/-- A row of cells. -/
def row {α : Type} (f : α → Value) (xs : List α) : Array Value := (xs.map f).toArray
theorem row_get {α : Type} (f : α → Value) (xs : List α) (i : Nat) : (row f xs)[i]? = (xs[i]?).map f := by simp [row]
theorem row_set {α : Type} (f : α → Value) (xs : List α) (i : Nat) (x : α) : (row f xs).setIfInBounds i (f x) = row f (xs.set i x) := by
  unfold row; apply Array.ext'; simp [List.map_set]
theorem row_size {α : Type} (f : α → Value) (xs : List α) : (row f xs).size = xs.length := by simp [row]

/-- Block g is just these cells; none is frozen. -/
def Blk (w : World) (g : Nat) (t : TypeId) (cs : Array Value) : Prop := w.heap[g]? = some (.cells cs t (0, 0))
section
variable {w w' : World} {g : Nat} {t : TypeId} {cs : Array Value}
theorem Blk.lt (h : Blk w g t cs) : g < w.heap.size := by
  rcases Nat.lt_or_ge g w.heap.size with hlt | hge
  · exact hlt
  · unfold Blk at h; rw [Array.getElem?_eq_none hge] at h; cases h
theorem Blk.cell (h : Blk w g t cs) (i : Nat) : w.cell? ⟨g, i, none⟩ = cs[i]? := cell_of_row w g i cs t (0, 0) h
theorem Blk.free (h : Blk w g t cs) (i : Nat) : w.frozen? ⟨g, i, none⟩ = false := by
  unfold Blk at h; simp [World.frozen?, h]
theorem Blk.new (w : World) (t : TypeId) (cs : Array Value) : Blk (w.alloc (.cells cs t)) w.heap.size t cs := heap_alloc_new w _
theorem Blk.new' (w : World) (t : TypeId) (cs : Array Value) {n : Nat} (h : n = w.heap.size) : Blk (w.alloc (.cells cs t)) n t cs := h ▸ heap_alloc_new w _
theorem Blk.alloc (h : Blk w g t cs) (o : Obj) : Blk (w.alloc o) g t cs := (Below.heap_alloc w o g h.lt).trans h
theorem Blk.drew (h : Blk w g t cs) : Blk w.drew g t cs := h
theorem Blk.drewN (h : Blk w g t cs) (n : Nat) : Blk (w.drewN n) g t cs := h
theorem Blk.put (h : Blk w g t cs) (i : Nat) (v : Value) : Blk (w.setCell ⟨g, i, none⟩ v) g t (cs.setIfInBounds i v) := by
  unfold Blk at h ⊢; simp [World.setCell, Array.getElem?_modify, h]
theorem Blk.far (h : Blk w g t cs) {p : Addr} (hp : g ≠ p.block) (v : Value) : Blk (w.setCell p v) g t cs := (Below.heap_setCell w p v g hp).trans h
theorem Blk.below {B : Nat} (h : Blk w g t cs) (hb : Below B w w') (hg : g < B) : Blk w' g t cs := (hb.block g hg).trans h
theorem Blk.at_ {α : Type} {f : α → Value} {xs : List α} {i : Nat} {x : α} (h : Blk w g t (row f xs)) (hx : xs[i]? = some x) : w.cell? ⟨g, i, none⟩ = some (f x) := by
  rw [h.cell, row_get, hx]; rfl
theorem Blk.rd8 {xs : List (BitVec 8)} (h : Blk w g t (row U8 xs)) {i : Nat} (hi : i < xs.length) : w.cell? ⟨g, i, none⟩ = some (U8 (rd xs i)) := h.at_ (rd_some hi)
theorem Blk.rd32 {xs : List (BitVec 32)} (h : Blk w g t (row U32 xs)) {i : Nat} (hi : i < xs.length) : w.cell? ⟨g, i, none⟩ = some (U32 (rd xs i)) := h.at_ (rd_some hi)
theorem Blk.rd64 {xs : List (BitVec 64)} (h : Blk w g t (row U64 xs)) {i : Nat} (hi : i < xs.length) : w.cell? ⟨g, i, none⟩ = some (U64 (rd xs i)) := h.at_ (rd_some hi)
theorem Blk.set_ {α : Type} {f : α → Value} {xs : List α} (h : Blk w g t (row f xs)) (i : Nat) (x : α) : Blk (w.setCell ⟨g, i, none⟩ (f x)) g t (row f (xs.set i x)) := by
  rw [← row_set]; exact h.put i (f x)
end

theorem sliceAt_run {P : Program} {t e : TypeId} {n g lo hi : Nat} (h : P.underlying t = some (.array n e)) (hs : (P.info? e).map (·.size) = some 1) (k k' : IntKind) (hlo : lo ≤ hi) (hhi : hi ≤ n) (hne : n ≠ lo)
    {L H : Int} (hL : L = lo) (hH : H = hi) (w : World) :
    (Instr.sliceAt t (.pointer (some ⟨g, 0, none⟩)) (some (.int k L)) (some (.int k' H)) none).run P w = .ok (.slice (some ⟨g, lo, none⟩) (hi - lo) (n - lo)) w := by
  subst hL hH
  cases hq : P.info? e with
  | none => simp [hq] at hs
  | some i =>
    have hi1 : i.size = 1 := by simpa [hq] using hs
    have c1 : (0 : Int) ≤ (hi : Int) ∧ (hi : Int) ≤ (n : Int) := by omega
    have c2 : (0 : Int) ≤ (lo : Int) ∧ (lo : Int) ≤ (hi : Int) := by omega
    simp [Instr.sliceAt, run_underlying h, Instr.sliceBounds, Instr.sliceBound, Instr.sureAddr, asIntOf, sizeOf, typeInfo, hq, hi1, c1, c2, hne, Result.andThen, hlo, hhi, Addr.add]
    exact fun h => h.symm

/-! ### Whole rows: loaded, stored, handed back -/
section
variable {P : Program} {ops : Array Oper} {rest : List Oper} {o : Oper} {a : Act} {w : World} {Q : Exit → Act → World → Prop} {α : Type} {f : α → Value} {xs : List α} {g n : Nat} {t e : TypeId}
theorem load_blk (hgd : o.guard = none) (ty : TypeId) (x : Operand) (ho : o.op = .load ty x) (hx : a.eval x = .pointer (some ⟨g, 0, none⟩)) (hB : Blk w g t (row f xs))
    (hu : P.underlying ty = some (.array n e)) (hi : (P.info? ty).map (·.size) = some n) (hl : xs.length = n)
    (h : wpList P ops Q rest (a.put o.dst (.agg (row f xs))) w) : wpList P ops Q (o :: rest) a w :=
  wpList_load_row hgd ty x ho g hx t _ (0, 0) _ hB hu rfl (by rw [row_size, hl]; exact hi) h
theorem store_blk (hgd : o.guard = none) (ty : TypeId) (x y : Operand) (ho : o.op = .store ty x y) {old : Array Value} (hx : a.eval x = .pointer (some ⟨g, 0, none⟩)) (hy : a.eval y = .agg (row f xs))
    (hB : Blk w g t old) (hi : (P.info? ty).map (·.size) = some n) (hl : xs.length = n) (ho' : old.size = n) (h1 : ∀ x, (f x).oneCell' = true)
    (h : wpList P ops Q rest (a.put o.dst undef) (w.setRow g (row f xs))) : wpList P ops Q (o :: rest) a w :=
  wpList_store_row hgd ty x y ho g (row f xs) hx hy t old hB (by rw [row_size, hl]; exact hi) (by rw [row_size, ho', hl])
    (by rw [Array.all_eq_true_iff_forall_mem]; intro v hv; simp only [row, List.mem_toArray, List.mem_map] at hv; obtain ⟨y, _, rfl⟩ := hv; exact h1 y) h
/-- Cells that read as a list, from a place on. -/
def Cells {α : Type} (f : α → Value) (w : World) (b o : Nat) (xs : List α) : Prop := ∀ i x, xs[i]? = some x → w.cell? ⟨b, o + i, none⟩ = some (f x)
theorem Cells.below {w w' : World} {b o B : Nat} (h : Cells f w b o xs) (hB : Below B w w') (hb : b < B) : Cells f w' b o xs :=
  fun i x hx => (hB.cell (p := ⟨b, o + i, none⟩) hb).trans (h i x hx)
theorem Cells.at8 {w : World} {b o i : Nat} {xs : List (BitVec 8)} (h : Cells U8 w b o xs) (hi : i < xs.length) : w.cell? ⟨b, o + i, none⟩ = some (U8 (rd xs i)) := h i _ (rd_some hi)
theorem Cells.at32 {w : World} {b i : Nat} {xs : List (BitVec 32)} (h : Cells U32 w b 0 xs) (hi : i < xs.length) : w.cell? ⟨b, i, none⟩ = some (U32 (rd xs i)) := by
  have := h i _ (rd_some hi); rwa [Nat.zero_add] at this
theorem Cells.at64 {w : World} {b i : Nat} {xs : List (BitVec 64)} (h : Cells U64 w b 0 xs) (hi : i < xs.length) : w.cell? ⟨b, i, none⟩ = some (U64 (rd xs i)) := by
  have := h i _ (rd_some hi); rwa [Nat.zero_add] at this
theorem Cells.take {w : World} {b o k : Nat} (h : Cells f w b o xs) : Cells f w b o (xs.take k) := fun i x hx => h i x (by
  rw [List.getElem?_take] at hx; split at hx
  · exact hx
  · cases hx)
theorem Cells.drop {w : World} {b o k : Nat} (h : Cells f w b o xs) : Cells f w b (o + k) (xs.drop k) := fun i x hx => by
  rw [List.getElem?_drop] at hx; rw [Nat.add_assoc]; exact h _ _ hx
theorem Blk.cells {w : World} {k : Nat} (h : Blk w g t (row f xs)) : Cells f w g k (xs.drop k) := fun i x hx => by
  rw [List.getElem?_drop] at hx; exact h.at_ hx
/-- A slice that reads as a list; nil, or below block B. -/
def Sl (f : α → Value) (w : World) (B : Nat) (A : Option Addr) (xs : List α) : Prop := 0 < xs.length → ∃ b o, A = some ⟨b, o, none⟩ ∧ b < B ∧ Cells f w b o xs
theorem Sl.below {w w' : World} {B : Nat} {A : Option Addr} (h : Sl f w B A xs) (hB : Below B w w') : Sl f w' B A xs := fun hn => by
  obtain ⟨b, o, hA, hb, hc⟩ := h hn
  exact ⟨b, o, hA, hb, hc.below hB hb⟩
theorem Sl.more {w : World} {B B' : Nat} {A : Option Addr} (h : Sl f w B A xs) (hB : B ≤ B') : Sl f w B' A xs := fun hn => by
  obtain ⟨b, o, hA, hb, hc⟩ := h hn
  exact ⟨b, o, hA, by omega, hc⟩
theorem Sl.take {w : World} {B k : Nat} {A : Option Addr} (h : Sl f w B A xs) : Sl f w B A (xs.take k) := fun hn => by
  obtain ⟨b, o, hA, hb, hc⟩ := h (by simp at hn; omega)
  exact ⟨b, o, hA, hb, hc.take⟩
theorem Sl.drop {w : World} {B k c : Nat} {A : Option Addr} (h : Sl f w B A xs) (hc : xs.length ≤ c) : Sl f w B (if c = k then A else A.map (·.add (k * 1))) (xs.drop k) := fun hn => by
  obtain ⟨b, o, rfl, hb, hcl⟩ := h (by simp at hn; omega)
  have hk : c ≠ k := by simp at hn; omega
  exact ⟨b, o + k, by rw [if_neg hk]; simp [Addr.add], hb, hcl.drop⟩

/-- w' is w, but that block g holds these cells. -/
structure Put (w w' : World) (g : Nat) (t : TypeId) (cs : Array Value) : Prop where
  blk : Blk w' g t cs
  other : ∀ k, k ≠ g → w'.heap[k]? = w.heap[k]?
  size : w'.heap.size = w.heap.size
  os : w'.os = w.os
  tape : w'.tape = w.tape
  output : w'.output = w.output
theorem Put.setRow {old cs : Array Value} (h : Blk w g t old) : Put w (w.setRow g cs) g t cs :=
  ⟨setRow_heap w g old cs t _ h, fun k hk => by simp only [World.setRow, Array.getElem?_modify]; rw [if_neg (by omega)], by simp, rfl, rfl, rfl⟩
theorem Put.far {w' : World} {cs cs' : Array Value} {k : Nat} {t' : TypeId} (p : Put w w' g t cs) (h : Blk w k t' cs') (hk : k ≠ g) : Blk w' k t' cs' := (p.other k hk).trans h
theorem Put.below {w0 w' : World} {cs : Array Value} {B : Nat} (p : Put w w' g t cs) (h : Below B w0 w) (hB : B ≤ g) : Below B w0 w' :=
  h.trans ⟨p.os, p.tape, p.output, by rw [p.size]; exact Nat.le_refl _, fun k hk => p.other k (by omega)⟩
theorem store_put (hgd : o.guard = none) (ty : TypeId) (x y : Operand) (ho : o.op = .store ty x y) {old : Array Value} (hx : a.eval x = .pointer (some ⟨g, 0, none⟩)) (hy : a.eval y = .agg (row f xs))
    (hB : Blk w g t old) (hi : (P.info? ty).map (·.size) = some n) (hl : xs.length = n) (ho' : old.size = n) (h1 : ∀ x, (f x).oneCell' = true)
    (h : ∀ w', Put w w' g t (row f xs) → wpList P ops Q rest (a.put o.dst undef) w') : wpList P ops Q (o :: rest) a w :=
  store_blk hgd ty x y ho hx hy hB hi hl ho' h1 (h _ (Put.setRow hB))
def splc (cur : List α) (off : Nat) (xs : List α) : List α := cur.take off ++ (xs ++ cur.drop (off + xs.length))
theorem splc_len (cur : List α) (off : Nat) (xs : List α) (h : off + xs.length ≤ cur.length) : (splc cur off xs).length = cur.length := by
  simp [splc]; omega
theorem Put.same {cs : Array Value} (h : Blk w g t cs) : Put w w g t cs := ⟨h, fun _ _ => rfl, rfl, rfl, rfl, rfl⟩
theorem copy_blk (hgd : o.guard = none) (d s : Operand) (dT sT : TypeId) (ho : o.op = .call { callee := .builtin .copy, args := #[d, s], argTypes := #[dT, sT] }) (elem : TypeId)
    (hu : P.underlying dT = some (.slice elem)) (hsz : (P.info? elem).map (·.size) = some 1) {off dLen dCap sLen sCap : Nat} {dp sp : Option Addr} {cur : List α}
    (hd : a.eval d = .slice dp dLen dCap) (hs : a.eval s = .slice sp sLen sCap) (hB : Blk w g t (row f cur)) {B : Nat} (hx : Sl f w B sp xs) (hn : xs.length = Nat.min sLen dLen)
    (hdp : 0 < xs.length → dp = some ⟨g, off, none⟩) (hfit : off + xs.length ≤ cur.length) (h1 : ∀ x, (f x).oneCell' = true)
    (h : ∀ w', Put w w' g t (row f (splc cur off xs)) → wpList P ops Q rest (a.put o.dst (goInt xs.length)) w') : wpList P ops Q (o :: rest) a w := by
  by_cases h0 : xs.length = 0
  · obtain rfl : xs = [] := List.eq_nil_of_length_eq_zero h0
    refine wpList_copy_nothing hgd d s dT sT ho elem hu hsz dp sp dLen dCap sLen sCap hd hs (by simpa using hn.symm) ?_
    exact h w (Put.same (by simpa [splc] using hB))
  · obtain ⟨b, ob, rfl, _, hc⟩ := hx (by omega)
    obtain rfl := hdp (by omega)
    refine wpList_copy_own hgd d s dT sT ho elem hu hsz g off dLen dCap ⟨b, ob, none⟩ sLen sCap hd hs (row f cur) t hB (xs.map f) (by simpa using hn) ?_ (by simpa [row_size] using hfit) ?_ ?_
    · intro j v hv
      simp only [List.getElem?_map, Option.map_eq_some_iff] at hv
      obtain ⟨x, hx, rfl⟩ := hv
      have := hc j x hx
      rw [Addr.add_lit]; exact this
    · intro v hv
      obtain ⟨y, _, rfl⟩ := List.mem_map.1 hv
      exact h1 y
    · have e : ((row f cur).toList.take off ++ (xs.map f ++ (row f cur).toList.drop (off + (xs.map f).length))).toArray = row f (splc cur off xs) := by
        simp [row, splc]
      rw [e, List.length_map]
      exact h _ (Put.setRow hB)
theorem load_wp {K : Act → World → Prop} (ty : TypeId) (x : Operand) (ho : o.op = .load ty x) (hx : a.eval x = .pointer (some ⟨g, 0, none⟩)) (hB : Blk w g t (row f xs))
    (hu : P.underlying ty = some (.array n e)) (hi : (P.info? ty).map (·.size) = some n) (hl : xs.length = n) (h : K (a.put o.dst (.agg (row f xs))) w) : o.wp P a w K Q :=
  wp_load_row ty x ho g hx t _ (0, 0) _ hB hu rfl (by rw [row_size, hl]; exact hi) h
theorem ret_blk {fn : Func} {R : Ending → World → Prop} {p : Tmp} {ty : TypeId} (hr : fn.results = #[.cell p ty]) (hp : a.tmps.getD p undef = .pointer (some ⟨g, 0, none⟩)) (hB : Blk w g t (row f xs))
    (hu : P.underlying ty = some (.array n e)) (hi : (P.info? ty).map (·.size) = some n) (hl : xs.length = n) (hd : a.defers = []) (hR : R (.returned (.agg (row f xs))) w) : bodyPost P fn R .ret a w :=
  bodyPost_ret (results_cell_row hr _ _ g t _ (0, 0) _ hp hB hu rfl (by rw [row_size, hl]; exact hi)) hd hR
theorem Blk.setRow {cs old : Array Value} (h : Blk w g t old) : Blk (w.setRow g cs) g t cs := setRow_heap w g old cs t _ h
theorem Blk.setRow_far {cs old : Array Value} {g' : Nat} (h : Blk w g t old) (hne : g ≠ g') : Blk (w.setRow g' cs) g t old := by
  unfold Blk at *; simp only [World.setRow, Array.getElem?_modify]; rw [if_neg (by omega)]; exact h
theorem below_setRow {B : Nat} {w0 : World} (h : Below B w0 w) {cs : Array Value} (hg : B ≤ g) : Below B w0 (w.setRow g cs) :=
  h.trans ⟨rfl, rfl, rfl, by simp, fun k hk => by simp only [World.setRow, Array.getElem?_modify]; rw [if_neg (by omega)]⟩
end

section
variable {P : Program} {f : FuncId} {args : Array Value} {w : World} {v : Value}
/-- A call that hands back v and leaves the world alone. -/
abbrev Pure (P : Program) (f : FuncId) (args : Array Value) (w : World) (v : Value) : Prop := Calls P f args w fun e w' => e = .returned v ∧ w' = w
/-- A call that hands back v; what was there stays. -/
abbrev Made (P : Program) (f : FuncId) (args : Array Value) (w : World) (v : Value) : Prop := Calls P f args w fun e w' => e = .returned v ∧ Below w.heap.size w w'
theorem Pure.use (h : Pure P f args w v) {R : Ending → World → Prop} (hr : R (.returned v) w) : Calls P f args w R :=
  h.mono fun e w' ⟨he, hw⟩ => by subst he; subst hw; exact hr
theorem Pure.quiet (h : Pure P f args w v) {C : World → Prop} (hC : C w) : Calls P f args w fun e w'' => e = .returned v ∧ C w'' :=
  h.mono fun e w' ⟨he, hw⟩ => by subst he; subst hw; exact ⟨rfl, hC⟩
theorem Made.use (h : Made P f args w v) {R : Ending → World → Prop} (hr : ∀ w', Below w.heap.size w w' → R (.returned v) w') : Calls P f args w R :=
  h.mono fun e w' ⟨he, hw⟩ => by subst he; exact hr w' hw
end
end Go.Proofs.Ytapfkdcilfpbhaa
