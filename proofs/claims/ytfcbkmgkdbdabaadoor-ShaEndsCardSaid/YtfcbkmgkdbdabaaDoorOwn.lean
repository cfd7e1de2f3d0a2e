/- Slices that the call itself makes and appends to, as typed lists. -/
import Derived.Test.YtfcbkmgkdbdabaaDoorPlan
import Derived.Laws.AppendOwnNone
namespace Go.Proofs.YtfcbkmgkdbdabaaDoor
open Go.RowKit

section
variable {α : Type} {f : α → Value} {w w' : World} {B : Nat} {e : TypeId} {v : Value} {xs ys : List α}
/-- v is a slice of the call's own (from block B on), of elements of type e, and reads xs. -/
def Own (w : World) (B : Nat) (e : TypeId) (f : α → Value) (v : Value) (xs : List α) : Prop := w.ownsRow B e 1 v xs.length (xs.map f)
/-- From block B on slices of elements of type e may have changed, and new blocks have come; all else is as it was. -/
structure Grow (B : Nat) (e : TypeId) (w w' : World) : Prop where
  below : Below B w w'
  blk : ∀ g t cs, t ≠ e → Blk w g t cs → Blk w' g t cs
theorem Grow.refl : Grow B e w w := ⟨Below.refl _ _, fun _ _ _ _ h => h⟩
theorem Grow.trans {a b c : World} (h : Grow B e a b) (k : Grow B e b c) : Grow B e a c := ⟨h.below.trans k.below, fun g t cs ht hb => k.blk g t cs ht (h.blk g t cs ht hb)⟩
theorem Grow.alloc (hB : B ≤ w.heap.size) (o : Obj) : Grow B e w (w.alloc o) := ⟨(Below.refl _ _).alloc hB o, fun _ _ _ _ h => h.alloc o⟩
theorem Own.cases (h : Own w B e f v xs) : (v = .slice none 0 0 ∧ xs = []) ∨ ∃ g c, v = .slice (some ⟨g, 0, none⟩) xs.length c ∧ B ≤ g ∧ xs.length ≤ c ∧ g < w.heap.size ∧ Cells f w g 0 xs ∧ (∀ i, w.frozen? ⟨g, i, none⟩ = false) := by
  obtain ⟨h1, h2 | ⟨g, cap, cur, hv, hg, hh, hn, hm, hs, ht⟩⟩ := h
  · exact .inl ⟨h2.1, List.eq_nil_of_length_eq_zero h2.2⟩
  · refine .inr ⟨g, cap, hv, hg, hn, ?_, ?_, ?_⟩
    · rcases Nat.lt_or_ge g w.heap.size with hlt | hge
      · exact hlt
      · rw [Array.getElem?_eq_none hge] at hh; cases hh
    · intro i x hx
      rw [Nat.zero_add, cell_of_row w g i cur e (0, 0) hh]
      have h3 : (xs.map f)[i]? = some (f x) := by rw [List.getElem?_map, hx]; rfl
      rw [← ht, List.getElem?_take] at h3
      split at h3
      · rw [← Array.getElem?_toList]; exact h3
      · cases h3
    · intro i; simp [World.frozen?, hh]
theorem Own.slice (h : Own w B e f v xs) : ∃ A c, v = .slice A xs.length c ∧ xs.length ≤ c ∧ Sl f w w.heap.size A xs ∧ (A = none → c = 0) := by
  rcases h.cases with ⟨rfl, rfl⟩ | ⟨g, c, hv, _, hc, hg, hcl, _⟩
  · exact ⟨none, 0, rfl, Nat.le_refl _, fun h => absurd h (by simp), fun _ => rfl⟩
  · exact ⟨_, c, hv, hc, fun _ => ⟨g, 0, rfl, hg, hcl⟩, fun h => by cases h⟩
theorem Own.len_le (h : Own w B e f v xs) : xs.length ≤ maxLen := by
  obtain ⟨h1, h2 | ⟨g, cap, cur, hv, hg, hh, hn, hm, _⟩⟩ := h
  · rw [h2.2]; exact Nat.zero_le _
  · omega
theorem Own.block (h : Own w B e f v xs) {k : Nat} (hk : v.ownBlock = some k) : B ≤ k := by
  obtain ⟨_, h2 | ⟨g, cap, cur, hv, hg, _⟩⟩ := h
  · rw [h2.1] at hk; cases hk
  · rw [hv] at hk; obtain rfl : g = k := by simpa [Value.ownBlock] using hk
    exact hg
theorem Own.ne {g : Nat} {t : TypeId} {cs : Array Value} (h : Own w B e f v xs) (hb : Blk w g t cs) (ht : t ≠ e) : some g ≠ v.ownBlock := by
  obtain ⟨_, h2 | ⟨g', cap, cur, hv, _, hh, _⟩⟩ := h
  · rw [h2.1]; simp [Value.ownBlock]
  · rw [hv]; intro hc
    obtain rfl : g = g' := by simpa [Value.ownBlock] using hc
    unfold Blk at hb; rw [hb] at hh; injection hh with hh; injection hh with _ h3
    exact ht h3
theorem Own.of_block (h : Own w B e f v xs) (hk : ∀ k, v.ownBlock = some k → w'.heap[k]? = w.heap[k]?) : Own w' B e f v xs := by
  obtain ⟨h1, h2 | ⟨g, cap, cur, hv, hg, hh, r⟩⟩ := h
  · exact ⟨h1, .inl h2⟩
  · exact ⟨h1, .inr ⟨g, cap, cur, hv, hg, by rw [hk g (by rw [hv]; rfl)]; exact hh, r⟩⟩
theorem Own.lt (h : Own w B e f v xs) {k : Nat} (hk : v.ownBlock = some k) : k < w.heap.size := by
  obtain ⟨_, h2 | ⟨g, cap, cur, hv, hg, hh, _⟩⟩ := h
  · rw [h2.1] at hk; cases hk
  · rw [hv] at hk; obtain rfl : g = k := by simpa [Value.ownBlock] using hk
    rcases Nat.lt_or_ge g w.heap.size with hlt | hge
    · exact hlt
    · rw [Array.getElem?_eq_none hge] at hh; cases hh
theorem Own.below {B' : Nat} (h : Own w B e f v xs) (hb : Below B' w w') (hB : w.heap.size ≤ B') : Own w' B e f v xs :=
  h.of_block fun k hk => hb.block k (by have := h.lt hk; omega)
theorem Own.alloc (h : Own w B e f v xs) (o : Obj) : Own (w.alloc o) B e f v xs :=
  h.of_block fun k hk => Below.heap_alloc w o k (h.lt hk)
theorem Own.drew (h : Own w B e f v xs) : Own w.drew B e f v xs := h
theorem Own.drewN (h : Own w B e f v xs) (n : Nat) : Own (w.drewN n) B e f v xs := h
theorem Own.setCell {g i : Nat} {t : TypeId} {cs : Array Value} (h : Own w B e f v xs) (hb : Blk w g t cs) (ht : t ≠ e) (u : Value) : Own (w.setCell ⟨g, i, none⟩ u) B e f v xs :=
  h.of_block fun k hk => Below.heap_setCell w _ u k (fun he => (h.ne hb ht) (by rw [hk]; exact congrArg some he.symm))
theorem Own.put {g : Nat} {t t' : TypeId} {cs cs' : Array Value} (h : Own w B e f v xs) (hb : Blk w g t cs) (ht : t ≠ e) (p : Put w w' g t' cs') : Own w' B e f v xs :=
  h.of_block fun k hk => p.other k (fun he => (h.ne hb ht) (by rw [hk]; exact congrArg some he.symm))
theorem Own.lit (w : World) (e : TypeId) (f : α → Value) (xs : List α) (hB : B ≤ w.heap.size) (hm : xs.length ≤ maxLen) : Own (w.alloc (.cells (row f xs) e)) B e f (.slice (some ⟨w.heap.size, 0, none⟩) xs.length xs.length) xs := by
  have := World.ownsRow_lit (base := B) (e := e) (size := 1) w (row f xs) xs.length hB hm (by rw [row_size, Nat.mul_one])
  simpa [Own, row] using this
end

section
variable {P : Program} {ops : Array Oper} {rest : List Oper} {o : Oper} {a : Act} {w : World} {Q : Exit → Act → World → Prop} {α : Type} {f : α → Value} {xs ys : List α} {B B' : Nat} {e : TypeId} {v : Value}
/-- 'append(out, ys...)', out the call's own. -/
theorem own_append (hgd : o.guard = none) (s x : Operand) (t : TypeId) (ho : o.op = .call { callee := .builtin .append, args := #[s, x], argTypes := #[t, t] })
    (i : TypeInfo) (z : Value) (bytes : Nat) (ht : P.underlying t = some (.slice e)) (hi : P.info? e = some i) (hz : i.zero = some z) (hsize : i.size = 1) (hby : i.bytes = bytes) (hzs : z.cells.size = 1)
    (hs : a.eval s = v) (hown : Own w B e f v xs) {A : Option Addr} {n c : Nat} (hx : a.eval x = .slice A n c) (hn : ys.length = n) (hA : A = none → c = 0) (hy : Sl f w B' A ys) (h1 : ∀ x, (f x).oneCell' = true)
    (hlen : (xs.length + ys.length) * bytes ≤ 140737488355328) (h63 : xs.length + ys.length ≤ maxLen) (hbase : B ≤ w.heap.size)
    (h : ∀ v' w', Own w' B e f v' (xs ++ ys) → Grow B e w w' → wpList P ops Q rest (a.put o.dst v') w') : wpList P ops Q (o :: rest) a w := by
  subst hn
  have fin : ∀ v' w', w'.ownsRow B e 1 v' (xs.length + ys.length) (xs.map f ++ ys.map f) → w.grownBy w' v.ownBlock → wpList P ops Q rest (a.put o.dst v') w' := fun v' w' ho hg => by
    refine h v' w' ?_ ⟨(Below.refl _ _).grown hg hbase fun k hk => hown.block hk, fun g t cs hte hb => (hg.block g hb.lt (hown.ne hb hte)).trans hb⟩
    unfold Own; rw [List.length_append, List.map_append]; exact ho
  cases A with
  | none =>
    obtain rfl := hA rfl
    have hys : ys = [] := by
      cases ys with
      | nil => rfl
      | cons y r => obtain ⟨_, _, hh, _⟩ := hy (by simp); cases hh
    subst hys
    refine wpList_append_own_none hgd s x t ho B e i 1 ht hi v xs.length (xs.map f) hs hown hx ?_
    have hg : w.grownBy w v.ownBlock := ⟨rfl, rfl, rfl, Nat.le_refl _, fun _ _ _ => rfl⟩
    exact fin v w (by unfold Own at hown; simpa using hown) hg
  | some ad =>
    refine wpList_append_own w hgd s x t ho B e i z 1 bytes ht hi hz hsize hby hzs (by decide) v xs.length (xs.map f) hs hown ad ys.length c (ys.map f) hx (by simp) ?_ ?_ h63 hlen hbase (fun v' w' h2 h3 _ => fin v' w' h2 h3)
    · intro j u hu
      simp only [List.getElem?_map, Option.map_eq_some_iff] at hu
      obtain ⟨y, hy', rfl⟩ := hu
      have hpos : 0 < ys.length := by
        cases ys with
        | nil => cases hy'
        | cons y r => simp
      obtain ⟨b, o', hh, _, hc⟩ := hy hpos
      obtain rfl : ad = ⟨b, o', none⟩ := by injection hh
      rw [Addr.add_lit]; exact hc j y hy'
    · intro u hu
      obtain ⟨y, _, rfl⟩ := List.mem_map.1 hu
      exact h1 y
end
end Go.Proofs.YtfcbkmgkdbdabaaDoor
