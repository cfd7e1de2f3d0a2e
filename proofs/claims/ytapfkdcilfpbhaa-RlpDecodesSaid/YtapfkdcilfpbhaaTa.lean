/- The logic: slices of the call's own: made, appended to, stored to, copied into; parts of arrays. -/
import Derived.Test.YtapfkdcilfpbhaaTk
import Derived.Laws.CopyRow
import Derived.Laws.IdiomCopy
namespace Go.Proofs.Ytapfkdcilfpbhaa
open Go.RowKit
set_option linter.unusedVariables false
set_option linter.unusedSimpArgs false

section
variable {P : Program} {ops : Array Oper} {C : World → Prop} {wl : List Nat} {Q : Exit → Act → World → Prop} {K : Act → World → Prop} {w0 : World} {Ex : List Nat} {n : Nat} {S : List (Nat × Value)} {h : Frag} {L L' : List Ent} {M M' : World → Prop} {k : List It} {l : List Oper} {rest : List (Oper × Nat × Bool)} {o : Oper} {i : Nat} {d : Tmp} {v : Value}
theorem z_gen {τ : Type} {M' : τ → World → Prop} {f : τ → Value} (hd : o.dst = some d) (hn : Nat.blt d n = true) (hg : wantS ops S o = some true)
    (hr : ∀ a w, Fr a n S → M w → ∃ g w', (execOp a.eval o).run P w = .ok (.value (f g)) w' ∧ M' g w') (hC : wl.contains i = false → ∀ g w, M' g w → C w)
    (t : ∀ g, T n ((d, f g) :: S) (M' g) (wpZ P ops C wl Q rest K)) : T n S M (wpZ P ops C wl Q ((o, i, false) :: rest) K) := fun a w ha hw => by
  unfold wpZ
  rw [if_pos (wantS_ok hg ha)]
  refine .inl ?_
  obtain ⟨g, w', e, hw'⟩ := hr a w ha hw
  unfold Oper.wp
  rw [e]
  exact ⟨fun hb => hC hb g w' hw', t g _ _ (put_some hd hn ha) hw'⟩
theorem map_some_inj {α : Type} : ∀ {l l' : List α}, l.map some = l'.map some → l = l'
  | [], [], _ => rfl
  | [], _ :: _, h => by simp at h
  | _ :: _, [], h => by simp at h
  | a :: l, b :: l', h => by
    simp only [List.map_cons, List.cons.injEq, Option.some.injEq] at h
    rw [h.1, map_some_inj h.2]
theorem parts_eval {a : Act} {parts : Array (Nat × Operand)} {vs : List (Nat × Value)} (ha : Fr a n S) (hvs : parts.toList.map (fun p => (ev S p.2).map fun v => (p.1, v)) = vs.map some) : parts.map (fun (x : Nat × Operand) => match x with | (i, x) => (i, a.eval x)) = vs.toArray := by
  apply Array.ext'
  rw [Array.toList_map]
  apply map_some_inj
  show _ = vs.map some
  rw [← hvs, List.map_map]
  apply List.map_congr_left
  intro p hp
  have hm : ((ev S p.2).map fun v => (p.1, v)) ∈ vs.map some := by rw [← hvs]; exact List.mem_map.2 ⟨p, hp, rfl⟩
  obtain ⟨u, _, hu⟩ := List.mem_map.1 hm
  cases hq : ev S p.2 with
  | none => rw [hq] at hu; cases hu
  | some x => simp [ha.eval hq]
/-- The shape of a slice of the call's own. -/
structure Shp (A : Option Addr) (N c : Nat) : Prop where
  le : N ≤ c
  nil : A = none → c = 0
  blk : 0 < N → ∃ g, A = some ⟨g, 0, none⟩
theorem Shp.none_ : Shp none 0 0 := ⟨Nat.le_refl _, fun _ => rfl, fun h => absurd h (by simp)⟩
theorem Shp.new {g N : Nat} : Shp (some ⟨g, 0, none⟩) N N := ⟨Nat.le_refl _, fun h => (by cases h), fun _ => ⟨g, rfl⟩⟩
theorem row_shape {w : World} {e : TypeId} {sz N : Nat} {v : Value} {cs : List Value} (hr : w.ownsRow 0 e sz v N cs) : ∃ A c, v = .slice A N c ∧ Shp A N c := by
  obtain ⟨_, ⟨rfl, rfl⟩ | ⟨g, cap, cur, rfl, _, _, h1, _⟩⟩ := hr
  · exact ⟨none, 0, rfl, Shp.none_⟩
  · exact ⟨_, cap, rfl, h1, (fun h => by cases h), fun _ => ⟨g, rfl⟩⟩
/-- Bytes (or numbers) of the call's own that are read. -/
theorem row_w {α : Type} {f : α → Value} {w : World} (m : Mm w0 Ex h L w) {j : Nat} {A : Option Addr} {c : Nat} {e : TypeId} {xs : List α} (hL : L[j]? = some (.row (.slice A xs.length c) e 1 (xs.map f))) : SlW w f A xs := fun hp => by
  obtain ⟨N, hr⟩ := m.ents _ (List.mem_of_getElem? hL)
  obtain ⟨_, ⟨hv, _⟩ | ⟨g, cap, cur, hv, _⟩⟩ := id hr
  · injection hv; omega
  · have hA : A = some ⟨g, 0, none⟩ := by injection hv
    subst hA
    refine ⟨g, 0, rfl, fun i x hx => ?_⟩
    have := hr.cells (g := g) rfl i (f x) (by rw [List.getElem?_map, hx]; rfl)
    rw [Addr.add_lit] at this
    exact this
theorem row_cell {α : Type} [Inhabited α] {f : α → Value} {w : World} (m : Mm w0 Ex h L w) {j g : Nat} {c : Nat} {e : TypeId} {xs : List α} (hL : L[j]? = some (.row (.slice (some ⟨g, 0, none⟩) xs.length c) e 1 (xs.map f))) {q : Nat} (hq : q < xs.length) : w.cell? ⟨g, q, none⟩ = some (f (lget xs q)) := by
  obtain ⟨b, o, hA, hc⟩ := row_w m hL (by omega)
  have h1 := hc q _ (lget_at hq)
  injection hA with hA
  injection hA with h2 h3
  subst h2; subst h3
  rwa [Nat.zero_add] at h1
theorem z_buildSlice {t e : TypeId} {N sz : Nat} {parts : Array (Nat × Operand)} {vs : List (Nat × Value)} {cs : List Value} (ho : o.op = .buildSlice t N parts) (hvs : parts.toList.map (fun p => (ev S p.2).map fun v => (p.1, v)) = vs.map some)
    (hb : ∀ w, (Instr.buildSlice t N vs.toArray).run P w = .ok (.slice (some ⟨w.heap.size, 0, none⟩) N N) (w.alloc (.cells cs.toArray e))) (hl : cs.length = N * sz) (hm : N ≤ maxLen) (hd : o.dst = some d) (hn : Nat.blt d n = true) (hg : wantS ops S o = some true)
    (hC : wl.contains i = false → ∀ g w, Mm w0 Ex h (.row (.slice (some ⟨g, 0, none⟩) N N) e sz cs :: L) w → C w)
    (t : ∀ g, T n ((d, .slice (some ⟨g, 0, none⟩) N N) :: S) (Mm w0 Ex h (.row (.slice (some ⟨g, 0, none⟩) N N) e sz cs :: L)) (wpZ P ops C wl Q rest K)) :
    T n S (Mm w0 Ex h L) (wpZ P ops C wl Q ((o, i, false) :: rest) K) := by
  refine z_gen (f := fun g => .slice (some ⟨g, 0, none⟩) N N) (M' := fun g => Mm w0 Ex h (.row (.slice (some ⟨g, 0, none⟩) N N) e sz cs :: L)) hd hn hg (fun a w ha hw => ⟨w.heap.size, w.alloc (.cells cs.toArray e), ?_, ?_⟩) hC t
  · have hp := parts_eval ha hvs
    unfold execOp
    simp only [ho]
    rw [hp]
    simp [hb w]
  · refine hw.push ⟨N, ?_⟩ (fun g k => by obtain rfl := Option.some.inj k; exact Nat.le_refl _) ((Below.refl _ _).alloc (Nat.le_refl _) _)
    exact ⟨hl, .inr ⟨w.heap.size, N, cs.toArray, rfl, Nat.zero_le _, heap_alloc_new w _, Nat.le_refl _, hm, by simpa using hl, by rw [← hl]; simp⟩⟩
theorem z_buildSlice' {α : Type} {f : α → Value} {xs : List α} {t e : TypeId} {N : Nat} {parts : Array (Nat × Operand)} {vs : List (Nat × Value)} (ho : o.op = .buildSlice t N parts) (hvs : parts.toList.map (fun p => (ev S p.2).map fun v => (p.1, v)) = vs.map some)
    (hb : ∀ w, (Instr.buildSlice t N vs.toArray).run P w = .ok (.slice (some ⟨w.heap.size, 0, none⟩) N N) (w.alloc (.cells (xs.map f).toArray e))) (hl : xs.length = N) (hm : Nat.ble N 9223372036854775807 = true) (hd : o.dst = some d) (hn : Nat.blt d n = true) (hg : wantS ops S o = some true)
    (hC : wl.contains i = false → ∀ g w, Mm w0 Ex h (.row (.slice (some ⟨g, 0, none⟩) xs.length N) e 1 (xs.map f) :: L) w → C w)
    (t : ∀ g, Shp (some ⟨g, 0, none⟩) xs.length N → T n ((d, .slice (some ⟨g, 0, none⟩) xs.length N) :: S) (Mm w0 Ex h (.row (.slice (some ⟨g, 0, none⟩) xs.length N) e 1 (xs.map f) :: L)) (wpZ P ops C wl Q rest K)) :
    T n S (Mm w0 Ex h L) (wpZ P ops C wl Q ((o, i, false) :: rest) K) := by
  subst hl
  exact z_buildSlice (sz := 1) ho hvs hb (by simp) (by simpa [Nat.ble_eq, maxLen] using hm) hd hn hg hC (fun g => t g Shp.new)
/-- nil is a slice of the call's own. -/
theorem t_nil {e : TypeId} {sz : Nat} {G : Act → World → Prop} (t : T n S (Mm w0 Ex h (.row (.slice none 0 0) e sz [] :: L)) G) : T n S (Mm w0 Ex h L) G := fun a w ha hw =>
  t a w ha (hw.push ⟨0, by simp, .inl ⟨rfl, rfl⟩⟩ (fun g k => by cases k) (Below.refl _ _))
theorem run_append_none {t ty e : TypeId} {i : TypeInfo} (ht : P.underlying t = some (.slice e)) (hi : P.info? e = some i) {w : World} {sz N : Nat} {v : Value} {cs : List Value} (hown : w.ownsRow 0 e sz v N cs) (c : Nat) : (Builtin.append_ #[t, t] ty #[v, .slice none 0 c]).run P w = .ok v w := by
  rcases hown.2 with ⟨rfl, rfl⟩ | ⟨g, cap, cur, rfl, _, _, hnc, _⟩
  · simp [Builtin.append_, run_underlying ht, sizeOf, typeInfo, hi, Builtin.lenOf, Builtin.firstCells]
  · simp [Builtin.append_, run_underlying ht, sizeOf, typeInfo, hi, Builtin.lenOf, Builtin.firstCells, hnc, storeCells]
/-- append(xs, ys...) -/
theorem z_append {α : Type} {f : α → Value} {t e : TypeId} {ts : Array TypeId} {s x : Operand} {j bytes : Nat} {z : Value} {A B : Option Addr} {c c2 : Nat} {xs ys zs : List α} (ho : o.op = .call { callee := .builtin .append, args := #[s, x], argTypes := ts }) (hts : ts = #[t, t]) (ht : P.underlying t = some (.slice e))
    (hi : (P.info? e).map (fun i => (i.zero, i.size, i.bytes)) = some (some z, 1, bytes)) (hz1 : z.cells.size = 1) (hs : ev S s = some (.slice A xs.length c)) (hL : L[j]? = some (.row (.slice A xs.length c) e 1 (xs.map f))) (hx : ev S x = some (.slice B ys.length c2))
    (hy : ∀ w, Mm w0 Ex h L w → SlW w f B ys) (h1 : ∀ x, (f x).oneCell' = true) (hb : (xs.length + ys.length) * bytes ≤ 140737488355328) (hb1 : 0 < bytes) (hzs : zs = xs ++ ys) (Lf : Option Addr → Nat → List Ent) (hLf : ∀ A' c', L.set j (.row (.slice A' zs.length c') e 1 (zs.map f)) = Lf A' c')
    (hd : o.dst = some d) (hn : Nat.blt d n = true) (hg : wantS ops S o = some true) (hC : wl.contains i = false → ∀ A' c' w, Mm w0 Ex h (Lf A' c') w → C w)
    (k : ∀ A' c', Shp A' zs.length c' → T n ((d, .slice A' zs.length c') :: S) (Mm w0 Ex h (Lf A' c')) (wpZ P ops C wl Q rest K)) :
    T n S (Mm w0 Ex h L) (wpZ P ops C wl Q ((o, i, false) :: rest) K) := by
  subst hts
  refine z_gen (τ := { g : Option Addr × Nat // Shp g.1 zs.length g.2 }) (f := fun g => .slice g.1.1 zs.length g.1.2) (M' := fun g => Mm w0 Ex h (Lf g.1.1 g.1.2)) hd hn hg (fun a w ha hw => ?_) (fun hb' g w hm => hC hb' _ _ w hm) (fun g => k _ _ g.2)
  obtain ⟨ti, hti, hzz⟩ := Option.map_eq_some_iff.1 hi
  simp only [Prod.mk.injEq] at hzz
  obtain ⟨hz0, hsz, hby⟩ := hzz
  obtain ⟨N, hown⟩ := hw.ents _ (List.mem_of_getElem? hL)
  obtain rfl : xs.length = N := by have := hown.1; simp at this; exact this
  have hlen : xs.length + ys.length ≤ maxLen := by
    have : (xs.length + ys.length) * 1 ≤ (xs.length + ys.length) * bytes := Nat.mul_le_mul_left _ hb1
    simp only [maxLen]; omega
  have hrun : ∃ v1 w1, (Builtin.append_ #[t, t] o.type #[.slice A xs.length c, .slice B ys.length c2]).run P w = .ok v1 w1 ∧ w1.ownsRow 0 e 1 v1 zs.length (zs.map f) ∧ w.grownBy w1 (Value.slice A xs.length c).ownBlock ∧ (v1.ownBlock = (Value.slice A xs.length c).ownBlock ∨ v1.ownBlock = some w.heap.size) := by
    by_cases h0 : 0 < ys.length
    · obtain ⟨b, q, rfl, hc⟩ := hy w hw h0
      obtain ⟨v1, w1, e1, e2, e3, _, e5⟩ := run_append_own_at (P := P) (w := w) 0 t o.type e ti z 1 bytes ht hti hz0 hsz hby hz1 (by decide) (.slice A xs.length c) xs.length (xs.map f) hown ⟨b, q, none⟩ ys.length c2 (ys.map f) (by simp)
        (fun p u hu => by
          rw [List.getElem?_map] at hu
          obtain ⟨y, hy', rfl⟩ := Option.map_eq_some_iff.1 hu
          rw [Addr.add_lit]; exact hc p y hy')
        (fun u hu => by obtain ⟨y, _, rfl⟩ := List.mem_map.1 hu; exact h1 y) hlen hb (Nat.zero_le _)
      refine ⟨v1, w1, e1, ?_, e3, e5⟩
      subst hzs
      simpa using e2
    · have hy0 : ys = [] := List.eq_nil_of_length_eq_zero (by omega)
      subst hy0
      have hzx : zs = xs := by rw [hzs]; simp
      subst hzx
      have hg0 : w.grownBy w (Value.slice A zs.length c).ownBlock := ⟨rfl, rfl, rfl, Nat.le_refl _, fun _ _ _ => rfl⟩
      cases B with
      | none => exact ⟨_, w, run_append_none ht hti hown c2, hown, hg0, .inl rfl⟩
      | some ad =>
        obtain ⟨v1, w1, e1, e2, e3, _, e5⟩ := run_append_own_at (P := P) (w := w) 0 t o.type e ti z 1 bytes ht hti hz0 hsz hby hz1 (by decide) (.slice A zs.length c) zs.length (zs.map f) hown ad 0 c2 [] (by simp) (fun p u hu => by simp at hu) (fun u hu => by cases hu) hlen hb (Nat.zero_le _)
        exact ⟨v1, w1, e1, by simpa using e2, e3, e5⟩
  obtain ⟨v1, w1, e1, e2, e3, e5⟩ := hrun
  obtain ⟨A', c', rfl, hsh⟩ := row_shape e2
  refine ⟨⟨(A', c'), hsh⟩, w1, ?_, ?_⟩
  · unfold execOp
    simp [ho, resolve, ha.eval hs, ha.eval hx, invoke, builtin, e1]
  · show Mm w0 Ex h (Lf A' c') w1
    rw [← hLf]
    refine hw.change hL (fun g k => ?_) ⟨_, e2⟩ e3.os e3.tape e3.output e3.size (fun q hq hlt => e3.block q hlt (fun e => hq e.symm))
    rcases e5 with e5 | e5
    · left; exact e5.symm.trans k
    · right; have k' : (Value.slice A' zs.length c').ownBlock = some g := k; rw [e5] at k'; obtain rfl := Option.some.inj k'; exact Nat.le_refl _
/-- A store into a slice of the call's own. -/
theorem z_storeRow {α : Type} {f : α → Value} {ty : TypeId} {x y : Operand} {j q g : Nat} {e : TypeId} {c : Nat} {xs zs : List α} {u : α} (ho : o.op = .store ty x y) (hx : ev S x = some (.pointer (some ⟨g, q, none⟩))) (hy : ev S y = some v) (hv : f u = v) (h1 : v.cells = #[v]) (h2 : v.oneCell' = true) (hs : (P.info? ty).map (·.size) = some 1)
    (hL : L[j]? = some (.row (.slice (some ⟨g, 0, none⟩) xs.length c) e 1 (xs.map f))) (hq : q < xs.length) (hzs : zs = xs.set q u) (hL' : L.set j (.row (.slice (some ⟨g, 0, none⟩) zs.length c) e 1 (zs.map f)) = L') (hd : o.dst = none) (hg : wantS ops S o = some true) (hC : wl.contains i = false → ∀ w, Mm w0 Ex h L' w → C w)
    (t : T n S (Mm w0 Ex h L') (wpZ P ops C wl Q rest K)) : T n S (Mm w0 Ex h L) (wpZ P ops C wl Q ((o, i, false) :: rest) K) := by
  subst hv
  have hzl : zs.length = xs.length := by rw [hzs, List.length_set]
  refine z_store (M' := Mm w0 Ex h L') (fun a w ha hw => ?_) hd hg hC t
  obtain ⟨N, hown⟩ := hw.ents _ (List.mem_of_getElem? hL)
  obtain rfl : xs.length = N := by have := hown.1; simp at this; exact this
  have hc : (w.cell? ⟨g, q, none⟩).isSome = true := by
    have h3 : (xs.map f)[q]? = some (f (xs[q])) := by simp [hq]
    have := hown.cells (g := g) rfl q _ h3
    rw [Addr.add_lit, Nat.zero_add] at this
    rw [this]; rfl
  obtain ⟨cell, hcell⟩ := Option.isSome_iff_exists.1 hc
  have hfr : w.frozen? ⟨g, q, none⟩ = false := by
    obtain ⟨_, ⟨hv, _⟩ | ⟨g', cap, cur, hv, _, hh, _⟩⟩ := hown
    · cases hv
    · obtain rfl : g = g' := by injection hv with hv; injection hv with hv; injection hv
      simp [World.frozen?, hh]
  refine ⟨w.setCell ⟨g, q, none⟩ (f u), ?_, ?_⟩
  · unfold execOp
    simp [ho, ha.eval hx, ha.eval hy, Instr.storeAt, Instr.sureAddr, run_storeVar_1 hs h1 h2 hcell hfr]
  · subst hL'
    obtain ⟨h3, h4⟩ := hown.stored q (f u)
    refine hw.change hL (fun g' k => .inl k) ⟨zs.length, ?_⟩ rfl rfl rfl (by simp) (fun k hk _ => Below.heap_setCell _ _ _ _ (fun e => hk (by rw [e]; rfl)))
    subst hzs
    rw [List.map_set]
    rw [List.length_set]
    exact h3

/-- The same, the address by a fact. -/
theorem row_cell' {α : Type} [Inhabited α] {f : α → Value} {w : World} (m : Mm w0 Ex h L w) {j g : Nat} {A : Option Addr} {c : Nat} {e : TypeId} {xs : List α} (hL : L[j]? = some (.row (.slice A xs.length c) e 1 (xs.map f))) (hA : A = some ⟨g, 0, none⟩) {q : Nat} (hq : q < xs.length) : w.cell? ⟨g, q, none⟩ = some (f (lget xs q)) := by
  subst hA; exact row_cell m hL hq
theorem z_storeRow' {α : Type} {f : α → Value} {ty : TypeId} {x y : Operand} {j q g : Nat} {e : TypeId} {A : Option Addr} {c : Nat} {xs zs : List α} {u : α} (ho : o.op = .store ty x y) (hx : ev S x = some (.pointer (some ⟨g, q, none⟩))) (hy : ev S y = some v) (hv : f u = v) (h1 : v.cells = #[v]) (h2 : v.oneCell' = true) (hs : (P.info? ty).map (·.size) = some 1)
    (hL : L[j]? = some (.row (.slice A xs.length c) e 1 (xs.map f))) (hA : A = some ⟨g, 0, none⟩) (hq : q < xs.length) (hzs : zs = xs.set q u) (hL' : L.set j (.row (.slice A zs.length c) e 1 (zs.map f)) = L') (hd : o.dst = none) (hg : wantS ops S o = some true) (hC : wl.contains i = false → ∀ w, Mm w0 Ex h L' w → C w)
    (t : T n S (Mm w0 Ex h L') (wpZ P ops C wl Q rest K)) : T n S (Mm w0 Ex h L) (wpZ P ops C wl Q ((o, i, false) :: rest) K) := by
  subst hA; exact z_storeRow ho hx hy hv h1 h2 hs hL hq hzs hL' hd hg hC t
/-- A slice of the call's own that is handed back. -/
def OwnR {α : Type} (w w' : World) (e : TypeId) (f : α → Value) (A : Option Addr) (c : Nat) (xs : List α) : Prop := Shp A xs.length c ∧ (∃ m, w'.ownsRow 0 e 1 (.slice A xs.length c) m (xs.map f)) ∧ ∀ g, (Value.slice A xs.length c).ownBlock = some g → w.heap.size ≤ g
theorem row_out {α : Type} {f : α → Value} {w : World} (m : Mm w0 [] h L w) {j : Nat} {A : Option Addr} {c : Nat} {e : TypeId} {xs : List α} (hL : L[j]? = some (.row (.slice A xs.length c) e 1 (xs.map f))) (hs : Shp A xs.length c) : OwnR w0 w e f A c xs :=
  ⟨hs, m.ents _ (List.mem_of_getElem? hL), fun g k => by
    rcases m.own _ (List.mem_of_getElem? hL) g k with h1 | h1
    · exact h1
    · cases h1⟩
theorem row_out_nil {α : Type} {f : α → Value} {w : World} {e : TypeId} : OwnR w0 w e f none 0 ([] : List α) := ⟨Shp.none_, ⟨0, by simp, .inl ⟨rfl, rfl⟩⟩, fun g k => by cases k⟩
/-- A call that hands back a slice of its own, beside other things. -/
theorem z_madeS {α : Type} {f : α → Value} {F : Option Addr → Nat → Value} {e : TypeId} {xs : List α} {fid : FuncId} {fn : Func} {ags : Array Operand} {ts : Array TypeId} {vs : List Value} (ho : o.op = .call { callee := .value (.func fid), args := ags, argTypes := ts }) (hf : P.funcs[fid]? = some fn) (hname : (fn.name == "runtime.NumGoroutine") = false) (hb : fn.body.isSome = true) (hargs : evs S ags.toList = some vs)
    (hc : ∀ w, Mm w0 Ex h L w → Calls P fid vs.toArray w fun r w' => ∃ A c, r = .returned (F A c) ∧ Below w.heap.size w w' ∧ OwnR w w' e f A c xs) (hd : o.dst = some d) (hn : Nat.blt d n = true) (hg : wantS ops S o = some true) (hC : wl.contains i = false → ∀ A c w, Mm w0 Ex h (.row (.slice A xs.length c) e 1 (xs.map f) :: L) w → C w)
    (t : ∀ A c, Shp A xs.length c → T n ((d, F A c) :: S) (Mm w0 Ex h (.row (.slice A xs.length c) e 1 (xs.map f) :: L)) (wpZ P ops C wl Q rest K)) : T n S (Mm w0 Ex h L) (wpZ P ops C wl Q ((o, i, false) :: rest) K) :=
  z_call (M' := fun u w => ∃ A c, Shp A xs.length c ∧ u = F A c ∧ Mm w0 Ex h (.row (.slice A xs.length c) e 1 (xs.map f) :: L) w) ho hf hname hb hargs
    (fun w hw => (hc w hw).mono fun r w' ⟨A, c, he, hB, h1, h2, h3⟩ => ⟨_, he, A, c, h1, rfl, hw.push h2 h3 hB⟩) hd hn hg (fun hb' u w ⟨A, c, _, _, hm⟩ => hC hb' A c w hm)
    (fun u a w ha ⟨A, c, h1, h2, hm⟩ => by subst h2; exact t A c h1 a w ha hm)

/-! ### Parts of arrays -/
end
section
variable {α : Type} [Inhabited α] {n : Nat}
def Vec.part (x : Vec α n) (o m : Nat) : Vec α m := ⟨(List.range m).map fun i => x.get (o + i), by simp⟩
theorem Vec.get_part (x : Vec α n) (o m : Nat) {i : Nat} (h : i < m) : (x.part o m).get i = x.get (o + i) := by simp [Vec.get, Vec.part, h]
/-- Some of it replaced. -/
def Vec.put (x : Vec α n) (o : Nat) (l : List α) : Vec α n := ⟨(List.range n).map fun i => if o ≤ i ∧ i < o + l.length then lget l (i - o) else x.get i, by simp⟩
theorem Vec.get_put (x : Vec α n) (o : Nat) (l : List α) {i : Nat} (h : i < n) : (x.put o l).get i = if o ≤ i ∧ i < o + l.length then lget l (i - o) else x.get i := by simp [Vec.get, Vec.put, h]
end
section
variable {P : Program} {ops : Array Oper} {C : World → Prop} {wl : List Nat} {Q : Exit → Act → World → Prop} {K : Act → World → Prop} {w0 : World} {Ex : List Nat} {n : Nat} {S : List (Nat × Value)} {h : Frag} {L L' : List Ent} {M M' : World → Prop} {rest : List (Oper × Nat × Bool)} {o : Oper} {i : Nat} {d : Tmp} {v : Value}
/-- A slice of an array of the call's own, read. -/
theorem sla_w {α : Type} {f : α → Value} {w : World} {N g q ln hn j room : Nat} {t0 : TypeId} {x : Vec α N} (m : Mm w0 Ex h L w) (hL : L[j]? = some (.blk g t0 (cV f x) room)) (hq : q = if N = ln then 0 else ln) {xs : List α} (hx : xs = (x.l.take hn).drop ln) : SlW w f (some ⟨g, q, none⟩) xs := fun hp => by
  subst hx
  have hN : N ≠ ln := by intro e; subst e; simp [x.hl] at hp; omega
  rw [if_neg hN] at hq
  subst hq
  refine ⟨g, q, rfl, fun i y hy => m.cell hL ?_⟩
  rw [List.getElem?_drop, List.getElem?_take] at hy
  split at hy
  · unfold cV; rw [List.getElem?_map, hy]; rfl
  · cases hy
theorem sla_len {α : Type} {N ln hn : Nat} (x : Vec α N) (h2 : hn ≤ N) : ((x.l.take hn).drop ln).length = hn - ln := by simp [x.hl]; omega
/-- An array's address, out of a slice of an array. -/
theorem val_s2a {t e : TypeId} {N m c : Nat} {x : Operand} {A : Addr} (ho : o.op = .sliceToArrayPointer t x) (hx : ev S x = some (.slice (some A) m c)) (hu : P.underlying t = some (.array N e)) (hm : N ≤ m) : Val P n S M o (.pointer (some A)) := fun a w ha _ => by
  unfold execOp
  simp [ho, ha.eval hx, Instr.arrayAt, run_underlying hu, show ¬ m < N by omega, Result.andThen]
theorem Mm.part_ {α : Type} [Inhabited α] {f : α → Value} {w : World} {N m g ln j room : Nat} {t0 : TypeId} {x : Vec α N} (hw : Mm w0 Ex h L w) (hL : L[j]? = some (.blk g t0 (cV f x) room)) (hl : ln + m ≤ N) : w.rangeAt g ln (cV f (x.part ln m)) := hw.range hL ln _ (fun q u hu => by
  have hq : q < m := by have := (List.getElem?_eq_some_iff.1 hu).1; rw [cV_len] at this; exact this
  rw [cV_at _ hq, Vec.get_part x ln m hq] at hu
  rw [cV_at x (show ln + q < N by omega)]; exact hu)
/-- copy(a[l:k], ys), a an array of the call's own -/
theorem z_copyA {α : Type} [Inhabited α] {f : α → Value} {dT sT e : TypeId} {ts : Array TypeId} {x y : Operand} {j N g q ln : Nat} {t0 : TypeId} {a a' : Vec α N} {m m0 c0 c2 : Nat} {B : Option Addr} {ys : List α} {r : Int} (ho : o.op = .call { callee := .builtin .copy, args := #[x, y], argTypes := ts }) (hts : ts = #[dT, sT]) (hu : P.underlying dT = some (.slice e)) (hs : (P.info? e).map (·.size) = some 1)
    (hx : ev S x = some (.slice (some ⟨g, q, none⟩) m0 c0)) (hm0 : m0 = m) (hy : ev S y = some (.slice B ys.length c2)) (hL : L[j]? = some (.blk g t0 (cV f a) N)) (hq : q = if N = ln then 0 else ln) (hln : ln + m ≤ N) (hys : ∀ w, Mm w0 Ex h L w → SlW w f B ys) (h1 : ∀ x, (f x).oneCell' = true)
    (ha' : a' = a.put ln (ys.take m)) (hr : r = (Nat.min ys.length m : Nat)) (hL' : L.set j (.blk g t0 (cV f a') N) = L') (hd : o.dst = some d) (hn : Nat.blt d n = true) (hg : wantS ops S o = some true) (hC : wl.contains i = false → ∀ w, Mm w0 Ex h L' w → C w)
    (t : T n ((d, .int .i64 r) :: S) (Mm w0 Ex h L') (wpZ P ops C wl Q rest K)) : T n S (Mm w0 Ex h L) (wpZ P ops C wl Q ((o, i, false) :: rest) K) := by
  subst hts; subst hr; subst hm0
  refine z_gen (τ := Unit) (f := fun _ => .int .i64 (Nat.min ys.length m0 : Nat)) (M' := fun _ => Mm w0 Ex h L') hd hn hg (fun ac w ha hw => ?_) (fun hb _ w hm => hC hb w hm) (fun _ => t)
  have hmin : (ys.take m0).length = Nat.min ys.length m0 := by rw [List.length_take]; exact Nat.min_comm _ _
  by_cases h0 : Nat.min ys.length m0 = 0
  · have e1 := run_copy_none (P := P) w dT sT o.type e (some ⟨g, q, none⟩) B m0 c0 ys.length c2 hu hs h0
    refine ⟨(), w, ?_, ?_⟩
    · unfold execOp
      simp [ho, resolve, ha.eval hx, ha.eval hy, invoke, builtin, e1, h0, goInt]
    · have hye : ys.take m0 = [] := List.eq_nil_of_length_eq_zero (by omega)
      have haa : a' = a := by
        rw [ha', hye]
        apply Vec.ext_get
        intro p hp
        rw [Vec.get_put _ _ _ hp, if_neg (by simp)]
      subst haa
      have : L' = L := by
        rw [← hL']
        apply List.ext_getElem?
        intro p
        rw [List.getElem?_set]
        split
        · rename_i e; subst e; rw [hL]; split
          · rfl
          · rename_i hlt; exact absurd (List.getElem?_eq_some_iff.1 hL).1 hlt
        · rfl
      rw [this]; exact hw
  · have hpos : 0 < ys.length := by rcases Nat.eq_zero_or_pos ys.length with e | e; · rw [e] at h0; simp at h0
                                    · exact e
    have hm1 : 0 < m0 := by rcases Nat.eq_zero_or_pos m0 with e | e; · rw [e] at h0; simp at h0
                            · exact e
    obtain ⟨b, p0, rfl, hc⟩ := hys w hw hpos
    rw [if_neg (show N ≠ ln by omega)] at hq
    subst hq
    have hh := on_whole (hw.ents _ (List.mem_of_getElem? hL)) (cV_len a)
    have e1 := run_copy_row (P := P) w dT sT o.type e g q m0 c0 ⟨b, p0, none⟩ ys.length c2 (cV f a).toArray t0 ((ys.take m0).map f) hu hs hh (by rw [List.length_map]; exact hmin) (fun p u hu' => by
      rw [List.getElem?_map] at hu'
      obtain ⟨y', hy', rfl⟩ := Option.map_eq_some_iff.1 hu'
      rw [List.getElem?_take] at hy'
      split at hy'
      · rw [Addr.add_lit]; exact hc p y' hy'
      · cases hy') (by simp [hmin, cV_len]; have : Nat.min ys.length m0 ≤ m0 := Nat.min_le_right _ _; omega) (fun u hu' => by obtain ⟨y', _, rfl⟩ := List.mem_map.1 hu'; exact h1 y')
    have hcells : ((cV f a).toArray.toList.take q ++ (ys.take m0).map f ++ (cV f a).toArray.toList.drop (q + ((ys.take m0).map f).length)) = cV f a' := by
      apply List.ext_getElem?
      intro p
      have hml : (ys.take m0).length ≤ m0 := by rw [List.length_take]; exact Nat.min_le_left _ _
      by_cases hp : p < N
      · rw [cV_at a' hp, ha', Vec.get_put _ _ _ hp]
        simp only [List.length_map]
        by_cases hp1 : p < q
        · rw [if_neg (by omega), List.append_assoc, List.getElem?_append_left (by simp [cV_len]; omega), List.getElem?_take_of_lt hp1]
          exact cV_at a hp
        · by_cases hp2 : p < q + (ys.take m0).length
          · rw [if_pos ⟨by omega, hp2⟩, List.append_assoc, List.getElem?_append_right (by simp; omega), List.getElem?_append_left (by simp [cV_len]; simp at hp2; omega)]
            simp only [List.length_take, List.getElem?_map]
            rw [show min q (cV f a).toArray.toList.length = q by simp [cV_len]; omega]
            rw [lget_at (show p - q < (ys.take m0).length by omega)]
            rfl
          · rw [if_neg (by omega), List.append_assoc, List.getElem?_append_right (by simp; omega), List.getElem?_append_right (by simp [cV_len] at *; omega), List.getElem?_drop]
            rw [← cV_at a hp]
            simp only [List.length_map]
            congr 1
            simp [cV_len] at *
            omega
      · rw [List.getElem?_eq_none (by simp [cV_len] at *; omega), List.getElem?_eq_none (by rw [cV_len]; omega)]
    rw [hcells, List.length_map, hmin] at e1
    refine ⟨(), w.setRow g (cV f a').toArray, ?_, ?_⟩
    · unfold execOp
      simp [ho, resolve, ha.eval hx, ha.eval hy, invoke, builtin, e1, goInt]
    · rw [← hL']
      refine hw.change hL (fun g' k => .inl k) ?_ rfl rfl rfl (by simp) (fun k hk _ => ?_)
      · exact ⟨(cV f a').toArray, setRow_heap w g _ _ t0 _ hh, by simp [cV_len], fun p u hp => by simpa using hp⟩
      · simp only [World.setRow, Array.getElem?_modify]
        rw [if_neg (fun e => hk (by rw [← e]; rfl))]
/-- A built array. -/
theorem val_build {t : TypeId} {parts : Array (Nat × Operand)} {vs : List (Nat × Value)} (ho : o.op = .build t parts) (hvs : parts.toList.map (fun p => (ev S p.2).map fun v => (p.1, v)) = vs.map some) (hb : ∀ w, (Instr.build t vs.toArray).run P w = .ok v w) : Val P n S M o v := fun a w ha _ => by
  have hp := parts_eval ha hvs
  unfold execOp
  simp only [ho]
  rw [hp]
  simp [hb w]
end
end Go.Proofs.Ytapfkdcilfpbhaa
