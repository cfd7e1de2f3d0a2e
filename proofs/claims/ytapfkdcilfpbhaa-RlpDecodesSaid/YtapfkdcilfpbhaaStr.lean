/- Structs: what cells say of them; slices of them that are sealed; fields in memory. -/
import Derived.Test.YtapfkdcilfpbhaaExt
import Derived.Laws.OwnMore
import Derived.Laws.Small
namespace Go.Proofs.Ytapfkdcilfpbhaa
open Go.RowKit
set_option linter.unusedVariables false
set_option linter.unusedSimpArgs false
instance {α : Type} [Inhabited α] {n : Nat} : Inhabited (Vec α n) := ⟨Vec.rep n default⟩
theorem cV_lit {α : Type} [Inhabited α] {n : Nat} {f : α → Value} (x : Vec α n) : cV f x = (List.range n).map fun i => f (x.get i) := by
  apply List.ext_getElem?
  intro i
  by_cases hi : i < n
  · rw [cV_at x hi]; simp [hi]
  · rw [List.getElem?_eq_none (by rw [cV_len]; omega), List.getElem?_eq_none (by simp; omega)]
/-- How a value stands in cells, its slices sealed. -/
structure Rp (α : Type) where
  sz : Nat
  rep : Frag → α → List Value → Prop
  up : ∀ {h h' : Frag} {x : α} {cs : List Value}, Sub h h' → rep h x cs → rep h' x cs
  len : ∀ {h : Frag} {x : α} {cs : List Value}, rep h x cs → cs.length = sz
  one : ∀ {h : Frag} {x : α} {cs : List Value}, rep h x cs → ∀ u ∈ cs, u.oneCell' = true
def arrR {α : Type} (f : α → Value) (hf : ∀ y, (f y).oneCell' = true) (n : Nat) : Rp (Vec α n) := ⟨n, fun _ x cs => cs = cV f x, fun _ r => r, fun r => by rw [r]; exact cV_len _, fun r => by rw [r]; exact cV_one hf _⟩
def scR {α : Type} (f : α → Value) (hf : ∀ y, (f y).oneCell' = true) : Rp α := ⟨1, fun _ x cs => cs = [f x], fun _ r => r, fun r => by rw [r]; rfl, fun r => by rw [r]; exact fun u hu => by obtain rfl := List.mem_singleton.1 hu; exact hf _⟩
section
variable {α : Type} {h h' : Frag} {R : Rp α} {A : Option Addr} {xs : List α} {w0 w : World} {Ex : List Nat} {L : List Ent}
/-- A slice whose cells are sealed. -/
def SlR (h : Frag) (R : Rp α) (A : Option Addr) (xs : List α) : Prop := 0 < xs.length → ∃ b o, A = some ⟨b, o, none⟩ ∧ ∀ (i : Nat) (x : α), xs[i]? = some x → ∃ cs, R.rep h x cs ∧ ∀ (k : Nat) (v : Value), cs[k]? = some v → HC h b (o + i * R.sz + k) v
def SlRW (w : World) (R : Rp α) (A : Option Addr) (xs : List α) : Prop := SlR (snap w) R A xs
theorem SlR.up (s : Sub h h') (r : SlR h R A xs) : SlR h' R A xs := fun hp => by
  obtain ⟨b, o, hA, hc⟩ := r hp
  exact ⟨b, o, hA, fun i x hx => by obtain ⟨cs, h1, h2⟩ := hc i x hx; exact ⟨cs, R.up s h1, fun k v hv => (h2 k v hv).up s⟩⟩
theorem SlRW.toH (r : SlRW w R A xs) : SlR (snap w) R A xs := r
theorem Mm.sub_snap (m : Mm w0 Ex h L w) : Sub h (snap w) := fun k o e => by
  have := m.seal_ k o e
  simpa [snap] using this
theorem SlR.toW (r : SlR h R A xs) (m : Mm w0 Ex h L w) : SlRW w R A xs := r.up m.sub_snap
theorem SlR.at_ [Inhabited α] (r : SlR h R A xs) {i : Nat} (hi : i < xs.length) : ∃ b o, A = some ⟨b, o, none⟩ ∧ ∃ cs, R.rep h (lget xs i) cs ∧ ∀ (k : Nat) (v : Value), cs[k]? = some v → HC h b (o + i * R.sz + k) v := by
  obtain ⟨b, o, hA, hc⟩ := r (by omega)
  exact ⟨b, o, hA, hc i _ (lget_at hi)⟩
theorem SlR.nil : SlR h R A ([] : List α) := fun hp => absurd hp (by simp)
end
section
variable {a b vs : List Value} {n k : Nat} {v : Value}
theorem cells_here (h : a[k]? = some v) : (a ++ b)[k]? = some v := by
  rw [List.getElem?_append_left (List.getElem?_eq_some_iff.1 h).1]; exact h
theorem cells_skip (ha : a.length = n) (h : b[k]? = some v) : (a ++ b)[n + k]? = some v := by
  subst ha; rw [List.getElem?_append_right (by omega), Nat.add_sub_cancel_left]; exact h
theorem seg_here : ∀ (q : Nat) (u : Value), a[q]? = some u → (a ++ b)[0 + q]? = some u := fun q u hu => by rw [Nat.zero_add]; exact cells_here hu
theorem seg_all : ∀ (q : Nat) (u : Value), a[q]? = some u → a[0 + q]? = some u := fun q u hu => by rwa [Nat.zero_add]
theorem seg_skip (ha : a.length = n) (h : ∀ (q : Nat) (u : Value), vs[q]? = some u → b[k + q]? = some u) : ∀ (q : Nat) (u : Value), vs[q]? = some u → (a ++ b)[(n + k) + q]? = some u := fun q u hu => by
  rw [Nat.add_assoc]; exact cells_skip ha (h q u hu)
end
theorem SlH.nil {α : Type} {h : Frag} {f : α → Value} {A : Option Addr} : SlH h f A ([] : List α) := fun hp => absurd hp (by simp)
/-- Slices as elements. -/
def slR {α : Type} (f : α → Value) : Rp (List α) := ⟨1, fun h xs cs => ∃ (A : Option Addr) (c : Nat), cs = [.slice A xs.length c] ∧ SlH h f A xs ∧ xs.length ≤ c, fun s ⟨A, c, e, hs, hc⟩ => ⟨A, c, e, hs.up s, hc⟩, fun ⟨A, c, e, _⟩ => by rw [e]; rfl, fun ⟨A, c, e, _⟩ => by rw [e]; exact fun u hu => by obtain rfl := List.mem_singleton.1 hu; rfl⟩
def slRR {α : Type} (R : Rp α) : Rp (List α) := ⟨1, fun h xs cs => ∃ (A : Option Addr) (c : Nat), cs = [.slice A xs.length c] ∧ SlR h R A xs ∧ xs.length ≤ c, fun s ⟨A, c, e, hs, hc⟩ => ⟨A, c, e, hs.up s, hc⟩, fun ⟨A, c, e, _⟩ => by rw [e]; rfl, fun ⟨A, c, e, _⟩ => by rw [e]; exact fun u hu => by obtain rfl := List.mem_singleton.1 hu; rfl⟩
theorem one_one {v : Value} (h : v.oneCell' = true := by rfl) : ∀ u ∈ [v], u.oneCell' = true := fun u hu => by obtain rfl := List.mem_singleton.1 hu; exact h
theorem one_app {a b : List Value} (ha : ∀ u ∈ a, u.oneCell' = true) (hb : ∀ u ∈ b, u.oneCell' = true) : ∀ u ∈ a ++ b, u.oneCell' = true := fun u hu => by
  rcases List.mem_append.1 hu with h | h
  · exact ha u h
  · exact hb u h
section
variable {h : Frag} {w0 w : World} {Ex : List Nat} {L : List Ent} {cs vs : List Value} {b base k : Nat} {v : Value}
theorem cell_of (hc : ∀ (k : Nat) (v : Value), cs[k]? = some v → HC h b (base + k) v) (hv : cs[k]? = some v) (m : Mm w0 Ex h L w) : w.cell? ⟨b, base + k, none⟩ = some v := (hc k v hv).cell m
theorem range_of (hc : ∀ (k : Nat) (v : Value), cs[k]? = some v → HC h b (base + k) v) (hv : ∀ (q : Nat) (u : Value), vs[q]? = some u → cs[k + q]? = some u) (m : Mm w0 Ex h L w) : w.rangeAt b (base + k) vs := fun q u hu => by
  have := (hc (k + q) u (hv q u hu)).cell m
  rwa [← Nat.add_assoc] at this
end
section
variable {P : Program} {n : Nat} {S : List (Nat × Value)} {M : World → Prop} {o : Oper} {v : Value}
theorem val_idxR {t e : TypeId} {x y : Operand} {A : Option Addr} {b q0 N c k sz : Nat} {kk : IntKind} {q : Int} (ho : o.op = .indexAddr t x y) (hx : ev S x = some (.slice A N c)) (hy : ev S y = some (.int kk q)) (hu : P.underlying t = some (.slice e)) (hs : (P.info? e).map (·.size) = some sz) (hq : 0 ≤ q ∧ q < N) (hA : A = some ⟨b, q0, none⟩) (hk : q.toNat = k) :
    Val P n S M o (.pointer (some ⟨b, q0 + k * sz, none⟩)) := by
  subst hA
  have := val_idxS (M := M) (n := n) ho hx hy hu hs hq
  rw [hk, Addr.add_mid] at this
  exact this
theorem val_fld0 {t : TypeId} {fs : Array Field} {f : Field} {x : Operand} {g j sz k : Nat} (ho : o.op = .fieldAddr t x j) (hx : ev S x = some (.pointer (some ⟨g, 0, none⟩))) (hu : P.underlying t = some (.struct fs)) (hf : fs[j]? = some f) (hk : f.offset = k) (hs : (P.info? f.type).map (·.size) = some sz) (h0 : sz ≠ 0) :
    Val P n S M o (.pointer (some ⟨g, k, none⟩)) := by
  have := val_fld (M := M) (n := n) ho hx hu hf hs h0
  rw [hk, Nat.zero_add] at this
  exact this
theorem val_fldB {t : TypeId} {fs : Array Field} {f : Field} {x : Operand} {g off j sz k : Nat} (ho : o.op = .fieldAddr t x j) (hx : ev S x = some (.pointer (some ⟨g, off, none⟩))) (hu : P.underlying t = some (.struct fs)) (hf : fs[j]? = some f) (hk : f.offset = k) (hs : (P.info? f.type).map (·.size) = some sz) (h0 : sz ≠ 0) :
    Val P n S M o (.pointer (some ⟨g, off + k, none⟩)) := by
  have := val_fld (M := M) (n := n) ho hx hu hf hs h0
  rw [hk] at this
  exact this
end
section
variable {P : Program} {n : Nat} {S : List (Nat × Value)} {M : World → Prop} {o : Oper} {v : Value}
theorem val_max {ags : Array Operand} {ts : Array TypeId} {k k' : IntKind} {x y r : Int} (ho : o.op = .call { callee := .builtin .max, args := ags, argTypes := ts }) (hargs : evs S ags.toList = some [.int k x, .int k' y]) (hr : r = if x < y then y else x) : Val P n S M o (.int k r) := fun a w ha _ => by
  have hmap : ags.map a.eval = #[.int k x, .int k' y] := by
    apply Array.ext'
    rw [Array.toList_map, ha.evals hargs]
  have := run_max_int2 (P := P) (w := w) ts o.type k k' x y
  unfold execOp
  simp [ho, resolve, invoke, builtin, hmap, this, Result.andThen, hr]
theorem val_min {ags : Array Operand} {ts : Array TypeId} {k k' : IntKind} {x y r : Int} (ho : o.op = .call { callee := .builtin .min, args := ags, argTypes := ts }) (hargs : evs S ags.toList = some [.int k x, .int k' y]) (hr : r = if y < x then y else x) : Val P n S M o (.int k r) := fun a w ha _ => by
  have hmap : ags.map a.eval = #[.int k x, .int k' y] := by
    apply Array.ext'
    rw [Array.toList_map, ha.evals hargs]
  have := run_min_int2 (P := P) (w := w) ts o.type k k' x y
  unfold execOp
  simp [ho, resolve, invoke, builtin, hmap, this, Result.andThen, hr]
end
theorem made_rep (v : Value) (N : Nat) : (madeCells #[v] N).toList = List.replicate N v := by
  apply List.ext_getElem?
  intro i
  by_cases hi : i < N
  · simp [madeCells, hi, Nat.mod_one]
  · simp [madeCells, hi]
section
variable {P : Program} {ops : Array Oper} {C : World → Prop} {wl : List Nat} {Q : Exit → Act → World → Prop} {K : Act → World → Prop} {w0 : World} {Ex : List Nat} {n : Nat} {S : List (Nat × Value)} {h : Frag} {L : List Ent} {rest : List (Oper × Nat × Bool)} {o : Oper} {i : Nat} {d : Tmp}
/-- make([]T, N) -/
theorem z_makeSlice {α : Type} {f : α → Value} {z0 : α} {xs : List α} {t e : TypeId} {x y : Operand} {N bytes : Nat} {kl kc : IntKind} {q : Int} (ho : o.op = .makeSlice t x y) (hx : ev S x = some (.int kl q)) (hy : ev S y = some (.int kc q)) (ht : P.underlying t = some (.slice e))
    (hi : (P.info? e).map (fun i => (i.zero, i.size, i.bytes)) = some (some (f z0), 1, bytes)) (hz1 : (f z0).cells = #[f z0]) (hq : 0 ≤ q) (hN : q.toNat = N) (hb : N * bytes ≤ 140737488355328) (hb1 : 0 < bytes) (hxs : xs = List.replicate N z0) (hd : o.dst = some d) (hn : Nat.blt d n = true) (hg : wantS ops S o = some true)
    (hC : wl.contains i = false → ∀ g w, Mm w0 Ex h (.row (.slice (some ⟨g, 0, none⟩) xs.length N) e 1 (xs.map f) :: L) w → C w)
    (k : ∀ g, Shp (some ⟨g, 0, none⟩) xs.length N → T n ((d, .slice (some ⟨g, 0, none⟩) xs.length N) :: S) (Mm w0 Ex h (.row (.slice (some ⟨g, 0, none⟩) xs.length N) e 1 (xs.map f) :: L)) (wpZ P ops C wl Q rest K)) :
    T n S (Mm w0 Ex h L) (wpZ P ops C wl Q ((o, i, false) :: rest) K) := by
  obtain ⟨ti, hti, hzz⟩ := Option.map_eq_some_iff.1 hi
  simp only [Prod.mk.injEq] at hzz
  obtain ⟨hz0, hsz, hby⟩ := hzz
  have hxl : xs.length = N := by rw [hxs]; simp
  have hNb : N ≤ N * bytes := Nat.le_mul_of_pos_right N hb1
  refine z_gen (f := fun g => .slice (some ⟨g, 0, none⟩) xs.length N) (M' := fun g => Mm w0 Ex h (.row (.slice (some ⟨g, 0, none⟩) xs.length N) e 1 (xs.map f) :: L)) hd hn hg (fun a w ha hw => ?_) hC (fun g => k g (by rw [hxl]; exact Shp.new))
  obtain ⟨w', hr, how, hgr⟩ := run_make_full (P := P) w 0 t e ti (f z0) 1 ht hti hz0 hsz kl kc N (by rw [hby, Nat.mul_comm]; omega) (by simp only [maxLen]; omega) (Nat.zero_le _)
  have hqN : q = (N : Int) := by omega
  refine ⟨w.heap.size, w', ?_, ?_⟩
  · unfold execOp
    simp only [ho, ha.eval hx, ha.eval hy, hqN, Sem.run_bind, hr, Result.andThen_ok, hxl]
    rfl
  · rw [hxl]
    have hB : Below w.heap.size w w' := ⟨hgr.os, hgr.tape, hgr.output, hgr.size, fun b hb => hgr.block b hb (by simp)⟩
    refine hw.push ⟨N, ?_⟩ (fun g hk => by obtain rfl := Option.some.inj hk; exact Nat.le_refl _) hB
    have he : xs.map f = (madeCells (f z0).cells (N * 1)).toList := by rw [hz1, Nat.mul_one, made_rep, hxs, List.map_replicate]
    rw [he]; exact how
end
/-! ### What will not change again -/
section
variable {w0 w : World} {Ex : List Nat} {h : Frag} {L : List Ent}
theorem Mm.seal_ent {b : Ent} (m : Mm w0 Ex h (b :: L) w) : ∃ h', Sub h h' ∧ Mm w0 Ex h' L w ∧ ∀ g o, b.key = some g → w.heap[g]? = some o → h' g = some o := by
  refine ⟨fun k => if b.key = some k then w.heap[k]? else h k, fun k o e => ?_, ⟨m.os, m.tape, m.output, m.size, m.old, fun k o e => ?_, fun c hc => m.ents c (List.mem_cons_of_mem _ hc), fun c hc g k => ?_, fun i j c d g hi hj k1 k2 => ?_, fun c hc => m.own c (List.mem_cons_of_mem _ hc)⟩, fun g o hk ho => by simp [hk, ho]⟩
  · show (if b.key = some k then w.heap[k]? else h k) = some o
    by_cases hk : b.key = some k
    · rw [m.sep b (by simp) k hk] at e; cases e
    · rw [if_neg hk]; exact e
  · have e : (if b.key = some k then w.heap[k]? else h k) = some o := e
    by_cases hk : b.key = some k
    · rw [if_pos hk] at e; exact e
    · rw [if_neg hk] at e; exact m.seal_ k o e
  · show (if b.key = some g then w.heap[g]? else h g) = none
    obtain ⟨j, hj⟩ := List.mem_iff_getElem?.1 hc
    by_cases hk : b.key = some g
    · have := m.nodup 0 (j + 1) b c g rfl (by simpa using hj) hk k; omega
    · rw [if_neg hk]; exact m.sep c (List.mem_cons_of_mem _ hc) g k
  · have := m.nodup (i + 1) (j + 1) c d g (by simpa using hi) (by simpa using hj) k1 k2; omega
/-- What a call has handed back, in blocks that are new or sealed, is sealed. -/
theorem Mm.seal_new {w' : World} (m : Mm w0 Ex h L w) (hB : Below w.heap.size w w') : ∃ h', Sub h h' ∧ Mm w0 Ex h' L w' ∧ (∀ g o, w.heap.size ≤ g → w'.heap[g]? = some o → h' g = some o) ∧ ∀ g o, h g = some o → h' g = some o := by
  have hS : ∀ k o, h k = some o → (if w.heap.size ≤ k then w'.heap[k]? else h k) = some o := fun k o e => by
    have := m.seal_lt e
    rw [if_neg (by omega)]; exact e
  have m' := m.more hB
  refine ⟨fun k => if w.heap.size ≤ k then w'.heap[k]? else h k, hS, ⟨m'.os, m'.tape, m'.output, m'.size, m'.old, fun k o e => ?_, m'.ents, fun c hc g k => ?_, m'.nodup, m'.own⟩, fun g o hg ho => by simp [hg, ho], hS⟩
  · have e : (if w.heap.size ≤ k then w'.heap[k]? else h k) = some o := e
    by_cases hk : w.heap.size ≤ k
    · rw [if_pos hk] at e; exact e
    · rw [if_neg hk] at e; exact m'.seal_ k o e
  · show (if w.heap.size ≤ g then w'.heap[g]? else h g) = none
    have := m.key_lt hc k
    rw [if_neg (by omega)]; exact m.sep c hc g k
end
theorem SlH.of_snap {α : Type} {f : α → Value} {A : Option Addr} {xs : List α} {w : World} {h' : Frag} (r : SlW w f A xs) (hb : ∀ b o ob, A = some ⟨b, o, none⟩ → 0 < xs.length → w.heap[b]? = some ob → h' b = some ob) : SlH h' f A xs := fun hp => by
  obtain ⟨b, o, hA, hc⟩ := r.toH hp
  refine ⟨b, o, hA, fun i x hx => ?_⟩
  obtain ⟨cur, t, fz, h1, h2⟩ := hc i x hx
  exact ⟨cur, t, fz, hb b o _ hA hp h1, h2⟩
section
variable {P : Program} {ops : Array Oper} {C : World → Prop} {wl : List Nat} {Q : Exit → Act → World → Prop} {K : Act → World → Prop} {w0 : World} {Ex : List Nat} {n : Nat} {S : List (Nat × Value)} {h : Frag} {L : List Ent} {rest : List (Oper × Nat × Bool)} {o : Oper} {i : Nat} {d : Tmp} {G : Act → World → Prop}
/-- A slice of the call's own, sealed. -/
theorem t_seal {α : Type} {f : α → Value} {A : Option Addr} {c : Nat} {e : TypeId} {xs : List α} (t : ∀ h', Sub h h' → SlH h' f A xs → T n S (Mm w0 Ex h' L) G) : T n S (Mm w0 Ex h (.row (.slice A xs.length c) e 1 (xs.map f) :: L)) G := fun a w ha hw => by
  obtain ⟨h', hS, hm, hk⟩ := hw.seal_ent
  refine t h' hS (SlH.of_snap (row_w hw (j := 0) rfl) fun b o ob hA _ hob => hk b ob ?_ hob) a w ha hm
  subst hA; rfl
/-- A call that hands back a slice that is only read: in a new block, or in a sealed one. -/
theorem z_madeR {α : Type} {f : α → Value} {F : Option Addr → Nat → Value} {xs : List α} {fid : FuncId} {fn : Func} {ags : Array Operand} {ts : Array TypeId} {vs : List Value} (ho : o.op = .call { callee := .value (.func fid), args := ags, argTypes := ts }) (hf : P.funcs[fid]? = some fn) (hname : (fn.name == "runtime.NumGoroutine") = false) (hb : fn.body.isSome = true) (hargs : evs S ags.toList = some vs)
    (hc : ∀ w, Mm w0 Ex h L w → Calls P fid vs.toArray w fun r w' => ∃ A c, r = .returned (F A c) ∧ Below w.heap.size w w' ∧ SlW w' f A xs ∧ xs.length ≤ c ∧ ∀ b o, A = some ⟨b, o, none⟩ → 0 < xs.length → w.heap.size ≤ b ∨ ∃ ob, h b = some ob) (hd : o.dst = some d) (hn : Nat.blt d n = true) (hg : wantS ops S o = some true)
    (hC : wl.contains i = false → ∀ h' w, Sub h h' → Mm w0 Ex h' L w → C w)
    (t : ∀ A c h', Sub h h' → SlH h' f A xs → xs.length ≤ c → T n ((d, F A c) :: S) (Mm w0 Ex h' L) (wpZ P ops C wl Q rest K)) : T n S (Mm w0 Ex h L) (wpZ P ops C wl Q ((o, i, false) :: rest) K) :=
  z_call (M' := fun u w => ∃ A c h', Sub h h' ∧ SlH h' f A xs ∧ xs.length ≤ c ∧ u = F A c ∧ Mm w0 Ex h' L w) ho hf hname hb hargs
    (fun w hw => (hc w hw).mono fun r w' ⟨A, c, he, hB, h1, h2, h3⟩ => by
      obtain ⟨h', hS, hm, hk1, hk2⟩ := hw.seal_new hB
      refine ⟨_, he, A, c, h', hS, SlH.of_snap h1 fun b o ob hA hp hob => ?_, h2, rfl, hm⟩
      rcases h3 b o hA hp with h4 | ⟨ob', h4⟩
      · exact hk1 b ob h4 hob
      · have h5 := hk2 b ob' h4
        have h6 := hm.seal_ b ob' h5
        rw [hob] at h6
        rw [h5, Option.some.inj h6]) hd hn hg (fun hb' u w ⟨A, c, h', hS, _, _, _, hm⟩ => hC hb' h' w hS hm)
    (fun u a w ha ⟨A, c, h', hS, h1, h2, h3, hm⟩ => by subst h3; exact t A c h' hS h1 h2 a w ha hm)
end
section
variable {α : Type} {f : α → Value} {h h' : Frag} {A A' B : Option Addr} {xs : List α} {w0 w : World} {L : List Ent}
theorem cut_prov {c ln k : Nat} (hA : A' = (if c = ln then A else A.map (·.add k))) (p : ∀ a, A = some a → ∃ a', B = some a' ∧ a'.block = a.block) : ∀ a, A' = some a → ∃ a', B = some a' ∧ a'.block = a.block := fun a he => by
  subst hA
  split at he
  · exact p a he
  · cases A with
    | none => cases he
    | some a2 =>
      obtain rfl : a2.add k = a := Option.some.inj he
      obtain ⟨a', h1, h2⟩ := p a2 rfl
      refine ⟨a', h1, h2.trans ?_⟩
      unfold Addr.add
      split <;> rfl
theorem fin_prov {ys : List α} {b o : Nat} (hs : SlH h f B ys) (hp : 0 < ys.length) (p : ∀ a, A = some a → ∃ a', B = some a' ∧ a'.block = a.block) (hA : A = some ⟨b, o, none⟩) : ∃ o', B = some ⟨b, o', none⟩ := by
  obtain ⟨a', h1, h2⟩ := p _ hA
  obtain ⟨b2, o2, hB, _⟩ := hs hp
  rw [h1] at hB
  obtain rfl := Option.some.inj hB
  obtain rfl : b2 = b := h2
  exact ⟨o2, h1⟩
theorem blk_of {b : Nat} (hs : SlH h f A xs) (k : 0 < xs.length ∧ ∃ o', A = some ⟨b, o', none⟩) : ∃ ob, h b = some ob := by
  obtain ⟨hp, o', hA⟩ := k
  obtain ⟨b2, o2, hA2, hc⟩ := hs hp
  obtain rfl : b2 = b := by rw [hA] at hA2; have := Option.some.inj hA2; injection this with h1; exact h1.symm
  obtain ⟨cur, t, fz, h1, _⟩ := hc 0 _ (List.getElem?_eq_getElem hp)
  exact ⟨_, h1⟩
theorem row_new {c : Nat} {e : TypeId} {j b o : Nat} (m : Mm w0 [] h L w) (hL : L[j]? = some (.row (.slice A xs.length c) e 1 (xs.map f))) (hA : A = some ⟨b, o, none⟩) : w0.heap.size ≤ b := by
  subst hA
  rcases m.own _ (List.mem_of_getElem? hL) b rfl with h1 | h1
  · exact h1
  · simp at h1
theorem TabH.up {N g : Nat} {T : Vec α N} (hS : Sub h h') (t : TabH h g f T) : TabH h' g f T := fun i v hv => (t i v hv).up hS
end
theorem bool_eql {P : Program} {t : TypeId} {a b : Bool} {w : World} (ht : P.underlying t = some .bool) : (binOp .eql t (.bool a) (.bool b)).run P w = .ok (.bool (a == b)) w := by
  show Sem.run P (do pure (Value.bool (← Op.equal t (.bool a) (.bool b)))) w = _
  rw [Sem.run_bind, run_equal_bool w t a b ht]; rfl
theorem bool_neq {P : Program} {t : TypeId} {a b : Bool} {w : World} (ht : P.underlying t = some .bool) : (binOp .neq t (.bool a) (.bool b)).run P w = .ok (.bool (a != b)) w := by
  show Sem.run P (do pure (Value.bool (!(← Op.equal t (.bool a) (.bool b))))) w = _
  rw [Sem.run_bind, run_equal_bool w t a b ht]; rfl
end Go.Proofs.Ytapfkdcilfpbhaa
