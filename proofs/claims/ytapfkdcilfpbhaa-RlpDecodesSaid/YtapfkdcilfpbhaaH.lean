/- Contracts that carry the caller's memory; rows whose elements are no scalars. -/
import Derived.Test.YtapfkdcilfpbhaaStr
import Derived.Lib.ConvBytes
namespace Go.Proofs.Ytapfkdcilfpbhaa
open Go.RowKit
set_option linter.unusedVariables false
set_option linter.unusedSimpArgs false
/-! ### Some of the blocks, the rest behind them -/
def selL (k : Nat) (is : List Nat) (L : List Ent) : Option (List Ent) := (is.mapM (L[·]?)).map (· ++ L.drop k)
theorem mapM_app {α β : Type} {f : α → Option β} : ∀ {l r : List α} {x y : List β}, l.mapM f = some x → r.mapM f = some y → (l ++ r).mapM f = some (x ++ y)
  | [], r, x, y, hx, hy => by simp at hx; subst hx; simpa using hy
  | a :: l, r, x, y, hx, hy => by
    simp only [List.mapM_cons, Option.pure_def, Option.bind_eq_bind, Option.bind_eq_some_iff] at hx
    obtain ⟨b, hb, z, hz, e⟩ := hx
    obtain rfl := Option.some.inj e
    have ih := mapM_app hz hy
    simp [List.mapM_cons, hb, ih]
theorem mapM_rest (L : List Ent) : ∀ (n k : Nat), k + n = L.length → ((List.range' k n).mapM (L[·]?)) = some (L.drop k)
  | 0, k, h => by simp [show L.drop k = [] from List.drop_eq_nil_of_le (by omega)]
  | n + 1, k, h => by
    have ih := mapM_rest L n (k + 1) (by omega)
    rw [List.range'_succ, List.mapM_cons, ih]
    have hk : k < L.length := by omega
    rw [List.getElem?_eq_getElem hk, List.drop_eq_getElem_cons hk]
    rfl
theorem Mm.selK {w0 w : World} {Ex : List Nat} {h : Frag} {L L' : List Ent} (m : Mm w0 Ex h L w) (k : Nat) (is : List Nat) (hn : (decide is.Nodup && is.all fun i => Nat.blt i k) = true) (hL : selL k is L = some L') : Mm w0 Ex h L' w := by
  obtain ⟨x, hx, rfl⟩ := Option.map_eq_some_iff.1 hL
  rw [Bool.and_eq_true] at hn
  have hnd : is.Nodup := of_decide_eq_true hn.1
  have hlt : ∀ i ∈ is, i < k := fun i hi => by have := List.all_eq_true.1 hn.2 i hi; simpa [Nat.blt_eq] using this
  have hk : k ≤ L.length ∨ L.length < k := by omega
  rcases hk with hk | hk
  · refine m.sel (is ++ List.range' k (L.length - k)) (decide_eq_true ?_) (mapM_app hx (mapM_rest L _ k (by omega)))
    refine List.nodup_append.2 ⟨hnd, List.nodup_range' (step := 1), fun a ha b hb e => ?_⟩
    have := hlt a ha
    have := (List.mem_range'_1.1 hb).1
    omega
  · refine m.sel is (decide_eq_true hnd) ?_
    rw [List.drop_eq_nil_of_le (by omega), List.append_nil]; exact hx
theorem T.selK {n : Nat} {S : List (Nat × Value)} {w0 : World} {Ex : List Nat} {h : Frag} {L L' : List Ent} {G : Act → World → Prop} (k : Nat) (is : List Nat) (hn : (decide is.Nodup && is.all fun i => Nat.blt i k) = true) (hL : selL k is L = some L') (t : T n S (Mm w0 Ex h L') G) : T n S (Mm w0 Ex h L) G := fun a w ha hw => t a w ha (hw.selK k is hn hL)
section
variable {P : Program} {ops : Array Oper} {C : World → Prop} {wl : List Nat} {Q : Exit → Act → World → Prop} {K : Act → World → Prop} {w0 : World} {Ex : List Nat} {n : Nat} {S : List (Nat × Value)} {h : Frag} {L L' : List Ent} {M : World → Prop} {rest : List (Oper × Nat × Bool)} {o : Oper} {i : Nat} {d : Tmp} {v : Value} {G : Act → World → Prop}
/-- A call, by what its contract says of what is handed back and of memory. -/
theorem z_callG {τ : Type} {F : τ → Value} {Φ : τ → Prop} {M' : τ → World → Prop} {f : FuncId} {fn : Func} {ags : Array Operand} {ts : Array TypeId} {vs : List Value} (ho : o.op = .call { callee := .value (.func f), args := ags, argTypes := ts }) (hf : P.funcs[f]? = some fn) (hname : (fn.name == "runtime.NumGoroutine") = false) (hb : fn.body.isSome = true) (hargs : evs S ags.toList = some vs)
    (hc : ∀ w, M w → Calls P f vs.toArray w fun e w' => ∃ g, e = .returned (F g) ∧ Φ g ∧ M' g w') (hd : o.dst = some d) (hn : Nat.blt d n = true) (hg : wantS ops S o = some true) (hC : wl.contains i = false → ∀ g w, Φ g → M' g w → C w)
    (t : ∀ g, Φ g → T n ((d, F g) :: S) (M' g) (wpZ P ops C wl Q rest K)) : T n S M (wpZ P ops C wl Q ((o, i, false) :: rest) K) :=
  z_call (M' := fun u w => ∃ g, u = F g ∧ Φ g ∧ M' g w) ho hf hname hb hargs (fun w hw => (hc w hw).mono fun e w' ⟨g, he, h1, h2⟩ => ⟨_, he, g, rfl, h1, h2⟩) hd hn hg (fun hb u w ⟨g, _, h1, h2⟩ => hC hb g w h1 h2)
    (fun u a w ha ⟨g, hu, h1, h2⟩ => by subst hu; exact t g h1 a w ha h2)
/-- .. whose result nobody takes. -/
theorem z_callN {τ : Type} {F : τ → Value} {Φ : τ → Prop} {M' : τ → World → Prop} {f : FuncId} {fn : Func} {ags : Array Operand} {ts : Array TypeId} {vs : List Value} (ho : o.op = .call { callee := .value (.func f), args := ags, argTypes := ts }) (hf : P.funcs[f]? = some fn) (hname : (fn.name == "runtime.NumGoroutine") = false) (hb : fn.body.isSome = true) (hargs : evs S ags.toList = some vs)
    (hc : ∀ w, M w → Calls P f vs.toArray w fun e w' => ∃ g, e = .returned (F g) ∧ Φ g ∧ M' g w') (hd : o.dst = none) (hg : wantS ops S o = some true) (hC : wl.contains i = false → ∀ g w, Φ g → M' g w → C w)
    (t : ∀ g, Φ g → T n S (M' g) (wpZ P ops C wl Q rest K)) : T n S M (wpZ P ops C wl Q ((o, i, false) :: rest) K) := fun a w ha hw => by
  unfold wpZ
  rw [if_pos (wantS_ok hg ha)]
  refine .inl ?_
  unfold Oper.wp
  rw [run_call ho hf hname hb ha hargs]
  refine (hc w hw).mono ?_
  rintro e w' ⟨g, rfl, h1, h2⟩
  exact ⟨fun hb => hC hb g w' h1 h2, t g h1 _ _ (by rw [hd]; exact ha) h2⟩
/-! ### A slice of the call's own, cut off behind -/
theorem Mm.trunc {w : World} (m : Mm w0 Ex h L w) {j sz n0 k c : Nat} {A : Option Addr} {e : TypeId} {cs : List Value} (hL : L[j]? = some (.row (.slice A n0 c) e sz cs)) (hk : k ≤ n0) : Mm w0 Ex h (L.set j (.row (.slice A k c) e sz (cs.take (k * sz)))) w := by
  refine m.change hL (fun g kk => .inl ?_) ?_ rfl rfl rfl (Nat.le_refl _) (fun _ _ _ => rfl)
  · cases A <;> exact kk
  · obtain ⟨n, h1, h2⟩ := m.ents _ (List.mem_of_getElem? hL)
    rcases h2 with ⟨hv, hn⟩ | ⟨g, cap, cur, hv, hg, hh, hnc, hcm, hcs, ht⟩
    · injection hv with hA hn0 hc
      subst hA hn0 hc hn
      obtain rfl : k = 0 := by omega
      exact ⟨0, by simp, .inl ⟨rfl, rfl⟩⟩
    · injection hv with hA hn0 hc
      subst hA hn0 hc
      have hks : k * sz ≤ n0 * sz := Nat.mul_le_mul_right _ hk
      refine ⟨k, by rw [List.length_take, h1]; omega, .inr ⟨g, c, cur, rfl, hg, hh, by omega, hcm, hcs, ?_⟩⟩
      rw [← ht, List.take_take, Nat.min_eq_left hks]
theorem t_trunc {α : Type} {f : α → Value} {j k c : Nat} {A : Option Addr} {e : TypeId} {xs ys : List α} (hL : L[j]? = some (.row (.slice A xs.length c) e 1 (xs.map f))) (hk : k ≤ xs.length) (hys : ys = xs.take k) (hL' : L.set j (.row (.slice A ys.length c) e 1 (ys.map f)) = L') (t : T n S (Mm w0 Ex h L') G) : T n S (Mm w0 Ex h L) G := fun a w ha hw => by
  have := hw.trunc hL hk
  subst hys
  have e1 : (xs.take k).length = k := by simp; omega
  rw [Nat.mul_one, ← List.map_take] at this
  rw [e1] at hL'
  rw [hL'] at this
  exact t a w ha this
theorem Shp.take {A : Option Addr} {N k c : Nat} (s : Shp A N c) (hk : k ≤ N) : Shp A k c := ⟨by have := s.le; omega, s.nil, fun h0 => s.blk (by omega)⟩
/-- x[:k] of one of the call's own: the same place. -/
theorem own_cut {A : Option Addr} {N c : Nat} (s : Shp A N c) : (if c = 0 then A else A.map (·.add (0 * 1))) = A := by
  split
  · rfl
  · cases A with
    | none => rfl
    | some a => simp [Addr.add]
end
/-! ### Rows of elements that are no scalars -/
def RpL {α : Type} (h : Frag) (R : Rp α) : List α → List Value → Prop
  | [], cs => cs = []
  | x :: xs, cs => ∃ c ds, cs = c ++ ds ∧ R.rep h x c ∧ RpL h R xs ds
section
variable {α : Type} {h h' : Frag} {R : Rp α}
theorem RpL.nil : RpL h R [] [] := rfl
theorem RpL.one {x : α} {c : List Value} (r : R.rep h x c) : RpL h R [x] c := ⟨c, [], by simp, r, rfl⟩
theorem RpL.cons {x : α} {xs : List α} {c ds : List Value} (r : R.rep h x c) (rs : RpL h R xs ds) : RpL h R (x :: xs) (c ++ ds) := ⟨c, ds, rfl, r, rs⟩
theorem RpL.up (s : Sub h h') : ∀ {xs : List α} {cs : List Value}, RpL h R xs cs → RpL h' R xs cs
  | [], _, r => r
  | _ :: _, _, ⟨c, ds, e, r, rs⟩ => ⟨c, ds, e, R.up s r, RpL.up s rs⟩
theorem RpL.len : ∀ {xs : List α} {cs : List Value}, RpL h R xs cs → cs.length = xs.length * R.sz
  | [], _, r => by rw [show _ = [] from r]; simp
  | x :: xs, _, ⟨c, ds, e, r, rs⟩ => by rw [e, List.length_append, R.len r, RpL.len rs, List.length_cons, Nat.add_mul]; omega
theorem RpL.ones : ∀ {xs : List α} {cs : List Value}, RpL h R xs cs → ∀ u ∈ cs, u.oneCell' = true
  | [], _, r, u, hu => by rw [show _ = [] from r] at hu; cases hu
  | x :: xs, _, ⟨c, ds, e, r, rs⟩, u, hu => by
    rw [e] at hu
    rcases List.mem_append.1 hu with hu | hu
    · exact R.one r u hu
    · exact RpL.ones rs u hu
theorem RpL.app : ∀ {xs ys : List α} {cs ds : List Value}, RpL h R xs cs → RpL h R ys ds → RpL h R (xs ++ ys) (cs ++ ds)
  | [], _, _, _, r, s => by rw [show _ = [] from r]; exact s
  | x :: xs, _, _, _, ⟨c, es, e, r, rs⟩, s => ⟨c, _, by rw [e, List.append_assoc], r, RpL.app rs s⟩
theorem RpL.take : ∀ {xs : List α} {cs : List Value} (k : Nat), RpL h R xs cs → RpL h R (xs.take k) (cs.take (k * R.sz))
  | [], _, k, r => by rw [show _ = [] from r]; simp [RpL]
  | x :: xs, _, 0, r => by simp [RpL]
  | x :: xs, _, k + 1, ⟨c, ds, e, r, rs⟩ => by
    have hl := R.len r
    refine ⟨c, _, ?_, r, RpL.take k rs⟩
    rw [e, List.take_append, hl, List.take_of_length_le (by rw [hl, Nat.add_mul]; omega)]
    congr 2
    rw [Nat.add_mul]; omega
/-- An element, and what a store into it makes of the row. -/
theorem RpL.at_ : ∀ {xs : List α} {cs : List Value} {i : Nat} {x : α}, RpL h R xs cs → xs[i]? = some x → ∃ c, R.rep h x c ∧ (∀ (k : Nat) (v : Value), c[k]? = some v → cs[i * R.sz + k]? = some v) ∧
    ∀ (k : Nat) (v : Value) (y : α), k < R.sz → R.rep h y (c.set k v) → RpL h R (xs.set i y) (cs.set (i * R.sz + k) v)
  | [], _, _, _, _, hx => by simp at hx
  | x :: xs, _, 0, y, ⟨c, ds, e, r, rs⟩, hx => by
    obtain rfl : x = y := by simpa using hx
    subst e
    refine ⟨c, r, fun k v hv => ?_, fun k v z hk hz => ?_⟩
    · rw [Nat.zero_mul, Nat.zero_add, List.getElem?_append_left (List.getElem?_eq_some_iff.1 hv).1]; exact hv
    · have hl := R.len r
      refine ⟨c.set k v, ds, ?_, hz, rs⟩
      rw [Nat.zero_mul, Nat.zero_add, List.set_append_left _ _ (by omega)]
  | x :: xs, _, i + 1, y, ⟨c, ds, e, r, rs⟩, hx => by
    obtain ⟨c', r', h1, h2⟩ := RpL.at_ rs (by simpa using hx)
    have hl := R.len r
    have hi : ∀ k, (i + 1) * R.sz + k = c.length + (i * R.sz + k) := fun k => by rw [hl, Nat.add_mul]; omega
    subst e
    refine ⟨c', r', fun k v hv => ?_, fun k v z hk hz => ?_⟩
    · rw [hi, List.getElem?_append_right (by omega), Nat.add_sub_cancel_left]; exact h1 k v hv
    · refine ⟨c, _, ?_, r, h2 k v z hk hz⟩
      rw [hi, List.set_append_right _ _ (by omega), Nat.add_sub_cancel_left]
theorem rows_of : ∀ {xs : List α} {b o : Nat}, (∀ (i : Nat) (x : α), xs[i]? = some x → ∃ cs, R.rep h x cs ∧ ∀ (k : Nat) (v : Value), cs[k]? = some v → HC h b (o + i * R.sz + k) v) → ∃ ds, RpL h R xs ds ∧ ∀ (k : Nat) (u : Value), ds[k]? = some u → HC h b (o + k) u
  | [], _, _, _ => ⟨[], rfl, fun k u hu => by simp at hu⟩
  | x :: xs, b, o, H => by
    obtain ⟨c, r, hc⟩ := H 0 x rfl
    obtain ⟨ds, rs, hd⟩ := rows_of (xs := xs) (b := b) (o := o + R.sz) fun i y hy => by
      obtain ⟨cs, h1, h2⟩ := H (i + 1) y (by simpa using hy)
      refine ⟨cs, h1, fun k v hv => ?_⟩
      have := h2 k v hv
      rwa [Nat.add_mul, show o + (i * R.sz + 1 * R.sz) + k = o + R.sz + i * R.sz + k by omega] at this
    have hl := R.len r
    refine ⟨c ++ ds, ⟨c, ds, rfl, r, rs⟩, fun k u hu => ?_⟩
    by_cases hk : k < c.length
    · rw [List.getElem?_append_left hk] at hu
      have := hc k u hu
      rwa [Nat.zero_mul, Nat.add_zero] at this
    · rw [List.getElem?_append_right (by omega)] at hu
      have := hd _ u hu
      rwa [show o + R.sz + (k - c.length) = o + k by omega] at this
theorem SlR.rows {A : Option Addr} {xs : List α} (r : SlR h R A xs) (h0 : 0 < xs.length) : ∃ b o ds, A = some ⟨b, o, none⟩ ∧ RpL h R xs ds ∧ ∀ (k : Nat) (u : Value), ds[k]? = some u → HC h b (o + k) u := by
  obtain ⟨b, o, hA, hc⟩ := r h0
  obtain ⟨ds, h1, h2⟩ := rows_of hc
  exact ⟨b, o, ds, hA, h1, h2⟩
theorem SlR.of_rows {A : Option Addr} {xs : List α} (H : 0 < xs.length → ∃ b o ds, A = some ⟨b, o, none⟩ ∧ RpL h R xs ds ∧ ∀ (k : Nat) (u : Value), ds[k]? = some u → HC h b (o + k) u) : SlR h R A xs := fun h0 => by
  obtain ⟨b, o, ds, hA, hr, hd⟩ := H h0
  refine ⟨b, o, hA, fun i x hx => ?_⟩
  obtain ⟨c, r, h1, _⟩ := hr.at_ hx
  exact ⟨c, r, fun k v hv => by have := hd _ _ (h1 k v hv); rwa [← Nat.add_assoc] at this⟩
theorem SlR.cut {A : Option Addr} {xs : List α} (r : SlR h R A xs) {l k c sz : Nat} (hsz : R.sz = sz) (hk : k ≤ xs.length) (hc : xs.length ≤ c) : SlR h R (if c = l then A else A.map (·.add (l * sz))) ((xs.take k).drop l) := fun hp => by
  subst hsz
  have hlk : l < k := by simp at hp; omega
  obtain ⟨b, o, rfl, hcl⟩ := r (by omega)
  have hne : c ≠ l := by omega
  refine ⟨b, o + l * R.sz, by rw [if_neg hne]; simp [Addr.add_mid], fun i x hx => ?_⟩
  rw [List.getElem?_drop, List.getElem?_take] at hx
  split at hx
  · obtain ⟨cs, h1, h2⟩ := hcl _ _ hx
    refine ⟨cs, h1, fun k v hv => ?_⟩
    have := h2 k v hv
    rwa [Nat.add_mul, ← Nat.add_assoc] at this
  · cases hx
end
/-- Rows that can be read. -/
def RdW {α : Type} (w : World) (h : Frag) (R : Rp α) (A : Option Addr) (xs : List α) : Prop := 0 < xs.length → ∃ b q ds, A = some ⟨b, q, none⟩ ∧ RpL h R xs ds ∧ ∀ (k : Nat) (u : Value), ds[k]? = some u → w.cell? ⟨b, q + k, none⟩ = some u
section
variable {P : Program} {ops : Array Oper} {C : World → Prop} {wl : List Nat} {Q : Exit → Act → World → Prop} {K : Act → World → Prop} {w0 w : World} {Ex : List Nat} {n : Nat} {S : List (Nat × Value)} {h : Frag} {L L' : List Ent} {M : World → Prop} {rest : List (Oper × Nat × Bool)} {o : Oper} {i : Nat} {d : Tmp} {v : Value} {G : Act → World → Prop} {α : Type} {R : Rp α}
theorem SlR.rd {A : Option Addr} {xs : List α} (r : SlR h R A xs) (m : Mm w0 Ex h L w) : RdW w h R A xs := fun h0 => by
  obtain ⟨b, o, ds, hA, hr, hd⟩ := r.rows h0
  exact ⟨b, o, ds, hA, hr, fun k u hu => (hd k u hu).cell m⟩
theorem own_cells (m : Mm w0 Ex h L w) {j g sz n0 c : Nat} {A : Option Addr} {e : TypeId} {cs : List Value} (hL : L[j]? = some (.row (.slice A n0 c) e sz cs)) (hA : A = some ⟨g, 0, none⟩) {q : Nat} {u : Value} (hu : cs[q]? = some u) : w.cell? ⟨g, q, none⟩ = some u := by
  subst hA
  obtain ⟨N, hr⟩ := m.ents _ (List.mem_of_getElem? hL)
  have := hr.cells (g := g) rfl q u hu
  rwa [Addr.add_lit, Nat.zero_add] at this
theorem own_rd (m : Mm w0 Ex h L w) {j sz c : Nat} {A : Option Addr} {e : TypeId} {cs : List Value} {xs : List α} (hL : L[j]? = some (.row (.slice A xs.length c) e sz cs)) (hr : RpL h R xs cs) (hs : Shp A xs.length c) : RdW w h R A xs := fun h0 => by
  obtain ⟨g, hA⟩ := hs.blk h0
  exact ⟨g, 0, cs, hA, hr, fun k u hu => by rw [Nat.zero_add]; exact own_cells m hL hA hu⟩
theorem rd_nil {A : Option Addr} : RdW w h R A ([] : List α) := fun h0 => absurd h0 (by simp)
theorem own_range (m : Mm w0 Ex h L w) {j g sz n0 c : Nat} {A : Option Addr} {e : TypeId} {cs vs : List Value} (hL : L[j]? = some (.row (.slice A n0 c) e sz cs)) (hA : A = some ⟨g, 0, none⟩) {q : Nat} (hv : ∀ (k : Nat) (u : Value), vs[k]? = some u → cs[q + k]? = some u) : w.rangeAt g q vs := fun k u hu => own_cells m hL hA (hv k u hu)
/-- append(xs, ys...), of rows. -/
theorem z_appendR {t e : TypeId} {ts : Array TypeId} {s x : Operand} {j bytes sz : Nat} {z : Value} {A B : Option Addr} {c c2 : Nat} {xs ys zs : List α} {cs : List Value} (ho : o.op = .call { callee := .builtin .append, args := #[s, x], argTypes := ts }) (hts : ts = #[t, t]) (ht : P.underlying t = some (.slice e))
    (hi : (P.info? e).map (fun i => (i.zero, i.size, i.bytes)) = some (some z, sz, bytes)) (hz1 : z.cells.size = sz) (hsz : R.sz = sz) (h0sz : 0 < sz) (hs : ev S s = some (.slice A xs.length c)) (hL : L[j]? = some (.row (.slice A xs.length c) e sz cs)) (hrep : RpL h R xs cs) (hx : ev S x = some (.slice B ys.length c2))
    (hy : ∀ w, Mm w0 Ex h L w → RdW w h R B ys) (hb : (xs.length + ys.length) * bytes ≤ 140737488355328) (hb1 : 0 < bytes) (hzs : zs = xs ++ ys) (Lf : Option Addr → Nat → List Value → List Ent) (hLf : ∀ A' c' cs', L.set j (.row (.slice A' zs.length c') e sz cs') = Lf A' c' cs')
    (hd : o.dst = some d) (hn : Nat.blt d n = true) (hg : wantS ops S o = some true) (hC : wl.contains i = false → ∀ A' c' cs' w, Mm w0 Ex h (Lf A' c' cs') w → C w)
    (k : ∀ A' c' cs', Shp A' zs.length c' → RpL h R zs cs' → T n ((d, .slice A' zs.length c') :: S) (Mm w0 Ex h (Lf A' c' cs')) (wpZ P ops C wl Q rest K)) :
    T n S (Mm w0 Ex h L) (wpZ P ops C wl Q ((o, i, false) :: rest) K) := by
  subst hts
  subst hsz
  refine z_gen (τ := { g : Option Addr × Nat × List Value // Shp g.1 zs.length g.2.1 ∧ RpL h R zs g.2.2 }) (f := fun g => .slice g.1.1 zs.length g.1.2.1) (M' := fun g => Mm w0 Ex h (Lf g.1.1 g.1.2.1 g.1.2.2)) hd hn hg (fun a w ha hw => ?_) (fun hb' g w hm => hC hb' _ _ _ w hm) (fun g => k _ _ _ g.2.1 g.2.2)
  obtain ⟨ti, hti, hzz⟩ := Option.map_eq_some_iff.1 hi
  simp only [Prod.mk.injEq] at hzz
  obtain ⟨hz0, hszi, hby⟩ := hzz
  obtain ⟨N, hown⟩ := hw.ents _ (List.mem_of_getElem? hL)
  have hcl := hrep.len
  obtain rfl : xs.length = N := by
    have h1 := hown.1
    rw [hcl] at h1
    exact Nat.eq_of_mul_eq_mul_right h0sz h1
  have hlen : xs.length + ys.length ≤ maxLen := by
    have : (xs.length + ys.length) * 1 ≤ (xs.length + ys.length) * bytes := Nat.mul_le_mul_left _ hb1
    simp only [maxLen]; omega
  have hzl : zs.length = xs.length + ys.length := by rw [hzs]; simp
  have hrun : ∃ v1 w1 cs', (Builtin.append_ #[t, t] o.type #[.slice A xs.length c, .slice B ys.length c2]).run P w = .ok v1 w1 ∧ w1.ownsRow 0 e R.sz v1 zs.length cs' ∧ RpL h R zs cs' ∧ w.grownBy w1 (Value.slice A xs.length c).ownBlock ∧ (v1.ownBlock = (Value.slice A xs.length c).ownBlock ∨ v1.ownBlock = some w.heap.size) := by
    by_cases h0 : 0 < ys.length
    · obtain ⟨b, q, ds, rfl, hr, hc⟩ := hy w hw h0
      obtain ⟨v1, w1, e1, e2, e3, _, e5⟩ := run_append_own_at (P := P) (w := w) 0 t o.type e ti z R.sz bytes ht hti hz0 hszi hby hz1 h0sz (.slice A xs.length c) xs.length cs hown ⟨b, q, none⟩ ys.length c2 ds hr.len
        (fun p u hu => by rw [Addr.add_lit]; exact hc p u hu) hr.ones hlen hb (Nat.zero_le _)
      rw [hzl, hzs]
      exact ⟨v1, w1, _, e1, e2, hrep.app hr, e3, e5⟩
    · have hy0 : ys = [] := List.eq_nil_of_length_eq_zero (by omega)
      subst hy0
      have hzx : zs = xs := by rw [hzs]; simp
      subst hzx
      have hg0 : w.grownBy w (Value.slice A zs.length c).ownBlock := ⟨rfl, rfl, rfl, Nat.le_refl _, fun _ _ _ => rfl⟩
      cases B with
      | none => exact ⟨_, w, cs, run_append_none ht hti hown c2, hown, hrep, hg0, .inl rfl⟩
      | some ad =>
        obtain ⟨v1, w1, e1, e2, e3, _, e5⟩ := run_append_own_at (P := P) (w := w) 0 t o.type e ti z R.sz bytes ht hti hz0 hszi hby hz1 h0sz (.slice A zs.length c) zs.length cs hown ad 0 c2 [] (by simp) (fun p u hu => by simp at hu) (fun u hu => by cases hu) hlen hb (Nat.zero_le _)
        exact ⟨v1, w1, cs, e1, by simpa using e2, hrep, e3, e5⟩
  obtain ⟨v1, w1, cs', e1, e2, hr', e3, e5⟩ := hrun
  obtain ⟨A', c', rfl, hsh⟩ := row_shape e2
  refine ⟨⟨(A', c', cs'), hsh, hr'⟩, w1, ?_, ?_⟩
  · unfold execOp
    simp [ho, resolve, ha.eval hs, ha.eval hx, invoke, builtin, e1]
  · show Mm w0 Ex h (Lf A' c' cs') w1
    rw [← hLf]
    refine hw.change hL (fun g k => ?_) ⟨_, e2⟩ e3.os e3.tape e3.output e3.size (fun q hq hlt => e3.block q hlt (fun e => hq e.symm))
    rcases e5 with e5 | e5
    · left; exact e5.symm.trans k
    · right; have k' : (Value.slice A' zs.length c').ownBlock = some g := k; rw [e5] at k'; obtain rfl := Option.some.inj k'; exact Nat.le_refl _
/-- A store of one cell into a row of the call's own. -/
theorem z_storeCell {ty : TypeId} {x y : Operand} {j q g sz n0 c : Nat} {e : TypeId} {A : Option Addr} {cs cs' : List Value} (ho : o.op = .store ty x y) (hx : ev S x = some (.pointer (some ⟨g, q, none⟩))) (hy : ev S y = some v) (h1 : v.cells = #[v]) (h2 : v.oneCell' = true) (hs : (P.info? ty).map (·.size) = some 1)
    (hL : L[j]? = some (.row (.slice A n0 c) e sz cs)) (hA : A = some ⟨g, 0, none⟩) (hq : q < cs.length) (hcs : cs.set q v = cs') (hL' : L.set j (.row (.slice A n0 c) e sz cs') = L') (hd : o.dst = none) (hg : wantS ops S o = some true) (hC : wl.contains i = false → ∀ w, Mm w0 Ex h L' w → C w)
    (t : T n S (Mm w0 Ex h L') (wpZ P ops C wl Q rest K)) : T n S (Mm w0 Ex h L) (wpZ P ops C wl Q ((o, i, false) :: rest) K) := by
  subst hA; subst hcs
  refine z_store (M' := Mm w0 Ex h L') (fun a w ha hw => ?_) hd hg hC t
  obtain ⟨N, hown⟩ := hw.ents _ (List.mem_of_getElem? hL)
  have hc : w.cell? ⟨g, q, none⟩ = some (cs[q]) := own_cells hw hL rfl (by simp)
  have hN : n0 = N := by
    obtain ⟨_, ⟨hv, _⟩ | ⟨g', cap, cur, hv, _⟩⟩ := hown
    · cases hv
    · injection hv
  subst hN
  have hfr : w.frozen? ⟨g, q, none⟩ = false := hown.frozenAt q
  refine ⟨w.setCell ⟨g, q, none⟩ v, ?_, ?_⟩
  · unfold execOp
    simp [ho, ha.eval hx, ha.eval hy, Instr.storeAt, Instr.sureAddr, run_storeVar_1 hs h1 h2 hc hfr]
  · subst hL'
    obtain ⟨h3, h4⟩ := hown.stored q v
    exact hw.change hL (fun g' k => .inl k) ⟨n0, h3⟩ rfl rfl rfl (by simp) (fun k hk _ => Below.heap_setCell _ _ _ _ (fun e => hk (by rw [e]; rfl)))
/-! ### Sealed: rows, blocks -/
theorem t_sealR {A : Option Addr} {c : Nat} {e : TypeId} {sz : Nat} {xs : List α} {cs : List Value} (hr : RpL h R xs cs) (hs : Shp A xs.length c) (t : ∀ h', Sub h h' → SlR h' R A xs → T n S (Mm w0 Ex h' L) G) : T n S (Mm w0 Ex h (.row (.slice A xs.length c) e sz cs :: L)) G := fun a w ha hw => by
  obtain ⟨h', hS, hm, hk⟩ := hw.seal_ent
  refine t h' hS (SlR.of_rows fun h0 => ?_) a w ha hm
  obtain ⟨g, hA⟩ := hs.blk h0
  refine ⟨g, 0, cs, hA, hr.up hS, fun k u hu => ?_⟩
  have hc := own_cells hw (j := 0) rfl hA hu
  rw [Nat.zero_add]
  unfold World.cell? at hc
  split at hc
  · rename_i cur ty fz e1
    exact ⟨cur, ty, fz, hk g _ (by subst hA; rfl) e1, by simpa using hc⟩
  · cases hc
theorem t_sealB {g room : Nat} {ty : TypeId} {cs : List Value} (t : ∀ h', Sub h h' → (∀ (k : Nat) (v : Value), cs[k]? = some v → HC h' g (0 + k) v) → T n S (Mm w0 Ex h' L) G) : T n S (Mm w0 Ex h (.blk g ty cs room :: L)) G := fun a w ha hw => by
  obtain ⟨h', cur, hS, hg, hc, hm⟩ := hw.close
  exact t h' hS (fun k v hv => ⟨cur, ty, (0, 0), hg, by rw [Nat.zero_add]; exact hc k v hv⟩) a w ha hm
/-- Slices of arrays that are sealed. -/
theorem arr_sl0 {f : α → Value} {N b ln hn q : Nat} {x : Vec α N} (hc : ∀ (k : Nat) (v : Value), (cV f x)[k]? = some v → HC h b (0 + k) v) (hq : q = if N = ln then 0 else ln) {xs : List α} (hx : xs = (x.l.take hn).drop ln) : SlH h f (some ⟨b, q, none⟩) xs := fun hp => by
  subst hx
  have hN : N ≠ ln := by intro e; subst e; simp [x.hl] at hp; omega
  rw [if_neg hN] at hq
  subst hq
  refine ⟨b, q, rfl, fun i y hy => ?_⟩
  rw [List.getElem?_drop, List.getElem?_take] at hy
  split at hy
  · have h1 : (cV f x)[q + i]? = some (f y) := by unfold cV; rw [List.getElem?_map, hy]; rfl
    have := hc _ _ h1
    rwa [Nat.zero_add] at this
  · cases hy
theorem arr_slC {f : α → Value} {N b base off P ln hn q : Nat} {x : Vec α N} {cs : List Value} (hc : ∀ (k : Nat) (v : Value), cs[k]? = some v → HC h b (base + k) v) (hv : ∀ (q : Nat) (u : Value), (cV f x)[q]? = some u → cs[off + q]? = some u) (hP : P = base + off) (hq : q = if N = ln then P else P + ln) {xs : List α} (hx : xs = (x.l.take hn).drop ln) : SlH h f (some ⟨b, q, none⟩) xs := fun hp => by
  subst hx
  have hN : N ≠ ln := by intro e; subst e; simp [x.hl] at hp; omega
  rw [if_neg hN] at hq
  subst hq; subst hP
  refine ⟨b, base + off + ln, rfl, fun i y hy => ?_⟩
  rw [List.getElem?_drop, List.getElem?_take] at hy
  split at hy
  · have h1 : (cV f x)[ln + i]? = some (f y) := by unfold cV; rw [List.getElem?_map, hy]; rfl
    have := hc _ _ (hv _ _ h1)
    rwa [show base + (off + (ln + i)) = base + off + ln + i by omega] at this
  · cases hy
/-- Rows of the call's own, for those that read the world. -/
theorem own_rw {w : World} (m : Mm w0 Ex h L w) {j sz c : Nat} {A : Option Addr} {e : TypeId} {cs : List Value} {xs : List α} (hL : L[j]? = some (.row (.slice A xs.length c) e sz cs)) (hr : RpL h R xs cs) (hs : Shp A xs.length c) : SlRW w R A xs := SlR.of_rows fun h0 => by
  obtain ⟨g, hA⟩ := hs.blk h0
  refine ⟨g, 0, cs, hA, hr.up m.sub_snap, fun k u hu => ?_⟩
  have hc := own_cells m hL hA hu
  rw [Nat.zero_add]
  unfold World.cell? at hc
  split at hc
  · rename_i cur ty fz e1
    exact ⟨cur, ty, fz, e1, by simpa using hc⟩
  · cases hc
end
section
variable {P : Program} {n : Nat} {S : List (Nat × Value)} {M : World → Prop} {o : Oper} {v : Value}
/-- x[l:k], elements of any size. -/
theorem val_sliceLHz {t e : TypeId} {x y z : Operand} {A : Option Addr} {N c sz : Nat} {kl kh : IntKind} {l k : Int} (ho : o.op = .slice t x (some y) (some z) none) (hx : ev S x = some (.slice A N c)) (hy : ev S y = some (.int kl l)) (hz : ev S z = some (.int kh k)) (hu : P.underlying t = some (.slice e)) (hs : (P.info? e).map (·.size) = some sz)
    (h0 : 0 ≤ l) (h1 : l ≤ k) (h2 : k ≤ c) (hv : .slice (if c = l.toNat then A else A.map (·.add (l.toNat * sz))) (k.toNat - l.toNat) (c - l.toNat) = v) : Val P n S M o v := fun a w ha _ => by
  subst hv
  unfold execOp
  simp [ho, ha.eval hx, ha.eval hy, ha.eval hz, run_sliceAt_slice w t _ _ _ _ (Pelem hu), run_slice_lh w t A N c (Pelem hu) kl kh l k h0 h1 h2, Pelem' hu, run_sizeOf hs, Result.andThen, sliced]
theorem val_sliceHz {t e : TypeId} {x z : Operand} {A : Option Addr} {N c sz : Nat} {kh : IntKind} {k : Int} (ho : o.op = .slice t x none (some z) none) (hx : ev S x = some (.slice A N c)) (hz : ev S z = some (.int kh k)) (hu : P.underlying t = some (.slice e)) (hs : (P.info? e).map (·.size) = some sz)
    (h0 : 0 ≤ k) (h2 : k ≤ c) (hv : .slice (if c = 0 then A else A.map (·.add (0 * sz))) (k.toNat - 0) (c - 0) = v) : Val P n S M o v := fun a w ha _ => by
  subst hv
  unfold execOp
  simp [ho, ha.eval hx, ha.eval hz, run_sliceAt_slice w t _ _ _ _ (Pelem hu), run_slice_h w t A N c (Pelem hu) kh k h0 h2, Pelem' hu, run_sizeOf hs, Result.andThen, sliced]
theorem val_sliceLz {t e : TypeId} {x y : Operand} {A : Option Addr} {N c sz : Nat} {kl : IntKind} {l : Int} (ho : o.op = .slice t x (some y) none none) (hx : ev S x = some (.slice A N c)) (hy : ev S y = some (.int kl l)) (hu : P.underlying t = some (.slice e)) (hs : (P.info? e).map (·.size) = some sz)
    (h0 : 0 ≤ l) (h1 : l ≤ N) (hv : .slice (if c = l.toNat then A else A.map (·.add (l.toNat * sz))) (N - l.toNat) (c - l.toNat) = v) : Val P n S M o v := fun a w ha _ => by
  subst hv
  unfold execOp
  simp [ho, ha.eval hx, ha.eval hy, run_sliceAt_slice w t _ _ _ _ (Pelem hu), run_slice_l w t A N c (Pelem hu) kl l h0 h1, Pelem' hu, run_sizeOf hs, Result.andThen, sliced]
/-- The address of an element of a row of the call's own. -/
theorem val_idxO {t e : TypeId} {x y : Operand} {A : Option Addr} {b N c k sz : Nat} {kk : IntKind} {q : Int} (ho : o.op = .indexAddr t x y) (hx : ev S x = some (.slice A N c)) (hy : ev S y = some (.int kk q)) (hu : P.underlying t = some (.slice e)) (hs : (P.info? e).map (·.size) = some sz) (hq : 0 ≤ q ∧ q < N) (hA : A = some ⟨b, 0, none⟩) (hk : q.toNat = k) :
    Val P n S M o (.pointer (some ⟨b, k * sz, none⟩)) := by
  have := val_idxR (M := M) (n := n) ho hx hy hu hs hq hA hk
  rwa [Nat.zero_add] at this
end
theorem own_cutz {A : Option Addr} {N c sz : Nat} (s : Shp A N c) : (if c = 0 then A else A.map (·.add (0 * sz))) = A := by
  split
  · rfl
  · cases A with
    | none => rfl
    | some a => simp [Addr.add]
theorem RpL.lt {α : Type} {h : Frag} {R : Rp α} {xs : List α} {cs : List Value} (r : RpL h R xs cs) {k o : Nat} (hk : k < xs.length) (ho : o < R.sz) : k * R.sz + o < cs.length := by
  rw [r.len]
  have : (k + 1) * R.sz ≤ xs.length * R.sz := Nat.mul_le_mul_right _ hk
  rw [Nat.add_mul] at this
  omega
theorem RpL.rep {α : Type} {h : Frag} {R : Rp α} {z : α} {c : List Value} (r : R.rep h z c) : ∀ n, RpL h R (List.replicate n z) (List.replicate n c).flatten
  | 0 => rfl
  | n + 1 => ⟨c, _, by rw [List.replicate_succ, List.flatten_cons], r, RpL.rep r n⟩
section
variable {P : Program} {n : Nat} {S : List (Nat × Value)} {M : World → Prop} {o : Oper} {v : Value}
theorem val_idxA0 {t e : TypeId} {N k sz : Nat} {x y : Operand} {g : Nat} {kk : IntKind} {q : Int} (ho : o.op = .indexAddr t x y) (hx : ev S x = some (.pointer (some ⟨g, 0, none⟩))) (hy : ev S y = some (.int kk q)) (hu : P.underlying t = some (.array N e)) (hs : (P.info? e).map (·.size) = some sz) (hq : 0 ≤ q ∧ q < N) (hk : q.toNat = k) :
    Val P n S M o (.pointer (some ⟨g, k * sz, none⟩)) := by
  have := val_idxA (M := M) (n := n) ho hx hy hu hs hq
  rw [Nat.zero_add, hk] at this
  exact this
theorem val_maxU {w : Nat} {f : BitVec w → Value} {kk : IntKind} {ags : Array Operand} {ts : Array TypeId} {x y r : BitVec w} (ho : o.op = .call { callee := .builtin .max, args := ags, argTypes := ts }) (hargs : evs S ags.toList = some [f x, f y]) (hf : ∀ z, f z = .int kk (z.toNat : Int)) (hr : r = if x.toNat < y.toNat then y else x) : Val P n S M o (f r) := by
  rw [hf, hf] at hargs
  have := val_max (P := P) (n := n) (M := M) (r := (r.toNat : Int)) ho hargs (by rw [hr]; by_cases h : x.toNat < y.toNat <;> simp [h])
  rw [hf]
  have e : (Value.int kk (r.toNat : Int)) = .int kk r.toNat := rfl
  exact this
theorem val_minU {w : Nat} {f : BitVec w → Value} {kk : IntKind} {ags : Array Operand} {ts : Array TypeId} {x y r : BitVec w} (ho : o.op = .call { callee := .builtin .min, args := ags, argTypes := ts }) (hargs : evs S ags.toList = some [f x, f y]) (hf : ∀ z, f z = .int kk (z.toNat : Int)) (hr : r = if y.toNat < x.toNat then y else x) : Val P n S M o (f r) := by
  rw [hf, hf] at hargs
  have := val_min (P := P) (n := n) (M := M) (r := (r.toNat : Int)) ho hargs (by rw [hr]; by_cases h : y.toNat < x.toNat <;> simp [h])
  rw [hf]
  exact this
end
section
variable {P : Program} {ops : Array Oper} {C : World → Prop} {wl : List Nat} {Q : Exit → Act → World → Prop} {K : Act → World → Prop} {w0 w : World} {Ex : List Nat} {n : Nat} {S : List (Nat × Value)} {h : Frag} {L L' : List Ent} {rest : List (Oper × Nat × Bool)} {o : Oper} {i : Nat} {d : Tmp} {α : Type} {R : Rp α}
theorem z_buildR {xs : List α} {cs : List Value} {t e : TypeId} {N sz : Nat} {parts : Array (Nat × Operand)} {vs : List (Nat × Value)} (ho : o.op = .buildSlice t N parts) (hvs : parts.toList.map (fun p => (ev S p.2).map fun v => (p.1, v)) = vs.map some)
    (hb : ∀ w, (Instr.buildSlice t N vs.toArray).run P w = .ok (.slice (some ⟨w.heap.size, 0, none⟩) N N) (w.alloc (.cells cs.toArray e))) (hl : xs.length = N) (hcl : cs.length = xs.length * sz) (hm : Nat.ble N 9223372036854775807 = true) (hd : o.dst = some d) (hn : Nat.blt d n = true) (hg : wantS ops S o = some true)
    (hC : wl.contains i = false → ∀ g w, Mm w0 Ex h (.row (.slice (some ⟨g, 0, none⟩) xs.length N) e sz cs :: L) w → C w)
    (t : ∀ g, Shp (some ⟨g, 0, none⟩) xs.length N → T n ((d, .slice (some ⟨g, 0, none⟩) xs.length N) :: S) (Mm w0 Ex h (.row (.slice (some ⟨g, 0, none⟩) xs.length N) e sz cs :: L)) (wpZ P ops C wl Q rest K)) :
    T n S (Mm w0 Ex h L) (wpZ P ops C wl Q ((o, i, false) :: rest) K) := by
  subst hl
  exact z_buildSlice (sz := sz) ho hvs hb hcl (by simpa [Nat.ble_eq, maxLen] using hm) hd hn hg hC (fun g => t g Shp.new)
theorem made_flat (c : Array Value) (sz : Nat) (hc : c.size = sz) (h0 : 0 < sz) (N : Nat) : (madeCells c (N * sz)).toList = (List.replicate N c.toList).flatten := by
  apply List.ext_getElem?
  intro i
  have hl : ((List.replicate N c.toList).flatten).length = N * sz := by simp [hc]
  by_cases hi : i < N * sz
  · have h2 : ((List.replicate N c.toList).flatten)[i]? = c.toList[i % sz]? := by
      clear hl
      induction N generalizing i with
      | zero => simp at hi
      | succ N ih =>
        rw [List.replicate_succ, List.flatten_cons]
        by_cases h3 : i < sz
        · rw [List.getElem?_append_left (by simpa [hc] using h3), Nat.mod_eq_of_lt h3]
        · rw [List.getElem?_append_right (by simp [hc]; omega)]
          have : c.toList.length = sz := by simpa using hc
          have e2 : (N + 1) * sz = N * sz + sz := by rw [Nat.add_mul]; omega
          have e : i % sz = (i - sz) % sz := Nat.mod_eq_sub_mod (by omega)
          rw [this, ih (i - sz) (by omega), e]
    rw [h2]
    have hm : i % sz < c.size := by rw [hc]; exact Nat.mod_lt _ h0
    simp only [madeCells, hc]
    simp [hi, hm]
  · rw [List.getElem?_eq_none (by simp [madeCells]; omega), List.getElem?_eq_none (by rw [hl]; omega)]
/-- make([]T, N), rows. -/
theorem z_makeR {z0 : α} {cz : List Value} {zv : Value} {xs : List α} {t e : TypeId} {x y : Operand} {N bytes sz : Nat} {kl kc : IntKind} {q : Int} (ho : o.op = .makeSlice t x y) (hx : ev S x = some (.int kl q)) (hy : ev S y = some (.int kc q)) (ht : P.underlying t = some (.slice e))
    (hi : (P.info? e).map (fun i => (i.zero, i.size, i.bytes)) = some (some zv, sz, bytes)) (hz1 : zv.cells = cz.toArray) (hsz : R.sz = sz) (h0 : 0 < sz) (hrep : ∀ h, R.rep h z0 cz) (hq : 0 ≤ q) (hN : q.toNat = N) (hb : N * bytes ≤ 140737488355328) (hb1 : 0 < bytes) (hxs : xs = List.replicate N z0) (hd : o.dst = some d) (hn : Nat.blt d n = true) (hg : wantS ops S o = some true)
    (hC : wl.contains i = false → ∀ g cs w, Mm w0 Ex h (.row (.slice (some ⟨g, 0, none⟩) xs.length N) e sz cs :: L) w → C w)
    (k : ∀ g cs, Shp (some ⟨g, 0, none⟩) xs.length N → RpL h R xs cs → T n ((d, .slice (some ⟨g, 0, none⟩) xs.length N) :: S) (Mm w0 Ex h (.row (.slice (some ⟨g, 0, none⟩) xs.length N) e sz cs :: L)) (wpZ P ops C wl Q rest K)) :
    T n S (Mm w0 Ex h L) (wpZ P ops C wl Q ((o, i, false) :: rest) K) := by
  obtain ⟨ti, hti, hzz⟩ := Option.map_eq_some_iff.1 hi
  simp only [Prod.mk.injEq] at hzz
  obtain ⟨hz0, hszi, hby⟩ := hzz
  have hxl : xs.length = N := by rw [hxs]; simp
  have hNb : N ≤ N * bytes := Nat.le_mul_of_pos_right N hb1
  have hczl : cz.length = sz := by rw [← hsz]; exact R.len (hrep h)
  refine z_gen (τ := Nat) (f := fun g => .slice (some ⟨g, 0, none⟩) xs.length N) (M' := fun g => Mm w0 Ex h (.row (.slice (some ⟨g, 0, none⟩) xs.length N) e sz (List.replicate N cz).flatten :: L)) hd hn hg (fun a w ha hw => ?_) (fun hb' g w hm => hC hb' g _ w hm) (fun g => k g _ (by rw [hxl]; exact Shp.new) (by rw [hxs]; exact RpL.rep (hrep h) N))
  obtain ⟨w', hr, how, hgr⟩ := run_make_full (P := P) w 0 t e ti zv sz ht hti hz0 hszi kl kc N (by rw [hby, Nat.mul_comm]; omega) (by simp only [maxLen]; omega) (Nat.zero_le _)
  have hqN : q = (N : Int) := by omega
  refine ⟨w.heap.size, w', ?_, ?_⟩
  · unfold execOp
    simp only [ho, ha.eval hx, ha.eval hy, hqN, Sem.run_bind, hr, Result.andThen_ok, hxl]
    rfl
  · rw [hxl]
    have hB : Below w.heap.size w w' := ⟨hgr.os, hgr.tape, hgr.output, hgr.size, fun b hb => hgr.block b hb (by simp)⟩
    refine hw.push ⟨N, ?_⟩ (fun g hk => by obtain rfl := Option.some.inj hk; exact Nat.le_refl _) hB
    have he : (List.replicate N cz).flatten = (madeCells zv.cells (N * sz)).toList := by rw [made_flat _ sz (by rw [hz1]; simpa using hczl) h0, hz1]
    rw [he]; exact how
end
theorem str_add (a b : ByteArray) (t : TypeId) (h : a.size + b.size ≤ 9223372036854775807) : binOp .add t (.string a) (.string b) = pure (.string (a ++ b)) := by
  rw [binOp_string_add]
  unfold Op.stringOp
  simp only
  rw [if_neg (by show ¬ ((a.size + b.size : Nat) : Int) > 9223372036854775807; omega)]
/-! ### Cells set within cells -/
def putL (cs : List Value) (q : Nat) (c : List Value) : List Value := cs.take q ++ (c ++ cs.drop (q + c.length))
section
variable {a b c : List Value} {n k : Nat} {v : Value}
theorem set_here (h : k < a.length) : (a ++ b).set k v = a.set k v ++ b := List.set_append_left _ _ h
theorem set_skip {b' : List Value} (ha : a.length = n) (h : b.set k v = b') : (a ++ b).set (n + k) v = a ++ b' := by
  subst ha; rw [List.set_append_right _ _ (by omega), Nat.add_sub_cancel_left, h]
theorem putL_all (h : a.length = c.length) : putL a 0 c = c := by unfold putL; rw [List.take_zero, List.drop_eq_nil_of_le (by omega)]; simp
theorem putL_here (h : a.length = c.length) : putL (a ++ b) 0 c = c ++ b := by
  unfold putL; rw [List.take_zero, Nat.zero_add, ← h, List.drop_left]; rfl
theorem putL_skip {b' : List Value} (ha : a.length = n) (h : putL b k c = b') : putL (a ++ b) (n + k) c = a ++ b' := by
  subst ha; subst h; unfold putL
  rw [List.take_append, List.take_of_length_le (by omega), Nat.add_sub_cancel_left, Nat.add_assoc, List.drop_append, List.drop_eq_nil_of_le (by omega), Nat.add_sub_cancel_left, List.append_assoc]; rfl
end
def cVV {α : Type} {n m : Nat} (f : α → Value) (x : Vec (Vec α m) n) : List Value := x.l.flatMap (cV f)
section
variable {α : Type} {m : Nat} {f : α → Value}
theorem flat_len : ∀ (l : List (Vec α m)), (l.flatMap (cV f)).length = l.length * m
  | [] => by simp
  | a :: l => by rw [List.flatMap_cons, List.length_append, cV_len, flat_len l, List.length_cons, Nat.add_mul]; omega
theorem cVV_len {n : Nat} (x : Vec (Vec α m) n) : (cVV f x).length = n * m := by unfold cVV; rw [flat_len, x.hl]
theorem flat_seg : ∀ (l : List (Vec α m)) (i : Nat) (y : Vec α m), l[i]? = some y → ∀ (q : Nat) (u : Value), (cV f y)[q]? = some u → (l.flatMap (cV f))[i * m + q]? = some u
  | [], i, y, h => by simp at h
  | a :: l, 0, y, h => fun q u hu => by
    obtain rfl : a = y := by simpa using h
    rw [Nat.zero_mul, Nat.zero_add, List.flatMap_cons, List.getElem?_append_left (List.getElem?_eq_some_iff.1 hu).1]; exact hu
  | a :: l, i + 1, y, h => fun q u hu => by
    rw [List.flatMap_cons, List.getElem?_append_right (by rw [cV_len, Nat.add_mul]; omega), cV_len, show (i + 1) * m + q - m = i * m + q by rw [Nat.add_mul]; omega]
    exact flat_seg l i y (by simpa using h) q u hu
theorem cVV_seg [Inhabited α] {n : Nat} (x : Vec (Vec α m) n) {i : Nat} (hi : i < n) : ∀ (q : Nat) (u : Value), (cV f (x.get i))[q]? = some u → (cVV f x)[i * m + q]? = some u := flat_seg _ i _ (x.at_ hi)
theorem flat_put : ∀ (l : List (Vec α m)) (i : Nat) (y : Vec α m), i < l.length → putL (l.flatMap (cV f)) (i * m) (cV f y) = (l.set i y).flatMap (cV f)
  | [], i, y, h => by simp at h
  | a :: l, 0, y, h => by
    rw [Nat.zero_mul, List.flatMap_cons, putL_here (by rw [cV_len, cV_len])]; rfl
  | a :: l, i + 1, y, h => by
    rw [List.flatMap_cons, show (i + 1) * m = m + i * m by rw [Nat.add_mul]; omega, putL_skip (cV_len a) (flat_put l i y (by simpa using h))]; rfl
theorem cVV_put {n : Nat} (x : Vec (Vec α m) n) {i : Nat} (hi : i < n) (y : Vec α m) : putL (cVV f x) (i * m) (cV f y) = cVV f (x.set i y) := flat_put _ i y (by rw [x.hl]; exact hi)
theorem cVV_one (hf : ∀ y, (f y).oneCell' = true) {n : Nat} (x : Vec (Vec α m) n) : ∀ u ∈ cVV f x, u.oneCell' = true := fun u hu => by
  obtain ⟨y, _, hy⟩ := List.mem_flatMap.1 hu
  exact cV_one hf y u hy
end
section
variable {P : Program} {n : Nat} {S : List (Nat × Value)} {M : World → Prop} {o : Oper}
/-- An element, itself a row, of a row that is a value. -/
theorem val_indexA {α : Type} [Inhabited α] {f : α → Value} {t e e2 : TypeId} {N m k : Nat} {x y : Operand} {xx : Vec (Vec α m) N} {kk : IntKind} {q : Int} (ho : o.op = .index t x y) (hx : ev S x = some (.agg (cVV f xx).toArray)) (hy : ev S y = some (.int kk q)) (hu : P.underlying t = some (.array N e)) (he : P.underlying e = some (.array m e2)) (hs : (P.info? e).map (·.size) = some m) (hq : 0 ≤ q ∧ q < N) (hk : q.toNat = k) : Val P n S M o (.agg (cV f (xx.get k)).toArray) := fun a w ha _ => by
  have hagg : (isAgg e).run P w = .ok true w := by
    unfold isAgg
    rw [Sem.run_bind, run_underlying he w]
    rfl
  subst hk
  have hlt : q.toNat < N := idx_lt hq
  have hx2 : List.take m (List.drop (q.toNat * m) (cVV f xx)) = cV f (xx.get q.toNat) := by
    apply List.ext_getElem?
    intro i
    by_cases hi : i < m
    · rw [List.getElem?_take_of_lt hi, List.getElem?_drop]
      exact (cVV_seg xx hlt i _ (cV_at _ hi)).trans (cV_at _ hi).symm
    · rw [List.getElem?_eq_none (by simp; omega), List.getElem?_eq_none (by simp [cV_len]; omega)]
  unfold execOp
  simp [ho, ha.eval hx, ha.eval hy, Instr.index, asIntOf, run_underlying hu, hq, run_sizeOf hs, part, hagg, hx2, Result.andThen]
/-- A byte of a string. -/
def strAt (s : ByteArray) (i : Nat) : BitVec 8 := BitVec.ofNat 8 (s.data.toList.getD i 0).toNat
theorem val_indexS {t : TypeId} {x y : Operand} {s : ByteArray} {kk : IntKind} {q : Int} {k : Nat} {b : BitVec 8} (ho : o.op = .index t x y) (hx : ev S x = some (.string s)) (hy : ev S y = some (.int kk q)) (hu : P.underlying t = some .string) (hq : 0 ≤ q ∧ q < s.size) (hk : q.toNat = k) (hb : b = strAt s k) : Val P n S M o (U8 b) := fun a w ha _ => by
  subst hk; subst hb
  have h1 := run_index_string (P := P) w t s kk q hu
  rw [dif_pos hq] at h1
  have hlt : q.toNat < s.size := by omega
  have h2 : U8 (strAt s q.toNat) = .int .u8 (s[q.toNat]'hlt).toNat := by
    have h3 : s.data.toList.getD q.toNat 0 = s[q.toNat]'hlt := by
      have : q.toNat < s.data.toList.length := by simpa using hlt
      rw [List.getD_eq_getElem?_getD, List.getElem?_eq_getElem this]; rfl
    unfold U8 strAt
    rw [h3]
    have := (s[q.toNat]'hlt).toNat_lt
    rw [BitVec.toNat_ofNat, Nat.mod_eq_of_lt (by omega)]
  unfold execOp
  simp only [ho, ha.eval hx, ha.eval hy, Sem.run_bind, h1, Result.andThen_ok, h2]
  rfl
end
section
variable {P : Program} {ops : Array Oper} {C : World → Prop} {wl : List Nat} {Q : Exit → Act → World → Prop} {K : Act → World → Prop} {w0 w : World} {Ex : List Nat} {n : Nat} {S : List (Nat × Value)} {h : Frag} {L L' : List Ent} {M : World → Prop} {rest : List (Oper × Nat × Bool)} {o : Oper} {i : Nat} {d : Tmp} {v : Value} {G : Act → World → Prop}
theorem run_storeVar_part {w : World} {g q : Nat} {t0 ty : TypeId} {cur : Array Value} {c : List Value} (hb : w.heap[g]? = some (.cells cur t0 (0, 0))) (hs : (P.info? ty).map (·.size) = some c.length) (hl : q + c.length ≤ cur.size) (h1 : ∀ u ∈ c, u.oneCell' = true) : (storeVar ty ⟨g, q, none⟩ (.agg c.toArray)).run P w = .ok () (w.setRow g (cur.toList.take q ++ c ++ cur.toList.drop (q + c.length)).toArray) := by
  have hst := run_storeCells_at P g q t0 c 0 cur w hb (by simpa using hl) h1
  simp only [Nat.add_zero] at hst
  simp [storeVar, run_sizeOf hs, Value.cells, hst, Result.andThen]
/-- A part of a block. -/
theorem z_storePart {ty : TypeId} {x y : Operand} {j g q : Nat} {t0 : TypeId} {cs c cs' : List Value} {room : Nat} (ho : o.op = .store ty x y) (hx : ev S x = some (.pointer (some ⟨g, q, none⟩))) (hy : ev S y = some (.agg c.toArray)) (h2 : ∀ u ∈ c, u.oneCell' = true) (hs : (P.info? ty).map (·.size) = some c.length)
    (hL : L[j]? = some (.blk g t0 cs room)) (hq : q + c.length ≤ cs.length) (hcs : putL cs q c = cs') (hL' : L.set j (.blk g t0 cs' room) = L') (hd : o.dst = none) (hg : wantS ops S o = some true) (hC : wl.contains i = false → ∀ w, Mm w0 Ex h L' w → C w)
    (t : T n S (Mm w0 Ex h L') (wpZ P ops C wl Q rest K)) : T n S (Mm w0 Ex h L) (wpZ P ops C wl Q ((o, i, false) :: rest) K) := by
  refine z_store (M' := Mm w0 Ex h L') (fun a w ha hw => ?_) hd hg hC t
  obtain ⟨cur, hb, hr, hh⟩ := hw.ents _ (List.mem_of_getElem? hL)
  have hcl : cs.length ≤ cur.size := by
    rcases Nat.eq_zero_or_pos cs.length with e | e
    · omega
    · have := hh (cs.length - 1) _ (List.getElem?_eq_getElem (by omega))
      have := (Array.getElem?_eq_some_iff.1 this).1
      omega
  have hrun := run_storeVar_part (P := P) (q := q) (cur := cur) hb hs (by omega) h2
  refine ⟨w.setRow g (cur.toList.take q ++ c ++ cur.toList.drop (q + c.length)).toArray, ?_, ?_⟩
  · unfold execOp
    simp [ho, ha.eval hx, ha.eval hy, Instr.storeAt, Instr.sureAddr, hrun]
  · subst hL'
    refine hw.change hL (fun g' k => .inl k) ?_ rfl rfl rfl (by simp) (fun k hk _ => ?_)
    · refine ⟨_, setRow_heap w g cur _ t0 _ hb, by simp; omega, fun p u hp => ?_⟩
      subst hcs
      unfold putL at hp
      have e1 : cur.toList.take q = cur.toList.take q := rfl
      by_cases h1 : p < q
      · rw [List.getElem?_append_left (by simp; omega), List.getElem?_take_of_lt h1] at hp
        have := hh p u hp
        simp only [List.append_assoc, List.getElem?_toArray]
        rw [List.getElem?_append_left (by simp; omega), List.getElem?_take_of_lt h1]
        simpa using this
      · rw [List.getElem?_append_right (by simp; omega)] at hp
        simp only [List.append_assoc, List.getElem?_toArray]
        rw [List.getElem?_append_right (by simp; omega)]
        have e2 : (List.take q cs).length = q := by simp; omega
        have e3 : (List.take q cur.toList).length = q := by simp; omega
        rw [e2] at hp; rw [e3]
        by_cases h3 : p - q < c.length
        · rw [List.getElem?_append_left h3] at hp ⊢; exact hp
        · rw [List.getElem?_append_right (by omega)] at hp ⊢
          rw [List.getElem?_drop] at hp ⊢
          simpa using hh _ u hp
    · simp only [World.setRow, Array.getElem?_modify]
      rw [if_neg (fun e => hk (by rw [← e]; rfl))]
/-- copy(xs, ys), xs one of the call's own. -/
theorem z_copyRow {α : Type} {f : α → Value} {dT sT e : TypeId} {ts : Array TypeId} {x y : Operand} {j c c2 : Nat} {A B : Option Addr} {xs ys zs : List α} {r : Int} (ho : o.op = .call { callee := .builtin .copy, args := #[x, y], argTypes := ts }) (hts : ts = #[dT, sT]) (hu : P.underlying dT = some (.slice e)) (hs : (P.info? e).map (·.size) = some 1)
    (hx : ev S x = some (.slice A xs.length c)) (hy : ev S y = some (.slice B ys.length c2)) (hL : L[j]? = some (.row (.slice A xs.length c) e 1 (xs.map f))) (hys : ∀ w, Mm w0 Ex h L w → SlW w f B ys) (h1 : ∀ x, (f x).oneCell' = true)
    (hzs : zs = ys.take xs.length ++ xs.drop ys.length) (hr : r = (Nat.min ys.length xs.length : Nat)) (hL' : L.set j (.row (.slice A zs.length c) e 1 (zs.map f)) = L') (hd : o.dst = some d) (hn : Nat.blt d n = true) (hg : wantS ops S o = some true) (hC : wl.contains i = false → ∀ w, Mm w0 Ex h L' w → C w)
    (t : T n ((d, .int .i64 r) :: S) (Mm w0 Ex h L') (wpZ P ops C wl Q rest K)) : T n S (Mm w0 Ex h L) (wpZ P ops C wl Q ((o, i, false) :: rest) K) := by
  subst hts; subst hr
  refine z_gen (τ := Unit) (f := fun _ => .int .i64 (Nat.min ys.length xs.length : Nat)) (M' := fun _ => Mm w0 Ex h L') hd hn hg (fun ac w ha hw => ?_) (fun hb _ w hm => hC hb w hm) (fun _ => t)
  have hzl : zs.length = xs.length := by rw [hzs]; simp; omega
  by_cases h0 : Nat.min ys.length xs.length = 0
  · have e1 := run_copy_none (P := P) w dT sT o.type e A B xs.length c ys.length c2 hu hs h0
    refine ⟨(), w, ?_, ?_⟩
    · unfold execOp
      simp [ho, resolve, ha.eval hx, ha.eval hy, invoke, builtin, e1, h0, goInt]
    · have : zs = xs := by
        rw [hzs]
        have h0' : min ys.length xs.length = 0 := h0
        rcases Nat.eq_zero_or_pos ys.length with e2 | e2
        · have : ys = [] := List.eq_nil_of_length_eq_zero e2
          subst this; simp
        · have : xs = [] := List.eq_nil_of_length_eq_zero (by omega)
          subst this; simp
      rw [this] at hL'
      have : L' = L := by
        rw [← hL']
        apply List.ext_getElem?
        intro p
        rw [List.getElem?_set]
        split
        · rename_i e; subst e; rw [hL]; split
          · rfl
          · rename_i hlt; exact absurd (List.getElem?_eq_some_iff.1 hL).1 hlt
        · rfl
      rw [this]; exact hw
  · have h0' : ¬ min ys.length xs.length = 0 := h0
    obtain ⟨b, p0, rfl, hc⟩ := hys w hw (by omega)
    obtain ⟨N, hown⟩ := hw.ents _ (List.mem_of_getElem? hL)
    obtain ⟨hxl, ⟨hv, _⟩ | ⟨g, cap, cur, hv, hg0, hh, hnc, hcm, hcs, ht⟩⟩ := hown
    · injection hv; omega
    · injection hv with hA hN hcap
      subst hA; subst hN; subst hcap
      rw [Nat.mul_one] at ht hxl hcs
      have hcs2 : ((ys.take xs.length).map f).length = Nat.min ys.length xs.length := by rw [List.length_map, List.length_take]; exact Nat.min_comm _ _
      have hmle : Nat.min ys.length xs.length ≤ xs.length := Nat.min_le_right _ _
      have e1 := run_copy_row (P := P) w dT sT o.type e g 0 xs.length c ⟨b, p0, none⟩ ys.length c2 cur e ((ys.take xs.length).map f) hu hs hh hcs2 (fun p u hu' => by
        rw [List.getElem?_map] at hu'
        obtain ⟨y', hy', rfl⟩ := Option.map_eq_some_iff.1 hu'
        rw [List.getElem?_take] at hy'
        split at hy'
        · rw [Addr.add_lit]; exact hc p y' hy'
        · cases hy') (by rw [hcs2]; omega) (fun u hu' => by obtain ⟨y', _, rfl⟩ := List.mem_map.1 hu'; exact h1 y')
      rw [hcs2] at e1
      refine ⟨(), w.setRow g (cur.toList.take 0 ++ (ys.take xs.length).map f ++ cur.toList.drop (0 + Nat.min ys.length xs.length)).toArray, ?_, ?_⟩
      · unfold execOp
        simp [ho, resolve, ha.eval hx, ha.eval hy, invoke, builtin, e1, goInt]
      · rw [← hL']
        refine hw.change hL (fun g' k => .inl k) ?_ rfl rfl rfl (by simp) (fun k hk _ => ?_)
        · refine ⟨zs.length, by simp, .inr ⟨g, c, _, rfl, hg0, setRow_heap w g cur _ e _ hh, by omega, hcm, ?_, ?_⟩⟩
          · simp only [List.size_toArray, List.length_append, List.length_take, List.length_drop, List.length_map, Array.length_toList, Nat.mul_one]
            rw [show Nat.min ys.length xs.length = min ys.length xs.length from rfl]
            omega
          · rw [Nat.mul_one, hzl]
            simp only [List.take_zero, List.nil_append, Nat.zero_add]
            rw [← hcs2]
            apply List.ext_getElem?
            intro p
            by_cases hp : p < xs.length
            · rw [List.getElem?_take_of_lt hp]
              by_cases hp2 : p < ((ys.take xs.length).map f).length
              · rw [List.getElem?_append_left hp2, hzs, List.map_append, List.getElem?_append_left hp2]
              · rw [List.getElem?_append_right (by omega), hzs, List.map_append, List.getElem?_append_right (by omega)]
                have hle : ys.length ≤ xs.length := by
                  rw [hcs2] at hp2
                  have : min ys.length xs.length ≤ p := by show Nat.min _ _ ≤ p; omega
                  omega
                have e4 : ((ys.take xs.length).map f).length = ys.length := by simp; omega
                rw [e4, List.getElem?_drop, List.map_drop, List.getElem?_drop, show ys.length + (p - ys.length) = p by omega]
                have : (cur.toList.take xs.length)[p]? = (xs.map f)[p]? := by rw [ht]
                rwa [List.getElem?_take_of_lt hp] at this
            · rw [List.getElem?_eq_none (by simp; omega), List.getElem?_eq_none (by rw [List.length_map, hzl]; omega)]
        · simp only [World.setRow, Array.getElem?_modify]
          rw [if_neg (fun e => hk (by rw [← e]; rfl))]
def strBytes (s : ByteArray) : List (BitVec 8) := s.data.toList.map fun b => BitVec.ofNat 8 b.toNat
/-- []byte(s), which nobody will change. -/
theorem z_strB {src dst e : TypeId} {x : Operand} {s : ByteArray} {xs : List (BitVec 8)} (ho : o.op = .convert src dst x) (hx : ev S x = some (.string s)) (hs : P.underlying src = some .string) (ht : P.underlying dst = some (.slice e)) (he : P.underlying e = some (.int .u8)) (hxs : xs = strBytes s)
    (hd : o.dst = some d) (hn : Nat.blt d n = true) (hg : wantS ops S o = some true) (hC : wl.contains i = false → ∀ h' w, Sub h h' → Mm w0 Ex h' L w → C w)
    (t : ∀ g c h', Sub h h' → SlH h' U8 (some ⟨g, 0, none⟩) xs → xs.length ≤ c → T n ((d, .slice (some ⟨g, 0, none⟩) xs.length c) :: S) (Mm w0 Ex h' L) (wpZ P ops C wl Q rest K)) : T n S (Mm w0 Ex h L) (wpZ P ops C wl Q ((o, i, false) :: rest) K) := by
  refine z_gen (τ := { p : Nat × Nat × Frag // Sub h p.2.2 ∧ SlH p.2.2 U8 (some ⟨p.1, 0, none⟩) xs ∧ xs.length ≤ p.2.1 }) (f := fun p => .slice (some ⟨p.1.1, 0, none⟩) xs.length p.1.2.1) (M' := fun p => Mm w0 Ex p.1.2.2 L) hd hn hg (fun a w ha hw => ?_) (fun hb p w hm => hC hb _ w p.2.1 hm) (fun p => t _ _ _ p.2.1 p.2.2.1 p.2.2.2)
  have hr := Lib.run_convert_string_bytes (P := P) w src dst e s hs ht he
  have hB : Below w.heap.size w (Lib.bytesWorld w e s) := ⟨rfl, rfl, rfl, by rw [Lib.bytesWorld_size]; omega, fun k hk => Lib.bytesWorld_at_old w e s k hk⟩
  obtain ⟨h', hS, hm, hnew, _⟩ := hw.seal_new hB
  have hl : xs.length = s.size := by rw [hxs]; simp [strBytes]
  have hcap : s.size ≤ grownCap w s.size 0 e := grownCap_ge w s.size 0 e
  refine ⟨⟨(w.heap.size, grownCap w s.size 0 e, h'), hS, fun hp => ⟨w.heap.size, 0, rfl, fun j b hb => ?_⟩, by rw [hl]; exact hcap⟩, Lib.bytesWorld w e s, ?_, hm⟩
  · have hj : j < s.size := by rw [← hl]; exact (List.getElem?_eq_some_iff.1 hb).1
    have hc := Lib.bytesWorld_cell w e s j hj
    have hbv : U8 b = .int .u8 (s.data.toList.getD j 0).toNat := by
      rw [hxs] at hb
      unfold strBytes at hb
      rw [List.getElem?_map] at hb
      obtain ⟨u, hu, rfl⟩ := Option.map_eq_some_iff.1 hb
      rw [List.getD_eq_getElem?_getD, hu]
      unfold U8
      have := u.toNat_lt
      rw [BitVec.toNat_ofNat, Nat.mod_eq_of_lt (by omega)]; rfl
    rw [← hbv] at hc
    rw [Nat.zero_add]
    unfold World.cell? at hc
    split at hc
    · rename_i cur ty fz e1
      exact ⟨cur, ty, fz, hnew _ _ (Nat.le_refl _) e1, by simpa using hc⟩
    · cases hc
  · unfold execOp
    simp only [ho, ha.eval hx, Sem.run_bind, hr, Result.andThen_ok, hl]
    rfl
/-- A row of the call's own whose bytes are marked: it will not change again. -/
theorem Mm.mark {g a n : Nat} {b : Ent} (m : Mm w0 Ex h (b :: L) w) (hk : b.key = some g) {cs : Array Value} {e : TypeId} {fz fz' : Nat × Nat} (hg : w.heap[g]? = some (.cells cs e fz)) (hz : (w.freeze ⟨g, a, none⟩ n).heap[g]? = some (.cells cs e fz')) (ho : ∀ k, k ≠ g → (w.freeze ⟨g, a, none⟩ n).heap[k]? = w.heap[k]?) (hs : (w.freeze ⟨g, a, none⟩ n).heap.size = w.heap.size) (h1 : (w.freeze ⟨g, a, none⟩ n).os = w.os) (h2 : (w.freeze ⟨g, a, none⟩ n).tape = w.tape) (h3 : (w.freeze ⟨g, a, none⟩ n).output = w.output) :
    ∃ h', Sub h h' ∧ Mm w0 Ex h' L (w.freeze ⟨g, a, none⟩ n) ∧ h' g = some (.cells cs e fz') := by
  have hne : ∀ c ∈ L, ∀ k, c.key = some k → k ≠ g := fun c hc k e1 e2 => by
    obtain ⟨j, hj⟩ := List.mem_iff_getElem?.1 hc
    subst e2
    have := m.nodup 0 (j + 1) b c k rfl (by simpa using hj) hk e1; omega
  have hh : h g = none := m.sep b (by simp) g hk
  refine ⟨fun k => if k = g then some (.cells cs e fz') else h k, fun k o e1 => ?_, ⟨h1.trans m.os, h2.trans m.tape, h3.trans m.output, by rw [hs]; exact m.size, fun k hk1 hk2 => ?_, fun k o e1 => ?_, fun c hc => ?_, fun c hc k e1 => ?_, fun i j c d k hi hj k1 k2 => ?_, fun c hc => m.own c (List.mem_cons_of_mem _ hc)⟩, if_pos rfl⟩
  · show (if k = g then _ else h k) = some o
    rw [if_neg (fun e2 => by subst e2; rw [hh] at e1; cases e1)]; exact e1
  · rw [ho k (fun e2 => by
      subst e2
      rcases m.own b (by simp) k hk with h4 | h4
      · omega
      · exact hk2 h4)]
    exact m.old k hk1 hk2
  · have e1 : (if k = g then some (.cells cs e fz') else h k) = some o := e1
    by_cases e2 : k = g
    · rw [if_pos e2] at e1
      rw [e2, hz]; exact e1
    · rw [if_neg e2] at e1
      rw [ho k e2]; exact m.seal_ k o e1
  · exact (m.ents c (List.mem_cons_of_mem _ hc)).of_block fun k e1 => ho k (hne c hc k e1)
  · show (if k = g then _ else h k) = none
    rw [if_neg (hne c hc k e1)]; exact m.sep c (List.mem_cons_of_mem _ hc) k e1
  · have := m.nodup (i + 1) (j + 1) c d k (by simpa using hi) (by simpa using hj) k1 k2; omega
/-- []byte("..."): the row is marked. -/
theorem z_strMark {ty e : TypeId} {x : Operand} {g N : Nat} {xs : List (BitVec 8)} (ho : o.op = .convert ty ty x) (hx : ev S x = some (.slice (some ⟨g, 0, none⟩) xs.length N)) (ht : P.underlying ty = some (.slice e)) (he : P.underlying e = some (.int .u8))
    (hd : o.dst = some d) (hn : Nat.blt d n = true) (hg : wantS ops S o = some true) (hC : wl.contains i = false → ∀ h' w, Sub h h' → Mm w0 Ex h' L w → C w)
    (t : ∀ h', Sub h h' → SlH h' U8 (some ⟨g, 0, none⟩) xs → T n ((d, .slice (some ⟨g, 0, none⟩) xs.length N) :: S) (Mm w0 Ex h' L) (wpZ P ops C wl Q rest K)) : T n S (Mm w0 Ex h (.row (.slice (some ⟨g, 0, none⟩) xs.length N) e 1 (xs.map U8) :: L)) (wpZ P ops C wl Q ((o, i, false) :: rest) K) := by
  refine z_gen (τ := { h' : Frag // Sub h h' ∧ SlH h' U8 (some ⟨g, 0, none⟩) xs }) (f := fun _ => .slice (some ⟨g, 0, none⟩) xs.length N) (M' := fun p => Mm w0 Ex p.1 L) hd hn hg (fun a w ha hw => ?_) (fun hb p w hm => hC hb _ w p.2.1 hm) (fun p => t _ p.2.1 p.2.2)
  obtain ⟨K, hr⟩ := hw.ents _ (List.mem_cons_self ..)
  have hcell := fun (q : Nat) (u : Value) (hu : (xs.map U8)[q]? = some u) => own_cells hw (j := 0) rfl rfl hu
  obtain ⟨_, h2 | ⟨g', cap, cur, hv, _, hh, _⟩⟩ := hr
  · cases h2.1
  have hv := hv
  obtain rfl : g' = g := by injection hv with h1 _ _; injection h1 with h1; injection h1 with h1 _ _; exact h1.symm
  have hsh : w.shape? g' = some (e, cur.size) := by unfold World.shape?; rw [hh]
  have hf : (w.freeze ⟨g', cur.size, none⟩ 1).heap[g']? = some (.cells cur e (cur.size, cur.size + 1)) := by
    simp [World.freeze, Array.getElem?_modify, hh]
  obtain ⟨h', hS, hm, hgg⟩ := hw.mark (g := g') (a := cur.size) (n := 1) rfl hh hf (fun k hk => by simp [World.freeze, Array.getElem?_modify, Ne.symm hk]) (by simp [World.freeze]) rfl rfl rfl
  refine ⟨⟨h', hS, fun hp => ⟨g', 0, rfl, fun j b hb => ?_⟩⟩, _, ?_, hm⟩
  · have hc := hcell j (U8 b) (by rw [List.getElem?_map, hb]; rfl)
    refine ⟨cur, e, _, hgg, ?_⟩
    rw [Nat.zero_add]
    unfold World.cell? at hc
    rw [hh] at hc
    simpa using hc
  · have hcv : (convert ty ty (.slice (some ⟨g', 0, none⟩) xs.length N)).run P w = .ok (.slice (some ⟨g', 0, none⟩) xs.length N) (w.freeze ⟨g', cur.size, none⟩ 1) := by
      simp [convert, run_underlying ht, run_underlying he, markStringish, hsh, Result.andThen]
    unfold execOp
    simp only [ho, ha.eval hx, Sem.run_bind, hcv, Result.andThen_ok]
    rfl
theorem res_sealed {x : Tmp} {ty : TypeId} {dd : TypeDesc} {b base : Nat} {cs : List Value} (hc : ∀ (k : Nat) (v : Value), cs[k]? = some v → HC h b (base + k) v) (hv : look S x = some (.pointer (some ⟨b, base, none⟩))) (hu : P.underlying ty = some dd) (hd : dd.isRow = true) (hs : (P.info? ty).map (·.size) = some cs.length) : Res P n S (Mm w0 Ex h L) (.cell x ty) (.agg cs.toArray) := fun a w ha hw =>
  ⟨_, by rw [ha.has x _ hv]; rfl, run_loadVar_mid (P := P) w b base ty cs dd (range_of hc (k := 0) seg_all hw) hu hd hs⟩
/-- What a result variable holds, as the machine asks for it. -/
def resv (tmps : Array Value) : ResultVar → Sem Value
  | .tmp t => pure (tmps.getD t undef)
  | .cell a t => do loadVar t (← asAddr (tmps.getD a undef))
theorem Res.run {x : ResultVar} (hx : Res P n S M x v) {a : Act} {w : World} (ha : Fr a n S) (hw : M w) : (resv a.tmps x).run P w = .ok v w := by
  have h1 := hx a w ha hw
  cases x with
  | tmp t => simp only at h1; simp [resv, h1]
  | cell p t => obtain ⟨q, e1, e2⟩ := h1; simp [resv, e1, asAddr, e2]
theorem results_resv (fn : Func) (tmps : Array Value) : results fn tmps = (fn.results.mapM (resv tmps) >>= fun vs => pure (if h : vs.size = 1 then vs[0] else .tuple vs)) := by
  unfold results
  congr 1
theorem ret3 {fn : Func} {R : Ending → World → Prop} {x y z : ResultVar} {u t : Value} (hr : fn.results = #[x, y, z]) (hx : Res P n S M x v) (hy : Res P n S M y u) (hz : Res P n S M z t) (hR : ∀ w, M w → R (.returned (.tuple #[v, u, t])) w) : T n S M (bodyPost P fn R .ret) := fun a w ha hw => by
  refine ⟨ha.defers, _, ?_, hR w hw⟩
  rw [results_resv, hr]
  simp [hx.run ha hw, hy.run ha hw, hz.run ha hw]
theorem ret4 {fn : Func} {R : Ending → World → Prop} {x y z z' : ResultVar} {u t t' : Value} (hr : fn.results = #[x, y, z, z']) (hx : Res P n S M x v) (hy : Res P n S M y u) (hz : Res P n S M z t) (hz' : Res P n S M z' t') (hR : ∀ w, M w → R (.returned (.tuple #[v, u, t, t'])) w) : T n S M (bodyPost P fn R .ret) := fun a w ha hw => by
  refine ⟨ha.defers, _, ?_, hR w hw⟩
  rw [results_resv, hr]
  simp [hx.run ha hw, hy.run ha hw, hz.run ha hw, hz'.run ha hw]
end
end Go.Proofs.Ytapfkdcilfpbhaa
