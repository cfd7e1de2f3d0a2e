/- The logic's rules for operations. -/
import Derived.Test.YtapfkdcilfpbhaaT
namespace Go.Proofs.Ytapfkdcilfpbhaa
open Go.RowKit
set_option linter.unusedVariables false
set_option linter.unusedSimpArgs false

section
variable {P : Program} {ops : Array Oper} {C : World → Prop} {wl : List Nat} {Q : Exit → Act → World → Prop} {K : Act → World → Prop}
/-- As 'wpZip', what follows given. -/
def wpZ (P : Program) (ops : Array Oper) (C : World → Prop) (wl : List Nat) (Q : Exit → Act → World → Prop) : List (Oper × Nat × Bool) → (Act → World → Prop) → Act → World → Prop
  | [], K, a, w => K a w
  | (o, _, true) :: rest, K, a, w => C w ∧ ∃ v, YieldsS P ops C o v a ∧ wpZ P ops C wl Q rest K (a.put o.dst v) w
  | (o, i, false) :: rest, K, a, w =>
    if Region.wanted o (yielded ops a.tmps) then
      o.wp P a w (fun a' w' => (wl.contains i = false → C w') ∧ wpZ P ops C wl Q rest K a' w') Q ∨ (o.asks P a w ∧ LetsOut Q)
    else (wl.contains i = false → C w) ∧ wpZ P ops C wl Q rest K (a.put o.dst undef) w
theorem wpZip_of : ∀ (l : List (Oper × Nat × Bool)) (a : Act) (w : World), wpZ P ops C wl Q l (Q .normal) a w → wpZip P ops C wl Q l a w
  | [], _, _, h => h
  | (o, i, true) :: r, a, w, ⟨h1, v, h2, h3⟩ => ⟨h1, v, h2, wpZip_of r _ _ h3⟩
  | (o, i, false) :: r, a, w, h => by
    unfold wpZ at h; unfold wpZip
    split
    · rename_i hw
      rw [if_pos hw] at h
      exact h.imp (Oper.wp_mono fun a' w' h' => ⟨h'.1, wpZip_of r _ _ h'.2⟩) id
    · rename_i hw
      rw [if_neg hw] at h
      exact ⟨h.1, wpZip_of r _ _ h.2⟩
theorem wpZ_append : ∀ (l r : List (Oper × Nat × Bool)) (a : Act) (w : World), wpZ P ops C wl Q l (wpZ P ops C wl Q r K) a w → wpZ P ops C wl Q (l ++ r) K a w
  | [], _, _, _, h => h
  | (o, i, true) :: l, r, a, w, ⟨h1, v, h2, h3⟩ => ⟨h1, v, h2, wpZ_append l r _ _ h3⟩
  | (o, i, false) :: l, r, a, w, h => by
    unfold wpZ at h; rw [List.cons_append]; unfold wpZ
    split
    · rename_i hw
      rw [if_pos hw] at h
      exact h.imp (Oper.wp_mono fun a' w' h' => ⟨h'.1, wpZ_append l r _ _ h'.2⟩) id
    · rename_i hw
      rw [if_neg hw] at h
      exact ⟨h.1, wpZ_append l r _ _ h.2⟩
theorem wpZ_mono {K' : Act → World → Prop} (hk : ∀ a w, K a w → K' a w) : ∀ (l : List (Oper × Nat × Bool)) (a : Act) (w : World), wpZ P ops C wl Q l K a w → wpZ P ops C wl Q l K' a w
  | [], _, _, h => hk _ _ h
  | (o, i, true) :: l, a, w, ⟨h1, v, h2, h3⟩ => ⟨h1, v, h2, wpZ_mono hk l _ _ h3⟩
  | (o, i, false) :: l, a, w, h => by
    unfold wpZ at *
    split
    · rename_i hw
      rw [if_pos hw] at h
      exact h.imp (Oper.wp_mono fun a' w' h' => ⟨h'.1, wpZ_mono hk l _ _ h'.2⟩) id
    · rename_i hw
      rw [if_neg hw] at h
      exact ⟨h.1, wpZ_mono hk l _ _ h.2⟩
/-- In the order of the text. -/
def inOrder : List Oper → Nat → List (Oper × Nat × Bool)
  | [], _ => []
  | o :: l, i => (o, i, false) :: inOrder l (i + 1)
theorem wpList_of_Z : ∀ (l : List Oper) (i : Nat) (a : Act) (w : World), wpZ P ops (fun _ => True) [] Q (inOrder l i) (Q .normal) a w → wpList P ops Q l a w
  | [], _, _, _, h => h
  | o :: l, i, a, w, h => by
    unfold inOrder wpZ at h; unfold wpList
    split
    · rename_i hw
      rw [if_pos hw] at h
      exact h.imp (Oper.wp_mono fun a' w' h' => wpList_of_Z l (i + 1) _ _ h'.2) id
    · rename_i hw
      rw [if_neg hw] at h
      exact wpList_of_Z l (i + 1) _ _ h.2
end

/-- Is the operation wanted, by the slots? -/
def wantS (ops : Array Oper) (S : List (Nat × Value)) (o : Oper) : Option Bool :=
  match o.guard with
  | none => some true
  | some (j, b) => match (ops[j]?).bind (·.dst) with
    | some d => match look S d with
      | some v => match v with
        | .bool c => some (c == b)
        | _ => some false
      | none => none
    | none => none
theorem wantS_ok {ops : Array Oper} {S : List (Nat × Value)} {o : Oper} {r : Bool} (h : wantS ops S o = some r) {a : Act} {n : Nat} (ha : Fr a n S) : Region.wanted o (yielded ops a.tmps) = r := by
  unfold wantS at h
  unfold Region.wanted
  split at h
  · rename_i hg; rw [hg]; exact Option.some.inj h
  · rename_i j b hg
    rw [hg]
    split at h
    · rename_i d hd
      split at h
      · rename_i v hc
        have := ha.has d _ hc
        split at h
        · obtain rfl := Option.some.inj h
          rename_i c
          show (yielded ops a.tmps j == some b) = (c == b)
          unfold yielded
          rw [hd]
          simp [this]
        · obtain rfl := Option.some.inj h
          rename_i hnb
          show (yielded ops a.tmps j == some b) = false
          unfold yielded
          rw [hd]
          simp only [Option.bind_some, this]
          cases v <;> first | rfl | exact (hnb _ rfl).elim
      · cases h
    · cases h

section
variable {P : Program} {ops : Array Oper} {C : World → Prop} {wl : List Nat} {Q : Exit → Act → World → Prop} {K : Act → World → Prop} {w0 : World} {Ex : List Nat} {n : Nat} {S : List (Nat × Value)} {h : Frag} {L L' : List Ent} {M M' : World → Prop} {k : List It} {l : List Oper} {rest : List (Oper × Nat × Bool)} {o : Oper} {i : Nat} {d : Tmp} {v : Value}
theorem t_region {id : Nat} (t : ∀ ops, ops = l.toArray → T n S M (wpZ P ops (fun _ => True) [] (Hd P Q k) (inOrder l 0) (Go P Q k))) : T n S M (Go P Q (.code (.region id l.toArray false) :: k)) := fun a w ha hw =>
  wp_region_lit (wpList_of_Z l 0 a w (t _ rfl a w ha hw))
/-- A region that draws, walked by a plan. -/
theorem t_plan {id : Nat} (wl : List Nat) (pl : List (Nat × Bool)) (hm : P.follows .mixedOrders = true) (hB : (planOk .any l wl pl && pl.all fun x => Nat.blt x.1 l.length) = true) (hd : ∀ w, M w → M w.drew)
    (t : ∀ ops, ops = l.toArray → T n S M (wpZ P ops C wl (NoPan (Hd P Q k)) (zipPlan l pl) (Go P Q k))) : T n S M (Go P Q (.code (.region id l.toArray true) :: k)) := fun a w ha hw =>
  wp_plan C wl pl hm hB fun ops ho => wpZip_of _ _ _ (t ops ho a w.drew ha (hd w hw))
theorem z_nil (t : T n S M K) : T n S M (wpZ P ops C wl Q [] K) := t

/-- In every frame and world like that the operation leaves v, and that very world. -/
def Val (P : Program) (n : Nat) (S : List (Nat × Value)) (M : World → Prop) (o : Oper) (v : Value) : Prop := ∀ a w, Fr a n S → M w → (execOp a.eval o).run P w = .ok (.value v) w
theorem put_some {a : Act} {v : Value} (hd : o.dst = some d) (hn : Nat.blt d n = true) (ha : Fr a n S) : Fr (a.put o.dst v) n ((d, v) :: S) := by rw [hd]; exact ha.put hn v
theorem z_still (hv : Val P n S C o v) (hd : o.dst = some d) (hn : Nat.blt d n = true) (hg : wantS ops S o = some true) (hC : ∀ w, M w → C w) (t : T n ((d, v) :: S) M (wpZ P ops C wl Q rest K)) :
    T n S M (wpZ P ops C wl Q ((o, i, true) :: rest) K) := fun a w ha hw =>
  ⟨hC w hw, v, .inl ⟨wantS_ok hg ha, fun w1 h1 => by unfold stillAt; rw [hv a w1 ha h1]; exact ⟨rfl, rfl⟩⟩, t _ _ (put_some hd hn ha) hw⟩
theorem z_val (hv : Val P n S M o v) (hd : o.dst = some d) (hn : Nat.blt d n = true) (hg : wantS ops S o = some true) (hC : wl.contains i = false → ∀ w, M w → C w) (t : T n ((d, v) :: S) M (wpZ P ops C wl Q rest K)) :
    T n S M (wpZ P ops C wl Q ((o, i, false) :: rest) K) := fun a w ha hw => by
  unfold wpZ
  rw [if_pos (wantS_ok hg ha)]
  refine .inl ?_
  unfold Oper.wp
  rw [hv a w ha hw]
  exact ⟨fun h => hC h w hw, t _ _ (put_some hd hn ha) hw⟩
theorem z_skip (hd : o.dst = some d) (hn : Nat.blt d n = true) (hg : wantS ops S o = some false) (hC : wl.contains i = false → ∀ w, M w → C w) (t : T n ((d, undef) :: S) M (wpZ P ops C wl Q rest K)) :
    T n S M (wpZ P ops C wl Q ((o, i, false) :: rest) K) := fun a w ha hw => by
  unfold wpZ
  rw [if_neg (by rw [wantS_ok hg ha]; simp)]
  exact ⟨fun h => hC h w hw, t _ _ (put_some hd hn ha) hw⟩
theorem z_skip_still (hd : o.dst = some d) (hn : Nat.blt d n = true) (hg : wantS ops S o = some false) (hC : ∀ w, M w → C w) (t : T n ((d, undef) :: S) M (wpZ P ops C wl Q rest K)) :
    T n S M (wpZ P ops C wl Q ((o, i, true) :: rest) K) := fun a w ha hw =>
  ⟨hC w hw, undef, .inr ⟨wantS_ok hg ha, rfl⟩, t _ _ (put_some hd hn ha) hw⟩
theorem z_skip_none (hd : o.dst = none) (hg : wantS ops S o = some false) (hC : wl.contains i = false → ∀ w, M w → C w) (t : T n S M (wpZ P ops C wl Q rest K)) :
    T n S M (wpZ P ops C wl Q ((o, i, false) :: rest) K) := fun a w ha hw => by
  unfold wpZ
  rw [if_neg (by rw [wantS_ok hg ha]; simp)]
  exact ⟨fun h => hC h w hw, by rw [hd]; exact t _ _ ha hw⟩
/-- Within a region ways meet again. -/
theorem z_bind {α β τ : Type} {e : Option α} {f : α → Option β} {r : β} (H : e.bind f = some r) (m : Nat) {zl : List (Oper × Nat × Bool)} (S' : α → τ → List (Nat × Value)) (M' : α → τ → World → Prop) (Φ : α → τ → Prop)
    (A : ∀ Gr : Act → World → Prop, (∀ x g, f x = some r → Φ x g → T n (S' x g) (M' x g) Gr) → ∀ x, e = some x → f x = some r → T n S M (wpZ P ops C wl Q (zl.take m) Gr))
    (B : ∀ x g, f x = some r → Φ x g → T n (S' x g) (M' x g) (wpZ P ops C wl Q (zl.drop m) K)) : T n S M (wpZ P ops C wl Q zl K) := by
  obtain ⟨x, he, hx⟩ := Option.bind_eq_some_iff.1 H
  intro a w ha hw
  have := A _ B x he hx a w ha hw
  have h2 := wpZ_append (P := P) (ops := ops) (C := C) (wl := wl) (Q := Q) (K := K) _ _ _ _ this
  rwa [List.take_append_drop] at h2

/-! ### What operations leave -/
theorem val_move {x : Operand} (ho : o.op = .move x) (hx : ev S x = some v) : Val P n S M o v := fun a w ha _ => by
  unfold execOp; simp [ho, ha.eval hx]
theorem val_assign {x : Operand} (ho : o.op = .assign x) (hx : ev S x = some v) : Val P n S M o v := fun a w ha _ => by
  unfold execOp; simp [ho, ha.eval hx]
theorem val_pick {c x y : Operand} {b : Bool} (ho : o.op = .pick c x y) (hc : ev S c = some (.bool b)) (hx : ev S (if b then x else y) = some v) : Val P n S M o v := fun a w ha _ => by
  unfold execOp
  cases b
  · simp only [Bool.false_eq_true, if_false] at hx
    simp [ho, ha.eval hc, ha.eval hx, asBool]
  · simp only [if_true] at hx
    simp [ho, ha.eval hc, ha.eval hx, asBool]
theorem val_bin {bo : BinOp} {t t2 : TypeId} {x y : Operand} {vx vy : Value} (ho : o.op = .binOp bo t x y t2) (hx : ev S x = some vx) (hy : ev S y = some vy) (hg : eqGuard bo t x y vx vy = pure ()) (hb : binOp bo t vx vy = pure v) : Val P n S M o v := fun a w ha _ => by
  unfold execOp; simp [ho, ha.eval hx, ha.eval hy, hg, hb]
theorem val_binw {bo : BinOp} {t t2 : TypeId} {x y : Operand} {vx vy : Value} (ho : o.op = .binOp bo t x y t2) (hx : ev S x = some vx) (hy : ev S y = some vy) (hg : eqGuard bo t x y vx vy = pure ()) (hb : ∀ w, (binOp bo t vx vy).run P w = .ok v w) : Val P n S M o v := fun a w ha _ => by
  unfold execOp; simp [ho, ha.eval hx, ha.eval hy, hg, hb]
theorem val_un {u : UnOp} {t : TypeId} {x : Operand} {vx : Value} (ho : o.op = .unOp u t x) (hx : ev S x = some vx) (hb : Op.unary u vx = pure v) : Val P n S M o v := fun a w ha _ => by
  unfold execOp; simp [ho, ha.eval hx, hb]
theorem val_conv {s t : TypeId} {x : Operand} {vx : Value} (ho : o.op = .convert s t x) (hx : ev S x = some vx) (hb : ∀ w, (convert s t vx).run P w = .ok v w) : Val P n S M o v := fun a w ha _ => by
  unfold execOp; simp [ho, ha.eval hx, hb]
theorem val_extract {x : Operand} {j : Nat} {vs : Array Value} (ho : o.op = .extract x j) (hx : ev S x = some (.tuple vs)) (hv : vs[j]? = some v) : Val P n S M o v := fun a w ha _ => by
  unfold execOp; simp [ho, ha.eval hx, Instr.extract, hv]
theorem val_nilCheck {x : Operand} {p : Addr} (ho : o.op = .nilCheck x) (hx : ev S x = some (.pointer (some p))) : Val P n S M o (.pointer (some p)) := fun a w ha _ => by
  unfold execOp; simp [ho, ha.eval hx]
/-- A variable of one cell. -/
theorem loadVar_one {ty : TypeId} {d : TypeDesc} (hu : P.underlying ty = some d) (hd : d.isRow = false) {a : Addr} {w : World} (hc : w.cell? a = some v) : (loadVar ty a).run P w = .ok v w := by
  have hagg : (isAgg ty).run P w = .ok false w := by
    unfold isAgg
    rw [Sem.run_bind, run_underlying hu w]
    cases d <;> simp_all
  simp [loadVar, Sem.run_bind, hagg, run_load, hc]
theorem val_load1 {ty : TypeId} {d : TypeDesc} {x : Operand} {p : Addr} (ho : o.op = .load ty x) (hx : ev S x = some (.pointer (some p))) (hu : P.underlying ty = some d) (hd : d.isRow = false) (hc : ∀ w, M w → w.cell? p = some v) : Val P n S M o v := fun a w ha hw => by
  unfold execOp; simp [ho, ha.eval hx, Instr.loadAt, Instr.sureAddr, loadVar_one hu hd (hc w hw)]
theorem val_loadR {ty : TypeId} {d : TypeDesc} {x : Operand} {g off : Nat} {cs : List Value} (ho : o.op = .load ty x) (hx : ev S x = some (.pointer (some ⟨g, off, none⟩))) (hu : P.underlying ty = some d) (hd : d.isRow = true) (hs : (P.info? ty).map (·.size) = some cs.length) (hc : ∀ w, M w → w.rangeAt g off cs) : Val P n S M o (.agg cs.toArray) := fun a w ha hw => by
  unfold execOp; simp [ho, ha.eval hx, Instr.loadAt, Instr.sureAddr, run_loadVar_mid w g off ty cs d (hc w hw) hu hd hs]
/-- A cell, some cells, of a block of the call's own. -/
theorem Mm.cell {w : World} (m : Mm w0 Ex h L w) {j q : Nat} {g : Nat} {t : TypeId} {cs : List Value} {room : Nat} (hL : L[j]? = some (.blk g t cs room)) (hv : cs[q]? = some v) : w.cell? ⟨g, q, none⟩ = some v := on_cell (m.ents _ (List.mem_of_getElem? hL)) hv
theorem Mm.range {w : World} (m : Mm w0 Ex h L w) {j : Nat} {g : Nat} {t : TypeId} {cs : List Value} {room : Nat} (hL : L[j]? = some (.blk g t cs room)) (off : Nat) (vs : List Value) (hv : ∀ (q : Nat) (u : Value), vs[q]? = some u → cs[off + q]? = some u) : w.rangeAt g off vs := fun q u hu => m.cell hL (hv q u hu)
theorem Mm.whole {w : World} (m : Mm w0 Ex h L w) {j : Nat} {g : Nat} {t : TypeId} {cs : List Value} {room : Nat} (hL : L[j]? = some (.blk g t cs room)) : w.rangeAt g 0 cs := m.range hL 0 cs fun q u hu => by rwa [Nat.zero_add]
theorem run_sizeOf {t : TypeId} {sz : Nat} (hs : (P.info? t).map (·.size) = some sz) (w : World) : (sizeOf t).run P w = .ok sz w := by
  cases hq : P.info? t with
  | none => simp [hq] at hs
  | some i =>
    have : i.size = sz := by simpa [hq] using hs
    simp [sizeOf, typeInfo, hq, this]
/-- The address of an array's element. -/
theorem val_idxA {t e : TypeId} {N : Nat} {x y : Operand} {g off : Nat} {kk : IntKind} {q : Int} {sz : Nat} (ho : o.op = .indexAddr t x y) (hx : ev S x = some (.pointer (some ⟨g, off, none⟩))) (hy : ev S y = some (.int kk q)) (hu : P.underlying t = some (.array N e)) (hs : (P.info? e).map (·.size) = some sz) (hq : 0 ≤ q ∧ q < N) :
    Val P n S M o (.pointer (some ⟨g, off + q.toNat * sz, none⟩)) := fun a w ha _ => by
  unfold execOp
  simp [ho, ha.eval hx, ha.eval hy, Instr.indexAt, asIntOf, run_underlying hu, Instr.sureAddr, hq, run_sizeOf hs, Addr.add_mid, Result.andThen]
theorem val_idxS {t e : TypeId} {x y : Operand} {p : Addr} {N c : Nat} {kk : IntKind} {q : Int} {sz : Nat} (ho : o.op = .indexAddr t x y) (hx : ev S x = some (.slice (some p) N c)) (hy : ev S y = some (.int kk q)) (hu : P.underlying t = some (.slice e)) (hs : (P.info? e).map (·.size) = some sz) (hq : 0 ≤ q ∧ q < N) :
    Val P n S M o (.pointer (some (p.add (q.toNat * sz)))) := fun a w ha _ => by
  unfold execOp
  simp [ho, ha.eval hx, ha.eval hy, Instr.indexAt, asIntOf, run_underlying hu, hq, run_sizeOf hs, Result.andThen]
theorem val_fld {t : TypeId} {fs : Array Field} {f : Field} {x : Operand} {g off j sz : Nat} (ho : o.op = .fieldAddr t x j) (hx : ev S x = some (.pointer (some ⟨g, off, none⟩))) (hu : P.underlying t = some (.struct fs)) (hf : fs[j]? = some f) (hs : (P.info? f.type).map (·.size) = some sz) (h0 : sz ≠ 0) :
    Val P n S M o (.pointer (some ⟨g, off + f.offset, none⟩)) := fun a w ha _ => by
  unfold execOp
  simp [ho, ha.eval hx, Instr.fieldAt, run_underlying hu, hf, Instr.sureAddr, fieldPlace, run_sizeOf hs, h0, Addr.add_mid, Result.andThen]
/-- An element of an array by value. -/
theorem val_index {t e : TypeId} {N : Nat} {x y : Operand} {cs : Array Value} {kk : IntKind} {q : Int} {de : TypeDesc} (ho : o.op = .index t x y) (hx : ev S x = some (.agg cs)) (hy : ev S y = some (.int kk q)) (hu : P.underlying t = some (.array N e)) (he : P.underlying e = some de) (hd : de.isRow = false) (hs : (P.info? e).map (·.size) = some 1) (hq : 0 ≤ q ∧ q < N) (hv : cs[q.toNat]? = some v) :
    Val P n S M o v := fun a w ha _ => by
  have hagg : (isAgg e).run P w = .ok false w := by
    unfold isAgg
    rw [Sem.run_bind, run_underlying he w]
    cases de <;> simp_all
  unfold execOp
  simp [ho, ha.eval hx, ha.eval hy, Instr.index, asIntOf, run_underlying hu, hq, run_sizeOf hs, part, hagg, hv, Result.andThen]
/-- The length of a slice. -/
theorem val_len {t e : TypeId} {x : Operand} {A : Option Addr} {N c : Nat} {ts : Array TypeId} (ho : o.op = .call { callee := .builtin .len, args := #[x], argTypes := ts }) (hts : ts = #[t]) (hx : ev S x = some (.slice A N c)) (hu : P.underlying t = some (.slice e)) : Val P n S M o (.int .i64 N) := fun a w ha _ => by
  subst hts
  unfold execOp
  simp [ho, resolve, ha.eval hx, invoke, builtin, Builtin.len_, Builtin.lenOf, run_underlying hu, Result.andThen, goInt]
end
end Go.Proofs.Ytapfkdcilfpbhaa
