/- The logic's rules for memory: what is made, stored, called, handed back. -/
import Derived.Test.YtapfkdcilfpbhaaTz
import Derived.Test.YtapfkdcilfpbhaaTp
import Derived.Laws.AppendOwnNone
import Derived.Maps.AppendAt
import Derived.Laws.MakeOwn
namespace Go.Proofs.Ytapfkdcilfpbhaa
open Go.RowKit
set_option linter.unusedVariables false
set_option linter.unusedSimpArgs false

section
variable {P : Program} {ops : Array Oper} {C : World → Prop} {wl : List Nat} {Q : Exit → Act → World → Prop} {K : Act → World → Prop} {w0 : World} {Ex : List Nat} {n : Nat} {S : List (Nat × Value)} {h : Frag} {L L' : List Ent} {M M' : World → Prop} {k : List It} {l : List Oper} {rest : List (Oper × Nat × Bool)} {o : Oper} {i : Nat} {d : Tmp} {v : Value}
/-- An operation that makes something. -/
theorem z_make {M' : Nat → World → Prop} {f : Nat → Value} (hd : o.dst = some d) (hn : Nat.blt d n = true) (hg : wantS ops S o = some true)
    (hr : ∀ a w, Fr a n S → M w → ∃ g w', (execOp a.eval o).run P w = .ok (.value (f g)) w' ∧ M' g w') (hC : wl.contains i = false → ∀ g w, M' g w → C w)
    (t : ∀ g, T n ((d, f g) :: S) (M' g) (wpZ P ops C wl Q rest K)) : T n S M (wpZ P ops C wl Q ((o, i, false) :: rest) K) := fun a w ha hw => by
  unfold wpZ
  rw [if_pos (wantS_ok hg ha)]
  refine .inl ?_
  obtain ⟨g, w', e, hw'⟩ := hr a w ha hw
  unfold Oper.wp
  rw [e]
  exact ⟨fun hb => hC hb g w' hw', t g _ _ (put_some hd hn ha) hw'⟩
theorem z_alloc {ty : TypeId} {cs : List Value} {room : Nat} (ho : o.op = .alloc ty) (hz : (P.info? ty).map (·.zero) = some (some v)) (hv : v.cells = cs.toArray) (hl : cs.length = room) (hd : o.dst = some d) (hn : Nat.blt d n = true) (hg : wantS ops S o = some true)
    (hC : wl.contains i = false → ∀ g w, Mm w0 Ex h (.blk g ty cs room :: L) w → C w) (t : ∀ g, T n ((d, .pointer (some ⟨g, 0, none⟩)) :: S) (Mm w0 Ex h (.blk g ty cs room :: L)) (wpZ P ops C wl Q rest K)) :
    T n S (Mm w0 Ex h L) (wpZ P ops C wl Q ((o, i, false) :: rest) K) := by
  refine z_make (f := fun g => .pointer (some ⟨g, 0, none⟩)) (M' := fun g => Mm w0 Ex h (.blk g ty cs room :: L)) hd hn hg (fun a w _ hw => ⟨w.heap.size, w.alloc (.cells cs.toArray ty), ?_, hw.alloc cs ty room hl⟩) hC t
  have hz' : (zeroValue ty).run P w = .ok v w := by
    cases hq : P.info? ty with
    | none => simp [hq] at hz
    | some i => have : i.zero = some v := by simpa [hq] using hz
                simp [zeroValue, typeInfo, hq, this]
  unfold execOp
  simp [ho, Instr.alloc, hz', newVar, newRow, hv, Result.andThen]
theorem z_box {ty : TypeId} {cs : List Value} {room : Nat} {x : Operand} (ho : o.op = .box ty x) (hx : ev S x = some v) (hv : v.cells = cs.toArray) (hl : cs.length = room) (hd : o.dst = some d) (hn : Nat.blt d n = true) (hg : wantS ops S o = some true)
    (hC : wl.contains i = false → ∀ g w, Mm w0 Ex h (.blk g ty cs room :: L) w → C w) (t : ∀ g, T n ((d, .pointer (some ⟨g, 0, none⟩)) :: S) (Mm w0 Ex h (.blk g ty cs room :: L)) (wpZ P ops C wl Q rest K)) :
    T n S (Mm w0 Ex h L) (wpZ P ops C wl Q ((o, i, false) :: rest) K) := by
  refine z_make (f := fun g => .pointer (some ⟨g, 0, none⟩)) (M' := fun g => Mm w0 Ex h (.blk g ty cs room :: L)) hd hn hg (fun a w ha hw => ⟨w.heap.size, w.alloc (.cells cs.toArray ty), ?_, hw.alloc cs ty room hl⟩) hC t
  unfold execOp
  simp [ho, ha.eval hx, Instr.box, newVar, newRow, hv, Result.andThen]
/-- A store. -/
theorem z_store (hr : ∀ a w, Fr a n S → M w → ∃ w', (execOp a.eval o).run P w = .ok .skip w' ∧ M' w') (hd : o.dst = none) (hg : wantS ops S o = some true) (hC : wl.contains i = false → ∀ w, M' w → C w)
    (t : T n S M' (wpZ P ops C wl Q rest K)) : T n S M (wpZ P ops C wl Q ((o, i, false) :: rest) K) := fun a w ha hw => by
  unfold wpZ
  rw [if_pos (wantS_ok hg ha)]
  refine .inl ?_
  obtain ⟨w', e, hw'⟩ := hr a w ha hw
  unfold Oper.wp
  rw [e]
  exact ⟨fun hb => hC hb w' hw', t _ _ (by rw [hd]; exact ha) hw'⟩
theorem run_storeVar_1 {ty : TypeId} (hs : (P.info? ty).map (·.size) = some 1) (h1 : v.cells = #[v]) (h2 : v.oneCell' = true) {p : Addr} {w : World} {u : Value} (hc : w.cell? p = some u) (hf : w.frozen? p = false) : (storeVar ty p v).run P w = .ok () (w.setCell p v) := by
  have e : p.add 0 = p := by simp [Addr.add]
  simp [storeVar, run_sizeOf hs, h1, storeCells, e, run_store P w p v _ h2, stored, hc, hf, Result.andThen]
theorem z_store1 {ty : TypeId} {x y : Operand} {j q g : Nat} {t0 : TypeId} {cs cs' : List Value} {room : Nat} (ho : o.op = .store ty x y) (hx : ev S x = some (.pointer (some ⟨g, q, none⟩))) (hy : ev S y = some v) (h1 : v.cells = #[v]) (h2 : v.oneCell' = true) (hs : (P.info? ty).map (·.size) = some 1)
    (hL : L[j]? = some (.blk g t0 cs room)) (hq : q < cs.length) (hcs : cs.set q v = cs') (hL' : L.set j (.blk g t0 cs' room) = L') (hd : o.dst = none) (hg : wantS ops S o = some true) (hC : wl.contains i = false → ∀ w, Mm w0 Ex h L' w → C w)
    (t : T n S (Mm w0 Ex h L') (wpZ P ops C wl Q rest K)) : T n S (Mm w0 Ex h L) (wpZ P ops C wl Q ((o, i, false) :: rest) K) := by
  refine z_store (M' := Mm w0 Ex h L') (fun a w ha hw => ?_) hd hg hC t
  have hon := hw.ents _ (List.mem_of_getElem? hL)
  have hc := on_cell hon (List.getElem?_eq_getElem hq)
  refine ⟨w.setCell ⟨g, q, none⟩ v, ?_, ?_⟩
  · unfold execOp
    simp [ho, ha.eval hx, ha.eval hy, Instr.storeAt, Instr.sureAddr, run_storeVar_1 hs h1 h2 hc (on_free hon q)]
  · subst hL'
    refine hw.change hL (fun g' k => .inl k) ?_ rfl rfl rfl (by simp) (fun k hk _ => Below.heap_setCell _ _ _ _ (fun e => hk (by rw [e]; rfl)))
    obtain ⟨cur, hb, hr, hh⟩ := hon
    refine ⟨cur.setIfInBounds q v, ?_, by simpa using hr, ?_⟩
    · simp [World.setCell, Array.getElem?_modify, hb]
    · intro p u hp
      subst hcs
      rw [List.getElem?_set] at hp
      rw [Array.getElem?_setIfInBounds]
      split
      · rename_i e
        subst e
        simp only [if_true, hq] at hp
        have hlt : q < cur.size := by have := hh q _ (List.getElem?_eq_getElem hq); exact (Array.getElem?_eq_some_iff.1 this).1
        rw [if_pos hlt]; exact hp
      · rename_i e
        rw [if_neg e] at hp
        exact hh p u hp
/-- A whole block. -/
theorem z_storeA {ty : TypeId} {x y : Operand} {j g : Nat} {t0 : TypeId} {cs cs' : List Value} {room : Nat} (ho : o.op = .store ty x y) (hx : ev S x = some (.pointer (some ⟨g, 0, none⟩))) (hy : ev S y = some (.agg cs'.toArray)) (h2 : ∀ u ∈ cs', u.oneCell' = true) (hs : (P.info? ty).map (·.size) = some room)
    (hL : L[j]? = some (.blk g t0 cs room)) (hl : cs'.length = room) (hL' : L.set j (.blk g t0 cs' room) = L') (hd : o.dst = none) (hg : wantS ops S o = some true) (hC : wl.contains i = false → ∀ w, Mm w0 Ex h L' w → C w)
    (t : T n S (Mm w0 Ex h L') (wpZ P ops C wl Q rest K)) : T n S (Mm w0 Ex h L) (wpZ P ops C wl Q ((o, i, false) :: rest) K) := by
  refine z_store (M' := Mm w0 Ex h L') (fun a w ha hw => ?_) hd hg hC t
  have hon := hw.ents _ (List.mem_of_getElem? hL)
  obtain ⟨cur, hb, hr, hh⟩ := hon
  refine ⟨w.setRow g cs'.toArray, ?_, ?_⟩
  · unfold execOp
    simp [ho, ha.eval hx, ha.eval hy, Instr.storeAt, Instr.sureAddr, run_storeVar_row (P := P) w g t0 ty cur cs'.toArray hb (by simpa [hl] using hs) (by simp [hr, hl]) (by rw [Array.all_eq_true_iff_forall_mem]; intro u hu; exact h2 u (by simpa using hu))]
  · subst hL'
    refine hw.change hL (fun g' k => .inl k) ?_ rfl rfl rfl (by simp) (fun k hk _ => ?_)
    · exact ⟨cs'.toArray, setRow_heap w g cur _ t0 _ hb, by simpa using hl, fun p u hp => by simpa using hp⟩
    · simp only [World.setRow, Array.getElem?_modify]
      rw [if_neg (fun e => hk (by rw [← e]; rfl))]

/-! ### Calls -/
theorem run_call {a : Act} {w : World} {f : FuncId} {fn : Func} {ags : Array Operand} {ts : Array TypeId} {vs : List Value} (ho : o.op = .call { callee := .value (.func f), args := ags, argTypes := ts }) (hf : P.funcs[f]? = some fn) (hname : (fn.name == "runtime.NumGoroutine") = false) (hb : fn.body.isSome = true)
    (ha : Fr a n S) (hargs : evs S ags.toList = some vs) : (execOp a.eval o).run P w = .ok (.enter f vs.toArray) w := by
  have hmap : ags.map a.eval = vs.toArray := by
    apply Array.ext'
    rw [Array.toList_map, ha.evals hargs]
  have hcf : (callFunc f vs.toArray).run P w = .ok (.enter f vs.toArray) w := by
    have h1 : fn.name ≠ "runtime.NumGoroutine" := by simpa using hname
    obtain ⟨c, hc⟩ := Option.isSome_iff_exists.1 hb
    simp [callFunc, hf, h1, hc]
  unfold execOp
  simp [ho, resolve, Deferred.ofValue, invoke, Act.eval, hmap, hcf]
theorem z_call {M' : Value → World → Prop} {f : FuncId} {fn : Func} {ags : Array Operand} {ts : Array TypeId} {vs : List Value} (ho : o.op = .call { callee := .value (.func f), args := ags, argTypes := ts }) (hf : P.funcs[f]? = some fn) (hname : (fn.name == "runtime.NumGoroutine") = false) (hb : fn.body.isSome = true) (hargs : evs S ags.toList = some vs)
    (hc : ∀ w, M w → Calls P f vs.toArray w fun e w' => ∃ v, e = .returned v ∧ M' v w') (hd : o.dst = some d) (hn : Nat.blt d n = true) (hg : wantS ops S o = some true) (hC : wl.contains i = false → ∀ v w, M' v w → C w)
    (t : ∀ v, T n ((d, v) :: S) (M' v) (wpZ P ops C wl Q rest K)) : T n S M (wpZ P ops C wl Q ((o, i, false) :: rest) K) := fun a w ha hw => by
  unfold wpZ
  rw [if_pos (wantS_ok hg ha)]
  refine .inl ?_
  unfold Oper.wp
  rw [run_call ho hf hname hb ha hargs]
  refine (hc w hw).mono ?_
  rintro e w' ⟨v, rfl, hv⟩
  exact ⟨fun hb => hC hb v w' hv, t v _ _ (put_some hd hn ha) hv⟩
/-- A call that hands back v and leaves what was there. -/
theorem z_made {f : FuncId} {fn : Func} {ags : Array Operand} {ts : Array TypeId} {vs : List Value} (ho : o.op = .call { callee := .value (.func f), args := ags, argTypes := ts }) (hf : P.funcs[f]? = some fn) (hname : (fn.name == "runtime.NumGoroutine") = false) (hb : fn.body.isSome = true) (hargs : evs S ags.toList = some vs)
    (hc : ∀ w, Mm w0 Ex h L w → Made P f vs.toArray w v) (hd : o.dst = some d) (hn : Nat.blt d n = true) (hg : wantS ops S o = some true) (hC : wl.contains i = false → ∀ w, Mm w0 Ex h L w → C w)
    (t : T n ((d, v) :: S) (Mm w0 Ex h L) (wpZ P ops C wl Q rest K)) : T n S (Mm w0 Ex h L) (wpZ P ops C wl Q ((o, i, false) :: rest) K) :=
  z_call (M' := fun u w => u = v ∧ Mm w0 Ex h L w) ho hf hname hb hargs (fun w hw => (hc w hw).mono fun e w' ⟨he, hB⟩ => ⟨v, he, rfl, hw.more hB⟩) hd hn hg (fun hb' u w hm => hC hb' w hm.2)
    (fun u a w ha hw => by obtain ⟨rfl, hw⟩ := hw; exact t a w ha hw)
/-- A call that leaves the world alone, taken early. -/
theorem z_pure {f : FuncId} {fn : Func} {ags : Array Operand} {ts : Array TypeId} {vs : List Value} (ho : o.op = .call { callee := .value (.func f), args := ags, argTypes := ts }) (hf : P.funcs[f]? = some fn) (hname : (fn.name == "runtime.NumGoroutine") = false) (hb : fn.body.isSome = true) (hargs : evs S ags.toList = some vs)
    (hc : ∀ w, C w → Pure P f vs.toArray w v) (hd : o.dst = some d) (hn : Nat.blt d n = true) (hg : wantS ops S o = some true) (hC : ∀ w, M w → C w)
    (t : T n ((d, v) :: S) M (wpZ P ops C wl Q rest K)) : T n S M (wpZ P ops C wl Q ((o, i, true) :: rest) K) := fun a w ha hw =>
  ⟨hC w hw, v, .inl ⟨wantS_ok hg ha, fun w1 h1 => by unfold stillAt; rw [run_call ho hf hname hb ha hargs]; exact hc w1 h1⟩, t _ _ (put_some hd hn ha) hw⟩
theorem z_pure_eff {f : FuncId} {fn : Func} {ags : Array Operand} {ts : Array TypeId} {vs : List Value} (ho : o.op = .call { callee := .value (.func f), args := ags, argTypes := ts }) (hf : P.funcs[f]? = some fn) (hname : (fn.name == "runtime.NumGoroutine") = false) (hb : fn.body.isSome = true) (hargs : evs S ags.toList = some vs)
    (hc : ∀ w, M w → Pure P f vs.toArray w v) (hd : o.dst = some d) (hn : Nat.blt d n = true) (hg : wantS ops S o = some true) (hC : wl.contains i = false → ∀ w, M w → C w)
    (t : T n ((d, v) :: S) M (wpZ P ops C wl Q rest K)) : T n S M (wpZ P ops C wl Q ((o, i, false) :: rest) K) :=
  z_call (M' := fun u w => u = v ∧ M w) ho hf hname hb hargs (fun w hw => (hc w hw).mono fun e w' ⟨he, hB⟩ => ⟨v, he, rfl, hB ▸ hw⟩) hd hn hg (fun hb' u w hm => hC hb' w hm.2)
    (fun u a w ha hw => by obtain ⟨rfl, hw⟩ := hw; exact t a w ha hw)

/-! ### A loop -/
theorem t_while {σ ρ τ : Type} {b : σ → Option (Ctl σ ρ)} {s0 : σ} {z : Sum σ ρ} {c : Code} {id : Nat} (hz : wlx b s0 = some z) (Sh Sb : σ → τ → List (Nat × Value)) (Mh Mb : σ → τ → World → Prop) (Φ Ψ : σ → τ → Prop) (g0 : τ) (hΦ : Φ s0 g0)
    (h0 : ∀ a w, Fr a n S → M w → Fr a n (Sh s0 g0) ∧ Mh s0 g0 w)
    (A : ∀ (Gn Gb : Act → World → Prop) (s : σ) (g : τ) (e : Ctl σ ρ), Φ s g → b s = some e → (∀ s' g', e = .next s' → Φ s' g' → T n (Sh s' g') (Mh s' g') Gn) → (∀ s' g', e = .brk s' → Ψ s' g' → T n (Sb s' g') (Mb s' g') Gb) → (∀ r', e = .ret r' → z = .inr r') →
      T n (Sh s g) (Mh s g) (Go P Q (.code c :: .again Gn :: .fin id :: .again Gb :: k)))
    (B : ∀ s g, z = .inl s → Ψ s g → T n (Sb s g) (Mb s g) (Go P Q k)) : T n S M (Go P Q (.code (.loop c) :: .fin id :: k)) := by
  intro a w ha hw
  obtain ⟨k0, hk⟩ := wlx_rounds hz
  obtain ⟨hS, hM⟩ := h0 a w ha hw
  refine wp_loop_ghost (fun m a w => ∃ s g, wlk b m s = some z ∧ Φ s g ∧ Fr a n (Sh s g) ∧ Mh s g w) k0 ⟨s0, g0, hk, hΦ, hS, hM⟩ ?_
  rintro m a w ⟨s, g, hk, hφ, ha, hw⟩
  obtain ⟨m', e, hlt, he, hf⟩ := wlk_elim hk
  refine wp_mono (A (fun a' w' => ∃ m', m' < m ∧ ∃ s g, wlk b m' s = some z ∧ Φ s g ∧ Fr a' n (Sh s g) ∧ Mh s g w') (Go P Q k) s g e hφ he ?_ ?_ ?_ a w ha hw) ?_
  · rintro s' g' rfl hφ' a w ha hw
    rcases hf with ⟨s'', e1, e2⟩ | ⟨s'', e1, _⟩ | ⟨r, e1, _⟩
    · cases e1; exact ⟨m', hlt, s', g', e2, hφ', ha, hw⟩
    · cases e1
    · cases e1
  · rintro s' g' rfl hψ
    rcases hf with ⟨s'', e1, _⟩ | ⟨s'', e1, e2⟩ | ⟨r, e1, _⟩
    · cases e1
    · cases e1; exact B s' g' e2 hψ
    · cases e1
  · rintro r' rfl
    rcases hf with ⟨s'', e1, _⟩ | ⟨s'', e1, _⟩ | ⟨r, e1, e2⟩
    · cases e1
    · cases e1
    · cases e1; exact e2
  · intro e a w hq
    cases e with
    | exit id' =>
      simp only [Hd, Exit.then, Exit.inBlock] at hq ⊢
      split at hq
      · rename_i h; rw [if_pos h]; exact hq
      · rename_i h; rw [if_neg h]; exact hq
    | _ => exact hq

/-! ### A function's beginning and end -/
theorem t_enter {f : FuncId} {fn : Func} {c : Code} {vs : List Value} {R : Ending → World → Prop} {w : World} (hf : P.funcs[f]? = some fn) (hb : fn.body = some c) (hn : fn.ntmps = n) (hlen : Nat.ble vs.length n = true) (hM : M w)
    (t : T n (numbered 0 vs) M (Go P (bodyPost P fn R) [.code c])) : Calls P f vs.toArray w R := by
  refine calls_of_wp hf hb ?_
  subst hn
  exact t _ w (Fr.enter vs fn.ntmps _ (by simpa [Nat.ble_eq] using hlen) (fun d v hv => by simpa using (look_numbered vs 0 d v hv).2)) hM
/-- What a result variable holds. -/
def Res (P : Program) (n : Nat) (S : List (Nat × Value)) (M : World → Prop) (x : ResultVar) (v : Value) : Prop := ∀ a w, Fr a n S → M w → (match x with
  | .tmp t => a.tmps[t]?.getD undef = v
  | .cell p t => ∃ q, a.tmps[p]?.getD undef = .pointer (some q) ∧ (loadVar t q).run P w = .ok v w)
theorem res_tmp {x : Tmp} (hv : look S x = some v) : Res P n S M (.tmp x) v := fun a w ha _ => by simp [ha.has x v hv]
theorem res_row {x : Tmp} {ty : TypeId} {dd : TypeDesc} {g : Nat} {t0 : TypeId} {cs : List Value} {room j : Nat} (hv : look S x = some (.pointer (some ⟨g, 0, none⟩))) (hu : P.underlying ty = some dd) (hd : dd.isRow = true) (hs : (P.info? ty).map (·.size) = some room)
    (hL : L[j]? = some (.blk g t0 cs room)) (hl : cs.length = room) : Res P n S (Mm w0 Ex h L) (.cell x ty) (.agg cs.toArray) := fun a w ha hw =>
  ⟨_, by rw [ha.has x _ hv]; rfl, run_loadVar_mid (P := P) w g 0 ty cs dd (hw.whole hL) hu hd (by rw [hl]; exact hs)⟩
theorem res_one {x : Tmp} {ty : TypeId} {dd : TypeDesc} {g : Nat} {t0 : TypeId} {room j : Nat} (hv : look S x = some (.pointer (some ⟨g, 0, none⟩))) (hu : P.underlying ty = some dd) (hd : dd.isRow = false)
    (hL : L[j]? = some (.blk g t0 [v] room)) : Res P n S (Mm w0 Ex h L) (.cell x ty) v := fun a w ha hw =>
  ⟨⟨g, 0, none⟩, by rw [ha.has x _ hv]; rfl, loadVar_one hu hd (hw.cell (q := 0) hL rfl)⟩
theorem ret0 {fn : Func} {R : Ending → World → Prop} (hr : fn.results = #[]) (hR : ∀ w, M w → R (.returned (.tuple #[])) w) : T n S M (bodyPost P fn R .ret) := fun _ w ha hw =>
  ⟨ha.defers, _, results_none hr _ _ _, hR w hw⟩
theorem ret1 {fn : Func} {R : Ending → World → Prop} {x : ResultVar} (hr : fn.results = #[x]) (hx : Res P n S M x v) (hR : ∀ w, M w → R (.returned v) w) : T n S M (bodyPost P fn R .ret) := fun a w ha hw => by
  refine ⟨ha.defers, v, ?_, hR w hw⟩
  have h1 := hx a w ha hw
  cases x with
  | tmp t => simp only at h1; simp [results, hr, h1]
  | cell p t => obtain ⟨q, e1, e2⟩ := h1; simp [results, hr, e1, asAddr, e2]
theorem ret2 {fn : Func} {R : Ending → World → Prop} {x y : ResultVar} {u : Value} (hr : fn.results = #[x, y]) (hx : Res P n S M x v) (hy : Res P n S M y u) (hR : ∀ w, M w → R (.returned (.tuple #[v, u])) w) : T n S M (bodyPost P fn R .ret) := fun a w ha hw => by
  refine ⟨ha.defers, _, ?_, hR w hw⟩
  have h1 := hx a w ha hw
  have h2 := hy a w ha hw
  cases x with
  | tmp t =>
    simp only at h1
    cases y with
    | tmp t' => simp only at h2; simp [results, hr, h1, h2]
    | cell p t' => obtain ⟨q, e1, e2⟩ := h2; simp [results, hr, h1, e1, asAddr, e2]
  | cell p t =>
    obtain ⟨q, e1, e2⟩ := h1
    cases y with
    | tmp t' => simp only at h2; simp [results, hr, h2, e1, asAddr, e2]
    | cell p' t' => obtain ⟨q', e1', e2'⟩ := h2; simp [results, hr, e1, asAddr, e2, e1', e2']
end

/-! ### Rows of numbers as cells -/
def cV {α : Type} {n : Nat} (f : α → Value) (x : Vec α n) : List Value := x.l.map f
section
variable {α : Type} {n : Nat} {f : α → Value}
theorem cV_len (x : Vec α n) : (cV f x).length = n := by simp [cV, x.hl]
theorem cV_at [Inhabited α] (x : Vec α n) {i : Nat} (h : i < n) : (cV f x)[i]? = some (f (x.get i)) := by simp [cV, x.at_ h]
theorem cV_set (x : Vec α n) (i : Nat) (y : α) : (cV f x).set i (f y) = cV f (x.set i y) := by simp [cV, Vec.set, List.map_set]
theorem cV_one (hf : ∀ y, (f y).oneCell' = true) (x : Vec α n) : ∀ u ∈ cV f x, u.oneCell' = true := fun u hu => by
  obtain ⟨y, _, rfl⟩ := List.mem_map.1 hu
  exact hf y
end
end Go.Proofs.Ytapfkdcilfpbhaa
