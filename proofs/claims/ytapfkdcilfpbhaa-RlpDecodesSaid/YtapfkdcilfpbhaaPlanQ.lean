/- A statement that draws its order: operations that leave the same value in every world of a class, and a world of that class (they read; they make memory): one walk serves every order. -/
import Derived.Test.YtapfkdcilfpbhaaTa
namespace Go.Proofs.Ytapfkdcilfpbhaa
open Go.RowKit
set_option linter.unusedVariables false
set_option linter.unusedSimpArgs false

section
variable {P : Program} {ops : Array Oper} {md : Region.Mode} {C : World → Prop} {Q : Exit → Act → World → Prop} {wl : List Nat}
/-- Whatever may come up next; in every world of the class. Behind a wild operation: this world alone. -/
def wpAnyD (P : Program) (md : Region.Mode) (ops : Array Oper) (C : World → Prop) (wl : List Nat) (Q : Exit → Act → World → Prop) : Nat → Array Bool → Act → Prop
  | 0, listed, a => Region.ready md ops listed = [] ∧ ∀ w, C w → Q .normal a w
  | fuel + 1, listed, a => (Region.ready md ops listed = [] → ∀ w, C w → Q .normal a w) ∧
      ∀ i ∈ Region.ready md ops listed, ∀ w, C w → wpOp P ops Q i (fun a' w' => if wl.contains i = true then wpAny P md ops Q fuel (listed.setIfInBounds i true) a' w' else C w' ∧ wpAnyD P md ops C wl Q fuel (listed.setIfInBounds i true) a') a w
theorem wpAny_of_D : ∀ (fuel : Nat) (listed : Array Bool) (a : Act), wpAnyD P md ops C wl Q fuel listed a → ∀ w, C w → wpAny P md ops Q fuel listed a w
  | 0, _, _, h, w, hw => ⟨h.1, h.2 w hw⟩
  | fuel + 1, _, _, h, w, hw => ⟨fun e => h.1 e w hw, fun i hi => wpOp_mono (fun a' w' h' => by
      split at h'
      · exact h'
      · exact wpAny_of_D fuel _ a' h'.2 w' h'.1) (h.2 i hi w hw)⟩
/-- Carried out in the world w the operation leaves v, and a world of the class. -/
def quietUpon (P : Program) (C : World → Prop) (v : Value) : Result Next → Prop
  | .ok (.value u) w' => C w' ∧ u = v
  | .ok .skip w' => C w' ∧ undef = v
  | .ok (.enter f args) w' => Calls P f args w' fun e w'' => e = .returned v ∧ C w''
  | .ok (.row row args) w' => Rows P row args w' fun u w'' => u = v ∧ C w''
  | _ => False
def YieldsQ (P : Program) (ops : Array Oper) (C : World → Prop) (o : Oper) (v : Value) (a : Act) : Prop :=
  (Region.wanted o (yielded ops a.tmps) = true ∧ ∀ w, C w → quietUpon P C v ((execOp a.eval o).run P w)) ∨ (Region.wanted o (yielded ops a.tmps) = false ∧ v = undef)
theorem YieldsQ.same {o : Oper} {v : Value} {a a' : Act} (hy : YieldsQ P ops C o v a) (he : execOp a'.eval o = execOp a.eval o)
    (hw : Region.wanted o (yielded ops a'.tmps) = Region.wanted o (yielded ops a.tmps)) : YieldsQ P ops C o v a' := by
  unfold YieldsQ at *; rw [he, hw]; exact hy
theorem YieldsQ.wpOp {i : Nat} {o : Oper} {v : Value} {a : Act} {w : World} (hi : ops[i]? = some o) (hy : YieldsQ P ops C o v a) (hC : C w)
    {K : Act → World → Prop} (h : ∀ w', C w' → K (a.put o.dst v) w') : wpOp P ops Q i K a w := by
  unfold Go.wpOp
  simp only [hi]
  rcases hy with ⟨hw, hv⟩ | ⟨hw, rfl⟩
  · simp only [hw, if_true]
    refine .inl ?_
    have h1 := hv w hC
    unfold Oper.wp
    generalize (execOp a.eval o).run P w = r at *
    cases r with
    | ok n w' =>
      cases n <;> simp only [quietUpon] at h1 <;> simp only [Oper.upon]
      case enter f args => exact h1.mono fun e w'' ⟨he, hw⟩ => by subst he; exact h _ hw
      case row row args => exact Rows.mono h1 fun u w'' ⟨he, hw⟩ => by subst he; exact h _ hw
      all_goals (obtain ⟨hw', rfl⟩ := h1; exact h _ hw')
    | halt x w' => simp only [quietUpon] at h1
  · simp only [hw, Bool.false_eq_true, if_false]; exact h w hC
theorem wpOp_pastQ {j : Nat} {oi oj : Oper} {v : Value} (hj : ops[j]? = some oj) (hap : oi.apart ops oj = true)
    (hsi : ∀ cs b, oi.op ≠ .select cs b) (hsj : ∀ cs b, oj.op ≠ .select cs b)
    (hQ : ∀ c a w, ¬ Q (.panic c) a w) {K : Act → World → Prop} {a : Act} {w : World}
    (hy : YieldsQ P ops C oi v a) (h : wpOp P ops Q j K (a.put oi.dst v) w) :
    wpOp P ops Q j (fun a' w' => YieldsQ P ops C oi v a' ∧ K (a'.put oi.dst v) w') a w := by
  obtain ⟨h1, h2, h3⟩ := Oper.apart_spec hap
  have keep : ∀ (a : Act), YieldsQ P ops C oi v a → ∀ u, YieldsQ P ops C oi v (a.put oj.dst u) := fun a hy u =>
    hy.same (execOp_put oi hsi a oj.dst u h3) (wanted_put oi a oj.dst u h3)
  have keepD : ∀ d, YieldsQ P ops C oi v { a with defers := d :: a.defers } := fun d => hy.same rfl rfl
  unfold wpOp at *
  simp only [hj] at *
  rw [wanted_put oj a oi.dst v h1] at h
  split
  · rename_i hw
    simp only [hw, if_true] at h
    rcases h with h | ⟨hasks, hlets⟩
    case inr => exact .inr ⟨by unfold Oper.asks at *; rw [execOp_put oj hsj a oi.dst v h1] at hasks; exact hasks, hlets⟩
    refine .inl ?_
    unfold Oper.wp at *
    rw [execOp_put oj hsj a oi.dst v h1] at h
    generalize (execOp a.eval oj).run P w = r at *
    cases r with
    | ok n w' =>
      cases n <;> simp only [Oper.upon] at h ⊢
      case value u => exact ⟨keep a hy u, by rw [← Act.put_comm a v u h2]; exact h⟩
      case skip => exact ⟨keep a hy _, by rw [← Act.put_comm a v undef h2]; exact h⟩
      case defer d =>
        refine ⟨keep _ (keepD d) _, ?_⟩
        rw [← Act.put_comm _ v undef h2, ← Act.put_defers]
        exact h
      case enter f args =>
        refine Calls.mono h fun e w'' he => ?_
        cases e with
        | returned u => exact ⟨keep a hy u, by rw [← Act.put_comm a v u h2]; exact he⟩
        | panicked c => exact (hQ _ _ _ he).elim
        | outgrown => exact he
      case row row args => exact Rows.mono h fun u w'' he => ⟨keep a hy u, by rw [← Act.put_comm a v u h2]; exact he⟩
    | halt x w' =>
      cases x <;> simp only [Oper.upon] at h ⊢
      case panic u => exact (hQ _ _ _ h).elim
  · rename_i hw
    simp only [hw] at h
    exact ⟨keep a hy _, by rw [← Act.put_comm a v undef h2]; exact h⟩
theorem wpAnyD_first {i : Nat} {oi : Oper} {v : Value} (hi : ops[i]? = some oi) (hiw : wl.contains i = false) (hsel : ∀ (j : Nat) (o : Oper) cs b, ops[j]? = some o → o.op ≠ .select cs b)
    (hQ : ∀ c a w, ¬ Q (.panic c) a w) :
    ∀ (fuel : Nat) (listed : Array Bool) (a : Act),
      (∀ j oj, ops[j]? = some oj → j ≠ i → listed.getD j true = false → (∀ e ∈ oj.after, Region.binds md e = true → e.on ≠ i) → oi.apart ops oj = true) →
      (∀ j oj, ops[j]? = some oj → j ≠ i → listed.getD j true = false → (∀ e ∈ oj.after, Region.binds md e = true → e.on ≠ i) → wl.contains j = false) →
      i ∈ Region.ready md ops listed → YieldsQ P ops C oi v a →
      wpAnyD P md ops C wl Q fuel (listed.setIfInBounds i true) (a.put oi.dst v) → wpAnyD P md ops C wl Q (fuel + 1) listed a := by
  intro fuel
  have me : ∀ {fuel : Nat} {listed : Array Bool} {a : Act}, YieldsQ P ops C oi v a → wpAnyD P md ops C wl Q fuel (listed.setIfInBounds i true) (a.put oi.dst v) → ∀ w, C w →
      wpOp P ops Q i (fun a' w' => if wl.contains i = true then wpAny P md ops Q fuel (listed.setIfInBounds i true) a' w' else C w' ∧ wpAnyD P md ops C wl Q fuel (listed.setIfInBounds i true) a') a w := fun hy H w hw =>
    hy.wpOp hi hw fun w' hw' => by rw [if_neg (by rw [hiw]; simp)]; exact ⟨hw', H⟩
  induction fuel with
  | zero =>
    intro listed a _ _ hr hy H
    refine ⟨fun h => (by rw [h] at hr; cases hr), fun j hj w hw => ?_⟩
    by_cases hji : j = i
    · subst hji; exact me hy H w hw
    · have := ready_mono hj hji
      rw [H.1] at this
      cases this
  | succ fuel ih =>
    intro listed a hfree hwild hr hy H
    refine ⟨fun h => (by rw [h] at hr; cases hr), fun j hj w hw => ?_⟩
    by_cases hji : j = i
    · subst hji; exact me hy H w hw
    · have h1 := H.2 j (ready_mono hj hji) w hw
      obtain ⟨hjun, oj, hoj, hall⟩ := mem_ready.1 hj
      have hnot : ∀ e ∈ oj.after, Region.binds md e = true → e.on ≠ i := fun e he hb heq => by
        have h1 := hall e he hb
        have h0 := (mem_ready.1 hr).1
        rw [heq] at h1
        rcases Nat.lt_or_ge i listed.size with h' | h'
        · simp [h'] at h0 h1; rw [h0] at h1; cases h1
        · simp [Array.getElem?_eq_none h'] at h1
      have hnw := hwild j oj hoj hji hjun hnot
      have h2 := wpOp_pastQ (C := C) hoj (hfree j oj hoj hji hjun hnot) (fun cs b => hsel i oi cs b hi) (fun cs b => hsel j oj cs b hoj) hQ hy h1
      have still : ∀ k, (listed.setIfInBounds j true).getD k true = false → listed.getD k true = false := fun k hun => by
        by_cases hjk : j = k
        · subst hjk; exact hjun
        · rw [getD_set_ne true hjk] at hun; exact hun
      refine wpOp_mono (fun a' w' h3 => ?_) h2
      rw [if_neg (by rw [hnw]; simp)]
      have h4 := h3.2
      rw [if_neg (by rw [hnw]; simp)] at h4
      refine ⟨h4.1, ih (listed.setIfInBounds j true) a' (fun k ok hk hki hun hno => hfree k ok hk hki (still k hun) hno)
        (fun k ok hk hki hun hno => hwild k ok hk hki (still k hun) hno) (ready_mono hr (Ne.symm hji)) h3.1 ?_⟩
      rw [Array.setIfInBounds_comm _ _ hji]
      exact h4.2
/-- The walk in our order, over all worlds of the class; behind the quiet ones at most one wild one. -/
def wpQ (P : Program) (ops : Array Oper) (C : World → Prop) (Q : Exit → Act → World → Prop) : List (Oper × Nat × Bool) → (Act → World → Prop) → Act → Prop
  | [], K, a => ∀ w, C w → K a w
  | (o, _, true) :: rest, K, a => ∃ v, YieldsQ P ops C o v a ∧ wpQ P ops C Q rest K (a.put o.dst v)
  | (o, _, false) :: _, K, a => Region.wanted o (yielded ops a.tmps) = true ∧ ∀ w, C w → o.wp P a w K Q ∨ (o.asks P a w ∧ LetsOut Q)
def planQ (md : Region.Mode) (ops : Array Oper) (wl : List Nat) : List (Nat × Bool) → Array Bool → Bool
  | [], listed => Region.ready md ops listed == []
  | (i, true) :: rest, listed => (Region.ready md ops listed).contains i && Region.free md ops listed i && !wl.contains i &&
      (wl.all fun j => j == i || listed.getD j true || match ops[j]? with | some oj => oj.after.any (fun e => Region.binds md e && e.on == i) | none => true) &&
      planQ md ops wl rest (listed.setIfInBounds i true)
  | (i, false) :: rest, listed => (Region.ready md ops listed == [i]) && wl.contains i && rest.isEmpty && (Region.ready md ops (listed.setIfInBounds i true) == [])
theorem wpAnyD_plan {l : List Oper} (hs : Region.noSelect l.toArray = true) (hQ : ∀ c a w, ¬ Q (.panic c) a w) : ∀ (pl : List (Nat × Bool)) (listed : Array Bool) (a : Act), (pl.all fun x => Nat.blt x.1 l.length) = true →
    planQ md l.toArray wl pl listed = true → wpQ P l.toArray C Q (zipPlan l pl) (Q .normal) a → wpAnyD P md l.toArray C wl Q pl.length listed a
  | [], listed, a, _, hB, h => ⟨by simpa [planQ] using hB, h⟩
  | (i, true) :: rest, listed, a, hb, hB, h => by
    simp only [List.all_cons, Bool.and_eq_true] at hb
    simp only [planQ, Bool.and_eq_true, Bool.not_eq_true'] at hB
    obtain ⟨⟨⟨⟨hr, hf⟩, hiw⟩, hw⟩, hB'⟩ := hB
    obtain ⟨v, hy, hK⟩ := h
    have ho : l.toArray[i]? = some (pickOp l i) := by simpa using pickOp_some l i (by simpa [Nat.blt_eq] using hb.1)
    refine wpAnyD_first ho hiw (Region.noSelect_spec hs) hQ rest.length listed a (Region.free_spec ho hf) ?_ (by simpa using hr) hy (wpAnyD_plan hs hQ rest _ _ hb.2 hB' hK)
    intro j oj hoj hji hun hno
    cases hc : wl.contains j with
    | false => rfl
    | true =>
      have hm : j ∈ wl := by simpa using hc
      have h1 := List.all_eq_true.1 hw j hm
      simp only [Bool.or_eq_true, beq_iff_eq, hji, false_or, hun, Bool.false_eq_true, hoj] at h1
      obtain ⟨e, he, hb⟩ := Array.any_eq_true'.1 h1
      simp only [Bool.and_eq_true, beq_iff_eq] at hb
      exact absurd hb.2 (hno e he hb.1)
  | (i, false) :: rest, listed, a, hb, hB, h => by
    simp only [List.all_cons, Bool.and_eq_true] at hb
    simp only [planQ, Bool.and_eq_true, beq_iff_eq] at hB
    obtain ⟨⟨⟨hr, hiw⟩, hre⟩, hend⟩ := hB
    have hre' : rest = [] := by simpa using hre
    subst hre'
    have ho : l.toArray[i]? = some (pickOp l i) := by simpa using pickOp_some l i (by simpa [Nat.blt_eq] using hb.1)
    refine ⟨fun h0 => (by rw [hr] at h0; cases h0), fun j hj w hw => ?_⟩
    rw [hr] at hj
    obtain rfl : j = i := by simpa using hj
    unfold wpOp
    rw [ho]
    simp only [h.1, if_true]
    refine (h.2 w hw).imp (Oper.wp_mono (fun a' w' h' => ?_)) id
    rw [if_pos hiw]
    exact ⟨hend, h'⟩
end

section
variable {P : Program} {ops : Array Oper} {C : World → Prop} {wl : List Nat} {Q : Exit → Act → World → Prop} {K : Act → World → Prop} {w0 : World} {Ex : List Nat} {n : Nat} {S : List (Nat × Value)} {h : Frag} {L L' : List Ent} {M M' : World → Prop} {k : List It} {l : List Oper} {rest : List (Oper × Nat × Bool)} {o : Oper} {i : Nat} {d : Tmp} {v : Value}
/-- In every frame like that. -/
def TQ (n : Nat) (S : List (Nat × Value)) (G : Act → Prop) : Prop := ∀ a, Fr a n S → G a
theorem t_quiet {id : Nat} (wl : List Nat) (pl : List (Nat × Bool)) (hm : P.follows .mixedOrders = true) (hB : (Region.noSelect l.toArray && (pl.length == l.length) && planQ .any l.toArray wl pl (Array.replicate l.length false) && pl.all fun x => Nat.blt x.1 l.length) = true) (hd : ∀ w, M w → M w.drew)
    (t : ∀ ops, ops = l.toArray → TQ n S (wpQ P ops M (NoPan (Hd P Q k)) (zipPlan l pl) (Go P Q k))) : T n S M (Go P Q (.code (.region id l.toArray true) :: k)) := fun a w ha hw => by
  simp only [Bool.and_eq_true, beq_iff_eq] at hB
  obtain ⟨⟨⟨hs, hlen⟩, hB⟩, hall⟩ := hB
  have h1 := t _ rfl a ha
  have h2 : wpAnyD P .any l.toArray M wl (NoPan (Hd P Q k)) pl.length (Array.replicate l.length false) a := wpAnyD_plan hs (fun c a w h => h) pl _ a hall hB h1
  refine Code.wp_mono NoPan.imp (wp_region_any hm ?_)
  have := wpAny_of_D _ _ _ h2 w.drew (hd w hw)
  rw [hlen] at this
  simpa using this
theorem q_nil (t : T n S M K) : TQ n S (wpQ P ops M Q [] K) := fun a ha w hw => t a w ha hw
theorem q_val (hv : Val P n S M o v) (hd : o.dst = some d) (hn : Nat.blt d n = true) (hg : wantS ops S o = some true) (t : TQ n ((d, v) :: S) (wpQ P ops M Q rest K)) : TQ n S (wpQ P ops M Q ((o, i, true) :: rest) K) := fun a ha =>
  ⟨v, .inl ⟨wantS_ok hg ha, fun w hw => by rw [hv a w ha hw]; exact ⟨hw, rfl⟩⟩, t _ (put_some hd hn ha)⟩
theorem q_skip (hd : o.dst = some d) (hn : Nat.blt d n = true) (hg : wantS ops S o = some false) (t : TQ n ((d, undef) :: S) (wpQ P ops M Q rest K)) : TQ n S (wpQ P ops M Q ((o, i, true) :: rest) K) := fun a ha =>
  ⟨undef, .inr ⟨wantS_ok hg ha, rfl⟩, t _ (put_some hd hn ha)⟩
theorem q_made {f : FuncId} {fn : Func} {ags : Array Operand} {ts : Array TypeId} {vs : List Value} (ho : o.op = .call { callee := .value (.func f), args := ags, argTypes := ts }) (hf : P.funcs[f]? = some fn) (hname : (fn.name == "runtime.NumGoroutine") = false) (hb : fn.body.isSome = true) (hargs : evs S ags.toList = some vs)
    (hc : ∀ w, Mm w0 Ex h L w → Made P f vs.toArray w v) (hd : o.dst = some d) (hn : Nat.blt d n = true) (hg : wantS ops S o = some true)
    (t : TQ n ((d, v) :: S) (wpQ P ops (Mm w0 Ex h L) Q rest K)) : TQ n S (wpQ P ops (Mm w0 Ex h L) Q ((o, i, true) :: rest) K) := fun a ha =>
  ⟨v, .inl ⟨wantS_ok hg ha, fun w hw => by rw [run_call ho hf hname hb ha hargs]; exact (hc w hw).mono fun e w' ⟨he, hB⟩ => ⟨he, hw.more hB⟩⟩, t _ (put_some hd hn ha)⟩
/-- The last one: as in a region that does not draw. -/
theorem q_last (hg : wantS ops S o = some true) (t : T n S M (wpZ P ops (fun _ => True) [] Q [(o, i, false)] K)) : TQ n S (wpQ P ops M Q [(o, i, false)] K) := fun a ha => by
  refine ⟨wantS_ok hg ha, fun w hw => ?_⟩
  have := t a w ha hw
  unfold wpZ at this
  rw [if_pos (wantS_ok hg ha)] at this
  exact this.imp (Oper.wp_mono fun a' w' h' => h'.2) id
end
theorem sum_l {α β γ : Type} {f : α → γ} {g : β → γ} {a : α} {r : γ} (h : Sum.elim f g (Sum.inl a) = r) : f a = r := h
/-- A length has another name now. -/
theorem t_len {n : Nat} {S : List (Nat × Value)} {M : World → Prop} {G : Act → World → Prop} {x y : Nat} (hl : x = y) (f : Nat → List (Nat × Value)) (hf : ∀ a, Fr a n S → Fr a n (f x)) (t : T n (f y) M G) : T n S M G := by
  subst hl
  exact fun a w ha hw => t a w (hf a ha) hw
end Go.Proofs.Ytapfkdcilfpbhaa
