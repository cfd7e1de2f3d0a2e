/- A statement that draws its order: ONE walk in an order of ours serves every order. Still operations (they read; they may be taken early) and effects (calls that make memory, stores: forced one behind the other). -/
import Derived.Test.YtapfkdcilfpbhaaArr
import Derived.Deep.Quiet
namespace Go.Proofs.Ytapfkdcilfpbhaa
open Go.RowKit
set_option linter.unusedVariables false
set_option linter.unusedSimpArgs false

section
variable {P : Program} {ops : Array Oper} {md : Region.Mode} {C : World → Prop} {Q : Exit → Act → World → Prop} {wl : List Nat}

/-- What follows may be asked of every order; between two operations the world stays of the class C, but behind a wild one. -/
def wpAnyC (P : Program) (md : Region.Mode) (ops : Array Oper) (C : World → Prop) (wl : List Nat) (Q : Exit → Act → World → Prop) : Nat → Array Bool → Act → World → Prop
  | 0, listed, a, w => Region.ready md ops listed = [] ∧ Q .normal a w
  | fuel + 1, listed, a, w => (Region.ready md ops listed = [] → Q .normal a w) ∧
      ∀ i ∈ Region.ready md ops listed, wpOp P ops Q i (fun a' w' => (wl.contains i = false → C w') ∧ wpAnyC P md ops C wl Q fuel (listed.setIfInBounds i true) a' w') a w

theorem wpAny_of_C : ∀ (fuel : Nat) (listed : Array Bool) (a : Act) (w : World), wpAnyC P md ops C wl Q fuel listed a w → wpAny P md ops Q fuel listed a w
  | 0, _, _, _, h => h
  | fuel + 1, _, _, _, h => ⟨h.1, fun i hi => wpOp_mono (fun a' w' h' => wpAny_of_C fuel _ a' w' h'.2) (h.2 i hi)⟩

/-- Carried out in the world w the operation leaves v, and that very world. -/
def stillUpon (P : Program) (w : World) (v : Value) : Result Next → Prop
  | .ok (.value u) w' => w' = w ∧ u = v
  | .ok .skip w' => w' = w ∧ undef = v
  | .ok (.enter f args) w' => Calls P f args w' fun e w'' => e = .returned v ∧ w'' = w
  | .ok (.row row args) w' => Rows P row args w' fun u w'' => u = v ∧ w'' = w
  | _ => False
def stillAt (P : Program) (o : Oper) (a : Act) (w : World) (v : Value) : Prop := stillUpon P w v ((execOp a.eval o).run P w)

/-- In every world of the class the operation leaves v, and that very world. -/
def YieldsS (P : Program) (ops : Array Oper) (C : World → Prop) (o : Oper) (v : Value) (a : Act) : Prop :=
  (Region.wanted o (yielded ops a.tmps) = true ∧ ∀ w, C w → stillAt P o a w v) ∨ (Region.wanted o (yielded ops a.tmps) = false ∧ v = undef)

theorem YieldsS.same {o : Oper} {v : Value} {a a' : Act} (hy : YieldsS P ops C o v a) (he : execOp a'.eval o = execOp a.eval o)
    (hw : Region.wanted o (yielded ops a'.tmps) = Region.wanted o (yielded ops a.tmps)) : YieldsS P ops C o v a' := by
  unfold YieldsS stillAt at *; rw [he, hw]; exact hy

theorem YieldsS.wpOp {i : Nat} {o : Oper} {v : Value} {a : Act} {w : World} (hi : ops[i]? = some o) (hy : YieldsS P ops C o v a) (hC : C w)
    {K : Act → World → Prop} (h : K (a.put o.dst v) w) : wpOp P ops Q i K a w := by
  unfold Go.wpOp
  simp only [hi]
  rcases hy with ⟨hw, hv⟩ | ⟨hw, rfl⟩
  · simp only [hw, if_true]
    refine .inl ?_
    have h1 := hv w hC
    unfold stillAt at h1
    unfold Oper.wp
    generalize (execOp a.eval o).run P w = r at *
    cases r with
    | ok n w' =>
      cases n <;> simp only [stillUpon] at h1 <;> simp only [Oper.upon]
      case enter f args => exact h1.mono fun e w'' ⟨he, hw⟩ => by subst he; subst hw; exact h
      case row row args => exact Rows.mono h1 fun u w'' ⟨he, hw⟩ => by subst he; subst hw; exact h
      all_goals (obtain ⟨rfl, rfl⟩ := h1; exact h)
    | halt x w' => simp only [stillUpon] at h1
  · simp only [hw, Bool.false_eq_true, if_false]; exact h

theorem wpOp_past {j : Nat} {oi oj : Oper} {v : Value} (hj : ops[j]? = some oj) (hap : oi.apart ops oj = true)
    (hsi : ∀ cs b, oi.op ≠ .select cs b) (hsj : ∀ cs b, oj.op ≠ .select cs b)
    (hQ : ∀ c a w, ¬ Q (.panic c) a w) {K : Act → World → Prop} {a : Act} {w : World}
    (hy : YieldsS P ops C oi v a) (h : wpOp P ops Q j K (a.put oi.dst v) w) :
    wpOp P ops Q j (fun a' w' => YieldsS P ops C oi v a' ∧ K (a'.put oi.dst v) w') a w := by
  obtain ⟨h1, h2, h3⟩ := Oper.apart_spec hap
  have keep : ∀ (a : Act), YieldsS P ops C oi v a → ∀ u, YieldsS P ops C oi v (a.put oj.dst u) := fun a hy u =>
    hy.same (execOp_put oi hsi a oj.dst u h3) (wanted_put oi a oj.dst u h3)
  have keepD : ∀ d, YieldsS P ops C oi v { a with defers := d :: a.defers } := fun d => hy.same rfl rfl
  unfold wpOp at *
  simp only [hj] at *
  rw [wanted_put oj a oi.dst v h1] at h
  split
  · rename_i hw
    simp only [hw, if_true] at h
    rcases h with h | ⟨hasks, hlets⟩
    case inr => exact .inr ⟨by unfold Oper.asks at *; rw [execOp_put oj hsj a oi.dst v h1] at hasks; exact hasks, hlets⟩
    refine .inl ?_
    unfold Oper.wp at *
    rw [execOp_put oj hsj a oi.dst v h1] at h
    generalize (execOp a.eval oj).run P w = r at *
    cases r with
    | ok n w' =>
      cases n <;> simp only [Oper.upon] at h ⊢
      case value u => exact ⟨keep a hy u, by rw [← Act.put_comm a v u h2]; exact h⟩
      case skip => exact ⟨keep a hy _, by rw [← Act.put_comm a v undef h2]; exact h⟩
      case defer d =>
        refine ⟨keep _ (keepD d) _, ?_⟩
        rw [← Act.put_comm _ v undef h2, ← Act.put_defers]
        exact h
      case enter f args =>
        refine Calls.mono h fun e w'' he => ?_
        cases e with
        | returned u => exact ⟨keep a hy u, by rw [← Act.put_comm a v u h2]; exact he⟩
        | panicked c => exact (hQ _ _ _ he).elim
        | outgrown => exact he
      case row row args => exact Rows.mono h fun u w'' he => ⟨keep a hy u, by rw [← Act.put_comm a v u h2]; exact he⟩
    | halt x w' =>
      cases x <;> simp only [Oper.upon] at h ⊢
      case panic u => exact (hQ _ _ _ h).elim
  · rename_i hw
    simp only [hw] at h
    exact ⟨keep a hy _, by rw [← Act.put_comm a v undef h2]; exact h⟩

/-- A still operation that may come up now may be taken first. -/
theorem wpAnyC_first {i : Nat} {oi : Oper} {v : Value} (hi : ops[i]? = some oi) (hsel : ∀ (j : Nat) (o : Oper) cs b, ops[j]? = some o → o.op ≠ .select cs b)
    (hQ : ∀ c a w, ¬ Q (.panic c) a w) :
    ∀ (fuel : Nat) (listed : Array Bool) (a : Act) (w : World),
      (∀ j oj, ops[j]? = some oj → j ≠ i → listed.getD j true = false → (∀ e ∈ oj.after, Region.binds md e = true → e.on ≠ i) → oi.apart ops oj = true) →
      (∀ j oj, ops[j]? = some oj → j ≠ i → listed.getD j true = false → (∀ e ∈ oj.after, Region.binds md e = true → e.on ≠ i) → wl.contains j = false) →
      i ∈ Region.ready md ops listed → YieldsS P ops C oi v a → C w →
      wpAnyC P md ops C wl Q fuel (listed.setIfInBounds i true) (a.put oi.dst v) w → wpAnyC P md ops C wl Q (fuel + 1) listed a w := by
  intro fuel
  induction fuel with
  | zero =>
    intro listed a w _ _ hr hy hC H
    refine ⟨fun h => (by rw [h] at hr; cases hr), fun j hj => ?_⟩
    by_cases hji : j = i
    · subst hji; exact hy.wpOp hi hC ⟨fun _ => hC, H⟩
    · have := ready_mono hj hji
      rw [H.1] at this
      cases this
  | succ fuel ih =>
    intro listed a w hfree hwild hr hy hC H
    refine ⟨fun h => (by rw [h] at hr; cases hr), fun j hj => ?_⟩
    by_cases hji : j = i
    · subst hji; exact hy.wpOp hi hC ⟨fun _ => hC, H⟩
    · have h1 := H.2 j (ready_mono hj hji)
      obtain ⟨hjun, oj, hoj, hall⟩ := mem_ready.1 hj
      have hnot : ∀ e ∈ oj.after, Region.binds md e = true → e.on ≠ i := fun e he hb heq => by
        have h1 := hall e he hb
        have h0 := (mem_ready.1 hr).1
        rw [heq] at h1
        rcases Nat.lt_or_ge i listed.size with h' | h'
        · simp [h'] at h0 h1; rw [h0] at h1; cases h1
        · simp [Array.getElem?_eq_none h'] at h1
      have hnw := hwild j oj hoj hji hjun hnot
      have h2 := wpOp_past (C := C) hoj (hfree j oj hoj hji hjun hnot) (fun cs b => hsel i oi cs b hi) (fun cs b => hsel j oj cs b hoj) hQ hy h1
      have still : ∀ k, (listed.setIfInBounds j true).getD k true = false → listed.getD k true = false := fun k hun => by
        by_cases hjk : j = k
        · subst hjk; exact hjun
        · rw [getD_set_ne true hjk] at hun; exact hun
      refine wpOp_mono (fun a' w' h3 => ?_) h2
      have hC' := h3.2.1 hnw
      refine ⟨fun _ => hC', ih (listed.setIfInBounds j true) a' w' (fun k ok hk hki hun hno => hfree k ok hk hki (still k hun) hno)
        (fun k ok hk hki hun hno => hwild k ok hk hki (still k hun) hno) (ready_mono hr (Ne.symm hji)) h3.1 hC' ?_⟩
      rw [Array.setIfInBounds_comm _ _ hji]
      exact h3.2.2

/-- The walk in our order: (number, true): a still operation; (number, false): an effect. -/
def wpPlan (P : Program) (ops : Array Oper) (C : World → Prop) (wl : List Nat) (Q : Exit → Act → World → Prop) : List (Nat × Bool) → Act → World → Prop
  | [], a, w => Q .normal a w
  | (i, true) :: rest, a, w => C w ∧ ∃ o v, ops[i]? = some o ∧ YieldsS P ops C o v a ∧ wpPlan P ops C wl Q rest (a.put o.dst v) w
  | (i, false) :: rest, a, w => wpOp P ops Q i (fun a' w' => (wl.contains i = false → C w') ∧ wpPlan P ops C wl Q rest a' w') a w

def planB (md : Region.Mode) (ops : Array Oper) (wl : List Nat) : List (Nat × Bool) → Array Bool → Bool
  | [], listed => Region.ready md ops listed == []
  | (i, true) :: rest, listed => (Region.ready md ops listed).contains i && Region.free md ops listed i &&
      (wl.all fun j => j == i || listed.getD j true || match ops[j]? with | some oj => oj.after.any (fun e => Region.binds md e && e.on == i) | none => true) &&
      planB md ops wl rest (listed.setIfInBounds i true)
  | (i, false) :: rest, listed => (Region.ready md ops listed == [i]) && planB md ops wl rest (listed.setIfInBounds i true)

theorem wpAnyC_plan (hs : Region.noSelect ops = true) (hQ : ∀ c a w, ¬ Q (.panic c) a w) : ∀ (pl : List (Nat × Bool)) (listed : Array Bool) (a : Act) (w : World),
    planB md ops wl pl listed = true → wpPlan P ops C wl Q pl a w → wpAnyC P md ops C wl Q pl.length listed a w
  | [], listed, a, w, hB, h => ⟨by simpa [planB] using hB, h⟩
  | (i, true) :: rest, listed, a, w, hB, h => by
    simp only [planB, Bool.and_eq_true] at hB
    obtain ⟨⟨⟨hr, hf⟩, hw⟩, hB'⟩ := hB
    obtain ⟨hC, o, v, ho, hy, hK⟩ := h
    refine wpAnyC_first ho (Region.noSelect_spec hs) hQ rest.length listed a w (Region.free_spec ho hf) ?_ (by simpa using hr) hy hC (wpAnyC_plan hs hQ rest _ _ _ hB' hK)
    intro j oj hoj hji hun hno
    cases hc : wl.contains j with
    | false => rfl
    | true =>
      have hm : j ∈ wl := by simpa using hc
      have h1 := List.all_eq_true.1 hw j hm
      simp only [Bool.or_eq_true, beq_iff_eq, hji, false_or, hun, Bool.false_eq_true, hoj] at h1
      obtain ⟨e, he, hb⟩ := Array.any_eq_true'.1 h1
      simp only [Bool.and_eq_true, beq_iff_eq] at hb
      exact absurd hb.2 (hno e he hb.1)
  | (i, false) :: rest, listed, a, w, hB, h => by
    simp only [planB, Bool.and_eq_true, beq_iff_eq] at hB
    obtain ⟨hr, hB'⟩ := hB
    refine ⟨fun h0 => (by rw [hr] at h0; cases h0), fun j hj => ?_⟩
    rw [hr] at hj
    obtain rfl : j = i := by simpa using hj
    exact wpOp_mono (fun a' w' h' => ⟨h'.1, wpAnyC_plan hs hQ rest _ a' w' hB' h'.2⟩) h

/-- Q, and no panic. -/
def NoPan (Q : Exit → Act → World → Prop) : Exit → Act → World → Prop
  | .panic _, _, _ => False
  | e, a, w => Q e a w
theorem NoPan.imp {Q : Exit → Act → World → Prop} : ∀ (e : Exit) (a : Act) (w : World), NoPan Q e a w → Q e a w := fun e a w h => by
  cases e <;> first | exact h | exact (h : False).elim

def planOk (md : Region.Mode) (l : List Oper) (wl : List Nat) (pl : List (Nat × Bool)) : Bool :=
  Region.noSelect l.toArray && (pl.length == l.length) && planB md l.toArray wl pl (Array.replicate l.length false)

theorem wp_region_plan {id : Nat} {a : Act} {w : World} {l : List Oper} (C : World → Prop) (wl : List Nat) (pl : List (Nat × Bool)) (hm : P.follows .mixedOrders = true) (hB : planOk .any l wl pl = true)
    (h : wpPlan P l.toArray C wl (NoPan Q) pl a w.drew) : (Code.region id l.toArray true).wp P Q a w := by
  simp only [planOk, Bool.and_eq_true, beq_iff_eq] at hB
  obtain ⟨⟨hs, hlen⟩, hB⟩ := hB
  refine Code.wp_mono NoPan.imp (wp_region_any hm (wpAny_of_C (C := C) (wl := wl) _ _ _ _ ?_))
  have := wpAnyC_plan (md := .any) (C := C) hs (fun c a w h => h) pl (Array.replicate l.length false) a w.drew hB h
  rw [hlen] at this
  simpa using this

/-! ### The steps, over the operations written out in our order -/

def pickOp : List Oper → Nat → Oper
  | [], _ => default
  | o :: _, 0 => o
  | _ :: l, n + 1 => pickOp l n
theorem pickOp_some : ∀ (l : List Oper) (i : Nat), i < l.length → l[i]? = some (pickOp l i)
  | o :: l, 0, _ => rfl
  | o :: l, i + 1, h => by simpa [pickOp] using pickOp_some l i (by simpa using h)
def zipPlan (l : List Oper) : List (Nat × Bool) → List (Oper × Nat × Bool)
  | [] => []
  | (i, b) :: r => (pickOp l i, i, b) :: zipPlan l r
def wpZip (P : Program) (ops : Array Oper) (C : World → Prop) (wl : List Nat) (Q : Exit → Act → World → Prop) : List (Oper × Nat × Bool) → Act → World → Prop
  | [], a, w => Q .normal a w
  | (o, _, true) :: rest, a, w => C w ∧ ∃ v, YieldsS P ops C o v a ∧ wpZip P ops C wl Q rest (a.put o.dst v) w
  | (o, i, false) :: rest, a, w =>
    if Region.wanted o (yielded ops a.tmps) then
      o.wp P a w (fun a' w' => (wl.contains i = false → C w') ∧ wpZip P ops C wl Q rest a' w') Q ∨ (o.asks P a w ∧ LetsOut Q)
    else (wl.contains i = false → C w) ∧ wpZip P ops C wl Q rest (a.put o.dst undef) w
theorem plan_of_zip {l : List Oper} : ∀ (pl : List (Nat × Bool)) (a : Act) (w : World), (pl.all fun x => Nat.blt x.1 l.length) = true →
    wpZip P l.toArray C wl Q (zipPlan l pl) a w → wpPlan P l.toArray C wl Q pl a w
  | [], _, _, _, h => h
  | (i, true) :: r, a, w, hb, h => by
    simp only [List.all_cons, Bool.and_eq_true] at hb
    obtain ⟨hC, v, hy, hr⟩ := h
    exact ⟨hC, _, v, by simpa using pickOp_some l i (by simpa [Nat.blt_eq] using hb.1), hy, plan_of_zip r _ _ hb.2 hr⟩
  | (i, false) :: r, a, w, hb, h => by
    simp only [List.all_cons, Bool.and_eq_true] at hb
    have ho : l.toArray[i]? = some (pickOp l i) := by simpa using pickOp_some l i (by simpa [Nat.blt_eq] using hb.1)
    unfold wpPlan wpOp
    simp only [ho]
    unfold zipPlan wpZip at h
    split
    · rename_i hw
      rw [if_pos hw] at h
      exact h.imp (Oper.wp_mono fun a' w' h' => ⟨h'.1, plan_of_zip r _ _ hb.2 h'.2⟩) id
    · rename_i hw
      rw [if_neg hw] at h
      exact ⟨h.1, plan_of_zip r _ _ hb.2 h.2⟩

theorem wp_plan {id : Nat} {a : Act} {w : World} {l : List Oper} (C : World → Prop) (wl : List Nat) (pl : List (Nat × Bool)) (hm : P.follows .mixedOrders = true)
    (hB : (planOk .any l wl pl && pl.all fun x => Nat.blt x.1 l.length) = true)
    (h : ∀ ops, ops = l.toArray → wpZip P ops C wl (NoPan Q) (zipPlan l pl) a w.drew) : (Code.region id l.toArray true).wp P Q a w := by
  simp only [Bool.and_eq_true] at hB
  exact wp_region_plan C wl pl hm hB.1 (plan_of_zip pl a w.drew hB.2 (h _ rfl))


theorem plan_nil {a : Act} {w : World} (h : Q .normal a w) : wpZip P ops C wl (NoPan Q) [] a w := h

/-- No way out but the usual one. -/
def NoQ : Exit → Act → World → Prop := fun _ _ _ => False

theorem plan_still_ {i : Nat} {rest : List (Oper × Nat × Bool)} {o : Oper} {a a1 : Act} {w : World} (d : Tmp) (hd : o.dst = some d) (hs : Nat.blt d a.tmps.size = true)
    (hg : Region.wanted o (yielded ops a.tmps) = true) (hC : C w)
    (h : ∀ W, C W → ∀ (K : Act → World → Prop) (N : Exit → Act → World → Prop), K a1 W → o.wp P a W K N) (hdf : a1.defers = a.defers) (h2 : wpZip P ops C wl Q rest a1 w) : wpZip P ops C wl Q ((o, i, true) :: rest) a w := by
  have hs' : d < a.tmps.size := by simpa [Nat.blt_eq] using hs
  have inj : ∀ u : Value, a.put o.dst u = a1 → u = a1.tmps.getD d undef := fun u he => by
    rw [hd] at he
    have := congrArg (fun x : Act => x.tmps[d]?) he
    simp only [Act.put, Array.getElem?_setIfInBounds, hs', if_true] at this
    simp [← this]
  have key : ∀ W, C W → stillAt P o a W (a1.tmps.getD d undef) := fun W hW => by
    have h0 := h W hW (fun x y => x = a1 ∧ y = W) NoQ ⟨rfl, rfl⟩
    unfold Oper.wp at h0
    unfold stillAt
    generalize (execOp a.eval o).run P W = r at *
    cases r with
    | ok n w' =>
      cases n <;> simp only [Oper.upon] at h0
      case value u => exact ⟨h0.2, inj u h0.1⟩
      case skip => exact ⟨h0.2, inj _ h0.1⟩
      case defer dd =>
        exfalso
        have h1 := congrArg (fun x : Act => x.defers.length) h0.1
        simp only [hd, Act.put, hdf, List.length_cons] at h1
        omega
      case enter f args =>
        refine Calls.mono h0 fun e w'' he => ?_
        cases e with
        | returned u => exact ⟨congrArg _ (inj u he.1), he.2⟩
        | panicked c => exact (he : False).elim
        | outgrown => obtain ⟨_, _, hf⟩ := he; exact (hf : False).elim
      case row row args => exact Rows.mono h0 fun u w'' he => ⟨inj u he.1, he.2⟩
    | halt x w' => cases x <;> simp only [Oper.upon] at h0 <;> exact (h0 : False).elim
  have hp : a.put o.dst (a1.tmps.getD d undef) = a1 := by
    have h0 := h w hC (fun x _ => x = a1) NoQ rfl
    unfold Oper.wp at h0
    generalize (execOp a.eval o).run P w = r at *
    cases r with
    | ok n w' =>
      cases n <;> simp only [Oper.upon] at h0
      case value u => rw [← inj u h0]; exact h0
      case skip => rw [← inj _ h0]; exact h0
      case defer dd =>
        exfalso
        have h1 := congrArg (fun x : Act => x.defers.length) h0
        simp only [hd, Act.put, hdf, List.length_cons] at h1
        omega
      case enter f args =>
        obtain ⟨e, w'', fr, he, _⟩ := h0 []
        cases e with
        | returned u => have hu : a.put o.dst u = a1 := he; rw [← inj u hu]; exact hu
        | panicked c => exact (he : False).elim
        | outgrown => obtain ⟨_, _, hf⟩ := he; exact (hf : False).elim
      case row row args =>
        obtain ⟨u, w'', he, _⟩ := h0 default []
        rw [← inj u he]; exact he
    | halt x w' => cases x <;> simp only [Oper.upon] at h0 <;> exact (h0 : False).elim
  exact ⟨hC, _, .inl ⟨hg, key⟩, by rw [hp]; exact h2⟩

/-- A still operation without a guard. -/
theorem plan_still {i : Nat} {rest : List (Oper × Nat × Bool)} {o : Oper} {a : Act} {w : World} (d : Tmp) (hd : o.dst = some d) (hs : Nat.blt d a.tmps.size = true)
    (hg : o.guard = none) (hC : C w)
    (h : ∃ a1 : Act, (∀ W, C W → ∀ (K : Act → World → Prop) (N : Exit → Act → World → Prop), K a1 W → o.wp P a W K N) ∧ a1.defers = a.defers ∧ wpZip P ops C wl Q rest a1 w) : wpZip P ops C wl Q ((o, i, true) :: rest) a w :=
  let ⟨_, h1, h2, h3⟩ := h
  plan_still_ d hd hs (by simp [Region.wanted, hg]) hC h1 h2 h3
/-- .. whose guard says yes. -/
theorem plan_still_yes {i : Nat} {rest : List (Oper × Nat × Bool)} {o : Oper} {a : Act} {w : World} (d : Tmp) (hd : o.dst = some d) (hs : Nat.blt d a.tmps.size = true)
    (hg : Region.wanted o (yielded ops a.tmps) = true) (hC : C w)
    (h : ∃ a1 : Act, (∀ W, C W → ∀ (K : Act → World → Prop) (N : Exit → Act → World → Prop), K a1 W → o.wp P a W K N) ∧ a1.defers = a.defers ∧ wpZip P ops C wl Q rest a1 w) : wpZip P ops C wl Q ((o, i, true) :: rest) a w :=
  let ⟨_, h1, h2, h3⟩ := h
  plan_still_ d hd hs hg hC h1 h2 h3

/-- An operation whose guard says no. -/
theorem plan_skip {i : Nat} {rest : List (Oper × Nat × Bool)} {o : Oper} {a a1 : Act} {w : World} (hg : Region.wanted o (yielded ops a.tmps) = false) (hC : C w)
    (ha : a.put o.dst undef = a1) (h2 : wpZip P ops C wl Q rest a1 w) : wpZip P ops C wl Q ((o, i, true) :: rest) a w :=
  ⟨hC, undef, .inr ⟨hg, rfl⟩, by rw [ha]; exact h2⟩
theorem plan_skip' {i : Nat} {rest : List (Oper × Nat × Bool)} {o : Oper} {a a1 : Act} {w : World} (hg : Region.wanted o (yielded ops a.tmps) = false) (hw : wl.contains i = false → C w)
    (ha : a.put o.dst undef = a1) (h2 : wpZip P ops C wl Q rest a1 w) : wpZip P ops C wl Q ((o, i, false) :: rest) a w := by
  unfold wpZip
  simp only [hg, Bool.false_eq_true, if_false, ha]
  exact ⟨hw, h2⟩

/-- What an effect hands on. -/
def Eff (C : World → Prop) (P : Program) (ops : Array Oper) (wl : List Nat) (Q : Exit → Act → World → Prop) (b : Bool) (rest : List (Oper × Nat × Bool)) : Exit → Act → World → Prop
  | .normal, a, w => (b = false → C w) ∧ wpZip P ops C wl Q rest a w
  | .panic _, _, _ => False
  | e, a, w => Q e a w
theorem Eff.mk_ {b : Bool} {rest : List (Oper × Nat × Bool)} {a : Act} {w : World} (h1 : C w) (h2 : wpZip P ops C wl Q rest a w) : Eff C P ops wl Q b rest .normal a w := ⟨fun _ => h1, h2⟩
theorem Eff.wild {rest : List (Oper × Nat × Bool)} {a : Act} {w : World} (h2 : wpZip P ops C wl Q rest a w) : Eff C P ops wl Q true rest .normal a w := ⟨fun h => (by cases h), h2⟩

theorem plan_effect {i : Nat} {rest : List (Oper × Nat × Bool)} {o : Oper} {a : Act} {w : World} (b : Bool) (hg : o.guard = none) (hb : wl.contains i = b)
    (h : wpList P ops (Eff C P ops wl (NoPan Q) b rest) [o] a w) : wpZip P ops C wl (NoPan Q) ((o, i, false) :: rest) a w := by
  have hw : Region.wanted o (yielded ops a.tmps) = true := by simp [Region.wanted, hg]
  unfold wpList at h
  rw [if_pos hw] at h
  unfold wpZip
  simp only [hw, if_true, hb]
  rcases h with h | ⟨h1, a', w', h2⟩
  · refine .inl ?_
    unfold Oper.wp at *
    generalize (execOp a.eval o).run P w = r at *
    have nx : ∀ a' w', wpList P ops (Eff C P ops wl (NoPan Q) b rest) [] a' w' → (b = false → C w') ∧ wpZip P ops C wl (NoPan Q) rest a' w' := fun a' w' h => h
    cases r with
    | ok n w' =>
      cases n <;> simp only [Oper.upon] at h ⊢
      case value u => exact nx _ _ h
      case skip => exact nx _ _ h
      case defer d => exact nx _ _ h
      case enter f args =>
        refine Calls.mono h fun e w'' he => ?_
        cases e with
        | returned u => exact nx _ _ he
        | panicked c => exact (he : False).elim
        | outgrown => exact he
      case row row args => exact Rows.mono h fun u w'' he => nx _ _ he
    | halt x w' => cases x <;> simp only [Oper.upon] at h ⊢ <;> exact (h : False).elim
  · exact .inr ⟨h1, a', w', h2⟩

/-- The class: what was there in w is there as it was. -/
def Ext (w W : World) : Prop := Below w.heap.size w W
theorem Ext.refl (w : World) : Ext w w := Below.refl _ _
theorem Ext.drew (w : World) : Ext w w.drew := (Below.refl _ _).drew
theorem Ext.trans {a b c : World} (h : Ext a b) (k : Ext b c) : Ext a c := Below.trans h (Below.mono k h.size)
theorem Ext.of_drew {w w' : World} (h : Below w.drew.heap.size w.drew w') : Ext w w' := (Ext.drew w).trans h
theorem Ext.cell {w : World} {p : Addr} {v : Value} (h : w.cell? p = some v) : ∀ W, Ext w W → W.cell? p = some v := fun W hW => by
  rw [Below.cell hW (block_lt_of_cell h)]; exact h
end
end Go.Proofs.Ytapfkdcilfpbhaa
