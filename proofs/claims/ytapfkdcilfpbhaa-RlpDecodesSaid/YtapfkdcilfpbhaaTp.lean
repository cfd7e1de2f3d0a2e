/- Words for functions that are printed: names, checks, loops, rows of a fixed length. Plain, with no program in sight. -/
import Derived.RowKit
import Derived.IntWalk
namespace Go.Proofs.Ytapfkdcilfpbhaa
open Go.RowKit
set_option linter.unusedVariables false
set_option linter.unusedSimpArgs false

/-- The number as an int of Go's. -/
def wi (n : Int) : Int := IntKind.i64.wrap n
theorem wi_id {n : Int} (h : -9223372036854775808 ≤ n ∧ n ≤ 9223372036854775807) : wi n = n := IntWalk.i64_in _ h
/-- A value behind a name. -/
@[irreducible] def Let {α β : Type} (a : α) (f : α → Option β) : Option β := f a
theorem Let_eq {α β : Type} (a : α) (f : α → Option β) : Let a f = f a := by unfold Let; rfl
theorem Let_elim {α β : Type} {a : α} {f : α → Option β} {r : β} (H : Let a f = some r) : ∃ x, x = a ∧ f x = some r := ⟨a, rfl, by rw [Let_eq] at H; exact H⟩
/-- A check that Go makes. -/
def Chk {β : Type} (c : Prop) [Decidable c] (x : Option β) : Option β := if c then x else none
theorem Chk_elim {β : Type} {c : Prop} [Decidable c] {x : Option β} {r : β} (H : Chk c x = some r) : c ∧ x = some r := by
  unfold Chk at H
  split at H
  · exact ⟨‹_›, H⟩
  · cases H
theorem Chk_pos {β : Type} {c : Prop} [Decidable c] (h : c) (x : Option β) : Chk c x = x := if_pos h
/-- How a round ends. -/
inductive Ctl (σ ρ : Type) where
  | next (s : σ)
  | brk (s : σ)
  | ret (r : ρ)
section
variable {σ ρ : Type} {b : σ → Option (Ctl σ ρ)}
def wlk (b : σ → Option (Ctl σ ρ)) : Nat → σ → Option (Sum σ ρ)
  | 0, _ => none
  | k + 1, s => match b s with
    | none => none
    | some (.next s') => wlk b k s'
    | some (.brk s') => some (.inl s')
    | some (.ret r) => some (.inr r)
theorem wlk_mono : ∀ {k : Nat} {s : σ} {o : Sum σ ρ}, wlk b k s = some o → wlk b (k + 1) s = some o
  | 0, _, _, h => by cases h
  | k + 1, s, o, h => by
    rw [wlk] at h ⊢
    split at h
    · cases h
    · exact wlk_mono h
    · exact h
    · exact h
theorem wlk_more {k : Nat} {s : σ} {o : Sum σ ρ} (h : wlk b k s = some o) : ∀ m, wlk b (k + m) s = some o
  | 0 => h
  | m + 1 => wlk_mono (wlk_more h m)
/-- What the loop comes to. -/
@[irreducible] def wlx (b : σ → Option (Ctl σ ρ)) (s : σ) : Option (Sum σ ρ) := wlk b 18446744073709551616 s
theorem wlx_of {k : Nat} {s : σ} {o : Sum σ ρ} (h : wlk b k s = some o) (hk : k ≤ 18446744073709551616) : wlx b s = some o := by
  have := wlk_more h (18446744073709551616 - k)
  rw [Nat.add_sub_cancel' hk] at this
  unfold wlx; exact this
theorem wlx_rounds {s : σ} {o : Sum σ ρ} (h : wlx b s = some o) : ∃ k, wlk b k s = some o := by unfold wlx at h; exact ⟨_, h⟩
/-- One round of those that are counted. -/
theorem wlk_elim {k : Nat} {s : σ} {o : Sum σ ρ} (h : wlk b k s = some o) : ∃ k' c, k' < k ∧ b s = some c ∧ ((∃ s', c = .next s' ∧ wlk b k' s' = some o) ∨ (∃ s', c = .brk s' ∧ o = .inl s') ∨ (∃ r, c = .ret r ∧ o = .inr r)) := by
  cases k with
  | zero => cases h
  | succ k =>
    rw [wlk] at h
    split at h
    · cases h
    · rename_i s' e; exact ⟨k, _, Nat.lt_succ_self _, e, .inl ⟨_, rfl, h⟩⟩
    · rename_i s' e; exact ⟨k, _, Nat.lt_succ_self _, e, .inr (.inl ⟨_, rfl, (Option.some.inj h).symm⟩)⟩
    · rename_i r e; exact ⟨k, _, Nat.lt_succ_self _, e, .inr (.inr ⟨_, rfl, (Option.some.inj h).symm⟩)⟩
theorem wlk_next {k : Nat} {s s' : σ} (e : b s = some (.next s')) : wlk b (k + 1) s = wlk b k s' := by rw [wlk, e]
theorem wlk_brk {k : Nat} {s s' : σ} (e : b s = some (.brk s')) : wlk b (k + 1) s = some (.inl s') := by rw [wlk, e]
theorem wlk_ret {k : Nat} {s : σ} {r : ρ} (e : b s = some (.ret r)) : wlk b (k + 1) s = some (.inr r) := by rw [wlk, e]
/-- A loop whose states are known. -/
theorem wlk_for (st : Nat → σ) (k : Nat) : ∀ (n j : Nat), (∀ i, j ≤ i → i < j + n → b (st i) = some (.next (st (i + 1)))) → wlk b (n + k) (st j) = wlk b k (st (j + n))
  | 0, j, _ => by rw [Nat.zero_add, Nat.add_zero]
  | n + 1, j, h => by
    rw [show n + 1 + k = (n + k) + 1 by omega, wlk_next (h j (Nat.le_refl _) (by omega)), wlk_for st k n (j + 1) (fun i h1 h2 => h i (by omega) (by omega)), show j + 1 + n = j + (n + 1) by omega]
theorem wlx_for (st : Nat → σ) {n : Nat} {s' : σ} (h : ∀ i, i < n → b (st i) = some (.next (st (i + 1)))) (e : b (st n) = some (.brk s')) (hn : n < 18446744073709551616) : wlx b (st 0) = some (.inl s') :=
  wlx_of (k := n + 1) (by rw [wlk_for st 1 n 0 (fun i _ h2 => h i (by omega)), Nat.zero_add]; exact wlk_brk e) (by omega)
end

/-- A row of a fixed length. -/
structure Vec (α : Type) (n : Nat) where
  l : List α
  hl : l.length = n
section
variable {α β : Type} {n : Nat}
theorem Vec.ext {v w : Vec α n} (h : v.l = w.l) : v = w := by cases v; cases w; cases h; rfl
def Vec.get [Inhabited α] (v : Vec α n) (i : Nat) : α := v.l.getD i default
def Vec.set (v : Vec α n) (i : Nat) (x : α) : Vec α n := ⟨v.l.set i x, by simp [v.hl]⟩
def Vec.rep (n : Nat) (x : α) : Vec α n := ⟨List.replicate n x, by simp⟩
theorem Vec.at_ [Inhabited α] (v : Vec α n) {i : Nat} (h : i < n) : v.l[i]? = some (v.get i) := by
  have h' : i < v.l.length := by rw [v.hl]; exact h
  unfold Vec.get; simp [h']
theorem Vec.get_set [Inhabited α] (v : Vec α n) {i : Nat} (h : i < n) (j : Nat) (x : α) : (v.set i x).get j = if i = j then x else v.get j := by
  have h' : i < v.l.length := by rw [v.hl]; exact h
  unfold Vec.get Vec.set; simp only [List.getD_eq_getElem?_getD, List.getElem?_set]
  by_cases e : i = j
  · subst e; simp [h']
  · simp [e]
theorem Vec.get_rep [Inhabited α] {i : Nat} (h : i < n) (x : α) : (Vec.rep n x).get i = x := by simp [Vec.get, Vec.rep, h]
theorem Vec.ext_get [Inhabited α] {v w : Vec α n} (h : ∀ i, i < n → v.get i = w.get i) : v = w := by
  apply Vec.ext
  apply List.ext_getElem?
  intro i
  by_cases hi : i < n
  · rw [v.at_ hi, w.at_ hi, h i hi]
  · rw [List.getElem?_eq_none (by rw [v.hl]; omega), List.getElem?_eq_none (by rw [w.hl]; omega)]
end
/-- The number at a place of a list. -/
def lget {α : Type} [Inhabited α] (l : List α) (i : Nat) : α := l.getD i default
theorem lget_at {α : Type} [Inhabited α] {l : List α} {i : Nat} (h : i < l.length) : l[i]? = some (lget l i) := by unfold lget; simp [h]
theorem idx_lt {q : Int} {n : Nat} (h : 0 ≤ q ∧ q < n) : q.toNat < n := by omega
end Go.Proofs.Ytapfkdcilfpbhaa
