/- From the printed texts' words to ours: a row of numbers of the call's own. -/
import Derived.Test.YtfcbkmgkdbdabaaDoorOwn
import Derived.Test.YtfcbkmgkdbdabaaDoorWWords
namespace Go.Proofs.YtfcbkmgkdbdabaaDoor
open Go.RowKit Go.Proofs.YtfcbkmgkdbdabaaDoorW.PrintWords

theorem reps_map {α : Type} {enc : α → Value} : ∀ {ps : List α} {cs : List Value}, Reps (fun x cs => cs = [enc x]) 1 ps cs → cs = ps.map enc
  | ps, cs, h => by
    obtain ⟨h1, h2⟩ := h
    apply List.ext_getElem?
    intro j
    rw [List.getElem?_map]
    cases hp : ps[j]? with
    | none =>
      have : ps.length ≤ j := by simpa using hp
      simp; omega
    | some p =>
      have := h2 j p hp
      have hj : j < ps.length := (List.getElem?_eq_some_iff.1 hp).1
      rw [Nat.mul_one] at this
      have h3 : ((cs.drop j).take 1)[0]? = some (enc p) := by rw [this]; rfl
      rw [List.getElem?_take, List.getElem?_drop] at h3
      simpa using h3
theorem own_of_R {k : IntKind} {e : Nat} {w : World} {B : Nat} {ok : Nat → Prop} {v : Value} {xs : List Int} (h : Kd.R (Kd.int k) e w B ok v xs) : Own w B e (Value.int k) v xs := by
  obtain ⟨_, inner, ho, hr⟩ := h
  have hr' : Reps (fun x cs => cs = [Value.int k x]) 1 xs inner := hr
  rw [reps_map hr'] at ho
  exact ho
theorem C_of_sl {k : IntKind} {w : World} {B : Nat} {A : Option Addr} {xs : List Int} (h : Sl (Value.int k) w B A xs) (hl : xs.length ≤ 9223372036854775807) : Kd.C (Kd.int k) w A xs.length xs := by
  refine ⟨rfl, hl, fun hn => ?_⟩
  obtain ⟨b, o, rfl, _, hc⟩ := h hn
  refine ⟨_, rfl, fun j p hp => ⟨[Value.int k p], rfl, rfl, fun i u hu => ?_⟩⟩
  have hi : i = 0 := by
    cases i with
    | zero => rfl
    | succ i => simp at hu
  subst hi
  obtain rfl : Value.int k p = u := by simpa using hu
  rw [Addr.add_lit]
  have := hc j p hp
  simpa [Kd.int, Kd.scalar] using this
end Go.Proofs.YtfcbkmgkdbdabaaDoor
