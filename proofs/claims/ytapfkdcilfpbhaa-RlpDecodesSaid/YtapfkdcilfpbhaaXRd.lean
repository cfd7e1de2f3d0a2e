/- What a row's premises give a walk: arguments that are structs, and slices of them. -/
import Derived.Test.YtapfkdcilfpbhaaXRow
import Derived.Test.YtapfkdcilfpbhaaStr
namespace Go.Proofs.Ytapfkdcilfpbhaa
open Go.RowKit Go.ChangeShapes Go.WideShapes
set_option linter.unusedVariables false
set_option linter.unusedSimpArgs false
section
variable {P : Program} {W : World} {α : Type}
/-- What can be read of a type stands in cells so. -/
def Rd (P : Program) (W : World) (t : TypeId) (R : Rp α) : Prop := ∀ {H : Type} {enc : TypeId × Value → H} {fuel : Nat} {cs : List Value} {x : DataW H × List MemPlace}, DataW.trod enc P W 0 (fun _ => true) true fuel t cs = some x → ∃ v : α, R.rep (snap W) v cs
theorem rd_bool {t : TypeId} (ht : P.underlying t = some .bool) : Rd P W t (scR Value.bool fun _ => rfl) := fun h => by
  obtain ⟨b, rfl, _⟩ := DataW.trod_bool ht h
  exact ⟨b, rfl⟩
theorem rd_u8 {t : TypeId} (ht : P.underlying t = some (.int .u8)) : Rd P W t (scR U8 fun _ => rfl) := fun h => by
  obtain ⟨n, rfl, _, hw⟩ := DataW.trod_int ht h
  exact ⟨BitVec.ofInt 8 n, by rw [u8_val hw]; rfl⟩
theorem rd_u64 {t : TypeId} (ht : P.underlying t = some (.int .u64)) : Rd P W t (scR U64 fun _ => rfl) := fun h => by
  obtain ⟨n, rfl, _, hw⟩ := DataW.trod_int ht h
  exact ⟨BitVec.ofInt 64 n, by rw [u64_val hw]; rfl⟩
/-- An int of Go's, in its bounds. -/
def intR : Rp Int := ⟨1, fun _ x cs => cs = [.int .i64 x] ∧ -9223372036854775808 ≤ x ∧ x ≤ 9223372036854775807, fun _ r => r, fun r => by rw [r.1]; rfl, fun r => by rw [r.1]; exact fun u hu => by obtain rfl := List.mem_singleton.1 hu; rfl⟩
theorem rd_int {t : TypeId} (ht : P.underlying t = some (.int .i64)) : Rd P W t intR := fun h => by
  obtain ⟨n, rfl, _, hw⟩ := DataW.trod_int ht h
  have hb := Go.bounds_i64 hw
  exact ⟨n, rfl, hb.1, by omega⟩
theorem rd_arr8 {t e : TypeId} {n : Nat} (ht : P.underlying t = some (.array n e)) (he : P.underlying e = some (.int .u8)) (hce : P.cellsOf e = 1) (hct : P.cellsOf t = n) : Rd P W t (arrR U8 (fun _ => rfl) n) := fun h => by
  rename_i H enc fuel cs x
  obtain ⟨zs, rfl, h2, h3⟩ := open_nums ht he hce hct h
  refine ⟨⟨zs.map (BitVec.ofInt 8), by simpa using h2⟩, ?_⟩
  show _ = List.map U8 (zs.map (BitVec.ofInt 8))
  rw [List.map_map]
  exact List.map_congr_left fun z hz => u8_val (h3 z hz)
theorem rd_arr64 {t e : TypeId} {n : Nat} (ht : P.underlying t = some (.array n e)) (he : P.underlying e = some (.int .u64)) (hce : P.cellsOf e = 1) (hct : P.cellsOf t = n) : Rd P W t (arrR U64 (fun _ => rfl) n) := fun h => by
  rename_i H enc fuel cs x
  obtain ⟨zs, rfl, h2, h3⟩ := open_nums ht he hce hct h
  refine ⟨⟨zs.map (BitVec.ofInt 64), by simpa using h2⟩, ?_⟩
  show _ = List.map U64 (zs.map (BitVec.ofInt 64))
  rw [List.map_map]
  exact List.map_congr_left fun z hz => u64_val (h3 z hz)
theorem each_of {Q : Nat → α → Prop} : ∀ {n : Nat}, (∀ i, i < n → ∃ v, Q i v) → ∃ xs : List α, xs.length = n ∧ ∀ (i : Nat) (v : α), xs[i]? = some v → Q i v
  | 0, _ => ⟨[], rfl, fun i v h => by simp at h⟩
  | n + 1, h => by
    obtain ⟨xs, h1, h2⟩ := each_of (n := n) fun i hi => h i (by omega)
    obtain ⟨v, hv⟩ := h n (by omega)
    refine ⟨xs ++ [v], by simp [h1], fun i u hu => ?_⟩
    by_cases hi : i < xs.length
    · rw [List.getElem?_append_left hi] at hu; exact h2 i u hu
    · have hl : i < (xs ++ [v]).length := (List.getElem?_eq_some_iff.1 hu).1
      have : i = xs.length := by simp at hl; omega
      subst this
      simp at hu
      subst hu
      rw [h1]; exact hv
theorem hc_of_cell {b q : Nat} {v : Value} (h : W.cell? ⟨b, q, none⟩ = some v) : HC (snap W) b q v := by
  unfold World.cell? at h
  split at h
  · rename_i c t fz e
    exact ⟨c, t, fz, e, by simpa using h⟩
  · cases h
/-- A slice of rows. -/
theorem rd_rows {H : Type} {enc : TypeId × Value → H} {fuel : Nat} {cs : List Value} {x : DataW H × List MemPlace} {t e : TypeId} {R : Rp α} (ht : P.underlying t = some (.slice e)) (hsz : P.cellsOf e = R.sz) (h0 : 0 < R.sz) (hR : Rd P W e R) (h : DataW.trod enc P W 0 (fun _ => true) true fuel t cs = some x) :
    ∃ (A : Option Addr) (xs : List α) (c : Nat), cs = [.slice A xs.length c] ∧ SlR (snap W) R A xs ∧ xs.length ≤ c ∧ c ≤ maxLen := by
  rcases DataW.trod_slice ht h with ⟨rfl, _⟩ | ⟨a, len, cap, elems, rest, n, _, rfl, _, hb, hl, hm, hlen, hel, _, _⟩
  · exact ⟨none, [], 0, rfl, SlR.nil, Nat.le_refl _, by decide⟩
  have hall : ∀ i, i < len → ∃ v : α, ∃ cs, R.rep (snap W) v cs ∧ W.cells? 0 (a.add (i * R.sz)) R.sz = some cs := fun i hi => by
    have h1 := hel i hi
    rw [hsz] at h1
    have h2 : elems[i]? = some (elems[i]'(by omega)) := by simp
    rw [h2] at h1
    obtain ⟨cs', hc1, hc2⟩ := Option.bind_eq_some_iff.1 h1
    obtain ⟨v, hv⟩ := hR hc2
    exact ⟨v, cs', hv, hc1⟩
  obtain ⟨xs, hxl, hxs⟩ := each_of hall
  refine ⟨some a, xs, cap, by rw [hxl], fun hp => ?_, by omega, hm⟩
  have cell_at : ∀ (i : Nat) (v : α), xs[i]? = some v → ∃ cs, R.rep (snap W) v cs ∧ ∀ (k : Nat) (u : Value), cs[k]? = some u → W.cell? ((a.add (i * R.sz)).add k) = some u := fun i v hv => by
    obtain ⟨cs, h1, h2⟩ := hxs i v hv
    refine ⟨cs, h1, fun k u hu => ?_⟩
    unfold World.cells? at h2
    rw [if_pos (Nat.zero_le _)] at h2
    have hkl : k < cs.length := (List.getElem?_eq_some_iff.1 hu).1
    have hml : cs.length = R.sz := by simpa using Lib.mapM_length h2
    obtain ⟨c, hc, hf⟩ := Lib.mapM_at h2 k k (show (List.range R.sz)[k]? = some k by rw [List.getElem?_range (by omega)])
    rw [hu] at hc
    obtain rfl := Option.some.inj hc
    exact hf
  have hspot : a.spot = none := by
    obtain ⟨v, hv⟩ : ∃ v, xs[0]? = some v := ⟨xs[0], by simp [hp]⟩
    obtain ⟨cs, h1, h2⟩ := hxs 0 v hv
    unfold World.cells? at h2
    rw [if_pos (Nat.zero_le _)] at h2
    obtain ⟨c, _, hf⟩ := Lib.mapM_at h2 0 0 (show (List.range R.sz)[0]? = some 0 by rw [List.getElem?_range h0])
    have := World.cell?_spot hf
    simpa [Addr.add] using this
  obtain ⟨b, off, spot⟩ := a
  have hs : spot = none := hspot
  subst hs
  refine ⟨b, off, rfl, fun i v hv => ?_⟩
  obtain ⟨cs, h1, h2⟩ := cell_at i v hv
  refine ⟨cs, h1, fun k u hu => hc_of_cell ?_⟩
  have := h2 k u hu
  rwa [Addr.add_mid, Addr.add_mid] at this
/-- A slice of scalars. -/
theorem rd_list {H : Type} {enc : TypeId × Value → H} {fuel : Nat} {cs : List Value} {x : DataW H × List MemPlace} {t e : TypeId} {f : α → Value} (hf : ∀ y, (f y).oneCell' = true) (ht : P.underlying t = some (.slice e)) (hsz : P.cellsOf e = 1) (hR : Rd P W e (scR f hf)) (h : DataW.trod enc P W 0 (fun _ => true) true fuel t cs = some x) :
    ∃ (A : Option Addr) (xs : List α) (c : Nat), cs = [.slice A xs.length c] ∧ SlH (snap W) f A xs ∧ xs.length ≤ c ∧ c ≤ maxLen := by
  obtain ⟨A, xs, c, h1, h2, h3, h4⟩ := rd_rows ht (by rw [hsz]; rfl) (Nat.zero_lt_one : 0 < (scR f hf).sz) hR h
  refine ⟨A, xs, c, h1, fun hp => ?_, h3, h4⟩
  obtain ⟨b, o, hA, hc⟩ := h2 hp
  refine ⟨b, o, hA, fun i v hv => ?_⟩
  obtain ⟨cs, hcs, hk⟩ := hc i v hv
  have hcs' : cs = [f v] := hcs
  subst hcs'
  have := hk 0 (f v) rfl
  have e : o + i * (scR f hf).sz + 0 = o + i := by show o + i * 1 + 0 = o + i; omega
  rwa [e] at this
theorem SlH.ofSnap {f : α → Value} {A : Option Addr} {xs : List α} (r : SlH (snap W) f A xs) : SlW W f A xs := fun hp => by
  obtain ⟨b, o, hA, hc⟩ := r hp
  refine ⟨b, o, hA, fun i x hx => ?_⟩
  obtain ⟨cur, t, fz, h1, h2⟩ := hc i x hx
  have h1' : W.heap[b]? = some (.cells cur t fz) := h1
  rw [cell_of_row W b (o + i) cur t fz h1']; exact h2
theorem cut_more {cs : List Value} (o n : Nat) : cs.drop o = (cs.drop o).take n ++ cs.drop (o + n) := by
  rw [← List.drop_drop, List.take_append_drop]
theorem app_eq {a a' b b' : List Value} (h : a = a') (k : b = b') : a ++ b = a' ++ b' := by rw [h, k]
theorem cut_last {cs : List Value} {o n : Nat} (h : cs.length = o + n) : (cs.drop o).take n = cs.drop o := List.take_of_length_le (by simp; omega)
end
end Go.Proofs.Ytapfkdcilfpbhaa
