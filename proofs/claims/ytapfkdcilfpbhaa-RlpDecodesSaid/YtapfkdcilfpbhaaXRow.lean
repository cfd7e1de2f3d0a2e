/- What a row's premises give a walk: arguments, laid tables. -/
import Derived.Test.YtapfkdcilfpbhaaRows
import Derived.Test.YtapfkdcilfpbhaaFree
import Derived.Lib.LaidTab
import Derived.LaidHandle
import Derived.ProofKit
import Derived.OpenShut
import Derived.Carry
import Derived.ChangeSame
import Derived.ChangeSlices
namespace Go.Proofs.Ytapfkdcilfpbhaa
open Go.RowKit Go.ChangeShapes Go.WideShapes
set_option linter.unusedVariables false
set_option linter.unusedSimpArgs false
theorem own_ : ownKnob Try.prog.godebug = none := by kernel_rfl
theorem laidOut_ : laidOutB Try.prog = true := by kernel_rfl
section
variable {P : Program} {W : World}
theorem tabIs_of_vars {name : String} {k : IntKind} {zs : List Int} {g : Nat} {t e : TypeId} {n : Nat} (hg : P.globalNamed name = some g) (hty : (P.globals[g]?).map (·.type) = some t) (ht : P.underlying t = some (.array n e)) (he : P.underlying e = some (.int k)) (hce : P.cellsOf e = 1) (hct : P.cellsOf t = n) :
    ∀ {laid : List (String × DataW Unit)} {ps : List MemPlace}, DataW.LaidVars P W laid ps → (name, Lib.tabData k zs) ∈ laid → Lib.TabIs P W name k zs
  | [], _, _, hm => by cases hm
  | (n', d') :: r, ps, h, hm => by
    obtain ⟨g', t', cs, fuel, p, q, hg', ht', hvar, hd, hr, _⟩ := h
    rcases List.mem_cons.1 hm with e1 | hm
    · obtain ⟨rfl, rfl⟩ := Prod.mk.inj e1
      obtain rfl := Option.some.inj (hg.symm.trans hg')
      obtain rfl := Option.some.inj (hty.symm.trans ht')
      unfold Lib.TabIs
      rw [hvar, ← Lib.cells_of_tab ht he hce hct hd]
    · exact tabIs_of_vars hg hty ht he hce hct hr hm
theorem tabW_of {α : Type} {N : Nat} {f : α → Value} {T : Vec α N} {name : String} {k : IntKind} {zs : List Int} {g : Nat} (h : Lib.TabIs P W name k zs) (hg : P.globalNamed name = some g) (hz : cV f T = zs.map (Value.int k)) : TabW W g f T := fun i v hv => by
  have h1 := World.var?_cell hg h i
  rw [hz] at hv
  rw [h1]
  simpa using hv
theorem open_bytes {H : Type} {enc : TypeId × Value → H} {t e : TypeId} (ht : P.underlying t = some (.slice e)) (he : P.underlying e = some (.int .u8)) (hce : P.cellsOf e = 1) {a0 : Option Addr} {len cap fuel : Nat} {x : DataW H × List MemPlace}
    (hf : DataW.trod enc P W 0 (fun _ => true) true fuel t [.slice a0 len cap] = some x) : ∃ bs : List (BitVec 8), bs.length = len ∧ bs.length ≤ cap ∧ cap ≤ maxLen ∧ SlW W U8 a0 bs := by
  rcases open_ints ht he hce hf with ⟨hcs, _⟩ | ⟨a, l, c, zs, hcs, _, hl, hm, hz, hx', hcell, hwz⟩
  · simp at hcs
    obtain ⟨rfl, rfl, rfl⟩ := hcs
    exact ⟨[], rfl, Nat.le_refl _, by decide, fun h => absurd h (by simp)⟩
  · simp at hcs
    obtain ⟨rfl, rfl, rfl⟩ := hcs
    simp only [if_true] at hz
    have hcell' : ∀ i, i < zs.length → W.cell? (a.add i) = some (U8 (BitVec.ofInt 8 (zs.getD i 0))) := fun i hi => by
      rw [hcell i hi]
      have hw := hwz (zs.getD i 0) (by simp only [List.getD_eq_getElem?_getD, List.getElem?_eq_getElem hi, Option.getD_some]; exact List.getElem_mem hi)
      have hw := Go.bounds_u8 hw
      rw [u8_of _ hw.1 (by omega)]
    refine ⟨(zs.take len).map (BitVec.ofInt 8), by simp; omega, by simp; omega, hm, fun h0 => ?_⟩
    have hlen : 0 < len := by simp at h0; omega
    obtain ⟨b, off, spot⟩ := a
    have hc0 := hcell' 0 (by omega)
    have hspot : spot = none := by simpa [Addr.add] using World.cell?_spot hc0
    subst hspot
    refine ⟨b, off, rfl, fun i y hy => ?_⟩
    have hi : i < len := by
      have := (List.getElem?_eq_some_iff.1 hy).1
      simp at this; omega
    have h1 := hcell' i (by omega)
    rw [Addr.add_lit] at h1
    rw [h1]
    rw [List.getElem?_map, List.getElem?_take_of_lt hi, List.getElem?_eq_getElem (by omega), Option.map_some] at hy
    have := Option.some.inj hy
    rw [← this]
    simp [List.getD_eq_getElem?_getD, List.getElem?_eq_getElem (show i < zs.length by omega)]
theorem okWide_array {r : Reach} {b0 : Nat} {t e : TypeId} {n : Nat} {v : Value} (ht : P.underlying t = some (.array n e)) (h : Value.okWide P W r b0 t v) : ∃ cs : Array Value, v = .agg cs := by
  simp only [Value.okWide, ht] at h
  obtain ⟨cs, h1, _⟩ := h
  exact ⟨cs, h1⟩
theorem open_nums {H : Type} {enc : TypeId × Value → H} {base : Nat} {sp : Nat → Bool} {held : Bool} {fuel : Nat} {t e : TypeId} {n : Nat} {k : IntKind} {cs : List Value} {x : DataW H × List MemPlace}
    (ht : P.underlying t = some (.array n e)) (he : P.underlying e = some (.int k)) (hce : P.cellsOf e = 1) (hct : P.cellsOf t = n) (h : DataW.trod enc P W base sp held fuel t cs = some x) :
    ∃ zs : List Int, cs = zs.map (Value.int k) ∧ zs.length = n ∧ ∀ z ∈ zs, (Lit.int k z).wf = true := by
  cases fuel with
  | zero => simp [DataW.trod] at h
  | succ fuel =>
    simp only [DataW.trod, ht, hce, hct, Nat.mul_one] at h
    split at h
    · rename_i hl
      obtain ⟨xs, hm, hx⟩ := Option.map_eq_some_iff.1 h
      have hall : ∀ i, i < n → ∃ z, cs[i]? = some (.int k z) ∧ (Lit.int k z).wf = true := fun i hi => by
        obtain ⟨b, hb, hf⟩ := Lib.mapM_at hm i i (by simp [hi])
        obtain ⟨z, hc, rfl, hw⟩ := DataW.trod_int he hf
        refine ⟨z, ?_, hw⟩
        have := congrArg (·[0]?) hc
        simpa [List.getElem?_take, List.getElem?_drop] using this
      have : ∀ (m : Nat) (cs : List Value), cs.length = m → (∀ i, i < m → ∃ z, cs[i]? = some (.int k z) ∧ (Lit.int k z).wf = true) → ∃ zs : List Int, cs = zs.map (Value.int k) ∧ zs.length = m ∧ ∀ z ∈ zs, (Lit.int k z).wf = true := by
        intro m
        induction m with
        | zero => intro cs hc _; exact ⟨[], by simpa using List.eq_nil_of_length_eq_zero hc, rfl, fun z hz => by cases hz⟩
        | succ m ih =>
          intro cs hc ha
          cases cs with
          | nil => simp at hc
          | cons c cs =>
            obtain ⟨z, hz, hw⟩ := ha 0 (by omega)
            obtain rfl : c = .int k z := by simpa using hz
            obtain ⟨zs, h1, h2, h3⟩ := ih cs (by simpa using hc) fun i hi => by simpa using ha (i + 1) (by omega)
            refine ⟨z :: zs, by rw [h1]; rfl, by simp [h2], fun y hy => ?_⟩
            rcases List.mem_cons.1 hy with rfl | hy
            · exact hw
            · exact h3 y hy
      exact this n cs hl hall
    · cases h
theorem open_arr8 {H : Type} {enc : TypeId × Value → H} {base : Nat} {sp : Nat → Bool} {held : Bool} {t e : TypeId} {n : Nat} {v : Value} {d : DataW H} {ps : List MemPlace} {r : Reach} {b0 : Nat}
    (ht : P.underlying t = some (.array n e)) (he : P.underlying e = some (.int .u8)) (hce : P.cellsOf e = 1) (hct : P.cellsOf t = n) (hv : Value.okWide P W r b0 t v) (h : DataW.Trod enc P W base sp held t v d ps) : ∃ a : Vec (BitVec 8) n, v = .agg (cV U8 a).toArray := by
  obtain ⟨cs, rfl⟩ := okWide_array ht hv
  obtain ⟨fuel, hf⟩ := h
  obtain ⟨zs, h1, h2, h3⟩ := open_nums ht he hce hct hf
  refine ⟨⟨zs.map (BitVec.ofInt 8), by simpa using h2⟩, ?_⟩
  have h4 : cs.toList = zs.map (Value.int .u8) := h1
  congr 1
  apply Array.ext'
  rw [h4]
  show _ = List.map U8 (zs.map (BitVec.ofInt 8))
  rw [List.map_map]
  exact List.map_congr_left fun z hz => by have := Go.bounds_u8 (h3 z hz); exact u8_of _ this.1 (by omega)
theorem open_arr64 {H : Type} {enc : TypeId × Value → H} {base : Nat} {sp : Nat → Bool} {held : Bool} {t e : TypeId} {n : Nat} {v : Value} {d : DataW H} {ps : List MemPlace} {r : Reach} {b0 : Nat}
    (ht : P.underlying t = some (.array n e)) (he : P.underlying e = some (.int .u64)) (hce : P.cellsOf e = 1) (hct : P.cellsOf t = n) (hv : Value.okWide P W r b0 t v) (h : DataW.Trod enc P W base sp held t v d ps) : ∃ a : Vec (BitVec 64) n, v = .agg (cV U64 a).toArray := by
  obtain ⟨cs, rfl⟩ := okWide_array ht hv
  obtain ⟨fuel, hf⟩ := h
  obtain ⟨zs, h1, h2, h3⟩ := open_nums ht he hce hct hf
  refine ⟨⟨zs.map (BitVec.ofInt 64), by simpa using h2⟩, ?_⟩
  have h4 : cs.toList = zs.map (Value.int .u64) := h1
  congr 1
  apply Array.ext'
  rw [h4]
  show _ = List.map U64 (zs.map (BitVec.ofInt 64))
  rw [List.map_map]
  exact List.map_congr_left fun z hz => by have := Go.bounds_u64 (h3 z hz); exact u64_of _ this.1 (by omega)
theorem u8_val {n : Int} (h : (Lit.int .u8 n).wf = true) : Value.int .u8 n = U8 (BitVec.ofInt 8 n) := by have h := Go.bounds_u8 h; exact u8_of _ h.1 (by omega)
theorem u64_val {n : Int} (h : (Lit.int .u64 n).wf = true) : Value.int .u64 n = U64 (BitVec.ofInt 64 n) := by have h := Go.bounds_u64 h; exact u64_of _ h.1 (by omega)
end
end Go.Proofs.Ytapfkdcilfpbhaa
