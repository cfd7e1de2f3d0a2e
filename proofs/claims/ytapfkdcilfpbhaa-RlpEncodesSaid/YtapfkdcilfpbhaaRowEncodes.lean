/- RlpEncodes: for every input the law returns true, and what is handed in stays. -/
import Derived.Test.YtapfkdcilfpbhaaRpK
import Derived.Test.YtapfkdcilfpbhaaXRd
namespace Go.Proofs.Ytapfkdcilfpbhaa
open Go.ChangeShapes Go.WideShapes Go.ChangeAt Go.RowKit
set_option linter.unusedVariables false
set_option linter.unusedSimpArgs false
theorem cl60 : Try.prog.cellsOf 60 = 3 := by kernel_rfl
theorem cl4 : Try.prog.cellsOf 4 = 1 := by kernel_rfl
theorem cl25 : Try.prog.cellsOf 25 = 1 := by kernel_rfl
theorem cl3 : Try.prog.cellsOf 3 = 1 := by kernel_rfl
theorem rd60 {W : World} : Rd Try.prog W 60 R60 := fun h => by
  rename_i H enc fuel cs x
  obtain ⟨ys, n, _, _, hl, hyl, hf⟩ := DataW.trod_struct Try.underlying60 h
  rw [cl60] at hl
  obtain ⟨y0, hy0⟩ : ∃ y, ys[0]? = some y := ⟨_, List.getElem?_eq_getElem (by rw [hyl]; decide)⟩
  have h0 : DataW.trod enc Try.prog W 0 (fun _ => true) true n 4 ((cs.drop 0).take (Try.prog.cellsOf 4)) = some y0 := (hf 0 _ rfl).trans hy0
  rw [cl4] at h0
  obtain ⟨x0, r0⟩ := (rd_bool Try.underlying4) h0
  obtain ⟨y1, hy1⟩ : ∃ y, ys[1]? = some y := ⟨_, List.getElem?_eq_getElem (by rw [hyl]; decide)⟩
  have h1 : DataW.trod enc Try.prog W 0 (fun _ => true) true n 25 ((cs.drop 1).take (Try.prog.cellsOf 25)) = some y1 := (hf 1 _ rfl).trans hy1
  rw [cl25] at h1
  obtain ⟨A1, x1, c1, r1, hs1, hc1, _⟩ := rd_list (fun _ => rfl) Try.underlying25 (by kernel_rfl) (rd_u8 Try.underlying5) h1
  obtain ⟨y2, hy2⟩ : ∃ y, ys[2]? = some y := ⟨_, List.getElem?_eq_getElem (by rw [hyl]; decide)⟩
  have h2 : DataW.trod enc Try.prog W 0 (fun _ => true) true n 3 ((cs.drop 2).take (Try.prog.cellsOf 3)) = some y2 := (hf 2 _ rfl).trans hy2
  rw [cl3] at h2
  obtain ⟨x2, r2, _⟩ := (rd_int Try.underlying3) h2
  exact ⟨(x0, x1, x2), A1, c1, ((cut_more 0 1).trans (app_eq r0 ((cut_more 1 1).trans (app_eq r1 ((cut_last (o := 2) (n := 1) hl).symm.trans r2))))), hs1, hc1⟩
end Go.Proofs.Ytapfkdcilfpbhaa
namespace Go.Proofs.Ytapfkdcilfpbhaa.rlpEncodes
open Go.ChangeShapes Go.WideShapes Go.ChangeAt Go.RowKit
set_option linter.unusedVariables false
set_option linter.unusedSimpArgs false
set_option maxRecDepth 100000 in
theorem lifted (os : Os) (started : os.Started) (H : Type) (enc : TypeId × Value → H) :
    ReturnsInHanded {} Try.checked os 5 .any (Rows.rlpEncodesSpec.pre6 enc Try.prog Try.f5 Rows.rlpEncodesRow.domain false) (Rows.rlpEncodesSpec.post enc Try.prog Try.f5 false true false false) := by
  refine returnsInHanded_of_change (C := Try.checked) own_ started (by kernel_rfl) Try.func5
    (ChangeSpec.witness6 (enc := enc) (C := Try.checked) false ⟨#[], #[.slice none 0 0], []⟩ 8 (by kernel_rfl) (by kernel_rfl) (by kernel_rfl) (by kernel_rfl)) ?_
  intro W base args ds gs before hval0 hW _ _
  have hval : ∀ (j : Nat) t v, Try.f5.params[j]? = some t → args[j]? = some v → Value.okWide Try.prog W .any base t v := hval0
  have hW' := hW
  obtain ⟨p, q, hA0, hV, rfl, hfz, hnd⟩ := hW
  have hA : DataW.TrodAll enc Try.prog W 0 (fun _ => true) true Try.f5.params.toList args.toList ds p := hA0
  rw [Try.params5] at hA hval
  obtain ⟨v0, vs0, d0, ds0, p0, q0, hargs, rfl, rfl, h0, r0⟩ := trodAll_cons hA
  obtain ⟨rfl, rfl, rfl⟩ := trodAll_nil r0
  obtain rfl : args = #[v0] := by cases args; simp_all
  obtain ⟨rfl, rfl⟩ := trodVars_none hV
  have k0 := h0
  have lt0 : ∀ x ∈ p0, x.block < W.heap.size := by obtain ⟨m, hm⟩ := k0; exact DataW.trod_lt m _ _ _ hm
  obtain ⟨s0, l0, c0, rfl⟩ := okWide_slice Try.underlying46 (hval 0 46 v0 rfl rfl)
  obtain ⟨b0, rfl, hs0, hc0⟩ : ∃ bs : List ((Bool) × (List (BitVec 8)) × (Int)), bs.length = l0 ∧ SlR (snap W) R60 s0 bs ∧ bs.length ≤ c0 := by
    obtain ⟨fuel, hf⟩ := h0
    obtain ⟨A, xs, c, e, h1, h2, _⟩ := rd_rows (R := R60) Try.underlying46 (by kernel_rfl) (by decide) (rd60) hf
    have e1 := (List.cons.inj e).1
    injection e1 with e1 e2 e3
    subst e1 e3
    exact ⟨xs, e2.symm, h1, h2⟩
  clear hA0 hval0
  refine (smithylaw07_RlpEncodes.calls b0 s0 c0 _ (encodes_true b0) W hs0 hc0).mono fun e W' ⟨he, bel⟩ => ?_
  subst he
  exact ⟨_, rfl, _, _, _, [], _, [], hW', trodAll_mk1 (shut_bool Try.underlying4 _), (trodAll_cons_mk (Below.trod laidOut_ (by kernel_rfl) (of_decide_eq_true (by kernel_rfl)) k0 bel lt0) trodAll_mk0), rfl, bel.frame _, fun h => by cases h⟩
theorem over : Rows.RlpEncodesSaid :=
  OpenClaim.holds_of_wide 5 Try.f5 rfl rfl rfl rfl rfl rfl rfl ⟨rfl, rfl, rfl, rfl, rfl⟩ rfl rfl rfl rfl rfl (by kernel_rfl) Try.func5 (by kernel_rfl)
    (of_decide_eq_true (by kernel_rfl)) (by unfold Func.isWrapper; first | (rw [if_pos (by decide +kernel)]; kernel_rfl) | (rw [if_neg (by decide +kernel)]; exact ⟨rfl, rfl⟩))
    (fun os started H enc _ => lifted os started H enc)
#print axioms over
end Go.Proofs.Ytapfkdcilfpbhaa.rlpEncodes
