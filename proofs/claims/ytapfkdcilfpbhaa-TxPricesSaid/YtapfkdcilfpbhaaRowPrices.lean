/- TxPrices: for every input the law returns true, and what is handed in stays. -/
import Derived.Test.YtapfkdcilfpbhaaWvJ
import Derived.Test.YtapfkdcilfpbhaaXRd
namespace Go.Proofs.Ytapfkdcilfpbhaa
open Go.ChangeShapes Go.WideShapes Go.ChangeAt Go.RowKit
set_option linter.unusedVariables false
set_option linter.unusedSimpArgs false
def R33 : Rp ((Vec (BitVec 8) 20) × (Vec (BitVec 8) 20) × (Bool) × (BitVec 64) × (Vec (BitVec 64) 4) × (List (BitVec 8)) × (BitVec 64) × (Vec (BitVec 64) 4) × (Vec (BitVec 64) 4) × (List ((Vec (BitVec 8) 20) × (List (Vec (BitVec 64) 4))))) := ⟨57, fun h x cs => ∃ (A1 : Option Addr) (c2 : Nat), ∃ (A5 : Option Addr) (c6 : Nat), cs = cV U8 x.1 ++ (cV U8 x.2.1 ++ ([(.bool x.2.2.1 : Value)] ++ ([(U64 x.2.2.2.1 : Value)] ++ (cV U64 x.2.2.2.2.1 ++ ([(.slice A1 x.2.2.2.2.2.1.length c2 : Value)] ++ ([(U64 x.2.2.2.2.2.2.1 : Value)] ++ (cV U64 x.2.2.2.2.2.2.2.1 ++ (cV U64 x.2.2.2.2.2.2.2.2.1 ++ ([(.slice A5 x.2.2.2.2.2.2.2.2.2.length c6 : Value)]))))))))) ∧ SlH h U8 A1 x.2.2.2.2.2.1 ∧ x.2.2.2.2.2.1.length ≤ c2 ∧ SlR h R87 A5 x.2.2.2.2.2.2.2.2.2 ∧ x.2.2.2.2.2.2.2.2.2.length ≤ c6, fun s ⟨A1, c2, A5, c6, e, hs3, hc4, hs7, hc8⟩ => ⟨A1, c2, A5, c6, e, hs3.up s, hc4, hs7.up s, hc8⟩, fun ⟨A1, c2, A5, c6, e, _⟩ => by rw [e]; simp [cV_len], fun ⟨A1, c2, A5, c6, e, _⟩ => by rw [e]; exact (one_app (cV_one (fun _ => rfl) _) (one_app (cV_one (fun _ => rfl) _) (one_app one_one (one_app one_one (one_app (cV_one (fun _ => rfl) _) (one_app one_one (one_app one_one (one_app (cV_one (fun _ => rfl) _) (one_app (cV_one (fun _ => rfl) _) one_one)))))))))⟩
theorem cl33 : Try.prog.cellsOf 33 = 57 := by kernel_rfl
theorem cl30 : Try.prog.cellsOf 30 = 20 := by kernel_rfl
theorem cl4 : Try.prog.cellsOf 4 = 1 := by kernel_rfl
theorem cl22 : Try.prog.cellsOf 22 = 1 := by kernel_rfl
theorem cl24 : Try.prog.cellsOf 24 = 4 := by kernel_rfl
theorem cl25 : Try.prog.cellsOf 25 = 1 := by kernel_rfl
theorem cl31 : Try.prog.cellsOf 31 = 1 := by kernel_rfl
theorem cl87 : Try.prog.cellsOf 87 = 21 := by kernel_rfl
theorem cl85 : Try.prog.cellsOf 85 = 1 := by kernel_rfl
theorem rd87 {W : World} : Rd Try.prog W 87 R87 := fun h => by
  rename_i H enc fuel cs x
  obtain ⟨ys, n, _, _, hl, hyl, hf⟩ := DataW.trod_struct Try.underlying87 h
  rw [cl87] at hl
  obtain ⟨y0, hy0⟩ : ∃ y, ys[0]? = some y := ⟨_, List.getElem?_eq_getElem (by rw [hyl]; decide)⟩
  have h0 : DataW.trod enc Try.prog W 0 (fun _ => true) true n 30 ((cs.drop 0).take (Try.prog.cellsOf 30)) = some y0 := (hf 0 _ rfl).trans hy0
  rw [cl30] at h0
  obtain ⟨x0, r0⟩ := (rd_arr8 Try.underlying30 Try.underlying5 (by kernel_rfl) (by kernel_rfl)) h0
  obtain ⟨y1, hy1⟩ : ∃ y, ys[1]? = some y := ⟨_, List.getElem?_eq_getElem (by rw [hyl]; decide)⟩
  have h1 : DataW.trod enc Try.prog W 0 (fun _ => true) true n 85 ((cs.drop 20).take (Try.prog.cellsOf 85)) = some y1 := (hf 1 _ rfl).trans hy1
  rw [cl85] at h1
  obtain ⟨A1, x1, c1, r1, hs1, hc1, _⟩ := rd_rows (R := (arrR U64 (fun _ => rfl) 4)) Try.underlying85 (by kernel_rfl) (by decide) (rd_arr64 Try.underlying24 Try.underlying22 (by kernel_rfl) (by kernel_rfl)) h1
  exact ⟨(x0, x1), A1, c1, ((cut_more 0 20).trans (app_eq r0 ((cut_last (o := 20) (n := 1) hl).symm.trans r1))), hs1, hc1⟩
theorem rd33 {W : World} : Rd Try.prog W 33 R33 := fun h => by
  rename_i H enc fuel cs x
  obtain ⟨ys, n, _, _, hl, hyl, hf⟩ := DataW.trod_struct Try.underlying33 h
  rw [cl33] at hl
  obtain ⟨y0, hy0⟩ : ∃ y, ys[0]? = some y := ⟨_, List.getElem?_eq_getElem (by rw [hyl]; decide)⟩
  have h0 : DataW.trod enc Try.prog W 0 (fun _ => true) true n 30 ((cs.drop 0).take (Try.prog.cellsOf 30)) = some y0 := (hf 0 _ rfl).trans hy0
  rw [cl30] at h0
  obtain ⟨x0, r0⟩ := (rd_arr8 Try.underlying30 Try.underlying5 (by kernel_rfl) (by kernel_rfl)) h0
  obtain ⟨y1, hy1⟩ : ∃ y, ys[1]? = some y := ⟨_, List.getElem?_eq_getElem (by rw [hyl]; decide)⟩
  have h1 : DataW.trod enc Try.prog W 0 (fun _ => true) true n 30 ((cs.drop 20).take (Try.prog.cellsOf 30)) = some y1 := (hf 1 _ rfl).trans hy1
  rw [cl30] at h1
  obtain ⟨x1, r1⟩ := (rd_arr8 Try.underlying30 Try.underlying5 (by kernel_rfl) (by kernel_rfl)) h1
  obtain ⟨y2, hy2⟩ : ∃ y, ys[2]? = some y := ⟨_, List.getElem?_eq_getElem (by rw [hyl]; decide)⟩
  have h2 : DataW.trod enc Try.prog W 0 (fun _ => true) true n 4 ((cs.drop 40).take (Try.prog.cellsOf 4)) = some y2 := (hf 2 _ rfl).trans hy2
  rw [cl4] at h2
  obtain ⟨x2, r2⟩ := (rd_bool Try.underlying4) h2
  obtain ⟨y3, hy3⟩ : ∃ y, ys[3]? = some y := ⟨_, List.getElem?_eq_getElem (by rw [hyl]; decide)⟩
  have h3 : DataW.trod enc Try.prog W 0 (fun _ => true) true n 22 ((cs.drop 41).take (Try.prog.cellsOf 22)) = some y3 := (hf 3 _ rfl).trans hy3
  rw [cl22] at h3
  obtain ⟨x3, r3⟩ := (rd_u64 Try.underlying22) h3
  obtain ⟨y4, hy4⟩ : ∃ y, ys[4]? = some y := ⟨_, List.getElem?_eq_getElem (by rw [hyl]; decide)⟩
  have h4 : DataW.trod enc Try.prog W 0 (fun _ => true) true n 24 ((cs.drop 42).take (Try.prog.cellsOf 24)) = some y4 := (hf 4 _ rfl).trans hy4
  rw [cl24] at h4
  obtain ⟨x4, r4⟩ := (rd_arr64 Try.underlying24 Try.underlying22 (by kernel_rfl) (by kernel_rfl)) h4
  obtain ⟨y5, hy5⟩ : ∃ y, ys[5]? = some y := ⟨_, List.getElem?_eq_getElem (by rw [hyl]; decide)⟩
  have h5 : DataW.trod enc Try.prog W 0 (fun _ => true) true n 25 ((cs.drop 46).take (Try.prog.cellsOf 25)) = some y5 := (hf 5 _ rfl).trans hy5
  rw [cl25] at h5
  obtain ⟨A5, x5, c5, r5, hs5, hc5, _⟩ := rd_list (fun _ => rfl) Try.underlying25 (by kernel_rfl) (rd_u8 Try.underlying5) h5
  obtain ⟨y6, hy6⟩ : ∃ y, ys[6]? = some y := ⟨_, List.getElem?_eq_getElem (by rw [hyl]; decide)⟩
  have h6 : DataW.trod enc Try.prog W 0 (fun _ => true) true n 22 ((cs.drop 47).take (Try.prog.cellsOf 22)) = some y6 := (hf 6 _ rfl).trans hy6
  rw [cl22] at h6
  obtain ⟨x6, r6⟩ := (rd_u64 Try.underlying22) h6
  obtain ⟨y7, hy7⟩ : ∃ y, ys[7]? = some y := ⟨_, List.getElem?_eq_getElem (by rw [hyl]; decide)⟩
  have h7 : DataW.trod enc Try.prog W 0 (fun _ => true) true n 24 ((cs.drop 48).take (Try.prog.cellsOf 24)) = some y7 := (hf 7 _ rfl).trans hy7
  rw [cl24] at h7
  obtain ⟨x7, r7⟩ := (rd_arr64 Try.underlying24 Try.underlying22 (by kernel_rfl) (by kernel_rfl)) h7
  obtain ⟨y8, hy8⟩ : ∃ y, ys[8]? = some y := ⟨_, List.getElem?_eq_getElem (by rw [hyl]; decide)⟩
  have h8 : DataW.trod enc Try.prog W 0 (fun _ => true) true n 24 ((cs.drop 52).take (Try.prog.cellsOf 24)) = some y8 := (hf 8 _ rfl).trans hy8
  rw [cl24] at h8
  obtain ⟨x8, r8⟩ := (rd_arr64 Try.underlying24 Try.underlying22 (by kernel_rfl) (by kernel_rfl)) h8
  obtain ⟨y9, hy9⟩ : ∃ y, ys[9]? = some y := ⟨_, List.getElem?_eq_getElem (by rw [hyl]; decide)⟩
  have h9 : DataW.trod enc Try.prog W 0 (fun _ => true) true n 31 ((cs.drop 56).take (Try.prog.cellsOf 31)) = some y9 := (hf 9 _ rfl).trans hy9
  rw [cl31] at h9
  obtain ⟨A9, x9, c9, r9, hs9, hc9, _⟩ := rd_rows (R := R87) Try.underlying31 (by kernel_rfl) (by decide) (rd87) h9
  exact ⟨(x0, x1, x2, x3, x4, x5, x6, x7, x8, x9), A5, c5, A9, c9, ((cut_more 0 20).trans (app_eq r0 ((cut_more 20 20).trans (app_eq r1 ((cut_more 40 1).trans (app_eq r2 ((cut_more 41 1).trans (app_eq r3 ((cut_more 42 4).trans (app_eq r4 ((cut_more 46 1).trans (app_eq r5 ((cut_more 47 1).trans (app_eq r6 ((cut_more 48 4).trans (app_eq r7 ((cut_more 52 4).trans (app_eq r8 ((cut_last (o := 56) (n := 1) hl).symm.trans r9))))))))))))))))))), hs5, hc5, hs9, hc9⟩
end Go.Proofs.Ytapfkdcilfpbhaa
namespace Go.Proofs.Ytapfkdcilfpbhaa.txPrices
open Go.ChangeShapes Go.WideShapes Go.ChangeAt Go.RowKit
set_option linter.unusedVariables false
set_option linter.unusedSimpArgs false
set_option maxRecDepth 100000 in
theorem lifted (os : Os) (started : os.Started) (H : Type) (enc : TypeId × Value → H) :
    ReturnsInHanded {} Try.checked os 4 .any (Rows.txPricesSpec.pre6 enc Try.prog Try.f4 Rows.txPricesRow.domain false) (Rows.txPricesSpec.post enc Try.prog Try.f4 false true false false) := by
  refine returnsInHanded_of_change (C := Try.checked) own_ started (by kernel_rfl) Try.func4
    (ChangeSpec.witness6 (enc := enc) (C := Try.checked) false ⟨#[], #[ .agg #[.int .u8 0, .int .u8 0, .int .u8 0, .int .u8 0, .int .u8 0, .int .u8 0, .int .u8 0, .int .u8 0, .int .u8 0, .int .u8 0, .int .u8 0, .int .u8 0, .int .u8 0, .int .u8 0, .int .u8 0, .int .u8 0, .int .u8 0, .int .u8 0, .int .u8 0, .int .u8 0, .int .u8 0, .int .u8 0, .int .u8 0, .int .u8 0, .int .u8 0, .int .u8 0, .int .u8 0, .int .u8 0, .int .u8 0, .int .u8 0, .int .u8 0, .int .u8 0, .int .u8 0, .int .u8 0, .int .u8 0, .int .u8 0, .int .u8 0, .int .u8 0, .int .u8 0, .int .u8 0, .bool false, .int .u64 0, .int .u64 0, .int .u64 0, .int .u64 0, .int .u64 0, .slice none 0 0, .int .u64 0, .int .u64 0, .int .u64 0, .int .u64 0, .int .u64 0, .int .u64 0, .int .u64 0, .int .u64 0, .int .u64 0, .slice none 0 0], .agg #[.int .u64 0, .int .u64 0, .int .u64 0, .int .u64 0]], []⟩ 8 (by kernel_rfl) (by kernel_rfl) (by kernel_rfl) (by kernel_rfl)) ?_
  intro W base args ds gs before hval0 hW _ _
  have hval : ∀ (j : Nat) t v, Try.f4.params[j]? = some t → args[j]? = some v → Value.okWide Try.prog W .any base t v := hval0
  have hW' := hW
  obtain ⟨p, q, hA0, hV, rfl, hfz, hnd⟩ := hW
  have hA : DataW.TrodAll enc Try.prog W 0 (fun _ => true) true Try.f4.params.toList args.toList ds p := hA0
  rw [Try.params4] at hA hval
  obtain ⟨v0, vs0, d0, ds0, p0, q0, hargs, rfl, rfl, h0, r0⟩ := trodAll_cons hA
  obtain ⟨v1, vs1, d1, ds1, p1, q1, rfl, rfl, rfl, h1, r1⟩ := trodAll_cons r0
  obtain ⟨rfl, rfl, rfl⟩ := trodAll_nil r1
  obtain rfl : args = #[v0, v1] := by cases args; simp_all
  obtain ⟨rfl, rfl⟩ := trodVars_none hV
  have k0 := h0
  have lt0 : ∀ x ∈ p0, x.block < W.heap.size := by obtain ⟨m, hm⟩ := k0; exact DataW.trod_lt m _ _ _ hm
  have k1 := h1
  have lt1 : ∀ x ∈ p1, x.block < W.heap.size := by obtain ⟨m, hm⟩ := k1; exact DataW.trod_lt m _ _ _ hm
  obtain ⟨q0s, rfl, _⟩ := okWide_struct Try.underlying33 (hval 0 33 v0 rfl rfl)
  obtain ⟨b0, w0⟩ : ∃ x, (R33).rep (snap W) x q0s.toList := by
    obtain ⟨fuel, hf⟩ := h0
    exact rd33 hf
  obtain ⟨A0_1, c0_2, A0_5, c0_6, e0, hs0_3, hc0_4, hs0_7, hc0_8⟩ := w0
  obtain rfl : q0s = (cV U8 b0.1 ++ (cV U8 b0.2.1 ++ ([(.bool b0.2.2.1 : Value)] ++ ([(U64 b0.2.2.2.1 : Value)] ++ (cV U64 b0.2.2.2.2.1 ++ ([(.slice A0_1 b0.2.2.2.2.2.1.length c0_2 : Value)] ++ ([(U64 b0.2.2.2.2.2.2.1 : Value)] ++ (cV U64 b0.2.2.2.2.2.2.2.1 ++ (cV U64 b0.2.2.2.2.2.2.2.2.1 ++ ([(.slice A0_5 b0.2.2.2.2.2.2.2.2.2.length c0_6 : Value)])))))))))).toArray := Array.ext' e0
  obtain ⟨b1, rfl⟩ := open_arr64 Try.underlying24 Try.underlying22 (by kernel_rfl) (by kernel_rfl) (hval 1 24 v1 rfl rfl) h1
  clear hA0 hval0
  refine (smithylaw19_TxPrices.calls b0 b1 A0_1 c0_2 A0_5 c0_6 _ (prices_true b0 b1) W hs0_3.ofSnap hc0_4 hs0_7 hc0_8).mono fun e W' ⟨he, bel⟩ => ?_
  subst he
  exact ⟨_, rfl, _, _, _, [], _, [], hW', trodAll_mk1 (shut_bool Try.underlying4 _), (trodAll_cons_mk (Below.trod laidOut_ (by kernel_rfl) (of_decide_eq_true (by kernel_rfl)) k0 bel lt0) (trodAll_cons_mk (Below.trod laidOut_ (by kernel_rfl) (of_decide_eq_true (by kernel_rfl)) k1 bel lt1) trodAll_mk0)), rfl, bel.frame _, fun h => by cases h⟩
theorem over : Rows.TxPricesSaid :=
  OpenClaim.holds_of_wide 4 Try.f4 rfl rfl rfl rfl rfl rfl rfl ⟨rfl, rfl, rfl, rfl, rfl⟩ rfl rfl rfl rfl rfl (by kernel_rfl) Try.func4 (by kernel_rfl)
    (of_decide_eq_true (by kernel_rfl)) (by unfold Func.isWrapper; first | (rw [if_pos (by decide +kernel)]; kernel_rfl) | (rw [if_neg (by decide +kernel)]; exact ⟨rfl, rfl⟩))
    (fun os started H enc _ => lifted os started H enc)
#print axioms over
end Go.Proofs.Ytapfkdcilfpbhaa.txPrices
