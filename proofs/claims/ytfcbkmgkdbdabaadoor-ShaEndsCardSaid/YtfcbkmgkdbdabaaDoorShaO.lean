/- ShaSums: for every slice of bytes the law returns true, and what is handed in stays; the row, and the card tied to the program's text. -/
import Derived.Test.YtfcbkmgkdbdabaaDoorShaN
import Derived.Test.YtfcbkmgkdbdabaaDoorShaL
import Derived.Test.YtfcbkmgkdbdabaaDoorTie
import Derived.Test.YtfcbkmgkdbdabaaDoorCards
import Derived.SevenTiedAt
namespace Go.Proofs.YtfcbkmgkdbdabaaDoor.shaSums
open Go.ChangeShapes Go.WideShapes Go.ChangeAt Go.RowKit

theorem laidWorld_met (os : Os) (args : Array Value) : laidMetH Tryd.prog laidL ((laidWorld os).forCall (fun _ _ => 0) ⟨#[], args, []⟩).memory :=
  show laidMet Tryd.prog laidL _ from laidMet_of_run' 8 (by kernel_rfl) (by kernel_rfl)

theorem open_bytes {H : Type} {enc : TypeId × Value → H} {W : World} {a0 : Option Addr} {len cap fuel : Nat} {x : DataW H × List MemPlace}
    (hf : DataW.trod enc Tryd.prog W 0 (fun _ => true) true fuel 22 [.slice a0 len cap] = some x) :
    ∃ bs : List (BitVec 8), bs.length = len ∧ (a0 = none → cap = 0) ∧ len ≤ cap ∧ Sl U8 W W.heap.size a0 bs := by
  rcases open_ints Tryd.underlying22 Tryd.underlying5 (by kernel_rfl) hf with ⟨hcs, _⟩ | ⟨a, l, c, zs, hcs, _, hl, hm, hz, hx', hcell, hwz⟩
  · simp at hcs
    obtain ⟨rfl, rfl, rfl⟩ := hcs
    exact ⟨[], rfl, fun _ => rfl, Nat.le_refl _, fun h => absurd h (by simp)⟩
  · simp at hcs
    obtain ⟨rfl, rfl, rfl⟩ := hcs
    simp only [if_true] at hz
    have hcell' : ∀ i, i < zs.length → W.cell? (a.add i) = some (U8 (BitVec.ofInt 8 (zs.getD i 0))) := fun i hi => by
      rw [hcell i hi]
      have hw := hwz (zs.getD i 0) (by simp only [List.getD_eq_getElem?_getD, List.getElem?_eq_getElem hi, Option.getD_some]; exact List.getElem_mem hi)
      have hw := Go.bounds_u8 hw
      rw [u8_of _ hw.1 (by omega)]
    refine ⟨(zs.take len).map (BitVec.ofInt 8), by simp; omega, (fun h => by cases h), hl, fun h0 => ?_⟩
    have hlen : 0 < len := by simp at h0; omega
    obtain ⟨b, off, spot⟩ := a
    have hc0 := hcell' 0 (by omega)
    have hspot : spot = none := by simpa [Addr.add] using World.cell?_spot hc0
    subst hspot
    refine ⟨b, off, rfl, block_lt_of_cell hc0, fun i y hy => ?_⟩
    have hi : i < len := by
      have := (List.getElem?_eq_some_iff.1 hy).1
      simp at this; omega
    have h1 := hcell' i (by omega)
    rw [Addr.add_lit] at h1
    rw [h1]
    rw [List.getElem?_map, List.getElem?_take_of_lt hi, List.getElem?_eq_getElem (by omega), Option.map_some] at hy
    have := Option.some.inj hy
    rw [← this]
    simp [List.getD_eq_getElem?_getD, List.getElem?_eq_getElem (show i < zs.length by omega)]

theorem hid_ : Hid ((∀ w, 0 < w.heap.size → Cells U32 w 0 0 kL → Calls Tryd.prog 5 #[] w fun e w' => e = .returned (.bool true) ∧ Below w.heap.size w w') ∧ (∀ w, Calls Tryd.prog 6 #[] w fun e w' => e = .returned (.tuple #[.agg (row U32 kL), .agg (row U32 hL)]) ∧ Below w.heap.size w w') ∧ (∀ bs, outS (absS kL hL (allB bs) ((allB bs).length / 64)) 32 = shaF kL bs) ∧ kL.length = 64 ∧ hL.length = 8) :=
  show _ ∧ _ from ⟨fixed, ref_constants, hash_eq, kL_len, hL_len⟩

set_option maxRecDepth 100000 in
theorem lifted (os : Os) (started : os.Started) (H : Type) (enc : TypeId × Value → H) :
    ReturnsInHanded {} Tryd.checked os 3 .any (fun w args => (Rows.shaSumsSpec.pre enc Tryd.prog Tryd.f3 Rows.shaSumsRow.domain false w args ∧ laidMetH Tryd.prog laidL w) ∧ sizedMet enc Tryd.prog Tryd.f3 (OpenSpec.ofChange Rows.shaSumsSpec) false w args)
      (Rows.shaSumsSpec.post enc Tryd.prog Tryd.f3 false true false false) := by
  refine returnsInHanded_of_change_and (C := Tryd.checked) (X := fun w _ => laidMetH Tryd.prog laidL w) (fun _ _ _ hh h => h.of_heap hh) own_ started (by kernel_rfl) Tryd.func3
    (ChangeSpec.witness_at (enc := enc) (C := Tryd.checked) (os := os) (X := fun w _ => laidMetH Tryd.prog laidL w) false (laidWorld os) #[.slice none 0 0] 8 rfl (by kernel_rfl) (by kernel_rfl) (by kernel_rfl) (by kernel_rfl) (by kernel_rfl) (laidWorld_met os _)) ?_
  intro W base args ds gs before hval0 hW _ _ hLd _
  have hval : ∀ (j : Nat) t v, Tryd.f3.params[j]? = some t → args[j]? = some v → Value.okWide Tryd.prog W .any base t v := hval0
  have hW' := hW
  obtain ⟨p, q, hA0, hV, rfl, hfz, hnd⟩ := hW
  have hA : DataW.TrodAll enc Tryd.prog W 0 (fun _ => true) true Tryd.f3.params.toList args.toList ds p := hA0
  rw [Tryd.params3] at hA hval
  obtain ⟨v0, vs0, d0, ds0, p0, q0, hargs, rfl, rfl, h0, r0⟩ := trodAll_cons hA
  obtain ⟨rfl, rfl, rfl⟩ := trodAll_nil r0
  obtain rfl : args = #[v0] := by cases args; simp_all
  obtain ⟨rfl, rfl⟩ := trodVars_none hV
  obtain ⟨a0, len0, cap0, rfl⟩ := okWide_slice Tryd.underlying22 (hval 0 22 v0 rfl rfl)
  have k0 := h0
  have lt0 : ∀ x ∈ p0, x.block < W.heap.size := by obtain ⟨m, hm⟩ := k0; exact DataW.trod_lt m _ _ _ hm
  obtain ⟨bs, rfl, hn, hc, hs⟩ : ∃ bs : List (BitVec 8), bs.length = len0 ∧ (a0 = none → cap0 = 0) ∧ len0 ≤ cap0 ∧ Sl U8 W W.heap.size a0 bs := by
    obtain ⟨fuel, hf⟩ := h0
    exact open_bytes hf
  clear hA0 hval0
  have hT := cells_of_laid hLd
  have hk := hid_.out
  refine (walk_sums kL hL bs a0 cap0 W (show _ ∧ _ from ⟨hk.1, hk.2.1, hk.2.2.1 bs, hk.2.2.2⟩) hn hc hs (heap_pos hT kL_len) hT).mono fun e W' ⟨he, bel⟩ => ?_
  subst he
  exact ⟨_, rfl, _, _, _, [], _, [], hW', trodAll_mk1 (shut_bool Tryd.underlying4 _), (trodAll_cons_mk (Below.trod laidOut_ (by kernel_rfl) (of_decide_eq_true (by kernel_rfl)) k0 bel lt0) trodAll_mk0), rfl, bel.frame _, fun h => by cases h⟩

theorem over : Rows.ShaSumsSaid :=
  OpenClaim.holds_of_wide 3 Tryd.f3 rfl rfl rfl rfl rfl rfl rfl ⟨rfl, rfl, rfl, rfl, rfl⟩ rfl rfl rfl rfl rfl (by kernel_rfl) Tryd.func3 (by kernel_rfl)
    (of_decide_eq_true (by kernel_rfl)) (by unfold Func.isWrapper; first | (rw [if_pos (by decide +kernel)]; kernel_rfl) | (rw [if_neg (by decide +kernel)]; exact ⟨rfl, rfl⟩))
    (fun os started H enc _ => lifted os started H enc)

theorem proved : Rows.ShaSumsCardSaid :=
  Claim7.holds_tied_plain_at .later [] [.data] true (true, "068f0c1f66b410da25dafe7cb2f49dc17b3f775628ef5b69d4551734b192ffd8") false
    over (fun _ h => by cases h) (by kernel_rfl) (fun _ h => by cases h) shaSums_row_tie rfl ⟨rfl, rfl⟩ (by kernel_rfl) rfl
    (fun f fn hf hfn => by
      obtain rfl : f = 3 := Option.some.inj ((show Tryd.prog.funcNamed "smithy/smithylaw06.ShaSums" = some 3 by kernel_rfl).symm.trans hf) |>.symm
      obtain rfl : fn = Tryd.f3 := (Option.some.inj (Tryd.func3.symm.trans hfn)).symm
      exact ⟨by kernel_rfl, fun j t ht => by
        rw [Tryd.params3] at ht
        have h3 : t = 22 := by
          rcases j with _ | j
          · simpa using ht.symm
          · simp at ht
        subst h3
        exact (show Tryd.prog.wantsStandIn 22 = false by kernel_rfl)⟩)
    (by kernel_rfl)
#print axioms proved
end Go.Proofs.YtfcbkmgkdbdabaaDoor.shaSums
