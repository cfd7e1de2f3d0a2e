/- The law of rows' reading. -/
import Derived.Test.YtapfkdcilfpbhaaRpJ
import Derived.Test.YtapfkdcilfpbhaaRpM
import Derived.Test.YtapfkdcilfpbhaaRlXd
namespace Go.Proofs.Ytapfkdcilfpbhaa
open Go.RowKit
set_option linter.unusedVariables false
set_option linter.unusedSimpArgs false
theorem Decode_both (b : List B8) (hl : b.length ≤ 1000000) : (∃ e, e ≠ 0 ∧ rlp_Decode b = some ([], e) ∧ smithyref07_Decode b = some ([], e)) ∨ (∃ ns d, d ≤ 64 ∧ RIt true ns b d ∧ rlp_Decode b = some (ns, 0) ∧ smithyref07_Decode b = some (ns, 0)) := by
  have hs := sim b hl 18446744073709551616 0 b.length 0 [] (by omega) (Nat.le_refl _) (by omega) (by omega) (by omega) (by simp; omega)
  rw [List.drop_zero, Nat.sub_zero] at hs
  unfold rlp_Decode smithyref07_Decode
  simp only [Let_eq]
  rw [decide_eq_false (by omega), cond_false, cond_false]
  rcases hs with ⟨e, X, he, hr, hi⟩ | ⟨ns, nx, d, h1, h2, hd, hit, hr, hi⟩
  · have hr : smithyref07_read 18446744073709551616 b 0 (b.length : Int) 0 = some ([], 0, e) := hr
    have hi : rlp_reader_item 18446744073709551616 (b, []) (b.length : Int) 0 = some (e, X) := hi
    refine .inl ⟨e, he, ?_, ?_⟩
    · rw [hi, Option.bind_some]
      dsimp only
      rw [show ((e != 0) : Bool) = true from bne_iff_ne.2 he, cond_true]
    · rw [hr, Option.bind_some]
      dsimp only
      rw [show ((e != 0) : Bool) = true from bne_iff_ne.2 he, cond_true]
  · have hr : smithyref07_read 18446744073709551616 b 0 (b.length : Int) 0 = some (ns, (nx : Int), 0) := hr
    have hi : rlp_reader_item 18446744073709551616 (b, []) (b.length : Int) 0 = some (0, (b.drop nx, [] ++ ns)) := hi
    rw [hr, hi, Option.bind_some, Option.bind_some]
    dsimp only
    rw [show (((0 : Int) != 0) : Bool) = false from rfl, cond_false, cond_false, List.length_drop, List.nil_append]
    by_cases e : nx < b.length
    · refine .inl ⟨2, by decide, ?_, ?_⟩
      · rw [decide_eq_true (by omega), cond_true]
      · rw [decide_eq_true (by omega), cond_true]
    · have hnx : nx = b.length := by omega
      have hb : sg b 0 nx = b := by unfold sg; rw [List.drop_zero, Nat.sub_zero, hnx, List.take_length]
      rw [hb] at hit
      refine .inr ⟨ns, d, by omega, hit, ?_, ?_⟩
      · rw [decide_eq_false (by omega), cond_false]
      · rw [decide_eq_false (by omega), cond_false]
theorem decodes_true (b : List B8) : smithylaw07_RlpDecodes b = some true := by
  unfold smithylaw07_RlpDecodes
  simp only [Let_eq, rlp_fixed_, Option.bind_some, List.nil_append, str_same]
  by_cases h : b.length ≤ 4000
  · rw [decide_eq_false (show ¬ (4000 : Int) < (b.length : Int) by omega), cond_false, Chk_ok (by rw [List.length_nil]; omega)]
    rcases Decode_both b (by omega) with ⟨e, he, h1, h2⟩ | ⟨ns, d, hd, hit, h1, h2⟩
    · rw [h1, Option.bind_some, h2, Option.bind_some]
      dsimp only
      rw [Same_self [] (by simp), show ((e != e) : Bool) = false from bne_self_eq_false _, show ((e != 0) : Bool) = true from bne_iff_ne.2 he]
      rfl
    · have hnl := (hit.epos (by omega)).2
      rw [h1, Option.bind_some, h2, Option.bind_some]
      dsimp only
      rw [Same_self ns (by omega), Encode_good hit (by omega) (by omega), if_pos hd]
      simp only [Option.bind_some, str_same]
      rfl
  · rw [decide_eq_true (show (4000 : Int) < (b.length : Int) by omega), cond_true]
end Go.Proofs.Ytapfkdcilfpbhaa
