/- The law of rows' writing. -/
import Derived.Test.YtapfkdcilfpbhaaRpJ
import Derived.Test.YtapfkdcilfpbhaaRlXe
namespace Go.Proofs.Ytapfkdcilfpbhaa
open Go.RowKit
set_option linter.unusedVariables false
set_option linter.unusedSimpArgs false
theorem encodes_true (l : List Node) : smithylaw07_RlpEncodes l = some true := by
  obtain ⟨r, hr, hg⟩ := Great_val l
  unfold smithylaw07_RlpEncodes
  rw [hr, Option.bind_some]
  cases r with
  | true => rw [cond_true, rlp_fixed_]; rfl
  | false =>
    have hg := hg rfl
    rw [gs_all] at hg
    have hs := gs_size l hg
    rw [cond_false]
    by_cases h : Good l
    · obtain ⟨e, d, hi⟩ := (good_iff l).1 h
      have he := hi.size (by omega)
      rw [Encode_good hi (by omega) (by omega), Option.bind_some, ref_Encode_good hi (by omega) (by omega), Option.bind_some, rlp_fixed_, Option.bind_some]
      by_cases hd : d ≤ 64
      · rw [if_pos hd]
        simp only [Let_eq, str_same]
        rw [Decode_back hi (by omega) hd]
        simp only [Option.bind_some]
        rw [Same_self l (by omega)]; rfl
      · rw [if_neg hd]
        simp only [Let_eq, str_same]
        rfl
    · rw [Encode_bad l (by omega) h, Option.bind_some, ref_Encode_bad l (by omega) h, Option.bind_some, rlp_fixed_, Option.bind_some]
      simp only [Let_eq, str_same]
      rfl
end Go.Proofs.Ytapfkdcilfpbhaa
