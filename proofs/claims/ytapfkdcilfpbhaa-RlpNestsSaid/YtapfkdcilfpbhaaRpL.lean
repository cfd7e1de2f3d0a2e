/- The law of nests. -/
import Derived.Test.YtapfkdcilfpbhaaRpJ
import Derived.Test.YtapfkdcilfpbhaaRlXs
namespace Go.Proofs.Ytapfkdcilfpbhaa
open Go.RowKit
set_option linter.unusedVariables false
set_option linter.unusedSimpArgs false
def nst (b : List B8) : Nat → List Node
  | 0 => [(false, b, 0)]
  | k + 1 => (true, [], ((k + 1 : Nat) : Int)) :: nst b k
theorem nst_len (b : List B8) : ∀ k, (nst b k).length = k + 1
  | 0 => rfl
  | k + 1 => by unfold nst; rw [List.length_cons, nst_len b k]
theorem nst_it (b : List B8) (hb : b.length ≤ 300) : ∀ k, k ≤ 100 → ∃ e, RIt true (nst b k) e k ∧ e.length ≤ 300 + 9 * (k + 1)
  | 0, _ => by
    by_cases h : b.length = 1 ∧ (lget b 0).toNat < 128
    · exact ⟨_, .one b h.1 h.2, by omega⟩
    · have := headV_len b.length 0 (by omega)
      exact ⟨_, .bytes b h, by rw [List.length_append]; omega⟩
  | k + 1, hk => by
    obtain ⟨e, h, he⟩ := nst_it b hb k (by omega)
    have h2 := RIt.cons h .nil
    rw [List.append_nil, List.append_nil, show max k 0 = k by omega] at h2
    have h3 := RIt.list h2
    rw [nst_len] at h3
    have := headV_len e.length 64 (by omega)
    exact ⟨_, h3, by rw [List.length_append]; omega⟩
theorem nst_range (b : List B8) : ∀ k, ((List.range k).map fun j => ((true, [], ((k - j : Nat) : Int)) : Node)) ++ [(false, b, 0)] = nst b k
  | 0 => rfl
  | k + 1 => by
    rw [List.range_succ_eq_map, List.map_cons, List.map_map, List.cons_append]
    unfold nst
    rw [← nst_range b k]
    congr 2
    refine List.map_congr_left fun j _ => ?_
    show ((true, [], ((k + 1 - (j + 1) : Nat) : Int)) : Node) = (true, [], ((k - j : Nat) : Int))
    rw [show k + 1 - (j + 1) = k - j by omega]
theorem nests_true (n : B8) (b : List B8) : smithylaw07_RlpNests n b = some true := by
  unfold smithylaw07_RlpNests
  simp only [Let_eq]
  by_cases hb : b.length ≤ 300
  · have hm : Int.tmod (n.toNat : Int) 70 = ((n.toNat % 70 : Nat) : Int) := (Int.ofNat_tmod n.toNat 70).symm
    rw [decide_eq_false (by omega), cond_false, hm]
    obtain ⟨k, hk⟩ : ∃ k, n.toNat % 70 = k := ⟨_, rfl⟩
    have hk70 : k < 70 := by omega
    rw [hk]
    have hw := wlx_for (b := fun s => smithylaw07_RlpNests.b1 (k : Int) s.1 s.2) (ρ := Bool) (fun i => ((List.range i).map fun j => ((true, [], ((k - j : Nat) : Int)) : Node), (i : Int))) (n := k) (s' := ((List.range k).map fun j => ((true, [], ((k - j : Nat) : Int)) : Node), (k : Int))) (fun i hi => by
      have h1 : decide ((i : Int) < (k : Int)) = true := decide_eq_true (by omega)
      have h2 : wi ((i : Int) + 1) = ((i + 1 : Nat) : Int) := by rw [wi_id (by omega)]; omega
      have h3 : wi ((k : Int) - (i : Int)) = ((k - i : Nat) : Int) := by rw [wi_id (by omega)]; omega
      simp only [smithylaw07_RlpNests.b1, Let_eq, h1, cond_true, h2, h3]
      rw [Chk_ok (by simp; omega), List.range_succ, List.map_append]; rfl) (by
      simp only [smithylaw07_RlpNests.b1, Let_eq, decide_eq_false (show ¬ (k : Int) < (k : Int) by omega), cond_false]) (by omega)
    rw [show (([], 0) : List Node × Int) = (fun i : Nat => ((List.range i).map fun j => ((true, [], ((k - j : Nat) : Int)) : Node), (i : Int))) 0 from rfl, hw, Option.bind_some, Sum.elim_inl]
    dsimp only
    rw [Chk_ok (by simp; omega), nst_range]
    obtain ⟨e, hi, he⟩ := nst_it b hb k (by omega)
    have hl := nst_len b k
    rw [Encode_good hi (by omega) (by omega), Option.bind_some, rlp_fixed_]
    by_cases hd : k ≤ 64
    · rw [if_pos hd, decide_eq_false (by omega), cond_false, Decode_back hi (by omega) hd]
      simp only [Option.bind_some, cond_true]
      rw [Same_self _ (by omega)]; rfl
    · rw [if_neg hd, decide_eq_true (by omega)]; rfl
  · rw [decide_eq_true (by omega), cond_true, rlp_fixed_]; rfl
end Go.Proofs.Ytapfkdcilfpbhaa
