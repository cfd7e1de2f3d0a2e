/- What a transaction pays a gas. -/
import Derived.Test.YtapfkdcilfpbhaaWvH
namespace Go.Proofs.Ytapfkdcilfpbhaa
open Go.RowKit
set_option linter.unusedVariables false
set_option linter.unusedSimpArgs false
def digV (a : Word4) : Vec Int 32 := ⟨(List.range 32).map (digF a), by simp⟩
theorem digV_get (a : Word4) {i : Nat} (hi : i < 32) : (digV a).get i = digF a i := Vec.get_map _ _ hi
set_option maxRecDepth 100000 in
theorem ref1_Of_list (a : Word4) : smithyref01_Of a = some ⟨(List.range 32).map fun i => IntKind.i64.wrap (((a.get (i / 8) >>> (8 * (i % 8))) % 256#64).toNat : Int), by simp⟩ := by kernel_rfl
theorem ref1_Of_eq (a : Word4) : smithyref01_Of a = some (digV a) := by
  rw [ref1_Of_list]
  refine congrArg some (Vec.ext ?_)
  show List.map _ _ = List.map _ _
  refine List.map_congr_left fun i _ => ?_
  unfold digF
  have h : ((a.get (i / 8) >>> (8 * (i % 8))) % 256#64).toNat = (a.get (i / 8)).toNat / 2 ^ (8 * (i % 8)) % 256 := by
    rw [BitVec.toNat_umod, BitVec.toNat_ushiftRight, Nat.shiftRight_eq_div_pow]; rfl
  rw [h]
  exact IntWalk.i64_in _ (by omega)
theorem cmp_loop (a b : Word4) : ∀ n, n ≤ 32 → ∃ o, wlk (fun s => smithyref01_Compare.b1 (digV a) (digV b) s) (n + 1) ((n : Int) - 1) = some o ∧ Sum.elim (fun (_ : Int) => some 0) (fun r => some r) o = some (if dsum (digF a) n = dsum (digF b) n then 0 else if dsum (digF a) n < dsum (digF b) n then -1 else 1)
  | 0, _ => ⟨.inl (((0 : Nat) : Int) - 1), wlk_brk (by simp only [smithyref01_Compare.b1, Let_eq]; rfl), by simp [dsum]⟩
  | n + 1, hn => by
    have h1 : (((n + 1 : Nat) : Int) - 1) = ((n : Nat) : Int) := by omega
    have h2 : wi ((n : Int) - 1) = (n : Int) - 1 := wi_id (by omega)
    have hs : smithyref01_Compare.b1 (digV a) (digV b) (n : Int) = bif decide (digF a n < digF b n) then some (.ret (-1)) else bif decide (digF b n < digF a n) then some (.ret 1) else some (.next ((n : Int) - 1)) := by
      simp only [smithyref01_Compare.b1, Let_eq, decide_eq_true (show (0 : Int) ≤ (n : Int) by omega), cond_true, Chk_ok (int_idx (show n < 32 by omega)), Int.toNat_natCast, digV_get _ (show n < 32 by omega), h2]
    have hb1 := dsum_bounds (digF_bounds a) n
    have hb2 := dsum_bounds (digF_bounds b) n
    have hp : (0 : Int) < 256 ^ n := Int.pow_pos (by omega)
    have ea : dsum (digF a) (n + 1) = dsum (digF a) n + digF a n * 256 ^ n := rfl
    have eb : dsum (digF b) (n + 1) = dsum (digF b) n + digF b n * 256 ^ n := rfl
    rw [h1]
    by_cases e1 : digF a n < digF b n
    · rw [decide_eq_true e1] at hs
      have : (digF a n + 1) * 256 ^ n ≤ digF b n * 256 ^ n := Int.mul_le_mul_of_nonneg_right (by omega) (by omega)
      rw [Int.add_mul, Int.one_mul] at this
      exact ⟨_, wlk_ret hs, by rw [ea, eb, if_neg (by omega), if_pos (by omega)]; rfl⟩
    · by_cases e2 : digF b n < digF a n
      · rw [decide_eq_false e1, decide_eq_true e2] at hs
        have : (digF b n + 1) * 256 ^ n ≤ digF a n * 256 ^ n := Int.mul_le_mul_of_nonneg_right (by omega) (by omega)
        rw [Int.add_mul, Int.one_mul] at this
        exact ⟨_, wlk_ret hs, by rw [ea, eb, if_neg (by omega), if_neg (by omega)]; rfl⟩
      · rw [decide_eq_false e1, decide_eq_false e2] at hs
        have heq : digF a n = digF b n := by omega
        obtain ⟨o, ho, hv⟩ := cmp_loop a b n (by omega)
        refine ⟨o, by rw [wlk_next (b := fun s => smithyref01_Compare.b1 (digV a) (digV b) s) hs]; exact ho, ?_⟩
        have c1 : (dsum (digF a) n + digF b n * 256 ^ n = dsum (digF b) n + digF b n * 256 ^ n) = (dsum (digF a) n = dsum (digF b) n) := propext ⟨fun h => by omega, fun h => by omega⟩
        have c2 : (dsum (digF a) n + digF b n * 256 ^ n < dsum (digF b) n + digF b n * 256 ^ n) = (dsum (digF a) n < dsum (digF b) n) := propext ⟨fun h => by omega, fun h => by omega⟩
        rw [hv, ea, eb, heq]
        simp only [c1, c2]
theorem less_eq (a b : Word4) : smithyref19_less a b = some (decide (wv a < wv b)) := by
  obtain ⟨o, ho, hv⟩ := cmp_loop a b 32 (by omega)
  rw [digF_val, digF_val] at hv
  unfold smithyref19_less
  rw [ref1_Of_eq, Option.bind_some, ref1_Of_eq, Option.bind_some]
  unfold smithyref01_Compare
  rw [show (31 : Int) = ((32 : Nat) : Int) - 1 from rfl, wlx_of ho (by omega), Option.bind_some, hv, Option.bind_some, Let_eq]
  refine congrArg some ?_
  by_cases q : (wv a : Int) = wv b
  · rw [if_pos q, decide_eq_false (by omega), decide_eq_false (by omega)]
  · rw [if_neg q]
    by_cases q2 : (wv a : Int) < wv b
    · rw [if_pos q2, decide_eq_true (by omega), decide_eq_true (by omega)]
    · rw [if_neg q2, decide_eq_false (by omega), decide_eq_false (by omega)]
theorem cmp_neg (a b : Word4) : decide (cmpV a b < 0) = decide (wv a < wv b) := by
  unfold cmpV
  by_cases e1 : wv a = wv b
  · rw [if_pos e1, decide_eq_false (by omega), decide_eq_false (by omega)]
  · rw [if_neg e1]
    by_cases e2 : wv a < wv b
    · rw [if_pos e2, decide_eq_true (by omega), decide_eq_true e2]
    · rw [if_neg e2, decide_eq_false (by omega), decide_eq_false e2]
/-- What is paid a gas, when there is more than the base fee. -/
theorem sum_word {base tip : Word4} {s : List Int} (ds : Dg s) (ls : s.length = 33) (vs_ : dV s = (wv base : Int) + wv tip) (hlt : (wv base : Int) + wv tip < 115792089237316195423570985008687907853269984665640564039457584007913129639936) : ∃ w, smithyref02_N_Word s = some w ∧ w = addS base tip 4 := by
  obtain ⟨w, hw, vw⟩ := N_Word_val ds (by omega)
  refine ⟨w, hw, wv_inj ?_⟩
  have hsum := Add_val base tip
  have hb := dsum_bounds (dat_bounds ds) 32
  have hd : dV s = dsum (dat s) 32 + 256 ^ 32 * dsum (fun j => dat s (32 + j)) s.length := by rw [← dsum_split, dV_more (by omega)]
  have hs0 := dsum_bounds (f := fun j => dat s (32 + j)) (fun i => dat_bounds ds _) s.length
  generalize dsum (fun j => dat s (32 + j)) s.length = q at *
  generalize dsum (dat s) 32 = p at *
  have hp : (256 : Int) ^ 32 = 115792089237316195423570985008687907853269984665640564039457584007913129639936 := by decide
  have hp2 : (2 : Nat) ^ 256 = 115792089237316195423570985008687907853269984665640564039457584007913129639936 := by decide
  rw [hp] at hd hb
  rw [hp2] at hsum
  clear hp hp2 hs0
  by_cases eq : q = 0
  · rw [eq] at hd; omega
  · omega
theorem Price_same (t : TX) (base : Word4) : ∃ r, tx_Price t base = some r ∧ smithyref19_Price t base = some r := by
  obtain ⟨fee, hf⟩ : ∃ f, f = t.2.2.2.2.2.2.2.1 := ⟨_, rfl⟩
  obtain ⟨tip, htip⟩ : ∃ f, f = t.2.2.2.2.2.2.2.2.1 := ⟨_, rfl⟩
  have hP : tx_Price t base = bif decide (wv fee < wv base) then some (Vec.rep 4 0#64, false) else bif decide (wv (subS fee base 4) < wv tip) then some (fee, true) else some (addS base tip 4, true) := by
    unfold tx_Price
    rw [← hf, ← htip]
    simp only [Compare_eq, Option.bind_some, Let_eq, cmp_neg, Sub_eq, Add_eq]
  obtain ⟨s, hs, ds, ls, vs_⟩ := Plus_val (digs_dg base) (digs_dg tip) (by simp) (by simp)
  have ls' : s.length = 33 := by simpa using ls
  rw [digs_val, digs_val] at vs_
  have hless := Less_val ds (digs_dg fee) (by omega) (by simp)
  rw [vs_, digs_val] at hless
  have hR : smithyref19_Price t base = bif decide (wv fee < wv base) then some (Vec.rep 4 0#64, false) else bif decide ((wv base : Int) + wv tip < wv fee) then (smithyref02_N_Word s).bind fun w => some (w, true) else some (fee, true) := by
    unfold smithyref19_Price
    rw [← hf, ← htip]
    simp only [less_eq, Option.bind_some, Let_eq, ref_Of_eq, hs, hless]
  rw [hP, hR]
  have hfl := wv_lt fee
  have hp2 : (2 : Nat) ^ 256 = 115792089237316195423570985008687907853269984665640564039457584007913129639936 := by decide
  rw [hp2] at hfl
  clear hp2
  by_cases e : wv fee < wv base
  · rw [decide_eq_true e]; exact ⟨_, rfl, rfl⟩
  · rw [decide_eq_false e, cond_false, cond_false]
    have hsv := Sub_val (show wv base ≤ wv fee by omega)
    rw [hsv]
    by_cases e2 : wv fee - wv base < wv tip
    · rw [decide_eq_true e2, decide_eq_false (show ¬ ((wv base : Int) + wv tip < wv fee) by omega)]
      exact ⟨_, rfl, rfl⟩
    · obtain ⟨w, hw, hww⟩ := sum_word (base := base) (tip := tip) ds ls' vs_ (by omega)
      rw [decide_eq_false e2, cond_false]
      refine ⟨_, rfl, ?_⟩
      by_cases e3 : (wv base : Int) + wv tip < wv fee
      · rw [decide_eq_true e3, cond_true, hw, Option.bind_some, hww]
      · rw [decide_eq_false e3, cond_false]
        have hsum := Add_val base tip
        have hp2 : (2 : Nat) ^ 256 = 115792089237316195423570985008687907853269984665640564039457584007913129639936 := by decide
        rw [hp2] at hsum
        clear hp2
        have : fee = addS base tip 4 := wv_inj (by omega)
        rw [this]
end Go.Proofs.Ytapfkdcilfpbhaa
