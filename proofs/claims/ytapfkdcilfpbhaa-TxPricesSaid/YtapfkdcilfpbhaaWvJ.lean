/- What a transaction costs ahead of all; the law of prices. -/
import Derived.Test.YtapfkdcilfpbhaaWvI
import Derived.Test.YtapfkdcilfpbhaaWi
import Derived.Test.YtapfkdcilfpbhaaWsC
namespace Go.Proofs.Ytapfkdcilfpbhaa
open Go.RowKit
set_option linter.unusedVariables false
set_option linter.unusedSimpArgs false
theorem Words_same (x : W64) : ∃ w, mem_Words x = some w ∧ smithyref10_Words x = some w := by
  unfold mem_Words smithyref10_Words
  simp only [Let_eq]
  by_cases e : (x % 32#64).toNat = 0
  · rw [e]; exact ⟨_, rfl, rfl⟩
  · rw [show (((x % 32#64).toNat : Int) == 0) = false from beq_eq_false_iff_ne.2 (by omega), decide_eq_true (show ((x % 32#64).toNat : Int) > 0 by omega)]
    exact ⟨_, rfl, rfl⟩
/-- What the bytes cost. -/
def dcost (d : List (BitVec 8)) : Nat → W64
  | 0 => 0#64
  | n + 1 => dcost d n + (if (lget d n).toNat = 0 then 4#64 else 16#64)
theorem gas_loop (d : List (BitVec 8)) (x0 : W64) (ld : d.length ≤ 1000000) : ∃ k, wlx (fun s => gas_Intrinsic.b1 (d.length : Int) d s.1 s.2) (x0, 0) = some (.inl (x0 + dcost d d.length, k)) := by
  have h := wlx_inv (b := fun s => gas_Intrinsic.b1 (d.length : Int) d s.1 s.2) (fun i s => s = (x0 + dcost d i, (i : Int))) (Q := fun s => s.1 = x0 + dcost d d.length) d.length
    (fun i s hi hs => by
      subst hs
      refine ⟨(x0 + dcost d (i + 1), ((i + 1 : Nat) : Int)), ?_, rfl⟩
      have h2 : wi ((i : Int) + 1) = ((i + 1 : Nat) : Int) := by rw [wi_id (by omega)]; omega
      simp only [gas_Intrinsic.b1, gas_either, Let_eq, decide_eq_true (show (i : Int) < (d.length : Int) by omega), cond_true, Chk_ok (show (0 : Int) ≤ (i : Int) ∧ (i : Int) < (d.length : Int) by omega), Int.toNat_natCast, h2]
      by_cases e : (lget d i).toNat = 0
      · rw [show (((lget d i).toNat : Int) == 0) = true from beq_iff_eq.2 (by omega)]
        simp only [cond_true, Option.bind_some, dcost, if_pos e, BitVec.add_assoc]
      · rw [show (((lget d i).toNat : Int) == 0) = false from beq_eq_false_iff_ne.2 (by omega)]
        simp only [cond_false, Option.bind_some, dcost, if_neg e, BitVec.add_assoc])
    (fun s hs => by
      subst hs
      exact ⟨(x0 + dcost d d.length, (d.length : Int)), by simp only [gas_Intrinsic.b1, Let_eq, decide_eq_false (show ¬ (d.length : Int) < (d.length : Int) by omega), cond_false], rfl⟩)
    (s0 := (x0, ((0 : Nat) : Int))) (by simp [dcost]) (by omega)
  obtain ⟨⟨x, k⟩, h1, h2⟩ := h
  exact ⟨k, by rw [← h2]; exact h1⟩
theorem ref_gas_loop (d : List (BitVec 8)) (x0 : W64) (ld : d.length ≤ 1000000) : ∃ k, wlx (fun s => smithyref12_Intrinsic.b1 (d.length : Int) d s.1 s.2) (x0, 0) = some (.inl (x0 + dcost d d.length, k)) := by
  have h := wlx_inv (b := fun s => smithyref12_Intrinsic.b1 (d.length : Int) d s.1 s.2) (fun i s => s = (x0 + dcost d i, (i : Int))) (Q := fun s => s.1 = x0 + dcost d d.length) d.length
    (fun i s hi hs => by
      subst hs
      refine ⟨(x0 + dcost d (i + 1), ((i + 1 : Nat) : Int)), ?_, rfl⟩
      have h2 : wi ((i : Int) + 1) = ((i + 1 : Nat) : Int) := by rw [wi_id (by omega)]; omega
      simp only [smithyref12_Intrinsic.b1, Let_eq, decide_eq_true (show (i : Int) < (d.length : Int) by omega), cond_true, Chk_ok (show (0 : Int) ≤ (i : Int) ∧ (i : Int) < (d.length : Int) by omega), Int.toNat_natCast, h2]
      by_cases e : (lget d i).toNat = 0
      · rw [show (((lget d i).toNat : Int) != 0) = false from by rw [e]; rfl]
        simp only [cond_false, Option.bind_some, dcost, if_pos e, BitVec.add_assoc]
      · rw [show (((lget d i).toNat : Int) != 0) = true from bne_iff_ne.2 (by omega)]
        simp only [cond_true, Option.bind_some, dcost, if_neg e, BitVec.add_assoc]
        rfl)
    (fun s hs => by
      subst hs
      exact ⟨(x0 + dcost d d.length, (d.length : Int)), by simp only [smithyref12_Intrinsic.b1, Let_eq, decide_eq_false (show ¬ (d.length : Int) < (d.length : Int) by omega), cond_false], rfl⟩)
    (s0 := (x0, ((0 : Nat) : Int))) (by simp [dcost]) (by omega)
  obtain ⟨⟨x, k⟩, h1, h2⟩ := h
  exact ⟨k, by rw [← h2]; exact h1⟩
theorem gas_same (d : List (BitVec 8)) (c : Bool) (a k : W64) (ld : d.length ≤ 1000000) : ∃ g, gas_Intrinsic d c a k = some g ∧ smithyref12_Intrinsic d c a k = some g := by
  obtain ⟨k1, h1⟩ := gas_loop d (21000#64 + 2400#64 * a + 1900#64 * k) ld
  obtain ⟨k2, h2⟩ := ref_gas_loop d 21000#64 ld
  obtain ⟨w, hw, hw'⟩ := Words_same (BitVec.ofInt 64 (d.length : Int))
  unfold gas_Intrinsic smithyref12_Intrinsic
  simp only [Let_eq, h1, h2, Option.bind_some, Sum.elim_inl, hw, hw']
  cases c with
  | false =>
    simp only [cond_false, Option.bind_some]
    refine ⟨_, rfl, congrArg some ?_⟩
    rw [BitVec.mul_comm a, BitVec.mul_comm k]
    ac_rfl
  | true =>
    simp only [cond_true, Option.bind_some]
    refine ⟨_, rfl, congrArg some ?_⟩
    rw [BitVec.mul_comm a, BitVec.mul_comm k]
    ac_rfl
theorem Great_val (t : TX) : ∃ g, smithyref19_Great t = some g ∧ (g = false → t.2.2.2.2.2.1.length ≤ 3000 ∧ t.2.2.2.2.2.2.2.2.2.length ≤ 30 ∧ ∀ i, i < t.2.2.2.2.2.2.2.2.2.length → (lget t.2.2.2.2.2.2.2.2.2 i).2.length ≤ 30) := by
  unfold smithyref19_Great
  simp only [Let_eq]
  by_cases e1 : (3000 : Int) < (t.2.2.2.2.2.1.length : Int)
  · rw [decide_eq_true e1]; exact ⟨true, rfl, fun h => by cases h⟩
  rw [decide_eq_false e1]
  by_cases e2 : (30 : Int) < (t.2.2.2.2.2.2.2.2.2.length : Int)
  · rw [decide_eq_true e2]; exact ⟨true, rfl, fun h => by cases h⟩
  rw [decide_eq_false e2]
  have h := wlx_down (b := fun s => smithyref19_Great.b1 (t.2.2.2.2.2.2.2.2.2.length : Int) t s) (fun m s => ∃ i : Nat, i + m = t.2.2.2.2.2.2.2.2.2.length ∧ s = (i : Int) ∧ ∀ j, j < i → (lget t.2.2.2.2.2.2.2.2.2 j).2.length ≤ 30) (Q := fun o => (∃ r, o = .inr r ∧ r = true) ∨ ∃ s, o = .inl s ∧ ∀ j, j < t.2.2.2.2.2.2.2.2.2.length → (lget t.2.2.2.2.2.2.2.2.2 j).2.length ≤ 30) t.2.2.2.2.2.2.2.2.2.length
    (fun m s hm ⟨i, hi, hs, hall⟩ => by
      subst hs
      cases m with
      | zero =>
        refine .inr (.inl ⟨(i : Int), ?_, .inr ⟨_, rfl, fun j hj => hall j (by omega)⟩⟩)
        simp only [smithyref19_Great.b1, Let_eq, decide_eq_false (show ¬ (i : Int) < (t.2.2.2.2.2.2.2.2.2.length : Int) by omega), cond_false]
      | succ m =>
        have h2 : wi ((i : Int) + 1) = ((i + 1 : Nat) : Int) := by rw [wi_id (by omega)]; omega
        have hb : smithyref19_Great.b1 (t.2.2.2.2.2.2.2.2.2.length : Int) t (i : Int) = bif decide ((30 : Int) < ((lget t.2.2.2.2.2.2.2.2.2 i).2.length : Int)) then some (.ret true) else some (.next ((i + 1 : Nat) : Int)) := by
          simp only [smithyref19_Great.b1, Let_eq, decide_eq_true (show (i : Int) < (t.2.2.2.2.2.2.2.2.2.length : Int) by omega), cond_true, Chk_ok (show (0 : Int) ≤ (i : Int) ∧ (i : Int) < (t.2.2.2.2.2.2.2.2.2.length : Int) by omega), Int.toNat_natCast, h2]
        by_cases e : (30 : Int) < ((lget t.2.2.2.2.2.2.2.2.2 i).2.length : Int)
        · rw [decide_eq_true e] at hb
          exact .inr (.inr ⟨true, hb, .inl ⟨true, rfl, rfl⟩⟩)
        · rw [decide_eq_false e] at hb
          refine .inl ⟨_, m, by omega, hb, i + 1, by omega, rfl, fun j hj => ?_⟩
          by_cases ej : j = i
          · subst ej; omega
          · exact hall j (by omega)) ⟨0, by omega, rfl, fun j hj => by omega⟩ (by omega)
  obtain ⟨o, ho, hq⟩ := h
  show ∃ g, (wlx (fun s => smithyref19_Great.b1 (t.2.2.2.2.2.2.2.2.2.length : Int) t s) ((0 : Nat) : Int)).bind _ = some g ∧ _
  rw [show ((0 : Nat) : Int) = 0 from rfl] at *
  rw [ho, Option.bind_some]
  rcases hq with ⟨r, rfl, rfl⟩ | ⟨s, rfl, hall⟩
  · exact ⟨true, rfl, fun h => by cases h⟩
  · exact ⟨false, rfl, fun _ => ⟨by omega, by omega, hall⟩⟩
def keysN (t : TX) : Nat → Nat
  | 0 => 0
  | i + 1 => keysN t i + (lget t.2.2.2.2.2.2.2.2.2 i).2.length
theorem keysN_le (t : TX) (h : ∀ i, i < t.2.2.2.2.2.2.2.2.2.length → (lget t.2.2.2.2.2.2.2.2.2 i).2.length ≤ 30) : ∀ i, i ≤ t.2.2.2.2.2.2.2.2.2.length → keysN t i ≤ 30 * i
  | 0, _ => Nat.le_refl _
  | i + 1, hi => by
    have h1 := keysN_le t h i (by omega)
    have h2 := h i (by omega)
    unfold keysN; omega
theorem Intrinsic_same (t : TX) (hd : t.2.2.2.2.2.1.length ≤ 3000) (hl : t.2.2.2.2.2.2.2.2.2.length ≤ 30) (hk : ∀ i, i < t.2.2.2.2.2.2.2.2.2.length → (lget t.2.2.2.2.2.2.2.2.2 i).2.length ≤ 30) : ∃ g, tx_Intrinsic t = some g ∧ smithyref19_Intrinsic t = some g := by
  have h1 := wlx_inv (b := fun s => tx_Intrinsic.b1 (t.2.2.2.2.2.2.2.2.2.length : Int) t s.1 s.2) (fun i s => s = (BitVec.ofNat 64 (keysN t i), (i : Int))) (Q := fun s => s.1 = BitVec.ofNat 64 (keysN t t.2.2.2.2.2.2.2.2.2.length)) t.2.2.2.2.2.2.2.2.2.length
    (fun i s hi hs => by
      subst hs
      refine ⟨(BitVec.ofNat 64 (keysN t (i + 1)), ((i + 1 : Nat) : Int)), ?_, rfl⟩
      have h2 : wi ((i : Int) + 1) = ((i + 1 : Nat) : Int) := by rw [wi_id (by omega)]; omega
      simp only [tx_Intrinsic.b1, Let_eq, decide_eq_true (show (i : Int) < (t.2.2.2.2.2.2.2.2.2.length : Int) by omega), cond_true, Chk_ok (show (0 : Int) ≤ (i : Int) ∧ (i : Int) < (t.2.2.2.2.2.2.2.2.2.length : Int) by omega), Int.toNat_natCast, h2, keysN, BitVec.ofInt_natCast, BitVec.ofNat_add])
    (fun s hs => by
      subst hs
      exact ⟨(BitVec.ofNat 64 (keysN t t.2.2.2.2.2.2.2.2.2.length), (t.2.2.2.2.2.2.2.2.2.length : Int)), by simp only [tx_Intrinsic.b1, Let_eq, decide_eq_false (show ¬ (t.2.2.2.2.2.2.2.2.2.length : Int) < (t.2.2.2.2.2.2.2.2.2.length : Int) by omega), cond_false], rfl⟩)
    (s0 := (0#64, ((0 : Nat) : Int))) (by simp [keysN]) (by omega)
  have h2 := wlx_inv (b := fun s => smithyref19_Intrinsic.b1 (t.2.2.2.2.2.2.2.2.2.length : Int) t s.1 s.2) (fun i s => s = ((keysN t i : Int), (i : Int))) (Q := fun s => s.1 = (keysN t t.2.2.2.2.2.2.2.2.2.length : Int)) t.2.2.2.2.2.2.2.2.2.length
    (fun i s hi hs => by
      subst hs
      refine ⟨((keysN t (i + 1) : Int), ((i + 1 : Nat) : Int)), ?_, rfl⟩
      have h2 : wi ((i : Int) + 1) = ((i + 1 : Nat) : Int) := by rw [wi_id (by omega)]; omega
      have h3 := keysN_le t hk i (by omega)
      have h4 := hk i hi
      have h6 : keysN t (i + 1) = keysN t i + (lget t.2.2.2.2.2.2.2.2.2 i).2.length := rfl
      have h5 : wi ((keysN t i : Int) + ((lget t.2.2.2.2.2.2.2.2.2 i).2.length : Int)) = (keysN t (i + 1) : Int) := by rw [wi_id (by omega), h6]; omega
      simp only [smithyref19_Intrinsic.b1, Let_eq, decide_eq_true (show (i : Int) < (t.2.2.2.2.2.2.2.2.2.length : Int) by omega), cond_true, Chk_ok (show (0 : Int) ≤ (i : Int) ∧ (i : Int) < (t.2.2.2.2.2.2.2.2.2.length : Int) by omega), Int.toNat_natCast, h2, h5])
    (fun s hs => by
      subst hs
      exact ⟨((keysN t t.2.2.2.2.2.2.2.2.2.length : Int), (t.2.2.2.2.2.2.2.2.2.length : Int)), by simp only [smithyref19_Intrinsic.b1, Let_eq, decide_eq_false (show ¬ (t.2.2.2.2.2.2.2.2.2.length : Int) < (t.2.2.2.2.2.2.2.2.2.length : Int) by omega), cond_false], rfl⟩)
    (s0 := ((0 : Int), ((0 : Nat) : Int))) (by simp [keysN]) (by omega)
  obtain ⟨⟨x, k⟩, hx, hxv⟩ := h1
  obtain ⟨⟨y, k'⟩, hy, hyv⟩ := h2
  dsimp only at hxv hyv
  subst hxv hyv
  obtain ⟨g, hg, hg'⟩ := gas_same t.2.2.2.2.2.1 t.2.2.1 (BitVec.ofInt 64 (t.2.2.2.2.2.2.2.2.2.length : Int)) (BitVec.ofNat 64 (keysN t t.2.2.2.2.2.2.2.2.2.length)) (by omega)
  refine ⟨g, ?_, ?_⟩
  · unfold tx_Intrinsic
    rw [Let_eq, show (0 : Int) = ((0 : Nat) : Int) from rfl, hx, Option.bind_some]
    simp only [Sum.elim_inl, Let_eq, hg, Option.bind_some]
  · unfold smithyref19_Intrinsic
    rw [Let_eq]
    show (wlx _ ((0 : Int), ((0 : Nat) : Int))).bind _ = _
    rw [hy, Option.bind_some]
    simp only [Sum.elim_inl, Let_eq, BitVec.ofInt_natCast, Option.bind_some]
    rw [BitVec.ofInt_natCast] at hg'
    rw [hg']; rfl
set_option maxRecDepth 100000 in
theorem fixed19_eq : smithylaw19_fixed = some true := by kernel_rfl
theorem pair_eta {α β : Type} (p : α × β) : (p.1, p.2) = p := rfl
theorem prices_true (t : TX) (base : Word4) : smithylaw19_TxPrices t base = some true := by
  obtain ⟨g, hg, hgv⟩ := Great_val t
  unfold smithylaw19_TxPrices
  simp only [Let_eq, pair_eta, hg, Option.bind_some, fixed19_eq]
  cases g with
  | true => rfl
  | false =>
    obtain ⟨h1, h2, h3⟩ := hgv rfl
    obtain ⟨w, hw, hwv⟩ := Cost_val t
    obtain ⟨n, hn, dn, ln, vn⟩ := ref_Cost_val t
    have hf := fits_eq dn (by omega)
    have hz : ∃ z, smithyref02_N_High n = some z ∧ smithyref02_Zero z = some (decide (dV n < 256 ^ 32)) := by
      rw [High_eq n (by omega), Option.bind_some] at hf
      exact ⟨_, High_eq n (by omega), hf⟩
    obtain ⟨z, hz1, hz2⟩ := hz
    obtain ⟨p, hp, hp'⟩ := Price_same t base
    obtain ⟨i, hi, hi'⟩ := Intrinsic_same t h1 h2 h3
    have hdec : decide (dV n < 256 ^ 32) = decide (costN t < 2 ^ 256) := by
      rw [vn]
      have : ((256 : Int) ^ 32) = ((2 ^ 256 : Nat) : Int) := by decide
      rw [this]
      by_cases e : costN t < 2 ^ 256
      · rw [decide_eq_true e, decide_eq_true (Int.ofNat_lt.2 e)]
      · rw [decide_eq_false e, decide_eq_false (fun h => e (Int.ofNat_lt.1 h))]
    simp only [cond_false, hw, hn, Option.bind_some, hz1, hz2, hdec, hp, hp', hi, hi', bne_self_eq_false, beq_self_eq_true, cond_true]
    by_cases e : costN t < 2 ^ 256
    · obtain ⟨v, hv, vv⟩ := N_Word_val dn (by omega)
      have hvw : w = v := by
        refine wv_inj ?_
        rw [if_pos e] at hwv
        have hd : dV n = dsum (dat n) 32 + 256 ^ 32 * dsum (fun j => dat n (32 + j)) n.length := by rw [← dsum_split, dV_more (by omega)]
        have hs0 := dsum_bounds (f := fun j => dat n (32 + j)) (fun i => dat_bounds dn _) n.length
        have hb := dsum_bounds (dat_bounds dn) 32
        generalize dsum (fun j => dat n (32 + j)) n.length = q at *
        generalize dsum (dat n) 32 = p at *
        have hp : (256 : Int) ^ 32 = 115792089237316195423570985008687907853269984665640564039457584007913129639936 := by decide
        have hp2 : (2 : Nat) ^ 256 = 115792089237316195423570985008687907853269984665640564039457584007913129639936 := by decide
        rw [hp] at hd hb
        rw [hp2] at e
        clear hp hp2 hdec hf hz2
        by_cases eq : q = 0
        · rw [eq] at hd; omega
        · omega
      simp only [decide_eq_true e, cond_true, hv, Option.bind_some, ← hvw, bne_self_eq_false, Bool.not_true, cond_false]
    · have hw0 : w = Vec.rep 4 0#64 := wv_inj (by rw [hwv, if_neg e, zero_wv])
      simp only [decide_eq_false e, cond_false, Option.bind_some, Bool.not_false, cond_true, hw0, bne_self_eq_false]
end Go.Proofs.Ytapfkdcilfpbhaa
