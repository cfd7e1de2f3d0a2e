/- The law of runs. -/
import Derived.Test.YtccilbklafhjiaaNvR0
import Derived.Test.YtccilbklafhjiaaNvE0
import Derived.Test.YtccilbklafhjiaaMcDr
namespace Go.Proofs.Ytccilbklafhjiaa
open Go.RowKit
set_option linter.unusedVariables false
set_option linter.unusedSimpArgs false
theorem wv_len (a : List B8) (k : Nat) : wv (wordV (padV (partV a (32 * k) 32))) = lenV a k := wv_padV (by rw [partV_len]; omega)
theorem zero_word (a : Word4) : (a.l == (Vec.rep 4 0#64 : Word4).l) = decide (wv a = 0) := by
  by_cases e : wv a = 0
  · have : a = Vec.rep 4 0#64 := wv_inj (by rw [e]; rfl)
    rw [decide_eq_true e, this]; exact beq_self_eq_true _
  · rw [decide_eq_false e]
    refine beq_eq_false_iff_ne.2 fun h => e ?_
    have : a = Vec.rep 4 0#64 := Vec.ext h
    rw [this]; rfl
def bigL (n : Nat) : Prop := ¬ n < 18446744073709551616 ∨ 64 < n
theorem small64 {n : Nat} (h : n < 18446744073709551616) : (BitVec.ofNat 64 n).toNat = n := by rw [BitVec.toNat_ofNat, Nat.mod_eq_of_lt h]
theorem run_step (x : Vec Word4 3) (y : Vec W64 3) {k : Nat} (hk : k < 3) {n : Nat} (hn : wv (x.get k) = n) : modexp_Run.b1 x y (k : Int) = if n ≤ 64 then some (.next (y.set k (BitVec.ofNat 64 n), ((k + 1 : Nat) : Int))) else some (.ret ([], 4)) := by
  have h1 : decide ((k : Int) < 3) = true := decide_eq_true (by omega)
  have h3 : wi ((k : Int) + 1) = ((k + 1 : Nat) : Int) := by rw [wi_id (by omega)]; omega
  simp only [modexp_Run.b1, Let_eq, h1, cond_true, h3, Int.toNat_natCast]
  rw [Chk_ok (by omega), Small_val, hn]
  by_cases e : n < 18446744073709551616
  · rw [if_pos e]
    simp only [Option.bind_some, Bool.not_true, cond_false, small64 e]
    by_cases e2 : n ≤ 64
    · rw [if_pos e2, decide_eq_false (by omega)]
      simp only [cond_false]
      rw [Chk_ok (by omega)]
    · rw [if_neg e2, decide_eq_true (by omega)]; rfl
  · rw [if_neg e, if_neg (by omega)]; rfl
theorem Run_val (a : List B8) (la : a.length ≤ 100000) : modexp_Run a = some (if lenV a 0 = 0 ∧ lenV a 2 = 0 then ([], 0) else if lenV a 0 ≤ 64 ∧ lenV a 1 ≤ 64 ∧ lenV a 2 ≤ 64 then (powV (partV a 96 (lenV a 0)) (partV a (96 + lenV a 0) (lenV a 1)) (partV a (96 + lenV a 0 + lenV a 1) (lenV a 2)), 0) else ([], 4)) := by
  unfold modexp_Run
  rw [lengths_val a la, Option.bind_some]
  generalize hx : (⟨[wordV (padV (partV a (32 * 0) 32)), wordV (padV (partV a (32 * 1) 32)), wordV (padV (partV a (32 * 2) 32))], rfl⟩ : Vec Word4 3) = x
  have h0 : wv (x.get 0) = lenV a 0 := by rw [← hx]; exact wv_len a 0
  have h1 : wv (x.get 1) = lenV a 1 := by rw [← hx]; exact wv_len a 1
  have h2 : wv (x.get 2) = lenV a 2 := by rw [← hx]; exact wv_len a 2
  simp only [Let_eq, zero_word, h0, h2]
  by_cases e : lenV a 0 = 0 ∧ lenV a 2 = 0
  · rw [if_pos e, decide_eq_true e.1, decide_eq_true e.2]; rfl
  · rw [if_neg e]
    have hc : (bif decide (lenV a 0 = 0) then some (decide (lenV a 2 = 0)) else some false) = some false := by
      by_cases e0 : lenV a 0 = 0
      · rw [decide_eq_true e0, decide_eq_false (fun h => e ⟨e0, h⟩)]; rfl
      · rw [decide_eq_false e0]; rfl
    rw [hc, Option.bind_some, cond_false]
    have b0 := run_step x (Vec.rep 3 0#64) (k := 0) (by omega) h0
    have b1 := run_step x ((Vec.rep 3 0#64).set 0 (BitVec.ofNat 64 (lenV a 0))) (k := 1) (by omega) h1
    have b2 := run_step x (((Vec.rep 3 0#64).set 0 (BitVec.ofNat 64 (lenV a 0))).set 1 (BitVec.ofNat 64 (lenV a 1))) (k := 2) (by omega) h2
    by_cases g0 : lenV a 0 ≤ 64
    · rw [if_pos g0] at b0
      by_cases g1 : lenV a 1 ≤ 64
      · rw [if_pos g1] at b1
        by_cases g2 : lenV a 2 ≤ 64
        · rw [if_pos g2] at b2
          have hl : wlx (fun s => modexp_Run.b1 x s.1 s.2) ((Vec.rep 3 0#64, 0) : Vec W64 3 × Int) = some (.inl (⟨[BitVec.ofNat 64 (lenV a 0), BitVec.ofNat 64 (lenV a 1), BitVec.ofNat 64 (lenV a 2)], rfl⟩, 3)) := wlx_of (k := 4) (by
            refine (wlk_next b0).trans ?_
            refine (wlk_next b1).trans ?_
            refine (wlk_next b2).trans ?_
            exact wlk_brk (by simp [modexp_Run.b1, Let_eq]; rfl)) (by omega)
          rw [hl, Option.bind_some, if_pos ⟨g0, g1, g2⟩]
          show (modexp_part a 96#64 (BitVec.ofNat 64 (lenV a 0))).bind (fun x47 => (modexp_part a (96#64 + BitVec.ofNat 64 (lenV a 0)) (BitVec.ofNat 64 (lenV a 1))).bind fun x54 => (modexp_part a (96#64 + BitVec.ofNat 64 (lenV a 0) + BitVec.ofNat 64 (lenV a 1)) (BitVec.ofNat 64 (lenV a 2))).bind fun x66 => (modexp_Pow x47 x54 x66).bind fun x67 => some (x67.1, x67.2)) = _
          have s0 := small64 (show lenV a 0 < 18446744073709551616 by omega)
          have s1 := small64 (show lenV a 1 < 18446744073709551616 by omega)
          have s2 := small64 (show lenV a 2 < 18446744073709551616 by omega)
          have t0 : (96#64 + BitVec.ofNat 64 (lenV a 0)).toNat = 96 + lenV a 0 := by rw [BitVec.toNat_add, s0, show (96#64).toNat = 96 from rfl, Nat.mod_eq_of_lt (by omega)]
          have t1 : (96#64 + BitVec.ofNat 64 (lenV a 0) + BitVec.ofNat 64 (lenV a 1)).toNat = 96 + lenV a 0 + lenV a 1 := by rw [BitVec.toNat_add, t0, s1, Nat.mod_eq_of_lt (by omega)]
          rw [prog_part_val a _ _ la (by omega), prog_part_val a _ _ la (by omega), prog_part_val a _ _ la (by omega), s0, s1, s2, t0, t1, show (96#64).toNat = 96 from rfl]
          simp only [Option.bind_some]
          rw [Pow_val _ _ _ (by rw [partV_len]; exact g0) (by rw [partV_len]; exact g1) (by rw [partV_len]; exact g2)]; rfl
        · rw [if_neg g2] at b2
          have hl : wlx (fun s => modexp_Run.b1 x s.1 s.2) ((Vec.rep 3 0#64, 0) : Vec W64 3 × Int) = some (.inr ([], 4)) := wlx_of (k := 3) (by
            refine (wlk_next b0).trans ?_
            refine (wlk_next b1).trans ?_
            exact wlk_ret b2) (by omega)
          rw [hl, if_neg (fun h => g2 h.2.2)]; rfl
      · rw [if_neg g1] at b1
        have hl : wlx (fun s => modexp_Run.b1 x s.1 s.2) ((Vec.rep 3 0#64, 0) : Vec W64 3 × Int) = some (.inr ([], 4)) := wlx_of (k := 2) (by
          refine (wlk_next b0).trans ?_
          exact wlk_ret b1) (by omega)
        rw [hl, if_neg (fun h => g1 h.2.1)]; rfl
    · rw [if_neg g0] at b0
      have hl : wlx (fun s => modexp_Run.b1 x s.1 s.2) ((Vec.rep 3 0#64, 0) : Vec W64 3 × Int) = some (.inr ([], 4)) := wlx_of (k := 1) (wlk_ret b0) (by omega)
      rw [hl, if_neg (fun h => g0 h.1)]; rfl
theorem runs_true (a : List B8) : smithylaw09_ModexpRuns a = some true := by
  unfold smithylaw09_ModexpRuns
  simp only [Let_eq, fixed_eq, Option.bind_some]
  by_cases h : a.length ≤ 2000
  · rw [decide_eq_false (show ¬ (2000 : Int) < (a.length : Int) by omega), cond_false, List.nil_append, Chk_ok (by simp; omega), Run_val a (by omega), Option.bind_some]
    have hL0 : smithyref09_Length a 0 = _ := ref_Length_val a 0 (by omega) (by omega)
    have hL1 : smithyref09_Length a 1 = _ := ref_Length_val a 1 (by omega) (by omega)
    have hL2 : smithyref09_Length a 2 = _ := ref_Length_val a 2 (by omega) (by omega)
    rw [hL0, Option.bind_some, hL1, Option.bind_some, hL2, Option.bind_some, str_same]
    simp only [Bool.not_true, cond_false, Option.bind_some]
    generalize hb : lenV a 0 = b
    generalize hn : lenV a 1 = n
    generalize hm : lenV a 2 = m
    by_cases e : b = 0 ∧ m = 0
    · rw [if_pos e, e.1, e.2]; rfl
    · rw [if_neg e]
      have hno : ∀ {k : Nat}, ¬ k ≤ 64 → (k < 18446744073709551616 → ((64 : Int) < ((BitVec.ofNat 64 k : W64).toNat : Int))) := fun h1 h2 => by rw [small64 h2]; omega
      have tst : ∀ k : Nat, ¬ k ≤ 64 → ((bif !(if k < 18446744073709551616 then (BitVec.ofNat 64 k, true) else (0#64, false) : W64 × Bool).2 then true else decide (((if k < 18446744073709551616 then (BitVec.ofNat 64 k, true) else (0#64, false) : W64 × Bool).1.toNat : Int) > 64)) = true) := fun k h => by
        by_cases h2 : k < 18446744073709551616
        · rw [if_pos h2]; exact decide_eq_true (hno h h2)
        · rw [if_neg h2]; rfl
      have hz : (bif (bif (bif (if b < 18446744073709551616 then (BitVec.ofNat 64 b, true) else (0#64, false) : W64 × Bool).2 then (if m < 18446744073709551616 then (BitVec.ofNat 64 m, true) else (0#64, false) : W64 × Bool).2 else false) then (((if b < 18446744073709551616 then (BitVec.ofNat 64 b, true) else (0#64, false) : W64 × Bool).1.toNat : Int) == 0) else false) then (((if m < 18446744073709551616 then (BitVec.ofNat 64 m, true) else (0#64, false) : W64 × Bool).1.toNat : Int) == 0) else false) = false := by
        by_cases hb : b < 18446744073709551616
        · by_cases hm : m < 18446744073709551616
          · simp only [if_pos hb, if_pos hm, cond_true, small64 hb, small64 hm]
            by_cases hb0 : b = 0
            · have : (((m : Int) == 0) : Bool) = false := beq_eq_false_iff_ne.2 fun h => e ⟨hb0, by omega⟩
              rw [this]; simp
            · have : (((b : Int) == 0) : Bool) = false := beq_eq_false_iff_ne.2 (by omega)
              rw [this]; rfl
          · simp only [if_neg hm, if_pos hb]; rfl
        · simp only [if_neg hb]; rfl
      have cs : ∀ {β : Type} (c x y : Bool) (f : Bool → Option β), (bif c then some x else some y).bind f = f (bif c then x else y) := fun c x y f => by cases c <;> rfl
      simp only [cs, hz, cond_false]
      by_cases g : b ≤ 64 ∧ n ≤ 64 ∧ m ≤ 64
      · rw [if_pos g]
        obtain ⟨gb, gn, gm⟩ := g
        simp only [if_pos (show b < 18446744073709551616 by omega), if_pos (show n < 18446744073709551616 by omega), if_pos (show m < 18446744073709551616 by omega), small64 (show b < 18446744073709551616 by omega), small64 (show n < 18446744073709551616 by omega), small64 (show m < 18446744073709551616 by omega), decide_eq_false (show ¬ ((b : Int) > 64) by omega), decide_eq_false (show ¬ ((n : Int) > 64) by omega), decide_eq_false (show ¬ ((m : Int) > 64) by omega), Bool.not_true, cond_false]
        have wb : IntKind.i64.wrap (b : Int) = (b : Int) := wi_id (by omega)
        have wn : IntKind.i64.wrap (n : Int) = (n : Int) := wi_id (by omega)
        have wm : IntKind.i64.wrap (m : Int) = (m : Int) := wi_id (by omega)
        have w1 : wi (96 + (b : Int)) = ((96 + b : Nat) : Int) := by rw [wi_id (by omega)]; omega
        have w2 : wi (((96 + b : Nat) : Int) + (n : Int)) = ((96 + b + n : Nat) : Int) := by rw [wi_id (by omega)]; omega
        simp only [wb, wn, wm, w1, w2]
        have hP : smithyref09_Part a 96 (b : Int) = _ := ref_Part_val a 96 b (by omega) (by omega) (by omega)
        rw [hP, Option.bind_some, ref_Part_val a (96 + b) n (by omega) (by omega) (by omega), Option.bind_some, ref_Part_val a (96 + b + n) m (by omega) (by omega) (by omega), Option.bind_some, Pow_val _ _ _ (by rw [partV_len]; exact gb) (by rw [partV_len]; exact gn) (by rw [partV_len]; exact gm), Option.bind_some]
        have hlen : (((powV (partV a 96 b) (partV a (96 + b) n) (partV a (96 + b + n) m)).length : Int) == (m : Int)) = true := by rw [show (powV (partV a 96 b) (partV a (96 + b) n) (partV a (96 + b + n) m)).length = m by unfold powV; rw [be_len, partV_len]]; exact beq_self_eq_true _
        simp only [str_same, hlen]; rfl
      · rw [if_neg g]
        have t : (bif (bif (bif (bif (bif !(if b < 18446744073709551616 then (BitVec.ofNat 64 b, true) else (0#64, false) : W64 × Bool).2 then true else !(if n < 18446744073709551616 then (BitVec.ofNat 64 n, true) else (0#64, false) : W64 × Bool).2) then true else !(if m < 18446744073709551616 then (BitVec.ofNat 64 m, true) else (0#64, false) : W64 × Bool).2) then true else decide (((if b < 18446744073709551616 then (BitVec.ofNat 64 b, true) else (0#64, false) : W64 × Bool).1.toNat : Int) > 64)) then true else decide (((if n < 18446744073709551616 then (BitVec.ofNat 64 n, true) else (0#64, false) : W64 × Bool).1.toNat : Int) > 64)) then true else decide (((if m < 18446744073709551616 then (BitVec.ofNat 64 m, true) else (0#64, false) : W64 × Bool).1.toNat : Int) > 64)) = true := by
          have tb := tst b
          have tn := tst n
          have tm := tst m
          revert tb tn tm
          generalize (if b < 18446744073709551616 then (BitVec.ofNat 64 b, true) else (0#64, false) : W64 × Bool) = pb
          generalize (if n < 18446744073709551616 then (BitVec.ofNat 64 n, true) else (0#64, false) : W64 × Bool) = pn
          generalize (if m < 18446744073709551616 then (BitVec.ofNat 64 m, true) else (0#64, false) : W64 × Bool) = pm
          generalize decide ((pb.1.toNat : Int) > 64) = d1
          generalize decide ((pn.1.toNat : Int) > 64) = d2
          generalize decide ((pm.1.toNat : Int) > 64) = d3
          generalize pb.2 = c1
          generalize pn.2 = c2
          generalize pm.2 = c3
          intro tb tn tm
          by_cases gb : b ≤ 64
          · by_cases gn : n ≤ 64
            · have := tm fun h => g ⟨gb, gn, h⟩
              revert this; cases c1 <;> cases c2 <;> cases c3 <;> cases d1 <;> cases d2 <;> cases d3 <;> simp
            · have := tn gn
              revert this; cases c1 <;> cases c2 <;> cases c3 <;> cases d1 <;> cases d2 <;> cases d3 <;> simp
          · have := tb gb
            revert this; cases c1 <;> cases c2 <;> cases c3 <;> cases d1 <;> cases d2 <;> cases d3 <;> simp
        rw [t]; rfl
  · rw [decide_eq_true (show (2000 : Int) < (a.length : Int) by omega), cond_true]
end Go.Proofs.Ytccilbklafhjiaa
