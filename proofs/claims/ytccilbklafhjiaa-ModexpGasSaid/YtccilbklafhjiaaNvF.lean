/- The document's differences, quotients, what is left. -/
import Derived.Test.YtccilbklafhjiaaWvZ
import Derived.Test.YtccilbklafhjiaaWi
namespace Go.Proofs.Ytccilbklafhjiaa
open Go.RowKit
set_option linter.unusedVariables false
set_option linter.unusedSimpArgs false
theorem dat_app (x y : List Int) (j : Nat) : dat (x ++ y) j = if j < x.length then dat x j else dat y (j - x.length) := by
  unfold dat lget
  simp only [List.length_append, List.getD_eq_getElem?_getD]
  by_cases e : j < x.length
  · rw [if_pos e, if_pos (by omega), if_pos e, List.getElem?_append_left e]
  · rw [if_neg e, List.getElem?_append_right (by omega)]
    by_cases e2 : j - x.length < y.length
    · rw [if_pos (by omega), if_pos e2]
    · rw [if_neg (by omega), if_neg e2]
theorem dat_one (v : Int) (j : Nat) : dat [v] j = if j = 0 then v else 0 := by
  unfold dat lget
  by_cases e : j = 0
  · subst e; rfl
  · rw [if_neg (by simp; omega), if_neg e]
theorem dsum_succ (f : Nat → Int) (n : Nat) : dsum f (n + 1) = dsum f n + f n * 256 ^ n := rfl
theorem dV_snoc (x : List Int) (v : Int) : dV (x ++ [v]) = dV x + v * 256 ^ x.length := by
  unfold dV
  rw [List.length_append, List.length_singleton, dsum_succ, dsum_congr (g := dat x) fun j hj => by rw [dat_app, if_pos hj], dat_app, if_neg (by omega), Nat.sub_self, dat_one, if_pos rfl]
theorem dg_app {x y : List Int} (hx : Dg x) (hy : Dg y) : Dg (x ++ y) := dg_of_dat fun j => by
  rw [dat_app]
  split
  · exact dat_bounds hx j
  · exact dat_bounds hy _
theorem dg_one {v : Int} (h : 0 ≤ v ∧ v < 256) : Dg [v] := dg_of_dat fun j => by
  rw [dat_one]
  split
  · exact h
  · omega
theorem dg_nil : Dg [] := fun i hi => absurd hi (by simp)
theorem dV_nonneg {x : List Int} (h : Dg x) : 0 ≤ dV x := (dsum_bounds (dat_bounds h) _).1
theorem dV_lt {x : List Int} (h : Dg x) : dV x < 256 ^ x.length := (dsum_bounds (dat_bounds h) _).2
theorem low_of {b : List Int} (hb : Dg b) {n : Nat} (h : dV b < 256 ^ n) : dsum (dat b) n = dV b := by
  have h1 := dsum_split (dat b) n b.length
  rw [dV_more (show b.length ≤ n + b.length by omega)] at h1
  have h2 := dsum_bounds (f := fun j => dat b (n + j)) (fun i => dat_bounds hb _) b.length
  have h3 := dsum_bounds (dat_bounds hb) n
  have hp : (0 : Int) < 256 ^ n := Int.pow_pos (by omega)
  rcases Int.lt_or_le 0 (dsum (fun j => dat b (n + j)) b.length) with h4 | h4
  · have : 256 ^ n * 1 ≤ 256 ^ n * dsum (fun j => dat b (n + j)) b.length := Int.mul_le_mul_of_nonneg_left (by omega) (by omega)
    omega
  · have h5 : dsum (fun j => dat b (n + j)) b.length = 0 := by omega
    rw [h5] at h1; omega
theorem Minus_val {a b : List Int} (ha : Dg a) (hb : Dg b) (la : a.length ≤ 2000) (lb : b.length ≤ 2000) (hle : dV b ≤ dV a) : ∃ c, smithyref02_Minus a b = some c ∧ Dg c ∧ c.length = a.length ∧ dV c = dV a - dV b := by
  have h := wlx_inv (b := fun s => smithyref02_Minus.b1 (a.length : Int) a b s.1 s.2.1 s.2.2) (fun i s => s.2.2 = (i : Int) ∧ s.1.length = i ∧ Dg s.1 ∧ 0 ≤ s.2.1 ∧ s.2.1 ≤ 1 ∧ dV s.1 + dsum (dat b) i = dsum (dat a) i + s.2.1 * 256 ^ i) (Q := fun s => s.1.length = a.length ∧ Dg s.1 ∧ 0 ≤ s.2.1 ∧ s.2.1 ≤ 1 ∧ dV s.1 + dsum (dat b) a.length = dV a + s.2.1 * 256 ^ a.length) a.length
    (fun i ⟨x, c, k⟩ hi ⟨hk, hl, hd, hc0, hc1, hv⟩ => by
      dsimp only at hk hl hd hc0 hc1 hv
      subst hk
      have h2 : wi ((i : Int) + 1) = ((i + 1 : Nat) : Int) := by rw [wi_id (by omega)]; omega
      have b1 := dat_bounds ha i
      have b2 := dat_bounds hb i
      have e1 : lget a i = dat a i := by unfold dat; rw [if_pos hi]
      have e2 : wi (dat a i - dat b i) = dat a i - dat b i := wi_id (by omega)
      have e3 : wi (dat a i - dat b i - c) = dat a i - dat b i - c := wi_id (by omega)
      have e4 : wi (dat a i - dat b i - c + 256) = dat a i - dat b i - c + 256 := wi_id (by omega)
      have hstep : ∀ v c' : Int, (bif decide (dat a i - dat b i - c < 0) then some ((1 : Int), dat a i - dat b i - c + 256) else some (0, dat a i - dat b i - c)) = some (c', v) → smithyref02_Minus.b1 (a.length : Int) a b x c (i : Int) = some (.next (x ++ [v], c', ((i + 1 : Nat) : Int))) := fun v c' hv => by
        simp only [smithyref02_Minus.b1, Let_eq, decide_eq_true (show (i : Int) < (a.length : Int) by omega), cond_true, Chk_ok (show (0 : Int) ≤ (i : Int) ∧ (i : Int) < (a.length : Int) by omega), Int.toNat_natCast, at_eq b i (by omega), Option.bind_some, e1, e2, e3, e4, hv, h2]
        rw [Chk_ok (by simp; omega)]
      have hfin : ∀ v c' : Int, 0 ≤ v → v < 256 → 0 ≤ c' → c' ≤ 1 → v + dat b i + c = dat a i + 256 * c' → (bif decide (dat a i - dat b i - c < 0) then some ((1 : Int), dat a i - dat b i - c + 256) else some (0, dat a i - dat b i - c)) = some (c', v) → ∃ s', smithyref02_Minus.b1 (a.length : Int) a b x c (i : Int) = some (.next s') ∧ (s'.2.2 = ((i + 1 : Nat) : Int) ∧ s'.1.length = i + 1 ∧ Dg s'.1 ∧ 0 ≤ s'.2.1 ∧ s'.2.1 ≤ 1 ∧ dV s'.1 + dsum (dat b) (i + 1) = dsum (dat a) (i + 1) + s'.2.1 * 256 ^ (i + 1)) := fun v c' v0 v1 c0 c1 he hv2 => by
        refine ⟨_, hstep v c' hv2, rfl, by simp [hl], dg_app hd (dg_one ⟨v0, v1⟩), c0, c1, ?_⟩
        show dV (x ++ [v]) + dsum (dat b) (i + 1) = dsum (dat a) (i + 1) + c' * 256 ^ (i + 1)
        rw [dV_snoc, hl, dsum_succ, dsum_succ, Int.pow_succ]
        have e5 : (v + dat b i + c) * 256 ^ i = (dat a i + 256 * c') * 256 ^ i := by rw [he]
        have e6 : c' * (256 ^ i * 256) = 256 * c' * 256 ^ i := by rw [Int.mul_comm (256 ^ i), ← Int.mul_assoc, Int.mul_comm c' 256]
        rw [e6]
        simp only [Int.add_mul] at e5
        omega
      by_cases hneg : dat a i - dat b i - c < 0
      · exact hfin (dat a i - dat b i - c + 256) 1 (by omega) (by omega) (by omega) (by omega) (by omega) (by rw [decide_eq_true hneg]; rfl)
      · exact hfin (dat a i - dat b i - c) 0 (by omega) (by omega) (by omega) (by omega) (by omega) (by rw [decide_eq_false hneg]; rfl))
    (fun ⟨x, c, k⟩ ⟨hk, hl, hd, hc0, hc1, hv⟩ => by
      dsimp only at hk hl hd hc0 hc1 hv
      subst hk
      exact ⟨(x, c, (a.length : Int)), by simp only [smithyref02_Minus.b1, Let_eq, decide_eq_false (show ¬ (a.length : Int) < (a.length : Int) by omega), cond_false], hl, hd, hc0, hc1, hv⟩)
    (s0 := ([], 0, ((0 : Nat) : Int))) ⟨rfl, rfl, dg_nil, by show (0 : Int) ≤ 0; omega, by show (0 : Int) ≤ 1; omega, by simp [dV, dsum]⟩ (by omega)
  obtain ⟨⟨x, c, k⟩, h1, hl, hd, hc0, hc1, hv⟩ := h
  dsimp only at hl hd hc0 hc1 hv
  have hlt := dV_lt ha
  rw [low_of hb (by omega)] at hv
  have hx := dV_lt hd
  rw [hl] at hx
  have hcz : c = 0 := by
    rcases Int.lt_or_le 0 c with h4 | h4
    · have h5 : c = 1 := by omega
      rw [h5, Int.one_mul] at hv; omega
    · omega
  rw [hcz, Int.zero_mul] at hv
  refine ⟨x, ?_, hd, hl, by omega⟩
  unfold smithyref02_Minus
  rw [Let_eq, Let_eq, show (([], 0, 0) : List Int × Int × Int) = ([], 0, ((0 : Nat) : Int)) from rfl, h1, Option.bind_some]; rfl
/-- No noughts at the end. -/
def Ti (x : List Int) : Prop := 0 < x.length → dat x (x.length - 1) ≠ 0
theorem ti_len {x : List Int} (hx : Dg x) (h : Ti x) (h0 : 0 < x.length) : 256 ^ (x.length - 1) ≤ dV x := by
  have h1 := h h0
  have h2 : dV x = dsum (dat x) (x.length - 1 + 1) := by rw [show x.length - 1 + 1 = x.length by omega]; rfl
  have h3 := dat_bounds hx (x.length - 1)
  have h4 := dsum_bounds (dat_bounds hx) (x.length - 1)
  have h5 : 1 * 256 ^ (x.length - 1) ≤ dat x (x.length - 1) * 256 ^ (x.length - 1) := Int.mul_le_mul_of_nonneg_right (by omega) (Int.le_of_lt (Int.pow_pos (by omega)))
  rw [h2, dsum_succ]; omega
theorem ipow_le {m n : Nat} (h : m ≤ n) : (256 : Int) ^ m ≤ 256 ^ n := by
  have := Nat.pow_le_pow_right (show 0 < 256 by decide) h
  have e : ∀ k : Nat, ((256 ^ k : Nat) : Int) = (256 : Int) ^ k := fun k => by rw [Int.natCast_pow]; rfl
  rw [← e, ← e]; omega
theorem ti_le {x y : List Int} (hx : Dg x) (hy : Dg y) (h : Ti x) (hv : dV x ≤ dV y) : x.length ≤ y.length := by
  rcases Nat.lt_or_ge y.length x.length with hl | hl
  · have h1 := ti_len hx h (by omega)
    have h2 := dV_lt hy
    have h3 := ipow_le (show y.length ≤ x.length - 1 by omega)
    omega
  · exact hl
/-- Noughts taken off. -/
theorem cut_val (x : List Int) (hx : Dg x) (lx : x.length ≤ 100000) : ∃ z, wlx (fun s => smithyref02_Div.b3 s) x = some (.inl z) ∧ Dg z ∧ Ti z ∧ dV z = dV x := by
  have h := wlx_down (b := fun s => smithyref02_Div.b3 s) (fun m s => s.length = m ∧ Dg s ∧ dV s = dV x) (Q := fun o => ∃ z, o = .inl z ∧ Dg z ∧ Ti z ∧ dV z = dV x) x.length
    (fun m s hm ⟨hl, hd, hv⟩ => by
      cases m with
      | zero =>
        refine .inr (.inl ⟨s, ?_, s, rfl, hd, fun h0 => by omega, hv⟩)
        simp only [smithyref02_Div.b3, Let_eq, hl, decide_eq_false (show ¬ (0 : Int) < ((0 : Nat) : Int) by omega), cond_false, Option.bind_some]
      | succ m =>
        have h2 : wi ((s.length : Int) - 1) = (m : Int) := by rw [wi_id (by omega)]; omega
        have hb : smithyref02_Div.b3 s = bif (lget s m == 0) then some (.next (s.take m)) else some (.brk s) := by
          simp only [smithyref02_Div.b3, Let_eq, decide_eq_true (show (0 : Int) < (s.length : Int) by omega), cond_true, h2, Chk_ok (show (0 : Int) ≤ (m : Int) ∧ (m : Int) < (s.length : Int) by omega), Chk_ok (show (0 : Int) ≤ (m : Int) ∧ (m : Int) ≤ (s.length : Int) by omega), Int.toNat_natCast, Option.bind_some]
        have hda : dat s m = lget s m := by unfold dat; rw [if_pos (by omega)]
        cases e : (lget s m == 0) with
        | true =>
          rw [e] at hb
          have e0 : lget s m = 0 := eq_of_beq e
          have hlen : (s.take m).length = m := by simp; omega
          have hdt : ∀ j, j < m → dat (s.take m) j = dat s j := fun j hj => by
            unfold dat lget
            rw [if_pos (by omega), if_pos (by omega), List.getD_eq_getElem?_getD, List.getD_eq_getElem?_getD, List.getElem?_take_of_lt hj]
          refine .inl ⟨_, m, by omega, hb, hlen, dg_of_dat fun j => ?_, ?_⟩
          · by_cases ej : j < m
            · rw [hdt j ej]; exact dat_bounds hd j
            · unfold dat; rw [if_neg (by omega)]; omega
          · rw [← hv]
            unfold dV
            rw [hlen, hl, dsum_succ, dsum_congr hdt, hda, e0]; simp
        | false =>
          rw [e] at hb
          refine .inr (.inl ⟨s, hb, s, rfl, hd, fun _ => ?_, hv⟩)
          rw [hl, show m + 1 - 1 = m by omega, hda]
          intro e0; rw [e0] at e; simp at e) ⟨rfl, hx, rfl⟩ (by omega)
  obtain ⟨o, ho, z, rfl, h1, h2, h3⟩ := h
  exact ⟨z, ho, h1, h2, h3⟩
/-- As often as it goes. -/
theorem often_val {m : List Int} (hm : Dg m) (lm : m.length ≤ 1000) (h0 : 0 < dV m) {k : Nat} {y x : List Int} (hx : Dg x) (lx : x.length ≤ 1100) (ly : y.length ≤ 1000) (hk : k < y.length) (hy : Dg y) (hyk : dat y k = 0) (hlt : dV x < 256 * dV m) :
    ∃ y' x' c, wlx (fun s => smithyref02_Div.b2 m (k : Int) s.1 s.2) (y, x) = some (.inl (y', x')) ∧ Dg x' ∧ x'.length = x.length ∧ Dg y' ∧ y'.length = y.length ∧ 0 ≤ c ∧ dat y' k = c ∧ (∀ j, j ≠ k → dat y' j = dat y j) ∧ dV x = c * dV m + dV x' ∧ dV x' < dV m := by
  have hxn := dV_nonneg hx
  obtain ⟨q, hq⟩ : ∃ q : Nat, dV x / dV m = (q : Int) := ⟨(dV x / dV m).toNat, by have := Int.ediv_nonneg hxn (Int.le_of_lt h0); omega⟩
  have hr0 := Int.emod_nonneg (dV x) (show dV m ≠ 0 by omega)
  have hr1 := Int.emod_lt_of_pos (dV x) h0
  have hdm := Int.mul_ediv_add_emod (dV x) (dV m)
  have hq256 : q < 256 := by
    have h1 : dV x / dV m < 256 := Int.ediv_lt_of_lt_mul h0 hlt
    omega
  have h := wlx_down (b := fun s => smithyref02_Div.b2 m (k : Int) s.1 s.2) (fun n s => n ≤ q ∧ Dg s.2 ∧ s.2.length = x.length ∧ s.1.length = y.length ∧ dat s.1 k = (q : Int) - n ∧ (∀ j, j ≠ k → dat s.1 j = dat y j) ∧ dV s.2 = dV x % dV m + n * dV m) (Q := fun o => ∃ y' x', o = .inl (y', x') ∧ Dg x' ∧ x'.length = x.length ∧ y'.length = y.length ∧ dat y' k = (q : Int) ∧ (∀ j, j ≠ k → dat y' j = dat y j) ∧ dV x' = dV x % dV m) q
    (fun n ⟨s, z⟩ hn ⟨hnq, hd, hl, hsl, hsk, hsj, hv⟩ => by
      dsimp only at hd hl hsl hsk hsj hv
      have hless := Less_val hd hm (by omega) (by omega)
      cases n with
      | zero =>
        have hvz : dV z < dV m := by rw [hv]; simp; omega
        refine .inr (.inl ⟨(s, z), ?_, s, z, rfl, hd, hl, hsl, by omega, hsj, by rw [hv]; simp⟩)
        simp only [smithyref02_Div.b2, hless, Option.bind_some, decide_eq_true hvz, Let_eq, Bool.not_true, cond_false]
      | succ n =>
        have e1 : ((n + 1 : Nat) : Int) * dV m = n * dV m + dV m := by rw [Int.natCast_add, Int.add_mul]; simp
        have hnn : 0 ≤ (n : Int) * dV m := Int.mul_nonneg (by omega) (by omega)
        rw [e1] at hv
        have hvz : ¬ dV z < dV m := by omega
        obtain ⟨c, hc, hcd, hcl, hcv⟩ := Minus_val hd hm (by omega) (by omega) (by omega)
        have hw : wi (dat s k + 1) = dat s k + 1 := wi_id (by omega)
        have hg : lget s k = dat s k := by unfold dat; rw [if_pos (by omega)]
        refine .inl ⟨(s.set k (dat s k + 1), c), n, by omega, ?_, by omega, hcd, by show c.length = _; omega, by simp [hsl], ?_, ?_, ?_⟩
        · simp only [smithyref02_Div.b2, hless, Option.bind_some, decide_eq_false hvz, Let_eq, Bool.not_false, cond_true, hc, Int.toNat_natCast, Chk_ok (show (0 : Int) ≤ (k : Int) ∧ (k : Int) < (s.length : Int) by omega), hg, hw]
        · show dat (s.set k _) k = _
          rw [dat_set s (by omega), if_pos rfl]; omega
        · intro j hj
          show dat (s.set k _) j = _
          rw [dat_set s (by omega), if_neg hj]; exact hsj j hj
        · show dV c = _
          rw [hcv, hv]; omega) (s0 := (y, x)) ⟨Nat.le_refl _, hx, rfl, rfl, by show dat y k = _; omega, fun _ _ => rfl, by
      show dV x = _
      rw [← hq, Int.mul_comm]; omega⟩ (by omega)
  obtain ⟨o, ho, y', x', rfl, h1, h2, h3, h4, h5, h6⟩ := h
  refine ⟨y', x', q, ho, h1, h2, dg_of_dat fun j => ?_, h3, by omega, h4, h5, ?_, by rw [h6]; exact hr1⟩
  · by_cases ej : j = k
    · subst ej; omega
    · rw [h5 j ej]; exact dat_bounds hy j
  · rw [h6, ← hq, Int.mul_comm]; omega
theorem dsum_front (f : Nat → Int) (n : Nat) : dsum f (1 + n) = f 0 + 256 * dsum (fun j => f (1 + j)) n := by
  rw [dsum_split]
  have : dsum f 1 = f 0 := by simp [dsum]
  rw [this]; rfl
theorem Div_val {a m : List Int} (ha : Dg a) (hm : Dg m) (la : a.length ≤ 1000) (lm : m.length ≤ 1000) (h0 : 0 < dV m) : ∃ q r, smithyref02_Div a m = some (q, r) ∧ Dg q ∧ q.length = a.length ∧ dV q = dV a / dV m ∧ Dg r ∧ Ti r ∧ dV r = dV a % dV m := by
  have h := wlx_down (b := fun s => smithyref02_Div.b1 a m s.1 s.2.1 s.2.2) (fun k s => s.2.2 = (k : Int) - 1 ∧ k ≤ a.length ∧ s.1.length = a.length ∧ Dg s.1 ∧ (∀ j, j < k → dat s.1 j = 0) ∧ Dg s.2.1 ∧ Ti s.2.1 ∧ dV s.2.1 < dV m ∧ dsum (fun j => dat a (k + j)) (a.length - k) = dsum (fun j => dat s.1 (k + j)) (a.length - k) * dV m + dV s.2.1) (Q := fun o => ∃ y x j, o = .inl (y, x, j) ∧ y.length = a.length ∧ Dg y ∧ Dg x ∧ Ti x ∧ dV x < dV m ∧ dV a = dV y * dV m + dV x) a.length
    (fun k ⟨y, x, j⟩ hk ⟨hj, hkl, hyl, hyd, hyz, hxd, hxt, hxm, hv⟩ => by
      dsimp only at hj hyl hyd hyz hxd hxt hxm hv
      subst hj
      cases k with
      | zero =>
        refine .inr (.inl ⟨(y, x, ((0 : Nat) : Int) - 1), ?_, y, x, _, rfl, hyl, hyd, hxd, hxt, hxm, ?_⟩)
        · simp only [smithyref02_Div.b1, Let_eq]; rfl
        · simp only [Nat.zero_add, Nat.sub_zero] at hv
          unfold dV at hv ⊢
          rw [hyl]; exact hv
      | succ k =>
        have e0 : ((k + 1 : Nat) : Int) - 1 = (k : Int) := by omega
        have e3 : wi ((k : Int) - 1) = (k : Int) - 1 := wi_id (by omega)
        have hak := dat_bounds ha k
        have hg : lget a k = dat a k := by unfold dat; rw [if_pos (by omega)]
        have hxl : x.length ≤ m.length := ti_le hxd hm hxt (by omega)
        have hnv : dV ([dat a k] ++ x) = dat a k + 256 * dV x := by
          unfold dV
          rw [List.length_append, List.length_singleton, dsum_front]
          rw [dat_app, if_pos (by simp), dat_one, if_pos rfl, dsum_congr (g := dat x) fun j hj => by rw [dat_app, if_neg (by simp), List.length_singleton, Nat.add_sub_cancel_left]]
        have hnd : Dg ([dat a k] ++ x) := dg_app (dg_one hak) hxd
        obtain ⟨y', x', c, hw, hx'd, hx'l, hy'd, hy'l, hc0, hyc, hyj, hcv, hx'm⟩ := often_val hm lm h0 (k := k) (y := y) (x := [dat a k] ++ x) hnd (by simp; omega) (by omega) (by omega) hyd (hyz k (by omega)) (by rw [hnv]; omega)
        obtain ⟨z, hz, hzd, hzt, hzv⟩ := cut_val x' hx'd (by rw [hx'l]; simp; omega)
        refine .inl ⟨(y', z, (k : Int) - 1), k, by omega, ?_, rfl, by omega, by show y'.length = _; omega, hy'd, fun j hj => ?_, hzd, hzt, by show dV z < _; omega, ?_⟩
        · show smithyref02_Div.b1 a m y x (((k + 1 : Nat) : Int) - 1) = _
          rw [e0]
          simp only [smithyref02_Div.b1, Let_eq, decide_eq_true (show (0 : Int) ≤ (k : Int) by omega), cond_true, Chk_ok (show (0 : Int) ≤ (k : Int) ∧ (k : Int) < (a.length : Int) by omega), Int.toNat_natCast, hg]
          rw [Chk_ok (by simp; omega), hw, Option.bind_some]
          simp only [Sum.elim_inl, hz, Option.bind_some, e3]
        · show dat y' j = 0
          rw [hyj j (by omega)]; exact hyz j (by omega)
        · show dsum (fun j => dat a (k + j)) (a.length - k) = dsum (fun j => dat y' (k + j)) (a.length - k) * dV m + dV z
          have e4 : a.length - k = 1 + (a.length - (k + 1)) := by omega
          rw [e4, dsum_front, dsum_front]
          show dat a k + 256 * dsum (fun j => dat a (k + (1 + j))) _ = (dat y' k + 256 * dsum (fun j => dat y' (k + (1 + j))) _) * dV m + dV z
          have e5 : dsum (fun j => dat a (k + (1 + j))) (a.length - (k + 1)) = dsum (fun j => dat a (k + 1 + j)) (a.length - (k + 1)) := dsum_congr fun j _ => by rw [Nat.add_assoc]
          have e6 : dsum (fun j => dat y' (k + (1 + j))) (a.length - (k + 1)) = dsum (fun j => dat y (k + 1 + j)) (a.length - (k + 1)) := dsum_congr fun j _ => by rw [hyj _ (by omega), Nat.add_assoc]
          rw [e5, e6, hyc, hv, hzv, Int.add_mul, Int.mul_assoc]
          rw [hnv] at hcv
          omega) (s0 := (List.replicate a.length 0, [], wi ((a.length : Int) - 1))) ⟨by rw [wi_id (by omega)], Nat.le_refl _, by simp, dg_of_dat fun j => by rw [dat_rep]; omega, fun j _ => dat_rep _ j, dg_nil, fun h => absurd h (by simp), by simp [dV, dsum]; exact h0, by simp [dsum, dV]⟩ (by omega)
  obtain ⟨o, ho, y, x, j, rfl, hyl, hyd, hxd, hxt, hxm, hv⟩ := h
  have hxn := dV_nonneg hxd
  refine ⟨y, x, ?_, hyd, hyl, ?_, hxd, hxt, ?_⟩
  · obtain ⟨z, hz, hzi⟩ := Zero_eq m (by omega)
    have hzf : z = false := by
      cases z with
      | false => rfl
      | true =>
        have h1 := hzi.1 rfl
        have h2 : dV m = 0 := (dsum_nought (dat_bounds hm) _).2 fun j hj => by unfold dat; rw [if_pos hj]; exact h1 j hj
        omega
    unfold smithyref02_Div
    simp only [Let_eq, Int.toNat_natCast]
    rw [Chk_ok (by omega), hz, hzf, Option.bind_some, cond_false, ho, Option.bind_some]; rfl
  · rw [hv, Int.add_comm, Int.add_mul_ediv_right _ _ (by omega), Int.ediv_eq_zero_of_lt hxn hxm, Int.zero_add]
  · rw [hv, Int.add_comm, Int.add_mul_emod_self_right, Int.emod_eq_of_lt hxn hxm]
end Go.Proofs.Ytccilbklafhjiaa
