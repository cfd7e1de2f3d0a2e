/- The reading of bytes: the program's and the document's, side by side. -/
import Derived.Test.YtapfkdcilfpbhaaRpI
namespace Go.Proofs.Ytapfkdcilfpbhaa
open Go.RowKit
set_option linter.unusedVariables false
set_option linter.unusedSimpArgs false
/-- A fact that omega is not to look into. -/
structure RBox (p : Prop) : Prop where
  get : p
def sg (b : List B8) (i j : Nat) : List B8 := (b.drop i).take (j - i)
theorem sg_len {b : List B8} {i j : Nat} (h : j ≤ b.length) : (sg b i j).length = j - i := by
  unfold sg; rw [List.length_take, List.length_drop]; omega
theorem sg_app (b : List B8) {i m j : Nat} (h : i ≤ m) (hm : m ≤ j) : sg b i j = sg b i m ++ sg b m j := by
  unfold sg
  rw [show j - i = (m - i) + (j - m) by omega, List.take_add, List.drop_drop, show i + (m - i) = m by omega]
def Sim (b : List B8) (k : Nat) : Prop := ∀ (a stop dp : Nat) (out : List Node), a ≤ b.length → stop ≤ b.length → (a < stop ∨ a = b.length) → dp ≤ 64 → 65 ≤ k + dp → out.length + (b.length - a) ≤ 5000000 →
  (∃ e X, e ≠ 0 ∧ smithyref07_read k b (a : Int) (stop : Int) (dp : Int) = some ([], 0, e) ∧ rlp_reader_item k (b.drop a, out) ((stop - a : Nat) : Int) (dp : Int) = some (e, X)) ∨
  (∃ ns nx d, a < nx ∧ nx ≤ stop ∧ dp + d ≤ 64 ∧ RIt true ns (sg b a nx) d ∧ smithyref07_read k b (a : Int) (stop : Int) (dp : Int) = some (ns, ((nx : Nat) : Int), 0) ∧ rlp_reader_item k (b.drop a, out) ((stop - a : Nat) : Int) (dp : Int) = some (0, (b.drop nx, out ++ ns)))
theorem dround (F : DF) (x45 : Bool × Int × Int × Int) (b : List B8) (acc : List Node) (p f v dp : Nat) (h1 : x45.2.1 = (f : Int)) (h2 : x45.2.2.1 = (v : Int)) (hd : dp ≤ 1000) (hf : f + v ≤ 10000000) :
    smithyref07_readB.b1 x45 (dp : Int) F b [] acc (p : Int) = if p < f + v then (F b (p : Int) ((f + v : Nat) : Int) ((dp + 1 : Nat) : Int)).bind fun x113 => bif (x113.2.2 != 0) then some (.ret ([], 0, x113.2.2)) else Chk ((acc.length + x113.1.length) * 40 ≤ 140737488355328) <| some (.next (acc ++ x113.1, x113.2.1)) else some (.brk (acc, (p : Int))) := by
  have e1 : wi ((dp : Int) + 1) = ((dp + 1 : Nat) : Int) := by rw [wi_id (by omega)]; omega
  have e2 : wi ((f : Int) + (v : Int)) = ((f + v : Nat) : Int) := by rw [wi_id (by omega)]; omega
  simp only [smithyref07_readB.b1, Let_eq, h1, h2, e1, e2]
  by_cases e : p < f + v
  · rw [if_pos e, decide_eq_true (by omega), cond_true]
  · rw [if_neg e, decide_eq_false (by omega), cond_false]
theorem sim_loop (b : List B8) (hl : b.length ≤ 1000000) (k : Nat) (hS : Sim b k) (dp : Nat) (hdp : dp < 64) (hk : 65 ≤ k + (dp + 1)) (x45 : Bool × Int × Int × Int) (f v : Nat) (h1 : x45.2.1 = (f : Int)) (h2 : x45.2.2.1 = (v : Int)) (hhi : f + v ≤ b.length) : ∀ (m p : Nat) (acc out : List Node), p ≤ f + v → f + v - p ≤ m → acc.length + (f + v - p) ≤ 5000000 → out.length + (b.length - p) ≤ 5000000 →
    (∃ e X, e ≠ 0 ∧ wlk (fun s => smithyref07_readB.b1 x45 (dp : Int) (smithyref07_read k) b [] s.1 s.2) (m + 1) ((acc, (p : Int)) : List Node × Int) = some (.inr ([], 0, e)) ∧ wlk (fun s => rlp_reader_list.b1 ((b.length - (f + v) : Nat) : Int) (dp : Int) (rlp_reader_item k) s) (m + 1) ((b.drop p, out) : List B8 × List Node) = some (.inr (e, X))) ∨
    (∃ ns d, dp + 1 + d ≤ 64 ∧ RIt false ns (sg b p (f + v)) d ∧ wlk (fun s => smithyref07_readB.b1 x45 (dp : Int) (smithyref07_read k) b [] s.1 s.2) (m + 1) ((acc, (p : Int)) : List Node × Int) = some (.inl (acc ++ ns, ((f + v : Nat) : Int))) ∧ wlk (fun s => rlp_reader_list.b1 ((b.length - (f + v) : Nat) : Int) (dp : Int) (rlp_reader_item k) s) (m + 1) ((b.drop p, out) : List B8 × List Node) = some (.inl (b.drop (f + v), out ++ ns))) := by
  intro m
  induction m with
  | zero =>
    intro p acc out hp hm ha ho
    obtain rfl : p = f + v := by omega
    refine .inr ⟨[], 0, by omega, ?_, ?_, ?_⟩
    · unfold sg; rw [Nat.sub_self, List.take_zero]; exact .nil
    · rw [List.append_nil]
      refine wlk_brk ?_
      dsimp only
      rw [dround _ _ _ _ _ _ _ _ h1 h2 (by omega) (by omega), if_neg (by omega)]
    · rw [List.append_nil]
      refine wlk_brk ?_
      rw [rround _ _ _ _ _ (by omega) (by rw [List.length_drop]; omega) (by omega), if_neg (by rw [List.length_drop]; omega)]
  | succ m ih =>
    intro p acc out hp hm ha ho
    by_cases hpe : p < f + v
    · have hlen : (b.drop p).length = b.length - p := List.length_drop
      have hleft : (b.drop p).length - (b.length - (f + v)) = f + v - p := by rw [hlen]; omega
      rcases hS p (f + v) (dp + 1) out (by omega) hhi (.inl hpe) (by omega) hk ho with ⟨e, X, he, hr, hi⟩ | ⟨n1, nx, d1, hn1, hn2, hd1, hit, hr, hi⟩
      · refine .inl ⟨e, X, he, wlk_ret ?_, wlk_ret ?_⟩
        · dsimp only
          rw [dround _ _ _ _ _ _ _ _ h1 h2 (by omega) (by omega), if_pos hpe, hr, Option.bind_some]
          dsimp only
          rw [show ((e != 0) : Bool) = true from bne_iff_ne.2 he, cond_true]
        · rw [rround _ _ _ _ _ (by omega) (by omega) (by omega), if_pos (by omega), hleft, hi, Option.bind_some]
          dsimp only
          rw [show ((e != 0) : Bool) = true from bne_iff_ne.2 he, cond_true]
      · have hnl := (hit.epos (by rw [sg_len (by omega)]; omega)).2
        rw [sg_len (by omega)] at hnl
        have hr1 : (fun s : List Node × Int => smithyref07_readB.b1 x45 (dp : Int) (smithyref07_read k) b [] s.1 s.2) (acc, (p : Int)) = some (.next (acc ++ n1, (nx : Int))) := by
          dsimp only
          rw [dround _ _ _ _ _ _ _ _ h1 h2 (by omega) (by omega), if_pos hpe, hr, Option.bind_some]
          dsimp only
          rw [show (((0 : Int) != 0) : Bool) = false from rfl, cond_false, Chk_ok (by omega)]
        have hi1 : (fun s : List B8 × List Node => rlp_reader_list.b1 ((b.length - (f + v) : Nat) : Int) (dp : Int) (rlp_reader_item k) s) (b.drop p, out) = some (.next (b.drop nx, out ++ n1)) := by
          dsimp only
          rw [rround _ _ _ _ _ (by omega) (by omega) (by omega), if_pos (by omega), hleft, hi, Option.bind_some]
          rfl
        rw [wlk_next hr1, wlk_next hi1]
        rcases ih nx (acc ++ n1) (out ++ n1) hn2 (by omega) (by rw [List.length_append]; omega) (by rw [List.length_append]; omega) with ⟨e, X, he, hr2, hi2⟩ | ⟨n2, d2, hd2, hit2, hr2, hi2⟩
        · exact .inl ⟨e, X, he, hr2, hi2⟩
        · refine .inr ⟨n1 ++ n2, max d1 d2, by omega, ?_, ?_, ?_⟩
          · rw [sg_app b (m := nx) (by omega) hn2]; exact .cons hit hit2
          · rw [hr2, List.append_assoc]
          · rw [hi2, List.append_assoc]
    · have hpe2 : p = f + v := by omega
      subst hpe2
      refine .inr ⟨[], 0, by omega, ?_, ?_, ?_⟩
      · unfold sg; rw [Nat.sub_self, List.take_zero]; exact .nil
      · rw [List.append_nil]
        refine wlk_brk ?_
        dsimp only
        rw [dround _ _ _ _ _ _ _ _ h1 h2 (by omega) (by omega), if_neg (by omega)]
      · rw [List.append_nil]
        refine wlk_brk ?_
        rw [rround _ _ _ _ _ (by omega) (by rw [List.length_drop]; omega) (by omega), if_neg (by rw [List.length_drop]; omega)]
theorem sim (b : List B8) (hl : b.length ≤ 1000000) : ∀ k, Sim b k
  | 0 => fun a stop dp out ha hs hd hdp hk ho => absurd hk (by omega)
  | k + 1 => fun a stop dp out ha hs hd hdp hk ho => by
    rw [dread_succ, ritem_succ]
    by_cases h0 : a = b.length
    · refine .inl ⟨3, ([], out), by decide, dread_none _ _ _ _ _ (by omega), ?_⟩
      rw [h0, List.drop_length, ritem_none]
    have hlt : a < b.length := by omega
    have has : a < stop := by omega
    have hlen : (b.drop a).length = b.length - a := List.length_drop
    by_cases hc : (lget (b.drop a) 0).toNat < 128
    · refine .inr ⟨[(false, [lget (b.drop a) 0], 0)], a + 1, 0, by omega, by omega, by omega, ?_, dread_byte _ _ _ _ _ hlt (by omega) hc, ?_⟩
      · have : sg b a (a + 1) = [lget (b.drop a) 0] := by
          unfold sg
          rw [show a + 1 - a = 1 by omega]
          cases hb : b.drop a with
          | nil => rw [hb] at hlen; simp at hlen; omega
          | cons x r => rfl
        rw [this]
        exact .one _ rfl hc
      · rw [ritem_byte _ _ _ _ _ (by omega) hc (by omega), List.drop_drop]
    have hc2 : 128 ≤ (lget (b.drop a) 0).toNat := by omega
    have hst : stop ≤ 10000000 := by omega
    have hsa : stop - a ≤ 10000000 := by omega
    have hol : out.length ≤ 10000000 := by omega
    have hb7 : b.length ≤ 10000000 := by omega
    have hR := RBox.mk (ritem_head (rlp_reader_item k) (b.drop a) out (stop - a) dp (by omega) hc2 (by omega) hol hsa)
    have hD := RBox.mk (dread_head (smithyref07_read k) b a stop dp hlt hc2 hb7 hst)
    by_cases he : (hdE (b.drop a)).1 = 0
    · have hsd := hd_sound (b.drop a) (by omega) (by omega) he
      have hD := RBox.mk (hD.get.2 he)
      have hR := RBox.mk (hR.get.2 he)
      generalize (hdE (b.drop a)).2.1 = v at *
      generalize (hdE (b.drop a)).2.2 = h at *
      obtain ⟨heq, hh1, hh2⟩ := hsd
      have hrest : (b.drop a).drop h = b.drop (a + h) := List.drop_drop
      rw [hrest] at heq hD hR
      have hrl : (b.drop (a + h)).length = b.length - (a + h) := List.length_drop
      by_cases c1 : (b.drop (a + h)).length < v
      · obtain ⟨X, hX⟩ := hR.get.1 c1
        exact .inl ⟨3, X, by decide, hD.get.1 c1, hX⟩
      by_cases c2 : stop < a + h + v
      · obtain ⟨X, hX⟩ := hR.get.2.1 (by omega) (by omega)
        exact .inl ⟨2, X, by decide, hD.get.2.1 (by omega) c2, hX⟩
      have D3 := RBox.mk (hD.get.2.2 (by omega) (by omega))
      have R3 := RBox.mk (hR.get.2.2 (by omega) (by omega))
      have hseg : ∀ m, b.drop a = headV v m ++ b.drop (a + h) → sg b a (a + h + v) = headV v m ++ (b.drop (a + h)).take v := fun m hm => by
        have hhl : (headV v m).length = h := by
          have := congrArg List.length hm
          rw [List.length_append, hlen, hrl] at this; omega
        rw [sg_app b (m := a + h) (by omega) (by omega)]
        unfold sg
        rw [show a + h - a = h by omega, show a + h + v - (a + h) = v by omega]
        congr 1
        conv => lhs; rw [hm, ← hhl]
        exact take_app _ _
      by_cases c3 : 192 ≤ (lget (b.drop a) 0).toNat
      · rw [if_pos c3] at heq
        have hseg := hseg 64 heq
        rw [R3.get.2 c3]
        by_cases c4 : dp = 64
        · refine .inl ⟨4, (b.drop (a + h), out), by decide, D3.get.2.1 c3 (by omega), ?_⟩
          rw [rlist_val _ _ _ _ _ (by omega) (by omega) (by omega) hdp, if_pos c4]; rfl
        · obtain ⟨x45, hx1, hx2, hx3⟩ := D3.get.2.2 c3 (by omega)
          rw [hx3, rlist_val _ _ _ _ _ (by omega) (by omega) (by omega) hdp, if_neg c4, show (b.drop (a + h)).length - v = b.length - (a + h + v) by omega]
          rcases sim_loop b hl k (sim b hl k) dp (by omega) (by omega) x45 (a + h) v hx1 hx2 (by omega) v (a + h) [(true, [], 0)] (out ++ [(true, [], 0)]) (by omega) (by omega) (by rw [List.length_singleton]; omega) (by rw [List.length_append, List.length_singleton]; omega) with ⟨e, X, hne, hr, hi⟩ | ⟨ns, d, hd2, hit, hr, hi⟩
          · refine .inl ⟨e, X, hne, ?_, ?_⟩
            · rw [wlx_of hr (by omega)]; rfl
            · rw [wlx_of hi (by omega)]; rfl
          · have hnl := (hit.epos (by rw [sg_len (by omega)]; omega)).2
            rw [sg_len (by omega)] at hnl
            refine .inr ⟨(true, [], (ns.length : Int)) :: ns, a + h + v, d + 1, by omega, by omega, by omega, ?_, ?_, ?_⟩
            · have := RIt.list hit
              rw [sg_len (by omega), show a + h + v - (a + h) = v by omega] at this
              rw [hseg]
              have h9 : sg b (a + h) (a + h + v) = (b.drop (a + h)).take v := by unfold sg; rw [show a + h + v - (a + h) = v by omega]
              rw [h9] at this
              exact this
            · rw [wlx_of hr (by omega), Option.bind_some, Sum.elim_inl]
              dsimp only
              have hl2 : ([((true, [], 0) : Node)] ++ ns).length = 1 + ns.length := by simp only [List.length_append, List.length_singleton]
              rw [Chk_ok (by rw [hl2]; omega), hl2, wi_id (by omega), show ((1 + ns.length : Nat) : Int) - 1 = (ns.length : Int) by omega]
              rfl
            · rw [wlx_of hi (by omega), Option.bind_some, Sum.elim_inl]
              dsimp only
              have hl2 : (out ++ [(true, [], 0)] ++ ns).length = out.length + 1 + ns.length := by simp only [List.length_append, List.length_singleton]
              rw [Chk_ok (by rw [hl2]; omega), Option.bind_some, lget_list, hl2, wi_id (n := ((out.length + 1 + ns.length : Nat) : Int) - (out.length : Int)) (by omega), wi_id (by omega), set_list, show ((out.length + 1 + ns.length : Nat) : Int) - (out.length : Int) - 1 = (ns.length : Int) by omega]
      · rw [if_neg c3] at heq
        have hseg := hseg 0 heq
        have D4 := RBox.mk (D3.get.1 (by omega))
        have R4 := RBox.mk (R3.get.1 (by omega))
        by_cases c4 : v = 1 ∧ (lget (b.drop (a + h)) 0).toNat < 128
        · obtain ⟨X, hX⟩ := R4.get.1 c4
          exact .inl ⟨2, X, by decide, D4.get.1 c4, hX⟩
        · have htl : ((b.drop (a + h)).take v).length = v := by rw [List.length_take]; omega
          refine .inr ⟨[(false, (b.drop (a + h)).take v, 0)], a + h + v, 0, by omega, by omega, by omega, ?_, D4.get.2 c4, ?_⟩
          · rw [hseg]
            have hb := RIt.bytes ((b.drop (a + h)).take v) (fun hcc => by
              rw [htl] at hcc
              refine c4 ⟨hcc.1, ?_⟩
              have : lget ((b.drop (a + h)).take v) 0 = lget (b.drop (a + h)) 0 := by
                unfold lget; rw [List.getD_eq_getElem?_getD, List.getD_eq_getElem?_getD, List.getElem?_take, if_pos (by omega)]
              rw [← this]; exact hcc.2)
            rw [htl] at hb
            exact hb
          · rw [R4.get.2 c4, List.drop_drop]
    · obtain ⟨X, hX⟩ := hR.get.1 he
      exact .inl ⟨(hdE (b.drop a)).1, X, he, hD.get.1 he, hX⟩
end Go.Proofs.Ytapfkdcilfpbhaa
