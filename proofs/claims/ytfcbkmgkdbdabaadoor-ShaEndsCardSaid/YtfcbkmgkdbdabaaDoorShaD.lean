import Derived.Test.YtfcbkmgkdbdabaaDoorBridge
import Derived.Test.YtfcbkmgkdbdabaaDoorPShaSumsx1
namespace Go.Proofs.YtfcbkmgkdbdabaaDoor
open Go.RowKit Go.Proofs.YtfcbkmgkdbdabaaDoorW.PrintWords

/-- Is y at most z, from the digit below i on? -/
def cmpF (y z : List Int) : Nat → Bool
  | 0 => true
  | i + 1 => if y.getD i 0 = z.getD i 0 then cmpF y z i else decide (y.getD i 0 < z.getD i 0)
def belowG (y z : List Int) : Bool := cmpF y z (max y.length z.length)
def belowF (k : Nat) (n p : Int) (cube : Bool) : Option Bool :=
  (PShaSums.smithyref06_digits.f k n).bind fun x => (PShaSums.smithyref06_times.f k x x).bind fun y => (PShaSums.smithyref06_digits.f k p).bind fun d => if 100 < d.length then none else
    if cube then (PShaSums.smithyref06_times.f k y x).bind fun y2 => some (belowG y2 (List.replicate 12 0 ++ d)) else some (belowG y (List.replicate 8 0 ++ d))

theorem max_run {P : Program} (ts : Array TypeId) (ty : TypeId) (a b : Nat) (w : World) : (Builtin.max_ ts ty #[.int .i64 (a : Int), .int .i64 (b : Int)]).run P w = .ok (.int .i64 ((max a b : Nat) : Int)) w := by
  have e : (if (b : Int) > (a : Int) then (b : Int) else (a : Int)) = ((max a b : Nat) : Int) := by split <;> omega
  simp [Builtin.max_, Builtin.max2, ← e]
theorem infoInt : (Tryd.prog.info? 3).map (fun i => (i.zero, i.size, i.bytes)) = some (some (.int .i64 0), 1, 8) := by kernel_rfl
theorem at_some (l : List Int) (m : Nat) : PShaSums.smithyref06_at.f l (m : Int) = some (l.getD m 0) := by
  unfold PShaSums.smithyref06_at.f
  by_cases h : m < l.length
  · rw [if_pos (by omega), if_pos (by omega)]; simp [Go.Proofs.YtfcbkmgkdbdabaaDoorW.PrintWords.rd]
  · rw [if_neg (by omega)]; congr 1; simp [List.getElem?_eq_none (show l.length ≤ m by omega)]

set_option maxRecDepth 100000 in
set_option maxHeartbeats 8000000 in
theorem ref_below_cube (k : Nat) (n p : Int) (x y y2 d : List Int) (w : World) (hh : PShaSums.smithyref06_digits.f k p = some d ∧ PShaSums.smithyref06_digits.f k n = some x ∧ PShaSums.smithyref06_times.f k x x = some y ∧ PShaSums.smithyref06_times.f k y x = some y2) (hdl : d.length ≤ 100) :
    Calls Tryd.prog 14 #[.int .u64 n, .int .u64 p, .bool true] w fun e w' => e = .returned (.bool (belowG y2 (List.replicate 12 0 ++ d))) ∧ Below w.heap.size w w' := by
  have Hx := (show Hid _ from hh)
  clear hh
  go_enter Tryd.func14, Tryd.ntmps14
  go_wp2_with fail
  refine (PShaSums.smithyref06_digits.calls k n x _ Hx.out.2.1).mono ?_
  rintro e w1 ⟨v1, rfl, hR1, hB1⟩
  have o1 := own_of_R hR1
  obtain ⟨A1, c1, rfl, hc1, hs1, _⟩ := o1.slice
  have l1 := o1.len_le
  clear hR1
  dsimp only
  go_wp2_with fail
  refine (PShaSums.smithyref06_times.calls k A1 c1 x A1 c1 x y _ (C_of_sl hs1 l1) hc1 (C_of_sl hs1 l1) hc1 Hx.out.2.2.1).mono ?_
  rintro e w2 ⟨v2, rfl, hR2, hB2⟩
  have o2 := own_of_R hR2
  obtain ⟨A2, c2, rfl, hc2, hs2, _⟩ := o2.slice
  have l2 := o2.len_le
  clear hR2
  replace hs1 := (hs1.below hB2).more hB2.size
  have hB02 := hB1.trans (hB2.mono hB1.size)
  dsimp only
  clear o1 o2 hB1 hB2
  go_wp2_with fail
  refine (PShaSums.smithyref06_times.calls k A2 c2 y A1 c1 x y2 _ (C_of_sl hs2 l2) hc2 (C_of_sl hs1 l1) hc1 Hx.out.2.2.2).mono ?_
  rintro e w3 ⟨v3, rfl, hR3, hB3⟩
  have o3 := own_of_R hR3
  obtain ⟨A3, c3, rfl, hc3, hs3, _⟩ := o3.slice
  have l3 := o3.len_le
  clear hR3 hs2 o3 l2 hc2
  have hB03 := hB02.trans (hB3.mono hB02.size)
  dsimp only
  clear hB3 hB02
  clear hs1 l1 hc1
  obtain ⟨ii, hi, hz, hsi, hbi⟩ := info_parts infoInt
  have Hi := (show Hid (Tryd.prog.info? 3 = some ii ∧ ii.zero = some (.int .i64 0) ∧ ii.size = 1 ∧ ii.bytes = 8) from ⟨hi, hz, hsi, hbi⟩)
  clear hi hz hsi hbi
  go_wp2
  have oz := Own.lit (B := w3.heap.size) w3 3 (Value.int .i64) [] (Nat.le_refl _) (Nat.zero_le _)
  have hG : Grow w3.heap.size 3 w3 (w3.alloc (.cells (row (Value.int .i64) []) 3)) := Grow.alloc (Nat.le_refl _) _
  go_loopg [10, 11] 12 (fun kq v i wr => ∃ j : Nat, j + kq = 12 ∧ i = .int .i64 j ∧ Own wr w3.heap.size 3 (Value.int .i64) v (List.replicate j 0) ∧ Grow w3.heap.size 3 w3 wr)
  case atStart => exact ⟨0, rfl, rfl, oz, hG⟩
  case round =>
    clear oz hG
    obtain ⟨j, hj, rfl, oz, hG⟩ := hrel
    by_cases hlt : j < 12
    · have Hj := (show Hid (j + gk = 12) from hj)
      have hgk : 0 < gk := by omega
      clear hj
      have hsz := hG.below.size
      go_wp2_with (at_builtin; refine own_append rfl _ _ 46 rfl ii (.int .i64 0) 8 Tryd.underlying46 Hi.out.1 Hi.out.2.1 Hi.out.2.2.1 Hi.out.2.2.2 rfl rfl (oz.alloc (.cells (row (Value.int .i64) [0]) 3)) (ys := [0]) (n := 1) rfl rfl (fun h => by cases h) (B' := wr.heap.size + 1) (fun _ => ⟨wr.heap.size, 0, rfl, by omega, (Blk.new wr 3 (row (Value.int .i64) [0])).cells (k := 0)⟩) (fun _ => rfl) ?c1 ?c2 ?c3 ?_; rotate_left 3; intro v' w4 o4 g4)
      case c1 => simp; omega
      case c2 => simp [maxLen]; omega
      case c3 => simp; omega
      go_roundg (gk - 1)
      case measure => omega
      case rel =>
        have hj := Hj.out
        exact ⟨j + 1, by omega, by go_num, by rw [List.replicate_succ']; exact o4, (hG.trans (Grow.alloc hsz _)).trans g4⟩
    · obtain rfl : j = 12 := by omega
      clear hj
      have hs4 := hs3.below hG.below
      have hB4 := hB03.trans (hG.below.mono hB03.size)
      have hsz := hG.below.size
      go_wp2_with fail
      refine (PShaSums.smithyref06_digits.calls k p d _ Hx.out.1).mono ?_
      rintro e w5 ⟨v5, rfl, hR5, hB5⟩
      have o5 := own_of_R hR5
      obtain ⟨A5, c5, rfl, hc5, hs5, hn5⟩ := o5.slice
      clear hR5 o5
      dsimp only
      have oz5 := oz.below hB5 (Nat.le_refl _)
      have hs6 := hs4.below (hB5.mono hsz)
      have hB6 := hB4.trans (hB5.mono hB4.size)
      have hz5 := hB5.size
      have h03 := hB03.size
      clear hs4 hB4 hB5 oz hG hs3 hB03
      go_upto_region 13 with (at_builtin; refine own_append rfl _ _ 46 rfl ii (.int .i64 0) 8 Tryd.underlying46 Hi.out.1 Hi.out.2.1 Hi.out.2.2.1 Hi.out.2.2.2 rfl rfl oz5 (ys := d) rfl rfl hn5 hs5 (fun _ => rfl) ?c4 ?c5 ?c6 ?_; rotate_left 3; intro v7 w7 o7 g7)
      case c4 => simp; omega
      case c5 => simp [maxLen]; omega
      case c6 => omega
      obtain ⟨A7, c7, rfl, hc7, hs7, _⟩ := o7.slice
      have l7 := o7.len_le
      have hs8 := hs6.below g7.below
      have hB8 := hB6.trans (g7.below.mono (by omega))
      have hz7 : w3.heap.size ≤ w7.heap.size := by have := g7.below.size; omega
      clear o7 g7 hs6 hB6 oz5 hs5
      generalize hZ : List.replicate 12 0 ++ d = Z at hc7 hs7 l7 ⊢
      have HZ := (show Hid (List.replicate 12 0 ++ d = Z) from hZ)
      clear hZ
      have hmx := fun W => max_run (P := Tryd.prog) #[3, 3] 3 y2.length Z.length W
      generalize hM : max y2.length Z.length = M at hmx
      have HM := (show Hid (max y2.length Z.length = M) from hM)
      have hMl : M ≤ maxLen := by omega
      clear hM
      unfold maxLen at hMl l3 l7
      have hR : cmpF y2 Z M = belowG y2 Z := by rw [← HM.out]; rfl
      have HR := (show Hid (cmpF y2 Z M = belowG y2 Z) from hR)
      clear hR
      generalize hbr : belowG y2 Z = br at HR
      have Hbr := (show Hid (belowG y2 Z = br) from hbr)
      clear hbr
      go_wp2
      clear hmx
      go_loopg [12] M (fun kq i wr => i = .int .i64 ((kq : Int) - 1) ∧ kq ≤ M ∧ Hid (cmpF y2 Z kq = br) ∧ Below w7.heap.size w7 wr)
      case atStart => exact ⟨rfl, Nat.le_refl _, HR, Below.refl _ _⟩
      case round =>
        obtain ⟨rfl, hkM, hcm, hBr⟩ := hrel
        rcases Nat.eq_zero_or_pos gk with rfl | hpos
        · have hfin : true = br := hcm.out
          clear hcm HR
          go_wp2
          go_ret
          have e1 := HZ.out
          have e2 := Hbr.out
          subst e1
          exact ⟨by rw [e2, ← hfin]; rfl, hB8.trans (hBr.mono hB8.size)⟩
        · obtain ⟨m, rfl⟩ : ∃ m, gk = m + 1 := ⟨gk - 1, by omega⟩
          have ea : (y2.getD m 0 = y2.getD m 0) := rfl
          generalize hva : y2.getD m 0 = va
          generalize hvb : Z.getD m 0 = vb
          have Hab := (show Hid (y2.getD m 0 = va ∧ Z.getD m 0 = vb) from ⟨hva, hvb⟩)
          clear hva hvb ea
          have hC1 := C_of_sl (hs8.below (hBr.mono hz7)) (by omega)
          by_cases hab : va = vb
          · have t1 : (va != vb) = false := by simp [hab]
            have Hh := (show Hid (va = vb) from hab)
            clear hab
            go_wp2_with fail
            refine (PShaSums.smithyref06_at.calls A3 c3 y2 (m : Int) va _ hC1 hc3 (by rw [at_some, Hab.out.1])).mono ?_
            rintro e w8 ⟨rfl, ⟨⟨q1, rfl⟩⟩⟩
            dsimp only
            go_wp2_with fail
            refine (PShaSums.smithyref06_at.calls A7 c7 Z (m : Int) vb _ (C_of_sl (hs7.below (below_drewN hBr q1)) (by omega)) hc7 (by rw [at_some, Hab.out.2])).mono ?_
            rintro e w9 ⟨rfl, ⟨⟨q2, rfl⟩⟩⟩
            dsimp only
            go_wp2
            go_roundg m
            case measure => omega
            case rel =>
              refine ⟨by go_num, by omega, ?_, below_drewN hBr _⟩
              have := hcm.out
              rw [cmpF, if_pos (by rw [Hab.out.1, Hab.out.2, Hh.out])] at this
              exact this
          · have t1 : (va != vb) = true := by simp [hab]
            have Hh := (show Hid (va ≠ vb) from hab)
            clear hab
            go_wp2_with fail
            refine (PShaSums.smithyref06_at.calls A3 c3 y2 (m : Int) va _ hC1 hc3 (by rw [at_some, Hab.out.1])).mono ?_
            rintro e w8 ⟨rfl, ⟨⟨q1, rfl⟩⟩⟩
            dsimp only
            go_wp2_with fail
            refine (PShaSums.smithyref06_at.calls A7 c7 Z (m : Int) vb _ (C_of_sl (hs7.below (below_drewN hBr q1)) (by omega)) hc7 (by rw [at_some, Hab.out.2])).mono ?_
            rintro e w9 ⟨rfl, ⟨⟨q2, rfl⟩⟩⟩
            dsimp only
            go_wp2
            go_ret
            have h1 := hcm.out
            rw [cmpF, if_neg (by rw [Hab.out.1, Hab.out.2]; exact Hh.out), Hab.out.1, Hab.out.2] at h1
            have e1 := HZ.out
            have e2 := Hbr.out
            subst e1
            exact ⟨by rw [e2, ← h1]; rfl, hB8.trans ((below_drewN hBr _).mono hB8.size)⟩
set_option maxRecDepth 100000 in
set_option maxHeartbeats 8000000 in
theorem ref_below_square (k : Nat) (n p : Int) (x y d : List Int) (w : World) (hh : PShaSums.smithyref06_digits.f k p = some d ∧ PShaSums.smithyref06_digits.f k n = some x ∧ PShaSums.smithyref06_times.f k x x = some y) (hdl : d.length ≤ 100) :
    Calls Tryd.prog 14 #[.int .u64 n, .int .u64 p, .bool false] w fun e w' => e = .returned (.bool (belowG y (List.replicate 8 0 ++ d))) ∧ Below w.heap.size w w' := by
  have Hx := (show Hid _ from hh)
  clear hh
  go_enter Tryd.func14, Tryd.ntmps14
  go_wp2_with fail
  refine (PShaSums.smithyref06_digits.calls k n x _ Hx.out.2.1).mono ?_
  rintro e w1 ⟨v1, rfl, hR1, hB1⟩
  have o1 := own_of_R hR1
  obtain ⟨A1, c1, rfl, hc1, hs1, _⟩ := o1.slice
  have l1 := o1.len_le
  clear hR1
  dsimp only
  go_wp2_with fail
  refine (PShaSums.smithyref06_times.calls k A1 c1 x A1 c1 x y _ (C_of_sl hs1 l1) hc1 (C_of_sl hs1 l1) hc1 Hx.out.2.2).mono ?_
  rintro e w2 ⟨v2, rfl, hR2, hB2⟩
  have o2 := own_of_R hR2
  obtain ⟨A2, c2, rfl, hc2, hs2, _⟩ := o2.slice
  have l2 := o2.len_le
  clear hR2
  replace hs1 := (hs1.below hB2).more hB2.size
  have hB02 := hB1.trans (hB2.mono hB1.size)
  dsimp only
  clear o1 o2 hB1
  have hsz2 := hB2.size
  clear hB2
  have h02 := hB02.size
  clear hs1 l1 hc1
  obtain ⟨ii, hi, hz, hsi, hbi⟩ := info_parts infoInt
  have Hi := (show Hid (Tryd.prog.info? 3 = some ii ∧ ii.zero = some (.int .i64 0) ∧ ii.size = 1 ∧ ii.bytes = 8) from ⟨hi, hz, hsi, hbi⟩)
  clear hi hz hsi hbi
  go_wp2
  have oz := Own.lit (B := w2.heap.size) w2 3 (Value.int .i64) [] (Nat.le_refl _) (Nat.zero_le _)
  have hG : Grow w2.heap.size 3 w2 (w2.alloc (.cells (row (Value.int .i64) []) 3)) := Grow.alloc (Nat.le_refl _) _
  go_loopg [10, 11] 8 (fun kq v i wr => ∃ j : Nat, j + kq = 8 ∧ i = .int .i64 j ∧ Own wr w2.heap.size 3 (Value.int .i64) v (List.replicate j 0) ∧ Grow w2.heap.size 3 w2 wr)
  case atStart => exact ⟨0, rfl, rfl, oz, hG⟩
  case round =>
    clear oz hG
    obtain ⟨j, hj, rfl, oz, hG⟩ := hrel
    by_cases hlt : j < 8
    · have Hj := (show Hid (j + gk = 8) from hj)
      have hgk : 0 < gk := by omega
      clear hj
      have hsz := hG.below.size
      go_wp2_with (at_builtin; refine own_append rfl _ _ 46 rfl ii (.int .i64 0) 8 Tryd.underlying46 Hi.out.1 Hi.out.2.1 Hi.out.2.2.1 Hi.out.2.2.2 rfl rfl (oz.alloc (.cells (row (Value.int .i64) [0]) 3)) (ys := [0]) (n := 1) rfl rfl (fun h => by cases h) (B' := wr.heap.size + 1) (fun _ => ⟨wr.heap.size, 0, rfl, by omega, (Blk.new wr 3 (row (Value.int .i64) [0])).cells (k := 0)⟩) (fun _ => rfl) ?c1 ?c2 ?c3 ?_; rotate_left 3; intro v' w4 o4 g4)
      case c1 => simp; omega
      case c2 => simp [maxLen]; omega
      case c3 => simp; omega
      go_roundg (gk - 1)
      case measure => omega
      case rel =>
        have hj := Hj.out
        exact ⟨j + 1, by omega, by go_num, by rw [List.replicate_succ']; exact o4, (hG.trans (Grow.alloc hsz _)).trans g4⟩
    · obtain rfl : j = 8 := by omega
      clear hj
      have hs4 := hs2.below hG.below
      have hB4 := hB02.trans (hG.below.mono hB02.size)
      have hsz := hG.below.size
      go_wp2_with fail
      refine (PShaSums.smithyref06_digits.calls k p d _ Hx.out.1).mono ?_
      rintro e w5 ⟨v5, rfl, hR5, hB5⟩
      have o5 := own_of_R hR5
      obtain ⟨A5, c5, rfl, hc5, hs5, hn5⟩ := o5.slice
      clear hR5 o5
      dsimp only
      have oz5 := oz.below hB5 (Nat.le_refl _)
      have hs6 := hs4.below (hB5.mono hsz)
      have hB6 := hB4.trans (hB5.mono hB4.size)
      have hz5 := hB5.size
      have h03 := hB02.size
      clear hs4 hB4 hB5 oz hG hs2 hB02
      go_upto_region 13 with (at_builtin; refine own_append rfl _ _ 46 rfl ii (.int .i64 0) 8 Tryd.underlying46 Hi.out.1 Hi.out.2.1 Hi.out.2.2.1 Hi.out.2.2.2 rfl rfl oz5 (ys := d) rfl rfl hn5 hs5 (fun _ => rfl) ?c4 ?c5 ?c6 ?_; rotate_left 3; intro v7 w7 o7 g7)
      case c4 => simp; omega
      case c5 => simp [maxLen]; omega
      case c6 => omega
      obtain ⟨A7, c7, rfl, hc7, hs7, _⟩ := o7.slice
      have l7 := o7.len_le
      have hs8 := hs6.below g7.below
      have hB8 := hB6.trans (g7.below.mono (by omega))
      have hz7 : w2.heap.size ≤ w7.heap.size := by have := g7.below.size; omega
      clear o7 g7 hs6 hB6 oz5 hs5
      generalize hZ : List.replicate 8 0 ++ d = Z at hc7 hs7 l7 ⊢
      have HZ := (show Hid (List.replicate 8 0 ++ d = Z) from hZ)
      clear hZ
      have hmx := fun W => max_run (P := Tryd.prog) #[3, 3] 3 y.length Z.length W
      generalize hM : max y.length Z.length = M at hmx
      have HM := (show Hid (max y.length Z.length = M) from hM)
      have hMl : M ≤ maxLen := by omega
      clear hM
      unfold maxLen at hMl l2 l7
      have hR : cmpF y Z M = belowG y Z := by rw [← HM.out]; rfl
      have HR := (show Hid (cmpF y Z M = belowG y Z) from hR)
      clear hR
      generalize hbr : belowG y Z = br at HR
      have Hbr := (show Hid (belowG y Z = br) from hbr)
      clear hbr
      go_wp2
      clear hmx
      go_loopg [12] M (fun kq i wr => i = .int .i64 ((kq : Int) - 1) ∧ kq ≤ M ∧ Hid (cmpF y Z kq = br) ∧ Below w7.heap.size w7 wr)
      case atStart => exact ⟨rfl, Nat.le_refl _, HR, Below.refl _ _⟩
      case round =>
        obtain ⟨rfl, hkM, hcm, hBr⟩ := hrel
        rcases Nat.eq_zero_or_pos gk with rfl | hpos
        · have hfin : true = br := hcm.out
          clear hcm HR
          go_wp2
          go_ret
          have e1 := HZ.out
          have e2 := Hbr.out
          subst e1
          exact ⟨by rw [e2, ← hfin]; rfl, hB8.trans (hBr.mono hB8.size)⟩
        · obtain ⟨m, rfl⟩ : ∃ m, gk = m + 1 := ⟨gk - 1, by omega⟩
          have ea : (y.getD m 0 = y.getD m 0) := rfl
          generalize hva : y.getD m 0 = va
          generalize hvb : Z.getD m 0 = vb
          have Hab := (show Hid (y.getD m 0 = va ∧ Z.getD m 0 = vb) from ⟨hva, hvb⟩)
          clear hva hvb ea
          have hC1 := C_of_sl (hs8.below (hBr.mono hz7)) (by omega)
          by_cases hab : va = vb
          · have t1 : (va != vb) = false := by simp [hab]
            have Hh := (show Hid (va = vb) from hab)
            clear hab
            go_wp2_with fail
            refine (PShaSums.smithyref06_at.calls A2 c2 y (m : Int) va _ hC1 hc2 (by rw [at_some, Hab.out.1])).mono ?_
            rintro e w8 ⟨rfl, ⟨⟨q1, rfl⟩⟩⟩
            dsimp only
            go_wp2_with fail
            refine (PShaSums.smithyref06_at.calls A7 c7 Z (m : Int) vb _ (C_of_sl (hs7.below (below_drewN hBr q1)) (by omega)) hc7 (by rw [at_some, Hab.out.2])).mono ?_
            rintro e w9 ⟨rfl, ⟨⟨q2, rfl⟩⟩⟩
            dsimp only
            go_wp2
            go_roundg m
            case measure => omega
            case rel =>
              refine ⟨by go_num, by omega, ?_, below_drewN hBr _⟩
              have := hcm.out
              rw [cmpF, if_pos (by rw [Hab.out.1, Hab.out.2, Hh.out])] at this
              exact this
          · have t1 : (va != vb) = true := by simp [hab]
            have Hh := (show Hid (va ≠ vb) from hab)
            clear hab
            go_wp2_with fail
            refine (PShaSums.smithyref06_at.calls A2 c2 y (m : Int) va _ hC1 hc2 (by rw [at_some, Hab.out.1])).mono ?_
            rintro e w8 ⟨rfl, ⟨⟨q1, rfl⟩⟩⟩
            dsimp only
            go_wp2_with fail
            refine (PShaSums.smithyref06_at.calls A7 c7 Z (m : Int) vb _ (C_of_sl (hs7.below (below_drewN hBr q1)) (by omega)) hc7 (by rw [at_some, Hab.out.2])).mono ?_
            rintro e w9 ⟨rfl, ⟨⟨q2, rfl⟩⟩⟩
            dsimp only
            go_wp2
            go_ret
            have h1 := hcm.out
            rw [cmpF, if_neg (by rw [Hab.out.1, Hab.out.2]; exact Hh.out), Hab.out.1, Hab.out.2] at h1
            have e1 := HZ.out
            have e2 := Hbr.out
            subst e1
            exact ⟨by rw [e2, ← h1]; rfl, hB8.trans ((below_drewN hBr _).mono hB8.size)⟩

theorem ref_below (k : Nat) (n p : Int) (cube b : Bool) (w : World) (h : belowF k n p cube = some b) :
    Calls Tryd.prog 14 #[.int .u64 n, .int .u64 p, .bool cube] w fun e w' => e = .returned (.bool b) ∧ Below w.heap.size w w' := by
  unfold belowF at h
  obtain ⟨x, hx, h⟩ := Option.bind_eq_some_iff.mp h
  obtain ⟨y, hy, h⟩ := Option.bind_eq_some_iff.mp h
  obtain ⟨d, hd, h⟩ := Option.bind_eq_some_iff.mp h
  split at h
  · cases h
  rename_i hl
  cases cube with
  | true =>
    rw [if_pos rfl] at h
    obtain ⟨y2, hy2, h⟩ := Option.bind_eq_some_iff.mp h
    obtain rfl := Option.some.inj h
    exact ref_below_cube k n p x y y2 d w ⟨hd, hx, hy, hy2⟩ (by omega)
  | false =>
    rw [if_neg (by simp)] at h
    obtain rfl := Option.some.inj h
    exact ref_below_square k n p x y d w ⟨hd, hx, hy⟩ (by omega)

attribute [irreducible] belowF
def rootL : Nat → Int → Bool → Int → Int → Option (BitVec 32)
  | 0, _, _, _, _ => none
  | k + 1, x0, x1, x5, x6 => if x6 > 0 then ((belowF 100 (IntKind.u64.wrap (x5 + x6)) x0 x1).bind fun t => (if t = true then (rootL k x0 x1 (IntKind.u64.wrap (x5 + x6)) (IntKind.u64.wrap (Int.tdiv x6 2))) else (rootL k x0 x1 x5 (IntKind.u64.wrap (Int.tdiv x6 2))))) else (some (BitVec.ofInt 32 (Int.tmod x5 4294967296)))
def rootF (a0 : Int) (a1 : Bool) : Option (BitVec 32) := rootL 50 a0 a1 0 68719476736
set_option maxRecDepth 100000 in
set_option maxHeartbeats 8000000 in
theorem ref_root (a0 : Int) (a1 : Bool) (r : BitVec 32) (w : World) (h : rootF a0 a1 = some r) :
    Calls Tryd.prog 10 #[.int .u64 a0, .bool a1] w fun e w' => e = .returned (U32 r) ∧ Below w.heap.size w w' := by
  have H' := (show Hid (rootL 50 a0 a1 0 68719476736 = some r) from h)
  clear h
  go_enter Tryd.func10, Tryd.ntmps10
  go_wp2
  go_loopg [5, 6] 50 (fun kq v5 v6 w' => ∃ (x5 : Int) (x6 : Int), v5 = .int .u64 x5 ∧ v6 = .int .u64 x6 ∧ Hid (rootL kq a0 a1 x5 x6 = some r) ∧ Below w.heap.size w w')
  case atStart => exact ⟨0, 68719476736, rfl, rfl, H', Below.refl _ _⟩
  case round =>
    clear H'
    obtain ⟨x5, x6, rfl, rfl, HA, HB⟩ := hrel
    cases gk with
    | zero => exact absurd HA.out (by simp [rootL])
    | succ k1 =>
      have H := HA.out
      clear HA
      simp only [rootL] at H
      by_cases c3 : x6 > 0
      · rw [if_pos c3] at H
        have c3b0 : decide (0 < x6) = true := decide_eq_true c3
        clear c3
        obtain ⟨t, A4, H⟩ := Option.bind_eq_some_iff.mp H
        have A := (show Hid _ from A4)
        have H' := (show Hid _ from H)
        clear H A4
        cases t with
        | true =>
          go_wp2_with (go_at_call 14; refine (ref_below _ _ _ _ _ _ A.out).mono ?_; rintro e w6 ⟨rfl, hb⟩; dsimp only)
          have HB' := HB.trans (hb.mono HB.size)
          clear HB hb
          go_roundg k1
          case measure => omega
          case rel => exact ⟨_, _, rfl, rfl, H', HB'⟩
        | false =>
          go_wp2_with (go_at_call 14; refine (ref_below _ _ _ _ _ _ A.out).mono ?_; rintro e w6 ⟨rfl, hb⟩; dsimp only)
          have HB' := HB.trans (hb.mono HB.size)
          clear HB hb
          go_roundg k1
          case measure => omega
          case rel => exact ⟨_, _, rfl, rfl, H', HB'⟩
      · rw [if_neg c3] at H
        have c3b0 : decide (0 < x6) = false := decide_eq_false c3
        clear c3
        obtain rfl := Option.some.inj H
        go_wp2
        go_ret
        exact ⟨rfl, HB⟩
end Go.Proofs.YtfcbkmgkdbdabaaDoor
