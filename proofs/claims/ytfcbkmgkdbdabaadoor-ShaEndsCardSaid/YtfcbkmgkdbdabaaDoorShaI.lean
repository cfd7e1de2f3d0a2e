/- The walk of the reference's Sum. -/
import Derived.Test.YtfcbkmgkdbdabaaDoorShaH
namespace Go.Proofs.YtfcbkmgkdbdabaaDoor
open Go.RowKit

theorem info8 : (Tryd.prog.info? 5).map (fun i => (i.zero, i.size, i.bytes)) = some (some (.int .u8 0), 1, 1) := by kernel_rfl

set_option maxRecDepth 100000 in
set_option maxHeartbeats 8000000 in
theorem ref_Sum (K H : List (BitVec 32)) (bs : List (BitVec 8)) (A : Option Addr) (c : Nat) (w : World) (hK : K.length = 64) (hH : H.length = 8) (hA : A = none → c = 0) (hb : bs.length ≤ 100000) (hr : Sl U8 w w.heap.size A bs) :
    Made Tryd.prog 8 #[.slice A bs.length c, .agg (row U32 K), .agg (row U32 H)] w (.agg (row U8 (outS (absS K H (allB bs) ((allB bs).length / 64)) 32))) := by
  obtain ⟨ii, hi, hz, hsi, hbi⟩ := info_parts info8
  have Hi := (show Hid (Tryd.prog.info? 5 = some ii ∧ ii.zero = some (.int .u8 0) ∧ ii.size = 1 ∧ ii.bytes = 1) from ⟨hi, hz, hsi, hbi⟩)
  have Hk := (show Hid (K.length = 64 ∧ H.length = 8) from ⟨hK, hH⟩)
  clear hi hz hsi hbi hK hH
  go_enter Tryd.func8, Tryd.ntmps8
  go_upto_region 2 with (fail)
  have k0 : Blk (((w.alloc (.cells (row U32 K) 25)).alloc (.cells (row U32 H) 26)).alloc (.cells (row U8 (List.replicate 32 0#8)) 30)) w.heap.size 25 (row U32 K) := ((Blk.new w 25 (row U32 K)).alloc _).alloc _
  have k1 : Blk (((w.alloc (.cells (row U32 K) 25)).alloc (.cells (row U32 H) 26)).alloc (.cells (row U8 (List.replicate 32 0#8)) 30)) (w.heap.size + 1) 26 (row U32 H) := (Blk.new' (w.alloc (.cells (row U32 K) 25)) 26 (row U32 H) (n := w.heap.size + 1) (by simp)).alloc _
  have k2 : Blk (((w.alloc (.cells (row U32 K) 25)).alloc (.cells (row U32 H) 26)).alloc (.cells (row U8 (List.replicate 32 0#8)) 30)) (w.heap.size + 1 + 1) 30 (row U8 (List.replicate 32 0#8)) := Blk.new' ((w.alloc (.cells (row U32 K) 25)).alloc (.cells (row U32 H) 26)) 30 (row U8 (List.replicate 32 0#8)) (n := w.heap.size + 1 + 1) (by simp)
  have kB : Below w.heap.size w (((w.alloc (.cells (row U32 K) 25)).alloc (.cells (row U32 H) 26)).alloc (.cells (row U8 (List.replicate 32 0#8)) 30)) := (((Below.refl w.heap.size w).alloc (Nat.le_refl _) _).alloc (by simp) _).alloc (by simp; omega) _
  have kz : (((w.alloc (.cells (row U32 K) 25)).alloc (.cells (row U32 H) 26)).alloc (.cells (row U8 (List.replicate 32 0#8)) 30)).heap.size = w.heap.size + 1 + 1 + 1 := by simp
  generalize hw3 : (((w.alloc (.cells (row U32 K) 25)).alloc (.cells (row U32 H) 26)).alloc (.cells (row U8 (List.replicate 32 0#8)) 30)) = w3 at k0 k1 k2 kB kz
  have Hw3 := (show Hid (_ = w3) from hw3)
  have oz := Own.lit (B := w3.heap.size) w3 5 U8 [] (Nat.le_refl _) (Nat.zero_le _)
  have hG : Grow w3.heap.size 5 w3 (w3.alloc (.cells (row U8 []) 5)) := Grow.alloc (Nat.le_refl _) _
  show Code.wp _ _ _ _ ((((w.alloc (.cells (row U32 K) 25)).alloc (.cells (row U32 H) 26)).alloc (.cells (row U8 (List.replicate 32 0#8)) 30)).alloc (.cells (row U8 []) 5))
  rw [hw3, ← kz]
  replace hr := hr.below (kB.alloc (by have := kB.size; omega) (.cells (row U8 []) 5))
  have hlb : ([] : List (BitVec 8)).length + bs.length ≤ 100000 := by simp; omega
  clear Hw3 hw3
  go_upto_region 3 with (at_builtin; refine own_append rfl _ _ 22 rfl ii (.int .u8 0) 1 Tryd.underlying22 Hi.out.1 Hi.out.2.1 Hi.out.2.2.1 Hi.out.2.2.2 rfl rfl oz (ys := bs) rfl rfl hA hr (fun _ => rfl) ?c1 ?c2 ?c3 ?_; rotate_left 3; intro v1 w4 o1 g1)
  case c1 => omega
  case c2 => simp [maxLen]; omega
  case c3 => simp
  have hG1 := hG.trans g1
  have hs1 := hG1.below.size
  rw [List.nil_append] at o1
  clear oz hG g1 hlb
  have o1' := o1.alloc (.cells (row U8 [128#8]) 5)
  have y1 : Sl U8 (w4.alloc (.cells (row U8 [128#8]) 5)) (w4.heap.size + 1) (some ⟨w4.heap.size, 0, none⟩) [128#8] := fun _ => ⟨w4.heap.size, 0, rfl, by omega, (Blk.new w4 5 (row U8 [128#8])).cells (k := 0)⟩
  go_upto_region 4 with (at_builtin; refine own_append rfl _ _ 22 rfl ii (.int .u8 0) 1 Tryd.underlying22 Hi.out.1 Hi.out.2.1 Hi.out.2.2.1 Hi.out.2.2.2 rfl rfl o1' (ys := [128#8]) (n := 1) rfl rfl (fun h => by cases h) y1 (fun _ => rfl) ?c4 ?c5 ?c6 ?_; rotate_left 3; intro v2 w5 o2 g2)
  case c4 => simp; omega
  case c5 => simp [maxLen]; omega
  case c6 => simp; omega
  have hG2 := (hG1.trans (Grow.alloc (by omega) (.cells (row U8 [128#8]) 5))).trans g2
  clear g2 y1 o1 o1' hG1 hs1
  obtain ⟨hp1, hp2⟩ := padN_spec bs.length
  go_loopg [7] (padN bs.length) (fun k v wr => ∃ t : Nat, t + k = padN bs.length ∧ Own wr w3.heap.size 5 U8 v (bs ++ [128#8] ++ List.replicate t 0#8) ∧ Grow w3.heap.size 5 w3 wr)
  case atStart => exact ⟨0, by omega, by simpa using o2, hG2⟩
  case round =>
    clear o2 hG2
    obtain ⟨t, ht, o, hG⟩ := hrel
    have hl : (bs ++ [128#8] ++ List.replicate t 0#8).length = bs.length + 1 + t := by simp; omega
    have htp : t ≤ 63 := by unfold padN at ht; omega
    have hs := hG.below.size
    by_cases hlt : t < padN bs.length
    · have hne := hp2 t hlt
      have oa := o.alloc (.cells (row U8 [0#8]) 5)
      obtain ⟨A1, c1, rfl, _⟩ := o.slice
      rw [hl] at oa ⊢
      have t1 : (((bs.length + 1 + t : Nat) : Int) % 64 != 56) = true := by simp only [bne_iff_ne, ne_eq]; omega
      have y1 : Sl U8 (wr.alloc (.cells (row U8 [0#8]) 5)) (wr.heap.size + 1) (some ⟨wr.heap.size, 0, none⟩) [0#8] := fun _ => ⟨wr.heap.size, 0, rfl, by omega, (Blk.new wr 5 (row U8 [0#8])).cells (k := 0)⟩
      generalize hN : bs.length + 1 + t = N at *
      generalize hX : bs ++ [128#8] ++ List.replicate t 0#8 = X at *
      have Hx := (show Hid (bs.length + 1 + t = N ∧ bs ++ [128#8] ++ List.replicate t 0#8 = X ∧ t + gk = padN bs.length) from ⟨hN, hX, ht⟩)
      have hgk : 0 < gk := by omega
      have hNb : N ≤ 100100 := by omega
      clear hN hX o ht hlt hp1 hp2 hne hb
      go_wp2_with (at_builtin; refine own_append rfl _ _ 22 rfl ii (.int .u8 0) 1 Tryd.underlying22 Hi.out.1 Hi.out.2.1 Hi.out.2.2.1 Hi.out.2.2.2 rfl rfl oa (ys := [0#8]) (n := 1) rfl rfl (fun h => by cases h) y1 (fun _ => rfl) ?c7 ?c8 ?c9 ?_; rotate_left 3; intro v6 w6 o6 g6)
      case c7 => simp; omega
      case c8 => simp [maxLen]; omega
      case c9 => simp; omega
      go_roundg (gk - 1)
      case measure => omega
      case rel =>
        obtain ⟨h1, h2, h3⟩ := Hx.out
        exact ⟨t + 1, by omega, by rw [List.replicate_succ', ← List.append_assoc, h2]; exact o6, (hG.trans (Grow.alloc hs _)).trans g6⟩
    · obtain rfl : t = padN bs.length := by omega
      obtain ⟨A1, c1, rfl, _⟩ := o.slice
      rw [hl] at o ⊢
      have t1 : (((bs.length + 1 + padN bs.length : Nat) : Int) % 64 != 56) = false := by simp only [bne_eq_false_iff_eq]; omega
      clear hp2 ht hlt
      generalize hN : bs.length + 1 + padN bs.length = N at *
      generalize hX : bs ++ [128#8] ++ List.replicate (padN bs.length) 0#8 = X at *
      have Hx := (show Hid (bs.length + 1 + padN bs.length = N ∧ bs ++ [128#8] ++ List.replicate (padN bs.length) 0#8 = X ∧ N % 64 = 56 ∧ X.length = N) from ⟨hN, hX, hp1, hl⟩)
      have hNb : N ≤ 100100 := by omega
      clear hN hX hp1 hl
      go_upto_region 8 with (fail)
      generalize hnn : BitVec.ofNat 64 bs.length * 8#64 = nn
      have Hnn := (show Hid (BitVec.ofNat 64 bs.length * 8#64 = nn) from hnn)
      clear hnn
      go_loopg [7, 9] 8 (fun k v i wr => ∃ j : Nat, j + k = 8 ∧ i = .int .i64 (7 - (j : Int)) ∧ Own wr w3.heap.size 5 U8 v (X ++ lenB nn j) ∧ Grow w3.heap.size 5 w3 wr)
      case atStart => exact ⟨0, rfl, rfl, by simpa [lenB] using o, hG⟩
      case round =>
        clear o hG hs
        obtain ⟨j, hj, rfl, o, hG⟩ := hrel
        have hll : ∀ j, (lenB nn j).length = j := fun j => by induction j with | zero => rfl | succ j ih => simp [lenB, ih]
        have hl : (X ++ lenB nn j).length = N + j := by rw [List.length_append, hll, Hx.out.2.2.2]
        have hs := hG.below.size
        by_cases hlt : j < 8
        · obtain ⟨A2, c2, rfl, _⟩ := o.slice
          have oa := o.alloc (.cells (row U8 [(nn >>> (8 * (7 - j))).setWidth 8]) 5)
          rw [hl] at oa ⊢
          have y1 : Sl U8 (wr.alloc (.cells (row U8 [(nn >>> (8 * (7 - j))).setWidth 8]) 5)) (wr.heap.size + 1) (some ⟨wr.heap.size, 0, none⟩) [(nn >>> (8 * (7 - j))).setWidth 8] := fun _ => ⟨wr.heap.size, 0, rfl, by omega, (Blk.new wr 5 (row U8 [(nn >>> (8 * (7 - j))).setWidth 8])).cells (k := 0)⟩
          have Hj := (show Hid (j + gk = 8 ∧ (X ++ lenB nn j).length = N + j) from ⟨hj, hl⟩)
          have hgk : 0 < gk := by omega
          have hm : (8 * (7 - (j : Int))).toNat = 8 * (7 - j) := by omega
          have hm0 : (0 : Int) ≤ 8 * (7 - (j : Int)) := by omega
          have hr8 := rem8 (nn >>> (8 * (7 - j)))
          clear hj hl o
          go_wp2_with (at_builtin; refine own_append rfl _ _ 22 rfl ii (.int .u8 0) 1 Tryd.underlying22 Hi.out.1 Hi.out.2.1 Hi.out.2.2.1 Hi.out.2.2.2 rfl rfl oa (ys := [(nn >>> (8 * (7 - j))).setWidth 8]) (n := 1) rfl rfl (fun h => by cases h) y1 (fun _ => rfl) ?d1 ?d2 ?d3 ?_; rotate_left 3; intro v6 w6 o6 g6)
          case d1 => rw [Hj.out.2]; simp; omega
          case d2 => rw [Hj.out.2]; simp [maxLen]; omega
          case d3 => simp; omega
          go_roundg (gk - 1)
          case measure => omega
          case rel =>
            have hj := Hj.out.1
            exact ⟨j + 1, by omega, by go_num, by rw [lenB, ← List.append_assoc]; exact o6, (hG.trans (Grow.alloc hs _)).trans g6⟩
        · obtain rfl : j = 8 := by omega
          have e1 : X ++ lenB nn 8 = allB bs := by unfold allB; rw [← Hx.out.2.1, ← Hnn.out]
          rw [e1] at o hl
          obtain ⟨m, hm⟩ : ∃ m, N + 8 = 64 * m := ⟨(N + 8) / 64, by have := Hx.out.2.2.1; omega⟩
          rw [hm] at hl
          have hm1 : 1 ≤ m := by omega
          have hm2 : m ≤ 1600 := by omega
          rcases o.cases with ⟨rfl, hnil⟩ | ⟨ga, ca, rfl, _⟩
          · rw [hnil] at hl; simp at hl; omega
          rename_i hjunk
          clear hjunk
          rw [hl] at o ⊢
          have q0 := k0.below hG.below k0.lt
          have q1 := k1.below hG.below k1.lt
          have q2 := k2.below hG.below k2.lt
          have qB := kB.trans (hG.below.mono kB.size)
          have hga : w.heap.size + 1 + 1 < ga := by have := o.at_.2.2.1; omega
          have Hm := (show Hid ((allB bs).length = 64 * m ∧ 1 ≤ m) from ⟨hl, hm1⟩)
          clear k0 k1 k2 kB hG e1 hj hlt hs hll Hx Hnn hr hA Hi
          go_upto_region 12 with (fail)
          go_loopg [10] m (fun k i wr => ∃ j : Nat, j + k = m ∧ i = .int .i64 ((64 * j : Nat) : Int) ∧ Own wr w3.heap.size 5 U8 (.slice (some ⟨ga, 0, none⟩) (64 * m) ca) (allB bs) ∧ Blk wr w.heap.size 25 (row U32 K) ∧ Blk wr (w.heap.size + 1) 26 (row U32 (absS K H (allB bs) j)) ∧ Blk wr (w.heap.size + 1 + 1) 30 (row U8 (List.replicate 32 0#8)) ∧ Below w.heap.size w wr)
          case atStart => exact ⟨0, by omega, rfl, o, q0, q1, q2, qB⟩
          case round =>
            clear o q0 q1 q2 qB hl hm
            obtain ⟨j, hj, rfl, o, q0, q1, q2, qB⟩ := hrel
            by_cases hlt : j < m
            · have hs8 : (absS K H (allB bs) j).length = 8 := by rw [absS_len]; exact Hk.out.2
              obtain ⟨_, hca, hgb, hgl, hcl⟩ := o.at_
              have hcb : Cells U8 wr ga (0 + 64 * j) (((allB bs).drop (64 * j)).take 64) := hcl.drop.take
              have hbl : (((allB bs).drop (64 * j)).take 64).length = 64 := by rw [List.length_take, List.length_drop, Hm.out.1]; omega
              generalize hs : absS K H (allB bs) j = s at *
              generalize hblk : ((allB bs).drop (64 * j)).take 64 = blk at *
              have Hj := (show Hid (j + gk = m ∧ absS K H (allB bs) j = s ∧ ((allB bs).drop (64 * j)).take 64 = blk ∧ s.length = 8 ∧ blk.length = 64) from ⟨hj, hs, hblk, hs8, hbl⟩)
              have hgk3 : 0 < gk := by omega
              clear hj hs hblk hs8 hbl hcl
              obtain ⟨wa, rfl⟩ : ∃ x, x = wr := ⟨_, rfl⟩
              obtain ⟨k3, rfl⟩ : ∃ x, x = gk := ⟨_, rfl⟩
              go_upto_region 14 with (fail)
              iterate 7 go_step
              refine store_put (f := U32) (xs := List.replicate 64 0#32) rfl 25 _ _ rfl rfl rfl (Blk.new wa 25 (row U32 (List.replicate 64 0#32))) (by kernel_rfl) rfl rfl (fun _ => rfl) ?_
              intro w6 p6
              have E6 := p6.below ((Below.refl wa.heap.size wa).alloc (Nat.le_refl _) _) (Nat.le_refl _)
              have b6 := p6.blk
              clear p6
              generalize hz61 : (Value.agg #[_, _, _, _, _, _, _, _, _, _, _, _, _, _, _, _, _, _, _, _, _, _, _, _, _, _, _, _, _, _, _, _, _, _, _, _, _, _, _, _, _, _, _, _, _, _, _, _, _, _, _, _, _, _, _, _, _, _, _, _, _, _, _, _]) = z61
              clear hz61
              go_upto_region 16 with (fail)
              have hgl6 : ga < wa.heap.size := hgl
              go_loopg [12] 64 (fun k iv wq => ∃ i : Nat, i + k = 64 ∧ iv = .int .i64 i ∧ Blk wq wa.heap.size 25 (row U32 (rW blk i)) ∧ Below wa.heap.size wa wq)
              case atStart => exact ⟨0, rfl, rfl, b6, E6⟩
              case round =>
                clear b6 E6
                obtain ⟨i, hi, rfl, b6, E6⟩ := hrel
                have hwl : (rW blk i).length = 64 := rW_len blk i
                by_cases hi64 : i < 64
                · by_cases h16 : i < 16
                  · have hjm : 64 * j + 64 ≤ 64 * m := by omega
                    have Hi4 := (show Hid (i + gk = 64 ∧ (rW blk i).length = 64) from ⟨hi, hwl⟩)
                    clear hi hwl
                    go_upto_region 20 with (fail)
                    rw [show 64 * j + 4 * i + 4 - (64 * j + 4 * i) = 4 by omega]
                    have hcc := hcb.below E6 hgl
                    have hbl : blk.length = 64 := Hj.out.2.2.2.2
                    have e0 := hcc.at8 (i := 4 * i) (by omega)
                    have e1 := hcc.at8 (i := 4 * i + 1) (by omega)
                    have e2 := hcc.at8 (i := 4 * i + 2) (by omega)
                    have e3 := hcc.at8 (i := 4 * i + 3) (by omega)
                    rw [show 0 + 64 * j + 4 * i = 64 * j + 4 * i by omega] at e0
                    rw [show 0 + 64 * j + (4 * i + 1) = 64 * j + 4 * i + 1 by omega] at e1
                    rw [show 0 + 64 * j + (4 * i + 2) = 64 * j + 4 * i + 2 by omega] at e2
                    rw [show 0 + 64 * j + (4 * i + 3) = 64 * j + 4 * i + 3 by omega] at e3
                    replace e0 := Ext.cell e0
                    replace e1 := Ext.cell e1
                    replace e2 := Ext.cell e2
                    replace e3 := Ext.cell e3
                    have e5 := b6.rd32 (i := i) (by rw [Hi4.out.2]; omega)
                    have f5 := b6.free i
                    have hCq := Ext.drew wr
                    have hgk4 : 0 < gk := by have := Hi4.out.1; omega
                    clear hcc hbl
                    refine wp_plan (Ext wr) [24] [(0, true), (1, true), (2, true), (3, true), (4, true), (5, true), (6, true), (7, true), (8, true), (9, true), (10, true), (11, true), (12, true), (13, true), (14, true), (15, true), (16, true), (17, true), (18, true), (19, true), (20, true), (21, true), (22, true), (23, true), (24, false)] (by kernel_rfl) (by kernel_rfl) (fun ops hops => ?_)
                    dsimp only [zipPlan, pickOp]
                    iterate 24 (refine plan_still _ rfl rfl rfl hCq ?_; apply Exists.intro; refine ⟨fun W hW K' N' hK => ?_, ?_, ?_⟩; (· (go_step; first | exact hK | (repeat go_step; exact hK))); (· rfl))
                    refine plan_effect true rfl rfl ?_
                    go_wp2
                    refine Eff.wild (plan_nil ?_)
                    go_wp2
                    go_roundg (gk - 1)
                    case measure => omega
                    case rel =>
                      have hi := Hi4.out.1
                      refine ⟨i + 1, by omega, by go_num, ?_, E6.drew.setCell (Nat.le_refl _) _⟩
                      rw [rW, if_pos h16]
                      exact b6.drew.set_ _ _
                  · have Hi4 := (show Hid (i + gk = 64 ∧ (rW blk i).length = 64) from ⟨hi, hwl⟩)
                    have c15 := b6.rd32 (i := i - 15) (by omega)
                    have c2 := b6.rd32 (i := i - 2) (by omega)
                    have hgk4 : 0 < gk := by omega
                    clear hi hwl
                    go_upto_region 23 with (fail)
                    have d16 := Ext.cell (b6.rd32 (i := i - 16) (by rw [Hi4.out.2]; omega))
                    have d7 := Ext.cell (b6.rd32 (i := i - 7) (by rw [Hi4.out.2]; omega))
                    have hCq := Ext.drew wr
                    have hh16 : 16 ≤ i := by omega
                    clear c15 c2
                    refine wp_plan (Ext wr) [29] [(0, true), (1, true), (2, true), (3, true), (4, true), (5, true), (6, true), (7, true), (8, true), (9, true), (10, true), (12, true), (15, true), (16, true), (19, true), (21, true), (24, true), (25, true), (11, false), (13, false), (14, true), (17, true), (18, true), (20, false), (22, false), (23, true), (26, true), (27, true), (28, true), (29, false)] (by kernel_rfl) (by kernel_rfl) (fun ops hops => ?_)
                    dsimp only [zipPlan, pickOp]
                    iterate 18 (refine plan_still _ rfl rfl rfl hCq ?_; apply Exists.intro; refine ⟨fun W hW K' N' hK => ?_, ?_, ?_⟩; (· (go_step; first | exact hK | (repeat go_step; exact hK))); (· rfl))
                    refine plan_effect false rfl rfl ?_
                    go_step
                    go_step
                    refine (ref_down _ 7 (by omega) (by omega) _).mono ?_
                    rintro e w7 ⟨rfl, q7, hq7⟩
                    have hE7 : Ext wr w7 := hq7 ▸ below_drewN hCq q7
                    clear hq7
                    dsimp only
                    repeat go_step
                    refine Eff.mk_ hE7 ?_
                    refine plan_effect false rfl rfl ?_
                    go_step
                    go_step
                    refine (ref_down _ 18 (by omega) (by omega) _).mono ?_
                    rintro e w8 ⟨rfl, q8, hq8⟩
                    have hE8 : Ext wr w8 := hq8 ▸ below_drewN hE7 q8
                    clear hq8 hE7
                    dsimp only
                    repeat go_step
                    refine Eff.mk_ hE8 ?_
                    iterate 3 (refine plan_still _ rfl rfl rfl hE8 ?_; apply Exists.intro; refine ⟨fun W hW K' N' hK => ?_, ?_, ?_⟩; (· (go_step; first | exact hK | (repeat go_step; exact hK))); (· rfl))
                    refine plan_effect false rfl rfl ?_
                    go_step
                    go_step
                    refine (ref_down _ 17 (by omega) (by omega) _).mono ?_
                    rintro e w9 ⟨rfl, q9, hq9⟩
                    have hE9 : Ext wr w9 := hq9 ▸ below_drewN hE8 q9
                    clear hq9 hE8
                    dsimp only
                    repeat go_step
                    refine Eff.mk_ hE9 ?_
                    refine plan_effect false rfl rfl ?_
                    go_step
                    go_step
                    refine (ref_down _ 19 (by omega) (by omega) _).mono ?_
                    rintro e w10 ⟨rfl, q10, hq10⟩
                    have hE10 : Ext wr w10 := hq10 ▸ below_drewN hE9 q10
                    clear hq10 hE9
                    dsimp only
                    repeat go_step
                    refine Eff.mk_ hE10 ?_
                    iterate 4 (refine plan_still _ rfl rfl rfl hE10 ?_; apply Exists.intro; refine ⟨fun W hW K' N' hK => ?_, ?_, ?_⟩; (· (go_step; first | exact hK | (repeat go_step; exact hK))); (· rfl))
                    refine plan_effect true rfl rfl ?_
                    have b7 := b6.below hE10 b6.lt
                    have E7 := E6.trans (hE10.mono E6.size)
                    have e5 := b7.rd32 (i := i) (by rw [Hi4.out.2]; omega)
                    have f5 := b7.free i
                    go_wp2
                    refine Eff.wild (plan_nil ?_)
                    go_wp2
                    go_roundg (gk - 1)
                    case measure => omega
                    case rel =>
                      have hi := Hi4.out.1
                      refine ⟨i + 1, by omega, by go_num, ?_, E7.setCell (Nat.le_refl _) _⟩
                      rw [rW, if_neg h16]
                      exact b7.set_ _ _
                · obtain rfl : i = 64 := by omega
                  clear hi hcb hi64
                  have q0' := q0.below E6 q0.lt
                  have q1' := q1.below E6 q1.lt
                  generalize hns : rW blk 64 = ns at *
                  have Hns := (show Hid (rW blk 64 = ns ∧ ns.length = 64) from ⟨hns, hwl⟩)
                  clear hns hwl
                  have hKl : K.length = 64 := Hk.out.1
                  obtain ⟨wb, rfl⟩ : ∃ x, x = wr := ⟨_, rfl⟩
                  go_upto_region 25 with (first | (refine load_blk rfl 26 _ rfl rfl q1' Tryd.underlying26 (by kernel_rfl) Hj.out.2.2.2.1 ?_) | (refine store_put (f := U32) (xs := s) rfl 26 _ _ rfl rfl rfl (Blk.new wb 26 (row U32 (List.replicate 8 0#32))) (by kernel_rfl) Hj.out.2.2.2.1 rfl (fun _ => rfl) ?_; intro w11 p11))
                  have b11 := p11.blk
                  have E11 := p11.below ((Below.refl wb.heap.size wb).alloc (Nat.le_refl _) _) (Nat.le_refl _)
                  clear p11
                  have hwab : wa.heap.size < wb.heap.size := b6.lt
                  go_upto_region 26 with (fail)
                  go_loopg [17] 64 (fun k rv wq => ∃ r : Nat, r + k = 64 ∧ rv = .int .i64 r ∧ Blk wq wb.heap.size 26 (row U32 (rndS K ns s r)) ∧ Below wb.heap.size wb wq)
                  case atStart => exact ⟨0, rfl, rfl, b11, E11⟩
                  case round =>
                    clear b11 E11
                    obtain ⟨r, hr5, rfl, b5, E5⟩ := hrel
                    have hvl : (rndS K ns s r).length = 8 := rndS_len K ns s Hj.out.2.2.2.1 r
                    by_cases hr64 : r < 64
                    · have cK := (q0'.below E5 q0'.lt).rd32 (i := r) (by omega)
                      have cN := (b6.below E5 b6.lt).rd32 (i := r) (by rw [Hns.out.2]; exact hr64)
                      generalize hv : rndS K ns s r = v at *
                      have H5 := (show Hid (r + gk = 64 ∧ rndS K ns s r = v ∧ v.length = 8) from ⟨hr5, hv, hvl⟩)
                      have a0 := b5.rd32 (i := 0) (by omega)
                      have a1 := b5.rd32 (i := 1) (by omega)
                      have a2 := b5.rd32 (i := 2) (by omega)
                      have a4 := b5.rd32 (i := 4) (by omega)
                      have a5 := b5.rd32 (i := 5) (by omega)
                      have a6 := b5.rd32 (i := 6) (by omega)
                      have a7 := b5.rd32 (i := 7) (by omega)
                      have hgk5 : 0 < gk := by omega
                      clear hr5 hv hvl
                      go_upto_region 28 with (fail)
                      obtain ⟨wc, rfl⟩ : ∃ x, x = wr := ⟨_, rfl⟩
                      obtain ⟨k5, rfl⟩ : ∃ x, x = gk := ⟨_, rfl⟩
                      replace a0 := Ext.cell a0
                      replace a1 := Ext.cell a1
                      replace a2 := Ext.cell a2
                      replace a4 := Ext.cell a4
                      replace a5 := Ext.cell a5
                      replace a6 := Ext.cell a6
                      replace a7 := Ext.cell a7
                      replace cK := Ext.cell cK
                      replace cN := Ext.cell cN
                      have hCq := Ext.drew wc
                      refine wp_plan (Ext wc) [] [(0, true), (1, true), (2, true), (3, true), (5, true), (6, true), (9, true), (10, true), (14, true), (15, true), (16, true), (17, true), (18, true), (19, true), (22, true), (23, true), (24, true), (26, true), (27, true), (28, true), (4, false), (7, false), (8, true), (11, false), (12, true), (13, true), (20, false), (21, true), (25, true), (29, true), (30, true)] (by kernel_rfl) (by kernel_rfl) (fun ops hops => ?_)
                      dsimp only [zipPlan, pickOp]
                      iterate 20 (refine plan_still _ rfl rfl rfl hCq ?_; apply Exists.intro; refine ⟨fun W hW K' N' hK => ?_, ?_, ?_⟩; (· (go_step; first | exact hK | (repeat go_step; exact hK))); (· rfl))
                      refine plan_effect false rfl rfl ?_
                      go_step
                      go_step
                      refine (ref_down _ 6 (by omega) (by omega) _).mono ?_
                      rintro e x1w ⟨rfl, x1q, x1h⟩
                      have x1 : Ext wc x1w := x1h ▸ below_drewN hCq x1q
                      clear x1h
                      dsimp only
                      repeat go_step
                      refine Eff.mk_ x1 ?_
                      refine plan_effect false rfl rfl ?_
                      go_step
                      go_step
                      refine (ref_down _ 11 (by omega) (by omega) _).mono ?_
                      rintro e x2w ⟨rfl, x2q, x2h⟩
                      have x2 : Ext wc x2w := x2h ▸ below_drewN x1 x2q
                      clear x2h
                      dsimp only
                      repeat go_step
                      refine Eff.mk_ x2 ?_
                      iterate 1 (refine plan_still _ rfl rfl rfl x2 ?_; apply Exists.intro; refine ⟨fun W hW K' N' hK => ?_, ?_, ?_⟩; (· (go_step; first | exact hK | (repeat go_step; exact hK))); (· rfl))
                      refine plan_effect false rfl rfl ?_
                      go_step
                      go_step
                      refine (ref_down _ 25 (by omega) (by omega) _).mono ?_
                      rintro e x3w ⟨rfl, x3q, x3h⟩
                      have x3 : Ext wc x3w := x3h ▸ below_drewN x2 x3q
                      clear x3h
                      dsimp only
                      repeat go_step
                      refine Eff.mk_ x3 ?_
                      iterate 2 (refine plan_still _ rfl rfl rfl x3 ?_; apply Exists.intro; refine ⟨fun W hW K' N' hK => ?_, ?_, ?_⟩; (· (go_step; first | exact hK | (repeat go_step; exact hK))); (· rfl))
                      refine plan_effect false rfl rfl ?_
                      go_step
                      go_step
                      refine Pure.use (ref_choose _ _ _ _) ?_
                      dsimp only
                      repeat go_step
                      refine Eff.mk_ x3 ?_
                      iterate 4 (refine plan_still _ rfl rfl rfl x3 ?_; apply Exists.intro; refine ⟨fun W hW K' N' hK => ?_, ?_, ?_⟩; (· (go_step; first | exact hK | (repeat go_step; exact hK))); (· rfl))
                      refine plan_nil ?_
                      clear hops cK cN a5 a6 a7 x1 x2
                      obtain ⟨T, hT⟩ : ∃ T, T = tF (rd K r) (rd ns r) v := ⟨_, rfl⟩
                      have HT := (show Hid (T = tF (rd K r) (rd ns r) v) from hT)
                      unfold tF at hT
                      rw [← hT]
                      clear hT
                      repeat go_step
                      have y0 : Ext wc x3w.drew := Below.drew x3
                      refine wp_plan (Ext wc) [] [(0, true), (1, true), (3, true), (4, true), (7, true), (8, true), (11, true), (12, true), (13, true), (14, true), (15, true), (16, true), (17, true), (18, true), (19, true), (20, true), (21, true), (22, true), (23, true), (24, true), (25, true), (26, true), (27, true), (2, false), (5, false), (6, true), (9, false), (10, true), (28, true), (29, true)] (by kernel_rfl) (by kernel_rfl) (fun ops hops => ?_)
                      dsimp only [zipPlan, pickOp]
                      iterate 23 (refine plan_still _ rfl rfl rfl y0 ?_; apply Exists.intro; refine ⟨fun W hW K' N' hK => ?_, ?_, ?_⟩; (· (go_step; first | exact hK | (repeat go_step; exact hK))); (· rfl))
                      refine plan_effect false rfl rfl ?_
                      go_step
                      go_step
                      refine (ref_down _ 2 (by omega) (by omega) _).mono ?_
                      rintro e y1w ⟨rfl, y1q, y1h⟩
                      have y1 : Ext wc y1w := y1h ▸ below_drewN y0 y1q
                      clear y1h
                      dsimp only
                      repeat go_step
                      refine Eff.mk_ y1 ?_
                      refine plan_effect false rfl rfl ?_
                      go_step
                      go_step
                      refine (ref_down _ 13 (by omega) (by omega) _).mono ?_
                      rintro e y2w ⟨rfl, y2q, y2h⟩
                      have y2 : Ext wc y2w := y2h ▸ below_drewN y1 y2q
                      clear y2h
                      dsimp only
                      repeat go_step
                      refine Eff.mk_ y2 ?_
                      iterate 1 (refine plan_still _ rfl rfl rfl y2 ?_; apply Exists.intro; refine ⟨fun W hW K' N' hK => ?_, ?_, ?_⟩; (· (go_step; first | exact hK | (repeat go_step; exact hK))); (· rfl))
                      refine plan_effect false rfl rfl ?_
                      go_step
                      go_step
                      refine (ref_down _ 22 (by omega) (by omega) _).mono ?_
                      rintro e y3w ⟨rfl, y3q, y3h⟩
                      have y3 : Ext wc y3w := y3h ▸ below_drewN y2 y3q
                      clear y3h
                      dsimp only
                      repeat go_step
                      refine Eff.mk_ y3 ?_
                      iterate 3 (refine plan_still _ rfl rfl rfl y3 ?_; apply Exists.intro; refine ⟨fun W hW K' N' hK => ?_, ?_, ?_⟩; (· (go_step; first | exact hK | (repeat go_step; exact hK))); (· rfl))
                      refine plan_nil ?_
                      clear hops a0 a1 a2 a4 y1 y2
                      obtain ⟨Uu, hU⟩ : ∃ U, U = uF v := ⟨_, rfl⟩
                      have HU := (show Hid (Uu = uF v) from hU)
                      unfold uF at hU
                      rw [← hU]
                      clear hU
                      have b5' := b5.below y3 b5.lt
                      have E5' := E5.trans (y3.mono E5.size)
                      clear b5 E5 y3 y0 x3 hCq
                      go_upto_region 31 with (fail)
                      go_loopg [20] 7 (fun k tv wq => ∃ t : Nat, t + k = 7 ∧ tv = .int .i64 (7 - (t : Int)) ∧ Blk wq wb.heap.size 26 (row U32 (shS v t)) ∧ Below wb.heap.size wb wq)
                      case atStart => exact ⟨0, rfl, rfl, b5', E5'⟩
                      case round =>
                        clear b5' E5'
                        obtain ⟨t, ht6, rfl, b5, E5⟩ := hrel
                        have hvl8 : (shS v t).length = 8 := by rw [shS_len]; exact H5.out.2.2
                        by_cases ht7 : t < 7
                        · have c1 := b5.rd32 (i := 7 - t - 1) (by omega)
                          have c2 := b5.rd32 (i := 7 - t) (by omega)
                          have f2 := b5.free (7 - t)
                          have H6 := (show Hid (t + gk = 7) from ht6)
                          have hgk6 : 0 < gk := by omega
                          clear ht6 hvl8
                          go_wp2
                          go_roundg (gk - 1)
                          case measure => omega
                          case rel =>
                            have ht6 := H6.out
                            exact ⟨t + 1, by omega, by go_num, b5.set_ _ _, E5.setCell (Nat.le_refl _) _⟩
                        · obtain rfl : t = 7 := by omega
                          have c4 := b5.rd32 (i := 4) (by omega)
                          have f4 := b5.free 4
                          have b8 := b5.set_ 4 (rd (shS v 7) 4 + T)
                          have c0 := b8.rd32 (i := 0) (by rw [List.length_set]; omega)
                          have f0 := b8.free 0
                          have E8 := E5.setCell (p := ⟨wb.heap.size, 4, none⟩) (Nat.le_refl _) (U32 (rd (shS v 7) 4 + T))
                          clear ht6 hvl8 b5 E5
                          go_wp2
                          go_roundg (k5 - 1)
                          case measure => omega
                          case rel =>
                            have h5 := H5.out.1
                            refine ⟨r + 1, by omega, by go_num, ?_, E8.setCell (Nat.le_refl _) _⟩
                            rw [rndS, H5.out.2.1, ← rnd_chain _ _ v H5.out.2.2, ← HT.out, ← HU.out]
                            exact b8.set_ 0 _
                    · obtain rfl : r = 64 := by omega
                      clear hr5 hr64
                      generalize hvv : rndS K ns s 64 = vv at *
                      have Hvv := (show Hid (rndS K ns s 64 = vv ∧ vv.length = 8) from ⟨hvv, hvl⟩)
                      clear hvv hvl
                      have z0 := q0'.below E5 q0'.lt
                      have z1 := q1'.below E5 q1'.lt
                      have q2' := q2.below E6 q2.lt
                      have z2 := q2'.below E5 q2'.lt
                      have zo := (o.below E6 (Nat.le_refl _)).below E5 (Nat.le_refl _)
                      have zB := (qB.trans (E6.mono qB.size)).trans (E5.mono (qB.trans (E6.mono qB.size)).size)
                      clear q0 q1 q2 q0' q1' q2' o qB E6 E5 b6
                      have hnb : w.heap.size + 1 < wb.heap.size := by have := zo.at_.2.2.2.1; have := hga; omega
                      have b5z := b5
                      clear b5
                      go_upto_region 37 with (fail)
                      go_loopg [21] 8 (fun k zv wq => ∃ z : Nat, z + k = 8 ∧ zv = .int .i64 z ∧ Own wq w3.heap.size 5 U8 (.slice (some ⟨ga, 0, none⟩) (64 * m) ca) (allB bs) ∧ Blk wq w.heap.size 25 (row U32 K) ∧ Blk wq (w.heap.size + 1) 26 (row U32 (addS vv s z)) ∧ Blk wq (w.heap.size + 1 + 1) 30 (row U8 (List.replicate 32 0#8)) ∧ Blk wq wb.heap.size 26 (row U32 vv) ∧ Below w.heap.size w wq)
                      case atStart => exact ⟨0, rfl, rfl, zo, z0, z1, z2, b5z, zB⟩
                      case round =>
                        clear zo z0 z1 z2 b5z zB
                        obtain ⟨z, hz7, rfl, zo, z0, z1, z2, b5, zB⟩ := hrel
                        have hal : (addS vv s z).length = 8 := by rw [addS_len]; exact Hj.out.2.2.2.1
                        by_cases hz8 : z < 8
                        · have d1 := Ext.cell (z1.rd32 (i := z) (by omega))
                          have d2 := Ext.cell (b5.rd32 (i := z) (by rw [Hvv.out.2]; omega))
                          have e1 := z1.rd32 (i := z) (by omega)
                          have f1 := z1.free z
                          have H7 := (show Hid (z + gk = 8) from hz7)
                          have hgk7 : 0 < gk := by omega
                          have hCq := Ext.drew wr
                          clear hz7 hal
                          go_upto_region 39 with (fail)
                          refine wp_plan (Ext wr) [9] [(0, true), (1, true), (2, true), (3, true), (4, true), (5, true), (6, true), (7, true), (8, true), (9, false)] (by kernel_rfl) (by kernel_rfl) (fun ops hops => ?_)
                          dsimp only [zipPlan, pickOp]
                          iterate 9 (refine plan_still _ rfl rfl rfl hCq ?_; apply Exists.intro; refine ⟨fun W hW K' N' hK => ?_, ?_, ?_⟩; (· (go_step; first | exact hK | (repeat go_step; exact hK))); (· rfl))
                          refine plan_effect true rfl rfl ?_
                          go_wp2
                          refine Eff.wild (plan_nil ?_)
                          go_wp2
                          go_roundg (gk - 1)
                          case measure => omega
                          case rel =>
                            have hz7 := H7.out
                            exact ⟨z + 1, by omega, by go_num, zo.drew.setCell z1.drew (by decide) _, z0.drew.far (p := ⟨w.heap.size + 1, z, none⟩) (show w.heap.size ≠ w.heap.size + 1 by omega) _, z1.drew.set_ _ _, z2.drew.far (p := ⟨w.heap.size + 1, z, none⟩) (show w.heap.size + 1 + 1 ≠ w.heap.size + 1 by omega) _, b5.drew.far (p := ⟨w.heap.size + 1, z, none⟩) (show wb.heap.size ≠ w.heap.size + 1 by omega) _, zB.drew.setCell (p := ⟨w.heap.size + 1, z, none⟩) (show w.heap.size ≤ w.heap.size + 1 by omega) _⟩
                        · obtain rfl : z = 8 := by omega
                          have he : absS K H (allB bs) (j + 1) = addS vv s 8 := by rw [absS, Hj.out.2.1, Hj.out.2.2.1, blockF_eq, ← rW_numF blk, Hns.out.1, Hvv.out.1]
                          rw [← he] at z1
                          clear hz7 hal he
                          go_wp2
                          go_roundg (k3 - 1)
                          case measure => omega
                          case rel =>
                            have hj := Hj.out.1
                            exact ⟨j + 1, by omega, by go_num, zo, z0, z1, z2, zB⟩
            · obtain rfl : j = m := by omega
              clear hj hlt
              have hs8 : (absS K H (allB bs) j).length = 8 := by rw [absS_len]; exact Hk.out.2
              generalize hs : absS K H (allB bs) j = s at *
              have Hs := (show Hid (absS K H (allB bs) j = s ∧ s.length = 8) from ⟨hs, hs8⟩)
              clear hs hs8
              obtain ⟨wb, rfl⟩ : ∃ x, x = wr := ⟨_, rfl⟩
              go_upto_region 40 with (fail)
              iterate 7 go_step
              refine store_put (f := U8) (xs := List.replicate 32 0#8) rfl 30 _ _ rfl rfl rfl (Blk.new wb 30 (row U8 (List.replicate 32 0#8))) (by kernel_rfl) rfl rfl (fun _ => rfl) ?_
              intro w12 p12
              have b12 := p12.blk
              have E12 := p12.below ((Below.refl wb.heap.size wb).alloc (Nat.le_refl _) _) (Nat.le_refl _)
              clear p12
              go_upto_region 42 with (fail)
              go_loopg [23] 32 (fun k zv wq => ∃ x : Nat, x + k = 32 ∧ zv = .int .i64 x ∧ Blk wq wb.heap.size 30 (row U8 (outS s x)) ∧ Below wb.heap.size wb wq)
              case atStart => exact ⟨0, rfl, rfl, b12, E12⟩
              case round =>
                clear b12 E12
                obtain ⟨x, hx, rfl, b12, E12⟩ := hrel
                have hol : (outS s x).length = 32 := outS_len s x
                have z1 := q1.below E12 q1.lt
                by_cases hx32 : x < 32
                · have d1 := z1.rd32 (i := x / 4) (by have := Hs.out.2; omega)
                  have d2 := b12.rd8 (i := x) (by omega)
                  have f2 := b12.free x
                  have Hx8 := (show Hid (x + gk = 32) from hx)
                  have hgk8 : 0 < gk := by omega
                  have hr8 := rem8' (rd s (x / 4) >>> (24 - 8 * (x % 4)))
                  clear hx hol
                  go_wp2
                  go_roundg (gk - 1)
                  case measure => omega
                  case rel =>
                    have hx := Hx8.out
                    refine ⟨x + 1, by omega, by go_num, ?_, E12.setCell (Nat.le_refl _) _⟩
                    rw [outS, Nat.mul_comm (x % 4) 8]
                    exact b12.set_ _ _
                · obtain rfl : x = 32 := by omega
                  have z2 := q2.below E12 q2.lt
                  have zB := qB.trans (E12.mono qB.size)
                  have Hn := (show Hid ((outS s 32).length = 32) from hol)
                  have Hz := (show Hid ((row U8 (List.replicate 32 0#8)).size = 32) from rfl)
                  clear hx hol hx32
                  go_wp2_with (first | (refine load_blk rfl 30 _ rfl rfl b12 Tryd.underlying30 (by kernel_rfl) Hn.out ?_) | (refine store_blk rfl 30 _ _ rfl rfl rfl z2 (by kernel_rfl) Hn.out Hz.out (fun _ => rfl) ?_))
                  have hdiv : (allB bs).length / 64 = j := by rw [Hm.out.1]; omega
                  exact ret_blk rfl rfl z2.setRow Tryd.underlying30 (by kernel_rfl) Hn.out rfl ⟨by rw [hdiv, Hs.out.1], below_setRow zB (by omega)⟩
end Go.Proofs.YtfcbkmgkdbdabaaDoor
