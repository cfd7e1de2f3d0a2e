/- Functions of the program as plain functions, and their walks, printed by walk.py. -/
import Derived.Test.YtccilbklafhjiaaMcF
namespace Go.Proofs.Ytccilbklafhjiaa
open Go.RowKit
set_option linter.unusedVariables false
set_option linter.unusedSimpArgs false
def smithyref09_Part.b1 (a2 : Int) (a1 : Int) (a0 : List (BitVec 8)) (x7 : List (BitVec 8)) (x8 : Int) : Option (Ctl ((List (BitVec 8)) × (Int)) (List (BitVec 8))) :=
  Let (decide (x8 < a2)) fun x12 => (bif x12 then Let (wi (a1 + x8)) fun x17 => Let ((a0.length : Int)) fun x19 => Let (decide (x17 < x19)) fun x20 => (bif x20 then Let (wi (a1 + x8)) fun x25 => Chk ((0 : Int) ≤ x25 ∧ x25 < (a0.length : Int)) <| Let (lget a0 x25.toNat) fun x27 => Let ([x27]) fun x28 => Chk ((x7.length + x28.length) * 1 ≤ 140737488355328) <| Let (x7 ++ x28) fun x29 => some x29 else Let ([0#8]) fun x31 => Chk ((x7.length + x31.length) * 1 ≤ 140737488355328) <| Let (x7 ++ x31) fun x32 => some x32).bind (fun (x7_7 : List (BitVec 8)) => Let (wi (x8 + 1)) fun x14 => some (.next (x7_7, x14))) else some (.brk (x7, x8)))
def smithyref09_Part (a0 : List (BitVec 8)) (a1 : Int) (a2 : Int) : Option (List (BitVec 8)) :=
  Let (([] : List (BitVec 8))) fun x9 => (wlx (σ := (List (BitVec 8)) × (Int)) (fun s => smithyref09_Part.b1 a2 a1 a0 s.1 s.2) (x9, 0)).bind (Sum.elim (fun s => (fun x7 x8 => some x7) s.1 s.2) (fun r => some r))
set_option maxRecDepth 100000 in
theorem smithyref09_Part.calls  (a0 : List (BitVec 8)) (a1 : Int) (a2 : Int) (A0 : Option Addr) (c0 : Nat) (r : List (BitVec 8)) (H : smithyref09_Part a0 a1 a2 = some r) (w : World) (hs0 : SlW w U8 A0 a0) (hc0 : a0.length ≤ c0)  :
    Calls Try.prog 21 #[.slice A0 a0.length c0, .int .i64 a1, .int .i64 a2] w fun e w' => ∃ A c, e = .returned (.slice A r.length c) ∧ Below w.heap.size w w' ∧ OwnR w w' 5 U8 A c r := by
  unfold smithyref09_Part at H
  replace hs0 := hs0.toH
  have hM := Mm.start w (snap w) (snap_ok w)
  generalize snap w = h at *
  refine t_enter (vs := [.slice A0 a0.length c0, .int .i64 a1, .int .i64 a2]) (n := 34) Try.func21 rfl rfl rfl hM ?_
  clear hM
  change T 34 _ _ _
  refine t_seq ?_
  refine t_region (fun ops hops => ?_)
  clear hops
  refine z_val (v := .slice none 0 0) (val_assign rfl rfl) rfl rfl rfl (fun _ _ _ => trivial) ?_
  refine z_nil ?_
  refine t_seq ?_
  refine t_region (fun ops hops => ?_)
  clear hops
  obtain ⟨x9, hx9, H⟩ := Let_elim H
  have hlx9 : x9.length = 0 := by subst hx9; rfl
  refine z_buildSlice' (e := 5) (f := U8) (xs := x9) (vs := []) rfl rfl (by subst hx9; intro w; kernel_rfl) hlx9 (by decide) rfl rfl rfl (fun _ _ _ _ => trivial) (fun g_1 hs_3 => ?_)
  clear hx9 hlx9
  refine z_val (v := .slice (some ⟨g_1, 0, none⟩) x9.length 0) (val_assign rfl rfl) rfl rfl rfl (fun _ _ _ => trivial) ?_
  refine z_nil ?_
  refine t_seq ?_
  refine t_seq ?_
  refine t_region (fun ops hops => ?_)
  clear hops
  refine z_val (v := .int .i64 0) (val_assign rfl rfl) rfl rfl rfl (fun _ _ _ => trivial) ?_
  refine z_nil ?_
  refine t_block ?_
  obtain ⟨z1, hz1, HK1⟩ := Option.bind_eq_some_iff.1 H
  clear H
  refine t_while hz1 (fun (s : (List (BitVec 8)) × (Int)) (g : (Option Addr) × (Nat)) => [(0, .slice A0 a0.length c0), (1, .int .i64 a1), (2, .int .i64 a2), (7, .slice g.1 s.1.length g.2), (8, .int .i64 s.2)]) (fun (s : (List (BitVec 8)) × (Int)) (g : (Option Addr) × (Nat)) => [(7, .slice g.1 s.1.length g.2)]) (fun (s : (List (BitVec 8)) × (Int)) (g : (Option Addr) × (Nat)) => Mm w [] h [.row (.slice g.1 s.1.length g.2) 5 1 (s.1.map U8)]) (fun (s : (List (BitVec 8)) × (Int)) (g : (Option Addr) × (Nat)) => Mm w [] h [.row (.slice g.1 s.1.length g.2) 5 1 (s.1.map U8)]) (fun (s : (List (BitVec 8)) × (Int)) (g : (Option Addr) × (Nat)) => Shp g.1 s.1.length g.2) (fun (s : (List (BitVec 8)) × (Int)) (g : (Option Addr) × (Nat)) => Shp g.1 s.1.length g.2) ⟨(some ⟨g_1, 0, none⟩), 0⟩ hs_3 (fun a w ha hw => ⟨ha.cons rfl (ha.cons rfl (ha.cons rfl (ha.cons rfl (ha.cons rfl (ha.nil))))), hw⟩) (fun Gn Gb s g e hφ H hn1 hb1 hr1 => ?_) (fun s g hzz hφ => ?_)
  ·
    obtain ⟨x7, x8⟩ := s
    obtain ⟨A_4, c_5⟩ := g
    try dsimp only at hφ
    have hs_6 := hφ; clear hφ
    change smithyref09_Part.b1 a2 a1 a0 x7 x8 = some e at H
    unfold smithyref09_Part.b1 at H
    clear hz1
    change T 34 _ _ _
    refine t_seq ?_
    refine t_seq ?_
    refine t_region (fun ops hops => ?_)
    clear hops
    refine z_val (v := .int .i64 x8) (val_move rfl rfl) rfl rfl rfl (fun _ _ _ => trivial) ?_
    refine z_val (v := .int .i64 a2) (val_move rfl rfl) rfl rfl rfl (fun _ _ _ => trivial) ?_
    obtain ⟨x12, hx12, H⟩ := Let_elim H
    refine z_val (v := .bool x12) (by subst hx12; exact val_bin rfl rfl rfl rfl (i64_lss _ _ _)) rfl rfl rfl (fun _ _ _ => trivial) ?_
    clear hx12
    refine z_nil ?_
    cases x12
    ·
      replace H := cond_f H
      refine t_cond_false rfl ?_
      refine t_exit rfl ?_
      obtain rfl := Option.some.inj H
      exact t_reach ((hb1 _ ⟨A_4, c_5⟩ rfl hs_6).weak (fun a ha => ha.cons rfl (ha.nil)) (fun w hw => hw))
    ·
      replace H := cond_t H
      refine t_cond_true rfl ?_
      refine t_skip ?_
      refine t_seq ?_
      refine t_block ?_
      refine t_seq ?_
      refine t_region (fun ops hops => ?_)
      clear hops
      refine z_val (v := .int .i64 a1) (val_move rfl rfl) rfl rfl rfl (fun _ _ _ => trivial) ?_
      refine z_val (v := .int .i64 x8) (val_move rfl rfl) rfl rfl rfl (fun _ _ _ => trivial) ?_
      obtain ⟨x17, hx17, H⟩ := Let_elim H
      refine z_val (v := .int .i64 x17) (by subst hx17; exact val_bin rfl rfl rfl rfl (i64_add _ _ _)) rfl rfl rfl (fun _ _ _ => trivial) ?_
      clear hx17
      refine z_val (v := .slice A0 a0.length c0) (val_move rfl rfl) rfl rfl rfl (fun _ _ _ => trivial) ?_
      obtain ⟨x19, hx19, H⟩ := Let_elim H
      refine z_val (v := .int .i64 x19) (by subst hx19; exact val_len rfl rfl rfl Try.underlying22) rfl rfl rfl (fun _ _ _ => trivial) ?_
      clear hx19
      obtain ⟨x20, hx20, H⟩ := Let_elim H
      refine z_val (v := .bool x20) (by subst hx20; exact val_bin rfl rfl rfl rfl (i64_lss _ _ _)) rfl rfl rfl (fun _ _ _ => trivial) ?_
      clear hx20
      refine z_nil ?_
      refine t_bind H (fun (s : (List (BitVec 8))) (g : (Option Addr) × (Nat)) => [(0, .slice A0 a0.length c0), (1, .int .i64 a1), (2, .int .i64 a2), (7, .slice g.1 s.length g.2), (8, .int .i64 x8)]) (fun (s : (List (BitVec 8))) (g : (Option Addr) × (Nat)) => Mm w [] h [.row (.slice g.1 s.length g.2) 5 1 (s.map U8)]) (fun (s : (List (BitVec 8))) (g : (Option Addr) × (Nat)) => Shp g.1 s.length g.2) (fun Gr K s he HJ => ?_) (fun s g HB hφ => ?_)
      ·
        clear H
        cases x20
        ·
          have H := cond_f he
          clear he
          refine t_cond_false rfl ?_
          refine t_region (fun ops hops => ?_)
          clear hops
          refine z_val (v := .slice A_4 x7.length c_5) (val_move rfl rfl) rfl rfl rfl (fun _ _ _ => trivial) ?_
          obtain ⟨x31, hx31, H⟩ := Let_elim H
          have hlx31 : x31.length = 1 := by subst hx31; rfl
          refine z_buildSlice' (e := 5) (f := U8) (xs := x31) (vs := [(0, .int .u8 0)]) rfl rfl (by subst hx31; intro w; kernel_rfl) hlx31 (by decide) rfl rfl rfl (fun _ _ _ _ => trivial) (fun g_12 hs_14 => ?_)
          clear hx31 hlx31
          obtain ⟨hq_15, H⟩ := Chk_elim H
          obtain ⟨x32, hx32, H⟩ := Let_elim H
          refine z_append (f := U8) (j := 1) (xs := x7) (ys := x31) (zs := x32) rfl rfl Try.underlying22 in5 rfl rfl rfl rfl (fun w hw => (row_w hw (j := 0) rfl)) (fun _ => rfl) hq_15 (by decide) hx32 (fun A_16 c_17 => [.row (.slice (some ⟨g_12, 0, none⟩) x31.length 1) 5 1 (x31.map U8), .row (.slice A_16 x32.length c_17) 5 1 (x32.map U8)]) (fun _ _ => rfl) rfl rfl rfl (fun _ _ _ _ _ => trivial) (fun A_16 c_17 hs_18 => ?_)
          clear hx32
          refine z_val (v := .slice A_16 x32.length c_17) (val_assign rfl rfl) rfl rfl rfl (fun _ _ _ => trivial) ?_
          refine z_nil ?_
          obtain rfl := Option.some.inj H
          exact t_reach ((K _ ⟨A_16, c_17⟩ HJ hs_18).weak (fun a ha => ha.cons rfl (ha.cons rfl (ha.cons rfl (ha.cons rfl (ha.cons rfl (ha.nil)))))) (fun w hw => hw.sel [1] rfl rfl))
        ·
          have H := cond_t he
          clear he
          refine t_cond_true rfl ?_
          refine t_region (fun ops hops => ?_)
          clear hops
          refine z_val (v := .slice A_4 x7.length c_5) (val_move rfl rfl) rfl rfl rfl (fun _ _ _ => trivial) ?_
          refine z_val (v := .slice A0 a0.length c0) (val_move rfl rfl) rfl rfl rfl (fun _ _ _ => trivial) ?_
          refine z_val (v := .int .i64 a1) (val_move rfl rfl) rfl rfl rfl (fun _ _ _ => trivial) ?_
          refine z_val (v := .int .i64 x8) (val_move rfl rfl) rfl rfl rfl (fun _ _ _ => trivial) ?_
          obtain ⟨x25, hx25, H⟩ := Let_elim H
          refine z_val (v := .int .i64 x25) (by subst hx25; exact val_bin rfl rfl rfl rfl (i64_add _ _ _)) rfl rfl rfl (fun _ _ _ => trivial) ?_
          clear hx25
          obtain ⟨hq_19, H⟩ := Chk_elim H
          obtain ⟨b_20, o_21, hA_22, hc_23⟩ := hs0.at_ (idx_lt hq_19)
          refine z_val (v := .pointer (some ⟨b_20, o_21 + x25.toNat, none⟩)) (val_idxS0 rfl rfl rfl Try.underlying22 sz5 hq_19 hA_22 rfl) rfl rfl rfl (fun _ _ _ => trivial) ?_
          obtain ⟨x27, hx27, H⟩ := Let_elim H
          refine z_val (v := U8 x27) (by subst hx27; exact val_load1 rfl rfl Try.underlying5 rfl (fun _ hw => hc_23.cell hw)) rfl rfl rfl (fun _ _ _ => trivial) ?_
          clear hx27
          obtain ⟨x28, hx28, H⟩ := Let_elim H
          have hlx28 : x28.length = 1 := by subst hx28; rfl
          refine z_buildSlice' (e := 5) (f := U8) (xs := x28) (vs := [(0, U8 x27)]) rfl rfl (by subst hx28; intro w; kernel_rfl) hlx28 (by decide) rfl rfl rfl (fun _ _ _ _ => trivial) (fun g_24 hs_26 => ?_)
          clear hx28 hlx28
          obtain ⟨hq_27, H⟩ := Chk_elim H
          obtain ⟨x29, hx29, H⟩ := Let_elim H
          refine z_append (f := U8) (j := 1) (xs := x7) (ys := x28) (zs := x29) rfl rfl Try.underlying22 in5 rfl rfl rfl rfl (fun w hw => (row_w hw (j := 0) rfl)) (fun _ => rfl) hq_27 (by decide) hx29 (fun A_28 c_29 => [.row (.slice (some ⟨g_24, 0, none⟩) x28.length 1) 5 1 (x28.map U8), .row (.slice A_28 x29.length c_29) 5 1 (x29.map U8)]) (fun _ _ => rfl) rfl rfl rfl (fun _ _ _ _ _ => trivial) (fun A_28 c_29 hs_30 => ?_)
          clear hx29
          refine z_val (v := .slice A_28 x29.length c_29) (val_assign rfl rfl) rfl rfl rfl (fun _ _ _ => trivial) ?_
          refine z_nil ?_
          obtain rfl := Option.some.inj H
          exact t_reach ((K _ ⟨A_28, c_29⟩ HJ hs_30).weak (fun a ha => ha.cons rfl (ha.cons rfl (ha.cons rfl (ha.cons rfl (ha.cons rfl (ha.nil)))))) (fun w hw => hw.sel [1] rfl rfl))
      ·
        replace H := HB
        clear HB
        obtain ⟨x7_7, rfl⟩ : ∃ x, x = s := ⟨_, rfl⟩
        obtain ⟨A_8, c_9⟩ := g
        try dsimp only at hφ
        have hs_10 := hφ; clear hφ
        try dsimp only at H
        change T 34 _ _ _
        refine t_fin ?_
        refine t_region (fun ops hops => ?_)
        clear hops
        refine z_val (v := .int .i64 x8) (val_move rfl rfl) rfl rfl rfl (fun _ _ _ => trivial) ?_
        obtain ⟨x14, hx14, H⟩ := Let_elim H
        refine z_val (v := .int .i64 x14) (by subst hx14; exact val_bin rfl rfl rfl rfl (i64_add _ _ _)) rfl rfl rfl (fun _ _ _ => trivial) ?_
        clear hx14
        refine z_val (v := .int .i64 x14) (val_assign rfl rfl) rfl rfl rfl (fun _ _ _ => trivial) ?_
        refine z_nil ?_
        obtain rfl := Option.some.inj H
        exact t_reach ((hn1 _ ⟨A_8, c_9⟩ rfl hs_10).weak (fun a ha => ha.cons rfl (ha.cons rfl (ha.cons rfl (ha.cons rfl (ha.cons rfl (ha.nil)))))) (fun w hw => hw))
  ·
    obtain ⟨x7, x8⟩ := s
    obtain ⟨A_4, c_5⟩ := g
    try dsimp only at hφ
    have hs_6 := hφ; clear hφ
    subst hzz
    have H := HK1
    clear HK1 hz1
    replace H := sum_l H
    try dsimp only at H
    change T 34 _ _ _
    refine t_seq ?_
    refine t_region (fun ops hops => ?_)
    clear hops
    refine z_val (v := .slice A_4 x7.length c_5) (val_move rfl rfl) rfl rfl rfl (fun _ _ _ => trivial) ?_
    refine z_val (v := .slice A_4 x7.length c_5) (val_assign rfl rfl) rfl rfl rfl (fun _ _ _ => trivial) ?_
    refine z_nil ?_
    refine t_ret ?_
    obtain rfl := Option.some.inj H
    exact ret1 rfl (res_tmp rfl) (fun _ hw => ⟨A_4, c_5, rfl, hw.below, (row_out hw (j := 0) rfl hs_6)⟩)
def smithyref09_Length.b1 (x12 : List (BitVec 8)) (x7 : BitVec 64) (x8 : Int) : Option (Ctl ((BitVec 64) × (Int)) ((BitVec 64) × (Bool))) :=
  Let (decide (x8 < 32)) fun x14 => (bif x14 then Let (decide (x8 < 24)) fun x18 => (bif x18 then Chk ((0 : Int) ≤ x8 ∧ x8 < (x12.length : Int)) <| Let (lget x12 x8.toNat) fun x23 => Let ((x23.toNat : Int) != 0) fun x24 => some x24 else some false).bind (fun x25 => (bif x25 then some (.ret (0#64, false)) else Let (x7 * 256#64) fun x27 => Chk ((0 : Int) ≤ x8 ∧ x8 < (x12.length : Int)) <| Let (lget x12 x8.toNat) fun x31 => Let (x31.setWidth 64) fun x32 => Let (x27 + x32) fun x33 => Let (wi (x8 + 1)) fun x16 => some (.next (x33, x16)))) else some (.brk (x7, x8)))
def smithyref09_Length (a0 : List (BitVec 8)) (a1 : Int) : Option ((BitVec 64) × (Bool)) :=
  Let (wi (32 * a1)) fun x11 => (smithyref09_Part a0 x11 32).bind fun x12 => (wlx (σ := (BitVec 64) × (Int)) (fun s => smithyref09_Length.b1 x12 s.1 s.2) (0#64, 0)).bind (Sum.elim (fun s => (fun x7 x8 => some (x7, true)) s.1 s.2) (fun r => some r))
set_option maxRecDepth 100000 in
theorem smithyref09_Length.calls  (a0 : List (BitVec 8)) (a1 : Int) (A0 : Option Addr) (c0 : Nat) (r : (BitVec 64) × (Bool)) (H : smithyref09_Length a0 a1 = some r) (w : World) (hs0 : SlW w U8 A0 a0) (hc0 : a0.length ≤ c0)  :
    Made Try.prog 20 #[.slice A0 a0.length c0, .int .i64 a1] w (.tuple #[U64 r.1, .bool r.2]) := by
  unfold smithyref09_Length at H
  replace hs0 := hs0.toH
  have hM := Mm.start w (snap w) (snap_ok w)
  generalize snap w = h at *
  refine t_enter (vs := [.slice A0 a0.length c0, .int .i64 a1]) (n := 35) Try.func20 rfl rfl rfl hM ?_
  clear hM
  change T 35 _ _ _
  refine t_seq ?_
  refine t_region (fun ops hops => ?_)
  clear hops
  refine z_val (v := .int .u64 0) (val_assign rfl rfl) rfl rfl rfl (fun _ _ _ => trivial) ?_
  refine z_val (v := .bool false) (val_assign rfl rfl) rfl rfl rfl (fun _ _ _ => trivial) ?_
  refine z_nil ?_
  refine t_seq ?_
  refine t_region (fun ops hops => ?_)
  clear hops
  refine z_val (v := .slice A0 a0.length c0) (val_move rfl rfl) rfl rfl rfl (fun _ _ _ => trivial) ?_
  refine z_val (v := .int .i64 a1) (val_move rfl rfl) rfl rfl rfl (fun _ _ _ => trivial) ?_
  obtain ⟨x11, hx11, H⟩ := Let_elim H
  refine z_val (v := .int .i64 x11) (by subst hx11; exact val_bin rfl rfl rfl rfl (i64_mul _ _ _)) rfl rfl rfl (fun _ _ _ => trivial) ?_
  clear hx11
  obtain ⟨x12, hx, H⟩ := Option.bind_eq_some_iff.1 H
  refine z_madeS (F := fun A_1 c_2 => .slice A_1 x12.length c_2) (xs := x12) rfl Try.func21 nm21 bs21 rfl (fun w hw => smithyref09_Part.calls a0 x11 32 A0 c0 x12 hx w (hs0.toW hw) hc0) rfl rfl rfl (fun _ _ _ _ _ => trivial) (fun A_1 c_2 hs_3 => ?_)
  clear hx
  refine z_val (v := .slice A_1 x12.length c_2) (val_assign rfl rfl) rfl rfl rfl (fun _ _ _ => trivial) ?_
  refine z_nil ?_
  refine t_seq ?_
  refine t_region (fun ops hops => ?_)
  clear hops
  refine z_val (v := .int .u64 0) (val_assign rfl rfl) rfl rfl rfl (fun _ _ _ => trivial) ?_
  refine z_nil ?_
  refine t_seq ?_
  refine t_seq ?_
  refine t_region (fun ops hops => ?_)
  clear hops
  refine z_val (v := .int .i64 0) (val_assign rfl rfl) rfl rfl rfl (fun _ _ _ => trivial) ?_
  refine z_nil ?_
  refine t_block ?_
  obtain ⟨z1, hz1, HK1⟩ := Option.bind_eq_some_iff.1 H
  clear H
  refine t_while hz1 (fun (s : (BitVec 64) × (Int)) (g : Unit) => [(6, .slice A_1 x12.length c_2), (7, U64 s.1), (8, .int .i64 s.2)]) (fun (s : (BitVec 64) × (Int)) (g : Unit) => [(7, U64 s.1)]) (fun (s : (BitVec 64) × (Int)) (g : Unit) => Mm w [] h [.row (.slice A_1 x12.length c_2) 5 1 (x12.map U8)]) (fun (s : (BitVec 64) × (Int)) (g : Unit) => Mm w [] h []) (fun (s : (BitVec 64) × (Int)) (g : Unit) => True) (fun (s : (BitVec 64) × (Int)) (g : Unit) => True) () trivial (fun a w ha hw => ⟨ha.cons rfl (ha.cons rfl (ha.cons rfl (ha.nil))), hw⟩) (fun Gn Gb s g e hφ H hn1 hb1 hr1 => ?_) (fun s g hzz hφ => ?_)
  ·
    obtain ⟨x7, x8⟩ := s
    change smithyref09_Length.b1 x12 x7 x8 = some e at H
    unfold smithyref09_Length.b1 at H
    clear hz1
    change T 35 _ _ _
    refine t_seq ?_
    refine t_seq ?_
    refine t_region (fun ops hops => ?_)
    clear hops
    refine z_val (v := .int .i64 x8) (val_move rfl rfl) rfl rfl rfl (fun _ _ _ => trivial) ?_
    obtain ⟨x14, hx14, H⟩ := Let_elim H
    refine z_val (v := .bool x14) (by subst hx14; exact val_bin rfl rfl rfl rfl (i64_lss _ _ _)) rfl rfl rfl (fun _ _ _ => trivial) ?_
    clear hx14
    refine z_nil ?_
    cases x14
    ·
      replace H := cond_f H
      refine t_cond_false rfl ?_
      refine t_exit rfl ?_
      obtain rfl := Option.some.inj H
      exact t_reach ((hb1 _ () rfl trivial).weak (fun a ha => ha.cons rfl (ha.nil)) (fun w hw => hw.sel [] rfl rfl))
    ·
      replace H := cond_t H
      refine t_cond_true rfl ?_
      refine t_skip ?_
      refine t_seq ?_
      refine t_block ?_
      refine t_seq ?_
      refine t_seq ?_
      refine t_region (fun ops hops => ?_)
      refine z_val (v := .int .i64 x8) (val_move rfl rfl) rfl rfl rfl (fun _ _ _ => trivial) ?_
      obtain ⟨x18, hx18, H⟩ := Let_elim H
      refine z_val (v := .bool x18) (by subst hx18; exact val_bin rfl rfl rfl rfl (i64_lss _ _ _)) rfl rfl rfl (fun _ _ _ => trivial) ?_
      clear hx18
      refine z_val (v := .bool x18) (val_move rfl rfl) rfl rfl rfl (fun _ _ _ => trivial) ?_
      refine z_bind H 6 (fun (s : Bool) (_ : Unit) => [(6, .slice A_1 x12.length c_2), (7, U64 x7), (8, .int .i64 x8), (25, .bool s)]) (fun _ _ => Mm w [] h [.row (.slice A_1 x12.length c_2) 5 1 (x12.map U8)]) (fun _ _ => True) (fun Gr K s he HJ => ?_) (fun s g HB _ => ?_)
      ·
        clear H
        cases x18
        ·
          have H := cond_f he
          clear he
          refine z_skip rfl rfl (by rw [hops]; rfl) (fun _ _ _ => trivial) ?_
          refine z_skip rfl rfl (by rw [hops]; rfl) (fun _ _ _ => trivial) ?_
          refine z_skip rfl rfl (by rw [hops]; rfl) (fun _ _ _ => trivial) ?_
          refine z_skip rfl rfl (by rw [hops]; rfl) (fun _ _ _ => trivial) ?_
          refine z_skip rfl rfl (by rw [hops]; rfl) (fun _ _ _ => trivial) ?_
          refine z_val (v := .bool false) (val_pick rfl rfl rfl) rfl rfl rfl (fun _ _ _ => trivial) ?_
          obtain rfl := Option.some.inj H
          exact z_nil ((K _ () HJ trivial).weak (fun a ha => ha.cons rfl (ha.cons rfl (ha.cons rfl (ha.cons rfl (ha.nil))))) (fun w hw => hw))
        ·
          have H := cond_t he
          clear he
          refine z_val (v := .slice A_1 x12.length c_2) (val_move rfl rfl) rfl rfl (by rw [hops]; rfl) (fun _ _ _ => trivial) ?_
          refine z_val (v := .int .i64 x8) (val_move rfl rfl) rfl rfl (by rw [hops]; rfl) (fun _ _ _ => trivial) ?_
          obtain ⟨hq_5, H⟩ := Chk_elim H
          obtain ⟨g_6, hA_7⟩ := hs_3.blk (by omega)
          refine z_val (v := .pointer (some ⟨g_6, x8.toNat, none⟩)) (val_idxS1 rfl rfl rfl Try.underlying22 sz5 hq_5 hA_7 rfl) rfl rfl (by rw [hops]; rfl) (fun _ _ _ => trivial) ?_
          obtain ⟨x23, hx23, H⟩ := Let_elim H
          refine z_val (v := U8 x23) (by subst hx23; exact val_load1 rfl rfl Try.underlying5 rfl (fun _ hw => row_cell' hw (j := 0) rfl hA_7 (idx_lt hq_5))) rfl rfl (by rw [hops]; rfl) (fun _ _ _ => trivial) ?_
          clear hx23
          obtain ⟨x24, hx24, H⟩ := Let_elim H
          refine z_val (v := .bool x24) (by subst hx24; exact val_bin rfl rfl rfl rfl (u8_neq_r _ 0 x23)) rfl rfl (by rw [hops]; rfl) (fun _ _ _ => trivial) ?_
          clear hx24
          refine z_val (v := .bool x24) (val_pick rfl rfl rfl) rfl rfl rfl (fun _ _ _ => trivial) ?_
          obtain rfl := Option.some.inj H
          exact z_nil ((K _ () HJ trivial).weak (fun a ha => ha.cons rfl (ha.cons rfl (ha.cons rfl (ha.cons rfl (ha.nil))))) (fun w hw => hw))
      ·
        replace H := HB
        clear HB
        obtain ⟨x25, rfl⟩ : ∃ x, x = s := ⟨_, rfl⟩
        change T 35 _ _ _
        refine z_nil ?_
        cases x25
        ·
          replace H := cond_f H
          refine t_cond_false rfl ?_
          refine t_skip ?_
          refine t_region (fun ops hops => ?_)
          clear hops
          refine z_val (v := U64 x7) (val_move rfl rfl) rfl rfl rfl (fun _ _ _ => trivial) ?_
          obtain ⟨x27, hx27, H⟩ := Let_elim H
          refine z_val (v := U64 x27) (by subst hx27; exact val_bin rfl rfl rfl rfl (u64_mul_r _ _ _)) rfl rfl rfl (fun _ _ _ => trivial) ?_
          clear hx27
          refine z_val (v := .slice A_1 x12.length c_2) (val_move rfl rfl) rfl rfl rfl (fun _ _ _ => trivial) ?_
          refine z_val (v := .int .i64 x8) (val_move rfl rfl) rfl rfl rfl (fun _ _ _ => trivial) ?_
          obtain ⟨hq_8, H⟩ := Chk_elim H
          obtain ⟨g_9, hA_10⟩ := hs_3.blk (by omega)
          refine z_val (v := .pointer (some ⟨g_9, x8.toNat, none⟩)) (val_idxS1 rfl rfl rfl Try.underlying22 sz5 hq_8 hA_10 rfl) rfl rfl rfl (fun _ _ _ => trivial) ?_
          obtain ⟨x31, hx31, H⟩ := Let_elim H
          refine z_val (v := U8 x31) (by subst hx31; exact val_load1 rfl rfl Try.underlying5 rfl (fun _ hw => row_cell' hw (j := 0) rfl hA_10 (idx_lt hq_8))) rfl rfl rfl (fun _ _ _ => trivial) ?_
          clear hx31
          obtain ⟨x32, hx32, H⟩ := Let_elim H
          refine z_val (v := U64 x32) (by subst hx32; exact val_conv rfl rfl (fun w => conv_u8_u64 w _ _ _ (by rw [Try.underlying5]; rfl) Try.underlying38)) rfl rfl rfl (fun _ _ _ => trivial) ?_
          clear hx32
          obtain ⟨x33, hx33, H⟩ := Let_elim H
          refine z_val (v := U64 x33) (by subst hx33; exact val_bin rfl rfl rfl rfl (u64_add _ _ _)) rfl rfl rfl (fun _ _ _ => trivial) ?_
          clear hx33
          refine z_val (v := U64 x33) (val_assign rfl rfl) rfl rfl rfl (fun _ _ _ => trivial) ?_
          refine z_nil ?_
          refine t_fin ?_
          refine t_region (fun ops hops => ?_)
          clear hops
          refine z_val (v := .int .i64 x8) (val_move rfl rfl) rfl rfl rfl (fun _ _ _ => trivial) ?_
          obtain ⟨x16, hx16, H⟩ := Let_elim H
          refine z_val (v := .int .i64 x16) (by subst hx16; exact val_bin rfl rfl rfl rfl (i64_add _ _ _)) rfl rfl rfl (fun _ _ _ => trivial) ?_
          clear hx16
          refine z_val (v := .int .i64 x16) (val_assign rfl rfl) rfl rfl rfl (fun _ _ _ => trivial) ?_
          refine z_nil ?_
          obtain rfl := Option.some.inj H
          exact t_reach ((hn1 _ () rfl trivial).weak (fun a ha => ha.cons rfl (ha.cons rfl (ha.cons rfl (ha.nil)))) (fun w hw => hw))
        ·
          replace H := cond_t H
          refine t_cond_true rfl ?_
          refine t_seq ?_
          refine t_region (fun ops hops => ?_)
          clear hops
          refine z_val (v := .int .u64 0) (val_assign rfl rfl) rfl rfl rfl (fun _ _ _ => trivial) ?_
          refine z_val (v := .bool false) (val_assign rfl rfl) rfl rfl rfl (fun _ _ _ => trivial) ?_
          refine z_nil ?_
          refine t_ret ?_
          obtain rfl := Option.some.inj H
          have hz := hr1 _ rfl
          subst hz
          obtain rfl := Option.some.inj HK1
          exact ret2 rfl (res_tmp rfl) (res_tmp rfl) (fun _ hw => ⟨rfl, hw.below⟩)
  ·
    obtain ⟨x7, x8⟩ := s
    subst hzz
    have H := HK1
    clear HK1 hz1
    replace H := sum_l H
    try dsimp only at H
    change T 35 _ _ _
    refine t_seq ?_
    refine t_region (fun ops hops => ?_)
    clear hops
    refine z_val (v := U64 x7) (val_move rfl rfl) rfl rfl rfl (fun _ _ _ => trivial) ?_
    refine z_val (v := U64 x7) (val_assign rfl rfl) rfl rfl rfl (fun _ _ _ => trivial) ?_
    refine z_val (v := .bool true) (val_assign rfl rfl) rfl rfl rfl (fun _ _ _ => trivial) ?_
    refine z_nil ?_
    refine t_ret ?_
    obtain rfl := Option.some.inj H
    exact ret2 rfl (res_tmp rfl) (res_tmp rfl) (fun _ hw => ⟨rfl, hw.below⟩)
end Go.Proofs.Ytccilbklafhjiaa
