/- Functions of the program as plain functions, and their walks, printed by walk.py. -/
import Derived.Test.YtccilbklafhjiaaMcF
import Derived.Test.YtccilbklafhjiaaMcC
namespace Go.Proofs.Ytccilbklafhjiaa
open Go.RowKit
set_option linter.unusedVariables false
set_option linter.unusedSimpArgs false
def smithyref09_Of.b1 (a0 : List (BitVec 8)) (x3 : List (Int)) (x4 : Int) : Option (Ctl ((List (Int)) × (Int)) (List (Int))) :=
  Let (decide (0 ≤ x4)) fun x10 => (bif x10 then Chk ((0 : Int) ≤ x4 ∧ x4 < (a0.length : Int)) <| Let (lget a0 x4.toNat) fun x17 => Let ((x17.toNat : Int)) fun x18 => Let ([x18]) fun x19 => Chk ((x3.length + x19.length) * 8 ≤ 140737488355328) <| Let (x3 ++ x19) fun x20 => Let (wi (x4 - 1)) fun x12 => some (.next (x20, x12)) else some (.brk (x3, x4)))
def smithyref09_Of (a0 : List (BitVec 8)) : Option (List (Int)) :=
  Let (([] : List (Int))) fun x5 => Let ((a0.length : Int)) fun x7 => Let (wi (x7 - 1)) fun x8 => (wlx (σ := (List (Int)) × (Int)) (fun s => smithyref09_Of.b1 a0 s.1 s.2) (x5, x8)).bind (Sum.elim (fun s => (fun x3 x4 => some x3) s.1 s.2) (fun r => some r))
set_option maxRecDepth 100000 in
theorem smithyref09_Of.calls  (a0 : List (BitVec 8)) (A0 : Option Addr) (c0 : Nat) (r : List (Int)) (H : smithyref09_Of a0 = some r) (w : World) (hs0 : SlW w U8 A0 a0) (hc0 : a0.length ≤ c0)  :
    Calls Try.prog 12 #[.slice A0 a0.length c0] w fun e w' => ∃ A c, e = .returned (.slice A r.length c) ∧ Below w.heap.size w w' ∧ OwnR w w' 3 (Value.int .i64) A c r := by
  unfold smithyref09_Of at H
  replace hs0 := hs0.toH
  have hM := Mm.start w (snap w) (snap_ok w)
  generalize snap w = h at *
  refine t_enter (vs := [.slice A0 a0.length c0]) (n := 22) Try.func12 rfl rfl rfl hM ?_
  clear hM
  change T 22 _ _ _
  refine t_seq ?_
  refine t_region (fun ops hops => ?_)
  clear hops
  refine z_val (v := .slice none 0 0) (val_assign rfl rfl) rfl rfl rfl (fun _ _ _ => trivial) ?_
  refine z_nil ?_
  refine t_seq ?_
  refine t_region (fun ops hops => ?_)
  clear hops
  obtain ⟨x5, hx5, H⟩ := Let_elim H
  have hlx5 : x5.length = 0 := by subst hx5; rfl
  refine z_buildSlice' (e := 3) (f := (Value.int .i64)) (xs := x5) (vs := []) rfl rfl (by subst hx5; intro w; kernel_rfl) hlx5 (by decide) rfl rfl rfl (fun _ _ _ _ => trivial) (fun g_1 hs_3 => ?_)
  clear hx5 hlx5
  refine z_val (v := .slice (some ⟨g_1, 0, none⟩) x5.length 0) (val_assign rfl rfl) rfl rfl rfl (fun _ _ _ => trivial) ?_
  refine z_nil ?_
  refine t_seq ?_
  refine t_seq ?_
  refine t_region (fun ops hops => ?_)
  clear hops
  refine z_val (v := .slice A0 a0.length c0) (val_move rfl rfl) rfl rfl rfl (fun _ _ _ => trivial) ?_
  obtain ⟨x7, hx7, H⟩ := Let_elim H
  refine z_val (v := .int .i64 x7) (by subst hx7; exact val_len rfl rfl rfl Try.underlying22) rfl rfl rfl (fun _ _ _ => trivial) ?_
  clear hx7
  obtain ⟨x8, hx8, H⟩ := Let_elim H
  refine z_val (v := .int .i64 x8) (by subst hx8; exact val_bin rfl rfl rfl rfl (i64_sub _ _ _)) rfl rfl rfl (fun _ _ _ => trivial) ?_
  clear hx8
  refine z_val (v := .int .i64 x8) (val_assign rfl rfl) rfl rfl rfl (fun _ _ _ => trivial) ?_
  refine z_nil ?_
  refine t_block ?_
  obtain ⟨z1, hz1, HK1⟩ := Option.bind_eq_some_iff.1 H
  clear H
  refine t_while hz1 (fun (s : (List (Int)) × (Int)) (g : (Option Addr) × (Nat)) => [(0, .slice A0 a0.length c0), (3, .slice g.1 s.1.length g.2), (4, .int .i64 s.2)]) (fun (s : (List (Int)) × (Int)) (g : (Option Addr) × (Nat)) => [(3, .slice g.1 s.1.length g.2)]) (fun (s : (List (Int)) × (Int)) (g : (Option Addr) × (Nat)) => Mm w [] h [.row (.slice g.1 s.1.length g.2) 3 1 (s.1.map (Value.int .i64))]) (fun (s : (List (Int)) × (Int)) (g : (Option Addr) × (Nat)) => Mm w [] h [.row (.slice g.1 s.1.length g.2) 3 1 (s.1.map (Value.int .i64))]) (fun (s : (List (Int)) × (Int)) (g : (Option Addr) × (Nat)) => Shp g.1 s.1.length g.2) (fun (s : (List (Int)) × (Int)) (g : (Option Addr) × (Nat)) => Shp g.1 s.1.length g.2) ⟨(some ⟨g_1, 0, none⟩), 0⟩ hs_3 (fun a w ha hw => ⟨ha.cons rfl (ha.cons rfl (ha.cons rfl (ha.nil))), hw⟩) (fun Gn Gb s g e hφ H hn1 hb1 hr1 => ?_) (fun s g hzz hφ => ?_)
  ·
    obtain ⟨x3, x4⟩ := s
    obtain ⟨A_4, c_5⟩ := g
    try dsimp only at hφ
    have hs_6 := hφ; clear hφ
    change smithyref09_Of.b1 a0 x3 x4 = some e at H
    unfold smithyref09_Of.b1 at H
    clear hz1
    change T 22 _ _ _
    refine t_seq ?_
    refine t_seq ?_
    refine t_region (fun ops hops => ?_)
    clear hops
    refine z_val (v := .int .i64 x4) (val_move rfl rfl) rfl rfl rfl (fun _ _ _ => trivial) ?_
    obtain ⟨x10, hx10, H⟩ := Let_elim H
    refine z_val (v := .bool x10) (by subst hx10; exact val_bin rfl rfl rfl rfl (i64_geq _ _ _)) rfl rfl rfl (fun _ _ _ => trivial) ?_
    clear hx10
    refine z_nil ?_
    cases x10
    ·
      replace H := cond_f H
      refine t_cond_false rfl ?_
      refine t_exit rfl ?_
      obtain rfl := Option.some.inj H
      exact t_reach ((hb1 _ ⟨A_4, c_5⟩ rfl hs_6).weak (fun a ha => ha.cons rfl (ha.nil)) (fun w hw => hw))
    ·
      replace H := cond_t H
      refine t_cond_true rfl ?_
      refine t_skip ?_
      refine t_seq ?_
      refine t_block ?_
      refine t_region (fun ops hops => ?_)
      clear hops
      refine z_val (v := .slice A_4 x3.length c_5) (val_move rfl rfl) rfl rfl rfl (fun _ _ _ => trivial) ?_
      refine z_val (v := .slice A0 a0.length c0) (val_move rfl rfl) rfl rfl rfl (fun _ _ _ => trivial) ?_
      refine z_val (v := .int .i64 x4) (val_move rfl rfl) rfl rfl rfl (fun _ _ _ => trivial) ?_
      obtain ⟨hq_7, H⟩ := Chk_elim H
      obtain ⟨b_8, o_9, hA_10, hc_11⟩ := hs0.at_ (idx_lt hq_7)
      refine z_val (v := .pointer (some ⟨b_8, o_9 + x4.toNat, none⟩)) (val_idxS0 rfl rfl rfl Try.underlying22 sz5 hq_7 hA_10 rfl) rfl rfl rfl (fun _ _ _ => trivial) ?_
      obtain ⟨x17, hx17, H⟩ := Let_elim H
      refine z_val (v := U8 x17) (by subst hx17; exact val_load1 rfl rfl Try.underlying5 rfl (fun _ hw => hc_11.cell hw)) rfl rfl rfl (fun _ _ _ => trivial) ?_
      clear hx17
      obtain ⟨x18, hx18, H⟩ := Let_elim H
      refine z_val (v := .int .i64 x18) (by subst hx18; exact val_conv rfl rfl (fun w => conv_u8_int w _ _ _ (by rw [Try.underlying5]; rfl) Try.underlying3)) rfl rfl rfl (fun _ _ _ => trivial) ?_
      clear hx18
      obtain ⟨x19, hx19, H⟩ := Let_elim H
      have hlx19 : x19.length = 1 := by subst hx19; rfl
      refine z_buildSlice' (e := 3) (f := (Value.int .i64)) (xs := x19) (vs := [(0, .int .i64 x18)]) rfl rfl (by subst hx19; intro w; kernel_rfl) hlx19 (by decide) rfl rfl rfl (fun _ _ _ _ => trivial) (fun g_12 hs_14 => ?_)
      clear hx19 hlx19
      obtain ⟨hq_15, H⟩ := Chk_elim H
      obtain ⟨x20, hx20, H⟩ := Let_elim H
      refine z_append (f := (Value.int .i64)) (j := 1) (xs := x3) (ys := x19) (zs := x20) rfl rfl Try.underlying31 in3 rfl rfl rfl rfl (fun w hw => (row_w hw (j := 0) rfl)) (fun _ => rfl) hq_15 (by decide) hx20 (fun A_16 c_17 => [.row (.slice (some ⟨g_12, 0, none⟩) x19.length 1) 3 1 (x19.map (Value.int .i64)), .row (.slice A_16 x20.length c_17) 3 1 (x20.map (Value.int .i64))]) (fun _ _ => rfl) rfl rfl rfl (fun _ _ _ _ _ => trivial) (fun A_16 c_17 hs_18 => ?_)
      clear hx20
      refine z_val (v := .slice A_16 x20.length c_17) (val_assign rfl rfl) rfl rfl rfl (fun _ _ _ => trivial) ?_
      refine z_nil ?_
      refine t_fin ?_
      refine t_region (fun ops hops => ?_)
      clear hops
      refine z_val (v := .int .i64 x4) (val_move rfl rfl) rfl rfl rfl (fun _ _ _ => trivial) ?_
      obtain ⟨x12, hx12, H⟩ := Let_elim H
      refine z_val (v := .int .i64 x12) (by subst hx12; exact val_bin rfl rfl rfl rfl (i64_sub _ _ _)) rfl rfl rfl (fun _ _ _ => trivial) ?_
      clear hx12
      refine z_val (v := .int .i64 x12) (val_assign rfl rfl) rfl rfl rfl (fun _ _ _ => trivial) ?_
      refine z_nil ?_
      obtain rfl := Option.some.inj H
      exact t_reach ((hn1 _ ⟨A_16, c_17⟩ rfl hs_18).weak (fun a ha => ha.cons rfl (ha.cons rfl (ha.cons rfl (ha.nil)))) (fun w hw => hw.sel [1] rfl rfl))
  ·
    obtain ⟨x3, x4⟩ := s
    obtain ⟨A_4, c_5⟩ := g
    try dsimp only at hφ
    have hs_6 := hφ; clear hφ
    subst hzz
    have H := HK1
    clear HK1 hz1
    replace H := sum_l H
    try dsimp only at H
    change T 22 _ _ _
    refine t_seq ?_
    refine t_region (fun ops hops => ?_)
    clear hops
    refine z_val (v := .slice A_4 x3.length c_5) (val_move rfl rfl) rfl rfl rfl (fun _ _ _ => trivial) ?_
    refine z_val (v := .slice A_4 x3.length c_5) (val_assign rfl rfl) rfl rfl rfl (fun _ _ _ => trivial) ?_
    refine z_nil ?_
    refine t_ret ?_
    obtain rfl := Option.some.inj H
    exact ret1 rfl (res_tmp rfl) (fun _ hw => ⟨A_4, c_5, rfl, hw.below, (row_out hw (j := 0) rfl hs_6)⟩)
def smithyref09_Bytes.b1 (a0 : List (Int)) (x5 : List (BitVec 8)) (x6 : Int) : Option (Ctl ((List (BitVec 8)) × (Int)) (List (BitVec 8))) :=
  Let (decide (0 ≤ x6)) fun x12 => (bif x12 then Let ((a0.length : Int)) fun x17 => Let (decide (x6 < x17)) fun x18 => (bif x18 then Chk ((0 : Int) ≤ x6 ∧ x6 < (a0.length : Int)) <| Let (lget a0 x6.toNat) fun x22 => some x22 else some 0).bind (fun (x7 : Int) => Let (BitVec.ofInt 8 x7) fun x25 => Let ([x25]) fun x26 => Chk ((x5.length + x26.length) * 1 ≤ 140737488355328) <| Let (x5 ++ x26) fun x27 => Let (wi (x6 - 1)) fun x14 => some (.next (x27, x14))) else some (.brk (x5, x6)))
def smithyref09_Bytes (a0 : List (Int)) (a1 : Int) : Option (List (BitVec 8)) :=
  Let (([] : List (BitVec 8))) fun x8 => Let (wi (a1 - 1)) fun x10 => (wlx (σ := (List (BitVec 8)) × (Int)) (fun s => smithyref09_Bytes.b1 a0 s.1 s.2) (x8, x10)).bind (Sum.elim (fun s => (fun x5 x6 => some x5) s.1 s.2) (fun r => some r))
set_option maxRecDepth 100000 in
theorem smithyref09_Bytes.calls  (a0 : List (Int)) (a1 : Int) (A0 : Option Addr) (c0 : Nat) (r : List (BitVec 8)) (H : smithyref09_Bytes a0 a1 = some r) (w : World) (hs0 : SlW w (Value.int .i64) A0 a0) (hc0 : a0.length ≤ c0)  :
    Calls Try.prog 14 #[.slice A0 a0.length c0, .int .i64 a1] w fun e w' => ∃ A c, e = .returned (.slice A r.length c) ∧ Below w.heap.size w w' ∧ OwnR w w' 5 U8 A c r := by
  unfold smithyref09_Bytes at H
  replace hs0 := hs0.toH
  have hM := Mm.start w (snap w) (snap_ok w)
  generalize snap w = h at *
  refine t_enter (vs := [.slice A0 a0.length c0, .int .i64 a1]) (n := 29) Try.func14 rfl rfl rfl hM ?_
  clear hM
  change T 29 _ _ _
  refine t_seq ?_
  refine t_region (fun ops hops => ?_)
  clear hops
  refine z_val (v := .slice none 0 0) (val_assign rfl rfl) rfl rfl rfl (fun _ _ _ => trivial) ?_
  refine z_nil ?_
  refine t_seq ?_
  refine t_region (fun ops hops => ?_)
  clear hops
  obtain ⟨x8, hx8, H⟩ := Let_elim H
  have hlx8 : x8.length = 0 := by subst hx8; rfl
  refine z_buildSlice' (e := 5) (f := U8) (xs := x8) (vs := []) rfl rfl (by subst hx8; intro w; kernel_rfl) hlx8 (by decide) rfl rfl rfl (fun _ _ _ _ => trivial) (fun g_1 hs_3 => ?_)
  clear hx8 hlx8
  refine z_val (v := .slice (some ⟨g_1, 0, none⟩) x8.length 0) (val_assign rfl rfl) rfl rfl rfl (fun _ _ _ => trivial) ?_
  refine z_nil ?_
  refine t_seq ?_
  refine t_seq ?_
  refine t_region (fun ops hops => ?_)
  clear hops
  refine z_val (v := .int .i64 a1) (val_move rfl rfl) rfl rfl rfl (fun _ _ _ => trivial) ?_
  obtain ⟨x10, hx10, H⟩ := Let_elim H
  refine z_val (v := .int .i64 x10) (by subst hx10; exact val_bin rfl rfl rfl rfl (i64_sub _ _ _)) rfl rfl rfl (fun _ _ _ => trivial) ?_
  clear hx10
  refine z_val (v := .int .i64 x10) (val_assign rfl rfl) rfl rfl rfl (fun _ _ _ => trivial) ?_
  refine z_nil ?_
  refine t_block ?_
  obtain ⟨z1, hz1, HK1⟩ := Option.bind_eq_some_iff.1 H
  clear H
  refine t_while hz1 (fun (s : (List (BitVec 8)) × (Int)) (g : (Option Addr) × (Nat)) => [(0, .slice A0 a0.length c0), (5, .slice g.1 s.1.length g.2), (6, .int .i64 s.2)]) (fun (s : (List (BitVec 8)) × (Int)) (g : (Option Addr) × (Nat)) => [(5, .slice g.1 s.1.length g.2)]) (fun (s : (List (BitVec 8)) × (Int)) (g : (Option Addr) × (Nat)) => Mm w [] h [.row (.slice g.1 s.1.length g.2) 5 1 (s.1.map U8)]) (fun (s : (List (BitVec 8)) × (Int)) (g : (Option Addr) × (Nat)) => Mm w [] h [.row (.slice g.1 s.1.length g.2) 5 1 (s.1.map U8)]) (fun (s : (List (BitVec 8)) × (Int)) (g : (Option Addr) × (Nat)) => Shp g.1 s.1.length g.2) (fun (s : (List (BitVec 8)) × (Int)) (g : (Option Addr) × (Nat)) => Shp g.1 s.1.length g.2) ⟨(some ⟨g_1, 0, none⟩), 0⟩ hs_3 (fun a w ha hw => ⟨ha.cons rfl (ha.cons rfl (ha.cons rfl (ha.nil))), hw⟩) (fun Gn Gb s g e hφ H hn1 hb1 hr1 => ?_) (fun s g hzz hφ => ?_)
  ·
    obtain ⟨x5, x6⟩ := s
    obtain ⟨A_4, c_5⟩ := g
    try dsimp only at hφ
    have hs_6 := hφ; clear hφ
    change smithyref09_Bytes.b1 a0 x5 x6 = some e at H
    unfold smithyref09_Bytes.b1 at H
    clear hz1
    change T 29 _ _ _
    refine t_seq ?_
    refine t_seq ?_
    refine t_region (fun ops hops => ?_)
    clear hops
    refine z_val (v := .int .i64 x6) (val_move rfl rfl) rfl rfl rfl (fun _ _ _ => trivial) ?_
    obtain ⟨x12, hx12, H⟩ := Let_elim H
    refine z_val (v := .bool x12) (by subst hx12; exact val_bin rfl rfl rfl rfl (i64_geq _ _ _)) rfl rfl rfl (fun _ _ _ => trivial) ?_
    clear hx12
    refine z_nil ?_
    cases x12
    ·
      replace H := cond_f H
      refine t_cond_false rfl ?_
      refine t_exit rfl ?_
      obtain rfl := Option.some.inj H
      exact t_reach ((hb1 _ ⟨A_4, c_5⟩ rfl hs_6).weak (fun a ha => ha.cons rfl (ha.nil)) (fun w hw => hw))
    ·
      replace H := cond_t H
      refine t_cond_true rfl ?_
      refine t_skip ?_
      refine t_seq ?_
      refine t_block ?_
      refine t_seq ?_
      refine t_region (fun ops hops => ?_)
      clear hops
      refine z_val (v := .int .i64 0) (val_assign rfl rfl) rfl rfl rfl (fun _ _ _ => trivial) ?_
      refine z_nil ?_
      refine t_seq ?_
      refine t_seq ?_
      refine t_region (fun ops hops => ?_)
      clear hops
      refine z_val (v := .int .i64 x6) (val_move rfl rfl) rfl rfl rfl (fun _ _ _ => trivial) ?_
      refine z_val (v := .slice A0 a0.length c0) (val_move rfl rfl) rfl rfl rfl (fun _ _ _ => trivial) ?_
      obtain ⟨x17, hx17, H⟩ := Let_elim H
      refine z_val (v := .int .i64 x17) (by subst hx17; exact val_len rfl rfl rfl Try.underlying31) rfl rfl rfl (fun _ _ _ => trivial) ?_
      clear hx17
      obtain ⟨x18, hx18, H⟩ := Let_elim H
      refine z_val (v := .bool x18) (by subst hx18; exact val_bin rfl rfl rfl rfl (i64_lss _ _ _)) rfl rfl rfl (fun _ _ _ => trivial) ?_
      clear hx18
      refine z_nil ?_
      refine t_bind H (fun (s : (Int)) (g : Unit) => [(0, .slice A0 a0.length c0), (5, .slice A_4 x5.length c_5), (6, .int .i64 x6), (7, .int .i64 s)]) (fun (s : (Int)) (g : Unit) => Mm w [] h [.row (.slice A_4 x5.length c_5) 5 1 (x5.map U8)]) (fun (s : (Int)) (g : Unit) => True) (fun Gr K s he HJ => ?_) (fun s g HB hφ => ?_)
      ·
        clear H
        cases x18
        ·
          have H := cond_f he
          clear he
          refine t_cond_false rfl ?_
          refine t_skip ?_
          obtain rfl := Option.some.inj H
          exact t_reach ((K _ () HJ trivial).weak (fun a ha => ha.cons rfl (ha.cons rfl (ha.cons rfl (ha.cons rfl (ha.nil))))) (fun w hw => hw))
        ·
          have H := cond_t he
          clear he
          refine t_cond_true rfl ?_
          refine t_region (fun ops hops => ?_)
          clear hops
          refine z_val (v := .slice A0 a0.length c0) (val_move rfl rfl) rfl rfl rfl (fun _ _ _ => trivial) ?_
          refine z_val (v := .int .i64 x6) (val_move rfl rfl) rfl rfl rfl (fun _ _ _ => trivial) ?_
          obtain ⟨hq_7, H⟩ := Chk_elim H
          obtain ⟨b_8, o_9, hA_10, hc_11⟩ := hs0.at_ (idx_lt hq_7)
          refine z_val (v := .pointer (some ⟨b_8, o_9 + x6.toNat, none⟩)) (val_idxS0 rfl rfl rfl Try.underlying31 sz3 hq_7 hA_10 rfl) rfl rfl rfl (fun _ _ _ => trivial) ?_
          obtain ⟨x22, hx22, H⟩ := Let_elim H
          refine z_val (v := .int .i64 x22) (by subst hx22; exact val_load1 rfl rfl Try.underlying3 rfl (fun _ hw => hc_11.cell hw)) rfl rfl rfl (fun _ _ _ => trivial) ?_
          clear hx22
          refine z_val (v := .int .i64 x22) (val_assign rfl rfl) rfl rfl rfl (fun _ _ _ => trivial) ?_
          refine z_nil ?_
          obtain rfl := Option.some.inj H
          exact t_reach ((K _ () HJ trivial).weak (fun a ha => ha.cons rfl (ha.cons rfl (ha.cons rfl (ha.cons rfl (ha.nil))))) (fun w hw => hw))
      ·
        replace H := HB
        clear HB
        obtain ⟨x7, rfl⟩ : ∃ x, x = s := ⟨_, rfl⟩
        try dsimp only at H
        change T 29 _ _ _
        refine t_region (fun ops hops => ?_)
        clear hops
        refine z_val (v := .slice A_4 x5.length c_5) (val_move rfl rfl) rfl rfl rfl (fun _ _ _ => trivial) ?_
        refine z_val (v := .int .i64 x7) (val_move rfl rfl) rfl rfl rfl (fun _ _ _ => trivial) ?_
        obtain ⟨x25, hx25, H⟩ := Let_elim H
        refine z_val (v := U8 x25) (by subst hx25; exact val_conv rfl rfl (fun w => conv_int_u8 w _ _ .i64 _ (by rw [Try.underlying3]; rfl) Try.underlying5)) rfl rfl rfl (fun _ _ _ => trivial) ?_
        clear hx25
        obtain ⟨x26, hx26, H⟩ := Let_elim H
        have hlx26 : x26.length = 1 := by subst hx26; rfl
        refine z_buildSlice' (e := 5) (f := U8) (xs := x26) (vs := [(0, U8 x25)]) rfl rfl (by subst hx26; intro w; kernel_rfl) hlx26 (by decide) rfl rfl rfl (fun _ _ _ _ => trivial) (fun g_12 hs_14 => ?_)
        clear hx26 hlx26
        obtain ⟨hq_15, H⟩ := Chk_elim H
        obtain ⟨x27, hx27, H⟩ := Let_elim H
        refine z_append (f := U8) (j := 1) (xs := x5) (ys := x26) (zs := x27) rfl rfl Try.underlying22 in5 rfl rfl rfl rfl (fun w hw => (row_w hw (j := 0) rfl)) (fun _ => rfl) hq_15 (by decide) hx27 (fun A_16 c_17 => [.row (.slice (some ⟨g_12, 0, none⟩) x26.length 1) 5 1 (x26.map U8), .row (.slice A_16 x27.length c_17) 5 1 (x27.map U8)]) (fun _ _ => rfl) rfl rfl rfl (fun _ _ _ _ _ => trivial) (fun A_16 c_17 hs_18 => ?_)
        clear hx27
        refine z_val (v := .slice A_16 x27.length c_17) (val_assign rfl rfl) rfl rfl rfl (fun _ _ _ => trivial) ?_
        refine z_nil ?_
        refine t_fin ?_
        refine t_region (fun ops hops => ?_)
        clear hops
        refine z_val (v := .int .i64 x6) (val_move rfl rfl) rfl rfl rfl (fun _ _ _ => trivial) ?_
        obtain ⟨x14, hx14, H⟩ := Let_elim H
        refine z_val (v := .int .i64 x14) (by subst hx14; exact val_bin rfl rfl rfl rfl (i64_sub _ _ _)) rfl rfl rfl (fun _ _ _ => trivial) ?_
        clear hx14
        refine z_val (v := .int .i64 x14) (val_assign rfl rfl) rfl rfl rfl (fun _ _ _ => trivial) ?_
        refine z_nil ?_
        obtain rfl := Option.some.inj H
        exact t_reach ((hn1 _ ⟨A_16, c_17⟩ rfl hs_18).weak (fun a ha => ha.cons rfl (ha.cons rfl (ha.cons rfl (ha.nil)))) (fun w hw => hw.sel [1] rfl rfl))
  ·
    obtain ⟨x5, x6⟩ := s
    obtain ⟨A_4, c_5⟩ := g
    try dsimp only at hφ
    have hs_6 := hφ; clear hφ
    subst hzz
    have H := HK1
    clear HK1 hz1
    replace H := sum_l H
    try dsimp only at H
    change T 29 _ _ _
    refine t_seq ?_
    refine t_region (fun ops hops => ?_)
    clear hops
    refine z_val (v := .slice A_4 x5.length c_5) (val_move rfl rfl) rfl rfl rfl (fun _ _ _ => trivial) ?_
    refine z_val (v := .slice A_4 x5.length c_5) (val_assign rfl rfl) rfl rfl rfl (fun _ _ _ => trivial) ?_
    refine z_nil ?_
    refine t_ret ?_
    obtain rfl := Option.some.inj H
    exact ret1 rfl (res_tmp rfl) (fun _ hw => ⟨A_4, c_5, rfl, hw.below, (row_out hw (j := 0) rfl hs_6)⟩)
def smithyref09_Mul (a0 : List (Int)) (a1 : List (Int)) (a2 : List (Int)) : Option (List (Int)) :=
  (smithyref02_Times a0 a1).bind fun x12 => (smithyref02_Div x12 a2).bind fun x14 => some x14.2
set_option maxRecDepth 100000 in
theorem smithyref09_Mul.calls  (a0 : List (Int)) (a1 : List (Int)) (a2 : List (Int)) (A0 : Option Addr) (c0 : Nat) (A1 : Option Addr) (c1 : Nat) (A2 : Option Addr) (c2 : Nat) (r : List (Int)) (H : smithyref09_Mul a0 a1 a2 = some r) (w : World) (hs0 : SlW w (Value.int .i64) A0 a0) (hc0 : a0.length ≤ c0) (hs1 : SlW w (Value.int .i64) A1 a1) (hc1 : a1.length ≤ c1) (hs2 : SlW w (Value.int .i64) A2 a2) (hc2 : a2.length ≤ c2)  :
    Calls Try.prog 15 #[.slice A0 a0.length c0, .slice A1 a1.length c1, .slice A2 a2.length c2] w fun e w' => ∃ A c, e = .returned (.slice A r.length c) ∧ Below w.heap.size w w' ∧ OwnR w w' 3 (Value.int .i64) A c r := by
  unfold smithyref09_Mul at H
  replace hs0 := hs0.toH
  replace hs1 := hs1.toH
  replace hs2 := hs2.toH
  have hM := Mm.start w (snap w) (snap_ok w)
  generalize snap w = h at *
  refine t_enter (vs := [.slice A0 a0.length c0, .slice A1 a1.length c1, .slice A2 a2.length c2]) (n := 18) Try.func15 rfl rfl rfl hM ?_
  clear hM
  change T 18 _ _ _
  refine t_seq ?_
  refine t_region (fun ops hops => ?_)
  clear hops
  refine z_val (v := .slice none 0 0) (val_assign rfl rfl) rfl rfl rfl (fun _ _ _ => trivial) ?_
  refine z_nil ?_
  refine t_seq ?_
  refine t_region (fun ops hops => ?_)
  clear hops
  refine z_val (v := .slice A0 a0.length c0) (val_move rfl rfl) rfl rfl rfl (fun _ _ _ => trivial) ?_
  refine z_val (v := .slice A1 a1.length c1) (val_move rfl rfl) rfl rfl rfl (fun _ _ _ => trivial) ?_
  obtain ⟨x12, hx, H⟩ := Option.bind_eq_some_iff.1 H
  refine z_madeS (F := fun A_1 c_2 => .slice A_1 x12.length c_2) (xs := x12) rfl Try.func27 nm27 bs27 rfl (fun w hw => smithyref02_Times.calls a0 a1 A0 c0 A1 c1 x12 hx w (hs0.toW hw) hc0 (hs1.toW hw) hc1) rfl rfl rfl (fun _ _ _ _ _ => trivial) (fun A_1 c_2 hs_3 => ?_)
  clear hx
  refine z_val (v := .slice A2 a2.length c2) (val_move rfl rfl) rfl rfl rfl (fun _ _ _ => trivial) ?_
  refine t_seal (fun h_5 hS hs_6 => ?_)
  have hc_7 := hs_3.le
  replace hs0 := hs0.up hS
  replace hs1 := hs1.up hS
  replace hs2 := hs2.up hS
  obtain ⟨x14, hx_8, H⟩ := Option.bind_eq_some_iff.1 H
  refine z_callG rfl Try.func26 nm26 bs26 rfl (fun w hw => smithyref02_Div.calls x12 a2 A_1 c_2 A2 c2 x14 hx_8 hs_6 hc_7 hs2 hc2 hw) rfl rfl rfl (fun _ _ _ _ _ => trivial) (fun g hφ => ?_)
  obtain ⟨h_9, A_12, c_13, A_16, c_17⟩ := g
  try dsimp only at hφ
  obtain ⟨hS_10, hs_14, hs_18⟩ := hφ
  clear hx_8
  change T 18 _ _ _
  replace hs0 := hs0.up hS_10
  replace hs1 := hs1.up hS_10
  replace hs2 := hs2.up hS_10
  replace hs_6 := hs_6.up hS_10
  refine z_val (v := .tuple #[.slice A_12 x14.1.length c_13, .slice A_16 x14.2.length c_17]) (val_move rfl rfl) rfl rfl rfl (fun _ _ _ => trivial) ?_
  refine z_val (v := .slice A_12 x14.1.length c_13) (val_extract rfl rfl rfl) rfl rfl rfl (fun _ _ _ => trivial) ?_
  refine z_val (v := .slice A_16 x14.2.length c_17) (val_extract rfl rfl rfl) rfl rfl rfl (fun _ _ _ => trivial) ?_
  refine z_val (v := .slice A_12 x14.1.length c_13) (val_assign rfl rfl) rfl rfl rfl (fun _ _ _ => trivial) ?_
  refine z_val (v := .slice A_16 x14.2.length c_17) (val_assign rfl rfl) rfl rfl rfl (fun _ _ _ => trivial) ?_
  refine z_nil ?_
  refine t_seq ?_
  refine t_region (fun ops hops => ?_)
  clear hops
  refine z_val (v := .slice A_16 x14.2.length c_17) (val_move rfl rfl) rfl rfl rfl (fun _ _ _ => trivial) ?_
  refine z_val (v := .slice A_16 x14.2.length c_17) (val_assign rfl rfl) rfl rfl rfl (fun _ _ _ => trivial) ?_
  refine z_nil ?_
  refine t_ret ?_
  obtain rfl := Option.some.inj H
  exact ret1 rfl (res_tmp rfl) (fun _ hw => ⟨A_16, c_17, rfl, hw.below, (row_out hw (j := 1) rfl hs_18)⟩)
def smithyref09_Pow.b2 (x16 : List (Int)) (x9_58 : List (Int)) (x11_62 : List (Int)) (x13 : BitVec 8) (x14 : Int) : Option (Ctl ((List (Int)) × (List (Int)) × (BitVec 8) × (Int)) (List (BitVec 8))) :=
  Let (decide (x14 < 8)) fun x47 => (bif x47 then Let (x13 % 2#8) fun x51 => Let ((x51.toNat : Int) == 1) fun x52 => (bif x52 then (smithyref09_Mul x11_62 x9_58 x16).bind fun x56 => some x56 else some x11_62).bind (fun (x11_66 : List (Int)) => Let (x13 / 2#8) fun x58 => (smithyref09_Mul x9_58 x9_58 x16).bind fun x62 => Let (wi (x14 + 1)) fun x49 => some (.next (x62, x11_66, x58, x49))) else some (.brk (x9_58, x11_62, x13, x14)))
def smithyref09_Pow.b1 (a1 : List (BitVec 8)) (x16 : List (Int)) (x9 : List (Int)) (x11 : List (Int)) (x12 : Int) : Option (Ctl ((List (Int)) × (List (Int)) × (Int)) (List (BitVec 8))) :=
  Let (decide (0 ≤ x12)) fun x39 => (bif x39 then Chk ((0 : Int) ≤ x12 ∧ x12 < (a1.length : Int)) <| Let (lget a1 x12.toNat) fun x45 => (wlx (σ := (List (Int)) × (List (Int)) × (BitVec 8) × (Int)) (fun s => smithyref09_Pow.b2 x16 s.1 s.2.1 s.2.2.1 s.2.2.2) (x9, x11, x45, 0)).bind (Sum.elim (fun s => (fun x9_58 x11_62 x13 x14 => Let (wi (x12 - 1)) fun x41 => some (.next (x9_58, x11_62, x41))) s.1 s.2.1 s.2.2.1 s.2.2.2) (fun r => some (.ret r))) else some (.brk (x9, x11, x12)))
def smithyref09_Pow (a0 : List (BitVec 8)) (a1 : List (BitVec 8)) (a2 : List (BitVec 8)) : Option (List (BitVec 8)) :=
  (smithyref09_Of a2).bind fun x16 => (smithyref02_Zero x16).bind fun x18 => (bif x18 then Let ((a2.length : Int)) fun x20 => Chk ((0 : Int) ≤ x20 ∧ x20.toNat * 1 ≤ 140737488355328) <| Let (List.replicate x20.toNat 0#8) fun x21 => some x21 else (smithyref09_Of a0).bind fun x24 => (smithyref02_Div x24 x16).bind fun x26 => Let ([1]) fun x30 => (smithyref02_Div x30 x16).bind fun x32 => Let ((a1.length : Int)) fun x36 => Let (wi (x36 - 1)) fun x37 => (wlx (σ := (List (Int)) × (List (Int)) × (Int)) (fun s => smithyref09_Pow.b1 a1 x16 s.1 s.2.1 s.2.2) (x26.2, x32.2, x37)).bind (Sum.elim (fun s => (fun x9 x11 x12 => Let ((a2.length : Int)) fun x65 => (smithyref09_Bytes x11 x65).bind fun x66 => some x66) s.1 s.2.1 s.2.2) (fun r => some r)))
set_option maxRecDepth 100000 in
theorem smithyref09_Pow.calls  (a0 : List (BitVec 8)) (a1 : List (BitVec 8)) (a2 : List (BitVec 8)) (A0 : Option Addr) (c0 : Nat) (A1 : Option Addr) (c1 : Nat) (A2 : Option Addr) (c2 : Nat) (r : List (BitVec 8)) (H : smithyref09_Pow a0 a1 a2 = some r) (w : World) (hs0 : SlW w U8 A0 a0) (hc0 : a0.length ≤ c0) (hs1 : SlW w U8 A1 a1) (hc1 : a1.length ≤ c1) (hs2 : SlW w U8 A2 a2) (hc2 : a2.length ≤ c2)  :
    Calls Try.prog 11 #[.slice A0 a0.length c0, .slice A1 a1.length c1, .slice A2 a2.length c2] w fun e w' => ∃ A c, e = .returned (.slice A r.length c) ∧ Below w.heap.size w w' ∧ OwnR w w' 5 U8 A c r := by
  unfold smithyref09_Pow at H
  replace hs0 := hs0.toH
  replace hs1 := hs1.toH
  replace hs2 := hs2.toH
  have hM := Mm.start w (snap w) (snap_ok w)
  generalize snap w = h at *
  refine t_enter (vs := [.slice A0 a0.length c0, .slice A1 a1.length c1, .slice A2 a2.length c2]) (n := 67) Try.func11 rfl rfl rfl hM ?_
  clear hM
  change T 67 _ _ _
  refine t_seq ?_
  refine t_region (fun ops hops => ?_)
  clear hops
  refine z_val (v := .slice none 0 0) (val_assign rfl rfl) rfl rfl rfl (fun _ _ _ => trivial) ?_
  refine z_nil ?_
  refine t_seq ?_
  refine t_region (fun ops hops => ?_)
  clear hops
  refine z_val (v := .slice A2 a2.length c2) (val_move rfl rfl) rfl rfl rfl (fun _ _ _ => trivial) ?_
  obtain ⟨x16, hx, H⟩ := Option.bind_eq_some_iff.1 H
  refine z_madeS (F := fun A_1 c_2 => .slice A_1 x16.length c_2) (xs := x16) rfl Try.func12 nm12 bs12 rfl (fun w hw => smithyref09_Of.calls a2 A2 c2 x16 hx w (hs2.toW hw) hc2) rfl rfl rfl (fun _ _ _ _ _ => trivial) (fun A_1 c_2 hs_3 => ?_)
  clear hx
  refine z_val (v := .slice A_1 x16.length c_2) (val_assign rfl rfl) rfl rfl rfl (fun _ _ _ => trivial) ?_
  refine z_nil ?_
  refine t_seq ?_
  refine t_seq ?_
  refine t_region (fun ops hops => ?_)
  clear hops
  refine z_val (v := .slice A_1 x16.length c_2) (val_move rfl rfl) rfl rfl rfl (fun _ _ _ => trivial) ?_
  obtain ⟨x18, hx_5, H⟩ := Option.bind_eq_some_iff.1 H
  refine z_made (v := .bool x18) rfl Try.func13 nm13 bs13 rfl (fun w hw => smithyref02_Zero.calls x16 A_1 c_2 x18 hx_5 w (row_w hw (j := 0) rfl) hs_3.le) rfl rfl rfl (fun _ _ _ => trivial) ?_
  clear hx_5
  refine z_nil ?_
  cases x18
  ·
    replace H := cond_f H
    refine t_cond_false rfl ?_
    refine t_skip ?_
    refine t_seq ?_
    refine t_seal (fun h_6 hS hs_7 => ?_)
    have hc_8 := hs_3.le
    replace hs0 := hs0.up hS
    replace hs1 := hs1.up hS
    replace hs2 := hs2.up hS
    refine t_region (fun ops hops => ?_)
    clear hops
    refine z_val (v := .slice A0 a0.length c0) (val_move rfl rfl) rfl rfl rfl (fun _ _ _ => trivial) ?_
    obtain ⟨x24, hx_9, H⟩ := Option.bind_eq_some_iff.1 H
    refine z_madeS (F := fun A_10 c_11 => .slice A_10 x24.length c_11) (xs := x24) rfl Try.func12 nm12 bs12 rfl (fun w hw => smithyref09_Of.calls a0 A0 c0 x24 hx_9 w (hs0.toW hw) hc0) rfl rfl rfl (fun _ _ _ _ _ => trivial) (fun A_10 c_11 hs_12 => ?_)
    clear hx_9
    refine z_val (v := .slice A_1 x16.length c_2) (val_move rfl rfl) rfl rfl rfl (fun _ _ _ => trivial) ?_
    refine t_seal (fun h_14 hS_15 hs_16 => ?_)
    have hc_17 := hs_12.le
    replace hs0 := hs0.up hS_15
    replace hs1 := hs1.up hS_15
    replace hs2 := hs2.up hS_15
    replace hs_7 := hs_7.up hS_15
    obtain ⟨x26, hx_18, H⟩ := Option.bind_eq_some_iff.1 H
    refine z_callG rfl Try.func26 nm26 bs26 rfl (fun w hw => smithyref02_Div.calls x24 x16 A_10 c_11 A_1 c_2 x26 hx_18 hs_16 hc_17 hs_7 hc_8 hw) rfl rfl rfl (fun _ _ _ _ _ => trivial) (fun g hφ => ?_)
    obtain ⟨h_19, A_22, c_23, A_26, c_27⟩ := g
    try dsimp only at hφ
    obtain ⟨hS_20, hs_24, hs_28⟩ := hφ
    clear hx_18
    change T 67 _ _ _
    replace hs0 := hs0.up hS_20
    replace hs1 := hs1.up hS_20
    replace hs2 := hs2.up hS_20
    replace hs_7 := hs_7.up hS_20
    replace hs_16 := hs_16.up hS_20
    refine z_val (v := .tuple #[.slice A_22 x26.1.length c_23, .slice A_26 x26.2.length c_27]) (val_move rfl rfl) rfl rfl rfl (fun _ _ _ => trivial) ?_
    refine z_val (v := .slice A_22 x26.1.length c_23) (val_extract rfl rfl rfl) rfl rfl rfl (fun _ _ _ => trivial) ?_
    refine z_val (v := .slice A_26 x26.2.length c_27) (val_extract rfl rfl rfl) rfl rfl rfl (fun _ _ _ => trivial) ?_
    refine z_val (v := .slice A_22 x26.1.length c_23) (val_assign rfl rfl) rfl rfl rfl (fun _ _ _ => trivial) ?_
    refine z_val (v := .slice A_26 x26.2.length c_27) (val_assign rfl rfl) rfl rfl rfl (fun _ _ _ => trivial) ?_
    refine z_nil ?_
    refine t_seq ?_
    refine t_region (fun ops hops => ?_)
    clear hops
    obtain ⟨x30, hx30, H⟩ := Let_elim H
    have hlx30 : x30.length = 1 := by subst hx30; rfl
    refine z_buildSlice' (e := 3) (f := (Value.int .i64)) (xs := x30) (vs := [(0, .int .i64 1)]) rfl rfl (by subst hx30; intro w; kernel_rfl) hlx30 (by decide) rfl rfl rfl (fun _ _ _ _ => trivial) (fun g_29 hs_31 => ?_)
    clear hx30 hlx30
    refine z_val (v := .slice A_1 x16.length c_2) (val_move rfl rfl) rfl rfl rfl (fun _ _ _ => trivial) ?_
    refine t_seal (fun h_32 hS_33 hs_34 => ?_)
    have hc_35 := hs_31.le
    replace hs0 := hs0.up hS_33
    replace hs1 := hs1.up hS_33
    replace hs2 := hs2.up hS_33
    replace hs_7 := hs_7.up hS_33
    replace hs_16 := hs_16.up hS_33
    obtain ⟨x32, hx_36, H⟩ := Option.bind_eq_some_iff.1 H
    refine z_callG rfl Try.func26 nm26 bs26 rfl (fun w hw => smithyref02_Div.calls x30 x16 ((some ⟨g_29, 0, none⟩)) 1 A_1 c_2 x32 hx_36 hs_34 hc_35 hs_7 hc_8 hw) rfl rfl rfl (fun _ _ _ _ _ => trivial) (fun g hφ => ?_)
    obtain ⟨h_37, A_40, c_41, A_44, c_45⟩ := g
    try dsimp only at hφ
    obtain ⟨hS_38, hs_42, hs_46⟩ := hφ
    clear hx_36
    change T 67 _ _ _
    replace hs0 := hs0.up hS_38
    replace hs1 := hs1.up hS_38
    replace hs2 := hs2.up hS_38
    replace hs_7 := hs_7.up hS_38
    replace hs_16 := hs_16.up hS_38
    replace hs_34 := hs_34.up hS_38
    refine z_val (v := .tuple #[.slice A_40 x32.1.length c_41, .slice A_44 x32.2.length c_45]) (val_move rfl rfl) rfl rfl rfl (fun _ _ _ => trivial) ?_
    refine z_val (v := .slice A_40 x32.1.length c_41) (val_extract rfl rfl rfl) rfl rfl rfl (fun _ _ _ => trivial) ?_
    refine z_val (v := .slice A_44 x32.2.length c_45) (val_extract rfl rfl rfl) rfl rfl rfl (fun _ _ _ => trivial) ?_
    refine z_val (v := .slice A_40 x32.1.length c_41) (val_assign rfl rfl) rfl rfl rfl (fun _ _ _ => trivial) ?_
    refine z_val (v := .slice A_44 x32.2.length c_45) (val_assign rfl rfl) rfl rfl rfl (fun _ _ _ => trivial) ?_
    refine z_nil ?_
    refine t_seq ?_
    refine t_seq ?_
    refine t_region (fun ops hops => ?_)
    clear hops
    refine z_val (v := .slice A1 a1.length c1) (val_move rfl rfl) rfl rfl rfl (fun _ _ _ => trivial) ?_
    obtain ⟨x36, hx36, H⟩ := Let_elim H
    refine z_val (v := .int .i64 x36) (by subst hx36; exact val_len rfl rfl rfl Try.underlying22) rfl rfl rfl (fun _ _ _ => trivial) ?_
    clear hx36
    obtain ⟨x37, hx37, H⟩ := Let_elim H
    refine z_val (v := .int .i64 x37) (by subst hx37; exact val_bin rfl rfl rfl rfl (i64_sub _ _ _)) rfl rfl rfl (fun _ _ _ => trivial) ?_
    clear hx37
    refine z_val (v := .int .i64 x37) (val_assign rfl rfl) rfl rfl rfl (fun _ _ _ => trivial) ?_
    refine z_nil ?_
    refine t_block ?_
    obtain ⟨z1, hz1, HK1⟩ := Option.bind_eq_some_iff.1 H
    clear H
    refine t_while hz1 (fun (s : (List (Int)) × (List (Int)) × (Int)) (g : (Option Addr) × (Nat) × (Option Addr) × (Nat)) => [(1, .slice A1 a1.length c1), (2, .slice A2 a2.length c2), (7, .slice A_1 x16.length c_2), (9, .slice g.1 s.1.length g.2.1), (11, .slice g.2.2.1 s.2.1.length g.2.2.2), (12, .int .i64 s.2.2)]) (fun (s : (List (Int)) × (List (Int)) × (Int)) (g : (Option Addr) × (Nat) × (Option Addr) × (Nat)) => [(2, .slice A2 a2.length c2), (11, .slice g.2.2.1 s.2.1.length g.2.2.2)]) (fun (s : (List (Int)) × (List (Int)) × (Int)) (g : (Option Addr) × (Nat) × (Option Addr) × (Nat)) => Mm w [] h_37 [.row (.slice g.2.2.1 s.2.1.length g.2.2.2) 3 1 (s.2.1.map (Value.int .i64)), .row (.slice g.1 s.1.length g.2.1) 3 1 (s.1.map (Value.int .i64))]) (fun (s : (List (Int)) × (List (Int)) × (Int)) (g : (Option Addr) × (Nat) × (Option Addr) × (Nat)) => Mm w [] h_37 [.row (.slice g.2.2.1 s.2.1.length g.2.2.2) 3 1 (s.2.1.map (Value.int .i64))]) (fun (s : (List (Int)) × (List (Int)) × (Int)) (g : (Option Addr) × (Nat) × (Option Addr) × (Nat)) => Shp g.1 s.1.length g.2.1 ∧ Shp g.2.2.1 s.2.1.length g.2.2.2) (fun (s : (List (Int)) × (List (Int)) × (Int)) (g : (Option Addr) × (Nat) × (Option Addr) × (Nat)) => Shp g.1 s.1.length g.2.1 ∧ Shp g.2.2.1 s.2.1.length g.2.2.2) ⟨A_26, c_27, A_44, c_45⟩ ⟨hs_28, hs_46⟩ (fun a w ha hw => ⟨ha.cons rfl (ha.cons rfl (ha.cons rfl (ha.cons rfl (ha.cons rfl (ha.cons rfl (ha.nil)))))), hw.sel [1, 3] rfl rfl⟩) (fun Gn Gb s g e hφ H hn1 hb1 hr1 => ?_) (fun s g hzz hφ => ?_)
    ·
      obtain ⟨x9, x11, x12⟩ := s
      obtain ⟨A_47, c_48, A_50, c_51⟩ := g
      try dsimp only at hφ
      obtain ⟨hs_49, hs_52⟩ := hφ
      change smithyref09_Pow.b1 a1 x16 x9 x11 x12 = some e at H
      unfold smithyref09_Pow.b1 at H
      clear hz1
      change T 67 _ _ _
      refine t_seq ?_
      refine t_seq ?_
      refine t_region (fun ops hops => ?_)
      clear hops
      refine z_val (v := .int .i64 x12) (val_move rfl rfl) rfl rfl rfl (fun _ _ _ => trivial) ?_
      obtain ⟨x39, hx39, H⟩ := Let_elim H
      refine z_val (v := .bool x39) (by subst hx39; exact val_bin rfl rfl rfl rfl (i64_geq _ _ _)) rfl rfl rfl (fun _ _ _ => trivial) ?_
      clear hx39
      refine z_nil ?_
      cases x39
      ·
        replace H := cond_f H
        refine t_cond_false rfl ?_
        refine t_exit rfl ?_
        obtain rfl := Option.some.inj H
        exact t_reach ((hb1 _ ⟨A_47, c_48, A_50, c_51⟩ rfl ⟨hs_49, hs_52⟩).weak (fun a ha => ha.cons rfl (ha.cons rfl (ha.nil))) (fun w hw => hw.sel [0] rfl rfl))
      ·
        replace H := cond_t H
        refine t_cond_true rfl ?_
        refine t_skip ?_
        refine t_seq ?_
        refine t_block ?_
        refine t_seq ?_
        refine t_region (fun ops hops => ?_)
        clear hops
        refine z_val (v := .slice A1 a1.length c1) (val_move rfl rfl) rfl rfl rfl (fun _ _ _ => trivial) ?_
        refine z_val (v := .int .i64 x12) (val_move rfl rfl) rfl rfl rfl (fun _ _ _ => trivial) ?_
        obtain ⟨hq_53, H⟩ := Chk_elim H
        obtain ⟨b_54, o_55, hA_56, hc_57⟩ := hs1.at_ (idx_lt hq_53)
        refine z_val (v := .pointer (some ⟨b_54, o_55 + x12.toNat, none⟩)) (val_idxS0 rfl rfl rfl Try.underlying22 sz5 hq_53 hA_56 rfl) rfl rfl rfl (fun _ _ _ => trivial) ?_
        obtain ⟨x45, hx45, H⟩ := Let_elim H
        refine z_val (v := U8 x45) (by subst hx45; exact val_load1 rfl rfl Try.underlying5 rfl (fun _ hw => hc_57.cell hw)) rfl rfl rfl (fun _ _ _ => trivial) ?_
        clear hx45
        refine z_val (v := U8 x45) (val_assign rfl rfl) rfl rfl rfl (fun _ _ _ => trivial) ?_
        refine z_nil ?_
        refine t_seq ?_
        refine t_region (fun ops hops => ?_)
        clear hops
        refine z_val (v := .int .i64 0) (val_assign rfl rfl) rfl rfl rfl (fun _ _ _ => trivial) ?_
        refine z_nil ?_
        refine t_block ?_
        obtain ⟨z2, hz2, HK2⟩ := Option.bind_eq_some_iff.1 H
        clear H
        refine t_while hz2 (fun (s : (List (Int)) × (List (Int)) × (BitVec 8) × (Int)) (g : (Option Addr) × (Nat) × (Option Addr) × (Nat)) => [(1, .slice A1 a1.length c1), (2, .slice A2 a2.length c2), (7, .slice A_1 x16.length c_2), (9, .slice g.1 s.1.length g.2.1), (11, .slice g.2.2.1 s.2.1.length g.2.2.2), (12, .int .i64 x12), (13, U8 s.2.2.1), (14, .int .i64 s.2.2.2)]) (fun (s : (List (Int)) × (List (Int)) × (BitVec 8) × (Int)) (g : (Option Addr) × (Nat) × (Option Addr) × (Nat)) => [(1, .slice A1 a1.length c1), (2, .slice A2 a2.length c2), (7, .slice A_1 x16.length c_2), (9, .slice g.1 s.1.length g.2.1), (11, .slice g.2.2.1 s.2.1.length g.2.2.2), (12, .int .i64 x12)]) (fun (s : (List (Int)) × (List (Int)) × (BitVec 8) × (Int)) (g : (Option Addr) × (Nat) × (Option Addr) × (Nat)) => Mm w [] h_37 [.row (.slice g.2.2.1 s.2.1.length g.2.2.2) 3 1 (s.2.1.map (Value.int .i64)), .row (.slice g.1 s.1.length g.2.1) 3 1 (s.1.map (Value.int .i64))]) (fun (s : (List (Int)) × (List (Int)) × (BitVec 8) × (Int)) (g : (Option Addr) × (Nat) × (Option Addr) × (Nat)) => Mm w [] h_37 [.row (.slice g.2.2.1 s.2.1.length g.2.2.2) 3 1 (s.2.1.map (Value.int .i64)), .row (.slice g.1 s.1.length g.2.1) 3 1 (s.1.map (Value.int .i64))]) (fun (s : (List (Int)) × (List (Int)) × (BitVec 8) × (Int)) (g : (Option Addr) × (Nat) × (Option Addr) × (Nat)) => Shp g.1 s.1.length g.2.1 ∧ Shp g.2.2.1 s.2.1.length g.2.2.2) (fun (s : (List (Int)) × (List (Int)) × (BitVec 8) × (Int)) (g : (Option Addr) × (Nat) × (Option Addr) × (Nat)) => Shp g.1 s.1.length g.2.1 ∧ Shp g.2.2.1 s.2.1.length g.2.2.2) ⟨A_47, c_48, A_50, c_51⟩ ⟨hs_49, hs_52⟩ (fun a w ha hw => ⟨ha.cons rfl (ha.cons rfl (ha.cons rfl (ha.cons rfl (ha.cons rfl (ha.cons rfl (ha.cons rfl (ha.cons rfl (ha.nil)))))))), hw⟩) (fun Gn Gb s g e hφ H hn2 hb2 hr2 => ?_) (fun s g hzz hφ => ?_)
        ·
          obtain ⟨x9_58, x11_62, x13, x14⟩ := s
          obtain ⟨A_59, c_60, A_63, c_64⟩ := g
          try dsimp only at hφ
          obtain ⟨hs_61, hs_65⟩ := hφ
          change smithyref09_Pow.b2 x16 x9_58 x11_62 x13 x14 = some e at H
          unfold smithyref09_Pow.b2 at H
          clear hz2
          change T 67 _ _ _
          refine t_seq ?_
          refine t_seq ?_
          refine t_region (fun ops hops => ?_)
          clear hops
          refine z_val (v := .int .i64 x14) (val_move rfl rfl) rfl rfl rfl (fun _ _ _ => trivial) ?_
          obtain ⟨x47, hx47, H⟩ := Let_elim H
          refine z_val (v := .bool x47) (by subst hx47; exact val_bin rfl rfl rfl rfl (i64_lss _ _ _)) rfl rfl rfl (fun _ _ _ => trivial) ?_
          clear hx47
          refine z_nil ?_
          cases x47
          ·
            replace H := cond_f H
            refine t_cond_false rfl ?_
            refine t_exit rfl ?_
            obtain rfl := Option.some.inj H
            exact t_reach ((hb2 _ ⟨A_59, c_60, A_63, c_64⟩ rfl ⟨hs_61, hs_65⟩).weak (fun a ha => ha.cons rfl (ha.cons rfl (ha.cons rfl (ha.cons rfl (ha.cons rfl (ha.cons rfl (ha.nil))))))) (fun w hw => hw))
          ·
            replace H := cond_t H
            refine t_cond_true rfl ?_
            refine t_skip ?_
            refine t_seq ?_
            refine t_block ?_
            refine t_seq ?_
            refine t_seq ?_
            refine t_region (fun ops hops => ?_)
            clear hops
            refine z_val (v := U8 x13) (val_move rfl rfl) rfl rfl rfl (fun _ _ _ => trivial) ?_
            obtain ⟨x51, hx51, H⟩ := Let_elim H
            refine z_val (v := U8 x51) (by subst hx51; exact val_bin rfl rfl rfl rfl (u8_rem_r _ _ _ (by decide) (by decide))) rfl rfl rfl (fun _ _ _ => trivial) ?_
            clear hx51
            obtain ⟨x52, hx52, H⟩ := Let_elim H
            refine z_val (v := .bool x52) (by subst hx52; exact val_bin rfl rfl rfl rfl (u8_eql_r _ 1 x51)) rfl rfl rfl (fun _ _ _ => trivial) ?_
            clear hx52
            refine z_nil ?_
            refine t_bind H (fun (s : (List (Int))) (g : (Option Addr) × (Nat)) => [(1, .slice A1 a1.length c1), (2, .slice A2 a2.length c2), (7, .slice A_1 x16.length c_2), (9, .slice A_59 x9_58.length c_60), (11, .slice g.1 s.length g.2), (12, .int .i64 x12), (13, U8 x13), (14, .int .i64 x14)]) (fun (s : (List (Int))) (g : (Option Addr) × (Nat)) => Mm w [] h_37 [.row (.slice A_59 x9_58.length c_60) 3 1 (x9_58.map (Value.int .i64)), .row (.slice g.1 s.length g.2) 3 1 (s.map (Value.int .i64))]) (fun (s : (List (Int))) (g : (Option Addr) × (Nat)) => Shp g.1 s.length g.2) (fun Gr K s he HJ => ?_) (fun s g HB hφ => ?_)
            ·
              clear H
              cases x52
              ·
                have H := cond_f he
                clear he
                refine t_cond_false rfl ?_
                refine t_skip ?_
                obtain rfl := Option.some.inj H
                exact t_reach ((K _ ⟨A_63, c_64⟩ HJ hs_65).weak (fun a ha => ha.cons rfl (ha.cons rfl (ha.cons rfl (ha.cons rfl (ha.cons rfl (ha.cons rfl (ha.cons rfl (ha.cons rfl (ha.nil))))))))) (fun w hw => hw.sel [1, 0] rfl rfl))
              ·
                have H := cond_t he
                clear he
                refine t_cond_true rfl ?_
                refine t_region (fun ops hops => ?_)
                clear hops
                refine z_val (v := .slice A_63 x11_62.length c_64) (val_move rfl rfl) rfl rfl rfl (fun _ _ _ => trivial) ?_
                refine z_val (v := .slice A_59 x9_58.length c_60) (val_move rfl rfl) rfl rfl rfl (fun _ _ _ => trivial) ?_
                refine z_val (v := .slice A_1 x16.length c_2) (val_move rfl rfl) rfl rfl rfl (fun _ _ _ => trivial) ?_
                obtain ⟨x56, hx_71, H⟩ := Option.bind_eq_some_iff.1 H
                refine z_madeS (F := fun A_72 c_73 => .slice A_72 x56.length c_73) (xs := x56) rfl Try.func15 nm15 bs15 rfl (fun w hw => smithyref09_Mul.calls x11_62 x9_58 x16 A_63 c_64 A_59 c_60 A_1 c_2 x56 hx_71 w (row_w hw (j := 0) rfl) hs_65.le (row_w hw (j := 1) rfl) hs_61.le (hs_7.toW hw) hc_8) rfl rfl rfl (fun _ _ _ _ _ => trivial) (fun A_72 c_73 hs_74 => ?_)
                clear hx_71
                refine z_val (v := .slice A_72 x56.length c_73) (val_assign rfl rfl) rfl rfl rfl (fun _ _ _ => trivial) ?_
                refine z_nil ?_
                obtain rfl := Option.some.inj H
                exact t_reach ((K _ ⟨A_72, c_73⟩ HJ hs_74).weak (fun a ha => ha.cons rfl (ha.cons rfl (ha.cons rfl (ha.cons rfl (ha.cons rfl (ha.cons rfl (ha.cons rfl (ha.cons rfl (ha.nil))))))))) (fun w hw => hw.sel [2, 0] rfl rfl))
            ·
              replace H := HB
              clear HB
              obtain ⟨x11_66, rfl⟩ : ∃ x, x = s := ⟨_, rfl⟩
              obtain ⟨A_67, c_68⟩ := g
              try dsimp only at hφ
              have hs_69 := hφ; clear hφ
              try dsimp only at H
              change T 67 _ _ _
              refine t_seq ?_
              refine t_region (fun ops hops => ?_)
              clear hops
              refine z_val (v := U8 x13) (val_move rfl rfl) rfl rfl rfl (fun _ _ _ => trivial) ?_
              obtain ⟨x58, hx58, H⟩ := Let_elim H
              refine z_val (v := U8 x58) (by subst hx58; exact val_bin rfl rfl rfl rfl (u8_quo_r _ _ _ (by decide) (by decide))) rfl rfl rfl (fun _ _ _ => trivial) ?_
              clear hx58
              refine z_val (v := U8 x58) (val_assign rfl rfl) rfl rfl rfl (fun _ _ _ => trivial) ?_
              refine z_nil ?_
              refine t_region (fun ops hops => ?_)
              clear hops
              refine z_val (v := .slice A_59 x9_58.length c_60) (val_move rfl rfl) rfl rfl rfl (fun _ _ _ => trivial) ?_
              refine z_val (v := .slice A_59 x9_58.length c_60) (val_move rfl rfl) rfl rfl rfl (fun _ _ _ => trivial) ?_
              refine z_val (v := .slice A_1 x16.length c_2) (val_move rfl rfl) rfl rfl rfl (fun _ _ _ => trivial) ?_
              obtain ⟨x62, hx_76, H⟩ := Option.bind_eq_some_iff.1 H
              refine z_madeS (F := fun A_77 c_78 => .slice A_77 x62.length c_78) (xs := x62) rfl Try.func15 nm15 bs15 rfl (fun w hw => smithyref09_Mul.calls x9_58 x9_58 x16 A_59 c_60 A_59 c_60 A_1 c_2 x62 hx_76 w (row_w hw (j := 0) rfl) hs_61.le (row_w hw (j := 0) rfl) hs_61.le (hs_7.toW hw) hc_8) rfl rfl rfl (fun _ _ _ _ _ => trivial) (fun A_77 c_78 hs_79 => ?_)
              clear hx_76
              refine z_val (v := .slice A_77 x62.length c_78) (val_assign rfl rfl) rfl rfl rfl (fun _ _ _ => trivial) ?_
              refine z_nil ?_
              refine t_fin ?_
              refine t_region (fun ops hops => ?_)
              clear hops
              refine z_val (v := .int .i64 x14) (val_move rfl rfl) rfl rfl rfl (fun _ _ _ => trivial) ?_
              obtain ⟨x49, hx49, H⟩ := Let_elim H
              refine z_val (v := .int .i64 x49) (by subst hx49; exact val_bin rfl rfl rfl rfl (i64_add _ _ _)) rfl rfl rfl (fun _ _ _ => trivial) ?_
              clear hx49
              refine z_val (v := .int .i64 x49) (val_assign rfl rfl) rfl rfl rfl (fun _ _ _ => trivial) ?_
              refine z_nil ?_
              obtain rfl := Option.some.inj H
              exact t_reach ((hn2 _ ⟨A_77, c_78, A_67, c_68⟩ rfl ⟨hs_79, hs_69⟩).weak (fun a ha => ha.cons rfl (ha.cons rfl (ha.cons rfl (ha.cons rfl (ha.cons rfl (ha.cons rfl (ha.cons rfl (ha.cons rfl (ha.nil))))))))) (fun w hw => hw.sel [2, 0] rfl rfl))
        ·
          obtain ⟨x9_58, x11_62, x13, x14⟩ := s
          obtain ⟨A_59, c_60, A_63, c_64⟩ := g
          try dsimp only at hφ
          obtain ⟨hs_61, hs_65⟩ := hφ
          subst hzz
          have H := HK2
          clear HK2 hz2
          replace H := sum_l H
          try dsimp only at H
          change T 67 _ _ _
          refine t_fin ?_
          refine t_region (fun ops hops => ?_)
          clear hops
          refine z_val (v := .int .i64 x12) (val_move rfl rfl) rfl rfl rfl (fun _ _ _ => trivial) ?_
          obtain ⟨x41, hx41, H⟩ := Let_elim H
          refine z_val (v := .int .i64 x41) (by subst hx41; exact val_bin rfl rfl rfl rfl (i64_sub _ _ _)) rfl rfl rfl (fun _ _ _ => trivial) ?_
          clear hx41
          refine z_val (v := .int .i64 x41) (val_assign rfl rfl) rfl rfl rfl (fun _ _ _ => trivial) ?_
          refine z_nil ?_
          obtain rfl := Option.some.inj H
          exact t_reach ((hn1 _ ⟨A_59, c_60, A_63, c_64⟩ rfl ⟨hs_61, hs_65⟩).weak (fun a ha => ha.cons rfl (ha.cons rfl (ha.cons rfl (ha.cons rfl (ha.cons rfl (ha.cons rfl (ha.nil))))))) (fun w hw => hw))
    ·
      obtain ⟨x9, x11, x12⟩ := s
      obtain ⟨A_47, c_48, A_50, c_51⟩ := g
      try dsimp only at hφ
      obtain ⟨hs_49, hs_52⟩ := hφ
      subst hzz
      have H := HK1
      clear HK1 hz1
      replace H := sum_l H
      try dsimp only at H
      change T 67 _ _ _
      refine t_seq ?_
      refine t_region (fun ops hops => ?_)
      clear hops
      refine z_val (v := .slice A_50 x11.length c_51) (val_move rfl rfl) rfl rfl rfl (fun _ _ _ => trivial) ?_
      refine z_val (v := .slice A2 a2.length c2) (val_move rfl rfl) rfl rfl rfl (fun _ _ _ => trivial) ?_
      obtain ⟨x65, hx65, H⟩ := Let_elim H
      refine z_val (v := .int .i64 x65) (by subst hx65; exact val_len rfl rfl rfl Try.underlying22) rfl rfl rfl (fun _ _ _ => trivial) ?_
      clear hx65
      obtain ⟨x66, hx_81, H⟩ := Option.bind_eq_some_iff.1 H
      refine z_madeS (F := fun A_82 c_83 => .slice A_82 x66.length c_83) (xs := x66) rfl Try.func14 nm14 bs14 rfl (fun w hw => smithyref09_Bytes.calls x11 x65 A_50 c_51 x66 hx_81 w (row_w hw (j := 0) rfl) hs_52.le) rfl rfl rfl (fun _ _ _ _ _ => trivial) (fun A_82 c_83 hs_84 => ?_)
      clear hx_81
      refine z_val (v := .slice A_82 x66.length c_83) (val_assign rfl rfl) rfl rfl rfl (fun _ _ _ => trivial) ?_
      refine z_nil ?_
      refine t_ret ?_
      obtain rfl := Option.some.inj H
      exact ret1 rfl (res_tmp rfl) (fun _ hw => ⟨A_82, c_83, rfl, hw.below, (row_out hw (j := 0) rfl hs_84)⟩)
  ·
    replace H := cond_t H
    refine t_cond_true rfl ?_
    refine t_seq ?_
    refine t_region (fun ops hops => ?_)
    clear hops
    refine z_val (v := .slice A2 a2.length c2) (val_move rfl rfl) rfl rfl rfl (fun _ _ _ => trivial) ?_
    obtain ⟨x20, hx20, H⟩ := Let_elim H
    refine z_val (v := .int .i64 x20) (by subst hx20; exact val_len rfl rfl rfl Try.underlying22) rfl rfl rfl (fun _ _ _ => trivial) ?_
    clear hx20
    obtain ⟨hq_86, H⟩ := Chk_elim H
    obtain ⟨x21, hx21, H⟩ := Let_elim H
    refine z_makeSlice (f := U8) (z0 := 0#8) (N := x20.toNat) rfl rfl rfl Try.underlying22 (in5.trans rfl) rfl hq_86.1 rfl hq_86.2 (by decide) hx21 rfl rfl rfl (fun _ _ _ _ => trivial) (fun g_87 hs_89 => ?_)
    clear hx21
    refine z_val (v := .slice (some ⟨g_87, 0, none⟩) x21.length (x20.toNat)) (val_assign rfl rfl) rfl rfl rfl (fun _ _ _ => trivial) ?_
    refine z_nil ?_
    refine t_ret ?_
    obtain rfl := Option.some.inj H
    exact ret1 rfl (res_tmp rfl) (fun _ hw => ⟨(some ⟨g_87, 0, none⟩), (x20.toNat), rfl, hw.below, (row_out hw (j := 0) rfl hs_89)⟩)
end Go.Proofs.Ytccilbklafhjiaa
