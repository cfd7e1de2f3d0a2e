/- Functions of the program as plain functions, and their walks, printed by walk.py. -/
import Derived.Test.YtapfkdcilfpbhaaRlF
import Derived.Test.YtapfkdcilfpbhaaRlD
namespace Go.Proofs.Ytapfkdcilfpbhaa
open Go.RowKit
set_option linter.unusedVariables false
set_option linter.unusedSimpArgs false
def smithyref07_head.b1 (x31 : Int) (a1 : Int) (a0 : List (BitVec 8)) (x11 : Int) (x12 : Int) : Option (Ctl ((Int) × (Int)) ((Bool) × (Int) × (Int) × (Int))) :=
  Let (decide (x12 < x31)) fun x49 => (bif x49 then Let (wi (x11 * 256)) fun x53 => Let (wi (a1 + 1)) fun x56 => Let (wi (x56 + x12)) fun x58 => Chk ((0 : Int) ≤ x58 ∧ x58 < (a0.length : Int)) <| Let (lget a0 x58.toNat) fun x60 => Let ((x60.toNat : Int)) fun x61 => Let (wi (x53 + x61)) fun x62 => Let (decide (1000000000 < x62)) fun x64 => (bif x64 then some 1000000000 else some x62).bind (fun (x11_16 : Int) => Let (wi (x12 + 1)) fun x51 => some (.next (x11_16, x51))) else some (.brk (x11, x12)))
def smithyref07_head (a0 : List (BitVec 8)) (a1 : Int) : Option ((Bool) × (Int) × (Int) × (Int)) :=
  Chk ((0 : Int) ≤ a1 ∧ a1 < (a0.length : Int)) <| Let (lget a0 a1.toNat) fun x16 => Let ((x16.toNat : Int)) fun x17 => Let (decide (192 ≤ x17)) fun x19 => (bif x19 then Let (wi (x17 - 64)) fun x22 => some x22 else some x17).bind (fun (x8 : Int) => Let (decide (x8 ≤ 183)) fun x24 => (bif x24 then Let (wi (a1 + 1)) fun x27 => Let (wi (x8 - 128)) fun x29 => some (x19, x27, x29, 0) else Let (wi (x8 - 183)) fun x31 => Let (wi (a1 + 1)) fun x33 => Let (wi (x33 + x31)) fun x35 => Let ((a0.length : Int)) fun x37 => Let (decide (x37 < x35)) fun x38 => (bif x38 then some (x19, 0, 0, 3) else Let (wi (a1 + 1)) fun x42 => Chk ((0 : Int) ≤ x42 ∧ x42 < (a0.length : Int)) <| Let (lget a0 x42.toNat) fun x44 => Let ((x44.toNat : Int) == 0) fun x45 => (bif x45 then some (x19, 0, 0, 2) else (wlx (σ := (Int) × (Int)) (fun s => smithyref07_head.b1 x31 a1 a0 s.1 s.2) (0, 0)).bind (Sum.elim (fun s => (fun x11 x12 => Let (decide (x11 ≤ 55)) fun x66 => (bif x66 then some (x19, 0, 0, 2) else Let (wi (a1 + 1)) fun x70 => Let (wi (x70 + x31)) fun x72 => some (x19, x72, x11, 0))) s.1 s.2) (fun r => some r))))))
set_option maxRecDepth 100000 in
theorem smithyref07_head.calls  (a0 : List (BitVec 8)) (a1 : Int) (A0 : Option Addr) (c0 : Nat) (r : (Bool) × (Int) × (Int) × (Int)) (H : smithyref07_head a0 a1 = some r) (w : World) (hs0 : SlW w U8 A0 a0) (hc0 : a0.length ≤ c0)  :
    Made Try.prog 80 #[.slice A0 a0.length c0, .int .i64 a1] w (.tuple #[.bool r.1, .int .i64 r.2.1, .int .i64 r.2.2.1, .int .i64 r.2.2.2]) := by
  unfold smithyref07_head at H
  replace hs0 := hs0.toH
  have hM := Mm.start w (snap w) (snap_ok w)
  generalize snap w = h at *
  refine t_enter (vs := [.slice A0 a0.length c0, .int .i64 a1]) (n := 74) Try.func80 rfl rfl rfl hM ?_
  clear hM
  change T 74 _ _ _
  refine t_seq ?_
  refine t_region (fun ops hops => ?_)
  clear hops
  refine z_val (v := .bool false) (val_assign rfl rfl) rfl rfl rfl (fun _ _ _ => trivial) ?_
  refine z_val (v := .int .i64 0) (val_assign rfl rfl) rfl rfl rfl (fun _ _ _ => trivial) ?_
  refine z_val (v := .int .i64 0) (val_assign rfl rfl) rfl rfl rfl (fun _ _ _ => trivial) ?_
  refine z_val (v := .int .i64 0) (val_assign rfl rfl) rfl rfl rfl (fun _ _ _ => trivial) ?_
  refine z_nil ?_
  refine t_seq ?_
  refine t_region (fun ops hops => ?_)
  clear hops
  refine z_val (v := .slice A0 a0.length c0) (val_move rfl rfl) rfl rfl rfl (fun _ _ _ => trivial) ?_
  refine z_val (v := .int .i64 a1) (val_move rfl rfl) rfl rfl rfl (fun _ _ _ => trivial) ?_
  obtain ⟨hq_1, H⟩ := Chk_elim H
  obtain ⟨b_2, o_3, hA_4, hc_5⟩ := hs0.at_ (idx_lt hq_1)
  refine z_val (v := .pointer (some ⟨b_2, o_3 + a1.toNat, none⟩)) (val_idxS0 rfl rfl rfl Try.underlying25 sz5 hq_1 hA_4 rfl) rfl rfl rfl (fun _ _ _ => trivial) ?_
  obtain ⟨x16, hx16, H⟩ := Let_elim H
  refine z_val (v := U8 x16) (by subst hx16; exact val_load1 rfl rfl Try.underlying5 rfl (fun _ hw => hc_5.cell hw)) rfl rfl rfl (fun _ _ _ => trivial) ?_
  clear hx16
  obtain ⟨x17, hx17, H⟩ := Let_elim H
  refine z_val (v := .int .i64 x17) (by subst hx17; exact val_conv rfl rfl (fun w => conv_u8_int w _ _ _ (by rw [Try.underlying5]; rfl) Try.underlying3)) rfl rfl rfl (fun _ _ _ => trivial) ?_
  clear hx17
  refine z_val (v := .int .i64 x17) (val_assign rfl rfl) rfl rfl rfl (fun _ _ _ => trivial) ?_
  refine z_nil ?_
  refine t_seq ?_
  refine t_region (fun ops hops => ?_)
  clear hops
  refine z_val (v := .int .i64 x17) (val_move rfl rfl) rfl rfl rfl (fun _ _ _ => trivial) ?_
  obtain ⟨x19, hx19, H⟩ := Let_elim H
  refine z_val (v := .bool x19) (by subst hx19; exact val_bin rfl rfl rfl rfl (i64_geq _ _ _)) rfl rfl rfl (fun _ _ _ => trivial) ?_
  clear hx19
  refine z_val (v := .bool x19) (val_assign rfl rfl) rfl rfl rfl (fun _ _ _ => trivial) ?_
  refine z_nil ?_
  refine t_seq ?_
  refine t_seq ?_
  refine t_region (fun ops hops => ?_)
  clear hops
  refine z_val (v := .bool x19) (val_move rfl rfl) rfl rfl rfl (fun _ _ _ => trivial) ?_
  refine z_nil ?_
  refine t_bind H (fun (s : (Int)) (g : Unit) => [(0, .slice A0 a0.length c0), (1, .int .i64 a1), (8, .int .i64 s), (9, .bool x19)]) (fun (s : (Int)) (g : Unit) => Mm w [] h []) (fun (s : (Int)) (g : Unit) => True) (fun Gr K s he HJ => ?_) (fun s g HB hφ => ?_)
  ·
    clear H
    cases x19
    ·
      have H := cond_f he
      clear he
      refine t_cond_false rfl ?_
      refine t_skip ?_
      obtain rfl := Option.some.inj H
      exact t_reach ((K _ () HJ trivial).weak (fun a ha => ha.cons rfl (ha.cons rfl (ha.cons rfl (ha.cons rfl (ha.nil))))) (fun w hw => hw))
    ·
      have H := cond_t he
      clear he
      refine t_cond_true rfl ?_
      refine t_region (fun ops hops => ?_)
      clear hops
      refine z_val (v := .int .i64 x17) (val_move rfl rfl) rfl rfl rfl (fun _ _ _ => trivial) ?_
      obtain ⟨x22, hx22, H⟩ := Let_elim H
      refine z_val (v := .int .i64 x22) (by subst hx22; exact val_bin rfl rfl rfl rfl (i64_sub _ _ _)) rfl rfl rfl (fun _ _ _ => trivial) ?_
      clear hx22
      refine z_val (v := .int .i64 x22) (val_assign rfl rfl) rfl rfl rfl (fun _ _ _ => trivial) ?_
      refine z_nil ?_
      obtain rfl := Option.some.inj H
      exact t_reach ((K _ () HJ trivial).weak (fun a ha => ha.cons rfl (ha.cons rfl (ha.cons rfl (ha.cons rfl (ha.nil))))) (fun w hw => hw))
  ·
    replace H := HB
    clear HB
    obtain ⟨x8, rfl⟩ : ∃ x, x = s := ⟨_, rfl⟩
    try dsimp only at H
    change T 74 _ _ _
    refine t_seq ?_
    refine t_seq ?_
    refine t_region (fun ops hops => ?_)
    clear hops
    refine z_val (v := .int .i64 x8) (val_move rfl rfl) rfl rfl rfl (fun _ _ _ => trivial) ?_
    obtain ⟨x24, hx24, H⟩ := Let_elim H
    refine z_val (v := .bool x24) (by subst hx24; exact val_bin rfl rfl rfl rfl (i64_leq _ _ _)) rfl rfl rfl (fun _ _ _ => trivial) ?_
    clear hx24
    refine z_nil ?_
    cases x24
    ·
      replace H := cond_f H
      refine t_cond_false rfl ?_
      refine t_skip ?_
      refine t_seq ?_
      refine t_region (fun ops hops => ?_)
      clear hops
      refine z_val (v := .int .i64 x8) (val_move rfl rfl) rfl rfl rfl (fun _ _ _ => trivial) ?_
      obtain ⟨x31, hx31, H⟩ := Let_elim H
      refine z_val (v := .int .i64 x31) (by subst hx31; exact val_bin rfl rfl rfl rfl (i64_sub _ _ _)) rfl rfl rfl (fun _ _ _ => trivial) ?_
      clear hx31
      refine z_val (v := .int .i64 x31) (val_assign rfl rfl) rfl rfl rfl (fun _ _ _ => trivial) ?_
      refine z_nil ?_
      refine t_seq ?_
      refine t_seq ?_
      refine t_region (fun ops hops => ?_)
      clear hops
      refine z_val (v := .int .i64 a1) (val_move rfl rfl) rfl rfl rfl (fun _ _ _ => trivial) ?_
      obtain ⟨x33, hx33, H⟩ := Let_elim H
      refine z_val (v := .int .i64 x33) (by subst hx33; exact val_bin rfl rfl rfl rfl (i64_add _ _ _)) rfl rfl rfl (fun _ _ _ => trivial) ?_
      clear hx33
      refine z_val (v := .int .i64 x31) (val_move rfl rfl) rfl rfl rfl (fun _ _ _ => trivial) ?_
      obtain ⟨x35, hx35, H⟩ := Let_elim H
      refine z_val (v := .int .i64 x35) (by subst hx35; exact val_bin rfl rfl rfl rfl (i64_add _ _ _)) rfl rfl rfl (fun _ _ _ => trivial) ?_
      clear hx35
      refine z_val (v := .slice A0 a0.length c0) (val_move rfl rfl) rfl rfl rfl (fun _ _ _ => trivial) ?_
      obtain ⟨x37, hx37, H⟩ := Let_elim H
      refine z_val (v := .int .i64 x37) (by subst hx37; exact val_len rfl rfl rfl Try.underlying25) rfl rfl rfl (fun _ _ _ => trivial) ?_
      clear hx37
      obtain ⟨x38, hx38, H⟩ := Let_elim H
      refine z_val (v := .bool x38) (by subst hx38; exact val_bin rfl rfl rfl rfl (i64_gtr _ _ _)) rfl rfl rfl (fun _ _ _ => trivial) ?_
      clear hx38
      refine z_nil ?_
      cases x38
      ·
        replace H := cond_f H
        refine t_cond_false rfl ?_
        refine t_skip ?_
        refine t_seq ?_
        refine t_seq ?_
        refine t_region (fun ops hops => ?_)
        clear hops
        refine z_val (v := .slice A0 a0.length c0) (val_move rfl rfl) rfl rfl rfl (fun _ _ _ => trivial) ?_
        refine z_val (v := .int .i64 a1) (val_move rfl rfl) rfl rfl rfl (fun _ _ _ => trivial) ?_
        obtain ⟨x42, hx42, H⟩ := Let_elim H
        refine z_val (v := .int .i64 x42) (by subst hx42; exact val_bin rfl rfl rfl rfl (i64_add _ _ _)) rfl rfl rfl (fun _ _ _ => trivial) ?_
        clear hx42
        obtain ⟨hq_6, H⟩ := Chk_elim H
        obtain ⟨b_7, o_8, hA_9, hc_10⟩ := hs0.at_ (idx_lt hq_6)
        refine z_val (v := .pointer (some ⟨b_7, o_8 + x42.toNat, none⟩)) (val_idxS0 rfl rfl rfl Try.underlying25 sz5 hq_6 hA_9 rfl) rfl rfl rfl (fun _ _ _ => trivial) ?_
        obtain ⟨x44, hx44, H⟩ := Let_elim H
        refine z_val (v := U8 x44) (by subst hx44; exact val_load1 rfl rfl Try.underlying5 rfl (fun _ hw => hc_10.cell hw)) rfl rfl rfl (fun _ _ _ => trivial) ?_
        clear hx44
        obtain ⟨x45, hx45, H⟩ := Let_elim H
        refine z_val (v := .bool x45) (by subst hx45; exact val_bin rfl rfl rfl rfl (u8_eql_r _ 0 x44)) rfl rfl rfl (fun _ _ _ => trivial) ?_
        clear hx45
        refine z_nil ?_
        cases x45
        ·
          replace H := cond_f H
          refine t_cond_false rfl ?_
          refine t_skip ?_
          refine t_seq ?_
          refine t_region (fun ops hops => ?_)
          clear hops
          refine z_val (v := .int .i64 0) (val_assign rfl rfl) rfl rfl rfl (fun _ _ _ => trivial) ?_
          refine z_nil ?_
          refine t_seq ?_
          refine t_seq ?_
          refine t_region (fun ops hops => ?_)
          clear hops
          refine z_val (v := .int .i64 0) (val_assign rfl rfl) rfl rfl rfl (fun _ _ _ => trivial) ?_
          refine z_nil ?_
          refine t_block ?_
          obtain ⟨z1, hz1, HK1⟩ := Option.bind_eq_some_iff.1 H
          clear H
          refine t_while hz1 (fun (s : (Int) × (Int)) (g : Unit) => [(0, .slice A0 a0.length c0), (1, .int .i64 a1), (9, .bool x19), (10, .int .i64 x31), (11, .int .i64 s.1), (12, .int .i64 s.2)]) (fun (s : (Int) × (Int)) (g : Unit) => [(1, .int .i64 a1), (9, .bool x19), (10, .int .i64 x31), (11, .int .i64 s.1)]) (fun (s : (Int) × (Int)) (g : Unit) => Mm w [] h []) (fun (s : (Int) × (Int)) (g : Unit) => Mm w [] h []) (fun (s : (Int) × (Int)) (g : Unit) => True) (fun (s : (Int) × (Int)) (g : Unit) => True) () trivial (fun a w ha hw => ⟨ha.cons rfl (ha.cons rfl (ha.cons rfl (ha.cons rfl (ha.cons rfl (ha.cons rfl (ha.nil)))))), hw⟩) (fun Gn Gb s g e hφ H hn1 hb1 hr1 => ?_) (fun s g hzz hφ => ?_)
          ·
            obtain ⟨x11, x12⟩ := s
            change smithyref07_head.b1 x31 a1 a0 x11 x12 = some e at H
            unfold smithyref07_head.b1 at H
            clear hz1
            change T 74 _ _ _
            refine t_seq ?_
            refine t_seq ?_
            refine t_region (fun ops hops => ?_)
            clear hops
            refine z_val (v := .int .i64 x12) (val_move rfl rfl) rfl rfl rfl (fun _ _ _ => trivial) ?_
            refine z_val (v := .int .i64 x31) (val_move rfl rfl) rfl rfl rfl (fun _ _ _ => trivial) ?_
            obtain ⟨x49, hx49, H⟩ := Let_elim H
            refine z_val (v := .bool x49) (by subst hx49; exact val_bin rfl rfl rfl rfl (i64_lss _ _ _)) rfl rfl rfl (fun _ _ _ => trivial) ?_
            clear hx49
            refine z_nil ?_
            cases x49
            ·
              replace H := cond_f H
              refine t_cond_false rfl ?_
              refine t_exit rfl ?_
              obtain rfl := Option.some.inj H
              exact t_reach ((hb1 _ () rfl trivial).weak (fun a ha => ha.cons rfl (ha.cons rfl (ha.cons rfl (ha.cons rfl (ha.nil))))) (fun w hw => hw))
            ·
              replace H := cond_t H
              refine t_cond_true rfl ?_
              refine t_skip ?_
              refine t_seq ?_
              refine t_block ?_
              refine t_seq ?_
              refine t_region (fun ops hops => ?_)
              clear hops
              refine z_val (v := .int .i64 x11) (val_move rfl rfl) rfl rfl rfl (fun _ _ _ => trivial) ?_
              obtain ⟨x53, hx53, H⟩ := Let_elim H
              refine z_val (v := .int .i64 x53) (by subst hx53; exact val_bin rfl rfl rfl rfl (i64_mul _ _ _)) rfl rfl rfl (fun _ _ _ => trivial) ?_
              clear hx53
              refine z_val (v := .slice A0 a0.length c0) (val_move rfl rfl) rfl rfl rfl (fun _ _ _ => trivial) ?_
              refine z_val (v := .int .i64 a1) (val_move rfl rfl) rfl rfl rfl (fun _ _ _ => trivial) ?_
              obtain ⟨x56, hx56, H⟩ := Let_elim H
              refine z_val (v := .int .i64 x56) (by subst hx56; exact val_bin rfl rfl rfl rfl (i64_add _ _ _)) rfl rfl rfl (fun _ _ _ => trivial) ?_
              clear hx56
              refine z_val (v := .int .i64 x12) (val_move rfl rfl) rfl rfl rfl (fun _ _ _ => trivial) ?_
              obtain ⟨x58, hx58, H⟩ := Let_elim H
              refine z_val (v := .int .i64 x58) (by subst hx58; exact val_bin rfl rfl rfl rfl (i64_add _ _ _)) rfl rfl rfl (fun _ _ _ => trivial) ?_
              clear hx58
              obtain ⟨hq_11, H⟩ := Chk_elim H
              obtain ⟨b_12, o_13, hA_14, hc_15⟩ := hs0.at_ (idx_lt hq_11)
              refine z_val (v := .pointer (some ⟨b_12, o_13 + x58.toNat, none⟩)) (val_idxS0 rfl rfl rfl Try.underlying25 sz5 hq_11 hA_14 rfl) rfl rfl rfl (fun _ _ _ => trivial) ?_
              obtain ⟨x60, hx60, H⟩ := Let_elim H
              refine z_val (v := U8 x60) (by subst hx60; exact val_load1 rfl rfl Try.underlying5 rfl (fun _ hw => hc_15.cell hw)) rfl rfl rfl (fun _ _ _ => trivial) ?_
              clear hx60
              obtain ⟨x61, hx61, H⟩ := Let_elim H
              refine z_val (v := .int .i64 x61) (by subst hx61; exact val_conv rfl rfl (fun w => conv_u8_int w _ _ _ (by rw [Try.underlying5]; rfl) Try.underlying3)) rfl rfl rfl (fun _ _ _ => trivial) ?_
              clear hx61
              obtain ⟨x62, hx62, H⟩ := Let_elim H
              refine z_val (v := .int .i64 x62) (by subst hx62; exact val_bin rfl rfl rfl rfl (i64_add _ _ _)) rfl rfl rfl (fun _ _ _ => trivial) ?_
              clear hx62
              refine z_val (v := .int .i64 x62) (val_assign rfl rfl) rfl rfl rfl (fun _ _ _ => trivial) ?_
              refine z_nil ?_
              refine t_seq ?_
              refine t_region (fun ops hops => ?_)
              clear hops
              refine z_val (v := .int .i64 x62) (val_move rfl rfl) rfl rfl rfl (fun _ _ _ => trivial) ?_
              obtain ⟨x64, hx64, H⟩ := Let_elim H
              refine z_val (v := .bool x64) (by subst hx64; exact val_bin rfl rfl rfl rfl (i64_gtr _ _ _)) rfl rfl rfl (fun _ _ _ => trivial) ?_
              clear hx64
              refine z_nil ?_
              refine t_bind H (fun (s : (Int)) (g : Unit) => [(0, .slice A0 a0.length c0), (1, .int .i64 a1), (9, .bool x19), (10, .int .i64 x31), (11, .int .i64 s), (12, .int .i64 x12)]) (fun (s : (Int)) (g : Unit) => Mm w [] h []) (fun (s : (Int)) (g : Unit) => True) (fun Gr K s he HJ => ?_) (fun s g HB hφ => ?_)
              ·
                clear H
                cases x64
                ·
                  have H := cond_f he
                  clear he
                  refine t_cond_false rfl ?_
                  refine t_skip ?_
                  obtain rfl := Option.some.inj H
                  exact t_reach ((K _ () HJ trivial).weak (fun a ha => ha.cons rfl (ha.cons rfl (ha.cons rfl (ha.cons rfl (ha.cons rfl (ha.cons rfl (ha.nil))))))) (fun w hw => hw))
                ·
                  have H := cond_t he
                  clear he
                  refine t_cond_true rfl ?_
                  refine t_region (fun ops hops => ?_)
                  clear hops
                  refine z_val (v := .int .i64 1000000000) (val_assign rfl rfl) rfl rfl rfl (fun _ _ _ => trivial) ?_
                  refine z_nil ?_
                  obtain rfl := Option.some.inj H
                  exact t_reach ((K _ () HJ trivial).weak (fun a ha => ha.cons rfl (ha.cons rfl (ha.cons rfl (ha.cons rfl (ha.cons rfl (ha.cons rfl (ha.nil))))))) (fun w hw => hw))
              ·
                replace H := HB
                clear HB
                obtain ⟨x11_16, rfl⟩ : ∃ x, x = s := ⟨_, rfl⟩
                try dsimp only at H
                change T 74 _ _ _
                refine t_fin ?_
                refine t_region (fun ops hops => ?_)
                clear hops
                refine z_val (v := .int .i64 x12) (val_move rfl rfl) rfl rfl rfl (fun _ _ _ => trivial) ?_
                obtain ⟨x51, hx51, H⟩ := Let_elim H
                refine z_val (v := .int .i64 x51) (by subst hx51; exact val_bin rfl rfl rfl rfl (i64_add _ _ _)) rfl rfl rfl (fun _ _ _ => trivial) ?_
                clear hx51
                refine z_val (v := .int .i64 x51) (val_assign rfl rfl) rfl rfl rfl (fun _ _ _ => trivial) ?_
                refine z_nil ?_
                obtain rfl := Option.some.inj H
                exact t_reach ((hn1 _ () rfl trivial).weak (fun a ha => ha.cons rfl (ha.cons rfl (ha.cons rfl (ha.cons rfl (ha.cons rfl (ha.cons rfl (ha.nil))))))) (fun w hw => hw))
          ·
            obtain ⟨x11, x12⟩ := s
            subst hzz
            have H := HK1
            clear HK1 hz1
            replace H := sum_l H
            try dsimp only at H
            change T 74 _ _ _
            refine t_seq ?_
            refine t_seq ?_
            refine t_region (fun ops hops => ?_)
            clear hops
            refine z_val (v := .int .i64 x11) (val_move rfl rfl) rfl rfl rfl (fun _ _ _ => trivial) ?_
            obtain ⟨x66, hx66, H⟩ := Let_elim H
            refine z_val (v := .bool x66) (by subst hx66; exact val_bin rfl rfl rfl rfl (i64_leq _ _ _)) rfl rfl rfl (fun _ _ _ => trivial) ?_
            clear hx66
            refine z_nil ?_
            cases x66
            ·
              replace H := cond_f H
              refine t_cond_false rfl ?_
              refine t_skip ?_
              refine t_seq ?_
              refine t_region (fun ops hops => ?_)
              clear hops
              refine z_val (v := .bool x19) (val_move rfl rfl) rfl rfl rfl (fun _ _ _ => trivial) ?_
              refine z_val (v := .int .i64 a1) (val_move rfl rfl) rfl rfl rfl (fun _ _ _ => trivial) ?_
              obtain ⟨x70, hx70, H⟩ := Let_elim H
              refine z_val (v := .int .i64 x70) (by subst hx70; exact val_bin rfl rfl rfl rfl (i64_add _ _ _)) rfl rfl rfl (fun _ _ _ => trivial) ?_
              clear hx70
              refine z_val (v := .int .i64 x31) (val_move rfl rfl) rfl rfl rfl (fun _ _ _ => trivial) ?_
              obtain ⟨x72, hx72, H⟩ := Let_elim H
              refine z_val (v := .int .i64 x72) (by subst hx72; exact val_bin rfl rfl rfl rfl (i64_add _ _ _)) rfl rfl rfl (fun _ _ _ => trivial) ?_
              clear hx72
              refine z_val (v := .int .i64 x11) (val_move rfl rfl) rfl rfl rfl (fun _ _ _ => trivial) ?_
              refine z_val (v := .bool x19) (val_assign rfl rfl) rfl rfl rfl (fun _ _ _ => trivial) ?_
              refine z_val (v := .int .i64 x72) (val_assign rfl rfl) rfl rfl rfl (fun _ _ _ => trivial) ?_
              refine z_val (v := .int .i64 x11) (val_assign rfl rfl) rfl rfl rfl (fun _ _ _ => trivial) ?_
              refine z_val (v := .int .i64 0) (val_assign rfl rfl) rfl rfl rfl (fun _ _ _ => trivial) ?_
              refine z_nil ?_
              refine t_ret ?_
              obtain rfl := Option.some.inj H
              exact ret4 rfl (res_tmp rfl) (res_tmp rfl) (res_tmp rfl) (res_tmp rfl) (fun _ hw => ⟨rfl, hw.below⟩)
            ·
              replace H := cond_t H
              refine t_cond_true rfl ?_
              refine t_seq ?_
              refine t_region (fun ops hops => ?_)
              clear hops
              refine z_val (v := .bool x19) (val_move rfl rfl) rfl rfl rfl (fun _ _ _ => trivial) ?_
              refine z_val (v := .bool x19) (val_assign rfl rfl) rfl rfl rfl (fun _ _ _ => trivial) ?_
              refine z_val (v := .int .i64 0) (val_assign rfl rfl) rfl rfl rfl (fun _ _ _ => trivial) ?_
              refine z_val (v := .int .i64 0) (val_assign rfl rfl) rfl rfl rfl (fun _ _ _ => trivial) ?_
              refine z_val (v := .int .i64 2) (val_assign rfl rfl) rfl rfl rfl (fun _ _ _ => trivial) ?_
              refine z_nil ?_
              refine t_ret ?_
              obtain rfl := Option.some.inj H
              exact ret4 rfl (res_tmp rfl) (res_tmp rfl) (res_tmp rfl) (res_tmp rfl) (fun _ hw => ⟨rfl, hw.below⟩)
        ·
          replace H := cond_t H
          refine t_cond_true rfl ?_
          refine t_seq ?_
          refine t_region (fun ops hops => ?_)
          clear hops
          refine z_val (v := .bool x19) (val_move rfl rfl) rfl rfl rfl (fun _ _ _ => trivial) ?_
          refine z_val (v := .bool x19) (val_assign rfl rfl) rfl rfl rfl (fun _ _ _ => trivial) ?_
          refine z_val (v := .int .i64 0) (val_assign rfl rfl) rfl rfl rfl (fun _ _ _ => trivial) ?_
          refine z_val (v := .int .i64 0) (val_assign rfl rfl) rfl rfl rfl (fun _ _ _ => trivial) ?_
          refine z_val (v := .int .i64 2) (val_assign rfl rfl) rfl rfl rfl (fun _ _ _ => trivial) ?_
          refine z_nil ?_
          refine t_ret ?_
          obtain rfl := Option.some.inj H
          exact ret4 rfl (res_tmp rfl) (res_tmp rfl) (res_tmp rfl) (res_tmp rfl) (fun _ hw => ⟨rfl, hw.below⟩)
      ·
        replace H := cond_t H
        refine t_cond_true rfl ?_
        refine t_seq ?_
        refine t_region (fun ops hops => ?_)
        clear hops
        refine z_val (v := .bool x19) (val_move rfl rfl) rfl rfl rfl (fun _ _ _ => trivial) ?_
        refine z_val (v := .bool x19) (val_assign rfl rfl) rfl rfl rfl (fun _ _ _ => trivial) ?_
        refine z_val (v := .int .i64 0) (val_assign rfl rfl) rfl rfl rfl (fun _ _ _ => trivial) ?_
        refine z_val (v := .int .i64 0) (val_assign rfl rfl) rfl rfl rfl (fun _ _ _ => trivial) ?_
        refine z_val (v := .int .i64 3) (val_assign rfl rfl) rfl rfl rfl (fun _ _ _ => trivial) ?_
        refine z_nil ?_
        refine t_ret ?_
        obtain rfl := Option.some.inj H
        exact ret4 rfl (res_tmp rfl) (res_tmp rfl) (res_tmp rfl) (res_tmp rfl) (fun _ hw => ⟨rfl, hw.below⟩)
    ·
      replace H := cond_t H
      refine t_cond_true rfl ?_
      refine t_seq ?_
      refine t_region (fun ops hops => ?_)
      clear hops
      refine z_val (v := .bool x19) (val_move rfl rfl) rfl rfl rfl (fun _ _ _ => trivial) ?_
      refine z_val (v := .int .i64 a1) (val_move rfl rfl) rfl rfl rfl (fun _ _ _ => trivial) ?_
      obtain ⟨x27, hx27, H⟩ := Let_elim H
      refine z_val (v := .int .i64 x27) (by subst hx27; exact val_bin rfl rfl rfl rfl (i64_add _ _ _)) rfl rfl rfl (fun _ _ _ => trivial) ?_
      clear hx27
      refine z_val (v := .int .i64 x8) (val_move rfl rfl) rfl rfl rfl (fun _ _ _ => trivial) ?_
      obtain ⟨x29, hx29, H⟩ := Let_elim H
      refine z_val (v := .int .i64 x29) (by subst hx29; exact val_bin rfl rfl rfl rfl (i64_sub _ _ _)) rfl rfl rfl (fun _ _ _ => trivial) ?_
      clear hx29
      refine z_val (v := .bool x19) (val_assign rfl rfl) rfl rfl rfl (fun _ _ _ => trivial) ?_
      refine z_val (v := .int .i64 x27) (val_assign rfl rfl) rfl rfl rfl (fun _ _ _ => trivial) ?_
      refine z_val (v := .int .i64 x29) (val_assign rfl rfl) rfl rfl rfl (fun _ _ _ => trivial) ?_
      refine z_val (v := .int .i64 0) (val_assign rfl rfl) rfl rfl rfl (fun _ _ _ => trivial) ?_
      refine z_nil ?_
      refine t_ret ?_
      obtain rfl := Option.some.inj H
      exact ret4 rfl (res_tmp rfl) (res_tmp rfl) (res_tmp rfl) (res_tmp rfl) (fun _ hw => ⟨rfl, hw.below⟩)
def smithyref07_readB.b1 (x45 : (Bool) × (Int) × (Int) × (Int)) (a3 : Int) (F_smithyref07_read : (List (BitVec 8)) → (Int) → (Int) → (Int) → Option ((List ((Bool) × (List (BitVec 8)) × (Int))) × (Int) × (Int))) (a0 : List (BitVec 8)) (x22 : List ((Bool) × (List (BitVec 8)) × (Int))) (x17 : List ((Bool) × (List (BitVec 8)) × (Int))) (x18 : Int) : Option (Ctl ((List ((Bool) × (List (BitVec 8)) × (Int))) × (Int)) ((List ((Bool) × (List (BitVec 8)) × (Int))) × (Int) × (Int))) :=
  Let (wi (x45.2.1 + x45.2.2.1)) fun x103 => Let (decide (x18 < x103)) fun x104 => (bif x104 then Let (wi (x45.2.1 + x45.2.2.1)) fun x110 => Let (wi (a3 + 1)) fun x112 => (F_smithyref07_read a0 x18 x110 x112).bind fun x113 => Let (x113.2.2 != 0) fun x118 => (bif x118 then some (.ret (x22, 0, x113.2.2)) else Chk ((x17.length + x113.1.length) * 40 ≤ 140737488355328) <| Let (x17 ++ x113.1) fun x123 => some (.next (x123, x113.2.1))) else some (.brk (x17, x18)))
def smithyref07_readB (F_smithyref07_read : (List (BitVec 8)) → (Int) → (Int) → (Int) → Option ((List ((Bool) × (List (BitVec 8)) × (Int))) × (Int) × (Int))) (a0 : List (BitVec 8)) (a1 : Int) (a2 : Int) (a3 : Int) : Option ((List ((Bool) × (List (BitVec 8)) × (Int))) × (Int) × (Int)) :=
  Let (([] : List ((Bool) × (List (BitVec 8)) × (Int)))) fun x22 => Let ((a0.length : Int)) fun x25 => Let (decide (x25 ≤ a1)) fun x26 => (bif x26 then some (x22, 0, 3) else Chk ((0 : Int) ≤ a1 ∧ a1 < (a0.length : Int)) <| Let (lget a0 a1.toNat) fun x31 => Let (decide ((x31.toNat : Int) < 128)) fun x32 => (bif x32 then Chk ((0 : Int) ≤ a1 ∧ a1 < (a0.length : Int)) <| Let (lget a0 a1.toNat) fun x36 => Let ([x36]) fun x37 => Let (([(false, x37, 0)] : List ((Bool) × (List (BitVec 8)) × (Int)))) fun x39 => Let (wi (a1 + 1)) fun x41 => some (x39, x41, 0) else (smithyref07_head a0 a1).bind fun x45 => Let (x45.2.2.2 != 0) fun x51 => (bif x51 then some (x22, 0, x45.2.2.2) else Let ((a0.length : Int)) fun x56 => Let (wi (x56 - x45.2.1)) fun x58 => Let (decide (x58 < x45.2.2.1)) fun x59 => (bif x59 then some (x22, 0, 3) else Let (wi (x45.2.1 + x45.2.2.1)) fun x63 => Let (decide (a2 < x63)) fun x65 => (bif x65 then some (x22, 0, 2) else Let (!x45.1) fun x68 => (bif x68 then Let (x45.2.2.1 == 1) fun x70 => (bif x70 then Chk ((0 : Int) ≤ x45.2.1 ∧ x45.2.1 < (a0.length : Int)) <| Let (lget a0 x45.2.1.toNat) fun x75 => Let (decide ((x75.toNat : Int) < 128)) fun x76 => some x76 else some false).bind (fun x77 => (bif x77 then some (x22, 0, 2) else Let (([] : List (BitVec 8))) fun x79 => Let (wi (x45.2.1 + x45.2.2.1)) fun x85 => Chk ((0 : Int) ≤ x45.2.1 ∧ x45.2.1 ≤ x85 ∧ x85 ≤ (a0.length : Int)) <| Let ((a0.take x85.toNat).drop x45.2.1.toNat) fun x86 => Chk ((x79.length + x86.length) * 1 ≤ 140737488355328) <| Let (x79 ++ x86) fun x87 => Let (([(false, x87, 0)] : List ((Bool) × (List (BitVec 8)) × (Int)))) fun x90 => Let (wi (x45.2.1 + x45.2.2.1)) fun x93 => some (x90, x93, 0))) else Let (decide (64 ≤ a3)) fun x95 => (bif x95 then some (x22, 0, 4) else Let (([(true, ([] : List (BitVec 8)), 0)] : List ((Bool) × (List (BitVec 8)) × (Int)))) fun x98 => (wlx (σ := (List ((Bool) × (List (BitVec 8)) × (Int))) × (Int)) (fun s => smithyref07_readB.b1 x45 a3 F_smithyref07_read a0 x22 s.1 s.2) (x98, x45.2.1)).bind (Sum.elim (fun s => (fun x17 x18 => Let ((x17.length : Int)) fun x127 => Let (wi (x127 - 1)) fun x128 => Chk ((0 : Int) ≤ 0 ∧ 0 < (x17.length : Int)) <| Let (lget x17 0) fun x129 => Let (x17.set 0 (x129.1, x129.2.1, x128)) fun x_44 => Let (wi (x45.2.1 + x45.2.2.1)) fun x134 => some (x_44, x134, 0)) s.1 s.2) (fun r => some r)))))))))
set_option maxRecDepth 100000 in
set_option maxHeartbeats 4000000 in
theorem smithyref07_readB.calls  (F_smithyref07_read : (List (BitVec 8)) → (Int) → (Int) → (Int) → Option ((List ((Bool) × (List (BitVec 8)) × (Int))) × (Int) × (Int))) (hF_smithyref07_read : ∀ (a0 : List (BitVec 8)) (a1 : Int) (a2 : Int) (a3 : Int) (A0 : Option Addr) (c0 : Nat) (r : (List ((Bool) × (List (BitVec 8)) × (Int))) × (Int) × (Int)) (H : F_smithyref07_read a0 a1 a2 a3 = some r) {w0 : World} {Ex : List Nat} {h : Frag} {Lr : List Ent} {w : World} (hs0 : SlH h U8 A0 a0) (hc0 : a0.length ≤ c0)  (hM : Mm w0 Ex h (Lr) w), Calls Try.prog 58 #[.slice A0 a0.length c0, .int .i64 a1, .int .i64 a2, .int .i64 a3] w fun e w' => ∃ (g : (Frag) × (Option Addr) × (Nat) × (List Value)), e = .returned (.tuple #[.slice g.2.1 r.1.length g.2.2.1, .int .i64 r.2.1, .int .i64 r.2.2]) ∧ (Sub h g.1 ∧ Shp g.2.1 r.1.length g.2.2.1 ∧ RpL g.1 R60 r.1 g.2.2.2) ∧ Mm w0 Ex g.1 ((.row (.slice g.2.1 r.1.length g.2.2.1) 60 3 g.2.2.2) :: Lr) w') (a0 : List (BitVec 8)) (a1 : Int) (a2 : Int) (a3 : Int) (A0 : Option Addr) (c0 : Nat) (r : (List ((Bool) × (List (BitVec 8)) × (Int))) × (Int) × (Int)) (H : smithyref07_readB F_smithyref07_read a0 a1 a2 a3 = some r) {w0 : World} {Ex : List Nat} {h : Frag} {Lr : List Ent} {w : World} (hs0 : SlH h U8 A0 a0) (hc0 : a0.length ≤ c0)  (hM : Mm w0 Ex h (Lr) w) :
    Calls Try.prog 58 #[.slice A0 a0.length c0, .int .i64 a1, .int .i64 a2, .int .i64 a3] w fun e w' => ∃ (g : (Frag) × (Option Addr) × (Nat) × (List Value)), e = .returned (.tuple #[.slice g.2.1 r.1.length g.2.2.1, .int .i64 r.2.1, .int .i64 r.2.2]) ∧ (Sub h g.1 ∧ Shp g.2.1 r.1.length g.2.2.1 ∧ RpL g.1 R60 r.1 g.2.2.2) ∧ Mm w0 Ex g.1 ((.row (.slice g.2.1 r.1.length g.2.2.1) 60 3 g.2.2.2) :: Lr) w' := by
  unfold smithyref07_readB at H
  refine t_enter (vs := [.slice A0 a0.length c0, .int .i64 a1, .int .i64 a2, .int .i64 a3]) (n := 135) Try.func58 rfl rfl rfl hM ?_
  clear hM
  change T 135 _ _ _
  refine t_seq ?_
  refine t_region (fun ops hops => ?_)
  clear hops
  refine z_val (v := .slice none 0 0) (val_assign rfl rfl) rfl rfl rfl (fun _ _ _ => trivial) ?_
  refine z_val (v := .int .i64 0) (val_assign rfl rfl) rfl rfl rfl (fun _ _ _ => trivial) ?_
  refine z_val (v := .int .i64 0) (val_assign rfl rfl) rfl rfl rfl (fun _ _ _ => trivial) ?_
  refine z_nil ?_
  refine t_seq ?_
  refine t_region (fun ops hops => ?_)
  clear hops
  obtain ⟨x22, hx22, H⟩ := Let_elim H
  have hlx22 : x22.length = 0 := by subst hx22; rfl
  have hr : RpL h R60 x22 (([] : List Value)) := by subst hx22; exact rfl
  refine z_buildR (e := 60) (cs := ([] : List Value)) (xs := x22) (vs := []) rfl rfl (by intro w; kernel_rfl) hlx22 hr.len (by decide) rfl rfl rfl (fun _ _ _ _ => trivial) (fun g_1 hs_3 => ?_)
  clear hx22 hlx22
  refine z_val (v := .slice (some ⟨g_1, 0, none⟩) x22.length 0) (val_assign rfl rfl) rfl rfl rfl (fun _ _ _ => trivial) ?_
  refine z_nil ?_
  refine t_seq ?_
  refine t_seq ?_
  refine t_region (fun ops hops => ?_)
  clear hops
  refine z_val (v := .int .i64 a1) (val_move rfl rfl) rfl rfl rfl (fun _ _ _ => trivial) ?_
  refine z_val (v := .slice A0 a0.length c0) (val_move rfl rfl) rfl rfl rfl (fun _ _ _ => trivial) ?_
  obtain ⟨x25, hx25, H⟩ := Let_elim H
  refine z_val (v := .int .i64 x25) (by subst hx25; exact val_len rfl rfl rfl Try.underlying25) rfl rfl rfl (fun _ _ _ => trivial) ?_
  clear hx25
  obtain ⟨x26, hx26, H⟩ := Let_elim H
  refine z_val (v := .bool x26) (by subst hx26; exact val_bin rfl rfl rfl rfl (i64_geq _ _ _)) rfl rfl rfl (fun _ _ _ => trivial) ?_
  clear hx26
  refine z_nil ?_
  cases x26
  ·
    replace H := cond_f H
    refine t_cond_false rfl ?_
    refine t_skip ?_
    refine t_seq ?_
    refine t_seq ?_
    refine t_region (fun ops hops => ?_)
    clear hops
    refine z_val (v := .slice A0 a0.length c0) (val_move rfl rfl) rfl rfl rfl (fun _ _ _ => trivial) ?_
    refine z_val (v := .int .i64 a1) (val_move rfl rfl) rfl rfl rfl (fun _ _ _ => trivial) ?_
    obtain ⟨hq_4, H⟩ := Chk_elim H
    obtain ⟨b_5, o_6, hA_7, hc_8⟩ := hs0.at_ (idx_lt hq_4)
    refine z_val (v := .pointer (some ⟨b_5, o_6 + a1.toNat, none⟩)) (val_idxS0 rfl rfl rfl Try.underlying25 sz5 hq_4 hA_7 rfl) rfl rfl rfl (fun _ _ _ => trivial) ?_
    obtain ⟨x31, hx31, H⟩ := Let_elim H
    refine z_val (v := U8 x31) (by subst hx31; exact val_load1 rfl rfl Try.underlying5 rfl (fun _ hw => hc_8.cell hw)) rfl rfl rfl (fun _ _ _ => trivial) ?_
    clear hx31
    obtain ⟨x32, hx32, H⟩ := Let_elim H
    refine z_val (v := .bool x32) (by subst hx32; exact val_bin rfl rfl rfl rfl (u8_lss_r _ 128 x31)) rfl rfl rfl (fun _ _ _ => trivial) ?_
    clear hx32
    refine z_nil ?_
    cases x32
    ·
      replace H := cond_f H
      refine t_cond_false rfl ?_
      refine t_skip ?_
      refine t_seq ?_
      refine t_region (fun ops hops => ?_)
      clear hops
      refine z_val (v := .slice A0 a0.length c0) (val_move rfl rfl) rfl rfl rfl (fun _ _ _ => trivial) ?_
      refine z_val (v := .int .i64 a1) (val_move rfl rfl) rfl rfl rfl (fun _ _ _ => trivial) ?_
      obtain ⟨x45, hx, H⟩ := Option.bind_eq_some_iff.1 H
      refine z_made (v := .tuple #[.bool x45.1, .int .i64 x45.2.1, .int .i64 x45.2.2.1, .int .i64 x45.2.2.2]) rfl Try.func80 nm80 bs80 rfl (fun w hw => smithyref07_head.calls a0 a1 A0 c0 x45 hx w (hs0.toW hw) hc0) rfl rfl rfl (fun _ _ _ => trivial) ?_
      clear hx
      refine z_val (v := .tuple #[.bool x45.1, .int .i64 x45.2.1, .int .i64 x45.2.2.1, .int .i64 x45.2.2.2]) (val_move rfl rfl) rfl rfl rfl (fun _ _ _ => trivial) ?_
      refine z_val (v := .bool x45.1) (val_extract rfl rfl rfl) rfl rfl rfl (fun _ _ _ => trivial) ?_
      refine z_val (v := .int .i64 x45.2.1) (val_extract rfl rfl rfl) rfl rfl rfl (fun _ _ _ => trivial) ?_
      refine z_val (v := .int .i64 x45.2.2.1) (val_extract rfl rfl rfl) rfl rfl rfl (fun _ _ _ => trivial) ?_
      refine z_val (v := .int .i64 x45.2.2.2) (val_extract rfl rfl rfl) rfl rfl rfl (fun _ _ _ => trivial) ?_
      refine z_val (v := .bool x45.1) (val_assign rfl rfl) rfl rfl rfl (fun _ _ _ => trivial) ?_
      refine z_val (v := .int .i64 x45.2.1) (val_assign rfl rfl) rfl rfl rfl (fun _ _ _ => trivial) ?_
      refine z_val (v := .int .i64 x45.2.2.1) (val_assign rfl rfl) rfl rfl rfl (fun _ _ _ => trivial) ?_
      refine z_val (v := .int .i64 x45.2.2.2) (val_assign rfl rfl) rfl rfl rfl (fun _ _ _ => trivial) ?_
      refine z_nil ?_
      refine t_seq ?_
      refine t_seq ?_
      refine t_region (fun ops hops => ?_)
      clear hops
      refine z_val (v := .int .i64 x45.2.2.2) (val_move rfl rfl) rfl rfl rfl (fun _ _ _ => trivial) ?_
      obtain ⟨x51, hx51, H⟩ := Let_elim H
      refine z_val (v := .bool x51) (by subst hx51; exact val_bin rfl rfl rfl rfl (i64_neq _ _ _)) rfl rfl rfl (fun _ _ _ => trivial) ?_
      clear hx51
      refine z_nil ?_
      cases x51
      ·
        replace H := cond_f H
        refine t_cond_false rfl ?_
        refine t_skip ?_
        refine t_seq ?_
        refine t_seq ?_
        refine t_region (fun ops hops => ?_)
        clear hops
        refine z_val (v := .int .i64 x45.2.2.1) (val_move rfl rfl) rfl rfl rfl (fun _ _ _ => trivial) ?_
        refine z_val (v := .slice A0 a0.length c0) (val_move rfl rfl) rfl rfl rfl (fun _ _ _ => trivial) ?_
        obtain ⟨x56, hx56, H⟩ := Let_elim H
        refine z_val (v := .int .i64 x56) (by subst hx56; exact val_len rfl rfl rfl Try.underlying25) rfl rfl rfl (fun _ _ _ => trivial) ?_
        clear hx56
        refine z_val (v := .int .i64 x45.2.1) (val_move rfl rfl) rfl rfl rfl (fun _ _ _ => trivial) ?_
        obtain ⟨x58, hx58, H⟩ := Let_elim H
        refine z_val (v := .int .i64 x58) (by subst hx58; exact val_bin rfl rfl rfl rfl (i64_sub _ _ _)) rfl rfl rfl (fun _ _ _ => trivial) ?_
        clear hx58
        obtain ⟨x59, hx59, H⟩ := Let_elim H
        refine z_val (v := .bool x59) (by subst hx59; exact val_bin rfl rfl rfl rfl (i64_gtr _ _ _)) rfl rfl rfl (fun _ _ _ => trivial) ?_
        clear hx59
        refine z_nil ?_
        cases x59
        ·
          replace H := cond_f H
          refine t_cond_false rfl ?_
          refine t_skip ?_
          refine t_seq ?_
          refine t_seq ?_
          refine t_region (fun ops hops => ?_)
          clear hops
          refine z_val (v := .int .i64 x45.2.1) (val_move rfl rfl) rfl rfl rfl (fun _ _ _ => trivial) ?_
          refine z_val (v := .int .i64 x45.2.2.1) (val_move rfl rfl) rfl rfl rfl (fun _ _ _ => trivial) ?_
          obtain ⟨x63, hx63, H⟩ := Let_elim H
          refine z_val (v := .int .i64 x63) (by subst hx63; exact val_bin rfl rfl rfl rfl (i64_add _ _ _)) rfl rfl rfl (fun _ _ _ => trivial) ?_
          clear hx63
          refine z_val (v := .int .i64 a2) (val_move rfl rfl) rfl rfl rfl (fun _ _ _ => trivial) ?_
          obtain ⟨x65, hx65, H⟩ := Let_elim H
          refine z_val (v := .bool x65) (by subst hx65; exact val_bin rfl rfl rfl rfl (i64_gtr _ _ _)) rfl rfl rfl (fun _ _ _ => trivial) ?_
          clear hx65
          refine z_nil ?_
          cases x65
          ·
            replace H := cond_f H
            refine t_cond_false rfl ?_
            refine t_skip ?_
            refine t_seq ?_
            refine t_seq ?_
            refine t_region (fun ops hops => ?_)
            clear hops
            refine z_val (v := .bool x45.1) (val_move rfl rfl) rfl rfl rfl (fun _ _ _ => trivial) ?_
            obtain ⟨x68, hx68, H⟩ := Let_elim H
            refine z_val (v := .bool x68) (by subst hx68; exact val_un rfl rfl (bool_not _)) rfl rfl rfl (fun _ _ _ => trivial) ?_
            clear hx68
            refine z_nil ?_
            cases x68
            ·
              replace H := cond_f H
              refine t_cond_false rfl ?_
              refine t_skip ?_
              refine t_seq ?_
              refine t_seq ?_
              refine t_region (fun ops hops => ?_)
              clear hops
              refine z_val (v := .int .i64 a3) (val_move rfl rfl) rfl rfl rfl (fun _ _ _ => trivial) ?_
              obtain ⟨x95, hx95, H⟩ := Let_elim H
              refine z_val (v := .bool x95) (by subst hx95; exact val_bin rfl rfl rfl rfl (i64_geq _ _ _)) rfl rfl rfl (fun _ _ _ => trivial) ?_
              clear hx95
              refine z_nil ?_
              cases x95
              ·
                replace H := cond_f H
                refine t_cond_false rfl ?_
                refine t_skip ?_
                refine t_seq ?_
                refine t_region (fun ops hops => ?_)
                clear hops
                refine z_val (v := .agg ([(.bool true : Value)] ++ ([(.slice none ([] : List (BitVec 8)).length 0 : Value)] ++ ([(.int .i64 0 : Value)]))).toArray) (val_build (vs := [(0, .bool true)]) rfl rfl (fun w => by kernel_rfl)) rfl rfl rfl (fun _ _ _ => trivial) ?_
                obtain ⟨x98, hx98, H⟩ := Let_elim H
                have hlx98 : x98.length = 1 := by subst hx98; rfl
                have hr_9 : RpL h R60 x98 (([(.bool true : Value)] ++ ([(.slice none ([] : List (BitVec 8)).length 0 : Value)] ++ ([(.int .i64 0 : Value)]))) ++ (([] : List Value))) := by subst hx98; exact ⟨_, _, rfl, ⟨none, 0, rfl, (SlH.nil : SlH _ U8 none (([] : List (BitVec 8)))), (Nat.le_refl _)⟩, rfl⟩
                refine z_buildR (e := 60) (cs := ([(.bool true : Value)] ++ ([(.slice none ([] : List (BitVec 8)).length 0 : Value)] ++ ([(.int .i64 0 : Value)]))) ++ (([] : List Value))) (xs := x98) (vs := [(0, .agg ([(.bool true : Value)] ++ ([(.slice none ([] : List (BitVec 8)).length 0 : Value)] ++ ([(.int .i64 0 : Value)]))).toArray)]) rfl rfl (by intro w; kernel_rfl) hlx98 hr_9.len (by decide) rfl rfl rfl (fun _ _ _ _ => trivial) (fun g_10 hs_12 => ?_)
                generalize (([(.bool true : Value)] ++ ([(.slice none ([] : List (BitVec 8)).length 0 : Value)] ++ ([(.int .i64 0 : Value)]))) ++ (([] : List Value))) = cs at *
                clear hx98 hlx98
                refine z_val (v := .slice (some ⟨g_10, 0, none⟩) x98.length 1) (val_assign rfl rfl) rfl rfl rfl (fun _ _ _ => trivial) ?_
                refine z_nil ?_
                refine t_seq ?_
                refine t_region (fun ops hops => ?_)
                clear hops
                refine z_val (v := .int .i64 x45.2.1) (val_move rfl rfl) rfl rfl rfl (fun _ _ _ => trivial) ?_
                refine z_val (v := .int .i64 x45.2.1) (val_assign rfl rfl) rfl rfl rfl (fun _ _ _ => trivial) ?_
                refine z_nil ?_
                refine t_seq ?_
                refine t_block ?_
                obtain ⟨z1, hz1, HK1⟩ := Option.bind_eq_some_iff.1 H
                clear H
                refine t_while hz1 (fun (s : (List ((Bool) × (List (BitVec 8)) × (Int))) × (Int)) (g : (Frag) × (Option Addr) × (Nat) × (List Value)) => [(0, .slice A0 a0.length c0), (3, .int .i64 a3), (11, .slice (some ⟨g_1, 0, none⟩) x22.length 0), (13, .int .i64 x45.2.1), (14, .int .i64 x45.2.2.1), (17, .slice g.2.1 s.1.length g.2.2.1), (18, .int .i64 s.2)]) (fun (s : (List ((Bool) × (List (BitVec 8)) × (Int))) × (Int)) (g : (Frag) × (Option Addr) × (Nat) × (List Value)) => [(13, .int .i64 x45.2.1), (14, .int .i64 x45.2.2.1), (17, .slice g.2.1 s.1.length g.2.2.1)]) (fun (s : (List ((Bool) × (List (BitVec 8)) × (Int))) × (Int)) (g : (Frag) × (Option Addr) × (Nat) × (List Value)) => Mm w0 Ex g.1 ((.row (.slice g.2.1 s.1.length g.2.2.1) 60 3 g.2.2.2) :: (.row (.slice (some ⟨g_1, 0, none⟩) x22.length 0) 60 3 (([] : List Value))) :: Lr)) (fun (s : (List ((Bool) × (List (BitVec 8)) × (Int))) × (Int)) (g : (Frag) × (Option Addr) × (Nat) × (List Value)) => Mm w0 Ex g.1 ((.row (.slice g.2.1 s.1.length g.2.2.1) 60 3 g.2.2.2) :: Lr)) (fun (s : (List ((Bool) × (List (BitVec 8)) × (Int))) × (Int)) (g : (Frag) × (Option Addr) × (Nat) × (List Value)) => Sub h g.1 ∧ Shp g.2.1 s.1.length g.2.2.1 ∧ RpL g.1 R60 s.1 g.2.2.2) (fun (s : (List ((Bool) × (List (BitVec 8)) × (Int))) × (Int)) (g : (Frag) × (Option Addr) × (Nat) × (List Value)) => Sub h g.1 ∧ Shp g.2.1 s.1.length g.2.2.1 ∧ RpL g.1 R60 s.1 g.2.2.2) ⟨h, (some ⟨g_10, 0, none⟩), 1, cs⟩ ⟨(Sub.refl _), hs_12, hr_9⟩ (fun a w ha hw => ⟨ha.cons rfl (ha.cons rfl (ha.cons rfl (ha.cons rfl (ha.cons rfl (ha.cons rfl (ha.cons rfl (ha.nil))))))), hw⟩) (fun Gn Gb s g e hφ H hn1 hb1 hr1 => ?_) (fun s g hzz hφ => ?_)
                ·
                  obtain ⟨x17, x18⟩ := s
                  obtain ⟨h_13, A_14, c_15, cs_17⟩ := g
                  try dsimp only at hφ
                  obtain ⟨hS, hs_16, hr_18⟩ := hφ
                  replace hs0 := hs0.up hS
                  replace hr := RpL.up hS hr
                  replace hr_9 := RpL.up hS hr_9
                  change smithyref07_readB.b1 x45 a3 F_smithyref07_read a0 x22 x17 x18 = some e at H
                  unfold smithyref07_readB.b1 at H
                  clear hz1
                  change T 135 _ _ _
                  refine t_seq ?_
                  refine t_seq ?_
                  refine t_region (fun ops hops => ?_)
                  clear hops
                  refine z_val (v := .int .i64 x18) (val_move rfl rfl) rfl rfl rfl (fun _ _ _ => trivial) ?_
                  refine z_val (v := .int .i64 x45.2.1) (val_move rfl rfl) rfl rfl rfl (fun _ _ _ => trivial) ?_
                  refine z_val (v := .int .i64 x45.2.2.1) (val_move rfl rfl) rfl rfl rfl (fun _ _ _ => trivial) ?_
                  obtain ⟨x103, hx103, H⟩ := Let_elim H
                  refine z_val (v := .int .i64 x103) (by subst hx103; exact val_bin rfl rfl rfl rfl (i64_add _ _ _)) rfl rfl rfl (fun _ _ _ => trivial) ?_
                  clear hx103
                  obtain ⟨x104, hx104, H⟩ := Let_elim H
                  refine z_val (v := .bool x104) (by subst hx104; exact val_bin rfl rfl rfl rfl (i64_lss _ _ _)) rfl rfl rfl (fun _ _ _ => trivial) ?_
                  clear hx104
                  refine z_nil ?_
                  cases x104
                  ·
                    replace H := cond_f H
                    refine t_cond_false rfl ?_
                    refine t_exit rfl ?_
                    obtain rfl := Option.some.inj H
                    exact t_reach ((hb1 _ ⟨h_13, A_14, c_15, cs_17⟩ rfl ⟨hS, hs_16, hr_18⟩).weak (fun a ha => ha.cons rfl (ha.cons rfl (ha.cons rfl (ha.nil)))) (fun w hw => hw.selK 2 [0] rfl rfl))
                  ·
                    replace H := cond_t H
                    refine t_cond_true rfl ?_
                    refine t_skip ?_
                    refine t_block ?_
                    refine t_seq ?_
                    refine t_region (fun ops hops => ?_)
                    clear hops
                    refine z_val (v := .slice A0 a0.length c0) (val_move rfl rfl) rfl rfl rfl (fun _ _ _ => trivial) ?_
                    refine z_val (v := .int .i64 x18) (val_move rfl rfl) rfl rfl rfl (fun _ _ _ => trivial) ?_
                    refine z_val (v := .int .i64 x45.2.1) (val_move rfl rfl) rfl rfl rfl (fun _ _ _ => trivial) ?_
                    refine z_val (v := .int .i64 x45.2.2.1) (val_move rfl rfl) rfl rfl rfl (fun _ _ _ => trivial) ?_
                    obtain ⟨x110, hx110, H⟩ := Let_elim H
                    refine z_val (v := .int .i64 x110) (by subst hx110; exact val_bin rfl rfl rfl rfl (i64_add _ _ _)) rfl rfl rfl (fun _ _ _ => trivial) ?_
                    clear hx110
                    refine z_val (v := .int .i64 a3) (val_move rfl rfl) rfl rfl rfl (fun _ _ _ => trivial) ?_
                    obtain ⟨x112, hx112, H⟩ := Let_elim H
                    refine z_val (v := .int .i64 x112) (by subst hx112; exact val_bin rfl rfl rfl rfl (i64_add _ _ _)) rfl rfl rfl (fun _ _ _ => trivial) ?_
                    clear hx112
                    obtain ⟨x113, hx_19, H⟩ := Option.bind_eq_some_iff.1 H
                    refine z_callG rfl Try.func58 nm58 bs58 rfl (fun w hw => hF_smithyref07_read a0 x18 x110 x112 A0 c0 x113 hx_19 hs0 hc0 hw) rfl rfl rfl (fun _ _ _ _ _ => trivial) (fun g hφ => ?_)
                    obtain ⟨h_20, A_23, c_24, cs_26⟩ := g
                    try dsimp only at hφ
                    obtain ⟨hS_21, hs_25, hr_27⟩ := hφ
                    clear hx_19
                    change T 135 _ _ _
                    replace hs0 := hs0.up hS_21
                    replace hr := RpL.up hS_21 hr
                    replace hr_18 := RpL.up hS_21 hr_18
                    refine z_val (v := .tuple #[.slice A_23 x113.1.length c_24, .int .i64 x113.2.1, .int .i64 x113.2.2]) (val_move rfl rfl) rfl rfl rfl (fun _ _ _ => trivial) ?_
                    refine z_val (v := .slice A_23 x113.1.length c_24) (val_extract rfl rfl rfl) rfl rfl rfl (fun _ _ _ => trivial) ?_
                    refine z_val (v := .int .i64 x113.2.1) (val_extract rfl rfl rfl) rfl rfl rfl (fun _ _ _ => trivial) ?_
                    refine z_val (v := .int .i64 x113.2.2) (val_extract rfl rfl rfl) rfl rfl rfl (fun _ _ _ => trivial) ?_
                    refine z_val (v := .slice A_23 x113.1.length c_24) (val_assign rfl rfl) rfl rfl rfl (fun _ _ _ => trivial) ?_
                    refine z_val (v := .int .i64 x113.2.1) (val_assign rfl rfl) rfl rfl rfl (fun _ _ _ => trivial) ?_
                    refine z_val (v := .int .i64 x113.2.2) (val_assign rfl rfl) rfl rfl rfl (fun _ _ _ => trivial) ?_
                    refine z_nil ?_
                    refine t_seq ?_
                    refine t_seq ?_
                    refine t_region (fun ops hops => ?_)
                    clear hops
                    refine z_val (v := .int .i64 x113.2.2) (val_move rfl rfl) rfl rfl rfl (fun _ _ _ => trivial) ?_
                    obtain ⟨x118, hx118, H⟩ := Let_elim H
                    refine z_val (v := .bool x118) (by subst hx118; exact val_bin rfl rfl rfl rfl (i64_neq _ _ _)) rfl rfl rfl (fun _ _ _ => trivial) ?_
                    clear hx118
                    refine z_nil ?_
                    cases x118
                    ·
                      replace H := cond_f H
                      refine t_cond_false rfl ?_
                      refine t_skip ?_
                      refine t_seq ?_
                      refine t_region (fun ops hops => ?_)
                      clear hops
                      refine z_val (v := .slice A_14 x17.length c_15) (val_move rfl rfl) rfl rfl rfl (fun _ _ _ => trivial) ?_
                      refine z_val (v := .slice A_23 x113.1.length c_24) (val_move rfl rfl) rfl rfl rfl (fun _ _ _ => trivial) ?_
                      obtain ⟨hq_28, H⟩ := Chk_elim H
                      obtain ⟨x123, hx123, H⟩ := Let_elim H
                      refine z_appendR (R := R60) (j := 1) (xs := x17) (ys := x113.1) (zs := x123) rfl rfl Try.underlying46 in60 rfl rfl (by decide) rfl rfl hr_18 rfl (fun w hw => own_rd hw (j := 0) rfl hr_27 hs_25) hq_28 (by decide) hx123 (fun A_29 c_30 cs_32 => (.row (.slice A_23 x113.1.length c_24) 60 3 cs_26) :: (.row (.slice A_29 x123.length c_30) 60 3 cs_32) :: (.row (.slice (some ⟨g_1, 0, none⟩) x22.length 0) 60 3 (([] : List Value))) :: Lr) (fun _ _ _ => rfl) rfl rfl rfl (fun _ _ _ _ _ _ => trivial) (fun A_29 c_30 cs_32 hs_31 hr_33 => ?_)
                      clear hx123
                      refine z_val (v := .slice A_29 x123.length c_30) (val_assign rfl rfl) rfl rfl rfl (fun _ _ _ => trivial) ?_
                      refine z_nil ?_
                      refine t_region (fun ops hops => ?_)
                      clear hops
                      refine z_val (v := .int .i64 x113.2.1) (val_move rfl rfl) rfl rfl rfl (fun _ _ _ => trivial) ?_
                      refine z_val (v := .int .i64 x113.2.1) (val_assign rfl rfl) rfl rfl rfl (fun _ _ _ => trivial) ?_
                      refine z_nil ?_
                      refine t_fin ?_
                      obtain rfl := Option.some.inj H
                      exact t_reach ((hn1 _ ⟨h_20, A_29, c_30, cs_32⟩ rfl ⟨(hS.trans hS_21), hs_31, hr_33⟩).weak (fun a ha => ha.cons rfl (ha.cons rfl (ha.cons rfl (ha.cons rfl (ha.cons rfl (ha.cons rfl (ha.cons rfl (ha.nil)))))))) (fun w hw => hw.selK 3 [1, 2] rfl rfl))
                    ·
                      replace H := cond_t H
                      refine t_cond_true rfl ?_
                      refine t_seq ?_
                      refine t_region (fun ops hops => ?_)
                      clear hops
                      refine z_val (v := .slice (some ⟨g_1, 0, none⟩) x22.length 0) (val_move rfl rfl) rfl rfl rfl (fun _ _ _ => trivial) ?_
                      refine z_val (v := .int .i64 x113.2.2) (val_move rfl rfl) rfl rfl rfl (fun _ _ _ => trivial) ?_
                      refine z_val (v := .slice (some ⟨g_1, 0, none⟩) x22.length 0) (val_assign rfl rfl) rfl rfl rfl (fun _ _ _ => trivial) ?_
                      refine z_val (v := .int .i64 0) (val_assign rfl rfl) rfl rfl rfl (fun _ _ _ => trivial) ?_
                      refine z_val (v := .int .i64 x113.2.2) (val_assign rfl rfl) rfl rfl rfl (fun _ _ _ => trivial) ?_
                      refine z_nil ?_
                      refine t_ret ?_
                      obtain rfl := Option.some.inj H
                      have hz := hr1 _ rfl
                      subst hz
                      obtain rfl := Option.some.inj HK1
                      exact ret3 rfl (res_tmp rfl) (res_tmp rfl) (res_tmp rfl) (fun _ hw => ⟨⟨h_20, (some ⟨g_1, 0, none⟩), 0, (([] : List Value))⟩, rfl, ⟨(hS.trans hS_21), hs_3, hr⟩, hw.selK 3 [2] rfl rfl⟩)
                ·
                  obtain ⟨x17, x18⟩ := s
                  obtain ⟨h_13, A_14, c_15, cs_17⟩ := g
                  try dsimp only at hφ
                  obtain ⟨hS, hs_16, hr_18⟩ := hφ
                  replace hs0 := hs0.up hS
                  replace hr := RpL.up hS hr
                  replace hr_9 := RpL.up hS hr_9
                  subst hzz
                  have H := HK1
                  clear HK1 hz1
                  replace H := sum_l H
                  try dsimp only at H
                  change T 135 _ _ _
                  refine t_seq ?_
                  refine t_region (fun ops hops => ?_)
                  clear hops
                  refine z_val (v := .slice A_14 x17.length c_15) (val_move rfl rfl) rfl rfl rfl (fun _ _ _ => trivial) ?_
                  refine z_val (v := .slice A_14 x17.length c_15) (val_move rfl rfl) rfl rfl rfl (fun _ _ _ => trivial) ?_
                  obtain ⟨x127, hx127, H⟩ := Let_elim H
                  refine z_val (v := .int .i64 x127) (by subst hx127; exact val_len rfl rfl rfl Try.underlying46) rfl rfl rfl (fun _ _ _ => trivial) ?_
                  clear hx127
                  obtain ⟨x128, hx128, H⟩ := Let_elim H
                  refine z_val (v := .int .i64 x128) (by subst hx128; exact val_bin rfl rfl rfl rfl (i64_sub _ _ _)) rfl rfl rfl (fun _ _ _ => trivial) ?_
                  clear hx128
                  obtain ⟨hq_34, H⟩ := Chk_elim H
                  obtain ⟨x129, hx129, H⟩ := Let_elim H
                  have hlt : 0 < x17.length := (idx_lt hq_34)
                  obtain ⟨g_41, hA_42⟩ := hs_16.blk (by omega)
                  obtain ⟨cs_43, hr_39, hc_40, hset⟩ := hr_18.at_ (lget_at hlt)
                  rw [← hx129] at hr_39
                  clear hx129
                  obtain ⟨A_35, c_36, rfl, hs_37, hc_38⟩ := hr_39
                  refine z_val (v := .pointer (some ⟨g_41, 0 * 3, none⟩)) (val_idxO rfl rfl rfl Try.underlying46 sz60 hq_34 hA_42 rfl) rfl rfl rfl (fun _ _ _ => trivial) ?_
                  refine z_val (v := .pointer (some ⟨g_41, 0 * 3 + 2, none⟩)) (val_fldB (sz := 1) rfl rfl Try.underlying60 rfl rfl sz3 (by decide)) rfl rfl rfl (fun _ _ _ => trivial) ?_
                  obtain ⟨x_44, hx_44, H⟩ := Let_elim H
                  obtain ⟨cs_47, hcs⟩ : ∃ z, z = List.set cs_17 (0 * 3 + 2) (.int .i64 x128) := ⟨_, rfl⟩
                  have hr_46 : RpL h_13 R60 x_44 cs_47 := by subst hx_44 hcs; exact hset 2 _ _ (by decide) ⟨A_35, c_36, rfl, hs_37, hc_38⟩
                  have hs_45 : Shp A_14 x_44.length c_15 := by subst hx_44; rw [List.length_set]; exact hs_16
                  have hl : x17.length = x_44.length := by subst hx_44; rw [List.length_set]
                  refine z_storeCell (j := 0) (cs' := cs_47) (L' := (.row (.slice A_14 x_44.length c_15) 60 3 cs_47) :: Lr) rfl rfl rfl rfl rfl sz3 rfl hA_42 (hr_18.lt hlt (by decide)) hcs.symm (by rw [hl]; rfl) rfl rfl (fun _ _ _ => trivial) ?_
                  refine t_len (show x17.length = x_44.length from hl) (fun z => [(13, .int .i64 x45.2.1), (14, .int .i64 x45.2.2.1), (17, .slice A_14 z c_15), (125, .slice A_14 z c_15), (126, .slice A_14 z c_15), (127, .int .i64 x127), (128, .int .i64 x128)]) (fun a ha => ha.cons rfl (ha.cons rfl (ha.cons rfl (ha.cons rfl (ha.cons rfl (ha.cons rfl (ha.cons rfl (ha.nil)))))))) ?_
                  change T 135 _ _ _
                  clear hx_44 hcs hl
                  refine z_nil ?_
                  refine t_seq ?_
                  refine t_region (fun ops hops => ?_)
                  clear hops
                  refine z_val (v := .slice A_14 x_44.length c_15) (val_move rfl rfl) rfl rfl rfl (fun _ _ _ => trivial) ?_
                  refine z_val (v := .int .i64 x45.2.1) (val_move rfl rfl) rfl rfl rfl (fun _ _ _ => trivial) ?_
                  refine z_val (v := .int .i64 x45.2.2.1) (val_move rfl rfl) rfl rfl rfl (fun _ _ _ => trivial) ?_
                  obtain ⟨x134, hx134, H⟩ := Let_elim H
                  refine z_val (v := .int .i64 x134) (by subst hx134; exact val_bin rfl rfl rfl rfl (i64_add _ _ _)) rfl rfl rfl (fun _ _ _ => trivial) ?_
                  clear hx134
                  refine z_val (v := .slice A_14 x_44.length c_15) (val_assign rfl rfl) rfl rfl rfl (fun _ _ _ => trivial) ?_
                  refine z_val (v := .int .i64 x134) (val_assign rfl rfl) rfl rfl rfl (fun _ _ _ => trivial) ?_
                  refine z_val (v := .int .i64 0) (val_assign rfl rfl) rfl rfl rfl (fun _ _ _ => trivial) ?_
                  refine z_nil ?_
                  refine t_ret ?_
                  obtain rfl := Option.some.inj H
                  exact ret3 rfl (res_tmp rfl) (res_tmp rfl) (res_tmp rfl) (fun _ hw => ⟨⟨h_13, A_14, c_15, cs_47⟩, rfl, ⟨hS, hs_45, hr_46⟩, hw⟩)
              ·
                replace H := cond_t H
                refine t_cond_true rfl ?_
                refine t_seq ?_
                refine t_region (fun ops hops => ?_)
                clear hops
                refine z_val (v := .slice (some ⟨g_1, 0, none⟩) x22.length 0) (val_move rfl rfl) rfl rfl rfl (fun _ _ _ => trivial) ?_
                refine z_val (v := .slice (some ⟨g_1, 0, none⟩) x22.length 0) (val_assign rfl rfl) rfl rfl rfl (fun _ _ _ => trivial) ?_
                refine z_val (v := .int .i64 0) (val_assign rfl rfl) rfl rfl rfl (fun _ _ _ => trivial) ?_
                refine z_val (v := .int .i64 4) (val_assign rfl rfl) rfl rfl rfl (fun _ _ _ => trivial) ?_
                refine z_nil ?_
                refine t_ret ?_
                obtain rfl := Option.some.inj H
                exact ret3 rfl (res_tmp rfl) (res_tmp rfl) (res_tmp rfl) (fun _ hw => ⟨⟨h, (some ⟨g_1, 0, none⟩), 0, (([] : List Value))⟩, rfl, ⟨(Sub.refl _), hs_3, hr⟩, hw⟩)
            ·
              replace H := cond_t H
              refine t_cond_true rfl ?_
              refine t_seq ?_
              refine t_seq ?_
              refine t_region (fun ops hops => ?_)
              refine z_val (v := .int .i64 x45.2.2.1) (val_move rfl rfl) rfl rfl rfl (fun _ _ _ => trivial) ?_
              obtain ⟨x70, hx70, H⟩ := Let_elim H
              refine z_val (v := .bool x70) (by subst hx70; exact val_bin rfl rfl rfl rfl (i64_eql _ _ _)) rfl rfl rfl (fun _ _ _ => trivial) ?_
              clear hx70
              refine z_val (v := .bool x70) (val_move rfl rfl) rfl rfl rfl (fun _ _ _ => trivial) ?_
              refine z_bind H 6 (fun (s : Bool) (_ : Unit) => [(0, .slice A0 a0.length c0), (11, .slice (some ⟨g_1, 0, none⟩) x22.length 0), (13, .int .i64 x45.2.1), (14, .int .i64 x45.2.2.1), (77, .bool s)]) (fun _ _ => Mm w0 Ex h ((.row (.slice (some ⟨g_1, 0, none⟩) x22.length 0) 60 3 (([] : List Value))) :: Lr)) (fun _ _ => True) (fun Gr K s he HJ => ?_) (fun s g HB _ => ?_)
              ·
                clear H
                cases x70
                ·
                  have H := cond_f he
                  clear he
                  refine z_skip rfl rfl (by rw [hops]; rfl) (fun _ _ _ => trivial) ?_
                  refine z_skip rfl rfl (by rw [hops]; rfl) (fun _ _ _ => trivial) ?_
                  refine z_skip rfl rfl (by rw [hops]; rfl) (fun _ _ _ => trivial) ?_
                  refine z_skip rfl rfl (by rw [hops]; rfl) (fun _ _ _ => trivial) ?_
                  refine z_skip rfl rfl (by rw [hops]; rfl) (fun _ _ _ => trivial) ?_
                  refine z_val (v := .bool false) (val_pick rfl rfl rfl) rfl rfl rfl (fun _ _ _ => trivial) ?_
                  obtain rfl := Option.some.inj H
                  exact z_nil ((K _ () HJ trivial).weak (fun a ha => ha.cons rfl (ha.cons rfl (ha.cons rfl (ha.cons rfl (ha.cons rfl (ha.nil)))))) (fun w hw => hw))
                ·
                  have H := cond_t he
                  clear he
                  refine z_val (v := .slice A0 a0.length c0) (val_move rfl rfl) rfl rfl (by rw [hops]; rfl) (fun _ _ _ => trivial) ?_
                  refine z_val (v := .int .i64 x45.2.1) (val_move rfl rfl) rfl rfl (by rw [hops]; rfl) (fun _ _ _ => trivial) ?_
                  obtain ⟨hq_48, H⟩ := Chk_elim H
                  obtain ⟨b_49, o_50, hA_51, hc_52⟩ := hs0.at_ (idx_lt hq_48)
                  refine z_val (v := .pointer (some ⟨b_49, o_50 + x45.2.1.toNat, none⟩)) (val_idxS0 rfl rfl rfl Try.underlying25 sz5 hq_48 hA_51 rfl) rfl rfl (by rw [hops]; rfl) (fun _ _ _ => trivial) ?_
                  obtain ⟨x75, hx75, H⟩ := Let_elim H
                  refine z_val (v := U8 x75) (by subst hx75; exact val_load1 rfl rfl Try.underlying5 rfl (fun _ hw => hc_52.cell hw)) rfl rfl (by rw [hops]; rfl) (fun _ _ _ => trivial) ?_
                  clear hx75
                  obtain ⟨x76, hx76, H⟩ := Let_elim H
                  refine z_val (v := .bool x76) (by subst hx76; exact val_bin rfl rfl rfl rfl (u8_lss_r _ 128 x75)) rfl rfl (by rw [hops]; rfl) (fun _ _ _ => trivial) ?_
                  clear hx76
                  refine z_val (v := .bool x76) (val_pick rfl rfl rfl) rfl rfl rfl (fun _ _ _ => trivial) ?_
                  obtain rfl := Option.some.inj H
                  exact z_nil ((K _ () HJ trivial).weak (fun a ha => ha.cons rfl (ha.cons rfl (ha.cons rfl (ha.cons rfl (ha.cons rfl (ha.nil)))))) (fun w hw => hw))
              ·
                replace H := HB
                clear HB
                obtain ⟨x77, rfl⟩ : ∃ x, x = s := ⟨_, rfl⟩
                change T 135 _ _ _
                refine z_nil ?_
                cases x77
                ·
                  replace H := cond_f H
                  refine t_cond_false rfl ?_
                  refine t_skip ?_
                  refine t_seq ?_
                  refine t_region (fun ops hops => ?_)
                  clear hops
                  obtain ⟨x79, hx79, H⟩ := Let_elim H
                  have hlx79 : x79.length = 0 := by subst hx79; rfl
                  refine z_buildSlice' (e := 5) (f := U8) (xs := x79) (vs := []) rfl rfl (by subst hx79; intro w; kernel_rfl) hlx79 (by decide) rfl rfl rfl (fun _ _ _ _ => trivial) (fun g_53 hs_55 => ?_)
                  clear hx79 hlx79
                  refine z_val (v := .slice (some ⟨g_53, 0, none⟩) x79.length 0) (val_assign rfl rfl) rfl rfl rfl (fun _ _ _ => trivial) ?_
                  refine z_nil ?_
                  refine t_seq ?_
                  refine t_region (fun ops hops => ?_)
                  clear hops
                  refine z_val (v := .slice (some ⟨g_53, 0, none⟩) x79.length 0) (val_move rfl rfl) rfl rfl rfl (fun _ _ _ => trivial) ?_
                  refine z_val (v := .slice A0 a0.length c0) (val_move rfl rfl) rfl rfl rfl (fun _ _ _ => trivial) ?_
                  refine z_val (v := .int .i64 x45.2.1) (val_move rfl rfl) rfl rfl rfl (fun _ _ _ => trivial) ?_
                  refine z_val (v := .int .i64 x45.2.1) (val_move rfl rfl) rfl rfl rfl (fun _ _ _ => trivial) ?_
                  refine z_val (v := .int .i64 x45.2.2.1) (val_move rfl rfl) rfl rfl rfl (fun _ _ _ => trivial) ?_
                  obtain ⟨x85, hx85, H⟩ := Let_elim H
                  refine z_val (v := .int .i64 x85) (by subst hx85; exact val_bin rfl rfl rfl rfl (i64_add _ _ _)) rfl rfl rfl (fun _ _ _ => trivial) ?_
                  clear hx85
                  obtain ⟨hq_56, H⟩ := Chk_elim H
                  obtain ⟨x86, hx86, H⟩ := Let_elim H
                  obtain ⟨A_57, hA_61⟩ : ∃ z, z = (if c0 = x45.2.1.toNat then A0 else A0.map (·.add (x45.2.1.toNat * 1))) := ⟨_, rfl⟩
                  obtain ⟨c_58, hc_600⟩ : ∃ z, z = c0 - x45.2.1.toNat := ⟨_, rfl⟩
                  have hl_62 : x86.length = x85.toNat - x45.2.1.toNat := by subst hx86; exact cut_len (by omega) (by omega)
                  have hs_59 : SlH h U8 A_57 x86 := by subst hA_61 hx86; exact hs0.cut (by omega) hc0
                  have hc_60 : x86.length ≤ c_58 := by have := hc0; omega
                  refine z_val (v := .slice A_57 x86.length c_58) (val_sliceLHz rfl rfl rfl rfl Try.underlying25 sz5 hq_56.1 hq_56.2.1 (by have := hc0; omega) (by rw [hl_62, hA_61, hc_600])) rfl rfl rfl (fun _ _ _ => trivial) ?_
                  clear hl_62 hA_61 hc_600 hx86
                  obtain ⟨hq_63, H⟩ := Chk_elim H
                  obtain ⟨x87, hx87, H⟩ := Let_elim H
                  refine z_append (f := U8) (j := 0) (xs := x79) (ys := x86) (zs := x87) rfl rfl Try.underlying25 in5 rfl rfl rfl rfl (fun w hw => (hs_59.toW hw)) (fun _ => rfl) hq_63 (by decide) hx87 (fun A_64 c_65 => (.row (.slice A_64 x87.length c_65) 5 1 (x87.map U8)) :: (.row (.slice (some ⟨g_1, 0, none⟩) x22.length 0) 60 3 (([] : List Value))) :: Lr) (fun _ _ => rfl) rfl rfl rfl (fun _ _ _ _ _ => trivial) (fun A_64 c_65 hs_66 => ?_)
                  clear hx87
                  refine z_val (v := .slice A_64 x87.length c_65) (val_assign rfl rfl) rfl rfl rfl (fun _ _ _ => trivial) ?_
                  refine z_nil ?_
                  refine t_seq ?_
                  refine t_seal (fun h_67 hS_68 hs_69 => ?_)
                  have hc_70 := hs_66.le
                  replace hs0 := hs0.up hS_68
                  replace hr := RpL.up hS_68 hr
                  replace hs_59 := hs_59.up hS_68
                  refine t_region (fun ops hops => ?_)
                  clear hops
                  refine z_val (v := .slice A_64 x87.length c_65) (val_move rfl rfl) rfl rfl rfl (fun _ _ _ => trivial) ?_
                  refine z_val (v := .agg ([(.bool false : Value)] ++ ([(.slice A_64 x87.length c_65 : Value)] ++ ([(.int .i64 0 : Value)]))).toArray) (val_build (vs := [(1, .slice A_64 x87.length c_65)]) rfl rfl (fun w => by kernel_rfl)) rfl rfl rfl (fun _ _ _ => trivial) ?_
                  obtain ⟨x90, hx90, H⟩ := Let_elim H
                  have hlx90 : x90.length = 1 := by subst hx90; rfl
                  have hr_71 : RpL h_67 R60 x90 (([(.bool false : Value)] ++ ([(.slice A_64 x87.length c_65 : Value)] ++ ([(.int .i64 0 : Value)]))) ++ (([] : List Value))) := by subst hx90; exact ⟨_, _, rfl, ⟨A_64, c_65, rfl, hs_69, hc_70⟩, rfl⟩
                  refine z_buildR (e := 60) (cs := ([(.bool false : Value)] ++ ([(.slice A_64 x87.length c_65 : Value)] ++ ([(.int .i64 0 : Value)]))) ++ (([] : List Value))) (xs := x90) (vs := [(0, .agg ([(.bool false : Value)] ++ ([(.slice A_64 x87.length c_65 : Value)] ++ ([(.int .i64 0 : Value)]))).toArray)]) rfl rfl (by intro w; kernel_rfl) hlx90 hr_71.len (by decide) rfl rfl rfl (fun _ _ _ _ => trivial) (fun g_72 hs_74 => ?_)
                  generalize (([(.bool false : Value)] ++ ([(.slice A_64 x87.length c_65 : Value)] ++ ([(.int .i64 0 : Value)]))) ++ (([] : List Value))) = cs_75 at *
                  clear hx90 hlx90
                  refine z_val (v := .int .i64 x45.2.1) (val_move rfl rfl) rfl rfl rfl (fun _ _ _ => trivial) ?_
                  refine z_val (v := .int .i64 x45.2.2.1) (val_move rfl rfl) rfl rfl rfl (fun _ _ _ => trivial) ?_
                  obtain ⟨x93, hx93, H⟩ := Let_elim H
                  refine z_val (v := .int .i64 x93) (by subst hx93; exact val_bin rfl rfl rfl rfl (i64_add _ _ _)) rfl rfl rfl (fun _ _ _ => trivial) ?_
                  clear hx93
                  refine z_val (v := .slice (some ⟨g_72, 0, none⟩) x90.length 1) (val_assign rfl rfl) rfl rfl rfl (fun _ _ _ => trivial) ?_
                  refine z_val (v := .int .i64 x93) (val_assign rfl rfl) rfl rfl rfl (fun _ _ _ => trivial) ?_
                  refine z_val (v := .int .i64 0) (val_assign rfl rfl) rfl rfl rfl (fun _ _ _ => trivial) ?_
                  refine z_nil ?_
                  refine t_ret ?_
                  obtain rfl := Option.some.inj H
                  exact ret3 rfl (res_tmp rfl) (res_tmp rfl) (res_tmp rfl) (fun _ hw => ⟨⟨h_67, (some ⟨g_72, 0, none⟩), 1, cs_75⟩, rfl, ⟨hS_68, hs_74, hr_71⟩, hw.selK 2 [0] rfl rfl⟩)
                ·
                  replace H := cond_t H
                  refine t_cond_true rfl ?_
                  refine t_seq ?_
                  refine t_region (fun ops hops => ?_)
                  clear hops
                  refine z_val (v := .slice (some ⟨g_1, 0, none⟩) x22.length 0) (val_move rfl rfl) rfl rfl rfl (fun _ _ _ => trivial) ?_
                  refine z_val (v := .slice (some ⟨g_1, 0, none⟩) x22.length 0) (val_assign rfl rfl) rfl rfl rfl (fun _ _ _ => trivial) ?_
                  refine z_val (v := .int .i64 0) (val_assign rfl rfl) rfl rfl rfl (fun _ _ _ => trivial) ?_
                  refine z_val (v := .int .i64 2) (val_assign rfl rfl) rfl rfl rfl (fun _ _ _ => trivial) ?_
                  refine z_nil ?_
                  refine t_ret ?_
                  obtain rfl := Option.some.inj H
                  exact ret3 rfl (res_tmp rfl) (res_tmp rfl) (res_tmp rfl) (fun _ hw => ⟨⟨h, (some ⟨g_1, 0, none⟩), 0, (([] : List Value))⟩, rfl, ⟨(Sub.refl _), hs_3, hr⟩, hw⟩)
          ·
            replace H := cond_t H
            refine t_cond_true rfl ?_
            refine t_seq ?_
            refine t_region (fun ops hops => ?_)
            clear hops
            refine z_val (v := .slice (some ⟨g_1, 0, none⟩) x22.length 0) (val_move rfl rfl) rfl rfl rfl (fun _ _ _ => trivial) ?_
            refine z_val (v := .slice (some ⟨g_1, 0, none⟩) x22.length 0) (val_assign rfl rfl) rfl rfl rfl (fun _ _ _ => trivial) ?_
            refine z_val (v := .int .i64 0) (val_assign rfl rfl) rfl rfl rfl (fun _ _ _ => trivial) ?_
            refine z_val (v := .int .i64 2) (val_assign rfl rfl) rfl rfl rfl (fun _ _ _ => trivial) ?_
            refine z_nil ?_
            refine t_ret ?_
            obtain rfl := Option.some.inj H
            exact ret3 rfl (res_tmp rfl) (res_tmp rfl) (res_tmp rfl) (fun _ hw => ⟨⟨h, (some ⟨g_1, 0, none⟩), 0, (([] : List Value))⟩, rfl, ⟨(Sub.refl _), hs_3, hr⟩, hw⟩)
        ·
          replace H := cond_t H
          refine t_cond_true rfl ?_
          refine t_seq ?_
          refine t_region (fun ops hops => ?_)
          clear hops
          refine z_val (v := .slice (some ⟨g_1, 0, none⟩) x22.length 0) (val_move rfl rfl) rfl rfl rfl (fun _ _ _ => trivial) ?_
          refine z_val (v := .slice (some ⟨g_1, 0, none⟩) x22.length 0) (val_assign rfl rfl) rfl rfl rfl (fun _ _ _ => trivial) ?_
          refine z_val (v := .int .i64 0) (val_assign rfl rfl) rfl rfl rfl (fun _ _ _ => trivial) ?_
          refine z_val (v := .int .i64 3) (val_assign rfl rfl) rfl rfl rfl (fun _ _ _ => trivial) ?_
          refine z_nil ?_
          refine t_ret ?_
          obtain rfl := Option.some.inj H
          exact ret3 rfl (res_tmp rfl) (res_tmp rfl) (res_tmp rfl) (fun _ hw => ⟨⟨h, (some ⟨g_1, 0, none⟩), 0, (([] : List Value))⟩, rfl, ⟨(Sub.refl _), hs_3, hr⟩, hw⟩)
      ·
        replace H := cond_t H
        refine t_cond_true rfl ?_
        refine t_seq ?_
        refine t_region (fun ops hops => ?_)
        clear hops
        refine z_val (v := .slice (some ⟨g_1, 0, none⟩) x22.length 0) (val_move rfl rfl) rfl rfl rfl (fun _ _ _ => trivial) ?_
        refine z_val (v := .int .i64 x45.2.2.2) (val_move rfl rfl) rfl rfl rfl (fun _ _ _ => trivial) ?_
        refine z_val (v := .slice (some ⟨g_1, 0, none⟩) x22.length 0) (val_assign rfl rfl) rfl rfl rfl (fun _ _ _ => trivial) ?_
        refine z_val (v := .int .i64 0) (val_assign rfl rfl) rfl rfl rfl (fun _ _ _ => trivial) ?_
        refine z_val (v := .int .i64 x45.2.2.2) (val_assign rfl rfl) rfl rfl rfl (fun _ _ _ => trivial) ?_
        refine z_nil ?_
        refine t_ret ?_
        obtain rfl := Option.some.inj H
        exact ret3 rfl (res_tmp rfl) (res_tmp rfl) (res_tmp rfl) (fun _ hw => ⟨⟨h, (some ⟨g_1, 0, none⟩), 0, (([] : List Value))⟩, rfl, ⟨(Sub.refl _), hs_3, hr⟩, hw⟩)
    ·
      replace H := cond_t H
      refine t_cond_true rfl ?_
      refine t_seq ?_
      refine t_region (fun ops hops => ?_)
      clear hops
      refine z_val (v := .slice A0 a0.length c0) (val_move rfl rfl) rfl rfl rfl (fun _ _ _ => trivial) ?_
      refine z_val (v := .int .i64 a1) (val_move rfl rfl) rfl rfl rfl (fun _ _ _ => trivial) ?_
      obtain ⟨hq_76, H⟩ := Chk_elim H
      obtain ⟨b_77, o_78, hA_79, hc_80⟩ := hs0.at_ (idx_lt hq_76)
      refine z_val (v := .pointer (some ⟨b_77, o_78 + a1.toNat, none⟩)) (val_idxS0 rfl rfl rfl Try.underlying25 sz5 hq_76 hA_79 rfl) rfl rfl rfl (fun _ _ _ => trivial) ?_
      obtain ⟨x36, hx36, H⟩ := Let_elim H
      refine z_val (v := U8 x36) (by subst hx36; exact val_load1 rfl rfl Try.underlying5 rfl (fun _ hw => hc_80.cell hw)) rfl rfl rfl (fun _ _ _ => trivial) ?_
      clear hx36
      obtain ⟨x37, hx37, H⟩ := Let_elim H
      have hlx37 : x37.length = 1 := by subst hx37; rfl
      refine z_buildSlice' (e := 5) (f := U8) (xs := x37) (vs := [(0, U8 x36)]) rfl rfl (by subst hx37; intro w; kernel_rfl) hlx37 (by decide) rfl rfl rfl (fun _ _ _ _ => trivial) (fun g_81 hs_83 => ?_)
      clear hx37 hlx37
      refine t_seal (fun h_84 hS_85 hs_86 => ?_)
      have hc_87 := hs_83.le
      replace hs0 := hs0.up hS_85
      replace hr := RpL.up hS_85 hr
      replace hc_8 := hc_8.up hS_85
      replace hc_80 := hc_80.up hS_85
      refine z_val (v := .agg ([(.bool false : Value)] ++ ([(.slice (some ⟨g_81, 0, none⟩) x37.length 1 : Value)] ++ ([(.int .i64 0 : Value)]))).toArray) (val_build (vs := [(1, .slice (some ⟨g_81, 0, none⟩) x37.length 1)]) rfl rfl (fun w => by kernel_rfl)) rfl rfl rfl (fun _ _ _ => trivial) ?_
      obtain ⟨x39, hx39, H⟩ := Let_elim H
      have hlx39 : x39.length = 1 := by subst hx39; rfl
      have hr_88 : RpL h_84 R60 x39 (([(.bool false : Value)] ++ ([(.slice (some ⟨g_81, 0, none⟩) x37.length 1 : Value)] ++ ([(.int .i64 0 : Value)]))) ++ (([] : List Value))) := by subst hx39; exact ⟨_, _, rfl, ⟨((some ⟨g_81, 0, none⟩)), 1, rfl, hs_86, hc_87⟩, rfl⟩
      refine z_buildR (e := 60) (cs := ([(.bool false : Value)] ++ ([(.slice (some ⟨g_81, 0, none⟩) x37.length 1 : Value)] ++ ([(.int .i64 0 : Value)]))) ++ (([] : List Value))) (xs := x39) (vs := [(0, .agg ([(.bool false : Value)] ++ ([(.slice (some ⟨g_81, 0, none⟩) x37.length 1 : Value)] ++ ([(.int .i64 0 : Value)]))).toArray)]) rfl rfl (by intro w; kernel_rfl) hlx39 hr_88.len (by decide) rfl rfl rfl (fun _ _ _ _ => trivial) (fun g_89 hs_91 => ?_)
      generalize (([(.bool false : Value)] ++ ([(.slice (some ⟨g_81, 0, none⟩) x37.length 1 : Value)] ++ ([(.int .i64 0 : Value)]))) ++ (([] : List Value))) = cs_92 at *
      clear hx39 hlx39
      refine z_val (v := .int .i64 a1) (val_move rfl rfl) rfl rfl rfl (fun _ _ _ => trivial) ?_
      obtain ⟨x41, hx41, H⟩ := Let_elim H
      refine z_val (v := .int .i64 x41) (by subst hx41; exact val_bin rfl rfl rfl rfl (i64_add _ _ _)) rfl rfl rfl (fun _ _ _ => trivial) ?_
      clear hx41
      refine z_val (v := .slice (some ⟨g_89, 0, none⟩) x39.length 1) (val_assign rfl rfl) rfl rfl rfl (fun _ _ _ => trivial) ?_
      refine z_val (v := .int .i64 x41) (val_assign rfl rfl) rfl rfl rfl (fun _ _ _ => trivial) ?_
      refine z_val (v := .int .i64 0) (val_assign rfl rfl) rfl rfl rfl (fun _ _ _ => trivial) ?_
      refine z_nil ?_
      refine t_ret ?_
      obtain rfl := Option.some.inj H
      exact ret3 rfl (res_tmp rfl) (res_tmp rfl) (res_tmp rfl) (fun _ hw => ⟨⟨h_84, (some ⟨g_89, 0, none⟩), 1, cs_92⟩, rfl, ⟨hS_85, hs_91, hr_88⟩, hw.selK 2 [0] rfl rfl⟩)
  ·
    replace H := cond_t H
    refine t_cond_true rfl ?_
    refine t_seq ?_
    refine t_region (fun ops hops => ?_)
    clear hops
    refine z_val (v := .slice (some ⟨g_1, 0, none⟩) x22.length 0) (val_move rfl rfl) rfl rfl rfl (fun _ _ _ => trivial) ?_
    refine z_val (v := .slice (some ⟨g_1, 0, none⟩) x22.length 0) (val_assign rfl rfl) rfl rfl rfl (fun _ _ _ => trivial) ?_
    refine z_val (v := .int .i64 0) (val_assign rfl rfl) rfl rfl rfl (fun _ _ _ => trivial) ?_
    refine z_val (v := .int .i64 3) (val_assign rfl rfl) rfl rfl rfl (fun _ _ _ => trivial) ?_
    refine z_nil ?_
    refine t_ret ?_
    obtain rfl := Option.some.inj H
    exact ret3 rfl (res_tmp rfl) (res_tmp rfl) (res_tmp rfl) (fun _ hw => ⟨⟨h, (some ⟨g_1, 0, none⟩), 0, (([] : List Value))⟩, rfl, ⟨(Sub.refl _), hs_3, hr⟩, hw⟩)
def smithyref07_read : Nat → (List (BitVec 8)) → (Int) → (Int) → (Int) → Option ((List ((Bool) × (List (BitVec 8)) × (Int))) × (Int) × (Int))
  | 0 => fun _ _ _ _ => none
  | k + 1 => smithyref07_readB (smithyref07_read k)
theorem smithyref07_read.calls : ∀ (k : Nat), ∀ (a0 : List (BitVec 8)) (a1 : Int) (a2 : Int) (a3 : Int) (A0 : Option Addr) (c0 : Nat) (r : (List ((Bool) × (List (BitVec 8)) × (Int))) × (Int) × (Int)) (H : smithyref07_read k a0 a1 a2 a3 = some r) {w0 : World} {Ex : List Nat} {h : Frag} {Lr : List Ent} {w : World} (hs0 : SlH h U8 A0 a0) (hc0 : a0.length ≤ c0)  (hM : Mm w0 Ex h (Lr) w), Calls Try.prog 58 #[.slice A0 a0.length c0, .int .i64 a1, .int .i64 a2, .int .i64 a3] w fun e w' => ∃ (g : (Frag) × (Option Addr) × (Nat) × (List Value)), e = .returned (.tuple #[.slice g.2.1 r.1.length g.2.2.1, .int .i64 r.2.1, .int .i64 r.2.2]) ∧ (Sub h g.1 ∧ Shp g.2.1 r.1.length g.2.2.1 ∧ RpL g.1 R60 r.1 g.2.2.2) ∧ Mm w0 Ex g.1 ((.row (.slice g.2.1 r.1.length g.2.2.1) 60 3 g.2.2.2) :: Lr) w'
  | 0 => by intro a0 a1 a2 a3 A0 c0 r H w0 Ex h Lr w hs0 hc0 hM; exact nomatch (show (none : Option ((List ((Bool) × (List (BitVec 8)) × (Int))) × (Int) × (Int))) = some r from H)
  | k + 1 => smithyref07_readB.calls (smithyref07_read k) (smithyref07_read.calls k)
def smithyref07_Decode (a0 : List (BitVec 8)) : Option ((List ((Bool) × (List (BitVec 8)) × (Int))) × (Int)) :=
  Let (([] : List ((Bool) × (List (BitVec 8)) × (Int)))) fun x8 => Let ((a0.length : Int)) fun x10 => Let (decide (1048576 < x10)) fun x11 => (bif x11 then some (x8, 4) else Let ((a0.length : Int)) fun x16 => (smithyref07_read 18446744073709551616 a0 0 x16 0).bind fun x17 => Let (x17.2.2 != 0) fun x22 => (bif x22 then some (x8, x17.2.2) else Let ((a0.length : Int)) fun x27 => Let (decide (x17.2.1 < x27)) fun x28 => (bif x28 then some (x8, 2) else some (x17.1, 0))))
set_option maxRecDepth 100000 in
theorem smithyref07_Decode.calls  (a0 : List (BitVec 8)) (A0 : Option Addr) (c0 : Nat) (r : (List ((Bool) × (List (BitVec 8)) × (Int))) × (Int)) (H : smithyref07_Decode a0 = some r) {w0 : World} {Ex : List Nat} {h : Frag} {Lr : List Ent} {w : World} (hs0 : SlH h U8 A0 a0) (hc0 : a0.length ≤ c0)  (hM : Mm w0 Ex h (Lr) w) :
    Calls Try.prog 28 #[.slice A0 a0.length c0] w fun e w' => ∃ (g : (Frag) × (Option Addr) × (Nat) × (List Value)), e = .returned (.tuple #[.slice g.2.1 r.1.length g.2.2.1, .int .i64 r.2]) ∧ (Sub h g.1 ∧ Shp g.2.1 r.1.length g.2.2.1 ∧ RpL g.1 R60 r.1 g.2.2.2) ∧ Mm w0 Ex g.1 ((.row (.slice g.2.1 r.1.length g.2.2.1) 60 3 g.2.2.2) :: Lr) w' := by
  unfold smithyref07_Decode at H
  refine t_enter (vs := [.slice A0 a0.length c0]) (n := 31) Try.func28 rfl rfl rfl hM ?_
  clear hM
  change T 31 _ _ _
  refine t_seq ?_
  refine t_region (fun ops hops => ?_)
  clear hops
  refine z_val (v := .slice none 0 0) (val_assign rfl rfl) rfl rfl rfl (fun _ _ _ => trivial) ?_
  refine z_val (v := .int .i64 0) (val_assign rfl rfl) rfl rfl rfl (fun _ _ _ => trivial) ?_
  refine z_nil ?_
  refine t_seq ?_
  refine t_region (fun ops hops => ?_)
  clear hops
  obtain ⟨x8, hx8, H⟩ := Let_elim H
  have hlx8 : x8.length = 0 := by subst hx8; rfl
  have hr : RpL h R60 x8 (([] : List Value)) := by subst hx8; exact rfl
  refine z_buildR (e := 60) (cs := ([] : List Value)) (xs := x8) (vs := []) rfl rfl (by intro w; kernel_rfl) hlx8 hr.len (by decide) rfl rfl rfl (fun _ _ _ _ => trivial) (fun g_1 hs_3 => ?_)
  clear hx8 hlx8
  refine z_val (v := .slice (some ⟨g_1, 0, none⟩) x8.length 0) (val_assign rfl rfl) rfl rfl rfl (fun _ _ _ => trivial) ?_
  refine z_nil ?_
  refine t_seq ?_
  refine t_seq ?_
  refine t_region (fun ops hops => ?_)
  clear hops
  refine z_val (v := .slice A0 a0.length c0) (val_move rfl rfl) rfl rfl rfl (fun _ _ _ => trivial) ?_
  obtain ⟨x10, hx10, H⟩ := Let_elim H
  refine z_val (v := .int .i64 x10) (by subst hx10; exact val_len rfl rfl rfl Try.underlying25) rfl rfl rfl (fun _ _ _ => trivial) ?_
  clear hx10
  obtain ⟨x11, hx11, H⟩ := Let_elim H
  refine z_val (v := .bool x11) (by subst hx11; exact val_bin rfl rfl rfl rfl (i64_gtr _ _ _)) rfl rfl rfl (fun _ _ _ => trivial) ?_
  clear hx11
  refine z_nil ?_
  cases x11
  ·
    replace H := cond_f H
    refine t_cond_false rfl ?_
    refine t_skip ?_
    refine t_seq ?_
    refine t_region (fun ops hops => ?_)
    clear hops
    refine z_val (v := .slice A0 a0.length c0) (val_move rfl rfl) rfl rfl rfl (fun _ _ _ => trivial) ?_
    refine z_val (v := .slice A0 a0.length c0) (val_move rfl rfl) rfl rfl rfl (fun _ _ _ => trivial) ?_
    obtain ⟨x16, hx16, H⟩ := Let_elim H
    refine z_val (v := .int .i64 x16) (by subst hx16; exact val_len rfl rfl rfl Try.underlying25) rfl rfl rfl (fun _ _ _ => trivial) ?_
    clear hx16
    obtain ⟨x17, hx, H⟩ := Option.bind_eq_some_iff.1 H
    refine z_callG rfl Try.func58 nm58 bs58 rfl (fun w hw => smithyref07_read.calls 18446744073709551616 a0 0 x16 0 A0 c0 x17 hx hs0 hc0 hw) rfl rfl rfl (fun _ _ _ _ _ => trivial) (fun g hφ => ?_)
    obtain ⟨h_4, A_6, c_7, cs⟩ := g
    try dsimp only at hφ
    obtain ⟨hS, hs_8, hr_9⟩ := hφ
    clear hx
    change T 31 _ _ _
    replace hs0 := hs0.up hS
    replace hr := RpL.up hS hr
    refine z_val (v := .tuple #[.slice A_6 x17.1.length c_7, .int .i64 x17.2.1, .int .i64 x17.2.2]) (val_move rfl rfl) rfl rfl rfl (fun _ _ _ => trivial) ?_
    refine z_val (v := .slice A_6 x17.1.length c_7) (val_extract rfl rfl rfl) rfl rfl rfl (fun _ _ _ => trivial) ?_
    refine z_val (v := .int .i64 x17.2.1) (val_extract rfl rfl rfl) rfl rfl rfl (fun _ _ _ => trivial) ?_
    refine z_val (v := .int .i64 x17.2.2) (val_extract rfl rfl rfl) rfl rfl rfl (fun _ _ _ => trivial) ?_
    refine z_val (v := .slice A_6 x17.1.length c_7) (val_assign rfl rfl) rfl rfl rfl (fun _ _ _ => trivial) ?_
    refine z_val (v := .int .i64 x17.2.1) (val_assign rfl rfl) rfl rfl rfl (fun _ _ _ => trivial) ?_
    refine z_val (v := .int .i64 x17.2.2) (val_assign rfl rfl) rfl rfl rfl (fun _ _ _ => trivial) ?_
    refine z_nil ?_
    refine t_seq ?_
    refine t_seq ?_
    refine t_region (fun ops hops => ?_)
    clear hops
    refine z_val (v := .int .i64 x17.2.2) (val_move rfl rfl) rfl rfl rfl (fun _ _ _ => trivial) ?_
    obtain ⟨x22, hx22, H⟩ := Let_elim H
    refine z_val (v := .bool x22) (by subst hx22; exact val_bin rfl rfl rfl rfl (i64_neq _ _ _)) rfl rfl rfl (fun _ _ _ => trivial) ?_
    clear hx22
    refine z_nil ?_
    cases x22
    ·
      replace H := cond_f H
      refine t_cond_false rfl ?_
      refine t_skip ?_
      refine t_seq ?_
      refine t_seq ?_
      refine t_region (fun ops hops => ?_)
      clear hops
      refine z_val (v := .int .i64 x17.2.1) (val_move rfl rfl) rfl rfl rfl (fun _ _ _ => trivial) ?_
      refine z_val (v := .slice A0 a0.length c0) (val_move rfl rfl) rfl rfl rfl (fun _ _ _ => trivial) ?_
      obtain ⟨x27, hx27, H⟩ := Let_elim H
      refine z_val (v := .int .i64 x27) (by subst hx27; exact val_len rfl rfl rfl Try.underlying25) rfl rfl rfl (fun _ _ _ => trivial) ?_
      clear hx27
      obtain ⟨x28, hx28, H⟩ := Let_elim H
      refine z_val (v := .bool x28) (by subst hx28; exact val_bin rfl rfl rfl rfl (i64_lss _ _ _)) rfl rfl rfl (fun _ _ _ => trivial) ?_
      clear hx28
      refine z_nil ?_
      cases x28
      ·
        replace H := cond_f H
        refine t_cond_false rfl ?_
        refine t_skip ?_
        refine t_seq ?_
        refine t_region (fun ops hops => ?_)
        clear hops
        refine z_val (v := .slice A_6 x17.1.length c_7) (val_move rfl rfl) rfl rfl rfl (fun _ _ _ => trivial) ?_
        refine z_val (v := .slice A_6 x17.1.length c_7) (val_assign rfl rfl) rfl rfl rfl (fun _ _ _ => trivial) ?_
        refine z_val (v := .int .i64 0) (val_assign rfl rfl) rfl rfl rfl (fun _ _ _ => trivial) ?_
        refine z_nil ?_
        refine t_ret ?_
        obtain rfl := Option.some.inj H
        exact ret2 rfl (res_tmp rfl) (res_tmp rfl) (fun _ hw => ⟨⟨h_4, A_6, c_7, cs⟩, rfl, ⟨hS, hs_8, hr_9⟩, hw.selK 2 [0] rfl rfl⟩)
      ·
        replace H := cond_t H
        refine t_cond_true rfl ?_
        refine t_seq ?_
        refine t_region (fun ops hops => ?_)
        clear hops
        refine z_val (v := .slice (some ⟨g_1, 0, none⟩) x8.length 0) (val_move rfl rfl) rfl rfl rfl (fun _ _ _ => trivial) ?_
        refine z_val (v := .slice (some ⟨g_1, 0, none⟩) x8.length 0) (val_assign rfl rfl) rfl rfl rfl (fun _ _ _ => trivial) ?_
        refine z_val (v := .int .i64 2) (val_assign rfl rfl) rfl rfl rfl (fun _ _ _ => trivial) ?_
        refine z_nil ?_
        refine t_ret ?_
        obtain rfl := Option.some.inj H
        exact ret2 rfl (res_tmp rfl) (res_tmp rfl) (fun _ hw => ⟨⟨h_4, (some ⟨g_1, 0, none⟩), 0, (([] : List Value))⟩, rfl, ⟨hS, hs_3, hr⟩, hw.selK 2 [1] rfl rfl⟩)
    ·
      replace H := cond_t H
      refine t_cond_true rfl ?_
      refine t_seq ?_
      refine t_region (fun ops hops => ?_)
      clear hops
      refine z_val (v := .slice (some ⟨g_1, 0, none⟩) x8.length 0) (val_move rfl rfl) rfl rfl rfl (fun _ _ _ => trivial) ?_
      refine z_val (v := .int .i64 x17.2.2) (val_move rfl rfl) rfl rfl rfl (fun _ _ _ => trivial) ?_
      refine z_val (v := .slice (some ⟨g_1, 0, none⟩) x8.length 0) (val_assign rfl rfl) rfl rfl rfl (fun _ _ _ => trivial) ?_
      refine z_val (v := .int .i64 x17.2.2) (val_assign rfl rfl) rfl rfl rfl (fun _ _ _ => trivial) ?_
      refine z_nil ?_
      refine t_ret ?_
      obtain rfl := Option.some.inj H
      exact ret2 rfl (res_tmp rfl) (res_tmp rfl) (fun _ hw => ⟨⟨h_4, (some ⟨g_1, 0, none⟩), 0, (([] : List Value))⟩, rfl, ⟨hS, hs_3, hr⟩, hw.selK 2 [1] rfl rfl⟩)
  ·
    replace H := cond_t H
    refine t_cond_true rfl ?_
    refine t_seq ?_
    refine t_region (fun ops hops => ?_)
    clear hops
    refine z_val (v := .slice (some ⟨g_1, 0, none⟩) x8.length 0) (val_move rfl rfl) rfl rfl rfl (fun _ _ _ => trivial) ?_
    refine z_val (v := .slice (some ⟨g_1, 0, none⟩) x8.length 0) (val_assign rfl rfl) rfl rfl rfl (fun _ _ _ => trivial) ?_
    refine z_val (v := .int .i64 4) (val_assign rfl rfl) rfl rfl rfl (fun _ _ _ => trivial) ?_
    refine z_nil ?_
    refine t_ret ?_
    obtain rfl := Option.some.inj H
    exact ret2 rfl (res_tmp rfl) (res_tmp rfl) (fun _ hw => ⟨⟨h, (some ⟨g_1, 0, none⟩), 0, (([] : List Value))⟩, rfl, ⟨(Sub.refl _), hs_3, hr⟩, hw⟩)
end Go.Proofs.Ytapfkdcilfpbhaa
