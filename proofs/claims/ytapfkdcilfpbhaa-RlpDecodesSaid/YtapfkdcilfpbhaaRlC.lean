/- Functions of the program as plain functions, and their walks, printed by walk.py. -/
import Derived.Test.YtapfkdcilfpbhaaRlF
import Derived.Test.YtapfkdcilfpbhaaRlA
namespace Go.Proofs.Ytapfkdcilfpbhaa
open Go.RowKit
set_option linter.unusedVariables false
set_option linter.unusedSimpArgs false
def rlp_reader_size.b1 (x53 : Int) (x52 : List (BitVec 8)) (x18 : Bool) (x27 : List (BitVec 8)) (a0 : (List (BitVec 8)) × (List ((Bool) × (List (BitVec 8)) × (Int)))) (x8 : Int) (x54 : Int) : Option (Ctl ((Int) × (Int)) ((Bool) × (Int) × (Int) × ((List (BitVec 8)) × (List ((Bool) × (List (BitVec 8)) × (Int)))))) :=
  Let (decide (x54 < x53)) fun x55 => (bif x55 then Chk ((0 : Int) ≤ x54 ∧ x54 < (x52.length : Int)) <| Let (lget x52 x54.toNat) fun x58 => Let (x54 == 0) fun x60 => (bif x60 then Let ((x58.toNat : Int) == 0) fun x63 => some x63 else some false).bind (fun x64 => (bif x64 then some (.ret (x18, 0, 2, (x27, a0.2))) else Let (wi (256 * x8)) fun x67 => Let ((x58.toNat : Int)) fun x69 => Let (wi (x67 + x69)) fun x70 => Let (if 1099511627776 < x70 then 1099511627776 else x70) fun x71 => Let (wi (x54 + 1)) fun x72 => some (.next (x71, x72)))) else some (.brk (x8, x54)))
def rlp_reader_size (a0 : (List (BitVec 8)) × (List ((Bool) × (List (BitVec 8)) × (Int)))) : Option ((Bool) × (Int) × (Int) × ((List (BitVec 8)) × (List ((Bool) × (List (BitVec 8)) × (Int))))) :=
  Chk ((0 : Int) ≤ 0 ∧ 0 < (a0.1.length : Int)) <| Let (lget a0.1 0) fun x16 => Let (decide ((x16.toNat : Int) ≥ 192)) fun x18 => (bif x18 then Let (x16 - 64#8) fun x21 => some x21 else some x16).bind (fun (x5 : BitVec 8) => Chk ((0 : Int) ≤ 1 ∧ 1 ≤ (a0.1.length : Int)) <| Let ((a0.1.take a0.1.length).drop ((1 : Int).toNat)) fun x27 => Let (decide ((x5.toNat : Int) ≤ 183)) fun x31 => (bif x31 then Let ((x5.toNat : Int)) fun x34 => Let (wi (x34 - 128)) fun x35 => some (x18, x35, 0, (x27, a0.2)) else Let ((x5.toNat : Int)) fun x37 => Let (wi (x37 - 183)) fun x38 => Let ((x27.length : Int)) fun x44 => Let (decide (x44 < x38)) fun x45 => (bif x45 then some (x18, 0, 3, (x27, a0.2)) else Chk ((0 : Int) ≤ 0 ∧ 0 ≤ x38 ∧ x38 ≤ (x27.length : Int)) <| Let ((x27.take x38.toNat).drop 0) fun x52 => Let ((x52.length : Int)) fun x53 => (wlx (σ := (Int) × (Int)) (fun s => rlp_reader_size.b1 x53 x52 x18 x27 a0 s.1 s.2) (0, 0)).bind (Sum.elim (fun s => (fun x8 x54 => Chk ((0 : Int) ≤ x38 ∧ x38 ≤ (x27.length : Int)) <| Let ((x27.take x27.length).drop x38.toNat) fun x79 => Let (decide (x8 ≤ 55)) fun x83 => (bif x83 then some (x18, 0, 2, (x79, a0.2)) else some (x18, x8, 0, (x79, a0.2)))) s.1 s.2) (fun r => some r)))))
set_option maxRecDepth 100000 in
theorem rlp_reader_size.calls  (a0 : (List (BitVec 8)) × (List ((Bool) × (List (BitVec 8)) × (Int)))) (g0 : Nat) (A0 : Option Addr) (c0 : Nat) (A0_1 : Option Addr) (c0_2 : Nat) (cs : List Value) (r : (Bool) × (Int) × (Int) × ((List (BitVec 8)) × (List ((Bool) × (List (BitVec 8)) × (Int))))) (H : rlp_reader_size a0 = some r) {w0 : World} {Ex : List Nat} {h : Frag} {Lr : List Ent} {w : World} (hs0 : SlH h U8 A0 a0.1) (hc0 : a0.1.length ≤ c0) (hs0_3 : Shp A0_1 a0.2.length c0_2) (hr : RpL h R60 a0.2 cs)  (hM : Mm w0 Ex h ((.blk g0 105 ([(.slice A0 a0.1.length c0 : Value)] ++ ([(.slice A0_1 a0.2.length c0_2 : Value)])) 2) :: (.row (.slice A0_1 a0.2.length c0_2) 60 3 cs) :: Lr) w) :
    Calls Try.prog 78 #[.pointer (some ⟨g0, 0, none⟩)] w fun e w' => ∃ (g : (Frag) × (Option Addr) × (Nat) × (Option Addr) × (Nat) × (List Value)), e = .returned (.tuple #[.bool r.1, .int .i64 r.2.1, .int .i64 r.2.2.1]) ∧ (Sub h g.1 ∧ SlH g.1 U8 g.2.1 r.2.2.2.1 ∧ r.2.2.2.1.length ≤ g.2.2.1 ∧ Shp g.2.2.2.1 r.2.2.2.2.length g.2.2.2.2.1 ∧ RpL g.1 R60 r.2.2.2.2 g.2.2.2.2.2) ∧ Mm w0 Ex g.1 ((.blk g0 105 ([(.slice g.2.1 r.2.2.2.1.length g.2.2.1 : Value)] ++ ([(.slice g.2.2.2.1 r.2.2.2.2.length g.2.2.2.2.1 : Value)])) 2) :: (.row (.slice g.2.2.2.1 r.2.2.2.2.length g.2.2.2.2.1) 60 3 g.2.2.2.2.2) :: Lr) w' := by
  unfold rlp_reader_size at H
  refine t_enter (vs := [.pointer (some ⟨g0, 0, none⟩)]) (n := 87) Try.func78 rfl rfl rfl hM ?_
  clear hM
  change T 87 _ _ _
  refine t_seq ?_
  refine t_region (fun ops hops => ?_)
  clear hops
  refine z_val (v := .bool false) (val_assign rfl rfl) rfl rfl rfl (fun _ _ _ => trivial) ?_
  refine z_val (v := .int .i64 0) (val_assign rfl rfl) rfl rfl rfl (fun _ _ _ => trivial) ?_
  refine z_val (v := .int .i64 0) (val_assign rfl rfl) rfl rfl rfl (fun _ _ _ => trivial) ?_
  refine z_nil ?_
  refine t_seq ?_
  refine t_region (fun ops hops => ?_)
  clear hops
  refine z_val (v := .pointer (some ⟨g0, 0, none⟩)) (val_move rfl rfl) rfl rfl rfl (fun _ _ _ => trivial) ?_
  refine z_val (v := .pointer (some ⟨g0, 0, none⟩)) (val_nilCheck rfl rfl) rfl rfl rfl (fun _ _ _ => trivial) ?_
  refine z_val (v := .pointer (some ⟨g0, 0, none⟩)) (val_fld0 (sz := 1) rfl rfl Try.underlying105 rfl rfl sz25 (by decide)) rfl rfl rfl (fun _ _ _ => trivial) ?_
  refine z_val (v := .slice A0 a0.1.length c0) (val_load1 rfl rfl Try.underlying25 rfl (fun _ hw => hw.cell (j := 0) (q := 0) rfl (cells_here (k := 0) rfl))) rfl rfl rfl (fun _ _ _ => trivial) ?_
  obtain ⟨hq_6, H⟩ := Chk_elim H
  obtain ⟨b_7, o_8, hA_9, hc_10⟩ := hs0.at_ (idx_lt hq_6)
  refine z_val (v := .pointer (some ⟨b_7, o_8 + 0, none⟩)) (val_idxS0 rfl rfl rfl Try.underlying25 sz5 hq_6 hA_9 rfl) rfl rfl rfl (fun _ _ _ => trivial) ?_
  obtain ⟨x16, hx16, H⟩ := Let_elim H
  refine z_val (v := U8 x16) (by subst hx16; exact val_load1 rfl rfl Try.underlying5 rfl (fun _ hw => hc_10.cell hw)) rfl rfl rfl (fun _ _ _ => trivial) ?_
  clear hx16
  refine z_val (v := U8 x16) (val_assign rfl rfl) rfl rfl rfl (fun _ _ _ => trivial) ?_
  refine z_nil ?_
  refine t_seq ?_
  refine t_region (fun ops hops => ?_)
  clear hops
  refine z_val (v := U8 x16) (val_move rfl rfl) rfl rfl rfl (fun _ _ _ => trivial) ?_
  obtain ⟨x18, hx18, H⟩ := Let_elim H
  refine z_val (v := .bool x18) (by subst hx18; exact val_bin rfl rfl rfl rfl (u8_geq_r _ 192 x16)) rfl rfl rfl (fun _ _ _ => trivial) ?_
  clear hx18
  refine z_val (v := .bool x18) (val_assign rfl rfl) rfl rfl rfl (fun _ _ _ => trivial) ?_
  refine z_nil ?_
  refine t_seq ?_
  refine t_seq ?_
  refine t_region (fun ops hops => ?_)
  clear hops
  refine z_val (v := .bool x18) (val_move rfl rfl) rfl rfl rfl (fun _ _ _ => trivial) ?_
  refine z_nil ?_
  refine t_bind H (fun (s : (BitVec 8)) (g : Unit) => [(0, .pointer (some ⟨g0, 0, none⟩)), (5, U8 s), (6, .bool x18)]) (fun (s : (BitVec 8)) (g : Unit) => Mm w0 Ex h ((.blk g0 105 ([(.slice A0 a0.1.length c0 : Value)] ++ ([(.slice A0_1 a0.2.length c0_2 : Value)])) 2) :: (.row (.slice A0_1 a0.2.length c0_2) 60 3 cs) :: Lr)) (fun (s : (BitVec 8)) (g : Unit) => True) (fun Gr K s he HJ => ?_) (fun s g HB hφ => ?_)
  ·
    clear H
    cases x18
    ·
      have H := cond_f he
      clear he
      refine t_cond_false rfl ?_
      refine t_skip ?_
      obtain rfl := Option.some.inj H
      exact t_reach ((K _ () HJ trivial).weak (fun a ha => ha.cons rfl (ha.cons rfl (ha.cons rfl (ha.nil)))) (fun w hw => hw))
    ·
      have H := cond_t he
      clear he
      refine t_cond_true rfl ?_
      refine t_region (fun ops hops => ?_)
      clear hops
      refine z_val (v := U8 x16) (val_move rfl rfl) rfl rfl rfl (fun _ _ _ => trivial) ?_
      obtain ⟨x21, hx21, H⟩ := Let_elim H
      refine z_val (v := U8 x21) (by subst hx21; exact val_bin rfl rfl rfl rfl (u8_sub_r _ _ _)) rfl rfl rfl (fun _ _ _ => trivial) ?_
      clear hx21
      refine z_val (v := U8 x21) (val_assign rfl rfl) rfl rfl rfl (fun _ _ _ => trivial) ?_
      refine z_nil ?_
      obtain rfl := Option.some.inj H
      exact t_reach ((K _ () HJ trivial).weak (fun a ha => ha.cons rfl (ha.cons rfl (ha.cons rfl (ha.nil)))) (fun w hw => hw))
  ·
    replace H := HB
    clear HB
    obtain ⟨x5, rfl⟩ : ∃ x, x = s := ⟨_, rfl⟩
    try dsimp only at H
    change T 87 _ _ _
    refine t_seq ?_
    refine t_region (fun ops hops => ?_)
    clear hops
    refine z_val (v := .pointer (some ⟨g0, 0, none⟩)) (val_move rfl rfl) rfl rfl rfl (fun _ _ _ => trivial) ?_
    refine z_val (v := .pointer (some ⟨g0, 0, none⟩)) (val_move rfl rfl) rfl rfl rfl (fun _ _ _ => trivial) ?_
    refine z_val (v := .pointer (some ⟨g0, 0, none⟩)) (val_nilCheck rfl rfl) rfl rfl rfl (fun _ _ _ => trivial) ?_
    refine z_val (v := .pointer (some ⟨g0, 0, none⟩)) (val_fld0 (sz := 1) rfl rfl Try.underlying105 rfl rfl sz25 (by decide)) rfl rfl rfl (fun _ _ _ => trivial) ?_
    refine z_val (v := .slice A0 a0.1.length c0) (val_load1 rfl rfl Try.underlying25 rfl (fun _ hw => hw.cell (j := 0) (q := 0) rfl (cells_here (k := 0) rfl))) rfl rfl rfl (fun _ _ _ => trivial) ?_
    obtain ⟨hq_11, H⟩ := Chk_elim H
    obtain ⟨x27, hx27, H⟩ := Let_elim H
    obtain ⟨A_12, hA_16⟩ : ∃ z, z = (if c0 = (1 : Int).toNat then A0 else A0.map (·.add ((1 : Int).toNat * 1))) := ⟨_, rfl⟩
    obtain ⟨c_13, hc_150⟩ : ∃ z, z = c0 - (1 : Int).toNat := ⟨_, rfl⟩
    have hl : x27.length = a0.1.length - (1 : Int).toNat := by subst hx27; exact cut_len (by omega) (by omega)
    have hs_14 : SlH h U8 A_12 x27 := by subst hA_16 hx27; exact hs0.cut (by omega) hc0
    have hc_15 : x27.length ≤ c_13 := by have := hc0; omega
    refine z_val (v := .slice A_12 x27.length c_13) (val_sliceLz rfl rfl rfl Try.underlying25 sz5 hq_11.1 hq_11.2 (by rw [hl, hA_16, hc_150])) rfl rfl rfl (fun _ _ _ => trivial) ?_
    clear hl hA_16 hc_150 hx27
    refine z_val (v := .pointer (some ⟨g0, 0, none⟩)) (val_nilCheck rfl rfl) rfl rfl rfl (fun _ _ _ => trivial) ?_
    refine z_val (v := .pointer (some ⟨g0, 0, none⟩)) (val_fld0 (sz := 1) rfl rfl Try.underlying105 rfl rfl sz25 (by decide)) rfl rfl rfl (fun _ _ _ => trivial) ?_
    refine z_store1 (j := 0) (cs' := [(.slice A_12 x27.length c_13 : Value)] ++ ([(.slice A0_1 a0.2.length c0_2 : Value)])) (L' := (.blk g0 105 ([(.slice A_12 x27.length c_13 : Value)] ++ ([(.slice A0_1 a0.2.length c0_2 : Value)])) 2) :: (.row (.slice A0_1 a0.2.length c0_2) 60 3 cs) :: Lr) rfl rfl rfl rfl rfl sz25 rfl (by simp [cV_len]) rfl rfl rfl rfl (fun _ _ _ => trivial) ?_
    refine z_nil ?_
    refine t_seq ?_
    refine t_seq ?_
    refine t_region (fun ops hops => ?_)
    clear hops
    refine z_val (v := U8 x5) (val_move rfl rfl) rfl rfl rfl (fun _ _ _ => trivial) ?_
    obtain ⟨x31, hx31, H⟩ := Let_elim H
    refine z_val (v := .bool x31) (by subst hx31; exact val_bin rfl rfl rfl rfl (u8_leq_r _ 183 x5)) rfl rfl rfl (fun _ _ _ => trivial) ?_
    clear hx31
    refine z_nil ?_
    cases x31
    ·
      replace H := cond_f H
      refine t_cond_false rfl ?_
      refine t_skip ?_
      refine t_seq ?_
      refine t_region (fun ops hops => ?_)
      clear hops
      refine z_val (v := U8 x5) (val_move rfl rfl) rfl rfl rfl (fun _ _ _ => trivial) ?_
      obtain ⟨x37, hx37, H⟩ := Let_elim H
      refine z_val (v := .int .i64 x37) (by subst hx37; exact val_conv rfl rfl (fun w => conv_u8_int w _ _ _ (by rw [Try.underlying5]; rfl) Try.underlying3)) rfl rfl rfl (fun _ _ _ => trivial) ?_
      clear hx37
      obtain ⟨x38, hx38, H⟩ := Let_elim H
      refine z_val (v := .int .i64 x38) (by subst hx38; exact val_bin rfl rfl rfl rfl (i64_sub _ _ _)) rfl rfl rfl (fun _ _ _ => trivial) ?_
      clear hx38
      refine z_val (v := .int .i64 x38) (val_assign rfl rfl) rfl rfl rfl (fun _ _ _ => trivial) ?_
      refine z_nil ?_
      refine t_seq ?_
      refine t_seq ?_
      refine t_region (fun ops hops => ?_)
      clear hops
      refine z_val (v := .int .i64 x38) (val_move rfl rfl) rfl rfl rfl (fun _ _ _ => trivial) ?_
      refine z_val (v := .pointer (some ⟨g0, 0, none⟩)) (val_move rfl rfl) rfl rfl rfl (fun _ _ _ => trivial) ?_
      refine z_val (v := .pointer (some ⟨g0, 0, none⟩)) (val_nilCheck rfl rfl) rfl rfl rfl (fun _ _ _ => trivial) ?_
      refine z_val (v := .pointer (some ⟨g0, 0, none⟩)) (val_fld0 (sz := 1) rfl rfl Try.underlying105 rfl rfl sz25 (by decide)) rfl rfl rfl (fun _ _ _ => trivial) ?_
      refine z_val (v := .slice A_12 x27.length c_13) (val_load1 rfl rfl Try.underlying25 rfl (fun _ hw => hw.cell (j := 0) (q := 0) rfl (cells_here (k := 0) rfl))) rfl rfl rfl (fun _ _ _ => trivial) ?_
      obtain ⟨x44, hx44, H⟩ := Let_elim H
      refine z_val (v := .int .i64 x44) (by subst hx44; exact val_len rfl rfl rfl Try.underlying25) rfl rfl rfl (fun _ _ _ => trivial) ?_
      clear hx44
      obtain ⟨x45, hx45, H⟩ := Let_elim H
      refine z_val (v := .bool x45) (by subst hx45; exact val_bin rfl rfl rfl rfl (i64_gtr _ _ _)) rfl rfl rfl (fun _ _ _ => trivial) ?_
      clear hx45
      refine z_nil ?_
      cases x45
      ·
        replace H := cond_f H
        refine t_cond_false rfl ?_
        refine t_skip ?_
        refine t_seq ?_
        refine t_region (fun ops hops => ?_)
        clear hops
        refine z_val (v := .int .i64 0) (val_assign rfl rfl) rfl rfl rfl (fun _ _ _ => trivial) ?_
        refine z_nil ?_
        refine t_seq ?_
        refine t_seq ?_
        refine t_region (fun ops hops => ?_)
        clear hops
        refine z_val (v := .pointer (some ⟨g0, 0, none⟩)) (val_move rfl rfl) rfl rfl rfl (fun _ _ _ => trivial) ?_
        refine z_val (v := .pointer (some ⟨g0, 0, none⟩)) (val_nilCheck rfl rfl) rfl rfl rfl (fun _ _ _ => trivial) ?_
        refine z_val (v := .pointer (some ⟨g0, 0, none⟩)) (val_fld0 (sz := 1) rfl rfl Try.underlying105 rfl rfl sz25 (by decide)) rfl rfl rfl (fun _ _ _ => trivial) ?_
        refine z_val (v := .slice A_12 x27.length c_13) (val_load1 rfl rfl Try.underlying25 rfl (fun _ hw => hw.cell (j := 0) (q := 0) rfl (cells_here (k := 0) rfl))) rfl rfl rfl (fun _ _ _ => trivial) ?_
        refine z_val (v := .int .i64 x38) (val_move rfl rfl) rfl rfl rfl (fun _ _ _ => trivial) ?_
        obtain ⟨hq_17, H⟩ := Chk_elim H
        obtain ⟨x52, hx52, H⟩ := Let_elim H
        obtain ⟨A_18, hA_22⟩ : ∃ z, z = (if c_13 = 0 then A_12 else A_12.map (·.add (0 * 1))) := ⟨_, rfl⟩
        obtain ⟨c_19, hc_210⟩ : ∃ z, z = c_13 - 0 := ⟨_, rfl⟩
        have hl_23 : x52.length = x38.toNat - 0 := by subst hx52; exact cut_len (by omega) (by omega)
        have hs_20 : SlH h U8 A_18 x52 := by subst hA_22 hx52; exact hs_14.cut (by omega) hc_15
        have hc_21 : x52.length ≤ c_19 := by have := hc_15; omega
        refine z_val (v := .slice A_18 x52.length c_19) (val_sliceHz rfl rfl rfl Try.underlying25 sz5 (by omega) (by have := hc_15; omega) (by rw [hl_23, hA_22, hc_210])) rfl rfl rfl (fun _ _ _ => trivial) ?_
        clear hl_23 hA_22 hc_210 hx52
        obtain ⟨x53, hx53, H⟩ := Let_elim H
        refine z_val (v := .int .i64 x53) (by subst hx53; exact val_len rfl rfl rfl Try.underlying25) rfl rfl rfl (fun _ _ _ => trivial) ?_
        clear hx53
        refine z_val (v := .int .i64 0) (val_move rfl rfl) rfl rfl rfl (fun _ _ _ => trivial) ?_
        refine z_nil ?_
        refine t_block ?_
        obtain ⟨z1, hz1, HK1⟩ := Option.bind_eq_some_iff.1 H
        clear H
        refine t_while hz1 (fun (s : (Int) × (Int)) (g : Unit) => [(0, .pointer (some ⟨g0, 0, none⟩)), (6, .bool x18), (7, .int .i64 x38), (8, .int .i64 s.1), (52, .slice A_18 x52.length c_19), (53, .int .i64 x53), (54, .int .i64 s.2)]) (fun (s : (Int) × (Int)) (g : Unit) => [(0, .pointer (some ⟨g0, 0, none⟩)), (6, .bool x18), (7, .int .i64 x38), (8, .int .i64 s.1)]) (fun (s : (Int) × (Int)) (g : Unit) => Mm w0 Ex h ((.blk g0 105 ([(.slice A_12 x27.length c_13 : Value)] ++ ([(.slice A0_1 a0.2.length c0_2 : Value)])) 2) :: (.row (.slice A0_1 a0.2.length c0_2) 60 3 cs) :: Lr)) (fun (s : (Int) × (Int)) (g : Unit) => Mm w0 Ex h ((.blk g0 105 ([(.slice A_12 x27.length c_13 : Value)] ++ ([(.slice A0_1 a0.2.length c0_2 : Value)])) 2) :: (.row (.slice A0_1 a0.2.length c0_2) 60 3 cs) :: Lr)) (fun (s : (Int) × (Int)) (g : Unit) => True) (fun (s : (Int) × (Int)) (g : Unit) => True) () trivial (fun a w ha hw => ⟨ha.cons rfl (ha.cons rfl (ha.cons rfl (ha.cons rfl (ha.cons rfl (ha.cons rfl (ha.cons rfl (ha.nil))))))), hw⟩) (fun Gn Gb s g e hφ H hn1 hb1 hr1 => ?_) (fun s g hzz hφ => ?_)
        ·
          obtain ⟨x8, x54⟩ := s
          change rlp_reader_size.b1 x53 x52 x18 x27 a0 x8 x54 = some e at H
          unfold rlp_reader_size.b1 at H
          clear hz1
          change T 87 _ _ _
          refine t_seq ?_
          refine t_region (fun ops hops => ?_)
          clear hops
          obtain ⟨x55, hx55, H⟩ := Let_elim H
          refine z_val (v := .bool x55) (by subst hx55; exact val_bin rfl rfl rfl rfl (i64_lss _ _ _)) rfl rfl rfl (fun _ _ _ => trivial) ?_
          clear hx55
          refine z_nil ?_
          refine t_seq ?_
          cases x55
          ·
            replace H := cond_f H
            refine t_cond_false rfl ?_
            refine t_exit rfl ?_
            obtain rfl := Option.some.inj H
            exact t_reach ((hb1 _ () rfl trivial).weak (fun a ha => ha.cons rfl (ha.cons rfl (ha.cons rfl (ha.cons rfl (ha.nil))))) (fun w hw => hw))
          ·
            replace H := cond_t H
            refine t_cond_true rfl ?_
            refine t_skip ?_
            refine t_seq ?_
            refine t_block ?_
            refine t_seq ?_
            refine t_region (fun ops hops => ?_)
            clear hops
            refine z_val (v := .int .i64 x54) (val_move rfl rfl) rfl rfl rfl (fun _ _ _ => trivial) ?_
            obtain ⟨hq_24, H⟩ := Chk_elim H
            obtain ⟨b_25, o_26, hA_27, hc_28⟩ := hs_20.at_ (idx_lt hq_24)
            refine z_val (v := .pointer (some ⟨b_25, o_26 + x54.toNat, none⟩)) (val_idxS0 rfl rfl rfl Try.underlying25 sz5 hq_24 hA_27 rfl) rfl rfl rfl (fun _ _ _ => trivial) ?_
            obtain ⟨x58, hx58, H⟩ := Let_elim H
            refine z_val (v := U8 x58) (by subst hx58; exact val_load1 rfl rfl Try.underlying5 rfl (fun _ hw => hc_28.cell hw)) rfl rfl rfl (fun _ _ _ => trivial) ?_
            clear hx58
            refine z_val (v := .int .i64 x54) (val_assign rfl rfl) rfl rfl rfl (fun _ _ _ => trivial) ?_
            refine z_val (v := U8 x58) (val_assign rfl rfl) rfl rfl rfl (fun _ _ _ => trivial) ?_
            refine z_nil ?_
            refine t_seq ?_
            refine t_seq ?_
            refine t_region (fun ops hops => ?_)
            refine z_val (v := .int .i64 x54) (val_move rfl rfl) rfl rfl rfl (fun _ _ _ => trivial) ?_
            obtain ⟨x60, hx60, H⟩ := Let_elim H
            refine z_val (v := .bool x60) (by subst hx60; exact val_bin rfl rfl rfl rfl (i64_eql _ _ _)) rfl rfl rfl (fun _ _ _ => trivial) ?_
            clear hx60
            refine z_val (v := .bool x60) (val_move rfl rfl) rfl rfl rfl (fun _ _ _ => trivial) ?_
            refine z_bind H 3 (fun (s : Bool) (_ : Unit) => [(0, .pointer (some ⟨g0, 0, none⟩)), (6, .bool x18), (7, .int .i64 x38), (8, .int .i64 x8), (10, U8 x58), (52, .slice A_18 x52.length c_19), (53, .int .i64 x53), (54, .int .i64 x54), (64, .bool s)]) (fun _ _ => Mm w0 Ex h ((.blk g0 105 ([(.slice A_12 x27.length c_13 : Value)] ++ ([(.slice A0_1 a0.2.length c0_2 : Value)])) 2) :: (.row (.slice A0_1 a0.2.length c0_2) 60 3 cs) :: Lr)) (fun _ _ => True) (fun Gr K s he HJ => ?_) (fun s g HB _ => ?_)
            ·
              clear H
              cases x60
              ·
                have H := cond_f he
                clear he
                refine z_skip rfl rfl (by rw [hops]; rfl) (fun _ _ _ => trivial) ?_
                refine z_skip rfl rfl (by rw [hops]; rfl) (fun _ _ _ => trivial) ?_
                refine z_val (v := .bool false) (val_pick rfl rfl rfl) rfl rfl rfl (fun _ _ _ => trivial) ?_
                obtain rfl := Option.some.inj H
                exact z_nil ((K _ () HJ trivial).weak (fun a ha => ha.cons rfl (ha.cons rfl (ha.cons rfl (ha.cons rfl (ha.cons rfl (ha.cons rfl (ha.cons rfl (ha.cons rfl (ha.cons rfl (ha.nil)))))))))) (fun w hw => hw))
              ·
                have H := cond_t he
                clear he
                refine z_val (v := U8 x58) (val_move rfl rfl) rfl rfl (by rw [hops]; rfl) (fun _ _ _ => trivial) ?_
                obtain ⟨x63, hx63, H⟩ := Let_elim H
                refine z_val (v := .bool x63) (by subst hx63; exact val_bin rfl rfl rfl rfl (u8_eql_r _ 0 x58)) rfl rfl (by rw [hops]; rfl) (fun _ _ _ => trivial) ?_
                clear hx63
                refine z_val (v := .bool x63) (val_pick rfl rfl rfl) rfl rfl rfl (fun _ _ _ => trivial) ?_
                obtain rfl := Option.some.inj H
                exact z_nil ((K _ () HJ trivial).weak (fun a ha => ha.cons rfl (ha.cons rfl (ha.cons rfl (ha.cons rfl (ha.cons rfl (ha.cons rfl (ha.cons rfl (ha.cons rfl (ha.cons rfl (ha.nil)))))))))) (fun w hw => hw))
            ·
              replace H := HB
              clear HB
              obtain ⟨x64, rfl⟩ : ∃ x, x = s := ⟨_, rfl⟩
              change T 87 _ _ _
              refine z_nil ?_
              cases x64
              ·
                replace H := cond_f H
                refine t_cond_false rfl ?_
                refine t_skip ?_
                refine t_region (fun ops hops => ?_)
                clear hops
                refine z_val (v := .int .i64 x8) (val_move rfl rfl) rfl rfl rfl (fun _ _ _ => trivial) ?_
                obtain ⟨x67, hx67, H⟩ := Let_elim H
                refine z_val (v := .int .i64 x67) (by subst hx67; exact val_bin rfl rfl rfl rfl (i64_mul _ _ _)) rfl rfl rfl (fun _ _ _ => trivial) ?_
                clear hx67
                refine z_val (v := U8 x58) (val_move rfl rfl) rfl rfl rfl (fun _ _ _ => trivial) ?_
                obtain ⟨x69, hx69, H⟩ := Let_elim H
                refine z_val (v := .int .i64 x69) (by subst hx69; exact val_conv rfl rfl (fun w => conv_u8_int w _ _ _ (by rw [Try.underlying5]; rfl) Try.underlying3)) rfl rfl rfl (fun _ _ _ => trivial) ?_
                clear hx69
                obtain ⟨x70, hx70, H⟩ := Let_elim H
                refine z_val (v := .int .i64 x70) (by subst hx70; exact val_bin rfl rfl rfl rfl (i64_add _ _ _)) rfl rfl rfl (fun _ _ _ => trivial) ?_
                clear hx70
                obtain ⟨x71, hx71, H⟩ := Let_elim H
                refine z_val (v := .int .i64 x71) (by subst hx71; exact val_min rfl rfl rfl) rfl rfl rfl (fun _ _ _ => trivial) ?_
                clear hx71
                refine z_val (v := .int .i64 x71) (val_assign rfl rfl) rfl rfl rfl (fun _ _ _ => trivial) ?_
                refine z_nil ?_
                refine t_fin ?_
                refine t_region (fun ops hops => ?_)
                clear hops
                obtain ⟨x72, hx72, H⟩ := Let_elim H
                refine z_val (v := .int .i64 x72) (by subst hx72; exact val_bin rfl rfl rfl rfl (i64_add _ _ _)) rfl rfl rfl (fun _ _ _ => trivial) ?_
                clear hx72
                refine z_val (v := .int .i64 x72) (val_move rfl rfl) rfl rfl rfl (fun _ _ _ => trivial) ?_
                refine z_nil ?_
                obtain rfl := Option.some.inj H
                exact t_reach ((hn1 _ () rfl trivial).weak (fun a ha => ha.cons rfl (ha.cons rfl (ha.cons rfl (ha.cons rfl (ha.cons rfl (ha.cons rfl (ha.cons rfl (ha.nil)))))))) (fun w hw => hw))
              ·
                replace H := cond_t H
                refine t_cond_true rfl ?_
                refine t_seq ?_
                refine t_region (fun ops hops => ?_)
                clear hops
                refine z_val (v := .bool x18) (val_move rfl rfl) rfl rfl rfl (fun _ _ _ => trivial) ?_
                refine z_val (v := .bool x18) (val_assign rfl rfl) rfl rfl rfl (fun _ _ _ => trivial) ?_
                refine z_val (v := .int .i64 0) (val_assign rfl rfl) rfl rfl rfl (fun _ _ _ => trivial) ?_
                refine z_val (v := .int .i64 2) (val_assign rfl rfl) rfl rfl rfl (fun _ _ _ => trivial) ?_
                refine z_nil ?_
                refine t_ret ?_
                obtain rfl := Option.some.inj H
                have hz := hr1 _ rfl
                subst hz
                obtain rfl := Option.some.inj HK1
                exact ret3 rfl (res_tmp rfl) (res_tmp rfl) (res_tmp rfl) (fun _ hw => ⟨⟨h, A_12, c_13, A0_1, c0_2, cs⟩, rfl, ⟨(Sub.refl _), hs_14, hc_15, hs0_3, hr⟩, hw⟩)
        ·
          obtain ⟨x8, x54⟩ := s
          subst hzz
          have H := HK1
          clear HK1 hz1
          replace H := sum_l H
          try dsimp only at H
          change T 87 _ _ _
          refine t_seq ?_
          refine t_region (fun ops hops => ?_)
          clear hops
          refine z_val (v := .pointer (some ⟨g0, 0, none⟩)) (val_move rfl rfl) rfl rfl rfl (fun _ _ _ => trivial) ?_
          refine z_val (v := .pointer (some ⟨g0, 0, none⟩)) (val_move rfl rfl) rfl rfl rfl (fun _ _ _ => trivial) ?_
          refine z_val (v := .pointer (some ⟨g0, 0, none⟩)) (val_nilCheck rfl rfl) rfl rfl rfl (fun _ _ _ => trivial) ?_
          refine z_val (v := .pointer (some ⟨g0, 0, none⟩)) (val_fld0 (sz := 1) rfl rfl Try.underlying105 rfl rfl sz25 (by decide)) rfl rfl rfl (fun _ _ _ => trivial) ?_
          refine z_val (v := .slice A_12 x27.length c_13) (val_load1 rfl rfl Try.underlying25 rfl (fun _ hw => hw.cell (j := 0) (q := 0) rfl (cells_here (k := 0) rfl))) rfl rfl rfl (fun _ _ _ => trivial) ?_
          refine z_val (v := .int .i64 x38) (val_move rfl rfl) rfl rfl rfl (fun _ _ _ => trivial) ?_
          obtain ⟨hq_29, H⟩ := Chk_elim H
          obtain ⟨x79, hx79, H⟩ := Let_elim H
          obtain ⟨A_30, hA_34⟩ : ∃ z, z = (if c_13 = x38.toNat then A_12 else A_12.map (·.add (x38.toNat * 1))) := ⟨_, rfl⟩
          obtain ⟨c_31, hc_330⟩ : ∃ z, z = c_13 - x38.toNat := ⟨_, rfl⟩
          have hl_35 : x79.length = x27.length - x38.toNat := by subst hx79; exact cut_len (by omega) (by omega)
          have hs_32 : SlH h U8 A_30 x79 := by subst hA_34 hx79; exact hs_14.cut (by omega) hc_15
          have hc_33 : x79.length ≤ c_31 := by have := hc_15; omega
          refine z_val (v := .slice A_30 x79.length c_31) (val_sliceLz rfl rfl rfl Try.underlying25 sz5 hq_29.1 hq_29.2 (by rw [hl_35, hA_34, hc_330])) rfl rfl rfl (fun _ _ _ => trivial) ?_
          clear hl_35 hA_34 hc_330 hx79
          refine z_val (v := .pointer (some ⟨g0, 0, none⟩)) (val_nilCheck rfl rfl) rfl rfl rfl (fun _ _ _ => trivial) ?_
          refine z_val (v := .pointer (some ⟨g0, 0, none⟩)) (val_fld0 (sz := 1) rfl rfl Try.underlying105 rfl rfl sz25 (by decide)) rfl rfl rfl (fun _ _ _ => trivial) ?_
          refine z_store1 (j := 0) (cs' := [(.slice A_30 x79.length c_31 : Value)] ++ ([(.slice A0_1 a0.2.length c0_2 : Value)])) (L' := (.blk g0 105 ([(.slice A_30 x79.length c_31 : Value)] ++ ([(.slice A0_1 a0.2.length c0_2 : Value)])) 2) :: (.row (.slice A0_1 a0.2.length c0_2) 60 3 cs) :: Lr) rfl rfl rfl rfl rfl sz25 rfl (by simp [cV_len]) rfl rfl rfl rfl (fun _ _ _ => trivial) ?_
          refine z_nil ?_
          refine t_seq ?_
          refine t_seq ?_
          refine t_region (fun ops hops => ?_)
          clear hops
          refine z_val (v := .int .i64 x8) (val_move rfl rfl) rfl rfl rfl (fun _ _ _ => trivial) ?_
          obtain ⟨x83, hx83, H⟩ := Let_elim H
          refine z_val (v := .bool x83) (by subst hx83; exact val_bin rfl rfl rfl rfl (i64_leq _ _ _)) rfl rfl rfl (fun _ _ _ => trivial) ?_
          clear hx83
          refine z_nil ?_
          cases x83
          ·
            replace H := cond_f H
            refine t_cond_false rfl ?_
            refine t_skip ?_
            refine t_seq ?_
            refine t_region (fun ops hops => ?_)
            clear hops
            refine z_val (v := .bool x18) (val_move rfl rfl) rfl rfl rfl (fun _ _ _ => trivial) ?_
            refine z_val (v := .int .i64 x8) (val_move rfl rfl) rfl rfl rfl (fun _ _ _ => trivial) ?_
            refine z_val (v := .bool x18) (val_assign rfl rfl) rfl rfl rfl (fun _ _ _ => trivial) ?_
            refine z_val (v := .int .i64 x8) (val_assign rfl rfl) rfl rfl rfl (fun _ _ _ => trivial) ?_
            refine z_val (v := .int .i64 0) (val_assign rfl rfl) rfl rfl rfl (fun _ _ _ => trivial) ?_
            refine z_nil ?_
            refine t_ret ?_
            obtain rfl := Option.some.inj H
            exact ret3 rfl (res_tmp rfl) (res_tmp rfl) (res_tmp rfl) (fun _ hw => ⟨⟨h, A_30, c_31, A0_1, c0_2, cs⟩, rfl, ⟨(Sub.refl _), hs_32, hc_33, hs0_3, hr⟩, hw⟩)
          ·
            replace H := cond_t H
            refine t_cond_true rfl ?_
            refine t_seq ?_
            refine t_region (fun ops hops => ?_)
            clear hops
            refine z_val (v := .bool x18) (val_move rfl rfl) rfl rfl rfl (fun _ _ _ => trivial) ?_
            refine z_val (v := .bool x18) (val_assign rfl rfl) rfl rfl rfl (fun _ _ _ => trivial) ?_
            refine z_val (v := .int .i64 0) (val_assign rfl rfl) rfl rfl rfl (fun _ _ _ => trivial) ?_
            refine z_val (v := .int .i64 2) (val_assign rfl rfl) rfl rfl rfl (fun _ _ _ => trivial) ?_
            refine z_nil ?_
            refine t_ret ?_
            obtain rfl := Option.some.inj H
            exact ret3 rfl (res_tmp rfl) (res_tmp rfl) (res_tmp rfl) (fun _ hw => ⟨⟨h, A_30, c_31, A0_1, c0_2, cs⟩, rfl, ⟨(Sub.refl _), hs_32, hc_33, hs0_3, hr⟩, hw⟩)
      ·
        replace H := cond_t H
        refine t_cond_true rfl ?_
        refine t_seq ?_
        refine t_region (fun ops hops => ?_)
        clear hops
        refine z_val (v := .bool x18) (val_move rfl rfl) rfl rfl rfl (fun _ _ _ => trivial) ?_
        refine z_val (v := .bool x18) (val_assign rfl rfl) rfl rfl rfl (fun _ _ _ => trivial) ?_
        refine z_val (v := .int .i64 0) (val_assign rfl rfl) rfl rfl rfl (fun _ _ _ => trivial) ?_
        refine z_val (v := .int .i64 3) (val_assign rfl rfl) rfl rfl rfl (fun _ _ _ => trivial) ?_
        refine z_nil ?_
        refine t_ret ?_
        obtain rfl := Option.some.inj H
        exact ret3 rfl (res_tmp rfl) (res_tmp rfl) (res_tmp rfl) (fun _ hw => ⟨⟨h, A_12, c_13, A0_1, c0_2, cs⟩, rfl, ⟨(Sub.refl _), hs_14, hc_15, hs0_3, hr⟩, hw⟩)
    ·
      replace H := cond_t H
      refine t_cond_true rfl ?_
      refine t_seq ?_
      refine t_region (fun ops hops => ?_)
      clear hops
      refine z_val (v := .bool x18) (val_move rfl rfl) rfl rfl rfl (fun _ _ _ => trivial) ?_
      refine z_val (v := U8 x5) (val_move rfl rfl) rfl rfl rfl (fun _ _ _ => trivial) ?_
      obtain ⟨x34, hx34, H⟩ := Let_elim H
      refine z_val (v := .int .i64 x34) (by subst hx34; exact val_conv rfl rfl (fun w => conv_u8_int w _ _ _ (by rw [Try.underlying5]; rfl) Try.underlying3)) rfl rfl rfl (fun _ _ _ => trivial) ?_
      clear hx34
      obtain ⟨x35, hx35, H⟩ := Let_elim H
      refine z_val (v := .int .i64 x35) (by subst hx35; exact val_bin rfl rfl rfl rfl (i64_sub _ _ _)) rfl rfl rfl (fun _ _ _ => trivial) ?_
      clear hx35
      refine z_val (v := .bool x18) (val_assign rfl rfl) rfl rfl rfl (fun _ _ _ => trivial) ?_
      refine z_val (v := .int .i64 x35) (val_assign rfl rfl) rfl rfl rfl (fun _ _ _ => trivial) ?_
      refine z_val (v := .int .i64 0) (val_assign rfl rfl) rfl rfl rfl (fun _ _ _ => trivial) ?_
      refine z_nil ?_
      refine t_ret ?_
      obtain rfl := Option.some.inj H
      exact ret3 rfl (res_tmp rfl) (res_tmp rfl) (res_tmp rfl) (fun _ hw => ⟨⟨h, A_12, c_13, A0_1, c0_2, cs⟩, rfl, ⟨(Sub.refl _), hs_14, hc_15, hs0_3, hr⟩, hw⟩)
def rlp_reader_list.b1 (x33 : Int) (a2 : Int) (F_rlp_reader_item : ((List (BitVec 8)) × (List ((Bool) × (List (BitVec 8)) × (Int)))) → (Int) → (Int) → Option ((Int) × ((List (BitVec 8)) × (List ((Bool) × (List (BitVec 8)) × (Int)))))) (y0 : (List (BitVec 8)) × (List ((Bool) × (List (BitVec 8)) × (Int)))) : Option (Ctl (((List (BitVec 8)) × (List ((Bool) × (List (BitVec 8)) × (Int))))) ((Int) × ((List (BitVec 8)) × (List ((Bool) × (List (BitVec 8)) × (Int)))))) :=
  Let ((y0.1.length : Int)) fun x38 => Let (decide (x33 < x38)) fun x40 => (bif x40 then Let ((y0.1.length : Int)) fun x46 => Let (wi (x46 - x33)) fun x48 => Let (wi (a2 + 1)) fun x50 => (F_rlp_reader_item (y0.1, y0.2) x48 x50).bind fun x51 => Let (x51.1 != 0) fun x53 => (bif x53 then some (.ret (x51.1, (x51.2.1, x51.2.2))) else some (.next (x51.2.1, x51.2.2))) else some (.brk (y0.1, y0.2)))
def rlp_reader_list (F_rlp_reader_item : ((List (BitVec 8)) × (List ((Bool) × (List (BitVec 8)) × (Int)))) → (Int) → (Int) → Option ((Int) × ((List (BitVec 8)) × (List ((Bool) × (List (BitVec 8)) × (Int)))))) (a0 : (List (BitVec 8)) × (List ((Bool) × (List (BitVec 8)) × (Int)))) (a1 : Int) (a2 : Int) : Option ((Int) × ((List (BitVec 8)) × (List ((Bool) × (List (BitVec 8)) × (Int))))) :=
  Let (a2 == 64) fun x11 => (bif x11 then some (4, (a0.1, a0.2)) else Let ((a0.2.length : Int)) fun x16 => Let (([(true, ([] : List (BitVec 8)), 0)] : List ((Bool) × (List (BitVec 8)) × (Int)))) fun x23 => Chk ((a0.2.length + x23.length) * 40 ≤ 140737488355328) <| Let (a0.2 ++ x23) fun x24 => Let ((a0.1.length : Int)) fun x31 => Let (wi (x31 - a1)) fun x33 => (wlx (σ := ((List (BitVec 8)) × (List ((Bool) × (List (BitVec 8)) × (Int))))) (fun s => rlp_reader_list.b1 x33 a2 F_rlp_reader_item s) (a0.1, x24)).bind (Sum.elim (fun y0 => Let ((y0.2.length : Int)) fun x64 => Let (wi (x64 - x16)) fun x66 => Let (wi (x66 - 1)) fun x67 => Chk ((0 : Int) ≤ x16 ∧ x16 < (y0.2.length : Int)) <| Let (lget y0.2 x16.toNat) fun x68 => Let (y0.2.set x16.toNat (x68.1, x68.2.1, x67)) fun x_49 => some (0, (y0.1, x_49))) (fun r => some r)))
set_option maxRecDepth 100000 in
theorem rlp_reader_list.calls  (F_rlp_reader_item : ((List (BitVec 8)) × (List ((Bool) × (List (BitVec 8)) × (Int)))) → (Int) → (Int) → Option ((Int) × ((List (BitVec 8)) × (List ((Bool) × (List (BitVec 8)) × (Int)))))) (hF_rlp_reader_item : ∀ (a0 : (List (BitVec 8)) × (List ((Bool) × (List (BitVec 8)) × (Int)))) (a1 : Int) (a2 : Int) (g0 : Nat) (A0 : Option Addr) (c0 : Nat) (A0_1 : Option Addr) (c0_2 : Nat) (cs : List Value) (r : (Int) × ((List (BitVec 8)) × (List ((Bool) × (List (BitVec 8)) × (Int))))) (H : F_rlp_reader_item a0 a1 a2 = some r) {w0 : World} {Ex : List Nat} {h : Frag} {Lr : List Ent} {w : World} (hs0 : SlH h U8 A0 a0.1) (hc0 : a0.1.length ≤ c0) (hs0_3 : Shp A0_1 a0.2.length c0_2) (hr : RpL h R60 a0.2 cs)  (hM : Mm w0 Ex h ((.blk g0 105 ([(.slice A0 a0.1.length c0 : Value)] ++ ([(.slice A0_1 a0.2.length c0_2 : Value)])) 2) :: (.row (.slice A0_1 a0.2.length c0_2) 60 3 cs) :: Lr) w), Calls Try.prog 57 #[.pointer (some ⟨g0, 0, none⟩), .int .i64 a1, .int .i64 a2] w fun e w' => ∃ (g : (Frag) × (Option Addr) × (Nat) × (Option Addr) × (Nat) × (List Value)), e = .returned (.int .i64 r.1) ∧ (Sub h g.1 ∧ SlH g.1 U8 g.2.1 r.2.1 ∧ r.2.1.length ≤ g.2.2.1 ∧ Shp g.2.2.2.1 r.2.2.length g.2.2.2.2.1 ∧ RpL g.1 R60 r.2.2 g.2.2.2.2.2) ∧ Mm w0 Ex g.1 ((.blk g0 105 ([(.slice g.2.1 r.2.1.length g.2.2.1 : Value)] ++ ([(.slice g.2.2.2.1 r.2.2.length g.2.2.2.2.1 : Value)])) 2) :: (.row (.slice g.2.2.2.1 r.2.2.length g.2.2.2.2.1) 60 3 g.2.2.2.2.2) :: Lr) w') (a0 : (List (BitVec 8)) × (List ((Bool) × (List (BitVec 8)) × (Int)))) (a1 : Int) (a2 : Int) (g0 : Nat) (A0 : Option Addr) (c0 : Nat) (A0_1 : Option Addr) (c0_2 : Nat) (cs : List Value) (r : (Int) × ((List (BitVec 8)) × (List ((Bool) × (List (BitVec 8)) × (Int))))) (H : rlp_reader_list F_rlp_reader_item a0 a1 a2 = some r) {w0 : World} {Ex : List Nat} {h : Frag} {Lr : List Ent} {w : World} (hs0 : SlH h U8 A0 a0.1) (hc0 : a0.1.length ≤ c0) (hs0_3 : Shp A0_1 a0.2.length c0_2) (hr : RpL h R60 a0.2 cs)  (hM : Mm w0 Ex h ((.blk g0 105 ([(.slice A0 a0.1.length c0 : Value)] ++ ([(.slice A0_1 a0.2.length c0_2 : Value)])) 2) :: (.row (.slice A0_1 a0.2.length c0_2) 60 3 cs) :: Lr) w) :
    Calls Try.prog 79 #[.pointer (some ⟨g0, 0, none⟩), .int .i64 a1, .int .i64 a2] w fun e w' => ∃ (g : (Frag) × (Option Addr) × (Nat) × (Option Addr) × (Nat) × (List Value)), e = .returned (.int .i64 r.1) ∧ (Sub h g.1 ∧ SlH g.1 U8 g.2.1 r.2.1 ∧ r.2.1.length ≤ g.2.2.1 ∧ Shp g.2.2.2.1 r.2.2.length g.2.2.2.2.1 ∧ RpL g.1 R60 r.2.2 g.2.2.2.2.2) ∧ Mm w0 Ex g.1 ((.blk g0 105 ([(.slice g.2.1 r.2.1.length g.2.2.1 : Value)] ++ ([(.slice g.2.2.2.1 r.2.2.length g.2.2.2.2.1 : Value)])) 2) :: (.row (.slice g.2.2.2.1 r.2.2.length g.2.2.2.2.1) 60 3 g.2.2.2.2.2) :: Lr) w' := by
  unfold rlp_reader_list at H
  refine t_enter (vs := [.pointer (some ⟨g0, 0, none⟩), .int .i64 a1, .int .i64 a2]) (n := 70) Try.func79 rfl rfl rfl hM ?_
  clear hM
  change T 70 _ _ _
  refine t_seq ?_
  refine t_region (fun ops hops => ?_)
  clear hops
  refine z_val (v := .int .i64 0) (val_assign rfl rfl) rfl rfl rfl (fun _ _ _ => trivial) ?_
  refine z_nil ?_
  refine t_seq ?_
  refine t_seq ?_
  refine t_region (fun ops hops => ?_)
  clear hops
  refine z_val (v := .int .i64 a2) (val_move rfl rfl) rfl rfl rfl (fun _ _ _ => trivial) ?_
  obtain ⟨x11, hx11, H⟩ := Let_elim H
  refine z_val (v := .bool x11) (by subst hx11; exact val_bin rfl rfl rfl rfl (i64_eql _ _ _)) rfl rfl rfl (fun _ _ _ => trivial) ?_
  clear hx11
  refine z_nil ?_
  cases x11
  ·
    replace H := cond_f H
    refine t_cond_false rfl ?_
    refine t_skip ?_
    refine t_seq ?_
    refine t_region (fun ops hops => ?_)
    clear hops
    refine z_val (v := .pointer (some ⟨g0, 0, none⟩)) (val_move rfl rfl) rfl rfl rfl (fun _ _ _ => trivial) ?_
    refine z_val (v := .pointer (some ⟨g0, 0, none⟩)) (val_nilCheck rfl rfl) rfl rfl rfl (fun _ _ _ => trivial) ?_
    refine z_val (v := .pointer (some ⟨g0, 1, none⟩)) (val_fld0 (sz := 1) rfl rfl Try.underlying105 rfl rfl sz46 (by decide)) rfl rfl rfl (fun _ _ _ => trivial) ?_
    refine z_val (v := .slice A0_1 a0.2.length c0_2) (val_load1 rfl rfl Try.underlying46 rfl (fun _ hw => hw.cell (j := 0) (q := 1) rfl (cells_skip (n := 1) (k := 0) rfl rfl))) rfl rfl rfl (fun _ _ _ => trivial) ?_
    obtain ⟨x16, hx16, H⟩ := Let_elim H
    refine z_val (v := .int .i64 x16) (by subst hx16; exact val_len rfl rfl rfl Try.underlying46) rfl rfl rfl (fun _ _ _ => trivial) ?_
    clear hx16
    refine z_val (v := .int .i64 x16) (val_assign rfl rfl) rfl rfl rfl (fun _ _ _ => trivial) ?_
    refine z_nil ?_
    refine t_seq ?_
    refine t_region (fun ops hops => ?_)
    clear hops
    refine z_val (v := .pointer (some ⟨g0, 0, none⟩)) (val_move rfl rfl) rfl rfl rfl (fun _ _ _ => trivial) ?_
    refine z_val (v := .pointer (some ⟨g0, 0, none⟩)) (val_move rfl rfl) rfl rfl rfl (fun _ _ _ => trivial) ?_
    refine z_val (v := .pointer (some ⟨g0, 0, none⟩)) (val_nilCheck rfl rfl) rfl rfl rfl (fun _ _ _ => trivial) ?_
    refine z_val (v := .pointer (some ⟨g0, 1, none⟩)) (val_fld0 (sz := 1) rfl rfl Try.underlying105 rfl rfl sz46 (by decide)) rfl rfl rfl (fun _ _ _ => trivial) ?_
    refine z_val (v := .slice A0_1 a0.2.length c0_2) (val_load1 rfl rfl Try.underlying46 rfl (fun _ hw => hw.cell (j := 0) (q := 1) rfl (cells_skip (n := 1) (k := 0) rfl rfl))) rfl rfl rfl (fun _ _ _ => trivial) ?_
    refine z_val (v := .agg ([(.bool true : Value)] ++ ([(.slice none ([] : List (BitVec 8)).length 0 : Value)] ++ ([(.int .i64 0 : Value)]))).toArray) (val_build (vs := [(0, .bool true)]) rfl rfl (fun w => by kernel_rfl)) rfl rfl rfl (fun _ _ _ => trivial) ?_
    obtain ⟨x23, hx23, H⟩ := Let_elim H
    have hlx23 : x23.length = 1 := by subst hx23; rfl
    have hr_6 : RpL h R60 x23 (([(.bool true : Value)] ++ ([(.slice none ([] : List (BitVec 8)).length 0 : Value)] ++ ([(.int .i64 0 : Value)]))) ++ (([] : List Value))) := by subst hx23; exact ⟨_, _, rfl, ⟨none, 0, rfl, (SlH.nil : SlH _ U8 none (([] : List (BitVec 8)))), (Nat.le_refl _)⟩, rfl⟩
    refine z_buildR (e := 60) (cs := ([(.bool true : Value)] ++ ([(.slice none ([] : List (BitVec 8)).length 0 : Value)] ++ ([(.int .i64 0 : Value)]))) ++ (([] : List Value))) (xs := x23) (vs := [(0, .agg ([(.bool true : Value)] ++ ([(.slice none ([] : List (BitVec 8)).length 0 : Value)] ++ ([(.int .i64 0 : Value)]))).toArray)]) rfl rfl (by intro w; kernel_rfl) hlx23 hr_6.len (by decide) rfl rfl rfl (fun _ _ _ _ => trivial) (fun g_7 hs_9 => ?_)
    generalize (([(.bool true : Value)] ++ ([(.slice none ([] : List (BitVec 8)).length 0 : Value)] ++ ([(.int .i64 0 : Value)]))) ++ (([] : List Value))) = cs_10 at *
    clear hx23 hlx23
    obtain ⟨hq_11, H⟩ := Chk_elim H
    obtain ⟨x24, hx24, H⟩ := Let_elim H
    refine z_appendR (R := R60) (j := 2) (xs := a0.2) (ys := x23) (zs := x24) rfl rfl Try.underlying46 in60 rfl rfl (by decide) rfl rfl hr rfl (fun w hw => own_rd hw (j := 0) rfl hr_6 hs_9) hq_11 (by decide) hx24 (fun A_12 c_13 cs_15 => (.row (.slice (some ⟨g_7, 0, none⟩) x23.length 1) 60 3 cs_10) :: (.blk g0 105 ([(.slice A0 a0.1.length c0 : Value)] ++ ([(.slice A0_1 a0.2.length c0_2 : Value)])) 2) :: (.row (.slice A_12 x24.length c_13) 60 3 cs_15) :: Lr) (fun _ _ _ => rfl) rfl rfl rfl (fun _ _ _ _ _ _ => trivial) (fun A_12 c_13 cs_15 hs_14 hr_16 => ?_)
    clear hx24
    refine z_val (v := .pointer (some ⟨g0, 0, none⟩)) (val_nilCheck rfl rfl) rfl rfl rfl (fun _ _ _ => trivial) ?_
    refine z_val (v := .pointer (some ⟨g0, 1, none⟩)) (val_fld0 (sz := 1) rfl rfl Try.underlying105 rfl rfl sz46 (by decide)) rfl rfl rfl (fun _ _ _ => trivial) ?_
    refine z_store1 (j := 1) (cs' := [(.slice A0 a0.1.length c0 : Value)] ++ ([(.slice A_12 x24.length c_13 : Value)])) (L' := (.row (.slice (some ⟨g_7, 0, none⟩) x23.length 1) 60 3 cs_10) :: (.blk g0 105 ([(.slice A0 a0.1.length c0 : Value)] ++ ([(.slice A_12 x24.length c_13 : Value)])) 2) :: (.row (.slice A_12 x24.length c_13) 60 3 cs_15) :: Lr) rfl rfl rfl rfl rfl sz46 rfl (by simp [cV_len]) (set_skip (n := 1) (k := 0) rfl rfl) rfl rfl rfl (fun _ _ _ => trivial) ?_
    refine z_nil ?_
    refine t_seq ?_
    refine t_region (fun ops hops => ?_)
    clear hops
    refine z_val (v := .pointer (some ⟨g0, 0, none⟩)) (val_move rfl rfl) rfl rfl rfl (fun _ _ _ => trivial) ?_
    refine z_val (v := .pointer (some ⟨g0, 0, none⟩)) (val_nilCheck rfl rfl) rfl rfl rfl (fun _ _ _ => trivial) ?_
    refine z_val (v := .pointer (some ⟨g0, 0, none⟩)) (val_fld0 (sz := 1) rfl rfl Try.underlying105 rfl rfl sz25 (by decide)) rfl rfl rfl (fun _ _ _ => trivial) ?_
    refine z_val (v := .slice A0 a0.1.length c0) (val_load1 rfl rfl Try.underlying25 rfl (fun _ hw => hw.cell (j := 1) (q := 0) rfl (cells_here (k := 0) rfl))) rfl rfl rfl (fun _ _ _ => trivial) ?_
    obtain ⟨x31, hx31, H⟩ := Let_elim H
    refine z_val (v := .int .i64 x31) (by subst hx31; exact val_len rfl rfl rfl Try.underlying25) rfl rfl rfl (fun _ _ _ => trivial) ?_
    clear hx31
    refine z_val (v := .int .i64 a1) (val_move rfl rfl) rfl rfl rfl (fun _ _ _ => trivial) ?_
    obtain ⟨x33, hx33, H⟩ := Let_elim H
    refine z_val (v := .int .i64 x33) (by subst hx33; exact val_bin rfl rfl rfl rfl (i64_sub _ _ _)) rfl rfl rfl (fun _ _ _ => trivial) ?_
    clear hx33
    refine z_val (v := .int .i64 x33) (val_assign rfl rfl) rfl rfl rfl (fun _ _ _ => trivial) ?_
    refine z_nil ?_
    refine t_seq ?_
    refine t_block ?_
    obtain ⟨z1, hz1, HK1⟩ := Option.bind_eq_some_iff.1 H
    clear H
    refine t_while hz1 (fun (s : ((List (BitVec 8)) × (List ((Bool) × (List (BitVec 8)) × (Int))))) (g : (Frag) × (Option Addr) × (Nat) × (Option Addr) × (Nat) × (List Value)) => [(0, .pointer (some ⟨g0, 0, none⟩)), (2, .int .i64 a2), (7, .int .i64 x16), (8, .int .i64 x33)]) (fun (s : ((List (BitVec 8)) × (List ((Bool) × (List (BitVec 8)) × (Int))))) (g : (Frag) × (Option Addr) × (Nat) × (Option Addr) × (Nat) × (List Value)) => [(0, .pointer (some ⟨g0, 0, none⟩)), (7, .int .i64 x16)]) (fun (s : ((List (BitVec 8)) × (List ((Bool) × (List (BitVec 8)) × (Int))))) (g : (Frag) × (Option Addr) × (Nat) × (Option Addr) × (Nat) × (List Value)) => Mm w0 Ex g.1 ((.blk g0 105 ([(.slice g.2.1 s.1.length g.2.2.1 : Value)] ++ ([(.slice g.2.2.2.1 s.2.length g.2.2.2.2.1 : Value)])) 2) :: (.row (.slice g.2.2.2.1 s.2.length g.2.2.2.2.1) 60 3 g.2.2.2.2.2) :: Lr)) (fun (s : ((List (BitVec 8)) × (List ((Bool) × (List (BitVec 8)) × (Int))))) (g : (Frag) × (Option Addr) × (Nat) × (Option Addr) × (Nat) × (List Value)) => Mm w0 Ex g.1 ((.blk g0 105 ([(.slice g.2.1 s.1.length g.2.2.1 : Value)] ++ ([(.slice g.2.2.2.1 s.2.length g.2.2.2.2.1 : Value)])) 2) :: (.row (.slice g.2.2.2.1 s.2.length g.2.2.2.2.1) 60 3 g.2.2.2.2.2) :: Lr)) (fun (s : ((List (BitVec 8)) × (List ((Bool) × (List (BitVec 8)) × (Int))))) (g : (Frag) × (Option Addr) × (Nat) × (Option Addr) × (Nat) × (List Value)) => Sub h g.1 ∧ SlH g.1 U8 g.2.1 s.1 ∧ s.1.length ≤ g.2.2.1 ∧ Shp g.2.2.2.1 s.2.length g.2.2.2.2.1 ∧ RpL g.1 R60 s.2 g.2.2.2.2.2) (fun (s : ((List (BitVec 8)) × (List ((Bool) × (List (BitVec 8)) × (Int))))) (g : (Frag) × (Option Addr) × (Nat) × (Option Addr) × (Nat) × (List Value)) => Sub h g.1 ∧ SlH g.1 U8 g.2.1 s.1 ∧ s.1.length ≤ g.2.2.1 ∧ Shp g.2.2.2.1 s.2.length g.2.2.2.2.1 ∧ RpL g.1 R60 s.2 g.2.2.2.2.2) ⟨h, A0, c0, A_12, c_13, cs_15⟩ ⟨(Sub.refl _), hs0, hc0, hs_14, hr_16⟩ (fun a w ha hw => ⟨ha.cons rfl (ha.cons rfl (ha.cons rfl (ha.cons rfl (ha.nil)))), hw.selK 3 [1, 2] rfl rfl⟩) (fun Gn Gb s g e hφ H hn1 hb1 hr1 => ?_) (fun s g hzz hφ => ?_)
    ·
      obtain ⟨y0, rfl⟩ : ∃ x, x = s := ⟨_, rfl⟩
      obtain ⟨h_17, A_18, c_19, A_22, c_23, cs_25⟩ := g
      try dsimp only at hφ
      obtain ⟨hS, hs_20, hc_21, hs_24, hr_26⟩ := hφ
      replace hs0 := hs0.up hS
      replace hr_16 := RpL.up hS hr_16
      change rlp_reader_list.b1 x33 a2 F_rlp_reader_item y0 = some e at H
      unfold rlp_reader_list.b1 at H
      clear hz1
      change T 70 _ _ _
      refine t_seq ?_
      refine t_seq ?_
      refine t_region (fun ops hops => ?_)
      clear hops
      refine z_val (v := .pointer (some ⟨g0, 0, none⟩)) (val_move rfl rfl) rfl rfl rfl (fun _ _ _ => trivial) ?_
      refine z_val (v := .pointer (some ⟨g0, 0, none⟩)) (val_nilCheck rfl rfl) rfl rfl rfl (fun _ _ _ => trivial) ?_
      refine z_val (v := .pointer (some ⟨g0, 0, none⟩)) (val_fld0 (sz := 1) rfl rfl Try.underlying105 rfl rfl sz25 (by decide)) rfl rfl rfl (fun _ _ _ => trivial) ?_
      refine z_val (v := .slice A_18 y0.1.length c_19) (val_load1 rfl rfl Try.underlying25 rfl (fun _ hw => hw.cell (j := 0) (q := 0) rfl (cells_here (k := 0) rfl))) rfl rfl rfl (fun _ _ _ => trivial) ?_
      obtain ⟨x38, hx38, H⟩ := Let_elim H
      refine z_val (v := .int .i64 x38) (by subst hx38; exact val_len rfl rfl rfl Try.underlying25) rfl rfl rfl (fun _ _ _ => trivial) ?_
      clear hx38
      refine z_val (v := .int .i64 x33) (val_move rfl rfl) rfl rfl rfl (fun _ _ _ => trivial) ?_
      obtain ⟨x40, hx40, H⟩ := Let_elim H
      refine z_val (v := .bool x40) (by subst hx40; exact val_bin rfl rfl rfl rfl (i64_gtr _ _ _)) rfl rfl rfl (fun _ _ _ => trivial) ?_
      clear hx40
      refine z_nil ?_
      cases x40
      ·
        replace H := cond_f H
        refine t_cond_false rfl ?_
        refine t_exit rfl ?_
        obtain rfl := Option.some.inj H
        exact t_reach ((hb1 _ ⟨h_17, A_18, c_19, A_22, c_23, cs_25⟩ rfl ⟨hS, hs_20, hc_21, hs_24, hr_26⟩).weak (fun a ha => ha.cons rfl (ha.cons rfl (ha.nil))) (fun w hw => hw))
      ·
        replace H := cond_t H
        refine t_cond_true rfl ?_
        refine t_skip ?_
        refine t_block ?_
        refine t_seq ?_
        refine t_region (fun ops hops => ?_)
        clear hops
        refine z_val (v := .pointer (some ⟨g0, 0, none⟩)) (val_move rfl rfl) rfl rfl rfl (fun _ _ _ => trivial) ?_
        refine z_val (v := .pointer (some ⟨g0, 0, none⟩)) (val_move rfl rfl) rfl rfl rfl (fun _ _ _ => trivial) ?_
        refine z_val (v := .pointer (some ⟨g0, 0, none⟩)) (val_nilCheck rfl rfl) rfl rfl rfl (fun _ _ _ => trivial) ?_
        refine z_val (v := .pointer (some ⟨g0, 0, none⟩)) (val_fld0 (sz := 1) rfl rfl Try.underlying105 rfl rfl sz25 (by decide)) rfl rfl rfl (fun _ _ _ => trivial) ?_
        refine z_val (v := .slice A_18 y0.1.length c_19) (val_load1 rfl rfl Try.underlying25 rfl (fun _ hw => hw.cell (j := 0) (q := 0) rfl (cells_here (k := 0) rfl))) rfl rfl rfl (fun _ _ _ => trivial) ?_
        obtain ⟨x46, hx46, H⟩ := Let_elim H
        refine z_val (v := .int .i64 x46) (by subst hx46; exact val_len rfl rfl rfl Try.underlying25) rfl rfl rfl (fun _ _ _ => trivial) ?_
        clear hx46
        refine z_val (v := .int .i64 x33) (val_move rfl rfl) rfl rfl rfl (fun _ _ _ => trivial) ?_
        obtain ⟨x48, hx48, H⟩ := Let_elim H
        refine z_val (v := .int .i64 x48) (by subst hx48; exact val_bin rfl rfl rfl rfl (i64_sub _ _ _)) rfl rfl rfl (fun _ _ _ => trivial) ?_
        clear hx48
        refine z_val (v := .int .i64 a2) (val_move rfl rfl) rfl rfl rfl (fun _ _ _ => trivial) ?_
        obtain ⟨x50, hx50, H⟩ := Let_elim H
        refine z_val (v := .int .i64 x50) (by subst hx50; exact val_bin rfl rfl rfl rfl (i64_add _ _ _)) rfl rfl rfl (fun _ _ _ => trivial) ?_
        clear hx50
        obtain ⟨x51, hx, H⟩ := Option.bind_eq_some_iff.1 H
        refine z_callG rfl Try.func57 nm57 bs57 rfl (fun w hw => hF_rlp_reader_item (y0.1, y0.2) x48 x50 g0 A_18 c_19 A_22 c_23 cs_25 x51 hx hs_20 hc_21 hs_24 hr_26 hw) rfl rfl rfl (fun _ _ _ _ _ => trivial) (fun g hφ => ?_)
        obtain ⟨h_27, A_29, c_30, A_34, c_35, cs_37⟩ := g
        try dsimp only at hφ
        obtain ⟨hS_28, hs_31, hc_32, hs_36, hr_38⟩ := hφ
        clear hx
        change T 70 _ _ _
        replace hs_20 := hs_20.up hS_28
        refine z_val (v := .int .i64 x51.1) (val_assign rfl rfl) rfl rfl rfl (fun _ _ _ => trivial) ?_
        refine z_nil ?_
        refine t_seq ?_
        refine t_region (fun ops hops => ?_)
        clear hops
        refine z_val (v := .int .i64 x51.1) (val_move rfl rfl) rfl rfl rfl (fun _ _ _ => trivial) ?_
        obtain ⟨x53, hx53, H⟩ := Let_elim H
        refine z_val (v := .bool x53) (by subst hx53; exact val_bin rfl rfl rfl rfl (i64_neq _ _ _)) rfl rfl rfl (fun _ _ _ => trivial) ?_
        clear hx53
        refine z_nil ?_
        cases x53
        ·
          replace H := cond_f H
          refine t_cond_false rfl ?_
          refine t_skip ?_
          refine t_fin ?_
          obtain rfl := Option.some.inj H
          exact t_reach ((hn1 _ ⟨h_27, A_29, c_30, A_34, c_35, cs_37⟩ rfl ⟨(hS.trans hS_28), hs_31, hc_32, hs_36, hr_38⟩).weak (fun a ha => ha.cons rfl (ha.cons rfl (ha.cons rfl (ha.cons rfl (ha.nil))))) (fun w hw => hw))
        ·
          replace H := cond_t H
          refine t_cond_true rfl ?_
          refine t_seq ?_
          refine t_region (fun ops hops => ?_)
          clear hops
          refine z_val (v := .int .i64 x51.1) (val_move rfl rfl) rfl rfl rfl (fun _ _ _ => trivial) ?_
          refine z_val (v := .int .i64 x51.1) (val_assign rfl rfl) rfl rfl rfl (fun _ _ _ => trivial) ?_
          refine z_nil ?_
          refine t_ret ?_
          obtain rfl := Option.some.inj H
          have hz := hr1 _ rfl
          subst hz
          obtain rfl := Option.some.inj HK1
          exact ret1 rfl (res_tmp rfl) (fun _ hw => ⟨⟨h_27, A_29, c_30, A_34, c_35, cs_37⟩, rfl, ⟨(hS.trans hS_28), hs_31, hc_32, hs_36, hr_38⟩, hw⟩)
    ·
      obtain ⟨y0, rfl⟩ : ∃ x, x = s := ⟨_, rfl⟩
      obtain ⟨h_17, A_18, c_19, A_22, c_23, cs_25⟩ := g
      try dsimp only at hφ
      obtain ⟨hS, hs_20, hc_21, hs_24, hr_26⟩ := hφ
      replace hs0 := hs0.up hS
      replace hr_16 := RpL.up hS hr_16
      subst hzz
      have H := HK1
      clear HK1 hz1
      replace H := sum_l H
      try dsimp only at H
      change T 70 _ _ _
      refine t_seq ?_
      refine t_plan (C := Mm w0 Ex h_17 ((.blk g0 105 ([(.slice A_18 y0.1.length c_19 : Value)] ++ ([(.slice A_22 y0.2.length c_23 : Value)])) 2) :: (.row (.slice A_22 y0.2.length c_23) 60 3 cs_25) :: Lr)) [15] [(0, true), (1, true), (2, true), (3, true), (4, true), (5, true), (6, true), (7, true), (8, true), (9, true), (10, true), (11, true), (12, true), (13, false), (14, true), (15, false)] (by kernel_rfl) (by kernel_rfl) (fun _ hw => hw.drew) (fun ops hops => ?_)
      clear hops
      refine z_still (v := .pointer (some ⟨g0, 0, none⟩)) (val_move rfl rfl) rfl rfl rfl (fun _ hw => hw) ?_
      refine z_still (v := .pointer (some ⟨g0, 0, none⟩)) (val_nilCheck rfl rfl) rfl rfl rfl (fun _ hw => hw) ?_
      refine z_still (v := .pointer (some ⟨g0, 1, none⟩)) (val_fld0 (sz := 1) rfl rfl Try.underlying105 rfl rfl sz46 (by decide)) rfl rfl rfl (fun _ hw => hw) ?_
      refine z_still (v := .slice A_22 y0.2.length c_23) (val_load1 rfl rfl Try.underlying46 rfl (fun _ hw => hw.cell (j := 0) (q := 1) rfl (cells_skip (n := 1) (k := 0) rfl rfl))) rfl rfl rfl (fun _ hw => hw) ?_
      refine z_still (v := .int .i64 x16) (val_move rfl rfl) rfl rfl rfl (fun _ hw => hw) ?_
      refine z_still (v := .pointer (some ⟨g0, 0, none⟩)) (val_move rfl rfl) rfl rfl rfl (fun _ hw => hw) ?_
      refine z_still (v := .pointer (some ⟨g0, 0, none⟩)) (val_nilCheck rfl rfl) rfl rfl rfl (fun _ hw => hw) ?_
      refine z_still (v := .pointer (some ⟨g0, 1, none⟩)) (val_fld0 (sz := 1) rfl rfl Try.underlying105 rfl rfl sz46 (by decide)) rfl rfl rfl (fun _ hw => hw) ?_
      refine z_still (v := .slice A_22 y0.2.length c_23) (val_load1 rfl rfl Try.underlying46 rfl (fun _ hw => hw.cell (j := 0) (q := 1) rfl (cells_skip (n := 1) (k := 0) rfl rfl))) rfl rfl rfl (fun _ hw => hw) ?_
      obtain ⟨x64, hx64, H⟩ := Let_elim H
      refine z_still (v := .int .i64 x64) (by subst hx64; exact val_len rfl rfl rfl Try.underlying46) rfl rfl rfl (fun _ hw => hw) ?_
      clear hx64
      refine z_still (v := .int .i64 x16) (val_move rfl rfl) rfl rfl rfl (fun _ hw => hw) ?_
      obtain ⟨x66, hx66, H⟩ := Let_elim H
      refine z_still (v := .int .i64 x66) (by subst hx66; exact val_bin rfl rfl rfl rfl (i64_sub _ _ _)) rfl rfl rfl (fun _ hw => hw) ?_
      clear hx66
      obtain ⟨x67, hx67, H⟩ := Let_elim H
      refine z_still (v := .int .i64 x67) (by subst hx67; exact val_bin rfl rfl rfl rfl (i64_sub _ _ _)) rfl rfl rfl (fun _ hw => hw) ?_
      clear hx67
      obtain ⟨hq_39, H⟩ := Chk_elim H
      obtain ⟨x68, hx68, H⟩ := Let_elim H
      have hlt : x16.toNat < y0.2.length := (idx_lt hq_39)
      obtain ⟨g_46, hA_47⟩ := hs_24.blk (by omega)
      obtain ⟨cs_48, hr_44, hc_45, hset⟩ := hr_26.at_ (lget_at hlt)
      rw [← hx68] at hr_44
      clear hx68
      obtain ⟨A_40, c_41, rfl, hs_42, hc_43⟩ := hr_44
      refine z_val (v := .pointer (some ⟨g_46, x16.toNat * 3, none⟩)) (val_idxO rfl rfl rfl Try.underlying46 sz60 hq_39 hA_47 rfl) rfl rfl rfl (fun _ _ hw => hw) ?_
      refine z_still (v := .pointer (some ⟨g_46, x16.toNat * 3 + 2, none⟩)) (val_fldB (sz := 1) rfl rfl Try.underlying60 rfl rfl sz3 (by decide)) rfl rfl rfl (fun _ hw => hw) ?_
      obtain ⟨x_49, hx_49, H⟩ := Let_elim H
      obtain ⟨cs_52, hcs⟩ : ∃ z, z = List.set cs_25 (x16.toNat * 3 + 2) (.int .i64 x67) := ⟨_, rfl⟩
      have hr_51 : RpL h_17 R60 x_49 cs_52 := by subst hx_49 hcs; exact hset 2 _ _ (by decide) ⟨A_40, c_41, rfl, hs_42, hc_43⟩
      have hs_50 : Shp A_22 x_49.length c_23 := by subst hx_49; rw [List.length_set]; exact hs_24
      have hl : y0.2.length = x_49.length := by subst hx_49; rw [List.length_set]
      refine z_storeCell (j := 1) (cs' := cs_52) (L' := (.blk g0 105 ([(.slice A_18 y0.1.length c_19 : Value)] ++ ([(.slice A_22 x_49.length c_23 : Value)])) 2) :: (.row (.slice A_22 x_49.length c_23) 60 3 cs_52) :: Lr) rfl rfl rfl rfl rfl sz3 rfl hA_47 (hr_26.lt hlt (by decide)) hcs.symm (by rw [hl]; rfl) rfl rfl (fun hb => absurd hb (by decide)) ?_
      refine t_len (show y0.2.length = x_49.length from hl) (fun z => [(0, .pointer (some ⟨g0, 0, none⟩)), (7, .int .i64 x16), (55, .pointer (some ⟨g0, 0, none⟩)), (56, .pointer (some ⟨g0, 0, none⟩)), (57, .pointer (some ⟨g0, 1, none⟩)), (58, .slice A_22 z c_23), (59, .int .i64 x16), (60, .pointer (some ⟨g0, 0, none⟩)), (61, .pointer (some ⟨g0, 0, none⟩)), (62, .pointer (some ⟨g0, 1, none⟩)), (63, .slice A_22 z c_23), (64, .int .i64 x64), (65, .int .i64 x16), (66, .int .i64 x66), (67, .int .i64 x67)]) (fun a ha => ha.cons rfl (ha.cons rfl (ha.cons rfl (ha.cons rfl (ha.cons rfl (ha.cons rfl (ha.cons rfl (ha.cons rfl (ha.cons rfl (ha.cons rfl (ha.cons rfl (ha.cons rfl (ha.cons rfl (ha.cons rfl (ha.cons rfl (ha.nil)))))))))))))))) ?_
      change T 70 _ _ _
      clear hx_49 hcs hl
      refine z_nil ?_
      refine t_seq ?_
      refine t_region (fun ops hops => ?_)
      clear hops
      refine z_val (v := .int .i64 0) (val_assign rfl rfl) rfl rfl rfl (fun _ _ _ => trivial) ?_
      refine z_nil ?_
      refine t_ret ?_
      obtain rfl := Option.some.inj H
      exact ret1 rfl (res_tmp rfl) (fun _ hw => ⟨⟨h_17, A_18, c_19, A_22, c_23, cs_52⟩, rfl, ⟨hS, hs_20, hc_21, hs_50, hr_51⟩, hw⟩)
  ·
    replace H := cond_t H
    refine t_cond_true rfl ?_
    refine t_seq ?_
    refine t_region (fun ops hops => ?_)
    clear hops
    refine z_val (v := .int .i64 4) (val_assign rfl rfl) rfl rfl rfl (fun _ _ _ => trivial) ?_
    refine z_nil ?_
    refine t_ret ?_
    obtain rfl := Option.some.inj H
    exact ret1 rfl (res_tmp rfl) (fun _ hw => ⟨⟨h, A0, c0, A0_1, c0_2, cs⟩, rfl, ⟨(Sub.refl _), hs0, hc0, hs0_3, hr⟩, hw⟩)
def rlp_reader_itemB (F_rlp_reader_item : ((List (BitVec 8)) × (List ((Bool) × (List (BitVec 8)) × (Int)))) → (Int) → (Int) → Option ((Int) × ((List (BitVec 8)) × (List ((Bool) × (List (BitVec 8)) × (Int)))))) (a0 : (List (BitVec 8)) × (List ((Bool) × (List (BitVec 8)) × (Int)))) (a1 : Int) (a2 : Int) : Option ((Int) × ((List (BitVec 8)) × (List ((Bool) × (List (BitVec 8)) × (Int))))) :=
  Let ((a0.1.length : Int)) fun x15 => Let (x15 == 0) fun x16 => (bif x16 then some (3, (a0.1, a0.2)) else Let ((a0.1.length : Int)) fun x21 => Chk ((0 : Int) ≤ 0 ∧ 0 < (a0.1.length : Int)) <| Let (lget a0.1 0) fun x27 => Let (decide ((x27.toNat : Int) < 128)) fun x28 => (bif x28 then Chk ((0 : Int) ≤ 0 ∧ 0 < (a0.1.length : Int)) <| Let (lget a0.1 0) fun x39 => Let ([x39]) fun x40 => Let (([(false, x40, 0)] : List ((Bool) × (List (BitVec 8)) × (Int)))) fun x42 => Chk ((a0.2.length + x42.length) * 40 ≤ 140737488355328) <| Let (a0.2 ++ x42) fun x43 => Chk ((0 : Int) ≤ 1 ∧ 1 ≤ (a0.1.length : Int)) <| Let ((a0.1.take a0.1.length).drop ((1 : Int).toNat)) fun x51 => some (0, (x51, x43)) else (rlp_reader_size (a0.1, a0.2)).bind fun x56 => Let (x56.2.2.1 != 0) fun x62 => (bif x62 then some (x56.2.2.1, (x56.2.2.2.1, x56.2.2.2.2)) else Let ((x56.2.2.2.1.length : Int)) fun x70 => Let (decide (x70 < x56.2.1)) fun x71 => (bif x71 then some (3, (x56.2.2.2.1, x56.2.2.2.2)) else Let ((x56.2.2.2.1.length : Int)) fun x78 => Let (wi (x21 - x78)) fun x79 => Let (wi (x79 + x56.2.1)) fun x81 => Let (decide (a1 < x81)) fun x83 => (bif x83 then some (2, (x56.2.2.2.1, x56.2.2.2.2)) else Let (!x56.1) fun x85 => (bif x85 then Let (x56.2.1 == 1) fun x87 => (bif x87 then Chk ((0 : Int) ≤ 0 ∧ 0 < (x56.2.2.2.1.length : Int)) <| Let (lget x56.2.2.2.1 0) fun x94 => Let (decide ((x94.toNat : Int) < 128)) fun x95 => some x95 else some false).bind (fun x96 => (bif x96 then some (2, (x56.2.2.2.1, x56.2.2.2.2)) else Chk ((0 : Int) ≤ 0 ∧ 0 ≤ x56.2.1 ∧ x56.2.1 ≤ (x56.2.2.2.1.length : Int)) <| Let ((x56.2.2.2.1.take x56.2.1.toNat).drop 0) fun x108 => Let (([] : List (BitVec 8))) fun x102 => Chk ((x102.length + x108.length) * 1 ≤ 140737488355328) <| Let (x102 ++ x108) fun x109 => Let (([(false, x109, 0)] : List ((Bool) × (List (BitVec 8)) × (Int)))) fun x111 => Chk ((x56.2.2.2.2.length + x111.length) * 40 ≤ 140737488355328) <| Let (x56.2.2.2.2 ++ x111) fun x112 => Chk ((0 : Int) ≤ x56.2.1 ∧ x56.2.1 ≤ (x56.2.2.2.1.length : Int)) <| Let ((x56.2.2.2.1.take x56.2.2.2.1.length).drop x56.2.1.toNat) fun x121 => some (0, (x121, x112)))) else (rlp_reader_list F_rlp_reader_item (x56.2.2.2.1, x56.2.2.2.2) x56.2.1 a2).bind fun x127 => some (x127.1, (x127.2.1, x127.2.2))))))))
set_option maxRecDepth 100000 in
set_option maxHeartbeats 4000000 in
theorem rlp_reader_itemB.calls  (F_rlp_reader_item : ((List (BitVec 8)) × (List ((Bool) × (List (BitVec 8)) × (Int)))) → (Int) → (Int) → Option ((Int) × ((List (BitVec 8)) × (List ((Bool) × (List (BitVec 8)) × (Int)))))) (hF_rlp_reader_item : ∀ (a0 : (List (BitVec 8)) × (List ((Bool) × (List (BitVec 8)) × (Int)))) (a1 : Int) (a2 : Int) (g0 : Nat) (A0 : Option Addr) (c0 : Nat) (A0_1 : Option Addr) (c0_2 : Nat) (cs : List Value) (r : (Int) × ((List (BitVec 8)) × (List ((Bool) × (List (BitVec 8)) × (Int))))) (H : F_rlp_reader_item a0 a1 a2 = some r) {w0 : World} {Ex : List Nat} {h : Frag} {Lr : List Ent} {w : World} (hs0 : SlH h U8 A0 a0.1) (hc0 : a0.1.length ≤ c0) (hs0_3 : Shp A0_1 a0.2.length c0_2) (hr : RpL h R60 a0.2 cs)  (hM : Mm w0 Ex h ((.blk g0 105 ([(.slice A0 a0.1.length c0 : Value)] ++ ([(.slice A0_1 a0.2.length c0_2 : Value)])) 2) :: (.row (.slice A0_1 a0.2.length c0_2) 60 3 cs) :: Lr) w), Calls Try.prog 57 #[.pointer (some ⟨g0, 0, none⟩), .int .i64 a1, .int .i64 a2] w fun e w' => ∃ (g : (Frag) × (Option Addr) × (Nat) × (Option Addr) × (Nat) × (List Value)), e = .returned (.int .i64 r.1) ∧ (Sub h g.1 ∧ SlH g.1 U8 g.2.1 r.2.1 ∧ r.2.1.length ≤ g.2.2.1 ∧ Shp g.2.2.2.1 r.2.2.length g.2.2.2.2.1 ∧ RpL g.1 R60 r.2.2 g.2.2.2.2.2) ∧ Mm w0 Ex g.1 ((.blk g0 105 ([(.slice g.2.1 r.2.1.length g.2.2.1 : Value)] ++ ([(.slice g.2.2.2.1 r.2.2.length g.2.2.2.2.1 : Value)])) 2) :: (.row (.slice g.2.2.2.1 r.2.2.length g.2.2.2.2.1) 60 3 g.2.2.2.2.2) :: Lr) w') (a0 : (List (BitVec 8)) × (List ((Bool) × (List (BitVec 8)) × (Int)))) (a1 : Int) (a2 : Int) (g0 : Nat) (A0 : Option Addr) (c0 : Nat) (A0_1 : Option Addr) (c0_2 : Nat) (cs : List Value) (r : (Int) × ((List (BitVec 8)) × (List ((Bool) × (List (BitVec 8)) × (Int))))) (H : rlp_reader_itemB F_rlp_reader_item a0 a1 a2 = some r) {w0 : World} {Ex : List Nat} {h : Frag} {Lr : List Ent} {w : World} (hs0 : SlH h U8 A0 a0.1) (hc0 : a0.1.length ≤ c0) (hs0_3 : Shp A0_1 a0.2.length c0_2) (hr : RpL h R60 a0.2 cs)  (hM : Mm w0 Ex h ((.blk g0 105 ([(.slice A0 a0.1.length c0 : Value)] ++ ([(.slice A0_1 a0.2.length c0_2 : Value)])) 2) :: (.row (.slice A0_1 a0.2.length c0_2) 60 3 cs) :: Lr) w) :
    Calls Try.prog 57 #[.pointer (some ⟨g0, 0, none⟩), .int .i64 a1, .int .i64 a2] w fun e w' => ∃ (g : (Frag) × (Option Addr) × (Nat) × (Option Addr) × (Nat) × (List Value)), e = .returned (.int .i64 r.1) ∧ (Sub h g.1 ∧ SlH g.1 U8 g.2.1 r.2.1 ∧ r.2.1.length ≤ g.2.2.1 ∧ Shp g.2.2.2.1 r.2.2.length g.2.2.2.2.1 ∧ RpL g.1 R60 r.2.2 g.2.2.2.2.2) ∧ Mm w0 Ex g.1 ((.blk g0 105 ([(.slice g.2.1 r.2.1.length g.2.2.1 : Value)] ++ ([(.slice g.2.2.2.1 r.2.2.length g.2.2.2.2.1 : Value)])) 2) :: (.row (.slice g.2.2.2.1 r.2.2.length g.2.2.2.2.1) 60 3 g.2.2.2.2.2) :: Lr) w' := by
  unfold rlp_reader_itemB at H
  refine t_enter (vs := [.pointer (some ⟨g0, 0, none⟩), .int .i64 a1, .int .i64 a2]) (n := 128) Try.func57 rfl rfl rfl hM ?_
  clear hM
  change T 128 _ _ _
  refine t_seq ?_
  refine t_region (fun ops hops => ?_)
  clear hops
  refine z_val (v := .int .i64 0) (val_assign rfl rfl) rfl rfl rfl (fun _ _ _ => trivial) ?_
  refine z_nil ?_
  refine t_seq ?_
  refine t_seq ?_
  refine t_region (fun ops hops => ?_)
  clear hops
  refine z_val (v := .pointer (some ⟨g0, 0, none⟩)) (val_move rfl rfl) rfl rfl rfl (fun _ _ _ => trivial) ?_
  refine z_val (v := .pointer (some ⟨g0, 0, none⟩)) (val_nilCheck rfl rfl) rfl rfl rfl (fun _ _ _ => trivial) ?_
  refine z_val (v := .pointer (some ⟨g0, 0, none⟩)) (val_fld0 (sz := 1) rfl rfl Try.underlying105 rfl rfl sz25 (by decide)) rfl rfl rfl (fun _ _ _ => trivial) ?_
  refine z_val (v := .slice A0 a0.1.length c0) (val_load1 rfl rfl Try.underlying25 rfl (fun _ hw => hw.cell (j := 0) (q := 0) rfl (cells_here (k := 0) rfl))) rfl rfl rfl (fun _ _ _ => trivial) ?_
  obtain ⟨x15, hx15, H⟩ := Let_elim H
  refine z_val (v := .int .i64 x15) (by subst hx15; exact val_len rfl rfl rfl Try.underlying25) rfl rfl rfl (fun _ _ _ => trivial) ?_
  clear hx15
  obtain ⟨x16, hx16, H⟩ := Let_elim H
  refine z_val (v := .bool x16) (by subst hx16; exact val_bin rfl rfl rfl rfl (i64_eql _ _ _)) rfl rfl rfl (fun _ _ _ => trivial) ?_
  clear hx16
  refine z_nil ?_
  cases x16
  ·
    replace H := cond_f H
    refine t_cond_false rfl ?_
    refine t_skip ?_
    refine t_seq ?_
    refine t_region (fun ops hops => ?_)
    clear hops
    refine z_val (v := .pointer (some ⟨g0, 0, none⟩)) (val_move rfl rfl) rfl rfl rfl (fun _ _ _ => trivial) ?_
    refine z_val (v := .pointer (some ⟨g0, 0, none⟩)) (val_nilCheck rfl rfl) rfl rfl rfl (fun _ _ _ => trivial) ?_
    refine z_val (v := .pointer (some ⟨g0, 0, none⟩)) (val_fld0 (sz := 1) rfl rfl Try.underlying105 rfl rfl sz25 (by decide)) rfl rfl rfl (fun _ _ _ => trivial) ?_
    refine z_val (v := .slice A0 a0.1.length c0) (val_load1 rfl rfl Try.underlying25 rfl (fun _ hw => hw.cell (j := 0) (q := 0) rfl (cells_here (k := 0) rfl))) rfl rfl rfl (fun _ _ _ => trivial) ?_
    obtain ⟨x21, hx21, H⟩ := Let_elim H
    refine z_val (v := .int .i64 x21) (by subst hx21; exact val_len rfl rfl rfl Try.underlying25) rfl rfl rfl (fun _ _ _ => trivial) ?_
    clear hx21
    refine z_val (v := .int .i64 x21) (val_assign rfl rfl) rfl rfl rfl (fun _ _ _ => trivial) ?_
    refine z_nil ?_
    refine t_seq ?_
    refine t_seq ?_
    refine t_region (fun ops hops => ?_)
    clear hops
    refine z_val (v := .pointer (some ⟨g0, 0, none⟩)) (val_move rfl rfl) rfl rfl rfl (fun _ _ _ => trivial) ?_
    refine z_val (v := .pointer (some ⟨g0, 0, none⟩)) (val_nilCheck rfl rfl) rfl rfl rfl (fun _ _ _ => trivial) ?_
    refine z_val (v := .pointer (some ⟨g0, 0, none⟩)) (val_fld0 (sz := 1) rfl rfl Try.underlying105 rfl rfl sz25 (by decide)) rfl rfl rfl (fun _ _ _ => trivial) ?_
    refine z_val (v := .slice A0 a0.1.length c0) (val_load1 rfl rfl Try.underlying25 rfl (fun _ hw => hw.cell (j := 0) (q := 0) rfl (cells_here (k := 0) rfl))) rfl rfl rfl (fun _ _ _ => trivial) ?_
    obtain ⟨hq_6, H⟩ := Chk_elim H
    obtain ⟨b_7, o_8, hA_9, hc_10⟩ := hs0.at_ (idx_lt hq_6)
    refine z_val (v := .pointer (some ⟨b_7, o_8 + 0, none⟩)) (val_idxS0 rfl rfl rfl Try.underlying25 sz5 hq_6 hA_9 rfl) rfl rfl rfl (fun _ _ _ => trivial) ?_
    obtain ⟨x27, hx27, H⟩ := Let_elim H
    refine z_val (v := U8 x27) (by subst hx27; exact val_load1 rfl rfl Try.underlying5 rfl (fun _ hw => hc_10.cell hw)) rfl rfl rfl (fun _ _ _ => trivial) ?_
    clear hx27
    obtain ⟨x28, hx28, H⟩ := Let_elim H
    refine z_val (v := .bool x28) (by subst hx28; exact val_bin rfl rfl rfl rfl (u8_lss_r _ 128 x27)) rfl rfl rfl (fun _ _ _ => trivial) ?_
    clear hx28
    refine z_nil ?_
    cases x28
    ·
      replace H := cond_f H
      refine t_cond_false rfl ?_
      refine t_skip ?_
      refine t_seq ?_
      refine t_region (fun ops hops => ?_)
      clear hops
      refine z_val (v := .pointer (some ⟨g0, 0, none⟩)) (val_move rfl rfl) rfl rfl rfl (fun _ _ _ => trivial) ?_
      obtain ⟨x56, hx, H⟩ := Option.bind_eq_some_iff.1 H
      refine z_callG rfl Try.func78 nm78 bs78 rfl (fun w hw => rlp_reader_size.calls (a0.1, a0.2) g0 A0 c0 A0_1 c0_2 cs x56 hx hs0 hc0 hs0_3 hr hw) rfl rfl rfl (fun _ _ _ _ _ => trivial) (fun g hφ => ?_)
      obtain ⟨h_11, A_12, c_13, A_17, c_18, cs_20⟩ := g
      try dsimp only at hφ
      obtain ⟨hS, hs_14, hc_15, hs_19, hr_21⟩ := hφ
      clear hx
      change T 128 _ _ _
      replace hs0 := hs0.up hS
      replace hc_10 := hc_10.up hS
      refine z_val (v := .tuple #[.bool x56.1, .int .i64 x56.2.1, .int .i64 x56.2.2.1]) (val_move rfl rfl) rfl rfl rfl (fun _ _ _ => trivial) ?_
      refine z_val (v := .bool x56.1) (val_extract rfl rfl rfl) rfl rfl rfl (fun _ _ _ => trivial) ?_
      refine z_val (v := .int .i64 x56.2.1) (val_extract rfl rfl rfl) rfl rfl rfl (fun _ _ _ => trivial) ?_
      refine z_val (v := .int .i64 x56.2.2.1) (val_extract rfl rfl rfl) rfl rfl rfl (fun _ _ _ => trivial) ?_
      refine z_val (v := .bool x56.1) (val_assign rfl rfl) rfl rfl rfl (fun _ _ _ => trivial) ?_
      refine z_val (v := .int .i64 x56.2.1) (val_assign rfl rfl) rfl rfl rfl (fun _ _ _ => trivial) ?_
      refine z_val (v := .int .i64 x56.2.2.1) (val_assign rfl rfl) rfl rfl rfl (fun _ _ _ => trivial) ?_
      refine z_nil ?_
      refine t_seq ?_
      refine t_block ?_
      refine t_seq ?_
      refine t_region (fun ops hops => ?_)
      clear hops
      refine z_val (v := .int .i64 x56.2.2.1) (val_move rfl rfl) rfl rfl rfl (fun _ _ _ => trivial) ?_
      obtain ⟨x62, hx62, H⟩ := Let_elim H
      refine z_val (v := .bool x62) (by subst hx62; exact val_bin rfl rfl rfl rfl (i64_neq _ _ _)) rfl rfl rfl (fun _ _ _ => trivial) ?_
      clear hx62
      refine z_val (v := .bool x62) (val_assign rfl rfl) rfl rfl rfl (fun _ _ _ => trivial) ?_
      refine z_nil ?_
      cases x62
      ·
        replace H := cond_f H
        refine t_cond_false rfl ?_
        refine t_seq ?_
        refine t_region (fun ops hops => ?_)
        clear hops
        refine z_val (v := .int .i64 x56.2.1) (val_move rfl rfl) rfl rfl rfl (fun _ _ _ => trivial) ?_
        refine z_val (v := .pointer (some ⟨g0, 0, none⟩)) (val_move rfl rfl) rfl rfl rfl (fun _ _ _ => trivial) ?_
        refine z_val (v := .pointer (some ⟨g0, 0, none⟩)) (val_nilCheck rfl rfl) rfl rfl rfl (fun _ _ _ => trivial) ?_
        refine z_val (v := .pointer (some ⟨g0, 0, none⟩)) (val_fld0 (sz := 1) rfl rfl Try.underlying105 rfl rfl sz25 (by decide)) rfl rfl rfl (fun _ _ _ => trivial) ?_
        refine z_val (v := .slice A_12 x56.2.2.2.1.length c_13) (val_load1 rfl rfl Try.underlying25 rfl (fun _ hw => hw.cell (j := 0) (q := 0) rfl (cells_here (k := 0) rfl))) rfl rfl rfl (fun _ _ _ => trivial) ?_
        obtain ⟨x70, hx70, H⟩ := Let_elim H
        refine z_val (v := .int .i64 x70) (by subst hx70; exact val_len rfl rfl rfl Try.underlying25) rfl rfl rfl (fun _ _ _ => trivial) ?_
        clear hx70
        obtain ⟨x71, hx71, H⟩ := Let_elim H
        refine z_val (v := .bool x71) (by subst hx71; exact val_bin rfl rfl rfl rfl (i64_gtr _ _ _)) rfl rfl rfl (fun _ _ _ => trivial) ?_
        clear hx71
        refine z_val (v := .bool x71) (val_assign rfl rfl) rfl rfl rfl (fun _ _ _ => trivial) ?_
        refine z_nil ?_
        cases x71
        ·
          replace H := cond_f H
          refine t_cond_false rfl ?_
          refine t_seq ?_
          refine t_region (fun ops hops => ?_)
          clear hops
          refine z_val (v := .int .i64 x21) (val_move rfl rfl) rfl rfl rfl (fun _ _ _ => trivial) ?_
          refine z_val (v := .pointer (some ⟨g0, 0, none⟩)) (val_move rfl rfl) rfl rfl rfl (fun _ _ _ => trivial) ?_
          refine z_val (v := .pointer (some ⟨g0, 0, none⟩)) (val_nilCheck rfl rfl) rfl rfl rfl (fun _ _ _ => trivial) ?_
          refine z_val (v := .pointer (some ⟨g0, 0, none⟩)) (val_fld0 (sz := 1) rfl rfl Try.underlying105 rfl rfl sz25 (by decide)) rfl rfl rfl (fun _ _ _ => trivial) ?_
          refine z_val (v := .slice A_12 x56.2.2.2.1.length c_13) (val_load1 rfl rfl Try.underlying25 rfl (fun _ hw => hw.cell (j := 0) (q := 0) rfl (cells_here (k := 0) rfl))) rfl rfl rfl (fun _ _ _ => trivial) ?_
          obtain ⟨x78, hx78, H⟩ := Let_elim H
          refine z_val (v := .int .i64 x78) (by subst hx78; exact val_len rfl rfl rfl Try.underlying25) rfl rfl rfl (fun _ _ _ => trivial) ?_
          clear hx78
          obtain ⟨x79, hx79, H⟩ := Let_elim H
          refine z_val (v := .int .i64 x79) (by subst hx79; exact val_bin rfl rfl rfl rfl (i64_sub _ _ _)) rfl rfl rfl (fun _ _ _ => trivial) ?_
          clear hx79
          refine z_val (v := .int .i64 x56.2.1) (val_move rfl rfl) rfl rfl rfl (fun _ _ _ => trivial) ?_
          obtain ⟨x81, hx81, H⟩ := Let_elim H
          refine z_val (v := .int .i64 x81) (by subst hx81; exact val_bin rfl rfl rfl rfl (i64_add _ _ _)) rfl rfl rfl (fun _ _ _ => trivial) ?_
          clear hx81
          refine z_val (v := .int .i64 a1) (val_move rfl rfl) rfl rfl rfl (fun _ _ _ => trivial) ?_
          obtain ⟨x83, hx83, H⟩ := Let_elim H
          refine z_val (v := .bool x83) (by subst hx83; exact val_bin rfl rfl rfl rfl (i64_gtr _ _ _)) rfl rfl rfl (fun _ _ _ => trivial) ?_
          clear hx83
          refine z_val (v := .bool x83) (val_assign rfl rfl) rfl rfl rfl (fun _ _ _ => trivial) ?_
          refine z_nil ?_
          cases x83
          ·
            replace H := cond_f H
            refine t_cond_false rfl ?_
            refine t_skip ?_
            refine t_fin ?_
            refine t_seq ?_
            refine t_seq ?_
            refine t_region (fun ops hops => ?_)
            clear hops
            refine z_val (v := .bool x56.1) (val_move rfl rfl) rfl rfl rfl (fun _ _ _ => trivial) ?_
            obtain ⟨x85, hx85, H⟩ := Let_elim H
            refine z_val (v := .bool x85) (by subst hx85; exact val_un rfl rfl (bool_not _)) rfl rfl rfl (fun _ _ _ => trivial) ?_
            clear hx85
            refine z_nil ?_
            cases x85
            ·
              replace H := cond_f H
              refine t_cond_false rfl ?_
              refine t_skip ?_
              refine t_seq ?_
              refine t_region (fun ops hops => ?_)
              clear hops
              refine z_val (v := .pointer (some ⟨g0, 0, none⟩)) (val_move rfl rfl) rfl rfl rfl (fun _ _ _ => trivial) ?_
              refine z_val (v := .int .i64 x56.2.1) (val_move rfl rfl) rfl rfl rfl (fun _ _ _ => trivial) ?_
              refine z_val (v := .int .i64 a2) (val_move rfl rfl) rfl rfl rfl (fun _ _ _ => trivial) ?_
              obtain ⟨x127, hx_22, H⟩ := Option.bind_eq_some_iff.1 H
              refine z_callG rfl Try.func79 nm79 bs79 rfl (fun w hw => rlp_reader_list.calls F_rlp_reader_item hF_rlp_reader_item (x56.2.2.2.1, x56.2.2.2.2) x56.2.1 a2 g0 A_12 c_13 A_17 c_18 cs_20 x127 hx_22 hs_14 hc_15 hs_19 hr_21 hw) rfl rfl rfl (fun _ _ _ _ _ => trivial) (fun g hφ => ?_)
              obtain ⟨h_23, A_25, c_26, A_30, c_31, cs_33⟩ := g
              try dsimp only at hφ
              obtain ⟨hS_24, hs_27, hc_28, hs_32, hr_34⟩ := hφ
              clear hx_22
              change T 128 _ _ _
              replace hs0 := hs0.up hS_24
              replace hc_10 := hc_10.up hS_24
              replace hs_14 := hs_14.up hS_24
              refine z_val (v := .int .i64 x127.1) (val_assign rfl rfl) rfl rfl rfl (fun _ _ _ => trivial) ?_
              refine z_nil ?_
              refine t_ret ?_
              obtain rfl := Option.some.inj H
              exact ret1 rfl (res_tmp rfl) (fun _ hw => ⟨⟨h_23, A_25, c_26, A_30, c_31, cs_33⟩, rfl, ⟨(hS.trans hS_24), hs_27, hc_28, hs_32, hr_34⟩, hw⟩)
            ·
              replace H := cond_t H
              refine t_cond_true rfl ?_
              refine t_seq ?_
              refine t_seq ?_
              refine t_region (fun ops hops => ?_)
              refine z_val (v := .int .i64 x56.2.1) (val_move rfl rfl) rfl rfl rfl (fun _ _ _ => trivial) ?_
              obtain ⟨x87, hx87, H⟩ := Let_elim H
              refine z_val (v := .bool x87) (by subst hx87; exact val_bin rfl rfl rfl rfl (i64_eql _ _ _)) rfl rfl rfl (fun _ _ _ => trivial) ?_
              clear hx87
              refine z_val (v := .bool x87) (val_move rfl rfl) rfl rfl rfl (fun _ _ _ => trivial) ?_
              refine z_bind H 8 (fun (s : Bool) (_ : Unit) => [(0, .pointer (some ⟨g0, 0, none⟩)), (9, .int .i64 x56.2.1), (96, .bool s)]) (fun _ _ => Mm w0 Ex h_11 ((.blk g0 105 ([(.slice A_12 x56.2.2.2.1.length c_13 : Value)] ++ ([(.slice A_17 x56.2.2.2.2.length c_18 : Value)])) 2) :: (.row (.slice A_17 x56.2.2.2.2.length c_18) 60 3 cs_20) :: Lr)) (fun _ _ => True) (fun Gr K s he HJ => ?_) (fun s g HB _ => ?_)
              ·
                clear H
                cases x87
                ·
                  have H := cond_f he
                  clear he
                  refine z_skip rfl rfl (by rw [hops]; rfl) (fun _ _ _ => trivial) ?_
                  refine z_skip rfl rfl (by rw [hops]; rfl) (fun _ _ _ => trivial) ?_
                  refine z_skip rfl rfl (by rw [hops]; rfl) (fun _ _ _ => trivial) ?_
                  refine z_skip rfl rfl (by rw [hops]; rfl) (fun _ _ _ => trivial) ?_
                  refine z_skip rfl rfl (by rw [hops]; rfl) (fun _ _ _ => trivial) ?_
                  refine z_skip rfl rfl (by rw [hops]; rfl) (fun _ _ _ => trivial) ?_
                  refine z_skip rfl rfl (by rw [hops]; rfl) (fun _ _ _ => trivial) ?_
                  refine z_val (v := .bool false) (val_pick rfl rfl rfl) rfl rfl rfl (fun _ _ _ => trivial) ?_
                  obtain rfl := Option.some.inj H
                  exact z_nil ((K _ () HJ trivial).weak (fun a ha => ha.cons rfl (ha.cons rfl (ha.cons rfl (ha.nil)))) (fun w hw => hw))
                ·
                  have H := cond_t he
                  clear he
                  refine z_val (v := .pointer (some ⟨g0, 0, none⟩)) (val_move rfl rfl) rfl rfl (by rw [hops]; rfl) (fun _ _ _ => trivial) ?_
                  refine z_val (v := .pointer (some ⟨g0, 0, none⟩)) (val_nilCheck rfl rfl) rfl rfl (by rw [hops]; rfl) (fun _ _ _ => trivial) ?_
                  refine z_val (v := .pointer (some ⟨g0, 0, none⟩)) (val_fld0 (sz := 1) rfl rfl Try.underlying105 rfl rfl sz25 (by decide)) rfl rfl (by rw [hops]; rfl) (fun _ _ _ => trivial) ?_
                  refine z_val (v := .slice A_12 x56.2.2.2.1.length c_13) (val_load1 rfl rfl Try.underlying25 rfl (fun _ hw => hw.cell (j := 0) (q := 0) rfl (cells_here (k := 0) rfl))) rfl rfl (by rw [hops]; rfl) (fun _ _ _ => trivial) ?_
                  obtain ⟨hq_35, H⟩ := Chk_elim H
                  obtain ⟨b_36, o_37, hA_38, hc_39⟩ := hs_14.at_ (idx_lt hq_35)
                  refine z_val (v := .pointer (some ⟨b_36, o_37 + 0, none⟩)) (val_idxS0 rfl rfl rfl Try.underlying25 sz5 hq_35 hA_38 rfl) rfl rfl (by rw [hops]; rfl) (fun _ _ _ => trivial) ?_
                  obtain ⟨x94, hx94, H⟩ := Let_elim H
                  refine z_val (v := U8 x94) (by subst hx94; exact val_load1 rfl rfl Try.underlying5 rfl (fun _ hw => hc_39.cell hw)) rfl rfl (by rw [hops]; rfl) (fun _ _ _ => trivial) ?_
                  clear hx94
                  obtain ⟨x95, hx95, H⟩ := Let_elim H
                  refine z_val (v := .bool x95) (by subst hx95; exact val_bin rfl rfl rfl rfl (u8_lss_r _ 128 x94)) rfl rfl (by rw [hops]; rfl) (fun _ _ _ => trivial) ?_
                  clear hx95
                  refine z_val (v := .bool x95) (val_pick rfl rfl rfl) rfl rfl rfl (fun _ _ _ => trivial) ?_
                  obtain rfl := Option.some.inj H
                  exact z_nil ((K _ () HJ trivial).weak (fun a ha => ha.cons rfl (ha.cons rfl (ha.cons rfl (ha.nil)))) (fun w hw => hw))
              ·
                replace H := HB
                clear HB
                obtain ⟨x96, rfl⟩ : ∃ x, x = s := ⟨_, rfl⟩
                change T 128 _ _ _
                refine z_nil ?_
                cases x96
                ·
                  replace H := cond_f H
                  refine t_cond_false rfl ?_
                  refine t_skip ?_
                  refine t_seq ?_
                  refine t_plan (C := Mm w0 Ex h_11 ((.blk g0 105 ([(.slice A_12 x56.2.2.2.1.length c_13 : Value)] ++ ([(.slice A_17 x56.2.2.2.2.length c_18 : Value)])) 2) :: Lr)) [18] [(0, true), (1, true), (2, true), (3, true), (4, true), (6, true), (7, true), (8, true), (9, true), (10, true), (11, true), (5, false), (12, false), (13, true), (14, false), (15, false), (16, false), (17, true), (18, false)] (by kernel_rfl) (by kernel_rfl) (fun _ hw => hw.drew) (fun ops hops => ?_)
                  clear hops
                  refine z_still (v := .pointer (some ⟨g0, 0, none⟩)) (val_move rfl rfl) rfl rfl rfl (fun _ hw => hw.selK 2 [0] rfl rfl) ?_
                  refine z_still (v := .pointer (some ⟨g0, 0, none⟩)) (val_move rfl rfl) rfl rfl rfl (fun _ hw => hw.selK 2 [0] rfl rfl) ?_
                  refine z_still (v := .pointer (some ⟨g0, 0, none⟩)) (val_nilCheck rfl rfl) rfl rfl rfl (fun _ hw => hw.selK 2 [0] rfl rfl) ?_
                  refine z_still (v := .pointer (some ⟨g0, 1, none⟩)) (val_fld0 (sz := 1) rfl rfl Try.underlying105 rfl rfl sz46 (by decide)) rfl rfl rfl (fun _ hw => hw.selK 2 [0] rfl rfl) ?_
                  refine z_still (v := .slice A_17 x56.2.2.2.2.length c_18) (val_load1 rfl rfl Try.underlying46 rfl (fun _ hw => hw.cell (j := 0) (q := 1) rfl (cells_skip (n := 1) (k := 0) rfl rfl))) rfl rfl rfl (fun _ hw => hw.selK 2 [0] rfl rfl) ?_
                  refine z_still (v := .pointer (some ⟨g0, 0, none⟩)) (val_move rfl rfl) rfl rfl rfl (fun _ hw => hw.selK 2 [0] rfl rfl) ?_
                  refine z_still (v := .pointer (some ⟨g0, 0, none⟩)) (val_nilCheck rfl rfl) rfl rfl rfl (fun _ hw => hw.selK 2 [0] rfl rfl) ?_
                  refine z_still (v := .pointer (some ⟨g0, 0, none⟩)) (val_fld0 (sz := 1) rfl rfl Try.underlying105 rfl rfl sz25 (by decide)) rfl rfl rfl (fun _ hw => hw.selK 2 [0] rfl rfl) ?_
                  refine z_still (v := .slice A_12 x56.2.2.2.1.length c_13) (val_load1 rfl rfl Try.underlying25 rfl (fun _ hw => hw.cell (j := 0) (q := 0) rfl (cells_here (k := 0) rfl))) rfl rfl rfl (fun _ hw => hw.selK 2 [0] rfl rfl) ?_
                  refine z_still (v := .int .i64 x56.2.1) (val_move rfl rfl) rfl rfl rfl (fun _ hw => hw.selK 2 [0] rfl rfl) ?_
                  obtain ⟨hq_40, H⟩ := Chk_elim H
                  obtain ⟨x108, hx108, H⟩ := Let_elim H
                  obtain ⟨A_41, hA_45⟩ : ∃ z, z = (if c_13 = 0 then A_12 else A_12.map (·.add (0 * 1))) := ⟨_, rfl⟩
                  obtain ⟨c_42, hc_440⟩ : ∃ z, z = c_13 - 0 := ⟨_, rfl⟩
                  have hl : x108.length = x56.2.1.toNat - 0 := by subst hx108; exact cut_len (by omega) (by omega)
                  have hs_43 : SlH h_11 U8 A_41 x108 := by subst hA_45 hx108; exact hs_14.cut (by omega) hc_15
                  have hc_44 : x108.length ≤ c_42 := by have := hc_15; omega
                  refine z_still (v := .slice A_41 x108.length c_42) (val_sliceHz rfl rfl rfl Try.underlying25 sz5 (by omega) (by have := hc_15; omega) (by rw [hl, hA_45, hc_440])) rfl rfl rfl (fun _ hw => hw.selK 2 [0] rfl rfl) ?_
                  clear hl hA_45 hc_440 hx108
                  obtain ⟨x102, hx102, H⟩ := Let_elim H
                  have hlx102 : x102.length = 0 := by subst hx102; rfl
                  refine z_buildSlice' (e := 5) (f := U8) (xs := x102) (vs := []) rfl rfl (by subst hx102; intro w; kernel_rfl) hlx102 (by decide) rfl rfl rfl (fun _ _ _ hw => hw.selK 3 [1] rfl rfl) (fun g_46 hs_48 => ?_)
                  clear hx102 hlx102
                  obtain ⟨hq_49, H⟩ := Chk_elim H
                  obtain ⟨x109, hx109, H⟩ := Let_elim H
                  refine z_append (f := U8) (j := 0) (xs := x102) (ys := x108) (zs := x109) rfl rfl Try.underlying25 in5 rfl rfl rfl rfl (fun w hw => (hs_43.toW hw)) (fun _ => rfl) hq_49 (by decide) hx109 (fun A_50 c_51 => (.row (.slice A_50 x109.length c_51) 5 1 (x109.map U8)) :: (.blk g0 105 ([(.slice A_12 x56.2.2.2.1.length c_13 : Value)] ++ ([(.slice A_17 x56.2.2.2.2.length c_18 : Value)])) 2) :: (.row (.slice A_17 x56.2.2.2.2.length c_18) 60 3 cs_20) :: Lr) (fun _ _ => rfl) rfl rfl rfl (fun _ _ _ _ hw => hw.selK 3 [1] rfl rfl) (fun A_50 c_51 hs_52 => ?_)
                  clear hx109
                  refine t_seal (fun h_53 hS_54 hs_55 => ?_)
                  have hc_56 := hs_52.le
                  replace hr_21 := RpL.up hS_54 hr_21
                  replace hs_14 := hs_14.up hS_54
                  replace hs_43 := hs_43.up hS_54
                  refine z_still (v := .agg ([(.bool false : Value)] ++ ([(.slice A_50 x109.length c_51 : Value)] ++ ([(.int .i64 0 : Value)]))).toArray) (val_build (vs := [(1, .slice A_50 x109.length c_51)]) rfl rfl (fun w => by kernel_rfl)) rfl rfl rfl (fun _ hw => (hw.frag hS_54).selK 2 [0] rfl rfl) ?_
                  obtain ⟨x111, hx111, H⟩ := Let_elim H
                  have hlx111 : x111.length = 1 := by subst hx111; rfl
                  have hr_57 : RpL h_53 R60 x111 (([(.bool false : Value)] ++ ([(.slice A_50 x109.length c_51 : Value)] ++ ([(.int .i64 0 : Value)]))) ++ (([] : List Value))) := by subst hx111; exact ⟨_, _, rfl, ⟨A_50, c_51, rfl, hs_55, hc_56⟩, rfl⟩
                  refine z_buildR (e := 60) (cs := ([(.bool false : Value)] ++ ([(.slice A_50 x109.length c_51 : Value)] ++ ([(.int .i64 0 : Value)]))) ++ (([] : List Value))) (xs := x111) (vs := [(0, .agg ([(.bool false : Value)] ++ ([(.slice A_50 x109.length c_51 : Value)] ++ ([(.int .i64 0 : Value)]))).toArray)]) rfl rfl (by intro w; kernel_rfl) hlx111 hr_57.len (by decide) rfl rfl rfl (fun _ _ _ hw => (hw.frag hS_54).selK 3 [1] rfl rfl) (fun g_58 hs_60 => ?_)
                  generalize (([(.bool false : Value)] ++ ([(.slice A_50 x109.length c_51 : Value)] ++ ([(.int .i64 0 : Value)]))) ++ (([] : List Value))) = cs_61 at *
                  clear hx111 hlx111
                  obtain ⟨hq_62, H⟩ := Chk_elim H
                  obtain ⟨x112, hx112, H⟩ := Let_elim H
                  refine z_appendR (R := R60) (j := 2) (xs := x56.2.2.2.2) (ys := x111) (zs := x112) rfl rfl Try.underlying46 in60 rfl rfl (by decide) rfl rfl hr_21 rfl (fun w hw => own_rd hw (j := 0) rfl hr_57 hs_60) hq_62 (by decide) hx112 (fun A_63 c_64 cs_66 => (.row (.slice (some ⟨g_58, 0, none⟩) x111.length 1) 60 3 cs_61) :: (.blk g0 105 ([(.slice A_12 x56.2.2.2.1.length c_13 : Value)] ++ ([(.slice A_17 x56.2.2.2.2.length c_18 : Value)])) 2) :: (.row (.slice A_63 x112.length c_64) 60 3 cs_66) :: Lr) (fun _ _ _ => rfl) rfl rfl rfl (fun _ _ _ _ _ hw => (hw.frag hS_54).selK 3 [1] rfl rfl) (fun A_63 c_64 cs_66 hs_65 hr_67 => ?_)
                  clear hx112
                  refine z_val (v := .pointer (some ⟨g0, 0, none⟩)) (val_nilCheck rfl rfl) rfl rfl rfl (fun _ _ hw => (hw.frag hS_54).selK 3 [1] rfl rfl) ?_
                  refine z_still (v := .pointer (some ⟨g0, 1, none⟩)) (val_fld0 (sz := 1) rfl rfl Try.underlying105 rfl rfl sz46 (by decide)) rfl rfl rfl (fun _ hw => (hw.frag hS_54).selK 3 [1] rfl rfl) ?_
                  refine z_store1 (j := 1) (cs' := [(.slice A_12 x56.2.2.2.1.length c_13 : Value)] ++ ([(.slice A_63 x112.length c_64 : Value)])) (L' := (.row (.slice (some ⟨g_58, 0, none⟩) x111.length 1) 60 3 cs_61) :: (.blk g0 105 ([(.slice A_12 x56.2.2.2.1.length c_13 : Value)] ++ ([(.slice A_63 x112.length c_64 : Value)])) 2) :: (.row (.slice A_63 x112.length c_64) 60 3 cs_66) :: Lr) rfl rfl rfl rfl rfl sz46 rfl (by simp [cV_len]) (set_skip (n := 1) (k := 0) rfl rfl) rfl rfl rfl (fun hb => absurd hb (by decide)) ?_
                  refine z_nil ?_
                  refine t_seq ?_
                  refine t_region (fun ops hops => ?_)
                  clear hops
                  refine z_val (v := .pointer (some ⟨g0, 0, none⟩)) (val_move rfl rfl) rfl rfl rfl (fun _ _ _ => trivial) ?_
                  refine z_val (v := .pointer (some ⟨g0, 0, none⟩)) (val_move rfl rfl) rfl rfl rfl (fun _ _ _ => trivial) ?_
                  refine z_val (v := .pointer (some ⟨g0, 0, none⟩)) (val_nilCheck rfl rfl) rfl rfl rfl (fun _ _ _ => trivial) ?_
                  refine z_val (v := .pointer (some ⟨g0, 0, none⟩)) (val_fld0 (sz := 1) rfl rfl Try.underlying105 rfl rfl sz25 (by decide)) rfl rfl rfl (fun _ _ _ => trivial) ?_
                  refine z_val (v := .slice A_12 x56.2.2.2.1.length c_13) (val_load1 rfl rfl Try.underlying25 rfl (fun _ hw => hw.cell (j := 1) (q := 0) rfl (cells_here (k := 0) rfl))) rfl rfl rfl (fun _ _ _ => trivial) ?_
                  refine z_val (v := .int .i64 x56.2.1) (val_move rfl rfl) rfl rfl rfl (fun _ _ _ => trivial) ?_
                  obtain ⟨hq_68, H⟩ := Chk_elim H
                  obtain ⟨x121, hx121, H⟩ := Let_elim H
                  obtain ⟨A_69, hA_73⟩ : ∃ z, z = (if c_13 = x56.2.1.toNat then A_12 else A_12.map (·.add (x56.2.1.toNat * 1))) := ⟨_, rfl⟩
                  obtain ⟨c_70, hc_720⟩ : ∃ z, z = c_13 - x56.2.1.toNat := ⟨_, rfl⟩
                  have hl_74 : x121.length = x56.2.2.2.1.length - x56.2.1.toNat := by subst hx121; exact cut_len (by omega) (by omega)
                  have hs_71 : SlH h_53 U8 A_69 x121 := by subst hA_73 hx121; exact hs_14.cut (by omega) hc_15
                  have hc_72 : x121.length ≤ c_70 := by have := hc_15; omega
                  refine z_val (v := .slice A_69 x121.length c_70) (val_sliceLz rfl rfl rfl Try.underlying25 sz5 hq_68.1 hq_68.2 (by rw [hl_74, hA_73, hc_720])) rfl rfl rfl (fun _ _ _ => trivial) ?_
                  clear hl_74 hA_73 hc_720 hx121
                  refine z_val (v := .pointer (some ⟨g0, 0, none⟩)) (val_nilCheck rfl rfl) rfl rfl rfl (fun _ _ _ => trivial) ?_
                  refine z_val (v := .pointer (some ⟨g0, 0, none⟩)) (val_fld0 (sz := 1) rfl rfl Try.underlying105 rfl rfl sz25 (by decide)) rfl rfl rfl (fun _ _ _ => trivial) ?_
                  refine z_store1 (j := 1) (cs' := [(.slice A_69 x121.length c_70 : Value)] ++ ([(.slice A_63 x112.length c_64 : Value)])) (L' := (.row (.slice (some ⟨g_58, 0, none⟩) x111.length 1) 60 3 cs_61) :: (.blk g0 105 ([(.slice A_69 x121.length c_70 : Value)] ++ ([(.slice A_63 x112.length c_64 : Value)])) 2) :: (.row (.slice A_63 x112.length c_64) 60 3 cs_66) :: Lr) rfl rfl rfl rfl rfl sz25 rfl (by simp [cV_len]) rfl rfl rfl rfl (fun _ _ _ => trivial) ?_
                  refine z_nil ?_
                  refine t_seq ?_
                  refine t_region (fun ops hops => ?_)
                  clear hops
                  refine z_val (v := .int .i64 0) (val_assign rfl rfl) rfl rfl rfl (fun _ _ _ => trivial) ?_
                  refine z_nil ?_
                  refine t_ret ?_
                  obtain rfl := Option.some.inj H
                  exact ret1 rfl (res_tmp rfl) (fun _ hw => ⟨⟨h_53, A_69, c_70, A_63, c_64, cs_66⟩, rfl, ⟨(hS.trans hS_54), hs_71, hc_72, hs_65, hr_67⟩, hw.selK 3 [1, 2] rfl rfl⟩)
                ·
                  replace H := cond_t H
                  refine t_cond_true rfl ?_
                  refine t_seq ?_
                  refine t_region (fun ops hops => ?_)
                  clear hops
                  refine z_val (v := .int .i64 2) (val_assign rfl rfl) rfl rfl rfl (fun _ _ _ => trivial) ?_
                  refine z_nil ?_
                  refine t_ret ?_
                  obtain rfl := Option.some.inj H
                  exact ret1 rfl (res_tmp rfl) (fun _ hw => ⟨⟨h_11, A_12, c_13, A_17, c_18, cs_20⟩, rfl, ⟨hS, hs_14, hc_15, hs_19, hr_21⟩, hw⟩)
          ·
            replace H := cond_t H
            refine t_cond_true rfl ?_
            refine t_seq ?_
            refine t_region (fun ops hops => ?_)
            clear hops
            refine z_val (v := .int .i64 2) (val_assign rfl rfl) rfl rfl rfl (fun _ _ _ => trivial) ?_
            refine z_nil ?_
            refine t_ret ?_
            obtain rfl := Option.some.inj H
            exact ret1 rfl (res_tmp rfl) (fun _ hw => ⟨⟨h_11, A_12, c_13, A_17, c_18, cs_20⟩, rfl, ⟨hS, hs_14, hc_15, hs_19, hr_21⟩, hw⟩)
        ·
          replace H := cond_t H
          refine t_cond_true rfl ?_
          refine t_seq ?_
          refine t_region (fun ops hops => ?_)
          clear hops
          refine z_val (v := .int .i64 3) (val_assign rfl rfl) rfl rfl rfl (fun _ _ _ => trivial) ?_
          refine z_nil ?_
          refine t_ret ?_
          obtain rfl := Option.some.inj H
          exact ret1 rfl (res_tmp rfl) (fun _ hw => ⟨⟨h_11, A_12, c_13, A_17, c_18, cs_20⟩, rfl, ⟨hS, hs_14, hc_15, hs_19, hr_21⟩, hw⟩)
      ·
        replace H := cond_t H
        refine t_cond_true rfl ?_
        refine t_seq ?_
        refine t_region (fun ops hops => ?_)
        clear hops
        refine z_val (v := .int .i64 x56.2.2.1) (val_move rfl rfl) rfl rfl rfl (fun _ _ _ => trivial) ?_
        refine z_val (v := .int .i64 x56.2.2.1) (val_assign rfl rfl) rfl rfl rfl (fun _ _ _ => trivial) ?_
        refine z_nil ?_
        refine t_ret ?_
        obtain rfl := Option.some.inj H
        exact ret1 rfl (res_tmp rfl) (fun _ hw => ⟨⟨h_11, A_12, c_13, A_17, c_18, cs_20⟩, rfl, ⟨hS, hs_14, hc_15, hs_19, hr_21⟩, hw⟩)
    ·
      replace H := cond_t H
      refine t_cond_true rfl ?_
      refine t_seq ?_
      refine t_plan (C := Mm w0 Ex h ((.blk g0 105 ([(.slice A0 a0.1.length c0 : Value)] ++ ([(.slice A0_1 a0.2.length c0_2 : Value)])) 2) :: Lr)) [17] [(0, true), (1, true), (2, true), (3, true), (4, true), (5, true), (6, true), (7, true), (8, true), (9, true), (10, true), (11, false), (12, true), (13, false), (14, false), (15, false), (16, true), (17, false)] (by kernel_rfl) (by kernel_rfl) (fun _ hw => hw.drew) (fun ops hops => ?_)
      clear hops
      refine z_still (v := .pointer (some ⟨g0, 0, none⟩)) (val_move rfl rfl) rfl rfl rfl (fun _ hw => hw.selK 2 [0] rfl rfl) ?_
      refine z_still (v := .pointer (some ⟨g0, 0, none⟩)) (val_move rfl rfl) rfl rfl rfl (fun _ hw => hw.selK 2 [0] rfl rfl) ?_
      refine z_still (v := .pointer (some ⟨g0, 0, none⟩)) (val_nilCheck rfl rfl) rfl rfl rfl (fun _ hw => hw.selK 2 [0] rfl rfl) ?_
      refine z_still (v := .pointer (some ⟨g0, 1, none⟩)) (val_fld0 (sz := 1) rfl rfl Try.underlying105 rfl rfl sz46 (by decide)) rfl rfl rfl (fun _ hw => hw.selK 2 [0] rfl rfl) ?_
      refine z_still (v := .slice A0_1 a0.2.length c0_2) (val_load1 rfl rfl Try.underlying46 rfl (fun _ hw => hw.cell (j := 0) (q := 1) rfl (cells_skip (n := 1) (k := 0) rfl rfl))) rfl rfl rfl (fun _ hw => hw.selK 2 [0] rfl rfl) ?_
      refine z_still (v := .pointer (some ⟨g0, 0, none⟩)) (val_move rfl rfl) rfl rfl rfl (fun _ hw => hw.selK 2 [0] rfl rfl) ?_
      refine z_still (v := .pointer (some ⟨g0, 0, none⟩)) (val_nilCheck rfl rfl) rfl rfl rfl (fun _ hw => hw.selK 2 [0] rfl rfl) ?_
      refine z_still (v := .pointer (some ⟨g0, 0, none⟩)) (val_fld0 (sz := 1) rfl rfl Try.underlying105 rfl rfl sz25 (by decide)) rfl rfl rfl (fun _ hw => hw.selK 2 [0] rfl rfl) ?_
      refine z_still (v := .slice A0 a0.1.length c0) (val_load1 rfl rfl Try.underlying25 rfl (fun _ hw => hw.cell (j := 0) (q := 0) rfl (cells_here (k := 0) rfl))) rfl rfl rfl (fun _ hw => hw.selK 2 [0] rfl rfl) ?_
      obtain ⟨hq_75, H⟩ := Chk_elim H
      obtain ⟨b_76, o_77, hA_78, hc_79⟩ := hs0.at_ (idx_lt hq_75)
      refine z_still (v := .pointer (some ⟨b_76, o_77 + 0, none⟩)) (val_idxS0 rfl rfl rfl Try.underlying25 sz5 hq_75 hA_78 rfl) rfl rfl rfl (fun _ hw => hw.selK 2 [0] rfl rfl) ?_
      obtain ⟨x39, hx39, H⟩ := Let_elim H
      refine z_still (v := U8 x39) (by subst hx39; exact val_load1 rfl rfl Try.underlying5 rfl (fun _ hw => hc_79.cell hw)) rfl rfl rfl (fun _ hw => hw.selK 2 [0] rfl rfl) ?_
      clear hx39
      obtain ⟨x40, hx40, H⟩ := Let_elim H
      have hlx40 : x40.length = 1 := by subst hx40; rfl
      refine z_buildSlice' (e := 5) (f := U8) (xs := x40) (vs := [(0, U8 x39)]) rfl rfl (by subst hx40; intro w; kernel_rfl) hlx40 (by decide) rfl rfl rfl (fun _ _ _ hw => hw.selK 3 [1] rfl rfl) (fun g_80 hs_82 => ?_)
      clear hx40 hlx40
      refine t_seal (fun h_83 hS_84 hs_85 => ?_)
      have hc_86 := hs_82.le
      replace hs0 := hs0.up hS_84
      replace hc_10 := hc_10.up hS_84
      replace hr := RpL.up hS_84 hr
      replace hc_79 := hc_79.up hS_84
      refine z_still (v := .agg ([(.bool false : Value)] ++ ([(.slice (some ⟨g_80, 0, none⟩) x40.length 1 : Value)] ++ ([(.int .i64 0 : Value)]))).toArray) (val_build (vs := [(1, .slice (some ⟨g_80, 0, none⟩) x40.length 1)]) rfl rfl (fun w => by kernel_rfl)) rfl rfl rfl (fun _ hw => (hw.frag hS_84).selK 2 [0] rfl rfl) ?_
      obtain ⟨x42, hx42, H⟩ := Let_elim H
      have hlx42 : x42.length = 1 := by subst hx42; rfl
      have hr_87 : RpL h_83 R60 x42 (([(.bool false : Value)] ++ ([(.slice (some ⟨g_80, 0, none⟩) x40.length 1 : Value)] ++ ([(.int .i64 0 : Value)]))) ++ (([] : List Value))) := by subst hx42; exact ⟨_, _, rfl, ⟨((some ⟨g_80, 0, none⟩)), 1, rfl, hs_85, hc_86⟩, rfl⟩
      refine z_buildR (e := 60) (cs := ([(.bool false : Value)] ++ ([(.slice (some ⟨g_80, 0, none⟩) x40.length 1 : Value)] ++ ([(.int .i64 0 : Value)]))) ++ (([] : List Value))) (xs := x42) (vs := [(0, .agg ([(.bool false : Value)] ++ ([(.slice (some ⟨g_80, 0, none⟩) x40.length 1 : Value)] ++ ([(.int .i64 0 : Value)]))).toArray)]) rfl rfl (by intro w; kernel_rfl) hlx42 hr_87.len (by decide) rfl rfl rfl (fun _ _ _ hw => (hw.frag hS_84).selK 3 [1] rfl rfl) (fun g_88 hs_90 => ?_)
      generalize (([(.bool false : Value)] ++ ([(.slice (some ⟨g_80, 0, none⟩) x40.length 1 : Value)] ++ ([(.int .i64 0 : Value)]))) ++ (([] : List Value))) = cs_91 at *
      clear hx42 hlx42
      obtain ⟨hq_92, H⟩ := Chk_elim H
      obtain ⟨x43, hx43, H⟩ := Let_elim H
      refine z_appendR (R := R60) (j := 2) (xs := a0.2) (ys := x42) (zs := x43) rfl rfl Try.underlying46 in60 rfl rfl (by decide) rfl rfl hr rfl (fun w hw => own_rd hw (j := 0) rfl hr_87 hs_90) hq_92 (by decide) hx43 (fun A_93 c_94 cs_96 => (.row (.slice (some ⟨g_88, 0, none⟩) x42.length 1) 60 3 cs_91) :: (.blk g0 105 ([(.slice A0 a0.1.length c0 : Value)] ++ ([(.slice A0_1 a0.2.length c0_2 : Value)])) 2) :: (.row (.slice A_93 x43.length c_94) 60 3 cs_96) :: Lr) (fun _ _ _ => rfl) rfl rfl rfl (fun _ _ _ _ _ hw => (hw.frag hS_84).selK 3 [1] rfl rfl) (fun A_93 c_94 cs_96 hs_95 hr_97 => ?_)
      clear hx43
      refine z_val (v := .pointer (some ⟨g0, 0, none⟩)) (val_nilCheck rfl rfl) rfl rfl rfl (fun _ _ hw => (hw.frag hS_84).selK 3 [1] rfl rfl) ?_
      refine z_still (v := .pointer (some ⟨g0, 1, none⟩)) (val_fld0 (sz := 1) rfl rfl Try.underlying105 rfl rfl sz46 (by decide)) rfl rfl rfl (fun _ hw => (hw.frag hS_84).selK 3 [1] rfl rfl) ?_
      refine z_store1 (j := 1) (cs' := [(.slice A0 a0.1.length c0 : Value)] ++ ([(.slice A_93 x43.length c_94 : Value)])) (L' := (.row (.slice (some ⟨g_88, 0, none⟩) x42.length 1) 60 3 cs_91) :: (.blk g0 105 ([(.slice A0 a0.1.length c0 : Value)] ++ ([(.slice A_93 x43.length c_94 : Value)])) 2) :: (.row (.slice A_93 x43.length c_94) 60 3 cs_96) :: Lr) rfl rfl rfl rfl rfl sz46 rfl (by simp [cV_len]) (set_skip (n := 1) (k := 0) rfl rfl) rfl rfl rfl (fun hb => absurd hb (by decide)) ?_
      refine z_nil ?_
      refine t_seq ?_
      refine t_region (fun ops hops => ?_)
      clear hops
      refine z_val (v := .pointer (some ⟨g0, 0, none⟩)) (val_move rfl rfl) rfl rfl rfl (fun _ _ _ => trivial) ?_
      refine z_val (v := .pointer (some ⟨g0, 0, none⟩)) (val_move rfl rfl) rfl rfl rfl (fun _ _ _ => trivial) ?_
      refine z_val (v := .pointer (some ⟨g0, 0, none⟩)) (val_nilCheck rfl rfl) rfl rfl rfl (fun _ _ _ => trivial) ?_
      refine z_val (v := .pointer (some ⟨g0, 0, none⟩)) (val_fld0 (sz := 1) rfl rfl Try.underlying105 rfl rfl sz25 (by decide)) rfl rfl rfl (fun _ _ _ => trivial) ?_
      refine z_val (v := .slice A0 a0.1.length c0) (val_load1 rfl rfl Try.underlying25 rfl (fun _ hw => hw.cell (j := 1) (q := 0) rfl (cells_here (k := 0) rfl))) rfl rfl rfl (fun _ _ _ => trivial) ?_
      obtain ⟨hq_98, H⟩ := Chk_elim H
      obtain ⟨x51, hx51, H⟩ := Let_elim H
      obtain ⟨A_99, hA_103⟩ : ∃ z, z = (if c0 = (1 : Int).toNat then A0 else A0.map (·.add ((1 : Int).toNat * 1))) := ⟨_, rfl⟩
      obtain ⟨c_100, hc_1020⟩ : ∃ z, z = c0 - (1 : Int).toNat := ⟨_, rfl⟩
      have hl_104 : x51.length = a0.1.length - (1 : Int).toNat := by subst hx51; exact cut_len (by omega) (by omega)
      have hs_101 : SlH h_83 U8 A_99 x51 := by subst hA_103 hx51; exact hs0.cut (by omega) hc0
      have hc_102 : x51.length ≤ c_100 := by have := hc0; omega
      refine z_val (v := .slice A_99 x51.length c_100) (val_sliceLz rfl rfl rfl Try.underlying25 sz5 hq_98.1 hq_98.2 (by rw [hl_104, hA_103, hc_1020])) rfl rfl rfl (fun _ _ _ => trivial) ?_
      clear hl_104 hA_103 hc_1020 hx51
      refine z_val (v := .pointer (some ⟨g0, 0, none⟩)) (val_nilCheck rfl rfl) rfl rfl rfl (fun _ _ _ => trivial) ?_
      refine z_val (v := .pointer (some ⟨g0, 0, none⟩)) (val_fld0 (sz := 1) rfl rfl Try.underlying105 rfl rfl sz25 (by decide)) rfl rfl rfl (fun _ _ _ => trivial) ?_
      refine z_store1 (j := 1) (cs' := [(.slice A_99 x51.length c_100 : Value)] ++ ([(.slice A_93 x43.length c_94 : Value)])) (L' := (.row (.slice (some ⟨g_88, 0, none⟩) x42.length 1) 60 3 cs_91) :: (.blk g0 105 ([(.slice A_99 x51.length c_100 : Value)] ++ ([(.slice A_93 x43.length c_94 : Value)])) 2) :: (.row (.slice A_93 x43.length c_94) 60 3 cs_96) :: Lr) rfl rfl rfl rfl rfl sz25 rfl (by simp [cV_len]) rfl rfl rfl rfl (fun _ _ _ => trivial) ?_
      refine z_nil ?_
      refine t_seq ?_
      refine t_region (fun ops hops => ?_)
      clear hops
      refine z_val (v := .int .i64 0) (val_assign rfl rfl) rfl rfl rfl (fun _ _ _ => trivial) ?_
      refine z_nil ?_
      refine t_ret ?_
      obtain rfl := Option.some.inj H
      exact ret1 rfl (res_tmp rfl) (fun _ hw => ⟨⟨h_83, A_99, c_100, A_93, c_94, cs_96⟩, rfl, ⟨hS_84, hs_101, hc_102, hs_95, hr_97⟩, hw.selK 3 [1, 2] rfl rfl⟩)
  ·
    replace H := cond_t H
    refine t_cond_true rfl ?_
    refine t_seq ?_
    refine t_region (fun ops hops => ?_)
    clear hops
    refine z_val (v := .int .i64 3) (val_assign rfl rfl) rfl rfl rfl (fun _ _ _ => trivial) ?_
    refine z_nil ?_
    refine t_ret ?_
    obtain rfl := Option.some.inj H
    exact ret1 rfl (res_tmp rfl) (fun _ hw => ⟨⟨h, A0, c0, A0_1, c0_2, cs⟩, rfl, ⟨(Sub.refl _), hs0, hc0, hs0_3, hr⟩, hw⟩)
def rlp_reader_item : Nat → ((List (BitVec 8)) × (List ((Bool) × (List (BitVec 8)) × (Int)))) → (Int) → (Int) → Option ((Int) × ((List (BitVec 8)) × (List ((Bool) × (List (BitVec 8)) × (Int)))))
  | 0 => fun _ _ _ => none
  | k + 1 => rlp_reader_itemB (rlp_reader_item k)
theorem rlp_reader_item.calls : ∀ (k : Nat), ∀ (a0 : (List (BitVec 8)) × (List ((Bool) × (List (BitVec 8)) × (Int)))) (a1 : Int) (a2 : Int) (g0 : Nat) (A0 : Option Addr) (c0 : Nat) (A0_1 : Option Addr) (c0_2 : Nat) (cs : List Value) (r : (Int) × ((List (BitVec 8)) × (List ((Bool) × (List (BitVec 8)) × (Int))))) (H : rlp_reader_item k a0 a1 a2 = some r) {w0 : World} {Ex : List Nat} {h : Frag} {Lr : List Ent} {w : World} (hs0 : SlH h U8 A0 a0.1) (hc0 : a0.1.length ≤ c0) (hs0_3 : Shp A0_1 a0.2.length c0_2) (hr : RpL h R60 a0.2 cs)  (hM : Mm w0 Ex h ((.blk g0 105 ([(.slice A0 a0.1.length c0 : Value)] ++ ([(.slice A0_1 a0.2.length c0_2 : Value)])) 2) :: (.row (.slice A0_1 a0.2.length c0_2) 60 3 cs) :: Lr) w), Calls Try.prog 57 #[.pointer (some ⟨g0, 0, none⟩), .int .i64 a1, .int .i64 a2] w fun e w' => ∃ (g : (Frag) × (Option Addr) × (Nat) × (Option Addr) × (Nat) × (List Value)), e = .returned (.int .i64 r.1) ∧ (Sub h g.1 ∧ SlH g.1 U8 g.2.1 r.2.1 ∧ r.2.1.length ≤ g.2.2.1 ∧ Shp g.2.2.2.1 r.2.2.length g.2.2.2.2.1 ∧ RpL g.1 R60 r.2.2 g.2.2.2.2.2) ∧ Mm w0 Ex g.1 ((.blk g0 105 ([(.slice g.2.1 r.2.1.length g.2.2.1 : Value)] ++ ([(.slice g.2.2.2.1 r.2.2.length g.2.2.2.2.1 : Value)])) 2) :: (.row (.slice g.2.2.2.1 r.2.2.length g.2.2.2.2.1) 60 3 g.2.2.2.2.2) :: Lr) w'
  | 0 => by intro a0 a1 a2 g0 A0 c0 A0_1 c0_2 cs r H w0 Ex h Lr w hs0 hc0 hs0_3 hr hM; exact nomatch (show (none : Option ((Int) × ((List (BitVec 8)) × (List ((Bool) × (List (BitVec 8)) × (Int)))))) = some r from H)
  | k + 1 => rlp_reader_itemB.calls (rlp_reader_item k) (rlp_reader_item.calls k)
def rlp_Decode (a0 : List (BitVec 8)) : Option ((List ((Bool) × (List (BitVec 8)) × (Int))) × (Int)) :=
  Let ((a0.length : Int)) fun x7 => Let (decide (1048576 < x7)) fun x8 => (bif x8 then some (([] : List ((Bool) × (List (BitVec 8)) × (Int))), 4) else Let ((a0.length : Int)) fun x14 => (rlp_reader_item 18446744073709551616 (a0, ([] : List ((Bool) × (List (BitVec 8)) × (Int)))) x14 0).bind fun x15 => Let (x15.1 != 0) fun x17 => (bif x17 then some (([] : List ((Bool) × (List (BitVec 8)) × (Int))), x15.1) else Let ((x15.2.1.length : Int)) fun x23 => Let (decide (0 < x23)) fun x24 => (bif x24 then some (([] : List ((Bool) × (List (BitVec 8)) × (Int))), 2) else some (x15.2.2, 0))))
set_option maxRecDepth 100000 in
theorem rlp_Decode.calls  (a0 : List (BitVec 8)) (A0 : Option Addr) (c0 : Nat) (r : (List ((Bool) × (List (BitVec 8)) × (Int))) × (Int)) (H : rlp_Decode a0 = some r) {w0 : World} {Ex : List Nat} {h : Frag} {Lr : List Ent} {w : World} (hs0 : SlH h U8 A0 a0) (hc0 : a0.length ≤ c0)  (hM : Mm w0 Ex h (Lr) w) :
    Calls Try.prog 26 #[.slice A0 a0.length c0] w fun e w' => ∃ (g : (Frag) × (Option Addr) × (Nat) × (List Value)), e = .returned (.tuple #[.slice g.2.1 r.1.length g.2.2.1, .int .i64 r.2]) ∧ (Sub h g.1 ∧ Shp g.2.1 r.1.length g.2.2.1 ∧ RpL g.1 R60 r.1 g.2.2.2) ∧ Mm w0 Ex g.1 ((.row (.slice g.2.1 r.1.length g.2.2.1) 60 3 g.2.2.2) :: Lr) w' := by
  unfold rlp_Decode at H
  refine t_enter (vs := [.slice A0 a0.length c0]) (n := 29) Try.func26 rfl rfl rfl hM ?_
  clear hM
  change T 29 _ _ _
  refine t_seq ?_
  refine t_region (fun ops hops => ?_)
  clear hops
  refine z_val (v := .slice none 0 0) (val_assign rfl rfl) rfl rfl rfl (fun _ _ _ => trivial) ?_
  refine z_val (v := .int .i64 0) (val_assign rfl rfl) rfl rfl rfl (fun _ _ _ => trivial) ?_
  refine z_nil ?_
  refine t_seq ?_
  refine t_seq ?_
  refine t_region (fun ops hops => ?_)
  clear hops
  refine z_val (v := .slice A0 a0.length c0) (val_move rfl rfl) rfl rfl rfl (fun _ _ _ => trivial) ?_
  obtain ⟨x7, hx7, H⟩ := Let_elim H
  refine z_val (v := .int .i64 x7) (by subst hx7; exact val_len rfl rfl rfl Try.underlying25) rfl rfl rfl (fun _ _ _ => trivial) ?_
  clear hx7
  obtain ⟨x8, hx8, H⟩ := Let_elim H
  refine z_val (v := .bool x8) (by subst hx8; exact val_bin rfl rfl rfl rfl (i64_gtr _ _ _)) rfl rfl rfl (fun _ _ _ => trivial) ?_
  clear hx8
  refine z_nil ?_
  cases x8
  ·
    replace H := cond_f H
    refine t_cond_false rfl ?_
    refine t_skip ?_
    refine t_seq ?_
    refine t_region (fun ops hops => ?_)
    clear hops
    refine z_val (v := .slice A0 a0.length c0) (val_move rfl rfl) rfl rfl rfl (fun _ _ _ => trivial) ?_
    refine z_val (v := .agg ([(.slice A0 a0.length c0 : Value)] ++ ([(.slice none ([] : List ((Bool) × (List (BitVec 8)) × (Int))).length 0 : Value)])).toArray) (val_build (vs := [(0, .slice A0 a0.length c0)]) rfl rfl (fun w => by kernel_rfl)) rfl rfl rfl (fun _ _ _ => trivial) ?_
    refine z_box (cs := [(.slice A0 a0.length c0 : Value)] ++ ([(.slice none ([] : List ((Bool) × (List (BitVec 8)) × (Int))).length 0 : Value)])) (room := 2) rfl rfl rfl (by simp [cV_len]) rfl rfl rfl (fun _ _ _ _ => trivial) (fun g_1 => ?_)
    refine z_val (v := .pointer (some ⟨g_1, 0, none⟩)) (val_assign rfl rfl) rfl rfl rfl (fun _ _ _ => trivial) ?_
    refine z_nil ?_
    refine t_seq ?_
    refine t_seq ?_
    refine t_region (fun ops hops => ?_)
    clear hops
    refine z_val (v := .pointer (some ⟨g_1, 0, none⟩)) (val_move rfl rfl) rfl rfl rfl (fun _ _ _ => trivial) ?_
    refine z_val (v := .slice A0 a0.length c0) (val_move rfl rfl) rfl rfl rfl (fun _ _ _ => trivial) ?_
    obtain ⟨x14, hx14, H⟩ := Let_elim H
    refine z_val (v := .int .i64 x14) (by subst hx14; exact val_len rfl rfl rfl Try.underlying25) rfl rfl rfl (fun _ _ _ => trivial) ?_
    clear hx14
    refine t_nil (e := 60) (sz := 3) ?_
    refine T.selK 2 [1, 0] rfl rfl ?_
    obtain ⟨x15, hx, H⟩ := Option.bind_eq_some_iff.1 H
    refine z_callG rfl Try.func57 nm57 bs57 rfl (fun w hw => rlp_reader_item.calls 18446744073709551616 (a0, ([] : List ((Bool) × (List (BitVec 8)) × (Int)))) x14 0 g_1 A0 c0 none 0 [] x15 hx hs0 hc0 Shp.none_ RpL.nil hw) rfl rfl rfl (fun _ _ _ _ _ => trivial) (fun g hφ => ?_)
    obtain ⟨h_3, A_4, c_5, A_9, c_10, cs⟩ := g
    try dsimp only at hφ
    obtain ⟨hS, hs_6, hc_7, hs_11, hr⟩ := hφ
    clear hx
    change T 29 _ _ _
    replace hs0 := hs0.up hS
    refine z_val (v := .int .i64 x15.1) (val_assign rfl rfl) rfl rfl rfl (fun _ _ _ => trivial) ?_
    refine z_nil ?_
    refine t_seq ?_
    refine t_region (fun ops hops => ?_)
    clear hops
    refine z_val (v := .int .i64 x15.1) (val_move rfl rfl) rfl rfl rfl (fun _ _ _ => trivial) ?_
    obtain ⟨x17, hx17, H⟩ := Let_elim H
    refine z_val (v := .bool x17) (by subst hx17; exact val_bin rfl rfl rfl rfl (i64_neq _ _ _)) rfl rfl rfl (fun _ _ _ => trivial) ?_
    clear hx17
    refine z_nil ?_
    cases x17
    ·
      replace H := cond_f H
      refine t_cond_false rfl ?_
      refine t_skip ?_
      refine t_seq ?_
      refine t_seq ?_
      refine t_region (fun ops hops => ?_)
      clear hops
      refine z_val (v := .pointer (some ⟨g_1, 0, none⟩)) (val_move rfl rfl) rfl rfl rfl (fun _ _ _ => trivial) ?_
      refine z_val (v := .pointer (some ⟨g_1, 0, none⟩)) (val_nilCheck rfl rfl) rfl rfl rfl (fun _ _ _ => trivial) ?_
      refine z_val (v := .pointer (some ⟨g_1, 0, none⟩)) (val_fld0 (sz := 1) rfl rfl Try.underlying105 rfl rfl sz25 (by decide)) rfl rfl rfl (fun _ _ _ => trivial) ?_
      refine z_val (v := .slice A_4 x15.2.1.length c_5) (val_load1 rfl rfl Try.underlying25 rfl (fun _ hw => hw.cell (j := 0) (q := 0) rfl (cells_here (k := 0) rfl))) rfl rfl rfl (fun _ _ _ => trivial) ?_
      obtain ⟨x23, hx23, H⟩ := Let_elim H
      refine z_val (v := .int .i64 x23) (by subst hx23; exact val_len rfl rfl rfl Try.underlying25) rfl rfl rfl (fun _ _ _ => trivial) ?_
      clear hx23
      obtain ⟨x24, hx24, H⟩ := Let_elim H
      refine z_val (v := .bool x24) (by subst hx24; exact val_bin rfl rfl rfl rfl (i64_gtr _ _ _)) rfl rfl rfl (fun _ _ _ => trivial) ?_
      clear hx24
      refine z_nil ?_
      cases x24
      ·
        replace H := cond_f H
        refine t_cond_false rfl ?_
        refine t_skip ?_
        refine t_seq ?_
        refine t_region (fun ops hops => ?_)
        clear hops
        refine z_val (v := .pointer (some ⟨g_1, 0, none⟩)) (val_move rfl rfl) rfl rfl rfl (fun _ _ _ => trivial) ?_
        refine z_val (v := .pointer (some ⟨g_1, 0, none⟩)) (val_nilCheck rfl rfl) rfl rfl rfl (fun _ _ _ => trivial) ?_
        refine z_val (v := .pointer (some ⟨g_1, 1, none⟩)) (val_fld0 (sz := 1) rfl rfl Try.underlying105 rfl rfl sz46 (by decide)) rfl rfl rfl (fun _ _ _ => trivial) ?_
        refine z_val (v := .slice A_9 x15.2.2.length c_10) (val_load1 rfl rfl Try.underlying46 rfl (fun _ hw => hw.cell (j := 0) (q := 1) rfl (cells_skip (n := 1) (k := 0) rfl rfl))) rfl rfl rfl (fun _ _ _ => trivial) ?_
        refine z_val (v := .slice A_9 x15.2.2.length c_10) (val_assign rfl rfl) rfl rfl rfl (fun _ _ _ => trivial) ?_
        refine z_val (v := .int .i64 0) (val_assign rfl rfl) rfl rfl rfl (fun _ _ _ => trivial) ?_
        refine z_nil ?_
        refine t_ret ?_
        obtain rfl := Option.some.inj H
        exact ret2 rfl (res_tmp rfl) (res_tmp rfl) (fun _ hw => ⟨⟨h_3, A_9, c_10, cs⟩, rfl, ⟨hS, hs_11, hr⟩, hw.selK 2 [1] rfl rfl⟩)
      ·
        replace H := cond_t H
        refine t_cond_true rfl ?_
        refine t_seq ?_
        refine t_region (fun ops hops => ?_)
        clear hops
        refine z_val (v := .slice none 0 0) (val_assign rfl rfl) rfl rfl rfl (fun _ _ _ => trivial) ?_
        refine z_val (v := .int .i64 2) (val_assign rfl rfl) rfl rfl rfl (fun _ _ _ => trivial) ?_
        refine z_nil ?_
        refine t_ret ?_
        refine t_nil (e := 60) (sz := 3) ?_
        obtain rfl := Option.some.inj H
        exact ret2 rfl (res_tmp rfl) (res_tmp rfl) (fun _ hw => ⟨⟨h_3, none, 0, []⟩, rfl, ⟨hS, Shp.none_, RpL.nil⟩, hw.selK 3 [0] rfl rfl⟩)
    ·
      replace H := cond_t H
      refine t_cond_true rfl ?_
      refine t_seq ?_
      refine t_region (fun ops hops => ?_)
      clear hops
      refine z_val (v := .int .i64 x15.1) (val_move rfl rfl) rfl rfl rfl (fun _ _ _ => trivial) ?_
      refine z_val (v := .slice none 0 0) (val_assign rfl rfl) rfl rfl rfl (fun _ _ _ => trivial) ?_
      refine z_val (v := .int .i64 x15.1) (val_assign rfl rfl) rfl rfl rfl (fun _ _ _ => trivial) ?_
      refine z_nil ?_
      refine t_ret ?_
      refine t_nil (e := 60) (sz := 3) ?_
      obtain rfl := Option.some.inj H
      exact ret2 rfl (res_tmp rfl) (res_tmp rfl) (fun _ hw => ⟨⟨h_3, none, 0, []⟩, rfl, ⟨hS, Shp.none_, RpL.nil⟩, hw.selK 3 [0] rfl rfl⟩)
  ·
    replace H := cond_t H
    refine t_cond_true rfl ?_
    refine t_seq ?_
    refine t_region (fun ops hops => ?_)
    clear hops
    refine z_val (v := .slice none 0 0) (val_assign rfl rfl) rfl rfl rfl (fun _ _ _ => trivial) ?_
    refine z_val (v := .int .i64 4) (val_assign rfl rfl) rfl rfl rfl (fun _ _ _ => trivial) ?_
    refine z_nil ?_
    refine t_ret ?_
    refine t_nil (e := 60) (sz := 3) ?_
    obtain rfl := Option.some.inj H
    exact ret2 rfl (res_tmp rfl) (res_tmp rfl) (fun _ hw => ⟨⟨h, none, 0, []⟩, rfl, ⟨(Sub.refl _), Shp.none_, RpL.nil⟩, hw⟩)
end Go.Proofs.Ytapfkdcilfpbhaa
