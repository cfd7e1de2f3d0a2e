/- Functions of the program as plain functions, and their walks, printed by walk.py. -/
import Derived.Test.YtapfkdcilfpbhaaRlF
import Derived.Test.YtapfkdcilfpbhaaRlD
namespace Go.Proofs.Ytapfkdcilfpbhaa
open Go.RowKit
set_option linter.unusedVariables false
set_option linter.unusedSimpArgs false
def smithyref07_endB.b1 (a1 : Int) (x13 : (Bool) × (List (BitVec 8)) × (Int)) (F_smithyref07_end : (List ((Bool) × (List (BitVec 8)) × (Int))) → (Int) → Option (Int)) (a0 : List ((Bool) × (List (BitVec 8)) × (Int))) (x6 : Int) : Option (Ctl ((Int)) (Int)) :=
  Let (decide (0 ≤ x6)) fun x45 => (bif x45 then Let (wi (a1 + 1)) fun x49 => Let (wi (x49 + x13.2.2)) fun x52 => Let (decide (x6 < x52)) fun x53 => some x53 else some false).bind (fun x54 => (bif x54 then (F_smithyref07_end a0 x6).bind fun x57 => some (.next x57) else some (.brk x6)))
def smithyref07_endB (F_smithyref07_end : (List ((Bool) × (List (BitVec 8)) × (Int))) → (Int) → Option (Int)) (a0 : List ((Bool) × (List (BitVec 8)) × (Int))) (a1 : Int) : Option (Int) :=
  Let ((a0.length : Int)) fun x9 => Let (decide (x9 ≤ a1)) fun x10 => (bif x10 then some (-1) else Chk ((0 : Int) ≤ a1 ∧ a1 < (a0.length : Int)) <| Let (lget a0 a1.toNat) fun x13 => Let (!x13.1) fun x17 => (bif x17 then Let (x13.2.2 != 0) fun x20 => (bif x20 then some (-1) else Let (wi (a1 + 1)) fun x22 => some x22) else Let ((x13.2.1.length : Int)) fun x25 => Let (decide (0 < x25)) fun x26 => (bif x26 then some true else Let (decide (x13.2.2 < 0)) fun x30 => some x30).bind (fun x31 => (bif x31 then some true else Let ((a0.length : Int)) fun x36 => Let (wi (x36 - 1)) fun x37 => Let (wi (x37 - a1)) fun x39 => Let (decide (x39 < x13.2.2)) fun x40 => some x40).bind (fun x41 => (bif x41 then some (-1) else Let (wi (a1 + 1)) fun x43 => (wlx (σ := (Int)) (fun s => smithyref07_endB.b1 a1 x13 F_smithyref07_end a0 s) x43).bind (Sum.elim (fun x6 => Let (wi (a1 + 1)) fun x60 => Let (wi (x60 + x13.2.2)) fun x63 => Let (x6 != x63) fun x64 => (bif x64 then some (-1) else some x6)) (fun r => some r)))))))
set_option maxRecDepth 100000 in
theorem smithyref07_endB.calls  (F_smithyref07_end : (List ((Bool) × (List (BitVec 8)) × (Int))) → (Int) → Option (Int)) (hF_smithyref07_end : ∀ (a0 : List ((Bool) × (List (BitVec 8)) × (Int))) (a1 : Int) (A0 : Option Addr) (c0 : Nat) (r : Int) (H : F_smithyref07_end a0 a1 = some r) (w : World) (hs0 : SlRW w R60 A0 a0) (hc0 : a0.length ≤ c0) , Made Try.prog 54 #[.slice A0 a0.length c0, .int .i64 a1] w (.int .i64 r)) (a0 : List ((Bool) × (List (BitVec 8)) × (Int))) (a1 : Int) (A0 : Option Addr) (c0 : Nat) (r : Int) (H : smithyref07_endB F_smithyref07_end a0 a1 = some r) (w : World) (hs0 : SlRW w R60 A0 a0) (hc0 : a0.length ≤ c0)  :
    Made Try.prog 54 #[.slice A0 a0.length c0, .int .i64 a1] w (.int .i64 r) := by
  unfold smithyref07_endB at H
  replace hs0 := hs0.toH
  have hM := Mm.start w (snap w) (snap_ok w)
  generalize snap w = h at *
  refine t_enter (vs := [.slice A0 a0.length c0, .int .i64 a1]) (n := 66) Try.func54 rfl rfl rfl hM ?_
  clear hM
  change T 66 _ _ _
  refine t_seq ?_
  refine t_region (fun ops hops => ?_)
  clear hops
  refine z_val (v := .int .i64 0) (val_assign rfl rfl) rfl rfl rfl (fun _ _ _ => trivial) ?_
  refine z_nil ?_
  refine t_seq ?_
  refine t_seq ?_
  refine t_region (fun ops hops => ?_)
  clear hops
  refine z_val (v := .int .i64 a1) (val_move rfl rfl) rfl rfl rfl (fun _ _ _ => trivial) ?_
  refine z_val (v := .slice A0 a0.length c0) (val_move rfl rfl) rfl rfl rfl (fun _ _ _ => trivial) ?_
  obtain ⟨x9, hx9, H⟩ := Let_elim H
  refine z_val (v := .int .i64 x9) (by subst hx9; exact val_len rfl rfl rfl Try.underlying46) rfl rfl rfl (fun _ _ _ => trivial) ?_
  clear hx9
  obtain ⟨x10, hx10, H⟩ := Let_elim H
  refine z_val (v := .bool x10) (by subst hx10; exact val_bin rfl rfl rfl rfl (i64_geq _ _ _)) rfl rfl rfl (fun _ _ _ => trivial) ?_
  clear hx10
  refine z_nil ?_
  cases x10
  ·
    replace H := cond_f H
    refine t_cond_false rfl ?_
    refine t_skip ?_
    refine t_seq ?_
    refine t_region (fun ops hops => ?_)
    clear hops
    refine z_val (v := .slice A0 a0.length c0) (val_move rfl rfl) rfl rfl rfl (fun _ _ _ => trivial) ?_
    refine z_val (v := .int .i64 a1) (val_move rfl rfl) rfl rfl rfl (fun _ _ _ => trivial) ?_
    obtain ⟨hq_1, H⟩ := Chk_elim H
    obtain ⟨x13, hx13, H⟩ := Let_elim H
    obtain ⟨b_7, o_8, hA_9, cs, hr, hc_6⟩ := hs0.at_ (show a1.toNat < a0.length from (idx_lt hq_1))
    rw [← hx13] at hr
    clear hx13
    obtain ⟨A_2, c_3, rfl, hs_4, hc_5⟩ := hr
    refine z_val (v := .pointer (some ⟨b_7, o_8 + a1.toNat * 3, none⟩)) (val_idxR rfl rfl rfl Try.underlying46 sz60 hq_1 hA_9 rfl) rfl rfl rfl (fun _ _ _ => trivial) ?_
    refine z_val (v := .agg ([(.bool x13.1 : Value)] ++ ([(.slice A_2 x13.2.1.length c_3 : Value)] ++ ([(.int .i64 x13.2.2 : Value)]))).toArray) (val_loadR (off := o_8 + a1.toNat * 3) (cs := [(.bool x13.1 : Value)] ++ ([(.slice A_2 x13.2.1.length c_3 : Value)] ++ ([(.int .i64 x13.2.2 : Value)]))) rfl rfl Try.underlying60 rfl (sz60.trans (congrArg some (Eq.symm (by simp [cV_len])))) (fun _ hw => range_of hc_6 (k := 0) seg_all hw)) rfl rfl rfl (fun _ _ _ => trivial) ?_
    refine z_alloc (cs := [(.bool false : Value)] ++ ([(.slice none ([] : List (BitVec 8)).length 0 : Value)] ++ ([(.int .i64 0 : Value)]))) (room := 3) rfl ze60 rfl (by simp [cV_len]) rfl rfl rfl (fun _ _ _ _ => trivial) (fun g_10 => ?_)
    refine z_storeA (j := 0) (cs' := [(.bool x13.1 : Value)] ++ ([(.slice A_2 x13.2.1.length c_3 : Value)] ++ ([(.int .i64 x13.2.2 : Value)]))) (L' := [.blk g_10 60 ([(.bool x13.1 : Value)] ++ ([(.slice A_2 x13.2.1.length c_3 : Value)] ++ ([(.int .i64 x13.2.2 : Value)]))) 3]) rfl rfl rfl (one_app one_one (one_app one_one one_one)) sz60 rfl (by simp [cV_len]) rfl rfl rfl (fun _ _ _ => trivial) ?_
    refine z_nil ?_
    refine t_seq ?_
    refine t_seq ?_
    refine t_region (fun ops hops => ?_)
    clear hops
    refine z_val (v := .pointer (some ⟨g_10, 0, none⟩)) (val_fld0 (sz := 1) rfl rfl Try.underlying60 rfl rfl sz4 (by decide)) rfl rfl rfl (fun _ _ _ => trivial) ?_
    refine z_val (v := .bool x13.1) (val_load1 rfl rfl Try.underlying4 rfl (fun _ hw => hw.cell (j := 0) (q := 0) rfl (cells_here (k := 0) rfl))) rfl rfl rfl (fun _ _ _ => trivial) ?_
    obtain ⟨x17, hx17, H⟩ := Let_elim H
    refine z_val (v := .bool x17) (by subst hx17; exact val_un rfl rfl (bool_not _)) rfl rfl rfl (fun _ _ _ => trivial) ?_
    clear hx17
    refine z_nil ?_
    cases x17
    ·
      replace H := cond_f H
      refine t_cond_false rfl ?_
      refine t_skip ?_
      refine t_seq ?_
      refine t_seq ?_
      refine t_region (fun ops hops => ?_)
      refine z_val (v := .pointer (some ⟨g_10, 1, none⟩)) (val_fld0 (sz := 1) rfl rfl Try.underlying60 rfl rfl sz25 (by decide)) rfl rfl rfl (fun _ _ _ => trivial) ?_
      refine z_val (v := .slice A_2 x13.2.1.length c_3) (val_load1 rfl rfl Try.underlying25 rfl (fun _ hw => hw.cell (j := 0) (q := 1) rfl (cells_skip (n := 1) (k := 0) rfl (cells_here (k := 0) rfl)))) rfl rfl rfl (fun _ _ _ => trivial) ?_
      obtain ⟨x25, hx25, H⟩ := Let_elim H
      refine z_val (v := .int .i64 x25) (by subst hx25; exact val_len rfl rfl rfl Try.underlying25) rfl rfl rfl (fun _ _ _ => trivial) ?_
      clear hx25
      obtain ⟨x26, hx26, H⟩ := Let_elim H
      refine z_val (v := .bool x26) (by subst hx26; exact val_bin rfl rfl rfl rfl (i64_gtr _ _ _)) rfl rfl rfl (fun _ _ _ => trivial) ?_
      clear hx26
      refine z_val (v := .bool x26) (val_move rfl rfl) rfl rfl rfl (fun _ _ _ => trivial) ?_
      refine z_bind H 4 (fun (s : Bool) (_ : Unit) => [(0, .slice A0 a0.length c0), (1, .int .i64 a1), (5, .pointer (some ⟨g_10, 0, none⟩)), (31, .bool s)]) (fun _ _ => Mm w [] h [.blk g_10 60 ([(.bool x13.1 : Value)] ++ ([(.slice A_2 x13.2.1.length c_3 : Value)] ++ ([(.int .i64 x13.2.2 : Value)]))) 3]) (fun _ _ => True) (fun Gr K s he HJ => ?_) (fun s g HB _ => ?_)
      ·
        clear H
        cases x26
        ·
          have H := cond_f he
          clear he
          refine z_val (v := .pointer (some ⟨g_10, 2, none⟩)) (val_fld0 (sz := 1) rfl rfl Try.underlying60 rfl rfl sz3 (by decide)) rfl rfl (by rw [hops]; rfl) (fun _ _ _ => trivial) ?_
          refine z_val (v := .int .i64 x13.2.2) (val_load1 rfl rfl Try.underlying3 rfl (fun _ hw => hw.cell (j := 0) (q := 2) rfl (cells_skip (n := 1) (k := 1) rfl (cells_skip (n := 1) (k := 0) rfl rfl)))) rfl rfl (by rw [hops]; rfl) (fun _ _ _ => trivial) ?_
          obtain ⟨x30, hx30, H⟩ := Let_elim H
          refine z_val (v := .bool x30) (by subst hx30; exact val_bin rfl rfl rfl rfl (i64_lss _ _ _)) rfl rfl (by rw [hops]; rfl) (fun _ _ _ => trivial) ?_
          clear hx30
          refine z_val (v := .bool x30) (val_pick rfl rfl rfl) rfl rfl rfl (fun _ _ _ => trivial) ?_
          obtain rfl := Option.some.inj H
          exact z_nil ((K _ () HJ trivial).weak (fun a ha => ha.cons rfl (ha.cons rfl (ha.cons rfl (ha.cons rfl (ha.nil))))) (fun w hw => hw))
        ·
          have H := cond_t he
          clear he
          refine z_skip rfl rfl (by rw [hops]; rfl) (fun _ _ _ => trivial) ?_
          refine z_skip rfl rfl (by rw [hops]; rfl) (fun _ _ _ => trivial) ?_
          refine z_skip rfl rfl (by rw [hops]; rfl) (fun _ _ _ => trivial) ?_
          refine z_val (v := .bool true) (val_pick rfl rfl rfl) rfl rfl rfl (fun _ _ _ => trivial) ?_
          obtain rfl := Option.some.inj H
          exact z_nil ((K _ () HJ trivial).weak (fun a ha => ha.cons rfl (ha.cons rfl (ha.cons rfl (ha.cons rfl (ha.nil))))) (fun w hw => hw))
      ·
        replace H := HB
        clear HB
        obtain ⟨x31, rfl⟩ : ∃ x, x = s := ⟨_, rfl⟩
        change T 66 _ _ _
        refine z_val (v := .bool x31) (val_move rfl rfl) rfl rfl rfl (fun _ _ _ => trivial) ?_
        refine z_bind H 9 (fun (s : Bool) (_ : Unit) => [(0, .slice A0 a0.length c0), (1, .int .i64 a1), (5, .pointer (some ⟨g_10, 0, none⟩)), (41, .bool s)]) (fun _ _ => Mm w [] h [.blk g_10 60 ([(.bool x13.1 : Value)] ++ ([(.slice A_2 x13.2.1.length c_3 : Value)] ++ ([(.int .i64 x13.2.2 : Value)]))) 3]) (fun _ _ => True) (fun Gr K s he HJ => ?_) (fun s g HB _ => ?_)
        ·
          clear H
          cases x31
          ·
            have H := cond_f he
            clear he
            refine z_val (v := .pointer (some ⟨g_10, 2, none⟩)) (val_fld0 (sz := 1) rfl rfl Try.underlying60 rfl rfl sz3 (by decide)) rfl rfl (by rw [hops]; rfl) (fun _ _ _ => trivial) ?_
            refine z_val (v := .int .i64 x13.2.2) (val_load1 rfl rfl Try.underlying3 rfl (fun _ hw => hw.cell (j := 0) (q := 2) rfl (cells_skip (n := 1) (k := 1) rfl (cells_skip (n := 1) (k := 0) rfl rfl)))) rfl rfl (by rw [hops]; rfl) (fun _ _ _ => trivial) ?_
            refine z_val (v := .slice A0 a0.length c0) (val_move rfl rfl) rfl rfl (by rw [hops]; rfl) (fun _ _ _ => trivial) ?_
            obtain ⟨x36, hx36, H⟩ := Let_elim H
            refine z_val (v := .int .i64 x36) (by subst hx36; exact val_len rfl rfl rfl Try.underlying46) rfl rfl (by rw [hops]; rfl) (fun _ _ _ => trivial) ?_
            clear hx36
            obtain ⟨x37, hx37, H⟩ := Let_elim H
            refine z_val (v := .int .i64 x37) (by subst hx37; exact val_bin rfl rfl rfl rfl (i64_sub _ _ _)) rfl rfl (by rw [hops]; rfl) (fun _ _ _ => trivial) ?_
            clear hx37
            refine z_val (v := .int .i64 a1) (val_move rfl rfl) rfl rfl (by rw [hops]; rfl) (fun _ _ _ => trivial) ?_
            obtain ⟨x39, hx39, H⟩ := Let_elim H
            refine z_val (v := .int .i64 x39) (by subst hx39; exact val_bin rfl rfl rfl rfl (i64_sub _ _ _)) rfl rfl (by rw [hops]; rfl) (fun _ _ _ => trivial) ?_
            clear hx39
            obtain ⟨x40, hx40, H⟩ := Let_elim H
            refine z_val (v := .bool x40) (by subst hx40; exact val_bin rfl rfl rfl rfl (i64_gtr _ _ _)) rfl rfl (by rw [hops]; rfl) (fun _ _ _ => trivial) ?_
            clear hx40
            refine z_val (v := .bool x40) (val_pick rfl rfl rfl) rfl rfl rfl (fun _ _ _ => trivial) ?_
            obtain rfl := Option.some.inj H
            exact z_nil ((K _ () HJ trivial).weak (fun a ha => ha.cons rfl (ha.cons rfl (ha.cons rfl (ha.cons rfl (ha.nil))))) (fun w hw => hw))
          ·
            have H := cond_t he
            clear he
            refine z_skip rfl rfl (by rw [hops]; rfl) (fun _ _ _ => trivial) ?_
            refine z_skip rfl rfl (by rw [hops]; rfl) (fun _ _ _ => trivial) ?_
            refine z_skip rfl rfl (by rw [hops]; rfl) (fun _ _ _ => trivial) ?_
            refine z_skip rfl rfl (by rw [hops]; rfl) (fun _ _ _ => trivial) ?_
            refine z_skip rfl rfl (by rw [hops]; rfl) (fun _ _ _ => trivial) ?_
            refine z_skip rfl rfl (by rw [hops]; rfl) (fun _ _ _ => trivial) ?_
            refine z_skip rfl rfl (by rw [hops]; rfl) (fun _ _ _ => trivial) ?_
            refine z_skip rfl rfl (by rw [hops]; rfl) (fun _ _ _ => trivial) ?_
            refine z_val (v := .bool true) (val_pick rfl rfl rfl) rfl rfl rfl (fun _ _ _ => trivial) ?_
            obtain rfl := Option.some.inj H
            exact z_nil ((K _ () HJ trivial).weak (fun a ha => ha.cons rfl (ha.cons rfl (ha.cons rfl (ha.cons rfl (ha.nil))))) (fun w hw => hw))
        ·
          replace H := HB
          clear HB
          obtain ⟨x41, rfl⟩ : ∃ x, x = s := ⟨_, rfl⟩
          change T 66 _ _ _
          refine z_nil ?_
          cases x41
          ·
            replace H := cond_f H
            refine t_cond_false rfl ?_
            refine t_skip ?_
            refine t_seq ?_
            refine t_region (fun ops hops => ?_)
            clear hops
            refine z_val (v := .int .i64 a1) (val_move rfl rfl) rfl rfl rfl (fun _ _ _ => trivial) ?_
            obtain ⟨x43, hx43, H⟩ := Let_elim H
            refine z_val (v := .int .i64 x43) (by subst hx43; exact val_bin rfl rfl rfl rfl (i64_add _ _ _)) rfl rfl rfl (fun _ _ _ => trivial) ?_
            clear hx43
            refine z_val (v := .int .i64 x43) (val_assign rfl rfl) rfl rfl rfl (fun _ _ _ => trivial) ?_
            refine z_nil ?_
            refine t_seq ?_
            refine t_block ?_
            obtain ⟨z1, hz1, HK1⟩ := Option.bind_eq_some_iff.1 H
            clear H
            refine t_while hz1 (fun (s : (Int)) (g : Unit) => [(0, .slice A0 a0.length c0), (1, .int .i64 a1), (5, .pointer (some ⟨g_10, 0, none⟩)), (6, .int .i64 s)]) (fun (s : (Int)) (g : Unit) => [(1, .int .i64 a1), (5, .pointer (some ⟨g_10, 0, none⟩)), (6, .int .i64 s)]) (fun (s : (Int)) (g : Unit) => Mm w [] h [.blk g_10 60 ([(.bool x13.1 : Value)] ++ ([(.slice A_2 x13.2.1.length c_3 : Value)] ++ ([(.int .i64 x13.2.2 : Value)]))) 3]) (fun (s : (Int)) (g : Unit) => Mm w [] h [.blk g_10 60 ([(.bool x13.1 : Value)] ++ ([(.slice A_2 x13.2.1.length c_3 : Value)] ++ ([(.int .i64 x13.2.2 : Value)]))) 3]) (fun (s : (Int)) (g : Unit) => True) (fun (s : (Int)) (g : Unit) => True) () trivial (fun a w ha hw => ⟨ha.cons rfl (ha.cons rfl (ha.cons rfl (ha.cons rfl (ha.nil)))), hw⟩) (fun Gn Gb s g e hφ H hn1 hb1 hr1 => ?_) (fun s g hzz hφ => ?_)
            ·
              obtain ⟨x6, rfl⟩ : ∃ x, x = s := ⟨_, rfl⟩
              change smithyref07_endB.b1 a1 x13 F_smithyref07_end a0 x6 = some e at H
              unfold smithyref07_endB.b1 at H
              clear hz1
              change T 66 _ _ _
              refine t_seq ?_
              refine t_seq ?_
              refine t_region (fun ops hops => ?_)
              refine z_val (v := .int .i64 x6) (val_move rfl rfl) rfl rfl rfl (fun _ _ _ => trivial) ?_
              obtain ⟨x45, hx45, H⟩ := Let_elim H
              refine z_val (v := .bool x45) (by subst hx45; exact val_bin rfl rfl rfl rfl (i64_geq _ _ _)) rfl rfl rfl (fun _ _ _ => trivial) ?_
              clear hx45
              refine z_val (v := .bool x45) (val_move rfl rfl) rfl rfl rfl (fun _ _ _ => trivial) ?_
              refine z_bind H 8 (fun (s : Bool) (_ : Unit) => [(0, .slice A0 a0.length c0), (1, .int .i64 a1), (5, .pointer (some ⟨g_10, 0, none⟩)), (6, .int .i64 x6), (54, .bool s)]) (fun _ _ => Mm w [] h [.blk g_10 60 ([(.bool x13.1 : Value)] ++ ([(.slice A_2 x13.2.1.length c_3 : Value)] ++ ([(.int .i64 x13.2.2 : Value)]))) 3]) (fun _ _ => True) (fun Gr K s he HJ => ?_) (fun s g HB _ => ?_)
              ·
                clear H
                cases x45
                ·
                  have H := cond_f he
                  clear he
                  refine z_skip rfl rfl (by rw [hops]; rfl) (fun _ _ _ => trivial) ?_
                  refine z_skip rfl rfl (by rw [hops]; rfl) (fun _ _ _ => trivial) ?_
                  refine z_skip rfl rfl (by rw [hops]; rfl) (fun _ _ _ => trivial) ?_
                  refine z_skip rfl rfl (by rw [hops]; rfl) (fun _ _ _ => trivial) ?_
                  refine z_skip rfl rfl (by rw [hops]; rfl) (fun _ _ _ => trivial) ?_
                  refine z_skip rfl rfl (by rw [hops]; rfl) (fun _ _ _ => trivial) ?_
                  refine z_skip rfl rfl (by rw [hops]; rfl) (fun _ _ _ => trivial) ?_
                  refine z_val (v := .bool false) (val_pick rfl rfl rfl) rfl rfl rfl (fun _ _ _ => trivial) ?_
                  obtain rfl := Option.some.inj H
                  exact z_nil ((K _ () HJ trivial).weak (fun a ha => ha.cons rfl (ha.cons rfl (ha.cons rfl (ha.cons rfl (ha.cons rfl (ha.nil)))))) (fun w hw => hw))
                ·
                  have H := cond_t he
                  clear he
                  refine z_val (v := .int .i64 x6) (val_move rfl rfl) rfl rfl (by rw [hops]; rfl) (fun _ _ _ => trivial) ?_
                  refine z_val (v := .int .i64 a1) (val_move rfl rfl) rfl rfl (by rw [hops]; rfl) (fun _ _ _ => trivial) ?_
                  obtain ⟨x49, hx49, H⟩ := Let_elim H
                  refine z_val (v := .int .i64 x49) (by subst hx49; exact val_bin rfl rfl rfl rfl (i64_add _ _ _)) rfl rfl (by rw [hops]; rfl) (fun _ _ _ => trivial) ?_
                  clear hx49
                  refine z_val (v := .pointer (some ⟨g_10, 2, none⟩)) (val_fld0 (sz := 1) rfl rfl Try.underlying60 rfl rfl sz3 (by decide)) rfl rfl (by rw [hops]; rfl) (fun _ _ _ => trivial) ?_
                  refine z_val (v := .int .i64 x13.2.2) (val_load1 rfl rfl Try.underlying3 rfl (fun _ hw => hw.cell (j := 0) (q := 2) rfl (cells_skip (n := 1) (k := 1) rfl (cells_skip (n := 1) (k := 0) rfl rfl)))) rfl rfl (by rw [hops]; rfl) (fun _ _ _ => trivial) ?_
                  obtain ⟨x52, hx52, H⟩ := Let_elim H
                  refine z_val (v := .int .i64 x52) (by subst hx52; exact val_bin rfl rfl rfl rfl (i64_add _ _ _)) rfl rfl (by rw [hops]; rfl) (fun _ _ _ => trivial) ?_
                  clear hx52
                  obtain ⟨x53, hx53, H⟩ := Let_elim H
                  refine z_val (v := .bool x53) (by subst hx53; exact val_bin rfl rfl rfl rfl (i64_lss _ _ _)) rfl rfl (by rw [hops]; rfl) (fun _ _ _ => trivial) ?_
                  clear hx53
                  refine z_val (v := .bool x53) (val_pick rfl rfl rfl) rfl rfl rfl (fun _ _ _ => trivial) ?_
                  obtain rfl := Option.some.inj H
                  exact z_nil ((K _ () HJ trivial).weak (fun a ha => ha.cons rfl (ha.cons rfl (ha.cons rfl (ha.cons rfl (ha.cons rfl (ha.nil)))))) (fun w hw => hw))
              ·
                replace H := HB
                clear HB
                obtain ⟨x54, rfl⟩ : ∃ x, x = s := ⟨_, rfl⟩
                change T 66 _ _ _
                refine z_nil ?_
                cases x54
                ·
                  replace H := cond_f H
                  refine t_cond_false rfl ?_
                  refine t_exit rfl ?_
                  obtain rfl := Option.some.inj H
                  exact t_reach ((hb1 _ () rfl trivial).weak (fun a ha => ha.cons rfl (ha.cons rfl (ha.cons rfl (ha.nil)))) (fun w hw => hw))
                ·
                  replace H := cond_t H
                  refine t_cond_true rfl ?_
                  refine t_skip ?_
                  refine t_block ?_
                  refine t_region (fun ops hops => ?_)
                  clear hops
                  refine z_val (v := .slice A0 a0.length c0) (val_move rfl rfl) rfl rfl rfl (fun _ _ _ => trivial) ?_
                  refine z_val (v := .int .i64 x6) (val_move rfl rfl) rfl rfl rfl (fun _ _ _ => trivial) ?_
                  obtain ⟨x57, hx, H⟩ := Option.bind_eq_some_iff.1 H
                  refine z_made (v := .int .i64 x57) rfl Try.func54 nm54 bs54 rfl (fun w hw => hF_smithyref07_end a0 x6 A0 c0 x57 hx w (hs0.toW hw) hc0) rfl rfl rfl (fun _ _ _ => trivial) ?_
                  clear hx
                  refine z_val (v := .int .i64 x57) (val_assign rfl rfl) rfl rfl rfl (fun _ _ _ => trivial) ?_
                  refine z_nil ?_
                  refine t_fin ?_
                  obtain rfl := Option.some.inj H
                  exact t_reach ((hn1 _ () rfl trivial).weak (fun a ha => ha.cons rfl (ha.cons rfl (ha.cons rfl (ha.cons rfl (ha.nil))))) (fun w hw => hw))
            ·
              obtain ⟨x6, rfl⟩ : ∃ x, x = s := ⟨_, rfl⟩
              subst hzz
              have H := HK1
              clear HK1 hz1
              replace H := sum_l H
              try dsimp only at H
              change T 66 _ _ _
              refine t_seq ?_
              refine t_seq ?_
              refine t_region (fun ops hops => ?_)
              clear hops
              refine z_val (v := .int .i64 x6) (val_move rfl rfl) rfl rfl rfl (fun _ _ _ => trivial) ?_
              refine z_val (v := .int .i64 a1) (val_move rfl rfl) rfl rfl rfl (fun _ _ _ => trivial) ?_
              obtain ⟨x60, hx60, H⟩ := Let_elim H
              refine z_val (v := .int .i64 x60) (by subst hx60; exact val_bin rfl rfl rfl rfl (i64_add _ _ _)) rfl rfl rfl (fun _ _ _ => trivial) ?_
              clear hx60
              refine z_val (v := .pointer (some ⟨g_10, 2, none⟩)) (val_fld0 (sz := 1) rfl rfl Try.underlying60 rfl rfl sz3 (by decide)) rfl rfl rfl (fun _ _ _ => trivial) ?_
              refine z_val (v := .int .i64 x13.2.2) (val_load1 rfl rfl Try.underlying3 rfl (fun _ hw => hw.cell (j := 0) (q := 2) rfl (cells_skip (n := 1) (k := 1) rfl (cells_skip (n := 1) (k := 0) rfl rfl)))) rfl rfl rfl (fun _ _ _ => trivial) ?_
              obtain ⟨x63, hx63, H⟩ := Let_elim H
              refine z_val (v := .int .i64 x63) (by subst hx63; exact val_bin rfl rfl rfl rfl (i64_add _ _ _)) rfl rfl rfl (fun _ _ _ => trivial) ?_
              clear hx63
              obtain ⟨x64, hx64, H⟩ := Let_elim H
              refine z_val (v := .bool x64) (by subst hx64; exact val_bin rfl rfl rfl rfl (i64_neq _ _ _)) rfl rfl rfl (fun _ _ _ => trivial) ?_
              clear hx64
              refine z_nil ?_
              cases x64
              ·
                replace H := cond_f H
                refine t_cond_false rfl ?_
                refine t_skip ?_
                refine t_seq ?_
                refine t_region (fun ops hops => ?_)
                clear hops
                refine z_val (v := .int .i64 x6) (val_move rfl rfl) rfl rfl rfl (fun _ _ _ => trivial) ?_
                refine z_val (v := .int .i64 x6) (val_assign rfl rfl) rfl rfl rfl (fun _ _ _ => trivial) ?_
                refine z_nil ?_
                refine t_ret ?_
                obtain rfl := Option.some.inj H
                exact ret1 rfl (res_tmp rfl) (fun _ hw => ⟨rfl, hw.below⟩)
              ·
                replace H := cond_t H
                refine t_cond_true rfl ?_
                refine t_seq ?_
                refine t_region (fun ops hops => ?_)
                clear hops
                refine z_val (v := .int .i64 (-1)) (val_assign rfl rfl) rfl rfl rfl (fun _ _ _ => trivial) ?_
                refine z_nil ?_
                refine t_ret ?_
                obtain rfl := Option.some.inj H
                exact ret1 rfl (res_tmp rfl) (fun _ hw => ⟨rfl, hw.below⟩)
          ·
            replace H := cond_t H
            refine t_cond_true rfl ?_
            refine t_seq ?_
            refine t_region (fun ops hops => ?_)
            clear hops
            refine z_val (v := .int .i64 (-1)) (val_assign rfl rfl) rfl rfl rfl (fun _ _ _ => trivial) ?_
            refine z_nil ?_
            refine t_ret ?_
            obtain rfl := Option.some.inj H
            exact ret1 rfl (res_tmp rfl) (fun _ hw => ⟨rfl, hw.below⟩)
    ·
      replace H := cond_t H
      refine t_cond_true rfl ?_
      refine t_seq ?_
      refine t_seq ?_
      refine t_region (fun ops hops => ?_)
      clear hops
      refine z_val (v := .pointer (some ⟨g_10, 2, none⟩)) (val_fld0 (sz := 1) rfl rfl Try.underlying60 rfl rfl sz3 (by decide)) rfl rfl rfl (fun _ _ _ => trivial) ?_
      refine z_val (v := .int .i64 x13.2.2) (val_load1 rfl rfl Try.underlying3 rfl (fun _ hw => hw.cell (j := 0) (q := 2) rfl (cells_skip (n := 1) (k := 1) rfl (cells_skip (n := 1) (k := 0) rfl rfl)))) rfl rfl rfl (fun _ _ _ => trivial) ?_
      obtain ⟨x20, hx20, H⟩ := Let_elim H
      refine z_val (v := .bool x20) (by subst hx20; exact val_bin rfl rfl rfl rfl (i64_neq _ _ _)) rfl rfl rfl (fun _ _ _ => trivial) ?_
      clear hx20
      refine z_nil ?_
      cases x20
      ·
        replace H := cond_f H
        refine t_cond_false rfl ?_
        refine t_skip ?_
        refine t_seq ?_
        refine t_region (fun ops hops => ?_)
        clear hops
        refine z_val (v := .int .i64 a1) (val_move rfl rfl) rfl rfl rfl (fun _ _ _ => trivial) ?_
        obtain ⟨x22, hx22, H⟩ := Let_elim H
        refine z_val (v := .int .i64 x22) (by subst hx22; exact val_bin rfl rfl rfl rfl (i64_add _ _ _)) rfl rfl rfl (fun _ _ _ => trivial) ?_
        clear hx22
        refine z_val (v := .int .i64 x22) (val_assign rfl rfl) rfl rfl rfl (fun _ _ _ => trivial) ?_
        refine z_nil ?_
        refine t_ret ?_
        obtain rfl := Option.some.inj H
        exact ret1 rfl (res_tmp rfl) (fun _ hw => ⟨rfl, hw.below⟩)
      ·
        replace H := cond_t H
        refine t_cond_true rfl ?_
        refine t_seq ?_
        refine t_region (fun ops hops => ?_)
        clear hops
        refine z_val (v := .int .i64 (-1)) (val_assign rfl rfl) rfl rfl rfl (fun _ _ _ => trivial) ?_
        refine z_nil ?_
        refine t_ret ?_
        obtain rfl := Option.some.inj H
        exact ret1 rfl (res_tmp rfl) (fun _ hw => ⟨rfl, hw.below⟩)
  ·
    replace H := cond_t H
    refine t_cond_true rfl ?_
    refine t_seq ?_
    refine t_region (fun ops hops => ?_)
    clear hops
    refine z_val (v := .int .i64 (-1)) (val_assign rfl rfl) rfl rfl rfl (fun _ _ _ => trivial) ?_
    refine z_nil ?_
    refine t_ret ?_
    obtain rfl := Option.some.inj H
    exact ret1 rfl (res_tmp rfl) (fun _ hw => ⟨rfl, hw.below⟩)
def smithyref07_end : Nat → (List ((Bool) × (List (BitVec 8)) × (Int))) → (Int) → Option (Int)
  | 0 => fun _ _ => none
  | k + 1 => smithyref07_endB (smithyref07_end k)
theorem smithyref07_end.calls : ∀ (k : Nat), ∀ (a0 : List ((Bool) × (List (BitVec 8)) × (Int))) (a1 : Int) (A0 : Option Addr) (c0 : Nat) (r : Int) (H : smithyref07_end k a0 a1 = some r) (w : World) (hs0 : SlRW w R60 A0 a0) (hc0 : a0.length ≤ c0) , Made Try.prog 54 #[.slice A0 a0.length c0, .int .i64 a1] w (.int .i64 r)
  | 0 => by intro a0 a1 A0 c0 r H w hs0 hc0; exact nomatch (show (none : Option (Int)) = some r from H)
  | k + 1 => smithyref07_endB.calls (smithyref07_end k) (smithyref07_end.calls k)
def smithyref07_deep.b2 (x9 : Int) (a0 : List ((Bool) × (List (BitVec 8)) × (Int))) (x5 : Int) (x6 : Int) : Option (Ctl ((Int) × (Int)) (Int)) :=
  Let (decide (x6 ≤ x9)) fun x14 => (bif x14 then Chk ((0 : Int) ≤ x6 ∧ x6 < (a0.length : Int)) <| Let (lget a0 x6.toNat) fun x19 => (bif x19.1 then Chk ((0 : Int) ≤ x6 ∧ x6 < (a0.length : Int)) <| Let (lget a0 x6.toNat) fun x27 => Let (wi (x6 + x27.2.2)) fun x30 => Let (decide (x9 ≤ x30)) fun x31 => some x31 else some false).bind (fun x32 => (bif x32 then Let (wi (x5 + 1)) fun x34 => some x34 else some x5).bind (fun (x5_21 : Int) => Let (wi (x6 + 1)) fun x16 => some (.next (x5_21, x16)))) else some (.brk (x5, x6)))
def smithyref07_deep.b1 (x8 : Int) (a0 : List ((Bool) × (List (BitVec 8)) × (Int))) (x3 : Int) (x9 : Int) : Option (Ctl ((Int) × (Int)) (Int)) :=
  Let (decide (x9 < x8)) fun x10 => (bif x10 then (wlx (σ := (Int) × (Int)) (fun s => smithyref07_deep.b2 x9 a0 s.1 s.2) (0, 0)).bind (Sum.elim (fun s => (fun x5 x6 => Let (if x3 < x5 then x5 else x3) fun x37 => Let (wi (x9 + 1)) fun x38 => some (.next (x37, x38))) s.1 s.2) (fun r => some (.ret r))) else some (.brk (x3, x9)))
def smithyref07_deep (a0 : List ((Bool) × (List (BitVec 8)) × (Int))) : Option (Int) :=
  Let ((a0.length : Int)) fun x8 => (wlx (σ := (Int) × (Int)) (fun s => smithyref07_deep.b1 x8 a0 s.1 s.2) (0, 0)).bind (Sum.elim (fun s => (fun x3 x9 => some x3) s.1 s.2) (fun r => some r))
set_option maxRecDepth 100000 in
theorem smithyref07_deep.calls  (a0 : List ((Bool) × (List (BitVec 8)) × (Int))) (A0 : Option Addr) (c0 : Nat) (r : Int) (H : smithyref07_deep a0 = some r) (w : World) (hs0 : SlRW w R60 A0 a0) (hc0 : a0.length ≤ c0)  :
    Made Try.prog 55 #[.slice A0 a0.length c0] w (.int .i64 r) := by
  unfold smithyref07_deep at H
  replace hs0 := hs0.toH
  have hM := Mm.start w (snap w) (snap_ok w)
  generalize snap w = h at *
  refine t_enter (vs := [.slice A0 a0.length c0]) (n := 40) Try.func55 rfl rfl rfl hM ?_
  clear hM
  change T 40 _ _ _
  refine t_seq ?_
  refine t_region (fun ops hops => ?_)
  clear hops
  refine z_val (v := .int .i64 0) (val_assign rfl rfl) rfl rfl rfl (fun _ _ _ => trivial) ?_
  refine z_nil ?_
  refine t_seq ?_
  refine t_region (fun ops hops => ?_)
  clear hops
  refine z_val (v := .int .i64 0) (val_assign rfl rfl) rfl rfl rfl (fun _ _ _ => trivial) ?_
  refine z_nil ?_
  refine t_seq ?_
  refine t_seq ?_
  refine t_region (fun ops hops => ?_)
  clear hops
  refine z_val (v := .slice A0 a0.length c0) (val_move rfl rfl) rfl rfl rfl (fun _ _ _ => trivial) ?_
  obtain ⟨x8, hx8, H⟩ := Let_elim H
  refine z_val (v := .int .i64 x8) (by subst hx8; exact val_len rfl rfl rfl Try.underlying46) rfl rfl rfl (fun _ _ _ => trivial) ?_
  clear hx8
  refine z_val (v := .int .i64 0) (val_move rfl rfl) rfl rfl rfl (fun _ _ _ => trivial) ?_
  refine z_nil ?_
  refine t_block ?_
  obtain ⟨z1, hz1, HK1⟩ := Option.bind_eq_some_iff.1 H
  clear H
  refine t_while hz1 (fun (s : (Int) × (Int)) (g : Unit) => [(0, .slice A0 a0.length c0), (3, .int .i64 s.1), (8, .int .i64 x8), (9, .int .i64 s.2)]) (fun (s : (Int) × (Int)) (g : Unit) => [(3, .int .i64 s.1)]) (fun (s : (Int) × (Int)) (g : Unit) => Mm w [] h []) (fun (s : (Int) × (Int)) (g : Unit) => Mm w [] h []) (fun (s : (Int) × (Int)) (g : Unit) => True) (fun (s : (Int) × (Int)) (g : Unit) => True) () trivial (fun a w ha hw => ⟨ha.cons rfl (ha.cons rfl (ha.cons rfl (ha.cons rfl (ha.nil)))), hw⟩) (fun Gn Gb s g e hφ H hn1 hb1 hr1 => ?_) (fun s g hzz hφ => ?_)
  ·
    obtain ⟨x3, x9⟩ := s
    change smithyref07_deep.b1 x8 a0 x3 x9 = some e at H
    unfold smithyref07_deep.b1 at H
    clear hz1
    change T 40 _ _ _
    refine t_seq ?_
    refine t_region (fun ops hops => ?_)
    clear hops
    obtain ⟨x10, hx10, H⟩ := Let_elim H
    refine z_val (v := .bool x10) (by subst hx10; exact val_bin rfl rfl rfl rfl (i64_lss _ _ _)) rfl rfl rfl (fun _ _ _ => trivial) ?_
    clear hx10
    refine z_nil ?_
    refine t_seq ?_
    cases x10
    ·
      replace H := cond_f H
      refine t_cond_false rfl ?_
      refine t_exit rfl ?_
      obtain rfl := Option.some.inj H
      exact t_reach ((hb1 _ () rfl trivial).weak (fun a ha => ha.cons rfl (ha.nil)) (fun w hw => hw))
    ·
      replace H := cond_t H
      refine t_cond_true rfl ?_
      refine t_skip ?_
      refine t_seq ?_
      refine t_block ?_
      refine t_seq ?_
      refine t_region (fun ops hops => ?_)
      clear hops
      refine z_val (v := .int .i64 x9) (val_move rfl rfl) rfl rfl rfl (fun _ _ _ => trivial) ?_
      refine z_val (v := .int .i64 x9) (val_assign rfl rfl) rfl rfl rfl (fun _ _ _ => trivial) ?_
      refine z_nil ?_
      refine t_seq ?_
      refine t_region (fun ops hops => ?_)
      clear hops
      refine z_val (v := .int .i64 0) (val_assign rfl rfl) rfl rfl rfl (fun _ _ _ => trivial) ?_
      refine z_nil ?_
      refine t_seq ?_
      refine t_seq ?_
      refine t_region (fun ops hops => ?_)
      clear hops
      refine z_val (v := .int .i64 0) (val_assign rfl rfl) rfl rfl rfl (fun _ _ _ => trivial) ?_
      refine z_nil ?_
      refine t_block ?_
      obtain ⟨z2, hz2, HK2⟩ := Option.bind_eq_some_iff.1 H
      clear H
      refine t_while hz2 (fun (s : (Int) × (Int)) (g : Unit) => [(0, .slice A0 a0.length c0), (3, .int .i64 x3), (4, .int .i64 x9), (5, .int .i64 s.1), (6, .int .i64 s.2), (8, .int .i64 x8), (9, .int .i64 x9)]) (fun (s : (Int) × (Int)) (g : Unit) => [(0, .slice A0 a0.length c0), (3, .int .i64 x3), (5, .int .i64 s.1), (8, .int .i64 x8), (9, .int .i64 x9)]) (fun (s : (Int) × (Int)) (g : Unit) => Mm w [] h []) (fun (s : (Int) × (Int)) (g : Unit) => Mm w [] h []) (fun (s : (Int) × (Int)) (g : Unit) => True) (fun (s : (Int) × (Int)) (g : Unit) => True) () trivial (fun a w ha hw => ⟨ha.cons rfl (ha.cons rfl (ha.cons rfl (ha.cons rfl (ha.cons rfl (ha.cons rfl (ha.cons rfl (ha.nil))))))), hw⟩) (fun Gn Gb s g e hφ H hn2 hb2 hr2 => ?_) (fun s g hzz hφ => ?_)
      ·
        obtain ⟨x5, x6⟩ := s
        change smithyref07_deep.b2 x9 a0 x5 x6 = some e at H
        unfold smithyref07_deep.b2 at H
        clear hz2
        change T 40 _ _ _
        refine t_seq ?_
        refine t_seq ?_
        refine t_region (fun ops hops => ?_)
        clear hops
        refine z_val (v := .int .i64 x6) (val_move rfl rfl) rfl rfl rfl (fun _ _ _ => trivial) ?_
        refine z_val (v := .int .i64 x9) (val_move rfl rfl) rfl rfl rfl (fun _ _ _ => trivial) ?_
        obtain ⟨x14, hx14, H⟩ := Let_elim H
        refine z_val (v := .bool x14) (by subst hx14; exact val_bin rfl rfl rfl rfl (i64_leq _ _ _)) rfl rfl rfl (fun _ _ _ => trivial) ?_
        clear hx14
        refine z_nil ?_
        cases x14
        ·
          replace H := cond_f H
          refine t_cond_false rfl ?_
          refine t_exit rfl ?_
          obtain rfl := Option.some.inj H
          exact t_reach ((hb2 _ () rfl trivial).weak (fun a ha => ha.cons rfl (ha.cons rfl (ha.cons rfl (ha.cons rfl (ha.cons rfl (ha.nil)))))) (fun w hw => hw))
        ·
          replace H := cond_t H
          refine t_cond_true rfl ?_
          refine t_skip ?_
          refine t_seq ?_
          refine t_block ?_
          refine t_seq ?_
          refine t_region (fun ops hops => ?_)
          refine z_val (v := .slice A0 a0.length c0) (val_move rfl rfl) rfl rfl rfl (fun _ _ _ => trivial) ?_
          refine z_val (v := .int .i64 x6) (val_move rfl rfl) rfl rfl rfl (fun _ _ _ => trivial) ?_
          obtain ⟨hq_1, H⟩ := Chk_elim H
          obtain ⟨x19, hx19, H⟩ := Let_elim H
          obtain ⟨b_7, o_8, hA_9, cs, hr, hc_6⟩ := hs0.at_ (show x6.toNat < a0.length from (idx_lt hq_1))
          rw [← hx19] at hr
          clear hx19
          obtain ⟨A_2, c_3, rfl, hs_4, hc_5⟩ := hr
          refine z_val (v := .pointer (some ⟨b_7, o_8 + x6.toNat * 3, none⟩)) (val_idxR rfl rfl rfl Try.underlying46 sz60 hq_1 hA_9 rfl) rfl rfl rfl (fun _ _ _ => trivial) ?_
          refine z_val (v := .pointer (some ⟨b_7, o_8 + x6.toNat * 3 + 0, none⟩)) (val_fldB (sz := 1) rfl rfl Try.underlying60 rfl rfl sz4 (by decide)) rfl rfl rfl (fun _ _ _ => trivial) ?_
          refine z_val (v := .bool x19.1) (val_load1 rfl rfl Try.underlying4 rfl (fun _ hw => cell_of hc_6 (k := 0) (cells_here (k := 0) rfl) hw)) rfl rfl rfl (fun _ _ _ => trivial) ?_
          refine z_val (v := .bool x19.1) (val_move rfl rfl) rfl rfl rfl (fun _ _ _ => trivial) ?_
          refine z_bind H 10 (fun (s : Bool) (_ : Unit) => [(0, .slice A0 a0.length c0), (3, .int .i64 x3), (4, .int .i64 x9), (5, .int .i64 x5), (6, .int .i64 x6), (8, .int .i64 x8), (9, .int .i64 x9), (32, .bool s)]) (fun _ _ => Mm w [] h []) (fun _ _ => True) (fun Gr K s he HJ => ?_) (fun s g HB _ => ?_)
          ·
            clear H
            generalize x19.1 = bb at *
            cases bb
            ·
              have H := cond_f he
              clear he
              refine z_skip rfl rfl (by rw [hops]; rfl) (fun _ _ _ => trivial) ?_
              refine z_skip rfl rfl (by rw [hops]; rfl) (fun _ _ _ => trivial) ?_
              refine z_skip rfl rfl (by rw [hops]; rfl) (fun _ _ _ => trivial) ?_
              refine z_skip rfl rfl (by rw [hops]; rfl) (fun _ _ _ => trivial) ?_
              refine z_skip rfl rfl (by rw [hops]; rfl) (fun _ _ _ => trivial) ?_
              refine z_skip rfl rfl (by rw [hops]; rfl) (fun _ _ _ => trivial) ?_
              refine z_skip rfl rfl (by rw [hops]; rfl) (fun _ _ _ => trivial) ?_
              refine z_skip rfl rfl (by rw [hops]; rfl) (fun _ _ _ => trivial) ?_
              refine z_skip rfl rfl (by rw [hops]; rfl) (fun _ _ _ => trivial) ?_
              refine z_val (v := .bool false) (val_pick rfl rfl rfl) rfl rfl rfl (fun _ _ _ => trivial) ?_
              obtain rfl := Option.some.inj H
              exact z_nil ((K _ () HJ trivial).weak (fun a ha => ha.cons rfl (ha.cons rfl (ha.cons rfl (ha.cons rfl (ha.cons rfl (ha.cons rfl (ha.cons rfl (ha.cons rfl (ha.nil))))))))) (fun w hw => hw))
            ·
              have H := cond_t he
              clear he
              refine z_val (v := .int .i64 x9) (val_move rfl rfl) rfl rfl (by rw [hops]; rfl) (fun _ _ _ => trivial) ?_
              refine z_val (v := .int .i64 x6) (val_move rfl rfl) rfl rfl (by rw [hops]; rfl) (fun _ _ _ => trivial) ?_
              refine z_val (v := .slice A0 a0.length c0) (val_move rfl rfl) rfl rfl (by rw [hops]; rfl) (fun _ _ _ => trivial) ?_
              refine z_val (v := .int .i64 x6) (val_move rfl rfl) rfl rfl (by rw [hops]; rfl) (fun _ _ _ => trivial) ?_
              obtain ⟨hq_10, H⟩ := Chk_elim H
              obtain ⟨x27, hx27, H⟩ := Let_elim H
              obtain ⟨b_17, o_18, hA_19, cs_20, hr_15, hc_16⟩ := hs0.at_ (show x6.toNat < a0.length from (idx_lt hq_10))
              rw [← hx27] at hr_15
              clear hx27
              obtain ⟨A_11, c_12, rfl, hs_13, hc_14⟩ := hr_15
              refine z_val (v := .pointer (some ⟨b_17, o_18 + x6.toNat * 3, none⟩)) (val_idxR rfl rfl rfl Try.underlying46 sz60 hq_10 hA_19 rfl) rfl rfl (by rw [hops]; rfl) (fun _ _ _ => trivial) ?_
              refine z_val (v := .pointer (some ⟨b_17, o_18 + x6.toNat * 3 + 2, none⟩)) (val_fldB (sz := 1) rfl rfl Try.underlying60 rfl rfl sz3 (by decide)) rfl rfl (by rw [hops]; rfl) (fun _ _ _ => trivial) ?_
              refine z_val (v := .int .i64 x27.2.2) (val_load1 rfl rfl Try.underlying3 rfl (fun _ hw => cell_of hc_16 (k := 2) (cells_skip (n := 1) (k := 1) rfl (cells_skip (n := 1) (k := 0) rfl rfl)) hw)) rfl rfl (by rw [hops]; rfl) (fun _ _ _ => trivial) ?_
              obtain ⟨x30, hx30, H⟩ := Let_elim H
              refine z_val (v := .int .i64 x30) (by subst hx30; exact val_bin rfl rfl rfl rfl (i64_add _ _ _)) rfl rfl (by rw [hops]; rfl) (fun _ _ _ => trivial) ?_
              clear hx30
              obtain ⟨x31, hx31, H⟩ := Let_elim H
              refine z_val (v := .bool x31) (by subst hx31; exact val_bin rfl rfl rfl rfl (i64_leq _ _ _)) rfl rfl (by rw [hops]; rfl) (fun _ _ _ => trivial) ?_
              clear hx31
              refine z_val (v := .bool x31) (val_pick rfl rfl rfl) rfl rfl rfl (fun _ _ _ => trivial) ?_
              obtain rfl := Option.some.inj H
              exact z_nil ((K _ () HJ trivial).weak (fun a ha => ha.cons rfl (ha.cons rfl (ha.cons rfl (ha.cons rfl (ha.cons rfl (ha.cons rfl (ha.cons rfl (ha.cons rfl (ha.nil))))))))) (fun w hw => hw))
          ·
            replace H := HB
            clear HB
            obtain ⟨x32, rfl⟩ : ∃ x, x = s := ⟨_, rfl⟩
            change T 40 _ _ _
            refine z_nil ?_
            refine t_bind H (fun (s : (Int)) (g : Unit) => [(0, .slice A0 a0.length c0), (3, .int .i64 x3), (4, .int .i64 x9), (5, .int .i64 s), (6, .int .i64 x6), (8, .int .i64 x8), (9, .int .i64 x9)]) (fun (s : (Int)) (g : Unit) => Mm w [] h []) (fun (s : (Int)) (g : Unit) => True) (fun Gr K s he HJ => ?_) (fun s g HB hφ => ?_)
            ·
              clear H
              cases x32
              ·
                have H := cond_f he
                clear he
                refine t_cond_false rfl ?_
                refine t_skip ?_
                obtain rfl := Option.some.inj H
                exact t_reach ((K _ () HJ trivial).weak (fun a ha => ha.cons rfl (ha.cons rfl (ha.cons rfl (ha.cons rfl (ha.cons rfl (ha.cons rfl (ha.cons rfl (ha.nil)))))))) (fun w hw => hw))
              ·
                have H := cond_t he
                clear he
                refine t_cond_true rfl ?_
                refine t_region (fun ops hops => ?_)
                clear hops
                refine z_val (v := .int .i64 x5) (val_move rfl rfl) rfl rfl rfl (fun _ _ _ => trivial) ?_
                obtain ⟨x34, hx34, H⟩ := Let_elim H
                refine z_val (v := .int .i64 x34) (by subst hx34; exact val_bin rfl rfl rfl rfl (i64_add _ _ _)) rfl rfl rfl (fun _ _ _ => trivial) ?_
                clear hx34
                refine z_val (v := .int .i64 x34) (val_assign rfl rfl) rfl rfl rfl (fun _ _ _ => trivial) ?_
                refine z_nil ?_
                obtain rfl := Option.some.inj H
                exact t_reach ((K _ () HJ trivial).weak (fun a ha => ha.cons rfl (ha.cons rfl (ha.cons rfl (ha.cons rfl (ha.cons rfl (ha.cons rfl (ha.cons rfl (ha.nil)))))))) (fun w hw => hw))
            ·
              replace H := HB
              clear HB
              obtain ⟨x5_21, rfl⟩ : ∃ x, x = s := ⟨_, rfl⟩
              try dsimp only at H
              change T 40 _ _ _
              refine t_fin ?_
              refine t_region (fun ops hops => ?_)
              clear hops
              refine z_val (v := .int .i64 x6) (val_move rfl rfl) rfl rfl rfl (fun _ _ _ => trivial) ?_
              obtain ⟨x16, hx16, H⟩ := Let_elim H
              refine z_val (v := .int .i64 x16) (by subst hx16; exact val_bin rfl rfl rfl rfl (i64_add _ _ _)) rfl rfl rfl (fun _ _ _ => trivial) ?_
              clear hx16
              refine z_val (v := .int .i64 x16) (val_assign rfl rfl) rfl rfl rfl (fun _ _ _ => trivial) ?_
              refine z_nil ?_
              obtain rfl := Option.some.inj H
              exact t_reach ((hn2 _ () rfl trivial).weak (fun a ha => ha.cons rfl (ha.cons rfl (ha.cons rfl (ha.cons rfl (ha.cons rfl (ha.cons rfl (ha.cons rfl (ha.nil)))))))) (fun w hw => hw))
      ·
        obtain ⟨x5, x6⟩ := s
        subst hzz
        have H := HK2
        clear HK2 hz2
        replace H := sum_l H
        try dsimp only at H
        change T 40 _ _ _
        refine t_region (fun ops hops => ?_)
        clear hops
        refine z_val (v := .int .i64 x3) (val_move rfl rfl) rfl rfl rfl (fun _ _ _ => trivial) ?_
        refine z_val (v := .int .i64 x5) (val_move rfl rfl) rfl rfl rfl (fun _ _ _ => trivial) ?_
        obtain ⟨x37, hx37, H⟩ := Let_elim H
        refine z_val (v := .int .i64 x37) (by subst hx37; exact val_max rfl rfl rfl) rfl rfl rfl (fun _ _ _ => trivial) ?_
        clear hx37
        refine z_val (v := .int .i64 x37) (val_assign rfl rfl) rfl rfl rfl (fun _ _ _ => trivial) ?_
        refine z_nil ?_
        refine t_fin ?_
        refine t_region (fun ops hops => ?_)
        clear hops
        obtain ⟨x38, hx38, H⟩ := Let_elim H
        refine z_val (v := .int .i64 x38) (by subst hx38; exact val_bin rfl rfl rfl rfl (i64_add _ _ _)) rfl rfl rfl (fun _ _ _ => trivial) ?_
        clear hx38
        refine z_val (v := .int .i64 x38) (val_move rfl rfl) rfl rfl rfl (fun _ _ _ => trivial) ?_
        refine z_nil ?_
        obtain rfl := Option.some.inj H
        exact t_reach ((hn1 _ () rfl trivial).weak (fun a ha => ha.cons rfl (ha.cons rfl (ha.cons rfl (ha.cons rfl (ha.nil))))) (fun w hw => hw))
  ·
    obtain ⟨x3, x9⟩ := s
    subst hzz
    have H := HK1
    clear HK1 hz1
    replace H := sum_l H
    try dsimp only at H
    change T 40 _ _ _
    refine t_seq ?_
    refine t_region (fun ops hops => ?_)
    clear hops
    refine z_val (v := .int .i64 x3) (val_move rfl rfl) rfl rfl rfl (fun _ _ _ => trivial) ?_
    refine z_val (v := .int .i64 x3) (val_assign rfl rfl) rfl rfl rfl (fun _ _ _ => trivial) ?_
    refine z_nil ?_
    refine t_ret ?_
    obtain rfl := Option.some.inj H
    exact ret1 rfl (res_tmp rfl) (fun _ hw => ⟨rfl, hw.below⟩)
def smithyref07_writeB.b1 (a1 : Int) (x12 : (Bool) × (List (BitVec 8)) × (Int)) (F_smithyref07_write : (List ((Bool) × (List (BitVec 8)) × (Int))) → (Int) → Option (List (BitVec 8))) (a0 : List ((Bool) × (List (BitVec 8)) × (Int))) (x7 : List (BitVec 8)) (x8 : Int) : Option (Ctl ((List (BitVec 8)) × (Int)) (List (BitVec 8))) :=
  Let (wi (a1 + 1)) fun x47 => Let (wi (x47 + x12.2.2)) fun x50 => Let (decide (x8 < x50)) fun x51 => (bif x51 then (F_smithyref07_write a0 x8).bind fun x58 => Chk ((x7.length + x58.length) * 1 ≤ 140737488355328) <| Let (x7 ++ x58) fun x59 => (smithyref07_end 18446744073709551616 a0 x8).bind fun x54 => some (.next (x59, x54)) else some (.brk (x7, x8)))
def smithyref07_writeB (F_smithyref07_write : (List ((Bool) × (List (BitVec 8)) × (Int))) → (Int) → Option (List (BitVec 8))) (a0 : List ((Bool) × (List (BitVec 8)) × (Int))) (a1 : Int) : Option (List (BitVec 8)) :=
  Chk ((0 : Int) ≤ a1 ∧ a1 < (a0.length : Int)) <| Let (lget a0 a1.toNat) fun x12 => Let (!x12.1) fun x16 => (bif x16 then Let ((x12.2.1.length : Int)) fun x19 => Let (x19 == 1) fun x20 => (bif x20 then Chk ((0 : Int) ≤ 0 ∧ 0 < (x12.2.1.length : Int)) <| Let (lget x12.2.1 0) fun x25 => Let (decide ((x25.toNat : Int) < 128)) fun x26 => some x26 else some false).bind (fun x27 => (bif x27 then Chk ((0 : Int) ≤ 0 ∧ 0 < (x12.2.1.length : Int)) <| Let (lget x12.2.1 0) fun x31 => Let ([x31]) fun x32 => some x32 else Let ((x12.2.1.length : Int)) fun x35 => (smithyref07_Head x35 0).bind fun x36 => Chk ((x36.length + x12.2.1.length) * 1 ≤ 140737488355328) <| Let (x36 ++ x12.2.1) fun x40 => some x40)) else Let (([] : List (BitVec 8))) fun x42 => Let (wi (a1 + 1)) fun x44 => (wlx (σ := (List (BitVec 8)) × (Int)) (fun s => smithyref07_writeB.b1 a1 x12 F_smithyref07_write a0 s.1 s.2) (x42, x44)).bind (Sum.elim (fun s => (fun x7 x8 => Let ((x7.length : Int)) fun x61 => (smithyref07_Head x61 64).bind fun x62 => Chk ((x62.length + x7.length) * 1 ≤ 140737488355328) <| Let (x62 ++ x7) fun x65 => some x65) s.1 s.2) (fun r => some r)))
set_option maxRecDepth 100000 in
theorem smithyref07_writeB.calls  (F_smithyref07_write : (List ((Bool) × (List (BitVec 8)) × (Int))) → (Int) → Option (List (BitVec 8))) (hF_smithyref07_write : ∀ (a0 : List ((Bool) × (List (BitVec 8)) × (Int))) (a1 : Int) (A0 : Option Addr) (c0 : Nat) (r : List (BitVec 8)) (H : F_smithyref07_write a0 a1 = some r) (w : World) (hs0 : SlRW w R60 A0 a0) (hc0 : a0.length ≤ c0) , Calls Try.prog 56 #[.slice A0 a0.length c0, .int .i64 a1] w fun e w' => ∃ A c, e = .returned (.slice A r.length c) ∧ Below w.heap.size w w' ∧ OwnR w w' 5 U8 A c r) (a0 : List ((Bool) × (List (BitVec 8)) × (Int))) (a1 : Int) (A0 : Option Addr) (c0 : Nat) (r : List (BitVec 8)) (H : smithyref07_writeB F_smithyref07_write a0 a1 = some r) (w : World) (hs0 : SlRW w R60 A0 a0) (hc0 : a0.length ≤ c0)  :
    Calls Try.prog 56 #[.slice A0 a0.length c0, .int .i64 a1] w fun e w' => ∃ A c, e = .returned (.slice A r.length c) ∧ Below w.heap.size w w' ∧ OwnR w w' 5 U8 A c r := by
  unfold smithyref07_writeB at H
  replace hs0 := hs0.toH
  have hM := Mm.start w (snap w) (snap_ok w)
  generalize snap w = h at *
  refine t_enter (vs := [.slice A0 a0.length c0, .int .i64 a1]) (n := 67) Try.func56 rfl rfl rfl hM ?_
  clear hM
  change T 67 _ _ _
  refine t_seq ?_
  refine t_region (fun ops hops => ?_)
  clear hops
  refine z_val (v := .slice none 0 0) (val_assign rfl rfl) rfl rfl rfl (fun _ _ _ => trivial) ?_
  refine z_nil ?_
  refine t_seq ?_
  refine t_region (fun ops hops => ?_)
  clear hops
  refine z_val (v := .slice A0 a0.length c0) (val_move rfl rfl) rfl rfl rfl (fun _ _ _ => trivial) ?_
  refine z_val (v := .int .i64 a1) (val_move rfl rfl) rfl rfl rfl (fun _ _ _ => trivial) ?_
  obtain ⟨hq_1, H⟩ := Chk_elim H
  obtain ⟨x12, hx12, H⟩ := Let_elim H
  obtain ⟨b_7, o_8, hA_9, cs, hr, hc_6⟩ := hs0.at_ (show a1.toNat < a0.length from (idx_lt hq_1))
  rw [← hx12] at hr
  clear hx12
  obtain ⟨A_2, c_3, rfl, hs_4, hc_5⟩ := hr
  refine z_val (v := .pointer (some ⟨b_7, o_8 + a1.toNat * 3, none⟩)) (val_idxR rfl rfl rfl Try.underlying46 sz60 hq_1 hA_9 rfl) rfl rfl rfl (fun _ _ _ => trivial) ?_
  refine z_val (v := .agg ([(.bool x12.1 : Value)] ++ ([(.slice A_2 x12.2.1.length c_3 : Value)] ++ ([(.int .i64 x12.2.2 : Value)]))).toArray) (val_loadR (off := o_8 + a1.toNat * 3) (cs := [(.bool x12.1 : Value)] ++ ([(.slice A_2 x12.2.1.length c_3 : Value)] ++ ([(.int .i64 x12.2.2 : Value)]))) rfl rfl Try.underlying60 rfl (sz60.trans (congrArg some (Eq.symm (by simp [cV_len])))) (fun _ hw => range_of hc_6 (k := 0) seg_all hw)) rfl rfl rfl (fun _ _ _ => trivial) ?_
  refine z_alloc (cs := [(.bool false : Value)] ++ ([(.slice none ([] : List (BitVec 8)).length 0 : Value)] ++ ([(.int .i64 0 : Value)]))) (room := 3) rfl ze60 rfl (by simp [cV_len]) rfl rfl rfl (fun _ _ _ _ => trivial) (fun g_10 => ?_)
  refine z_storeA (j := 0) (cs' := [(.bool x12.1 : Value)] ++ ([(.slice A_2 x12.2.1.length c_3 : Value)] ++ ([(.int .i64 x12.2.2 : Value)]))) (L' := [.blk g_10 60 ([(.bool x12.1 : Value)] ++ ([(.slice A_2 x12.2.1.length c_3 : Value)] ++ ([(.int .i64 x12.2.2 : Value)]))) 3]) rfl rfl rfl (one_app one_one (one_app one_one one_one)) sz60 rfl (by simp [cV_len]) rfl rfl rfl (fun _ _ _ => trivial) ?_
  refine z_nil ?_
  refine t_seq ?_
  refine t_seq ?_
  refine t_region (fun ops hops => ?_)
  clear hops
  refine z_val (v := .pointer (some ⟨g_10, 0, none⟩)) (val_fld0 (sz := 1) rfl rfl Try.underlying60 rfl rfl sz4 (by decide)) rfl rfl rfl (fun _ _ _ => trivial) ?_
  refine z_val (v := .bool x12.1) (val_load1 rfl rfl Try.underlying4 rfl (fun _ hw => hw.cell (j := 0) (q := 0) rfl (cells_here (k := 0) rfl))) rfl rfl rfl (fun _ _ _ => trivial) ?_
  obtain ⟨x16, hx16, H⟩ := Let_elim H
  refine z_val (v := .bool x16) (by subst hx16; exact val_un rfl rfl (bool_not _)) rfl rfl rfl (fun _ _ _ => trivial) ?_
  clear hx16
  refine z_nil ?_
  cases x16
  ·
    replace H := cond_f H
    refine t_cond_false rfl ?_
    refine t_skip ?_
    refine t_seq ?_
    refine t_region (fun ops hops => ?_)
    clear hops
    obtain ⟨x42, hx42, H⟩ := Let_elim H
    have hlx42 : x42.length = 0 := by subst hx42; rfl
    refine z_buildSlice' (e := 5) (f := U8) (xs := x42) (vs := []) rfl rfl (by subst hx42; intro w; kernel_rfl) hlx42 (by decide) rfl rfl rfl (fun _ _ _ _ => trivial) (fun g_11 hs_13 => ?_)
    clear hx42 hlx42
    refine z_val (v := .slice (some ⟨g_11, 0, none⟩) x42.length 0) (val_assign rfl rfl) rfl rfl rfl (fun _ _ _ => trivial) ?_
    refine z_nil ?_
    refine t_seq ?_
    refine t_seq ?_
    refine t_region (fun ops hops => ?_)
    clear hops
    refine z_val (v := .int .i64 a1) (val_move rfl rfl) rfl rfl rfl (fun _ _ _ => trivial) ?_
    obtain ⟨x44, hx44, H⟩ := Let_elim H
    refine z_val (v := .int .i64 x44) (by subst hx44; exact val_bin rfl rfl rfl rfl (i64_add _ _ _)) rfl rfl rfl (fun _ _ _ => trivial) ?_
    clear hx44
    refine z_val (v := .int .i64 x44) (val_assign rfl rfl) rfl rfl rfl (fun _ _ _ => trivial) ?_
    refine z_nil ?_
    refine t_block ?_
    obtain ⟨z1, hz1, HK1⟩ := Option.bind_eq_some_iff.1 H
    clear H
    refine t_while hz1 (fun (s : (List (BitVec 8)) × (Int)) (g : (Option Addr) × (Nat)) => [(0, .slice A0 a0.length c0), (1, .int .i64 a1), (5, .pointer (some ⟨g_10, 0, none⟩)), (7, .slice g.1 s.1.length g.2), (8, .int .i64 s.2)]) (fun (s : (List (BitVec 8)) × (Int)) (g : (Option Addr) × (Nat)) => [(7, .slice g.1 s.1.length g.2)]) (fun (s : (List (BitVec 8)) × (Int)) (g : (Option Addr) × (Nat)) => Mm w [] h [.row (.slice g.1 s.1.length g.2) 5 1 (s.1.map U8), .blk g_10 60 ([(.bool x12.1 : Value)] ++ ([(.slice A_2 x12.2.1.length c_3 : Value)] ++ ([(.int .i64 x12.2.2 : Value)]))) 3]) (fun (s : (List (BitVec 8)) × (Int)) (g : (Option Addr) × (Nat)) => Mm w [] h [.row (.slice g.1 s.1.length g.2) 5 1 (s.1.map U8)]) (fun (s : (List (BitVec 8)) × (Int)) (g : (Option Addr) × (Nat)) => Shp g.1 s.1.length g.2) (fun (s : (List (BitVec 8)) × (Int)) (g : (Option Addr) × (Nat)) => Shp g.1 s.1.length g.2) ⟨(some ⟨g_11, 0, none⟩), 0⟩ hs_13 (fun a w ha hw => ⟨ha.cons rfl (ha.cons rfl (ha.cons rfl (ha.cons rfl (ha.cons rfl (ha.nil))))), hw⟩) (fun Gn Gb s g e hφ H hn1 hb1 hr1 => ?_) (fun s g hzz hφ => ?_)
    ·
      obtain ⟨x7, x8⟩ := s
      obtain ⟨A_14, c_15⟩ := g
      try dsimp only at hφ
      have hs_16 := hφ; clear hφ
      change smithyref07_writeB.b1 a1 x12 F_smithyref07_write a0 x7 x8 = some e at H
      unfold smithyref07_writeB.b1 at H
      clear hz1
      change T 67 _ _ _
      refine t_seq ?_
      refine t_seq ?_
      refine t_region (fun ops hops => ?_)
      clear hops
      refine z_val (v := .int .i64 x8) (val_move rfl rfl) rfl rfl rfl (fun _ _ _ => trivial) ?_
      refine z_val (v := .int .i64 a1) (val_move rfl rfl) rfl rfl rfl (fun _ _ _ => trivial) ?_
      obtain ⟨x47, hx47, H⟩ := Let_elim H
      refine z_val (v := .int .i64 x47) (by subst hx47; exact val_bin rfl rfl rfl rfl (i64_add _ _ _)) rfl rfl rfl (fun _ _ _ => trivial) ?_
      clear hx47
      refine z_val (v := .pointer (some ⟨g_10, 2, none⟩)) (val_fld0 (sz := 1) rfl rfl Try.underlying60 rfl rfl sz3 (by decide)) rfl rfl rfl (fun _ _ _ => trivial) ?_
      refine z_val (v := .int .i64 x12.2.2) (val_load1 rfl rfl Try.underlying3 rfl (fun _ hw => hw.cell (j := 1) (q := 2) rfl (cells_skip (n := 1) (k := 1) rfl (cells_skip (n := 1) (k := 0) rfl rfl)))) rfl rfl rfl (fun _ _ _ => trivial) ?_
      obtain ⟨x50, hx50, H⟩ := Let_elim H
      refine z_val (v := .int .i64 x50) (by subst hx50; exact val_bin rfl rfl rfl rfl (i64_add _ _ _)) rfl rfl rfl (fun _ _ _ => trivial) ?_
      clear hx50
      obtain ⟨x51, hx51, H⟩ := Let_elim H
      refine z_val (v := .bool x51) (by subst hx51; exact val_bin rfl rfl rfl rfl (i64_lss _ _ _)) rfl rfl rfl (fun _ _ _ => trivial) ?_
      clear hx51
      refine z_nil ?_
      cases x51
      ·
        replace H := cond_f H
        refine t_cond_false rfl ?_
        refine t_exit rfl ?_
        obtain rfl := Option.some.inj H
        exact t_reach ((hb1 _ ⟨A_14, c_15⟩ rfl hs_16).weak (fun a ha => ha.cons rfl (ha.nil)) (fun w hw => hw.sel [0] rfl rfl))
      ·
        replace H := cond_t H
        refine t_cond_true rfl ?_
        refine t_skip ?_
        refine t_seq ?_
        refine t_block ?_
        refine t_region (fun ops hops => ?_)
        clear hops
        refine z_val (v := .slice A_14 x7.length c_15) (val_move rfl rfl) rfl rfl rfl (fun _ _ _ => trivial) ?_
        refine z_val (v := .slice A0 a0.length c0) (val_move rfl rfl) rfl rfl rfl (fun _ _ _ => trivial) ?_
        refine z_val (v := .int .i64 x8) (val_move rfl rfl) rfl rfl rfl (fun _ _ _ => trivial) ?_
        obtain ⟨x58, hx, H⟩ := Option.bind_eq_some_iff.1 H
        refine z_madeS (F := fun A_17 c_18 => .slice A_17 x58.length c_18) (xs := x58) rfl Try.func56 nm56 bs56 rfl (fun w hw => hF_smithyref07_write a0 x8 A0 c0 x58 hx w (hs0.toW hw) hc0) rfl rfl rfl (fun _ _ _ _ _ => trivial) (fun A_17 c_18 hs_19 => ?_)
        clear hx
        obtain ⟨hq_21, H⟩ := Chk_elim H
        obtain ⟨x59, hx59, H⟩ := Let_elim H
        refine z_append (f := U8) (j := 1) (xs := x7) (ys := x58) (zs := x59) rfl rfl Try.underlying25 in5 rfl rfl rfl rfl (fun w hw => (row_w hw (j := 0) rfl)) (fun _ => rfl) hq_21 (by decide) hx59 (fun A_22 c_23 => [.row (.slice A_17 x58.length c_18) 5 1 (x58.map U8), .row (.slice A_22 x59.length c_23) 5 1 (x59.map U8), .blk g_10 60 ([(.bool x12.1 : Value)] ++ ([(.slice A_2 x12.2.1.length c_3 : Value)] ++ ([(.int .i64 x12.2.2 : Value)]))) 3]) (fun _ _ => rfl) rfl rfl rfl (fun _ _ _ _ _ => trivial) (fun A_22 c_23 hs_24 => ?_)
        clear hx59
        refine z_val (v := .slice A_22 x59.length c_23) (val_assign rfl rfl) rfl rfl rfl (fun _ _ _ => trivial) ?_
        refine z_nil ?_
        refine t_fin ?_
        refine t_region (fun ops hops => ?_)
        clear hops
        refine z_val (v := .slice A0 a0.length c0) (val_move rfl rfl) rfl rfl rfl (fun _ _ _ => trivial) ?_
        refine z_val (v := .int .i64 x8) (val_move rfl rfl) rfl rfl rfl (fun _ _ _ => trivial) ?_
        obtain ⟨x54, hx_25, H⟩ := Option.bind_eq_some_iff.1 H
        refine z_made (v := .int .i64 x54) rfl Try.func54 nm54 bs54 rfl (fun w hw => smithyref07_end.calls 18446744073709551616 a0 x8 A0 c0 x54 hx_25 w (hs0.toW hw) hc0) rfl rfl rfl (fun _ _ _ => trivial) ?_
        clear hx_25
        refine z_val (v := .int .i64 x54) (val_assign rfl rfl) rfl rfl rfl (fun _ _ _ => trivial) ?_
        refine z_nil ?_
        obtain rfl := Option.some.inj H
        exact t_reach ((hn1 _ ⟨A_22, c_23⟩ rfl hs_24).weak (fun a ha => ha.cons rfl (ha.cons rfl (ha.cons rfl (ha.cons rfl (ha.cons rfl (ha.nil)))))) (fun w hw => hw.sel [1, 2] rfl rfl))
    ·
      obtain ⟨x7, x8⟩ := s
      obtain ⟨A_14, c_15⟩ := g
      try dsimp only at hφ
      have hs_16 := hφ; clear hφ
      subst hzz
      have H := HK1
      clear HK1 hz1
      replace H := sum_l H
      try dsimp only at H
      change T 67 _ _ _
      refine t_seq ?_
      refine t_region (fun ops hops => ?_)
      clear hops
      refine z_val (v := .slice A_14 x7.length c_15) (val_move rfl rfl) rfl rfl rfl (fun _ _ _ => trivial) ?_
      obtain ⟨x61, hx61, H⟩ := Let_elim H
      refine z_val (v := .int .i64 x61) (by subst hx61; exact val_len rfl rfl rfl Try.underlying25) rfl rfl rfl (fun _ _ _ => trivial) ?_
      clear hx61
      obtain ⟨x62, hx_26, H⟩ := Option.bind_eq_some_iff.1 H
      refine z_madeS (F := fun A_27 c_28 => .slice A_27 x62.length c_28) (xs := x62) rfl Try.func77 nm77 bs77 rfl (fun w hw => smithyref07_Head.calls x61 64 x62 hx_26 w) rfl rfl rfl (fun _ _ _ _ _ => trivial) (fun A_27 c_28 hs_29 => ?_)
      clear hx_26
      refine z_val (v := .slice A_27 x62.length c_28) (val_assign rfl rfl) rfl rfl rfl (fun _ _ _ => trivial) ?_
      refine z_nil ?_
      refine t_seq ?_
      refine t_region (fun ops hops => ?_)
      clear hops
      refine z_val (v := .slice A_27 x62.length c_28) (val_move rfl rfl) rfl rfl rfl (fun _ _ _ => trivial) ?_
      refine z_val (v := .slice A_14 x7.length c_15) (val_move rfl rfl) rfl rfl rfl (fun _ _ _ => trivial) ?_
      obtain ⟨hq_31, H⟩ := Chk_elim H
      obtain ⟨x65, hx65, H⟩ := Let_elim H
      refine z_append (f := U8) (j := 0) (xs := x62) (ys := x7) (zs := x65) rfl rfl Try.underlying25 in5 rfl rfl rfl rfl (fun w hw => (row_w hw (j := 1) rfl)) (fun _ => rfl) hq_31 (by decide) hx65 (fun A_32 c_33 => [.row (.slice A_32 x65.length c_33) 5 1 (x65.map U8), .row (.slice A_14 x7.length c_15) 5 1 (x7.map U8)]) (fun _ _ => rfl) rfl rfl rfl (fun _ _ _ _ _ => trivial) (fun A_32 c_33 hs_34 => ?_)
      clear hx65
      refine z_val (v := .slice A_32 x65.length c_33) (val_assign rfl rfl) rfl rfl rfl (fun _ _ _ => trivial) ?_
      refine z_nil ?_
      refine t_seq ?_
      refine t_region (fun ops hops => ?_)
      clear hops
      refine z_val (v := .slice A_32 x65.length c_33) (val_move rfl rfl) rfl rfl rfl (fun _ _ _ => trivial) ?_
      refine z_val (v := .slice A_32 x65.length c_33) (val_assign rfl rfl) rfl rfl rfl (fun _ _ _ => trivial) ?_
      refine z_nil ?_
      refine t_ret ?_
      obtain rfl := Option.some.inj H
      exact ret1 rfl (res_tmp rfl) (fun _ hw => ⟨A_32, c_33, rfl, hw.below, (row_out hw (j := 0) rfl hs_34)⟩)
  ·
    replace H := cond_t H
    refine t_cond_true rfl ?_
    refine t_seq ?_
    refine t_seq ?_
    refine t_region (fun ops hops => ?_)
    refine z_val (v := .pointer (some ⟨g_10, 1, none⟩)) (val_fld0 (sz := 1) rfl rfl Try.underlying60 rfl rfl sz25 (by decide)) rfl rfl rfl (fun _ _ _ => trivial) ?_
    refine z_val (v := .slice A_2 x12.2.1.length c_3) (val_load1 rfl rfl Try.underlying25 rfl (fun _ hw => hw.cell (j := 0) (q := 1) rfl (cells_skip (n := 1) (k := 0) rfl (cells_here (k := 0) rfl)))) rfl rfl rfl (fun _ _ _ => trivial) ?_
    obtain ⟨x19, hx19, H⟩ := Let_elim H
    refine z_val (v := .int .i64 x19) (by subst hx19; exact val_len rfl rfl rfl Try.underlying25) rfl rfl rfl (fun _ _ _ => trivial) ?_
    clear hx19
    obtain ⟨x20, hx20, H⟩ := Let_elim H
    refine z_val (v := .bool x20) (by subst hx20; exact val_bin rfl rfl rfl rfl (i64_eql _ _ _)) rfl rfl rfl (fun _ _ _ => trivial) ?_
    clear hx20
    refine z_val (v := .bool x20) (val_move rfl rfl) rfl rfl rfl (fun _ _ _ => trivial) ?_
    refine z_bind H 6 (fun (s : Bool) (_ : Unit) => [(5, .pointer (some ⟨g_10, 0, none⟩)), (27, .bool s)]) (fun _ _ => Mm w [] h [.blk g_10 60 ([(.bool x12.1 : Value)] ++ ([(.slice A_2 x12.2.1.length c_3 : Value)] ++ ([(.int .i64 x12.2.2 : Value)]))) 3]) (fun _ _ => True) (fun Gr K s he HJ => ?_) (fun s g HB _ => ?_)
    ·
      clear H
      cases x20
      ·
        have H := cond_f he
        clear he
        refine z_skip rfl rfl (by rw [hops]; rfl) (fun _ _ _ => trivial) ?_
        refine z_skip rfl rfl (by rw [hops]; rfl) (fun _ _ _ => trivial) ?_
        refine z_skip rfl rfl (by rw [hops]; rfl) (fun _ _ _ => trivial) ?_
        refine z_skip rfl rfl (by rw [hops]; rfl) (fun _ _ _ => trivial) ?_
        refine z_skip rfl rfl (by rw [hops]; rfl) (fun _ _ _ => trivial) ?_
        refine z_val (v := .bool false) (val_pick rfl rfl rfl) rfl rfl rfl (fun _ _ _ => trivial) ?_
        obtain rfl := Option.some.inj H
        exact z_nil ((K _ () HJ trivial).weak (fun a ha => ha.cons rfl (ha.cons rfl (ha.nil))) (fun w hw => hw))
      ·
        have H := cond_t he
        clear he
        refine z_val (v := .pointer (some ⟨g_10, 1, none⟩)) (val_fld0 (sz := 1) rfl rfl Try.underlying60 rfl rfl sz25 (by decide)) rfl rfl (by rw [hops]; rfl) (fun _ _ _ => trivial) ?_
        refine z_val (v := .slice A_2 x12.2.1.length c_3) (val_load1 rfl rfl Try.underlying25 rfl (fun _ hw => hw.cell (j := 0) (q := 1) rfl (cells_skip (n := 1) (k := 0) rfl (cells_here (k := 0) rfl)))) rfl rfl (by rw [hops]; rfl) (fun _ _ _ => trivial) ?_
        obtain ⟨hq_35, H⟩ := Chk_elim H
        obtain ⟨b_36, o_37, hA_38, hc_39⟩ := hs_4.at_ (idx_lt hq_35)
        refine z_val (v := .pointer (some ⟨b_36, o_37 + 0, none⟩)) (val_idxS0 rfl rfl rfl Try.underlying25 sz5 hq_35 hA_38 rfl) rfl rfl (by rw [hops]; rfl) (fun _ _ _ => trivial) ?_
        obtain ⟨x25, hx25, H⟩ := Let_elim H
        refine z_val (v := U8 x25) (by subst hx25; exact val_load1 rfl rfl Try.underlying5 rfl (fun _ hw => hc_39.cell hw)) rfl rfl (by rw [hops]; rfl) (fun _ _ _ => trivial) ?_
        clear hx25
        obtain ⟨x26, hx26, H⟩ := Let_elim H
        refine z_val (v := .bool x26) (by subst hx26; exact val_bin rfl rfl rfl rfl (u8_lss_r _ 128 x25)) rfl rfl (by rw [hops]; rfl) (fun _ _ _ => trivial) ?_
        clear hx26
        refine z_val (v := .bool x26) (val_pick rfl rfl rfl) rfl rfl rfl (fun _ _ _ => trivial) ?_
        obtain rfl := Option.some.inj H
        exact z_nil ((K _ () HJ trivial).weak (fun a ha => ha.cons rfl (ha.cons rfl (ha.nil))) (fun w hw => hw))
    ·
      replace H := HB
      clear HB
      obtain ⟨x27, rfl⟩ : ∃ x, x = s := ⟨_, rfl⟩
      change T 67 _ _ _
      refine z_nil ?_
      cases x27
      ·
        replace H := cond_f H
        refine t_cond_false rfl ?_
        refine t_skip ?_
        refine t_seq ?_
        refine t_region (fun ops hops => ?_)
        clear hops
        refine z_val (v := .pointer (some ⟨g_10, 1, none⟩)) (val_fld0 (sz := 1) rfl rfl Try.underlying60 rfl rfl sz25 (by decide)) rfl rfl rfl (fun _ _ _ => trivial) ?_
        refine z_val (v := .slice A_2 x12.2.1.length c_3) (val_load1 rfl rfl Try.underlying25 rfl (fun _ hw => hw.cell (j := 0) (q := 1) rfl (cells_skip (n := 1) (k := 0) rfl (cells_here (k := 0) rfl)))) rfl rfl rfl (fun _ _ _ => trivial) ?_
        obtain ⟨x35, hx35, H⟩ := Let_elim H
        refine z_val (v := .int .i64 x35) (by subst hx35; exact val_len rfl rfl rfl Try.underlying25) rfl rfl rfl (fun _ _ _ => trivial) ?_
        clear hx35
        obtain ⟨x36, hx_40, H⟩ := Option.bind_eq_some_iff.1 H
        refine z_madeS (F := fun A_41 c_42 => .slice A_41 x36.length c_42) (xs := x36) rfl Try.func77 nm77 bs77 rfl (fun w hw => smithyref07_Head.calls x35 0 x36 hx_40 w) rfl rfl rfl (fun _ _ _ _ _ => trivial) (fun A_41 c_42 hs_43 => ?_)
        clear hx_40
        refine z_val (v := .slice A_41 x36.length c_42) (val_assign rfl rfl) rfl rfl rfl (fun _ _ _ => trivial) ?_
        refine z_nil ?_
        refine t_seq ?_
        refine t_region (fun ops hops => ?_)
        clear hops
        refine z_val (v := .slice A_41 x36.length c_42) (val_move rfl rfl) rfl rfl rfl (fun _ _ _ => trivial) ?_
        refine z_val (v := .pointer (some ⟨g_10, 1, none⟩)) (val_fld0 (sz := 1) rfl rfl Try.underlying60 rfl rfl sz25 (by decide)) rfl rfl rfl (fun _ _ _ => trivial) ?_
        refine z_val (v := .slice A_2 x12.2.1.length c_3) (val_load1 rfl rfl Try.underlying25 rfl (fun _ hw => hw.cell (j := 1) (q := 1) rfl (cells_skip (n := 1) (k := 0) rfl (cells_here (k := 0) rfl)))) rfl rfl rfl (fun _ _ _ => trivial) ?_
        obtain ⟨hq_45, H⟩ := Chk_elim H
        obtain ⟨x40, hx40, H⟩ := Let_elim H
        refine z_append (f := U8) (j := 0) (xs := x36) (ys := x12.2.1) (zs := x40) rfl rfl Try.underlying25 in5 rfl rfl rfl rfl (fun w hw => (hs_4.toW hw)) (fun _ => rfl) hq_45 (by decide) hx40 (fun A_46 c_47 => [.row (.slice A_46 x40.length c_47) 5 1 (x40.map U8), .blk g_10 60 ([(.bool x12.1 : Value)] ++ ([(.slice A_2 x12.2.1.length c_3 : Value)] ++ ([(.int .i64 x12.2.2 : Value)]))) 3]) (fun _ _ => rfl) rfl rfl rfl (fun _ _ _ _ _ => trivial) (fun A_46 c_47 hs_48 => ?_)
        clear hx40
        refine z_val (v := .slice A_46 x40.length c_47) (val_assign rfl rfl) rfl rfl rfl (fun _ _ _ => trivial) ?_
        refine z_nil ?_
        refine t_seq ?_
        refine t_region (fun ops hops => ?_)
        clear hops
        refine z_val (v := .slice A_46 x40.length c_47) (val_move rfl rfl) rfl rfl rfl (fun _ _ _ => trivial) ?_
        refine z_val (v := .slice A_46 x40.length c_47) (val_assign rfl rfl) rfl rfl rfl (fun _ _ _ => trivial) ?_
        refine z_nil ?_
        refine t_ret ?_
        obtain rfl := Option.some.inj H
        exact ret1 rfl (res_tmp rfl) (fun _ hw => ⟨A_46, c_47, rfl, hw.below, (row_out hw (j := 0) rfl hs_48)⟩)
      ·
        replace H := cond_t H
        refine t_cond_true rfl ?_
        refine t_seq ?_
        refine t_region (fun ops hops => ?_)
        clear hops
        refine z_val (v := .pointer (some ⟨g_10, 1, none⟩)) (val_fld0 (sz := 1) rfl rfl Try.underlying60 rfl rfl sz25 (by decide)) rfl rfl rfl (fun _ _ _ => trivial) ?_
        refine z_val (v := .slice A_2 x12.2.1.length c_3) (val_load1 rfl rfl Try.underlying25 rfl (fun _ hw => hw.cell (j := 0) (q := 1) rfl (cells_skip (n := 1) (k := 0) rfl (cells_here (k := 0) rfl)))) rfl rfl rfl (fun _ _ _ => trivial) ?_
        obtain ⟨hq_49, H⟩ := Chk_elim H
        obtain ⟨b_50, o_51, hA_52, hc_53⟩ := hs_4.at_ (idx_lt hq_49)
        refine z_val (v := .pointer (some ⟨b_50, o_51 + 0, none⟩)) (val_idxS0 rfl rfl rfl Try.underlying25 sz5 hq_49 hA_52 rfl) rfl rfl rfl (fun _ _ _ => trivial) ?_
        obtain ⟨x31, hx31, H⟩ := Let_elim H
        refine z_val (v := U8 x31) (by subst hx31; exact val_load1 rfl rfl Try.underlying5 rfl (fun _ hw => hc_53.cell hw)) rfl rfl rfl (fun _ _ _ => trivial) ?_
        clear hx31
        obtain ⟨x32, hx32, H⟩ := Let_elim H
        have hlx32 : x32.length = 1 := by subst hx32; rfl
        refine z_buildSlice' (e := 5) (f := U8) (xs := x32) (vs := [(0, U8 x31)]) rfl rfl (by subst hx32; intro w; kernel_rfl) hlx32 (by decide) rfl rfl rfl (fun _ _ _ _ => trivial) (fun g_54 hs_56 => ?_)
        clear hx32 hlx32
        refine z_val (v := .slice (some ⟨g_54, 0, none⟩) x32.length 1) (val_assign rfl rfl) rfl rfl rfl (fun _ _ _ => trivial) ?_
        refine z_nil ?_
        refine t_ret ?_
        obtain rfl := Option.some.inj H
        exact ret1 rfl (res_tmp rfl) (fun _ hw => ⟨(some ⟨g_54, 0, none⟩), 1, rfl, hw.below, (row_out hw (j := 0) rfl hs_56)⟩)
def smithyref07_write : Nat → (List ((Bool) × (List (BitVec 8)) × (Int))) → (Int) → Option (List (BitVec 8))
  | 0 => fun _ _ => none
  | k + 1 => smithyref07_writeB (smithyref07_write k)
theorem smithyref07_write.calls : ∀ (k : Nat), ∀ (a0 : List ((Bool) × (List (BitVec 8)) × (Int))) (a1 : Int) (A0 : Option Addr) (c0 : Nat) (r : List (BitVec 8)) (H : smithyref07_write k a0 a1 = some r) (w : World) (hs0 : SlRW w R60 A0 a0) (hc0 : a0.length ≤ c0) , Calls Try.prog 56 #[.slice A0 a0.length c0, .int .i64 a1] w fun e w' => ∃ A c, e = .returned (.slice A r.length c) ∧ Below w.heap.size w w' ∧ OwnR w w' 5 U8 A c r
  | 0 => by intro a0 a1 A0 c0 r H w hs0 hc0; exact nomatch (show (none : Option (List (BitVec 8))) = some r from H)
  | k + 1 => smithyref07_writeB.calls (smithyref07_write k) (smithyref07_write.calls k)
def smithyref07_Encode (a0 : List ((Bool) × (List (BitVec 8)) × (Int))) : Option ((List (BitVec 8)) × (Int)) :=
  Let (([] : List (BitVec 8))) fun x6 => (smithyref07_end 18446744073709551616 a0 0).bind fun x8 => Let ((a0.length : Int)) fun x10 => Let (x8 != x10) fun x11 => (bif x11 then some true else Let ((a0.length : Int)) fun x14 => Let (x14 == 0) fun x15 => some x15).bind (fun x16 => (bif x16 then some (x6, 2) else (smithyref07_deep a0).bind fun x19 => Let (decide (64 < x19)) fun x20 => (bif x20 then some (x6, 4) else (smithyref07_write 18446744073709551616 a0 0).bind fun x23 => Let ((x23.length : Int)) fun x25 => Let (decide (1048576 < x25)) fun x26 => (bif x26 then some (x6, 4) else some (x23, 0)))))
set_option maxRecDepth 100000 in
theorem smithyref07_Encode.calls  (a0 : List ((Bool) × (List (BitVec 8)) × (Int))) (A0 : Option Addr) (c0 : Nat) (r : (List (BitVec 8)) × (Int)) (H : smithyref07_Encode a0 = some r) (w : World) (hs0 : SlRW w R60 A0 a0) (hc0 : a0.length ≤ c0)  :
    Calls Try.prog 25 #[.slice A0 a0.length c0] w fun e w' => ∃ A c, e = .returned (.tuple #[.slice A r.1.length c, .int .i64 r.2]) ∧ Below w.heap.size w w' ∧ OwnR w w' 5 U8 A c r.1 := by
  unfold smithyref07_Encode at H
  replace hs0 := hs0.toH
  have hM := Mm.start w (snap w) (snap_ok w)
  generalize snap w = h at *
  refine t_enter (vs := [.slice A0 a0.length c0]) (n := 29) Try.func25 rfl rfl rfl hM ?_
  clear hM
  change T 29 _ _ _
  refine t_seq ?_
  refine t_region (fun ops hops => ?_)
  clear hops
  refine z_val (v := .slice none 0 0) (val_assign rfl rfl) rfl rfl rfl (fun _ _ _ => trivial) ?_
  refine z_val (v := .int .i64 0) (val_assign rfl rfl) rfl rfl rfl (fun _ _ _ => trivial) ?_
  refine z_nil ?_
  refine t_seq ?_
  refine t_region (fun ops hops => ?_)
  clear hops
  obtain ⟨x6, hx6, H⟩ := Let_elim H
  have hlx6 : x6.length = 0 := by subst hx6; rfl
  refine z_buildSlice' (e := 5) (f := U8) (xs := x6) (vs := []) rfl rfl (by subst hx6; intro w; kernel_rfl) hlx6 (by decide) rfl rfl rfl (fun _ _ _ _ => trivial) (fun g_1 hs_3 => ?_)
  clear hx6 hlx6
  refine z_val (v := .slice (some ⟨g_1, 0, none⟩) x6.length 0) (val_assign rfl rfl) rfl rfl rfl (fun _ _ _ => trivial) ?_
  refine z_nil ?_
  refine t_seq ?_
  refine t_seq ?_
  refine t_region (fun ops hops => ?_)
  refine z_val (v := .slice A0 a0.length c0) (val_move rfl rfl) rfl rfl rfl (fun _ _ _ => trivial) ?_
  obtain ⟨x8, hx, H⟩ := Option.bind_eq_some_iff.1 H
  refine z_made (v := .int .i64 x8) rfl Try.func54 nm54 bs54 rfl (fun w hw => smithyref07_end.calls 18446744073709551616 a0 0 A0 c0 x8 hx w (hs0.toW hw) hc0) rfl rfl rfl (fun _ _ _ => trivial) ?_
  clear hx
  refine z_val (v := .slice A0 a0.length c0) (val_move rfl rfl) rfl rfl rfl (fun _ _ _ => trivial) ?_
  obtain ⟨x10, hx10, H⟩ := Let_elim H
  refine z_val (v := .int .i64 x10) (by subst hx10; exact val_len rfl rfl rfl Try.underlying46) rfl rfl rfl (fun _ _ _ => trivial) ?_
  clear hx10
  obtain ⟨x11, hx11, H⟩ := Let_elim H
  refine z_val (v := .bool x11) (by subst hx11; exact val_bin rfl rfl rfl rfl (i64_neq _ _ _)) rfl rfl rfl (fun _ _ _ => trivial) ?_
  clear hx11
  refine z_val (v := .bool x11) (val_move rfl rfl) rfl rfl rfl (fun _ _ _ => trivial) ?_
  refine z_bind H 4 (fun (s : Bool) (_ : Unit) => [(0, .slice A0 a0.length c0), (4, .slice (some ⟨g_1, 0, none⟩) x6.length 0), (16, .bool s)]) (fun _ _ => Mm w [] h [.row (.slice (some ⟨g_1, 0, none⟩) x6.length 0) 5 1 (x6.map U8)]) (fun _ _ => True) (fun Gr K s he HJ => ?_) (fun s g HB _ => ?_)
  ·
    clear H
    cases x11
    ·
      have H := cond_f he
      clear he
      refine z_val (v := .slice A0 a0.length c0) (val_move rfl rfl) rfl rfl (by rw [hops]; rfl) (fun _ _ _ => trivial) ?_
      obtain ⟨x14, hx14, H⟩ := Let_elim H
      refine z_val (v := .int .i64 x14) (by subst hx14; exact val_len rfl rfl rfl Try.underlying46) rfl rfl (by rw [hops]; rfl) (fun _ _ _ => trivial) ?_
      clear hx14
      obtain ⟨x15, hx15, H⟩ := Let_elim H
      refine z_val (v := .bool x15) (by subst hx15; exact val_bin rfl rfl rfl rfl (i64_eql _ _ _)) rfl rfl (by rw [hops]; rfl) (fun _ _ _ => trivial) ?_
      clear hx15
      refine z_val (v := .bool x15) (val_pick rfl rfl rfl) rfl rfl rfl (fun _ _ _ => trivial) ?_
      obtain rfl := Option.some.inj H
      exact z_nil ((K _ () HJ trivial).weak (fun a ha => ha.cons rfl (ha.cons rfl (ha.cons rfl (ha.nil)))) (fun w hw => hw))
    ·
      have H := cond_t he
      clear he
      refine z_skip rfl rfl (by rw [hops]; rfl) (fun _ _ _ => trivial) ?_
      refine z_skip rfl rfl (by rw [hops]; rfl) (fun _ _ _ => trivial) ?_
      refine z_skip rfl rfl (by rw [hops]; rfl) (fun _ _ _ => trivial) ?_
      refine z_val (v := .bool true) (val_pick rfl rfl rfl) rfl rfl rfl (fun _ _ _ => trivial) ?_
      obtain rfl := Option.some.inj H
      exact z_nil ((K _ () HJ trivial).weak (fun a ha => ha.cons rfl (ha.cons rfl (ha.cons rfl (ha.nil)))) (fun w hw => hw))
  ·
    replace H := HB
    clear HB
    obtain ⟨x16, rfl⟩ : ∃ x, x = s := ⟨_, rfl⟩
    change T 29 _ _ _
    refine z_nil ?_
    cases x16
    ·
      replace H := cond_f H
      refine t_cond_false rfl ?_
      refine t_skip ?_
      refine t_seq ?_
      refine t_seq ?_
      refine t_region (fun ops hops => ?_)
      clear hops
      refine z_val (v := .slice A0 a0.length c0) (val_move rfl rfl) rfl rfl rfl (fun _ _ _ => trivial) ?_
      obtain ⟨x19, hx_4, H⟩ := Option.bind_eq_some_iff.1 H
      refine z_made (v := .int .i64 x19) rfl Try.func55 nm55 bs55 rfl (fun w hw => smithyref07_deep.calls a0 A0 c0 x19 hx_4 w (hs0.toW hw) hc0) rfl rfl rfl (fun _ _ _ => trivial) ?_
      clear hx_4
      obtain ⟨x20, hx20, H⟩ := Let_elim H
      refine z_val (v := .bool x20) (by subst hx20; exact val_bin rfl rfl rfl rfl (i64_gtr _ _ _)) rfl rfl rfl (fun _ _ _ => trivial) ?_
      clear hx20
      refine z_nil ?_
      cases x20
      ·
        replace H := cond_f H
        refine t_cond_false rfl ?_
        refine t_skip ?_
        refine t_seq ?_
        refine t_region (fun ops hops => ?_)
        clear hops
        refine z_val (v := .slice A0 a0.length c0) (val_move rfl rfl) rfl rfl rfl (fun _ _ _ => trivial) ?_
        obtain ⟨x23, hx_5, H⟩ := Option.bind_eq_some_iff.1 H
        refine z_madeS (F := fun A_6 c_7 => .slice A_6 x23.length c_7) (xs := x23) rfl Try.func56 nm56 bs56 rfl (fun w hw => smithyref07_write.calls 18446744073709551616 a0 0 A0 c0 x23 hx_5 w (hs0.toW hw) hc0) rfl rfl rfl (fun _ _ _ _ _ => trivial) (fun A_6 c_7 hs_8 => ?_)
        clear hx_5
        refine z_val (v := .slice A_6 x23.length c_7) (val_assign rfl rfl) rfl rfl rfl (fun _ _ _ => trivial) ?_
        refine z_nil ?_
        refine t_seq ?_
        refine t_seq ?_
        refine t_region (fun ops hops => ?_)
        clear hops
        refine z_val (v := .slice A_6 x23.length c_7) (val_move rfl rfl) rfl rfl rfl (fun _ _ _ => trivial) ?_
        obtain ⟨x25, hx25, H⟩ := Let_elim H
        refine z_val (v := .int .i64 x25) (by subst hx25; exact val_len rfl rfl rfl Try.underlying25) rfl rfl rfl (fun _ _ _ => trivial) ?_
        clear hx25
        obtain ⟨x26, hx26, H⟩ := Let_elim H
        refine z_val (v := .bool x26) (by subst hx26; exact val_bin rfl rfl rfl rfl (i64_gtr _ _ _)) rfl rfl rfl (fun _ _ _ => trivial) ?_
        clear hx26
        refine z_nil ?_
        cases x26
        ·
          replace H := cond_f H
          refine t_cond_false rfl ?_
          refine t_skip ?_
          refine t_seq ?_
          refine t_region (fun ops hops => ?_)
          clear hops
          refine z_val (v := .slice A_6 x23.length c_7) (val_move rfl rfl) rfl rfl rfl (fun _ _ _ => trivial) ?_
          refine z_val (v := .slice A_6 x23.length c_7) (val_assign rfl rfl) rfl rfl rfl (fun _ _ _ => trivial) ?_
          refine z_val (v := .int .i64 0) (val_assign rfl rfl) rfl rfl rfl (fun _ _ _ => trivial) ?_
          refine z_nil ?_
          refine t_ret ?_
          obtain rfl := Option.some.inj H
          exact ret2 rfl (res_tmp rfl) (res_tmp rfl) (fun _ hw => ⟨A_6, c_7, rfl, hw.below, (row_out hw (j := 0) rfl hs_8)⟩)
        ·
          replace H := cond_t H
          refine t_cond_true rfl ?_
          refine t_seq ?_
          refine t_region (fun ops hops => ?_)
          clear hops
          refine z_val (v := .slice (some ⟨g_1, 0, none⟩) x6.length 0) (val_move rfl rfl) rfl rfl rfl (fun _ _ _ => trivial) ?_
          refine z_val (v := .slice (some ⟨g_1, 0, none⟩) x6.length 0) (val_assign rfl rfl) rfl rfl rfl (fun _ _ _ => trivial) ?_
          refine z_val (v := .int .i64 4) (val_assign rfl rfl) rfl rfl rfl (fun _ _ _ => trivial) ?_
          refine z_nil ?_
          refine t_ret ?_
          obtain rfl := Option.some.inj H
          exact ret2 rfl (res_tmp rfl) (res_tmp rfl) (fun _ hw => ⟨(some ⟨g_1, 0, none⟩), 0, rfl, hw.below, (row_out hw (j := 1) rfl hs_3)⟩)
      ·
        replace H := cond_t H
        refine t_cond_true rfl ?_
        refine t_seq ?_
        refine t_region (fun ops hops => ?_)
        clear hops
        refine z_val (v := .slice (some ⟨g_1, 0, none⟩) x6.length 0) (val_move rfl rfl) rfl rfl rfl (fun _ _ _ => trivial) ?_
        refine z_val (v := .slice (some ⟨g_1, 0, none⟩) x6.length 0) (val_assign rfl rfl) rfl rfl rfl (fun _ _ _ => trivial) ?_
        refine z_val (v := .int .i64 4) (val_assign rfl rfl) rfl rfl rfl (fun _ _ _ => trivial) ?_
        refine z_nil ?_
        refine t_ret ?_
        obtain rfl := Option.some.inj H
        exact ret2 rfl (res_tmp rfl) (res_tmp rfl) (fun _ hw => ⟨(some ⟨g_1, 0, none⟩), 0, rfl, hw.below, (row_out hw (j := 0) rfl hs_3)⟩)
    ·
      replace H := cond_t H
      refine t_cond_true rfl ?_
      refine t_seq ?_
      refine t_region (fun ops hops => ?_)
      clear hops
      refine z_val (v := .slice (some ⟨g_1, 0, none⟩) x6.length 0) (val_move rfl rfl) rfl rfl rfl (fun _ _ _ => trivial) ?_
      refine z_val (v := .slice (some ⟨g_1, 0, none⟩) x6.length 0) (val_assign rfl rfl) rfl rfl rfl (fun _ _ _ => trivial) ?_
      refine z_val (v := .int .i64 2) (val_assign rfl rfl) rfl rfl rfl (fun _ _ _ => trivial) ?_
      refine z_nil ?_
      refine t_ret ?_
      obtain rfl := Option.some.inj H
      exact ret2 rfl (res_tmp rfl) (res_tmp rfl) (fun _ hw => ⟨(some ⟨g_1, 0, none⟩), 0, rfl, hw.below, (row_out hw (j := 0) rfl hs_3)⟩)
end Go.Proofs.Ytapfkdcilfpbhaa
