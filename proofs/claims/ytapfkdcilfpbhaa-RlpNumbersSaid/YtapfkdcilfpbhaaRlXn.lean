/- Functions of the program as plain functions, and their walks, printed by walk.py. -/
import Derived.Test.YtapfkdcilfpbhaaRlF
import Derived.Test.YtapfkdcilfpbhaaRlXf
import Derived.Test.YtapfkdcilfpbhaaRlD
namespace Go.Proofs.Ytapfkdcilfpbhaa
open Go.RowKit
set_option linter.unusedVariables false
set_option linter.unusedSimpArgs false
def smithylaw07_RlpNumbers (a0 : Vec (BitVec 64) 4) : Option (Bool) :=
  (rlp_Number a0).bind fun x5 => (smithylaw07_fixed).bind fun x6 => (bif x6 then Let (strOf x5) fun x9 => (smithyref07_Number a0).bind fun x11 => Let (strOf x11) fun x12 => Let (x9.toList == x12.toList) fun x13 => some x13 else some false).bind (fun x14 => (bif x14 then Let ((x5.length : Int)) fun x17 => Let (x17 == 0) fun x18 => (bif x18 then some true else Chk ((0 : Int) ≤ 0 ∧ 0 < (x5.length : Int)) <| Let (lget x5 0) fun x22 => Let ((x22.toNat : Int) != 0) fun x23 => some x23).bind (fun x24 => some x24) else some false).bind (fun x25 => some x25))
set_option maxRecDepth 100000 in
theorem smithylaw07_RlpNumbers.calls  (a0 : Vec (BitVec 64) 4) (r : Bool) (H : smithylaw07_RlpNumbers a0 = some r) (w : World)   :
    Made Try.prog 3 #[.agg (cV U64 a0).toArray] w (.bool r) := by
  unfold smithylaw07_RlpNumbers at H
  have hM := Mm.start w (snap w) (snap_ok w)
  generalize snap w = h at *
  refine t_enter (vs := [.agg (cV U64 a0).toArray]) (n := 26) Try.func3 rfl rfl rfl hM ?_
  clear hM
  change T 26 _ _ _
  refine t_seq ?_
  refine t_region (fun ops hops => ?_)
  clear hops
  refine z_box (cs := cV U64 a0) (room := 4) rfl rfl rfl (cV_len _) rfl rfl rfl (fun _ _ _ _ => trivial) (fun g_1 => ?_)
  refine z_val (v := .bool false) (val_assign rfl rfl) rfl rfl rfl (fun _ _ _ => trivial) ?_
  refine z_nil ?_
  refine t_seq ?_
  refine t_region (fun ops hops => ?_)
  clear hops
  refine z_val (v := .agg (cV U64 a0).toArray) (val_loadR (off := 0) (cs := cV U64 a0) rfl rfl Try.underlying24 rfl (sz24.trans (congrArg some (cV_len _).symm)) (fun _ hw => hw.whole (j := 0) rfl)) rfl rfl rfl (fun _ _ _ => trivial) ?_
  obtain ⟨x5, hx, H⟩ := Option.bind_eq_some_iff.1 H
  refine z_madeS (F := fun A_2 c_3 => .slice A_2 x5.length c_3) (xs := x5) rfl Try.func9 nm9 bs9 rfl (fun w hw => rlp_Number.calls a0 x5 hx w) rfl rfl rfl (fun _ _ _ _ _ => trivial) (fun A_2 c_3 hs_4 => ?_)
  clear hx
  refine z_val (v := .slice A_2 x5.length c_3) (val_assign rfl rfl) rfl rfl rfl (fun _ _ _ => trivial) ?_
  refine z_nil ?_
  refine t_seq ?_
  refine t_plan (C := Mm w [] h [.row (.slice A_2 x5.length c_3) 5 1 (x5.map U8), .blk g_1 24 (cV U64 a0) 4]) [] [(0, false), (1, true), (2, true), (3, true), (4, true), (5, false), (6, false), (7, true), (8, true), (9, true), (10, true), (11, true), (12, true), (13, true), (14, true), (15, true), (16, true), (17, true), (18, true), (19, true), (20, true)] (by kernel_rfl) (by kernel_rfl) (fun _ hw => hw.drew) (fun ops hops => ?_)
  obtain ⟨x6, hx_6, H⟩ := Option.bind_eq_some_iff.1 H
  refine z_made (v := .bool x6) rfl Try.func10 nm10 bs10 rfl (fun w hw => smithylaw07_fixed.calls x6 hx_6 w) rfl rfl rfl (fun _ _ hw => hw) ?_
  clear hx_6
  refine z_still (v := .bool x6) (val_move rfl rfl) rfl rfl rfl (fun _ hw => hw) ?_
  refine z_bind H 7 (fun (s : Bool) (_ : Unit) => [(3, .slice A_2 x5.length c_3), (14, .bool s)]) (fun _ _ => Mm w [] h [.row (.slice A_2 x5.length c_3) 5 1 (x5.map U8), .blk g_1 24 (cV U64 a0) 4]) (fun _ _ => True) (fun Gr K s he HJ => ?_) (fun s g HB _ => ?_)
  ·
    clear H
    cases x6
    ·
      have H := cond_f he
      clear he
      refine z_skip_still rfl rfl (by rw [hops]; rfl) (fun _ hw => hw) ?_
      refine z_skip_still rfl rfl (by rw [hops]; rfl) (fun _ hw => hw) ?_
      refine z_skip_still rfl rfl (by rw [hops]; rfl) (fun _ hw => hw) ?_
      refine z_skip rfl rfl (by rw [hops]; rfl) (fun _ _ hw => hw) ?_
      refine z_skip rfl rfl (by rw [hops]; rfl) (fun _ _ hw => hw) ?_
      refine z_skip_still rfl rfl (by rw [hops]; rfl) (fun _ hw => hw) ?_
      refine z_still (v := .bool false) (val_pick rfl rfl rfl) rfl rfl rfl (fun _ hw => hw) ?_
      obtain rfl := Option.some.inj H
      exact z_nil ((K _ () HJ trivial).weak (fun a ha => ha.cons rfl (ha.cons rfl (ha.nil))) (fun w hw => hw))
    ·
      have H := cond_t he
      clear he
      refine z_still (v := .slice A_2 x5.length c_3) (val_move rfl rfl) rfl rfl (by rw [hops]; rfl) (fun _ hw => hw) ?_
      obtain ⟨x9, hx9, H⟩ := Let_elim H
      refine z_still (v := .string x9) (by subst hx9; exact val_convS rfl rfl Try.underlying25 Try.underlying5 Try.underlying9 (fun w hw => (row_w hw (j := 0) rfl))) rfl rfl (by rw [hops]; rfl) (fun _ hw => hw) ?_
      clear hx9
      refine z_still (v := .agg (cV U64 a0).toArray) (val_loadR (off := 0) (cs := cV U64 a0) rfl rfl Try.underlying24 rfl (sz24.trans (congrArg some (cV_len _).symm)) (fun _ hw => hw.whole (j := 1) rfl)) rfl rfl (by rw [hops]; rfl) (fun _ hw => hw) ?_
      obtain ⟨x11, hx_7, H⟩ := Option.bind_eq_some_iff.1 H
      refine z_madeS (F := fun A_8 c_9 => .slice A_8 x11.length c_9) (xs := x11) rfl Try.func11 nm11 bs11 rfl (fun w hw => smithyref07_Number.calls a0 x11 hx_7 w) rfl rfl (by rw [hops]; rfl) (fun _ _ _ _ hw => hw.sel [1, 2] rfl rfl) (fun A_8 c_9 hs_10 => ?_)
      clear hx_7
      obtain ⟨x12, hx12, H⟩ := Let_elim H
      refine z_val (v := .string x12) (by subst hx12; exact val_convS rfl rfl Try.underlying25 Try.underlying5 Try.underlying9 (fun w hw => (row_w hw (j := 0) rfl))) rfl rfl (by rw [hops]; rfl) (fun _ _ hw => hw.sel [1, 2] rfl rfl) ?_
      clear hx12
      obtain ⟨x13, hx13, H⟩ := Let_elim H
      refine z_still (v := .bool x13) (by subst hx13; exact val_bin rfl rfl rfl rfl (str_eql _ _ _)) rfl rfl (by rw [hops]; rfl) (fun _ hw => hw.sel [1, 2] rfl rfl) ?_
      clear hx13
      refine z_still (v := .bool x13) (val_pick rfl rfl rfl) rfl rfl rfl (fun _ hw => hw.sel [1, 2] rfl rfl) ?_
      obtain rfl := Option.some.inj H
      exact z_nil ((K _ () HJ trivial).weak (fun a ha => ha.cons rfl (ha.cons rfl (ha.nil))) (fun w hw => hw.sel [1, 2] rfl rfl))
  ·
    replace H := HB
    clear HB
    obtain ⟨x14, rfl⟩ : ∃ x, x = s := ⟨_, rfl⟩
    change T 26 _ _ _
    refine z_still (v := .bool x14) (val_move rfl rfl) rfl rfl rfl (fun _ hw => hw) ?_
    refine z_bind H 10 (fun (s : Bool) (_ : Unit) => [(25, .bool s)]) (fun _ _ => Mm w [] h [.row (.slice A_2 x5.length c_3) 5 1 (x5.map U8), .blk g_1 24 (cV U64 a0) 4]) (fun _ _ => True) (fun Gr K s he HJ => ?_) (fun s g HB _ => ?_)
    ·
      clear H
      cases x14
      ·
        have H := cond_f he
        clear he
        refine z_skip_still rfl rfl (by rw [hops]; rfl) (fun _ hw => hw) ?_
        refine z_skip_still rfl rfl (by rw [hops]; rfl) (fun _ hw => hw) ?_
        refine z_skip_still rfl rfl (by rw [hops]; rfl) (fun _ hw => hw) ?_
        refine z_skip_still rfl rfl (by rw [hops]; rfl) (fun _ hw => hw) ?_
        refine z_skip_still rfl rfl (by rw [hops]; rfl) (fun _ hw => hw) ?_
        refine z_skip_still rfl rfl (by rw [hops]; rfl) (fun _ hw => hw) ?_
        refine z_skip_still rfl rfl (by rw [hops]; rfl) (fun _ hw => hw) ?_
        refine z_skip_still rfl rfl (by rw [hops]; rfl) (fun _ hw => hw) ?_
        refine z_skip_still rfl rfl (by rw [hops]; rfl) (fun _ hw => hw) ?_
        refine z_still (v := .bool false) (val_pick rfl rfl rfl) rfl rfl rfl (fun _ hw => hw) ?_
        obtain rfl := Option.some.inj H
        exact z_nil ((K _ () HJ trivial).weak (fun a ha => ha.cons rfl (ha.nil)) (fun w hw => hw))
      ·
        have H := cond_t he
        clear he
        refine z_still (v := .slice A_2 x5.length c_3) (val_move rfl rfl) rfl rfl (by rw [hops]; rfl) (fun _ hw => hw) ?_
        obtain ⟨x17, hx17, H⟩ := Let_elim H
        refine z_still (v := .int .i64 x17) (by subst hx17; exact val_len rfl rfl rfl Try.underlying25) rfl rfl (by rw [hops]; rfl) (fun _ hw => hw) ?_
        clear hx17
        obtain ⟨x18, hx18, H⟩ := Let_elim H
        refine z_still (v := .bool x18) (by subst hx18; exact val_bin rfl rfl rfl rfl (i64_eql _ _ _)) rfl rfl (by rw [hops]; rfl) (fun _ hw => hw) ?_
        clear hx18
        refine z_still (v := .bool x18) (val_move rfl rfl) rfl rfl (by rw [hops]; rfl) (fun _ hw => hw) ?_
        refine z_bind H 5 (fun (s : Bool) (_ : Unit) => [(15, .bool true), (24, .bool s)]) (fun _ _ => Mm w [] h [.row (.slice A_2 x5.length c_3) 5 1 (x5.map U8), .blk g_1 24 (cV U64 a0) 4]) (fun _ _ => True) (fun Gr K s he HJ => ?_) (fun s g HB _ => ?_)
        ·
          clear H
          cases x18
          ·
            have H := cond_f he
            clear he
            refine z_still (v := .slice A_2 x5.length c_3) (val_move rfl rfl) rfl rfl (by rw [hops]; rfl) (fun _ hw => hw) ?_
            obtain ⟨hq_12, H⟩ := Chk_elim H
            obtain ⟨g_13, hA_14⟩ := hs_4.blk (by omega)
            refine z_still (v := .pointer (some ⟨g_13, 0, none⟩)) (val_idxS1 rfl rfl rfl Try.underlying25 sz5 hq_12 hA_14 rfl) rfl rfl (by rw [hops]; rfl) (fun _ hw => hw) ?_
            obtain ⟨x22, hx22, H⟩ := Let_elim H
            refine z_still (v := U8 x22) (by subst hx22; exact val_load1 rfl rfl Try.underlying5 rfl (fun _ hw => row_cell' hw (j := 0) rfl hA_14 (idx_lt hq_12))) rfl rfl (by rw [hops]; rfl) (fun _ hw => hw) ?_
            clear hx22
            obtain ⟨x23, hx23, H⟩ := Let_elim H
            refine z_still (v := .bool x23) (by subst hx23; exact val_bin rfl rfl rfl rfl (u8_neq_r _ 0 x22)) rfl rfl (by rw [hops]; rfl) (fun _ hw => hw) ?_
            clear hx23
            refine z_still (v := .bool x23) (val_pick rfl rfl rfl) rfl rfl (by rw [hops]; rfl) (fun _ hw => hw) ?_
            obtain rfl := Option.some.inj H
            exact z_nil ((K _ () HJ trivial).weak (fun a ha => ha.cons rfl (ha.cons rfl (ha.nil))) (fun w hw => hw))
          ·
            have H := cond_t he
            clear he
            refine z_skip_still rfl rfl (by rw [hops]; rfl) (fun _ hw => hw) ?_
            refine z_skip_still rfl rfl (by rw [hops]; rfl) (fun _ hw => hw) ?_
            refine z_skip_still rfl rfl (by rw [hops]; rfl) (fun _ hw => hw) ?_
            refine z_skip_still rfl rfl (by rw [hops]; rfl) (fun _ hw => hw) ?_
            refine z_still (v := .bool true) (val_pick rfl rfl rfl) rfl rfl (by rw [hops]; rfl) (fun _ hw => hw) ?_
            obtain rfl := Option.some.inj H
            exact z_nil ((K _ () HJ trivial).weak (fun a ha => ha.cons rfl (ha.cons rfl (ha.nil))) (fun w hw => hw))
        ·
          replace H := HB
          clear HB
          obtain ⟨x24, rfl⟩ : ∃ x, x = s := ⟨_, rfl⟩
          change T 26 _ _ _
          refine z_still (v := .bool x24) (val_pick rfl rfl rfl) rfl rfl rfl (fun _ hw => hw) ?_
          obtain rfl := Option.some.inj H
          exact z_nil ((K _ () HJ trivial).weak (fun a ha => ha.cons rfl (ha.nil)) (fun w hw => hw))
    ·
      replace H := HB
      clear HB
      obtain ⟨x25, rfl⟩ : ∃ x, x = s := ⟨_, rfl⟩
      change T 26 _ _ _
      refine z_still (v := .bool x25) (val_assign rfl rfl) rfl rfl rfl (fun _ hw => hw) ?_
      refine z_nil ?_
      refine t_ret ?_
      obtain rfl := Option.some.inj H
      exact ret1 rfl (res_tmp rfl) (fun _ hw => ⟨rfl, hw.below⟩)
end Go.Proofs.Ytapfkdcilfpbhaa
