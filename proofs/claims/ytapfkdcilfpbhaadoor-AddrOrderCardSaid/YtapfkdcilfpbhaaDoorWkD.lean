/- Functions of the program as plain functions, and their walks, printed by walk.py. -/
import Derived.Test.YtapfkdcilfpbhaaDoorWkF
import Derived.Test.YtapfkdcilfpbhaaDoorWkC
namespace Go.Proofs.YtapfkdcilfpbhaaDoor
open Go.RowKit
set_option linter.unusedVariables false
set_option linter.unusedSimpArgs false
def bytes_Compare (a0 : List (BitVec 8)) (a1 : List (BitVec 8)) : Option (Int) :=
  Let (cmpS a0 a1) fun x7 => some x7
set_option maxRecDepth 100000 in
theorem bytes_Compare.calls (a0 : List (BitVec 8)) (a1 : List (BitVec 8)) (A0 : Option Addr) (c0 : Nat) (A1 : Option Addr) (c1 : Nat) (r : Int) (H : bytes_Compare a0 a1 = some r) (w : World) (hs0 : SlW w U8 A0 a0) (hc0 : a0.length ≤ c0) (hs1 : SlW w U8 A1 a1) (hc1 : a1.length ≤ c1) :
    Made Tryd.prog 54 #[.slice A0 a0.length c0, .slice A1 a1.length c1] w (.int .i64 r) := by
  unfold bytes_Compare at H
  replace hs0 := hs0.toH
  replace hs1 := hs1.toH
  have hM := Mm.start w (snap w) (snap_ok w)
  generalize snap w = h at *
  refine t_enter (vs := [.slice A0 a0.length c0, .slice A1 a1.length c1]) (n := 8) Tryd.func54 rfl rfl rfl hM ?_
  clear hM
  change T 8 _ _ _
  refine t_seq ?_
  refine t_region (fun ops hops => ?_)
  clear hops
  refine z_val (v := .int .i64 0) (val_assign rfl rfl) rfl rfl rfl (fun _ _ _ => trivial) ?_
  refine z_nil ?_
  refine t_seq ?_
  refine t_region (fun ops hops => ?_)
  clear hops
  refine z_val (v := .slice A0 a0.length c0) (val_move rfl rfl) rfl rfl rfl (fun _ _ _ => trivial) ?_
  refine z_val (v := .slice A1 a1.length c1) (val_move rfl rfl) rfl rfl rfl (fun _ _ _ => trivial) ?_
  obtain ⟨x7, hx7, H⟩ := Let_elim H
  refine z_val (v := .int .i64 x7) (by subst hx7; exact val_extern rfl Tryd.func91 xn91 xb91 xx91 xf91 rfl (fun w hw => run_compare (hs0.toW hw) (hs1.toW hw) _ _)) rfl rfl rfl (fun _ _ _ => trivial) ?_
  clear hx7
  refine z_val (v := .int .i64 x7) (val_assign rfl rfl) rfl rfl rfl (fun _ _ _ => trivial) ?_
  refine z_nil ?_
  refine t_ret ?_
  obtain rfl := Option.some.inj H
  exact ret1 rfl (res_tmp rfl) (fun _ hw => ⟨rfl, hw.below⟩)
def addr_Compare (a0 : Vec (BitVec 8) 20) (a1 : Vec (BitVec 8) 20) : Option (Int) :=
  Let ((a0.l.take 20).drop 0) fun x5 => Let ((a1.l.take 20).drop 0) fun x6 => (bytes_Compare x5 x6).bind fun x7 => some x7
set_option maxRecDepth 100000 in
theorem addr_Compare.calls (a0 : Vec (BitVec 8) 20) (a1 : Vec (BitVec 8) 20) (r : Int) (H : addr_Compare a0 a1 = some r) (w : World)  :
    Made Tryd.prog 19 #[.agg (cV U8 a0).toArray, .agg (cV U8 a1).toArray] w (.int .i64 r) := by
  unfold addr_Compare at H
  have hM := Mm.start w (snap w) (snap_ok w)
  generalize snap w = h at *
  refine t_enter (vs := [.agg (cV U8 a0).toArray, .agg (cV U8 a1).toArray]) (n := 8) Tryd.func19 rfl rfl rfl hM ?_
  clear hM
  change T 8 _ _ _
  refine t_seq ?_
  refine t_region (fun ops hops => ?_)
  clear hops
  refine z_box (cs := cV U8 a0) (room := 20) rfl rfl rfl (cV_len _) rfl rfl rfl (fun _ _ _ _ => trivial) (fun g_1 => ?_)
  refine z_box (cs := cV U8 a1) (room := 20) rfl rfl rfl (cV_len _) rfl rfl rfl (fun _ _ _ _ => trivial) (fun g_2 => ?_)
  refine z_val (v := .int .i64 0) (val_assign rfl rfl) rfl rfl rfl (fun _ _ _ => trivial) ?_
  refine z_nil ?_
  refine t_seq ?_
  refine t_plan (C := Mm w [] h [.blk g_2 23 (cV U8 a1) 20, .blk g_1 23 (cV U8 a0) 20]) [] [(0, true), (1, true), (2, false), (3, true)] (by kernel_rfl) (by kernel_rfl) (fun _ hw => hw.drew) (fun ops hops => ?_)
  clear hops
  obtain ⟨x5, hx5, H⟩ := Let_elim H
  have hln : 0 ≤ 20 ∧ 20 ≤ 20 := by decide
  have hl : x5.length = 20 - 0 := by subst hx5; exact sla_len _ hln.2
  obtain ⟨q_3, hq_4⟩ : ∃ z, z = (if 20 = 0 then 0 else 0) := ⟨_, rfl⟩
  obtain ⟨c_5, hc_60⟩ : ∃ z, z = 20 - 0 := ⟨_, rfl⟩
  have hc_6 : x5.length ≤ c_5 := by omega
  refine z_still (v := .slice (some ⟨g_1, q_3, none⟩) x5.length c_5) (val_sliceA (l := 0) (k := 20) rfl rfl Tryd.underlying23 sz5 (.inl ⟨rfl, rfl⟩) (.inl ⟨rfl, rfl⟩) hln.1 hln.2 (by rw [hl, hq_4, hc_60]; first | rfl | (congr 2; split <;> simp))) rfl rfl rfl (fun _ hw => hw) ?_
  obtain ⟨x6, hx6, H⟩ := Let_elim H
  have hln_11 : 0 ≤ 20 ∧ 20 ≤ 20 := by decide
  have hl_12 : x6.length = 20 - 0 := by subst hx6; exact sla_len _ hln_11.2
  obtain ⟨q_7, hq_8⟩ : ∃ z, z = (if 20 = 0 then 0 else 0) := ⟨_, rfl⟩
  obtain ⟨c_9, hc_100⟩ : ∃ z, z = 20 - 0 := ⟨_, rfl⟩
  have hc_10 : x6.length ≤ c_9 := by omega
  refine z_still (v := .slice (some ⟨g_2, q_7, none⟩) x6.length c_9) (val_sliceA (l := 0) (k := 20) rfl rfl Tryd.underlying23 sz5 (.inl ⟨rfl, rfl⟩) (.inl ⟨rfl, rfl⟩) hln_11.1 hln_11.2 (by rw [hl_12, hq_8, hc_100]; first | rfl | (congr 2; split <;> simp))) rfl rfl rfl (fun _ hw => hw) ?_
  obtain ⟨x7, hx, H⟩ := Option.bind_eq_some_iff.1 H
  refine z_made (v := .int .i64 x7) rfl Tryd.func54 nm54 bs54 rfl (fun w hw => bytes_Compare.calls x5 x6 ((some ⟨g_1, q_3, none⟩)) c_5 ((some ⟨g_2, q_7, none⟩)) c_9 x7 hx w (sla_w hw (j := 1) rfl hq_4 hx5) hc_6 (sla_w hw (j := 0) rfl hq_8 hx6) hc_10) rfl rfl rfl (fun _ _ hw => hw) ?_
  clear hx
  refine z_still (v := .int .i64 x7) (val_assign rfl rfl) rfl rfl rfl (fun _ hw => hw) ?_
  refine z_nil ?_
  refine t_ret ?_
  obtain rfl := Option.some.inj H
  exact ret1 rfl (res_tmp rfl) (fun _ hw => ⟨rfl, hw.below⟩)
def smithylaw08_AddrOrder (T1 : Vec (BitVec 64) 24) (T2 : Vec (Int) 24) (T3 : Vec (Int) 24) (a0 : Vec (BitVec 8) 20) (a1 : Vec (BitVec 8) 20) : Option (Bool) :=
  (smithyref08_Less a0 a1).bind fun x8 => (bif x8 then some (-1) else some 0).bind (fun x5 => (smithyref08_Less a1 a0).bind fun x11 => (bif x11 then some 1 else some x5).bind (fun x5_4 => (smithylaw08_fixed T1 T2 T3).bind fun x12 => (bif x12 then (addr_Compare a0 a1).bind fun x16 => Let (x16 == x5_4) fun x18 => some x18 else some false).bind (fun x19 => (bif x19 then Let (wi (0 - x5_4)) fun x25 => (addr_Compare a1 a0).bind fun x23 => Let (x23 == x25) fun x26 => some x26 else some false).bind (fun x27 => (bif x27 then (addr_Precompile a0).bind fun x30 => (smithyref08_Precompile a0).bind fun x32 => Let (x30 == x32) fun x33 => some x33 else some false).bind (fun x34 => some x34)))))
set_option maxRecDepth 100000 in
theorem smithylaw08_AddrOrder.calls (T1 : Vec (BitVec 64) 24) (T2 : Vec (Int) 24) (T3 : Vec (Int) 24) (a0 : Vec (BitVec 8) 20) (a1 : Vec (BitVec 8) 20) (r : Bool) (H : smithylaw08_AddrOrder T1 T2 T3 a0 a1 = some r) (w : World) (hT1 : TabW w 1 U64 T1) (hT2 : TabW w 2 (Value.int .i64) T2) (hT3 : TabW w 3 (Value.int .i64) T3) :
    Made Tryd.prog 5 #[.agg (cV U8 a0).toArray, .agg (cV U8 a1).toArray] w (.bool r) := by
  unfold smithylaw08_AddrOrder at H
  replace hT1 := hT1.toH
  replace hT2 := hT2.toH
  replace hT3 := hT3.toH
  have hM := Mm.start w (snap w) (snap_ok w)
  generalize snap w = h at *
  refine t_enter (vs := [.agg (cV U8 a0).toArray, .agg (cV U8 a1).toArray]) (n := 35) Tryd.func5 rfl rfl rfl hM ?_
  clear hM
  change T 35 _ _ _
  refine t_seq ?_
  refine t_region (fun ops hops => ?_)
  clear hops
  refine z_box (cs := cV U8 a0) (room := 20) rfl rfl rfl (cV_len _) rfl rfl rfl (fun _ _ _ _ => trivial) (fun g_1 => ?_)
  refine z_box (cs := cV U8 a1) (room := 20) rfl rfl rfl (cV_len _) rfl rfl rfl (fun _ _ _ _ => trivial) (fun g_2 => ?_)
  refine z_val (v := .bool false) (val_assign rfl rfl) rfl rfl rfl (fun _ _ _ => trivial) ?_
  refine z_nil ?_
  refine t_seq ?_
  refine t_region (fun ops hops => ?_)
  clear hops
  refine z_val (v := .int .i64 0) (val_assign rfl rfl) rfl rfl rfl (fun _ _ _ => trivial) ?_
  refine z_nil ?_
  refine t_seq ?_
  refine t_seq ?_
  refine t_region (fun ops hops => ?_)
  clear hops
  refine z_val (v := .agg (cV U8 a0).toArray) (val_loadR (off := 0) (cs := cV U8 a0) rfl rfl Tryd.underlying23 rfl (sz23.trans (congrArg some (cV_len _).symm)) (fun _ hw => hw.whole (j := 1) rfl)) rfl rfl rfl (fun _ _ _ => trivial) ?_
  refine z_val (v := .agg (cV U8 a1).toArray) (val_loadR (off := 0) (cs := cV U8 a1) rfl rfl Tryd.underlying23 rfl (sz23.trans (congrArg some (cV_len _).symm)) (fun _ hw => hw.whole (j := 0) rfl)) rfl rfl rfl (fun _ _ _ => trivial) ?_
  obtain ⟨x8, hx, H⟩ := Option.bind_eq_some_iff.1 H
  refine z_made (v := .bool x8) rfl Tryd.func18 nm18 bs18 rfl (fun w hw => smithyref08_Less.calls a0 a1 x8 hx w) rfl rfl rfl (fun _ _ _ => trivial) ?_
  clear hx
  refine z_nil ?_
  refine t_bind H (fun (s : (Int)) (g : Unit) => [(2, .pointer (some ⟨g_1, 0, none⟩)), (3, .pointer (some ⟨g_2, 0, none⟩)), (5, .int .i64 s)]) (fun (s : (Int)) (g : Unit) => Mm w [] h [.blk g_2 23 (cV U8 a1) 20, .blk g_1 23 (cV U8 a0) 20]) (fun (s : (Int)) (g : Unit) => True) (fun Gr K s he HJ => ?_) (fun s g HB hφ => ?_)
  ·
    clear H
    cases x8
    ·
      have H := cond_f he
      clear he
      refine t_cond_false rfl ?_
      refine t_skip ?_
      obtain rfl := Option.some.inj H
      exact t_reach ((K _ () HJ trivial).weak (fun a ha => ha.cons rfl (ha.cons rfl (ha.cons rfl (ha.nil)))) (fun w hw => hw))
    ·
      have H := cond_t he
      clear he
      refine t_cond_true rfl ?_
      refine t_region (fun ops hops => ?_)
      clear hops
      refine z_val (v := .int .i64 (-1)) (val_assign rfl rfl) rfl rfl rfl (fun _ _ _ => trivial) ?_
      refine z_nil ?_
      obtain rfl := Option.some.inj H
      exact t_reach ((K _ () HJ trivial).weak (fun a ha => ha.cons rfl (ha.cons rfl (ha.cons rfl (ha.nil)))) (fun w hw => hw))
  ·
    replace H := HB
    clear HB
    obtain ⟨x5, rfl⟩ : ∃ x, x = s := ⟨_, rfl⟩
    try dsimp only at H
    change T 35 _ _ _
    refine t_seq ?_
    refine t_seq ?_
    refine t_region (fun ops hops => ?_)
    clear hops
    refine z_val (v := .agg (cV U8 a1).toArray) (val_loadR (off := 0) (cs := cV U8 a1) rfl rfl Tryd.underlying23 rfl (sz23.trans (congrArg some (cV_len _).symm)) (fun _ hw => hw.whole (j := 0) rfl)) rfl rfl rfl (fun _ _ _ => trivial) ?_
    refine z_val (v := .agg (cV U8 a0).toArray) (val_loadR (off := 0) (cs := cV U8 a0) rfl rfl Tryd.underlying23 rfl (sz23.trans (congrArg some (cV_len _).symm)) (fun _ hw => hw.whole (j := 1) rfl)) rfl rfl rfl (fun _ _ _ => trivial) ?_
    obtain ⟨x11, hx_3, H⟩ := Option.bind_eq_some_iff.1 H
    refine z_made (v := .bool x11) rfl Tryd.func18 nm18 bs18 rfl (fun w hw => smithyref08_Less.calls a1 a0 x11 hx_3 w) rfl rfl rfl (fun _ _ _ => trivial) ?_
    clear hx_3
    refine z_nil ?_
    refine t_bind H (fun (s : (Int)) (g : Unit) => [(2, .pointer (some ⟨g_1, 0, none⟩)), (3, .pointer (some ⟨g_2, 0, none⟩)), (5, .int .i64 s)]) (fun (s : (Int)) (g : Unit) => Mm w [] h [.blk g_2 23 (cV U8 a1) 20, .blk g_1 23 (cV U8 a0) 20]) (fun (s : (Int)) (g : Unit) => True) (fun Gr K s he HJ => ?_) (fun s g HB hφ => ?_)
    ·
      clear H
      cases x11
      ·
        have H := cond_f he
        clear he
        refine t_cond_false rfl ?_
        refine t_skip ?_
        obtain rfl := Option.some.inj H
        exact t_reach ((K _ () HJ trivial).weak (fun a ha => ha.cons rfl (ha.cons rfl (ha.cons rfl (ha.nil)))) (fun w hw => hw))
      ·
        have H := cond_t he
        clear he
        refine t_cond_true rfl ?_
        refine t_region (fun ops hops => ?_)
        clear hops
        refine z_val (v := .int .i64 1) (val_assign rfl rfl) rfl rfl rfl (fun _ _ _ => trivial) ?_
        refine z_nil ?_
        obtain rfl := Option.some.inj H
        exact t_reach ((K _ () HJ trivial).weak (fun a ha => ha.cons rfl (ha.cons rfl (ha.cons rfl (ha.nil)))) (fun w hw => hw))
    ·
      replace H := HB
      clear HB
      obtain ⟨x5_4, rfl⟩ : ∃ x, x = s := ⟨_, rfl⟩
      try dsimp only at H
      change T 35 _ _ _
      refine t_seq ?_
      refine t_plan (C := Mm w [] h [.blk g_2 23 (cV U8 a1) 20, .blk g_1 23 (cV U8 a0) 20]) [] [(0, false), (1, true), (2, true), (3, true), (5, true), (4, false), (6, true), (7, true), (8, true), (9, true), (10, true), (12, true), (13, true), (11, false), (14, true), (15, true), (16, true), (17, true), (19, true), (18, false), (20, false), (21, true), (22, true), (23, true)] (by kernel_rfl) (by kernel_rfl) (fun _ hw => hw.drew) (fun ops hops => ?_)
      obtain ⟨x12, hx_5, H⟩ := Option.bind_eq_some_iff.1 H
      refine z_made (v := .bool x12) rfl Tryd.func11 nm11 bs11 rfl (fun w hw => smithylaw08_fixed.calls T1 T2 T3 x12 hx_5 w (hT1.toW hw) (hT2.toW hw) (hT3.toW hw)) rfl rfl rfl (fun _ _ hw => hw) ?_
      clear hx_5
      refine z_still (v := .bool x12) (val_move rfl rfl) rfl rfl rfl (fun _ hw => hw) ?_
      refine z_bind H 6 (fun (s : Bool) (_ : Unit) => [(2, .pointer (some ⟨g_1, 0, none⟩)), (3, .pointer (some ⟨g_2, 0, none⟩)), (5, .int .i64 x5_4), (19, .bool s)]) (fun _ _ => Mm w [] h [.blk g_2 23 (cV U8 a1) 20, .blk g_1 23 (cV U8 a0) 20]) (fun _ _ => True) (fun Gr K s he HJ => ?_) (fun s g HB _ => ?_)
      ·
        clear H
        cases x12
        ·
          have H := cond_f he
          clear he
          refine z_skip_still rfl rfl (by rw [hops]; rfl) (fun _ hw => hw) ?_
          refine z_skip_still rfl rfl (by rw [hops]; rfl) (fun _ hw => hw) ?_
          refine z_skip_still rfl rfl (by rw [hops]; rfl) (fun _ hw => hw) ?_
          refine z_skip rfl rfl (by rw [hops]; rfl) (fun _ _ hw => hw) ?_
          refine z_skip_still rfl rfl (by rw [hops]; rfl) (fun _ hw => hw) ?_
          refine z_still (v := .bool false) (val_pick rfl rfl rfl) rfl rfl rfl (fun _ hw => hw) ?_
          obtain rfl := Option.some.inj H
          exact z_nil ((K _ () HJ trivial).weak (fun a ha => ha.cons rfl (ha.cons rfl (ha.cons rfl (ha.cons rfl (ha.nil))))) (fun w hw => hw))
        ·
          have H := cond_t he
          clear he
          refine z_still (v := .agg (cV U8 a0).toArray) (val_loadR (off := 0) (cs := cV U8 a0) rfl rfl Tryd.underlying23 rfl (sz23.trans (congrArg some (cV_len _).symm)) (fun _ hw => hw.whole (j := 1) rfl)) rfl rfl (by rw [hops]; rfl) (fun _ hw => hw) ?_
          refine z_still (v := .agg (cV U8 a1).toArray) (val_loadR (off := 0) (cs := cV U8 a1) rfl rfl Tryd.underlying23 rfl (sz23.trans (congrArg some (cV_len _).symm)) (fun _ hw => hw.whole (j := 0) rfl)) rfl rfl (by rw [hops]; rfl) (fun _ hw => hw) ?_
          refine z_still (v := .int .i64 x5_4) (val_move rfl rfl) rfl rfl (by rw [hops]; rfl) (fun _ hw => hw) ?_
          obtain ⟨x16, hx_6, H⟩ := Option.bind_eq_some_iff.1 H
          refine z_made (v := .int .i64 x16) rfl Tryd.func19 nm19 bs19 rfl (fun w hw => addr_Compare.calls a0 a1 x16 hx_6 w) rfl rfl (by rw [hops]; rfl) (fun _ _ hw => hw) ?_
          clear hx_6
          obtain ⟨x18, hx18, H⟩ := Let_elim H
          refine z_still (v := .bool x18) (by subst hx18; exact val_bin rfl rfl rfl rfl (i64_eql _ _ _)) rfl rfl (by rw [hops]; rfl) (fun _ hw => hw) ?_
          clear hx18
          refine z_still (v := .bool x18) (val_pick rfl rfl rfl) rfl rfl rfl (fun _ hw => hw) ?_
          obtain rfl := Option.some.inj H
          exact z_nil ((K _ () HJ trivial).weak (fun a ha => ha.cons rfl (ha.cons rfl (ha.cons rfl (ha.cons rfl (ha.nil))))) (fun w hw => hw))
      ·
        replace H := HB
        clear HB
        obtain ⟨x19, rfl⟩ : ∃ x, x = s := ⟨_, rfl⟩
        change T 35 _ _ _
        refine z_still (v := .bool x19) (val_move rfl rfl) rfl rfl rfl (fun _ hw => hw) ?_
        refine z_bind H 7 (fun (s : Bool) (_ : Unit) => [(2, .pointer (some ⟨g_1, 0, none⟩)), (27, .bool s)]) (fun _ _ => Mm w [] h [.blk g_2 23 (cV U8 a1) 20, .blk g_1 23 (cV U8 a0) 20]) (fun _ _ => True) (fun Gr K s he HJ => ?_) (fun s g HB _ => ?_)
        ·
          clear H
          cases x19
          ·
            have H := cond_f he
            clear he
            refine z_skip_still rfl rfl (by rw [hops]; rfl) (fun _ hw => hw) ?_
            refine z_skip_still rfl rfl (by rw [hops]; rfl) (fun _ hw => hw) ?_
            refine z_skip_still rfl rfl (by rw [hops]; rfl) (fun _ hw => hw) ?_
            refine z_skip_still rfl rfl (by rw [hops]; rfl) (fun _ hw => hw) ?_
            refine z_skip rfl rfl (by rw [hops]; rfl) (fun _ _ hw => hw) ?_
            refine z_skip_still rfl rfl (by rw [hops]; rfl) (fun _ hw => hw) ?_
            refine z_still (v := .bool false) (val_pick rfl rfl rfl) rfl rfl rfl (fun _ hw => hw) ?_
            obtain rfl := Option.some.inj H
            exact z_nil ((K _ () HJ trivial).weak (fun a ha => ha.cons rfl (ha.cons rfl (ha.nil))) (fun w hw => hw))
          ·
            have H := cond_t he
            clear he
            refine z_still (v := .agg (cV U8 a1).toArray) (val_loadR (off := 0) (cs := cV U8 a1) rfl rfl Tryd.underlying23 rfl (sz23.trans (congrArg some (cV_len _).symm)) (fun _ hw => hw.whole (j := 0) rfl)) rfl rfl (by rw [hops]; rfl) (fun _ hw => hw) ?_
            refine z_still (v := .agg (cV U8 a0).toArray) (val_loadR (off := 0) (cs := cV U8 a0) rfl rfl Tryd.underlying23 rfl (sz23.trans (congrArg some (cV_len _).symm)) (fun _ hw => hw.whole (j := 1) rfl)) rfl rfl (by rw [hops]; rfl) (fun _ hw => hw) ?_
            refine z_still (v := .int .i64 x5_4) (val_move rfl rfl) rfl rfl (by rw [hops]; rfl) (fun _ hw => hw) ?_
            obtain ⟨x25, hx25, H⟩ := Let_elim H
            refine z_still (v := .int .i64 x25) (by subst hx25; exact val_un rfl rfl (i64_neg _)) rfl rfl (by rw [hops]; rfl) (fun _ hw => hw) ?_
            clear hx25
            obtain ⟨x23, hx_7, H⟩ := Option.bind_eq_some_iff.1 H
            refine z_made (v := .int .i64 x23) rfl Tryd.func19 nm19 bs19 rfl (fun w hw => addr_Compare.calls a1 a0 x23 hx_7 w) rfl rfl (by rw [hops]; rfl) (fun _ _ hw => hw) ?_
            clear hx_7
            obtain ⟨x26, hx26, H⟩ := Let_elim H
            refine z_still (v := .bool x26) (by subst hx26; exact val_bin rfl rfl rfl rfl (i64_eql _ _ _)) rfl rfl (by rw [hops]; rfl) (fun _ hw => hw) ?_
            clear hx26
            refine z_still (v := .bool x26) (val_pick rfl rfl rfl) rfl rfl rfl (fun _ hw => hw) ?_
            obtain rfl := Option.some.inj H
            exact z_nil ((K _ () HJ trivial).weak (fun a ha => ha.cons rfl (ha.cons rfl (ha.nil))) (fun w hw => hw))
        ·
          replace H := HB
          clear HB
          obtain ⟨x27, rfl⟩ : ∃ x, x = s := ⟨_, rfl⟩
          change T 35 _ _ _
          refine z_still (v := .bool x27) (val_move rfl rfl) rfl rfl rfl (fun _ hw => hw) ?_
          refine z_bind H 6 (fun (s : Bool) (_ : Unit) => [(34, .bool s)]) (fun _ _ => Mm w [] h [.blk g_2 23 (cV U8 a1) 20, .blk g_1 23 (cV U8 a0) 20]) (fun _ _ => True) (fun Gr K s he HJ => ?_) (fun s g HB _ => ?_)
          ·
            clear H
            cases x27
            ·
              have H := cond_f he
              clear he
              refine z_skip_still rfl rfl (by rw [hops]; rfl) (fun _ hw => hw) ?_
              refine z_skip_still rfl rfl (by rw [hops]; rfl) (fun _ hw => hw) ?_
              refine z_skip rfl rfl (by rw [hops]; rfl) (fun _ _ hw => hw) ?_
              refine z_skip rfl rfl (by rw [hops]; rfl) (fun _ _ hw => hw) ?_
              refine z_skip_still rfl rfl (by rw [hops]; rfl) (fun _ hw => hw) ?_
              refine z_still (v := .bool false) (val_pick rfl rfl rfl) rfl rfl rfl (fun _ hw => hw) ?_
              obtain rfl := Option.some.inj H
              exact z_nil ((K _ () HJ trivial).weak (fun a ha => ha.cons rfl (ha.nil)) (fun w hw => hw))
            ·
              have H := cond_t he
              clear he
              refine z_still (v := .agg (cV U8 a0).toArray) (val_loadR (off := 0) (cs := cV U8 a0) rfl rfl Tryd.underlying23 rfl (sz23.trans (congrArg some (cV_len _).symm)) (fun _ hw => hw.whole (j := 1) rfl)) rfl rfl (by rw [hops]; rfl) (fun _ hw => hw) ?_
              refine z_still (v := .agg (cV U8 a0).toArray) (val_loadR (off := 0) (cs := cV U8 a0) rfl rfl Tryd.underlying23 rfl (sz23.trans (congrArg some (cV_len _).symm)) (fun _ hw => hw.whole (j := 1) rfl)) rfl rfl (by rw [hops]; rfl) (fun _ hw => hw) ?_
              obtain ⟨x30, hx_8, H⟩ := Option.bind_eq_some_iff.1 H
              refine z_made (v := .int .i64 x30) rfl Tryd.func20 nm20 bs20 rfl (fun w hw => addr_Precompile.calls a0 x30 hx_8 w) rfl rfl (by rw [hops]; rfl) (fun _ _ hw => hw) ?_
              clear hx_8
              obtain ⟨x32, hx_9, H⟩ := Option.bind_eq_some_iff.1 H
              refine z_made (v := .int .i64 x32) rfl Tryd.func21 nm21 bs21 rfl (fun w hw => smithyref08_Precompile.calls a0 x32 hx_9 w) rfl rfl (by rw [hops]; rfl) (fun _ _ hw => hw) ?_
              clear hx_9
              obtain ⟨x33, hx33, H⟩ := Let_elim H
              refine z_still (v := .bool x33) (by subst hx33; exact val_bin rfl rfl rfl rfl (i64_eql _ _ _)) rfl rfl (by rw [hops]; rfl) (fun _ hw => hw) ?_
              clear hx33
              refine z_still (v := .bool x33) (val_pick rfl rfl rfl) rfl rfl rfl (fun _ hw => hw) ?_
              obtain rfl := Option.some.inj H
              exact z_nil ((K _ () HJ trivial).weak (fun a ha => ha.cons rfl (ha.nil)) (fun w hw => hw))
          ·
            replace H := HB
            clear HB
            obtain ⟨x34, rfl⟩ : ∃ x, x = s := ⟨_, rfl⟩
            change T 35 _ _ _
            refine z_still (v := .bool x34) (val_assign rfl rfl) rfl rfl rfl (fun _ hw => hw) ?_
            refine z_nil ?_
            refine t_ret ?_
            obtain rfl := Option.some.inj H
            exact ret1 rfl (res_tmp rfl) (fun _ hw => ⟨rfl, hw.below⟩)
end Go.Proofs.YtapfkdcilfpbhaaDoor
