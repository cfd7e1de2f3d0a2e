/- Functions of the program as plain functions, and their walks, printed by walk.py. -/
import Derived.Test.YtapfkdcilfpbhaaDoorWkF
import Derived.Test.YtapfkdcilfpbhaaDoorWkA
import Derived.Test.YtapfkdcilfpbhaaDoorWkB
namespace Go.Proofs.YtapfkdcilfpbhaaDoor
open Go.RowKit
set_option linter.unusedVariables false
set_option linter.unusedSimpArgs false
def addr_Word (a0 : Vec (BitVec 8) 20) : Option (Vec (BitVec 64) 4) :=
  Let ((a0.l.take 20).drop 0) fun x3 => (word_From x3).bind fun x4 => some x4
set_option maxRecDepth 100000 in
theorem addr_Word.calls (a0 : Vec (BitVec 8) 20) (r : Vec (BitVec 64) 4) (H : addr_Word a0 = some r) (w : World)  :
    Made Tryd.prog 14 #[.agg (cV U8 a0).toArray] w (.agg (cV U64 r).toArray) := by
  unfold addr_Word at H
  have hM := Mm.start w (snap w) (snap_ok w)
  generalize snap w = h at *
  refine t_enter (vs := [.agg (cV U8 a0).toArray]) (n := 5) Tryd.func14 rfl rfl rfl hM ?_
  clear hM
  change T 5 _ _ _
  refine t_seq ?_
  refine t_region (fun ops hops => ?_)
  clear hops
  refine z_box (cs := cV U8 a0) (room := 20) rfl rfl rfl (cV_len _) rfl rfl rfl (fun _ _ _ _ => trivial) (fun g_1 => ?_)
  refine z_alloc (cs := cV U64 (Vec.rep 4 0#64)) (room := 4) rfl ze26 rfl (cV_len _) rfl rfl rfl (fun _ _ _ _ => trivial) (fun g_2 => ?_)
  refine z_nil ?_
  refine t_seq ?_
  refine t_region (fun ops hops => ?_)
  clear hops
  obtain ⟨x3, hx3, H⟩ := Let_elim H
  have hln : 0 ≤ 20 ∧ 20 ≤ 20 := by decide
  have hl : x3.length = 20 - 0 := by subst hx3; exact sla_len _ hln.2
  obtain ⟨q_3, hq_4⟩ : ∃ z, z = (if 20 = 0 then 0 else 0) := ⟨_, rfl⟩
  obtain ⟨c_5, hc_60⟩ : ∃ z, z = 20 - 0 := ⟨_, rfl⟩
  have hc_6 : x3.length ≤ c_5 := by omega
  refine z_val (v := .slice (some ⟨g_1, q_3, none⟩) x3.length c_5) (val_sliceA (l := 0) (k := 20) rfl rfl Tryd.underlying23 sz5 (.inl ⟨rfl, rfl⟩) (.inl ⟨rfl, rfl⟩) hln.1 hln.2 (by rw [hl, hq_4, hc_60]; first | rfl | (congr 2; split <;> simp))) rfl rfl rfl (fun _ _ _ => trivial) ?_
  obtain ⟨x4, hx, H⟩ := Option.bind_eq_some_iff.1 H
  refine z_made (v := .agg (cV U64 x4).toArray) rfl Tryd.func51 nm51 bs51 rfl (fun w hw => word_From.calls x3 ((some ⟨g_1, q_3, none⟩)) c_5 x4 hx w (sla_w hw (j := 1) rfl hq_4 hx3) hc_6) rfl rfl rfl (fun _ _ _ => trivial) ?_
  clear hx
  refine z_storeA (j := 0) (cs' := cV U64 x4) (L' := [.blk g_2 26 (cV U64 x4) 4, .blk g_1 23 (cV U8 a0) 20]) rfl rfl rfl (cV_one (fun _ => rfl) _) sz26 rfl (cV_len _) rfl rfl rfl (fun _ _ _ => trivial) ?_
  refine z_nil ?_
  refine t_ret ?_
  obtain rfl := Option.some.inj H
  exact ret1 rfl (res_row (j := 0) rfl Tryd.underlying26 rfl sz26 rfl (cV_len _)) (fun _ hw => ⟨rfl, hw.below⟩)
def addr_Of (a0 : Vec (BitVec 64) 4) : Option (Vec (BitVec 8) 20) :=
  (word_Bytes a0).bind fun x5 => Let ((x5.l.take 32).drop 12) fun x6 => Chk (20 ≤ x6.length) <| Let (x5.part 12 20) fun x8 => some x8
set_option maxRecDepth 100000 in
theorem addr_Of.calls (a0 : Vec (BitVec 64) 4) (r : Vec (BitVec 8) 20) (H : addr_Of a0 = some r) (w : World)  :
    Made Tryd.prog 16 #[.agg (cV U64 a0).toArray] w (.agg (cV U8 r).toArray) := by
  unfold addr_Of at H
  have hM := Mm.start w (snap w) (snap_ok w)
  generalize snap w = h at *
  refine t_enter (vs := [.agg (cV U64 a0).toArray]) (n := 9) Tryd.func16 rfl rfl rfl hM ?_
  clear hM
  change T 9 _ _ _
  refine t_seq ?_
  refine t_region (fun ops hops => ?_)
  clear hops
  refine z_box (cs := cV U64 a0) (room := 4) rfl rfl rfl (cV_len _) rfl rfl rfl (fun _ _ _ _ => trivial) (fun g_1 => ?_)
  refine z_alloc (cs := cV U8 (Vec.rep 20 0#8)) (room := 20) rfl ze23 rfl (cV_len _) rfl rfl rfl (fun _ _ _ _ => trivial) (fun g_2 => ?_)
  refine z_nil ?_
  refine t_seq ?_
  refine t_region (fun ops hops => ?_)
  clear hops
  refine z_val (v := .agg (cV U64 a0).toArray) (val_loadR (off := 0) (cs := cV U64 a0) rfl rfl Tryd.underlying26 rfl (sz26.trans (congrArg some (cV_len _).symm)) (fun _ hw => hw.whole (j := 1) rfl)) rfl rfl rfl (fun _ _ _ => trivial) ?_
  obtain ⟨x5, hx, H⟩ := Option.bind_eq_some_iff.1 H
  refine z_made (v := .agg (cV U8 x5).toArray) rfl Tryd.func45 nm45 bs45 rfl (fun w hw => word_Bytes.calls a0 x5 hx w) rfl rfl rfl (fun _ _ _ => trivial) ?_
  clear hx
  refine z_alloc (cs := cV U8 (Vec.rep 32 0#8)) (room := 32) rfl ze46 rfl (cV_len _) rfl rfl rfl (fun _ _ _ _ => trivial) (fun g_3 => ?_)
  refine z_storeA (j := 0) (cs' := cV U8 x5) (L' := [.blk g_3 46 (cV U8 x5) 32, .blk g_2 23 (cV U8 (Vec.rep 20 0#8)) 20, .blk g_1 26 (cV U64 a0) 4]) rfl rfl rfl (cV_one (fun _ => rfl) _) sz46 rfl (cV_len _) rfl rfl rfl (fun _ _ _ => trivial) ?_
  refine z_nil ?_
  refine t_seq ?_
  refine t_region (fun ops hops => ?_)
  clear hops
  obtain ⟨x6, hx6, H⟩ := Let_elim H
  have hln : 12 ≤ 32 ∧ 32 ≤ 32 := by decide
  have hl : x6.length = 32 - 12 := by subst hx6; exact sla_len _ hln.2
  obtain ⟨q_4, hq_5⟩ : ∃ z, z = (if 32 = 12 then 0 else 12) := ⟨_, rfl⟩
  obtain ⟨c_6, hc_70⟩ : ∃ z, z = 32 - 12 := ⟨_, rfl⟩
  have hc_7 : x6.length ≤ c_6 := by omega
  refine z_val (v := .slice (some ⟨g_3, q_4, none⟩) x6.length c_6) (val_sliceA (l := 12) (k := 32) rfl rfl Tryd.underlying46 sz5 (.inr ⟨_, rfl, _, _, rfl, rfl⟩) (.inl ⟨rfl, rfl⟩) hln.1 hln.2 (by rw [hl, hq_5, hc_70]; first | rfl | (congr 2; split <;> simp))) rfl rfl rfl (fun _ _ _ => trivial) ?_
  obtain ⟨hq_8, H⟩ := Chk_elim H
  have hq_9 : q_4 = 12 := by rw [hq_5]; split <;> omega
  have hl_10 : 12 + 20 ≤ 32 := by omega
  refine z_val (v := .pointer (some ⟨g_3, q_4, none⟩)) (val_s2a rfl rfl Tryd.underlying23 hq_8) rfl rfl rfl (fun _ _ _ => trivial) ?_
  obtain ⟨x8, hx8, H⟩ := Let_elim H
  refine z_val (v := .agg (cV U8 x8).toArray) (by subst hx8; exact val_loadR (off := q_4) (cs := cV U8 (x5.part 12 20)) rfl rfl Tryd.underlying23 rfl (sz23.trans (congrArg some (cV_len _).symm)) (fun _ hw => by rw [hq_9]; exact hw.part_ (j := 0) rfl hl_10)) rfl rfl rfl (fun _ _ _ => trivial) ?_
  clear hx8
  refine z_storeA (j := 1) (cs' := cV U8 x8) (L' := [.blk g_3 46 (cV U8 x5) 32, .blk g_2 23 (cV U8 x8) 20, .blk g_1 26 (cV U64 a0) 4]) rfl rfl rfl (cV_one (fun _ => rfl) _) sz23 rfl (cV_len _) rfl rfl rfl (fun _ _ _ => trivial) ?_
  refine z_nil ?_
  refine t_ret ?_
  obtain rfl := Option.some.inj H
  exact ret1 rfl (res_row (j := 1) rfl Tryd.underlying23 rfl sz23 rfl (cV_len _)) (fun _ hw => ⟨rfl, hw.below⟩)
def addr_Create2 (T1 : Vec (BitVec 64) 24) (T2 : Vec (Int) 24) (T3 : Vec (Int) 24) (a0 : Vec (BitVec 8) 20) (a1 : Vec (BitVec 64) 4) (a2 : List (BitVec 8)) : Option (Vec (BitVec 8) 20) :=
  (keccak_Sum T1 T2 T3 a2).bind fun x11 => (word_Bytes a1).bind fun x13 => Let ([255#8]) fun x14 => Let ((a0.l.take 20).drop 0) fun x16 => Chk ((x14.length + x16.length) * 1 ≤ 140737488355328) <| Let (x14 ++ x16) fun x17 => Let ((x13.l.take 32).drop 0) fun x19 => Chk ((x17.length + x19.length) * 1 ≤ 140737488355328) <| Let (x17 ++ x19) fun x20 => Let ((x11.l.take 32).drop 0) fun x22 => Chk ((x20.length + x22.length) * 1 ≤ 140737488355328) <| Let (x20 ++ x22) fun x23 => (keccak_Word T1 T2 T3 x23).bind fun x25 => (addr_Of x25).bind fun x26 => some x26
set_option maxRecDepth 100000 in
theorem addr_Create2.calls (T1 : Vec (BitVec 64) 24) (T2 : Vec (Int) 24) (T3 : Vec (Int) 24) (a0 : Vec (BitVec 8) 20) (a1 : Vec (BitVec 64) 4) (a2 : List (BitVec 8)) (A2 : Option Addr) (c2 : Nat) (r : Vec (BitVec 8) 20) (H : addr_Create2 T1 T2 T3 a0 a1 a2 = some r) (w : World) (hs2 : SlW w U8 A2 a2) (hc2 : a2.length ≤ c2) (hT1 : TabW w 1 U64 T1) (hT2 : TabW w 2 (Value.int .i64) T2) (hT3 : TabW w 3 (Value.int .i64) T3) :
    Made Tryd.prog 12 #[.agg (cV U8 a0).toArray, .agg (cV U64 a1).toArray, .slice A2 a2.length c2] w (.agg (cV U8 r).toArray) := by
  unfold addr_Create2 at H
  replace hs2 := hs2.toH
  replace hT1 := hT1.toH
  replace hT2 := hT2.toH
  replace hT3 := hT3.toH
  have hM := Mm.start w (snap w) (snap_ok w)
  generalize snap w = h at *
  refine t_enter (vs := [.agg (cV U8 a0).toArray, .agg (cV U64 a1).toArray, .slice A2 a2.length c2]) (n := 27) Tryd.func12 rfl rfl rfl hM ?_
  clear hM
  change T 27 _ _ _
  refine t_seq ?_
  refine t_region (fun ops hops => ?_)
  clear hops
  refine z_box (cs := cV U8 a0) (room := 20) rfl rfl rfl (cV_len _) rfl rfl rfl (fun _ _ _ _ => trivial) (fun g_1 => ?_)
  refine z_box (cs := cV U64 a1) (room := 4) rfl rfl rfl (cV_len _) rfl rfl rfl (fun _ _ _ _ => trivial) (fun g_2 => ?_)
  refine z_alloc (cs := cV U8 (Vec.rep 20 0#8)) (room := 20) rfl ze23 rfl (cV_len _) rfl rfl rfl (fun _ _ _ _ => trivial) (fun g_3 => ?_)
  refine z_nil ?_
  refine t_seq ?_
  refine T.weak (S' := [(0, .agg (cV U8 a0).toArray), (1, .agg (cV U64 a1).toArray), (2, .slice A2 a2.length c2), (3, .pointer (some ⟨g_1, 0, none⟩)), (4, .pointer (some ⟨g_2, 0, none⟩)), (6, .pointer (some ⟨g_3, 0, none⟩))]) (M' := Mm w [] h [.blk g_3 23 (cV U8 (Vec.rep 20 0#8)) 20, .blk g_2 26 (cV U64 a1) 4, .blk g_1 23 (cV U8 a0) 20]) ?_ (fun a ha => ha.cons rfl (ha.cons rfl (ha.cons rfl (ha.cons rfl (ha.cons rfl (ha.cons rfl (ha.nil))))))) (fun w hw => hw)
  obtain ⟨x11, hx, H⟩ := Option.bind_eq_some_iff.1 H
  obtain ⟨x13, hx_4, H⟩ := Option.bind_eq_some_iff.1 H
  refine t_free [⟨0, 10, [], fun _ => True, fun γ => .slice A2 a2.length c2, fun γ => none⟩, ⟨1, 11, [0], fun _ => True, fun γ => .agg (cV U8 x11).toArray, fun γ => none⟩, ⟨2, 12, [], fun _ => True, fun γ => .agg (cV U64 a1).toArray, fun γ => none⟩, ⟨3, 13, [2], fun _ => True, fun γ => .agg (cV U8 x13).toArray, fun γ => none⟩, ⟨4, 7, [], fun _ => True, fun γ => .pointer (some ⟨(γ 4).2, 0, none⟩), fun γ => some (.blk (γ 4).2 47 (cV U8 (Vec.rep 32 0#8)) 32)⟩, ⟨5, 8, [], fun _ => True, fun γ => .pointer (some ⟨(γ 5).2, 0, none⟩), fun γ => some (.blk (γ 5).2 46 (cV U8 (Vec.rep 32 0#8)) 32)⟩] [6, 7] (by kernel_rfl) (by kernel_rfl) (And.intro ?_ (And.intro ?_ (And.intro ?_ (And.intro ?_ (And.intro ?_ (And.intro ?_ (trivial))))))) (fun γ hφ ops => ?_)
  ·
    intro γ hφ
    show Makes _ 27 [(0, .agg (cV U8 a0).toArray), (1, .agg (cV U64 a1).toArray), (2, .slice A2 a2.length c2), (3, .pointer (some ⟨g_1, 0, none⟩)), (4, .pointer (some ⟨g_2, 0, none⟩)), (6, .pointer (some ⟨g_3, 0, none⟩))] (Mm w [] h [.blk g_3 23 (cV U8 (Vec.rep 20 0#8)) 20, .blk g_2 26 (cV U64 a1) 4, .blk g_1 23 (cV U8 a0) 20]) _ (fun _ => True) (fun g => .slice A2 a2.length c2) (fun g => none)
    exact m_val (val_move rfl rfl)
  ·
    intro γ hφ
    show Makes _ 27 [(10, .slice A2 a2.length c2), (0, .agg (cV U8 a0).toArray), (1, .agg (cV U64 a1).toArray), (2, .slice A2 a2.length c2), (3, .pointer (some ⟨g_1, 0, none⟩)), (4, .pointer (some ⟨g_2, 0, none⟩)), (6, .pointer (some ⟨g_3, 0, none⟩))] (Mm w [] h [.blk g_3 23 (cV U8 (Vec.rep 20 0#8)) 20, .blk g_2 26 (cV U64 a1) 4, .blk g_1 23 (cV U8 a0) 20]) _ (fun _ => True) (fun g => .agg (cV U8 x11).toArray) (fun g => none)
    exact m_made rfl Tryd.func44 nm44 bs44 rfl (fun w hw => keccak_Sum.calls T1 T2 T3 a2 A2 c2 x11 hx w (hs2.toW hw) hc2 (hT1.toW hw) (hT2.toW hw) (hT3.toW hw))
  ·
    intro γ hφ
    show Makes _ 27 [(0, .agg (cV U8 a0).toArray), (1, .agg (cV U64 a1).toArray), (2, .slice A2 a2.length c2), (3, .pointer (some ⟨g_1, 0, none⟩)), (4, .pointer (some ⟨g_2, 0, none⟩)), (6, .pointer (some ⟨g_3, 0, none⟩))] (Mm w [] h [.blk g_3 23 (cV U8 (Vec.rep 20 0#8)) 20, .blk g_2 26 (cV U64 a1) 4, .blk g_1 23 (cV U8 a0) 20]) _ (fun _ => True) (fun g => .agg (cV U64 a1).toArray) (fun g => none)
    exact m_val (val_loadR (off := 0) (cs := cV U64 a1) rfl rfl Tryd.underlying26 rfl (sz26.trans (congrArg some (cV_len _).symm)) (fun _ hw => hw.whole (j := 1) rfl))
  ·
    intro γ hφ
    show Makes _ 27 [(12, .agg (cV U64 a1).toArray), (0, .agg (cV U8 a0).toArray), (1, .agg (cV U64 a1).toArray), (2, .slice A2 a2.length c2), (3, .pointer (some ⟨g_1, 0, none⟩)), (4, .pointer (some ⟨g_2, 0, none⟩)), (6, .pointer (some ⟨g_3, 0, none⟩))] (Mm w [] h [.blk g_3 23 (cV U8 (Vec.rep 20 0#8)) 20, .blk g_2 26 (cV U64 a1) 4, .blk g_1 23 (cV U8 a0) 20]) _ (fun _ => True) (fun g => .agg (cV U8 x13).toArray) (fun g => none)
    exact m_made rfl Tryd.func45 nm45 bs45 rfl (fun w hw => word_Bytes.calls a1 x13 hx_4 w)
  ·
    intro γ hφ
    show Makes _ 27 [(0, .agg (cV U8 a0).toArray), (1, .agg (cV U64 a1).toArray), (2, .slice A2 a2.length c2), (3, .pointer (some ⟨g_1, 0, none⟩)), (4, .pointer (some ⟨g_2, 0, none⟩)), (6, .pointer (some ⟨g_3, 0, none⟩))] (Mm w [] h [.blk g_3 23 (cV U8 (Vec.rep 20 0#8)) 20, .blk g_2 26 (cV U64 a1) 4, .blk g_1 23 (cV U8 a0) 20]) _ (fun _ => True) (fun g => .pointer (some ⟨g.2, 0, none⟩)) (fun g => some (.blk g.2 47 (cV U8 (Vec.rep 32 0#8)) 32))
    exact m_alloc (cs := cV U8 (Vec.rep 32 0#8)) (room := 32) rfl ze47 rfl (cV_len _)
  ·
    intro γ hφ
    show Makes _ 27 [(0, .agg (cV U8 a0).toArray), (1, .agg (cV U64 a1).toArray), (2, .slice A2 a2.length c2), (3, .pointer (some ⟨g_1, 0, none⟩)), (4, .pointer (some ⟨g_2, 0, none⟩)), (6, .pointer (some ⟨g_3, 0, none⟩))] (Mm w [] h [.blk g_3 23 (cV U8 (Vec.rep 20 0#8)) 20, .blk g_2 26 (cV U64 a1) 4, .blk g_1 23 (cV U8 a0) 20]) _ (fun _ => True) (fun g => .pointer (some ⟨g.2, 0, none⟩)) (fun g => some (.blk g.2 46 (cV U8 (Vec.rep 32 0#8)) 32))
    exact m_alloc (cs := cV U8 (Vec.rep 32 0#8)) (room := 32) rfl ze46 rfl (cV_len _)
  change T 27 [(10, .slice A2 a2.length c2), (11, .agg (cV U8 x11).toArray), (12, .agg (cV U64 a1).toArray), (13, .agg (cV U8 x13).toArray), (7, .pointer (some ⟨(γ 4).2, 0, none⟩)), (8, .pointer (some ⟨(γ 5).2, 0, none⟩)), (0, .agg (cV U8 a0).toArray), (1, .agg (cV U64 a1).toArray), (2, .slice A2 a2.length c2), (3, .pointer (some ⟨g_1, 0, none⟩)), (4, .pointer (some ⟨g_2, 0, none⟩)), (6, .pointer (some ⟨g_3, 0, none⟩))] (Mm w [] h [.blk (γ 4).2 47 (cV U8 (Vec.rep 32 0#8)) 32, .blk (γ 5).2 46 (cV U8 (Vec.rep 32 0#8)) 32, .blk g_3 23 (cV U8 (Vec.rep 20 0#8)) 20, .blk g_2 26 (cV U64 a1) 4, .blk g_1 23 (cV U8 a0) 20]) _
  generalize (γ 4).2 = g_7
  generalize (γ 5).2 = g_8
  refine z_storeA (j := 0) (cs' := cV U8 x11) (L' := [.blk g_7 47 (cV U8 x11) 32, .blk g_8 46 (cV U8 (Vec.rep 32 0#8)) 32, .blk g_3 23 (cV U8 (Vec.rep 20 0#8)) 20, .blk g_2 26 (cV U64 a1) 4, .blk g_1 23 (cV U8 a0) 20]) rfl rfl rfl (cV_one (fun _ => rfl) _) sz47 rfl (cV_len _) rfl rfl rfl (fun _ _ _ => trivial) ?_
  refine z_storeA (j := 1) (cs' := cV U8 x13) (L' := [.blk g_7 47 (cV U8 x11) 32, .blk g_8 46 (cV U8 x13) 32, .blk g_3 23 (cV U8 (Vec.rep 20 0#8)) 20, .blk g_2 26 (cV U64 a1) 4, .blk g_1 23 (cV U8 a0) 20]) rfl rfl rfl (cV_one (fun _ => rfl) _) sz46 rfl (cV_len _) rfl rfl rfl (fun _ _ _ => trivial) ?_
  refine z_nil ?_
  refine t_seq ?_
  refine t_region (fun ops hops => ?_)
  clear hops
  obtain ⟨x14, hx14, H⟩ := Let_elim H
  have hlx14 : x14.length = 1 := by subst hx14; rfl
  refine z_buildSlice' (e := 5) (f := U8) (xs := x14) (vs := [(0, .int .u8 255)]) rfl rfl (by subst hx14; intro w; kernel_rfl) hlx14 (by decide) rfl rfl rfl (fun _ _ _ _ => trivial) (fun g_9 hs_11 => ?_)
  clear hx14 hlx14
  refine z_val (v := .slice (some ⟨g_9, 0, none⟩) x14.length 1) (val_assign rfl rfl) rfl rfl rfl (fun _ _ _ => trivial) ?_
  refine z_nil ?_
  refine t_seq ?_
  refine t_region (fun ops hops => ?_)
  clear hops
  refine z_val (v := .slice (some ⟨g_9, 0, none⟩) x14.length 1) (val_move rfl rfl) rfl rfl rfl (fun _ _ _ => trivial) ?_
  obtain ⟨x16, hx16, H⟩ := Let_elim H
  have hln : 0 ≤ 20 ∧ 20 ≤ 20 := by decide
  have hl : x16.length = 20 - 0 := by subst hx16; exact sla_len _ hln.2
  obtain ⟨q_12, hq_13⟩ : ∃ z, z = (if 20 = 0 then 0 else 0) := ⟨_, rfl⟩
  obtain ⟨c_14, hc_150⟩ : ∃ z, z = 20 - 0 := ⟨_, rfl⟩
  have hc_15 : x16.length ≤ c_14 := by omega
  refine z_val (v := .slice (some ⟨g_1, q_12, none⟩) x16.length c_14) (val_sliceA (l := 0) (k := 20) rfl rfl Tryd.underlying23 sz5 (.inl ⟨rfl, rfl⟩) (.inl ⟨rfl, rfl⟩) hln.1 hln.2 (by rw [hl, hq_13, hc_150]; first | rfl | (congr 2; split <;> simp))) rfl rfl rfl (fun _ _ _ => trivial) ?_
  obtain ⟨hq_16, H⟩ := Chk_elim H
  obtain ⟨x17, hx17, H⟩ := Let_elim H
  refine z_append (f := U8) (j := 0) (xs := x14) (ys := x16) (zs := x17) rfl rfl Tryd.underlying27 in5 rfl rfl rfl rfl (fun w hw => (sla_w hw (j := 5) rfl hq_13 hx16)) (fun _ => rfl) hq_16 (by decide) hx17 (fun A_17 c_18 => [.row (.slice A_17 x17.length c_18) 5 1 (x17.map U8), .blk g_7 47 (cV U8 x11) 32, .blk g_8 46 (cV U8 x13) 32, .blk g_3 23 (cV U8 (Vec.rep 20 0#8)) 20, .blk g_2 26 (cV U64 a1) 4, .blk g_1 23 (cV U8 a0) 20]) (fun _ _ => rfl) rfl rfl rfl (fun _ _ _ _ _ => trivial) (fun A_17 c_18 hs_19 => ?_)
  clear hx17
  refine z_val (v := .slice A_17 x17.length c_18) (val_assign rfl rfl) rfl rfl rfl (fun _ _ _ => trivial) ?_
  refine z_nil ?_
  refine t_seq ?_
  refine t_region (fun ops hops => ?_)
  clear hops
  refine z_val (v := .slice A_17 x17.length c_18) (val_move rfl rfl) rfl rfl rfl (fun _ _ _ => trivial) ?_
  obtain ⟨x19, hx19, H⟩ := Let_elim H
  have hln_24 : 0 ≤ 32 ∧ 32 ≤ 32 := by decide
  have hl_25 : x19.length = 32 - 0 := by subst hx19; exact sla_len _ hln_24.2
  obtain ⟨q_20, hq_21⟩ : ∃ z, z = (if 32 = 0 then 0 else 0) := ⟨_, rfl⟩
  obtain ⟨c_22, hc_230⟩ : ∃ z, z = 32 - 0 := ⟨_, rfl⟩
  have hc_23 : x19.length ≤ c_22 := by omega
  refine z_val (v := .slice (some ⟨g_8, q_20, none⟩) x19.length c_22) (val_sliceA (l := 0) (k := 32) rfl rfl Tryd.underlying46 sz5 (.inl ⟨rfl, rfl⟩) (.inl ⟨rfl, rfl⟩) hln_24.1 hln_24.2 (by rw [hl_25, hq_21, hc_230]; first | rfl | (congr 2; split <;> simp))) rfl rfl rfl (fun _ _ _ => trivial) ?_
  obtain ⟨hq_26, H⟩ := Chk_elim H
  obtain ⟨x20, hx20, H⟩ := Let_elim H
  refine z_append (f := U8) (j := 0) (xs := x17) (ys := x19) (zs := x20) rfl rfl Tryd.underlying27 in5 rfl rfl rfl rfl (fun w hw => (sla_w hw (j := 2) rfl hq_21 hx19)) (fun _ => rfl) hq_26 (by decide) hx20 (fun A_27 c_28 => [.row (.slice A_27 x20.length c_28) 5 1 (x20.map U8), .blk g_7 47 (cV U8 x11) 32, .blk g_8 46 (cV U8 x13) 32, .blk g_3 23 (cV U8 (Vec.rep 20 0#8)) 20, .blk g_2 26 (cV U64 a1) 4, .blk g_1 23 (cV U8 a0) 20]) (fun _ _ => rfl) rfl rfl rfl (fun _ _ _ _ _ => trivial) (fun A_27 c_28 hs_29 => ?_)
  clear hx20
  refine z_val (v := .slice A_27 x20.length c_28) (val_assign rfl rfl) rfl rfl rfl (fun _ _ _ => trivial) ?_
  refine z_nil ?_
  refine t_seq ?_
  refine t_region (fun ops hops => ?_)
  clear hops
  refine z_val (v := .slice A_27 x20.length c_28) (val_move rfl rfl) rfl rfl rfl (fun _ _ _ => trivial) ?_
  obtain ⟨x22, hx22, H⟩ := Let_elim H
  have hln_34 : 0 ≤ 32 ∧ 32 ≤ 32 := by decide
  have hl_35 : x22.length = 32 - 0 := by subst hx22; exact sla_len _ hln_34.2
  obtain ⟨q_30, hq_31⟩ : ∃ z, z = (if 32 = 0 then 0 else 0) := ⟨_, rfl⟩
  obtain ⟨c_32, hc_330⟩ : ∃ z, z = 32 - 0 := ⟨_, rfl⟩
  have hc_33 : x22.length ≤ c_32 := by omega
  refine z_val (v := .slice (some ⟨g_7, q_30, none⟩) x22.length c_32) (val_sliceA (l := 0) (k := 32) rfl rfl Tryd.underlying47 sz5 (.inl ⟨rfl, rfl⟩) (.inl ⟨rfl, rfl⟩) hln_34.1 hln_34.2 (by rw [hl_35, hq_31, hc_330]; first | rfl | (congr 2; split <;> simp))) rfl rfl rfl (fun _ _ _ => trivial) ?_
  obtain ⟨hq_36, H⟩ := Chk_elim H
  obtain ⟨x23, hx23, H⟩ := Let_elim H
  refine z_append (f := U8) (j := 0) (xs := x20) (ys := x22) (zs := x23) rfl rfl Tryd.underlying27 in5 rfl rfl rfl rfl (fun w hw => (sla_w hw (j := 1) rfl hq_31 hx22)) (fun _ => rfl) hq_36 (by decide) hx23 (fun A_37 c_38 => [.row (.slice A_37 x23.length c_38) 5 1 (x23.map U8), .blk g_7 47 (cV U8 x11) 32, .blk g_8 46 (cV U8 x13) 32, .blk g_3 23 (cV U8 (Vec.rep 20 0#8)) 20, .blk g_2 26 (cV U64 a1) 4, .blk g_1 23 (cV U8 a0) 20]) (fun _ _ => rfl) rfl rfl rfl (fun _ _ _ _ _ => trivial) (fun A_37 c_38 hs_39 => ?_)
  clear hx23
  refine z_val (v := .slice A_37 x23.length c_38) (val_assign rfl rfl) rfl rfl rfl (fun _ _ _ => trivial) ?_
  refine z_nil ?_
  refine t_seq ?_
  refine t_region (fun ops hops => ?_)
  clear hops
  refine z_val (v := .slice A_37 x23.length c_38) (val_move rfl rfl) rfl rfl rfl (fun _ _ _ => trivial) ?_
  obtain ⟨x25, hx_40, H⟩ := Option.bind_eq_some_iff.1 H
  refine z_made (v := .agg (cV U64 x25).toArray) rfl Tryd.func46 nm46 bs46 rfl (fun w hw => keccak_Word.calls T1 T2 T3 x23 A_37 c_38 x25 hx_40 w (row_w hw (j := 0) rfl) hs_39.le (hT1.toW hw) (hT2.toW hw) (hT3.toW hw)) rfl rfl rfl (fun _ _ _ => trivial) ?_
  clear hx_40
  obtain ⟨x26, hx_41, H⟩ := Option.bind_eq_some_iff.1 H
  refine z_made (v := .agg (cV U8 x26).toArray) rfl Tryd.func16 nm16 bs16 rfl (fun w hw => addr_Of.calls x25 x26 hx_41 w) rfl rfl rfl (fun _ _ _ => trivial) ?_
  clear hx_41
  refine z_storeA (j := 3) (cs' := cV U8 x26) (L' := [.row (.slice A_37 x23.length c_38) 5 1 (x23.map U8), .blk g_7 47 (cV U8 x11) 32, .blk g_8 46 (cV U8 x13) 32, .blk g_3 23 (cV U8 x26) 20, .blk g_2 26 (cV U64 a1) 4, .blk g_1 23 (cV U8 a0) 20]) rfl rfl rfl (cV_one (fun _ => rfl) _) sz23 rfl (cV_len _) rfl rfl rfl (fun _ _ _ => trivial) ?_
  refine z_nil ?_
  refine t_ret ?_
  obtain rfl := Option.some.inj H
  exact ret1 rfl (res_row (j := 3) rfl Tryd.underlying23 rfl sz23 rfl (cV_len _)) (fun _ hw => ⟨rfl, hw.below⟩)
def smithyref08_Word (a0 : Vec (BitVec 8) 20) : Option (Vec (BitVec 64) 4) :=
  Let ((a0.l.take 20).drop 0) fun x3 => (smithyref01_From x3).bind fun x4 => (smithyref01_D_Word x4).bind fun x5 => some x5
set_option maxRecDepth 100000 in
theorem smithyref08_Word.calls (a0 : Vec (BitVec 8) 20) (r : Vec (BitVec 64) 4) (H : smithyref08_Word a0 = some r) (w : World)  :
    Made Tryd.prog 15 #[.agg (cV U8 a0).toArray] w (.agg (cV U64 r).toArray) := by
  unfold smithyref08_Word at H
  have hM := Mm.start w (snap w) (snap_ok w)
  generalize snap w = h at *
  refine t_enter (vs := [.agg (cV U8 a0).toArray]) (n := 6) Tryd.func15 rfl rfl rfl hM ?_
  clear hM
  change T 6 _ _ _
  refine t_seq ?_
  refine t_region (fun ops hops => ?_)
  clear hops
  refine z_box (cs := cV U8 a0) (room := 20) rfl rfl rfl (cV_len _) rfl rfl rfl (fun _ _ _ _ => trivial) (fun g_1 => ?_)
  refine z_alloc (cs := cV U64 (Vec.rep 4 0#64)) (room := 4) rfl ze26 rfl (cV_len _) rfl rfl rfl (fun _ _ _ _ => trivial) (fun g_2 => ?_)
  refine z_nil ?_
  refine t_seq ?_
  refine t_region (fun ops hops => ?_)
  clear hops
  obtain ⟨x3, hx3, H⟩ := Let_elim H
  have hln : 0 ≤ 20 ∧ 20 ≤ 20 := by decide
  have hl : x3.length = 20 - 0 := by subst hx3; exact sla_len _ hln.2
  obtain ⟨q_3, hq_4⟩ : ∃ z, z = (if 20 = 0 then 0 else 0) := ⟨_, rfl⟩
  obtain ⟨c_5, hc_60⟩ : ∃ z, z = 20 - 0 := ⟨_, rfl⟩
  have hc_6 : x3.length ≤ c_5 := by omega
  refine z_val (v := .slice (some ⟨g_1, q_3, none⟩) x3.length c_5) (val_sliceA (l := 0) (k := 20) rfl rfl Tryd.underlying23 sz5 (.inl ⟨rfl, rfl⟩) (.inl ⟨rfl, rfl⟩) hln.1 hln.2 (by rw [hl, hq_4, hc_60]; first | rfl | (congr 2; split <;> simp))) rfl rfl rfl (fun _ _ _ => trivial) ?_
  obtain ⟨x4, hx, H⟩ := Option.bind_eq_some_iff.1 H
  refine z_made (v := .agg (cV (Value.int .i64) x4).toArray) rfl Tryd.func52 nm52 bs52 rfl (fun w hw => smithyref01_From.calls x3 ((some ⟨g_1, q_3, none⟩)) c_5 x4 hx w (sla_w hw (j := 1) rfl hq_4 hx3) hc_6) rfl rfl rfl (fun _ _ _ => trivial) ?_
  clear hx
  obtain ⟨x5, hx_7, H⟩ := Option.bind_eq_some_iff.1 H
  refine z_made (v := .agg (cV U64 x5).toArray) rfl Tryd.func53 nm53 bs53 rfl (fun w hw => smithyref01_D_Word.calls x4 x5 hx_7 w) rfl rfl rfl (fun _ _ _ => trivial) ?_
  clear hx_7
  refine z_storeA (j := 0) (cs' := cV U64 x5) (L' := [.blk g_2 26 (cV U64 x5) 4, .blk g_1 23 (cV U8 a0) 20]) rfl rfl rfl (cV_one (fun _ => rfl) _) sz26 rfl (cV_len _) rfl rfl rfl (fun _ _ _ => trivial) ?_
  refine z_nil ?_
  refine t_ret ?_
  obtain rfl := Option.some.inj H
  exact ret1 rfl (res_row (j := 0) rfl Tryd.underlying26 rfl sz26 rfl (cV_len _)) (fun _ hw => ⟨rfl, hw.below⟩)
def smithyref08_Of (a0 : Vec (BitVec 64) 4) : Option (Vec (BitVec 8) 20) :=
  (smithyref01_Of a0).bind fun x4 => (smithyref01_D_Bytes x4).bind fun x5 => (smithyref08_last x5).bind fun x6 => some x6
set_option maxRecDepth 100000 in
theorem smithyref08_Of.calls (a0 : Vec (BitVec 64) 4) (r : Vec (BitVec 8) 20) (H : smithyref08_Of a0 = some r) (w : World)  :
    Made Tryd.prog 17 #[.agg (cV U64 a0).toArray] w (.agg (cV U8 r).toArray) := by
  unfold smithyref08_Of at H
  have hM := Mm.start w (snap w) (snap_ok w)
  generalize snap w = h at *
  refine t_enter (vs := [.agg (cV U64 a0).toArray]) (n := 7) Tryd.func17 rfl rfl rfl hM ?_
  clear hM
  change T 7 _ _ _
  refine t_seq ?_
  refine t_region (fun ops hops => ?_)
  clear hops
  refine z_box (cs := cV U64 a0) (room := 4) rfl rfl rfl (cV_len _) rfl rfl rfl (fun _ _ _ _ => trivial) (fun g_1 => ?_)
  refine z_alloc (cs := cV U8 (Vec.rep 20 0#8)) (room := 20) rfl ze23 rfl (cV_len _) rfl rfl rfl (fun _ _ _ _ => trivial) (fun g_2 => ?_)
  refine z_nil ?_
  refine t_seq ?_
  refine t_region (fun ops hops => ?_)
  clear hops
  refine z_val (v := .agg (cV U64 a0).toArray) (val_loadR (off := 0) (cs := cV U64 a0) rfl rfl Tryd.underlying26 rfl (sz26.trans (congrArg some (cV_len _).symm)) (fun _ hw => hw.whole (j := 1) rfl)) rfl rfl rfl (fun _ _ _ => trivial) ?_
  obtain ⟨x4, hx, H⟩ := Option.bind_eq_some_iff.1 H
  refine z_made (v := .agg (cV (Value.int .i64) x4).toArray) rfl Tryd.func48 nm48 bs48 rfl (fun w hw => smithyref01_Of.calls a0 x4 hx w) rfl rfl rfl (fun _ _ _ => trivial) ?_
  clear hx
  obtain ⟨x5, hx_3, H⟩ := Option.bind_eq_some_iff.1 H
  refine z_made (v := .agg (cV U8 x5).toArray) rfl Tryd.func49 nm49 bs49 rfl (fun w hw => smithyref01_D_Bytes.calls x4 x5 hx_3 w) rfl rfl rfl (fun _ _ _ => trivial) ?_
  clear hx_3
  obtain ⟨x6, hx_4, H⟩ := Option.bind_eq_some_iff.1 H
  refine z_made (v := .agg (cV U8 x6).toArray) rfl Tryd.func50 nm50 bs50 rfl (fun w hw => smithyref08_last.calls x5 x6 hx_4 w) rfl rfl rfl (fun _ _ _ => trivial) ?_
  clear hx_4
  refine z_storeA (j := 0) (cs' := cV U8 x6) (L' := [.blk g_2 23 (cV U8 x6) 20, .blk g_1 26 (cV U64 a0) 4]) rfl rfl rfl (cV_one (fun _ => rfl) _) sz23 rfl (cV_len _) rfl rfl rfl (fun _ _ _ => trivial) ?_
  refine z_nil ?_
  refine t_ret ?_
  obtain rfl := Option.some.inj H
  exact ret1 rfl (res_row (j := 0) rfl Tryd.underlying23 rfl sz23 rfl (cV_len _)) (fun _ hw => ⟨rfl, hw.below⟩)
def smithyref08_Create2 (a0 : Vec (BitVec 8) 20) (a1 : Vec (BitVec 64) 4) (a2 : List (BitVec 8)) : Option (Vec (BitVec 8) 20) :=
  (smithyref05_Sum a2).bind fun x11 => (smithyref01_Of a1).bind fun x13 => (smithyref01_D_Bytes x13).bind fun x14 => Let ([255#8]) fun x15 => Let ((a0.l.take 20).drop 0) fun x17 => Chk ((x15.length + x17.length) * 1 ≤ 140737488355328) <| Let (x15 ++ x17) fun x18 => Let ((x14.l.take 32).drop 0) fun x20 => Chk ((x18.length + x20.length) * 1 ≤ 140737488355328) <| Let (x18 ++ x20) fun x21 => Let ((x11.l.take 32).drop 0) fun x23 => Chk ((x21.length + x23.length) * 1 ≤ 140737488355328) <| Let (x21 ++ x23) fun x24 => (smithyref05_Sum x24).bind fun x26 => (smithyref08_last x26).bind fun x27 => some x27
set_option maxRecDepth 100000 in
theorem smithyref08_Create2.calls (a0 : Vec (BitVec 8) 20) (a1 : Vec (BitVec 64) 4) (a2 : List (BitVec 8)) (A2 : Option Addr) (c2 : Nat) (r : Vec (BitVec 8) 20) (H : smithyref08_Create2 a0 a1 a2 = some r) (w : World) (hs2 : SlW w U8 A2 a2) (hc2 : a2.length ≤ c2) :
    Made Tryd.prog 13 #[.agg (cV U8 a0).toArray, .agg (cV U64 a1).toArray, .slice A2 a2.length c2] w (.agg (cV U8 r).toArray) := by
  unfold smithyref08_Create2 at H
  replace hs2 := hs2.toH
  have hM := Mm.start w (snap w) (snap_ok w)
  generalize snap w = h at *
  refine t_enter (vs := [.agg (cV U8 a0).toArray, .agg (cV U64 a1).toArray, .slice A2 a2.length c2]) (n := 28) Tryd.func13 rfl rfl rfl hM ?_
  clear hM
  change T 28 _ _ _
  refine t_seq ?_
  refine t_region (fun ops hops => ?_)
  clear hops
  refine z_box (cs := cV U8 a0) (room := 20) rfl rfl rfl (cV_len _) rfl rfl rfl (fun _ _ _ _ => trivial) (fun g_1 => ?_)
  refine z_box (cs := cV U64 a1) (room := 4) rfl rfl rfl (cV_len _) rfl rfl rfl (fun _ _ _ _ => trivial) (fun g_2 => ?_)
  refine z_alloc (cs := cV U8 (Vec.rep 20 0#8)) (room := 20) rfl ze23 rfl (cV_len _) rfl rfl rfl (fun _ _ _ _ => trivial) (fun g_3 => ?_)
  refine z_nil ?_
  refine t_seq ?_
  refine t_region (fun ops hops => ?_)
  clear hops
  refine z_val (v := .slice A2 a2.length c2) (val_move rfl rfl) rfl rfl rfl (fun _ _ _ => trivial) ?_
  obtain ⟨x11, hx, H⟩ := Option.bind_eq_some_iff.1 H
  refine z_made (v := .agg (cV U8 x11).toArray) rfl Tryd.func47 nm47 bs47 rfl (fun w hw => smithyref05_Sum.calls a2 A2 c2 x11 hx w (hs2.toW hw) hc2) rfl rfl rfl (fun _ _ _ => trivial) ?_
  clear hx
  refine z_alloc (cs := cV U8 (Vec.rep 32 0#8)) (room := 32) rfl ze47 rfl (cV_len _) rfl rfl rfl (fun _ _ _ _ => trivial) (fun g_4 => ?_)
  refine z_storeA (j := 0) (cs' := cV U8 x11) (L' := [.blk g_4 47 (cV U8 x11) 32, .blk g_3 23 (cV U8 (Vec.rep 20 0#8)) 20, .blk g_2 26 (cV U64 a1) 4, .blk g_1 23 (cV U8 a0) 20]) rfl rfl rfl (cV_one (fun _ => rfl) _) sz47 rfl (cV_len _) rfl rfl rfl (fun _ _ _ => trivial) ?_
  refine z_nil ?_
  refine t_seq ?_
  refine t_region (fun ops hops => ?_)
  clear hops
  refine z_val (v := .agg (cV U64 a1).toArray) (val_loadR (off := 0) (cs := cV U64 a1) rfl rfl Tryd.underlying26 rfl (sz26.trans (congrArg some (cV_len _).symm)) (fun _ hw => hw.whole (j := 2) rfl)) rfl rfl rfl (fun _ _ _ => trivial) ?_
  obtain ⟨x13, hx_5, H⟩ := Option.bind_eq_some_iff.1 H
  refine z_made (v := .agg (cV (Value.int .i64) x13).toArray) rfl Tryd.func48 nm48 bs48 rfl (fun w hw => smithyref01_Of.calls a1 x13 hx_5 w) rfl rfl rfl (fun _ _ _ => trivial) ?_
  clear hx_5
  obtain ⟨x14, hx_6, H⟩ := Option.bind_eq_some_iff.1 H
  refine z_made (v := .agg (cV U8 x14).toArray) rfl Tryd.func49 nm49 bs49 rfl (fun w hw => smithyref01_D_Bytes.calls x13 x14 hx_6 w) rfl rfl rfl (fun _ _ _ => trivial) ?_
  clear hx_6
  refine z_alloc (cs := cV U8 (Vec.rep 32 0#8)) (room := 32) rfl ze46 rfl (cV_len _) rfl rfl rfl (fun _ _ _ _ => trivial) (fun g_7 => ?_)
  refine z_storeA (j := 0) (cs' := cV U8 x14) (L' := [.blk g_7 46 (cV U8 x14) 32, .blk g_4 47 (cV U8 x11) 32, .blk g_3 23 (cV U8 (Vec.rep 20 0#8)) 20, .blk g_2 26 (cV U64 a1) 4, .blk g_1 23 (cV U8 a0) 20]) rfl rfl rfl (cV_one (fun _ => rfl) _) sz46 rfl (cV_len _) rfl rfl rfl (fun _ _ _ => trivial) ?_
  refine z_nil ?_
  refine t_seq ?_
  refine t_region (fun ops hops => ?_)
  clear hops
  obtain ⟨x15, hx15, H⟩ := Let_elim H
  have hlx15 : x15.length = 1 := by subst hx15; rfl
  refine z_buildSlice' (e := 5) (f := U8) (xs := x15) (vs := [(0, .int .u8 255)]) rfl rfl (by subst hx15; intro w; kernel_rfl) hlx15 (by decide) rfl rfl rfl (fun _ _ _ _ => trivial) (fun g_8 hs_10 => ?_)
  clear hx15 hlx15
  refine z_val (v := .slice (some ⟨g_8, 0, none⟩) x15.length 1) (val_assign rfl rfl) rfl rfl rfl (fun _ _ _ => trivial) ?_
  refine z_nil ?_
  refine t_seq ?_
  refine t_region (fun ops hops => ?_)
  clear hops
  refine z_val (v := .slice (some ⟨g_8, 0, none⟩) x15.length 1) (val_move rfl rfl) rfl rfl rfl (fun _ _ _ => trivial) ?_
  obtain ⟨x17, hx17, H⟩ := Let_elim H
  have hln : 0 ≤ 20 ∧ 20 ≤ 20 := by decide
  have hl : x17.length = 20 - 0 := by subst hx17; exact sla_len _ hln.2
  obtain ⟨q_11, hq_12⟩ : ∃ z, z = (if 20 = 0 then 0 else 0) := ⟨_, rfl⟩
  obtain ⟨c_13, hc_140⟩ : ∃ z, z = 20 - 0 := ⟨_, rfl⟩
  have hc_14 : x17.length ≤ c_13 := by omega
  refine z_val (v := .slice (some ⟨g_1, q_11, none⟩) x17.length c_13) (val_sliceA (l := 0) (k := 20) rfl rfl Tryd.underlying23 sz5 (.inl ⟨rfl, rfl⟩) (.inl ⟨rfl, rfl⟩) hln.1 hln.2 (by rw [hl, hq_12, hc_140]; first | rfl | (congr 2; split <;> simp))) rfl rfl rfl (fun _ _ _ => trivial) ?_
  obtain ⟨hq_15, H⟩ := Chk_elim H
  obtain ⟨x18, hx18, H⟩ := Let_elim H
  refine z_append (f := U8) (j := 0) (xs := x15) (ys := x17) (zs := x18) rfl rfl Tryd.underlying27 in5 rfl rfl rfl rfl (fun w hw => (sla_w hw (j := 5) rfl hq_12 hx17)) (fun _ => rfl) hq_15 (by decide) hx18 (fun A_16 c_17 => [.row (.slice A_16 x18.length c_17) 5 1 (x18.map U8), .blk g_7 46 (cV U8 x14) 32, .blk g_4 47 (cV U8 x11) 32, .blk g_3 23 (cV U8 (Vec.rep 20 0#8)) 20, .blk g_2 26 (cV U64 a1) 4, .blk g_1 23 (cV U8 a0) 20]) (fun _ _ => rfl) rfl rfl rfl (fun _ _ _ _ _ => trivial) (fun A_16 c_17 hs_18 => ?_)
  clear hx18
  refine z_val (v := .slice A_16 x18.length c_17) (val_assign rfl rfl) rfl rfl rfl (fun _ _ _ => trivial) ?_
  refine z_nil ?_
  refine t_seq ?_
  refine t_region (fun ops hops => ?_)
  clear hops
  refine z_val (v := .slice A_16 x18.length c_17) (val_move rfl rfl) rfl rfl rfl (fun _ _ _ => trivial) ?_
  obtain ⟨x20, hx20, H⟩ := Let_elim H
  have hln_23 : 0 ≤ 32 ∧ 32 ≤ 32 := by decide
  have hl_24 : x20.length = 32 - 0 := by subst hx20; exact sla_len _ hln_23.2
  obtain ⟨q_19, hq_20⟩ : ∃ z, z = (if 32 = 0 then 0 else 0) := ⟨_, rfl⟩
  obtain ⟨c_21, hc_220⟩ : ∃ z, z = 32 - 0 := ⟨_, rfl⟩
  have hc_22 : x20.length ≤ c_21 := by omega
  refine z_val (v := .slice (some ⟨g_7, q_19, none⟩) x20.length c_21) (val_sliceA (l := 0) (k := 32) rfl rfl Tryd.underlying46 sz5 (.inl ⟨rfl, rfl⟩) (.inl ⟨rfl, rfl⟩) hln_23.1 hln_23.2 (by rw [hl_24, hq_20, hc_220]; first | rfl | (congr 2; split <;> simp))) rfl rfl rfl (fun _ _ _ => trivial) ?_
  obtain ⟨hq_25, H⟩ := Chk_elim H
  obtain ⟨x21, hx21, H⟩ := Let_elim H
  refine z_append (f := U8) (j := 0) (xs := x18) (ys := x20) (zs := x21) rfl rfl Tryd.underlying27 in5 rfl rfl rfl rfl (fun w hw => (sla_w hw (j := 1) rfl hq_20 hx20)) (fun _ => rfl) hq_25 (by decide) hx21 (fun A_26 c_27 => [.row (.slice A_26 x21.length c_27) 5 1 (x21.map U8), .blk g_7 46 (cV U8 x14) 32, .blk g_4 47 (cV U8 x11) 32, .blk g_3 23 (cV U8 (Vec.rep 20 0#8)) 20, .blk g_2 26 (cV U64 a1) 4, .blk g_1 23 (cV U8 a0) 20]) (fun _ _ => rfl) rfl rfl rfl (fun _ _ _ _ _ => trivial) (fun A_26 c_27 hs_28 => ?_)
  clear hx21
  refine z_val (v := .slice A_26 x21.length c_27) (val_assign rfl rfl) rfl rfl rfl (fun _ _ _ => trivial) ?_
  refine z_nil ?_
  refine t_seq ?_
  refine t_region (fun ops hops => ?_)
  clear hops
  refine z_val (v := .slice A_26 x21.length c_27) (val_move rfl rfl) rfl rfl rfl (fun _ _ _ => trivial) ?_
  obtain ⟨x23, hx23, H⟩ := Let_elim H
  have hln_33 : 0 ≤ 32 ∧ 32 ≤ 32 := by decide
  have hl_34 : x23.length = 32 - 0 := by subst hx23; exact sla_len _ hln_33.2
  obtain ⟨q_29, hq_30⟩ : ∃ z, z = (if 32 = 0 then 0 else 0) := ⟨_, rfl⟩
  obtain ⟨c_31, hc_320⟩ : ∃ z, z = 32 - 0 := ⟨_, rfl⟩
  have hc_32 : x23.length ≤ c_31 := by omega
  refine z_val (v := .slice (some ⟨g_4, q_29, none⟩) x23.length c_31) (val_sliceA (l := 0) (k := 32) rfl rfl Tryd.underlying47 sz5 (.inl ⟨rfl, rfl⟩) (.inl ⟨rfl, rfl⟩) hln_33.1 hln_33.2 (by rw [hl_34, hq_30, hc_320]; first | rfl | (congr 2; split <;> simp))) rfl rfl rfl (fun _ _ _ => trivial) ?_
  obtain ⟨hq_35, H⟩ := Chk_elim H
  obtain ⟨x24, hx24, H⟩ := Let_elim H
  refine z_append (f := U8) (j := 0) (xs := x21) (ys := x23) (zs := x24) rfl rfl Tryd.underlying27 in5 rfl rfl rfl rfl (fun w hw => (sla_w hw (j := 2) rfl hq_30 hx23)) (fun _ => rfl) hq_35 (by decide) hx24 (fun A_36 c_37 => [.row (.slice A_36 x24.length c_37) 5 1 (x24.map U8), .blk g_7 46 (cV U8 x14) 32, .blk g_4 47 (cV U8 x11) 32, .blk g_3 23 (cV U8 (Vec.rep 20 0#8)) 20, .blk g_2 26 (cV U64 a1) 4, .blk g_1 23 (cV U8 a0) 20]) (fun _ _ => rfl) rfl rfl rfl (fun _ _ _ _ _ => trivial) (fun A_36 c_37 hs_38 => ?_)
  clear hx24
  refine z_val (v := .slice A_36 x24.length c_37) (val_assign rfl rfl) rfl rfl rfl (fun _ _ _ => trivial) ?_
  refine z_nil ?_
  refine t_seq ?_
  refine t_region (fun ops hops => ?_)
  clear hops
  refine z_val (v := .slice A_36 x24.length c_37) (val_move rfl rfl) rfl rfl rfl (fun _ _ _ => trivial) ?_
  obtain ⟨x26, hx_39, H⟩ := Option.bind_eq_some_iff.1 H
  refine z_made (v := .agg (cV U8 x26).toArray) rfl Tryd.func47 nm47 bs47 rfl (fun w hw => smithyref05_Sum.calls x24 A_36 c_37 x26 hx_39 w (row_w hw (j := 0) rfl) hs_38.le) rfl rfl rfl (fun _ _ _ => trivial) ?_
  clear hx_39
  obtain ⟨x27, hx_40, H⟩ := Option.bind_eq_some_iff.1 H
  refine z_made (v := .agg (cV U8 x27).toArray) rfl Tryd.func50 nm50 bs50 rfl (fun w hw => smithyref08_last.calls x26 x27 hx_40 w) rfl rfl rfl (fun _ _ _ => trivial) ?_
  clear hx_40
  refine z_storeA (j := 3) (cs' := cV U8 x27) (L' := [.row (.slice A_36 x24.length c_37) 5 1 (x24.map U8), .blk g_7 46 (cV U8 x14) 32, .blk g_4 47 (cV U8 x11) 32, .blk g_3 23 (cV U8 x27) 20, .blk g_2 26 (cV U64 a1) 4, .blk g_1 23 (cV U8 a0) 20]) rfl rfl rfl (cV_one (fun _ => rfl) _) sz23 rfl (cV_len _) rfl rfl rfl (fun _ _ _ => trivial) ?_
  refine z_nil ?_
  refine t_ret ?_
  obtain rfl := Option.some.inj H
  exact ret1 rfl (res_row (j := 3) rfl Tryd.underlying23 rfl sz23 rfl (cV_len _)) (fun _ hw => ⟨rfl, hw.below⟩)
def smithyref08_Less.b1 (a0 : Vec (BitVec 8) 20) (a1 : Vec (BitVec 8) 20) (x5 : Int) : Option (Ctl ((Int)) (Bool)) :=
  Let (decide (x5 < 20)) fun x7 => (bif x7 then Chk (0 ≤ x5 ∧ x5 < ((20 : Nat) : Int)) <| Let (a0.get x5.toNat) fun x12 => Chk (0 ≤ x5 ∧ x5 < ((20 : Nat) : Int)) <| Let (a1.get x5.toNat) fun x15 => Let (x12 != x15) fun x16 => (bif x16 then Chk (0 ≤ x5 ∧ x5 < ((20 : Nat) : Int)) <| Let (a0.get x5.toNat) fun x19 => Chk (0 ≤ x5 ∧ x5 < ((20 : Nat) : Int)) <| Let (a1.get x5.toNat) fun x22 => Let (decide (x19.toNat < x22.toNat)) fun x23 => some (.ret x23) else Let (wi (x5 + 1)) fun x9 => some (.next x9)) else some (.brk x5))
def smithyref08_Less (a0 : Vec (BitVec 8) 20) (a1 : Vec (BitVec 8) 20) : Option (Bool) :=
  (wlx (σ := (Int)) (fun s => smithyref08_Less.b1 a0 a1 s) 0).bind (Sum.elim (fun x5 => some false) (fun r => some r))
set_option maxRecDepth 100000 in
theorem smithyref08_Less.calls (a0 : Vec (BitVec 8) 20) (a1 : Vec (BitVec 8) 20) (r : Bool) (H : smithyref08_Less a0 a1 = some r) (w : World)  :
    Made Tryd.prog 18 #[.agg (cV U8 a0).toArray, .agg (cV U8 a1).toArray] w (.bool r) := by
  unfold smithyref08_Less at H
  have hM := Mm.start w (snap w) (snap_ok w)
  generalize snap w = h at *
  refine t_enter (vs := [.agg (cV U8 a0).toArray, .agg (cV U8 a1).toArray]) (n := 24) Tryd.func18 rfl rfl rfl hM ?_
  clear hM
  change T 24 _ _ _
  refine t_seq ?_
  refine t_region (fun ops hops => ?_)
  clear hops
  refine z_box (cs := cV U8 a0) (room := 20) rfl rfl rfl (cV_len _) rfl rfl rfl (fun _ _ _ _ => trivial) (fun g_1 => ?_)
  refine z_box (cs := cV U8 a1) (room := 20) rfl rfl rfl (cV_len _) rfl rfl rfl (fun _ _ _ _ => trivial) (fun g_2 => ?_)
  refine z_val (v := .bool false) (val_assign rfl rfl) rfl rfl rfl (fun _ _ _ => trivial) ?_
  refine z_nil ?_
  refine t_seq ?_
  refine t_seq ?_
  refine t_region (fun ops hops => ?_)
  clear hops
  refine z_val (v := .int .i64 0) (val_assign rfl rfl) rfl rfl rfl (fun _ _ _ => trivial) ?_
  refine z_nil ?_
  refine t_block ?_
  obtain ⟨z1, hz1, HK1⟩ := Option.bind_eq_some_iff.1 H
  clear H
  refine t_while hz1 (fun (s : (Int)) (g : Unit) => [(2, .pointer (some ⟨g_1, 0, none⟩)), (3, .pointer (some ⟨g_2, 0, none⟩)), (5, .int .i64 s)]) (fun (s : (Int)) (g : Unit) => []) (fun (s : (Int)) (g : Unit) => Mm w [] h [.blk g_2 23 (cV U8 a1) 20, .blk g_1 23 (cV U8 a0) 20]) (fun (s : (Int)) (g : Unit) => Mm w [] h []) (fun (s : (Int)) (g : Unit) => True) (fun (s : (Int)) (g : Unit) => True) () trivial (fun a w ha hw => ⟨ha.cons rfl (ha.cons rfl (ha.cons rfl (ha.nil))), hw⟩) (fun Gn Gb s g e hφ H hn1 hb1 hr1 => ?_) (fun s g hzz hφ => ?_)
  ·
    obtain ⟨x5, rfl⟩ : ∃ x, x = s := ⟨_, rfl⟩
    change smithyref08_Less.b1 a0 a1 x5 = some e at H
    unfold smithyref08_Less.b1 at H
    clear hz1
    change T 24 _ _ _
    refine t_seq ?_
    refine t_seq ?_
    refine t_region (fun ops hops => ?_)
    clear hops
    refine z_val (v := .int .i64 x5) (val_move rfl rfl) rfl rfl rfl (fun _ _ _ => trivial) ?_
    obtain ⟨x7, hx7, H⟩ := Let_elim H
    refine z_val (v := .bool x7) (by subst hx7; exact val_bin rfl rfl rfl rfl (i64_lss _ _ _)) rfl rfl rfl (fun _ _ _ => trivial) ?_
    clear hx7
    refine z_nil ?_
    cases x7
    ·
      replace H := cond_f H
      refine t_cond_false rfl ?_
      refine t_exit rfl ?_
      obtain rfl := Option.some.inj H
      exact t_reach ((hb1 _ () rfl trivial).weak (fun a ha => ha.nil) (fun w hw => hw.sel [] rfl rfl))
    ·
      replace H := cond_t H
      refine t_cond_true rfl ?_
      refine t_skip ?_
      refine t_seq ?_
      refine t_block ?_
      refine t_seq ?_
      refine t_plan (C := Mm w [] h [.blk g_2 23 (cV U8 a1) 20, .blk g_1 23 (cV U8 a0) 20]) [] [(0, true), (1, true), (2, true), (3, true), (4, true), (5, true), (6, true)] (by kernel_rfl) (by kernel_rfl) (fun _ hw => hw.drew) (fun ops hops => ?_)
      clear hops
      refine z_still (v := .int .i64 x5) (val_move rfl rfl) rfl rfl rfl (fun _ hw => hw) ?_
      obtain ⟨hq_3, H⟩ := Chk_elim H
      refine z_still (v := .pointer (some ⟨g_1, x5.toNat, none⟩)) (val_idx0 rfl rfl rfl Tryd.underlying23 sz5 hq_3 rfl) rfl rfl rfl (fun _ hw => hw) ?_
      obtain ⟨x12, hx12, H⟩ := Let_elim H
      refine z_still (v := U8 x12) (by subst hx12; exact val_load1 rfl rfl Tryd.underlying5 rfl (fun _ hw => hw.cell (j := 1) rfl (cV_at _ (idx_lt hq_3)))) rfl rfl rfl (fun _ hw => hw) ?_
      clear hx12
      refine z_still (v := .int .i64 x5) (val_move rfl rfl) rfl rfl rfl (fun _ hw => hw) ?_
      obtain ⟨hq_4, H⟩ := Chk_elim H
      refine z_still (v := .pointer (some ⟨g_2, x5.toNat, none⟩)) (val_idx0 rfl rfl rfl Tryd.underlying23 sz5 hq_4 rfl) rfl rfl rfl (fun _ hw => hw) ?_
      obtain ⟨x15, hx15, H⟩ := Let_elim H
      refine z_still (v := U8 x15) (by subst hx15; exact val_load1 rfl rfl Tryd.underlying5 rfl (fun _ hw => hw.cell (j := 0) rfl (cV_at _ (idx_lt hq_4)))) rfl rfl rfl (fun _ hw => hw) ?_
      clear hx15
      obtain ⟨x16, hx16, H⟩ := Let_elim H
      refine z_still (v := .bool x16) (by subst hx16; exact val_bin rfl rfl rfl rfl (u8_neq _ _ _)) rfl rfl rfl (fun _ hw => hw) ?_
      clear hx16
      refine z_nil ?_
      cases x16
      ·
        replace H := cond_f H
        refine t_cond_false rfl ?_
        refine t_skip ?_
        refine t_fin ?_
        refine t_region (fun ops hops => ?_)
        clear hops
        refine z_val (v := .int .i64 x5) (val_move rfl rfl) rfl rfl rfl (fun _ _ _ => trivial) ?_
        obtain ⟨x9, hx9, H⟩ := Let_elim H
        refine z_val (v := .int .i64 x9) (by subst hx9; exact val_bin rfl rfl rfl rfl (i64_add _ _ _)) rfl rfl rfl (fun _ _ _ => trivial) ?_
        clear hx9
        refine z_val (v := .int .i64 x9) (val_assign rfl rfl) rfl rfl rfl (fun _ _ _ => trivial) ?_
        refine z_nil ?_
        obtain rfl := Option.some.inj H
        exact t_reach ((hn1 _ () rfl trivial).weak (fun a ha => ha.cons rfl (ha.cons rfl (ha.cons rfl (ha.nil)))) (fun w hw => hw))
      ·
        replace H := cond_t H
        refine t_cond_true rfl ?_
        refine t_seq ?_
        refine t_plan (C := Mm w [] h [.blk g_2 23 (cV U8 a1) 20, .blk g_1 23 (cV U8 a0) 20]) [] [(0, true), (1, true), (2, true), (3, true), (4, true), (5, true), (6, true), (7, true)] (by kernel_rfl) (by kernel_rfl) (fun _ hw => hw.drew) (fun ops hops => ?_)
        clear hops
        refine z_still (v := .int .i64 x5) (val_move rfl rfl) rfl rfl rfl (fun _ hw => hw) ?_
        obtain ⟨hq_5, H⟩ := Chk_elim H
        refine z_still (v := .pointer (some ⟨g_1, x5.toNat, none⟩)) (val_idx0 rfl rfl rfl Tryd.underlying23 sz5 hq_5 rfl) rfl rfl rfl (fun _ hw => hw) ?_
        obtain ⟨x19, hx19, H⟩ := Let_elim H
        refine z_still (v := U8 x19) (by subst hx19; exact val_load1 rfl rfl Tryd.underlying5 rfl (fun _ hw => hw.cell (j := 1) rfl (cV_at _ (idx_lt hq_5)))) rfl rfl rfl (fun _ hw => hw) ?_
        clear hx19
        refine z_still (v := .int .i64 x5) (val_move rfl rfl) rfl rfl rfl (fun _ hw => hw) ?_
        obtain ⟨hq_6, H⟩ := Chk_elim H
        refine z_still (v := .pointer (some ⟨g_2, x5.toNat, none⟩)) (val_idx0 rfl rfl rfl Tryd.underlying23 sz5 hq_6 rfl) rfl rfl rfl (fun _ hw => hw) ?_
        obtain ⟨x22, hx22, H⟩ := Let_elim H
        refine z_still (v := U8 x22) (by subst hx22; exact val_load1 rfl rfl Tryd.underlying5 rfl (fun _ hw => hw.cell (j := 0) rfl (cV_at _ (idx_lt hq_6)))) rfl rfl rfl (fun _ hw => hw) ?_
        clear hx22
        obtain ⟨x23, hx23, H⟩ := Let_elim H
        refine z_still (v := .bool x23) (by subst hx23; exact val_bin rfl rfl rfl rfl (u8_lss _ _ _)) rfl rfl rfl (fun _ hw => hw) ?_
        clear hx23
        refine z_still (v := .bool x23) (val_assign rfl rfl) rfl rfl rfl (fun _ hw => hw) ?_
        refine z_nil ?_
        refine t_ret ?_
        obtain rfl := Option.some.inj H
        have hz := hr1 _ rfl
        subst hz
        obtain rfl := Option.some.inj HK1
        exact ret1 rfl (res_tmp rfl) (fun _ hw => ⟨rfl, hw.below⟩)
  ·
    obtain ⟨x5, rfl⟩ : ∃ x, x = s := ⟨_, rfl⟩
    subst hzz
    have H := HK1
    clear HK1 hz1
    replace H := sum_l H
    try dsimp only at H
    change T 24 _ _ _
    refine t_seq ?_
    refine t_region (fun ops hops => ?_)
    clear hops
    refine z_val (v := .bool false) (val_assign rfl rfl) rfl rfl rfl (fun _ _ _ => trivial) ?_
    refine z_nil ?_
    refine t_ret ?_
    obtain rfl := Option.some.inj H
    exact ret1 rfl (res_tmp rfl) (fun _ hw => ⟨rfl, hw.below⟩)
def addr_Precompile (a0 : Vec (BitVec 8) 20) : Option (Int) :=
  (addr_Word a0).bind fun x7 => (word_Small x7).bind fun x8 => Let (!x8.2) fun x12 => (bif x12 then some true else Let (decide ((x8.1.toNat : Int) > 9)) fun x15 => some x15).bind (fun x16 => (bif x16 then some 0 else Let (IntKind.i64.wrap x8.1.toNat) fun x18 => some x18))
set_option maxRecDepth 100000 in
theorem addr_Precompile.calls (a0 : Vec (BitVec 8) 20) (r : Int) (H : addr_Precompile a0 = some r) (w : World)  :
    Made Tryd.prog 20 #[.agg (cV U8 a0).toArray] w (.int .i64 r) := by
  unfold addr_Precompile at H
  have hM := Mm.start w (snap w) (snap_ok w)
  generalize snap w = h at *
  refine t_enter (vs := [.agg (cV U8 a0).toArray]) (n := 19) Tryd.func20 rfl rfl rfl hM ?_
  clear hM
  change T 19 _ _ _
  refine t_seq ?_
  refine t_region (fun ops hops => ?_)
  clear hops
  refine z_box (cs := cV U8 a0) (room := 20) rfl rfl rfl (cV_len _) rfl rfl rfl (fun _ _ _ _ => trivial) (fun g_1 => ?_)
  refine z_val (v := .int .i64 0) (val_assign rfl rfl) rfl rfl rfl (fun _ _ _ => trivial) ?_
  refine z_nil ?_
  refine t_seq ?_
  refine t_region (fun ops hops => ?_)
  clear hops
  refine z_val (v := .agg (cV U8 a0).toArray) (val_loadR (off := 0) (cs := cV U8 a0) rfl rfl Tryd.underlying23 rfl (sz23.trans (congrArg some (cV_len _).symm)) (fun _ hw => hw.whole (j := 0) rfl)) rfl rfl rfl (fun _ _ _ => trivial) ?_
  obtain ⟨x7, hx, H⟩ := Option.bind_eq_some_iff.1 H
  refine z_made (v := .agg (cV U64 x7).toArray) rfl Tryd.func14 nm14 bs14 rfl (fun w hw => addr_Word.calls a0 x7 hx w) rfl rfl rfl (fun _ _ _ => trivial) ?_
  clear hx
  obtain ⟨x8, hx_2, H⟩ := Option.bind_eq_some_iff.1 H
  refine z_made (v := .tuple #[U64 x8.1, .bool x8.2]) rfl Tryd.func55 nm55 bs55 rfl (fun w hw => word_Small.calls x7 x8 hx_2 w) rfl rfl rfl (fun _ _ _ => trivial) ?_
  clear hx_2
  refine z_val (v := .tuple #[U64 x8.1, .bool x8.2]) (val_move rfl rfl) rfl rfl rfl (fun _ _ _ => trivial) ?_
  refine z_val (v := U64 x8.1) (val_extract rfl rfl rfl) rfl rfl rfl (fun _ _ _ => trivial) ?_
  refine z_val (v := .bool x8.2) (val_extract rfl rfl rfl) rfl rfl rfl (fun _ _ _ => trivial) ?_
  refine z_val (v := U64 x8.1) (val_assign rfl rfl) rfl rfl rfl (fun _ _ _ => trivial) ?_
  refine z_val (v := .bool x8.2) (val_assign rfl rfl) rfl rfl rfl (fun _ _ _ => trivial) ?_
  refine z_nil ?_
  refine t_seq ?_
  refine t_seq ?_
  refine t_region (fun ops hops => ?_)
  refine z_val (v := .bool x8.2) (val_move rfl rfl) rfl rfl rfl (fun _ _ _ => trivial) ?_
  obtain ⟨x12, hx12, H⟩ := Let_elim H
  refine z_val (v := .bool x12) (by subst hx12; exact val_un rfl rfl (bool_not _)) rfl rfl rfl (fun _ _ _ => trivial) ?_
  clear hx12
  refine z_val (v := .bool x12) (val_move rfl rfl) rfl rfl rfl (fun _ _ _ => trivial) ?_
  refine z_bind H 3 (fun (s : Bool) (_ : Unit) => [(3, U64 x8.1), (16, .bool s)]) (fun _ _ => Mm w [] h [.blk g_1 23 (cV U8 a0) 20]) (fun _ _ => True) (fun Gr K s he HJ => ?_) (fun s g HB _ => ?_)
  ·
    clear H
    cases x12
    ·
      have H := cond_f he
      clear he
      refine z_val (v := U64 x8.1) (val_move rfl rfl) rfl rfl (by rw [hops]; rfl) (fun _ _ _ => trivial) ?_
      obtain ⟨x15, hx15, H⟩ := Let_elim H
      refine z_val (v := .bool x15) (by subst hx15; exact val_bin rfl rfl rfl rfl (u64_gtr_r _ _ _)) rfl rfl (by rw [hops]; rfl) (fun _ _ _ => trivial) ?_
      clear hx15
      refine z_val (v := .bool x15) (val_pick rfl rfl rfl) rfl rfl rfl (fun _ _ _ => trivial) ?_
      obtain rfl := Option.some.inj H
      exact z_nil ((K _ () HJ trivial).weak (fun a ha => ha.cons rfl (ha.cons rfl (ha.nil))) (fun w hw => hw))
    ·
      have H := cond_t he
      clear he
      refine z_skip rfl rfl (by rw [hops]; rfl) (fun _ _ _ => trivial) ?_
      refine z_skip rfl rfl (by rw [hops]; rfl) (fun _ _ _ => trivial) ?_
      refine z_val (v := .bool true) (val_pick rfl rfl rfl) rfl rfl rfl (fun _ _ _ => trivial) ?_
      obtain rfl := Option.some.inj H
      exact z_nil ((K _ () HJ trivial).weak (fun a ha => ha.cons rfl (ha.cons rfl (ha.nil))) (fun w hw => hw))
  ·
    replace H := HB
    clear HB
    obtain ⟨x16, rfl⟩ : ∃ x, x = s := ⟨_, rfl⟩
    change T 19 _ _ _
    refine z_nil ?_
    cases x16
    ·
      replace H := cond_f H
      refine t_cond_false rfl ?_
      refine t_skip ?_
      refine t_seq ?_
      refine t_region (fun ops hops => ?_)
      clear hops
      refine z_val (v := U64 x8.1) (val_move rfl rfl) rfl rfl rfl (fun _ _ _ => trivial) ?_
      obtain ⟨x18, hx18, H⟩ := Let_elim H
      refine z_val (v := .int .i64 x18) (by subst hx18; exact val_conv rfl rfl (fun w => conv_u64_int w _ _ _ (by rw [Tryd.underlying24]; rfl) Tryd.underlying3)) rfl rfl rfl (fun _ _ _ => trivial) ?_
      clear hx18
      refine z_val (v := .int .i64 x18) (val_assign rfl rfl) rfl rfl rfl (fun _ _ _ => trivial) ?_
      refine z_nil ?_
      refine t_ret ?_
      obtain rfl := Option.some.inj H
      exact ret1 rfl (res_tmp rfl) (fun _ hw => ⟨rfl, hw.below⟩)
    ·
      replace H := cond_t H
      refine t_cond_true rfl ?_
      refine t_seq ?_
      refine t_region (fun ops hops => ?_)
      clear hops
      refine z_val (v := .int .i64 0) (val_assign rfl rfl) rfl rfl rfl (fun _ _ _ => trivial) ?_
      refine z_nil ?_
      refine t_ret ?_
      obtain rfl := Option.some.inj H
      exact ret1 rfl (res_tmp rfl) (fun _ hw => ⟨rfl, hw.below⟩)
def smithyref08_Precompile.b1 (a0 : Vec (BitVec 8) 20) (x3 : Int) : Option (Ctl ((Int)) (Int)) :=
  Let (decide (x3 < 19)) fun x5 => (bif x5 then Chk (0 ≤ x3 ∧ x3 < ((20 : Nat) : Int)) <| Let (a0.get x3.toNat) fun x10 => Let ((x10.toNat : Int) != 0) fun x11 => (bif x11 then some (.ret 0) else Let (wi (x3 + 1)) fun x7 => some (.next x7)) else some (.brk x3))
def smithyref08_Precompile (a0 : Vec (BitVec 8) 20) : Option (Int) :=
  (wlx (σ := (Int)) (fun s => smithyref08_Precompile.b1 a0 s) 0).bind (Sum.elim (fun x3 => Let (a0.get 19) fun x13 => Let (decide ((x13.toNat : Int) > 9)) fun x14 => (bif x14 then some 0 else Let (a0.get 19) fun x16 => Let ((x16.toNat : Int)) fun x17 => some x17)) (fun r => some r))
set_option maxRecDepth 100000 in
theorem smithyref08_Precompile.calls (a0 : Vec (BitVec 8) 20) (r : Int) (H : smithyref08_Precompile a0 = some r) (w : World)  :
    Made Tryd.prog 21 #[.agg (cV U8 a0).toArray] w (.int .i64 r) := by
  unfold smithyref08_Precompile at H
  have hM := Mm.start w (snap w) (snap_ok w)
  generalize snap w = h at *
  refine t_enter (vs := [.agg (cV U8 a0).toArray]) (n := 18) Tryd.func21 rfl rfl rfl hM ?_
  clear hM
  change T 18 _ _ _
  refine t_seq ?_
  refine t_region (fun ops hops => ?_)
  clear hops
  refine z_box (cs := cV U8 a0) (room := 20) rfl rfl rfl (cV_len _) rfl rfl rfl (fun _ _ _ _ => trivial) (fun g_1 => ?_)
  refine z_val (v := .int .i64 0) (val_assign rfl rfl) rfl rfl rfl (fun _ _ _ => trivial) ?_
  refine z_nil ?_
  refine t_seq ?_
  refine t_seq ?_
  refine t_region (fun ops hops => ?_)
  clear hops
  refine z_val (v := .int .i64 0) (val_assign rfl rfl) rfl rfl rfl (fun _ _ _ => trivial) ?_
  refine z_nil ?_
  refine t_block ?_
  obtain ⟨z1, hz1, HK1⟩ := Option.bind_eq_some_iff.1 H
  clear H
  refine t_while hz1 (fun (s : (Int)) (g : Unit) => [(1, .pointer (some ⟨g_1, 0, none⟩)), (3, .int .i64 s)]) (fun (s : (Int)) (g : Unit) => [(1, .pointer (some ⟨g_1, 0, none⟩))]) (fun (s : (Int)) (g : Unit) => Mm w [] h [.blk g_1 23 (cV U8 a0) 20]) (fun (s : (Int)) (g : Unit) => Mm w [] h [.blk g_1 23 (cV U8 a0) 20]) (fun (s : (Int)) (g : Unit) => True) (fun (s : (Int)) (g : Unit) => True) () trivial (fun a w ha hw => ⟨ha.cons rfl (ha.cons rfl (ha.nil)), hw⟩) (fun Gn Gb s g e hφ H hn1 hb1 hr1 => ?_) (fun s g hzz hφ => ?_)
  ·
    obtain ⟨x3, rfl⟩ : ∃ x, x = s := ⟨_, rfl⟩
    change smithyref08_Precompile.b1 a0 x3 = some e at H
    unfold smithyref08_Precompile.b1 at H
    clear hz1
    change T 18 _ _ _
    refine t_seq ?_
    refine t_seq ?_
    refine t_region (fun ops hops => ?_)
    clear hops
    refine z_val (v := .int .i64 x3) (val_move rfl rfl) rfl rfl rfl (fun _ _ _ => trivial) ?_
    obtain ⟨x5, hx5, H⟩ := Let_elim H
    refine z_val (v := .bool x5) (by subst hx5; exact val_bin rfl rfl rfl rfl (i64_lss _ _ _)) rfl rfl rfl (fun _ _ _ => trivial) ?_
    clear hx5
    refine z_nil ?_
    cases x5
    ·
      replace H := cond_f H
      refine t_cond_false rfl ?_
      refine t_exit rfl ?_
      obtain rfl := Option.some.inj H
      exact t_reach ((hb1 _ () rfl trivial).weak (fun a ha => ha.cons rfl (ha.nil)) (fun w hw => hw))
    ·
      replace H := cond_t H
      refine t_cond_true rfl ?_
      refine t_skip ?_
      refine t_seq ?_
      refine t_block ?_
      refine t_seq ?_
      refine t_region (fun ops hops => ?_)
      clear hops
      refine z_val (v := .int .i64 x3) (val_move rfl rfl) rfl rfl rfl (fun _ _ _ => trivial) ?_
      obtain ⟨hq_2, H⟩ := Chk_elim H
      refine z_val (v := .pointer (some ⟨g_1, x3.toNat, none⟩)) (val_idx0 rfl rfl rfl Tryd.underlying23 sz5 hq_2 rfl) rfl rfl rfl (fun _ _ _ => trivial) ?_
      obtain ⟨x10, hx10, H⟩ := Let_elim H
      refine z_val (v := U8 x10) (by subst hx10; exact val_load1 rfl rfl Tryd.underlying5 rfl (fun _ hw => hw.cell (j := 0) rfl (cV_at _ (idx_lt hq_2)))) rfl rfl rfl (fun _ _ _ => trivial) ?_
      clear hx10
      obtain ⟨x11, hx11, H⟩ := Let_elim H
      refine z_val (v := .bool x11) (by subst hx11; exact val_bin rfl rfl rfl rfl (u8_neq_r _ _ _)) rfl rfl rfl (fun _ _ _ => trivial) ?_
      clear hx11
      refine z_nil ?_
      cases x11
      ·
        replace H := cond_f H
        refine t_cond_false rfl ?_
        refine t_skip ?_
        refine t_fin ?_
        refine t_region (fun ops hops => ?_)
        clear hops
        refine z_val (v := .int .i64 x3) (val_move rfl rfl) rfl rfl rfl (fun _ _ _ => trivial) ?_
        obtain ⟨x7, hx7, H⟩ := Let_elim H
        refine z_val (v := .int .i64 x7) (by subst hx7; exact val_bin rfl rfl rfl rfl (i64_add _ _ _)) rfl rfl rfl (fun _ _ _ => trivial) ?_
        clear hx7
        refine z_val (v := .int .i64 x7) (val_assign rfl rfl) rfl rfl rfl (fun _ _ _ => trivial) ?_
        refine z_nil ?_
        obtain rfl := Option.some.inj H
        exact t_reach ((hn1 _ () rfl trivial).weak (fun a ha => ha.cons rfl (ha.cons rfl (ha.nil))) (fun w hw => hw))
      ·
        replace H := cond_t H
        refine t_cond_true rfl ?_
        refine t_seq ?_
        refine t_region (fun ops hops => ?_)
        clear hops
        refine z_val (v := .int .i64 0) (val_assign rfl rfl) rfl rfl rfl (fun _ _ _ => trivial) ?_
        refine z_nil ?_
        refine t_ret ?_
        obtain rfl := Option.some.inj H
        have hz := hr1 _ rfl
        subst hz
        obtain rfl := Option.some.inj HK1
        exact ret1 rfl (res_tmp rfl) (fun _ hw => ⟨rfl, hw.below⟩)
  ·
    obtain ⟨x3, rfl⟩ : ∃ x, x = s := ⟨_, rfl⟩
    subst hzz
    have H := HK1
    clear HK1 hz1
    replace H := sum_l H
    try dsimp only at H
    change T 18 _ _ _
    refine t_seq ?_
    refine t_seq ?_
    refine t_region (fun ops hops => ?_)
    clear hops
    refine z_val (v := .pointer (some ⟨g_1, 19, none⟩)) (val_idx0 rfl rfl rfl Tryd.underlying23 sz5 (by decide) rfl) rfl rfl rfl (fun _ _ _ => trivial) ?_
    obtain ⟨x13, hx13, H⟩ := Let_elim H
    refine z_val (v := U8 x13) (by subst hx13; exact val_load1 rfl rfl Tryd.underlying5 rfl (fun _ hw => hw.cell (j := 0) rfl (cV_at _ (by decide)))) rfl rfl rfl (fun _ _ _ => trivial) ?_
    clear hx13
    obtain ⟨x14, hx14, H⟩ := Let_elim H
    refine z_val (v := .bool x14) (by subst hx14; exact val_bin rfl rfl rfl rfl (u8_gtr_r _ _ _)) rfl rfl rfl (fun _ _ _ => trivial) ?_
    clear hx14
    refine z_nil ?_
    cases x14
    ·
      replace H := cond_f H
      refine t_cond_false rfl ?_
      refine t_skip ?_
      refine t_seq ?_
      refine t_region (fun ops hops => ?_)
      clear hops
      refine z_val (v := .pointer (some ⟨g_1, 19, none⟩)) (val_idx0 rfl rfl rfl Tryd.underlying23 sz5 (by decide) rfl) rfl rfl rfl (fun _ _ _ => trivial) ?_
      obtain ⟨x16, hx16, H⟩ := Let_elim H
      refine z_val (v := U8 x16) (by subst hx16; exact val_load1 rfl rfl Tryd.underlying5 rfl (fun _ hw => hw.cell (j := 0) rfl (cV_at _ (by decide)))) rfl rfl rfl (fun _ _ _ => trivial) ?_
      clear hx16
      obtain ⟨x17, hx17, H⟩ := Let_elim H
      refine z_val (v := .int .i64 x17) (by subst hx17; exact val_conv rfl rfl (fun w => conv_u8_int w _ _ _ (by rw [Tryd.underlying5]; rfl) Tryd.underlying3)) rfl rfl rfl (fun _ _ _ => trivial) ?_
      clear hx17
      refine z_val (v := .int .i64 x17) (val_assign rfl rfl) rfl rfl rfl (fun _ _ _ => trivial) ?_
      refine z_nil ?_
      refine t_ret ?_
      obtain rfl := Option.some.inj H
      exact ret1 rfl (res_tmp rfl) (fun _ hw => ⟨rfl, hw.below⟩)
    ·
      replace H := cond_t H
      refine t_cond_true rfl ?_
      refine t_seq ?_
      refine t_region (fun ops hops => ?_)
      clear hops
      refine z_val (v := .int .i64 0) (val_assign rfl rfl) rfl rfl rfl (fun _ _ _ => trivial) ?_
      refine z_nil ?_
      refine t_ret ?_
      obtain rfl := Option.some.inj H
      exact ret1 rfl (res_tmp rfl) (fun _ hw => ⟨rfl, hw.below⟩)
def smithylaw08_fixed (T1 : Vec (BitVec 64) 24) (T2 : Vec (Int) 24) (T3 : Vec (Int) 24) : Option (Bool) :=
  Let (Vec.rep 20 0#8) fun x2 => Let (Vec.rep 4 0#64) fun x3 => Let ([0#8]) fun x4 => (addr_Create2 T1 T2 T3 x2 x3 x4).bind fun x5 => Let (x5.get 0) fun x7 => Let ((x7.toNat : Int) == 77) fun x8 => (bif x8 then Let (x5.get 1) fun x11 => Let ((x11.toNat : Int) == 26) fun x12 => some x12 else some false).bind (fun x13 => (bif x13 then Let (x5.get 18) fun x16 => Let ((x16.toNat : Int) == 191) fun x17 => some x17 else some false).bind (fun x18 => (bif x18 then Let (x5.get 19) fun x21 => Let ((x21.toNat : Int) == 56) fun x22 => some x22 else some false).bind (fun x23 => some x23)))
set_option maxRecDepth 100000 in
theorem smithylaw08_fixed.calls (T1 : Vec (BitVec 64) 24) (T2 : Vec (Int) 24) (T3 : Vec (Int) 24) (r : Bool) (H : smithylaw08_fixed T1 T2 T3 = some r) (w : World) (hT1 : TabW w 1 U64 T1) (hT2 : TabW w 2 (Value.int .i64) T2) (hT3 : TabW w 3 (Value.int .i64) T3) :
    Made Tryd.prog 11 #[] w (.bool r) := by
  unfold smithylaw08_fixed at H
  replace hT1 := hT1.toH
  replace hT2 := hT2.toH
  replace hT3 := hT3.toH
  have hM := Mm.start w (snap w) (snap_ok w)
  generalize snap w = h at *
  refine t_enter (vs := []) (n := 24) Tryd.func11 rfl rfl rfl hM ?_
  clear hM
  change T 24 _ _ _
  refine t_seq ?_
  refine t_region (fun ops hops => ?_)
  clear hops
  refine z_val (v := .bool false) (val_assign rfl rfl) rfl rfl rfl (fun _ _ _ => trivial) ?_
  refine z_nil ?_
  refine t_seq ?_
  refine t_region (fun ops hops => ?_)
  clear hops
  obtain ⟨x2, hx2, H⟩ := Let_elim H
  refine z_val (v := .agg (cV U8 x2).toArray) (by subst hx2; exact val_build (vs := []) rfl rfl (fun w => by kernel_rfl)) rfl rfl rfl (fun _ _ _ => trivial) ?_
  clear hx2
  obtain ⟨x3, hx3, H⟩ := Let_elim H
  refine z_val (v := .agg (cV U64 x3).toArray) (by subst hx3; exact val_build (vs := []) rfl rfl (fun w => by kernel_rfl)) rfl rfl rfl (fun _ _ _ => trivial) ?_
  clear hx3
  obtain ⟨x4, hx4, H⟩ := Let_elim H
  have hlx4 : x4.length = 1 := by subst hx4; rfl
  refine z_buildSlice' (e := 5) (f := U8) (xs := x4) (vs := [(0, .int .u8 0)]) rfl rfl (by subst hx4; intro w; kernel_rfl) hlx4 (by decide) rfl rfl rfl (fun _ _ _ _ => trivial) (fun g_1 hs_3 => ?_)
  clear hx4 hlx4
  obtain ⟨x5, hx, H⟩ := Option.bind_eq_some_iff.1 H
  refine z_made (v := .agg (cV U8 x5).toArray) rfl Tryd.func12 nm12 bs12 rfl (fun w hw => addr_Create2.calls T1 T2 T3 x2 x3 x4 ((some ⟨g_1, 0, none⟩)) 1 x5 hx w (row_w hw (j := 0) rfl) hs_3.le (hT1.toW hw) (hT2.toW hw) (hT3.toW hw)) rfl rfl rfl (fun _ _ _ => trivial) ?_
  clear hx
  refine z_alloc (cs := cV U8 (Vec.rep 20 0#8)) (room := 20) rfl ze23 rfl (cV_len _) rfl rfl rfl (fun _ _ _ _ => trivial) (fun g_4 => ?_)
  refine z_storeA (j := 0) (cs' := cV U8 x5) (L' := [.blk g_4 23 (cV U8 x5) 20, .row (.slice (some ⟨g_1, 0, none⟩) x4.length 1) 5 1 (x4.map U8)]) rfl rfl rfl (cV_one (fun _ => rfl) _) sz23 rfl (cV_len _) rfl rfl rfl (fun _ _ _ => trivial) ?_
  refine z_nil ?_
  refine t_seq ?_
  refine t_region (fun ops hops => ?_)
  refine z_val (v := .pointer (some ⟨g_4, 0, none⟩)) (val_idx0 rfl rfl rfl Tryd.underlying23 sz5 (by decide) rfl) rfl rfl rfl (fun _ _ _ => trivial) ?_
  obtain ⟨x7, hx7, H⟩ := Let_elim H
  refine z_val (v := U8 x7) (by subst hx7; exact val_load1 rfl rfl Tryd.underlying5 rfl (fun _ hw => hw.cell (j := 0) rfl (cV_at _ (by decide)))) rfl rfl rfl (fun _ _ _ => trivial) ?_
  clear hx7
  obtain ⟨x8, hx8, H⟩ := Let_elim H
  refine z_val (v := .bool x8) (by subst hx8; exact val_bin rfl rfl rfl rfl (u8_eql_r _ _ _)) rfl rfl rfl (fun _ _ _ => trivial) ?_
  clear hx8
  refine z_val (v := .bool x8) (val_move rfl rfl) rfl rfl rfl (fun _ _ _ => trivial) ?_
  refine z_bind H 4 (fun (s : Bool) (_ : Unit) => [(1, .pointer (some ⟨g_4, 0, none⟩)), (13, .bool s)]) (fun _ _ => Mm w [] h [.blk g_4 23 (cV U8 x5) 20, .row (.slice (some ⟨g_1, 0, none⟩) x4.length 1) 5 1 (x4.map U8)]) (fun _ _ => True) (fun Gr K s he HJ => ?_) (fun s g HB _ => ?_)
  ·
    clear H
    cases x8
    ·
      have H := cond_f he
      clear he
      refine z_skip rfl rfl (by rw [hops]; rfl) (fun _ _ _ => trivial) ?_
      refine z_skip rfl rfl (by rw [hops]; rfl) (fun _ _ _ => trivial) ?_
      refine z_skip rfl rfl (by rw [hops]; rfl) (fun _ _ _ => trivial) ?_
      refine z_val (v := .bool false) (val_pick rfl rfl rfl) rfl rfl rfl (fun _ _ _ => trivial) ?_
      obtain rfl := Option.some.inj H
      exact z_nil ((K _ () HJ trivial).weak (fun a ha => ha.cons rfl (ha.cons rfl (ha.nil))) (fun w hw => hw))
    ·
      have H := cond_t he
      clear he
      refine z_val (v := .pointer (some ⟨g_4, 1, none⟩)) (val_idx0 rfl rfl rfl Tryd.underlying23 sz5 (by decide) rfl) rfl rfl (by rw [hops]; rfl) (fun _ _ _ => trivial) ?_
      obtain ⟨x11, hx11, H⟩ := Let_elim H
      refine z_val (v := U8 x11) (by subst hx11; exact val_load1 rfl rfl Tryd.underlying5 rfl (fun _ hw => hw.cell (j := 0) rfl (cV_at _ (by decide)))) rfl rfl (by rw [hops]; rfl) (fun _ _ _ => trivial) ?_
      clear hx11
      obtain ⟨x12, hx12, H⟩ := Let_elim H
      refine z_val (v := .bool x12) (by subst hx12; exact val_bin rfl rfl rfl rfl (u8_eql_r _ _ _)) rfl rfl (by rw [hops]; rfl) (fun _ _ _ => trivial) ?_
      clear hx12
      refine z_val (v := .bool x12) (val_pick rfl rfl rfl) rfl rfl rfl (fun _ _ _ => trivial) ?_
      obtain rfl := Option.some.inj H
      exact z_nil ((K _ () HJ trivial).weak (fun a ha => ha.cons rfl (ha.cons rfl (ha.nil))) (fun w hw => hw))
  ·
    replace H := HB
    clear HB
    obtain ⟨x13, rfl⟩ : ∃ x, x = s := ⟨_, rfl⟩
    change T 24 _ _ _
    refine z_val (v := .bool x13) (val_move rfl rfl) rfl rfl rfl (fun _ _ _ => trivial) ?_
    refine z_bind H 4 (fun (s : Bool) (_ : Unit) => [(1, .pointer (some ⟨g_4, 0, none⟩)), (18, .bool s)]) (fun _ _ => Mm w [] h [.blk g_4 23 (cV U8 x5) 20, .row (.slice (some ⟨g_1, 0, none⟩) x4.length 1) 5 1 (x4.map U8)]) (fun _ _ => True) (fun Gr K s he HJ => ?_) (fun s g HB _ => ?_)
    ·
      clear H
      cases x13
      ·
        have H := cond_f he
        clear he
        refine z_skip rfl rfl (by rw [hops]; rfl) (fun _ _ _ => trivial) ?_
        refine z_skip rfl rfl (by rw [hops]; rfl) (fun _ _ _ => trivial) ?_
        refine z_skip rfl rfl (by rw [hops]; rfl) (fun _ _ _ => trivial) ?_
        refine z_val (v := .bool false) (val_pick rfl rfl rfl) rfl rfl rfl (fun _ _ _ => trivial) ?_
        obtain rfl := Option.some.inj H
        exact z_nil ((K _ () HJ trivial).weak (fun a ha => ha.cons rfl (ha.cons rfl (ha.nil))) (fun w hw => hw))
      ·
        have H := cond_t he
        clear he
        refine z_val (v := .pointer (some ⟨g_4, 18, none⟩)) (val_idx0 rfl rfl rfl Tryd.underlying23 sz5 (by decide) rfl) rfl rfl (by rw [hops]; rfl) (fun _ _ _ => trivial) ?_
        obtain ⟨x16, hx16, H⟩ := Let_elim H
        refine z_val (v := U8 x16) (by subst hx16; exact val_load1 rfl rfl Tryd.underlying5 rfl (fun _ hw => hw.cell (j := 0) rfl (cV_at _ (by decide)))) rfl rfl (by rw [hops]; rfl) (fun _ _ _ => trivial) ?_
        clear hx16
        obtain ⟨x17, hx17, H⟩ := Let_elim H
        refine z_val (v := .bool x17) (by subst hx17; exact val_bin rfl rfl rfl rfl (u8_eql_r _ _ _)) rfl rfl (by rw [hops]; rfl) (fun _ _ _ => trivial) ?_
        clear hx17
        refine z_val (v := .bool x17) (val_pick rfl rfl rfl) rfl rfl rfl (fun _ _ _ => trivial) ?_
        obtain rfl := Option.some.inj H
        exact z_nil ((K _ () HJ trivial).weak (fun a ha => ha.cons rfl (ha.cons rfl (ha.nil))) (fun w hw => hw))
    ·
      replace H := HB
      clear HB
      obtain ⟨x18, rfl⟩ : ∃ x, x = s := ⟨_, rfl⟩
      change T 24 _ _ _
      refine z_val (v := .bool x18) (val_move rfl rfl) rfl rfl rfl (fun _ _ _ => trivial) ?_
      refine z_bind H 4 (fun (s : Bool) (_ : Unit) => [(23, .bool s)]) (fun _ _ => Mm w [] h [.blk g_4 23 (cV U8 x5) 20, .row (.slice (some ⟨g_1, 0, none⟩) x4.length 1) 5 1 (x4.map U8)]) (fun _ _ => True) (fun Gr K s he HJ => ?_) (fun s g HB _ => ?_)
      ·
        clear H
        cases x18
        ·
          have H := cond_f he
          clear he
          refine z_skip rfl rfl (by rw [hops]; rfl) (fun _ _ _ => trivial) ?_
          refine z_skip rfl rfl (by rw [hops]; rfl) (fun _ _ _ => trivial) ?_
          refine z_skip rfl rfl (by rw [hops]; rfl) (fun _ _ _ => trivial) ?_
          refine z_val (v := .bool false) (val_pick rfl rfl rfl) rfl rfl rfl (fun _ _ _ => trivial) ?_
          obtain rfl := Option.some.inj H
          exact z_nil ((K _ () HJ trivial).weak (fun a ha => ha.cons rfl (ha.nil)) (fun w hw => hw))
        ·
          have H := cond_t he
          clear he
          refine z_val (v := .pointer (some ⟨g_4, 19, none⟩)) (val_idx0 rfl rfl rfl Tryd.underlying23 sz5 (by decide) rfl) rfl rfl (by rw [hops]; rfl) (fun _ _ _ => trivial) ?_
          obtain ⟨x21, hx21, H⟩ := Let_elim H
          refine z_val (v := U8 x21) (by subst hx21; exact val_load1 rfl rfl Tryd.underlying5 rfl (fun _ hw => hw.cell (j := 0) rfl (cV_at _ (by decide)))) rfl rfl (by rw [hops]; rfl) (fun _ _ _ => trivial) ?_
          clear hx21
          obtain ⟨x22, hx22, H⟩ := Let_elim H
          refine z_val (v := .bool x22) (by subst hx22; exact val_bin rfl rfl rfl rfl (u8_eql_r _ _ _)) rfl rfl (by rw [hops]; rfl) (fun _ _ _ => trivial) ?_
          clear hx22
          refine z_val (v := .bool x22) (val_pick rfl rfl rfl) rfl rfl rfl (fun _ _ _ => trivial) ?_
          obtain rfl := Option.some.inj H
          exact z_nil ((K _ () HJ trivial).weak (fun a ha => ha.cons rfl (ha.nil)) (fun w hw => hw))
      ·
        replace H := HB
        clear HB
        obtain ⟨x23, rfl⟩ : ∃ x, x = s := ⟨_, rfl⟩
        change T 24 _ _ _
        refine z_val (v := .bool x23) (val_assign rfl rfl) rfl rfl rfl (fun _ _ _ => trivial) ?_
        refine z_nil ?_
        refine t_ret ?_
        obtain rfl := Option.some.inj H
        exact ret1 rfl (res_tmp rfl) (fun _ hw => ⟨rfl, hw.below⟩)
def smithylaw08_AddrWords (T1 : Vec (BitVec 64) 24) (T2 : Vec (Int) 24) (T3 : Vec (Int) 24) (a0 : Vec (BitVec 8) 20) (a1 : Vec (BitVec 64) 4) : Option (Bool) :=
  (smithylaw08_fixed T1 T2 T3).bind fun x5 => (bif x5 then (addr_Word a0).bind fun x8 => (smithyref08_Word a0).bind fun x10 => Let (x8.l == x10.l) fun x11 => some x11 else some false).bind (fun x12 => (bif x12 then (addr_Of a1).bind fun x15 => (smithyref08_Of a1).bind fun x17 => Let (x15.l == x17.l) fun x18 => some x18 else some false).bind (fun x19 => (bif x19 then (addr_Word a0).bind fun x22 => (addr_Of x22).bind fun x23 => Let (x23.l == a0.l) fun x25 => some x25 else some false).bind (fun x26 => some x26)))
set_option maxRecDepth 100000 in
theorem smithylaw08_AddrWords.calls (T1 : Vec (BitVec 64) 24) (T2 : Vec (Int) 24) (T3 : Vec (Int) 24) (a0 : Vec (BitVec 8) 20) (a1 : Vec (BitVec 64) 4) (r : Bool) (H : smithylaw08_AddrWords T1 T2 T3 a0 a1 = some r) (w : World) (hT1 : TabW w 1 U64 T1) (hT2 : TabW w 2 (Value.int .i64) T2) (hT3 : TabW w 3 (Value.int .i64) T3) :
    Made Tryd.prog 4 #[.agg (cV U8 a0).toArray, .agg (cV U64 a1).toArray] w (.bool r) := by
  unfold smithylaw08_AddrWords at H
  replace hT1 := hT1.toH
  replace hT2 := hT2.toH
  replace hT3 := hT3.toH
  have hM := Mm.start w (snap w) (snap_ok w)
  generalize snap w = h at *
  refine t_enter (vs := [.agg (cV U8 a0).toArray, .agg (cV U64 a1).toArray]) (n := 27) Tryd.func4 rfl rfl rfl hM ?_
  clear hM
  change T 27 _ _ _
  refine t_seq ?_
  refine t_region (fun ops hops => ?_)
  clear hops
  refine z_box (cs := cV U8 a0) (room := 20) rfl rfl rfl (cV_len _) rfl rfl rfl (fun _ _ _ _ => trivial) (fun g_1 => ?_)
  refine z_box (cs := cV U64 a1) (room := 4) rfl rfl rfl (cV_len _) rfl rfl rfl (fun _ _ _ _ => trivial) (fun g_2 => ?_)
  refine z_val (v := .bool false) (val_assign rfl rfl) rfl rfl rfl (fun _ _ _ => trivial) ?_
  refine z_nil ?_
  refine t_seq ?_
  refine t_plan (C := Mm w [] h [.blk g_2 26 (cV U64 a1) 4, .blk g_1 23 (cV U8 a0) 20]) [] [(0, false), (1, true), (2, true), (4, true), (3, false), (5, false), (6, true), (7, true), (8, true), (9, true), (11, true), (10, false), (12, false), (13, true), (14, true), (15, true), (16, true), (19, true), (17, false), (18, false), (20, true), (21, true), (22, true)] (by kernel_rfl) (by kernel_rfl) (fun _ hw => hw.drew) (fun ops hops => ?_)
  obtain ⟨x5, hx, H⟩ := Option.bind_eq_some_iff.1 H
  refine z_made (v := .bool x5) rfl Tryd.func11 nm11 bs11 rfl (fun w hw => smithylaw08_fixed.calls T1 T2 T3 x5 hx w (hT1.toW hw) (hT2.toW hw) (hT3.toW hw)) rfl rfl rfl (fun _ _ hw => hw) ?_
  clear hx
  refine z_still (v := .bool x5) (val_move rfl rfl) rfl rfl rfl (fun _ hw => hw) ?_
  refine z_bind H 6 (fun (s : Bool) (_ : Unit) => [(2, .pointer (some ⟨g_1, 0, none⟩)), (3, .pointer (some ⟨g_2, 0, none⟩)), (12, .bool s)]) (fun _ _ => Mm w [] h [.blk g_2 26 (cV U64 a1) 4, .blk g_1 23 (cV U8 a0) 20]) (fun _ _ => True) (fun Gr K s he HJ => ?_) (fun s g HB _ => ?_)
  ·
    clear H
    cases x5
    ·
      have H := cond_f he
      clear he
      refine z_skip_still rfl rfl (by rw [hops]; rfl) (fun _ hw => hw) ?_
      refine z_skip_still rfl rfl (by rw [hops]; rfl) (fun _ hw => hw) ?_
      refine z_skip rfl rfl (by rw [hops]; rfl) (fun _ _ hw => hw) ?_
      refine z_skip rfl rfl (by rw [hops]; rfl) (fun _ _ hw => hw) ?_
      refine z_skip_still rfl rfl (by rw [hops]; rfl) (fun _ hw => hw) ?_
      refine z_still (v := .bool false) (val_pick rfl rfl rfl) rfl rfl rfl (fun _ hw => hw) ?_
      obtain rfl := Option.some.inj H
      exact z_nil ((K _ () HJ trivial).weak (fun a ha => ha.cons rfl (ha.cons rfl (ha.cons rfl (ha.nil)))) (fun w hw => hw))
    ·
      have H := cond_t he
      clear he
      refine z_still (v := .agg (cV U8 a0).toArray) (val_loadR (off := 0) (cs := cV U8 a0) rfl rfl Tryd.underlying23 rfl (sz23.trans (congrArg some (cV_len _).symm)) (fun _ hw => hw.whole (j := 1) rfl)) rfl rfl (by rw [hops]; rfl) (fun _ hw => hw) ?_
      refine z_still (v := .agg (cV U8 a0).toArray) (val_loadR (off := 0) (cs := cV U8 a0) rfl rfl Tryd.underlying23 rfl (sz23.trans (congrArg some (cV_len _).symm)) (fun _ hw => hw.whole (j := 1) rfl)) rfl rfl (by rw [hops]; rfl) (fun _ hw => hw) ?_
      obtain ⟨x8, hx_3, H⟩ := Option.bind_eq_some_iff.1 H
      refine z_made (v := .agg (cV U64 x8).toArray) rfl Tryd.func14 nm14 bs14 rfl (fun w hw => addr_Word.calls a0 x8 hx_3 w) rfl rfl (by rw [hops]; rfl) (fun _ _ hw => hw) ?_
      clear hx_3
      obtain ⟨x10, hx_4, H⟩ := Option.bind_eq_some_iff.1 H
      refine z_made (v := .agg (cV U64 x10).toArray) rfl Tryd.func15 nm15 bs15 rfl (fun w hw => smithyref08_Word.calls a0 x10 hx_4 w) rfl rfl (by rw [hops]; rfl) (fun _ _ hw => hw) ?_
      clear hx_4
      obtain ⟨x11, hx11, H⟩ := Let_elim H
      refine z_still (v := .bool x11) (by subst hx11; exact val_bina rfl rfl rfl eg26 (fun w => vec_eql U64_inj (P := Tryd.prog) Tryd.underlying26 pk24 Tryd.underlying24 ce24 w _ _)) rfl rfl (by rw [hops]; rfl) (fun _ hw => hw) ?_
      clear hx11
      refine z_still (v := .bool x11) (val_pick rfl rfl rfl) rfl rfl rfl (fun _ hw => hw) ?_
      obtain rfl := Option.some.inj H
      exact z_nil ((K _ () HJ trivial).weak (fun a ha => ha.cons rfl (ha.cons rfl (ha.cons rfl (ha.nil)))) (fun w hw => hw))
  ·
    replace H := HB
    clear HB
    obtain ⟨x12, rfl⟩ : ∃ x, x = s := ⟨_, rfl⟩
    change T 27 _ _ _
    refine z_still (v := .bool x12) (val_move rfl rfl) rfl rfl rfl (fun _ hw => hw) ?_
    refine z_bind H 6 (fun (s : Bool) (_ : Unit) => [(2, .pointer (some ⟨g_1, 0, none⟩)), (19, .bool s)]) (fun _ _ => Mm w [] h [.blk g_2 26 (cV U64 a1) 4, .blk g_1 23 (cV U8 a0) 20]) (fun _ _ => True) (fun Gr K s he HJ => ?_) (fun s g HB _ => ?_)
    ·
      clear H
      cases x12
      ·
        have H := cond_f he
        clear he
        refine z_skip_still rfl rfl (by rw [hops]; rfl) (fun _ hw => hw) ?_
        refine z_skip_still rfl rfl (by rw [hops]; rfl) (fun _ hw => hw) ?_
        refine z_skip rfl rfl (by rw [hops]; rfl) (fun _ _ hw => hw) ?_
        refine z_skip rfl rfl (by rw [hops]; rfl) (fun _ _ hw => hw) ?_
        refine z_skip_still rfl rfl (by rw [hops]; rfl) (fun _ hw => hw) ?_
        refine z_still (v := .bool false) (val_pick rfl rfl rfl) rfl rfl rfl (fun _ hw => hw) ?_
        obtain rfl := Option.some.inj H
        exact z_nil ((K _ () HJ trivial).weak (fun a ha => ha.cons rfl (ha.cons rfl (ha.nil))) (fun w hw => hw))
      ·
        have H := cond_t he
        clear he
        refine z_still (v := .agg (cV U64 a1).toArray) (val_loadR (off := 0) (cs := cV U64 a1) rfl rfl Tryd.underlying26 rfl (sz26.trans (congrArg some (cV_len _).symm)) (fun _ hw => hw.whole (j := 0) rfl)) rfl rfl (by rw [hops]; rfl) (fun _ hw => hw) ?_
        refine z_still (v := .agg (cV U64 a1).toArray) (val_loadR (off := 0) (cs := cV U64 a1) rfl rfl Tryd.underlying26 rfl (sz26.trans (congrArg some (cV_len _).symm)) (fun _ hw => hw.whole (j := 0) rfl)) rfl rfl (by rw [hops]; rfl) (fun _ hw => hw) ?_
        obtain ⟨x15, hx_5, H⟩ := Option.bind_eq_some_iff.1 H
        refine z_made (v := .agg (cV U8 x15).toArray) rfl Tryd.func16 nm16 bs16 rfl (fun w hw => addr_Of.calls a1 x15 hx_5 w) rfl rfl (by rw [hops]; rfl) (fun _ _ hw => hw) ?_
        clear hx_5
        obtain ⟨x17, hx_6, H⟩ := Option.bind_eq_some_iff.1 H
        refine z_made (v := .agg (cV U8 x17).toArray) rfl Tryd.func17 nm17 bs17 rfl (fun w hw => smithyref08_Of.calls a1 x17 hx_6 w) rfl rfl (by rw [hops]; rfl) (fun _ _ hw => hw) ?_
        clear hx_6
        obtain ⟨x18, hx18, H⟩ := Let_elim H
        refine z_still (v := .bool x18) (by subst hx18; exact val_bina rfl rfl rfl eg23 (fun w => vec_eql U8_inj (P := Tryd.prog) Tryd.underlying23 pk5 Tryd.underlying5 ce5 w _ _)) rfl rfl (by rw [hops]; rfl) (fun _ hw => hw) ?_
        clear hx18
        refine z_still (v := .bool x18) (val_pick rfl rfl rfl) rfl rfl rfl (fun _ hw => hw) ?_
        obtain rfl := Option.some.inj H
        exact z_nil ((K _ () HJ trivial).weak (fun a ha => ha.cons rfl (ha.cons rfl (ha.nil))) (fun w hw => hw))
    ·
      replace H := HB
      clear HB
      obtain ⟨x19, rfl⟩ : ∃ x, x = s := ⟨_, rfl⟩
      change T 27 _ _ _
      refine z_still (v := .bool x19) (val_move rfl rfl) rfl rfl rfl (fun _ hw => hw) ?_
      refine z_bind H 6 (fun (s : Bool) (_ : Unit) => [(26, .bool s)]) (fun _ _ => Mm w [] h [.blk g_2 26 (cV U64 a1) 4, .blk g_1 23 (cV U8 a0) 20]) (fun _ _ => True) (fun Gr K s he HJ => ?_) (fun s g HB _ => ?_)
      ·
        clear H
        cases x19
        ·
          have H := cond_f he
          clear he
          refine z_skip_still rfl rfl (by rw [hops]; rfl) (fun _ hw => hw) ?_
          refine z_skip_still rfl rfl (by rw [hops]; rfl) (fun _ hw => hw) ?_
          refine z_skip rfl rfl (by rw [hops]; rfl) (fun _ _ hw => hw) ?_
          refine z_skip rfl rfl (by rw [hops]; rfl) (fun _ _ hw => hw) ?_
          refine z_skip_still rfl rfl (by rw [hops]; rfl) (fun _ hw => hw) ?_
          refine z_still (v := .bool false) (val_pick rfl rfl rfl) rfl rfl rfl (fun _ hw => hw) ?_
          obtain rfl := Option.some.inj H
          exact z_nil ((K _ () HJ trivial).weak (fun a ha => ha.cons rfl (ha.nil)) (fun w hw => hw))
        ·
          have H := cond_t he
          clear he
          refine z_still (v := .agg (cV U8 a0).toArray) (val_loadR (off := 0) (cs := cV U8 a0) rfl rfl Tryd.underlying23 rfl (sz23.trans (congrArg some (cV_len _).symm)) (fun _ hw => hw.whole (j := 1) rfl)) rfl rfl (by rw [hops]; rfl) (fun _ hw => hw) ?_
          refine z_still (v := .agg (cV U8 a0).toArray) (val_loadR (off := 0) (cs := cV U8 a0) rfl rfl Tryd.underlying23 rfl (sz23.trans (congrArg some (cV_len _).symm)) (fun _ hw => hw.whole (j := 1) rfl)) rfl rfl (by rw [hops]; rfl) (fun _ hw => hw) ?_
          obtain ⟨x22, hx_7, H⟩ := Option.bind_eq_some_iff.1 H
          refine z_made (v := .agg (cV U64 x22).toArray) rfl Tryd.func14 nm14 bs14 rfl (fun w hw => addr_Word.calls a0 x22 hx_7 w) rfl rfl (by rw [hops]; rfl) (fun _ _ hw => hw) ?_
          clear hx_7
          obtain ⟨x23, hx_8, H⟩ := Option.bind_eq_some_iff.1 H
          refine z_made (v := .agg (cV U8 x23).toArray) rfl Tryd.func16 nm16 bs16 rfl (fun w hw => addr_Of.calls x22 x23 hx_8 w) rfl rfl (by rw [hops]; rfl) (fun _ _ hw => hw) ?_
          clear hx_8
          obtain ⟨x25, hx25, H⟩ := Let_elim H
          refine z_still (v := .bool x25) (by subst hx25; exact val_bina rfl rfl rfl eg23 (fun w => vec_eql U8_inj (P := Tryd.prog) Tryd.underlying23 pk5 Tryd.underlying5 ce5 w _ _)) rfl rfl (by rw [hops]; rfl) (fun _ hw => hw) ?_
          clear hx25
          refine z_still (v := .bool x25) (val_pick rfl rfl rfl) rfl rfl rfl (fun _ hw => hw) ?_
          obtain rfl := Option.some.inj H
          exact z_nil ((K _ () HJ trivial).weak (fun a ha => ha.cons rfl (ha.nil)) (fun w hw => hw))
      ·
        replace H := HB
        clear HB
        obtain ⟨x26, rfl⟩ : ∃ x, x = s := ⟨_, rfl⟩
        change T 27 _ _ _
        refine z_still (v := .bool x26) (val_assign rfl rfl) rfl rfl rfl (fun _ hw => hw) ?_
        refine z_nil ?_
        refine t_ret ?_
        obtain rfl := Option.some.inj H
        exact ret1 rfl (res_tmp rfl) (fun _ hw => ⟨rfl, hw.below⟩)
def smithylaw08_AddrSalts (T1 : Vec (BitVec 64) 24) (T2 : Vec (Int) 24) (T3 : Vec (Int) 24) (a0 : Vec (BitVec 8) 20) (a1 : Vec (BitVec 64) 4) (a2 : List (BitVec 8)) : Option (Bool) :=
  Let ((a2.length : Int)) fun x9 => Let (decide (3000 < x9)) fun x10 => (bif x10 then (smithylaw08_fixed T1 T2 T3).bind fun x11 => some x11 else Let (([] : List (BitVec 8))) fun x12 => Chk ((x12.length + a2.length) * 1 ≤ 140737488355328) <| Let (x12 ++ a2) fun x14 => (smithylaw08_fixed T1 T2 T3).bind fun x15 => (bif x15 then (addr_Create2 T1 T2 T3 a0 a1 x14).bind fun x20 => (smithyref08_Create2 a0 a1 a2).bind fun x24 => Let (x20.l == x24.l) fun x25 => some x25 else some false).bind (fun x26 => (bif x26 then Let (strOf x14) fun x29 => Let (strOf a2) fun x31 => Let (x29.toList == x31.toList) fun x32 => some x32 else some false).bind (fun x33 => some x33)))
set_option maxRecDepth 100000 in
theorem smithylaw08_AddrSalts.calls (T1 : Vec (BitVec 64) 24) (T2 : Vec (Int) 24) (T3 : Vec (Int) 24) (a0 : Vec (BitVec 8) 20) (a1 : Vec (BitVec 64) 4) (a2 : List (BitVec 8)) (A2 : Option Addr) (c2 : Nat) (r : Bool) (H : smithylaw08_AddrSalts T1 T2 T3 a0 a1 a2 = some r) (w : World) (hs2 : SlW w U8 A2 a2) (hc2 : a2.length ≤ c2) (hT1 : TabW w 1 U64 T1) (hT2 : TabW w 2 (Value.int .i64) T2) (hT3 : TabW w 3 (Value.int .i64) T3) :
    Made Tryd.prog 3 #[.agg (cV U8 a0).toArray, .agg (cV U64 a1).toArray, .slice A2 a2.length c2] w (.bool r) := by
  unfold smithylaw08_AddrSalts at H
  replace hs2 := hs2.toH
  replace hT1 := hT1.toH
  replace hT2 := hT2.toH
  replace hT3 := hT3.toH
  have hM := Mm.start w (snap w) (snap_ok w)
  generalize snap w = h at *
  refine t_enter (vs := [.agg (cV U8 a0).toArray, .agg (cV U64 a1).toArray, .slice A2 a2.length c2]) (n := 34) Tryd.func3 rfl rfl rfl hM ?_
  clear hM
  change T 34 _ _ _
  refine t_seq ?_
  refine t_region (fun ops hops => ?_)
  clear hops
  refine z_box (cs := cV U8 a0) (room := 20) rfl rfl rfl (cV_len _) rfl rfl rfl (fun _ _ _ _ => trivial) (fun g_1 => ?_)
  refine z_box (cs := cV U64 a1) (room := 4) rfl rfl rfl (cV_len _) rfl rfl rfl (fun _ _ _ _ => trivial) (fun g_2 => ?_)
  refine z_val (v := .bool false) (val_assign rfl rfl) rfl rfl rfl (fun _ _ _ => trivial) ?_
  refine z_nil ?_
  refine t_seq ?_
  refine t_seq ?_
  refine t_region (fun ops hops => ?_)
  clear hops
  refine z_val (v := .slice A2 a2.length c2) (val_move rfl rfl) rfl rfl rfl (fun _ _ _ => trivial) ?_
  obtain ⟨x9, hx9, H⟩ := Let_elim H
  refine z_val (v := .int .i64 x9) (by subst hx9; exact val_len rfl rfl rfl Tryd.underlying27) rfl rfl rfl (fun _ _ _ => trivial) ?_
  clear hx9
  obtain ⟨x10, hx10, H⟩ := Let_elim H
  refine z_val (v := .bool x10) (by subst hx10; exact val_bin rfl rfl rfl rfl (i64_gtr _ _ _)) rfl rfl rfl (fun _ _ _ => trivial) ?_
  clear hx10
  refine z_nil ?_
  cases x10
  ·
    replace H := cond_f H
    refine t_cond_false rfl ?_
    refine t_skip ?_
    refine t_seq ?_
    refine t_region (fun ops hops => ?_)
    clear hops
    obtain ⟨x12, hx12, H⟩ := Let_elim H
    have hlx12 : x12.length = 0 := by subst hx12; rfl
    refine z_buildSlice' (e := 5) (f := U8) (xs := x12) (vs := []) rfl rfl (by subst hx12; intro w; kernel_rfl) hlx12 (by decide) rfl rfl rfl (fun _ _ _ _ => trivial) (fun g_3 hs_5 => ?_)
    clear hx12 hlx12
    refine z_val (v := .slice A2 a2.length c2) (val_move rfl rfl) rfl rfl rfl (fun _ _ _ => trivial) ?_
    obtain ⟨hq_6, H⟩ := Chk_elim H
    obtain ⟨x14, hx14, H⟩ := Let_elim H
    refine z_append (f := U8) (j := 0) (xs := x12) (ys := a2) (zs := x14) rfl rfl Tryd.underlying27 in5 rfl rfl rfl rfl (fun w hw => (hs2.toW hw)) (fun _ => rfl) hq_6 (by decide) hx14 (fun A_7 c_8 => [.row (.slice A_7 x14.length c_8) 5 1 (x14.map U8), .blk g_2 26 (cV U64 a1) 4, .blk g_1 23 (cV U8 a0) 20]) (fun _ _ => rfl) rfl rfl rfl (fun _ _ _ _ _ => trivial) (fun A_7 c_8 hs_9 => ?_)
    clear hx14
    refine z_val (v := .slice A_7 x14.length c_8) (val_assign rfl rfl) rfl rfl rfl (fun _ _ _ => trivial) ?_
    refine z_nil ?_
    refine t_seq ?_
    refine t_plan (C := Mm w [] h [.row (.slice A_7 x14.length c_8) 5 1 (x14.map U8), .blk g_2 26 (cV U64 a1) 4, .blk g_1 23 (cV U8 a0) 20]) [] [(0, false), (1, true), (2, true), (3, true), (4, true), (6, true), (7, true), (8, true), (5, false), (9, false), (10, true), (11, true), (12, true), (13, true), (14, true), (15, true), (16, true), (17, true), (18, true), (19, true)] (by kernel_rfl) (by kernel_rfl) (fun _ hw => hw.drew) (fun ops hops => ?_)
    obtain ⟨x15, hx, H⟩ := Option.bind_eq_some_iff.1 H
    refine z_made (v := .bool x15) rfl Tryd.func11 nm11 bs11 rfl (fun w hw => smithylaw08_fixed.calls T1 T2 T3 x15 hx w (hT1.toW hw) (hT2.toW hw) (hT3.toW hw)) rfl rfl rfl (fun _ _ hw => hw) ?_
    clear hx
    refine z_still (v := .bool x15) (val_move rfl rfl) rfl rfl rfl (fun _ hw => hw) ?_
    refine z_bind H 10 (fun (s : Bool) (_ : Unit) => [(2, .slice A2 a2.length c2), (7, .slice A_7 x14.length c_8), (26, .bool s)]) (fun _ _ => Mm w [] h [.row (.slice A_7 x14.length c_8) 5 1 (x14.map U8), .blk g_2 26 (cV U64 a1) 4, .blk g_1 23 (cV U8 a0) 20]) (fun _ _ => True) (fun Gr K s he HJ => ?_) (fun s g HB _ => ?_)
    ·
      clear H
      cases x15
      ·
        have H := cond_f he
        clear he
        refine z_skip_still rfl rfl (by rw [hops]; rfl) (fun _ hw => hw) ?_
        refine z_skip_still rfl rfl (by rw [hops]; rfl) (fun _ hw => hw) ?_
        refine z_skip_still rfl rfl (by rw [hops]; rfl) (fun _ hw => hw) ?_
        refine z_skip_still rfl rfl (by rw [hops]; rfl) (fun _ hw => hw) ?_
        refine z_skip_still rfl rfl (by rw [hops]; rfl) (fun _ hw => hw) ?_
        refine z_skip_still rfl rfl (by rw [hops]; rfl) (fun _ hw => hw) ?_
        refine z_skip rfl rfl (by rw [hops]; rfl) (fun _ _ hw => hw) ?_
        refine z_skip rfl rfl (by rw [hops]; rfl) (fun _ _ hw => hw) ?_
        refine z_skip_still rfl rfl (by rw [hops]; rfl) (fun _ hw => hw) ?_
        refine z_still (v := .bool false) (val_pick rfl rfl rfl) rfl rfl rfl (fun _ hw => hw) ?_
        obtain rfl := Option.some.inj H
        exact z_nil ((K _ () HJ trivial).weak (fun a ha => ha.cons rfl (ha.cons rfl (ha.cons rfl (ha.nil)))) (fun w hw => hw))
      ·
        have H := cond_t he
        clear he
        refine z_still (v := .agg (cV U8 a0).toArray) (val_loadR (off := 0) (cs := cV U8 a0) rfl rfl Tryd.underlying23 rfl (sz23.trans (congrArg some (cV_len _).symm)) (fun _ hw => hw.whole (j := 2) rfl)) rfl rfl (by rw [hops]; rfl) (fun _ hw => hw) ?_
        refine z_still (v := .agg (cV U64 a1).toArray) (val_loadR (off := 0) (cs := cV U64 a1) rfl rfl Tryd.underlying26 rfl (sz26.trans (congrArg some (cV_len _).symm)) (fun _ hw => hw.whole (j := 1) rfl)) rfl rfl (by rw [hops]; rfl) (fun _ hw => hw) ?_
        refine z_still (v := .slice A_7 x14.length c_8) (val_move rfl rfl) rfl rfl (by rw [hops]; rfl) (fun _ hw => hw) ?_
        refine z_still (v := .agg (cV U8 a0).toArray) (val_loadR (off := 0) (cs := cV U8 a0) rfl rfl Tryd.underlying23 rfl (sz23.trans (congrArg some (cV_len _).symm)) (fun _ hw => hw.whole (j := 2) rfl)) rfl rfl (by rw [hops]; rfl) (fun _ hw => hw) ?_
        refine z_still (v := .agg (cV U64 a1).toArray) (val_loadR (off := 0) (cs := cV U64 a1) rfl rfl Tryd.underlying26 rfl (sz26.trans (congrArg some (cV_len _).symm)) (fun _ hw => hw.whole (j := 1) rfl)) rfl rfl (by rw [hops]; rfl) (fun _ hw => hw) ?_
        refine z_still (v := .slice A2 a2.length c2) (val_move rfl rfl) rfl rfl (by rw [hops]; rfl) (fun _ hw => hw) ?_
        obtain ⟨x20, hx_10, H⟩ := Option.bind_eq_some_iff.1 H
        refine z_made (v := .agg (cV U8 x20).toArray) rfl Tryd.func12 nm12 bs12 rfl (fun w hw => addr_Create2.calls T1 T2 T3 a0 a1 x14 A_7 c_8 x20 hx_10 w (row_w hw (j := 0) rfl) hs_9.le (hT1.toW hw) (hT2.toW hw) (hT3.toW hw)) rfl rfl (by rw [hops]; rfl) (fun _ _ hw => hw) ?_
        clear hx_10
        obtain ⟨x24, hx_11, H⟩ := Option.bind_eq_some_iff.1 H
        refine z_made (v := .agg (cV U8 x24).toArray) rfl Tryd.func13 nm13 bs13 rfl (fun w hw => smithyref08_Create2.calls a0 a1 a2 A2 c2 x24 hx_11 w (hs2.toW hw) hc2) rfl rfl (by rw [hops]; rfl) (fun _ _ hw => hw) ?_
        clear hx_11
        obtain ⟨x25, hx25, H⟩ := Let_elim H
        refine z_still (v := .bool x25) (by subst hx25; exact val_bina rfl rfl rfl eg23 (fun w => vec_eql U8_inj (P := Tryd.prog) Tryd.underlying23 pk5 Tryd.underlying5 ce5 w _ _)) rfl rfl (by rw [hops]; rfl) (fun _ hw => hw) ?_
        clear hx25
        refine z_still (v := .bool x25) (val_pick rfl rfl rfl) rfl rfl rfl (fun _ hw => hw) ?_
        obtain rfl := Option.some.inj H
        exact z_nil ((K _ () HJ trivial).weak (fun a ha => ha.cons rfl (ha.cons rfl (ha.cons rfl (ha.nil)))) (fun w hw => hw))
    ·
      replace H := HB
      clear HB
      obtain ⟨x26, rfl⟩ : ∃ x, x = s := ⟨_, rfl⟩
      change T 34 _ _ _
      refine z_still (v := .bool x26) (val_move rfl rfl) rfl rfl rfl (fun _ hw => hw) ?_
      refine z_bind H 6 (fun (s : Bool) (_ : Unit) => [(33, .bool s)]) (fun _ _ => Mm w [] h [.row (.slice A_7 x14.length c_8) 5 1 (x14.map U8), .blk g_2 26 (cV U64 a1) 4, .blk g_1 23 (cV U8 a0) 20]) (fun _ _ => True) (fun Gr K s he HJ => ?_) (fun s g HB _ => ?_)
      ·
        clear H
        cases x26
        ·
          have H := cond_f he
          clear he
          refine z_skip_still rfl rfl (by rw [hops]; rfl) (fun _ hw => hw) ?_
          refine z_skip_still rfl rfl (by rw [hops]; rfl) (fun _ hw => hw) ?_
          refine z_skip_still rfl rfl (by rw [hops]; rfl) (fun _ hw => hw) ?_
          refine z_skip_still rfl rfl (by rw [hops]; rfl) (fun _ hw => hw) ?_
          refine z_skip_still rfl rfl (by rw [hops]; rfl) (fun _ hw => hw) ?_
          refine z_still (v := .bool false) (val_pick rfl rfl rfl) rfl rfl rfl (fun _ hw => hw) ?_
          obtain rfl := Option.some.inj H
          exact z_nil ((K _ () HJ trivial).weak (fun a ha => ha.cons rfl (ha.nil)) (fun w hw => hw))
        ·
          have H := cond_t he
          clear he
          refine z_still (v := .slice A_7 x14.length c_8) (val_move rfl rfl) rfl rfl (by rw [hops]; rfl) (fun _ hw => hw) ?_
          obtain ⟨x29, hx29, H⟩ := Let_elim H
          refine z_still (v := .string x29) (by subst hx29; exact val_convS rfl rfl Tryd.underlying27 Tryd.underlying5 Tryd.underlying9 (fun w hw => (row_w hw (j := 0) rfl))) rfl rfl (by rw [hops]; rfl) (fun _ hw => hw) ?_
          clear hx29
          refine z_still (v := .slice A2 a2.length c2) (val_move rfl rfl) rfl rfl (by rw [hops]; rfl) (fun _ hw => hw) ?_
          obtain ⟨x31, hx31, H⟩ := Let_elim H
          refine z_still (v := .string x31) (by subst hx31; exact val_convS rfl rfl Tryd.underlying27 Tryd.underlying5 Tryd.underlying9 (fun w hw => (hs2.toW hw))) rfl rfl (by rw [hops]; rfl) (fun _ hw => hw) ?_
          clear hx31
          obtain ⟨x32, hx32, H⟩ := Let_elim H
          refine z_still (v := .bool x32) (by subst hx32; exact val_bin rfl rfl rfl rfl (str_eql _ _ _)) rfl rfl (by rw [hops]; rfl) (fun _ hw => hw) ?_
          clear hx32
          refine z_still (v := .bool x32) (val_pick rfl rfl rfl) rfl rfl rfl (fun _ hw => hw) ?_
          obtain rfl := Option.some.inj H
          exact z_nil ((K _ () HJ trivial).weak (fun a ha => ha.cons rfl (ha.nil)) (fun w hw => hw))
      ·
        replace H := HB
        clear HB
        obtain ⟨x33, rfl⟩ : ∃ x, x = s := ⟨_, rfl⟩
        change T 34 _ _ _
        refine z_still (v := .bool x33) (val_assign rfl rfl) rfl rfl rfl (fun _ hw => hw) ?_
        refine z_nil ?_
        refine t_ret ?_
        obtain rfl := Option.some.inj H
        exact ret1 rfl (res_tmp rfl) (fun _ hw => ⟨rfl, hw.below⟩)
  ·
    replace H := cond_t H
    refine t_cond_true rfl ?_
    refine t_seq ?_
    refine t_region (fun ops hops => ?_)
    clear hops
    obtain ⟨x11, hx_12, H⟩ := Option.bind_eq_some_iff.1 H
    refine z_made (v := .bool x11) rfl Tryd.func11 nm11 bs11 rfl (fun w hw => smithylaw08_fixed.calls T1 T2 T3 x11 hx_12 w (hT1.toW hw) (hT2.toW hw) (hT3.toW hw)) rfl rfl rfl (fun _ _ _ => trivial) ?_
    clear hx_12
    refine z_val (v := .bool x11) (val_assign rfl rfl) rfl rfl rfl (fun _ _ _ => trivial) ?_
    refine z_nil ?_
    refine t_ret ?_
    obtain rfl := Option.some.inj H
    exact ret1 rfl (res_tmp rfl) (fun _ hw => ⟨rfl, hw.below⟩)
end Go.Proofs.YtapfkdcilfpbhaaDoor
