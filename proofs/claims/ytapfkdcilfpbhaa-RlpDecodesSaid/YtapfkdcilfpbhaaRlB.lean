/- Functions of the program as plain functions, and their walks, printed by walk.py. -/
import Derived.Test.YtapfkdcilfpbhaaRlF
import Derived.Test.YtapfkdcilfpbhaaRlA
namespace Go.Proofs.Ytapfkdcilfpbhaa
open Go.RowKit
set_option linter.unusedVariables false
set_option linter.unusedSimpArgs false
def rlp_writer_fail (a0 : (List ((Bool) × (List (BitVec 8)) × (Int))) × (Int)) (a1 : Int) : Option ((List (BitVec 8)) × ((List ((Bool) × (List (BitVec 8)) × (Int))) × (Int))) :=
  Let (a0.2 == 0) fun x9 => (bif x9 then some (a0.1, a1) else some (a0.1, a0.2)).bind (fun (y0 : (List ((Bool) × (List (BitVec 8)) × (Int))) × (Int)) => some (([] : List (BitVec 8)), (y0.1, y0.2)))
set_option maxRecDepth 100000 in
theorem rlp_writer_fail.calls  (a0 : (List ((Bool) × (List (BitVec 8)) × (Int))) × (Int)) (a1 : Int) (g0 : Nat) (A0 : Option Addr) (c0 : Nat) (r : (List (BitVec 8)) × ((List ((Bool) × (List (BitVec 8)) × (Int))) × (Int))) (H : rlp_writer_fail a0 a1 = some r) {w0 : World} {Ex : List Nat} {h : Frag} {Lr : List Ent} {w : World} (hs0 : SlR h R60 A0 a0.1) (hc0 : a0.1.length ≤ c0)  (hM : Mm w0 Ex h ((.blk g0 98 ([(.slice A0 a0.1.length c0 : Value)] ++ ([(.int .i64 a0.2 : Value)])) 2) :: Lr) w) :
    Calls Try.prog 75 #[.pointer (some ⟨g0, 0, none⟩), .int .i64 a1] w fun e w' => ∃ (g : (Frag) × (Option Addr) × (Nat) × (Option Addr) × (Nat)), e = .returned (.slice g.2.1 r.1.length g.2.2.1) ∧ (Sub h g.1 ∧ Shp g.2.1 r.1.length g.2.2.1 ∧ SlR g.1 R60 g.2.2.2.1 r.2.1 ∧ r.2.1.length ≤ g.2.2.2.2) ∧ Mm w0 Ex g.1 ((.row (.slice g.2.1 r.1.length g.2.2.1) 5 1 (r.1.map U8)) :: (.blk g0 98 ([(.slice g.2.2.2.1 r.2.1.length g.2.2.2.2 : Value)] ++ ([(.int .i64 r.2.2 : Value)])) 2) :: Lr) w' := by
  unfold rlp_writer_fail at H
  refine t_enter (vs := [.pointer (some ⟨g0, 0, none⟩), .int .i64 a1]) (n := 14) Try.func75 rfl rfl rfl hM ?_
  clear hM
  change T 14 _ _ _
  refine t_seq ?_
  refine t_region (fun ops hops => ?_)
  clear hops
  refine z_val (v := .slice none 0 0) (val_assign rfl rfl) rfl rfl rfl (fun _ _ _ => trivial) ?_
  refine z_nil ?_
  refine t_seq ?_
  refine t_seq ?_
  refine t_region (fun ops hops => ?_)
  clear hops
  refine z_val (v := .pointer (some ⟨g0, 0, none⟩)) (val_move rfl rfl) rfl rfl rfl (fun _ _ _ => trivial) ?_
  refine z_val (v := .pointer (some ⟨g0, 0, none⟩)) (val_nilCheck rfl rfl) rfl rfl rfl (fun _ _ _ => trivial) ?_
  refine z_val (v := .pointer (some ⟨g0, 1, none⟩)) (val_fld0 (sz := 1) rfl rfl Try.underlying98 rfl rfl sz48 (by decide)) rfl rfl rfl (fun _ _ _ => trivial) ?_
  refine z_val (v := .int .i64 a0.2) (val_load1 rfl rfl Try.underlying48 rfl (fun _ hw => hw.cell (j := 0) (q := 1) rfl (cells_skip (n := 1) (k := 0) rfl rfl))) rfl rfl rfl (fun _ _ _ => trivial) ?_
  obtain ⟨x9, hx9, H⟩ := Let_elim H
  refine z_val (v := .bool x9) (by subst hx9; exact val_bin rfl rfl rfl rfl (i64_eql _ _ _)) rfl rfl rfl (fun _ _ _ => trivial) ?_
  clear hx9
  refine z_nil ?_
  refine t_bind H (fun (s : ((List ((Bool) × (List (BitVec 8)) × (Int))) × (Int))) (g : (Option Addr) × (Nat)) => []) (fun (s : ((List ((Bool) × (List (BitVec 8)) × (Int))) × (Int))) (g : (Option Addr) × (Nat)) => Mm w0 Ex h ((.blk g0 98 ([(.slice g.1 s.1.length g.2 : Value)] ++ ([(.int .i64 s.2 : Value)])) 2) :: Lr)) (fun (s : ((List ((Bool) × (List (BitVec 8)) × (Int))) × (Int))) (g : (Option Addr) × (Nat)) => SlR h R60 g.1 s.1 ∧ s.1.length ≤ g.2) (fun Gr K s he HJ => ?_) (fun s g HB hφ => ?_)
  ·
    clear H
    cases x9
    ·
      have H := cond_f he
      clear he
      refine t_cond_false rfl ?_
      refine t_skip ?_
      obtain rfl := Option.some.inj H
      exact t_reach ((K _ ⟨A0, c0⟩ HJ ⟨hs0, hc0⟩).weak (fun a ha => ha.nil) (fun w hw => hw))
    ·
      have H := cond_t he
      clear he
      refine t_cond_true rfl ?_
      refine t_region (fun ops hops => ?_)
      clear hops
      refine z_val (v := .pointer (some ⟨g0, 0, none⟩)) (val_move rfl rfl) rfl rfl rfl (fun _ _ _ => trivial) ?_
      refine z_val (v := .int .i64 a1) (val_move rfl rfl) rfl rfl rfl (fun _ _ _ => trivial) ?_
      refine z_val (v := .pointer (some ⟨g0, 0, none⟩)) (val_nilCheck rfl rfl) rfl rfl rfl (fun _ _ _ => trivial) ?_
      refine z_val (v := .pointer (some ⟨g0, 1, none⟩)) (val_fld0 (sz := 1) rfl rfl Try.underlying98 rfl rfl sz48 (by decide)) rfl rfl rfl (fun _ _ _ => trivial) ?_
      refine z_store1 (j := 0) (cs' := [(.slice A0 a0.1.length c0 : Value)] ++ ([(.int .i64 a1 : Value)])) (L' := (.blk g0 98 ([(.slice A0 a0.1.length c0 : Value)] ++ ([(.int .i64 a1 : Value)])) 2) :: Lr) rfl rfl rfl rfl rfl sz48 rfl (by simp [cV_len]) (set_skip (n := 1) (k := 0) rfl rfl) rfl rfl rfl (fun _ _ _ => trivial) ?_
      refine z_nil ?_
      obtain rfl := Option.some.inj H
      exact t_reach ((K _ ⟨A0, c0⟩ HJ ⟨hs0, hc0⟩).weak (fun a ha => ha.nil) (fun w hw => hw))
  ·
    replace H := HB
    clear HB
    obtain ⟨y0, rfl⟩ : ∃ x, x = s := ⟨_, rfl⟩
    obtain ⟨A_1, c_2⟩ := g
    try dsimp only at hφ
    obtain ⟨hs_3, hc_4⟩ := hφ
    try dsimp only at H
    change T 14 _ _ _
    refine t_seq ?_
    refine t_region (fun ops hops => ?_)
    clear hops
    refine z_val (v := .slice none 0 0) (val_assign rfl rfl) rfl rfl rfl (fun _ _ _ => trivial) ?_
    refine z_nil ?_
    refine t_ret ?_
    refine t_nil (e := 5) (sz := 1) ?_
    obtain rfl := Option.some.inj H
    exact ret1 rfl (res_tmp rfl) (fun _ hw => ⟨⟨h, none, 0, A_1, c_2⟩, rfl, ⟨(Sub.refl _), Shp.none_, hs_3, hc_4⟩, hw⟩)
def rlp_writer_itemB.b1 (x114 : Int) (a1 : Int) (F_rlp_writer_item : ((List ((Bool) × (List (BitVec 8)) × (Int))) × (Int)) → (Int) → Option ((List (BitVec 8)) × ((List ((Bool) × (List (BitVec 8)) × (Int))) × (Int)))) (y0 : (List ((Bool) × (List (BitVec 8)) × (Int))) × (Int)) (x7 : List (BitVec 8)) : Option (Ctl (((List ((Bool) × (List (BitVec 8)) × (Int))) × (Int)) × (List (BitVec 8))) ((List (BitVec 8)) × ((List ((Bool) × (List (BitVec 8)) × (Int))) × (Int)))) :=
  Let ((y0.1.length : Int)) fun x119 => Let (decide (x114 < x119)) fun x121 => (bif x121 then Let (y0.2 == 0) fun x127 => some x127 else some false).bind (fun x128 => (bif x128 then Let (wi (a1 + 1)) fun x132 => (F_rlp_writer_item (y0.1, y0.2) x132).bind fun x133 => Chk ((x7.length + x133.1.length) * 1 ≤ 140737488355328) <| Let (x7 ++ x133.1) fun x134 => Let ((x134.length : Int)) fun x136 => Let (decide (1048576 < x136)) fun x137 => (bif x137 then (rlp_writer_fail (x133.2.1, x133.2.2) 4).bind fun x139 => some (.ret (x139.1, (x139.2.1, x139.2.2))) else some (.next ((x133.2.1, x133.2.2), x134))) else some (.brk ((y0.1, y0.2), x7))))
def rlp_writer_itemB (F_rlp_writer_item : ((List ((Bool) × (List (BitVec 8)) × (Int))) × (Int)) → (Int) → Option ((List (BitVec 8)) × ((List ((Bool) × (List (BitVec 8)) × (Int))) × (Int)))) (a0 : (List ((Bool) × (List (BitVec 8)) × (Int))) × (Int)) (a1 : Int) : Option ((List (BitVec 8)) × ((List ((Bool) × (List (BitVec 8)) × (Int))) × (Int))) :=
  Let (a0.2 != 0) fun x12 => (bif x12 then some true else Let ((a0.1.length : Int)) fun x18 => Let (x18 == 0) fun x19 => some x19).bind (fun x20 => (bif x20 then (rlp_writer_fail (a0.1, a0.2) 2).bind fun x22 => some (x22.1, (x22.2.1, x22.2.2)) else Chk ((0 : Int) ≤ 0 ∧ 0 < (a0.1.length : Int)) <| Let (lget a0.1 0) fun x27 => Chk ((0 : Int) ≤ 1 ∧ 1 ≤ (a0.1.length : Int)) <| Let ((a0.1.take a0.1.length).drop ((1 : Int).toNat)) fun x34 => Let (!x27.1) fun x40 => (bif x40 then Let (x27.2.2 != 0) fun x44 => some x44 else some false).bind (fun x45 => (bif x45 then some true else (bif x27.1 then Let ((x27.2.1.length : Int)) fun x51 => Let (decide (0 < x51)) fun x52 => some x52 else some false).bind (fun x53 => (bif x53 then some true else Let (decide (x27.2.2 < 0)) fun x56 => (bif x56 then some true else Let ((x34.length : Int)) fun x64 => Let (decide (x64 < x27.2.2)) fun x65 => some x65).bind (fun x66 => some x66)).bind (fun (x37_17 : Bool) => some x37_17))).bind (fun (x37 : Bool) => (bif x37 then (rlp_writer_fail (x34, a0.2) 2).bind fun x68 => some (x68.1, (x68.2.1, x68.2.2)) else Let (!x27.1) fun x72 => (bif x72 then Let ((x27.2.1.length : Int)) fun x76 => Let (x76 == 1) fun x77 => some x77 else some false).bind (fun x78 => (bif x78 then Chk ((0 : Int) ≤ 0 ∧ 0 < (x27.2.1.length : Int)) <| Let (lget x27.2.1 0) fun x83 => Let (decide ((x83.toNat : Int) < 128)) fun x84 => some x84 else some false).bind (fun x85 => (bif x85 then Chk ((0 : Int) ≤ 0 ∧ 0 < (x27.2.1.length : Int)) <| Let (lget x27.2.1 0) fun x89 => Let ([x89]) fun x90 => some (x90, (x34, a0.2)) else Let (!x27.1) fun x94 => (bif x94 then Let ((x27.2.1.length : Int)) fun x97 => (rlp_head x97 0#8).bind fun x98 => Chk ((x98.length + x27.2.1.length) * 1 ≤ 140737488355328) <| Let (x98 ++ x27.2.1) fun x101 => some (x101, (x34, a0.2)) else Let (a1 == 64) fun x104 => (bif x104 then (rlp_writer_fail (x34, a0.2) 4).bind fun x106 => some (x106.1, (x106.2.1, x106.2.2)) else Let ((x34.length : Int)) fun x111 => Let (wi (x111 - x27.2.2)) fun x114 => (wlx (σ := ((List ((Bool) × (List (BitVec 8)) × (Int))) × (Int)) × (List (BitVec 8))) (fun s => rlp_writer_itemB.b1 x114 a1 F_rlp_writer_item s.1 s.2) ((x34, a0.2), ([] : List (BitVec 8)))).bind (Sum.elim (fun s => (fun y0 x7 => Let ((y0.1.length : Int)) fun x144 => Let (decide (x144 < x114)) fun x146 => (bif x146 then (rlp_writer_fail (y0.1, y0.2) 2).bind fun x148 => some (x148.1, (x148.2.1, x148.2.2)) else Let ((x7.length : Int)) fun x150 => (rlp_head x150 64#8).bind fun x151 => Chk ((x151.length + x7.length) * 1 ≤ 140737488355328) <| Let (x151 ++ x7) fun x153 => some (x153, (y0.1, y0.2)))) s.1 s.2) (fun r => some r))))))))))))
set_option maxRecDepth 100000 in
set_option maxHeartbeats 4000000 in
theorem rlp_writer_itemB.calls  (F_rlp_writer_item : ((List ((Bool) × (List (BitVec 8)) × (Int))) × (Int)) → (Int) → Option ((List (BitVec 8)) × ((List ((Bool) × (List (BitVec 8)) × (Int))) × (Int)))) (hF_rlp_writer_item : ∀ (a0 : (List ((Bool) × (List (BitVec 8)) × (Int))) × (Int)) (a1 : Int) (g0 : Nat) (A0 : Option Addr) (c0 : Nat) (r : (List (BitVec 8)) × ((List ((Bool) × (List (BitVec 8)) × (Int))) × (Int))) (H : F_rlp_writer_item a0 a1 = some r) {w0 : World} {Ex : List Nat} {h : Frag} {Lr : List Ent} {w : World} (hs0 : SlR h R60 A0 a0.1) (hc0 : a0.1.length ≤ c0)  (hM : Mm w0 Ex h ((.blk g0 98 ([(.slice A0 a0.1.length c0 : Value)] ++ ([(.int .i64 a0.2 : Value)])) 2) :: Lr) w), Calls Try.prog 53 #[.pointer (some ⟨g0, 0, none⟩), .int .i64 a1] w fun e w' => ∃ (g : (Frag) × (Option Addr) × (Nat) × (Option Addr) × (Nat)), e = .returned (.slice g.2.1 r.1.length g.2.2.1) ∧ (Sub h g.1 ∧ Shp g.2.1 r.1.length g.2.2.1 ∧ SlR g.1 R60 g.2.2.2.1 r.2.1 ∧ r.2.1.length ≤ g.2.2.2.2) ∧ Mm w0 Ex g.1 ((.row (.slice g.2.1 r.1.length g.2.2.1) 5 1 (r.1.map U8)) :: (.blk g0 98 ([(.slice g.2.2.2.1 r.2.1.length g.2.2.2.2 : Value)] ++ ([(.int .i64 r.2.2 : Value)])) 2) :: Lr) w') (a0 : (List ((Bool) × (List (BitVec 8)) × (Int))) × (Int)) (a1 : Int) (g0 : Nat) (A0 : Option Addr) (c0 : Nat) (r : (List (BitVec 8)) × ((List ((Bool) × (List (BitVec 8)) × (Int))) × (Int))) (H : rlp_writer_itemB F_rlp_writer_item a0 a1 = some r) {w0 : World} {Ex : List Nat} {h : Frag} {Lr : List Ent} {w : World} (hs0 : SlR h R60 A0 a0.1) (hc0 : a0.1.length ≤ c0)  (hM : Mm w0 Ex h ((.blk g0 98 ([(.slice A0 a0.1.length c0 : Value)] ++ ([(.int .i64 a0.2 : Value)])) 2) :: Lr) w) :
    Calls Try.prog 53 #[.pointer (some ⟨g0, 0, none⟩), .int .i64 a1] w fun e w' => ∃ (g : (Frag) × (Option Addr) × (Nat) × (Option Addr) × (Nat)), e = .returned (.slice g.2.1 r.1.length g.2.2.1) ∧ (Sub h g.1 ∧ Shp g.2.1 r.1.length g.2.2.1 ∧ SlR g.1 R60 g.2.2.2.1 r.2.1 ∧ r.2.1.length ≤ g.2.2.2.2) ∧ Mm w0 Ex g.1 ((.row (.slice g.2.1 r.1.length g.2.2.1) 5 1 (r.1.map U8)) :: (.blk g0 98 ([(.slice g.2.2.2.1 r.2.1.length g.2.2.2.2 : Value)] ++ ([(.int .i64 r.2.2 : Value)])) 2) :: Lr) w' := by
  unfold rlp_writer_itemB at H
  refine t_enter (vs := [.pointer (some ⟨g0, 0, none⟩), .int .i64 a1]) (n := 154) Try.func53 rfl rfl rfl hM ?_
  clear hM
  change T 154 _ _ _
  refine t_seq ?_
  refine t_region (fun ops hops => ?_)
  clear hops
  refine z_val (v := .slice none 0 0) (val_assign rfl rfl) rfl rfl rfl (fun _ _ _ => trivial) ?_
  refine z_nil ?_
  refine t_seq ?_
  refine t_seq ?_
  refine t_region (fun ops hops => ?_)
  refine z_val (v := .pointer (some ⟨g0, 0, none⟩)) (val_move rfl rfl) rfl rfl rfl (fun _ _ _ => trivial) ?_
  refine z_val (v := .pointer (some ⟨g0, 0, none⟩)) (val_nilCheck rfl rfl) rfl rfl rfl (fun _ _ _ => trivial) ?_
  refine z_val (v := .pointer (some ⟨g0, 1, none⟩)) (val_fld0 (sz := 1) rfl rfl Try.underlying98 rfl rfl sz48 (by decide)) rfl rfl rfl (fun _ _ _ => trivial) ?_
  refine z_val (v := .int .i64 a0.2) (val_load1 rfl rfl Try.underlying48 rfl (fun _ hw => hw.cell (j := 0) (q := 1) rfl (cells_skip (n := 1) (k := 0) rfl rfl))) rfl rfl rfl (fun _ _ _ => trivial) ?_
  obtain ⟨x12, hx12, H⟩ := Let_elim H
  refine z_val (v := .bool x12) (by subst hx12; exact val_bin rfl rfl rfl rfl (i64_neq _ _ _)) rfl rfl rfl (fun _ _ _ => trivial) ?_
  clear hx12
  refine z_val (v := .bool x12) (val_move rfl rfl) rfl rfl rfl (fun _ _ _ => trivial) ?_
  refine z_bind H 7 (fun (s : Bool) (_ : Unit) => [(0, .pointer (some ⟨g0, 0, none⟩)), (1, .int .i64 a1), (20, .bool s)]) (fun _ _ => Mm w0 Ex h ((.blk g0 98 ([(.slice A0 a0.1.length c0 : Value)] ++ ([(.int .i64 a0.2 : Value)])) 2) :: Lr)) (fun _ _ => True) (fun Gr K s he HJ => ?_) (fun s g HB _ => ?_)
  ·
    clear H
    cases x12
    ·
      have H := cond_f he
      clear he
      refine z_val (v := .pointer (some ⟨g0, 0, none⟩)) (val_move rfl rfl) rfl rfl (by rw [hops]; rfl) (fun _ _ _ => trivial) ?_
      refine z_val (v := .pointer (some ⟨g0, 0, none⟩)) (val_nilCheck rfl rfl) rfl rfl (by rw [hops]; rfl) (fun _ _ _ => trivial) ?_
      refine z_val (v := .pointer (some ⟨g0, 0, none⟩)) (val_fld0 (sz := 1) rfl rfl Try.underlying98 rfl rfl sz46 (by decide)) rfl rfl (by rw [hops]; rfl) (fun _ _ _ => trivial) ?_
      refine z_val (v := .slice A0 a0.1.length c0) (val_load1 rfl rfl Try.underlying46 rfl (fun _ hw => hw.cell (j := 0) (q := 0) rfl (cells_here (k := 0) rfl))) rfl rfl (by rw [hops]; rfl) (fun _ _ _ => trivial) ?_
      obtain ⟨x18, hx18, H⟩ := Let_elim H
      refine z_val (v := .int .i64 x18) (by subst hx18; exact val_len rfl rfl rfl Try.underlying46) rfl rfl (by rw [hops]; rfl) (fun _ _ _ => trivial) ?_
      clear hx18
      obtain ⟨x19, hx19, H⟩ := Let_elim H
      refine z_val (v := .bool x19) (by subst hx19; exact val_bin rfl rfl rfl rfl (i64_eql _ _ _)) rfl rfl (by rw [hops]; rfl) (fun _ _ _ => trivial) ?_
      clear hx19
      refine z_val (v := .bool x19) (val_pick rfl rfl rfl) rfl rfl rfl (fun _ _ _ => trivial) ?_
      obtain rfl := Option.some.inj H
      exact z_nil ((K _ () HJ trivial).weak (fun a ha => ha.cons rfl (ha.cons rfl (ha.cons rfl (ha.nil)))) (fun w hw => hw))
    ·
      have H := cond_t he
      clear he
      refine z_skip rfl rfl (by rw [hops]; rfl) (fun _ _ _ => trivial) ?_
      refine z_skip rfl rfl (by rw [hops]; rfl) (fun _ _ _ => trivial) ?_
      refine z_skip rfl rfl (by rw [hops]; rfl) (fun _ _ _ => trivial) ?_
      refine z_skip rfl rfl (by rw [hops]; rfl) (fun _ _ _ => trivial) ?_
      refine z_skip rfl rfl (by rw [hops]; rfl) (fun _ _ _ => trivial) ?_
      refine z_skip rfl rfl (by rw [hops]; rfl) (fun _ _ _ => trivial) ?_
      refine z_val (v := .bool true) (val_pick rfl rfl rfl) rfl rfl rfl (fun _ _ _ => trivial) ?_
      obtain rfl := Option.some.inj H
      exact z_nil ((K _ () HJ trivial).weak (fun a ha => ha.cons rfl (ha.cons rfl (ha.cons rfl (ha.nil)))) (fun w hw => hw))
  ·
    replace H := HB
    clear HB
    obtain ⟨x20, rfl⟩ : ∃ x, x = s := ⟨_, rfl⟩
    change T 154 _ _ _
    refine z_nil ?_
    cases x20
    ·
      replace H := cond_f H
      refine t_cond_false rfl ?_
      refine t_skip ?_
      refine t_seq ?_
      refine t_region (fun ops hops => ?_)
      clear hops
      refine z_val (v := .pointer (some ⟨g0, 0, none⟩)) (val_move rfl rfl) rfl rfl rfl (fun _ _ _ => trivial) ?_
      refine z_val (v := .pointer (some ⟨g0, 0, none⟩)) (val_nilCheck rfl rfl) rfl rfl rfl (fun _ _ _ => trivial) ?_
      refine z_val (v := .pointer (some ⟨g0, 0, none⟩)) (val_fld0 (sz := 1) rfl rfl Try.underlying98 rfl rfl sz46 (by decide)) rfl rfl rfl (fun _ _ _ => trivial) ?_
      refine z_val (v := .slice A0 a0.1.length c0) (val_load1 rfl rfl Try.underlying46 rfl (fun _ hw => hw.cell (j := 0) (q := 0) rfl (cells_here (k := 0) rfl))) rfl rfl rfl (fun _ _ _ => trivial) ?_
      obtain ⟨hq_1, H⟩ := Chk_elim H
      obtain ⟨x27, hx27, H⟩ := Let_elim H
      obtain ⟨b_7, o_8, hA_9, cs, hr, hc_6⟩ := hs0.at_ (show 0 < a0.1.length from (idx_lt hq_1))
      rw [← hx27] at hr
      clear hx27
      obtain ⟨A_2, c_3, rfl, hs_4, hc_5⟩ := hr
      refine z_val (v := .pointer (some ⟨b_7, o_8 + 0 * 3, none⟩)) (val_idxR rfl rfl rfl Try.underlying46 sz60 hq_1 hA_9 rfl) rfl rfl rfl (fun _ _ _ => trivial) ?_
      refine z_val (v := .agg ([(.bool x27.1 : Value)] ++ ([(.slice A_2 x27.2.1.length c_3 : Value)] ++ ([(.int .i64 x27.2.2 : Value)]))).toArray) (val_loadR (off := o_8 + 0 * 3) (cs := [(.bool x27.1 : Value)] ++ ([(.slice A_2 x27.2.1.length c_3 : Value)] ++ ([(.int .i64 x27.2.2 : Value)]))) rfl rfl Try.underlying60 rfl (sz60.trans (congrArg some (Eq.symm (by simp [cV_len])))) (fun _ hw => range_of hc_6 (k := 0) seg_all hw)) rfl rfl rfl (fun _ _ _ => trivial) ?_
      refine z_alloc (cs := [(.bool false : Value)] ++ ([(.slice none ([] : List (BitVec 8)).length 0 : Value)] ++ ([(.int .i64 0 : Value)]))) (room := 3) rfl ze60 rfl (by simp [cV_len]) rfl rfl rfl (fun _ _ _ _ => trivial) (fun g_10 => ?_)
      refine z_storeA (j := 0) (cs' := [(.bool x27.1 : Value)] ++ ([(.slice A_2 x27.2.1.length c_3 : Value)] ++ ([(.int .i64 x27.2.2 : Value)]))) (L' := (.blk g_10 60 ([(.bool x27.1 : Value)] ++ ([(.slice A_2 x27.2.1.length c_3 : Value)] ++ ([(.int .i64 x27.2.2 : Value)]))) 3) :: (.blk g0 98 ([(.slice A0 a0.1.length c0 : Value)] ++ ([(.int .i64 a0.2 : Value)])) 2) :: Lr) rfl rfl rfl (one_app one_one (one_app one_one one_one)) sz60 rfl (by simp [cV_len]) rfl rfl rfl (fun _ _ _ => trivial) ?_
      refine z_nil ?_
      refine t_seq ?_
      refine t_region (fun ops hops => ?_)
      clear hops
      refine z_val (v := .pointer (some ⟨g0, 0, none⟩)) (val_move rfl rfl) rfl rfl rfl (fun _ _ _ => trivial) ?_
      refine z_val (v := .pointer (some ⟨g0, 0, none⟩)) (val_move rfl rfl) rfl rfl rfl (fun _ _ _ => trivial) ?_
      refine z_val (v := .pointer (some ⟨g0, 0, none⟩)) (val_nilCheck rfl rfl) rfl rfl rfl (fun _ _ _ => trivial) ?_
      refine z_val (v := .pointer (some ⟨g0, 0, none⟩)) (val_fld0 (sz := 1) rfl rfl Try.underlying98 rfl rfl sz46 (by decide)) rfl rfl rfl (fun _ _ _ => trivial) ?_
      refine z_val (v := .slice A0 a0.1.length c0) (val_load1 rfl rfl Try.underlying46 rfl (fun _ hw => hw.cell (j := 1) (q := 0) rfl (cells_here (k := 0) rfl))) rfl rfl rfl (fun _ _ _ => trivial) ?_
      obtain ⟨hq_11, H⟩ := Chk_elim H
      obtain ⟨x34, hx34, H⟩ := Let_elim H
      obtain ⟨A_12, hA_16⟩ : ∃ z, z = (if c0 = (1 : Int).toNat then A0 else A0.map (·.add ((1 : Int).toNat * 3))) := ⟨_, rfl⟩
      obtain ⟨c_13, hc_150⟩ : ∃ z, z = c0 - (1 : Int).toNat := ⟨_, rfl⟩
      have hl : x34.length = a0.1.length - (1 : Int).toNat := by subst hx34; exact cut_len (by omega) (by omega)
      have hs_14 : SlR h R60 A_12 x34 := by subst hA_16 hx34; exact hs0.cut (sz := 3) rfl (by omega) hc0
      have hc_15 : x34.length ≤ c_13 := by have := hc0; omega
      refine z_val (v := .slice A_12 x34.length c_13) (val_sliceLz rfl rfl rfl Try.underlying46 sz60 hq_11.1 hq_11.2 (by rw [hl, hA_16, hc_150])) rfl rfl rfl (fun _ _ _ => trivial) ?_
      clear hl hA_16 hc_150 hx34
      refine z_val (v := .pointer (some ⟨g0, 0, none⟩)) (val_nilCheck rfl rfl) rfl rfl rfl (fun _ _ _ => trivial) ?_
      refine z_val (v := .pointer (some ⟨g0, 0, none⟩)) (val_fld0 (sz := 1) rfl rfl Try.underlying98 rfl rfl sz46 (by decide)) rfl rfl rfl (fun _ _ _ => trivial) ?_
      refine z_store1 (j := 1) (cs' := [(.slice A_12 x34.length c_13 : Value)] ++ ([(.int .i64 a0.2 : Value)])) (L' := (.blk g_10 60 ([(.bool x27.1 : Value)] ++ ([(.slice A_2 x27.2.1.length c_3 : Value)] ++ ([(.int .i64 x27.2.2 : Value)]))) 3) :: (.blk g0 98 ([(.slice A_12 x34.length c_13 : Value)] ++ ([(.int .i64 a0.2 : Value)])) 2) :: Lr) rfl rfl rfl rfl rfl sz46 rfl (by simp [cV_len]) rfl rfl rfl rfl (fun _ _ _ => trivial) ?_
      refine z_nil ?_
      refine t_seq ?_
      refine t_block ?_
      refine t_seq ?_
      refine t_seq ?_
      refine t_region (fun ops hops => ?_)
      refine z_val (v := .pointer (some ⟨g_10, 0, none⟩)) (val_fld0 (sz := 1) rfl rfl Try.underlying60 rfl rfl sz4 (by decide)) rfl rfl rfl (fun _ _ _ => trivial) ?_
      refine z_val (v := .bool x27.1) (val_load1 rfl rfl Try.underlying4 rfl (fun _ hw => hw.cell (j := 0) (q := 0) rfl (cells_here (k := 0) rfl))) rfl rfl rfl (fun _ _ _ => trivial) ?_
      obtain ⟨x40, hx40, H⟩ := Let_elim H
      refine z_val (v := .bool x40) (by subst hx40; exact val_un rfl rfl (bool_not _)) rfl rfl rfl (fun _ _ _ => trivial) ?_
      clear hx40
      refine z_val (v := .bool x40) (val_move rfl rfl) rfl rfl rfl (fun _ _ _ => trivial) ?_
      refine z_bind H 4 (fun (s : Bool) (_ : Unit) => [(0, .pointer (some ⟨g0, 0, none⟩)), (1, .int .i64 a1), (5, .pointer (some ⟨g_10, 0, none⟩)), (45, .bool s)]) (fun _ _ => Mm w0 Ex h ((.blk g_10 60 ([(.bool x27.1 : Value)] ++ ([(.slice A_2 x27.2.1.length c_3 : Value)] ++ ([(.int .i64 x27.2.2 : Value)]))) 3) :: (.blk g0 98 ([(.slice A_12 x34.length c_13 : Value)] ++ ([(.int .i64 a0.2 : Value)])) 2) :: Lr)) (fun _ _ => True) (fun Gr K s he HJ => ?_) (fun s g HB _ => ?_)
      ·
        clear H
        cases x40
        ·
          have H := cond_f he
          clear he
          refine z_skip rfl rfl (by rw [hops]; rfl) (fun _ _ _ => trivial) ?_
          refine z_skip rfl rfl (by rw [hops]; rfl) (fun _ _ _ => trivial) ?_
          refine z_skip rfl rfl (by rw [hops]; rfl) (fun _ _ _ => trivial) ?_
          refine z_val (v := .bool false) (val_pick rfl rfl rfl) rfl rfl rfl (fun _ _ _ => trivial) ?_
          obtain rfl := Option.some.inj H
          exact z_nil ((K _ () HJ trivial).weak (fun a ha => ha.cons rfl (ha.cons rfl (ha.cons rfl (ha.cons rfl (ha.nil))))) (fun w hw => hw))
        ·
          have H := cond_t he
          clear he
          refine z_val (v := .pointer (some ⟨g_10, 2, none⟩)) (val_fld0 (sz := 1) rfl rfl Try.underlying60 rfl rfl sz3 (by decide)) rfl rfl (by rw [hops]; rfl) (fun _ _ _ => trivial) ?_
          refine z_val (v := .int .i64 x27.2.2) (val_load1 rfl rfl Try.underlying3 rfl (fun _ hw => hw.cell (j := 0) (q := 2) rfl (cells_skip (n := 1) (k := 1) rfl (cells_skip (n := 1) (k := 0) rfl rfl)))) rfl rfl (by rw [hops]; rfl) (fun _ _ _ => trivial) ?_
          obtain ⟨x44, hx44, H⟩ := Let_elim H
          refine z_val (v := .bool x44) (by subst hx44; exact val_bin rfl rfl rfl rfl (i64_neq _ _ _)) rfl rfl (by rw [hops]; rfl) (fun _ _ _ => trivial) ?_
          clear hx44
          refine z_val (v := .bool x44) (val_pick rfl rfl rfl) rfl rfl rfl (fun _ _ _ => trivial) ?_
          obtain rfl := Option.some.inj H
          exact z_nil ((K _ () HJ trivial).weak (fun a ha => ha.cons rfl (ha.cons rfl (ha.cons rfl (ha.cons rfl (ha.nil))))) (fun w hw => hw))
      ·
        replace H := HB
        clear HB
        obtain ⟨x45, rfl⟩ : ∃ x, x = s := ⟨_, rfl⟩
        change T 154 _ _ _
        refine z_val (v := .bool x45) (val_assign rfl rfl) rfl rfl rfl (fun _ _ _ => trivial) ?_
        refine z_nil ?_
        refine t_bind H (fun (s : (Bool)) (g : Unit) => [(0, .pointer (some ⟨g0, 0, none⟩)), (1, .int .i64 a1), (5, .pointer (some ⟨g_10, 0, none⟩)), (37, .bool s)]) (fun (s : (Bool)) (g : Unit) => Mm w0 Ex h ((.blk g_10 60 ([(.bool x27.1 : Value)] ++ ([(.slice A_2 x27.2.1.length c_3 : Value)] ++ ([(.int .i64 x27.2.2 : Value)]))) 3) :: (.blk g0 98 ([(.slice A_12 x34.length c_13 : Value)] ++ ([(.int .i64 a0.2 : Value)])) 2) :: Lr)) (fun (s : (Bool)) (g : Unit) => True) (fun Gr K s he HJ => ?_) (fun s g HB hφ => ?_)
        ·
          clear H
          cases x45
          ·
            have H := cond_f he
            clear he
            refine t_cond_false rfl ?_
            refine t_seq ?_
            refine t_region (fun ops hops => ?_)
            refine z_val (v := .pointer (some ⟨g_10, 0, none⟩)) (val_fld0 (sz := 1) rfl rfl Try.underlying60 rfl rfl sz4 (by decide)) rfl rfl rfl (fun _ _ _ => trivial) ?_
            refine z_val (v := .bool x27.1) (val_load1 rfl rfl Try.underlying4 rfl (fun _ hw => hw.cell (j := 0) (q := 0) rfl (cells_here (k := 0) rfl))) rfl rfl rfl (fun _ _ _ => trivial) ?_
            refine z_val (v := .bool x27.1) (val_move rfl rfl) rfl rfl rfl (fun _ _ _ => trivial) ?_
            refine z_bind H 5 (fun (s : Bool) (_ : Unit) => [(0, .pointer (some ⟨g0, 0, none⟩)), (1, .int .i64 a1), (5, .pointer (some ⟨g_10, 0, none⟩)), (53, .bool s)]) (fun _ _ => Mm w0 Ex h ((.blk g_10 60 ([(.bool x27.1 : Value)] ++ ([(.slice A_2 x27.2.1.length c_3 : Value)] ++ ([(.int .i64 x27.2.2 : Value)]))) 3) :: (.blk g0 98 ([(.slice A_12 x34.length c_13 : Value)] ++ ([(.int .i64 a0.2 : Value)])) 2) :: Lr)) (fun _ _ => True) (fun Gr K s he HJ => ?_) (fun s g HB _ => ?_)
            ·
              clear H
              generalize x27.1 = bb at *
              cases bb
              ·
                have H := cond_f he
                clear he
                refine z_skip rfl rfl (by rw [hops]; rfl) (fun _ _ _ => trivial) ?_
                refine z_skip rfl rfl (by rw [hops]; rfl) (fun _ _ _ => trivial) ?_
                refine z_skip rfl rfl (by rw [hops]; rfl) (fun _ _ _ => trivial) ?_
                refine z_skip rfl rfl (by rw [hops]; rfl) (fun _ _ _ => trivial) ?_
                refine z_val (v := .bool false) (val_pick rfl rfl rfl) rfl rfl rfl (fun _ _ _ => trivial) ?_
                obtain rfl := Option.some.inj H
                exact z_nil ((K _ () HJ trivial).weak (fun a ha => ha.cons rfl (ha.cons rfl (ha.cons rfl (ha.cons rfl (ha.nil))))) (fun w hw => hw))
              ·
                have H := cond_t he
                clear he
                refine z_val (v := .pointer (some ⟨g_10, 1, none⟩)) (val_fld0 (sz := 1) rfl rfl Try.underlying60 rfl rfl sz25 (by decide)) rfl rfl (by rw [hops]; rfl) (fun _ _ _ => trivial) ?_
                refine z_val (v := .slice A_2 x27.2.1.length c_3) (val_load1 rfl rfl Try.underlying25 rfl (fun _ hw => hw.cell (j := 0) (q := 1) rfl (cells_skip (n := 1) (k := 0) rfl (cells_here (k := 0) rfl)))) rfl rfl (by rw [hops]; rfl) (fun _ _ _ => trivial) ?_
                obtain ⟨x51, hx51, H⟩ := Let_elim H
                refine z_val (v := .int .i64 x51) (by subst hx51; exact val_len rfl rfl rfl Try.underlying25) rfl rfl (by rw [hops]; rfl) (fun _ _ _ => trivial) ?_
                clear hx51
                obtain ⟨x52, hx52, H⟩ := Let_elim H
                refine z_val (v := .bool x52) (by subst hx52; exact val_bin rfl rfl rfl rfl (i64_gtr _ _ _)) rfl rfl (by rw [hops]; rfl) (fun _ _ _ => trivial) ?_
                clear hx52
                refine z_val (v := .bool x52) (val_pick rfl rfl rfl) rfl rfl rfl (fun _ _ _ => trivial) ?_
                obtain rfl := Option.some.inj H
                exact z_nil ((K _ () HJ trivial).weak (fun a ha => ha.cons rfl (ha.cons rfl (ha.cons rfl (ha.cons rfl (ha.nil))))) (fun w hw => hw))
            ·
              replace H := HB
              clear HB
              obtain ⟨x53, rfl⟩ : ∃ x, x = s := ⟨_, rfl⟩
              change T 154 _ _ _
              refine z_val (v := .bool x53) (val_assign rfl rfl) rfl rfl rfl (fun _ _ _ => trivial) ?_
              refine z_nil ?_
              refine t_bind H (fun (s : (Bool)) (g : Unit) => [(0, .pointer (some ⟨g0, 0, none⟩)), (1, .int .i64 a1), (5, .pointer (some ⟨g_10, 0, none⟩)), (37, .bool s)]) (fun (s : (Bool)) (g : Unit) => Mm w0 Ex h ((.blk g_10 60 ([(.bool x27.1 : Value)] ++ ([(.slice A_2 x27.2.1.length c_3 : Value)] ++ ([(.int .i64 x27.2.2 : Value)]))) 3) :: (.blk g0 98 ([(.slice A_12 x34.length c_13 : Value)] ++ ([(.int .i64 a0.2 : Value)])) 2) :: Lr)) (fun (s : (Bool)) (g : Unit) => True) (fun Gr K s he HJ => ?_) (fun s g HB hφ => ?_)
              ·
                clear H
                cases x53
                ·
                  have H := cond_f he
                  clear he
                  refine t_cond_false rfl ?_
                  refine t_plan (C := Mm w0 Ex h ((.blk g_10 60 ([(.bool x27.1 : Value)] ++ ([(.slice A_2 x27.2.1.length c_3 : Value)] ++ ([(.int .i64 x27.2.2 : Value)]))) 3) :: (.blk g0 98 ([(.slice A_12 x34.length c_13 : Value)] ++ ([(.int .i64 a0.2 : Value)])) 2) :: Lr)) [] [(0, true), (1, true), (2, true), (3, true), (4, true), (5, true), (6, true), (7, true), (8, true), (9, true), (10, true), (11, true), (12, true), (13, true)] (by kernel_rfl) (by kernel_rfl) (fun _ hw => hw.drew) (fun ops hops => ?_)
                  refine z_still (v := .pointer (some ⟨g_10, 2, none⟩)) (val_fld0 (sz := 1) rfl rfl Try.underlying60 rfl rfl sz3 (by decide)) rfl rfl rfl (fun _ hw => hw) ?_
                  refine z_still (v := .int .i64 x27.2.2) (val_load1 rfl rfl Try.underlying3 rfl (fun _ hw => hw.cell (j := 0) (q := 2) rfl (cells_skip (n := 1) (k := 1) rfl (cells_skip (n := 1) (k := 0) rfl rfl)))) rfl rfl rfl (fun _ hw => hw) ?_
                  obtain ⟨x56, hx56, H⟩ := Let_elim H
                  refine z_still (v := .bool x56) (by subst hx56; exact val_bin rfl rfl rfl rfl (i64_lss _ _ _)) rfl rfl rfl (fun _ hw => hw) ?_
                  clear hx56
                  refine z_still (v := .bool x56) (val_move rfl rfl) rfl rfl rfl (fun _ hw => hw) ?_
                  refine z_bind H 9 (fun (s : Bool) (_ : Unit) => [(0, .pointer (some ⟨g0, 0, none⟩)), (1, .int .i64 a1), (5, .pointer (some ⟨g_10, 0, none⟩)), (66, .bool s)]) (fun _ _ => Mm w0 Ex h ((.blk g_10 60 ([(.bool x27.1 : Value)] ++ ([(.slice A_2 x27.2.1.length c_3 : Value)] ++ ([(.int .i64 x27.2.2 : Value)]))) 3) :: (.blk g0 98 ([(.slice A_12 x34.length c_13 : Value)] ++ ([(.int .i64 a0.2 : Value)])) 2) :: Lr)) (fun _ _ => True) (fun Gr K s he HJ => ?_) (fun s g HB _ => ?_)
                  ·
                    clear H
                    cases x56
                    ·
                      have H := cond_f he
                      clear he
                      refine z_still (v := .pointer (some ⟨g_10, 2, none⟩)) (val_fld0 (sz := 1) rfl rfl Try.underlying60 rfl rfl sz3 (by decide)) rfl rfl (by rw [hops]; rfl) (fun _ hw => hw) ?_
                      refine z_still (v := .int .i64 x27.2.2) (val_load1 rfl rfl Try.underlying3 rfl (fun _ hw => hw.cell (j := 0) (q := 2) rfl (cells_skip (n := 1) (k := 1) rfl (cells_skip (n := 1) (k := 0) rfl rfl)))) rfl rfl (by rw [hops]; rfl) (fun _ hw => hw) ?_
                      refine z_still (v := .pointer (some ⟨g0, 0, none⟩)) (val_move rfl rfl) rfl rfl (by rw [hops]; rfl) (fun _ hw => hw) ?_
                      refine z_still (v := .pointer (some ⟨g0, 0, none⟩)) (val_nilCheck rfl rfl) rfl rfl (by rw [hops]; rfl) (fun _ hw => hw) ?_
                      refine z_still (v := .pointer (some ⟨g0, 0, none⟩)) (val_fld0 (sz := 1) rfl rfl Try.underlying98 rfl rfl sz46 (by decide)) rfl rfl (by rw [hops]; rfl) (fun _ hw => hw) ?_
                      refine z_still (v := .slice A_12 x34.length c_13) (val_load1 rfl rfl Try.underlying46 rfl (fun _ hw => hw.cell (j := 1) (q := 0) rfl (cells_here (k := 0) rfl))) rfl rfl (by rw [hops]; rfl) (fun _ hw => hw) ?_
                      obtain ⟨x64, hx64, H⟩ := Let_elim H
                      refine z_still (v := .int .i64 x64) (by subst hx64; exact val_len rfl rfl rfl Try.underlying46) rfl rfl (by rw [hops]; rfl) (fun _ hw => hw) ?_
                      clear hx64
                      obtain ⟨x65, hx65, H⟩ := Let_elim H
                      refine z_still (v := .bool x65) (by subst hx65; exact val_bin rfl rfl rfl rfl (i64_gtr _ _ _)) rfl rfl (by rw [hops]; rfl) (fun _ hw => hw) ?_
                      clear hx65
                      refine z_still (v := .bool x65) (val_pick rfl rfl rfl) rfl rfl rfl (fun _ hw => hw) ?_
                      obtain rfl := Option.some.inj H
                      exact z_nil ((K _ () HJ trivial).weak (fun a ha => ha.cons rfl (ha.cons rfl (ha.cons rfl (ha.cons rfl (ha.nil))))) (fun w hw => hw))
                    ·
                      have H := cond_t he
                      clear he
                      refine z_skip_still rfl rfl (by rw [hops]; rfl) (fun _ hw => hw) ?_
                      refine z_skip_still rfl rfl (by rw [hops]; rfl) (fun _ hw => hw) ?_
                      refine z_skip_still rfl rfl (by rw [hops]; rfl) (fun _ hw => hw) ?_
                      refine z_skip_still rfl rfl (by rw [hops]; rfl) (fun _ hw => hw) ?_
                      refine z_skip_still rfl rfl (by rw [hops]; rfl) (fun _ hw => hw) ?_
                      refine z_skip_still rfl rfl (by rw [hops]; rfl) (fun _ hw => hw) ?_
                      refine z_skip_still rfl rfl (by rw [hops]; rfl) (fun _ hw => hw) ?_
                      refine z_skip_still rfl rfl (by rw [hops]; rfl) (fun _ hw => hw) ?_
                      refine z_still (v := .bool true) (val_pick rfl rfl rfl) rfl rfl rfl (fun _ hw => hw) ?_
                      obtain rfl := Option.some.inj H
                      exact z_nil ((K _ () HJ trivial).weak (fun a ha => ha.cons rfl (ha.cons rfl (ha.cons rfl (ha.cons rfl (ha.nil))))) (fun w hw => hw))
                  ·
                    replace H := HB
                    clear HB
                    obtain ⟨x66, rfl⟩ : ∃ x, x = s := ⟨_, rfl⟩
                    change T 154 _ _ _
                    refine z_still (v := .bool x66) (val_assign rfl rfl) rfl rfl rfl (fun _ hw => hw) ?_
                    refine z_nil ?_
                    obtain rfl := Option.some.inj H
                    exact t_reach ((K _ () HJ trivial).weak (fun a ha => ha.cons rfl (ha.cons rfl (ha.cons rfl (ha.cons rfl (ha.nil))))) (fun w hw => hw))
                ·
                  have H := cond_t he
                  clear he
                  refine t_cond_true rfl ?_
                  refine t_skip ?_
                  obtain rfl := Option.some.inj H
                  exact t_reach ((K _ () HJ trivial).weak (fun a ha => ha.cons rfl (ha.cons rfl (ha.cons rfl (ha.cons rfl (ha.nil))))) (fun w hw => hw))
              ·
                replace H := HB
                clear HB
                obtain ⟨x37_17, rfl⟩ : ∃ x, x = s := ⟨_, rfl⟩
                try dsimp only at H
                change T 154 _ _ _
                obtain rfl := Option.some.inj H
                exact t_reach ((K _ () HJ trivial).weak (fun a ha => ha.cons rfl (ha.cons rfl (ha.cons rfl (ha.cons rfl (ha.nil))))) (fun w hw => hw))
          ·
            have H := cond_t he
            clear he
            refine t_cond_true rfl ?_
            refine t_skip ?_
            obtain rfl := Option.some.inj H
            exact t_reach ((K _ () HJ trivial).weak (fun a ha => ha.cons rfl (ha.cons rfl (ha.cons rfl (ha.cons rfl (ha.nil))))) (fun w hw => hw))
        ·
          replace H := HB
          clear HB
          obtain ⟨x37, rfl⟩ : ∃ x, x = s := ⟨_, rfl⟩
          try dsimp only at H
          change T 154 _ _ _
          cases x37
          ·
            replace H := cond_f H
            refine t_cond_false rfl ?_
            refine t_seq ?_
            refine t_region (fun ops hops => ?_)
            refine z_val (v := .pointer (some ⟨g_10, 0, none⟩)) (val_fld0 (sz := 1) rfl rfl Try.underlying60 rfl rfl sz4 (by decide)) rfl rfl rfl (fun _ _ _ => trivial) ?_
            refine z_val (v := .bool x27.1) (val_load1 rfl rfl Try.underlying4 rfl (fun _ hw => hw.cell (j := 0) (q := 0) rfl (cells_here (k := 0) rfl))) rfl rfl rfl (fun _ _ _ => trivial) ?_
            obtain ⟨x72, hx72, H⟩ := Let_elim H
            refine z_val (v := .bool x72) (by subst hx72; exact val_un rfl rfl (bool_not _)) rfl rfl rfl (fun _ _ _ => trivial) ?_
            clear hx72
            refine z_val (v := .bool x72) (val_move rfl rfl) rfl rfl rfl (fun _ _ _ => trivial) ?_
            refine z_bind H 5 (fun (s : Bool) (_ : Unit) => [(0, .pointer (some ⟨g0, 0, none⟩)), (1, .int .i64 a1), (5, .pointer (some ⟨g_10, 0, none⟩)), (78, .bool s)]) (fun _ _ => Mm w0 Ex h ((.blk g_10 60 ([(.bool x27.1 : Value)] ++ ([(.slice A_2 x27.2.1.length c_3 : Value)] ++ ([(.int .i64 x27.2.2 : Value)]))) 3) :: (.blk g0 98 ([(.slice A_12 x34.length c_13 : Value)] ++ ([(.int .i64 a0.2 : Value)])) 2) :: Lr)) (fun _ _ => True) (fun Gr K s he HJ => ?_) (fun s g HB _ => ?_)
            ·
              clear H
              cases x72
              ·
                have H := cond_f he
                clear he
                refine z_skip rfl rfl (by rw [hops]; rfl) (fun _ _ _ => trivial) ?_
                refine z_skip rfl rfl (by rw [hops]; rfl) (fun _ _ _ => trivial) ?_
                refine z_skip rfl rfl (by rw [hops]; rfl) (fun _ _ _ => trivial) ?_
                refine z_skip rfl rfl (by rw [hops]; rfl) (fun _ _ _ => trivial) ?_
                refine z_val (v := .bool false) (val_pick rfl rfl rfl) rfl rfl rfl (fun _ _ _ => trivial) ?_
                obtain rfl := Option.some.inj H
                exact z_nil ((K _ () HJ trivial).weak (fun a ha => ha.cons rfl (ha.cons rfl (ha.cons rfl (ha.cons rfl (ha.nil))))) (fun w hw => hw))
              ·
                have H := cond_t he
                clear he
                refine z_val (v := .pointer (some ⟨g_10, 1, none⟩)) (val_fld0 (sz := 1) rfl rfl Try.underlying60 rfl rfl sz25 (by decide)) rfl rfl (by rw [hops]; rfl) (fun _ _ _ => trivial) ?_
                refine z_val (v := .slice A_2 x27.2.1.length c_3) (val_load1 rfl rfl Try.underlying25 rfl (fun _ hw => hw.cell (j := 0) (q := 1) rfl (cells_skip (n := 1) (k := 0) rfl (cells_here (k := 0) rfl)))) rfl rfl (by rw [hops]; rfl) (fun _ _ _ => trivial) ?_
                obtain ⟨x76, hx76, H⟩ := Let_elim H
                refine z_val (v := .int .i64 x76) (by subst hx76; exact val_len rfl rfl rfl Try.underlying25) rfl rfl (by rw [hops]; rfl) (fun _ _ _ => trivial) ?_
                clear hx76
                obtain ⟨x77, hx77, H⟩ := Let_elim H
                refine z_val (v := .bool x77) (by subst hx77; exact val_bin rfl rfl rfl rfl (i64_eql _ _ _)) rfl rfl (by rw [hops]; rfl) (fun _ _ _ => trivial) ?_
                clear hx77
                refine z_val (v := .bool x77) (val_pick rfl rfl rfl) rfl rfl rfl (fun _ _ _ => trivial) ?_
                obtain rfl := Option.some.inj H
                exact z_nil ((K _ () HJ trivial).weak (fun a ha => ha.cons rfl (ha.cons rfl (ha.cons rfl (ha.cons rfl (ha.nil))))) (fun w hw => hw))
            ·
              replace H := HB
              clear HB
              obtain ⟨x78, rfl⟩ : ∃ x, x = s := ⟨_, rfl⟩
              change T 154 _ _ _
              refine z_val (v := .bool x78) (val_move rfl rfl) rfl rfl rfl (fun _ _ _ => trivial) ?_
              refine z_bind H 6 (fun (s : Bool) (_ : Unit) => [(0, .pointer (some ⟨g0, 0, none⟩)), (1, .int .i64 a1), (5, .pointer (some ⟨g_10, 0, none⟩)), (85, .bool s)]) (fun _ _ => Mm w0 Ex h ((.blk g_10 60 ([(.bool x27.1 : Value)] ++ ([(.slice A_2 x27.2.1.length c_3 : Value)] ++ ([(.int .i64 x27.2.2 : Value)]))) 3) :: (.blk g0 98 ([(.slice A_12 x34.length c_13 : Value)] ++ ([(.int .i64 a0.2 : Value)])) 2) :: Lr)) (fun _ _ => True) (fun Gr K s he HJ => ?_) (fun s g HB _ => ?_)
              ·
                clear H
                cases x78
                ·
                  have H := cond_f he
                  clear he
                  refine z_skip rfl rfl (by rw [hops]; rfl) (fun _ _ _ => trivial) ?_
                  refine z_skip rfl rfl (by rw [hops]; rfl) (fun _ _ _ => trivial) ?_
                  refine z_skip rfl rfl (by rw [hops]; rfl) (fun _ _ _ => trivial) ?_
                  refine z_skip rfl rfl (by rw [hops]; rfl) (fun _ _ _ => trivial) ?_
                  refine z_skip rfl rfl (by rw [hops]; rfl) (fun _ _ _ => trivial) ?_
                  refine z_val (v := .bool false) (val_pick rfl rfl rfl) rfl rfl rfl (fun _ _ _ => trivial) ?_
                  obtain rfl := Option.some.inj H
                  exact z_nil ((K _ () HJ trivial).weak (fun a ha => ha.cons rfl (ha.cons rfl (ha.cons rfl (ha.cons rfl (ha.nil))))) (fun w hw => hw))
                ·
                  have H := cond_t he
                  clear he
                  refine z_val (v := .pointer (some ⟨g_10, 1, none⟩)) (val_fld0 (sz := 1) rfl rfl Try.underlying60 rfl rfl sz25 (by decide)) rfl rfl (by rw [hops]; rfl) (fun _ _ _ => trivial) ?_
                  refine z_val (v := .slice A_2 x27.2.1.length c_3) (val_load1 rfl rfl Try.underlying25 rfl (fun _ hw => hw.cell (j := 0) (q := 1) rfl (cells_skip (n := 1) (k := 0) rfl (cells_here (k := 0) rfl)))) rfl rfl (by rw [hops]; rfl) (fun _ _ _ => trivial) ?_
                  obtain ⟨hq_18, H⟩ := Chk_elim H
                  obtain ⟨b_19, o_20, hA_21, hc_22⟩ := hs_4.at_ (idx_lt hq_18)
                  refine z_val (v := .pointer (some ⟨b_19, o_20 + 0, none⟩)) (val_idxS0 rfl rfl rfl Try.underlying25 sz5 hq_18 hA_21 rfl) rfl rfl (by rw [hops]; rfl) (fun _ _ _ => trivial) ?_
                  obtain ⟨x83, hx83, H⟩ := Let_elim H
                  refine z_val (v := U8 x83) (by subst hx83; exact val_load1 rfl rfl Try.underlying5 rfl (fun _ hw => hc_22.cell hw)) rfl rfl (by rw [hops]; rfl) (fun _ _ _ => trivial) ?_
                  clear hx83
                  obtain ⟨x84, hx84, H⟩ := Let_elim H
                  refine z_val (v := .bool x84) (by subst hx84; exact val_bin rfl rfl rfl rfl (u8_lss_r _ 128 x83)) rfl rfl (by rw [hops]; rfl) (fun _ _ _ => trivial) ?_
                  clear hx84
                  refine z_val (v := .bool x84) (val_pick rfl rfl rfl) rfl rfl rfl (fun _ _ _ => trivial) ?_
                  obtain rfl := Option.some.inj H
                  exact z_nil ((K _ () HJ trivial).weak (fun a ha => ha.cons rfl (ha.cons rfl (ha.cons rfl (ha.cons rfl (ha.nil))))) (fun w hw => hw))
              ·
                replace H := HB
                clear HB
                obtain ⟨x85, rfl⟩ : ∃ x, x = s := ⟨_, rfl⟩
                change T 154 _ _ _
                refine z_val (v := .bool x85) (val_assign rfl rfl) rfl rfl rfl (fun _ _ _ => trivial) ?_
                refine z_nil ?_
                cases x85
                ·
                  replace H := cond_f H
                  refine t_cond_false rfl ?_
                  refine t_seq ?_
                  refine t_region (fun ops hops => ?_)
                  clear hops
                  refine z_val (v := .pointer (some ⟨g_10, 0, none⟩)) (val_fld0 (sz := 1) rfl rfl Try.underlying60 rfl rfl sz4 (by decide)) rfl rfl rfl (fun _ _ _ => trivial) ?_
                  refine z_val (v := .bool x27.1) (val_load1 rfl rfl Try.underlying4 rfl (fun _ hw => hw.cell (j := 0) (q := 0) rfl (cells_here (k := 0) rfl))) rfl rfl rfl (fun _ _ _ => trivial) ?_
                  obtain ⟨x94, hx94, H⟩ := Let_elim H
                  refine z_val (v := .bool x94) (by subst hx94; exact val_un rfl rfl (bool_not _)) rfl rfl rfl (fun _ _ _ => trivial) ?_
                  clear hx94
                  refine z_val (v := .bool x94) (val_assign rfl rfl) rfl rfl rfl (fun _ _ _ => trivial) ?_
                  refine z_nil ?_
                  cases x94
                  ·
                    replace H := cond_f H
                    refine t_cond_false rfl ?_
                    refine t_seq ?_
                    refine t_region (fun ops hops => ?_)
                    clear hops
                    refine z_val (v := .int .i64 a1) (val_move rfl rfl) rfl rfl rfl (fun _ _ _ => trivial) ?_
                    obtain ⟨x104, hx104, H⟩ := Let_elim H
                    refine z_val (v := .bool x104) (by subst hx104; exact val_bin rfl rfl rfl rfl (i64_eql _ _ _)) rfl rfl rfl (fun _ _ _ => trivial) ?_
                    clear hx104
                    refine z_val (v := .bool x104) (val_assign rfl rfl) rfl rfl rfl (fun _ _ _ => trivial) ?_
                    refine z_nil ?_
                    cases x104
                    ·
                      replace H := cond_f H
                      refine t_cond_false rfl ?_
                      refine t_skip ?_
                      refine t_fin ?_
                      refine t_seq ?_
                      refine t_plan (C := Mm w0 Ex h ((.blk g_10 60 ([(.bool x27.1 : Value)] ++ ([(.slice A_2 x27.2.1.length c_3 : Value)] ++ ([(.int .i64 x27.2.2 : Value)]))) 3) :: (.blk g0 98 ([(.slice A_12 x34.length c_13 : Value)] ++ ([(.int .i64 a0.2 : Value)])) 2) :: Lr)) [] [(0, true), (1, true), (2, true), (3, true), (4, true), (5, true), (6, true), (7, true), (8, true)] (by kernel_rfl) (by kernel_rfl) (fun _ hw => hw.drew) (fun ops hops => ?_)
                      clear hops
                      refine z_still (v := .pointer (some ⟨g0, 0, none⟩)) (val_move rfl rfl) rfl rfl rfl (fun _ hw => hw) ?_
                      refine z_still (v := .pointer (some ⟨g0, 0, none⟩)) (val_nilCheck rfl rfl) rfl rfl rfl (fun _ hw => hw) ?_
                      refine z_still (v := .pointer (some ⟨g0, 0, none⟩)) (val_fld0 (sz := 1) rfl rfl Try.underlying98 rfl rfl sz46 (by decide)) rfl rfl rfl (fun _ hw => hw) ?_
                      refine z_still (v := .slice A_12 x34.length c_13) (val_load1 rfl rfl Try.underlying46 rfl (fun _ hw => hw.cell (j := 1) (q := 0) rfl (cells_here (k := 0) rfl))) rfl rfl rfl (fun _ hw => hw) ?_
                      obtain ⟨x111, hx111, H⟩ := Let_elim H
                      refine z_still (v := .int .i64 x111) (by subst hx111; exact val_len rfl rfl rfl Try.underlying46) rfl rfl rfl (fun _ hw => hw) ?_
                      clear hx111
                      refine z_still (v := .pointer (some ⟨g_10, 2, none⟩)) (val_fld0 (sz := 1) rfl rfl Try.underlying60 rfl rfl sz3 (by decide)) rfl rfl rfl (fun _ hw => hw) ?_
                      refine z_still (v := .int .i64 x27.2.2) (val_load1 rfl rfl Try.underlying3 rfl (fun _ hw => hw.cell (j := 0) (q := 2) rfl (cells_skip (n := 1) (k := 1) rfl (cells_skip (n := 1) (k := 0) rfl rfl)))) rfl rfl rfl (fun _ hw => hw) ?_
                      obtain ⟨x114, hx114, H⟩ := Let_elim H
                      refine z_still (v := .int .i64 x114) (by subst hx114; exact val_bin rfl rfl rfl rfl (i64_sub _ _ _)) rfl rfl rfl (fun _ hw => hw) ?_
                      clear hx114
                      refine z_still (v := .int .i64 x114) (val_assign rfl rfl) rfl rfl rfl (fun _ hw => hw) ?_
                      refine z_nil ?_
                      refine t_seq ?_
                      refine t_region (fun ops hops => ?_)
                      clear hops
                      refine z_val (v := .slice none 0 0) (val_assign rfl rfl) rfl rfl rfl (fun _ _ _ => trivial) ?_
                      refine z_nil ?_
                      refine t_seq ?_
                      refine t_block ?_
                      refine t_nil (e := 5) (sz := 1) ?_
                      obtain ⟨z1, hz1, HK1⟩ := Option.bind_eq_some_iff.1 H
                      clear H
                      refine t_while hz1 (fun (s : ((List ((Bool) × (List (BitVec 8)) × (Int))) × (Int)) × (List (BitVec 8))) (g : (Frag) × (Option Addr) × (Nat) × (Option Addr) × (Nat)) => [(0, .pointer (some ⟨g0, 0, none⟩)), (1, .int .i64 a1), (6, .int .i64 x114), (7, .slice g.2.2.2.1 s.2.length g.2.2.2.2)]) (fun (s : ((List ((Bool) × (List (BitVec 8)) × (Int))) × (Int)) × (List (BitVec 8))) (g : (Frag) × (Option Addr) × (Nat) × (Option Addr) × (Nat)) => [(0, .pointer (some ⟨g0, 0, none⟩)), (6, .int .i64 x114), (7, .slice g.2.2.2.1 s.2.length g.2.2.2.2)]) (fun (s : ((List ((Bool) × (List (BitVec 8)) × (Int))) × (Int)) × (List (BitVec 8))) (g : (Frag) × (Option Addr) × (Nat) × (Option Addr) × (Nat)) => Mm w0 Ex g.1 ((.row (.slice g.2.2.2.1 s.2.length g.2.2.2.2) 5 1 (s.2.map U8)) :: (.blk g0 98 ([(.slice g.2.1 s.1.1.length g.2.2.1 : Value)] ++ ([(.int .i64 s.1.2 : Value)])) 2) :: Lr)) (fun (s : ((List ((Bool) × (List (BitVec 8)) × (Int))) × (Int)) × (List (BitVec 8))) (g : (Frag) × (Option Addr) × (Nat) × (Option Addr) × (Nat)) => Mm w0 Ex g.1 ((.row (.slice g.2.2.2.1 s.2.length g.2.2.2.2) 5 1 (s.2.map U8)) :: (.blk g0 98 ([(.slice g.2.1 s.1.1.length g.2.2.1 : Value)] ++ ([(.int .i64 s.1.2 : Value)])) 2) :: Lr)) (fun (s : ((List ((Bool) × (List (BitVec 8)) × (Int))) × (Int)) × (List (BitVec 8))) (g : (Frag) × (Option Addr) × (Nat) × (Option Addr) × (Nat)) => Sub h g.1 ∧ SlR g.1 R60 g.2.1 s.1.1 ∧ s.1.1.length ≤ g.2.2.1 ∧ Shp g.2.2.2.1 s.2.length g.2.2.2.2) (fun (s : ((List ((Bool) × (List (BitVec 8)) × (Int))) × (Int)) × (List (BitVec 8))) (g : (Frag) × (Option Addr) × (Nat) × (Option Addr) × (Nat)) => Sub h g.1 ∧ SlR g.1 R60 g.2.1 s.1.1 ∧ s.1.1.length ≤ g.2.2.1 ∧ Shp g.2.2.2.1 s.2.length g.2.2.2.2) ⟨h, A_12, c_13, none, 0⟩ ⟨(Sub.refl _), hs_14, hc_15, Shp.none_⟩ (fun a w ha hw => ⟨ha.cons rfl (ha.cons rfl (ha.cons rfl (ha.cons rfl (ha.nil)))), hw.selK 3 [0, 2] rfl rfl⟩) (fun Gn Gb s g e hφ H hn1 hb1 hr1 => ?_) (fun s g hzz hφ => ?_)
                      ·
                        obtain ⟨y0, x7⟩ := s
                        obtain ⟨h_24, A_25, c_26, A_29, c_30⟩ := g
                        try dsimp only at hφ
                        obtain ⟨hS, hs_27, hc_28, hs_31⟩ := hφ
                        replace hs_14 := hs_14.up hS
                        change rlp_writer_itemB.b1 x114 a1 F_rlp_writer_item y0 x7 = some e at H
                        unfold rlp_writer_itemB.b1 at H
                        clear hz1
                        change T 154 _ _ _
                        refine t_seq ?_
                        refine t_seq ?_
                        refine t_region (fun ops hops => ?_)
                        refine z_val (v := .pointer (some ⟨g0, 0, none⟩)) (val_move rfl rfl) rfl rfl rfl (fun _ _ _ => trivial) ?_
                        refine z_val (v := .pointer (some ⟨g0, 0, none⟩)) (val_nilCheck rfl rfl) rfl rfl rfl (fun _ _ _ => trivial) ?_
                        refine z_val (v := .pointer (some ⟨g0, 0, none⟩)) (val_fld0 (sz := 1) rfl rfl Try.underlying98 rfl rfl sz46 (by decide)) rfl rfl rfl (fun _ _ _ => trivial) ?_
                        refine z_val (v := .slice A_25 y0.1.length c_26) (val_load1 rfl rfl Try.underlying46 rfl (fun _ hw => hw.cell (j := 1) (q := 0) rfl (cells_here (k := 0) rfl))) rfl rfl rfl (fun _ _ _ => trivial) ?_
                        obtain ⟨x119, hx119, H⟩ := Let_elim H
                        refine z_val (v := .int .i64 x119) (by subst hx119; exact val_len rfl rfl rfl Try.underlying46) rfl rfl rfl (fun _ _ _ => trivial) ?_
                        clear hx119
                        refine z_val (v := .int .i64 x114) (val_move rfl rfl) rfl rfl rfl (fun _ _ _ => trivial) ?_
                        obtain ⟨x121, hx121, H⟩ := Let_elim H
                        refine z_val (v := .bool x121) (by subst hx121; exact val_bin rfl rfl rfl rfl (i64_gtr _ _ _)) rfl rfl rfl (fun _ _ _ => trivial) ?_
                        clear hx121
                        refine z_val (v := .bool x121) (val_move rfl rfl) rfl rfl rfl (fun _ _ _ => trivial) ?_
                        refine z_bind H 6 (fun (s : Bool) (_ : Unit) => [(0, .pointer (some ⟨g0, 0, none⟩)), (1, .int .i64 a1), (6, .int .i64 x114), (7, .slice A_29 x7.length c_30), (128, .bool s)]) (fun _ _ => Mm w0 Ex h_24 ((.row (.slice A_29 x7.length c_30) 5 1 (x7.map U8)) :: (.blk g0 98 ([(.slice A_25 y0.1.length c_26 : Value)] ++ ([(.int .i64 y0.2 : Value)])) 2) :: Lr)) (fun _ _ => True) (fun Gr K s he HJ => ?_) (fun s g HB _ => ?_)
                        ·
                          clear H
                          cases x121
                          ·
                            have H := cond_f he
                            clear he
                            refine z_skip rfl rfl (by rw [hops]; rfl) (fun _ _ _ => trivial) ?_
                            refine z_skip rfl rfl (by rw [hops]; rfl) (fun _ _ _ => trivial) ?_
                            refine z_skip rfl rfl (by rw [hops]; rfl) (fun _ _ _ => trivial) ?_
                            refine z_skip rfl rfl (by rw [hops]; rfl) (fun _ _ _ => trivial) ?_
                            refine z_skip rfl rfl (by rw [hops]; rfl) (fun _ _ _ => trivial) ?_
                            refine z_val (v := .bool false) (val_pick rfl rfl rfl) rfl rfl rfl (fun _ _ _ => trivial) ?_
                            obtain rfl := Option.some.inj H
                            exact z_nil ((K _ () HJ trivial).weak (fun a ha => ha.cons rfl (ha.cons rfl (ha.cons rfl (ha.cons rfl (ha.cons rfl (ha.nil)))))) (fun w hw => hw))
                          ·
                            have H := cond_t he
                            clear he
                            refine z_val (v := .pointer (some ⟨g0, 0, none⟩)) (val_move rfl rfl) rfl rfl (by rw [hops]; rfl) (fun _ _ _ => trivial) ?_
                            refine z_val (v := .pointer (some ⟨g0, 0, none⟩)) (val_nilCheck rfl rfl) rfl rfl (by rw [hops]; rfl) (fun _ _ _ => trivial) ?_
                            refine z_val (v := .pointer (some ⟨g0, 1, none⟩)) (val_fld0 (sz := 1) rfl rfl Try.underlying98 rfl rfl sz48 (by decide)) rfl rfl (by rw [hops]; rfl) (fun _ _ _ => trivial) ?_
                            refine z_val (v := .int .i64 y0.2) (val_load1 rfl rfl Try.underlying48 rfl (fun _ hw => hw.cell (j := 1) (q := 1) rfl (cells_skip (n := 1) (k := 0) rfl rfl))) rfl rfl (by rw [hops]; rfl) (fun _ _ _ => trivial) ?_
                            obtain ⟨x127, hx127, H⟩ := Let_elim H
                            refine z_val (v := .bool x127) (by subst hx127; exact val_bin rfl rfl rfl rfl (i64_eql _ _ _)) rfl rfl (by rw [hops]; rfl) (fun _ _ _ => trivial) ?_
                            clear hx127
                            refine z_val (v := .bool x127) (val_pick rfl rfl rfl) rfl rfl rfl (fun _ _ _ => trivial) ?_
                            obtain rfl := Option.some.inj H
                            exact z_nil ((K _ () HJ trivial).weak (fun a ha => ha.cons rfl (ha.cons rfl (ha.cons rfl (ha.cons rfl (ha.cons rfl (ha.nil)))))) (fun w hw => hw))
                        ·
                          replace H := HB
                          clear HB
                          obtain ⟨x128, rfl⟩ : ∃ x, x = s := ⟨_, rfl⟩
                          change T 154 _ _ _
                          refine z_nil ?_
                          cases x128
                          ·
                            replace H := cond_f H
                            refine t_cond_false rfl ?_
                            refine t_exit rfl ?_
                            obtain rfl := Option.some.inj H
                            exact t_reach ((hb1 _ ⟨h_24, A_25, c_26, A_29, c_30⟩ rfl ⟨hS, hs_27, hc_28, hs_31⟩).weak (fun a ha => ha.cons rfl (ha.cons rfl (ha.cons rfl (ha.nil)))) (fun w hw => hw))
                          ·
                            replace H := cond_t H
                            refine t_cond_true rfl ?_
                            refine t_skip ?_
                            refine t_block ?_
                            refine t_seq ?_
                            refine t_region (fun ops hops => ?_)
                            clear hops
                            refine z_val (v := .slice A_29 x7.length c_30) (val_move rfl rfl) rfl rfl rfl (fun _ _ _ => trivial) ?_
                            refine z_val (v := .pointer (some ⟨g0, 0, none⟩)) (val_move rfl rfl) rfl rfl rfl (fun _ _ _ => trivial) ?_
                            refine z_val (v := .int .i64 a1) (val_move rfl rfl) rfl rfl rfl (fun _ _ _ => trivial) ?_
                            obtain ⟨x132, hx132, H⟩ := Let_elim H
                            refine z_val (v := .int .i64 x132) (by subst hx132; exact val_bin rfl rfl rfl rfl (i64_add _ _ _)) rfl rfl rfl (fun _ _ _ => trivial) ?_
                            clear hx132
                            refine T.selK 2 [1, 0] rfl rfl ?_
                            obtain ⟨x133, hx, H⟩ := Option.bind_eq_some_iff.1 H
                            refine z_callG rfl Try.func53 nm53 bs53 rfl (fun w hw => hF_rlp_writer_item (y0.1, y0.2) x132 g0 A_25 c_26 x133 hx hs_27 hc_28 hw) rfl rfl rfl (fun _ _ _ _ _ => trivial) (fun g hφ => ?_)
                            obtain ⟨h_32, A_35, c_36, A_38, c_39⟩ := g
                            try dsimp only at hφ
                            obtain ⟨hS_33, hs_37, hs_40, hc_41⟩ := hφ
                            clear hx
                            change T 154 _ _ _
                            obtain ⟨hq_42, H⟩ := Chk_elim H
                            obtain ⟨x134, hx134, H⟩ := Let_elim H
                            refine z_append (f := U8) (j := 2) (xs := x7) (ys := x133.1) (zs := x134) rfl rfl Try.underlying25 in5 rfl rfl rfl rfl (fun w hw => (row_w hw (j := 0) rfl)) (fun _ => rfl) hq_42 (by decide) hx134 (fun A_43 c_44 => (.row (.slice A_35 x133.1.length c_36) 5 1 (x133.1.map U8)) :: (.blk g0 98 ([(.slice A_38 x133.2.1.length c_39 : Value)] ++ ([(.int .i64 x133.2.2 : Value)])) 2) :: (.row (.slice A_43 x134.length c_44) 5 1 (x134.map U8)) :: Lr) (fun _ _ => rfl) rfl rfl rfl (fun _ _ _ _ _ => trivial) (fun A_43 c_44 hs_45 => ?_)
                            clear hx134
                            refine z_val (v := .slice A_43 x134.length c_44) (val_assign rfl rfl) rfl rfl rfl (fun _ _ _ => trivial) ?_
                            refine z_nil ?_
                            refine t_seq ?_
                            refine t_region (fun ops hops => ?_)
                            clear hops
                            refine z_val (v := .slice A_43 x134.length c_44) (val_move rfl rfl) rfl rfl rfl (fun _ _ _ => trivial) ?_
                            obtain ⟨x136, hx136, H⟩ := Let_elim H
                            refine z_val (v := .int .i64 x136) (by subst hx136; exact val_len rfl rfl rfl Try.underlying25) rfl rfl rfl (fun _ _ _ => trivial) ?_
                            clear hx136
                            obtain ⟨x137, hx137, H⟩ := Let_elim H
                            refine z_val (v := .bool x137) (by subst hx137; exact val_bin rfl rfl rfl rfl (i64_gtr _ _ _)) rfl rfl rfl (fun _ _ _ => trivial) ?_
                            clear hx137
                            refine z_nil ?_
                            cases x137
                            ·
                              replace H := cond_f H
                              refine t_cond_false rfl ?_
                              refine t_skip ?_
                              refine t_fin ?_
                              obtain rfl := Option.some.inj H
                              exact t_reach ((hn1 _ ⟨h_32, A_38, c_39, A_43, c_44⟩ rfl ⟨(hS.trans hS_33), hs_40, hc_41, hs_45⟩).weak (fun a ha => ha.cons rfl (ha.cons rfl (ha.cons rfl (ha.cons rfl (ha.nil))))) (fun w hw => hw.selK 3 [2, 1] rfl rfl))
                            ·
                              replace H := cond_t H
                              refine t_cond_true rfl ?_
                              refine t_seq ?_
                              refine t_region (fun ops hops => ?_)
                              clear hops
                              refine z_val (v := .pointer (some ⟨g0, 0, none⟩)) (val_move rfl rfl) rfl rfl rfl (fun _ _ _ => trivial) ?_
                              refine T.selK 3 [1, 0, 2] rfl rfl ?_
                              obtain ⟨x139, hx_46, H⟩ := Option.bind_eq_some_iff.1 H
                              refine z_callG rfl Try.func75 nm75 bs75 rfl (fun w hw => rlp_writer_fail.calls (x133.2.1, x133.2.2) 4 g0 A_38 c_39 x139 hx_46 hs_40 hc_41 hw) rfl rfl rfl (fun _ _ _ _ _ => trivial) (fun g hφ => ?_)
                              obtain ⟨h_47, A_50, c_51, A_53, c_54⟩ := g
                              try dsimp only at hφ
                              obtain ⟨hS_48, hs_52, hs_55, hc_56⟩ := hφ
                              clear hx_46
                              change T 154 _ _ _
                              refine z_val (v := .slice A_50 x139.1.length c_51) (val_assign rfl rfl) rfl rfl rfl (fun _ _ _ => trivial) ?_
                              refine z_nil ?_
                              refine t_ret ?_
                              obtain rfl := Option.some.inj H
                              have hz := hr1 _ rfl
                              subst hz
                              obtain rfl := Option.some.inj HK1
                              exact ret1 rfl (res_tmp rfl) (fun _ hw => ⟨⟨h_47, A_50, c_51, A_53, c_54⟩, rfl, ⟨((hS.trans hS_33).trans hS_48), hs_52, hs_55, hc_56⟩, hw.selK 4 [0, 1] rfl rfl⟩)
                      ·
                        obtain ⟨y0, x7⟩ := s
                        obtain ⟨h_24, A_25, c_26, A_29, c_30⟩ := g
                        try dsimp only at hφ
                        obtain ⟨hS, hs_27, hc_28, hs_31⟩ := hφ
                        replace hs_14 := hs_14.up hS
                        subst hzz
                        have H := HK1
                        clear HK1 hz1
                        replace H := sum_l H
                        try dsimp only at H
                        change T 154 _ _ _
                        refine t_seq ?_
                        refine t_seq ?_
                        refine t_region (fun ops hops => ?_)
                        clear hops
                        refine z_val (v := .pointer (some ⟨g0, 0, none⟩)) (val_move rfl rfl) rfl rfl rfl (fun _ _ _ => trivial) ?_
                        refine z_val (v := .pointer (some ⟨g0, 0, none⟩)) (val_nilCheck rfl rfl) rfl rfl rfl (fun _ _ _ => trivial) ?_
                        refine z_val (v := .pointer (some ⟨g0, 0, none⟩)) (val_fld0 (sz := 1) rfl rfl Try.underlying98 rfl rfl sz46 (by decide)) rfl rfl rfl (fun _ _ _ => trivial) ?_
                        refine z_val (v := .slice A_25 y0.1.length c_26) (val_load1 rfl rfl Try.underlying46 rfl (fun _ hw => hw.cell (j := 1) (q := 0) rfl (cells_here (k := 0) rfl))) rfl rfl rfl (fun _ _ _ => trivial) ?_
                        obtain ⟨x144, hx144, H⟩ := Let_elim H
                        refine z_val (v := .int .i64 x144) (by subst hx144; exact val_len rfl rfl rfl Try.underlying46) rfl rfl rfl (fun _ _ _ => trivial) ?_
                        clear hx144
                        refine z_val (v := .int .i64 x114) (val_move rfl rfl) rfl rfl rfl (fun _ _ _ => trivial) ?_
                        obtain ⟨x146, hx146, H⟩ := Let_elim H
                        refine z_val (v := .bool x146) (by subst hx146; exact val_bin rfl rfl rfl rfl (i64_lss _ _ _)) rfl rfl rfl (fun _ _ _ => trivial) ?_
                        clear hx146
                        refine z_nil ?_
                        cases x146
                        ·
                          replace H := cond_f H
                          refine t_cond_false rfl ?_
                          refine t_skip ?_
                          refine t_seq ?_
                          refine t_region (fun ops hops => ?_)
                          clear hops
                          refine z_val (v := .slice A_29 x7.length c_30) (val_move rfl rfl) rfl rfl rfl (fun _ _ _ => trivial) ?_
                          obtain ⟨x150, hx150, H⟩ := Let_elim H
                          refine z_val (v := .int .i64 x150) (by subst hx150; exact val_len rfl rfl rfl Try.underlying25) rfl rfl rfl (fun _ _ _ => trivial) ?_
                          clear hx150
                          obtain ⟨x151, hx_57, H⟩ := Option.bind_eq_some_iff.1 H
                          refine z_madeS (F := fun A_58 c_59 => .slice A_58 x151.length c_59) (xs := x151) rfl Try.func76 nm76 bs76 rfl (fun w hw => rlp_head.calls x150 64#8 x151 hx_57 w) rfl rfl rfl (fun _ _ _ _ _ => trivial) (fun A_58 c_59 hs_60 => ?_)
                          clear hx_57
                          refine z_val (v := .slice A_29 x7.length c_30) (val_move rfl rfl) rfl rfl rfl (fun _ _ _ => trivial) ?_
                          obtain ⟨hq_62, H⟩ := Chk_elim H
                          obtain ⟨x153, hx153, H⟩ := Let_elim H
                          refine z_append (f := U8) (j := 0) (xs := x151) (ys := x7) (zs := x153) rfl rfl Try.underlying25 in5 rfl rfl rfl rfl (fun w hw => (row_w hw (j := 1) rfl)) (fun _ => rfl) hq_62 (by decide) hx153 (fun A_63 c_64 => (.row (.slice A_63 x153.length c_64) 5 1 (x153.map U8)) :: (.row (.slice A_29 x7.length c_30) 5 1 (x7.map U8)) :: (.blk g0 98 ([(.slice A_25 y0.1.length c_26 : Value)] ++ ([(.int .i64 y0.2 : Value)])) 2) :: Lr) (fun _ _ => rfl) rfl rfl rfl (fun _ _ _ _ _ => trivial) (fun A_63 c_64 hs_65 => ?_)
                          clear hx153
                          refine z_val (v := .slice A_63 x153.length c_64) (val_assign rfl rfl) rfl rfl rfl (fun _ _ _ => trivial) ?_
                          refine z_nil ?_
                          refine t_ret ?_
                          obtain rfl := Option.some.inj H
                          exact ret1 rfl (res_tmp rfl) (fun _ hw => ⟨⟨h_24, A_63, c_64, A_25, c_26⟩, rfl, ⟨hS, hs_65, hs_27, hc_28⟩, hw.selK 3 [0, 2] rfl rfl⟩)
                        ·
                          replace H := cond_t H
                          refine t_cond_true rfl ?_
                          refine t_seq ?_
                          refine t_region (fun ops hops => ?_)
                          clear hops
                          refine z_val (v := .pointer (some ⟨g0, 0, none⟩)) (val_move rfl rfl) rfl rfl rfl (fun _ _ _ => trivial) ?_
                          refine T.selK 2 [1, 0] rfl rfl ?_
                          obtain ⟨x148, hx_66, H⟩ := Option.bind_eq_some_iff.1 H
                          refine z_callG rfl Try.func75 nm75 bs75 rfl (fun w hw => rlp_writer_fail.calls (y0.1, y0.2) 2 g0 A_25 c_26 x148 hx_66 hs_27 hc_28 hw) rfl rfl rfl (fun _ _ _ _ _ => trivial) (fun g hφ => ?_)
                          obtain ⟨h_67, A_70, c_71, A_73, c_74⟩ := g
                          try dsimp only at hφ
                          obtain ⟨hS_68, hs_72, hs_75, hc_76⟩ := hφ
                          clear hx_66
                          change T 154 _ _ _
                          replace hs_27 := hs_27.up hS_68
                          refine z_val (v := .slice A_70 x148.1.length c_71) (val_assign rfl rfl) rfl rfl rfl (fun _ _ _ => trivial) ?_
                          refine z_nil ?_
                          refine t_ret ?_
                          obtain rfl := Option.some.inj H
                          exact ret1 rfl (res_tmp rfl) (fun _ hw => ⟨⟨h_67, A_70, c_71, A_73, c_74⟩, rfl, ⟨(hS.trans hS_68), hs_72, hs_75, hc_76⟩, hw.selK 3 [0, 1] rfl rfl⟩)
                    ·
                      replace H := cond_t H
                      refine t_cond_true rfl ?_
                      refine t_seq ?_
                      refine t_region (fun ops hops => ?_)
                      clear hops
                      refine z_val (v := .pointer (some ⟨g0, 0, none⟩)) (val_move rfl rfl) rfl rfl rfl (fun _ _ _ => trivial) ?_
                      refine T.selK 2 [1, 0] rfl rfl ?_
                      obtain ⟨x106, hx_77, H⟩ := Option.bind_eq_some_iff.1 H
                      refine z_callG rfl Try.func75 nm75 bs75 rfl (fun w hw => rlp_writer_fail.calls (x34, a0.2) 4 g0 A_12 c_13 x106 hx_77 hs_14 hc_15 hw) rfl rfl rfl (fun _ _ _ _ _ => trivial) (fun g hφ => ?_)
                      obtain ⟨h_78, A_81, c_82, A_84, c_85⟩ := g
                      try dsimp only at hφ
                      obtain ⟨hS_79, hs_83, hs_86, hc_87⟩ := hφ
                      clear hx_77
                      change T 154 _ _ _
                      replace hs_4 := hs_4.up hS_79
                      refine z_val (v := .slice A_81 x106.1.length c_82) (val_assign rfl rfl) rfl rfl rfl (fun _ _ _ => trivial) ?_
                      refine z_nil ?_
                      refine t_ret ?_
                      obtain rfl := Option.some.inj H
                      exact ret1 rfl (res_tmp rfl) (fun _ hw => ⟨⟨h_78, A_81, c_82, A_84, c_85⟩, rfl, ⟨hS_79, hs_83, hs_86, hc_87⟩, hw.selK 3 [0, 1] rfl rfl⟩)
                  ·
                    replace H := cond_t H
                    refine t_cond_true rfl ?_
                    refine t_seq ?_
                    refine t_plan (C := Mm w0 Ex h ((.blk g_10 60 ([(.bool x27.1 : Value)] ++ ([(.slice A_2 x27.2.1.length c_3 : Value)] ++ ([(.int .i64 x27.2.2 : Value)]))) 3) :: (.blk g0 98 ([(.slice A_12 x34.length c_13 : Value)] ++ ([(.int .i64 a0.2 : Value)])) 2) :: Lr)) [] [(0, true), (1, true), (2, true), (4, true), (5, true), (3, false), (6, false), (7, true)] (by kernel_rfl) (by kernel_rfl) (fun _ hw => hw.drew) (fun ops hops => ?_)
                    clear hops
                    refine z_still (v := .pointer (some ⟨g_10, 1, none⟩)) (val_fld0 (sz := 1) rfl rfl Try.underlying60 rfl rfl sz25 (by decide)) rfl rfl rfl (fun _ hw => hw) ?_
                    refine z_still (v := .slice A_2 x27.2.1.length c_3) (val_load1 rfl rfl Try.underlying25 rfl (fun _ hw => hw.cell (j := 0) (q := 1) rfl (cells_skip (n := 1) (k := 0) rfl (cells_here (k := 0) rfl)))) rfl rfl rfl (fun _ hw => hw) ?_
                    obtain ⟨x97, hx97, H⟩ := Let_elim H
                    refine z_still (v := .int .i64 x97) (by subst hx97; exact val_len rfl rfl rfl Try.underlying25) rfl rfl rfl (fun _ hw => hw) ?_
                    clear hx97
                    refine z_still (v := .pointer (some ⟨g_10, 1, none⟩)) (val_fld0 (sz := 1) rfl rfl Try.underlying60 rfl rfl sz25 (by decide)) rfl rfl rfl (fun _ hw => hw) ?_
                    refine z_still (v := .slice A_2 x27.2.1.length c_3) (val_load1 rfl rfl Try.underlying25 rfl (fun _ hw => hw.cell (j := 0) (q := 1) rfl (cells_skip (n := 1) (k := 0) rfl (cells_here (k := 0) rfl)))) rfl rfl rfl (fun _ hw => hw) ?_
                    obtain ⟨x98, hx_88, H⟩ := Option.bind_eq_some_iff.1 H
                    refine z_madeS (F := fun A_89 c_90 => .slice A_89 x98.length c_90) (xs := x98) rfl Try.func76 nm76 bs76 rfl (fun w hw => rlp_head.calls x97 0#8 x98 hx_88 w) rfl rfl rfl (fun _ _ _ _ hw => hw.selK 3 [1, 2] rfl rfl) (fun A_89 c_90 hs_91 => ?_)
                    clear hx_88
                    obtain ⟨hq_93, H⟩ := Chk_elim H
                    obtain ⟨x101, hx101, H⟩ := Let_elim H
                    refine z_append (f := U8) (j := 0) (xs := x98) (ys := x27.2.1) (zs := x101) rfl rfl Try.underlying25 in5 rfl rfl rfl rfl (fun w hw => (hs_4.toW hw)) (fun _ => rfl) hq_93 (by decide) hx101 (fun A_94 c_95 => (.row (.slice A_94 x101.length c_95) 5 1 (x101.map U8)) :: (.blk g_10 60 ([(.bool x27.1 : Value)] ++ ([(.slice A_2 x27.2.1.length c_3 : Value)] ++ ([(.int .i64 x27.2.2 : Value)]))) 3) :: (.blk g0 98 ([(.slice A_12 x34.length c_13 : Value)] ++ ([(.int .i64 a0.2 : Value)])) 2) :: Lr) (fun _ _ => rfl) rfl rfl rfl (fun _ _ _ _ hw => hw.selK 3 [1, 2] rfl rfl) (fun A_94 c_95 hs_96 => ?_)
                    clear hx101
                    refine z_still (v := .slice A_94 x101.length c_95) (val_assign rfl rfl) rfl rfl rfl (fun _ hw => hw.selK 3 [1, 2] rfl rfl) ?_
                    refine z_nil ?_
                    refine t_ret ?_
                    obtain rfl := Option.some.inj H
                    exact ret1 rfl (res_tmp rfl) (fun _ hw => ⟨⟨h, A_94, c_95, A_12, c_13⟩, rfl, ⟨(Sub.refl _), hs_96, hs_14, hc_15⟩, hw.selK 3 [0, 2] rfl rfl⟩)
                ·
                  replace H := cond_t H
                  refine t_cond_true rfl ?_
                  refine t_seq ?_
                  refine t_region (fun ops hops => ?_)
                  clear hops
                  refine z_val (v := .pointer (some ⟨g_10, 1, none⟩)) (val_fld0 (sz := 1) rfl rfl Try.underlying60 rfl rfl sz25 (by decide)) rfl rfl rfl (fun _ _ _ => trivial) ?_
                  refine z_val (v := .slice A_2 x27.2.1.length c_3) (val_load1 rfl rfl Try.underlying25 rfl (fun _ hw => hw.cell (j := 0) (q := 1) rfl (cells_skip (n := 1) (k := 0) rfl (cells_here (k := 0) rfl)))) rfl rfl rfl (fun _ _ _ => trivial) ?_
                  obtain ⟨hq_97, H⟩ := Chk_elim H
                  obtain ⟨b_98, o_99, hA_100, hc_101⟩ := hs_4.at_ (idx_lt hq_97)
                  refine z_val (v := .pointer (some ⟨b_98, o_99 + 0, none⟩)) (val_idxS0 rfl rfl rfl Try.underlying25 sz5 hq_97 hA_100 rfl) rfl rfl rfl (fun _ _ _ => trivial) ?_
                  obtain ⟨x89, hx89, H⟩ := Let_elim H
                  refine z_val (v := U8 x89) (by subst hx89; exact val_load1 rfl rfl Try.underlying5 rfl (fun _ hw => hc_101.cell hw)) rfl rfl rfl (fun _ _ _ => trivial) ?_
                  clear hx89
                  obtain ⟨x90, hx90, H⟩ := Let_elim H
                  have hlx90 : x90.length = 1 := by subst hx90; rfl
                  refine z_buildSlice' (e := 5) (f := U8) (xs := x90) (vs := [(0, U8 x89)]) rfl rfl (by subst hx90; intro w; kernel_rfl) hlx90 (by decide) rfl rfl rfl (fun _ _ _ _ => trivial) (fun g_102 hs_104 => ?_)
                  clear hx90 hlx90
                  refine z_val (v := .slice (some ⟨g_102, 0, none⟩) x90.length 1) (val_assign rfl rfl) rfl rfl rfl (fun _ _ _ => trivial) ?_
                  refine z_nil ?_
                  refine t_ret ?_
                  obtain rfl := Option.some.inj H
                  exact ret1 rfl (res_tmp rfl) (fun _ hw => ⟨⟨h, (some ⟨g_102, 0, none⟩), 1, A_12, c_13⟩, rfl, ⟨(Sub.refl _), hs_104, hs_14, hc_15⟩, hw.selK 3 [0, 2] rfl rfl⟩)
          ·
            replace H := cond_t H
            refine t_cond_true rfl ?_
            refine t_seq ?_
            refine t_region (fun ops hops => ?_)
            clear hops
            refine z_val (v := .pointer (some ⟨g0, 0, none⟩)) (val_move rfl rfl) rfl rfl rfl (fun _ _ _ => trivial) ?_
            refine T.selK 2 [1, 0] rfl rfl ?_
            obtain ⟨x68, hx_105, H⟩ := Option.bind_eq_some_iff.1 H
            refine z_callG rfl Try.func75 nm75 bs75 rfl (fun w hw => rlp_writer_fail.calls (x34, a0.2) 2 g0 A_12 c_13 x68 hx_105 hs_14 hc_15 hw) rfl rfl rfl (fun _ _ _ _ _ => trivial) (fun g hφ => ?_)
            obtain ⟨h_106, A_109, c_110, A_112, c_113⟩ := g
            try dsimp only at hφ
            obtain ⟨hS_107, hs_111, hs_114, hc_115⟩ := hφ
            clear hx_105
            change T 154 _ _ _
            replace hs_4 := hs_4.up hS_107
            refine z_val (v := .slice A_109 x68.1.length c_110) (val_assign rfl rfl) rfl rfl rfl (fun _ _ _ => trivial) ?_
            refine z_nil ?_
            refine t_ret ?_
            obtain rfl := Option.some.inj H
            exact ret1 rfl (res_tmp rfl) (fun _ hw => ⟨⟨h_106, A_109, c_110, A_112, c_113⟩, rfl, ⟨hS_107, hs_111, hs_114, hc_115⟩, hw.selK 3 [0, 1] rfl rfl⟩)
    ·
      replace H := cond_t H
      refine t_cond_true rfl ?_
      refine t_seq ?_
      refine t_region (fun ops hops => ?_)
      clear hops
      refine z_val (v := .pointer (some ⟨g0, 0, none⟩)) (val_move rfl rfl) rfl rfl rfl (fun _ _ _ => trivial) ?_
      obtain ⟨x22, hx_116, H⟩ := Option.bind_eq_some_iff.1 H
      refine z_callG rfl Try.func75 nm75 bs75 rfl (fun w hw => rlp_writer_fail.calls (a0.1, a0.2) 2 g0 A0 c0 x22 hx_116 hs0 hc0 hw) rfl rfl rfl (fun _ _ _ _ _ => trivial) (fun g hφ => ?_)
      obtain ⟨h_117, A_120, c_121, A_123, c_124⟩ := g
      try dsimp only at hφ
      obtain ⟨hS_118, hs_122, hs_125, hc_126⟩ := hφ
      clear hx_116
      change T 154 _ _ _
      refine z_val (v := .slice A_120 x22.1.length c_121) (val_assign rfl rfl) rfl rfl rfl (fun _ _ _ => trivial) ?_
      refine z_nil ?_
      refine t_ret ?_
      obtain rfl := Option.some.inj H
      exact ret1 rfl (res_tmp rfl) (fun _ hw => ⟨⟨h_117, A_120, c_121, A_123, c_124⟩, rfl, ⟨hS_118, hs_122, hs_125, hc_126⟩, hw⟩)
def rlp_writer_item : Nat → ((List ((Bool) × (List (BitVec 8)) × (Int))) × (Int)) → (Int) → Option ((List (BitVec 8)) × ((List ((Bool) × (List (BitVec 8)) × (Int))) × (Int)))
  | 0 => fun _ _ => none
  | k + 1 => rlp_writer_itemB (rlp_writer_item k)
theorem rlp_writer_item.calls : ∀ (k : Nat), ∀ (a0 : (List ((Bool) × (List (BitVec 8)) × (Int))) × (Int)) (a1 : Int) (g0 : Nat) (A0 : Option Addr) (c0 : Nat) (r : (List (BitVec 8)) × ((List ((Bool) × (List (BitVec 8)) × (Int))) × (Int))) (H : rlp_writer_item k a0 a1 = some r) {w0 : World} {Ex : List Nat} {h : Frag} {Lr : List Ent} {w : World} (hs0 : SlR h R60 A0 a0.1) (hc0 : a0.1.length ≤ c0)  (hM : Mm w0 Ex h ((.blk g0 98 ([(.slice A0 a0.1.length c0 : Value)] ++ ([(.int .i64 a0.2 : Value)])) 2) :: Lr) w), Calls Try.prog 53 #[.pointer (some ⟨g0, 0, none⟩), .int .i64 a1] w fun e w' => ∃ (g : (Frag) × (Option Addr) × (Nat) × (Option Addr) × (Nat)), e = .returned (.slice g.2.1 r.1.length g.2.2.1) ∧ (Sub h g.1 ∧ Shp g.2.1 r.1.length g.2.2.1 ∧ SlR g.1 R60 g.2.2.2.1 r.2.1 ∧ r.2.1.length ≤ g.2.2.2.2) ∧ Mm w0 Ex g.1 ((.row (.slice g.2.1 r.1.length g.2.2.1) 5 1 (r.1.map U8)) :: (.blk g0 98 ([(.slice g.2.2.2.1 r.2.1.length g.2.2.2.2 : Value)] ++ ([(.int .i64 r.2.2 : Value)])) 2) :: Lr) w'
  | 0 => by intro a0 a1 g0 A0 c0 r H w0 Ex h Lr w hs0 hc0 hM; exact nomatch (show (none : Option ((List (BitVec 8)) × ((List ((Bool) × (List (BitVec 8)) × (Int))) × (Int)))) = some r from H)
  | k + 1 => rlp_writer_itemB.calls (rlp_writer_item k) (rlp_writer_item.calls k)
def rlp_one.b2 (x22 : Int) (x3_26 : List (Int)) : Option (Ctl ((List (Int))) (Bool)) :=
  Let ((x3_26.length : Int)) fun x28 => Let (decide (0 < x28)) fun x29 => (bif x29 then Let ((x3_26.length : Int)) fun x33 => Let (wi (x33 - 1)) fun x34 => Chk ((0 : Int) ≤ x34 ∧ x34 < (x3_26.length : Int)) <| Let (lget x3_26 x34.toNat) fun x36 => Let (x36 == x22) fun x38 => some x38 else some false).bind (fun x39 => (bif x39 then Let ((x3_26.length : Int)) fun x42 => Let (wi (x42 - 1)) fun x43 => Chk ((0 : Int) ≤ x43 ∧ x43 ≤ (x3_26.length : Int)) <| Let (x3_26.take x43.toNat) fun x44 => some (.next x44) else some (.brk x3_26)))
def rlp_one.b1 (x21 : Int) (a0 : List ((Bool) × (List (BitVec 8)) × (Int))) (x3 : List (Int)) (x22 : Int) : Option (Ctl ((List (Int)) × (Int)) (Bool)) :=
  Let (decide (x22 < x21)) fun x23 => (bif x23 then Chk ((0 : Int) ≤ x22 ∧ x22 < (a0.length : Int)) <| Let (lget a0 x22.toNat) fun x25 => (wlx (σ := (List (Int))) (fun s => rlp_one.b2 x22 s) x3).bind (Sum.elim (fun x3_26 => Let (!x25.1) fun x47 => (bif x47 then Let (x25.2.2 != 0) fun x51 => some x51 else some false).bind (fun x52 => (bif x52 then some true else (bif x25.1 then Let ((x25.2.1.length : Int)) fun x59 => Let (decide (0 < x59)) fun x60 => some x60 else some false).bind (fun x61 => some x61)).bind (fun x62 => (bif x62 then some true else Let (decide (x25.2.2 < 0)) fun x66 => some x66).bind (fun x67 => (bif x67 then some true else Let ((a0.length : Int)) fun x72 => Let (wi (x72 - 1)) fun x73 => Let (wi (x73 - x22)) fun x75 => Let (decide (x75 < x25.2.2)) fun x76 => some x76).bind (fun x77 => (bif x77 then some (.ret false) else Let (wi (x22 + 1)) fun x79 => Let (wi (x79 + x25.2.2)) fun x82 => Let ((x3_26.length : Int)) fun x84 => Let (decide (0 < x84)) fun x85 => (bif x85 then Let ((x3_26.length : Int)) fun x90 => Let (wi (x90 - 1)) fun x91 => Chk ((0 : Int) ≤ x91 ∧ x91 < (x3_26.length : Int)) <| Let (lget x3_26 x91.toNat) fun x93 => Let (decide (x93 < x82)) fun x94 => some x94 else some false).bind (fun x95 => (bif x95 then some (.ret false) else Let ([x82]) fun x98 => Chk ((x3_26.length + x98.length) * 8 ≤ 140737488355328) <| Let (x3_26 ++ x98) fun x99 => Let (wi (x22 + 1)) fun x100 => some (.next (x99, x100)))))))))) (fun r => some (.ret r))) else some (.brk (x3, x22)))
def rlp_one (a0 : List ((Bool) × (List (BitVec 8)) × (Int))) : Option (Bool) :=
  Let ((a0.length : Int)) fun x8 => Let (x8 == 0) fun x9 => (bif x9 then some true else Chk ((0 : Int) ≤ 0 ∧ 0 < (a0.length : Int)) <| Let (lget a0 0) fun x12 => Let ((a0.length : Int)) fun x16 => Let (wi (x16 - 1)) fun x17 => Let (x12.2.2 != x17) fun x18 => some x18).bind (fun x19 => (bif x19 then some false else Let ((a0.length : Int)) fun x21 => (wlx (σ := (List (Int)) × (Int)) (fun s => rlp_one.b1 x21 a0 s.1 s.2) (([] : List (Int)), 0)).bind (Sum.elim (fun s => (fun x3 x22 => some true) s.1 s.2) (fun r => some r))))
set_option maxRecDepth 100000 in
set_option maxHeartbeats 4000000 in
theorem rlp_one.calls  (a0 : List ((Bool) × (List (BitVec 8)) × (Int))) (A0 : Option Addr) (c0 : Nat) (r : Bool) (H : rlp_one a0 = some r) (w : World) (hs0 : SlRW w R60 A0 a0) (hc0 : a0.length ≤ c0)  :
    Made Try.prog 52 #[.slice A0 a0.length c0] w (.bool r) := by
  unfold rlp_one at H
  replace hs0 := hs0.toH
  have hM := Mm.start w (snap w) (snap_ok w)
  generalize snap w = h at *
  refine t_enter (vs := [.slice A0 a0.length c0]) (n := 101) Try.func52 rfl rfl rfl hM ?_
  clear hM
  change T 101 _ _ _
  refine t_seq ?_
  refine t_region (fun ops hops => ?_)
  clear hops
  refine z_val (v := .bool false) (val_assign rfl rfl) rfl rfl rfl (fun _ _ _ => trivial) ?_
  refine z_nil ?_
  refine t_seq ?_
  refine t_seq ?_
  refine t_region (fun ops hops => ?_)
  refine z_val (v := .slice A0 a0.length c0) (val_move rfl rfl) rfl rfl rfl (fun _ _ _ => trivial) ?_
  obtain ⟨x8, hx8, H⟩ := Let_elim H
  refine z_val (v := .int .i64 x8) (by subst hx8; exact val_len rfl rfl rfl Try.underlying46) rfl rfl rfl (fun _ _ _ => trivial) ?_
  clear hx8
  obtain ⟨x9, hx9, H⟩ := Let_elim H
  refine z_val (v := .bool x9) (by subst hx9; exact val_bin rfl rfl rfl rfl (i64_eql _ _ _)) rfl rfl rfl (fun _ _ _ => trivial) ?_
  clear hx9
  refine z_val (v := .bool x9) (val_move rfl rfl) rfl rfl rfl (fun _ _ _ => trivial) ?_
  refine z_bind H 9 (fun (s : Bool) (_ : Unit) => [(0, .slice A0 a0.length c0), (19, .bool s)]) (fun _ _ => Mm w [] h []) (fun _ _ => True) (fun Gr K s he HJ => ?_) (fun s g HB _ => ?_)
  ·
    clear H
    cases x9
    ·
      have H := cond_f he
      clear he
      refine z_val (v := .slice A0 a0.length c0) (val_move rfl rfl) rfl rfl (by rw [hops]; rfl) (fun _ _ _ => trivial) ?_
      obtain ⟨hq_1, H⟩ := Chk_elim H
      obtain ⟨x12, hx12, H⟩ := Let_elim H
      obtain ⟨b_7, o_8, hA_9, cs, hr, hc_6⟩ := hs0.at_ (show 0 < a0.length from (idx_lt hq_1))
      rw [← hx12] at hr
      clear hx12
      obtain ⟨A_2, c_3, rfl, hs_4, hc_5⟩ := hr
      refine z_val (v := .pointer (some ⟨b_7, o_8 + 0 * 3, none⟩)) (val_idxR rfl rfl rfl Try.underlying46 sz60 hq_1 hA_9 rfl) rfl rfl (by rw [hops]; rfl) (fun _ _ _ => trivial) ?_
      refine z_val (v := .pointer (some ⟨b_7, o_8 + 0 * 3 + 2, none⟩)) (val_fldB (sz := 1) rfl rfl Try.underlying60 rfl rfl sz3 (by decide)) rfl rfl (by rw [hops]; rfl) (fun _ _ _ => trivial) ?_
      refine z_val (v := .int .i64 x12.2.2) (val_load1 rfl rfl Try.underlying3 rfl (fun _ hw => cell_of hc_6 (k := 2) (cells_skip (n := 1) (k := 1) rfl (cells_skip (n := 1) (k := 0) rfl rfl)) hw)) rfl rfl (by rw [hops]; rfl) (fun _ _ _ => trivial) ?_
      refine z_val (v := .slice A0 a0.length c0) (val_move rfl rfl) rfl rfl (by rw [hops]; rfl) (fun _ _ _ => trivial) ?_
      obtain ⟨x16, hx16, H⟩ := Let_elim H
      refine z_val (v := .int .i64 x16) (by subst hx16; exact val_len rfl rfl rfl Try.underlying46) rfl rfl (by rw [hops]; rfl) (fun _ _ _ => trivial) ?_
      clear hx16
      obtain ⟨x17, hx17, H⟩ := Let_elim H
      refine z_val (v := .int .i64 x17) (by subst hx17; exact val_bin rfl rfl rfl rfl (i64_sub _ _ _)) rfl rfl (by rw [hops]; rfl) (fun _ _ _ => trivial) ?_
      clear hx17
      obtain ⟨x18, hx18, H⟩ := Let_elim H
      refine z_val (v := .bool x18) (by subst hx18; exact val_bin rfl rfl rfl rfl (i64_neq _ _ _)) rfl rfl (by rw [hops]; rfl) (fun _ _ _ => trivial) ?_
      clear hx18
      refine z_val (v := .bool x18) (val_pick rfl rfl rfl) rfl rfl rfl (fun _ _ _ => trivial) ?_
      obtain rfl := Option.some.inj H
      exact z_nil ((K _ () HJ trivial).weak (fun a ha => ha.cons rfl (ha.cons rfl (ha.nil))) (fun w hw => hw))
    ·
      have H := cond_t he
      clear he
      refine z_skip rfl rfl (by rw [hops]; rfl) (fun _ _ _ => trivial) ?_
      refine z_skip rfl rfl (by rw [hops]; rfl) (fun _ _ _ => trivial) ?_
      refine z_skip rfl rfl (by rw [hops]; rfl) (fun _ _ _ => trivial) ?_
      refine z_skip rfl rfl (by rw [hops]; rfl) (fun _ _ _ => trivial) ?_
      refine z_skip rfl rfl (by rw [hops]; rfl) (fun _ _ _ => trivial) ?_
      refine z_skip rfl rfl (by rw [hops]; rfl) (fun _ _ _ => trivial) ?_
      refine z_skip rfl rfl (by rw [hops]; rfl) (fun _ _ _ => trivial) ?_
      refine z_skip rfl rfl (by rw [hops]; rfl) (fun _ _ _ => trivial) ?_
      refine z_val (v := .bool true) (val_pick rfl rfl rfl) rfl rfl rfl (fun _ _ _ => trivial) ?_
      obtain rfl := Option.some.inj H
      exact z_nil ((K _ () HJ trivial).weak (fun a ha => ha.cons rfl (ha.cons rfl (ha.nil))) (fun w hw => hw))
  ·
    replace H := HB
    clear HB
    obtain ⟨x19, rfl⟩ : ∃ x, x = s := ⟨_, rfl⟩
    change T 101 _ _ _
    refine z_nil ?_
    cases x19
    ·
      replace H := cond_f H
      refine t_cond_false rfl ?_
      refine t_skip ?_
      refine t_seq ?_
      refine t_region (fun ops hops => ?_)
      clear hops
      refine z_val (v := .slice none 0 0) (val_assign rfl rfl) rfl rfl rfl (fun _ _ _ => trivial) ?_
      refine z_nil ?_
      refine t_seq ?_
      refine t_seq ?_
      refine t_region (fun ops hops => ?_)
      clear hops
      refine z_val (v := .slice A0 a0.length c0) (val_move rfl rfl) rfl rfl rfl (fun _ _ _ => trivial) ?_
      obtain ⟨x21, hx21, H⟩ := Let_elim H
      refine z_val (v := .int .i64 x21) (by subst hx21; exact val_len rfl rfl rfl Try.underlying46) rfl rfl rfl (fun _ _ _ => trivial) ?_
      clear hx21
      refine z_val (v := .int .i64 0) (val_move rfl rfl) rfl rfl rfl (fun _ _ _ => trivial) ?_
      refine z_nil ?_
      refine t_block ?_
      refine t_nil (e := 3) (sz := 1) ?_
      obtain ⟨z1, hz1, HK1⟩ := Option.bind_eq_some_iff.1 H
      clear H
      refine t_while hz1 (fun (s : (List (Int)) × (Int)) (g : (Option Addr) × (Nat)) => [(0, .slice A0 a0.length c0), (3, .slice g.1 s.1.length g.2), (20, .slice A0 a0.length c0), (21, .int .i64 x21), (22, .int .i64 s.2)]) (fun (s : (List (Int)) × (Int)) (g : (Option Addr) × (Nat)) => []) (fun (s : (List (Int)) × (Int)) (g : (Option Addr) × (Nat)) => Mm w [] h [.row (.slice g.1 s.1.length g.2) 3 1 (s.1.map (Value.int .i64))]) (fun (s : (List (Int)) × (Int)) (g : (Option Addr) × (Nat)) => Mm w [] h []) (fun (s : (List (Int)) × (Int)) (g : (Option Addr) × (Nat)) => Shp g.1 s.1.length g.2) (fun (s : (List (Int)) × (Int)) (g : (Option Addr) × (Nat)) => Shp g.1 s.1.length g.2) ⟨none, 0⟩ Shp.none_ (fun a w ha hw => ⟨ha.cons rfl (ha.cons rfl (ha.cons rfl (ha.cons rfl (ha.cons rfl (ha.nil))))), hw⟩) (fun Gn Gb s g e hφ H hn1 hb1 hr1 => ?_) (fun s g hzz hφ => ?_)
      ·
        obtain ⟨x3, x22⟩ := s
        obtain ⟨A_11, c_12⟩ := g
        try dsimp only at hφ
        have hs_13 := hφ; clear hφ
        change rlp_one.b1 x21 a0 x3 x22 = some e at H
        unfold rlp_one.b1 at H
        clear hz1
        change T 101 _ _ _
        refine t_seq ?_
        refine t_region (fun ops hops => ?_)
        clear hops
        obtain ⟨x23, hx23, H⟩ := Let_elim H
        refine z_val (v := .bool x23) (by subst hx23; exact val_bin rfl rfl rfl rfl (i64_lss _ _ _)) rfl rfl rfl (fun _ _ _ => trivial) ?_
        clear hx23
        refine z_nil ?_
        refine t_seq ?_
        cases x23
        ·
          replace H := cond_f H
          refine t_cond_false rfl ?_
          refine t_exit rfl ?_
          obtain rfl := Option.some.inj H
          exact t_reach ((hb1 _ ⟨A_11, c_12⟩ rfl hs_13).weak (fun a ha => ha.nil) (fun w hw => hw.sel [] rfl rfl))
        ·
          replace H := cond_t H
          refine t_cond_true rfl ?_
          refine t_skip ?_
          refine t_seq ?_
          refine t_block ?_
          refine t_seq ?_
          refine t_region (fun ops hops => ?_)
          clear hops
          refine z_val (v := .int .i64 x22) (val_move rfl rfl) rfl rfl rfl (fun _ _ _ => trivial) ?_
          obtain ⟨hq_14, H⟩ := Chk_elim H
          obtain ⟨x25, hx25, H⟩ := Let_elim H
          obtain ⟨b_21, o_22, hA_23, cs_24, hr_19, hc_20⟩ := hs0.at_ (show x22.toNat < a0.length from (idx_lt hq_14))
          rw [← hx25] at hr_19
          clear hx25
          obtain ⟨A_15, c_16, rfl, hs_17, hc_18⟩ := hr_19
          refine z_val (v := .pointer (some ⟨b_21, o_22 + x22.toNat * 3, none⟩)) (val_idxR rfl rfl rfl Try.underlying46 sz60 hq_14 hA_23 rfl) rfl rfl rfl (fun _ _ _ => trivial) ?_
          refine z_val (v := .agg ([(.bool x25.1 : Value)] ++ ([(.slice A_15 x25.2.1.length c_16 : Value)] ++ ([(.int .i64 x25.2.2 : Value)]))).toArray) (val_loadR (off := o_22 + x22.toNat * 3) (cs := [(.bool x25.1 : Value)] ++ ([(.slice A_15 x25.2.1.length c_16 : Value)] ++ ([(.int .i64 x25.2.2 : Value)]))) rfl rfl Try.underlying60 rfl (sz60.trans (congrArg some (Eq.symm (by simp [cV_len])))) (fun _ hw => range_of hc_20 (k := 0) seg_all hw)) rfl rfl rfl (fun _ _ _ => trivial) ?_
          refine z_alloc (cs := [(.bool false : Value)] ++ ([(.slice none ([] : List (BitVec 8)).length 0 : Value)] ++ ([(.int .i64 0 : Value)]))) (room := 3) rfl ze60 rfl (by simp [cV_len]) rfl rfl rfl (fun _ _ _ _ => trivial) (fun g_25 => ?_)
          refine z_val (v := .int .i64 x22) (val_assign rfl rfl) rfl rfl rfl (fun _ _ _ => trivial) ?_
          refine z_storeA (j := 0) (cs' := [(.bool x25.1 : Value)] ++ ([(.slice A_15 x25.2.1.length c_16 : Value)] ++ ([(.int .i64 x25.2.2 : Value)]))) (L' := [.blk g_25 60 ([(.bool x25.1 : Value)] ++ ([(.slice A_15 x25.2.1.length c_16 : Value)] ++ ([(.int .i64 x25.2.2 : Value)]))) 3, .row (.slice A_11 x3.length c_12) 3 1 (x3.map (Value.int .i64))]) rfl rfl rfl (one_app one_one (one_app one_one one_one)) sz60 rfl (by simp [cV_len]) rfl rfl rfl (fun _ _ _ => trivial) ?_
          refine z_nil ?_
          refine t_seq ?_
          refine t_block ?_
          obtain ⟨z2, hz2, HK2⟩ := Option.bind_eq_some_iff.1 H
          clear H
          refine t_while hz2 (fun (s : (List (Int))) (g : (Option Addr) × (Nat)) => [(0, .slice A0 a0.length c0), (3, .slice g.1 s.length g.2), (4, .int .i64 x22), (5, .pointer (some ⟨g_25, 0, none⟩)), (20, .slice A0 a0.length c0), (21, .int .i64 x21), (22, .int .i64 x22)]) (fun (s : (List (Int))) (g : (Option Addr) × (Nat)) => [(0, .slice A0 a0.length c0), (3, .slice g.1 s.length g.2), (4, .int .i64 x22), (5, .pointer (some ⟨g_25, 0, none⟩)), (20, .slice A0 a0.length c0), (21, .int .i64 x21), (22, .int .i64 x22)]) (fun (s : (List (Int))) (g : (Option Addr) × (Nat)) => Mm w [] h [.blk g_25 60 ([(.bool x25.1 : Value)] ++ ([(.slice A_15 x25.2.1.length c_16 : Value)] ++ ([(.int .i64 x25.2.2 : Value)]))) 3, .row (.slice g.1 s.length g.2) 3 1 (s.map (Value.int .i64))]) (fun (s : (List (Int))) (g : (Option Addr) × (Nat)) => Mm w [] h [.blk g_25 60 ([(.bool x25.1 : Value)] ++ ([(.slice A_15 x25.2.1.length c_16 : Value)] ++ ([(.int .i64 x25.2.2 : Value)]))) 3, .row (.slice g.1 s.length g.2) 3 1 (s.map (Value.int .i64))]) (fun (s : (List (Int))) (g : (Option Addr) × (Nat)) => Shp g.1 s.length g.2) (fun (s : (List (Int))) (g : (Option Addr) × (Nat)) => Shp g.1 s.length g.2) ⟨A_11, c_12⟩ hs_13 (fun a w ha hw => ⟨ha.cons rfl (ha.cons rfl (ha.cons rfl (ha.cons rfl (ha.cons rfl (ha.cons rfl (ha.cons rfl (ha.nil))))))), hw⟩) (fun Gn Gb s g e hφ H hn2 hb2 hr2 => ?_) (fun s g hzz hφ => ?_)
          ·
            obtain ⟨x3_26, rfl⟩ : ∃ x, x = s := ⟨_, rfl⟩
            obtain ⟨A_27, c_28⟩ := g
            try dsimp only at hφ
            have hs_29 := hφ; clear hφ
            change rlp_one.b2 x22 x3_26 = some e at H
            unfold rlp_one.b2 at H
            clear hz2
            change T 101 _ _ _
            refine t_seq ?_
            refine t_seq ?_
            refine t_region (fun ops hops => ?_)
            refine z_val (v := .slice A_27 x3_26.length c_28) (val_move rfl rfl) rfl rfl rfl (fun _ _ _ => trivial) ?_
            obtain ⟨x28, hx28, H⟩ := Let_elim H
            refine z_val (v := .int .i64 x28) (by subst hx28; exact val_len rfl rfl rfl Try.underlying37) rfl rfl rfl (fun _ _ _ => trivial) ?_
            clear hx28
            obtain ⟨x29, hx29, H⟩ := Let_elim H
            refine z_val (v := .bool x29) (by subst hx29; exact val_bin rfl rfl rfl rfl (i64_gtr _ _ _)) rfl rfl rfl (fun _ _ _ => trivial) ?_
            clear hx29
            refine z_val (v := .bool x29) (val_move rfl rfl) rfl rfl rfl (fun _ _ _ => trivial) ?_
            refine z_bind H 9 (fun (s : Bool) (_ : Unit) => [(0, .slice A0 a0.length c0), (3, .slice A_27 x3_26.length c_28), (4, .int .i64 x22), (5, .pointer (some ⟨g_25, 0, none⟩)), (20, .slice A0 a0.length c0), (21, .int .i64 x21), (22, .int .i64 x22), (39, .bool s)]) (fun _ _ => Mm w [] h [.blk g_25 60 ([(.bool x25.1 : Value)] ++ ([(.slice A_15 x25.2.1.length c_16 : Value)] ++ ([(.int .i64 x25.2.2 : Value)]))) 3, .row (.slice A_27 x3_26.length c_28) 3 1 (x3_26.map (Value.int .i64))]) (fun _ _ => True) (fun Gr K s he HJ => ?_) (fun s g HB _ => ?_)
            ·
              clear H
              cases x29
              ·
                have H := cond_f he
                clear he
                refine z_skip rfl rfl (by rw [hops]; rfl) (fun _ _ _ => trivial) ?_
                refine z_skip rfl rfl (by rw [hops]; rfl) (fun _ _ _ => trivial) ?_
                refine z_skip rfl rfl (by rw [hops]; rfl) (fun _ _ _ => trivial) ?_
                refine z_skip rfl rfl (by rw [hops]; rfl) (fun _ _ _ => trivial) ?_
                refine z_skip rfl rfl (by rw [hops]; rfl) (fun _ _ _ => trivial) ?_
                refine z_skip rfl rfl (by rw [hops]; rfl) (fun _ _ _ => trivial) ?_
                refine z_skip rfl rfl (by rw [hops]; rfl) (fun _ _ _ => trivial) ?_
                refine z_skip rfl rfl (by rw [hops]; rfl) (fun _ _ _ => trivial) ?_
                refine z_val (v := .bool false) (val_pick rfl rfl rfl) rfl rfl rfl (fun _ _ _ => trivial) ?_
                obtain rfl := Option.some.inj H
                exact z_nil ((K _ () HJ trivial).weak (fun a ha => ha.cons rfl (ha.cons rfl (ha.cons rfl (ha.cons rfl (ha.cons rfl (ha.cons rfl (ha.cons rfl (ha.cons rfl (ha.nil))))))))) (fun w hw => hw))
              ·
                have H := cond_t he
                clear he
                refine z_val (v := .slice A_27 x3_26.length c_28) (val_move rfl rfl) rfl rfl (by rw [hops]; rfl) (fun _ _ _ => trivial) ?_
                refine z_val (v := .slice A_27 x3_26.length c_28) (val_move rfl rfl) rfl rfl (by rw [hops]; rfl) (fun _ _ _ => trivial) ?_
                obtain ⟨x33, hx33, H⟩ := Let_elim H
                refine z_val (v := .int .i64 x33) (by subst hx33; exact val_len rfl rfl rfl Try.underlying37) rfl rfl (by rw [hops]; rfl) (fun _ _ _ => trivial) ?_
                clear hx33
                obtain ⟨x34, hx34, H⟩ := Let_elim H
                refine z_val (v := .int .i64 x34) (by subst hx34; exact val_bin rfl rfl rfl rfl (i64_sub _ _ _)) rfl rfl (by rw [hops]; rfl) (fun _ _ _ => trivial) ?_
                clear hx34
                obtain ⟨hq_30, H⟩ := Chk_elim H
                obtain ⟨g_31, hA_32⟩ := hs_29.blk (by omega)
                refine z_val (v := .pointer (some ⟨g_31, x34.toNat, none⟩)) (val_idxS1 rfl rfl rfl Try.underlying37 sz3 hq_30 hA_32 rfl) rfl rfl (by rw [hops]; rfl) (fun _ _ _ => trivial) ?_
                obtain ⟨x36, hx36, H⟩ := Let_elim H
                refine z_val (v := .int .i64 x36) (by subst hx36; exact val_load1 rfl rfl Try.underlying3 rfl (fun _ hw => row_cell' hw (j := 1) rfl hA_32 (idx_lt hq_30))) rfl rfl (by rw [hops]; rfl) (fun _ _ _ => trivial) ?_
                clear hx36
                refine z_val (v := .int .i64 x22) (val_move rfl rfl) rfl rfl (by rw [hops]; rfl) (fun _ _ _ => trivial) ?_
                obtain ⟨x38, hx38, H⟩ := Let_elim H
                refine z_val (v := .bool x38) (by subst hx38; exact val_bin rfl rfl rfl rfl (i64_eql _ _ _)) rfl rfl (by rw [hops]; rfl) (fun _ _ _ => trivial) ?_
                clear hx38
                refine z_val (v := .bool x38) (val_pick rfl rfl rfl) rfl rfl rfl (fun _ _ _ => trivial) ?_
                obtain rfl := Option.some.inj H
                exact z_nil ((K _ () HJ trivial).weak (fun a ha => ha.cons rfl (ha.cons rfl (ha.cons rfl (ha.cons rfl (ha.cons rfl (ha.cons rfl (ha.cons rfl (ha.cons rfl (ha.nil))))))))) (fun w hw => hw))
            ·
              replace H := HB
              clear HB
              obtain ⟨x39, rfl⟩ : ∃ x, x = s := ⟨_, rfl⟩
              change T 101 _ _ _
              refine z_nil ?_
              cases x39
              ·
                replace H := cond_f H
                refine t_cond_false rfl ?_
                refine t_exit rfl ?_
                obtain rfl := Option.some.inj H
                exact t_reach ((hb2 _ ⟨A_27, c_28⟩ rfl hs_29).weak (fun a ha => ha.cons rfl (ha.cons rfl (ha.cons rfl (ha.cons rfl (ha.cons rfl (ha.cons rfl (ha.cons rfl (ha.nil)))))))) (fun w hw => hw))
              ·
                replace H := cond_t H
                refine t_cond_true rfl ?_
                refine t_skip ?_
                refine t_block ?_
                refine t_region (fun ops hops => ?_)
                clear hops
                refine z_val (v := .slice A_27 x3_26.length c_28) (val_move rfl rfl) rfl rfl rfl (fun _ _ _ => trivial) ?_
                refine z_val (v := .slice A_27 x3_26.length c_28) (val_move rfl rfl) rfl rfl rfl (fun _ _ _ => trivial) ?_
                obtain ⟨x42, hx42, H⟩ := Let_elim H
                refine z_val (v := .int .i64 x42) (by subst hx42; exact val_len rfl rfl rfl Try.underlying37) rfl rfl rfl (fun _ _ _ => trivial) ?_
                clear hx42
                obtain ⟨x43, hx43, H⟩ := Let_elim H
                refine z_val (v := .int .i64 x43) (by subst hx43; exact val_bin rfl rfl rfl rfl (i64_sub _ _ _)) rfl rfl rfl (fun _ _ _ => trivial) ?_
                clear hx43
                obtain ⟨hq_33, H⟩ := Chk_elim H
                obtain ⟨x44, hx44, H⟩ := Let_elim H
                have hl : x44.length = x43.toNat := by subst hx44; rw [List.length_take]; omega
                have hs_34 : Shp A_27 x44.length c_28 := by rw [hl]; exact hs_29.take (by omega)
                refine z_val (v := .slice A_27 x44.length c_28) (val_sliceHz rfl rfl rfl Try.underlying37 sz3 hq_33.1 (by have := hs_29.le; omega) (by rw [hl, own_cut hs_29]; rfl)) rfl rfl rfl (fun _ _ _ => trivial) ?_
                refine z_val (v := .slice A_27 x44.length c_28) (val_assign rfl rfl) rfl rfl rfl (fun _ _ _ => trivial) ?_
                refine z_nil ?_
                refine t_trunc (f := (Value.int .i64)) (j := 1) (ys := x44) rfl (by omega) hx44 (L' := [.blk g_25 60 ([(.bool x25.1 : Value)] ++ ([(.slice A_15 x25.2.1.length c_16 : Value)] ++ ([(.int .i64 x25.2.2 : Value)]))) 3, .row (.slice A_27 x44.length c_28) 3 1 (x44.map (Value.int .i64))]) rfl ?_
                refine t_fin ?_
                obtain rfl := Option.some.inj H
                exact t_reach ((hn2 _ ⟨A_27, c_28⟩ rfl hs_34).weak (fun a ha => ha.cons rfl (ha.cons rfl (ha.cons rfl (ha.cons rfl (ha.cons rfl (ha.cons rfl (ha.cons rfl (ha.nil)))))))) (fun w hw => hw))
          ·
            obtain ⟨x3_26, rfl⟩ : ∃ x, x = s := ⟨_, rfl⟩
            obtain ⟨A_27, c_28⟩ := g
            try dsimp only at hφ
            have hs_29 := hφ; clear hφ
            subst hzz
            have H := HK2
            clear HK2 hz2
            replace H := sum_l H
            try dsimp only at H
            change T 101 _ _ _
            refine t_seq ?_
            refine t_seq ?_
            refine t_region (fun ops hops => ?_)
            refine z_val (v := .pointer (some ⟨g_25, 0, none⟩)) (val_fld0 (sz := 1) rfl rfl Try.underlying60 rfl rfl sz4 (by decide)) rfl rfl rfl (fun _ _ _ => trivial) ?_
            refine z_val (v := .bool x25.1) (val_load1 rfl rfl Try.underlying4 rfl (fun _ hw => hw.cell (j := 0) (q := 0) rfl (cells_here (k := 0) rfl))) rfl rfl rfl (fun _ _ _ => trivial) ?_
            obtain ⟨x47, hx47, H⟩ := Let_elim H
            refine z_val (v := .bool x47) (by subst hx47; exact val_un rfl rfl (bool_not _)) rfl rfl rfl (fun _ _ _ => trivial) ?_
            clear hx47
            refine z_val (v := .bool x47) (val_move rfl rfl) rfl rfl rfl (fun _ _ _ => trivial) ?_
            refine z_bind H 4 (fun (s : Bool) (_ : Unit) => [(0, .slice A0 a0.length c0), (3, .slice A_27 x3_26.length c_28), (4, .int .i64 x22), (5, .pointer (some ⟨g_25, 0, none⟩)), (20, .slice A0 a0.length c0), (21, .int .i64 x21), (22, .int .i64 x22), (52, .bool s)]) (fun _ _ => Mm w [] h [.blk g_25 60 ([(.bool x25.1 : Value)] ++ ([(.slice A_15 x25.2.1.length c_16 : Value)] ++ ([(.int .i64 x25.2.2 : Value)]))) 3, .row (.slice A_27 x3_26.length c_28) 3 1 (x3_26.map (Value.int .i64))]) (fun _ _ => True) (fun Gr K s he HJ => ?_) (fun s g HB _ => ?_)
            ·
              clear H
              cases x47
              ·
                have H := cond_f he
                clear he
                refine z_skip rfl rfl (by rw [hops]; rfl) (fun _ _ _ => trivial) ?_
                refine z_skip rfl rfl (by rw [hops]; rfl) (fun _ _ _ => trivial) ?_
                refine z_skip rfl rfl (by rw [hops]; rfl) (fun _ _ _ => trivial) ?_
                refine z_val (v := .bool false) (val_pick rfl rfl rfl) rfl rfl rfl (fun _ _ _ => trivial) ?_
                obtain rfl := Option.some.inj H
                exact z_nil ((K _ () HJ trivial).weak (fun a ha => ha.cons rfl (ha.cons rfl (ha.cons rfl (ha.cons rfl (ha.cons rfl (ha.cons rfl (ha.cons rfl (ha.cons rfl (ha.nil))))))))) (fun w hw => hw))
              ·
                have H := cond_t he
                clear he
                refine z_val (v := .pointer (some ⟨g_25, 2, none⟩)) (val_fld0 (sz := 1) rfl rfl Try.underlying60 rfl rfl sz3 (by decide)) rfl rfl (by rw [hops]; rfl) (fun _ _ _ => trivial) ?_
                refine z_val (v := .int .i64 x25.2.2) (val_load1 rfl rfl Try.underlying3 rfl (fun _ hw => hw.cell (j := 0) (q := 2) rfl (cells_skip (n := 1) (k := 1) rfl (cells_skip (n := 1) (k := 0) rfl rfl)))) rfl rfl (by rw [hops]; rfl) (fun _ _ _ => trivial) ?_
                obtain ⟨x51, hx51, H⟩ := Let_elim H
                refine z_val (v := .bool x51) (by subst hx51; exact val_bin rfl rfl rfl rfl (i64_neq _ _ _)) rfl rfl (by rw [hops]; rfl) (fun _ _ _ => trivial) ?_
                clear hx51
                refine z_val (v := .bool x51) (val_pick rfl rfl rfl) rfl rfl rfl (fun _ _ _ => trivial) ?_
                obtain rfl := Option.some.inj H
                exact z_nil ((K _ () HJ trivial).weak (fun a ha => ha.cons rfl (ha.cons rfl (ha.cons rfl (ha.cons rfl (ha.cons rfl (ha.cons rfl (ha.cons rfl (ha.cons rfl (ha.nil))))))))) (fun w hw => hw))
            ·
              replace H := HB
              clear HB
              obtain ⟨x52, rfl⟩ : ∃ x, x = s := ⟨_, rfl⟩
              change T 101 _ _ _
              refine z_val (v := .bool x52) (val_move rfl rfl) rfl rfl rfl (fun _ _ _ => trivial) ?_
              refine z_bind H 9 (fun (s : Bool) (_ : Unit) => [(0, .slice A0 a0.length c0), (3, .slice A_27 x3_26.length c_28), (4, .int .i64 x22), (5, .pointer (some ⟨g_25, 0, none⟩)), (20, .slice A0 a0.length c0), (21, .int .i64 x21), (22, .int .i64 x22), (62, .bool s)]) (fun _ _ => Mm w [] h [.blk g_25 60 ([(.bool x25.1 : Value)] ++ ([(.slice A_15 x25.2.1.length c_16 : Value)] ++ ([(.int .i64 x25.2.2 : Value)]))) 3, .row (.slice A_27 x3_26.length c_28) 3 1 (x3_26.map (Value.int .i64))]) (fun _ _ => True) (fun Gr K s he HJ => ?_) (fun s g HB _ => ?_)
              ·
                clear H
                cases x52
                ·
                  have H := cond_f he
                  clear he
                  refine z_val (v := .pointer (some ⟨g_25, 0, none⟩)) (val_fld0 (sz := 1) rfl rfl Try.underlying60 rfl rfl sz4 (by decide)) rfl rfl (by rw [hops]; rfl) (fun _ _ _ => trivial) ?_
                  refine z_val (v := .bool x25.1) (val_load1 rfl rfl Try.underlying4 rfl (fun _ hw => hw.cell (j := 0) (q := 0) rfl (cells_here (k := 0) rfl))) rfl rfl (by rw [hops]; rfl) (fun _ _ _ => trivial) ?_
                  refine z_val (v := .bool x25.1) (val_move rfl rfl) rfl rfl (by rw [hops]; rfl) (fun _ _ _ => trivial) ?_
                  refine z_bind H 5 (fun (s : Bool) (_ : Unit) => [(0, .slice A0 a0.length c0), (3, .slice A_27 x3_26.length c_28), (4, .int .i64 x22), (5, .pointer (some ⟨g_25, 0, none⟩)), (20, .slice A0 a0.length c0), (21, .int .i64 x21), (22, .int .i64 x22), (53, .bool false), (61, .bool s)]) (fun _ _ => Mm w [] h [.blk g_25 60 ([(.bool x25.1 : Value)] ++ ([(.slice A_15 x25.2.1.length c_16 : Value)] ++ ([(.int .i64 x25.2.2 : Value)]))) 3, .row (.slice A_27 x3_26.length c_28) 3 1 (x3_26.map (Value.int .i64))]) (fun _ _ => True) (fun Gr K s he HJ => ?_) (fun s g HB _ => ?_)
                  ·
                    clear H
                    generalize x25.1 = bb at *
                    cases bb
                    ·
                      have H := cond_f he
                      clear he
                      refine z_skip rfl rfl (by rw [hops]; rfl) (fun _ _ _ => trivial) ?_
                      refine z_skip rfl rfl (by rw [hops]; rfl) (fun _ _ _ => trivial) ?_
                      refine z_skip rfl rfl (by rw [hops]; rfl) (fun _ _ _ => trivial) ?_
                      refine z_skip rfl rfl (by rw [hops]; rfl) (fun _ _ _ => trivial) ?_
                      refine z_val (v := .bool false) (val_pick rfl rfl rfl) rfl rfl (by rw [hops]; rfl) (fun _ _ _ => trivial) ?_
                      obtain rfl := Option.some.inj H
                      exact z_nil ((K _ () HJ trivial).weak (fun a ha => ha.cons rfl (ha.cons rfl (ha.cons rfl (ha.cons rfl (ha.cons rfl (ha.cons rfl (ha.cons rfl (ha.cons rfl (ha.cons rfl (ha.nil)))))))))) (fun w hw => hw))
                    ·
                      have H := cond_t he
                      clear he
                      refine z_val (v := .pointer (some ⟨g_25, 1, none⟩)) (val_fld0 (sz := 1) rfl rfl Try.underlying60 rfl rfl sz25 (by decide)) rfl rfl (by rw [hops]; rfl) (fun _ _ _ => trivial) ?_
                      refine z_val (v := .slice A_15 x25.2.1.length c_16) (val_load1 rfl rfl Try.underlying25 rfl (fun _ hw => hw.cell (j := 0) (q := 1) rfl (cells_skip (n := 1) (k := 0) rfl (cells_here (k := 0) rfl)))) rfl rfl (by rw [hops]; rfl) (fun _ _ _ => trivial) ?_
                      obtain ⟨x59, hx59, H⟩ := Let_elim H
                      refine z_val (v := .int .i64 x59) (by subst hx59; exact val_len rfl rfl rfl Try.underlying25) rfl rfl (by rw [hops]; rfl) (fun _ _ _ => trivial) ?_
                      clear hx59
                      obtain ⟨x60, hx60, H⟩ := Let_elim H
                      refine z_val (v := .bool x60) (by subst hx60; exact val_bin rfl rfl rfl rfl (i64_gtr _ _ _)) rfl rfl (by rw [hops]; rfl) (fun _ _ _ => trivial) ?_
                      clear hx60
                      refine z_val (v := .bool x60) (val_pick rfl rfl rfl) rfl rfl (by rw [hops]; rfl) (fun _ _ _ => trivial) ?_
                      obtain rfl := Option.some.inj H
                      exact z_nil ((K _ () HJ trivial).weak (fun a ha => ha.cons rfl (ha.cons rfl (ha.cons rfl (ha.cons rfl (ha.cons rfl (ha.cons rfl (ha.cons rfl (ha.cons rfl (ha.cons rfl (ha.nil)))))))))) (fun w hw => hw))
                  ·
                    replace H := HB
                    clear HB
                    obtain ⟨x61, rfl⟩ : ∃ x, x = s := ⟨_, rfl⟩
                    change T 101 _ _ _
                    refine z_val (v := .bool x61) (val_pick rfl rfl rfl) rfl rfl rfl (fun _ _ _ => trivial) ?_
                    obtain rfl := Option.some.inj H
                    exact z_nil ((K _ () HJ trivial).weak (fun a ha => ha.cons rfl (ha.cons rfl (ha.cons rfl (ha.cons rfl (ha.cons rfl (ha.cons rfl (ha.cons rfl (ha.cons rfl (ha.nil))))))))) (fun w hw => hw))
                ·
                  have H := cond_t he
                  clear he
                  refine z_skip rfl rfl (by rw [hops]; rfl) (fun _ _ _ => trivial) ?_
                  refine z_skip rfl rfl (by rw [hops]; rfl) (fun _ _ _ => trivial) ?_
                  refine z_skip rfl rfl (by rw [hops]; rfl) (fun _ _ _ => trivial) ?_
                  refine z_skip rfl rfl (by rw [hops]; rfl) (fun _ _ _ => trivial) ?_
                  refine z_skip rfl rfl (by rw [hops]; rfl) (fun _ _ _ => trivial) ?_
                  refine z_skip rfl rfl (by rw [hops]; rfl) (fun _ _ _ => trivial) ?_
                  refine z_skip rfl rfl (by rw [hops]; rfl) (fun _ _ _ => trivial) ?_
                  refine z_skip rfl rfl (by rw [hops]; rfl) (fun _ _ _ => trivial) ?_
                  refine z_val (v := .bool true) (val_pick rfl rfl rfl) rfl rfl rfl (fun _ _ _ => trivial) ?_
                  obtain rfl := Option.some.inj H
                  exact z_nil ((K _ () HJ trivial).weak (fun a ha => ha.cons rfl (ha.cons rfl (ha.cons rfl (ha.cons rfl (ha.cons rfl (ha.cons rfl (ha.cons rfl (ha.cons rfl (ha.nil))))))))) (fun w hw => hw))
              ·
                replace H := HB
                clear HB
                obtain ⟨x62, rfl⟩ : ∃ x, x = s := ⟨_, rfl⟩
                change T 101 _ _ _
                refine z_val (v := .bool x62) (val_move rfl rfl) rfl rfl rfl (fun _ _ _ => trivial) ?_
                refine z_bind H 4 (fun (s : Bool) (_ : Unit) => [(0, .slice A0 a0.length c0), (3, .slice A_27 x3_26.length c_28), (4, .int .i64 x22), (5, .pointer (some ⟨g_25, 0, none⟩)), (20, .slice A0 a0.length c0), (21, .int .i64 x21), (22, .int .i64 x22), (67, .bool s)]) (fun _ _ => Mm w [] h [.blk g_25 60 ([(.bool x25.1 : Value)] ++ ([(.slice A_15 x25.2.1.length c_16 : Value)] ++ ([(.int .i64 x25.2.2 : Value)]))) 3, .row (.slice A_27 x3_26.length c_28) 3 1 (x3_26.map (Value.int .i64))]) (fun _ _ => True) (fun Gr K s he HJ => ?_) (fun s g HB _ => ?_)
                ·
                  clear H
                  cases x62
                  ·
                    have H := cond_f he
                    clear he
                    refine z_val (v := .pointer (some ⟨g_25, 2, none⟩)) (val_fld0 (sz := 1) rfl rfl Try.underlying60 rfl rfl sz3 (by decide)) rfl rfl (by rw [hops]; rfl) (fun _ _ _ => trivial) ?_
                    refine z_val (v := .int .i64 x25.2.2) (val_load1 rfl rfl Try.underlying3 rfl (fun _ hw => hw.cell (j := 0) (q := 2) rfl (cells_skip (n := 1) (k := 1) rfl (cells_skip (n := 1) (k := 0) rfl rfl)))) rfl rfl (by rw [hops]; rfl) (fun _ _ _ => trivial) ?_
                    obtain ⟨x66, hx66, H⟩ := Let_elim H
                    refine z_val (v := .bool x66) (by subst hx66; exact val_bin rfl rfl rfl rfl (i64_lss _ _ _)) rfl rfl (by rw [hops]; rfl) (fun _ _ _ => trivial) ?_
                    clear hx66
                    refine z_val (v := .bool x66) (val_pick rfl rfl rfl) rfl rfl rfl (fun _ _ _ => trivial) ?_
                    obtain rfl := Option.some.inj H
                    exact z_nil ((K _ () HJ trivial).weak (fun a ha => ha.cons rfl (ha.cons rfl (ha.cons rfl (ha.cons rfl (ha.cons rfl (ha.cons rfl (ha.cons rfl (ha.cons rfl (ha.nil))))))))) (fun w hw => hw))
                  ·
                    have H := cond_t he
                    clear he
                    refine z_skip rfl rfl (by rw [hops]; rfl) (fun _ _ _ => trivial) ?_
                    refine z_skip rfl rfl (by rw [hops]; rfl) (fun _ _ _ => trivial) ?_
                    refine z_skip rfl rfl (by rw [hops]; rfl) (fun _ _ _ => trivial) ?_
                    refine z_val (v := .bool true) (val_pick rfl rfl rfl) rfl rfl rfl (fun _ _ _ => trivial) ?_
                    obtain rfl := Option.some.inj H
                    exact z_nil ((K _ () HJ trivial).weak (fun a ha => ha.cons rfl (ha.cons rfl (ha.cons rfl (ha.cons rfl (ha.cons rfl (ha.cons rfl (ha.cons rfl (ha.cons rfl (ha.nil))))))))) (fun w hw => hw))
                ·
                  replace H := HB
                  clear HB
                  obtain ⟨x67, rfl⟩ : ∃ x, x = s := ⟨_, rfl⟩
                  change T 101 _ _ _
                  refine z_val (v := .bool x67) (val_move rfl rfl) rfl rfl rfl (fun _ _ _ => trivial) ?_
                  refine z_bind H 9 (fun (s : Bool) (_ : Unit) => [(0, .slice A0 a0.length c0), (3, .slice A_27 x3_26.length c_28), (4, .int .i64 x22), (5, .pointer (some ⟨g_25, 0, none⟩)), (20, .slice A0 a0.length c0), (21, .int .i64 x21), (22, .int .i64 x22), (77, .bool s)]) (fun _ _ => Mm w [] h [.blk g_25 60 ([(.bool x25.1 : Value)] ++ ([(.slice A_15 x25.2.1.length c_16 : Value)] ++ ([(.int .i64 x25.2.2 : Value)]))) 3, .row (.slice A_27 x3_26.length c_28) 3 1 (x3_26.map (Value.int .i64))]) (fun _ _ => True) (fun Gr K s he HJ => ?_) (fun s g HB _ => ?_)
                  ·
                    clear H
                    cases x67
                    ·
                      have H := cond_f he
                      clear he
                      refine z_val (v := .pointer (some ⟨g_25, 2, none⟩)) (val_fld0 (sz := 1) rfl rfl Try.underlying60 rfl rfl sz3 (by decide)) rfl rfl (by rw [hops]; rfl) (fun _ _ _ => trivial) ?_
                      refine z_val (v := .int .i64 x25.2.2) (val_load1 rfl rfl Try.underlying3 rfl (fun _ hw => hw.cell (j := 0) (q := 2) rfl (cells_skip (n := 1) (k := 1) rfl (cells_skip (n := 1) (k := 0) rfl rfl)))) rfl rfl (by rw [hops]; rfl) (fun _ _ _ => trivial) ?_
                      refine z_val (v := .slice A0 a0.length c0) (val_move rfl rfl) rfl rfl (by rw [hops]; rfl) (fun _ _ _ => trivial) ?_
                      obtain ⟨x72, hx72, H⟩ := Let_elim H
                      refine z_val (v := .int .i64 x72) (by subst hx72; exact val_len rfl rfl rfl Try.underlying46) rfl rfl (by rw [hops]; rfl) (fun _ _ _ => trivial) ?_
                      clear hx72
                      obtain ⟨x73, hx73, H⟩ := Let_elim H
                      refine z_val (v := .int .i64 x73) (by subst hx73; exact val_bin rfl rfl rfl rfl (i64_sub _ _ _)) rfl rfl (by rw [hops]; rfl) (fun _ _ _ => trivial) ?_
                      clear hx73
                      refine z_val (v := .int .i64 x22) (val_move rfl rfl) rfl rfl (by rw [hops]; rfl) (fun _ _ _ => trivial) ?_
                      obtain ⟨x75, hx75, H⟩ := Let_elim H
                      refine z_val (v := .int .i64 x75) (by subst hx75; exact val_bin rfl rfl rfl rfl (i64_sub _ _ _)) rfl rfl (by rw [hops]; rfl) (fun _ _ _ => trivial) ?_
                      clear hx75
                      obtain ⟨x76, hx76, H⟩ := Let_elim H
                      refine z_val (v := .bool x76) (by subst hx76; exact val_bin rfl rfl rfl rfl (i64_gtr _ _ _)) rfl rfl (by rw [hops]; rfl) (fun _ _ _ => trivial) ?_
                      clear hx76
                      refine z_val (v := .bool x76) (val_pick rfl rfl rfl) rfl rfl rfl (fun _ _ _ => trivial) ?_
                      obtain rfl := Option.some.inj H
                      exact z_nil ((K _ () HJ trivial).weak (fun a ha => ha.cons rfl (ha.cons rfl (ha.cons rfl (ha.cons rfl (ha.cons rfl (ha.cons rfl (ha.cons rfl (ha.cons rfl (ha.nil))))))))) (fun w hw => hw))
                    ·
                      have H := cond_t he
                      clear he
                      refine z_skip rfl rfl (by rw [hops]; rfl) (fun _ _ _ => trivial) ?_
                      refine z_skip rfl rfl (by rw [hops]; rfl) (fun _ _ _ => trivial) ?_
                      refine z_skip rfl rfl (by rw [hops]; rfl) (fun _ _ _ => trivial) ?_
                      refine z_skip rfl rfl (by rw [hops]; rfl) (fun _ _ _ => trivial) ?_
                      refine z_skip rfl rfl (by rw [hops]; rfl) (fun _ _ _ => trivial) ?_
                      refine z_skip rfl rfl (by rw [hops]; rfl) (fun _ _ _ => trivial) ?_
                      refine z_skip rfl rfl (by rw [hops]; rfl) (fun _ _ _ => trivial) ?_
                      refine z_skip rfl rfl (by rw [hops]; rfl) (fun _ _ _ => trivial) ?_
                      refine z_val (v := .bool true) (val_pick rfl rfl rfl) rfl rfl rfl (fun _ _ _ => trivial) ?_
                      obtain rfl := Option.some.inj H
                      exact z_nil ((K _ () HJ trivial).weak (fun a ha => ha.cons rfl (ha.cons rfl (ha.cons rfl (ha.cons rfl (ha.cons rfl (ha.cons rfl (ha.cons rfl (ha.cons rfl (ha.nil))))))))) (fun w hw => hw))
                  ·
                    replace H := HB
                    clear HB
                    obtain ⟨x77, rfl⟩ : ∃ x, x = s := ⟨_, rfl⟩
                    change T 101 _ _ _
                    refine z_nil ?_
                    cases x77
                    ·
                      replace H := cond_f H
                      refine t_cond_false rfl ?_
                      refine t_skip ?_
                      refine t_seq ?_
                      refine t_region (fun ops hops => ?_)
                      clear hops
                      refine z_val (v := .int .i64 x22) (val_move rfl rfl) rfl rfl rfl (fun _ _ _ => trivial) ?_
                      obtain ⟨x79, hx79, H⟩ := Let_elim H
                      refine z_val (v := .int .i64 x79) (by subst hx79; exact val_bin rfl rfl rfl rfl (i64_add _ _ _)) rfl rfl rfl (fun _ _ _ => trivial) ?_
                      clear hx79
                      refine z_val (v := .pointer (some ⟨g_25, 2, none⟩)) (val_fld0 (sz := 1) rfl rfl Try.underlying60 rfl rfl sz3 (by decide)) rfl rfl rfl (fun _ _ _ => trivial) ?_
                      refine z_val (v := .int .i64 x25.2.2) (val_load1 rfl rfl Try.underlying3 rfl (fun _ hw => hw.cell (j := 0) (q := 2) rfl (cells_skip (n := 1) (k := 1) rfl (cells_skip (n := 1) (k := 0) rfl rfl)))) rfl rfl rfl (fun _ _ _ => trivial) ?_
                      obtain ⟨x82, hx82, H⟩ := Let_elim H
                      refine z_val (v := .int .i64 x82) (by subst hx82; exact val_bin rfl rfl rfl rfl (i64_add _ _ _)) rfl rfl rfl (fun _ _ _ => trivial) ?_
                      clear hx82
                      refine z_val (v := .int .i64 x82) (val_assign rfl rfl) rfl rfl rfl (fun _ _ _ => trivial) ?_
                      refine z_nil ?_
                      refine t_seq ?_
                      refine t_seq ?_
                      refine t_region (fun ops hops => ?_)
                      refine z_val (v := .slice A_27 x3_26.length c_28) (val_move rfl rfl) rfl rfl rfl (fun _ _ _ => trivial) ?_
                      obtain ⟨x84, hx84, H⟩ := Let_elim H
                      refine z_val (v := .int .i64 x84) (by subst hx84; exact val_len rfl rfl rfl Try.underlying37) rfl rfl rfl (fun _ _ _ => trivial) ?_
                      clear hx84
                      obtain ⟨x85, hx85, H⟩ := Let_elim H
                      refine z_val (v := .bool x85) (by subst hx85; exact val_bin rfl rfl rfl rfl (i64_gtr _ _ _)) rfl rfl rfl (fun _ _ _ => trivial) ?_
                      clear hx85
                      refine z_val (v := .bool x85) (val_move rfl rfl) rfl rfl rfl (fun _ _ _ => trivial) ?_
                      refine z_bind H 9 (fun (s : Bool) (_ : Unit) => [(0, .slice A0 a0.length c0), (3, .slice A_27 x3_26.length c_28), (6, .int .i64 x82), (20, .slice A0 a0.length c0), (21, .int .i64 x21), (22, .int .i64 x22), (95, .bool s)]) (fun _ _ => Mm w [] h [.blk g_25 60 ([(.bool x25.1 : Value)] ++ ([(.slice A_15 x25.2.1.length c_16 : Value)] ++ ([(.int .i64 x25.2.2 : Value)]))) 3, .row (.slice A_27 x3_26.length c_28) 3 1 (x3_26.map (Value.int .i64))]) (fun _ _ => True) (fun Gr K s he HJ => ?_) (fun s g HB _ => ?_)
                      ·
                        clear H
                        cases x85
                        ·
                          have H := cond_f he
                          clear he
                          refine z_skip rfl rfl (by rw [hops]; rfl) (fun _ _ _ => trivial) ?_
                          refine z_skip rfl rfl (by rw [hops]; rfl) (fun _ _ _ => trivial) ?_
                          refine z_skip rfl rfl (by rw [hops]; rfl) (fun _ _ _ => trivial) ?_
                          refine z_skip rfl rfl (by rw [hops]; rfl) (fun _ _ _ => trivial) ?_
                          refine z_skip rfl rfl (by rw [hops]; rfl) (fun _ _ _ => trivial) ?_
                          refine z_skip rfl rfl (by rw [hops]; rfl) (fun _ _ _ => trivial) ?_
                          refine z_skip rfl rfl (by rw [hops]; rfl) (fun _ _ _ => trivial) ?_
                          refine z_skip rfl rfl (by rw [hops]; rfl) (fun _ _ _ => trivial) ?_
                          refine z_val (v := .bool false) (val_pick rfl rfl rfl) rfl rfl rfl (fun _ _ _ => trivial) ?_
                          obtain rfl := Option.some.inj H
                          exact z_nil ((K _ () HJ trivial).weak (fun a ha => ha.cons rfl (ha.cons rfl (ha.cons rfl (ha.cons rfl (ha.cons rfl (ha.cons rfl (ha.cons rfl (ha.nil)))))))) (fun w hw => hw))
                        ·
                          have H := cond_t he
                          clear he
                          refine z_val (v := .int .i64 x82) (val_move rfl rfl) rfl rfl (by rw [hops]; rfl) (fun _ _ _ => trivial) ?_
                          refine z_val (v := .slice A_27 x3_26.length c_28) (val_move rfl rfl) rfl rfl (by rw [hops]; rfl) (fun _ _ _ => trivial) ?_
                          refine z_val (v := .slice A_27 x3_26.length c_28) (val_move rfl rfl) rfl rfl (by rw [hops]; rfl) (fun _ _ _ => trivial) ?_
                          obtain ⟨x90, hx90, H⟩ := Let_elim H
                          refine z_val (v := .int .i64 x90) (by subst hx90; exact val_len rfl rfl rfl Try.underlying37) rfl rfl (by rw [hops]; rfl) (fun _ _ _ => trivial) ?_
                          clear hx90
                          obtain ⟨x91, hx91, H⟩ := Let_elim H
                          refine z_val (v := .int .i64 x91) (by subst hx91; exact val_bin rfl rfl rfl rfl (i64_sub _ _ _)) rfl rfl (by rw [hops]; rfl) (fun _ _ _ => trivial) ?_
                          clear hx91
                          obtain ⟨hq_35, H⟩ := Chk_elim H
                          obtain ⟨g_36, hA_37⟩ := hs_29.blk (by omega)
                          refine z_val (v := .pointer (some ⟨g_36, x91.toNat, none⟩)) (val_idxS1 rfl rfl rfl Try.underlying37 sz3 hq_35 hA_37 rfl) rfl rfl (by rw [hops]; rfl) (fun _ _ _ => trivial) ?_
                          obtain ⟨x93, hx93, H⟩ := Let_elim H
                          refine z_val (v := .int .i64 x93) (by subst hx93; exact val_load1 rfl rfl Try.underlying3 rfl (fun _ hw => row_cell' hw (j := 1) rfl hA_37 (idx_lt hq_35))) rfl rfl (by rw [hops]; rfl) (fun _ _ _ => trivial) ?_
                          clear hx93
                          obtain ⟨x94, hx94, H⟩ := Let_elim H
                          refine z_val (v := .bool x94) (by subst hx94; exact val_bin rfl rfl rfl rfl (i64_gtr _ _ _)) rfl rfl (by rw [hops]; rfl) (fun _ _ _ => trivial) ?_
                          clear hx94
                          refine z_val (v := .bool x94) (val_pick rfl rfl rfl) rfl rfl rfl (fun _ _ _ => trivial) ?_
                          obtain rfl := Option.some.inj H
                          exact z_nil ((K _ () HJ trivial).weak (fun a ha => ha.cons rfl (ha.cons rfl (ha.cons rfl (ha.cons rfl (ha.cons rfl (ha.cons rfl (ha.cons rfl (ha.nil)))))))) (fun w hw => hw))
                      ·
                        replace H := HB
                        clear HB
                        obtain ⟨x95, rfl⟩ : ∃ x, x = s := ⟨_, rfl⟩
                        change T 101 _ _ _
                        refine z_nil ?_
                        cases x95
                        ·
                          replace H := cond_f H
                          refine t_cond_false rfl ?_
                          refine t_skip ?_
                          refine t_region (fun ops hops => ?_)
                          clear hops
                          refine z_val (v := .slice A_27 x3_26.length c_28) (val_move rfl rfl) rfl rfl rfl (fun _ _ _ => trivial) ?_
                          refine z_val (v := .int .i64 x82) (val_move rfl rfl) rfl rfl rfl (fun _ _ _ => trivial) ?_
                          obtain ⟨x98, hx98, H⟩ := Let_elim H
                          have hlx98 : x98.length = 1 := by subst hx98; rfl
                          refine z_buildSlice' (e := 3) (f := (Value.int .i64)) (xs := x98) (vs := [(0, .int .i64 x82)]) rfl rfl (by subst hx98; intro w; kernel_rfl) hlx98 (by decide) rfl rfl rfl (fun _ _ _ _ => trivial) (fun g_38 hs_40 => ?_)
                          clear hx98 hlx98
                          obtain ⟨hq_41, H⟩ := Chk_elim H
                          obtain ⟨x99, hx99, H⟩ := Let_elim H
                          refine z_append (f := (Value.int .i64)) (j := 2) (xs := x3_26) (ys := x98) (zs := x99) rfl rfl Try.underlying37 in3 rfl rfl rfl rfl (fun w hw => (row_w hw (j := 0) rfl)) (fun _ => rfl) hq_41 (by decide) hx99 (fun A_42 c_43 => [.row (.slice (some ⟨g_38, 0, none⟩) x98.length 1) 3 1 (x98.map (Value.int .i64)), .blk g_25 60 ([(.bool x25.1 : Value)] ++ ([(.slice A_15 x25.2.1.length c_16 : Value)] ++ ([(.int .i64 x25.2.2 : Value)]))) 3, .row (.slice A_42 x99.length c_43) 3 1 (x99.map (Value.int .i64))]) (fun _ _ => rfl) rfl rfl rfl (fun _ _ _ _ _ => trivial) (fun A_42 c_43 hs_44 => ?_)
                          clear hx99
                          refine z_val (v := .slice A_42 x99.length c_43) (val_assign rfl rfl) rfl rfl rfl (fun _ _ _ => trivial) ?_
                          refine z_nil ?_
                          refine t_fin ?_
                          refine t_region (fun ops hops => ?_)
                          clear hops
                          obtain ⟨x100, hx100, H⟩ := Let_elim H
                          refine z_val (v := .int .i64 x100) (by subst hx100; exact val_bin rfl rfl rfl rfl (i64_add _ _ _)) rfl rfl rfl (fun _ _ _ => trivial) ?_
                          clear hx100
                          refine z_val (v := .int .i64 x100) (val_move rfl rfl) rfl rfl rfl (fun _ _ _ => trivial) ?_
                          refine z_nil ?_
                          obtain rfl := Option.some.inj H
                          exact t_reach ((hn1 _ ⟨A_42, c_43⟩ rfl hs_44).weak (fun a ha => ha.cons rfl (ha.cons rfl (ha.cons rfl (ha.cons rfl (ha.cons rfl (ha.nil)))))) (fun w hw => hw.sel [2] rfl rfl))
                        ·
                          replace H := cond_t H
                          refine t_cond_true rfl ?_
                          refine t_seq ?_
                          refine t_region (fun ops hops => ?_)
                          clear hops
                          refine z_val (v := .bool false) (val_assign rfl rfl) rfl rfl rfl (fun _ _ _ => trivial) ?_
                          refine z_nil ?_
                          refine t_ret ?_
                          obtain rfl := Option.some.inj H
                          have hz := hr1 _ rfl
                          subst hz
                          obtain rfl := Option.some.inj HK1
                          exact ret1 rfl (res_tmp rfl) (fun _ hw => ⟨rfl, hw.below⟩)
                    ·
                      replace H := cond_t H
                      refine t_cond_true rfl ?_
                      refine t_seq ?_
                      refine t_region (fun ops hops => ?_)
                      clear hops
                      refine z_val (v := .bool false) (val_assign rfl rfl) rfl rfl rfl (fun _ _ _ => trivial) ?_
                      refine z_nil ?_
                      refine t_ret ?_
                      obtain rfl := Option.some.inj H
                      have hz := hr1 _ rfl
                      subst hz
                      obtain rfl := Option.some.inj HK1
                      exact ret1 rfl (res_tmp rfl) (fun _ hw => ⟨rfl, hw.below⟩)
      ·
        obtain ⟨x3, x22⟩ := s
        obtain ⟨A_11, c_12⟩ := g
        try dsimp only at hφ
        have hs_13 := hφ; clear hφ
        subst hzz
        have H := HK1
        clear HK1 hz1
        replace H := sum_l H
        try dsimp only at H
        change T 101 _ _ _
        refine t_seq ?_
        refine t_region (fun ops hops => ?_)
        clear hops
        refine z_val (v := .bool true) (val_assign rfl rfl) rfl rfl rfl (fun _ _ _ => trivial) ?_
        refine z_nil ?_
        refine t_ret ?_
        obtain rfl := Option.some.inj H
        exact ret1 rfl (res_tmp rfl) (fun _ hw => ⟨rfl, hw.below⟩)
    ·
      replace H := cond_t H
      refine t_cond_true rfl ?_
      refine t_seq ?_
      refine t_region (fun ops hops => ?_)
      clear hops
      refine z_val (v := .bool false) (val_assign rfl rfl) rfl rfl rfl (fun _ _ _ => trivial) ?_
      refine z_nil ?_
      refine t_ret ?_
      obtain rfl := Option.some.inj H
      exact ret1 rfl (res_tmp rfl) (fun _ hw => ⟨rfl, hw.below⟩)
def rlp_Encode (a0 : List ((Bool) × (List (BitVec 8)) × (Int))) : Option ((List (BitVec 8)) × (Int)) :=
  (rlp_one a0).bind fun x7 => Let (!x7) fun x8 => (bif x8 then some ([], 2) else (rlp_writer_item 18446744073709551616 (a0, 0) 0).bind fun x13 => Let (x13.2.2 != 0) fun x19 => (bif x19 then some ([], x13.2.2) else Let ((x13.1.length : Int)) fun x26 => Let (decide (1048576 < x26)) fun x27 => (bif x27 then some ([], 4) else some (x13.1, 0))))
set_option maxRecDepth 100000 in
theorem rlp_Encode.calls  (a0 : List ((Bool) × (List (BitVec 8)) × (Int))) (A0 : Option Addr) (c0 : Nat) (r : (List (BitVec 8)) × (Int)) (H : rlp_Encode a0 = some r) (w : World) (hs0 : SlRW w R60 A0 a0) (hc0 : a0.length ≤ c0)  :
    Calls Try.prog 24 #[.slice A0 a0.length c0] w fun e w' => ∃ A c, e = .returned (.tuple #[.slice A r.1.length c, .int .i64 r.2]) ∧ Below w.heap.size w w' ∧ OwnR w w' 5 U8 A c r.1 := by
  unfold rlp_Encode at H
  replace hs0 := hs0.toH
  have hM := Mm.start w (snap w) (snap_ok w)
  generalize snap w = h at *
  refine t_enter (vs := [.slice A0 a0.length c0]) (n := 29) Try.func24 rfl rfl rfl hM ?_
  clear hM
  change T 29 _ _ _
  refine t_seq ?_
  refine t_region (fun ops hops => ?_)
  clear hops
  refine z_val (v := .slice none 0 0) (val_assign rfl rfl) rfl rfl rfl (fun _ _ _ => trivial) ?_
  refine z_val (v := .int .i64 0) (val_assign rfl rfl) rfl rfl rfl (fun _ _ _ => trivial) ?_
  refine z_nil ?_
  refine t_seq ?_
  refine t_seq ?_
  refine t_region (fun ops hops => ?_)
  clear hops
  refine z_val (v := .slice A0 a0.length c0) (val_move rfl rfl) rfl rfl rfl (fun _ _ _ => trivial) ?_
  obtain ⟨x7, hx, H⟩ := Option.bind_eq_some_iff.1 H
  refine z_made (v := .bool x7) rfl Try.func52 nm52 bs52 rfl (fun w hw => rlp_one.calls a0 A0 c0 x7 hx w (hs0.toW hw) hc0) rfl rfl rfl (fun _ _ _ => trivial) ?_
  clear hx
  obtain ⟨x8, hx8, H⟩ := Let_elim H
  refine z_val (v := .bool x8) (by subst hx8; exact val_un rfl rfl (bool_not _)) rfl rfl rfl (fun _ _ _ => trivial) ?_
  clear hx8
  refine z_nil ?_
  cases x8
  ·
    replace H := cond_f H
    refine t_cond_false rfl ?_
    refine t_skip ?_
    refine t_seq ?_
    refine t_region (fun ops hops => ?_)
    clear hops
    refine z_val (v := .slice A0 a0.length c0) (val_move rfl rfl) rfl rfl rfl (fun _ _ _ => trivial) ?_
    refine z_val (v := .agg ([(.slice A0 a0.length c0 : Value)] ++ ([(.int .i64 0 : Value)])).toArray) (val_build (vs := [(0, .slice A0 a0.length c0)]) rfl rfl (fun w => by kernel_rfl)) rfl rfl rfl (fun _ _ _ => trivial) ?_
    refine z_box (cs := [(.slice A0 a0.length c0 : Value)] ++ ([(.int .i64 0 : Value)])) (room := 2) rfl rfl rfl (by simp [cV_len]) rfl rfl rfl (fun _ _ _ _ => trivial) (fun g_1 => ?_)
    refine z_val (v := .pointer (some ⟨g_1, 0, none⟩)) (val_assign rfl rfl) rfl rfl rfl (fun _ _ _ => trivial) ?_
    refine z_nil ?_
    refine t_seq ?_
    refine t_region (fun ops hops => ?_)
    clear hops
    refine z_val (v := .pointer (some ⟨g_1, 0, none⟩)) (val_move rfl rfl) rfl rfl rfl (fun _ _ _ => trivial) ?_
    obtain ⟨x13, hx_2, H⟩ := Option.bind_eq_some_iff.1 H
    refine z_callG rfl Try.func53 nm53 bs53 rfl (fun w hw => rlp_writer_item.calls 18446744073709551616 (a0, 0) 0 g_1 A0 c0 x13 hx_2 hs0 hc0 hw) rfl rfl rfl (fun _ _ _ _ _ => trivial) (fun g hφ => ?_)
    obtain ⟨h_3, A_5, c_6, A_8, c_9⟩ := g
    try dsimp only at hφ
    obtain ⟨hS, hs_7, hs_10, hc_11⟩ := hφ
    clear hx_2
    change T 29 _ _ _
    replace hs0 := hs0.up hS
    refine z_val (v := .slice A_5 x13.1.length c_6) (val_assign rfl rfl) rfl rfl rfl (fun _ _ _ => trivial) ?_
    refine z_nil ?_
    refine t_seq ?_
    refine t_block ?_
    refine t_seq ?_
    refine t_region (fun ops hops => ?_)
    clear hops
    refine z_val (v := .pointer (some ⟨g_1, 0, none⟩)) (val_move rfl rfl) rfl rfl rfl (fun _ _ _ => trivial) ?_
    refine z_val (v := .pointer (some ⟨g_1, 0, none⟩)) (val_nilCheck rfl rfl) rfl rfl rfl (fun _ _ _ => trivial) ?_
    refine z_val (v := .pointer (some ⟨g_1, 1, none⟩)) (val_fld0 (sz := 1) rfl rfl Try.underlying98 rfl rfl sz48 (by decide)) rfl rfl rfl (fun _ _ _ => trivial) ?_
    refine z_val (v := .int .i64 x13.2.2) (val_load1 rfl rfl Try.underlying48 rfl (fun _ hw => hw.cell (j := 1) (q := 1) rfl (cells_skip (n := 1) (k := 0) rfl rfl))) rfl rfl rfl (fun _ _ _ => trivial) ?_
    obtain ⟨x19, hx19, H⟩ := Let_elim H
    refine z_val (v := .bool x19) (by subst hx19; exact val_bin rfl rfl rfl rfl (i64_neq _ _ _)) rfl rfl rfl (fun _ _ _ => trivial) ?_
    clear hx19
    refine z_val (v := .bool x19) (val_assign rfl rfl) rfl rfl rfl (fun _ _ _ => trivial) ?_
    refine z_nil ?_
    cases x19
    ·
      replace H := cond_f H
      refine t_cond_false rfl ?_
      refine t_seq ?_
      refine t_region (fun ops hops => ?_)
      clear hops
      refine z_val (v := .slice A_5 x13.1.length c_6) (val_move rfl rfl) rfl rfl rfl (fun _ _ _ => trivial) ?_
      obtain ⟨x26, hx26, H⟩ := Let_elim H
      refine z_val (v := .int .i64 x26) (by subst hx26; exact val_len rfl rfl rfl Try.underlying25) rfl rfl rfl (fun _ _ _ => trivial) ?_
      clear hx26
      obtain ⟨x27, hx27, H⟩ := Let_elim H
      refine z_val (v := .bool x27) (by subst hx27; exact val_bin rfl rfl rfl rfl (i64_gtr _ _ _)) rfl rfl rfl (fun _ _ _ => trivial) ?_
      clear hx27
      refine z_val (v := .bool x27) (val_assign rfl rfl) rfl rfl rfl (fun _ _ _ => trivial) ?_
      refine z_nil ?_
      cases x27
      ·
        replace H := cond_f H
        refine t_cond_false rfl ?_
        refine t_skip ?_
        refine t_fin ?_
        refine t_seq ?_
        refine t_region (fun ops hops => ?_)
        clear hops
        refine z_val (v := .slice A_5 x13.1.length c_6) (val_move rfl rfl) rfl rfl rfl (fun _ _ _ => trivial) ?_
        refine z_val (v := .slice A_5 x13.1.length c_6) (val_assign rfl rfl) rfl rfl rfl (fun _ _ _ => trivial) ?_
        refine z_val (v := .int .i64 0) (val_assign rfl rfl) rfl rfl rfl (fun _ _ _ => trivial) ?_
        refine z_nil ?_
        refine t_ret ?_
        obtain rfl := Option.some.inj H
        exact ret2 rfl (res_tmp rfl) (res_tmp rfl) (fun _ hw => ⟨A_5, c_6, rfl, hw.below, (row_out hw (j := 0) rfl hs_7)⟩)
      ·
        replace H := cond_t H
        refine t_cond_true rfl ?_
        refine t_seq ?_
        refine t_region (fun ops hops => ?_)
        clear hops
        refine z_val (v := .slice none 0 0) (val_assign rfl rfl) rfl rfl rfl (fun _ _ _ => trivial) ?_
        refine z_val (v := .int .i64 4) (val_assign rfl rfl) rfl rfl rfl (fun _ _ _ => trivial) ?_
        refine z_nil ?_
        refine t_ret ?_
        obtain rfl := Option.some.inj H
        exact ret2 rfl (res_tmp rfl) (res_tmp rfl) (fun _ hw => ⟨none, 0, rfl, hw.below, row_out_nil⟩)
    ·
      replace H := cond_t H
      refine t_cond_true rfl ?_
      refine t_seq ?_
      refine t_plan (C := Mm w [] h_3 [.row (.slice A_5 x13.1.length c_6) 5 1 (x13.1.map U8), .blk g_1 98 ([(.slice A_8 x13.2.1.length c_9 : Value)] ++ ([(.int .i64 x13.2.2 : Value)])) 2]) [] [(0, true), (1, true), (2, true), (3, true), (4, true), (5, true)] (by kernel_rfl) (by kernel_rfl) (fun _ hw => hw.drew) (fun ops hops => ?_)
      clear hops
      refine z_still (v := .pointer (some ⟨g_1, 0, none⟩)) (val_move rfl rfl) rfl rfl rfl (fun _ hw => hw) ?_
      refine z_still (v := .pointer (some ⟨g_1, 0, none⟩)) (val_nilCheck rfl rfl) rfl rfl rfl (fun _ hw => hw) ?_
      refine z_still (v := .pointer (some ⟨g_1, 1, none⟩)) (val_fld0 (sz := 1) rfl rfl Try.underlying98 rfl rfl sz48 (by decide)) rfl rfl rfl (fun _ hw => hw) ?_
      refine z_still (v := .int .i64 x13.2.2) (val_load1 rfl rfl Try.underlying48 rfl (fun _ hw => hw.cell (j := 1) (q := 1) rfl (cells_skip (n := 1) (k := 0) rfl rfl))) rfl rfl rfl (fun _ hw => hw) ?_
      refine z_still (v := .slice none 0 0) (val_assign rfl rfl) rfl rfl rfl (fun _ hw => hw) ?_
      refine z_still (v := .int .i64 x13.2.2) (val_assign rfl rfl) rfl rfl rfl (fun _ hw => hw) ?_
      refine z_nil ?_
      refine t_ret ?_
      obtain rfl := Option.some.inj H
      exact ret2 rfl (res_tmp rfl) (res_tmp rfl) (fun _ hw => ⟨none, 0, rfl, hw.below, row_out_nil⟩)
  ·
    replace H := cond_t H
    refine t_cond_true rfl ?_
    refine t_seq ?_
    refine t_region (fun ops hops => ?_)
    clear hops
    refine z_val (v := .slice none 0 0) (val_assign rfl rfl) rfl rfl rfl (fun _ _ _ => trivial) ?_
    refine z_val (v := .int .i64 2) (val_assign rfl rfl) rfl rfl rfl (fun _ _ _ => trivial) ?_
    refine z_nil ?_
    refine t_ret ?_
    obtain rfl := Option.some.inj H
    exact ret2 rfl (res_tmp rfl) (res_tmp rfl) (fun _ hw => ⟨none, 0, rfl, hw.below, row_out_nil⟩)
end Go.Proofs.Ytapfkdcilfpbhaa
