/- Functions of the program as plain functions, and their walks, printed by walk.py. -/
import Derived.Test.YtccilbklafhjiaaMcF
import Derived.Test.YtccilbklafhjiaaMcD
import Derived.Test.YtccilbklafhjiaaMcL
namespace Go.Proofs.Ytccilbklafhjiaa
open Go.RowKit
set_option linter.unusedVariables false
set_option linter.unusedSimpArgs false
def smithylaw09_ModexpRuns (a0 : List (BitVec 8)) : Option (Bool) :=
  Let ((a0.length : Int)) fun x18 => Let (decide (2000 < x18)) fun x19 => (bif x19 then (smithylaw09_fixed).bind fun x20 => some x20 else Let (([] : List (BitVec 8))) fun x21 => Chk ((x21.length + a0.length) * 1 ≤ 140737488355328) <| Let (x21 ++ a0) fun x23 => (modexp_Run x23).bind fun x26 => (smithyref09_Length a0 0).bind fun x31 => (smithyref09_Length a0 1).bind fun x36 => (smithyref09_Length a0 2).bind fun x41 => (smithylaw09_fixed).bind fun x44 => Let (!x44) fun x45 => (bif x45 then some true else Let (strOf x23) fun x48 => Let (strOf a0) fun x50 => Let (!(x48.toList == x50.toList)) fun x51 => some x51).bind (fun x52 => (bif x52 then some false else (bif x31.2 then some x41.2 else some false).bind (fun x56 => (bif x56 then Let ((x31.1.toNat : Int) == 0) fun x59 => some x59 else some false).bind (fun x60 => (bif x60 then Let ((x41.1.toNat : Int) == 0) fun x63 => some x63 else some false).bind (fun x64 => (bif x64 then Let ((x26.1.length : Int)) fun x66 => Let (x66 == 0) fun x67 => (bif x67 then Let (x26.2 == 0) fun x70 => some x70 else some false).bind (fun x71 => some x71) else Let (!x31.2) fun x73 => (bif x73 then some true else Let (!x36.2) fun x76 => some x76).bind (fun x77 => (bif x77 then some true else Let (!x41.2) fun x80 => some x80).bind (fun x81 => (bif x81 then some true else Let (decide ((x31.1.toNat : Int) > 64)) fun x84 => some x84).bind (fun x85 => (bif x85 then some true else Let (decide ((x36.1.toNat : Int) > 64)) fun x88 => some x88).bind (fun x89 => (bif x89 then some true else Let (decide ((x41.1.toNat : Int) > 64)) fun x92 => some x92).bind (fun x93 => (bif x93 then Let ((x26.1.length : Int)) fun x95 => Let (x95 == 0) fun x96 => (bif x96 then Let (x26.2 == 4) fun x99 => some x99 else some false).bind (fun x100 => some x100) else Let (IntKind.i64.wrap x31.1.toNat) fun x102 => Let (IntKind.i64.wrap x36.1.toNat) fun x104 => Let (IntKind.i64.wrap x41.1.toNat) fun x106 => (smithyref09_Part a0 96 x102).bind fun x110 => Let (wi (96 + x102)) fun x113 => (smithyref09_Part a0 x113 x104).bind fun x115 => Let (wi (96 + x102)) fun x118 => Let (wi (x118 + x104)) fun x120 => (smithyref09_Part a0 x120 x106).bind fun x122 => (modexp_Pow x110 x115 x122).bind fun x123 => Let (x26.2 == 0) fun x127 => (bif x127 then Let (x123.2 == 0) fun x130 => some x130 else some false).bind (fun x131 => (bif x131 then Let (strOf x26.1) fun x134 => Let (strOf x123.1) fun x136 => Let (x134.toList == x136.toList) fun x137 => some x137 else some false).bind (fun x138 => (bif x138 then Let ((x26.1.length : Int)) fun x141 => Let (x141 == x106) fun x143 => some x143 else some false).bind (fun x144 => some x144))))))))))))))))
set_option maxRecDepth 100000 in
theorem smithylaw09_ModexpRuns.calls  (a0 : List (BitVec 8)) (A0 : Option Addr) (c0 : Nat) (r : Bool) (H : smithylaw09_ModexpRuns a0 = some r) (w : World) (hs0 : SlW w U8 A0 a0) (hc0 : a0.length ≤ c0)  :
    Made Try.prog 7 #[.slice A0 a0.length c0] w (.bool r) := by
  unfold smithylaw09_ModexpRuns at H
  replace hs0 := hs0.toH
  have hM := Mm.start w (snap w) (snap_ok w)
  generalize snap w = h at *
  refine t_enter (vs := [.slice A0 a0.length c0]) (n := 145) Try.func7 rfl rfl rfl hM ?_
  clear hM
  change T 145 _ _ _
  refine t_seq ?_
  refine t_region (fun ops hops => ?_)
  clear hops
  refine z_val (v := .bool false) (val_assign rfl rfl) rfl rfl rfl (fun _ _ _ => trivial) ?_
  refine z_nil ?_
  refine t_seq ?_
  refine t_seq ?_
  refine t_region (fun ops hops => ?_)
  clear hops
  refine z_val (v := .slice A0 a0.length c0) (val_move rfl rfl) rfl rfl rfl (fun _ _ _ => trivial) ?_
  obtain ⟨x18, hx18, H⟩ := Let_elim H
  refine z_val (v := .int .i64 x18) (by subst hx18; exact val_len rfl rfl rfl Try.underlying22) rfl rfl rfl (fun _ _ _ => trivial) ?_
  clear hx18
  obtain ⟨x19, hx19, H⟩ := Let_elim H
  refine z_val (v := .bool x19) (by subst hx19; exact val_bin rfl rfl rfl rfl (i64_gtr _ _ _)) rfl rfl rfl (fun _ _ _ => trivial) ?_
  clear hx19
  refine z_nil ?_
  cases x19
  ·
    replace H := cond_f H
    refine t_cond_false rfl ?_
    refine t_skip ?_
    refine t_seq ?_
    refine t_region (fun ops hops => ?_)
    clear hops
    obtain ⟨x21, hx21, H⟩ := Let_elim H
    have hlx21 : x21.length = 0 := by subst hx21; rfl
    refine z_buildSlice' (e := 5) (f := U8) (xs := x21) (vs := []) rfl rfl (by subst hx21; intro w; kernel_rfl) hlx21 (by decide) rfl rfl rfl (fun _ _ _ _ => trivial) (fun g_1 hs_3 => ?_)
    clear hx21 hlx21
    refine z_val (v := .slice A0 a0.length c0) (val_move rfl rfl) rfl rfl rfl (fun _ _ _ => trivial) ?_
    obtain ⟨hq_4, H⟩ := Chk_elim H
    obtain ⟨x23, hx23, H⟩ := Let_elim H
    refine z_append (f := U8) (j := 0) (xs := x21) (ys := a0) (zs := x23) rfl rfl Try.underlying22 in5 rfl rfl rfl rfl (fun w hw => (hs0.toW hw)) (fun _ => rfl) hq_4 (by decide) hx23 (fun A_5 c_6 => [.row (.slice A_5 x23.length c_6) 5 1 (x23.map U8)]) (fun _ _ => rfl) rfl rfl rfl (fun _ _ _ _ _ => trivial) (fun A_5 c_6 hs_7 => ?_)
    clear hx23
    refine z_val (v := .slice A_5 x23.length c_6) (val_assign rfl rfl) rfl rfl rfl (fun _ _ _ => trivial) ?_
    refine z_nil ?_
    refine t_seq ?_
    refine t_region (fun ops hops => ?_)
    clear hops
    refine z_val (v := .slice A_5 x23.length c_6) (val_move rfl rfl) rfl rfl rfl (fun _ _ _ => trivial) ?_
    obtain ⟨x26, hx, H⟩ := Option.bind_eq_some_iff.1 H
    refine z_madeS (F := fun A_8 c_9 => .tuple #[.slice A_8 x26.1.length c_9, .int .i64 x26.2]) (xs := x26.1) rfl Try.func19 nm19 bs19 rfl (fun w hw => modexp_Run.calls x23 A_5 c_6 x26 hx w (row_w hw (j := 0) rfl) hs_7.le) rfl rfl rfl (fun _ _ _ _ _ => trivial) (fun A_8 c_9 hs_10 => ?_)
    clear hx
    refine z_val (v := .tuple #[.slice A_8 x26.1.length c_9, .int .i64 x26.2]) (val_move rfl rfl) rfl rfl rfl (fun _ _ _ => trivial) ?_
    refine z_val (v := .slice A_8 x26.1.length c_9) (val_extract rfl rfl rfl) rfl rfl rfl (fun _ _ _ => trivial) ?_
    refine z_val (v := .int .i64 x26.2) (val_extract rfl rfl rfl) rfl rfl rfl (fun _ _ _ => trivial) ?_
    refine z_val (v := .slice A_8 x26.1.length c_9) (val_assign rfl rfl) rfl rfl rfl (fun _ _ _ => trivial) ?_
    refine z_val (v := .int .i64 x26.2) (val_assign rfl rfl) rfl rfl rfl (fun _ _ _ => trivial) ?_
    refine z_nil ?_
    refine t_seq ?_
    refine t_region (fun ops hops => ?_)
    clear hops
    refine z_val (v := .slice A0 a0.length c0) (val_move rfl rfl) rfl rfl rfl (fun _ _ _ => trivial) ?_
    obtain ⟨x31, hx_12, H⟩ := Option.bind_eq_some_iff.1 H
    refine z_made (v := .tuple #[U64 x31.1, .bool x31.2]) rfl Try.func20 nm20 bs20 rfl (fun w hw => smithyref09_Length.calls a0 0 A0 c0 x31 hx_12 w (hs0.toW hw) hc0) rfl rfl rfl (fun _ _ _ => trivial) ?_
    clear hx_12
    refine z_val (v := .tuple #[U64 x31.1, .bool x31.2]) (val_move rfl rfl) rfl rfl rfl (fun _ _ _ => trivial) ?_
    refine z_val (v := U64 x31.1) (val_extract rfl rfl rfl) rfl rfl rfl (fun _ _ _ => trivial) ?_
    refine z_val (v := .bool x31.2) (val_extract rfl rfl rfl) rfl rfl rfl (fun _ _ _ => trivial) ?_
    refine z_val (v := U64 x31.1) (val_assign rfl rfl) rfl rfl rfl (fun _ _ _ => trivial) ?_
    refine z_val (v := .bool x31.2) (val_assign rfl rfl) rfl rfl rfl (fun _ _ _ => trivial) ?_
    refine z_nil ?_
    refine t_seq ?_
    refine t_region (fun ops hops => ?_)
    clear hops
    refine z_val (v := .slice A0 a0.length c0) (val_move rfl rfl) rfl rfl rfl (fun _ _ _ => trivial) ?_
    obtain ⟨x36, hx_13, H⟩ := Option.bind_eq_some_iff.1 H
    refine z_made (v := .tuple #[U64 x36.1, .bool x36.2]) rfl Try.func20 nm20 bs20 rfl (fun w hw => smithyref09_Length.calls a0 1 A0 c0 x36 hx_13 w (hs0.toW hw) hc0) rfl rfl rfl (fun _ _ _ => trivial) ?_
    clear hx_13
    refine z_val (v := .tuple #[U64 x36.1, .bool x36.2]) (val_move rfl rfl) rfl rfl rfl (fun _ _ _ => trivial) ?_
    refine z_val (v := U64 x36.1) (val_extract rfl rfl rfl) rfl rfl rfl (fun _ _ _ => trivial) ?_
    refine z_val (v := .bool x36.2) (val_extract rfl rfl rfl) rfl rfl rfl (fun _ _ _ => trivial) ?_
    refine z_val (v := U64 x36.1) (val_assign rfl rfl) rfl rfl rfl (fun _ _ _ => trivial) ?_
    refine z_val (v := .bool x36.2) (val_assign rfl rfl) rfl rfl rfl (fun _ _ _ => trivial) ?_
    refine z_nil ?_
    refine t_seq ?_
    refine t_region (fun ops hops => ?_)
    clear hops
    refine z_val (v := .slice A0 a0.length c0) (val_move rfl rfl) rfl rfl rfl (fun _ _ _ => trivial) ?_
    obtain ⟨x41, hx_14, H⟩ := Option.bind_eq_some_iff.1 H
    refine z_made (v := .tuple #[U64 x41.1, .bool x41.2]) rfl Try.func20 nm20 bs20 rfl (fun w hw => smithyref09_Length.calls a0 2 A0 c0 x41 hx_14 w (hs0.toW hw) hc0) rfl rfl rfl (fun _ _ _ => trivial) ?_
    clear hx_14
    refine z_val (v := .tuple #[U64 x41.1, .bool x41.2]) (val_move rfl rfl) rfl rfl rfl (fun _ _ _ => trivial) ?_
    refine z_val (v := U64 x41.1) (val_extract rfl rfl rfl) rfl rfl rfl (fun _ _ _ => trivial) ?_
    refine z_val (v := .bool x41.2) (val_extract rfl rfl rfl) rfl rfl rfl (fun _ _ _ => trivial) ?_
    refine z_val (v := U64 x41.1) (val_assign rfl rfl) rfl rfl rfl (fun _ _ _ => trivial) ?_
    refine z_val (v := .bool x41.2) (val_assign rfl rfl) rfl rfl rfl (fun _ _ _ => trivial) ?_
    refine z_nil ?_
    refine t_seq ?_
    refine t_seq ?_
    refine t_region (fun ops hops => ?_)
    obtain ⟨x44, hx_15, H⟩ := Option.bind_eq_some_iff.1 H
    refine z_made (v := .bool x44) rfl Try.func10 nm10 bs10 rfl (fun w hw => smithylaw09_fixed.calls x44 hx_15 w) rfl rfl rfl (fun _ _ _ => trivial) ?_
    clear hx_15
    obtain ⟨x45, hx45, H⟩ := Let_elim H
    refine z_val (v := .bool x45) (by subst hx45; exact val_un rfl rfl (bool_not _)) rfl rfl rfl (fun _ _ _ => trivial) ?_
    clear hx45
    refine z_val (v := .bool x45) (val_move rfl rfl) rfl rfl rfl (fun _ _ _ => trivial) ?_
    refine z_bind H 6 (fun (s : Bool) (_ : Unit) => [(0, .slice A0 a0.length c0), (4, .slice A_8 x26.1.length c_9), (5, .int .i64 x26.2), (6, U64 x31.1), (7, .bool x31.2), (8, U64 x36.1), (9, .bool x36.2), (10, U64 x41.1), (11, .bool x41.2), (52, .bool s)]) (fun _ _ => Mm w [] h [.row (.slice A_8 x26.1.length c_9) 5 1 (x26.1.map U8), .row (.slice A_5 x23.length c_6) 5 1 (x23.map U8)]) (fun _ _ => True) (fun Gr K s he HJ => ?_) (fun s g HB _ => ?_)
    ·
      clear H
      cases x45
      ·
        have H := cond_f he
        clear he
        refine z_val (v := .slice A_5 x23.length c_6) (val_move rfl rfl) rfl rfl (by rw [hops]; rfl) (fun _ _ _ => trivial) ?_
        obtain ⟨x48, hx48, H⟩ := Let_elim H
        refine z_val (v := .string x48) (by subst hx48; exact val_convS rfl rfl Try.underlying22 Try.underlying5 Try.underlying9 (fun w hw => (row_w hw (j := 1) rfl))) rfl rfl (by rw [hops]; rfl) (fun _ _ _ => trivial) ?_
        clear hx48
        refine z_val (v := .slice A0 a0.length c0) (val_move rfl rfl) rfl rfl (by rw [hops]; rfl) (fun _ _ _ => trivial) ?_
        obtain ⟨x50, hx50, H⟩ := Let_elim H
        refine z_val (v := .string x50) (by subst hx50; exact val_convS rfl rfl Try.underlying22 Try.underlying5 Try.underlying9 (fun w hw => (hs0.toW hw))) rfl rfl (by rw [hops]; rfl) (fun _ _ _ => trivial) ?_
        clear hx50
        obtain ⟨x51, hx51, H⟩ := Let_elim H
        refine z_val (v := .bool x51) (by subst hx51; exact val_bin rfl rfl rfl rfl (str_neq _ _ _)) rfl rfl (by rw [hops]; rfl) (fun _ _ _ => trivial) ?_
        clear hx51
        refine z_val (v := .bool x51) (val_pick rfl rfl rfl) rfl rfl rfl (fun _ _ _ => trivial) ?_
        obtain rfl := Option.some.inj H
        exact z_nil ((K _ () HJ trivial).weak (fun a ha => ha.cons rfl (ha.cons rfl (ha.cons rfl (ha.cons rfl (ha.cons rfl (ha.cons rfl (ha.cons rfl (ha.cons rfl (ha.cons rfl (ha.cons rfl (ha.nil))))))))))) (fun w hw => hw))
      ·
        have H := cond_t he
        clear he
        refine z_skip rfl rfl (by rw [hops]; rfl) (fun _ _ _ => trivial) ?_
        refine z_skip rfl rfl (by rw [hops]; rfl) (fun _ _ _ => trivial) ?_
        refine z_skip rfl rfl (by rw [hops]; rfl) (fun _ _ _ => trivial) ?_
        refine z_skip rfl rfl (by rw [hops]; rfl) (fun _ _ _ => trivial) ?_
        refine z_skip rfl rfl (by rw [hops]; rfl) (fun _ _ _ => trivial) ?_
        refine z_val (v := .bool true) (val_pick rfl rfl rfl) rfl rfl rfl (fun _ _ _ => trivial) ?_
        obtain rfl := Option.some.inj H
        exact z_nil ((K _ () HJ trivial).weak (fun a ha => ha.cons rfl (ha.cons rfl (ha.cons rfl (ha.cons rfl (ha.cons rfl (ha.cons rfl (ha.cons rfl (ha.cons rfl (ha.cons rfl (ha.cons rfl (ha.nil))))))))))) (fun w hw => hw))
    ·
      replace H := HB
      clear HB
      obtain ⟨x52, rfl⟩ : ∃ x, x = s := ⟨_, rfl⟩
      change T 145 _ _ _
      refine z_nil ?_
      cases x52
      ·
        replace H := cond_f H
        refine t_cond_false rfl ?_
        refine t_skip ?_
        refine t_seq ?_
        refine t_seq ?_
        refine t_region (fun ops hops => ?_)
        refine z_val (v := .bool x31.2) (val_move rfl rfl) rfl rfl rfl (fun _ _ _ => trivial) ?_
        refine z_val (v := .bool x31.2) (val_move rfl rfl) rfl rfl rfl (fun _ _ _ => trivial) ?_
        refine z_bind H 2 (fun (s : Bool) (_ : Unit) => [(0, .slice A0 a0.length c0), (4, .slice A_8 x26.1.length c_9), (5, .int .i64 x26.2), (6, U64 x31.1), (7, .bool x31.2), (8, U64 x36.1), (9, .bool x36.2), (10, U64 x41.1), (11, .bool x41.2), (56, .bool s)]) (fun _ _ => Mm w [] h [.row (.slice A_8 x26.1.length c_9) 5 1 (x26.1.map U8), .row (.slice A_5 x23.length c_6) 5 1 (x23.map U8)]) (fun _ _ => True) (fun Gr K s he HJ => ?_) (fun s g HB _ => ?_)
        ·
          clear H
          generalize x31.2 = bb at *
          cases bb
          ·
            have H := cond_f he
            clear he
            refine z_skip rfl rfl (by rw [hops]; rfl) (fun _ _ _ => trivial) ?_
            refine z_val (v := .bool false) (val_pick rfl rfl rfl) rfl rfl rfl (fun _ _ _ => trivial) ?_
            obtain rfl := Option.some.inj H
            exact z_nil ((K _ () HJ trivial).weak (fun a ha => ha.cons rfl (ha.cons rfl (ha.cons rfl (ha.cons rfl (ha.cons rfl (ha.cons rfl (ha.cons rfl (ha.cons rfl (ha.cons rfl (ha.cons rfl (ha.nil))))))))))) (fun w hw => hw))
          ·
            have H := cond_t he
            clear he
            refine z_val (v := .bool x41.2) (val_move rfl rfl) rfl rfl (by rw [hops]; rfl) (fun _ _ _ => trivial) ?_
            refine z_val (v := .bool x41.2) (val_pick rfl rfl rfl) rfl rfl rfl (fun _ _ _ => trivial) ?_
            obtain rfl := Option.some.inj H
            exact z_nil ((K _ () HJ trivial).weak (fun a ha => ha.cons rfl (ha.cons rfl (ha.cons rfl (ha.cons rfl (ha.cons rfl (ha.cons rfl (ha.cons rfl (ha.cons rfl (ha.cons rfl (ha.cons rfl (ha.nil))))))))))) (fun w hw => hw))
        ·
          replace H := HB
          clear HB
          obtain ⟨x56, rfl⟩ : ∃ x, x = s := ⟨_, rfl⟩
          change T 145 _ _ _
          refine z_val (v := .bool x56) (val_move rfl rfl) rfl rfl rfl (fun _ _ _ => trivial) ?_
          refine z_bind H 3 (fun (s : Bool) (_ : Unit) => [(0, .slice A0 a0.length c0), (4, .slice A_8 x26.1.length c_9), (5, .int .i64 x26.2), (6, U64 x31.1), (7, .bool x31.2), (8, U64 x36.1), (9, .bool x36.2), (10, U64 x41.1), (11, .bool x41.2), (60, .bool s)]) (fun _ _ => Mm w [] h [.row (.slice A_8 x26.1.length c_9) 5 1 (x26.1.map U8), .row (.slice A_5 x23.length c_6) 5 1 (x23.map U8)]) (fun _ _ => True) (fun Gr K s he HJ => ?_) (fun s g HB _ => ?_)
          ·
            clear H
            cases x56
            ·
              have H := cond_f he
              clear he
              refine z_skip rfl rfl (by rw [hops]; rfl) (fun _ _ _ => trivial) ?_
              refine z_skip rfl rfl (by rw [hops]; rfl) (fun _ _ _ => trivial) ?_
              refine z_val (v := .bool false) (val_pick rfl rfl rfl) rfl rfl rfl (fun _ _ _ => trivial) ?_
              obtain rfl := Option.some.inj H
              exact z_nil ((K _ () HJ trivial).weak (fun a ha => ha.cons rfl (ha.cons rfl (ha.cons rfl (ha.cons rfl (ha.cons rfl (ha.cons rfl (ha.cons rfl (ha.cons rfl (ha.cons rfl (ha.cons rfl (ha.nil))))))))))) (fun w hw => hw))
            ·
              have H := cond_t he
              clear he
              refine z_val (v := U64 x31.1) (val_move rfl rfl) rfl rfl (by rw [hops]; rfl) (fun _ _ _ => trivial) ?_
              obtain ⟨x59, hx59, H⟩ := Let_elim H
              refine z_val (v := .bool x59) (by subst hx59; exact val_bin rfl rfl rfl rfl (u64_eql_r _ 0 x31.1)) rfl rfl (by rw [hops]; rfl) (fun _ _ _ => trivial) ?_
              clear hx59
              refine z_val (v := .bool x59) (val_pick rfl rfl rfl) rfl rfl rfl (fun _ _ _ => trivial) ?_
              obtain rfl := Option.some.inj H
              exact z_nil ((K _ () HJ trivial).weak (fun a ha => ha.cons rfl (ha.cons rfl (ha.cons rfl (ha.cons rfl (ha.cons rfl (ha.cons rfl (ha.cons rfl (ha.cons rfl (ha.cons rfl (ha.cons rfl (ha.nil))))))))))) (fun w hw => hw))
          ·
            replace H := HB
            clear HB
            obtain ⟨x60, rfl⟩ : ∃ x, x = s := ⟨_, rfl⟩
            change T 145 _ _ _
            refine z_val (v := .bool x60) (val_move rfl rfl) rfl rfl rfl (fun _ _ _ => trivial) ?_
            refine z_bind H 3 (fun (s : Bool) (_ : Unit) => [(0, .slice A0 a0.length c0), (4, .slice A_8 x26.1.length c_9), (5, .int .i64 x26.2), (6, U64 x31.1), (7, .bool x31.2), (8, U64 x36.1), (9, .bool x36.2), (10, U64 x41.1), (11, .bool x41.2), (64, .bool s)]) (fun _ _ => Mm w [] h [.row (.slice A_8 x26.1.length c_9) 5 1 (x26.1.map U8), .row (.slice A_5 x23.length c_6) 5 1 (x23.map U8)]) (fun _ _ => True) (fun Gr K s he HJ => ?_) (fun s g HB _ => ?_)
            ·
              clear H
              cases x60
              ·
                have H := cond_f he
                clear he
                refine z_skip rfl rfl (by rw [hops]; rfl) (fun _ _ _ => trivial) ?_
                refine z_skip rfl rfl (by rw [hops]; rfl) (fun _ _ _ => trivial) ?_
                refine z_val (v := .bool false) (val_pick rfl rfl rfl) rfl rfl rfl (fun _ _ _ => trivial) ?_
                obtain rfl := Option.some.inj H
                exact z_nil ((K _ () HJ trivial).weak (fun a ha => ha.cons rfl (ha.cons rfl (ha.cons rfl (ha.cons rfl (ha.cons rfl (ha.cons rfl (ha.cons rfl (ha.cons rfl (ha.cons rfl (ha.cons rfl (ha.nil))))))))))) (fun w hw => hw))
              ·
                have H := cond_t he
                clear he
                refine z_val (v := U64 x41.1) (val_move rfl rfl) rfl rfl (by rw [hops]; rfl) (fun _ _ _ => trivial) ?_
                obtain ⟨x63, hx63, H⟩ := Let_elim H
                refine z_val (v := .bool x63) (by subst hx63; exact val_bin rfl rfl rfl rfl (u64_eql_r _ 0 x41.1)) rfl rfl (by rw [hops]; rfl) (fun _ _ _ => trivial) ?_
                clear hx63
                refine z_val (v := .bool x63) (val_pick rfl rfl rfl) rfl rfl rfl (fun _ _ _ => trivial) ?_
                obtain rfl := Option.some.inj H
                exact z_nil ((K _ () HJ trivial).weak (fun a ha => ha.cons rfl (ha.cons rfl (ha.cons rfl (ha.cons rfl (ha.cons rfl (ha.cons rfl (ha.cons rfl (ha.cons rfl (ha.cons rfl (ha.cons rfl (ha.nil))))))))))) (fun w hw => hw))
            ·
              replace H := HB
              clear HB
              obtain ⟨x64, rfl⟩ : ∃ x, x = s := ⟨_, rfl⟩
              change T 145 _ _ _
              refine z_nil ?_
              cases x64
              ·
                replace H := cond_f H
                refine t_cond_false rfl ?_
                refine t_skip ?_
                refine t_seq ?_
                refine t_seq ?_
                refine t_region (fun ops hops => ?_)
                refine z_val (v := .bool x31.2) (val_move rfl rfl) rfl rfl rfl (fun _ _ _ => trivial) ?_
                obtain ⟨x73, hx73, H⟩ := Let_elim H
                refine z_val (v := .bool x73) (by subst hx73; exact val_un rfl rfl (bool_not _)) rfl rfl rfl (fun _ _ _ => trivial) ?_
                clear hx73
                refine z_val (v := .bool x73) (val_move rfl rfl) rfl rfl rfl (fun _ _ _ => trivial) ?_
                refine z_bind H 3 (fun (s : Bool) (_ : Unit) => [(0, .slice A0 a0.length c0), (4, .slice A_8 x26.1.length c_9), (5, .int .i64 x26.2), (6, U64 x31.1), (8, U64 x36.1), (10, U64 x41.1), (11, .bool x41.2), (77, .bool s)]) (fun _ _ => Mm w [] h [.row (.slice A_8 x26.1.length c_9) 5 1 (x26.1.map U8), .row (.slice A_5 x23.length c_6) 5 1 (x23.map U8)]) (fun _ _ => True) (fun Gr K s he HJ => ?_) (fun s g HB _ => ?_)
                ·
                  clear H
                  cases x73
                  ·
                    have H := cond_f he
                    clear he
                    refine z_val (v := .bool x36.2) (val_move rfl rfl) rfl rfl (by rw [hops]; rfl) (fun _ _ _ => trivial) ?_
                    obtain ⟨x76, hx76, H⟩ := Let_elim H
                    refine z_val (v := .bool x76) (by subst hx76; exact val_un rfl rfl (bool_not _)) rfl rfl (by rw [hops]; rfl) (fun _ _ _ => trivial) ?_
                    clear hx76
                    refine z_val (v := .bool x76) (val_pick rfl rfl rfl) rfl rfl rfl (fun _ _ _ => trivial) ?_
                    obtain rfl := Option.some.inj H
                    exact z_nil ((K _ () HJ trivial).weak (fun a ha => ha.cons rfl (ha.cons rfl (ha.cons rfl (ha.cons rfl (ha.cons rfl (ha.cons rfl (ha.cons rfl (ha.cons rfl (ha.nil))))))))) (fun w hw => hw))
                  ·
                    have H := cond_t he
                    clear he
                    refine z_skip rfl rfl (by rw [hops]; rfl) (fun _ _ _ => trivial) ?_
                    refine z_skip rfl rfl (by rw [hops]; rfl) (fun _ _ _ => trivial) ?_
                    refine z_val (v := .bool true) (val_pick rfl rfl rfl) rfl rfl rfl (fun _ _ _ => trivial) ?_
                    obtain rfl := Option.some.inj H
                    exact z_nil ((K _ () HJ trivial).weak (fun a ha => ha.cons rfl (ha.cons rfl (ha.cons rfl (ha.cons rfl (ha.cons rfl (ha.cons rfl (ha.cons rfl (ha.cons rfl (ha.nil))))))))) (fun w hw => hw))
                ·
                  replace H := HB
                  clear HB
                  obtain ⟨x77, rfl⟩ : ∃ x, x = s := ⟨_, rfl⟩
                  change T 145 _ _ _
                  refine z_val (v := .bool x77) (val_move rfl rfl) rfl rfl rfl (fun _ _ _ => trivial) ?_
                  refine z_bind H 3 (fun (s : Bool) (_ : Unit) => [(0, .slice A0 a0.length c0), (4, .slice A_8 x26.1.length c_9), (5, .int .i64 x26.2), (6, U64 x31.1), (8, U64 x36.1), (10, U64 x41.1), (81, .bool s)]) (fun _ _ => Mm w [] h [.row (.slice A_8 x26.1.length c_9) 5 1 (x26.1.map U8), .row (.slice A_5 x23.length c_6) 5 1 (x23.map U8)]) (fun _ _ => True) (fun Gr K s he HJ => ?_) (fun s g HB _ => ?_)
                  ·
                    clear H
                    cases x77
                    ·
                      have H := cond_f he
                      clear he
                      refine z_val (v := .bool x41.2) (val_move rfl rfl) rfl rfl (by rw [hops]; rfl) (fun _ _ _ => trivial) ?_
                      obtain ⟨x80, hx80, H⟩ := Let_elim H
                      refine z_val (v := .bool x80) (by subst hx80; exact val_un rfl rfl (bool_not _)) rfl rfl (by rw [hops]; rfl) (fun _ _ _ => trivial) ?_
                      clear hx80
                      refine z_val (v := .bool x80) (val_pick rfl rfl rfl) rfl rfl rfl (fun _ _ _ => trivial) ?_
                      obtain rfl := Option.some.inj H
                      exact z_nil ((K _ () HJ trivial).weak (fun a ha => ha.cons rfl (ha.cons rfl (ha.cons rfl (ha.cons rfl (ha.cons rfl (ha.cons rfl (ha.cons rfl (ha.nil)))))))) (fun w hw => hw))
                    ·
                      have H := cond_t he
                      clear he
                      refine z_skip rfl rfl (by rw [hops]; rfl) (fun _ _ _ => trivial) ?_
                      refine z_skip rfl rfl (by rw [hops]; rfl) (fun _ _ _ => trivial) ?_
                      refine z_val (v := .bool true) (val_pick rfl rfl rfl) rfl rfl rfl (fun _ _ _ => trivial) ?_
                      obtain rfl := Option.some.inj H
                      exact z_nil ((K _ () HJ trivial).weak (fun a ha => ha.cons rfl (ha.cons rfl (ha.cons rfl (ha.cons rfl (ha.cons rfl (ha.cons rfl (ha.cons rfl (ha.nil)))))))) (fun w hw => hw))
                  ·
                    replace H := HB
                    clear HB
                    obtain ⟨x81, rfl⟩ : ∃ x, x = s := ⟨_, rfl⟩
                    change T 145 _ _ _
                    refine z_val (v := .bool x81) (val_move rfl rfl) rfl rfl rfl (fun _ _ _ => trivial) ?_
                    refine z_bind H 3 (fun (s : Bool) (_ : Unit) => [(0, .slice A0 a0.length c0), (4, .slice A_8 x26.1.length c_9), (5, .int .i64 x26.2), (6, U64 x31.1), (8, U64 x36.1), (10, U64 x41.1), (85, .bool s)]) (fun _ _ => Mm w [] h [.row (.slice A_8 x26.1.length c_9) 5 1 (x26.1.map U8), .row (.slice A_5 x23.length c_6) 5 1 (x23.map U8)]) (fun _ _ => True) (fun Gr K s he HJ => ?_) (fun s g HB _ => ?_)
                    ·
                      clear H
                      cases x81
                      ·
                        have H := cond_f he
                        clear he
                        refine z_val (v := U64 x31.1) (val_move rfl rfl) rfl rfl (by rw [hops]; rfl) (fun _ _ _ => trivial) ?_
                        obtain ⟨x84, hx84, H⟩ := Let_elim H
                        refine z_val (v := .bool x84) (by subst hx84; exact val_bin rfl rfl rfl rfl (u64_gtr_r _ 64 x31.1)) rfl rfl (by rw [hops]; rfl) (fun _ _ _ => trivial) ?_
                        clear hx84
                        refine z_val (v := .bool x84) (val_pick rfl rfl rfl) rfl rfl rfl (fun _ _ _ => trivial) ?_
                        obtain rfl := Option.some.inj H
                        exact z_nil ((K _ () HJ trivial).weak (fun a ha => ha.cons rfl (ha.cons rfl (ha.cons rfl (ha.cons rfl (ha.cons rfl (ha.cons rfl (ha.cons rfl (ha.nil)))))))) (fun w hw => hw))
                      ·
                        have H := cond_t he
                        clear he
                        refine z_skip rfl rfl (by rw [hops]; rfl) (fun _ _ _ => trivial) ?_
                        refine z_skip rfl rfl (by rw [hops]; rfl) (fun _ _ _ => trivial) ?_
                        refine z_val (v := .bool true) (val_pick rfl rfl rfl) rfl rfl rfl (fun _ _ _ => trivial) ?_
                        obtain rfl := Option.some.inj H
                        exact z_nil ((K _ () HJ trivial).weak (fun a ha => ha.cons rfl (ha.cons rfl (ha.cons rfl (ha.cons rfl (ha.cons rfl (ha.cons rfl (ha.cons rfl (ha.nil)))))))) (fun w hw => hw))
                    ·
                      replace H := HB
                      clear HB
                      obtain ⟨x85, rfl⟩ : ∃ x, x = s := ⟨_, rfl⟩
                      change T 145 _ _ _
                      refine z_val (v := .bool x85) (val_move rfl rfl) rfl rfl rfl (fun _ _ _ => trivial) ?_
                      refine z_bind H 3 (fun (s : Bool) (_ : Unit) => [(0, .slice A0 a0.length c0), (4, .slice A_8 x26.1.length c_9), (5, .int .i64 x26.2), (6, U64 x31.1), (8, U64 x36.1), (10, U64 x41.1), (89, .bool s)]) (fun _ _ => Mm w [] h [.row (.slice A_8 x26.1.length c_9) 5 1 (x26.1.map U8), .row (.slice A_5 x23.length c_6) 5 1 (x23.map U8)]) (fun _ _ => True) (fun Gr K s he HJ => ?_) (fun s g HB _ => ?_)
                      ·
                        clear H
                        cases x85
                        ·
                          have H := cond_f he
                          clear he
                          refine z_val (v := U64 x36.1) (val_move rfl rfl) rfl rfl (by rw [hops]; rfl) (fun _ _ _ => trivial) ?_
                          obtain ⟨x88, hx88, H⟩ := Let_elim H
                          refine z_val (v := .bool x88) (by subst hx88; exact val_bin rfl rfl rfl rfl (u64_gtr_r _ 64 x36.1)) rfl rfl (by rw [hops]; rfl) (fun _ _ _ => trivial) ?_
                          clear hx88
                          refine z_val (v := .bool x88) (val_pick rfl rfl rfl) rfl rfl rfl (fun _ _ _ => trivial) ?_
                          obtain rfl := Option.some.inj H
                          exact z_nil ((K _ () HJ trivial).weak (fun a ha => ha.cons rfl (ha.cons rfl (ha.cons rfl (ha.cons rfl (ha.cons rfl (ha.cons rfl (ha.cons rfl (ha.nil)))))))) (fun w hw => hw))
                        ·
                          have H := cond_t he
                          clear he
                          refine z_skip rfl rfl (by rw [hops]; rfl) (fun _ _ _ => trivial) ?_
                          refine z_skip rfl rfl (by rw [hops]; rfl) (fun _ _ _ => trivial) ?_
                          refine z_val (v := .bool true) (val_pick rfl rfl rfl) rfl rfl rfl (fun _ _ _ => trivial) ?_
                          obtain rfl := Option.some.inj H
                          exact z_nil ((K _ () HJ trivial).weak (fun a ha => ha.cons rfl (ha.cons rfl (ha.cons rfl (ha.cons rfl (ha.cons rfl (ha.cons rfl (ha.cons rfl (ha.nil)))))))) (fun w hw => hw))
                      ·
                        replace H := HB
                        clear HB
                        obtain ⟨x89, rfl⟩ : ∃ x, x = s := ⟨_, rfl⟩
                        change T 145 _ _ _
                        refine z_val (v := .bool x89) (val_move rfl rfl) rfl rfl rfl (fun _ _ _ => trivial) ?_
                        refine z_bind H 3 (fun (s : Bool) (_ : Unit) => [(0, .slice A0 a0.length c0), (4, .slice A_8 x26.1.length c_9), (5, .int .i64 x26.2), (6, U64 x31.1), (8, U64 x36.1), (10, U64 x41.1), (93, .bool s)]) (fun _ _ => Mm w [] h [.row (.slice A_8 x26.1.length c_9) 5 1 (x26.1.map U8), .row (.slice A_5 x23.length c_6) 5 1 (x23.map U8)]) (fun _ _ => True) (fun Gr K s he HJ => ?_) (fun s g HB _ => ?_)
                        ·
                          clear H
                          cases x89
                          ·
                            have H := cond_f he
                            clear he
                            refine z_val (v := U64 x41.1) (val_move rfl rfl) rfl rfl (by rw [hops]; rfl) (fun _ _ _ => trivial) ?_
                            obtain ⟨x92, hx92, H⟩ := Let_elim H
                            refine z_val (v := .bool x92) (by subst hx92; exact val_bin rfl rfl rfl rfl (u64_gtr_r _ 64 x41.1)) rfl rfl (by rw [hops]; rfl) (fun _ _ _ => trivial) ?_
                            clear hx92
                            refine z_val (v := .bool x92) (val_pick rfl rfl rfl) rfl rfl rfl (fun _ _ _ => trivial) ?_
                            obtain rfl := Option.some.inj H
                            exact z_nil ((K _ () HJ trivial).weak (fun a ha => ha.cons rfl (ha.cons rfl (ha.cons rfl (ha.cons rfl (ha.cons rfl (ha.cons rfl (ha.cons rfl (ha.nil)))))))) (fun w hw => hw))
                          ·
                            have H := cond_t he
                            clear he
                            refine z_skip rfl rfl (by rw [hops]; rfl) (fun _ _ _ => trivial) ?_
                            refine z_skip rfl rfl (by rw [hops]; rfl) (fun _ _ _ => trivial) ?_
                            refine z_val (v := .bool true) (val_pick rfl rfl rfl) rfl rfl rfl (fun _ _ _ => trivial) ?_
                            obtain rfl := Option.some.inj H
                            exact z_nil ((K _ () HJ trivial).weak (fun a ha => ha.cons rfl (ha.cons rfl (ha.cons rfl (ha.cons rfl (ha.cons rfl (ha.cons rfl (ha.cons rfl (ha.nil)))))))) (fun w hw => hw))
                        ·
                          replace H := HB
                          clear HB
                          obtain ⟨x93, rfl⟩ : ∃ x, x = s := ⟨_, rfl⟩
                          change T 145 _ _ _
                          refine z_nil ?_
                          cases x93
                          ·
                            replace H := cond_f H
                            refine t_cond_false rfl ?_
                            refine t_skip ?_
                            refine t_seq ?_
                            refine t_region (fun ops hops => ?_)
                            clear hops
                            refine z_val (v := U64 x31.1) (val_move rfl rfl) rfl rfl rfl (fun _ _ _ => trivial) ?_
                            obtain ⟨x102, hx102, H⟩ := Let_elim H
                            refine z_val (v := .int .i64 x102) (by subst hx102; exact val_conv rfl rfl (fun w => conv_u64_int w _ _ _ (by rw [Try.underlying38]; rfl) Try.underlying3)) rfl rfl rfl (fun _ _ _ => trivial) ?_
                            clear hx102
                            refine z_val (v := U64 x36.1) (val_move rfl rfl) rfl rfl rfl (fun _ _ _ => trivial) ?_
                            obtain ⟨x104, hx104, H⟩ := Let_elim H
                            refine z_val (v := .int .i64 x104) (by subst hx104; exact val_conv rfl rfl (fun w => conv_u64_int w _ _ _ (by rw [Try.underlying38]; rfl) Try.underlying3)) rfl rfl rfl (fun _ _ _ => trivial) ?_
                            clear hx104
                            refine z_val (v := U64 x41.1) (val_move rfl rfl) rfl rfl rfl (fun _ _ _ => trivial) ?_
                            obtain ⟨x106, hx106, H⟩ := Let_elim H
                            refine z_val (v := .int .i64 x106) (by subst hx106; exact val_conv rfl rfl (fun w => conv_u64_int w _ _ _ (by rw [Try.underlying38]; rfl) Try.underlying3)) rfl rfl rfl (fun _ _ _ => trivial) ?_
                            clear hx106
                            refine z_val (v := .int .i64 x102) (val_assign rfl rfl) rfl rfl rfl (fun _ _ _ => trivial) ?_
                            refine z_val (v := .int .i64 x104) (val_assign rfl rfl) rfl rfl rfl (fun _ _ _ => trivial) ?_
                            refine z_val (v := .int .i64 x106) (val_assign rfl rfl) rfl rfl rfl (fun _ _ _ => trivial) ?_
                            refine z_nil ?_
                            refine t_seq ?_
                            refine t_region (fun ops hops => ?_)
                            clear hops
                            refine z_val (v := .slice A0 a0.length c0) (val_move rfl rfl) rfl rfl rfl (fun _ _ _ => trivial) ?_
                            refine z_val (v := .int .i64 x102) (val_move rfl rfl) rfl rfl rfl (fun _ _ _ => trivial) ?_
                            obtain ⟨x110, hx_16, H⟩ := Option.bind_eq_some_iff.1 H
                            refine z_madeS (F := fun A_17 c_18 => .slice A_17 x110.length c_18) (xs := x110) rfl Try.func21 nm21 bs21 rfl (fun w hw => smithyref09_Part.calls a0 96 x102 A0 c0 x110 hx_16 w (hs0.toW hw) hc0) rfl rfl rfl (fun _ _ _ _ _ => trivial) (fun A_17 c_18 hs_19 => ?_)
                            clear hx_16
                            refine z_val (v := .slice A0 a0.length c0) (val_move rfl rfl) rfl rfl rfl (fun _ _ _ => trivial) ?_
                            refine z_val (v := .int .i64 x102) (val_move rfl rfl) rfl rfl rfl (fun _ _ _ => trivial) ?_
                            obtain ⟨x113, hx113, H⟩ := Let_elim H
                            refine z_val (v := .int .i64 x113) (by subst hx113; exact val_bin rfl rfl rfl rfl (i64_add _ _ _)) rfl rfl rfl (fun _ _ _ => trivial) ?_
                            clear hx113
                            refine z_val (v := .int .i64 x104) (val_move rfl rfl) rfl rfl rfl (fun _ _ _ => trivial) ?_
                            obtain ⟨x115, hx_21, H⟩ := Option.bind_eq_some_iff.1 H
                            refine z_madeS (F := fun A_22 c_23 => .slice A_22 x115.length c_23) (xs := x115) rfl Try.func21 nm21 bs21 rfl (fun w hw => smithyref09_Part.calls a0 x113 x104 A0 c0 x115 hx_21 w (hs0.toW hw) hc0) rfl rfl rfl (fun _ _ _ _ _ => trivial) (fun A_22 c_23 hs_24 => ?_)
                            clear hx_21
                            refine z_val (v := .slice A0 a0.length c0) (val_move rfl rfl) rfl rfl rfl (fun _ _ _ => trivial) ?_
                            refine z_val (v := .int .i64 x102) (val_move rfl rfl) rfl rfl rfl (fun _ _ _ => trivial) ?_
                            obtain ⟨x118, hx118, H⟩ := Let_elim H
                            refine z_val (v := .int .i64 x118) (by subst hx118; exact val_bin rfl rfl rfl rfl (i64_add _ _ _)) rfl rfl rfl (fun _ _ _ => trivial) ?_
                            clear hx118
                            refine z_val (v := .int .i64 x104) (val_move rfl rfl) rfl rfl rfl (fun _ _ _ => trivial) ?_
                            obtain ⟨x120, hx120, H⟩ := Let_elim H
                            refine z_val (v := .int .i64 x120) (by subst hx120; exact val_bin rfl rfl rfl rfl (i64_add _ _ _)) rfl rfl rfl (fun _ _ _ => trivial) ?_
                            clear hx120
                            refine z_val (v := .int .i64 x106) (val_move rfl rfl) rfl rfl rfl (fun _ _ _ => trivial) ?_
                            obtain ⟨x122, hx_26, H⟩ := Option.bind_eq_some_iff.1 H
                            refine z_madeS (F := fun A_27 c_28 => .slice A_27 x122.length c_28) (xs := x122) rfl Try.func21 nm21 bs21 rfl (fun w hw => smithyref09_Part.calls a0 x120 x106 A0 c0 x122 hx_26 w (hs0.toW hw) hc0) rfl rfl rfl (fun _ _ _ _ _ => trivial) (fun A_27 c_28 hs_29 => ?_)
                            clear hx_26
                            obtain ⟨x123, hx_31, H⟩ := Option.bind_eq_some_iff.1 H
                            refine z_madeS (F := fun A_32 c_33 => .tuple #[.slice A_32 x123.1.length c_33, .int .i64 x123.2]) (xs := x123.1) rfl Try.func8 nm8 bs8 rfl (fun w hw => modexp_Pow.calls x110 x115 x122 A_17 c_18 A_22 c_23 A_27 c_28 x123 hx_31 w (row_w hw (j := 2) rfl) hs_19.le (row_w hw (j := 1) rfl) hs_24.le (row_w hw (j := 0) rfl) hs_29.le) rfl rfl rfl (fun _ _ _ _ _ => trivial) (fun A_32 c_33 hs_34 => ?_)
                            clear hx_31
                            refine z_val (v := .tuple #[.slice A_32 x123.1.length c_33, .int .i64 x123.2]) (val_move rfl rfl) rfl rfl rfl (fun _ _ _ => trivial) ?_
                            refine z_val (v := .slice A_32 x123.1.length c_33) (val_extract rfl rfl rfl) rfl rfl rfl (fun _ _ _ => trivial) ?_
                            refine z_val (v := .int .i64 x123.2) (val_extract rfl rfl rfl) rfl rfl rfl (fun _ _ _ => trivial) ?_
                            refine z_val (v := .slice A_32 x123.1.length c_33) (val_assign rfl rfl) rfl rfl rfl (fun _ _ _ => trivial) ?_
                            refine z_val (v := .int .i64 x123.2) (val_assign rfl rfl) rfl rfl rfl (fun _ _ _ => trivial) ?_
                            refine z_nil ?_
                            refine t_seq ?_
                            refine t_region (fun ops hops => ?_)
                            refine z_val (v := .int .i64 x26.2) (val_move rfl rfl) rfl rfl rfl (fun _ _ _ => trivial) ?_
                            obtain ⟨x127, hx127, H⟩ := Let_elim H
                            refine z_val (v := .bool x127) (by subst hx127; exact val_bin rfl rfl rfl rfl (i64_eql _ _ _)) rfl rfl rfl (fun _ _ _ => trivial) ?_
                            clear hx127
                            refine z_val (v := .bool x127) (val_move rfl rfl) rfl rfl rfl (fun _ _ _ => trivial) ?_
                            refine z_bind H 3 (fun (s : Bool) (_ : Unit) => [(4, .slice A_8 x26.1.length c_9), (14, .int .i64 x106), (15, .slice A_32 x123.1.length c_33), (131, .bool s)]) (fun _ _ => Mm w [] h [.row (.slice A_32 x123.1.length c_33) 5 1 (x123.1.map U8), .row (.slice A_27 x122.length c_28) 5 1 (x122.map U8), .row (.slice A_22 x115.length c_23) 5 1 (x115.map U8), .row (.slice A_17 x110.length c_18) 5 1 (x110.map U8), .row (.slice A_8 x26.1.length c_9) 5 1 (x26.1.map U8), .row (.slice A_5 x23.length c_6) 5 1 (x23.map U8)]) (fun _ _ => True) (fun Gr K s he HJ => ?_) (fun s g HB _ => ?_)
                            ·
                              clear H
                              cases x127
                              ·
                                have H := cond_f he
                                clear he
                                refine z_skip rfl rfl (by rw [hops]; rfl) (fun _ _ _ => trivial) ?_
                                refine z_skip rfl rfl (by rw [hops]; rfl) (fun _ _ _ => trivial) ?_
                                refine z_val (v := .bool false) (val_pick rfl rfl rfl) rfl rfl rfl (fun _ _ _ => trivial) ?_
                                obtain rfl := Option.some.inj H
                                exact z_nil ((K _ () HJ trivial).weak (fun a ha => ha.cons rfl (ha.cons rfl (ha.cons rfl (ha.cons rfl (ha.nil))))) (fun w hw => hw))
                              ·
                                have H := cond_t he
                                clear he
                                refine z_val (v := .int .i64 x123.2) (val_move rfl rfl) rfl rfl (by rw [hops]; rfl) (fun _ _ _ => trivial) ?_
                                obtain ⟨x130, hx130, H⟩ := Let_elim H
                                refine z_val (v := .bool x130) (by subst hx130; exact val_bin rfl rfl rfl rfl (i64_eql _ _ _)) rfl rfl (by rw [hops]; rfl) (fun _ _ _ => trivial) ?_
                                clear hx130
                                refine z_val (v := .bool x130) (val_pick rfl rfl rfl) rfl rfl rfl (fun _ _ _ => trivial) ?_
                                obtain rfl := Option.some.inj H
                                exact z_nil ((K _ () HJ trivial).weak (fun a ha => ha.cons rfl (ha.cons rfl (ha.cons rfl (ha.cons rfl (ha.nil))))) (fun w hw => hw))
                            ·
                              replace H := HB
                              clear HB
                              obtain ⟨x131, rfl⟩ : ∃ x, x = s := ⟨_, rfl⟩
                              change T 145 _ _ _
                              refine z_val (v := .bool x131) (val_move rfl rfl) rfl rfl rfl (fun _ _ _ => trivial) ?_
                              refine z_bind H 6 (fun (s : Bool) (_ : Unit) => [(4, .slice A_8 x26.1.length c_9), (14, .int .i64 x106), (138, .bool s)]) (fun _ _ => Mm w [] h [.row (.slice A_32 x123.1.length c_33) 5 1 (x123.1.map U8), .row (.slice A_27 x122.length c_28) 5 1 (x122.map U8), .row (.slice A_22 x115.length c_23) 5 1 (x115.map U8), .row (.slice A_17 x110.length c_18) 5 1 (x110.map U8), .row (.slice A_8 x26.1.length c_9) 5 1 (x26.1.map U8), .row (.slice A_5 x23.length c_6) 5 1 (x23.map U8)]) (fun _ _ => True) (fun Gr K s he HJ => ?_) (fun s g HB _ => ?_)
                              ·
                                clear H
                                cases x131
                                ·
                                  have H := cond_f he
                                  clear he
                                  refine z_skip rfl rfl (by rw [hops]; rfl) (fun _ _ _ => trivial) ?_
                                  refine z_skip rfl rfl (by rw [hops]; rfl) (fun _ _ _ => trivial) ?_
                                  refine z_skip rfl rfl (by rw [hops]; rfl) (fun _ _ _ => trivial) ?_
                                  refine z_skip rfl rfl (by rw [hops]; rfl) (fun _ _ _ => trivial) ?_
                                  refine z_skip rfl rfl (by rw [hops]; rfl) (fun _ _ _ => trivial) ?_
                                  refine z_val (v := .bool false) (val_pick rfl rfl rfl) rfl rfl rfl (fun _ _ _ => trivial) ?_
                                  obtain rfl := Option.some.inj H
                                  exact z_nil ((K _ () HJ trivial).weak (fun a ha => ha.cons rfl (ha.cons rfl (ha.cons rfl (ha.nil)))) (fun w hw => hw))
                                ·
                                  have H := cond_t he
                                  clear he
                                  refine z_val (v := .slice A_8 x26.1.length c_9) (val_move rfl rfl) rfl rfl (by rw [hops]; rfl) (fun _ _ _ => trivial) ?_
                                  obtain ⟨x134, hx134, H⟩ := Let_elim H
                                  refine z_val (v := .string x134) (by subst hx134; exact val_convS rfl rfl Try.underlying22 Try.underlying5 Try.underlying9 (fun w hw => (row_w hw (j := 4) rfl))) rfl rfl (by rw [hops]; rfl) (fun _ _ _ => trivial) ?_
                                  clear hx134
                                  refine z_val (v := .slice A_32 x123.1.length c_33) (val_move rfl rfl) rfl rfl (by rw [hops]; rfl) (fun _ _ _ => trivial) ?_
                                  obtain ⟨x136, hx136, H⟩ := Let_elim H
                                  refine z_val (v := .string x136) (by subst hx136; exact val_convS rfl rfl Try.underlying22 Try.underlying5 Try.underlying9 (fun w hw => (row_w hw (j := 0) rfl))) rfl rfl (by rw [hops]; rfl) (fun _ _ _ => trivial) ?_
                                  clear hx136
                                  obtain ⟨x137, hx137, H⟩ := Let_elim H
                                  refine z_val (v := .bool x137) (by subst hx137; exact val_bin rfl rfl rfl rfl (str_eql _ _ _)) rfl rfl (by rw [hops]; rfl) (fun _ _ _ => trivial) ?_
                                  clear hx137
                                  refine z_val (v := .bool x137) (val_pick rfl rfl rfl) rfl rfl rfl (fun _ _ _ => trivial) ?_
                                  obtain rfl := Option.some.inj H
                                  exact z_nil ((K _ () HJ trivial).weak (fun a ha => ha.cons rfl (ha.cons rfl (ha.cons rfl (ha.nil)))) (fun w hw => hw))
                              ·
                                replace H := HB
                                clear HB
                                obtain ⟨x138, rfl⟩ : ∃ x, x = s := ⟨_, rfl⟩
                                change T 145 _ _ _
                                refine z_val (v := .bool x138) (val_move rfl rfl) rfl rfl rfl (fun _ _ _ => trivial) ?_
                                refine z_bind H 5 (fun (s : Bool) (_ : Unit) => [(144, .bool s)]) (fun _ _ => Mm w [] h [.row (.slice A_32 x123.1.length c_33) 5 1 (x123.1.map U8), .row (.slice A_27 x122.length c_28) 5 1 (x122.map U8), .row (.slice A_22 x115.length c_23) 5 1 (x115.map U8), .row (.slice A_17 x110.length c_18) 5 1 (x110.map U8), .row (.slice A_8 x26.1.length c_9) 5 1 (x26.1.map U8), .row (.slice A_5 x23.length c_6) 5 1 (x23.map U8)]) (fun _ _ => True) (fun Gr K s he HJ => ?_) (fun s g HB _ => ?_)
                                ·
                                  clear H
                                  cases x138
                                  ·
                                    have H := cond_f he
                                    clear he
                                    refine z_skip rfl rfl (by rw [hops]; rfl) (fun _ _ _ => trivial) ?_
                                    refine z_skip rfl rfl (by rw [hops]; rfl) (fun _ _ _ => trivial) ?_
                                    refine z_skip rfl rfl (by rw [hops]; rfl) (fun _ _ _ => trivial) ?_
                                    refine z_skip rfl rfl (by rw [hops]; rfl) (fun _ _ _ => trivial) ?_
                                    refine z_val (v := .bool false) (val_pick rfl rfl rfl) rfl rfl rfl (fun _ _ _ => trivial) ?_
                                    obtain rfl := Option.some.inj H
                                    exact z_nil ((K _ () HJ trivial).weak (fun a ha => ha.cons rfl (ha.nil)) (fun w hw => hw))
                                  ·
                                    have H := cond_t he
                                    clear he
                                    refine z_val (v := .slice A_8 x26.1.length c_9) (val_move rfl rfl) rfl rfl (by rw [hops]; rfl) (fun _ _ _ => trivial) ?_
                                    obtain ⟨x141, hx141, H⟩ := Let_elim H
                                    refine z_val (v := .int .i64 x141) (by subst hx141; exact val_len rfl rfl rfl Try.underlying22) rfl rfl (by rw [hops]; rfl) (fun _ _ _ => trivial) ?_
                                    clear hx141
                                    refine z_val (v := .int .i64 x106) (val_move rfl rfl) rfl rfl (by rw [hops]; rfl) (fun _ _ _ => trivial) ?_
                                    obtain ⟨x143, hx143, H⟩ := Let_elim H
                                    refine z_val (v := .bool x143) (by subst hx143; exact val_bin rfl rfl rfl rfl (i64_eql _ _ _)) rfl rfl (by rw [hops]; rfl) (fun _ _ _ => trivial) ?_
                                    clear hx143
                                    refine z_val (v := .bool x143) (val_pick rfl rfl rfl) rfl rfl rfl (fun _ _ _ => trivial) ?_
                                    obtain rfl := Option.some.inj H
                                    exact z_nil ((K _ () HJ trivial).weak (fun a ha => ha.cons rfl (ha.nil)) (fun w hw => hw))
                                ·
                                  replace H := HB
                                  clear HB
                                  obtain ⟨x144, rfl⟩ : ∃ x, x = s := ⟨_, rfl⟩
                                  change T 145 _ _ _
                                  refine z_val (v := .bool x144) (val_assign rfl rfl) rfl rfl rfl (fun _ _ _ => trivial) ?_
                                  refine z_nil ?_
                                  refine t_ret ?_
                                  obtain rfl := Option.some.inj H
                                  exact ret1 rfl (res_tmp rfl) (fun _ hw => ⟨rfl, hw.below⟩)
                          ·
                            replace H := cond_t H
                            refine t_cond_true rfl ?_
                            refine t_seq ?_
                            refine t_region (fun ops hops => ?_)
                            refine z_val (v := .slice A_8 x26.1.length c_9) (val_move rfl rfl) rfl rfl rfl (fun _ _ _ => trivial) ?_
                            obtain ⟨x95, hx95, H⟩ := Let_elim H
                            refine z_val (v := .int .i64 x95) (by subst hx95; exact val_len rfl rfl rfl Try.underlying22) rfl rfl rfl (fun _ _ _ => trivial) ?_
                            clear hx95
                            obtain ⟨x96, hx96, H⟩ := Let_elim H
                            refine z_val (v := .bool x96) (by subst hx96; exact val_bin rfl rfl rfl rfl (i64_eql _ _ _)) rfl rfl rfl (fun _ _ _ => trivial) ?_
                            clear hx96
                            refine z_val (v := .bool x96) (val_move rfl rfl) rfl rfl rfl (fun _ _ _ => trivial) ?_
                            refine z_bind H 3 (fun (s : Bool) (_ : Unit) => [(100, .bool s)]) (fun _ _ => Mm w [] h [.row (.slice A_8 x26.1.length c_9) 5 1 (x26.1.map U8), .row (.slice A_5 x23.length c_6) 5 1 (x23.map U8)]) (fun _ _ => True) (fun Gr K s he HJ => ?_) (fun s g HB _ => ?_)
                            ·
                              clear H
                              cases x96
                              ·
                                have H := cond_f he
                                clear he
                                refine z_skip rfl rfl (by rw [hops]; rfl) (fun _ _ _ => trivial) ?_
                                refine z_skip rfl rfl (by rw [hops]; rfl) (fun _ _ _ => trivial) ?_
                                refine z_val (v := .bool false) (val_pick rfl rfl rfl) rfl rfl rfl (fun _ _ _ => trivial) ?_
                                obtain rfl := Option.some.inj H
                                exact z_nil ((K _ () HJ trivial).weak (fun a ha => ha.cons rfl (ha.nil)) (fun w hw => hw))
                              ·
                                have H := cond_t he
                                clear he
                                refine z_val (v := .int .i64 x26.2) (val_move rfl rfl) rfl rfl (by rw [hops]; rfl) (fun _ _ _ => trivial) ?_
                                obtain ⟨x99, hx99, H⟩ := Let_elim H
                                refine z_val (v := .bool x99) (by subst hx99; exact val_bin rfl rfl rfl rfl (i64_eql _ _ _)) rfl rfl (by rw [hops]; rfl) (fun _ _ _ => trivial) ?_
                                clear hx99
                                refine z_val (v := .bool x99) (val_pick rfl rfl rfl) rfl rfl rfl (fun _ _ _ => trivial) ?_
                                obtain rfl := Option.some.inj H
                                exact z_nil ((K _ () HJ trivial).weak (fun a ha => ha.cons rfl (ha.nil)) (fun w hw => hw))
                            ·
                              replace H := HB
                              clear HB
                              obtain ⟨x100, rfl⟩ : ∃ x, x = s := ⟨_, rfl⟩
                              change T 145 _ _ _
                              refine z_val (v := .bool x100) (val_assign rfl rfl) rfl rfl rfl (fun _ _ _ => trivial) ?_
                              refine z_nil ?_
                              refine t_ret ?_
                              obtain rfl := Option.some.inj H
                              exact ret1 rfl (res_tmp rfl) (fun _ hw => ⟨rfl, hw.below⟩)
              ·
                replace H := cond_t H
                refine t_cond_true rfl ?_
                refine t_seq ?_
                refine t_region (fun ops hops => ?_)
                refine z_val (v := .slice A_8 x26.1.length c_9) (val_move rfl rfl) rfl rfl rfl (fun _ _ _ => trivial) ?_
                obtain ⟨x66, hx66, H⟩ := Let_elim H
                refine z_val (v := .int .i64 x66) (by subst hx66; exact val_len rfl rfl rfl Try.underlying22) rfl rfl rfl (fun _ _ _ => trivial) ?_
                clear hx66
                obtain ⟨x67, hx67, H⟩ := Let_elim H
                refine z_val (v := .bool x67) (by subst hx67; exact val_bin rfl rfl rfl rfl (i64_eql _ _ _)) rfl rfl rfl (fun _ _ _ => trivial) ?_
                clear hx67
                refine z_val (v := .bool x67) (val_move rfl rfl) rfl rfl rfl (fun _ _ _ => trivial) ?_
                refine z_bind H 3 (fun (s : Bool) (_ : Unit) => [(71, .bool s)]) (fun _ _ => Mm w [] h [.row (.slice A_8 x26.1.length c_9) 5 1 (x26.1.map U8), .row (.slice A_5 x23.length c_6) 5 1 (x23.map U8)]) (fun _ _ => True) (fun Gr K s he HJ => ?_) (fun s g HB _ => ?_)
                ·
                  clear H
                  cases x67
                  ·
                    have H := cond_f he
                    clear he
                    refine z_skip rfl rfl (by rw [hops]; rfl) (fun _ _ _ => trivial) ?_
                    refine z_skip rfl rfl (by rw [hops]; rfl) (fun _ _ _ => trivial) ?_
                    refine z_val (v := .bool false) (val_pick rfl rfl rfl) rfl rfl rfl (fun _ _ _ => trivial) ?_
                    obtain rfl := Option.some.inj H
                    exact z_nil ((K _ () HJ trivial).weak (fun a ha => ha.cons rfl (ha.nil)) (fun w hw => hw))
                  ·
                    have H := cond_t he
                    clear he
                    refine z_val (v := .int .i64 x26.2) (val_move rfl rfl) rfl rfl (by rw [hops]; rfl) (fun _ _ _ => trivial) ?_
                    obtain ⟨x70, hx70, H⟩ := Let_elim H
                    refine z_val (v := .bool x70) (by subst hx70; exact val_bin rfl rfl rfl rfl (i64_eql _ _ _)) rfl rfl (by rw [hops]; rfl) (fun _ _ _ => trivial) ?_
                    clear hx70
                    refine z_val (v := .bool x70) (val_pick rfl rfl rfl) rfl rfl rfl (fun _ _ _ => trivial) ?_
                    obtain rfl := Option.some.inj H
                    exact z_nil ((K _ () HJ trivial).weak (fun a ha => ha.cons rfl (ha.nil)) (fun w hw => hw))
                ·
                  replace H := HB
                  clear HB
                  obtain ⟨x71, rfl⟩ : ∃ x, x = s := ⟨_, rfl⟩
                  change T 145 _ _ _
                  refine z_val (v := .bool x71) (val_assign rfl rfl) rfl rfl rfl (fun _ _ _ => trivial) ?_
                  refine z_nil ?_
                  refine t_ret ?_
                  obtain rfl := Option.some.inj H
                  exact ret1 rfl (res_tmp rfl) (fun _ hw => ⟨rfl, hw.below⟩)
      ·
        replace H := cond_t H
        refine t_cond_true rfl ?_
        refine t_seq ?_
        refine t_region (fun ops hops => ?_)
        clear hops
        refine z_val (v := .bool false) (val_assign rfl rfl) rfl rfl rfl (fun _ _ _ => trivial) ?_
        refine z_nil ?_
        refine t_ret ?_
        obtain rfl := Option.some.inj H
        exact ret1 rfl (res_tmp rfl) (fun _ hw => ⟨rfl, hw.below⟩)
  ·
    replace H := cond_t H
    refine t_cond_true rfl ?_
    refine t_seq ?_
    refine t_region (fun ops hops => ?_)
    clear hops
    obtain ⟨x20, hx_36, H⟩ := Option.bind_eq_some_iff.1 H
    refine z_made (v := .bool x20) rfl Try.func10 nm10 bs10 rfl (fun w hw => smithylaw09_fixed.calls x20 hx_36 w) rfl rfl rfl (fun _ _ _ => trivial) ?_
    clear hx_36
    refine z_val (v := .bool x20) (val_assign rfl rfl) rfl rfl rfl (fun _ _ _ => trivial) ?_
    refine z_nil ?_
    refine t_ret ?_
    obtain rfl := Option.some.inj H
    exact ret1 rfl (res_tmp rfl) (fun _ hw => ⟨rfl, hw.below⟩)
end Go.Proofs.Ytccilbklafhjiaa
