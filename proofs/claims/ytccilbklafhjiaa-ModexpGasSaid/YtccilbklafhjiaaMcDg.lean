/- Functions of the program as plain functions, and their walks, printed by walk.py. -/
import Derived.Test.YtccilbklafhjiaaMcF
import Derived.Test.YtccilbklafhjiaaMcD
import Derived.Test.YtccilbklafhjiaaMcG
namespace Go.Proofs.Ytccilbklafhjiaa
open Go.RowKit
set_option linter.unusedVariables false
set_option linter.unusedSimpArgs false
def smithylaw09_ModexpGas (a0 : List (BitVec 8)) : Option (Bool) :=
  Let ((a0.length : Int)) fun x4 => Let (decide (2000 < x4)) fun x5 => (bif x5 then (smithylaw09_fixed).bind fun x6 => some x6 else (smithylaw09_fixed).bind fun x7 => (bif x7 then (modexp_Gas a0).bind fun x10 => (smithyref09_Gas a0).bind fun x12 => Let (x10 == x12) fun x13 => some x13 else some false).bind (fun x14 => some x14))
set_option maxRecDepth 100000 in
theorem smithylaw09_ModexpGas.calls  (a0 : List (BitVec 8)) (A0 : Option Addr) (c0 : Nat) (r : Bool) (H : smithylaw09_ModexpGas a0 = some r) (w : World) (hs0 : SlW w U8 A0 a0) (hc0 : a0.length ≤ c0)  :
    Made Try.prog 6 #[.slice A0 a0.length c0] w (.bool r) := by
  unfold smithylaw09_ModexpGas at H
  replace hs0 := hs0.toH
  have hM := Mm.start w (snap w) (snap_ok w)
  generalize snap w = h at *
  refine t_enter (vs := [.slice A0 a0.length c0]) (n := 15) Try.func6 rfl rfl rfl hM ?_
  clear hM
  change T 15 _ _ _
  refine t_seq ?_
  refine t_region (fun ops hops => ?_)
  clear hops
  refine z_val (v := .bool false) (val_assign rfl rfl) rfl rfl rfl (fun _ _ _ => trivial) ?_
  refine z_nil ?_
  refine t_seq ?_
  refine t_seq ?_
  refine t_region (fun ops hops => ?_)
  clear hops
  refine z_val (v := .slice A0 a0.length c0) (val_move rfl rfl) rfl rfl rfl (fun _ _ _ => trivial) ?_
  obtain ⟨x4, hx4, H⟩ := Let_elim H
  refine z_val (v := .int .i64 x4) (by subst hx4; exact val_len rfl rfl rfl Try.underlying22) rfl rfl rfl (fun _ _ _ => trivial) ?_
  clear hx4
  obtain ⟨x5, hx5, H⟩ := Let_elim H
  refine z_val (v := .bool x5) (by subst hx5; exact val_bin rfl rfl rfl rfl (i64_gtr _ _ _)) rfl rfl rfl (fun _ _ _ => trivial) ?_
  clear hx5
  refine z_nil ?_
  cases x5
  ·
    replace H := cond_f H
    refine t_cond_false rfl ?_
    refine t_skip ?_
    refine t_seq ?_
    refine t_region (fun ops hops => ?_)
    obtain ⟨x7, hx, H⟩ := Option.bind_eq_some_iff.1 H
    refine z_made (v := .bool x7) rfl Try.func10 nm10 bs10 rfl (fun w hw => smithylaw09_fixed.calls x7 hx w) rfl rfl rfl (fun _ _ _ => trivial) ?_
    clear hx
    refine z_val (v := .bool x7) (val_move rfl rfl) rfl rfl rfl (fun _ _ _ => trivial) ?_
    refine z_bind H 6 (fun (s : Bool) (_ : Unit) => [(14, .bool s)]) (fun _ _ => Mm w [] h []) (fun _ _ => True) (fun Gr K s he HJ => ?_) (fun s g HB _ => ?_)
    ·
      clear H
      cases x7
      ·
        have H := cond_f he
        clear he
        refine z_skip rfl rfl (by rw [hops]; rfl) (fun _ _ _ => trivial) ?_
        refine z_skip rfl rfl (by rw [hops]; rfl) (fun _ _ _ => trivial) ?_
        refine z_skip rfl rfl (by rw [hops]; rfl) (fun _ _ _ => trivial) ?_
        refine z_skip rfl rfl (by rw [hops]; rfl) (fun _ _ _ => trivial) ?_
        refine z_skip rfl rfl (by rw [hops]; rfl) (fun _ _ _ => trivial) ?_
        refine z_val (v := .bool false) (val_pick rfl rfl rfl) rfl rfl rfl (fun _ _ _ => trivial) ?_
        obtain rfl := Option.some.inj H
        exact z_nil ((K _ () HJ trivial).weak (fun a ha => ha.cons rfl (ha.nil)) (fun w hw => hw))
      ·
        have H := cond_t he
        clear he
        refine z_val (v := .slice A0 a0.length c0) (val_move rfl rfl) rfl rfl (by rw [hops]; rfl) (fun _ _ _ => trivial) ?_
        obtain ⟨x10, hx_1, H⟩ := Option.bind_eq_some_iff.1 H
        refine z_made (v := U64 x10) rfl Try.func17 nm17 bs17 rfl (fun w hw => modexp_Gas.calls a0 A0 c0 x10 hx_1 w (hs0.toW hw) hc0) rfl rfl (by rw [hops]; rfl) (fun _ _ _ => trivial) ?_
        clear hx_1
        refine z_val (v := .slice A0 a0.length c0) (val_move rfl rfl) rfl rfl (by rw [hops]; rfl) (fun _ _ _ => trivial) ?_
        obtain ⟨x12, hx_2, H⟩ := Option.bind_eq_some_iff.1 H
        refine z_made (v := U64 x12) rfl Try.func18 nm18 bs18 rfl (fun w hw => smithyref09_Gas.calls a0 A0 c0 x12 hx_2 w (hs0.toW hw) hc0) rfl rfl (by rw [hops]; rfl) (fun _ _ _ => trivial) ?_
        clear hx_2
        obtain ⟨x13, hx13, H⟩ := Let_elim H
        refine z_val (v := .bool x13) (by subst hx13; exact val_bin rfl rfl rfl rfl (u64_eql _ _ _)) rfl rfl (by rw [hops]; rfl) (fun _ _ _ => trivial) ?_
        clear hx13
        refine z_val (v := .bool x13) (val_pick rfl rfl rfl) rfl rfl rfl (fun _ _ _ => trivial) ?_
        obtain rfl := Option.some.inj H
        exact z_nil ((K _ () HJ trivial).weak (fun a ha => ha.cons rfl (ha.nil)) (fun w hw => hw))
    ·
      replace H := HB
      clear HB
      obtain ⟨x14, rfl⟩ : ∃ x, x = s := ⟨_, rfl⟩
      change T 15 _ _ _
      refine z_val (v := .bool x14) (val_assign rfl rfl) rfl rfl rfl (fun _ _ _ => trivial) ?_
      refine z_nil ?_
      refine t_ret ?_
      obtain rfl := Option.some.inj H
      exact ret1 rfl (res_tmp rfl) (fun _ hw => ⟨rfl, hw.below⟩)
  ·
    replace H := cond_t H
    refine t_cond_true rfl ?_
    refine t_seq ?_
    refine t_region (fun ops hops => ?_)
    clear hops
    obtain ⟨x6, hx_3, H⟩ := Option.bind_eq_some_iff.1 H
    refine z_made (v := .bool x6) rfl Try.func10 nm10 bs10 rfl (fun w hw => smithylaw09_fixed.calls x6 hx_3 w) rfl rfl rfl (fun _ _ _ => trivial) ?_
    clear hx_3
    refine z_val (v := .bool x6) (val_assign rfl rfl) rfl rfl rfl (fun _ _ _ => trivial) ?_
    refine z_nil ?_
    refine t_ret ?_
    obtain rfl := Option.some.inj H
    exact ret1 rfl (res_tmp rfl) (fun _ hw => ⟨rfl, hw.below⟩)
end Go.Proofs.Ytccilbklafhjiaa
