/- How addresses stand to each other; which are built in: the program's and the document's. -/
import Derived.Test.YtapfkdcilfpbhaaDoorWordC
import Derived.Test.YtapfkdcilfpbhaaDoorWkD
namespace Go.Proofs.YtapfkdcilfpbhaaDoor
open Go.RowKit
set_option linter.unusedVariables false
set_option linter.unusedSimpArgs false
theorem push_all : ∀ (l : List Int) (acc : ByteArray), l.foldl (fun r n => r.push (UInt8.ofNat n.toNat)) acc = ⟨acc.data ++ (l.map fun n => UInt8.ofNat n.toNat).toArray⟩
  | [], acc => by simp
  | x :: l, acc => by
    rw [List.foldl_cons, push_all l]
    congr 1
    show (acc.data.push _) ++ _ = _
    simp
theorem strOf_eq (bs : List B8) : strOf bs = ⟨(bs.map fun b => UInt8.ofNat b.toNat).toArray⟩ := by
  unfold strOf
  rw [push_all]
  congr 1
  simp [List.map_map]
theorem strOf_size (bs : List B8) : (strOf bs).size = bs.length := by rw [strOf_eq]; simp [ByteArray.size]
theorem strOf_at (bs : List B8) {i : Nat} (hi : i < bs.length) : (strOf bs)[i]! = UInt8.ofNat (lget bs i).toNat := by
  have h1 : i < (strOf bs).size := by rw [strOf_size]; exact hi
  rw [getElem!_pos (strOf bs) i h1]
  have : (strOf bs)[i] = (strOf bs).data[i]'h1 := rfl
  rw [this]
  have e : (strOf bs).data = (bs.map fun b => UInt8.ofNat b.toNat).toArray := by rw [strOf_eq]
  have : (strOf bs).data[i]? = some (UInt8.ofNat (lget bs i).toNat) := by
    rw [e]; unfold lget; simp [hi]
  exact (Array.getElem?_eq_some_iff.1 this).2
theorem u8_inj (x y : B8) : (UInt8.ofNat x.toNat != UInt8.ofNat y.toNat) = (x != y) := by
  have hx := x.isLt
  have hy := y.isLt
  by_cases e : x = y
  · subst e; simp
  · have h1 : (x != y) = true := bne_iff_ne.2 e
    rw [h1]
    refine bne_iff_ne.2 fun h => e (BitVec.eq_of_toNat_eq ?_)
    have := congrArg UInt8.toNat h
    simpa [UInt8.toNat_ofNat, Nat.mod_eq_of_lt hx, Nat.mod_eq_of_lt hy] using this
theorem u8_lt (x y : B8) : (UInt8.ofNat x.toNat < UInt8.ofNat y.toNat) ↔ x.toNat < y.toNat := by
  have hx := x.isLt
  have hy := y.isLt
  rw [UInt8.lt_iff_toNat_lt]
  simp [UInt8.toNat_ofNat, Nat.mod_eq_of_lt hx, Nat.mod_eq_of_lt hy]
theorem find_congr {f g : Nat → Bool} : ∀ {l : List Nat}, (∀ x ∈ l, f x = g x) → l.find? f = l.find? g
  | [], _ => rfl
  | x :: l, h => by
    rw [List.find?_cons, List.find?_cons, h x (by simp), find_congr fun y hy => h y (List.mem_cons_of_mem _ hy)]
def diffV (a b : A20) : Option Nat := (List.range 20).find? fun i => a.get i != b.get i
theorem cmp_eq (a b : A20) : cmpS a.l b.l = match diffV a b with
    | some i => if (a.get i).toNat < (b.get i).toNat then -1 else 1
    | none => 0 := by
  have hl : ∀ v : A20, (strOf v.l).size = 20 := fun v => by rw [strOf_size, v.hl]
  have hg : ∀ (v : A20) (i : Nat), i < 20 → (strOf v.l)[i]! = UInt8.ofNat (v.get i).toNat := fun v i hi => strOf_at v.l (by rw [v.hl]; exact hi)
  have hf : ((List.range (min (strOf a.l).size (strOf b.l).size)).find? fun i => (strOf a.l)[i]! != (strOf b.l)[i]!) = diffV a b := by
    rw [hl, hl]
    exact find_congr fun i hi => by
      have : i < 20 := by simpa using hi
      rw [hg a i this, hg b i this, u8_inj]
  unfold cmpS Extern.BytealgCompare.cmp
  rw [hf]
  cases hd : diffV a b with
  | none => simp [hl]
  | some i =>
    have hi : i < 20 := by have := List.mem_of_find?_eq_some hd; simpa using this
    show (if (strOf a.l)[i]! < (strOf b.l)[i]! then (-1 : Int) else 1) = _
    rw [hg a i hi, hg b i hi]
    show _ = if (a.get i).toNat < (b.get i).toNat then (-1 : Int) else 1
    by_cases e : (a.get i).toNat < (b.get i).toNat
    · rw [if_pos e, if_pos ((u8_lt _ _).2 e)]
    · rw [if_neg e, if_neg fun h => e ((u8_lt _ _).1 h)]
theorem diff_comm (a b : A20) : diffV a b = diffV b a := find_congr fun i _ => by
  by_cases e : a.get i = b.get i
  · rw [e]
  · rw [bne_iff_ne.2 e, bne_iff_ne.2 (Ne.symm e)]
theorem diff_ne {a b : A20} {i : Nat} (h : diffV a b = some i) : i < 20 ∧ (a.get i).toNat ≠ (b.get i).toNat := by
  refine ⟨by have := List.mem_of_find?_eq_some h; simpa using this, fun e => ?_⟩
  have := List.find?_some h
  exact absurd (BitVec.eq_of_toNat_eq e) (by simpa using this)
theorem less_loop (a b : A20) : ∀ (n i : Nat), i + n = 20 → wlk (fun s => smithyref08_Less.b1 a b s) (n + 1) (i : Int) = some (match (List.range' i n).find? fun i => a.get i != b.get i with
    | some k => .inr (decide ((a.get k).toNat < (b.get k).toNat))
    | none => .inl 20)
  | 0, i, h => by
    obtain rfl : i = 20 := by omega
    have : smithyref08_Less.b1 a b ((20 : Nat) : Int) = some (.brk 20) := by simp only [smithyref08_Less.b1, Let_eq]; rfl
    exact wlk_brk this
  | n + 1, i, h => by
    have h1 : decide ((i : Int) < 20) = true := decide_eq_true (by omega)
    have h2 : wi ((i : Int) + 1) = ((i + 1 : Nat) : Int) := by rw [wi_id (by omega)]; omega
    rw [List.range'_succ, List.find?_cons]
    have hb : smithyref08_Less.b1 a b (i : Int) = bif (a.get i != b.get i) then some (.ret (decide ((a.get i).toNat < (b.get i).toNat))) else some (.next ((i + 1 : Nat) : Int)) := by
      simp only [smithyref08_Less.b1, Let_eq, h1, cond_true, Int.toNat_natCast, Chk_ok (int_idx (show i < 20 by omega)), h2]
    cases e : (a.get i != b.get i) with
    | true => rw [e] at hb; exact wlk_ret hb
    | false => rw [e] at hb; rw [wlk_next hb]; exact less_loop a b n (i + 1) (by omega)
theorem less_eq (a b : A20) : smithyref08_Less a b = some (match diffV a b with
    | some k => decide ((a.get k).toNat < (b.get k).toNat)
    | none => false) := by
  have h := less_loop a b 20 0 rfl
  rw [← List.range_eq_range'] at h
  have h' := wlx_of h (by omega)
  unfold smithyref08_Less
  rw [show (0 : Int) = ((0 : Nat) : Int) from rfl, h']
  show (Option.some (match diffV a b with | some k => _ | none => _)).bind _ = _
  cases diffV a b <;> rfl
/-- Is a byte ahead of the last one not nought? -/
def headV (a : A20) : Option Nat := (List.range 19).find? fun i => a.get i != 0#8
theorem pre_loop (a : A20) : ∀ (n i : Nat), i + n = 19 → wlk (fun s => smithyref08_Precompile.b1 a s) (n + 1) (i : Int) = some (match (List.range' i n).find? fun i => a.get i != 0#8 with
    | some k => .inr 0
    | none => .inl 19)
  | 0, i, h => by
    obtain rfl : i = 19 := by omega
    have : smithyref08_Precompile.b1 a ((19 : Nat) : Int) = some (.brk 19) := by simp only [smithyref08_Precompile.b1, Let_eq]; rfl
    exact wlk_brk this
  | n + 1, i, h => by
    have h1 : decide ((i : Int) < 19) = true := decide_eq_true (by omega)
    have h2 : wi ((i : Int) + 1) = ((i + 1 : Nat) : Int) := by rw [wi_id (by omega)]; omega
    have h3 : (((a.get i).toNat : Int) != 0) = (a.get i != 0#8) := by
      by_cases e : a.get i = 0#8
      · rw [e]; rfl
      · rw [bne_iff_ne.2 e]
        refine bne_iff_ne.2 fun h => e (BitVec.eq_of_toNat_eq ?_)
        show (a.get i).toNat = 0
        omega
    rw [List.range'_succ, List.find?_cons]
    have hb : smithyref08_Precompile.b1 a (i : Int) = bif (a.get i != 0#8) then some (.ret 0) else some (.next ((i + 1 : Nat) : Int)) := by
      simp only [smithyref08_Precompile.b1, Let_eq, h1, cond_true, Int.toNat_natCast, Chk_ok (int_idx (show i < 20 by omega)), h2, h3]
    cases e : (a.get i != 0#8) with
    | true => rw [e] at hb; exact wlk_ret hb
    | false => rw [e] at hb; rw [wlk_next hb]; exact pre_loop a n (i + 1) (by omega)
def preV (a : A20) : Int := match headV a with
  | some _ => 0
  | none => if (a.get 19).toNat > 9 then 0 else ((a.get 19).toNat : Int)
theorem ref_pre_eq (a : A20) : smithyref08_Precompile a = some (preV a) := by
  have h := pre_loop a 19 0 rfl
  rw [← List.range_eq_range'] at h
  have h' := wlx_of h (by omega)
  unfold smithyref08_Precompile
  rw [show (0 : Int) = ((0 : Nat) : Int) from rfl, h']
  show (Option.some (match headV a with | some k => _ | none => _)).bind _ = _
  unfold preV
  cases headV a with
  | some k => rfl
  | none =>
    show (Let (a.get 19) fun x13 => _) = _
    simp only [Let_eq]
    by_cases e : (a.get 19).toNat > 9
    · rw [decide_eq_true (by omega), if_pos e]; rfl
    · rw [decide_eq_false (by omega), if_neg e]; rfl
theorem limb_of {a : A20} {i : Nat} (hi : i < 4) (j : Nat) (hj : j < 8) : (padV a.l).get (31 - (8 * i + j)) = if 8 * i + j < 20 then a.get (19 - (8 * i + j)) else 0#8 := by
  rw [padV_get (by rw [a.hl]; omega) (by omega), a.hl]
  by_cases e : 8 * i + j < 20
  · rw [if_pos e, if_pos e, show 20 - 1 - (8 * i + j) = 19 - (8 * i + j) by omega]; rfl
  · rw [if_neg e, if_neg e]
theorem limbV_toNat (y : Vec B8 32) (i : Nat) : (limbV y i).toNat = limbN fun j => (y.get (31 - (8 * i + j))).toNat := by
  unfold limbV
  rw [BitVec.toNat_ofNat, Nat.mod_eq_of_lt (limbN_lt _ fun j _ => (y.get _).isLt)]
theorem pre_eq (a : A20) : addr_Precompile a = some (preV a) := by
  unfold addr_Precompile
  rw [addr_Word_eq, Option.bind_some]
  unfold word_Small
  simp only [Let_eq, wordV_get _ (show 0 < 4 by omega), wordV_get _ (show 1 < 4 by omega), wordV_get _ (show 2 < 4 by omega), wordV_get _ (show 3 < 4 by omega)]
  have hb : ∀ (i j : Nat), i < 4 → j < 8 → ((padV a.l).get (31 - (8 * i + j))).toNat = if 8 * i + j < 20 then (a.get (19 - (8 * i + j))).toNat else 0 := fun i j hi hj => by
    rw [limb_of hi j hj]; split <;> rfl
  unfold preV
  cases hd : headV a with
  | none =>
    have hz : ∀ k, k < 19 → (a.get k).toNat = 0 := fun k hk => by
      have := List.find?_eq_none.1 hd k (by simpa using hk)
      have : a.get k = 0#8 := by simpa using this
      rw [this]; rfl
    have h0 : (limbV (padV a.l) 0).toNat = (a.get 19).toNat := by
      rw [limbV_toNat]; unfold limbN; dsimp only
      rw [hb 0 0 (by omega) (by omega), hb 0 1 (by omega) (by omega), hb 0 2 (by omega) (by omega), hb 0 3 (by omega) (by omega), hb 0 4 (by omega) (by omega), hb 0 5 (by omega) (by omega), hb 0 6 (by omega) (by omega), hb 0 7 (by omega) (by omega)]
      simp [hz]
    have hn : ∀ i, i = 1 ∨ i = 2 ∨ i = 3 → limbV (padV a.l) i = 0#64 := fun i hi => by
      apply BitVec.eq_of_toNat_eq
      rw [limbV_toNat]; unfold limbN; dsimp only
      rw [hb i 0 (by omega) (by omega), hb i 1 (by omega) (by omega), hb i 2 (by omega) (by omega), hb i 3 (by omega) (by omega), hb i 4 (by omega) (by omega), hb i 5 (by omega) (by omega), hb i 6 (by omega) (by omega), hb i 7 (by omega) (by omega)]
      rcases hi with rfl | rfl | rfl <;> simp [hz]
    rw [hn 1 (by simp), hn 2 (by simp), hn 3 (by simp)]
    simp only [show (((0#64 ||| 0#64 ||| 0#64 : W64).toNat : Int) != 0) = false from rfl, cond_false, Option.bind_some, Bool.not_true, h0]
    have hlt := (a.get 19).isLt
    have hw : IntKind.i64.wrap ((a.get 19).toNat : Int) = (a.get 19).toNat := IntWalk.i64_in _ (by omega)
    by_cases e : (a.get 19).toNat > 9
    · rw [decide_eq_true (by omega), if_pos e]; rfl
    · rw [decide_eq_false (by omega), if_neg e, hw]; rfl
  | some k =>
    have hk : k < 19 := by have := List.mem_of_find?_eq_some hd; simpa using this
    have hne : (a.get k).toNat ≠ 0 := fun e => by
      have := List.find?_some hd
      have h1 : a.get k ≠ 0#8 := by simpa using this
      exact h1 (BitVec.eq_of_toNat_eq e)
    by_cases hs : limbV (padV a.l) 1 ||| limbV (padV a.l) 2 ||| limbV (padV a.l) 3 = 0#64
    · rw [hs]
      simp only [show (((0#64 : W64).toNat : Int) != 0) = false from rfl, cond_false, Option.bind_some, Bool.not_true]
      have hbig : (limbV (padV a.l) 0).toNat > 9 := by
        have hz : ∀ i, i = 1 ∨ i = 2 ∨ i = 3 → (limbV (padV a.l) i).toNat = 0 := fun i hi => by
          have h1 : (limbV (padV a.l) 1 ||| limbV (padV a.l) 2 ||| limbV (padV a.l) 3).toNat = 0 := by rw [hs]; rfl
          simp only [BitVec.toNat_or, Nat.or_eq_zero_iff] at h1
          rcases hi with rfl | rfl | rfl
          · exact h1.1.1
          · exact h1.1.2
          · exact h1.2
        have hb0 : ∀ p, p < 20 → ((padV a.l).get (31 - p)).toNat = (a.get (19 - p)).toNat := fun p hp => by
          have := hb (p / 8) (p % 8) (by omega) (by omega)
          rw [show 8 * (p / 8) + p % 8 = p by omega, if_pos hp] at this
          exact this
        have hq : ∃ i j, i < 4 ∧ j < 8 ∧ 19 - k = 8 * i + j := ⟨(19 - k) / 8, (19 - k) % 8, by omega, by omega, by omega⟩
        obtain ⟨i, j, hi, hj, hij⟩ := hq
        have hv : ((padV a.l).get (31 - (8 * i + j))).toNat = (a.get k).toNat := by rw [hb0 _ (by omega), show 19 - (8 * i + j) = k by omega]
        have hN := limbV_toNat (padV a.l) i
        have hB := limb_byte (fun j => ((padV a.l).get (31 - (8 * i + j))).toNat) (fun j _ => ((padV a.l).get _).isLt) j hj
        rw [← hN, hv] at hB
        by_cases hi0 : i = 0
        · subst hi0
          have hj0 : 1 ≤ j := by omega
          rcases Nat.lt_or_ge (limbV (padV a.l) 0).toNat 256 with hlt | hge
          · have hp : 256 ≤ 2 ^ (8 * j) := by
              calc 256 = 2 ^ 8 := rfl
                _ ≤ 2 ^ (8 * j) := Nat.pow_le_pow_right (by omega) (by omega)
            rw [Nat.div_eq_of_lt (by omega)] at hB
            omega
          · omega
        · rw [hz i (by omega), Nat.zero_div] at hB
          omega
      rw [decide_eq_true (show ((limbV (padV a.l) 0).toNat : Int) > 9 by omega)]; rfl
    · have h1 : (((limbV (padV a.l) 1 ||| limbV (padV a.l) 2 ||| limbV (padV a.l) 3).toNat : Int) != 0) = true := by
        refine bne_iff_ne.2 fun h => hs (BitVec.eq_of_toNat_eq ?_)
        show _ = 0
        omega
      rw [h1]; rfl
theorem order_true (a b : A20) : smithylaw08_AddrOrder constT placesT turnsT a b = some true := by
  have hc : ∀ a b : A20, addr_Compare a b = some (match diffV a b with
      | some i => if (a.get i).toNat < (b.get i).toNat then -1 else 1
      | none => 0) := fun a b => by
    unfold addr_Compare bytes_Compare
    simp only [Let_eq, cut20, cmp_eq, Option.bind_some]
  unfold smithylaw08_AddrOrder
  rw [less_eq, less_eq, fixed_eq, hc, hc, pre_eq, ref_pre_eq, diff_comm b a]
  cases hd : diffV a b with
  | none => simp only [Option.bind_some, cond_false, cond_true, Let_eq, beq_self_eq_true]; rfl
  | some i =>
    have hne := (diff_ne hd).2
    by_cases e : (a.get i).toNat < (b.get i).toNat
    · have e2 : ¬ (b.get i).toNat < (a.get i).toNat := by omega
      simp only [Option.bind_some, decide_eq_true e, decide_eq_false e2, if_pos e, if_neg e2, cond_false, cond_true, Let_eq, beq_self_eq_true]; rfl
    · have e2 : (b.get i).toNat < (a.get i).toNat := by omega
      simp only [Option.bind_some, decide_eq_false e, decide_eq_true e2, if_neg e, if_pos e2, cond_false, cond_true, Let_eq, beq_self_eq_true]; rfl
end Go.Proofs.YtapfkdcilfpbhaaDoor
