/- The word of digits. -/
import Derived.Test.YtapfkdcilfpbhaaWvF
namespace Go.Proofs.Ytapfkdcilfpbhaa
open Go.RowKit
set_option linter.unusedVariables false
set_option linter.unusedSimpArgs false
def limbH (y : Nat → Int) : W64 := (((((((0#64 * 256#64 + BitVec.ofInt 64 (y 7)) * 256#64 + BitVec.ofInt 64 (y 6)) * 256#64 + BitVec.ofInt 64 (y 5)) * 256#64 + BitVec.ofInt 64 (y 4)) * 256#64 + BitVec.ofInt 64 (y 3)) * 256#64 + BitVec.ofInt 64 (y 2)) * 256#64 + BitVec.ofInt 64 (y 1)) * 256#64 + BitVec.ofInt 64 (y 0)
set_option maxRecDepth 100000 in
theorem ref_Word_loop (d : Vec Int 32) : smithyref01_D_Word d = some ⟨[limbH fun j => d.get (8 * 0 + j), limbH fun j => d.get (8 * 1 + j), limbH fun j => d.get (8 * 2 + j), limbH fun j => d.get (8 * 3 + j)], rfl⟩ := by kernel_rfl
theorem limbH_nat (y : Nat → Int) (hy : ∀ j, 0 ≤ y j ∧ y j < 256) : (limbH y).toNat = (y 0).toNat + 256 * ((y 1).toNat + 256 * ((y 2).toNat + 256 * ((y 3).toNat + 256 * ((y 4).toNat + 256 * ((y 5).toNat + 256 * ((y 6).toNat + 256 * (y 7).toNat)))))) := by
  have e : ∀ j, (BitVec.ofInt 64 (y j)).toNat = (y j).toNat := fun j => by
    have := hy j
    rw [BitVec.toNat_ofInt]; omega
  have hn : ∀ j, (y j).toNat < 256 := fun j => by have := hy j; omega
  unfold limbH
  simp only [BitVec.toNat_add, BitVec.toNat_mul, e, show (256#64 : W64).toNat = 256 from rfl, show (0#64 : W64).toNat = 0 from rfl]
  have h0 := hn 0; have h1 := hn 1; have h2 := hn 2; have h3 := hn 3; have h4 := hn 4; have h5 := hn 5; have h6 := hn 6; have h7 := hn 7
  clear e hn hy
  generalize (y 0).toNat = n0 at *
  generalize (y 1).toNat = n1 at *
  generalize (y 2).toNat = n2 at *
  generalize (y 3).toNat = n3 at *
  generalize (y 4).toNat = n4 at *
  generalize (y 5).toNat = n5 at *
  generalize (y 6).toNat = n6 at *
  generalize (y 7).toNat = n7 at *
  omega
theorem limbH_val (y : Nat → Int) (hy : ∀ j, 0 ≤ y j ∧ y j < 256) : ((limbH y).toNat : Int) = y 0 + 256 * y 1 + 65536 * y 2 + 16777216 * y 3 + 4294967296 * y 4 + 1099511627776 * y 5 + 281474976710656 * y 6 + 72057594037927936 * y 7 := by
  have h := limbH_nat y hy
  have e : ∀ j, ((y j).toNat : Int) = y j := fun j => Int.toNat_of_nonneg (hy j).1
  have e0 := e 0; have e1 := e 1; have e2 := e 2; have e3 := e 3; have e4 := e 4; have e5 := e 5; have e6 := e 6; have e7 := e 7
  rw [h]
  omega
def dvec (a : List Int) (i : Nat) : Vec Int 32 := ⟨(List.range 32).map fun p => if p < i then dat a p else 0, by simp⟩
theorem dvec_get (a : List Int) (i : Nat) {p : Nat} (hp : p < 32) : (dvec a i).get p = if p < i then dat a p else 0 := Vec.get_map _ _ hp
theorem dvec_succ (a : List Int) {i : Nat} (hi : i < 32) : (dvec a i).set i (dat a i) = dvec a (i + 1) := by
  refine Vec.ext_get fun p hp => ?_
  rw [Vec.get_set _ hi, dvec_get _ _ hp, dvec_get _ _ hp]
  by_cases e : i = p
  · subst e; rw [if_pos rfl, if_pos (by omega)]
  · rw [if_neg e]
    by_cases e2 : p < i
    · rw [if_pos e2, if_pos (by omega)]
    · rw [if_neg e2, if_neg (by omega)]
/-- The word of the lowest 32 digits. -/
theorem N_Word_val {a : List Int} (ha : Dg a) (la : a.length ≤ 3000) : ∃ w, smithyref02_N_Word a = some w ∧ (wv w : Int) = dsum (dat a) 32 := by
  have h := wlx_for (b := fun s => smithyref02_N_Word.b1 a s.1 s.2) (fun i => (dvec a i, (i : Int))) (n := 32) (s' := (dvec a 32, (32 : Int))) (fun i hi => by
    have h2 : wi ((i : Int) + 1) = ((i + 1 : Nat) : Int) := by rw [wi_id (by omega)]; omega
    simp only [smithyref02_N_Word.b1, Let_eq, decide_eq_true (show (i : Int) < 32 by omega), cond_true, at_eq a i (by omega), Option.bind_some, Chk_ok (int_idx hi), Int.toNat_natCast, dvec_succ a hi, h2]) (by
    simp only [smithyref02_N_Word.b1, Let_eq]; rfl) (by omega)
  have h0 : ((Vec.rep 32 0, 0) : Vec Int 32 × Int) = (fun i : Nat => (dvec a i, (i : Int))) 0 := by
    refine Prod.ext (Vec.ext_get fun p hp => ?_) rfl
    show (Vec.rep 32 (0 : Int)).get p = (dvec a 0).get p
    rw [Vec.get_rep hp, dvec_get _ _ hp, if_neg (by omega)]
  have hg : ∀ k j, k < 4 → j < 8 → (dvec a 32).get (8 * k + j) = dat a (8 * k + j) := fun k j hk hj => by rw [dvec_get _ _ (by omega), if_pos (by omega)]
  have hl : ∀ k, k < 4 → (limbH fun j => (dvec a 32).get (8 * k + j)) = limbH fun j => dat a (8 * k + j) := fun k hk => by
    unfold limbH
    dsimp only
    rw [hg k 7 hk (by omega), hg k 6 hk (by omega), hg k 5 hk (by omega), hg k 4 hk (by omega), hg k 3 hk (by omega), hg k 2 hk (by omega), hg k 1 hk (by omega), hg k 0 hk (by omega)]
  refine ⟨⟨[limbH fun j => dat a (8 * 0 + j), limbH fun j => dat a (8 * 1 + j), limbH fun j => dat a (8 * 2 + j), limbH fun j => dat a (8 * 3 + j)], rfl⟩, ?_, ?_⟩
  · unfold smithyref02_N_Word
    rw [Let_eq, h0, h]
    show (smithyref01_D_Word (dvec a 32)).bind _ = _
    rw [ref_Word_loop, hl 0 (by omega), hl 1 (by omega), hl 2 (by omega), hl 3 (by omega)]; rfl
  · have v0 := limbH_val (fun j => dat a (8 * 0 + j)) fun j => dat_bounds ha _
    have v1 := limbH_val (fun j => dat a (8 * 1 + j)) fun j => dat_bounds ha _
    have v2 := limbH_val (fun j => dat a (8 * 2 + j)) fun j => dat_bounds ha _
    have v3 := limbH_val (fun j => dat a (8 * 3 + j)) fun j => dat_bounds ha _
    unfold wv
    show (((limbH fun j => dat a (8 * 0 + j)).toNat + 18446744073709551616 * ((limbH fun j => dat a (8 * 1 + j)).toNat + 18446744073709551616 * ((limbH fun j => dat a (8 * 2 + j)).toNat + 18446744073709551616 * (limbH fun j => dat a (8 * 3 + j)).toNat)) : Nat) : Int) = _
    simp only [dsum, Nat.reduceMul, Nat.reduceAdd, Int.reducePow] at v0 v1 v2 v3 ⊢
    omega
end Go.Proofs.Ytapfkdcilfpbhaa
