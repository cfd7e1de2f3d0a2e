/- The walk of sha.Sum. -/
import Derived.Test.YtfcbkmgkdbdabaaDoorShaB
namespace Go.Proofs.YtfcbkmgkdbdabaaDoor
open Go.RowKit

def iv : List (BitVec 32) := [0x6a09e667#32, 0xbb67ae85#32, 0x3c6ef372#32, 0xa54ff53a#32, 0x510e527f#32, 0x9b05688c#32, 0x1f83d9ab#32, 0x5be0cd19#32]
/-- Behind j blocks. -/
def absS (K s : List (BitVec 32)) (bs : List (BitVec 8)) : Nat → List (BitVec 32)
  | 0 => s
  | j + 1 => blockF K (absS K s bs j) ((bs.drop (64 * j)).take 64)
theorem absS_len (K s : List (BitVec 32)) (bs : List (BitVec 8)) : ∀ j, (absS K s bs j).length = s.length
  | 0 => rfl
  | j + 1 => by rw [absS, blockF_len, absS_len]
/-- The last bytes, as they are padded; e: where they end. -/
def lenS (n : BitVec 64) (e : Nat) (l : List (BitVec 8)) : Nat → List (BitVec 8)
  | 0 => l
  | j + 1 => (lenS n e l j).set (e - 1 - j) ((n >>> (8 * j)).setWidth 8)
theorem lenS_len (n : BitVec 64) (e : Nat) (l : List (BitVec 8)) : ∀ j, (lenS n e l j).length = l.length
  | 0 => rfl
  | j + 1 => by rw [lenS, List.length_set, lenS_len]
def endOf (k : Nat) : Nat := if 56 ≤ k then 128 else 64
@[irreducible] def lastF (bs : List (BitVec 8)) (r : List (BitVec 8)) : List (BitVec 8) :=
  lenS (BitVec.ofNat 64 bs.length * 8#64) (endOf r.length) ((splc (zeros 128) 0 r).set r.length 128#8) 8
def outS (s : List (BitVec 32)) : Nat → List (BitVec 8)
  | 0 => List.replicate 32 0#8
  | j + 1 => (outS s j).set j ((rd s (j / 4) >>> (24 - j % 4 * 8)).setWidth 8)
theorem outS_len (s : List (BitVec 32)) : ∀ j, (outS s j).length = 32
  | 0 => rfl
  | j + 1 => by rw [outS, List.length_set, outS_len]
@[irreducible] def shaF (K : List (BitVec 32)) (bs : List (BitVec 8)) : List (BitVec 8) :=
  let m := bs.length / 64
  let r := bs.drop (64 * m)
  outS (absS K (absS K iv bs m) (lastF bs r) (endOf r.length / 64)) 32

set_option maxRecDepth 100000 in
set_option maxHeartbeats 8000000 in
theorem sha_Sum (K : List (BitVec 32)) (bs : List (BitVec 8)) (A : Option Addr) (c : Nat) (w : World) (hK : K.length = 64) (hc : bs.length ≤ c) (hb : bs.length ≤ 140737488351232) (hr : Sl U8 w w.heap.size A bs)
    (h0 : 0 < w.heap.size) (hT : Cells U32 w 0 0 K) :
    Made Tryd.prog 7 #[.slice A bs.length c] w (.agg (row U8 (shaF K bs))) := by
  have Hb : Hid (bs.length ≤ c) := hc
  go_enter Tryd.func7, Tryd.ntmps7
  have hiv : row U32 iv = #[.int .u32 1779033703, .int .u32 3144134277, .int .u32 1013904242, .int .u32 2773480762, .int .u32 1359893119, .int .u32 2600822924, .int .u32 528734635, .int .u32 1541459225] := by kernel_rfl
  go_upto_region 2 with (refine store_put (xs := iv) rfl 26 _ _ rfl rfl (by rw [hiv]; rfl) (Blk.new' _ 26 (row U32 (List.replicate 8 0#32)) (n := w.heap.size + 1) (by simp)) (by kernel_rfl) rfl rfl (fun _ => rfl) ?_; intro w1 p1)
  clear hiv
  have hB1 := p1.below (((Below.refl w.heap.size w).alloc (Nat.le_refl _) _).alloc (by simp) _) (by omega)
  have k0 := p1.far ((Blk.new w 30 (row U8 (List.replicate 32 0#8))).alloc _) (by omega)
  have k1 := p1.blk
  clear p1
  go_wp2
  go_loopg [0] (bs.length / 64) (fun k v wr => ∃ (j n : Nat) (A' : Option Addr) (c' : Nat), j + k = bs.length / 64 ∧ v = .slice A' n c' ∧ n + 64 * j = bs.length ∧ n ≤ c' ∧ Sl U8 wr w.heap.size A' (bs.drop (64 * j)) ∧ Blk wr w.heap.size 30 (row U8 (List.replicate 32 0#8)) ∧ Blk wr (w.heap.size + 1) 26 (row U32 (absS K iv bs j)) ∧ Below w.heap.size w wr)
  case atStart => exact ⟨0, bs.length, A, c, by omega, rfl, by omega, hc, hr.below hB1, k0, k1, hB1⟩
  case round =>
    clear k0 k1 hB1
    obtain ⟨j, n, A', c', hj, rfl, hn, hc', hsl, k0, k1, hB⟩ := hrel
    have hlen : (absS K iv bs j).length = 8 := by rw [absS_len]; rfl
    have hdl : (bs.drop (64 * j)).length = n := by rw [List.length_drop]; omega
    by_cases hlt : 64 ≤ n
    · obtain ⟨gb, ob, rfl, hgb, hcl⟩ := hsl (by omega)
      have h64 : ((bs.drop (64 * j)).take 64).length = 64 := by rw [List.length_take, hdl]; omega
      have H : Hid (j + gk = bs.length / 64 ∧ n + 64 * j = bs.length ∧ (absS K iv bs j).length = 8 ∧ ((bs.drop (64 * j)).take 64).length = 64 ∧ (bs.drop (64 * j)).length = n ∧ K.length = 64) := ⟨hj, hn, hlen, h64, hdl, hK⟩
      have hgk : 0 < gk := by omega
      have hn47 : n ≤ 140737488351232 := by omega
      have hrs : w.heap.size + 1 < wr.heap.size := k1.lt
      clear hj hn hlen hdl hK h64
      repeat go_step
      have hCq := Ext.drew wr
      refine wp_plan (Ext wr) [4] [(0, true), (1, true), (2, true), (3, false), (4, false)] (by kernel_rfl) (by kernel_rfl) (fun ops hops => ?_)
      dsimp only [zipPlan, pickOp]
      refine plan_still _ rfl rfl rfl hCq ?_; apply Exists.intro; refine ⟨fun W hW K N hK => ?_, ?_, ?_⟩
      · refine load_wp 26 _ rfl rfl (k1.below hW k1.lt) Tryd.underlying26 (by kernel_rfl) H.out.2.2.1 ?_
        simp only [Act.put, List.setIfInBounds_toArray, List.set_cons_succ, List.set_cons_zero]
        exact hK
      · rfl
      iterate 2 (refine plan_still _ rfl rfl rfl hCq ?_; apply Exists.intro; refine ⟨fun W hW K N hK => ?_, ?_, ?_⟩; (· (go_step; first | exact hK | (repeat go_step; exact hK))); (· rfl))
      refine plan_effect false rfl rfl ?_
      go_step
      go_step
      refine Made.use (sha_block K (absS K iv bs j) ((bs.drop (64 * j)).take 64) gb ob c' wr.drew H.out.2.2.2.2.2 H.out.2.2.1 H.out.2.2.2.1 (show gb < wr.heap.size by omega) hcl.take (show 0 < wr.heap.size by omega) (hT.below hB.drew h0)) ?_
      intro w2 hB2
      dsimp only
      repeat go_step
      have hE : Ext wr w2 := Ext.of_drew hB2
      refine Eff.mk_ hE ?_
      refine plan_effect true rfl rfl ?_
      refine store_put (n := 8) rfl 26 _ _ rfl rfl rfl (k1.below hE k1.lt) (by kernel_rfl) (by rw [blockF_len]; exact H.out.2.2.1) (by rw [row_size]; exact H.out.2.2.1) (fun _ => rfl) ?_
      intro w3 p3
      refine wpList_nil ?_
      refine Eff.wild (plan_nil ?_)
      have hB3 := p3.below (hB.trans (hE.mono (by omega))) (by omega)
      have m0 := p3.far (k0.below hE k0.lt) (by omega)
      have m1 := p3.blk
      have ms := p3.below (hE.mono (show w.heap.size ≤ wr.heap.size by omega)) (by omega)
      have ms := (hsl.below ms).drop (k := 64) (c := c') (by rw [H.out.2.2.2.2.1]; exact hc')
      have ed : (bs.drop (64 * j)).drop 64 = bs.drop (64 * (j + 1)) := by rw [List.drop_drop]; congr 1
      rw [ed] at ms
      have Ms : Hid (Sl U8 w3 w.heap.size (if c' = 64 then some ⟨gb, ob, none⟩ else (some (⟨gb, ob, none⟩ : Addr)).map (·.add (64 * 1))) (bs.drop (64 * (j + 1)))) := ms
      clear p3 hB2 hE ms ed hops
      by_cases hcc : c' = 64
      · subst hcc
        obtain rfl : n = 64 := by omega
        go_wp2
        go_roundg (gk - 1)
        case measure => omega
        case rel =>
          obtain ⟨hj, hn, _⟩ := H.out
          exact ⟨j + 1, 0, _, _, by omega, rfl, by omega, by omega, by simpa using Ms.out, m0, m1, hB3⟩
      · go_wp2
        go_roundg (gk - 1)
        case measure => omega
        case rel =>
          obtain ⟨hj, hn, _⟩ := H.out
          exact ⟨j + 1, n - 64, _, _, by omega, rfl, by omega, by omega, by simpa [hcc, Addr.add] using Ms.out, m0, m1, hB3⟩
    · have H : Hid (j = bs.length / 64 ∧ n + 64 * j = bs.length ∧ (absS K iv bs j).length = 8 ∧ (bs.drop (64 * j)).length = n ∧ K.length = 64) := ⟨by omega, hn, hlen, hdl, hK⟩
      clear hj hn hlen hdl hK
      have hz : ∀ w : World, (zeroValue 40).run Tryd.prog w = .ok (.agg (row U8 (zeros 128))) w := fun _ => by kernel_rfl
      go_upto_region 7 with (fail)
      clear hz
      generalize hr' : bs.drop (64 * j) = r at hsl H
      obtain rfl : r.length = n := H.out.2.2.2.1
      have a2 := Blk.new wr 40 (row U8 (zeros 128))
      have hrs : w.heap.size + 1 < wr.heap.size := k1.lt
      have hz : Hid ((zeros 128 : List (BitVec 8)).length = 128) := zeros_len 128
      go_upto_region 8 with (refine copy_blk rfl _ _ _ _ rfl 5 Tryd.underlying22 (by kernel_rfl) rfl rfl a2 (hsl.below ((Below.refl wr.heap.size wr).alloc (Nat.le_refl _) (.cells (row U8 (zeros 128)) 40) |>.mono (by omega))) ?_ (fun _ => rfl) ?_ (fun _ => rfl) ?_; rotate_left 2; intro w4 p4)
      case refine_1 => show r.length = min r.length 128; omega
      case refine_2 => rw [hz.out]; omega
      have b0 := p4.far (k0.alloc _) (by omega)
      have b1 := p4.far (k1.alloc _) (by omega)
      have b2 := p4.blk
      have hB4 := p4.below (hB.alloc (by omega) _) (by omega)
      clear p4 a2 k0 k1 hB
      have hl1 : (splc (zeros 128 : List (BitVec 8)) 0 r).length = 128 := by rw [splc_len _ _ _ (by rw [hz.out]; omega), hz.out]
      have e0 := b2.rd8 (i := r.length) (by omega)
      have f0 := b2.free r.length
      have Hl1 : Hid ((splc (zeros 128 : List (BitVec 8)) 0 r).length = 128) := hl1
      clear hl1
      generalize wr.heap.size = gl at hrs b2 e0 f0 ⊢
      go_upto_region 9 with (fail)
      have q2 := b2.set_ r.length 128#8
      have q0 := b0.far (p := ⟨gl, r.length, none⟩) (show w.heap.size ≠ gl by omega) (U8 128#8)
      have q1 := b1.far (p := ⟨gl, r.length, none⟩) (show w.heap.size + 1 ≠ gl by omega) (U8 128#8)
      have hB5 := hB4.setCell (p := ⟨gl, r.length, none⟩) (show w.heap.size ≤ gl by omega) (U8 128#8)
      clear e0 f0 b0 b1 b2 hB4
      have hl2 : ((splc (zeros 128 : List (BitVec 8)) 0 r).set r.length 128#8).length = 128 := by rw [List.length_set, Hl1.out]
      generalize hL : (splc (zeros 128 : List (BitVec 8)) 0 r).set r.length 128#8 = L at q2 hl2
      have HL : Hid ((splc (zeros 128 : List (BitVec 8)) 0 r).set r.length 128#8 = L ∧ L.length = 128) := ⟨hL, hl2⟩
      clear hL hl2
      show Code.wp _ _ _ _ (w4.setCell ⟨gl, r.length, none⟩ (U8 128#8))
      generalize w4.setCell ⟨gl, r.length, none⟩ (U8 128#8) = w5 at q0 q1 q2 hB5 ⊢
      clear w4
      have Hr' := (show Hid (bs.drop (64 * j) = r) from hr')
      clear hr' hr hsl Hl1 hc hb
      generalize hnn : BitVec.ofNat 64 bs.length * 8#64 = nn
      have Hnn : Hid (BitVec.ofNat 64 bs.length * 8#64 = nn) := hnn
      clear hnn
      have hS : (absS K iv bs j).length = 8 := H.out.2.2.1
      by_cases h56 : 56 ≤ r.length
      all_goals go_upto_region 12 with (fail)
      all_goals have he1 : 1 ≤ endOf r.length / 64 ∧ endOf r.length = 64 * (endOf r.length / 64) ∧ endOf r.length ≤ 128 := by simp [endOf, h56]
      all_goals first | rw [show (128 : Int) = ((endOf r.length : Nat) : Int) from by simp [endOf, h56]] | rw [show (64 : Int) = ((endOf r.length : Nat) : Int) from by simp [endOf, h56]]
      all_goals
        clear h56
        generalize hee : endOf r.length = e at he1 ⊢
        have Hee : Hid (endOf r.length = e) := hee
        clear hee
        obtain ⟨m, hm1, rfl, hm2⟩ : ∃ m, 1 ≤ m ∧ e = 64 * m ∧ m ≤ 2 := ⟨e / 64, by omega, by omega, by omega⟩
        clear he1
        go_wp2
        go_loopg [33] 8 (fun k i wr => ∃ j2 : Nat, j2 + k = 8 ∧ i = .int .i64 j2 ∧ Blk wr w.heap.size 30 (row U8 (List.replicate 32 0#8)) ∧ Blk wr (w.heap.size + 1) 26 (row U32 (absS K iv bs j)) ∧ Blk wr gl 40 (row U8 (lenS nn (64 * m) L j2)) ∧ Below w.heap.size w wr)
        case atStart => exact ⟨0, rfl, rfl, q0, q1, q2, hB5⟩
        case round =>
          clear q0 q1 q2 hB5
          obtain ⟨j2, hj2, rfl, q0, q1, q2, hB⟩ := hrel
          have hll : (lenS nn (64 * m) L j2).length = 128 := by rw [lenS_len]; exact HL.out.2
          by_cases hlt2 : j2 < 8
          · have e0 := q2.rd8 (i := 64 * m - 1 - j2) (by omega)
            have f0 := q2.free (64 * m - 1 - j2)
            have H2 : Hid (j2 + gk = 8) := hj2
            have hgk : 0 < gk := by omega
            clear hj2 hll hS
            go_wp2
            go_roundg (gk - 1)
            case measure => omega
            case rel =>
              have hj2 := H2.out
              exact ⟨j2 + 1, by omega, by go_num, q0.far (show w.heap.size ≠ gl by omega) _, q1.far (show w.heap.size + 1 ≠ gl by omega) _, q2.set_ _ _, hB.setCell (show w.heap.size ≤ gl by omega) _⟩
          · obtain rfl : j2 = 8 := by omega
            clear hj2
            generalize hLL : lenS nn (64 * m) L 8 = LL at q2 hll
            have HLL : Hid (lenS nn (64 * m) L 8 = LL) := hLL
            clear hLL
            go_wp2
            go_loopg [9] m (fun k i wr => ∃ j3 : Nat, j3 + k = m ∧ i = .int .i64 ((64 * j3 : Nat) : Int) ∧ Blk wr w.heap.size 30 (row U8 (List.replicate 32 0#8)) ∧ Blk wr (w.heap.size + 1) 26 (row U32 (absS K (absS K iv bs j) LL j3)) ∧ Blk wr gl 40 (row U8 LL) ∧ Below w.heap.size w wr)
            case atStart => exact ⟨0, by omega, rfl, q0, q1, q2, hB⟩
            case round =>
              clear q0 q1 q2 hB
              obtain ⟨j3, hj3, rfl, q0, q1, q2, hB⟩ := hrel
              have hs3 : (absS K (absS K iv bs j) LL j3).length = 8 := by rw [absS_len]; exact hS
              by_cases hlt3 : j3 < m
              · have h64 : ((LL.drop (64 * j3)).take 64).length = 64 := by rw [List.length_take, List.length_drop, hll]; omega
                have H3 : Hid (j3 + gk = m ∧ (absS K (absS K iv bs j) LL j3).length = 8 ∧ ((LL.drop (64 * j3)).take 64).length = 64 ∧ K.length = 64) := ⟨hj3, hs3, h64, H.out.2.2.2.2⟩
                have hgk : 0 < gk := by omega
                have hrs1 : w.heap.size + 1 < wr.heap.size := q1.lt
                have hrs2 : gl < wr.heap.size := q2.lt
                have hsa := fun W => sliceAt_run (P := Tryd.prog) (g := gl) Tryd.underlying40 (by kernel_rfl) .i64 .i64 (lo := 64 * j3) (hi := 64 * j3 + 64) (by omega) (by omega) (by omega) (L := 64 * (j3 : Int)) (H := 64 * (j3 : Int) + 64) (by omega) (by omega) W
                clear hj3 hs3 h64 hll hS
                repeat go_step
                have hCq := Ext.drew wr
                refine wp_plan (Ext wr) [6] [(0, true), (1, true), (2, true), (3, true), (4, true), (5, false), (6, false)] (by kernel_rfl) (by kernel_rfl) (fun ops hops => ?_)
                dsimp only [zipPlan, pickOp]
                refine plan_still _ rfl rfl rfl hCq ?_; apply Exists.intro; refine ⟨fun W hW K N hK => ?_, ?_, ?_⟩
                · refine load_wp 26 _ rfl rfl (q1.below hW q1.lt) Tryd.underlying26 (by kernel_rfl) H3.out.2.1 ?_
                  simp only [Act.put, List.setIfInBounds_toArray, List.set_cons_succ, List.set_cons_zero]
                  exact hK
                · rfl
                iterate 4 (refine plan_still _ rfl rfl rfl hCq ?_; apply Exists.intro; refine ⟨fun W hW K N hK => ?_, ?_, ?_⟩; (· (go_step; first | exact hK | (repeat go_step; exact hK))); (· rfl))
                refine plan_effect false rfl rfl ?_
                go_step
                go_step
                refine Made.use (sha_block K (absS K (absS K iv bs j) LL j3) ((LL.drop (64 * j3)).take 64) gl (64 * j3) (128 - 64 * j3) wr.drew H3.out.2.2.2 H3.out.2.1 H3.out.2.2.1 (show gl < wr.heap.size by omega) (q2.cells.take) (show 0 < wr.heap.size by omega) (hT.below hB.drew h0)) ?_
                intro w2 hB2
                dsimp only
                repeat go_step
                have hE : Ext wr w2 := Ext.of_drew hB2
                refine Eff.mk_ hE ?_
                refine plan_effect true rfl rfl ?_
                refine store_put (n := 8) rfl 26 _ _ rfl rfl rfl (q1.below hE q1.lt) (by kernel_rfl) (by rw [blockF_len]; exact H3.out.2.1) (by rw [row_size]; exact H3.out.2.1) (fun _ => rfl) ?_
                intro w3 p3
                refine wpList_nil ?_
                refine Eff.wild (plan_nil ?_)
                have hB3 := p3.below (hB.trans (hE.mono (by omega))) (by omega)
                have m0 := p3.far (q0.below hE q0.lt) (by omega)
                have m1 := p3.blk
                have m2 := p3.far (q2.below hE q2.lt) (by omega)
                clear p3 hB2 hE hops
                go_wp2
                go_roundg (gk - 1)
                case measure => omega
                case rel =>
                  have hj3 := H3.out.1
                  exact ⟨j3 + 1, by omega, by go_num, m0, m1, m2, hB3⟩
              · obtain rfl : j3 = m := by omega
                clear hj3
                generalize hSS : absS K (absS K iv bs j) LL j3 = SS at q1 hs3
                have HSS : Hid (absS K (absS K iv bs j) LL j3 = SS) := hSS
                clear hSS hS hll
                have hz3 : ∀ w : World, (zeroValue 30).run Tryd.prog w = .ok (.agg (row U8 (zeros 32))) w := fun _ => by kernel_rfl
                have hrs2 : gl < wr.heap.size := q2.lt
                go_upto_region 22 with (fail)
                have o0 := q0.alloc (.cells (row U8 (zeros 32)) 30)
                have o1 := q1.alloc (.cells (row U8 (zeros 32)) 30)
                have o3 := Blk.new wr 30 (row U8 (zeros 32))
                have hBo := hB.alloc (by omega) (.cells (row U8 (zeros 32)) 30)
                clear hz3 q0 q1 q2 hB
                generalize wr.alloc (.cells (row U8 (zeros 32)) 30) = wo at o0 o1 o3 hBo ⊢
                generalize wr.heap.size = go at hrs2 o3 ⊢
                go_wp2
                go_loopg [58] 32 (fun k i wr => ∃ j4 : Nat, j4 + k = 32 ∧ i = .int .i64 j4 ∧ Blk wr w.heap.size 30 (row U8 (List.replicate 32 0#8)) ∧ Blk wr (w.heap.size + 1) 26 (row U32 SS) ∧ Blk wr go 30 (row U8 (outS SS j4)) ∧ Below w.heap.size w wr)
                case atStart => exact ⟨0, rfl, rfl, o0, o1, o3, hBo⟩
                case round =>
                  clear o0 o1 o3 hBo
                  obtain ⟨j4, hj4, rfl, o0, o1, o3, hB⟩ := hrel
                  by_cases hlt4 : j4 < 32
                  · have e0 := o1.rd32 (i := j4 / 4) (by omega)
                    have e1 := o3.rd8 (i := j4) (by rw [outS_len]; omega)
                    have f1 := o3.free j4
                    have H4 : Hid (j4 + gk = 32 ∧ SS.length = 8) := ⟨hj4, hs3⟩
                    have hgk : 0 < gk := by omega
                    clear hj4 hs3
                    go_wp2
                    go_roundg (gk - 1)
                    case measure => omega
                    case rel =>
                      have hj4 := H4.out.1
                      exact ⟨j4 + 1, by omega, by go_num, o0.far (show w.heap.size ≠ go by omega) _, o1.far (show w.heap.size + 1 ≠ go by omega) _, o3.set_ _ _, hB.setCell (show w.heap.size ≤ go by omega) _⟩
                  · obtain rfl : j4 = 32 := by omega
                    clear hj4 hs3
                    have Ha : Hid ((outS SS 32).length = 32) := outS_len _ _
                    go_wp2_with (first | (refine load_blk rfl 30 _ rfl rfl o3 Tryd.underlying30 (by kernel_rfl) Ha.out ?_) | (refine store_put rfl 30 _ _ rfl rfl rfl o0 (by kernel_rfl) Ha.out rfl (fun _ => rfl) ?_; intro w5 p5))
                    refine ret_blk rfl rfl p5.blk Tryd.underlying30 (by kernel_rfl) Ha.out rfl ⟨?_, p5.below hB (by omega)⟩
                    unfold shaF lastF
                    dsimp only
                    rw [← H.out.1, Hr'.out, Hnn.out, Hee.out, HL.out.1, HLL.out, Nat.mul_div_cancel_left _ (by decide), HSS.out]
end Go.Proofs.YtfcbkmgkdbdabaaDoor
