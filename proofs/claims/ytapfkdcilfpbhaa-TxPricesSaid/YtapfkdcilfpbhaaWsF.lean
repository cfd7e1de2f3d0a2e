/- Facts of the program's types and functions, printed by walk.py. -/
import Derived.Test.YtapfkdcilfpbhaaH
namespace Go.Proofs.Ytapfkdcilfpbhaa
open Go.RowKit
set_option linter.unusedVariables false
set_option linter.unusedSimpArgs false
def R87 : Rp ((Vec (BitVec 8) 20) × (List (Vec (BitVec 64) 4))) := ⟨21, fun h x cs => ∃ (A1 : Option Addr) (c2 : Nat), cs = cV U8 x.1 ++ ([(.slice A1 x.2.length c2 : Value)]) ∧ SlR h (arrR U64 (fun _ => rfl) 4) A1 x.2 ∧ x.2.length ≤ c2, fun s ⟨A1, c2, e, hs3, hc4⟩ => ⟨A1, c2, e, hs3.up s, hc4⟩, fun ⟨A1, c2, e, _⟩ => by rw [e]; simp [cV_len], fun ⟨A1, c2, e, _⟩ => by rw [e]; exact (one_app (cV_one (fun _ => rfl) _) one_one)⟩
theorem bs12 : Try.f12.body.isSome = true := by kernel_rfl
theorem bs13 : Try.f13.body.isSome = true := by kernel_rfl
theorem bs14 : Try.f14.body.isSome = true := by kernel_rfl
theorem bs15 : Try.f15.body.isSome = true := by kernel_rfl
theorem bs16 : Try.f16.body.isSome = true := by kernel_rfl
theorem bs17 : Try.f17.body.isSome = true := by kernel_rfl
theorem bs18 : Try.f18.body.isSome = true := by kernel_rfl
theorem bs19 : Try.f19.body.isSome = true := by kernel_rfl
theorem bs20 : Try.f20.body.isSome = true := by kernel_rfl
theorem bs21 : Try.f21.body.isSome = true := by kernel_rfl
theorem bs22 : Try.f22.body.isSome = true := by kernel_rfl
theorem bs33 : Try.f33.body.isSome = true := by kernel_rfl
theorem bs34 : Try.f34.body.isSome = true := by kernel_rfl
theorem bs35 : Try.f35.body.isSome = true := by kernel_rfl
theorem bs36 : Try.f36.body.isSome = true := by kernel_rfl
theorem bs40 : Try.f40.body.isSome = true := by kernel_rfl
theorem bs42 : Try.f42.body.isSome = true := by kernel_rfl
theorem bs43 : Try.f43.body.isSome = true := by kernel_rfl
theorem bs44 : Try.f44.body.isSome = true := by kernel_rfl
theorem bs45 : Try.f45.body.isSome = true := by kernel_rfl
theorem bs46 : Try.f46.body.isSome = true := by kernel_rfl
theorem bs47 : Try.f47.body.isSome = true := by kernel_rfl
theorem bs48 : Try.f48.body.isSome = true := by kernel_rfl
theorem bs49 : Try.f49.body.isSome = true := by kernel_rfl
theorem bs50 : Try.f50.body.isSome = true := by kernel_rfl
theorem bs51 : Try.f51.body.isSome = true := by kernel_rfl
theorem bs68 : Try.f68.body.isSome = true := by kernel_rfl
theorem bs71 : Try.f71.body.isSome = true := by kernel_rfl
theorem bs72 : Try.f72.body.isSome = true := by kernel_rfl
theorem bs73 : Try.f73.body.isSome = true := by kernel_rfl
theorem bs74 : Try.f74.body.isSome = true := by kernel_rfl
theorem ce22 : Try.prog.cellsOf 22 = 1 := by kernel_rfl
theorem eg24 : Try.prog.eqGuardType Try.prog.depth 24 = false := by kernel_rfl
theorem in3 : (Try.prog.info? 3).map (fun i => (i.zero, i.size, i.bytes)) = some (some (.int .i64 0), 1, 8) := by kernel_rfl
theorem nm12 : (Try.f12.name == "runtime.NumGoroutine") = false := by kernel_rfl
theorem nm13 : (Try.f13.name == "runtime.NumGoroutine") = false := by kernel_rfl
theorem nm14 : (Try.f14.name == "runtime.NumGoroutine") = false := by kernel_rfl
theorem nm15 : (Try.f15.name == "runtime.NumGoroutine") = false := by kernel_rfl
theorem nm16 : (Try.f16.name == "runtime.NumGoroutine") = false := by kernel_rfl
theorem nm17 : (Try.f17.name == "runtime.NumGoroutine") = false := by kernel_rfl
theorem nm18 : (Try.f18.name == "runtime.NumGoroutine") = false := by kernel_rfl
theorem nm19 : (Try.f19.name == "runtime.NumGoroutine") = false := by kernel_rfl
theorem nm20 : (Try.f20.name == "runtime.NumGoroutine") = false := by kernel_rfl
theorem nm21 : (Try.f21.name == "runtime.NumGoroutine") = false := by kernel_rfl
theorem nm22 : (Try.f22.name == "runtime.NumGoroutine") = false := by kernel_rfl
theorem nm33 : (Try.f33.name == "runtime.NumGoroutine") = false := by kernel_rfl
theorem nm34 : (Try.f34.name == "runtime.NumGoroutine") = false := by kernel_rfl
theorem nm35 : (Try.f35.name == "runtime.NumGoroutine") = false := by kernel_rfl
theorem nm36 : (Try.f36.name == "runtime.NumGoroutine") = false := by kernel_rfl
theorem nm40 : (Try.f40.name == "runtime.NumGoroutine") = false := by kernel_rfl
theorem nm42 : (Try.f42.name == "runtime.NumGoroutine") = false := by kernel_rfl
theorem nm43 : (Try.f43.name == "runtime.NumGoroutine") = false := by kernel_rfl
theorem nm44 : (Try.f44.name == "runtime.NumGoroutine") = false := by kernel_rfl
theorem nm45 : (Try.f45.name == "runtime.NumGoroutine") = false := by kernel_rfl
theorem nm46 : (Try.f46.name == "runtime.NumGoroutine") = false := by kernel_rfl
theorem nm47 : (Try.f47.name == "runtime.NumGoroutine") = false := by kernel_rfl
theorem nm48 : (Try.f48.name == "runtime.NumGoroutine") = false := by kernel_rfl
theorem nm49 : (Try.f49.name == "runtime.NumGoroutine") = false := by kernel_rfl
theorem nm50 : (Try.f50.name == "runtime.NumGoroutine") = false := by kernel_rfl
theorem nm51 : (Try.f51.name == "runtime.NumGoroutine") = false := by kernel_rfl
theorem nm68 : (Try.f68.name == "runtime.NumGoroutine") = false := by kernel_rfl
theorem nm71 : (Try.f71.name == "runtime.NumGoroutine") = false := by kernel_rfl
theorem nm72 : (Try.f72.name == "runtime.NumGoroutine") = false := by kernel_rfl
theorem nm73 : (Try.f73.name == "runtime.NumGoroutine") = false := by kernel_rfl
theorem nm74 : (Try.f74.name == "runtime.NumGoroutine") = false := by kernel_rfl
theorem pk22 : Try.prog.plainKey 22 = true := by kernel_rfl
theorem sz22 : (Try.prog.info? 22).map (·.size) = some 1 := by kernel_rfl
theorem sz24 : (Try.prog.info? 24).map (·.size) = some 4 := by kernel_rfl
theorem sz25 : (Try.prog.info? 25).map (·.size) = some 1 := by kernel_rfl
theorem sz3 : (Try.prog.info? 3).map (·.size) = some 1 := by kernel_rfl
theorem sz31 : (Try.prog.info? 31).map (·.size) = some 1 := by kernel_rfl
theorem sz33 : (Try.prog.info? 33).map (·.size) = some 57 := by kernel_rfl
theorem sz4 : (Try.prog.info? 4).map (·.size) = some 1 := by kernel_rfl
theorem sz5 : (Try.prog.info? 5).map (·.size) = some 1 := by kernel_rfl
theorem sz78 : (Try.prog.info? 78).map (·.size) = some 32 := by kernel_rfl
theorem sz82 : (Try.prog.info? 82).map (·.size) = some 32 := by kernel_rfl
theorem sz85 : (Try.prog.info? 85).map (·.size) = some 1 := by kernel_rfl
theorem sz87 : (Try.prog.info? 87).map (·.size) = some 21 := by kernel_rfl
theorem xb69 : Try.f69.body.isNone = true := by kernel_rfl
theorem xb70 : Try.f70.body.isNone = true := by kernel_rfl
theorem xf69 : Extern.find Try.f69 = some (addE) := by kernel_rfl
theorem xf70 : Extern.find Try.f70 = some (subE) := by kernel_rfl
theorem xn69 : (Try.f69.name == "runtime.NumGoroutine") = false := by kernel_rfl
theorem xn70 : (Try.f70.name == "runtime.NumGoroutine") = false := by kernel_rfl
theorem xx69 : Extern.findNext Try.f69 = none := by kernel_rfl
theorem xx70 : Extern.findNext Try.f70 = none := by kernel_rfl
theorem ze134 : (Try.prog.info? 134).map (·.zero) = some (some (.agg (cV U64 (Vec.rep 8 0#64)).toArray)) := by kernel_rfl
theorem ze24 : (Try.prog.info? 24).map (·.zero) = some (some (.agg (cV U64 (Vec.rep 4 0#64)).toArray)) := by kernel_rfl
theorem ze33 : (Try.prog.info? 33).map (·.zero) = some (some (.agg (cV U8 (Vec.rep 20 0#8) ++ (cV U8 (Vec.rep 20 0#8) ++ ([(.bool false : Value)] ++ ([(.int .u64 0 : Value)] ++ (cV U64 (Vec.rep 4 0#64) ++ ([(.slice none ([] : List (BitVec 8)).length 0 : Value)] ++ ([(.int .u64 0 : Value)] ++ (cV U64 (Vec.rep 4 0#64) ++ (cV U64 (Vec.rep 4 0#64) ++ ([(.slice none ([] : List ((Vec (BitVec 8) 20) × (List (Vec (BitVec 64) 4)))).length 0 : Value)])))))))))).toArray)) := by kernel_rfl
theorem ze78 : (Try.prog.info? 78).map (·.zero) = some (some (.agg (cV U8 (Vec.rep 32 0#8)).toArray)) := by kernel_rfl
theorem ze82 : (Try.prog.info? 82).map (·.zero) = some (some (.agg (cV (Value.int .i64) (Vec.rep 32 0)).toArray)) := by kernel_rfl
theorem ze87 : (Try.prog.info? 87).map (·.zero) = some (some (.agg (cV U8 (Vec.rep 20 0#8) ++ ([(.slice none ([] : List (Vec (BitVec 64) 4)).length 0 : Value)])).toArray)) := by kernel_rfl
end Go.Proofs.Ytapfkdcilfpbhaa
