/- Facts of the program's types and functions, printed by walk.py. -/
import Derived.Test.YtapfkdcilfpbhaaH
namespace Go.Proofs.Ytapfkdcilfpbhaa
open Go.RowKit
set_option linter.unusedVariables false
set_option linter.unusedSimpArgs false
def R60 : Rp ((Bool) × (List (BitVec 8)) × (Int)) := ⟨3, fun h x cs => ∃ (A1 : Option Addr) (c2 : Nat), cs = [(.bool x.1 : Value)] ++ ([(.slice A1 x.2.1.length c2 : Value)] ++ ([(.int .i64 x.2.2 : Value)])) ∧ SlH h U8 A1 x.2.1 ∧ x.2.1.length ≤ c2, fun s ⟨A1, c2, e, hs3, hc4⟩ => ⟨A1, c2, e, hs3.up s, hc4⟩, fun ⟨A1, c2, e, _⟩ => by rw [e]; simp [cV_len], fun ⟨A1, c2, e, _⟩ => by rw [e]; exact (one_app one_one (one_app one_one one_one))⟩
theorem bs10 : Try.f10.body.isSome = true := by kernel_rfl
theorem bs11 : Try.f11.body.isSome = true := by kernel_rfl
theorem bs23 : Try.f23.body.isSome = true := by kernel_rfl
theorem bs24 : Try.f24.body.isSome = true := by kernel_rfl
theorem bs25 : Try.f25.body.isSome = true := by kernel_rfl
theorem bs26 : Try.f26.body.isSome = true := by kernel_rfl
theorem bs27 : Try.f27.body.isSome = true := by kernel_rfl
theorem bs28 : Try.f28.body.isSome = true := by kernel_rfl
theorem bs38 : Try.f38.body.isSome = true := by kernel_rfl
theorem bs39 : Try.f39.body.isSome = true := by kernel_rfl
theorem bs40 : Try.f40.body.isSome = true := by kernel_rfl
theorem bs41 : Try.f41.body.isSome = true := by kernel_rfl
theorem bs43 : Try.f43.body.isSome = true := by kernel_rfl
theorem bs52 : Try.f52.body.isSome = true := by kernel_rfl
theorem bs53 : Try.f53.body.isSome = true := by kernel_rfl
theorem bs54 : Try.f54.body.isSome = true := by kernel_rfl
theorem bs55 : Try.f55.body.isSome = true := by kernel_rfl
theorem bs56 : Try.f56.body.isSome = true := by kernel_rfl
theorem bs57 : Try.f57.body.isSome = true := by kernel_rfl
theorem bs58 : Try.f58.body.isSome = true := by kernel_rfl
theorem bs67 : Try.f67.body.isSome = true := by kernel_rfl
theorem bs75 : Try.f75.body.isSome = true := by kernel_rfl
theorem bs76 : Try.f76.body.isSome = true := by kernel_rfl
theorem bs77 : Try.f77.body.isSome = true := by kernel_rfl
theorem bs78 : Try.f78.body.isSome = true := by kernel_rfl
theorem bs79 : Try.f79.body.isSome = true := by kernel_rfl
theorem bs80 : Try.f80.body.isSome = true := by kernel_rfl
theorem bs83 : Try.f83.body.isSome = true := by kernel_rfl
theorem bs9 : Try.f9.body.isSome = true := by kernel_rfl
theorem in3 : (Try.prog.info? 3).map (fun i => (i.zero, i.size, i.bytes)) = some (some (.int .i64 0), 1, 8) := by kernel_rfl
theorem in5 : (Try.prog.info? 5).map (fun i => (i.zero, i.size, i.bytes)) = some (some (.int .u8 0), 1, 1) := by kernel_rfl
theorem in60 : (Try.prog.info? 60).map (fun i => (i.zero, i.size, i.bytes)) = some (some (.agg ([(.bool false : Value)] ++ ([(.slice none ([] : List (BitVec 8)).length 0 : Value)] ++ ([(.int .i64 0 : Value)]))).toArray), 3, 40) := by kernel_rfl
theorem nm10 : (Try.f10.name == "runtime.NumGoroutine") = false := by kernel_rfl
theorem nm11 : (Try.f11.name == "runtime.NumGoroutine") = false := by kernel_rfl
theorem nm23 : (Try.f23.name == "runtime.NumGoroutine") = false := by kernel_rfl
theorem nm24 : (Try.f24.name == "runtime.NumGoroutine") = false := by kernel_rfl
theorem nm25 : (Try.f25.name == "runtime.NumGoroutine") = false := by kernel_rfl
theorem nm26 : (Try.f26.name == "runtime.NumGoroutine") = false := by kernel_rfl
theorem nm27 : (Try.f27.name == "runtime.NumGoroutine") = false := by kernel_rfl
theorem nm28 : (Try.f28.name == "runtime.NumGoroutine") = false := by kernel_rfl
theorem nm38 : (Try.f38.name == "runtime.NumGoroutine") = false := by kernel_rfl
theorem nm39 : (Try.f39.name == "runtime.NumGoroutine") = false := by kernel_rfl
theorem nm40 : (Try.f40.name == "runtime.NumGoroutine") = false := by kernel_rfl
theorem nm41 : (Try.f41.name == "runtime.NumGoroutine") = false := by kernel_rfl
theorem nm43 : (Try.f43.name == "runtime.NumGoroutine") = false := by kernel_rfl
theorem nm52 : (Try.f52.name == "runtime.NumGoroutine") = false := by kernel_rfl
theorem nm53 : (Try.f53.name == "runtime.NumGoroutine") = false := by kernel_rfl
theorem nm54 : (Try.f54.name == "runtime.NumGoroutine") = false := by kernel_rfl
theorem nm55 : (Try.f55.name == "runtime.NumGoroutine") = false := by kernel_rfl
theorem nm56 : (Try.f56.name == "runtime.NumGoroutine") = false := by kernel_rfl
theorem nm57 : (Try.f57.name == "runtime.NumGoroutine") = false := by kernel_rfl
theorem nm58 : (Try.f58.name == "runtime.NumGoroutine") = false := by kernel_rfl
theorem nm67 : (Try.f67.name == "runtime.NumGoroutine") = false := by kernel_rfl
theorem nm75 : (Try.f75.name == "runtime.NumGoroutine") = false := by kernel_rfl
theorem nm76 : (Try.f76.name == "runtime.NumGoroutine") = false := by kernel_rfl
theorem nm77 : (Try.f77.name == "runtime.NumGoroutine") = false := by kernel_rfl
theorem nm78 : (Try.f78.name == "runtime.NumGoroutine") = false := by kernel_rfl
theorem nm79 : (Try.f79.name == "runtime.NumGoroutine") = false := by kernel_rfl
theorem nm80 : (Try.f80.name == "runtime.NumGoroutine") = false := by kernel_rfl
theorem nm83 : (Try.f83.name == "runtime.NumGoroutine") = false := by kernel_rfl
theorem nm9 : (Try.f9.name == "runtime.NumGoroutine") = false := by kernel_rfl
theorem sz22 : (Try.prog.info? 22).map (·.size) = some 1 := by kernel_rfl
theorem sz24 : (Try.prog.info? 24).map (·.size) = some 4 := by kernel_rfl
theorem sz25 : (Try.prog.info? 25).map (·.size) = some 1 := by kernel_rfl
theorem sz3 : (Try.prog.info? 3).map (·.size) = some 1 := by kernel_rfl
theorem sz4 : (Try.prog.info? 4).map (·.size) = some 1 := by kernel_rfl
theorem sz46 : (Try.prog.info? 46).map (·.size) = some 1 := by kernel_rfl
theorem sz48 : (Try.prog.info? 48).map (·.size) = some 1 := by kernel_rfl
theorem sz5 : (Try.prog.info? 5).map (·.size) = some 1 := by kernel_rfl
theorem sz60 : (Try.prog.info? 60).map (·.size) = some 3 := by kernel_rfl
theorem sz78 : (Try.prog.info? 78).map (·.size) = some 32 := by kernel_rfl
theorem sz82 : (Try.prog.info? 82).map (·.size) = some 32 := by kernel_rfl
theorem ze24 : (Try.prog.info? 24).map (·.zero) = some (some (.agg (cV U64 (Vec.rep 4 0#64)).toArray)) := by kernel_rfl
theorem ze60 : (Try.prog.info? 60).map (·.zero) = some (some (.agg ([(.bool false : Value)] ++ ([(.slice none ([] : List (BitVec 8)).length 0 : Value)] ++ ([(.int .i64 0 : Value)]))).toArray)) := by kernel_rfl
theorem ze78 : (Try.prog.info? 78).map (·.zero) = some (some (.agg (cV U8 (Vec.rep 32 0#8)).toArray)) := by kernel_rfl
theorem ze82 : (Try.prog.info? 82).map (·.zero) = some (some (.agg (cV (Value.int .i64) (Vec.rep 32 0)).toArray)) := by kernel_rfl
end Go.Proofs.Ytapfkdcilfpbhaa
