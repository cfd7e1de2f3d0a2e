/- Facts of the program's types and functions, printed by walk.py. -/
import Derived.Test.YtccilbklafhjiaaH
namespace Go.Proofs.Ytccilbklafhjiaa
open Go.RowKit
set_option linter.unusedVariables false
set_option linter.unusedSimpArgs false
theorem bs10 : Try.f10.body.isSome = true := by kernel_rfl
theorem bs11 : Try.f11.body.isSome = true := by kernel_rfl
theorem bs12 : Try.f12.body.isSome = true := by kernel_rfl
theorem bs13 : Try.f13.body.isSome = true := by kernel_rfl
theorem bs14 : Try.f14.body.isSome = true := by kernel_rfl
theorem bs15 : Try.f15.body.isSome = true := by kernel_rfl
theorem bs16 : Try.f16.body.isSome = true := by kernel_rfl
theorem bs17 : Try.f17.body.isSome = true := by kernel_rfl
theorem bs18 : Try.f18.body.isSome = true := by kernel_rfl
theorem bs19 : Try.f19.body.isSome = true := by kernel_rfl
theorem bs20 : Try.f20.body.isSome = true := by kernel_rfl
theorem bs21 : Try.f21.body.isSome = true := by kernel_rfl
theorem bs22 : Try.f22.body.isSome = true := by kernel_rfl
theorem bs23 : Try.f23.body.isSome = true := by kernel_rfl
theorem bs24 : Try.f24.body.isSome = true := by kernel_rfl
theorem bs25 : Try.f25.body.isSome = true := by kernel_rfl
theorem bs26 : Try.f26.body.isSome = true := by kernel_rfl
theorem bs27 : Try.f27.body.isSome = true := by kernel_rfl
theorem bs28 : Try.f28.body.isSome = true := by kernel_rfl
theorem bs29 : Try.f29.body.isSome = true := by kernel_rfl
theorem bs30 : Try.f30.body.isSome = true := by kernel_rfl
theorem bs31 : Try.f31.body.isSome = true := by kernel_rfl
theorem bs32 : Try.f32.body.isSome = true := by kernel_rfl
theorem bs33 : Try.f33.body.isSome = true := by kernel_rfl
theorem bs34 : Try.f34.body.isSome = true := by kernel_rfl
theorem bs35 : Try.f35.body.isSome = true := by kernel_rfl
theorem bs36 : Try.f36.body.isSome = true := by kernel_rfl
theorem bs37 : Try.f37.body.isSome = true := by kernel_rfl
theorem bs38 : Try.f38.body.isSome = true := by kernel_rfl
theorem bs39 : Try.f39.body.isSome = true := by kernel_rfl
theorem bs40 : Try.f40.body.isSome = true := by kernel_rfl
theorem bs41 : Try.f41.body.isSome = true := by kernel_rfl
theorem bs42 : Try.f42.body.isSome = true := by kernel_rfl
theorem bs43 : Try.f43.body.isSome = true := by kernel_rfl
theorem bs44 : Try.f44.body.isSome = true := by kernel_rfl
theorem bs45 : Try.f45.body.isSome = true := by kernel_rfl
theorem bs46 : Try.f46.body.isSome = true := by kernel_rfl
theorem bs47 : Try.f47.body.isSome = true := by kernel_rfl
theorem bs49 : Try.f49.body.isSome = true := by kernel_rfl
theorem bs50 : Try.f50.body.isSome = true := by kernel_rfl
theorem bs51 : Try.f51.body.isSome = true := by kernel_rfl
theorem bs52 : Try.f52.body.isSome = true := by kernel_rfl
theorem bs53 : Try.f53.body.isSome = true := by kernel_rfl
theorem bs54 : Try.f54.body.isSome = true := by kernel_rfl
theorem bs55 : Try.f55.body.isSome = true := by kernel_rfl
theorem bs56 : Try.f56.body.isSome = true := by kernel_rfl
theorem bs57 : Try.f57.body.isSome = true := by kernel_rfl
theorem bs58 : Try.f58.body.isSome = true := by kernel_rfl
theorem bs59 : Try.f59.body.isSome = true := by kernel_rfl
theorem bs60 : Try.f60.body.isSome = true := by kernel_rfl
theorem bs61 : Try.f61.body.isSome = true := by kernel_rfl
theorem bs62 : Try.f62.body.isSome = true := by kernel_rfl
theorem bs8 : Try.f8.body.isSome = true := by kernel_rfl
theorem bs9 : Try.f9.body.isSome = true := by kernel_rfl
theorem ce38 : Try.prog.cellsOf 38 = 1 := by kernel_rfl
theorem eg57 : Try.prog.eqGuardType Try.prog.depth 57 = false := by kernel_rfl
theorem in3 : (Try.prog.info? 3).map (fun i => (i.zero, i.size, i.bytes)) = some (some (.int .i64 0), 1, 8) := by kernel_rfl
theorem in49 : (Try.prog.info? 49).map (fun i => (i.zero, i.size, i.bytes)) = some (some (.int .u32 0), 1, 4) := by kernel_rfl
theorem in5 : (Try.prog.info? 5).map (fun i => (i.zero, i.size, i.bytes)) = some (some (.int .u8 0), 1, 1) := by kernel_rfl
theorem nm10 : (Try.f10.name == "runtime.NumGoroutine") = false := by kernel_rfl
theorem nm11 : (Try.f11.name == "runtime.NumGoroutine") = false := by kernel_rfl
theorem nm12 : (Try.f12.name == "runtime.NumGoroutine") = false := by kernel_rfl
theorem nm13 : (Try.f13.name == "runtime.NumGoroutine") = false := by kernel_rfl
theorem nm14 : (Try.f14.name == "runtime.NumGoroutine") = false := by kernel_rfl
theorem nm15 : (Try.f15.name == "runtime.NumGoroutine") = false := by kernel_rfl
theorem nm16 : (Try.f16.name == "runtime.NumGoroutine") = false := by kernel_rfl
theorem nm17 : (Try.f17.name == "runtime.NumGoroutine") = false := by kernel_rfl
theorem nm18 : (Try.f18.name == "runtime.NumGoroutine") = false := by kernel_rfl
theorem nm19 : (Try.f19.name == "runtime.NumGoroutine") = false := by kernel_rfl
theorem nm20 : (Try.f20.name == "runtime.NumGoroutine") = false := by kernel_rfl
theorem nm21 : (Try.f21.name == "runtime.NumGoroutine") = false := by kernel_rfl
theorem nm22 : (Try.f22.name == "runtime.NumGoroutine") = false := by kernel_rfl
theorem nm23 : (Try.f23.name == "runtime.NumGoroutine") = false := by kernel_rfl
theorem nm24 : (Try.f24.name == "runtime.NumGoroutine") = false := by kernel_rfl
theorem nm25 : (Try.f25.name == "runtime.NumGoroutine") = false := by kernel_rfl
theorem nm26 : (Try.f26.name == "runtime.NumGoroutine") = false := by kernel_rfl
theorem nm27 : (Try.f27.name == "runtime.NumGoroutine") = false := by kernel_rfl
theorem nm28 : (Try.f28.name == "runtime.NumGoroutine") = false := by kernel_rfl
theorem nm29 : (Try.f29.name == "runtime.NumGoroutine") = false := by kernel_rfl
theorem nm30 : (Try.f30.name == "runtime.NumGoroutine") = false := by kernel_rfl
theorem nm31 : (Try.f31.name == "runtime.NumGoroutine") = false := by kernel_rfl
theorem nm32 : (Try.f32.name == "runtime.NumGoroutine") = false := by kernel_rfl
theorem nm33 : (Try.f33.name == "runtime.NumGoroutine") = false := by kernel_rfl
theorem nm34 : (Try.f34.name == "runtime.NumGoroutine") = false := by kernel_rfl
theorem nm35 : (Try.f35.name == "runtime.NumGoroutine") = false := by kernel_rfl
theorem nm36 : (Try.f36.name == "runtime.NumGoroutine") = false := by kernel_rfl
theorem nm37 : (Try.f37.name == "runtime.NumGoroutine") = false := by kernel_rfl
theorem nm38 : (Try.f38.name == "runtime.NumGoroutine") = false := by kernel_rfl
theorem nm39 : (Try.f39.name == "runtime.NumGoroutine") = false := by kernel_rfl
theorem nm40 : (Try.f40.name == "runtime.NumGoroutine") = false := by kernel_rfl
theorem nm41 : (Try.f41.name == "runtime.NumGoroutine") = false := by kernel_rfl
theorem nm42 : (Try.f42.name == "runtime.NumGoroutine") = false := by kernel_rfl
theorem nm43 : (Try.f43.name == "runtime.NumGoroutine") = false := by kernel_rfl
theorem nm44 : (Try.f44.name == "runtime.NumGoroutine") = false := by kernel_rfl
theorem nm45 : (Try.f45.name == "runtime.NumGoroutine") = false := by kernel_rfl
theorem nm46 : (Try.f46.name == "runtime.NumGoroutine") = false := by kernel_rfl
theorem nm47 : (Try.f47.name == "runtime.NumGoroutine") = false := by kernel_rfl
theorem nm49 : (Try.f49.name == "runtime.NumGoroutine") = false := by kernel_rfl
theorem nm50 : (Try.f50.name == "runtime.NumGoroutine") = false := by kernel_rfl
theorem nm51 : (Try.f51.name == "runtime.NumGoroutine") = false := by kernel_rfl
theorem nm52 : (Try.f52.name == "runtime.NumGoroutine") = false := by kernel_rfl
theorem nm53 : (Try.f53.name == "runtime.NumGoroutine") = false := by kernel_rfl
theorem nm54 : (Try.f54.name == "runtime.NumGoroutine") = false := by kernel_rfl
theorem nm55 : (Try.f55.name == "runtime.NumGoroutine") = false := by kernel_rfl
theorem nm56 : (Try.f56.name == "runtime.NumGoroutine") = false := by kernel_rfl
theorem nm57 : (Try.f57.name == "runtime.NumGoroutine") = false := by kernel_rfl
theorem nm58 : (Try.f58.name == "runtime.NumGoroutine") = false := by kernel_rfl
theorem nm59 : (Try.f59.name == "runtime.NumGoroutine") = false := by kernel_rfl
theorem nm60 : (Try.f60.name == "runtime.NumGoroutine") = false := by kernel_rfl
theorem nm61 : (Try.f61.name == "runtime.NumGoroutine") = false := by kernel_rfl
theorem nm62 : (Try.f62.name == "runtime.NumGoroutine") = false := by kernel_rfl
theorem nm8 : (Try.f8.name == "runtime.NumGoroutine") = false := by kernel_rfl
theorem nm9 : (Try.f9.name == "runtime.NumGoroutine") = false := by kernel_rfl
theorem pk38 : Try.prog.plainKey 38 = true := by kernel_rfl
theorem sz22 : (Try.prog.info? 22).map (·.size) = some 1 := by kernel_rfl
theorem sz3 : (Try.prog.info? 3).map (·.size) = some 1 := by kernel_rfl
theorem sz38 : (Try.prog.info? 38).map (·.size) = some 1 := by kernel_rfl
theorem sz49 : (Try.prog.info? 49).map (·.size) = some 1 := by kernel_rfl
theorem sz5 : (Try.prog.info? 5).map (·.size) = some 1 := by kernel_rfl
theorem sz57 : (Try.prog.info? 57).map (·.size) = some 4 := by kernel_rfl
theorem sz58 : (Try.prog.info? 58).map (·.size) = some 12 := by kernel_rfl
theorem sz86 : (Try.prog.info? 86).map (·.size) = some 32 := by kernel_rfl
theorem xb48 : Try.f48.body.isNone = true := by kernel_rfl
theorem xb63 : Try.f63.body.isNone = true := by kernel_rfl
theorem xf48 : Extern.find Try.f48 = some (addE) := by kernel_rfl
theorem xf63 : Extern.find Try.f63 = some (subE) := by kernel_rfl
theorem xn48 : (Try.f48.name == "runtime.NumGoroutine") = false := by kernel_rfl
theorem xn63 : (Try.f63.name == "runtime.NumGoroutine") = false := by kernel_rfl
theorem xx48 : Extern.findNext Try.f48 = none := by kernel_rfl
theorem xx63 : Extern.findNext Try.f63 = none := by kernel_rfl
theorem ze57 : (Try.prog.info? 57).map (·.zero) = some (some (.agg (cV U64 (Vec.rep 4 0#64)).toArray)) := by kernel_rfl
theorem ze58 : (Try.prog.info? 58).map (·.zero) = some (some (.agg (cVV U64 (Vec.rep 3 (Vec.rep 4 0#64))).toArray)) := by kernel_rfl
theorem ze69 : (Try.prog.info? 69).map (·.zero) = some (some (.agg (cV U64 (Vec.rep 3 0#64)).toArray)) := by kernel_rfl
theorem ze74 : (Try.prog.info? 74).map (·.zero) = some (some (.agg (cV U8 (Vec.rep 32 0#8)).toArray)) := by kernel_rfl
theorem ze79 : (Try.prog.info? 79).map (·.zero) = some (some (.agg (cV U64 (Vec.rep 8 0#64)).toArray)) := by kernel_rfl
theorem ze86 : (Try.prog.info? 86).map (·.zero) = some (some (.agg (cV (Value.int .i64) (Vec.rep 32 0)).toArray)) := by kernel_rfl
end Go.Proofs.Ytccilbklafhjiaa
