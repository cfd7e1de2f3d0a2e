/- Facts of the program's types and functions, printed by walk.py. -/
import Derived.Test.YtapfkdcilfpbhaaDoorExt
namespace Go.Proofs.YtapfkdcilfpbhaaDoor
open Go.RowKit
set_option linter.unusedVariables false
set_option linter.unusedSimpArgs false
theorem bs11 : Tryd.f11.body.isSome = true := by kernel_rfl
theorem bs113 : Tryd.f113.body.isSome = true := by kernel_rfl
theorem bs114 : Tryd.f114.body.isSome = true := by kernel_rfl
theorem bs115 : Tryd.f115.body.isSome = true := by kernel_rfl
theorem bs12 : Tryd.f12.body.isSome = true := by kernel_rfl
theorem bs13 : Tryd.f13.body.isSome = true := by kernel_rfl
theorem bs132 : Tryd.f132.body.isSome = true := by kernel_rfl
theorem bs133 : Tryd.f133.body.isSome = true := by kernel_rfl
theorem bs137 : Tryd.f137.body.isSome = true := by kernel_rfl
theorem bs14 : Tryd.f14.body.isSome = true := by kernel_rfl
theorem bs15 : Tryd.f15.body.isSome = true := by kernel_rfl
theorem bs16 : Tryd.f16.body.isSome = true := by kernel_rfl
theorem bs17 : Tryd.f17.body.isSome = true := by kernel_rfl
theorem bs18 : Tryd.f18.body.isSome = true := by kernel_rfl
theorem bs19 : Tryd.f19.body.isSome = true := by kernel_rfl
theorem bs20 : Tryd.f20.body.isSome = true := by kernel_rfl
theorem bs21 : Tryd.f21.body.isSome = true := by kernel_rfl
theorem bs44 : Tryd.f44.body.isSome = true := by kernel_rfl
theorem bs45 : Tryd.f45.body.isSome = true := by kernel_rfl
theorem bs46 : Tryd.f46.body.isSome = true := by kernel_rfl
theorem bs47 : Tryd.f47.body.isSome = true := by kernel_rfl
theorem bs48 : Tryd.f48.body.isSome = true := by kernel_rfl
theorem bs49 : Tryd.f49.body.isSome = true := by kernel_rfl
theorem bs50 : Tryd.f50.body.isSome = true := by kernel_rfl
theorem bs51 : Tryd.f51.body.isSome = true := by kernel_rfl
theorem bs52 : Tryd.f52.body.isSome = true := by kernel_rfl
theorem bs53 : Tryd.f53.body.isSome = true := by kernel_rfl
theorem bs54 : Tryd.f54.body.isSome = true := by kernel_rfl
theorem bs55 : Tryd.f55.body.isSome = true := by kernel_rfl
theorem bs89 : Tryd.f89.body.isSome = true := by kernel_rfl
theorem bs90 : Tryd.f90.body.isSome = true := by kernel_rfl
theorem ce24 : Tryd.prog.cellsOf 24 = 1 := by kernel_rfl
theorem ce5 : Tryd.prog.cellsOf 5 = 1 := by kernel_rfl
theorem eg23 : Tryd.prog.eqGuardType Tryd.prog.depth 23 = false := by kernel_rfl
theorem eg26 : Tryd.prog.eqGuardType Tryd.prog.depth 26 = false := by kernel_rfl
theorem in5 : (Tryd.prog.info? 5).map (fun i => (i.zero, i.size, i.bytes)) = some (some (.int .u8 0), 1, 1) := by kernel_rfl
theorem nm11 : (Tryd.f11.name == "runtime.NumGoroutine") = false := by kernel_rfl
theorem nm113 : (Tryd.f113.name == "runtime.NumGoroutine") = false := by kernel_rfl
theorem nm114 : (Tryd.f114.name == "runtime.NumGoroutine") = false := by kernel_rfl
theorem nm115 : (Tryd.f115.name == "runtime.NumGoroutine") = false := by kernel_rfl
theorem nm12 : (Tryd.f12.name == "runtime.NumGoroutine") = false := by kernel_rfl
theorem nm13 : (Tryd.f13.name == "runtime.NumGoroutine") = false := by kernel_rfl
theorem nm132 : (Tryd.f132.name == "runtime.NumGoroutine") = false := by kernel_rfl
theorem nm133 : (Tryd.f133.name == "runtime.NumGoroutine") = false := by kernel_rfl
theorem nm137 : (Tryd.f137.name == "runtime.NumGoroutine") = false := by kernel_rfl
theorem nm14 : (Tryd.f14.name == "runtime.NumGoroutine") = false := by kernel_rfl
theorem nm15 : (Tryd.f15.name == "runtime.NumGoroutine") = false := by kernel_rfl
theorem nm16 : (Tryd.f16.name == "runtime.NumGoroutine") = false := by kernel_rfl
theorem nm17 : (Tryd.f17.name == "runtime.NumGoroutine") = false := by kernel_rfl
theorem nm18 : (Tryd.f18.name == "runtime.NumGoroutine") = false := by kernel_rfl
theorem nm19 : (Tryd.f19.name == "runtime.NumGoroutine") = false := by kernel_rfl
theorem nm20 : (Tryd.f20.name == "runtime.NumGoroutine") = false := by kernel_rfl
theorem nm21 : (Tryd.f21.name == "runtime.NumGoroutine") = false := by kernel_rfl
theorem nm44 : (Tryd.f44.name == "runtime.NumGoroutine") = false := by kernel_rfl
theorem nm45 : (Tryd.f45.name == "runtime.NumGoroutine") = false := by kernel_rfl
theorem nm46 : (Tryd.f46.name == "runtime.NumGoroutine") = false := by kernel_rfl
theorem nm47 : (Tryd.f47.name == "runtime.NumGoroutine") = false := by kernel_rfl
theorem nm48 : (Tryd.f48.name == "runtime.NumGoroutine") = false := by kernel_rfl
theorem nm49 : (Tryd.f49.name == "runtime.NumGoroutine") = false := by kernel_rfl
theorem nm50 : (Tryd.f50.name == "runtime.NumGoroutine") = false := by kernel_rfl
theorem nm51 : (Tryd.f51.name == "runtime.NumGoroutine") = false := by kernel_rfl
theorem nm52 : (Tryd.f52.name == "runtime.NumGoroutine") = false := by kernel_rfl
theorem nm53 : (Tryd.f53.name == "runtime.NumGoroutine") = false := by kernel_rfl
theorem nm54 : (Tryd.f54.name == "runtime.NumGoroutine") = false := by kernel_rfl
theorem nm55 : (Tryd.f55.name == "runtime.NumGoroutine") = false := by kernel_rfl
theorem nm89 : (Tryd.f89.name == "runtime.NumGoroutine") = false := by kernel_rfl
theorem nm90 : (Tryd.f90.name == "runtime.NumGoroutine") = false := by kernel_rfl
theorem pk24 : Tryd.prog.plainKey 24 = true := by kernel_rfl
theorem pk5 : Tryd.prog.plainKey 5 = true := by kernel_rfl
theorem sz115 : (Tryd.prog.info? 115).map (·.size) = some 25 := by kernel_rfl
theorem sz141 : (Tryd.prog.info? 141).map (·.size) = some 24 := by kernel_rfl
theorem sz161 : (Tryd.prog.info? 161).map (·.size) = some 5 := by kernel_rfl
theorem sz166 : (Tryd.prog.info? 166).map (·.size) = some 24 := by kernel_rfl
theorem sz23 : (Tryd.prog.info? 23).map (·.size) = some 20 := by kernel_rfl
theorem sz24 : (Tryd.prog.info? 24).map (·.size) = some 1 := by kernel_rfl
theorem sz26 : (Tryd.prog.info? 26).map (·.size) = some 4 := by kernel_rfl
theorem sz3 : (Tryd.prog.info? 3).map (·.size) = some 1 := by kernel_rfl
theorem sz46 : (Tryd.prog.info? 46).map (·.size) = some 32 := by kernel_rfl
theorem sz47 : (Tryd.prog.info? 47).map (·.size) = some 32 := by kernel_rfl
theorem sz5 : (Tryd.prog.info? 5).map (·.size) = some 1 := by kernel_rfl
theorem sz75 : (Tryd.prog.info? 75).map (·.size) = some 32 := by kernel_rfl
theorem xb91 : Tryd.f91.body.isNone = true := by kernel_rfl
theorem xf91 : Extern.find Tryd.f91 = some (Extern.BytealgCompare.compare) := by kernel_rfl
theorem xn91 : (Tryd.f91.name == "runtime.NumGoroutine") = false := by kernel_rfl
theorem xx91 : Extern.findNext Tryd.f91 = none := by kernel_rfl
theorem ze115 : (Tryd.prog.info? 115).map (·.zero) = some (some (.agg (cV U64 (Vec.rep 25 0#64)).toArray)) := by kernel_rfl
theorem ze117 : (Tryd.prog.info? 117).map (·.zero) = some (some (.agg (cV U8 (Vec.rep 136 0#8)).toArray)) := by kernel_rfl
theorem ze141 : (Tryd.prog.info? 141).map (·.zero) = some (some (.agg (cV U64 (Vec.rep 24 0#64)).toArray)) := by kernel_rfl
theorem ze161 : (Tryd.prog.info? 161).map (·.zero) = some (some (.agg (cV U64 (Vec.rep 5 0#64)).toArray)) := by kernel_rfl
theorem ze23 : (Tryd.prog.info? 23).map (·.zero) = some (some (.agg (cV U8 (Vec.rep 20 0#8)).toArray)) := by kernel_rfl
theorem ze26 : (Tryd.prog.info? 26).map (·.zero) = some (some (.agg (cV U64 (Vec.rep 4 0#64)).toArray)) := by kernel_rfl
theorem ze46 : (Tryd.prog.info? 46).map (·.zero) = some (some (.agg (cV U8 (Vec.rep 32 0#8)).toArray)) := by kernel_rfl
theorem ze47 : (Tryd.prog.info? 47).map (·.zero) = some (some (.agg (cV U8 (Vec.rep 32 0#8)).toArray)) := by kernel_rfl
theorem ze75 : (Tryd.prog.info? 75).map (·.zero) = some (some (.agg (cV (Value.int .i64) (Vec.rep 32 0)).toArray)) := by kernel_rfl
end Go.Proofs.YtapfkdcilfpbhaaDoor
