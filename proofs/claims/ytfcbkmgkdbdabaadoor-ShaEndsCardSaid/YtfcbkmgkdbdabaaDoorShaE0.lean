/- The roots of the first primes, part 0, evaluated by the kernel. -/
import Derived.Test.YtfcbkmgkdbdabaaDoorShaD
namespace Go.Proofs.YtfcbkmgkdbdabaaDoor
theorem cube0 : rootF 2 true = some 1116352408#32 := by decide +kernel
theorem cube1 : rootF 3 true = some 1899447441#32 := by decide +kernel
theorem cube2 : rootF 5 true = some 3049323471#32 := by decide +kernel
theorem cube3 : rootF 7 true = some 3921009573#32 := by decide +kernel
theorem cube4 : rootF 11 true = some 961987163#32 := by decide +kernel
theorem cube5 : rootF 13 true = some 1508970993#32 := by decide +kernel
theorem cube6 : rootF 17 true = some 2453635748#32 := by decide +kernel
theorem cube7 : rootF 19 true = some 2870763221#32 := by decide +kernel
theorem cube8 : rootF 23 true = some 3624381080#32 := by decide +kernel
theorem cube9 : rootF 29 true = some 310598401#32 := by decide +kernel
theorem cube10 : rootF 31 true = some 607225278#32 := by decide +kernel
theorem cube11 : rootF 37 true = some 1426881987#32 := by decide +kernel
theorem cube12 : rootF 41 true = some 1925078388#32 := by decide +kernel
theorem cube13 : rootF 43 true = some 2162078206#32 := by decide +kernel
theorem cube14 : rootF 47 true = some 2614888103#32 := by decide +kernel
theorem cube15 : rootF 53 true = some 3248222580#32 := by decide +kernel
theorem square0 : rootF 2 false = some 1779033703#32 := by decide +kernel
theorem square1 : rootF 3 false = some 3144134277#32 := by decide +kernel
end Go.Proofs.YtfcbkmgkdbdabaaDoor
