/- The roots of the first primes, part 1, evaluated by the kernel. -/
import Derived.Test.YtfcbkmgkdbdabaaDoorShaD
namespace Go.Proofs.YtfcbkmgkdbdabaaDoor
theorem cube16 : rootF 59 true = some 3835390401#32 := by decide +kernel
theorem cube17 : rootF 61 true = some 4022224774#32 := by decide +kernel
theorem cube18 : rootF 67 true = some 264347078#32 := by decide +kernel
theorem cube19 : rootF 71 true = some 604807628#32 := by decide +kernel
theorem cube20 : rootF 73 true = some 770255983#32 := by decide +kernel
theorem cube21 : rootF 79 true = some 1249150122#32 := by decide +kernel
theorem cube22 : rootF 83 true = some 1555081692#32 := by decide +kernel
theorem cube23 : rootF 89 true = some 1996064986#32 := by decide +kernel
theorem cube24 : rootF 97 true = some 2554220882#32 := by decide +kernel
theorem cube25 : rootF 101 true = some 2821834349#32 := by decide +kernel
theorem cube26 : rootF 103 true = some 2952996808#32 := by decide +kernel
theorem cube27 : rootF 107 true = some 3210313671#32 := by decide +kernel
theorem cube28 : rootF 109 true = some 3336571891#32 := by decide +kernel
theorem cube29 : rootF 113 true = some 3584528711#32 := by decide +kernel
theorem cube30 : rootF 127 true = some 113926993#32 := by decide +kernel
theorem cube31 : rootF 131 true = some 338241895#32 := by decide +kernel
theorem square2 : rootF 5 false = some 1013904242#32 := by decide +kernel
theorem square3 : rootF 7 false = some 2773480762#32 := by decide +kernel
end Go.Proofs.YtfcbkmgkdbdabaaDoor
