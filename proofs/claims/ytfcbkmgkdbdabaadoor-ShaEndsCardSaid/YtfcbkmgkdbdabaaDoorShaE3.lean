/- The roots of the first primes, part 3, evaluated by the kernel. -/
import Derived.Test.YtfcbkmgkdbdabaaDoorShaD
namespace Go.Proofs.YtfcbkmgkdbdabaaDoor
theorem cube48 : rootF 227 true = some 430227734#32 := by decide +kernel
theorem cube49 : rootF 229 true = some 506948616#32 := by decide +kernel
theorem cube50 : rootF 233 true = some 659060556#32 := by decide +kernel
theorem cube51 : rootF 239 true = some 883997877#32 := by decide +kernel
theorem cube52 : rootF 241 true = some 958139571#32 := by decide +kernel
theorem cube53 : rootF 251 true = some 1322822218#32 := by decide +kernel
theorem cube54 : rootF 257 true = some 1537002063#32 := by decide +kernel
theorem cube55 : rootF 263 true = some 1747873779#32 := by decide +kernel
theorem cube56 : rootF 269 true = some 1955562222#32 := by decide +kernel
theorem cube57 : rootF 271 true = some 2024104815#32 := by decide +kernel
theorem cube58 : rootF 277 true = some 2227730452#32 := by decide +kernel
theorem cube59 : rootF 281 true = some 2361852424#32 := by decide +kernel
theorem cube60 : rootF 283 true = some 2428436474#32 := by decide +kernel
theorem cube61 : rootF 293 true = some 2756734187#32 := by decide +kernel
theorem cube62 : rootF 307 true = some 3204031479#32 := by decide +kernel
theorem cube63 : rootF 311 true = some 3329325298#32 := by decide +kernel
theorem square6 : rootF 17 false = some 528734635#32 := by decide +kernel
theorem square7 : rootF 19 false = some 1541459225#32 := by decide +kernel
end Go.Proofs.YtfcbkmgkdbdabaaDoor
