/- The roots of the first primes, part 2, evaluated by the kernel. -/
import Derived.Test.YtfcbkmgkdbdabaaDoorShaD
namespace Go.Proofs.YtfcbkmgkdbdabaaDoor
theorem cube32 : rootF 137 true = some 666307205#32 := by decide +kernel
theorem cube33 : rootF 139 true = some 773529912#32 := by decide +kernel
theorem cube34 : rootF 149 true = some 1294757372#32 := by decide +kernel
theorem cube35 : rootF 151 true = some 1396182291#32 := by decide +kernel
theorem cube36 : rootF 157 true = some 1695183700#32 := by decide +kernel
theorem cube37 : rootF 163 true = some 1986661051#32 := by decide +kernel
theorem cube38 : rootF 167 true = some 2177026350#32 := by decide +kernel
theorem cube39 : rootF 173 true = some 2456956037#32 := by decide +kernel
theorem cube40 : rootF 179 true = some 2730485921#32 := by decide +kernel
theorem cube41 : rootF 181 true = some 2820302411#32 := by decide +kernel
theorem cube42 : rootF 191 true = some 3259730800#32 := by decide +kernel
theorem cube43 : rootF 193 true = some 3345764771#32 := by decide +kernel
theorem cube44 : rootF 197 true = some 3516065817#32 := by decide +kernel
theorem cube45 : rootF 199 true = some 3600352804#32 := by decide +kernel
theorem cube46 : rootF 211 true = some 4094571909#32 := by decide +kernel
theorem cube47 : rootF 223 true = some 275423344#32 := by decide +kernel
theorem square4 : rootF 11 false = some 1359893119#32 := by decide +kernel
theorem square5 : rootF 13 false = some 2600822924#32 := by decide +kernel
end Go.Proofs.YtfcbkmgkdbdabaaDoor
