/- The roots of the first primes. -/
import Derived.Test.YtfcbkmgkdbdabaaDoorShaE0
import Derived.Test.YtfcbkmgkdbdabaaDoorShaE1
import Derived.Test.YtfcbkmgkdbdabaaDoorShaE2
import Derived.Test.YtfcbkmgkdbdabaaDoorShaE3
namespace Go.Proofs.YtfcbkmgkdbdabaaDoor
def primesL : List Int := [2, 3, 5, 7, 11, 13, 17, 19, 23, 29, 31, 37, 41, 43, 47, 53, 59, 61, 67, 71, 73, 79, 83, 89, 97, 101, 103, 107, 109, 113, 127, 131, 137, 139, 149, 151, 157, 163, 167, 173, 179, 181, 191, 193, 197, 199, 211, 223, 227, 229, 233, 239, 241, 251, 257, 263, 269, 271, 277, 281, 283, 293, 307, 311]
@[irreducible] def kL : List (BitVec 32) := [1116352408#32, 1899447441#32, 3049323471#32, 3921009573#32, 961987163#32, 1508970993#32, 2453635748#32, 2870763221#32, 3624381080#32, 310598401#32, 607225278#32, 1426881987#32, 1925078388#32, 2162078206#32, 2614888103#32, 3248222580#32, 3835390401#32, 4022224774#32, 264347078#32, 604807628#32, 770255983#32, 1249150122#32, 1555081692#32, 1996064986#32, 2554220882#32, 2821834349#32, 2952996808#32, 3210313671#32, 3336571891#32, 3584528711#32, 113926993#32, 338241895#32, 666307205#32, 773529912#32, 1294757372#32, 1396182291#32, 1695183700#32, 1986661051#32, 2177026350#32, 2456956037#32, 2730485921#32, 2820302411#32, 3259730800#32, 3345764771#32, 3516065817#32, 3600352804#32, 4094571909#32, 275423344#32, 430227734#32, 506948616#32, 659060556#32, 883997877#32, 958139571#32, 1322822218#32, 1537002063#32, 1747873779#32, 1955562222#32, 2024104815#32, 2227730452#32, 2361852424#32, 2428436474#32, 2756734187#32, 3204031479#32, 3329325298#32]
@[irreducible] def hL : List (BitVec 32) := [1779033703#32, 3144134277#32, 1013904242#32, 2773480762#32, 1359893119#32, 2600822924#32, 528734635#32, 1541459225#32]
theorem cubes : primesL.map (fun p => rootF p true) = kL.map some := by
  unfold kL
  simp only [primesL, List.map, cube0, cube1, cube2, cube3, cube4, cube5, cube6, cube7, cube8, cube9, cube10, cube11, cube12, cube13, cube14, cube15, cube16, cube17, cube18, cube19, cube20, cube21, cube22, cube23, cube24, cube25, cube26, cube27, cube28, cube29, cube30, cube31, cube32, cube33, cube34, cube35, cube36, cube37, cube38, cube39, cube40, cube41, cube42, cube43, cube44, cube45, cube46, cube47, cube48, cube49, cube50, cube51, cube52, cube53, cube54, cube55, cube56, cube57, cube58, cube59, cube60, cube61, cube62, cube63]
theorem squares : (primesL.take 8).map (fun p => rootF p false) = hL.map some := by
  unfold hL
  simp only [primesL, List.take, List.map, square0, square1, square2, square3, square4, square5, square6, square7]
theorem primes64 : PShaSums.smithyref06_Primes.f 4000 64 = some primesL := by decide +kernel
theorem cube_at (i : Nat) (h : i < 64) : rootF (primesL.getD i 0) true = some (rd kL i) := by
  have e := congrArg (fun l => l.getD i none) cubes
  have h1 : primesL.length = 64 := by decide
  have h2 : kL.length = 64 := by unfold kL; decide
  simp only [List.getD_eq_getElem?_getD, List.getElem?_map, List.getElem?_eq_getElem (show i < primesL.length by omega), List.getElem?_eq_getElem (show i < kL.length by omega), Option.map_some, Option.getD_some] at e ⊢
  rw [e]; simp [rd, List.getElem?_eq_getElem (show i < kL.length by omega)]
theorem square_at (i : Nat) (h : i < 8) : rootF (primesL.getD i 0) false = some (rd hL i) := by
  have e := congrArg (fun l => l.getD i none) squares
  have h1 : (primesL.take 8).length = 8 := by decide
  have h2 : hL.length = 8 := by unfold hL; decide
  have h3 : (primesL.take 8).getD i 0 = primesL.getD i 0 := by simp [List.getD_eq_getElem?_getD, h]
  rw [← h3]
  simp only [List.getD_eq_getElem?_getD, List.getElem?_map, List.getElem?_eq_getElem (show i < (primesL.take 8).length by omega), List.getElem?_eq_getElem (show i < hL.length by omega), Option.map_some, Option.getD_some] at e ⊢
  rw [e]; simp [rd, List.getElem?_eq_getElem (show i < hL.length by omega)]
end Go.Proofs.YtfcbkmgkdbdabaaDoor
