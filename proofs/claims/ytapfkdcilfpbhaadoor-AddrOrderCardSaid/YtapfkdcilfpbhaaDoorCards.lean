/-
  DERIVED. GIVEN WITH THE SEED: THE CARDS: each row of YtapfkdcilfpbhaaDoorRows.lean that lists a variable, with what it lists TIED to the program's text (the seventh form; the later family's looks); each row that meets fmt, with fmt's text TOLD by the authors' own Lean function (tested against real Go, not proved from fmt's source: count such statements apart). THE CARD IS WHAT COUNTS. Prove the row's statement (the work); the ties are given (YtapfkdcilfpbhaaDoorTie.lean); close each card by the builder's one call (the guide's Derived/Test/ToyasCard.lean, 'card_holds'). Laid BY PROGRAM, IN A SANDBOX (cutbox-door.mjs). By AI agents, Wed Nov 11 2026. No macro, syntax, notation, axiom, sorry.
-/
import Derived.Test.YtapfkdcilfpbhaaDoorRows
import GoSem.ClaimSeven
namespace Go.Proofs.YtapfkdcilfpbhaaDoor
namespace Rows

/-- THE TIED CARD OF 'smithylaw08.AddrSalts'. -/
def addrSaltsCard : Claim7 := { stood := { row := addrSaltsRow, standIns := [], harness := (true, "40b578c831fb6d7759ae0a1cd25ba701b295c5678f7a25b8d335cb31e8850c79"), looks := false }, kinds := [], alts := [], laidByText := true, laidKinds := [.data, .data, .data], laidTests := true, laidLooks := .later }
def AddrSaltsCardSaid : Prop := Claim7.holds Tryd.pinned (.plain (OpenSpec.ofChange addrSaltsSpec)) addrSaltsCard

/-- THE TIED CARD OF 'smithylaw08.AddrWords'. -/
def addrWordsCard : Claim7 := { stood := { row := addrWordsRow, standIns := [], harness := (true, "40b578c831fb6d7759ae0a1cd25ba701b295c5678f7a25b8d335cb31e8850c79"), looks := false }, kinds := [], alts := [], laidByText := true, laidKinds := [.data, .data, .data], laidTests := true, laidLooks := .later }
def AddrWordsCardSaid : Prop := Claim7.holds Tryd.pinned (.plain (OpenSpec.ofChange addrWordsSpec)) addrWordsCard

/-- THE TIED CARD OF 'smithylaw08.AddrOrder'. -/
def addrOrderCard : Claim7 := { stood := { row := addrOrderRow, standIns := [], harness := (true, "40b578c831fb6d7759ae0a1cd25ba701b295c5678f7a25b8d335cb31e8850c79"), looks := false }, kinds := [], alts := [], laidByText := true, laidKinds := [.data, .data, .data], laidTests := true, laidLooks := .later }
def AddrOrderCardSaid : Prop := Claim7.holds Tryd.pinned (.plain (OpenSpec.ofChange addrOrderSpec)) addrOrderCard

/-- THE TIED CARD OF 'smithylaw08.AddrCreates'. -/
def addrCreatesCard : Claim7 := { stood := { row := addrCreatesRow, standIns := [], harness := (true, "40b578c831fb6d7759ae0a1cd25ba701b295c5678f7a25b8d335cb31e8850c79"), looks := false }, kinds := [], alts := [], laidByText := true, laidKinds := [.data, .data, .data], laidTests := true, laidLooks := .later }
def AddrCreatesCardSaid : Prop := Claim7.holds Tryd.pinned (.plain (OpenSpec.ofChange addrCreatesSpec)) addrCreatesCard

/-- THE TIED CARD OF 'smithylaw19.TxHashes'. -/
def txHashesCard : Claim7 := { stood := { row := txHashesRow, standIns := [], harness := (true, "40b578c831fb6d7759ae0a1cd25ba701b295c5678f7a25b8d335cb31e8850c79"), looks := false }, kinds := [], alts := [], laidByText := true, laidKinds := [.data, .data, .data], laidTests := true, laidLooks := .later }
def TxHashesCardSaid : Prop := Claim7.holds Tryd.pinned (.plain (OpenSpec.ofChange txHashesSpec)) txHashesCard

/-- THE TIED CARD OF 'smithylaw23.BlockHashes'. -/
def blockHashesCard : Claim7 := { stood := { row := blockHashesRow, standIns := [], harness := (true, "40b578c831fb6d7759ae0a1cd25ba701b295c5678f7a25b8d335cb31e8850c79"), looks := false }, kinds := [], alts := [], laidByText := true, laidKinds := [.data, .data, .data], laidTests := true, laidLooks := .later }
def BlockHashesCardSaid : Prop := Claim7.holds Tryd.pinned (.plain (OpenSpec.ofChange blockHashesSpec)) blockHashesCard

/-- THE TIED CARD OF 'smithylaw23.BlockReceipts'. -/
def blockReceiptsCard : Claim7 := { stood := { row := blockReceiptsRow, standIns := [], harness := (true, "40b578c831fb6d7759ae0a1cd25ba701b295c5678f7a25b8d335cb31e8850c79"), looks := false }, kinds := [], alts := [], laidByText := true, laidKinds := [.data, .data, .data], laidTests := true, laidLooks := .later }
def BlockReceiptsCardSaid : Prop := Claim7.holds Tryd.pinned (.plain (OpenSpec.ofChange blockReceiptsSpec)) blockReceiptsCard

/-- THE TIED CARD OF 'smithylaw23.BlockNext'. -/
def blockNextCard : Claim7 := { stood := { row := blockNextRow, standIns := [], harness := (true, "40b578c831fb6d7759ae0a1cd25ba701b295c5678f7a25b8d335cb31e8850c79"), looks := false }, kinds := [], alts := [], laidByText := true, laidKinds := [.data, .data, .data], laidTests := true, laidLooks := .later }
def BlockNextCardSaid : Prop := Claim7.holds Tryd.pinned (.plain (OpenSpec.ofChange blockNextSpec)) blockNextCard

/-- THE SECOND FORM's CARD OF 'smithylaw08.AddrSalts'. -/
def addrSaltsUptoCard : Claim7 := { stood := { row := addrSaltsUptoRow, standIns := [], harness := (true, "40b578c831fb6d7759ae0a1cd25ba701b295c5678f7a25b8d335cb31e8850c79"), looks := false }, kinds := [], alts := [], laidByText := true, laidKinds := [.data, .data, .data], laidTests := true, laidLooks := .later }
def AddrSaltsUptoCardSaid : Prop := Claim7.holds Tryd.pinned (.plain (OpenSpec.upto addrSaltsSpec)) addrSaltsUptoCard

/-- THE SECOND FORM's CARD OF 'smithylaw08.AddrWords'. -/
def addrWordsUptoCard : Claim7 := { stood := { row := addrWordsUptoRow, standIns := [], harness := (true, "40b578c831fb6d7759ae0a1cd25ba701b295c5678f7a25b8d335cb31e8850c79"), looks := false }, kinds := [], alts := [], laidByText := true, laidKinds := [.data, .data, .data], laidTests := true, laidLooks := .later }
def AddrWordsUptoCardSaid : Prop := Claim7.holds Tryd.pinned (.plain (OpenSpec.upto addrWordsSpec)) addrWordsUptoCard

/-- THE SECOND FORM's CARD OF 'smithylaw08.AddrOrder'. -/
def addrOrderUptoCard : Claim7 := { stood := { row := addrOrderUptoRow, standIns := [], harness := (true, "40b578c831fb6d7759ae0a1cd25ba701b295c5678f7a25b8d335cb31e8850c79"), looks := false }, kinds := [], alts := [], laidByText := true, laidKinds := [.data, .data, .data], laidTests := true, laidLooks := .later }
def AddrOrderUptoCardSaid : Prop := Claim7.holds Tryd.pinned (.plain (OpenSpec.upto addrOrderSpec)) addrOrderUptoCard

/-- THE SECOND FORM's CARD OF 'smithylaw08.AddrCreates'. -/
def addrCreatesUptoCard : Claim7 := { stood := { row := addrCreatesUptoRow, standIns := [], harness := (true, "40b578c831fb6d7759ae0a1cd25ba701b295c5678f7a25b8d335cb31e8850c79"), looks := false }, kinds := [], alts := [], laidByText := true, laidKinds := [.data, .data, .data], laidTests := true, laidLooks := .later }
def AddrCreatesUptoCardSaid : Prop := Claim7.holds Tryd.pinned (.plain (OpenSpec.upto addrCreatesSpec)) addrCreatesUptoCard

/-- THE SECOND FORM's CARD OF 'smithylaw19.TxHashes'. -/
def txHashesUptoCard : Claim7 := { stood := { row := txHashesUptoRow, standIns := [], harness := (true, "40b578c831fb6d7759ae0a1cd25ba701b295c5678f7a25b8d335cb31e8850c79"), looks := false }, kinds := [], alts := [], laidByText := true, laidKinds := [.data, .data, .data], laidTests := true, laidLooks := .later }
def TxHashesUptoCardSaid : Prop := Claim7.holds Tryd.pinned (.plain (OpenSpec.upto txHashesSpec)) txHashesUptoCard

/-- THE SECOND FORM's CARD OF 'smithylaw23.BlockHashes'. -/
def blockHashesUptoCard : Claim7 := { stood := { row := blockHashesUptoRow, standIns := [], harness := (true, "40b578c831fb6d7759ae0a1cd25ba701b295c5678f7a25b8d335cb31e8850c79"), looks := false }, kinds := [], alts := [], laidByText := true, laidKinds := [.data, .data, .data], laidTests := true, laidLooks := .later }
def BlockHashesUptoCardSaid : Prop := Claim7.holds Tryd.pinned (.plain (OpenSpec.upto blockHashesSpec)) blockHashesUptoCard

/-- THE SECOND FORM's CARD OF 'smithylaw23.BlockReceipts'. -/
def blockReceiptsUptoCard : Claim7 := { stood := { row := blockReceiptsUptoRow, standIns := [], harness := (true, "40b578c831fb6d7759ae0a1cd25ba701b295c5678f7a25b8d335cb31e8850c79"), looks := false }, kinds := [], alts := [], laidByText := true, laidKinds := [.data, .data, .data], laidTests := true, laidLooks := .later }
def BlockReceiptsUptoCardSaid : Prop := Claim7.holds Tryd.pinned (.plain (OpenSpec.upto blockReceiptsSpec)) blockReceiptsUptoCard

/-- THE SECOND FORM's CARD OF 'smithylaw23.BlockNext'. -/
def blockNextUptoCard : Claim7 := { stood := { row := blockNextUptoRow, standIns := [], harness := (true, "40b578c831fb6d7759ae0a1cd25ba701b295c5678f7a25b8d335cb31e8850c79"), looks := false }, kinds := [], alts := [], laidByText := true, laidKinds := [.data, .data, .data], laidTests := true, laidLooks := .later }
def BlockNextUptoCardSaid : Prop := Claim7.holds Tryd.pinned (.plain (OpenSpec.upto blockNextSpec)) blockNextUptoCard
end Rows
end Go.Proofs.YtapfkdcilfpbhaaDoor
