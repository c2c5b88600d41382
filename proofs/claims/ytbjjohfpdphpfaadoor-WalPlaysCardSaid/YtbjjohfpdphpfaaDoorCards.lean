/-
  DERIVED. GIVEN WITH THE SEED: THE CARDS: each row of YtbjjohfpdphpfaaDoorRows.lean that lists a variable, with what it lists TIED to the program's text (the seventh form; the later family's looks); each row that meets fmt, with fmt's text TOLD by the authors' own Lean function (tested against real Go, not proved from fmt's source: count such statements apart). THE CARD IS WHAT COUNTS. Prove the row's statement (the work); the ties are given (YtbjjohfpdphpfaaDoorTie.lean); close each card by the builder's one call (the guide's Derived/Test/ToyasCard.lean, 'card_holds'). Laid BY PROGRAM, IN A SANDBOX (cutbox-door.mjs). By AI agents, Wed Nov 11 2026. No macro, syntax, notation, axiom, sorry.
-/
import Derived.Test.YtbjjohfpdphpfaaDoorRows
import GoSem.ClaimSeven
namespace Go.Proofs.YtbjjohfpdphpfaaDoor
namespace Rows

/-- THE TIED CARD OF 'osierlaw06.KeysBetween'. -/
def keysBetweenCard : Claim7 := { stood := { row := keysBetweenRow, standIns := [], harness := (true, "9466c45201b3af1cc4f064cd8b03b5cafeddecd1cefed806a77467514aed77c6"), looks := false }, kinds := [], alts := [], laidByText := true, laidKinds := [.data, .pinned], laidTests := true, laidLooks := .later }
def KeysBetweenCardSaid : Prop := Claim7.holds Tryd.pinned (.plain (OpenSpec.ofChange keysBetweenSpec)) keysBetweenCard

/-- THE TIED CARD OF 'osierlaw06.KeysDense'. -/
def keysDenseCard : Claim7 := { stood := { row := keysDenseRow, standIns := [], harness := (true, "9466c45201b3af1cc4f064cd8b03b5cafeddecd1cefed806a77467514aed77c6"), looks := false }, kinds := [], alts := [], laidByText := true, laidKinds := [.data, .pinned], laidTests := true, laidLooks := .later }
def KeysDenseCardSaid : Prop := Claim7.holds Tryd.pinned (.plain (OpenSpec.ofChange keysDenseSpec)) keysDenseCard

/-- THE TIED CARD OF 'osierlaw06.KeysStarts'. -/
def keysStartsCard : Claim7 := { stood := { row := keysStartsRow, standIns := [], harness := (true, "9466c45201b3af1cc4f064cd8b03b5cafeddecd1cefed806a77467514aed77c6"), looks := false }, kinds := [], alts := [], laidByText := true, laidKinds := [.data, .pinned], laidTests := true, laidLooks := .later }
def KeysStartsCardSaid : Prop := Claim7.holds Tryd.pinned (.plain (OpenSpec.ofChange keysStartsSpec)) keysStartsCard

/-- THE TIED CARD OF 'osierlaw06.KeysOne'. -/
def keysOneCard : Claim7 := { stood := { row := keysOneRow, standIns := [], harness := (true, "9466c45201b3af1cc4f064cd8b03b5cafeddecd1cefed806a77467514aed77c6"), looks := false }, kinds := [], alts := [], laidByText := true, laidKinds := [.data, .pinned], laidTests := true, laidLooks := .later }
def KeysOneCardSaid : Prop := Claim7.holds Tryd.pinned (.plain (OpenSpec.ofChange keysOneSpec)) keysOneCard

/-- THE TIED CARD OF 'osierlaw06.KeysRow'. -/
def keysRowCard : Claim7 := { stood := { row := keysRowRow, standIns := [], harness := (true, "9466c45201b3af1cc4f064cd8b03b5cafeddecd1cefed806a77467514aed77c6"), looks := false }, kinds := [], alts := [], laidByText := true, laidKinds := [.data, .pinned], laidTests := true, laidLooks := .later }
def KeysRowCardSaid : Prop := Claim7.holds Tryd.pinned (.plain (OpenSpec.ofChange keysRowSpec)) keysRowCard

/-- THE TIED CARD OF 'osierlaw06.KeysRises'. -/
def keysRisesCard : Claim7 := { stood := { row := keysRisesRow, standIns := [], harness := (true, "9466c45201b3af1cc4f064cd8b03b5cafeddecd1cefed806a77467514aed77c6"), looks := false }, kinds := [], alts := [], laidByText := true, laidKinds := [.data, .pinned], laidTests := true, laidLooks := .later }
def KeysRisesCardSaid : Prop := Claim7.holds Tryd.pinned (.plain (OpenSpec.ofChange keysRisesSpec)) keysRisesCard

/-- THE TIED CARD OF 'osierlaw18.DiskSure'. -/
def diskSureCard : Claim7 := { stood := { row := diskSureRow, standIns := [], harness := (true, "9466c45201b3af1cc4f064cd8b03b5cafeddecd1cefed806a77467514aed77c6"), looks := false }, kinds := [], alts := [], laidByText := true, laidKinds := [.data, .pinned], laidTests := true, laidLooks := .later }
def DiskSureCardSaid : Prop := Claim7.holds Tryd.pinned (.plain (OpenSpec.ofChange diskSureSpec)) diskSureCard

/-- THE TIED CARD OF 'osierlaw18.DiskRename'. -/
def diskRenameCard : Claim7 := { stood := { row := diskRenameRow, standIns := [], harness := (true, "9466c45201b3af1cc4f064cd8b03b5cafeddecd1cefed806a77467514aed77c6"), looks := false }, kinds := [], alts := [], laidByText := true, laidKinds := [.data, .pinned], laidTests := true, laidLooks := .later }
def DiskRenameCardSaid : Prop := Claim7.holds Tryd.pinned (.plain (OpenSpec.ofChange diskRenameSpec)) diskRenameCard

/-- THE TIED CARD OF 'osierlaw19.WalReads'. -/
def walReadsCard : Claim7 := { stood := { row := walReadsRow, standIns := [], harness := (true, "9466c45201b3af1cc4f064cd8b03b5cafeddecd1cefed806a77467514aed77c6"), looks := false }, kinds := [], alts := [], laidByText := true, laidKinds := [.data, .pinned], laidTests := true, laidLooks := .later }
def WalReadsCardSaid : Prop := Claim7.holds Tryd.pinned (.plain (OpenSpec.ofChange walReadsSpec)) walReadsCard

/-- THE TIED CARD OF 'osierlaw19.WalPlays'. -/
def walPlaysCard : Claim7 := { stood := { row := walPlaysRow, standIns := [], harness := (true, "9466c45201b3af1cc4f064cd8b03b5cafeddecd1cefed806a77467514aed77c6"), looks := false }, kinds := [], alts := [], laidByText := true, laidKinds := [.data, .pinned], laidTests := true, laidLooks := .later }
def WalPlaysCardSaid : Prop := Claim7.holds Tryd.pinned (.plain (OpenSpec.ofChange walPlaysSpec)) walPlaysCard

/-- THE TIED CARD OF 'osierlaw19.WalTail'. -/
def walTailCard : Claim7 := { stood := { row := walTailRow, standIns := [], harness := (true, "9466c45201b3af1cc4f064cd8b03b5cafeddecd1cefed806a77467514aed77c6"), looks := false }, kinds := [], alts := [], laidByText := true, laidKinds := [.data, .pinned], laidTests := true, laidLooks := .later }
def WalTailCardSaid : Prop := Claim7.holds Tryd.pinned (.plain (OpenSpec.ofChange walTailSpec)) walTailCard

/-- THE TIED CARD OF 'osierlaw19.WalNone'. -/
def walNoneCard : Claim7 := { stood := { row := walNoneRow, standIns := [], harness := (true, "9466c45201b3af1cc4f064cd8b03b5cafeddecd1cefed806a77467514aed77c6"), looks := false }, kinds := [], alts := [], laidByText := true, laidKinds := [.data, .pinned], laidTests := true, laidLooks := .later }
def WalNoneCardSaid : Prop := Claim7.holds Tryd.pinned (.plain (OpenSpec.ofChange walNoneSpec)) walNoneCard

/-- THE SECOND FORM's CARD OF 'osierlaw06.KeysBetween'. -/
def keysBetweenUptoCard : Claim7 := { stood := { row := keysBetweenUptoRow, standIns := [], harness := (true, "9466c45201b3af1cc4f064cd8b03b5cafeddecd1cefed806a77467514aed77c6"), looks := false }, kinds := [], alts := [], laidByText := true, laidKinds := [.data, .pinned], laidTests := true, laidLooks := .later }
def KeysBetweenUptoCardSaid : Prop := Claim7.holds Tryd.pinned (.plain (OpenSpec.upto keysBetweenSpec)) keysBetweenUptoCard

/-- THE SECOND FORM's CARD OF 'osierlaw06.KeysDense'. -/
def keysDenseUptoCard : Claim7 := { stood := { row := keysDenseUptoRow, standIns := [], harness := (true, "9466c45201b3af1cc4f064cd8b03b5cafeddecd1cefed806a77467514aed77c6"), looks := false }, kinds := [], alts := [], laidByText := true, laidKinds := [.data, .pinned], laidTests := true, laidLooks := .later }
def KeysDenseUptoCardSaid : Prop := Claim7.holds Tryd.pinned (.plain (OpenSpec.upto keysDenseSpec)) keysDenseUptoCard

/-- THE SECOND FORM's CARD OF 'osierlaw06.KeysStarts'. -/
def keysStartsUptoCard : Claim7 := { stood := { row := keysStartsUptoRow, standIns := [], harness := (true, "9466c45201b3af1cc4f064cd8b03b5cafeddecd1cefed806a77467514aed77c6"), looks := false }, kinds := [], alts := [], laidByText := true, laidKinds := [.data, .pinned], laidTests := true, laidLooks := .later }
def KeysStartsUptoCardSaid : Prop := Claim7.holds Tryd.pinned (.plain (OpenSpec.upto keysStartsSpec)) keysStartsUptoCard

/-- THE SECOND FORM's CARD OF 'osierlaw06.KeysOne'. -/
def keysOneUptoCard : Claim7 := { stood := { row := keysOneUptoRow, standIns := [], harness := (true, "9466c45201b3af1cc4f064cd8b03b5cafeddecd1cefed806a77467514aed77c6"), looks := false }, kinds := [], alts := [], laidByText := true, laidKinds := [.data, .pinned], laidTests := true, laidLooks := .later }
def KeysOneUptoCardSaid : Prop := Claim7.holds Tryd.pinned (.plain (OpenSpec.upto keysOneSpec)) keysOneUptoCard

/-- THE SECOND FORM's CARD OF 'osierlaw06.KeysRow'. -/
def keysRowUptoCard : Claim7 := { stood := { row := keysRowUptoRow, standIns := [], harness := (true, "9466c45201b3af1cc4f064cd8b03b5cafeddecd1cefed806a77467514aed77c6"), looks := false }, kinds := [], alts := [], laidByText := true, laidKinds := [.data, .pinned], laidTests := true, laidLooks := .later }
def KeysRowUptoCardSaid : Prop := Claim7.holds Tryd.pinned (.plain (OpenSpec.upto keysRowSpec)) keysRowUptoCard

/-- THE SECOND FORM's CARD OF 'osierlaw06.KeysRises'. -/
def keysRisesUptoCard : Claim7 := { stood := { row := keysRisesUptoRow, standIns := [], harness := (true, "9466c45201b3af1cc4f064cd8b03b5cafeddecd1cefed806a77467514aed77c6"), looks := false }, kinds := [], alts := [], laidByText := true, laidKinds := [.data, .pinned], laidTests := true, laidLooks := .later }
def KeysRisesUptoCardSaid : Prop := Claim7.holds Tryd.pinned (.plain (OpenSpec.upto keysRisesSpec)) keysRisesUptoCard

/-- THE SECOND FORM's CARD OF 'osierlaw18.DiskSure'. -/
def diskSureUptoCard : Claim7 := { stood := { row := diskSureUptoRow, standIns := [], harness := (true, "9466c45201b3af1cc4f064cd8b03b5cafeddecd1cefed806a77467514aed77c6"), looks := false }, kinds := [], alts := [], laidByText := true, laidKinds := [.data, .pinned], laidTests := true, laidLooks := .later }
def DiskSureUptoCardSaid : Prop := Claim7.holds Tryd.pinned (.plain (OpenSpec.upto diskSureSpec)) diskSureUptoCard

/-- THE SECOND FORM's CARD OF 'osierlaw18.DiskRename'. -/
def diskRenameUptoCard : Claim7 := { stood := { row := diskRenameUptoRow, standIns := [], harness := (true, "9466c45201b3af1cc4f064cd8b03b5cafeddecd1cefed806a77467514aed77c6"), looks := false }, kinds := [], alts := [], laidByText := true, laidKinds := [.data, .pinned], laidTests := true, laidLooks := .later }
def DiskRenameUptoCardSaid : Prop := Claim7.holds Tryd.pinned (.plain (OpenSpec.upto diskRenameSpec)) diskRenameUptoCard

/-- THE SECOND FORM's CARD OF 'osierlaw19.WalReads'. -/
def walReadsUptoCard : Claim7 := { stood := { row := walReadsUptoRow, standIns := [], harness := (true, "9466c45201b3af1cc4f064cd8b03b5cafeddecd1cefed806a77467514aed77c6"), looks := false }, kinds := [], alts := [], laidByText := true, laidKinds := [.data, .pinned], laidTests := true, laidLooks := .later }
def WalReadsUptoCardSaid : Prop := Claim7.holds Tryd.pinned (.plain (OpenSpec.upto walReadsSpec)) walReadsUptoCard

/-- THE SECOND FORM's CARD OF 'osierlaw19.WalPlays'. -/
def walPlaysUptoCard : Claim7 := { stood := { row := walPlaysUptoRow, standIns := [], harness := (true, "9466c45201b3af1cc4f064cd8b03b5cafeddecd1cefed806a77467514aed77c6"), looks := false }, kinds := [], alts := [], laidByText := true, laidKinds := [.data, .pinned], laidTests := true, laidLooks := .later }
def WalPlaysUptoCardSaid : Prop := Claim7.holds Tryd.pinned (.plain (OpenSpec.upto walPlaysSpec)) walPlaysUptoCard

/-- THE SECOND FORM's CARD OF 'osierlaw19.WalTail'. -/
def walTailUptoCard : Claim7 := { stood := { row := walTailUptoRow, standIns := [], harness := (true, "9466c45201b3af1cc4f064cd8b03b5cafeddecd1cefed806a77467514aed77c6"), looks := false }, kinds := [], alts := [], laidByText := true, laidKinds := [.data, .pinned], laidTests := true, laidLooks := .later }
def WalTailUptoCardSaid : Prop := Claim7.holds Tryd.pinned (.plain (OpenSpec.upto walTailSpec)) walTailUptoCard

/-- THE SECOND FORM's CARD OF 'osierlaw19.WalNone'. -/
def walNoneUptoCard : Claim7 := { stood := { row := walNoneUptoRow, standIns := [], harness := (true, "9466c45201b3af1cc4f064cd8b03b5cafeddecd1cefed806a77467514aed77c6"), looks := false }, kinds := [], alts := [], laidByText := true, laidKinds := [.data, .pinned], laidTests := true, laidLooks := .later }
def WalNoneUptoCardSaid : Prop := Claim7.holds Tryd.pinned (.plain (OpenSpec.upto walNoneSpec)) walNoneUptoCard
end Rows
end Go.Proofs.YtbjjohfpdphpfaaDoor
