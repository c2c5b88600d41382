/-
  DERIVED. GIVEN WITH THE SEED: THE CARDS: each row of YtlabpmmcmejpmaaDoorRows.lean that lists a variable, with what it lists TIED to the program's text (the seventh form; the later family's looks); each row that meets fmt, with fmt's text TOLD by the authors' own Lean function (tested against real Go, not proved from fmt's source: count such statements apart). THE CARD IS WHAT COUNTS. Prove the row's statement (the work); the ties are given (YtlabpmmcmejpmaaDoorTie.lean); close each card by the builder's one call (the guide's Derived/Test/ToyasCard.lean, 'card_holds'). Laid BY PROGRAM, IN A SANDBOX (cutbox-door.mjs). By AI agents, Wed Nov 11 2026. No macro, syntax, notation, axiom, sorry.
-/
import Derived.Test.YtlabpmmcmejpmaaDoorRows
import GoSem.ClaimSeven
namespace Go.Proofs.YtlabpmmcmejpmaaDoor
namespace Rows

/-- THE TIED CARD OF 'osierlaw18.DiskPlays'. -/
def diskPlaysCard : Claim7 := { stood := { row := diskPlaysRow, standIns := [], harness := (true, "550bd6a0afdbf0b117815e266597fb3592a4d6216b662876b1ca8da40b4ee3f4"), looks := false }, kinds := [], alts := [], laidByText := true, laidKinds := [.data, .pinned], laidTests := true, laidLooks := .later }
def DiskPlaysCardSaid : Prop := Claim7.holds Tryd.pinned (.plain (OpenSpec.ofChange diskPlaysSpec)) diskPlaysCard

/-- THE TIED CARD OF 'osierlaw18.DiskOwn'. -/
def diskOwnCard : Claim7 := { stood := { row := diskOwnRow, standIns := [], harness := (true, "550bd6a0afdbf0b117815e266597fb3592a4d6216b662876b1ca8da40b4ee3f4"), looks := false }, kinds := [], alts := [], laidByText := true, laidKinds := [.data, .pinned], laidTests := true, laidLooks := .later }
def DiskOwnCardSaid : Prop := Claim7.holds Tryd.pinned (.plain (OpenSpec.ofChange diskOwnSpec)) diskOwnCard

/-- THE TIED CARD OF 'osierlaw18.DiskRoom'. -/
def diskRoomCard : Claim7 := { stood := { row := diskRoomRow, standIns := [], harness := (true, "550bd6a0afdbf0b117815e266597fb3592a4d6216b662876b1ca8da40b4ee3f4"), looks := false }, kinds := [], alts := [], laidByText := true, laidKinds := [.data, .pinned], laidTests := true, laidLooks := .later }
def DiskRoomCardSaid : Prop := Claim7.holds Tryd.pinned (.plain (OpenSpec.ofChange diskRoomSpec)) diskRoomCard

/-- THE SECOND FORM's CARD OF 'osierlaw18.DiskPlays'. -/
def diskPlaysUptoCard : Claim7 := { stood := { row := diskPlaysUptoRow, standIns := [], harness := (true, "550bd6a0afdbf0b117815e266597fb3592a4d6216b662876b1ca8da40b4ee3f4"), looks := false }, kinds := [], alts := [], laidByText := true, laidKinds := [.data, .pinned], laidTests := true, laidLooks := .later }
def DiskPlaysUptoCardSaid : Prop := Claim7.holds Tryd.pinned (.plain (OpenSpec.upto diskPlaysSpec)) diskPlaysUptoCard

/-- THE SECOND FORM's CARD OF 'osierlaw18.DiskOwn'. -/
def diskOwnUptoCard : Claim7 := { stood := { row := diskOwnUptoRow, standIns := [], harness := (true, "550bd6a0afdbf0b117815e266597fb3592a4d6216b662876b1ca8da40b4ee3f4"), looks := false }, kinds := [], alts := [], laidByText := true, laidKinds := [.data, .pinned], laidTests := true, laidLooks := .later }
def DiskOwnUptoCardSaid : Prop := Claim7.holds Tryd.pinned (.plain (OpenSpec.upto diskOwnSpec)) diskOwnUptoCard

/-- THE SECOND FORM's CARD OF 'osierlaw18.DiskRoom'. -/
def diskRoomUptoCard : Claim7 := { stood := { row := diskRoomUptoRow, standIns := [], harness := (true, "550bd6a0afdbf0b117815e266597fb3592a4d6216b662876b1ca8da40b4ee3f4"), looks := false }, kinds := [], alts := [], laidByText := true, laidKinds := [.data, .pinned], laidTests := true, laidLooks := .later }
def DiskRoomUptoCardSaid : Prop := Claim7.holds Tryd.pinned (.plain (OpenSpec.upto diskRoomSpec)) diskRoomUptoCard
end Rows
end Go.Proofs.YtlabpmmcmejpmaaDoor
