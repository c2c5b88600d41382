/-
  DERIVED. GIVEN WITH THE SEED: THE CARDS: each row of YtmdibkafjpglkaaGreatDoorRows.lean that lists a variable, with what it lists TIED to the program's text (the seventh form; the later family's looks); each row that meets fmt, with fmt's text TOLD by the authors' own Lean function (tested against real Go, not proved from fmt's source: count such statements apart). THE CARD IS WHAT COUNTS. Prove the row's statement (the work); the ties are given (YtmdibkafjpglkaaGreatDoorTie.lean); close each card by the builder's one call (the guide's Derived/Test/ToyasCard.lean, 'card_holds'). Laid BY PROGRAM, IN A SANDBOX (cutbox-door.mjs). By AI agents, Wed Nov 11 2026. No macro, syntax, notation, axiom, sorry.
-/
import Derived.Test.YtmdibkafjpglkaaGreatDoorRows
import GoSem.ClaimSeven
namespace Go.Proofs.YtmdibkafjpglkaaGreatDoor
namespace Rows

/-- THE TIED CARD OF 'osierlaw20.SnapLoads'. -/
def snapLoadsCard : Claim7 := { stood := { row := snapLoadsRow, standIns := [], harness := (true, "17ad3bb3dc01ede50d376bbe75be5118dae3ba2279e3df156bc5b14abc952558"), looks := false }, kinds := [], alts := [], laidByText := true, laidKinds := [.data, .pinned], laidTests := true, laidLooks := .later }
def SnapLoadsCardSaid : Prop := Claim7.holds Tryz.pinned (.plain (OpenSpec.ofChange snapLoadsSpec)) snapLoadsCard

/-- THE TIED CARD OF 'osierlaw20.SnapSaves'. -/
def snapSavesCard : Claim7 := { stood := { row := snapSavesRow, standIns := [], harness := (true, "17ad3bb3dc01ede50d376bbe75be5118dae3ba2279e3df156bc5b14abc952558"), looks := false }, kinds := [], alts := [], laidByText := true, laidKinds := [.data, .pinned], laidTests := true, laidLooks := .later }
def SnapSavesCardSaid : Prop := Claim7.holds Tryz.pinned (.plain (OpenSpec.ofChange snapSavesSpec)) snapSavesCard

/-- THE TIED CARD OF 'osierlaw20.SnapRefuses'. -/
def snapRefusesCard : Claim7 := { stood := { row := snapRefusesRow, standIns := [], harness := (true, "17ad3bb3dc01ede50d376bbe75be5118dae3ba2279e3df156bc5b14abc952558"), looks := false }, kinds := [], alts := [], laidByText := true, laidKinds := [.data, .pinned], laidTests := true, laidLooks := .later }
def SnapRefusesCardSaid : Prop := Claim7.holds Tryz.pinned (.plain (OpenSpec.ofChange snapRefusesSpec)) snapRefusesCard

/-- THE SECOND FORM's CARD OF 'osierlaw20.SnapLoads'. -/
def snapLoadsUptoCard : Claim7 := { stood := { row := snapLoadsUptoRow, standIns := [], harness := (true, "17ad3bb3dc01ede50d376bbe75be5118dae3ba2279e3df156bc5b14abc952558"), looks := false }, kinds := [], alts := [], laidByText := true, laidKinds := [.data, .pinned], laidTests := true, laidLooks := .later }
def SnapLoadsUptoCardSaid : Prop := Claim7.holds Tryz.pinned (.plain (OpenSpec.upto snapLoadsSpec)) snapLoadsUptoCard

/-- THE SECOND FORM's CARD OF 'osierlaw20.SnapSaves'. -/
def snapSavesUptoCard : Claim7 := { stood := { row := snapSavesUptoRow, standIns := [], harness := (true, "17ad3bb3dc01ede50d376bbe75be5118dae3ba2279e3df156bc5b14abc952558"), looks := false }, kinds := [], alts := [], laidByText := true, laidKinds := [.data, .pinned], laidTests := true, laidLooks := .later }
def SnapSavesUptoCardSaid : Prop := Claim7.holds Tryz.pinned (.plain (OpenSpec.upto snapSavesSpec)) snapSavesUptoCard

/-- THE SECOND FORM's CARD OF 'osierlaw20.SnapRefuses'. -/
def snapRefusesUptoCard : Claim7 := { stood := { row := snapRefusesUptoRow, standIns := [], harness := (true, "17ad3bb3dc01ede50d376bbe75be5118dae3ba2279e3df156bc5b14abc952558"), looks := false }, kinds := [], alts := [], laidByText := true, laidKinds := [.data, .pinned], laidTests := true, laidLooks := .later }
def SnapRefusesUptoCardSaid : Prop := Claim7.holds Tryz.pinned (.plain (OpenSpec.upto snapRefusesSpec)) snapRefusesUptoCard
end Rows
end Go.Proofs.YtmdibkafjpglkaaGreatDoor
