/-
  DERIVED. GIVEN WITH THE SEED: THE CARDS: each row of YtmkaomglecfmfaaGreatDoorRows.lean that lists a variable, with what it lists TIED to the program's text (the seventh form; the later family's looks); each row that meets fmt, with fmt's text TOLD by the authors' own Lean function (tested against real Go, not proved from fmt's source: count such statements apart). THE CARD IS WHAT COUNTS. Prove the row's statement (the work); the ties are given (YtmkaomglecfmfaaGreatDoorTie.lean); close each card by the builder's one call (the guide's Derived/Test/ToyasCard.lean, 'card_holds'). Laid BY PROGRAM, IN A SANDBOX (cutbox-door.mjs). By AI agents, Wed Nov 11 2026. No macro, syntax, notation, axiom, sorry.
-/
import Derived.Test.YtmkaomglecfmfaaGreatDoorRows
import GoSem.ClaimSeven
namespace Go.Proofs.YtmkaomglecfmfaaGreatDoor
namespace Rows

/-- THE TIED CARD OF 'lapidarylaw12.StoreEntries'. -/
def storeEntriesCard : Claim7 := { stood := { row := storeEntriesRow, standIns := [], harness := (true, "a5e5539cfdfc1b46fa840b6c23cddc7f0bfd52b487a5b2fe309dc7ad47ebde1a"), looks := false }, kinds := [], alts := [], laidByText := true, laidKinds := [.data, .pinned], laidTests := true, laidLooks := .later }
def StoreEntriesCardSaid : Prop := Claim7.holds Tryz.pinned (.plain (OpenSpec.ofChange storeEntriesSpec)) storeEntriesCard

/-- THE SECOND FORM's CARD OF 'lapidarylaw12.StoreEntries'. -/
def storeEntriesUptoCard : Claim7 := { stood := { row := storeEntriesUptoRow, standIns := [], harness := (true, "a5e5539cfdfc1b46fa840b6c23cddc7f0bfd52b487a5b2fe309dc7ad47ebde1a"), looks := false }, kinds := [], alts := [], laidByText := true, laidKinds := [.data, .pinned], laidTests := true, laidLooks := .later }
def StoreEntriesUptoCardSaid : Prop := Claim7.holds Tryz.pinned (.plain (OpenSpec.upto storeEntriesSpec)) storeEntriesUptoCard
end Rows
end Go.Proofs.YtmkaomglecfmfaaGreatDoor
