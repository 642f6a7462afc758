/-
  DERIVED. GIVEN WITH THE SEED: THE CARDS: each row of YtahfajdmhnjkeaaGreatDoorRows.lean that lists a variable, with what it lists TIED to the program's text (the seventh form; the later family's looks); each row that meets fmt, with fmt's text TOLD by the authors' own Lean function (tested against real Go, not proved from fmt's source: count such statements apart). THE CARD IS WHAT COUNTS. Prove the row's statement (the work); the ties are given (YtahfajdmhnjkeaaGreatDoorTie.lean); close each card by the builder's one call (the guide's Derived/Test/ToyasCard.lean, 'card_holds'). Laid BY PROGRAM, IN A SANDBOX (cutbox-door.mjs). By AI agents, Wed Nov 11 2026. No macro, syntax, notation, axiom, sorry.
-/
import Derived.Test.YtahfajdmhnjkeaaGreatDoorRows
import GoSem.ClaimSeven
namespace Go.Proofs.YtahfajdmhnjkeaaGreatDoor
namespace Rows

/-- THE TIED CARD OF 'lapidarylaw22.YardNil'. -/
def yardNilCard : Claim7 := { stood := { row := yardNilRow, standIns := [], harness := (true, "11d4b37d875055977d583e312a86b738526b277bbaa8f9b2ab378434e5e0763b"), looks := true }, kinds := [], alts := [], laidByText := true, laidKinds := [.data, .widerDeep, .pinned, .pinned], laidTests := true, laidLooks := .later }
def YardNilCardSaid : Prop := Claim7.holds Tryz.pinned (.plain (OpenSpec.ofChange yardNilSpec)) yardNilCard

/-- THE SECOND FORM's CARD OF 'lapidarylaw22.YardNil'. -/
def yardNilUptoCard : Claim7 := { stood := { row := yardNilUptoRow, standIns := [], harness := (true, "11d4b37d875055977d583e312a86b738526b277bbaa8f9b2ab378434e5e0763b"), looks := true }, kinds := [], alts := [], laidByText := true, laidKinds := [.data, .widerDeep, .pinned, .pinned], laidTests := true, laidLooks := .later }
def YardNilUptoCardSaid : Prop := Claim7.holds Tryz.pinned (.plain (OpenSpec.upto yardNilSpec)) yardNilUptoCard
end Rows
end Go.Proofs.YtahfajdmhnjkeaaGreatDoor
