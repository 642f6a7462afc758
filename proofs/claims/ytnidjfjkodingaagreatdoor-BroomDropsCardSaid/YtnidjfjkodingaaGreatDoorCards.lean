/-
  DERIVED. GIVEN WITH THE SEED: THE CARDS: each row of YtnidjfjkodingaaGreatDoorRows.lean that lists a variable, with what it lists TIED to the program's text (the seventh form; the later family's looks); each row that meets fmt, with fmt's text TOLD by the authors' own Lean function (tested against real Go, not proved from fmt's source: count such statements apart). THE CARD IS WHAT COUNTS. Prove the row's statement (the work); the ties are given (YtnidjfjkodingaaGreatDoorTie.lean); close each card by the builder's one call (the guide's Derived/Test/ToyasCard.lean, 'card_holds'). Laid BY PROGRAM, IN A SANDBOX (cutbox-door.mjs). By AI agents, Wed Nov 11 2026. No macro, syntax, notation, axiom, sorry.
-/
import Derived.Test.YtnidjfjkodingaaGreatDoorRows
import GoSem.ClaimSeven
namespace Go.Proofs.YtnidjfjkodingaaGreatDoor
namespace Rows

/-- THE TIED CARD OF 'lapidarylaw13.BroomSteady'. -/
def broomSteadyCard : Claim7 := { stood := { row := broomSteadyRow, standIns := [], harness := (true, "de01f063c3179b8e6429dcdeed0f12c1d47400b9367f96df42f6526b304b08e0"), looks := false }, kinds := [], alts := [], laidByText := true, laidKinds := [.data, .pinned], laidTests := true, laidLooks := .later }
def BroomSteadyCardSaid : Prop := Claim7.holds Tryz.pinned (.plain (OpenSpec.ofChange broomSteadySpec)) broomSteadyCard

/-- THE TIED CARD OF 'lapidarylaw13.BroomHolds'. -/
def broomHoldsCard : Claim7 := { stood := { row := broomHoldsRow, standIns := [], harness := (true, "de01f063c3179b8e6429dcdeed0f12c1d47400b9367f96df42f6526b304b08e0"), looks := false }, kinds := [], alts := [], laidByText := true, laidKinds := [.data, .pinned], laidTests := true, laidLooks := .later }
def BroomHoldsCardSaid : Prop := Claim7.holds Tryz.pinned (.plain (OpenSpec.ofChange broomHoldsSpec)) broomHoldsCard

/-- THE TIED CARD OF 'lapidarylaw13.BroomDrops'. -/
def broomDropsCard : Claim7 := { stood := { row := broomDropsRow, standIns := [], harness := (true, "de01f063c3179b8e6429dcdeed0f12c1d47400b9367f96df42f6526b304b08e0"), looks := false }, kinds := [], alts := [], laidByText := true, laidKinds := [.data, .pinned], laidTests := true, laidLooks := .later }
def BroomDropsCardSaid : Prop := Claim7.holds Tryz.pinned (.plain (OpenSpec.ofChange broomDropsSpec)) broomDropsCard

/-- THE SECOND FORM's CARD OF 'lapidarylaw13.BroomSteady'. -/
def broomSteadyUptoCard : Claim7 := { stood := { row := broomSteadyUptoRow, standIns := [], harness := (true, "de01f063c3179b8e6429dcdeed0f12c1d47400b9367f96df42f6526b304b08e0"), looks := false }, kinds := [], alts := [], laidByText := true, laidKinds := [.data, .pinned], laidTests := true, laidLooks := .later }
def BroomSteadyUptoCardSaid : Prop := Claim7.holds Tryz.pinned (.plain (OpenSpec.upto broomSteadySpec)) broomSteadyUptoCard

/-- THE SECOND FORM's CARD OF 'lapidarylaw13.BroomHolds'. -/
def broomHoldsUptoCard : Claim7 := { stood := { row := broomHoldsUptoRow, standIns := [], harness := (true, "de01f063c3179b8e6429dcdeed0f12c1d47400b9367f96df42f6526b304b08e0"), looks := false }, kinds := [], alts := [], laidByText := true, laidKinds := [.data, .pinned], laidTests := true, laidLooks := .later }
def BroomHoldsUptoCardSaid : Prop := Claim7.holds Tryz.pinned (.plain (OpenSpec.upto broomHoldsSpec)) broomHoldsUptoCard

/-- THE SECOND FORM's CARD OF 'lapidarylaw13.BroomDrops'. -/
def broomDropsUptoCard : Claim7 := { stood := { row := broomDropsUptoRow, standIns := [], harness := (true, "de01f063c3179b8e6429dcdeed0f12c1d47400b9367f96df42f6526b304b08e0"), looks := false }, kinds := [], alts := [], laidByText := true, laidKinds := [.data, .pinned], laidTests := true, laidLooks := .later }
def BroomDropsUptoCardSaid : Prop := Claim7.holds Tryz.pinned (.plain (OpenSpec.upto broomDropsSpec)) broomDropsUptoCard
end Rows
end Go.Proofs.YtnidjfjkodingaaGreatDoor
