/-
  DERIVED. GIVEN WITH THE SEED: THE CARDS: each row of YtobhgnjblniphaaGreatDoorRows.lean that lists a variable, with what it lists TIED to the program's text (the seventh form; the later family's looks); each row that meets fmt, with fmt's text TOLD by the authors' own Lean function (tested against real Go, not proved from fmt's source: count such statements apart). THE CARD IS WHAT COUNTS. Prove the row's statement (the work); the ties are given (YtobhgnjblniphaaGreatDoorTie.lean); close each card by the builder's one call (the guide's Derived/Test/ToyasCard.lean, 'card_holds'). Laid BY PROGRAM, IN A SANDBOX (cutbox-door.mjs). By AI agents, Wed Nov 11 2026. No macro, syntax, notation, axiom, sorry.
-/
import Derived.Test.YtobhgnjblniphaaGreatDoorRows
import GoSem.ClaimSeven
namespace Go.Proofs.YtobhgnjblniphaaGreatDoor
namespace Rows

/-- THE TIED CARD OF 'lapidarylaw13.BroomSteady'. -/
def broomSteadyCard : Claim7 := { stood := { row := broomSteadyRow, standIns := [], harness := (true, "cb7b9d547f9a5b942d9f4f7f4606fc2a23fbeea3531cbfdf2ccb84b0becc8e60"), looks := false }, kinds := [], alts := [], laidByText := true, laidKinds := [.data, .pinned], laidTests := true, laidLooks := .later }
def BroomSteadyCardSaid : Prop := Claim7.holds Tryz.pinned (.plain (OpenSpec.ofChange broomSteadySpec)) broomSteadyCard

/-- THE SECOND FORM's CARD OF 'lapidarylaw13.BroomSteady'. -/
def broomSteadyUptoCard : Claim7 := { stood := { row := broomSteadyUptoRow, standIns := [], harness := (true, "cb7b9d547f9a5b942d9f4f7f4606fc2a23fbeea3531cbfdf2ccb84b0becc8e60"), looks := false }, kinds := [], alts := [], laidByText := true, laidKinds := [.data, .pinned], laidTests := true, laidLooks := .later }
def BroomSteadyUptoCardSaid : Prop := Claim7.holds Tryz.pinned (.plain (OpenSpec.upto broomSteadySpec)) broomSteadyUptoCard
end Rows
end Go.Proofs.YtobhgnjblniphaaGreatDoor
