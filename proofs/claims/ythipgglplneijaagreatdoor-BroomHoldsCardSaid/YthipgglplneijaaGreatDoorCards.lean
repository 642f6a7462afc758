/-
  DERIVED. GIVEN WITH THE SEED: THE CARDS: each row of YthipgglplneijaaGreatDoorRows.lean that lists a variable, with what it lists TIED to the program's text (the seventh form; the later family's looks); each row that meets fmt, with fmt's text TOLD by the authors' own Lean function (tested against real Go, not proved from fmt's source: count such statements apart). THE CARD IS WHAT COUNTS. Prove the row's statement (the work); the ties are given (YthipgglplneijaaGreatDoorTie.lean); close each card by the builder's one call (the guide's Derived/Test/ToyasCard.lean, 'card_holds'). Laid BY PROGRAM, IN A SANDBOX (cutbox-door.mjs). By AI agents, Wed Nov 11 2026. No macro, syntax, notation, axiom, sorry.
-/
import Derived.Test.YthipgglplneijaaGreatDoorRows
import GoSem.ClaimSeven
namespace Go.Proofs.YthipgglplneijaaGreatDoor
namespace Rows

/-- THE TIED CARD OF 'lapidarylaw13.BroomHolds'. -/
def broomHoldsCard : Claim7 := { stood := { row := broomHoldsRow, standIns := [], harness := (true, "47d4443ba725f3d6c025f9866bd60164dd2e64f41aa1fd9015493a9ba5398354"), looks := false }, kinds := [], alts := [], laidByText := true, laidKinds := [.data, .pinned], laidTests := true, laidLooks := .later }
def BroomHoldsCardSaid : Prop := Claim7.holds Tryz.pinned (.plain (OpenSpec.ofChange broomHoldsSpec)) broomHoldsCard

/-- THE SECOND FORM's CARD OF 'lapidarylaw13.BroomHolds'. -/
def broomHoldsUptoCard : Claim7 := { stood := { row := broomHoldsUptoRow, standIns := [], harness := (true, "47d4443ba725f3d6c025f9866bd60164dd2e64f41aa1fd9015493a9ba5398354"), looks := false }, kinds := [], alts := [], laidByText := true, laidKinds := [.data, .pinned], laidTests := true, laidLooks := .later }
def BroomHoldsUptoCardSaid : Prop := Claim7.holds Tryz.pinned (.plain (OpenSpec.upto broomHoldsSpec)) broomHoldsUptoCard
end Rows
end Go.Proofs.YthipgglplneijaaGreatDoor
