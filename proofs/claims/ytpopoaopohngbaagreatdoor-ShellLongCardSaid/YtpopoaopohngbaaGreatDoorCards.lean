/-
  DERIVED. GIVEN WITH THE SEED: THE CARDS: each row of YtpopoaopohngbaaGreatDoorRows.lean that lists a variable, with what it lists TIED to the program's text (the seventh form; the later family's looks); each row that meets fmt, with fmt's text TOLD by the authors' own Lean function (tested against real Go, not proved from fmt's source: count such statements apart). THE CARD IS WHAT COUNTS. Prove the row's statement (the work); the ties are given (YtpopoaopohngbaaGreatDoorTie.lean); close each card by the builder's one call (the guide's Derived/Test/ToyasCard.lean, 'card_holds'). Laid BY PROGRAM, IN A SANDBOX (cutbox-door.mjs). By AI agents, Wed Nov 11 2026. No macro, syntax, notation, axiom, sorry.
-/
import Derived.Test.YtpopoaopohngbaaGreatDoorRows
import GoSem.ClaimSeven
namespace Go.Proofs.YtpopoaopohngbaaGreatDoor
namespace Rows

/-- THE TIED CARD OF 'lapidarylaw23.ShellLong'. -/
def shellLongCard : Claim7 := { stood := { row := shellLongRow, standIns := [], harness := (true, "7794709f3afe06938b46a682ee37c4e0bfc35f7c52bfad9feee4e553a27abe47"), looks := true }, kinds := [], alts := [], laidByText := true, laidKinds := [.data, .data, .data, .data, .sentinel, .sentinel, .widerDeep, .pinned, .pinned], laidTests := true, laidLooks := .later }
def ShellLongCardSaid : Prop := Claim7.holds Tryz.pinned (.plain (OpenSpec.ofChange shellLongSpec)) shellLongCard

/-- THE SECOND FORM's CARD OF 'lapidarylaw23.ShellLong'. -/
def shellLongUptoCard : Claim7 := { stood := { row := shellLongUptoRow, standIns := [], harness := (true, "7794709f3afe06938b46a682ee37c4e0bfc35f7c52bfad9feee4e553a27abe47"), looks := true }, kinds := [], alts := [], laidByText := true, laidKinds := [.data, .data, .data, .data, .sentinel, .sentinel, .widerDeep, .pinned, .pinned], laidTests := true, laidLooks := .later }
def ShellLongUptoCardSaid : Prop := Claim7.holds Tryz.pinned (.plain (OpenSpec.upto shellLongSpec)) shellLongUptoCard
end Rows
end Go.Proofs.YtpopoaopohngbaaGreatDoor
