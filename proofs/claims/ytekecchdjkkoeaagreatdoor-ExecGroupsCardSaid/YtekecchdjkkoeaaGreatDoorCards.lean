/-
  DERIVED. GIVEN WITH THE SEED: THE CARDS: each row of YtekecchdjkkoeaaGreatDoorRows.lean that lists a variable, with what it lists TIED to the program's text (the seventh form; the later family's looks); each row that meets fmt, with fmt's text TOLD by the authors' own Lean function (tested against real Go, not proved from fmt's source: count such statements apart). THE CARD IS WHAT COUNTS. Prove the row's statement (the work); the ties are given (YtekecchdjkkoeaaGreatDoorTie.lean); close each card by the builder's one call (the guide's Derived/Test/ToyasCard.lean, 'card_holds'). Laid BY PROGRAM, IN A SANDBOX (cutbox-door.mjs). By AI agents, Wed Nov 11 2026. No macro, syntax, notation, axiom, sorry.
-/
import Derived.Test.YtekecchdjkkoeaaGreatDoorRows
import GoSem.ClaimSeven
namespace Go.Proofs.YtekecchdjkkoeaaGreatDoor
namespace Rows

/-- THE TIED CARD OF 'lapidarylaw20.ExecJoins'. -/
def execJoinsCard : Claim7 := { stood := { row := execJoinsRow, standIns := [], harness := (true, "2f39632a0813be56fe74a73e011d22bc60a15f5913f7759c76946bd8b3aa718b"), looks := true }, kinds := [], alts := [], laidByText := true, laidKinds := [.data, .widerDeep, .pinned, .pinned], laidTests := true, laidLooks := .later }
def ExecJoinsCardSaid : Prop := Claim7.holds Tryz.pinned (.plain (OpenSpec.ofChange execJoinsSpec)) execJoinsCard

/-- THE TIED CARD OF 'lapidarylaw20.ExecGroups'. -/
def execGroupsCard : Claim7 := { stood := { row := execGroupsRow, standIns := [], harness := (true, "2f39632a0813be56fe74a73e011d22bc60a15f5913f7759c76946bd8b3aa718b"), looks := true }, kinds := [], alts := [], laidByText := true, laidKinds := [.data, .widerDeep, .pinned, .pinned], laidTests := true, laidLooks := .later }
def ExecGroupsCardSaid : Prop := Claim7.holds Tryz.pinned (.plain (OpenSpec.ofChange execGroupsSpec)) execGroupsCard

/-- THE TIED CARD OF 'lapidarylaw20.ExecWrites'. -/
def execWritesCard : Claim7 := { stood := { row := execWritesRow, standIns := [], harness := (true, "2f39632a0813be56fe74a73e011d22bc60a15f5913f7759c76946bd8b3aa718b"), looks := true }, kinds := [], alts := [], laidByText := true, laidKinds := [.data, .widerDeep, .pinned, .pinned], laidTests := true, laidLooks := .later }
def ExecWritesCardSaid : Prop := Claim7.holds Tryz.pinned (.plain (OpenSpec.ofChange execWritesSpec)) execWritesCard

/-- THE TIED CARD OF 'lapidarylaw21.DeskControls'. -/
def deskControlsCard : Claim7 := { stood := { row := deskControlsRow, standIns := [], harness := (true, "2f39632a0813be56fe74a73e011d22bc60a15f5913f7759c76946bd8b3aa718b"), looks := true }, kinds := [], alts := [], laidByText := true, laidKinds := [.data, .widerDeep, .pinned, .pinned], laidTests := true, laidLooks := .later }
def DeskControlsCardSaid : Prop := Claim7.holds Tryz.pinned (.plain (OpenSpec.ofChange deskControlsSpec)) deskControlsCard

/-- THE TIED CARD OF 'lapidarylaw21.DeskSteps'. -/
def deskStepsCard : Claim7 := { stood := { row := deskStepsRow, standIns := [], harness := (true, "2f39632a0813be56fe74a73e011d22bc60a15f5913f7759c76946bd8b3aa718b"), looks := true }, kinds := [], alts := [], laidByText := true, laidKinds := [.data, .widerDeep, .pinned, .pinned], laidTests := true, laidLooks := .later }
def DeskStepsCardSaid : Prop := Claim7.holds Tryz.pinned (.plain (OpenSpec.ofChange deskStepsSpec)) deskStepsCard

/-- THE TIED CARD OF 'lapidarylaw21.DeskCloses'. -/
def deskClosesCard : Claim7 := { stood := { row := deskClosesRow, standIns := [], harness := (true, "2f39632a0813be56fe74a73e011d22bc60a15f5913f7759c76946bd8b3aa718b"), looks := true }, kinds := [], alts := [], laidByText := true, laidKinds := [.data, .widerDeep, .pinned, .pinned], laidTests := true, laidLooks := .later }
def DeskClosesCardSaid : Prop := Claim7.holds Tryz.pinned (.plain (OpenSpec.ofChange deskClosesSpec)) deskClosesCard

/-- THE TIED CARD OF 'lapidarylaw21.DeskNil'. -/
def deskNilCard : Claim7 := { stood := { row := deskNilRow, standIns := [], harness := (true, "2f39632a0813be56fe74a73e011d22bc60a15f5913f7759c76946bd8b3aa718b"), looks := true }, kinds := [], alts := [], laidByText := true, laidKinds := [.data, .widerDeep, .pinned, .pinned], laidTests := true, laidLooks := .later }
def DeskNilCardSaid : Prop := Claim7.holds Tryz.pinned (.plain (OpenSpec.ofChange deskNilSpec)) deskNilCard

/-- THE SECOND FORM's CARD OF 'lapidarylaw20.ExecJoins'. -/
def execJoinsUptoCard : Claim7 := { stood := { row := execJoinsUptoRow, standIns := [], harness := (true, "2f39632a0813be56fe74a73e011d22bc60a15f5913f7759c76946bd8b3aa718b"), looks := true }, kinds := [], alts := [], laidByText := true, laidKinds := [.data, .widerDeep, .pinned, .pinned], laidTests := true, laidLooks := .later }
def ExecJoinsUptoCardSaid : Prop := Claim7.holds Tryz.pinned (.plain (OpenSpec.upto execJoinsSpec)) execJoinsUptoCard

/-- THE SECOND FORM's CARD OF 'lapidarylaw20.ExecGroups'. -/
def execGroupsUptoCard : Claim7 := { stood := { row := execGroupsUptoRow, standIns := [], harness := (true, "2f39632a0813be56fe74a73e011d22bc60a15f5913f7759c76946bd8b3aa718b"), looks := true }, kinds := [], alts := [], laidByText := true, laidKinds := [.data, .widerDeep, .pinned, .pinned], laidTests := true, laidLooks := .later }
def ExecGroupsUptoCardSaid : Prop := Claim7.holds Tryz.pinned (.plain (OpenSpec.upto execGroupsSpec)) execGroupsUptoCard

/-- THE SECOND FORM's CARD OF 'lapidarylaw20.ExecWrites'. -/
def execWritesUptoCard : Claim7 := { stood := { row := execWritesUptoRow, standIns := [], harness := (true, "2f39632a0813be56fe74a73e011d22bc60a15f5913f7759c76946bd8b3aa718b"), looks := true }, kinds := [], alts := [], laidByText := true, laidKinds := [.data, .widerDeep, .pinned, .pinned], laidTests := true, laidLooks := .later }
def ExecWritesUptoCardSaid : Prop := Claim7.holds Tryz.pinned (.plain (OpenSpec.upto execWritesSpec)) execWritesUptoCard

/-- THE SECOND FORM's CARD OF 'lapidarylaw21.DeskControls'. -/
def deskControlsUptoCard : Claim7 := { stood := { row := deskControlsUptoRow, standIns := [], harness := (true, "2f39632a0813be56fe74a73e011d22bc60a15f5913f7759c76946bd8b3aa718b"), looks := true }, kinds := [], alts := [], laidByText := true, laidKinds := [.data, .widerDeep, .pinned, .pinned], laidTests := true, laidLooks := .later }
def DeskControlsUptoCardSaid : Prop := Claim7.holds Tryz.pinned (.plain (OpenSpec.upto deskControlsSpec)) deskControlsUptoCard

/-- THE SECOND FORM's CARD OF 'lapidarylaw21.DeskSteps'. -/
def deskStepsUptoCard : Claim7 := { stood := { row := deskStepsUptoRow, standIns := [], harness := (true, "2f39632a0813be56fe74a73e011d22bc60a15f5913f7759c76946bd8b3aa718b"), looks := true }, kinds := [], alts := [], laidByText := true, laidKinds := [.data, .widerDeep, .pinned, .pinned], laidTests := true, laidLooks := .later }
def DeskStepsUptoCardSaid : Prop := Claim7.holds Tryz.pinned (.plain (OpenSpec.upto deskStepsSpec)) deskStepsUptoCard

/-- THE SECOND FORM's CARD OF 'lapidarylaw21.DeskCloses'. -/
def deskClosesUptoCard : Claim7 := { stood := { row := deskClosesUptoRow, standIns := [], harness := (true, "2f39632a0813be56fe74a73e011d22bc60a15f5913f7759c76946bd8b3aa718b"), looks := true }, kinds := [], alts := [], laidByText := true, laidKinds := [.data, .widerDeep, .pinned, .pinned], laidTests := true, laidLooks := .later }
def DeskClosesUptoCardSaid : Prop := Claim7.holds Tryz.pinned (.plain (OpenSpec.upto deskClosesSpec)) deskClosesUptoCard

/-- THE SECOND FORM's CARD OF 'lapidarylaw21.DeskNil'. -/
def deskNilUptoCard : Claim7 := { stood := { row := deskNilUptoRow, standIns := [], harness := (true, "2f39632a0813be56fe74a73e011d22bc60a15f5913f7759c76946bd8b3aa718b"), looks := true }, kinds := [], alts := [], laidByText := true, laidKinds := [.data, .widerDeep, .pinned, .pinned], laidTests := true, laidLooks := .later }
def DeskNilUptoCardSaid : Prop := Claim7.holds Tryz.pinned (.plain (OpenSpec.upto deskNilSpec)) deskNilUptoCard
end Rows
end Go.Proofs.YtekecchdjkkoeaaGreatDoor
