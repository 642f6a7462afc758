/- DeskSteps returns true for every input, and every input reads as it did; its tied card. No condition. -/
import Derived.Test.YtekecchdjkkoeaaGreatDoorSeatDeskStepsWalk
import Derived.ProofKit
import Derived.JoinedOf
set_option linter.unusedVariables false
set_option linter.unusedSimpArgs false
namespace Go.Proofs.YtekecchdjkkoeaaGreatDoor.deskSteps
set_option maxRecDepth 100000
theorem jj : (((Rows.deskStepsRow.inPlace == Tryz.prog.inPlace 7)) && ((Rows.deskStepsRow.unfollowed == Tryz.prog.unfollowed 7)) && ((Rows.deskStepsRow.recurses == Tryz.prog.recurses 7)) && ((Rows.deskStepsRow.named == Tryz.prog.varsNamed 7))) = true := by kernel_rfl
theorem j0 : (Rows.deskStepsRow.wf (OpenSpec.ofChange Rows.deskStepsSpec)) = true := by kernel_rfl
theorem j1 : (laidOutB Tryz.prog) = true := laidOut
theorem j2 : (mapsRowed Tryz.prog) = true := by kernel_rfl
theorem j3 : (Tryz.f7.params.all (Tryz.prog.readableRec ·)) = true := by kernel_rfl
theorem j4 : (namedTie Tryz.prog Rows.deskStepsRow.named Rows.deskStepsSpec.vars) = true := by kernel_rfl
theorem j5 : ((Rows.deskStepsRow.stops == [])) = true := by kernel_rfl
theorem j6 : ((Tryz.prog.stops == [])) = true := by kernel_rfl
theorem j7 : ((Rows.deskStepsRow.knobs == [])) = true := by kernel_rfl
theorem j8 : ((Tryz.prog.stopKnobs == [])) = true := by kernel_rfl
theorem j9 : ((Rows.deskStepsRow.inPlace == Tryz.prog.inPlace 7)) = true := by have := jj; simp only [Bool.and_eq_true] at this; exact this.1.1.1
theorem j10 : ((Rows.deskStepsRow.unfollowed == Tryz.prog.unfollowed 7)) = true := by have := jj; simp only [Bool.and_eq_true] at this; exact this.1.1.2
theorem j11 : ((Rows.deskStepsRow.recurses == Tryz.prog.recurses 7)) = true := by have := jj; simp only [Bool.and_eq_true] at this; exact this.1.2
theorem j12 : ((Rows.deskStepsRow.named == Tryz.prog.varsNamed 7)) = true := by have := jj; simp only [Bool.and_eq_true] at this; exact this.2
theorem j13 : ((Rows.deskStepsRow.maps == (Tryz.f7.params.toList ++ Rows.deskStepsSpec.plain.varTypes Tryz.prog).any (Tryz.prog.mapsRec ·))) = true := by kernel_rfl
theorem j14 : ((Rows.deskStepsRow.ifaces == (Tryz.f7.params.toList ++ Rows.deskStepsSpec.plain.varTypes Tryz.prog).any (Tryz.prog.ifacesRec ·))) = true := by kernel_rfl
theorem j15 : ((Rows.deskStepsRow.mapsOut == Tryz.prog.mapsAmong Tryz.f7.resultTypes.toList)) = true := by kernel_rfl
theorem j16 : ((Rows.deskStepsRow.loops == (Tryz.f7.params.toList ++ Rows.deskStepsSpec.plain.varTypes Tryz.prog).any (Tryz.prog.loopsFrom ·))) = true := by kernel_rfl
theorem j17 : ((Rows.deskStepsRow.wideKeys == (Tryz.f7.params.toList ++ Rows.deskStepsSpec.plain.varTypes Tryz.prog ++ Tryz.f7.resultTypes.toList).any (Tryz.prog.wideKeysFrom ·))) = true := by kernel_rfl
theorem j18 : (Rows.deskStepsSpec.vars.all (Tryz.prog.varReadable ·)) = true := by kernel_rfl
theorem j19 : (Tryz.f7.resultTypes.all (fun t => Tryz.prog.readableRec t && decide (t < Tryz.prog.types.size))) = true := by kernel_rfl
theorem j20 : ((Rows.deskStepsRow.ifacesOut == Tryz.f7.resultTypes.toList.any (Tryz.prog.ifacesRec ·))) = true := by kernel_rfl
theorem j21 : ((Rows.deskStepsRow.loopsOut == Tryz.f7.resultTypes.toList.any (Tryz.prog.loopsFrom ·))) = true := by kernel_rfl
theorem j22 : ((Rows.deskStepsRow.plainKeys == Tryz.prog.plainKeys)) = true := by kernel_rfl
theorem j23 : (Rows.deskStepsRow.shortTexts.isNone) = true := by kernel_rfl
theorem j24 : (Tryz.prog.stopsHeard) = true := by kernel_rfl
theorem j25 : (Tryz.prog.mayEnter) = true := by kernel_rfl
theorem j26 : ((Rows.deskStepsRow.lifted == Tryz.prog.liftsFinal)) = true := by kernel_rfl
theorem j27 : ((Tryz.prog.make == some Rows.deskStepsRow.make)) = true := by kernel_rfl
theorem j28 : ((Rows.deskStepsRow.kinds == (if Rows.deskStepsRow.domain.isEmpty then [] else Tryz.f7.params.toList.map fun t => match Tryz.prog.underlying t with | some (.int k) => some k | _ => none))) = true := by kernel_rfl
theorem j29 : ((Rows.deskStepsRow.pinned == Rows.deskStepsRow.pinnedBy)) = true := by kernel_rfl
theorem j30 : ((Rows.deskStepsRow.veiled == (Tryz.f7.params.toList ++ Rows.deskStepsSpec.plain.varTypes Tryz.prog ++ Tryz.f7.resultTypes.toList).any (Tryz.prog.veiledRec ·))) = true := by kernel_rfl
theorem j31 : (Rows.deskStepsRow.veiledFits Tryz.prog Tryz.f7.params.toList (Tryz.f7.params.toList ++ Rows.deskStepsSpec.plain.varTypes Tryz.prog ++ Tryz.f7.resultTypes.toList)) = true := by kernel_rfl
theorem closed : joinedFacts Tryz.prog 7 Tryz.f7 Rows.deskStepsSpec Rows.deskStepsRow = true := by
  simp only [joinedFacts, Bool.and_eq_true]
  exact ⟨⟨⟨⟨⟨⟨⟨⟨⟨⟨⟨⟨⟨⟨⟨⟨⟨⟨⟨⟨⟨⟨⟨⟨⟨⟨⟨⟨⟨⟨⟨j0, j1⟩, j2⟩, j3⟩, j4⟩, j5⟩, j6⟩, j7⟩, j8⟩, j9⟩, j10⟩, j11⟩, j12⟩, j13⟩, j14⟩, j15⟩, j16⟩, j17⟩, j18⟩, j19⟩, j20⟩, j21⟩, j22⟩, j23⟩, j24⟩, j25⟩, j26⟩, j27⟩, j28⟩, j29⟩, j30⟩, j31⟩
end Go.Proofs.YtekecchdjkkoeaaGreatDoor.deskSteps
