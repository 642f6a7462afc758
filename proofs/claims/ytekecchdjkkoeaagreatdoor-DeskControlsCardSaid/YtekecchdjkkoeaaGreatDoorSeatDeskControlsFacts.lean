/- DeskControls returns true for every input, and every input reads as it did; its tied card. No condition. -/
import Derived.Test.YtekecchdjkkoeaaGreatDoorSeatBase
import Derived.ProofKit
import Derived.JoinedOf
set_option linter.unusedVariables false
set_option linter.unusedSimpArgs false
namespace Go.Proofs.YtekecchdjkkoeaaGreatDoor.deskControls
set_option maxRecDepth 100000
theorem jj : (((Rows.deskControlsRow.inPlace == Tryz.prog.inPlace 6)) && ((Rows.deskControlsRow.unfollowed == Tryz.prog.unfollowed 6)) && ((Rows.deskControlsRow.recurses == Tryz.prog.recurses 6)) && ((Rows.deskControlsRow.named == Tryz.prog.varsNamed 6))) = true := by kernel_rfl
theorem j0 : (Rows.deskControlsRow.wf (OpenSpec.ofChange Rows.deskControlsSpec)) = true := by kernel_rfl
theorem j1 : (laidOutB Tryz.prog) = true := laidOut
theorem j2 : (mapsRowed Tryz.prog) = true := by kernel_rfl
theorem j3 : (Tryz.f6.params.all (Tryz.prog.readableRec ·)) = true := by kernel_rfl
theorem j4 : (namedTie Tryz.prog Rows.deskControlsRow.named Rows.deskControlsSpec.vars) = true := by kernel_rfl
theorem j5 : ((Rows.deskControlsRow.stops == [])) = true := by kernel_rfl
theorem j6 : ((Tryz.prog.stops == [])) = true := by kernel_rfl
theorem j7 : ((Rows.deskControlsRow.knobs == [])) = true := by kernel_rfl
theorem j8 : ((Tryz.prog.stopKnobs == [])) = true := by kernel_rfl
theorem j9 : ((Rows.deskControlsRow.inPlace == Tryz.prog.inPlace 6)) = true := by have := jj; simp only [Bool.and_eq_true] at this; exact this.1.1.1
theorem j10 : ((Rows.deskControlsRow.unfollowed == Tryz.prog.unfollowed 6)) = true := by have := jj; simp only [Bool.and_eq_true] at this; exact this.1.1.2
theorem j11 : ((Rows.deskControlsRow.recurses == Tryz.prog.recurses 6)) = true := by have := jj; simp only [Bool.and_eq_true] at this; exact this.1.2
theorem j12 : ((Rows.deskControlsRow.named == Tryz.prog.varsNamed 6)) = true := by have := jj; simp only [Bool.and_eq_true] at this; exact this.2
theorem j13 : ((Rows.deskControlsRow.maps == (Tryz.f6.params.toList ++ Rows.deskControlsSpec.plain.varTypes Tryz.prog).any (Tryz.prog.mapsRec ·))) = true := by kernel_rfl
theorem j14 : ((Rows.deskControlsRow.ifaces == (Tryz.f6.params.toList ++ Rows.deskControlsSpec.plain.varTypes Tryz.prog).any (Tryz.prog.ifacesRec ·))) = true := by kernel_rfl
theorem j15 : ((Rows.deskControlsRow.mapsOut == Tryz.prog.mapsAmong Tryz.f6.resultTypes.toList)) = true := by kernel_rfl
theorem j16 : ((Rows.deskControlsRow.loops == (Tryz.f6.params.toList ++ Rows.deskControlsSpec.plain.varTypes Tryz.prog).any (Tryz.prog.loopsFrom ·))) = true := by kernel_rfl
theorem j17 : ((Rows.deskControlsRow.wideKeys == (Tryz.f6.params.toList ++ Rows.deskControlsSpec.plain.varTypes Tryz.prog ++ Tryz.f6.resultTypes.toList).any (Tryz.prog.wideKeysFrom ·))) = true := by kernel_rfl
theorem j18 : (Rows.deskControlsSpec.vars.all (Tryz.prog.varReadable ·)) = true := by kernel_rfl
theorem j19 : (Tryz.f6.resultTypes.all (fun t => Tryz.prog.readableRec t && decide (t < Tryz.prog.types.size))) = true := by kernel_rfl
theorem j20 : ((Rows.deskControlsRow.ifacesOut == Tryz.f6.resultTypes.toList.any (Tryz.prog.ifacesRec ·))) = true := by kernel_rfl
theorem j21 : ((Rows.deskControlsRow.loopsOut == Tryz.f6.resultTypes.toList.any (Tryz.prog.loopsFrom ·))) = true := by kernel_rfl
theorem j22 : ((Rows.deskControlsRow.plainKeys == Tryz.prog.plainKeys)) = true := by kernel_rfl
theorem j23 : (Rows.deskControlsRow.shortTexts.isNone) = true := by kernel_rfl
theorem j24 : (Tryz.prog.stopsHeard) = true := by kernel_rfl
theorem j25 : (Tryz.prog.mayEnter) = true := by kernel_rfl
theorem j26 : ((Rows.deskControlsRow.lifted == Tryz.prog.liftsFinal)) = true := by kernel_rfl
theorem j27 : ((Tryz.prog.make == some Rows.deskControlsRow.make)) = true := by kernel_rfl
theorem j28 : ((Rows.deskControlsRow.kinds == (if Rows.deskControlsRow.domain.isEmpty then [] else Tryz.f6.params.toList.map fun t => match Tryz.prog.underlying t with | some (.int k) => some k | _ => none))) = true := by kernel_rfl
theorem j29 : ((Rows.deskControlsRow.pinned == Rows.deskControlsRow.pinnedBy)) = true := by kernel_rfl
theorem j30 : ((Rows.deskControlsRow.veiled == (Tryz.f6.params.toList ++ Rows.deskControlsSpec.plain.varTypes Tryz.prog ++ Tryz.f6.resultTypes.toList).any (Tryz.prog.veiledRec ·))) = true := by kernel_rfl
theorem j31 : (Rows.deskControlsRow.veiledFits Tryz.prog Tryz.f6.params.toList (Tryz.f6.params.toList ++ Rows.deskControlsSpec.plain.varTypes Tryz.prog ++ Tryz.f6.resultTypes.toList)) = true := by kernel_rfl
theorem closed : joinedFacts Tryz.prog 6 Tryz.f6 Rows.deskControlsSpec Rows.deskControlsRow = true := by
  simp only [joinedFacts, Bool.and_eq_true]
  exact ⟨⟨⟨⟨⟨⟨⟨⟨⟨⟨⟨⟨⟨⟨⟨⟨⟨⟨⟨⟨⟨⟨⟨⟨⟨⟨⟨⟨⟨⟨⟨j0, j1⟩, j2⟩, j3⟩, j4⟩, j5⟩, j6⟩, j7⟩, j8⟩, j9⟩, j10⟩, j11⟩, j12⟩, j13⟩, j14⟩, j15⟩, j16⟩, j17⟩, j18⟩, j19⟩, j20⟩, j21⟩, j22⟩, j23⟩, j24⟩, j25⟩, j26⟩, j27⟩, j28⟩, j29⟩, j30⟩, j31⟩
end Go.Proofs.YtekecchdjkkoeaaGreatDoor.deskControls
