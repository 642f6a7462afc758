/- A part of the proof of this seat's statements. No condition. -/
import Derived.Test.YtekecchdjkkoeaaGreatDoorSeatNilWalk
import Derived.ProofKit
import Derived.JoinedOf
set_option linter.unusedVariables false
set_option linter.unusedSimpArgs false
namespace Go.Proofs.YtekecchdjkkoeaaGreatDoor.deskNil
set_option maxRecDepth 100000
theorem jj : (((Rows.deskNilRow.inPlace == Tryz.prog.inPlace 9)) && ((Rows.deskNilRow.unfollowed == Tryz.prog.unfollowed 9)) && ((Rows.deskNilRow.recurses == Tryz.prog.recurses 9)) && ((Rows.deskNilRow.named == Tryz.prog.varsNamed 9))) = true := by kernel_rfl
theorem j0 : (Rows.deskNilRow.wf (OpenSpec.ofChange Rows.deskNilSpec)) = true := by kernel_rfl
theorem j1 : (laidOutB Tryz.prog) = true := laidOut
theorem j2 : (mapsRowed Tryz.prog) = true := by kernel_rfl
theorem j3 : (Tryz.f9.params.all (Tryz.prog.readableRec ·)) = true := by kernel_rfl
theorem j4 : (namedTie Tryz.prog Rows.deskNilRow.named Rows.deskNilSpec.vars) = true := by kernel_rfl
theorem j5 : ((Rows.deskNilRow.stops == [])) = true := by kernel_rfl
theorem j6 : ((Tryz.prog.stops == [])) = true := by kernel_rfl
theorem j7 : ((Rows.deskNilRow.knobs == [])) = true := by kernel_rfl
theorem j8 : ((Tryz.prog.stopKnobs == [])) = true := by kernel_rfl
theorem j9 : ((Rows.deskNilRow.inPlace == Tryz.prog.inPlace 9)) = true := by have := jj; simp only [Bool.and_eq_true] at this; exact this.1.1.1
theorem j10 : ((Rows.deskNilRow.unfollowed == Tryz.prog.unfollowed 9)) = true := by have := jj; simp only [Bool.and_eq_true] at this; exact this.1.1.2
theorem j11 : ((Rows.deskNilRow.recurses == Tryz.prog.recurses 9)) = true := by have := jj; simp only [Bool.and_eq_true] at this; exact this.1.2
theorem j12 : ((Rows.deskNilRow.named == Tryz.prog.varsNamed 9)) = true := by have := jj; simp only [Bool.and_eq_true] at this; exact this.2
theorem j13 : ((Rows.deskNilRow.maps == (Tryz.f9.params.toList ++ Rows.deskNilSpec.plain.varTypes Tryz.prog).any (Tryz.prog.mapsRec ·))) = true := by kernel_rfl
theorem j14 : ((Rows.deskNilRow.ifaces == (Tryz.f9.params.toList ++ Rows.deskNilSpec.plain.varTypes Tryz.prog).any (Tryz.prog.ifacesRec ·))) = true := by kernel_rfl
theorem j15 : ((Rows.deskNilRow.mapsOut == Tryz.prog.mapsAmong Tryz.f9.resultTypes.toList)) = true := by kernel_rfl
theorem j16 : ((Rows.deskNilRow.loops == (Tryz.f9.params.toList ++ Rows.deskNilSpec.plain.varTypes Tryz.prog).any (Tryz.prog.loopsFrom ·))) = true := by kernel_rfl
theorem j17 : ((Rows.deskNilRow.wideKeys == (Tryz.f9.params.toList ++ Rows.deskNilSpec.plain.varTypes Tryz.prog ++ Tryz.f9.resultTypes.toList).any (Tryz.prog.wideKeysFrom ·))) = true := by kernel_rfl
theorem j18 : (Rows.deskNilSpec.vars.all (Tryz.prog.varReadable ·)) = true := by kernel_rfl
theorem j19 : (Tryz.f9.resultTypes.all (fun t => Tryz.prog.readableRec t && decide (t < Tryz.prog.types.size))) = true := by kernel_rfl
theorem j20 : ((Rows.deskNilRow.ifacesOut == Tryz.f9.resultTypes.toList.any (Tryz.prog.ifacesRec ·))) = true := by kernel_rfl
theorem j21 : ((Rows.deskNilRow.loopsOut == Tryz.f9.resultTypes.toList.any (Tryz.prog.loopsFrom ·))) = true := by kernel_rfl
theorem j22 : ((Rows.deskNilRow.plainKeys == Tryz.prog.plainKeys)) = true := by kernel_rfl
theorem j23 : (Rows.deskNilRow.shortTexts.isNone) = true := by kernel_rfl
theorem j24 : (Tryz.prog.stopsHeard) = true := by kernel_rfl
theorem j25 : (Tryz.prog.mayEnter) = true := by kernel_rfl
theorem j26 : ((Rows.deskNilRow.lifted == Tryz.prog.liftsFinal)) = true := by kernel_rfl
theorem j27 : ((Tryz.prog.make == some Rows.deskNilRow.make)) = true := by kernel_rfl
theorem j28 : ((Rows.deskNilRow.kinds == (if Rows.deskNilRow.domain.isEmpty then [] else Tryz.f9.params.toList.map fun t => match Tryz.prog.underlying t with | some (.int k) => some k | _ => none))) = true := by kernel_rfl
theorem j29 : ((Rows.deskNilRow.pinned == Rows.deskNilRow.pinnedBy)) = true := by kernel_rfl
theorem j30 : ((Rows.deskNilRow.veiled == (Tryz.f9.params.toList ++ Rows.deskNilSpec.plain.varTypes Tryz.prog ++ Tryz.f9.resultTypes.toList).any (Tryz.prog.veiledRec ·))) = true := by kernel_rfl
theorem j31 : (Rows.deskNilRow.veiledFits Tryz.prog Tryz.f9.params.toList (Tryz.f9.params.toList ++ Rows.deskNilSpec.plain.varTypes Tryz.prog ++ Tryz.f9.resultTypes.toList)) = true := by kernel_rfl
theorem closed : joinedFacts Tryz.prog 9 Tryz.f9 Rows.deskNilSpec Rows.deskNilRow = true := by
  simp only [joinedFacts, Bool.and_eq_true]
  exact ⟨⟨⟨⟨⟨⟨⟨⟨⟨⟨⟨⟨⟨⟨⟨⟨⟨⟨⟨⟨⟨⟨⟨⟨⟨⟨⟨⟨⟨⟨⟨j0, j1⟩, j2⟩, j3⟩, j4⟩, j5⟩, j6⟩, j7⟩, j8⟩, j9⟩, j10⟩, j11⟩, j12⟩, j13⟩, j14⟩, j15⟩, j16⟩, j17⟩, j18⟩, j19⟩, j20⟩, j21⟩, j22⟩, j23⟩, j24⟩, j25⟩, j26⟩, j27⟩, j28⟩, j29⟩, j30⟩, j31⟩
end Go.Proofs.YtekecchdjkkoeaaGreatDoor.deskNil
