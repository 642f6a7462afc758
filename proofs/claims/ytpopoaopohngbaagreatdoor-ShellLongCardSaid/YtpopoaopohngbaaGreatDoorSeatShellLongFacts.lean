/- ShellLong returns true for every input, and every input reads as it did; its tied card. No condition. -/
import Derived.Test.YtpopoaopohngbaaGreatDoorSeatBase
import Derived.ProofKit
import Derived.JoinedOf
set_option linter.unusedVariables false
set_option linter.unusedSimpArgs false
namespace Go.Proofs.YtpopoaopohngbaaGreatDoor.shellLong
set_option maxRecDepth 100000
theorem jj : (((Rows.shellLongRow.inPlace == Tryz.prog.inPlace 3)) && ((Rows.shellLongRow.unfollowed == Tryz.prog.unfollowed 3)) && ((Rows.shellLongRow.recurses == Tryz.prog.recurses 3)) && ((Rows.shellLongRow.named == Tryz.prog.varsNamed 3))) = true := by kernel_rfl
theorem j0 : (Rows.shellLongRow.wf (OpenSpec.ofChange Rows.shellLongSpec)) = true := by kernel_rfl
theorem j1 : (laidOutB Tryz.prog) = true := laidOut
theorem j2 : (mapsRowed Tryz.prog) = true := by kernel_rfl
theorem j3 : (Tryz.f3.params.all (Tryz.prog.readableRec ·)) = true := by kernel_rfl
theorem j4 : (namedTie Tryz.prog Rows.shellLongRow.named Rows.shellLongSpec.vars) = true := by kernel_rfl
theorem j5 : ((Rows.shellLongRow.stops == [])) = true := by kernel_rfl
theorem j6 : ((Tryz.prog.stops == [])) = true := by kernel_rfl
theorem j7 : ((Rows.shellLongRow.knobs == [])) = true := by kernel_rfl
theorem j8 : ((Tryz.prog.stopKnobs == [])) = true := by kernel_rfl
theorem j9 : ((Rows.shellLongRow.inPlace == Tryz.prog.inPlace 3)) = true := by have := jj; simp only [Bool.and_eq_true] at this; exact this.1.1.1
theorem j10 : ((Rows.shellLongRow.unfollowed == Tryz.prog.unfollowed 3)) = true := by have := jj; simp only [Bool.and_eq_true] at this; exact this.1.1.2
theorem j11 : ((Rows.shellLongRow.recurses == Tryz.prog.recurses 3)) = true := by have := jj; simp only [Bool.and_eq_true] at this; exact this.1.2
theorem j12 : ((Rows.shellLongRow.named == Tryz.prog.varsNamed 3)) = true := by have := jj; simp only [Bool.and_eq_true] at this; exact this.2
theorem j13 : ((Rows.shellLongRow.maps == (Tryz.f3.params.toList ++ Rows.shellLongSpec.plain.varTypes Tryz.prog).any (Tryz.prog.mapsRec ·))) = true := by kernel_rfl
theorem j14 : ((Rows.shellLongRow.ifaces == (Tryz.f3.params.toList ++ Rows.shellLongSpec.plain.varTypes Tryz.prog).any (Tryz.prog.ifacesRec ·))) = true := by kernel_rfl
theorem j15 : ((Rows.shellLongRow.mapsOut == Tryz.prog.mapsAmong Tryz.f3.resultTypes.toList)) = true := by kernel_rfl
theorem j16 : ((Rows.shellLongRow.loops == (Tryz.f3.params.toList ++ Rows.shellLongSpec.plain.varTypes Tryz.prog).any (Tryz.prog.loopsFrom ·))) = true := by kernel_rfl
theorem j17 : ((Rows.shellLongRow.wideKeys == (Tryz.f3.params.toList ++ Rows.shellLongSpec.plain.varTypes Tryz.prog ++ Tryz.f3.resultTypes.toList).any (Tryz.prog.wideKeysFrom ·))) = true := by kernel_rfl
theorem j18 : (Rows.shellLongSpec.vars.all (Tryz.prog.varReadable ·)) = true := by kernel_rfl
theorem j19 : (Tryz.f3.resultTypes.all (fun t => Tryz.prog.readableRec t && decide (t < Tryz.prog.types.size))) = true := by kernel_rfl
theorem j20 : ((Rows.shellLongRow.ifacesOut == Tryz.f3.resultTypes.toList.any (Tryz.prog.ifacesRec ·))) = true := by kernel_rfl
theorem j21 : ((Rows.shellLongRow.loopsOut == Tryz.f3.resultTypes.toList.any (Tryz.prog.loopsFrom ·))) = true := by kernel_rfl
theorem j22 : ((Rows.shellLongRow.plainKeys == Tryz.prog.plainKeys)) = true := by kernel_rfl
theorem j23 : (Rows.shellLongRow.shortTexts.isNone) = true := by kernel_rfl
theorem j24 : (Tryz.prog.stopsHeard) = true := by kernel_rfl
theorem j25 : (Tryz.prog.mayEnter) = true := by kernel_rfl
theorem j26 : ((Rows.shellLongRow.lifted == Tryz.prog.liftsFinal)) = true := by kernel_rfl
theorem j27 : ((Tryz.prog.make == some Rows.shellLongRow.make)) = true := by kernel_rfl
theorem j28 : ((Rows.shellLongRow.kinds == (if Rows.shellLongRow.domain.isEmpty then [] else Tryz.f3.params.toList.map fun t => match Tryz.prog.underlying t with | some (.int k) => some k | _ => none))) = true := by kernel_rfl
theorem j29 : ((Rows.shellLongRow.pinned == Rows.shellLongRow.pinnedBy)) = true := by kernel_rfl
theorem j30 : ((Rows.shellLongRow.veiled == (Tryz.f3.params.toList ++ Rows.shellLongSpec.plain.varTypes Tryz.prog ++ Tryz.f3.resultTypes.toList).any (Tryz.prog.veiledRec ·))) = true := by kernel_rfl
theorem j31 : (Rows.shellLongRow.veiledFits Tryz.prog Tryz.f3.params.toList (Tryz.f3.params.toList ++ Rows.shellLongSpec.plain.varTypes Tryz.prog ++ Tryz.f3.resultTypes.toList)) = true := by kernel_rfl
theorem closed : joinedFacts Tryz.prog 3 Tryz.f3 Rows.shellLongSpec Rows.shellLongRow = true := by
  simp only [joinedFacts, Bool.and_eq_true]
  exact ⟨⟨⟨⟨⟨⟨⟨⟨⟨⟨⟨⟨⟨⟨⟨⟨⟨⟨⟨⟨⟨⟨⟨⟨⟨⟨⟨⟨⟨⟨⟨j0, j1⟩, j2⟩, j3⟩, j4⟩, j5⟩, j6⟩, j7⟩, j8⟩, j9⟩, j10⟩, j11⟩, j12⟩, j13⟩, j14⟩, j15⟩, j16⟩, j17⟩, j18⟩, j19⟩, j20⟩, j21⟩, j22⟩, j23⟩, j24⟩, j25⟩, j26⟩, j27⟩, j28⟩, j29⟩, j30⟩, j31⟩
end Go.Proofs.YtpopoaopohngbaaGreatDoor.shellLong
