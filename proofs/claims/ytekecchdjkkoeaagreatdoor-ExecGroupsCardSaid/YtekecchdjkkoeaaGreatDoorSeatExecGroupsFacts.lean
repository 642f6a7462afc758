/- ExecGroups returns true for every input, and every input reads as it did; its tied card. No condition. -/
import Derived.Test.YtekecchdjkkoeaaGreatDoorSeatBase
import Derived.ProofKit
import Derived.JoinedOf
set_option linter.unusedVariables false
set_option linter.unusedSimpArgs false
namespace Go.Proofs.YtekecchdjkkoeaaGreatDoor.execGroups
set_option maxRecDepth 100000
theorem jj : (((Rows.execGroupsRow.inPlace == Tryz.prog.inPlace 4)) && ((Rows.execGroupsRow.unfollowed == Tryz.prog.unfollowed 4)) && ((Rows.execGroupsRow.recurses == Tryz.prog.recurses 4)) && ((Rows.execGroupsRow.named == Tryz.prog.varsNamed 4))) = true := by kernel_rfl
theorem j0 : (Rows.execGroupsRow.wf (OpenSpec.ofChange Rows.execGroupsSpec)) = true := by kernel_rfl
theorem j1 : (laidOutB Tryz.prog) = true := laidOut
theorem j2 : (mapsRowed Tryz.prog) = true := by kernel_rfl
theorem j3 : (Tryz.f4.params.all (Tryz.prog.readableRec ·)) = true := by kernel_rfl
theorem j4 : (namedTie Tryz.prog Rows.execGroupsRow.named Rows.execGroupsSpec.vars) = true := by kernel_rfl
theorem j5 : ((Rows.execGroupsRow.stops == [])) = true := by kernel_rfl
theorem j6 : ((Tryz.prog.stops == [])) = true := by kernel_rfl
theorem j7 : ((Rows.execGroupsRow.knobs == [])) = true := by kernel_rfl
theorem j8 : ((Tryz.prog.stopKnobs == [])) = true := by kernel_rfl
theorem j9 : ((Rows.execGroupsRow.inPlace == Tryz.prog.inPlace 4)) = true := by have := jj; simp only [Bool.and_eq_true] at this; exact this.1.1.1
theorem j10 : ((Rows.execGroupsRow.unfollowed == Tryz.prog.unfollowed 4)) = true := by have := jj; simp only [Bool.and_eq_true] at this; exact this.1.1.2
theorem j11 : ((Rows.execGroupsRow.recurses == Tryz.prog.recurses 4)) = true := by have := jj; simp only [Bool.and_eq_true] at this; exact this.1.2
theorem j12 : ((Rows.execGroupsRow.named == Tryz.prog.varsNamed 4)) = true := by have := jj; simp only [Bool.and_eq_true] at this; exact this.2
theorem j13 : ((Rows.execGroupsRow.maps == (Tryz.f4.params.toList ++ Rows.execGroupsSpec.plain.varTypes Tryz.prog).any (Tryz.prog.mapsRec ·))) = true := by kernel_rfl
theorem j14 : ((Rows.execGroupsRow.ifaces == (Tryz.f4.params.toList ++ Rows.execGroupsSpec.plain.varTypes Tryz.prog).any (Tryz.prog.ifacesRec ·))) = true := by kernel_rfl
theorem j15 : ((Rows.execGroupsRow.mapsOut == Tryz.prog.mapsAmong Tryz.f4.resultTypes.toList)) = true := by kernel_rfl
theorem j16 : ((Rows.execGroupsRow.loops == (Tryz.f4.params.toList ++ Rows.execGroupsSpec.plain.varTypes Tryz.prog).any (Tryz.prog.loopsFrom ·))) = true := by kernel_rfl
theorem j17 : ((Rows.execGroupsRow.wideKeys == (Tryz.f4.params.toList ++ Rows.execGroupsSpec.plain.varTypes Tryz.prog ++ Tryz.f4.resultTypes.toList).any (Tryz.prog.wideKeysFrom ·))) = true := by kernel_rfl
theorem j18 : (Rows.execGroupsSpec.vars.all (Tryz.prog.varReadable ·)) = true := by kernel_rfl
theorem j19 : (Tryz.f4.resultTypes.all (fun t => Tryz.prog.readableRec t && decide (t < Tryz.prog.types.size))) = true := by kernel_rfl
theorem j20 : ((Rows.execGroupsRow.ifacesOut == Tryz.f4.resultTypes.toList.any (Tryz.prog.ifacesRec ·))) = true := by kernel_rfl
theorem j21 : ((Rows.execGroupsRow.loopsOut == Tryz.f4.resultTypes.toList.any (Tryz.prog.loopsFrom ·))) = true := by kernel_rfl
theorem j22 : ((Rows.execGroupsRow.plainKeys == Tryz.prog.plainKeys)) = true := by kernel_rfl
theorem j23 : (Rows.execGroupsRow.shortTexts.isNone) = true := by kernel_rfl
theorem j24 : (Tryz.prog.stopsHeard) = true := by kernel_rfl
theorem j25 : (Tryz.prog.mayEnter) = true := by kernel_rfl
theorem j26 : ((Rows.execGroupsRow.lifted == Tryz.prog.liftsFinal)) = true := by kernel_rfl
theorem j27 : ((Tryz.prog.make == some Rows.execGroupsRow.make)) = true := by kernel_rfl
theorem j28 : ((Rows.execGroupsRow.kinds == (if Rows.execGroupsRow.domain.isEmpty then [] else Tryz.f4.params.toList.map fun t => match Tryz.prog.underlying t with | some (.int k) => some k | _ => none))) = true := by kernel_rfl
theorem j29 : ((Rows.execGroupsRow.pinned == Rows.execGroupsRow.pinnedBy)) = true := by kernel_rfl
theorem j30 : ((Rows.execGroupsRow.veiled == (Tryz.f4.params.toList ++ Rows.execGroupsSpec.plain.varTypes Tryz.prog ++ Tryz.f4.resultTypes.toList).any (Tryz.prog.veiledRec ·))) = true := by kernel_rfl
theorem j31 : (Rows.execGroupsRow.veiledFits Tryz.prog Tryz.f4.params.toList (Tryz.f4.params.toList ++ Rows.execGroupsSpec.plain.varTypes Tryz.prog ++ Tryz.f4.resultTypes.toList)) = true := by kernel_rfl
theorem closed : joinedFacts Tryz.prog 4 Tryz.f4 Rows.execGroupsSpec Rows.execGroupsRow = true := by
  simp only [joinedFacts, Bool.and_eq_true]
  exact ⟨⟨⟨⟨⟨⟨⟨⟨⟨⟨⟨⟨⟨⟨⟨⟨⟨⟨⟨⟨⟨⟨⟨⟨⟨⟨⟨⟨⟨⟨⟨j0, j1⟩, j2⟩, j3⟩, j4⟩, j5⟩, j6⟩, j7⟩, j8⟩, j9⟩, j10⟩, j11⟩, j12⟩, j13⟩, j14⟩, j15⟩, j16⟩, j17⟩, j18⟩, j19⟩, j20⟩, j21⟩, j22⟩, j23⟩, j24⟩, j25⟩, j26⟩, j27⟩, j28⟩, j29⟩, j30⟩, j31⟩
end Go.Proofs.YtekecchdjkkoeaaGreatDoor.execGroups
