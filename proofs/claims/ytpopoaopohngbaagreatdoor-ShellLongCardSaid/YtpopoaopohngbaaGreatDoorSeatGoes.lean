/- A part of the proof of this seat's statements. No condition. -/
import Derived.Test.YtpopoaopohngbaaGreatDoorSeatFacts
import Derived.SevenTiedAt
set_option linter.unusedVariables false
set_option linter.unusedSimpArgs false
namespace Go.Proofs.YtpopoaopohngbaaGreatDoor
set_option maxRecDepth 100000
theorem goes_all : (Tryz.prog.funcs.toList.all fun fn => !fn.goes) = true := by kernel_rfl
theorem goes_not (g : Nat) : (Tryz.prog.funcs[g]?).any Func.goes = false := by
  cases h : Tryz.prog.funcs[g]? with
  | none => rfl
  | some fn =>
    have hm : fn ∈ Tryz.prog.funcs.toList := by simpa using Array.mem_of_getElem? h
    have := List.all_eq_true.1 goes_all fn hm
    simpa using this
theorem goes_prog (f : Nat) : Tryz.prog.goes f = false := by
  have h1 : Tryz.prog.funcs.any Func.goes = false := by
    rw [← Array.any_toList]
    rw [List.any_eq_false]
    intro fn hm
    have := List.all_eq_true.1 goes_all fn hm
    simpa using this
  unfold Program.goes
  rw [h1, Bool.and_false, Bool.or_false, List.any_eq_false]
  intro g _
  rw [goes_not]; simp
theorem goes_by {c : OpenClaim} (h : c.start = .entering) : false = c.goesBy Tryz.prog := by
  unfold OpenClaim.goesBy Program.goesAt Program.goesFrom
  rw [h]
  cases Tryz.prog.funcNamed c.func with
  | none => rfl
  | some f => simp [goes_prog]
end Go.Proofs.YtpopoaopohngbaaGreatDoor
