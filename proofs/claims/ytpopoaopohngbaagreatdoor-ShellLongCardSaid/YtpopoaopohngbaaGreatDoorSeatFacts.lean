/- A part of the proof of this seat's statements. No condition. -/
import Derived.Test.YtpopoaopohngbaaGreatDoorSeatRf
set_option linter.unusedVariables false
set_option linter.unusedSimpArgs false
namespace Go.Proofs.YtpopoaopohngbaaGreatDoor
open Go.Ev
set_option maxRecDepth 100000
theorem hmix : Tryz.prog.follows .mixedOrders = true := by kernel_rfl
theorem name_all : (Tryz.prog.funcs.toList.all fun fn => !(fn.body.isSome && fn.name == "runtime.NumGoroutine")) = true := by kernel_rfl
theorem hname : ∀ (f : Nat) (fn : Func), Tryz.prog.funcs[f]? = some fn → fn.body.isSome = true → (fn.name == "runtime.NumGoroutine") = false := by
  intro f fn hf hb
  have hm : fn ∈ Tryz.prog.funcs.toList := by simpa using Array.mem_of_getElem? hf
  have := List.all_eq_true.1 name_all fn hm
  rw [hb] at this
  simpa using this
theorem next_all : (Tryz.prog.funcs.toList.all fun fn => fn.body.isSome || (Extern.findNext fn).isNone) = true := by kernel_rfl
theorem next_ok : NextOK Tryz.prog := by
  intro f fn hf hb
  have hm : fn ∈ Tryz.prog.funcs.toList := by simpa using Array.mem_of_getElem? hf
  have := List.all_eq_true.1 next_all fn hm
  rw [hb] at this
  simpa using this

theorem run_ok (n : Nat) : CallOK Tryz.prog 10 (fun f args H nx => evCall Tryz.prog 10 113 n f args H nx) :=
  evCall_ok rf_ok (ext_ok next_ok) hname (draw_ok hmix) n
#print axioms run_ok
end Go.Proofs.YtpopoaopohngbaaGreatDoor
