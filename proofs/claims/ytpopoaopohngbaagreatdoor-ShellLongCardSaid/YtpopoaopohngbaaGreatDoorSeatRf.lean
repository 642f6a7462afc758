/- A part of the proof of this seat's statements. No condition. -/
import Derived.Test.YtpopoaopohngbaaGreatDoorChecked
import Derived.Test.YtpopoaopohngbaaGreatDoorEv5
import Derived.Test.YtpopoaopohngbaaGreatDoorEv4
import Derived.Recover
import Derived.Tactics
import Derived.KernelRfl
set_option linter.unusedVariables false
set_option linter.unusedSimpArgs false
namespace Go.Proofs.YtpopoaopohngbaaGreatDoor
open Go.Ev

theorem eval_put_same {a : Act} {d : Nat} {v : Value} (h : d < a.tmps.size) : (a.put (some d) v).eval (.tmp d) = v := by simp [Act.put, Act.eval, h]
theorem eval_put_ne {a : Act} {d e : Nat} {v : Value} (h : d ≠ e) : (a.put (some d) v).eval (.tmp e) = a.eval (.tmp e) := by simp [Act.put, Act.eval, h]
theorem put_size {a : Act} {d : Option Nat} {v : Value} : (a.put d v).tmps.size = a.tmps.size := by cases d <;> simp [Act.put]
theorem put_defers {a : Act} {d : Option Nat} {v : Value} : (a.put d v).defers = a.defers := by cases d <;> simp [Act.put]

set_option maxRecDepth 100000 in
theorem rf_ok : RfOK Tryz.prog 113 := by
  intro xs w
  refine ⟨?_, ?_⟩
  · have hn : (Tryz.f113.name == "runtime.NumGoroutine") = false := by decide +kernel
    have hb : Tryz.f113.body.isNone = false := rfl
    simp only [callFunc, Sem.run_bind, run_program, Result.andThen_ok, Tryz.func113, hn, hb, Bool.false_eq_true, if_false, Sem.run_pure]
  · refine callsD_of_wpS Tryz.func113 rfl fun c₀ cs hu => ?_
    have hsz : 9 ≤ (xs ++ Array.replicate (Tryz.f113.ntmps - xs.size) undef).size := by
      have : Tryz.f113.ntmps = 9 := rfl
      rw [this]; simp; omega
    generalize hT : xs ++ Array.replicate (Tryz.f113.ntmps - xs.size) undef = T at hsz
    have h3 : 3 < T.size := by omega
    have h2 : 2 < T.size := by omega
    have h4 : 4 < T.size := by omega
    have h5 : 5 < T.size := by omega
    apply wpS_seq
    apply wpS_region
    have hrec : recoverD (c₀ :: cs) = none := by simp [recoverD, hu]
    simp [wpOpsS, go_sem, hrec, Exit.thenS, h3]
    have hu20 : Tryz.prog.underlying 20 = some (.interface #[]) := by kernel_rfl
    have heq : (Op.equal 20 .nilIface .nilIface).run Tryz.prog w = .ok true w := eqS_sound (env := fun _ => none) (k := .iface) (x := .nilIface) (y := .nilIface) (b := true) rfl rfl rfl ⟨_, hu20⟩ (Op.maxDepth - 1) w
    apply wpS_seq
    apply wpS_region
    simp [wpOpsS, go_sem, heq, Exit.thenS, h2, h3, h4, h5, Act.eval, Array.getElem_setIfInBounds, binOp]
    refine wpS_cond (t := false) (by simp [Act.eval, h2, h3, h4, h5]) ?_
    simp only [Bool.false_eq_true, if_false]
    refine wpS_of_wp (wp_skip ?_)
    cases c₀
    simp_all [bodyPostS, results, Tryz.results113, settle, Like]
end Go.Proofs.YtpopoaopohngbaaGreatDoor
