/- DeskNil returns true for every input, and every input reads as it did; its tied card. No condition. -/
import Derived.Test.YtekecchdjkkoeaaGreatDoorSeatNilRun
import Derived.ChangeAt
import Derived.OpenShut
import Derived.Carry
import Derived.Below
import Derived.ProofKit
set_option linter.unusedVariables false
set_option linter.unusedSimpArgs false
namespace Go
/-- as the library's way from a contract to a row, with the world's shape told to the contract -/
theorem returnsInHanded_shaped {H : Type} {enc : TypeId × Value → H} {a : Assume} {C : Checked} {os : Os} {f : FuncId} {fn : Func} {s : ChangeSpec} {conds : List PathCond} {apart fresh handsOn again : Bool} {X : World → Array Value → Prop}
    (hX : ∀ (w w' : World) (args : Array Value), w.heap = w'.heap → X w args → X w' args)
    (own : ownKnob C.prog.godebug = none) (started : os.Started) (noInit : C.prog.inits.idxOf? f = none) (hfn : C.prog.funcs[f]? = some fn)
    (witness : ∃ (w : World) (tape : Tape) (i : Input), w.os = os ∧ (w.forCall tape i).Shaped C.prog ∧ i.vars = [] ∧ Input.okWide C.prog (w.forCall tape i) .any w.heap.size f i ∧
      ((s.pre enc C.prog fn conds apart (w.forCall tape i).memory i.args ∧ X (w.forCall tape i).memory i.args) ∧ sizedMet enc C.prog fn (OpenSpec.ofChange s) apart (w.forCall tape i).memory i.args) ∧ a.holds C.prog (lone (Frame.enter C.prog f i.args .normal) [] (w.forCall tape i)))
    (contract : ∀ (W : World) (base : Nat) (args : Array Value) (ds gs : List (DataW H)) (before : List MemPlace), W.ShapedOpen C.prog →
      (∀ (j : Nat) t v, fn.params[j]? = some t → args[j]? = some v → Value.okWide C.prog W .any base t v) →
      DataW.Whole enc C.prog fn.params.toList s.vars apart W args.toList ds gs before → X W args →
      Calls C.prog f args W fun e W' => ∃ v, e = .returned v ∧ s.post enc C.prog fn apart fresh handsOn again W args v W') :
    ReturnsInHanded a C os f .any (fun w args => (s.pre enc C.prog fn conds apart w args ∧ X w args) ∧ sizedMet enc C.prog fn (OpenSpec.ofChange s) apart w args) (s.post enc C.prog fn apart fresh handsOn again) := by
  refine returnsInHanded_of_calls own started noInit witness ?_
  intro w tape i _ hsh _ hok hpre _
  obtain ⟨_, _, _, fn', hfn', _, _, _, _, hval⟩ := hok
  have e : fn' = fn := Option.some.inj (hfn'.symm.trans hfn)
  subst e
  obtain ⟨⟨⟨ds, gs, before, hw, _⟩, hx⟩, _⟩ := hpre
  have hw' := DataW.Whole.of_heap (w' := w.forCall tape i) (by rfl) hw
  refine (contract (w.forCall tape i) w.heap.size i.args ds gs before hsh hval hw' (hX _ _ _ (by rfl) hx)).mono fun e W' ⟨v, he, hp⟩ => ?_
  subst he
  exact ChangeSpec.post_blind hp
end Go
namespace Go.Proofs.YtekecchdjkkoeaaGreatDoor.deskNil
open Go.ChangeShapes Go.WideShapes Go.ChangeAt Go.RowKit Go.Ev Go.Lib

theorem own : ownKnob Tryz.prog.godebug = none := by kernel_rfl
theorem laidOut : laidOutB Tryz.prog = true := by kernel_rfl

theorem VL2 {env : Env} {x y : AV} {u v : Value} (h1 : VR env x u) (h2 : VR env y v) : VL env (.cons x (.cons y .nil)) [u, v] := ⟨u, [v], rfl, h1, v, [], rfl, h2, rfl⟩

theorem walk {W : World} (hs : SR (env0 5) H0 5 W) (n : Int) (s : ByteArray) :
    Calls Tryz.prog 9 #[.int .i64 n, .string s] W fun e w' => e = .returned (.bool true) ∧ Below W.heap.size W w' := by
  have key : ∀ k ∈ ks, VR (env0 5) k (.int .i64 n) → Calls Tryz.prog 9 #[.int .i64 n, .string s] W fun e w' => e = .returned (.bool true) ∧ Below W.heap.size W w' := by
    intro k hk hv
    have h := List.all_eq_true.1 nil_runs k hk
    refine (calls_true (run_ok 100000) Tryz.func9 rfl (by decide +kernel) h hs (VL2 hv (show VR (env0 5) .unk (.string s) from rfl))).mono ?_
    rintro e w' ⟨h1, h2, h3, h4, h5, h6⟩
    exact ⟨h1, h4, h5, h6, h2, h3⟩
  rcases (by omega : n ≤ -1 ∨ 8 ≤ n ∨ n = 0 ∨ n = 1 ∨ n = 2 ∨ n = 3 ∨ n = 4 ∨ n = 5 ∨ n = 6 ∨ n = 7) with h | h | rfl | rfl | rfl | rfl | rfl | rfl | rfl | rfl
  · exact key (.rng none (some (-1))) (by simp [ks]) ⟨n, rfl, fun l hl => (by cases hl), fun l hl => (by cases hl; exact h)⟩
  · exact key (.rng (some 8) none) (by simp [ks]) ⟨n, rfl, fun l hl => (by cases hl; exact h), fun l hl => (by cases hl)⟩
  all_goals exact key (.int .i64 _) (by simp [ks]) rfl

end Go.Proofs.YtekecchdjkkoeaaGreatDoor.deskNil
