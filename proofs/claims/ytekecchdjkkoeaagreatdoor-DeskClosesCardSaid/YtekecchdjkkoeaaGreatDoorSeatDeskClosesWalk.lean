/- DeskCloses returns true for every input, and every input reads as it did; its tied card. No condition. -/
import Derived.Test.YtekecchdjkkoeaaGreatDoorSeatBase
import Derived.Test.YtekecchdjkkoeaaGreatDoorSeatCRun
set_option linter.unusedVariables false
set_option linter.unusedSimpArgs false
namespace Go.Proofs.YtekecchdjkkoeaaGreatDoor.deskCloses
open Go.ChangeShapes Go.WideShapes Go.ChangeAt Go.RowKit Go.Ev Go.Lib

theorem walk {W : World} (hs : SR (env0 5) H0 5 W) (a : Int) (wa : (Lit.int .u8 a).wf = true) (b : Bool) :
    Calls Tryz.prog 8 #[.int .u8 a, .bool b] W fun e w' => e = .returned (.bool true) ∧ Below W.heap.size W w' := by
  obtain ⟨n, rfl, hn⟩ := nat_u8 wa
  have key : okT (topA Tryz.prog 5 49 100000 8 (clA b (n % 4)) H0 5) = true → Calls Tryz.prog 8 #[.int .u8 n, .bool b] W fun e w' => e = .returned (.bool true) ∧ Below W.heap.size W w' := by
    intro h
    refine (calls_true (top_seat 100000) Tryz.func8 rfl (by decide +kernel) h hs (VL2 (show VR (env0 5) (.rs .u8 4 (n % 4)) (.int .u8 n) from ⟨n, rfl, by rw [if_pos (by omega)], hn⟩) (show VR (env0 5) (.bool b) (.bool b) from rfl))).mono ?_
    rintro e w' ⟨h1, h2, h3, h4, h5, h6⟩
    exact ⟨h1, h4, h5, h6, h2, h3⟩
  refine key ?_
  have hf := List.all_eq_true.1 closes_f
  have h0 := List.all_eq_true.1 closes_t01
  have h2 := List.all_eq_true.1 closes_t23
  rcases (by omega : n % 4 = 0 ∨ n % 4 = 1 ∨ n % 4 = 2 ∨ n % 4 = 3) with e | e | e | e <;> rw [e] <;> cases b
  · exact hf 0 (by simp)
  · exact h0 0 (by simp)
  · exact hf 1 (by simp)
  · exact h0 1 (by simp)
  · exact hf 2 (by simp)
  · exact h2 2 (by simp)
  · exact hf 3 (by simp)
  · exact h2 3 (by simp)

end Go.Proofs.YtekecchdjkkoeaaGreatDoor.deskCloses
