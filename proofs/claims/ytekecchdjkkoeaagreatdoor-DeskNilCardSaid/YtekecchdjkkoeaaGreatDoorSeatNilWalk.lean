/- DeskNil returns true for every input, and every input reads as it did; its tied card. No condition. -/
import Derived.Test.YtekecchdjkkoeaaGreatDoorSeatBase
import Derived.Test.YtekecchdjkkoeaaGreatDoorSeatNilRun
set_option linter.unusedVariables false
set_option linter.unusedSimpArgs false
namespace Go.Proofs.YtekecchdjkkoeaaGreatDoor.deskNil
open Go.ChangeShapes Go.WideShapes Go.ChangeAt Go.RowKit Go.Ev Go.Lib

theorem walk {W : World} (hs : SR (env0 5) H0 5 W) (n : Int) (s : ByteArray) :
    Calls Tryz.prog 9 #[.int .i64 n, .string s] W fun e w' => e = .returned (.bool true) ∧ Below W.heap.size W w' := by
  have key : ∀ k ∈ ks, VR (env0 5) k (.int .i64 n) → Calls Tryz.prog 9 #[.int .i64 n, .string s] W fun e w' => e = .returned (.bool true) ∧ Below W.heap.size W w' := by
    intro k hk hv
    have h := List.all_eq_true.1 nil_runs k hk
    refine (calls_true (top_seat 100000) Tryz.func9 rfl (by decide +kernel) h hs (VL2 hv (show VR (env0 5) .unk (.string s) from rfl))).mono ?_
    rintro e w' ⟨h1, h2, h3, h4, h5, h6⟩
    exact ⟨h1, h4, h5, h6, h2, h3⟩
  rcases (by omega : n ≤ -1 ∨ 8 ≤ n ∨ n = 0 ∨ n = 1 ∨ n = 2 ∨ n = 3 ∨ n = 4 ∨ n = 5 ∨ n = 6 ∨ n = 7) with h | h | rfl | rfl | rfl | rfl | rfl | rfl | rfl | rfl
  · exact key (.rng none (some (-1))) (by simp [ks]) ⟨n, rfl, fun l hl => (by cases hl), fun l hl => (by cases hl; exact h)⟩
  · exact key (.rng (some 8) none) (by simp [ks]) ⟨n, rfl, fun l hl => (by cases hl; exact h), fun l hl => (by cases hl)⟩
  all_goals exact key (.int .i64 _) (by simp [ks]) rfl

end Go.Proofs.YtekecchdjkkoeaaGreatDoor.deskNil
