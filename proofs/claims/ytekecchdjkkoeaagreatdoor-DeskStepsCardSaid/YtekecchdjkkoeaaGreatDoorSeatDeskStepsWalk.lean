/- DeskSteps returns true for every input, and every input reads as it did; its tied card. No condition. -/
import Derived.Test.YtekecchdjkkoeaaGreatDoorSeatBase
import Derived.Test.YtekecchdjkkoeaaGreatDoorSeatS0
import Derived.Test.YtekecchdjkkoeaaGreatDoorSeatS1
import Derived.Test.YtekecchdjkkoeaaGreatDoorSeatS2
import Derived.Test.YtekecchdjkkoeaaGreatDoorSeatS3
import Derived.Test.YtekecchdjkkoeaaGreatDoorSeatS4012
import Derived.Test.YtekecchdjkkoeaaGreatDoorSeatS43456
import Derived.Test.YtekecchdjkkoeaaGreatDoorSeatS5012
import Derived.Test.YtekecchdjkkoeaaGreatDoorSeatS53456
import Derived.Test.YtekecchdjkkoeaaGreatDoorSeatS601
import Derived.Test.YtekecchdjkkoeaaGreatDoorSeatS623456
import Derived.Test.YtekecchdjkkoeaaGreatDoorSeatS701
import Derived.Test.YtekecchdjkkoeaaGreatDoorSeatS7234
import Derived.Test.YtekecchdjkkoeaaGreatDoorSeatS756
import Derived.Test.YtekecchdjkkoeaaGreatDoorSeatS80
import Derived.Test.YtekecchdjkkoeaaGreatDoorSeatS81
import Derived.Test.YtekecchdjkkoeaaGreatDoorSeatS823
import Derived.Test.YtekecchdjkkoeaaGreatDoorSeatS8456
set_option linter.unusedVariables false
set_option linter.unusedSimpArgs false
namespace Go.Proofs.YtekecchdjkkoeaaGreatDoor.deskSteps
open Go.ChangeShapes Go.WideShapes Go.ChangeAt Go.RowKit Go.Ev Go.Lib

theorem all_runs : ∀ r s : Nat, r < 9 → s < 7 → okT (topA Tryz.prog 5 49 100000 7 (.cons (.rs .u8 9 r) (.cons (.rs .u8 7 s) .nil)) H0 5) = true := by
  intro r s hr hs
  rcases (by omega : r = 0 ∨ r = 1 ∨ r = 2 ∨ r = 3 ∨ r = 4 ∨ r = 5 ∨ r = 6 ∨ r = 7 ∨ r = 8) with rfl | rfl | rfl | rfl | rfl | rfl | rfl | rfl | rfl
  · rcases (by omega : s = 0 ∨ s = 1 ∨ s = 2 ∨ s = 3 ∨ s = 4 ∨ s = 5 ∨ s = 6) with rfl | rfl | rfl | rfl | rfl | rfl | rfl
    · exact List.all_eq_true.1 steps_S0 0 (by simp)
    · exact List.all_eq_true.1 steps_S0 1 (by simp)
    · exact List.all_eq_true.1 steps_S0 2 (by simp)
    · exact List.all_eq_true.1 steps_S0 3 (by simp)
    · exact List.all_eq_true.1 steps_S0 4 (by simp)
    · exact List.all_eq_true.1 steps_S0 5 (by simp)
    · exact List.all_eq_true.1 steps_S0 6 (by simp)
  · rcases (by omega : s = 0 ∨ s = 1 ∨ s = 2 ∨ s = 3 ∨ s = 4 ∨ s = 5 ∨ s = 6) with rfl | rfl | rfl | rfl | rfl | rfl | rfl
    · exact List.all_eq_true.1 steps_S1 0 (by simp)
    · exact List.all_eq_true.1 steps_S1 1 (by simp)
    · exact List.all_eq_true.1 steps_S1 2 (by simp)
    · exact List.all_eq_true.1 steps_S1 3 (by simp)
    · exact List.all_eq_true.1 steps_S1 4 (by simp)
    · exact List.all_eq_true.1 steps_S1 5 (by simp)
    · exact List.all_eq_true.1 steps_S1 6 (by simp)
  · rcases (by omega : s = 0 ∨ s = 1 ∨ s = 2 ∨ s = 3 ∨ s = 4 ∨ s = 5 ∨ s = 6) with rfl | rfl | rfl | rfl | rfl | rfl | rfl
    · exact List.all_eq_true.1 steps_S2 0 (by simp)
    · exact List.all_eq_true.1 steps_S2 1 (by simp)
    · exact List.all_eq_true.1 steps_S2 2 (by simp)
    · exact List.all_eq_true.1 steps_S2 3 (by simp)
    · exact List.all_eq_true.1 steps_S2 4 (by simp)
    · exact List.all_eq_true.1 steps_S2 5 (by simp)
    · exact List.all_eq_true.1 steps_S2 6 (by simp)
  · rcases (by omega : s = 0 ∨ s = 1 ∨ s = 2 ∨ s = 3 ∨ s = 4 ∨ s = 5 ∨ s = 6) with rfl | rfl | rfl | rfl | rfl | rfl | rfl
    · exact List.all_eq_true.1 steps_S3 0 (by simp)
    · exact List.all_eq_true.1 steps_S3 1 (by simp)
    · exact List.all_eq_true.1 steps_S3 2 (by simp)
    · exact List.all_eq_true.1 steps_S3 3 (by simp)
    · exact List.all_eq_true.1 steps_S3 4 (by simp)
    · exact List.all_eq_true.1 steps_S3 5 (by simp)
    · exact List.all_eq_true.1 steps_S3 6 (by simp)
  · rcases (by omega : s = 0 ∨ s = 1 ∨ s = 2 ∨ s = 3 ∨ s = 4 ∨ s = 5 ∨ s = 6) with rfl | rfl | rfl | rfl | rfl | rfl | rfl
    · exact List.all_eq_true.1 steps_S4012 0 (by simp)
    · exact List.all_eq_true.1 steps_S4012 1 (by simp)
    · exact List.all_eq_true.1 steps_S4012 2 (by simp)
    · exact List.all_eq_true.1 steps_S43456 3 (by simp)
    · exact List.all_eq_true.1 steps_S43456 4 (by simp)
    · exact List.all_eq_true.1 steps_S43456 5 (by simp)
    · exact List.all_eq_true.1 steps_S43456 6 (by simp)
  · rcases (by omega : s = 0 ∨ s = 1 ∨ s = 2 ∨ s = 3 ∨ s = 4 ∨ s = 5 ∨ s = 6) with rfl | rfl | rfl | rfl | rfl | rfl | rfl
    · exact List.all_eq_true.1 steps_S5012 0 (by simp)
    · exact List.all_eq_true.1 steps_S5012 1 (by simp)
    · exact List.all_eq_true.1 steps_S5012 2 (by simp)
    · exact List.all_eq_true.1 steps_S53456 3 (by simp)
    · exact List.all_eq_true.1 steps_S53456 4 (by simp)
    · exact List.all_eq_true.1 steps_S53456 5 (by simp)
    · exact List.all_eq_true.1 steps_S53456 6 (by simp)
  · rcases (by omega : s = 0 ∨ s = 1 ∨ s = 2 ∨ s = 3 ∨ s = 4 ∨ s = 5 ∨ s = 6) with rfl | rfl | rfl | rfl | rfl | rfl | rfl
    · exact List.all_eq_true.1 steps_S601 0 (by simp)
    · exact List.all_eq_true.1 steps_S601 1 (by simp)
    · exact List.all_eq_true.1 steps_S623456 2 (by simp)
    · exact List.all_eq_true.1 steps_S623456 3 (by simp)
    · exact List.all_eq_true.1 steps_S623456 4 (by simp)
    · exact List.all_eq_true.1 steps_S623456 5 (by simp)
    · exact List.all_eq_true.1 steps_S623456 6 (by simp)
  · rcases (by omega : s = 0 ∨ s = 1 ∨ s = 2 ∨ s = 3 ∨ s = 4 ∨ s = 5 ∨ s = 6) with rfl | rfl | rfl | rfl | rfl | rfl | rfl
    · exact List.all_eq_true.1 steps_S701 0 (by simp)
    · exact List.all_eq_true.1 steps_S701 1 (by simp)
    · exact List.all_eq_true.1 steps_S7234 2 (by simp)
    · exact List.all_eq_true.1 steps_S7234 3 (by simp)
    · exact List.all_eq_true.1 steps_S7234 4 (by simp)
    · exact List.all_eq_true.1 steps_S756 5 (by simp)
    · exact List.all_eq_true.1 steps_S756 6 (by simp)
  · rcases (by omega : s = 0 ∨ s = 1 ∨ s = 2 ∨ s = 3 ∨ s = 4 ∨ s = 5 ∨ s = 6) with rfl | rfl | rfl | rfl | rfl | rfl | rfl
    · exact List.all_eq_true.1 steps_S80 0 (by simp)
    · exact List.all_eq_true.1 steps_S81 1 (by simp)
    · exact List.all_eq_true.1 steps_S823 2 (by simp)
    · exact List.all_eq_true.1 steps_S823 3 (by simp)
    · exact List.all_eq_true.1 steps_S8456 4 (by simp)
    · exact List.all_eq_true.1 steps_S8456 5 (by simp)
    · exact List.all_eq_true.1 steps_S8456 6 (by simp)
theorem walk {W : World} (hs : SR (env0 5) H0 5 W) (a : Int) (wa : (Lit.int .u8 a).wf = true) (b : Int) (wb : (Lit.int .u8 b).wf = true) :
    Calls Tryz.prog 7 #[.int .u8 a, .int .u8 b] W fun e w' => e = .returned (.bool true) ∧ Below W.heap.size W w' := by
  obtain ⟨n, rfl, hn⟩ := nat_u8 wa
  obtain ⟨m, rfl, hm⟩ := nat_u8 wb
  refine (calls_true (top_seat 100000) Tryz.func7 rfl (by decide +kernel) (all_runs (n % 9) (m % 7) (Nat.mod_lt _ (by omega)) (Nat.mod_lt _ (by omega))) hs (VL2 (show VR (env0 5) (.rs .u8 9 (n % 9)) (.int .u8 n) from ⟨n, rfl, rfl, hn⟩) (show VR (env0 5) (.rs .u8 7 (m % 7)) (.int .u8 m) from ⟨m, rfl, rfl, hm⟩))).mono ?_
  rintro e w' ⟨h1, h2, h3, h4, h5, h6⟩
  exact ⟨h1, h4, h5, h6, h2, h3⟩

end Go.Proofs.YtekecchdjkkoeaaGreatDoor.deskSteps
