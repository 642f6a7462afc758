/- ExecJoins returns true for every input, and every input reads as it did; its tied card. No condition. -/
import Derived.Test.YtekecchdjkkoeaaGreatDoorSeatBase
import Derived.Test.YtekecchdjkkoeaaGreatDoorSeatJStart
import Derived.Test.YtekecchdjkkoeaaGreatDoorSeatJ1
import Derived.Test.YtekecchdjkkoeaaGreatDoorSeatJ2
import Derived.Test.YtekecchdjkkoeaaGreatDoorSeatJ3
import Derived.Test.YtekecchdjkkoeaaGreatDoorSeatJ4
import Derived.Test.YtekecchdjkkoeaaGreatDoorSeatJ5
import Derived.Test.YtekecchdjkkoeaaGreatDoorSeatJ6
import Derived.Test.YtekecchdjkkoeaaGreatDoorSeatJ7
import Derived.Test.YtekecchdjkkoeaaGreatDoorSeatJ8
import Derived.Test.YtekecchdjkkoeaaGreatDoorSeatJ9
import Derived.Test.YtekecchdjkkoeaaGreatDoorSeatJ10
import Derived.Test.YtekecchdjkkoeaaGreatDoorSeatJ11
import Derived.Test.YtekecchdjkkoeaaGreatDoorSeatJ12
import Derived.Test.YtekecchdjkkoeaaGreatDoorSeatJ13
import Derived.Test.YtekecchdjkkoeaaGreatDoorSeatJ14
import Derived.Test.YtekecchdjkkoeaaGreatDoorSeatJ15
import Derived.Test.YtekecchdjkkoeaaGreatDoorSeatJ16
import Derived.Test.YtekecchdjkkoeaaGreatDoorSeatJ17
import Derived.Test.YtekecchdjkkoeaaGreatDoorSeatJ18
import Derived.Test.YtekecchdjkkoeaaGreatDoorSeatJ19
import Derived.Test.YtekecchdjkkoeaaGreatDoorSeatJ20
import Derived.Test.YtekecchdjkkoeaaGreatDoorSeatJ21
import Derived.Test.YtekecchdjkkoeaaGreatDoorSeatJ22
set_option linter.unusedVariables false
set_option linter.unusedSimpArgs false
namespace Go.Proofs.YtekecchdjkkoeaaGreatDoor.execJoins
open Go.ChangeShapes Go.WideShapes Go.ChangeAt Go.RowKit Go.Ev Go.Lib

theorem all_runs : ∀ r s : Nat, r < 7 → s < 7 → okT (topO Tryz.prog 5 49 100000 3 39 518 rsvRow 10 3 (.cons (.rs .u8 7 r) (.cons (.rs .u8 7 s) .nil)) H0 5) = true := by
  intro r s hr hs
  rcases (by omega : r = 0 ∨ r = 1 ∨ r = 2 ∨ r = 3 ∨ r = 4 ∨ r = 5 ∨ r = 6) with rfl | rfl | rfl | rfl | rfl | rfl | rfl
  · rcases (by omega : s = 0 ∨ s = 1 ∨ s = 2 ∨ s = 3 ∨ s = 4 ∨ s = 5 ∨ s = 6) with rfl | rfl | rfl | rfl | rfl | rfl | rfl
    · exact List.all_eq_true.1 joins_9_2 (0, 0) (by simp)
    · exact List.all_eq_true.1 joins_9_1 (0, 1) (by simp)
    · exact List.all_eq_true.1 joins_8_1 (0, 2) (by simp)
    · exact List.all_eq_true.1 joins_12_1 (0, 3) (by simp)
    · exact List.all_eq_true.1 joins_14_2 (0, 4) (by simp)
    · exact List.all_eq_true.1 joins_10_2 (0, 5) (by simp)
    · exact List.all_eq_true.1 joins_7_1 (0, 6) (by simp)
  · rcases (by omega : s = 0 ∨ s = 1 ∨ s = 2 ∨ s = 3 ∨ s = 4 ∨ s = 5 ∨ s = 6) with rfl | rfl | rfl | rfl | rfl | rfl | rfl
    · exact List.all_eq_true.1 joins_8_2 (1, 0) (by simp)
    · exact List.all_eq_true.1 joins_7_2 (1, 1) (by simp)
    · exact List.all_eq_true.1 joins_11_2 (1, 2) (by simp)
    · exact List.all_eq_true.1 joins_14_1 (1, 3) (by simp)
    · exact List.all_eq_true.1 joins_11_1 (1, 4) (by simp)
    · exact List.all_eq_true.1 joins_7_2 (1, 5) (by simp)
    · exact List.all_eq_true.1 joins_15_1 (1, 6) (by simp)
  · rcases (by omega : s = 0 ∨ s = 1 ∨ s = 2 ∨ s = 3 ∨ s = 4 ∨ s = 5 ∨ s = 6) with rfl | rfl | rfl | rfl | rfl | rfl | rfl
    · exact List.all_eq_true.1 joins_7_1 (2, 0) (by simp)
    · exact List.all_eq_true.1 joins_11_1 (2, 1) (by simp)
    · exact List.all_eq_true.1 joins_14_1 (2, 2) (by simp)
    · exact List.all_eq_true.1 joins_11_2 (2, 3) (by simp)
    · exact List.all_eq_true.1 joins_8_1 (2, 4) (by simp)
    · exact List.all_eq_true.1 joins_15_2 (2, 5) (by simp)
    · exact List.all_eq_true.1 joins_18_1 (2, 6) (by simp)
  · rcases (by omega : s = 0 ∨ s = 1 ∨ s = 2 ∨ s = 3 ∨ s = 4 ∨ s = 5 ∨ s = 6) with rfl | rfl | rfl | rfl | rfl | rfl | rfl
    · exact List.all_eq_true.1 joins_10_2 (3, 0) (by simp)
    · exact List.all_eq_true.1 joins_13_2 (3, 1) (by simp)
    · exact List.all_eq_true.1 joins_12_1 (3, 2) (by simp)
    · exact List.all_eq_true.1 joins_8_2 (3, 3) (by simp)
    · exact List.all_eq_true.1 joins_16_1 (3, 4) (by simp)
    · exact List.all_eq_true.1 joins_18_2 (3, 5) (by simp)
    · exact List.all_eq_true.1 joins_20_2 (3, 6) (by simp)
  · rcases (by omega : s = 0 ∨ s = 1 ∨ s = 2 ∨ s = 3 ∨ s = 4 ∨ s = 5 ∨ s = 6) with rfl | rfl | rfl | rfl | rfl | rfl | rfl
    · exact List.all_eq_true.1 joins_13_2 (4, 0) (by simp)
    · exact List.all_eq_true.1 joins_12_2 (4, 1) (by simp)
    · exact List.all_eq_true.1 joins_9_1 (4, 2) (by simp)
    · exact List.all_eq_true.1 joins_16_2 (4, 3) (by simp)
    · exact List.all_eq_true.1 joins_19_1 (4, 4) (by simp)
    · exact List.all_eq_true.1 joins_21_1 (4, 5) (by simp)
    · exact List.all_eq_true.1 joins_1_1 (4, 6) (by simp)
  · rcases (by omega : s = 0 ∨ s = 1 ∨ s = 2 ∨ s = 3 ∨ s = 4 ∨ s = 5 ∨ s = 6) with rfl | rfl | rfl | rfl | rfl | rfl | rfl
    · exact List.all_eq_true.1 joins_13_1 (5, 0) (by simp)
    · exact List.all_eq_true.1 joins_9_2 (5, 1) (by simp)
    · exact List.all_eq_true.1 joins_17_1 (5, 2) (by simp)
    · exact List.all_eq_true.1 joins_19_2 (5, 3) (by simp)
    · exact List.all_eq_true.1 joins_21_2 (5, 4) (by simp)
    · exact List.all_eq_true.1 joins_2_1 (5, 5) (by simp)
    · exact List.all_eq_true.1 joins_4_1 (5, 6) (by simp)
  · rcases (by omega : s = 0 ∨ s = 1 ∨ s = 2 ∨ s = 3 ∨ s = 4 ∨ s = 5 ∨ s = 6) with rfl | rfl | rfl | rfl | rfl | rfl | rfl
    · exact List.all_eq_true.1 joins_10_1 (6, 0) (by simp)
    · exact List.all_eq_true.1 joins_17_2 (6, 1) (by simp)
    · exact List.all_eq_true.1 joins_20_1 (6, 2) (by simp)
    · exact List.all_eq_true.1 joins_22_1 (6, 3) (by simp)
    · exact List.all_eq_true.1 joins_3_1 (6, 4) (by simp)
    · exact List.all_eq_true.1 joins_5_1 (6, 5) (by simp)
    · exact List.all_eq_true.1 joins_6_1 (6, 6) (by simp)
theorem walk {W : World} (hs : SR (env0 5) H0 5 W) (a : Int) (wa : (Lit.int .u8 a).wf = true) (b : Int) (wb : (Lit.int .u8 b).wf = true) :
    Calls Tryz.prog 3 #[.int .u8 a, .int .u8 b] W fun e w' => e = .returned (.bool true) ∧ Below W.heap.size W w' := by
  obtain ⟨n, rfl, hn⟩ := nat_u8 wa
  obtain ⟨m, rfl, hm⟩ := nat_u8 wb
  refine (calls_true top_j Tryz.func3 rfl (by decide +kernel) (all_runs (n % 7) (m % 7) (Nat.mod_lt _ (by omega)) (Nat.mod_lt _ (by omega))) hs (VL2 (show VR (env0 5) (.rs .u8 7 (n % 7)) (.int .u8 n) from ⟨n, rfl, rfl, hn⟩) (show VR (env0 5) (.rs .u8 7 (m % 7)) (.int .u8 m) from ⟨m, rfl, rfl, hm⟩))).mono ?_
  rintro e w' ⟨h1, h2, h3, h4, h5, h6⟩
  exact ⟨h1, h4, h5, h6, h2, h3⟩

end Go.Proofs.YtekecchdjkkoeaaGreatDoor.execJoins
