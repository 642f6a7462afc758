/- DeskCloses' runs. No condition. -/
import Derived.Test.YtekecchdjkkoeaaGreatDoorSeatH
set_option linter.unusedVariables false
set_option linter.unusedSimpArgs false
namespace Go.Proofs.YtekecchdjkkoeaaGreatDoor
open Go.Ev
noncomputable def clA (b : Bool) (r : Nat) : AV := .cons (.rs .u8 4 r) (.cons (.bool b) .nil)
theorem closes_f : ([0, 1, 2, 3].all fun r => okT (topA Tryz.prog 5 49 100000 8 (clA false r) H0 5)) = true := by kernel_rfl
theorem closes_t01 : ([0, 1].all fun r => okT (topA Tryz.prog 5 49 100000 8 (clA true r) H0 5)) = true := by kernel_rfl
theorem closes_t23 : ([2, 3].all fun r => okT (topA Tryz.prog 5 49 100000 8 (clA true r) H0 5)) = true := by kernel_rfl
end Go.Proofs.YtekecchdjkkoeaaGreatDoor
