/- ExecJoins' runs, a part. No condition. -/
import Derived.Test.YtekecchdjkkoeaaGreatDoorSeatH
set_option linter.unusedVariables false
set_option linter.unusedSimpArgs false
namespace Go.Proofs.YtekecchdjkkoeaaGreatDoor
open Go.Ev
theorem joins_14_1 : ([(2, 2), (1, 3)].all fun p : Nat × Nat => okT (topO Tryz.prog 5 49 100000 3 39 518 rsvRow 10 3 (.cons (.rs .u8 7 p.1) (.cons (.rs .u8 7 p.2) .nil)) H0 5)) = true := by kernel_rfl
theorem joins_14_2 : ([(0, 4)].all fun p : Nat × Nat => okT (topO Tryz.prog 5 49 100000 3 39 518 rsvRow 10 3 (.cons (.rs .u8 7 p.1) (.cons (.rs .u8 7 p.2) .nil)) H0 5)) = true := by kernel_rfl
end Go.Proofs.YtekecchdjkkoeaaGreatDoor
