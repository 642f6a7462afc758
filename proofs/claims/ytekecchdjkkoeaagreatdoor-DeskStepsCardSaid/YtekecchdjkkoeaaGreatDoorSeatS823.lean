/- DeskSteps' runs, a part. No condition. -/
import Derived.Test.YtekecchdjkkoeaaGreatDoorSeatBase
set_option linter.unusedVariables false
set_option linter.unusedSimpArgs false
namespace Go.Proofs.YtekecchdjkkoeaaGreatDoor
open Go.Ev
theorem steps_S823 : ([2, 3].all fun k => okT (topA Tryz.prog 5 49 100000 7 (.cons (.rs .u8 9 8) (.cons (.rs .u8 7 k) .nil)) H0 5)) = true := by kernel_rfl
end Go.Proofs.YtekecchdjkkoeaaGreatDoor
