/- DeskControls' runs, a part. No condition. -/
import Derived.Test.YtekecchdjkkoeaaGreatDoorSeatCt
set_option linter.unusedVariables false
set_option linter.unusedSimpArgs false
namespace Go.Proofs.YtekecchdjkkoeaaGreatDoor
open Go.Ev
theorem ctl_1 : (ctlB 1 0 && (ctlB 2 0 && (ctlB 2 1 && (ctlB 2 2 && (ctlB 3 0 && (ctlB 3 1 && (ctlB 3 2 && (ctlB 4 0 && (ctlB 4 1 && (ctlB 4 2)))))))))) = true := by kernel_rfl
theorem ctl_2 : (ctlB 5 0 && (ctlB 5 1 && (ctlB 5 2 && (ctlB 6 0 && (ctlB 6 1 && (ctlB 6 2 && (ctlB 7 0 && (ctlB 7 1 && (ctlB 7 2 && (ctlB 8 0)))))))))) = true := by kernel_rfl
theorem ctl_3 : (ctlB 8 1 && (ctlB 8 2 && (ctlB 9 0 && (ctlB 9 1 && (ctlB 9 2 && (ctlB 10 0 && (ctlB 10 1 && (ctlB 10 2 && (ctlB 11 0 && (ctlB 11 1)))))))))) = true := by kernel_rfl
end Go.Proofs.YtekecchdjkkoeaaGreatDoor
