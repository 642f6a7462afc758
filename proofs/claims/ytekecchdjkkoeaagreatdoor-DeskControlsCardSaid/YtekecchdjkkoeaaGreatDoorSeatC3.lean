/- DeskControls' runs, a part. No condition. -/
import Derived.Test.YtekecchdjkkoeaaGreatDoorSeatCt
set_option linter.unusedVariables false
set_option linter.unusedSimpArgs false
namespace Go.Proofs.YtekecchdjkkoeaaGreatDoor
open Go.Ev
theorem ctl_7 : (ctlB 21 2 && (ctlB 22 0 && (ctlB 22 1 && (ctlB 22 2 && (ctlB 23 0 && (ctlB 23 1 && (ctlB 23 2 && (ctlB 24 0 && (ctlB 24 1 && (ctlB 24 2)))))))))) = true := by kernel_rfl
theorem ctl_8 : (ctlB 25 0 && (ctlB 25 1 && (ctlB 25 2 && (ctlB 26 0 && (ctlB 26 1 && (ctlB 26 2 && (ctlB 27 0 && (ctlB 27 1 && (ctlB 27 2 && (ctlB 28 0)))))))))) = true := by kernel_rfl
theorem ctl_9 : (ctlB 28 1 && (ctlB 28 2 && (ctlB 29 0 && (ctlB 29 1 && (ctlB 29 2 && (ctlB 30 0 && (ctlB 30 1 && (ctlB 30 2 && (ctlB 31 0 && (ctlB 31 1)))))))))) = true := by kernel_rfl
end Go.Proofs.YtekecchdjkkoeaaGreatDoor
