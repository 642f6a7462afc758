/- DeskControls' runs, a part. No condition. -/
import Derived.Test.YtekecchdjkkoeaaGreatDoorSeatCt
set_option linter.unusedVariables false
set_option linter.unusedSimpArgs false
namespace Go.Proofs.YtekecchdjkkoeaaGreatDoor
open Go.Ev
theorem ctl_10 : (ctlB 31 2 && (ctlB 32 0 && (ctlB 32 1 && (ctlB 32 2 && (ctlB 33 0 && (ctlB 33 1 && (ctlB 33 2 && (ctlB 34 0 && (ctlB 34 1 && (ctlB 34 2)))))))))) = true := by kernel_rfl
theorem ctl_11 : (ctlB 35 0 && (ctlB 35 1 && (ctlB 35 2 && (ctlB 36 0 && (ctlB 36 1 && (ctlB 36 2 && (ctlB 37 0 && (ctlB 37 1 && (ctlB 37 2 && (ctlB 38 0)))))))))) = true := by kernel_rfl
theorem ctl_12 : (ctlB 38 1 && (ctlB 38 2 && (ctlB 39 0 && (ctlB 39 1 && (ctlB 39 2 && (ctlB 40 0 && (ctlB 40 1 && (ctlB 40 2 && (ctlB 41 0 && (ctlB 41 1)))))))))) = true := by kernel_rfl
end Go.Proofs.YtekecchdjkkoeaaGreatDoor
