/- DeskControls' runs, a part. No condition. -/
import Derived.Test.YtekecchdjkkoeaaGreatDoorSeatCt
set_option linter.unusedVariables false
set_option linter.unusedSimpArgs false
namespace Go.Proofs.YtekecchdjkkoeaaGreatDoor
open Go.Ev
theorem ctl_13 : (ctlB 41 2 && (ctlB 42 0 && (ctlB 42 1 && (ctlB 42 2 && (ctlB 43 0 && (ctlB 43 1 && (ctlB 43 2 && (ctlB 44 0 && (ctlB 44 1 && (ctlB 44 2)))))))))) = true := by kernel_rfl
theorem ctl_14 : (ctlB 45 0 && (ctlB 45 1 && (ctlB 45 2 && (ctlB 46 0 && (ctlB 46 1 && (ctlB 46 2 && (ctlB 47 0 && (ctlB 47 1 && (ctlB 47 2 && (ctlB 48 0)))))))))) = true := by kernel_rfl
theorem ctl_15 : (ctlB 48 1 && (ctlB 48 2 && (ctlB 49 0 && (ctlB 49 1 && (ctlB 49 2 && (ctlB 50 0 && (ctlB 50 1 && (ctlB 50 2 && (ctlB 51 0 && (ctlB 51 1)))))))))) = true := by kernel_rfl
end Go.Proofs.YtekecchdjkkoeaaGreatDoor
