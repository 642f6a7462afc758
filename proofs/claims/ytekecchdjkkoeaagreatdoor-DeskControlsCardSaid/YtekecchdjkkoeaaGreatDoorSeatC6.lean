/- DeskControls' runs, a part. No condition. -/
import Derived.Test.YtekecchdjkkoeaaGreatDoorSeatCt
set_option linter.unusedVariables false
set_option linter.unusedSimpArgs false
namespace Go.Proofs.YtekecchdjkkoeaaGreatDoor
open Go.Ev
theorem ctl_16 : (ctlB 51 2 && (ctlB 52 0 && (ctlB 52 1 && (ctlB 52 2 && (ctlB 53 0 && (ctlB 53 1 && (ctlB 53 2 && (ctlB 54 0 && (ctlB 54 1 && (ctlB 54 2)))))))))) = true := by kernel_rfl
theorem ctl_17 : (ctlB 55 0 && (ctlB 55 1 && (ctlB 55 2 && (ctlB 56 0 && (ctlB 56 1 && (ctlB 56 2 && (ctlB 57 0 && (ctlB 57 1 && (ctlB 57 2 && (ctlB 58 0)))))))))) = true := by kernel_rfl
theorem ctl_18 : (ctlB 58 1 && (ctlB 58 2 && (ctlB 59 0 && (ctlB 59 1 && (ctlB 59 2 && (ctlB 60 0 && (ctlB 60 1 && (ctlB 60 2)))))))) = true := by kernel_rfl
end Go.Proofs.YtekecchdjkkoeaaGreatDoor
