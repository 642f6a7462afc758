/- DeskControls' runs, a part. No condition. -/
import Derived.Test.YtekecchdjkkoeaaGreatDoorSeatCt
set_option linter.unusedVariables false
set_option linter.unusedSimpArgs false
namespace Go.Proofs.YtekecchdjkkoeaaGreatDoor
open Go.Ev
theorem ctl_4 : (ctlB 11 2 && (ctlB 12 0 && (ctlB 12 1 && (ctlB 12 2 && (ctlB 13 0 && (ctlB 13 1 && (ctlB 13 2 && (ctlB 14 0 && (ctlB 14 1 && (ctlB 14 2)))))))))) = true := by kernel_rfl
theorem ctl_5 : (ctlB 15 0 && (ctlB 15 1 && (ctlB 15 2 && (ctlB 16 0 && (ctlB 16 1 && (ctlB 16 2 && (ctlB 17 0 && (ctlB 17 1 && (ctlB 17 2 && (ctlB 18 0)))))))))) = true := by kernel_rfl
theorem ctl_6 : (ctlB 18 1 && (ctlB 18 2 && (ctlB 19 0 && (ctlB 19 1 && (ctlB 19 2 && (ctlB 20 0 && (ctlB 20 1 && (ctlB 20 2 && (ctlB 21 0 && (ctlB 21 1)))))))))) = true := by kernel_rfl
end Go.Proofs.YtekecchdjkkoeaaGreatDoor
