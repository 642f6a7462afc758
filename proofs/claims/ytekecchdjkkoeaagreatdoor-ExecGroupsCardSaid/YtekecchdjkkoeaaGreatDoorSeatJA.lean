/- awake's run. No condition. -/
import Derived.Test.YtekecchdjkkoeaaGreatDoorSeatH
set_option linter.unusedVariables false
set_option linter.unusedSimpArgs false
namespace Go.Proofs.YtekecchdjkkoeaaGreatDoor
open Go.Ev
theorem awake20 : okT (topA Tryz.prog 5 49 100000 10 .nil H0 5) = true := by kernel_rfl
end Go.Proofs.YtekecchdjkkoeaaGreatDoor
