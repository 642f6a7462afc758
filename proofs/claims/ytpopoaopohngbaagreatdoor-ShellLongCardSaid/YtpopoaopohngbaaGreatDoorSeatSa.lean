/- The law's own example. No condition. -/
import Derived.Test.YtpopoaopohngbaaGreatDoorSeatH
import Derived.Test.YtpopoaopohngbaaGreatDoorEv1
set_option linter.unusedVariables false
set_option linter.unusedSimpArgs false
namespace Go.Proofs.YtpopoaopohngbaaGreatDoor
open Go.Ev
theorem awake_run : okT (topA Tryz.prog 10 113 100000 4 .nil H0 10) = true := by kernel_rfl
end Go.Proofs.YtpopoaopohngbaaGreatDoor
