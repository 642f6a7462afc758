/- The heap that a run of this seat begins with. No condition. -/
import Derived.Test.YtpopoaopohngbaaGreatDoorEv1
import Derived.KernelRfl
import Derived.Test.YtpopoaopohngbaaGreatDoorProg
set_option linter.unusedVariables false
set_option linter.unusedSimpArgs false
namespace Go.Proofs.YtpopoaopohngbaaGreatDoor
open Go.Ev
def rsvL : List (List UInt8) := [[97, 110, 100], [97, 115], [97, 115, 99], [98, 101, 103, 105, 110], [98, 111, 111, 108], [98, 121], [99, 111, 109, 109, 105, 116], [99, 111, 117, 110, 116], [99, 114, 101, 97, 116, 101], [100, 101, 108, 101, 116, 101], [100, 101, 115, 99], [100, 114, 111, 112], [102, 97, 108, 115, 101], [102, 114, 111, 109], [103, 114, 111, 117, 112], [105, 110, 100, 101, 120], [105, 110, 115, 101, 114, 116], [105, 110, 116], [105, 110, 116, 111], [105, 115], [106, 111, 105, 110], [108, 105, 109, 105, 116], [109, 97, 120], [109, 105, 110], [110, 111, 116], [110, 117, 108, 108], [111, 110], [111, 114], [111, 114, 100, 101, 114], [114, 111, 108, 108, 98, 97, 99, 107], [115, 101, 108, 101, 99, 116], [115, 101, 116], [115, 117, 109], [116, 97, 98, 108, 101], [116, 101, 120, 116], [116, 114, 117, 101], [117, 112, 100, 97, 116, 101], [118, 97, 108, 117, 101, 115], [119, 104, 101, 114, 101]]
noncomputable def rsvRow : T AV := match rowOf (strsA rsvL) with | some c => c | none => .e
noncomputable def gRows : List AO := [.dead, .dead, .dead, .dead, .dead, .dead, .dead, .dead, .cells rsvRow 39 0 568, .dead]
noncomputable def H0 : Hp := match hpOf gRows 0 .e with | some H => H | none => .e
end Go.Proofs.YtpopoaopohngbaaGreatDoor
