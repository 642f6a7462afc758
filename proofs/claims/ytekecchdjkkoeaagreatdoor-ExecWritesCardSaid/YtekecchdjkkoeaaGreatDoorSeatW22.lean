/- ExecWrites' runs, a part. No condition. -/
import Derived.Test.YtekecchdjkkoeaaGreatDoorSeatTc
set_option linter.unusedVariables false
set_option linter.unusedSimpArgs false
namespace Go.Proofs.YtekecchdjkkoeaaGreatDoor
open Go.Ev
theorem writes_95 : ([(10, true), (11, true), (12, true), (13, true)].all fun p : Nat × Bool => okT (topT Tryz.prog 5 49 100000 3 39 518 rsvRow 10 11 (.cons (.int .i64 13) (.cons (.int .i64 0) .nil)) (.ptr 11 0) (heapT tl_13) 3925 5 (.cons (.rs .u8 15 13) (.cons (.rs .u8 16 p.1) (.cons (.bool p.2) .nil))) H0 5)) = true := by kernel_rfl
theorem writes_96 : ([(14, true), (15, true)].all fun p : Nat × Bool => okT (topT Tryz.prog 5 49 100000 3 39 518 rsvRow 10 11 (.cons (.int .i64 13) (.cons (.int .i64 0) .nil)) (.ptr 11 0) (heapT tl_13) 3925 5 (.cons (.rs .u8 15 13) (.cons (.rs .u8 16 p.1) (.cons (.bool p.2) .nil))) H0 5)) = true := by kernel_rfl
end Go.Proofs.YtekecchdjkkoeaaGreatDoor
