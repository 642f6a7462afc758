/- ExecWrites' runs, a part. No condition. -/
import Derived.Test.YtekecchdjkkoeaaGreatDoorSeatTb
set_option linter.unusedVariables false
set_option linter.unusedSimpArgs false
namespace Go.Proofs.YtekecchdjkkoeaaGreatDoor
open Go.Ev
theorem writes_49 : ([(5, true), (6, true), (7, true), (8, true), (9, true), (10, true)].all fun p : Nat × Bool => okT (topT Tryz.prog 5 49 100000 3 39 518 rsvRow 10 11 (.cons (.int .i64 9) (.cons (.int .i64 0) .nil)) (.ptr 11 0) (heapT tl_9) 2810 5 (.cons (.rs .u8 15 9) (.cons (.rs .u8 16 p.1) (.cons (.bool p.2) .nil))) H0 5)) = true := by kernel_rfl
theorem writes_50 : ([(11, true), (12, true), (13, true), (14, true), (15, true)].all fun p : Nat × Bool => okT (topT Tryz.prog 5 49 100000 3 39 518 rsvRow 10 11 (.cons (.int .i64 9) (.cons (.int .i64 0) .nil)) (.ptr 11 0) (heapT tl_9) 2810 5 (.cons (.rs .u8 15 9) (.cons (.rs .u8 16 p.1) (.cons (.bool p.2) .nil))) H0 5)) = true := by kernel_rfl
end Go.Proofs.YtekecchdjkkoeaaGreatDoor
