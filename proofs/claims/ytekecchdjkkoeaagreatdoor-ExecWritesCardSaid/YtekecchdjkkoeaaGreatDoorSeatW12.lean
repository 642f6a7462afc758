/- ExecWrites' runs, a part. No condition. -/
import Derived.Test.YtekecchdjkkoeaaGreatDoorSeatTb
set_option linter.unusedVariables false
set_option linter.unusedSimpArgs false
namespace Go.Proofs.YtekecchdjkkoeaaGreatDoor
open Go.Ev
theorem writes_43 : ([(0, false), (1, false)].all fun p : Nat × Bool => okT (topT Tryz.prog 5 49 100000 3 39 518 rsvRow 10 11 (.cons (.int .i64 9) (.cons (.int .i64 0) .nil)) (.ptr 11 0) (heapT tl_9) 2810 5 (.cons (.rs .u8 15 9) (.cons (.rs .u8 16 p.1) (.cons (.bool p.2) .nil))) H0 5)) = true := by kernel_rfl
theorem writes_44 : ([(2, false), (3, false)].all fun p : Nat × Bool => okT (topT Tryz.prog 5 49 100000 3 39 518 rsvRow 10 11 (.cons (.int .i64 9) (.cons (.int .i64 0) .nil)) (.ptr 11 0) (heapT tl_9) 2810 5 (.cons (.rs .u8 15 9) (.cons (.rs .u8 16 p.1) (.cons (.bool p.2) .nil))) H0 5)) = true := by kernel_rfl
theorem writes_45 : ([(4, false), (5, false), (6, false)].all fun p : Nat × Bool => okT (topT Tryz.prog 5 49 100000 3 39 518 rsvRow 10 11 (.cons (.int .i64 9) (.cons (.int .i64 0) .nil)) (.ptr 11 0) (heapT tl_9) 2810 5 (.cons (.rs .u8 15 9) (.cons (.rs .u8 16 p.1) (.cons (.bool p.2) .nil))) H0 5)) = true := by kernel_rfl
theorem writes_46 : ([(7, false), (8, false), (9, false), (10, false)].all fun p : Nat × Bool => okT (topT Tryz.prog 5 49 100000 3 39 518 rsvRow 10 11 (.cons (.int .i64 9) (.cons (.int .i64 0) .nil)) (.ptr 11 0) (heapT tl_9) 2810 5 (.cons (.rs .u8 15 9) (.cons (.rs .u8 16 p.1) (.cons (.bool p.2) .nil))) H0 5)) = true := by kernel_rfl
theorem writes_47 : ([(11, false), (12, false), (13, false), (14, false), (15, false)].all fun p : Nat × Bool => okT (topT Tryz.prog 5 49 100000 3 39 518 rsvRow 10 11 (.cons (.int .i64 9) (.cons (.int .i64 0) .nil)) (.ptr 11 0) (heapT tl_9) 2810 5 (.cons (.rs .u8 15 9) (.cons (.rs .u8 16 p.1) (.cons (.bool p.2) .nil))) H0 5)) = true := by kernel_rfl
theorem writes_48 : ([(0, true), (1, true), (2, true), (3, true), (4, true)].all fun p : Nat × Bool => okT (topT Tryz.prog 5 49 100000 3 39 518 rsvRow 10 11 (.cons (.int .i64 9) (.cons (.int .i64 0) .nil)) (.ptr 11 0) (heapT tl_9) 2810 5 (.cons (.rs .u8 15 9) (.cons (.rs .u8 16 p.1) (.cons (.bool p.2) .nil))) H0 5)) = true := by kernel_rfl
end Go.Proofs.YtekecchdjkkoeaaGreatDoor
