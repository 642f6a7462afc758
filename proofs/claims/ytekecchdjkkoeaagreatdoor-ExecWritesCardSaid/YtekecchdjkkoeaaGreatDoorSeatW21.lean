/- ExecWrites' runs, a part. No condition. -/
import Derived.Test.YtekecchdjkkoeaaGreatDoorSeatTc
set_option linter.unusedVariables false
set_option linter.unusedSimpArgs false
namespace Go.Proofs.YtekecchdjkkoeaaGreatDoor
open Go.Ev
theorem writes_89 : ([(7, false), (8, false)].all fun p : Nat × Bool => okT (topT Tryz.prog 5 49 100000 3 39 518 rsvRow 10 11 (.cons (.int .i64 13) (.cons (.int .i64 0) .nil)) (.ptr 11 0) (heapT tl_13) 3925 5 (.cons (.rs .u8 15 13) (.cons (.rs .u8 16 p.1) (.cons (.bool p.2) .nil))) H0 5)) = true := by kernel_rfl
theorem writes_90 : ([(9, false), (10, false)].all fun p : Nat × Bool => okT (topT Tryz.prog 5 49 100000 3 39 518 rsvRow 10 11 (.cons (.int .i64 13) (.cons (.int .i64 0) .nil)) (.ptr 11 0) (heapT tl_13) 3925 5 (.cons (.rs .u8 15 13) (.cons (.rs .u8 16 p.1) (.cons (.bool p.2) .nil))) H0 5)) = true := by kernel_rfl
theorem writes_91 : ([(11, false), (12, false), (13, false)].all fun p : Nat × Bool => okT (topT Tryz.prog 5 49 100000 3 39 518 rsvRow 10 11 (.cons (.int .i64 13) (.cons (.int .i64 0) .nil)) (.ptr 11 0) (heapT tl_13) 3925 5 (.cons (.rs .u8 15 13) (.cons (.rs .u8 16 p.1) (.cons (.bool p.2) .nil))) H0 5)) = true := by kernel_rfl
theorem writes_92 : ([(14, false), (15, false), (0, true), (1, true)].all fun p : Nat × Bool => okT (topT Tryz.prog 5 49 100000 3 39 518 rsvRow 10 11 (.cons (.int .i64 13) (.cons (.int .i64 0) .nil)) (.ptr 11 0) (heapT tl_13) 3925 5 (.cons (.rs .u8 15 13) (.cons (.rs .u8 16 p.1) (.cons (.bool p.2) .nil))) H0 5)) = true := by kernel_rfl
theorem writes_93 : ([(2, true), (3, true), (4, true), (5, true)].all fun p : Nat × Bool => okT (topT Tryz.prog 5 49 100000 3 39 518 rsvRow 10 11 (.cons (.int .i64 13) (.cons (.int .i64 0) .nil)) (.ptr 11 0) (heapT tl_13) 3925 5 (.cons (.rs .u8 15 13) (.cons (.rs .u8 16 p.1) (.cons (.bool p.2) .nil))) H0 5)) = true := by kernel_rfl
theorem writes_94 : ([(6, true), (7, true), (8, true), (9, true)].all fun p : Nat × Bool => okT (topT Tryz.prog 5 49 100000 3 39 518 rsvRow 10 11 (.cons (.int .i64 13) (.cons (.int .i64 0) .nil)) (.ptr 11 0) (heapT tl_13) 3925 5 (.cons (.rs .u8 15 13) (.cons (.rs .u8 16 p.1) (.cons (.bool p.2) .nil))) H0 5)) = true := by kernel_rfl
end Go.Proofs.YtekecchdjkkoeaaGreatDoor
