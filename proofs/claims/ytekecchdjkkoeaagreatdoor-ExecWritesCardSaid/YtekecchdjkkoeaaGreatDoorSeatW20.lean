/- ExecWrites' runs, a part. No condition. -/
import Derived.Test.YtekecchdjkkoeaaGreatDoorSeatTc
set_option linter.unusedVariables false
set_option linter.unusedSimpArgs false
namespace Go.Proofs.YtekecchdjkkoeaaGreatDoor
open Go.Ev
theorem writes_83 : ([(0, false)].all fun p : Nat × Bool => okT (topT Tryz.prog 5 49 100000 3 39 518 rsvRow 10 11 (.cons (.int .i64 13) (.cons (.int .i64 0) .nil)) (.ptr 11 0) (heapT tl_13) 3925 5 (.cons (.rs .u8 15 13) (.cons (.rs .u8 16 p.1) (.cons (.bool p.2) .nil))) H0 5)) = true := by kernel_rfl
theorem writes_84 : ([(1, false)].all fun p : Nat × Bool => okT (topT Tryz.prog 5 49 100000 3 39 518 rsvRow 10 11 (.cons (.int .i64 13) (.cons (.int .i64 0) .nil)) (.ptr 11 0) (heapT tl_13) 3925 5 (.cons (.rs .u8 15 13) (.cons (.rs .u8 16 p.1) (.cons (.bool p.2) .nil))) H0 5)) = true := by kernel_rfl
theorem writes_85 : ([(2, false)].all fun p : Nat × Bool => okT (topT Tryz.prog 5 49 100000 3 39 518 rsvRow 10 11 (.cons (.int .i64 13) (.cons (.int .i64 0) .nil)) (.ptr 11 0) (heapT tl_13) 3925 5 (.cons (.rs .u8 15 13) (.cons (.rs .u8 16 p.1) (.cons (.bool p.2) .nil))) H0 5)) = true := by kernel_rfl
theorem writes_86 : ([(3, false)].all fun p : Nat × Bool => okT (topT Tryz.prog 5 49 100000 3 39 518 rsvRow 10 11 (.cons (.int .i64 13) (.cons (.int .i64 0) .nil)) (.ptr 11 0) (heapT tl_13) 3925 5 (.cons (.rs .u8 15 13) (.cons (.rs .u8 16 p.1) (.cons (.bool p.2) .nil))) H0 5)) = true := by kernel_rfl
theorem writes_87 : ([(4, false)].all fun p : Nat × Bool => okT (topT Tryz.prog 5 49 100000 3 39 518 rsvRow 10 11 (.cons (.int .i64 13) (.cons (.int .i64 0) .nil)) (.ptr 11 0) (heapT tl_13) 3925 5 (.cons (.rs .u8 15 13) (.cons (.rs .u8 16 p.1) (.cons (.bool p.2) .nil))) H0 5)) = true := by kernel_rfl
theorem writes_88 : ([(5, false), (6, false)].all fun p : Nat × Bool => okT (topT Tryz.prog 5 49 100000 3 39 518 rsvRow 10 11 (.cons (.int .i64 13) (.cons (.int .i64 0) .nil)) (.ptr 11 0) (heapT tl_13) 3925 5 (.cons (.rs .u8 15 13) (.cons (.rs .u8 16 p.1) (.cons (.bool p.2) .nil))) H0 5)) = true := by kernel_rfl
end Go.Proofs.YtekecchdjkkoeaaGreatDoor
