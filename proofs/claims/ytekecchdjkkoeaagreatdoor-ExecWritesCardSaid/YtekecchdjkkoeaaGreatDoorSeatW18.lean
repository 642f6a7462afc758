/- ExecWrites' runs, a part. No condition. -/
import Derived.Test.YtekecchdjkkoeaaGreatDoorSeatTc
set_option linter.unusedVariables false
set_option linter.unusedSimpArgs false
namespace Go.Proofs.YtekecchdjkkoeaaGreatDoor
open Go.Ev
theorem writes_71 : ([(0, false)].all fun p : Nat × Bool => okT (topT Tryz.prog 5 49 100000 3 39 518 rsvRow 10 11 (.cons (.int .i64 12) (.cons (.int .i64 0) .nil)) (.ptr 11 0) (heapT tl_12) 3647 5 (.cons (.rs .u8 15 12) (.cons (.rs .u8 16 p.1) (.cons (.bool p.2) .nil))) H0 5)) = true := by kernel_rfl
theorem writes_72 : ([(1, false)].all fun p : Nat × Bool => okT (topT Tryz.prog 5 49 100000 3 39 518 rsvRow 10 11 (.cons (.int .i64 12) (.cons (.int .i64 0) .nil)) (.ptr 11 0) (heapT tl_12) 3647 5 (.cons (.rs .u8 15 12) (.cons (.rs .u8 16 p.1) (.cons (.bool p.2) .nil))) H0 5)) = true := by kernel_rfl
theorem writes_73 : ([(2, false)].all fun p : Nat × Bool => okT (topT Tryz.prog 5 49 100000 3 39 518 rsvRow 10 11 (.cons (.int .i64 12) (.cons (.int .i64 0) .nil)) (.ptr 11 0) (heapT tl_12) 3647 5 (.cons (.rs .u8 15 12) (.cons (.rs .u8 16 p.1) (.cons (.bool p.2) .nil))) H0 5)) = true := by kernel_rfl
theorem writes_74 : ([(3, false), (4, false)].all fun p : Nat × Bool => okT (topT Tryz.prog 5 49 100000 3 39 518 rsvRow 10 11 (.cons (.int .i64 12) (.cons (.int .i64 0) .nil)) (.ptr 11 0) (heapT tl_12) 3647 5 (.cons (.rs .u8 15 12) (.cons (.rs .u8 16 p.1) (.cons (.bool p.2) .nil))) H0 5)) = true := by kernel_rfl
theorem writes_75 : ([(5, false), (6, false)].all fun p : Nat × Bool => okT (topT Tryz.prog 5 49 100000 3 39 518 rsvRow 10 11 (.cons (.int .i64 12) (.cons (.int .i64 0) .nil)) (.ptr 11 0) (heapT tl_12) 3647 5 (.cons (.rs .u8 15 12) (.cons (.rs .u8 16 p.1) (.cons (.bool p.2) .nil))) H0 5)) = true := by kernel_rfl
theorem writes_76 : ([(7, false), (8, false)].all fun p : Nat × Bool => okT (topT Tryz.prog 5 49 100000 3 39 518 rsvRow 10 11 (.cons (.int .i64 12) (.cons (.int .i64 0) .nil)) (.ptr 11 0) (heapT tl_12) 3647 5 (.cons (.rs .u8 15 12) (.cons (.rs .u8 16 p.1) (.cons (.bool p.2) .nil))) H0 5)) = true := by kernel_rfl
end Go.Proofs.YtekecchdjkkoeaaGreatDoor
