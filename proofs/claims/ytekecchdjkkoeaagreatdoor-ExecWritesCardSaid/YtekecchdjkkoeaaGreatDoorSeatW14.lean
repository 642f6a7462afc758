/- ExecWrites' runs, a part. No condition. -/
import Derived.Test.YtekecchdjkkoeaaGreatDoorSeatTb
set_option linter.unusedVariables false
set_option linter.unusedSimpArgs false
namespace Go.Proofs.YtekecchdjkkoeaaGreatDoor
open Go.Ev
theorem writes_51 : ([(0, false)].all fun p : Nat × Bool => okT (topT Tryz.prog 5 49 100000 3 39 518 rsvRow 10 11 (.cons (.int .i64 10) (.cons (.int .i64 0) .nil)) (.ptr 11 0) (heapT tl_10) 3091 5 (.cons (.rs .u8 15 10) (.cons (.rs .u8 16 p.1) (.cons (.bool p.2) .nil))) H0 5)) = true := by kernel_rfl
theorem writes_52 : ([(1, false), (2, false)].all fun p : Nat × Bool => okT (topT Tryz.prog 5 49 100000 3 39 518 rsvRow 10 11 (.cons (.int .i64 10) (.cons (.int .i64 0) .nil)) (.ptr 11 0) (heapT tl_10) 3091 5 (.cons (.rs .u8 15 10) (.cons (.rs .u8 16 p.1) (.cons (.bool p.2) .nil))) H0 5)) = true := by kernel_rfl
theorem writes_53 : ([(3, false), (4, false)].all fun p : Nat × Bool => okT (topT Tryz.prog 5 49 100000 3 39 518 rsvRow 10 11 (.cons (.int .i64 10) (.cons (.int .i64 0) .nil)) (.ptr 11 0) (heapT tl_10) 3091 5 (.cons (.rs .u8 15 10) (.cons (.rs .u8 16 p.1) (.cons (.bool p.2) .nil))) H0 5)) = true := by kernel_rfl
theorem writes_54 : ([(5, false), (6, false), (7, false)].all fun p : Nat × Bool => okT (topT Tryz.prog 5 49 100000 3 39 518 rsvRow 10 11 (.cons (.int .i64 10) (.cons (.int .i64 0) .nil)) (.ptr 11 0) (heapT tl_10) 3091 5 (.cons (.rs .u8 15 10) (.cons (.rs .u8 16 p.1) (.cons (.bool p.2) .nil))) H0 5)) = true := by kernel_rfl
theorem writes_55 : ([(8, false), (9, false), (10, false), (11, false)].all fun p : Nat × Bool => okT (topT Tryz.prog 5 49 100000 3 39 518 rsvRow 10 11 (.cons (.int .i64 10) (.cons (.int .i64 0) .nil)) (.ptr 11 0) (heapT tl_10) 3091 5 (.cons (.rs .u8 15 10) (.cons (.rs .u8 16 p.1) (.cons (.bool p.2) .nil))) H0 5)) = true := by kernel_rfl
theorem writes_56 : ([(12, false), (13, false), (14, false), (15, false), (0, true)].all fun p : Nat × Bool => okT (topT Tryz.prog 5 49 100000 3 39 518 rsvRow 10 11 (.cons (.int .i64 10) (.cons (.int .i64 0) .nil)) (.ptr 11 0) (heapT tl_10) 3091 5 (.cons (.rs .u8 15 10) (.cons (.rs .u8 16 p.1) (.cons (.bool p.2) .nil))) H0 5)) = true := by kernel_rfl
end Go.Proofs.YtekecchdjkkoeaaGreatDoor
