/- ExecWrites' runs, a part. No condition. -/
import Derived.Test.YtekecchdjkkoeaaGreatDoorSeatTc
set_option linter.unusedVariables false
set_option linter.unusedSimpArgs false
namespace Go.Proofs.YtekecchdjkkoeaaGreatDoor
open Go.Ev
theorem writes_60 : ([(0, false)].all fun p : Nat × Bool => okT (topT Tryz.prog 5 49 100000 3 39 518 rsvRow 10 11 (.cons (.int .i64 11) (.cons (.int .i64 0) .nil)) (.ptr 11 0) (heapT tl_11) 3369 5 (.cons (.rs .u8 15 11) (.cons (.rs .u8 16 p.1) (.cons (.bool p.2) .nil))) H0 5)) = true := by kernel_rfl
theorem writes_61 : ([(1, false)].all fun p : Nat × Bool => okT (topT Tryz.prog 5 49 100000 3 39 518 rsvRow 10 11 (.cons (.int .i64 11) (.cons (.int .i64 0) .nil)) (.ptr 11 0) (heapT tl_11) 3369 5 (.cons (.rs .u8 15 11) (.cons (.rs .u8 16 p.1) (.cons (.bool p.2) .nil))) H0 5)) = true := by kernel_rfl
theorem writes_62 : ([(2, false), (3, false)].all fun p : Nat × Bool => okT (topT Tryz.prog 5 49 100000 3 39 518 rsvRow 10 11 (.cons (.int .i64 11) (.cons (.int .i64 0) .nil)) (.ptr 11 0) (heapT tl_11) 3369 5 (.cons (.rs .u8 15 11) (.cons (.rs .u8 16 p.1) (.cons (.bool p.2) .nil))) H0 5)) = true := by kernel_rfl
theorem writes_63 : ([(4, false), (5, false)].all fun p : Nat × Bool => okT (topT Tryz.prog 5 49 100000 3 39 518 rsvRow 10 11 (.cons (.int .i64 11) (.cons (.int .i64 0) .nil)) (.ptr 11 0) (heapT tl_11) 3369 5 (.cons (.rs .u8 15 11) (.cons (.rs .u8 16 p.1) (.cons (.bool p.2) .nil))) H0 5)) = true := by kernel_rfl
theorem writes_64 : ([(6, false), (7, false)].all fun p : Nat × Bool => okT (topT Tryz.prog 5 49 100000 3 39 518 rsvRow 10 11 (.cons (.int .i64 11) (.cons (.int .i64 0) .nil)) (.ptr 11 0) (heapT tl_11) 3369 5 (.cons (.rs .u8 15 11) (.cons (.rs .u8 16 p.1) (.cons (.bool p.2) .nil))) H0 5)) = true := by kernel_rfl
theorem writes_65 : ([(8, false), (9, false), (10, false)].all fun p : Nat × Bool => okT (topT Tryz.prog 5 49 100000 3 39 518 rsvRow 10 11 (.cons (.int .i64 11) (.cons (.int .i64 0) .nil)) (.ptr 11 0) (heapT tl_11) 3369 5 (.cons (.rs .u8 15 11) (.cons (.rs .u8 16 p.1) (.cons (.bool p.2) .nil))) H0 5)) = true := by kernel_rfl
end Go.Proofs.YtekecchdjkkoeaaGreatDoor
