/- ExecWrites' runs, a part. No condition. -/
import Derived.Test.YtekecchdjkkoeaaGreatDoorSeatTc
set_option linter.unusedVariables false
set_option linter.unusedSimpArgs false
namespace Go.Proofs.YtekecchdjkkoeaaGreatDoor
open Go.Ev
theorem writes_103 : ([(6, false), (7, false)].all fun p : Nat × Bool => okT (topT Tryz.prog 5 49 100000 3 39 518 rsvRow 10 11 (.cons (.int .i64 14) (.cons (.int .i64 0) .nil)) (.ptr 11 0) (heapT tl_14) 4203 5 (.cons (.rs .u8 15 14) (.cons (.rs .u8 16 p.1) (.cons (.bool p.2) .nil))) H0 5)) = true := by kernel_rfl
theorem writes_104 : ([(8, false), (9, false)].all fun p : Nat × Bool => okT (topT Tryz.prog 5 49 100000 3 39 518 rsvRow 10 11 (.cons (.int .i64 14) (.cons (.int .i64 0) .nil)) (.ptr 11 0) (heapT tl_14) 4203 5 (.cons (.rs .u8 15 14) (.cons (.rs .u8 16 p.1) (.cons (.bool p.2) .nil))) H0 5)) = true := by kernel_rfl
theorem writes_105 : ([(10, false), (11, false)].all fun p : Nat × Bool => okT (topT Tryz.prog 5 49 100000 3 39 518 rsvRow 10 11 (.cons (.int .i64 14) (.cons (.int .i64 0) .nil)) (.ptr 11 0) (heapT tl_14) 4203 5 (.cons (.rs .u8 15 14) (.cons (.rs .u8 16 p.1) (.cons (.bool p.2) .nil))) H0 5)) = true := by kernel_rfl
theorem writes_106 : ([(12, false), (13, false), (14, false)].all fun p : Nat × Bool => okT (topT Tryz.prog 5 49 100000 3 39 518 rsvRow 10 11 (.cons (.int .i64 14) (.cons (.int .i64 0) .nil)) (.ptr 11 0) (heapT tl_14) 4203 5 (.cons (.rs .u8 15 14) (.cons (.rs .u8 16 p.1) (.cons (.bool p.2) .nil))) H0 5)) = true := by kernel_rfl
theorem writes_107 : ([(15, false), (0, true), (1, true)].all fun p : Nat × Bool => okT (topT Tryz.prog 5 49 100000 3 39 518 rsvRow 10 11 (.cons (.int .i64 14) (.cons (.int .i64 0) .nil)) (.ptr 11 0) (heapT tl_14) 4203 5 (.cons (.rs .u8 15 14) (.cons (.rs .u8 16 p.1) (.cons (.bool p.2) .nil))) H0 5)) = true := by kernel_rfl
theorem writes_108 : ([(2, true), (3, true), (4, true)].all fun p : Nat × Bool => okT (topT Tryz.prog 5 49 100000 3 39 518 rsvRow 10 11 (.cons (.int .i64 14) (.cons (.int .i64 0) .nil)) (.ptr 11 0) (heapT tl_14) 4203 5 (.cons (.rs .u8 15 14) (.cons (.rs .u8 16 p.1) (.cons (.bool p.2) .nil))) H0 5)) = true := by kernel_rfl
end Go.Proofs.YtekecchdjkkoeaaGreatDoor
