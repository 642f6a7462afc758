/- ExecGroups' runs, a part. No condition. -/
import Derived.Test.YtekecchdjkkoeaaGreatDoorSeatTe
import Derived.Test.YtekecchdjkkoeaaGreatDoorSeatGp
set_option linter.unusedVariables false
set_option linter.unusedSimpArgs false
namespace Go.Proofs.YtekecchdjkkoeaaGreatDoor
open Go.Ev
theorem groups_76 : (([1, 2].all fun m => okT (topG Tryz.prog 5 49 100000 3 39 518 rsvRow 10 11 (.cons (.int .i64 19) (.cons (.int .i64 0) .nil)) (.ptr 11 0) (heapT tl_19) 5596 12 29 12000 (.cons (.str (sqlOf m)) .nil) vP (tlP (.int .i64 (.ofNat m))) 12346 4 (.cons (.rs .u8 20 19) (.cons (.int .i8 (.ofNat m)) .nil)) H0 5))) = true := by kernel_rfl
theorem groups_77 : (([3, 4].all fun m => okT (topG Tryz.prog 5 49 100000 3 39 518 rsvRow 10 11 (.cons (.int .i64 19) (.cons (.int .i64 0) .nil)) (.ptr 11 0) (heapT tl_19) 5596 12 29 12000 (.cons (.str (sqlOf m)) .nil) vP (tlP (.int .i64 (.ofNat m))) 12346 4 (.cons (.rs .u8 20 19) (.cons (.int .i8 (.ofNat m)) .nil)) H0 5))) = true := by kernel_rfl
theorem groups_78 : (([5, 6].all fun m => okT (topG Tryz.prog 5 49 100000 3 39 518 rsvRow 10 11 (.cons (.int .i64 19) (.cons (.int .i64 0) .nil)) (.ptr 11 0) (heapT tl_19) 5596 12 29 12000 (.cons (.str (sqlOf m)) .nil) vP (tlP (.int .i64 (.ofNat m))) 12346 4 (.cons (.rs .u8 20 19) (.cons (.int .i8 (.ofNat m)) .nil)) H0 5))) = true := by kernel_rfl
theorem groups_79 : (([7, 8].all fun m => okT (topG Tryz.prog 5 49 100000 3 39 518 rsvRow 10 11 (.cons (.int .i64 19) (.cons (.int .i64 0) .nil)) (.ptr 11 0) (heapT tl_19) 5596 12 29 12000 (.cons (.str (sqlOf m)) .nil) vP (tlP (.int .i64 (.ofNat m))) 12346 4 (.cons (.rs .u8 20 19) (.cons (.int .i8 (.ofNat m)) .nil)) H0 5))) = true := by kernel_rfl
theorem groups_80 : (([9, 10].all fun m => okT (topG Tryz.prog 5 49 100000 3 39 518 rsvRow 10 11 (.cons (.int .i64 19) (.cons (.int .i64 0) .nil)) (.ptr 11 0) (heapT tl_19) 5596 12 29 12000 (.cons (.str (sqlOf m)) .nil) vP (tlP (.int .i64 (.ofNat m))) 12346 4 (.cons (.rs .u8 20 19) (.cons (.int .i8 (.ofNat m)) .nil)) H0 5))) = true := by kernel_rfl
theorem groups_81 : (([11, 12].all fun m => okT (topG Tryz.prog 5 49 100000 3 39 518 rsvRow 10 11 (.cons (.int .i64 19) (.cons (.int .i64 0) .nil)) (.ptr 11 0) (heapT tl_19) 5596 12 29 12000 (.cons (.str (sqlOf m)) .nil) vP (tlP (.int .i64 (.ofNat m))) 12346 4 (.cons (.rs .u8 20 19) (.cons (.int .i8 (.ofNat m)) .nil)) H0 5))) = true := by kernel_rfl
end Go.Proofs.YtekecchdjkkoeaaGreatDoor
