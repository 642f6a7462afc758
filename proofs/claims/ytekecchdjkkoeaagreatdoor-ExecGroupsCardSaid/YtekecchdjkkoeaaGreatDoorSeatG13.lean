/- ExecGroups' runs, a part. No condition. -/
import Derived.Test.YtekecchdjkkoeaaGreatDoorSeatTd
import Derived.Test.YtekecchdjkkoeaaGreatDoorSeatGp
set_option linter.unusedVariables false
set_option linter.unusedSimpArgs false
namespace Go.Proofs.YtekecchdjkkoeaaGreatDoor
open Go.Ev
theorem groups_61 : (([5, 6, 7].all fun m => okT (topG Tryz.prog 5 49 100000 3 39 518 rsvRow 10 11 (.cons (.int .i64 17) (.cons (.int .i64 0) .nil)) (.ptr 11 0) (heapT tl_17) 5037 12 29 12000 (.cons (.str (sqlOf m)) .nil) vP (tlP (.int .i64 (.ofNat m))) 12346 4 (.cons (.rs .u8 20 17) (.cons (.int .i8 (.ofNat m)) .nil)) H0 5))) = true := by kernel_rfl
theorem groups_62 : (([8, 9, 10].all fun m => okT (topG Tryz.prog 5 49 100000 3 39 518 rsvRow 10 11 (.cons (.int .i64 17) (.cons (.int .i64 0) .nil)) (.ptr 11 0) (heapT tl_17) 5037 12 29 12000 (.cons (.str (sqlOf m)) .nil) vP (tlP (.int .i64 (.ofNat m))) 12346 4 (.cons (.rs .u8 20 17) (.cons (.int .i8 (.ofNat m)) .nil)) H0 5))) = true := by kernel_rfl
theorem groups_63 : (([11, 12, 13].all fun m => okT (topG Tryz.prog 5 49 100000 3 39 518 rsvRow 10 11 (.cons (.int .i64 17) (.cons (.int .i64 0) .nil)) (.ptr 11 0) (heapT tl_17) 5037 12 29 12000 (.cons (.str (sqlOf m)) .nil) vP (tlP (.int .i64 (.ofNat m))) 12346 4 (.cons (.rs .u8 20 17) (.cons (.int .i8 (.ofNat m)) .nil)) H0 5))) = true := by kernel_rfl
theorem groups_64 : (([14, 15, 16].all fun m => okT (topG Tryz.prog 5 49 100000 3 39 518 rsvRow 10 11 (.cons (.int .i64 17) (.cons (.int .i64 0) .nil)) (.ptr 11 0) (heapT tl_17) 5037 12 29 12000 (.cons (.str (sqlOf m)) .nil) vP (tlP (.int .i64 (.ofNat m))) 12346 4 (.cons (.rs .u8 20 17) (.cons (.int .i8 (.ofNat m)) .nil)) H0 5))) = true := by kernel_rfl
theorem groups_65 : (([17].all fun m => okT (topG Tryz.prog 5 49 100000 3 39 518 rsvRow 10 11 (.cons (.int .i64 17) (.cons (.int .i64 0) .nil)) (.ptr 11 0) (heapT tl_17) 5037 12 29 12000 (.cons (.str (sqlOf m)) .nil) vP (tlP (.int .i64 (.ofNat m))) 12346 4 (.cons (.rs .u8 20 17) (.cons (.int .i8 (.ofNat m)) .nil)) H0 5))) = true := by kernel_rfl
end Go.Proofs.YtekecchdjkkoeaaGreatDoor
