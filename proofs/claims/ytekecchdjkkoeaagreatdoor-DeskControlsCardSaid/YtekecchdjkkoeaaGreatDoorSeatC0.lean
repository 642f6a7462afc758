/- What desk.New, Open and CREATE TABLE leave. No condition. -/
import Derived.Test.YtekecchdjkkoeaaGreatDoorSeatCt
set_option linter.unusedVariables false
set_option linter.unusedSimpArgs false
namespace Go.Proofs.YtekecchdjkkoeaaGreatDoor
open Go.Ev
theorem awake21 : okT (topA Tryz.prog 5 49 100000 14 .nil H0 5) = true := by kernel_rfl
theorem new_run : tellR [] newT 14 (.tup (.cons (.ptr 13 0) (.cons (.int .i64 (.ofNat 0)) .nil))) (fcall Tryz.prog 5 49 100000 1000 15 (.cons (.int .i64 (.ofNat 10)) .nil) H0 5 fin) = true := by kernel_rfl
theorem open_run : tellR [] openT 15 (.tup (.cons (.int .i64 (.ofNat 0)) (.cons (.int .i64 (.ofNat 0)) .nil))) (fcall Tryz.prog 5 49 100000 1000 16 (.cons (.ptr 13 0) .nil) (heapT newT) 14 fin) = true := by kernel_rfl
theorem make_run : tellR [] (stT 1 0) 137 (.tup (.cons (.agg (.cons .unk (.cons .unk (.cons .unk (.cons .unk .nil))))) (.cons (.int .i64 (.ofNat 0)) .nil))) (fcall Tryz.prog 5 49 100000 1000 17 (argT [67, 82, 69, 65, 84, 69, 32, 84, 65, 66, 76, 69, 32, 116, 32, 40, 97, 32, 73, 78, 84, 41]) (heapT openT) 15 fin) = true := by kernel_rfl
theorem new_some : isSomeH (hpT newT) = true := by kernel_rfl
theorem open_some : isSomeH (hpT openT) = true := by kernel_rfl
theorem last_state : (ctlS 61 0 && (ctlS 61 1 && ctlS 61 2)) = true := by kernel_rfl
theorem last_some : (isSomeH (hpT (stT 61 0)) && (isSomeH (hpT (stT 61 1)) && isSomeH (hpT (stT 61 2)))) = true := by kernel_rfl
end Go.Proofs.YtekecchdjkkoeaaGreatDoor
