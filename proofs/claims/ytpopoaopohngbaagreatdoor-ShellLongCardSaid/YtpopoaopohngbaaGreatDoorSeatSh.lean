/- What the calls of this seat leave that are no walk's. No condition. -/
import Derived.Test.YtpopoaopohngbaaGreatDoorSeatH
import Derived.Test.YtpopoaopohngbaaGreatDoorEv1
set_option linter.unusedVariables false
set_option linter.unusedSimpArgs false
namespace Go.Proofs.YtpopoaopohngbaaGreatDoor
open Go.Ev
noncomputable def noneT : List (Nat × TO) := [(8, .cells 39 0 568 (strsA rsvL))]
noncomputable def bldT0 : List (Nat × TO) := [(8, .cells 39 0 568 (strsA rsvL)), (10, .cells 2 0 33 (ofRuns [(1, .nilPtr), (1, .nilSl)]))]
noncomputable def bldT1 : List (Nat × TO) := [(8, .cells 39 0 568 (strsA rsvL)), (10, .cells 2 0 33 (ofRuns [(1, (.ptr 10 0)), (1, (.sl 11 0 8 none))])), (11, .cells 8 1 5 (ofRuns [(1, (.int .u8 (101))), (1, (.int .u8 (114))), (1, (.int .u8 (114))), (1, (.int .u8 (111))), (1, (.int .u8 (114))), (1, (.int .u8 (32))), (1, (.int .u8 (51))), (1, (.int .u8 (10)))]))]
theorem none_some : isSomeH (hpT noneT) = true := by kernel_rfl
theorem bld_some0 : isSomeH (hpT bldT0) = true := by kernel_rfl
theorem bld_some1 : isSomeH (hpT bldT1) = true := by kernel_rfl
theorem new_run : tellR [] noneT 10 (.tup (.cons .unk (.cons (.int .i64 (.ofNat 0)) .nil))) (fcall Tryz.prog 10 113 100000 1000 6 (.cons (.int .i64 (.ofNat 100)) .nil) H0 10 fin) = true := by kernel_rfl
theorem fault_run : tellR [] noneT 10 (.str [101, 114, 114, 111, 114, 32, 51]) (fcall Tryz.prog 10 113 100000 1000 17 (.cons (.int .i64 (.ofNat 3)) .nil) H0 10 fin) = true := by kernel_rfl
theorem write_run : tellR [] bldT1 12 (.tup (.cons (.int .i64 (.ofNat 8)) (.cons .nilIface .nil))) (fcall Tryz.prog 10 113 100000 1000 8 (.cons (.ptr 10 0) (.cons (.str [101, 114, 114, 111, 114, 32, 51, 10]) .nil)) (heapT bldT0) 11 fin) = true := by kernel_rfl
theorem string_run : tellR [] noneT 10 (.str [101, 114, 114, 111, 114, 32, 51, 10]) (fcall Tryz.prog 10 113 100000 1000 10 (.cons (.ptr 10 0) .nil) (heapT bldT1) 12 fin) = true := by kernel_rfl
end Go.Proofs.YtpopoaopohngbaaGreatDoor
