/- desk.New and Open: what they leave. No condition. -/
import Derived.Test.YtahfajdmhnjkeaaGreatDoorSeatH
import Derived.Test.YtahfajdmhnjkeaaGreatDoorEv1
set_option linter.unusedVariables false
set_option linter.unusedSimpArgs false
namespace Go.Proofs.YtahfajdmhnjkeaaGreatDoor
open Go.Ev
noncomputable def deskT0 : List (Nat × TO) := [(3, .cells 39 0 531 (strsA rsvL)),
  (5, .cells 1 0 195 (ofRuns [(1, .unk)])),
  (6, .cells 3 0 198 (ofRuns [(1, (.int .u64 (1))), (1, (.int .u64 (0))), (1, .nilSl)])),
  (7, .cells 3 0 202 (ofRuns [(2, .nilSl), (1, (.int .u64 (0)))])),
  (8, .map [] 0),
  (9, .map [] 0),
  (10, .map [] 0),
  (11, .cells 7 0 131 (ofRuns [(1, (.ptr 6 0)), (1, (.ptr 7 0)), (1, (.ptr 5 0)), (1, (.map 8)), (1, (.map 9)), (1, (.map 10)), (1, (.int .u64 (0)))])),
  (12, .cells 4 0 91 (ofRuns [(1, (.ptr 11 0)), (1, (.bool false)), (1, .nilSl), (1, (.int .i64 (0)))])),
  (13, .cells 8 0 75 (ofRuns [(1, (.ptr 11 0)), (1, (.ptr 12 0)), (6, .nilPtr)]))]
noncomputable def deskT1 : List (Nat × TO) := [(3, .cells 39 0 531 (strsA rsvL)),
  (5, .cells 1 0 195 (ofRuns [(1, .unk)])),
  (6, .cells 3 0 198 (ofRuns [(1, (.int .u64 (1))), (1, (.int .u64 (0))), (1, .nilSl)])),
  (7, .cells 3 0 202 (ofRuns [(2, .nilSl), (1, (.int .u64 (0)))])),
  (8, .map [] 0),
  (9, .map [] 0),
  (10, .map [] 0),
  (11, .cells 7 0 131 (ofRuns [(1, (.ptr 6 0)), (1, (.ptr 7 0)), (1, (.ptr 5 0)), (1, (.map 8)), (1, (.map 9)), (1, (.map 10)), (1, (.int .u64 (0)))])),
  (12, .cells 4 0 91 (ofRuns [(1, (.ptr 11 0)), (1, (.bool false)), (1, .nilSl), (1, (.int .i64 (0)))])),
  (13, .cells 8 0 75 (ofRuns [(1, (.ptr 11 0)), (1, (.ptr 12 0)), (1, (.ptr 14 0)), (5, .nilPtr)])),
  (14, .cells 10 0 79 (ofRuns [(1, (.int .i64 (0))), (1, (.int .u64 (0))), (1, (.bool false)), (1, (.str [])), (1, .nilPtr), (1, (.int .i64 (0))), (2, .nilSl), (1, (.int .i64 (0))), (1, (.bool false))]))]
noncomputable def deskT2 : List (Nat × TO) := [(3, .cells 39 0 531 (strsA rsvL)),
  (5, .cells 1 0 195 (ofRuns [(1, .unk)])),
  (6, .cells 3 0 198 (ofRuns [(1, (.int .u64 (1))), (1, (.int .u64 (0))), (1, .nilSl)])),
  (7, .cells 3 0 202 (ofRuns [(2, .nilSl), (1, (.int .u64 (0)))])),
  (8, .map [] 0),
  (9, .map [] 0),
  (10, .map [] 0),
  (11, .cells 7 0 131 (ofRuns [(1, (.ptr 6 0)), (1, (.ptr 7 0)), (1, (.ptr 5 0)), (1, (.map 8)), (1, (.map 9)), (1, (.map 10)), (1, (.int .u64 (0)))])),
  (12, .cells 4 0 91 (ofRuns [(1, (.ptr 11 0)), (1, (.bool false)), (1, .nilSl), (1, (.int .i64 (0)))])),
  (13, .cells 8 0 75 (ofRuns [(1, (.ptr 11 0)), (1, (.ptr 12 0)), (1, (.ptr 14 0)), (1, (.ptr 15 0)), (4, .nilPtr)])),
  (14, .cells 10 0 79 (ofRuns [(1, (.int .i64 (0))), (1, (.int .u64 (0))), (1, (.bool false)), (1, (.str [])), (1, .nilPtr), (1, (.int .i64 (0))), (2, .nilSl), (1, (.int .i64 (0))), (1, (.bool false))])),
  (15, .cells 10 0 79 (ofRuns [(1, (.int .i64 (0))), (1, (.int .u64 (0))), (1, (.bool false)), (1, (.str [])), (1, .nilPtr), (1, (.int .i64 (0))), (2, .nilSl), (1, (.int .i64 (0))), (1, (.bool false))]))]
noncomputable def deskT3 : List (Nat × TO) := [(3, .cells 39 0 531 (strsA rsvL)),
  (5, .cells 1 0 195 (ofRuns [(1, .unk)])),
  (6, .cells 3 0 198 (ofRuns [(1, (.int .u64 (1))), (1, (.int .u64 (0))), (1, .nilSl)])),
  (7, .cells 3 0 202 (ofRuns [(2, .nilSl), (1, (.int .u64 (0)))])),
  (8, .map [] 0),
  (9, .map [] 0),
  (10, .map [] 0),
  (11, .cells 7 0 131 (ofRuns [(1, (.ptr 6 0)), (1, (.ptr 7 0)), (1, (.ptr 5 0)), (1, (.map 8)), (1, (.map 9)), (1, (.map 10)), (1, (.int .u64 (0)))])),
  (12, .cells 4 0 91 (ofRuns [(1, (.ptr 11 0)), (1, (.bool false)), (1, .nilSl), (1, (.int .i64 (0)))])),
  (13, .cells 8 0 75 (ofRuns [(1, (.ptr 11 0)), (1, (.ptr 12 0)), (1, (.ptr 14 0)), (1, (.ptr 15 0)), (1, (.ptr 16 0)), (3, .nilPtr)])),
  (14, .cells 10 0 79 (ofRuns [(1, (.int .i64 (0))), (1, (.int .u64 (0))), (1, (.bool false)), (1, (.str [])), (1, .nilPtr), (1, (.int .i64 (0))), (2, .nilSl), (1, (.int .i64 (0))), (1, (.bool false))])),
  (15, .cells 10 0 79 (ofRuns [(1, (.int .i64 (0))), (1, (.int .u64 (0))), (1, (.bool false)), (1, (.str [])), (1, .nilPtr), (1, (.int .i64 (0))), (2, .nilSl), (1, (.int .i64 (0))), (1, (.bool false))])),
  (16, .cells 10 0 79 (ofRuns [(1, (.int .i64 (0))), (1, (.int .u64 (0))), (1, (.bool false)), (1, (.str [])), (1, .nilPtr), (1, (.int .i64 (0))), (2, .nilSl), (1, (.int .i64 (0))), (1, (.bool false))]))]
noncomputable def deskT4 : List (Nat × TO) := [(3, .cells 39 0 531 (strsA rsvL)),
  (5, .cells 1 0 195 (ofRuns [(1, .unk)])),
  (6, .cells 3 0 198 (ofRuns [(1, (.int .u64 (1))), (1, (.int .u64 (0))), (1, .nilSl)])),
  (7, .cells 3 0 202 (ofRuns [(2, .nilSl), (1, (.int .u64 (0)))])),
  (8, .map [] 0),
  (9, .map [] 0),
  (10, .map [] 0),
  (11, .cells 7 0 131 (ofRuns [(1, (.ptr 6 0)), (1, (.ptr 7 0)), (1, (.ptr 5 0)), (1, (.map 8)), (1, (.map 9)), (1, (.map 10)), (1, (.int .u64 (0)))])),
  (12, .cells 4 0 91 (ofRuns [(1, (.ptr 11 0)), (1, (.bool false)), (1, .nilSl), (1, (.int .i64 (0)))])),
  (13, .cells 8 0 75 (ofRuns [(1, (.ptr 11 0)), (1, (.ptr 12 0)), (1, (.ptr 14 0)), (1, (.ptr 15 0)), (1, (.ptr 16 0)), (1, (.ptr 17 0)), (2, .nilPtr)])),
  (14, .cells 10 0 79 (ofRuns [(1, (.int .i64 (0))), (1, (.int .u64 (0))), (1, (.bool false)), (1, (.str [])), (1, .nilPtr), (1, (.int .i64 (0))), (2, .nilSl), (1, (.int .i64 (0))), (1, (.bool false))])),
  (15, .cells 10 0 79 (ofRuns [(1, (.int .i64 (0))), (1, (.int .u64 (0))), (1, (.bool false)), (1, (.str [])), (1, .nilPtr), (1, (.int .i64 (0))), (2, .nilSl), (1, (.int .i64 (0))), (1, (.bool false))])),
  (16, .cells 10 0 79 (ofRuns [(1, (.int .i64 (0))), (1, (.int .u64 (0))), (1, (.bool false)), (1, (.str [])), (1, .nilPtr), (1, (.int .i64 (0))), (2, .nilSl), (1, (.int .i64 (0))), (1, (.bool false))])),
  (17, .cells 10 0 79 (ofRuns [(1, (.int .i64 (0))), (1, (.int .u64 (0))), (1, (.bool false)), (1, (.str [])), (1, .nilPtr), (1, (.int .i64 (0))), (2, .nilSl), (1, (.int .i64 (0))), (1, (.bool false))]))]
noncomputable def deskT5 : List (Nat × TO) := [(3, .cells 39 0 531 (strsA rsvL)),
  (5, .cells 1 0 195 (ofRuns [(1, .unk)])),
  (6, .cells 3 0 198 (ofRuns [(1, (.int .u64 (1))), (1, (.int .u64 (0))), (1, .nilSl)])),
  (7, .cells 3 0 202 (ofRuns [(2, .nilSl), (1, (.int .u64 (0)))])),
  (8, .map [] 0),
  (9, .map [] 0),
  (10, .map [] 0),
  (11, .cells 7 0 131 (ofRuns [(1, (.ptr 6 0)), (1, (.ptr 7 0)), (1, (.ptr 5 0)), (1, (.map 8)), (1, (.map 9)), (1, (.map 10)), (1, (.int .u64 (0)))])),
  (12, .cells 4 0 91 (ofRuns [(1, (.ptr 11 0)), (1, (.bool false)), (1, .nilSl), (1, (.int .i64 (0)))])),
  (13, .cells 8 0 75 (ofRuns [(1, (.ptr 11 0)), (1, (.ptr 12 0)), (1, (.ptr 14 0)), (1, (.ptr 15 0)), (1, (.ptr 16 0)), (1, (.ptr 17 0)), (1, (.ptr 18 0)), (1, .nilPtr)])),
  (14, .cells 10 0 79 (ofRuns [(1, (.int .i64 (0))), (1, (.int .u64 (0))), (1, (.bool false)), (1, (.str [])), (1, .nilPtr), (1, (.int .i64 (0))), (2, .nilSl), (1, (.int .i64 (0))), (1, (.bool false))])),
  (15, .cells 10 0 79 (ofRuns [(1, (.int .i64 (0))), (1, (.int .u64 (0))), (1, (.bool false)), (1, (.str [])), (1, .nilPtr), (1, (.int .i64 (0))), (2, .nilSl), (1, (.int .i64 (0))), (1, (.bool false))])),
  (16, .cells 10 0 79 (ofRuns [(1, (.int .i64 (0))), (1, (.int .u64 (0))), (1, (.bool false)), (1, (.str [])), (1, .nilPtr), (1, (.int .i64 (0))), (2, .nilSl), (1, (.int .i64 (0))), (1, (.bool false))])),
  (17, .cells 10 0 79 (ofRuns [(1, (.int .i64 (0))), (1, (.int .u64 (0))), (1, (.bool false)), (1, (.str [])), (1, .nilPtr), (1, (.int .i64 (0))), (2, .nilSl), (1, (.int .i64 (0))), (1, (.bool false))])),
  (18, .cells 10 0 79 (ofRuns [(1, (.int .i64 (0))), (1, (.int .u64 (0))), (1, (.bool false)), (1, (.str [])), (1, .nilPtr), (1, (.int .i64 (0))), (2, .nilSl), (1, (.int .i64 (0))), (1, (.bool false))]))]
noncomputable def deskT6 : List (Nat × TO) := [(3, .cells 39 0 531 (strsA rsvL)),
  (5, .cells 1 0 195 (ofRuns [(1, .unk)])),
  (6, .cells 3 0 198 (ofRuns [(1, (.int .u64 (1))), (1, (.int .u64 (0))), (1, .nilSl)])),
  (7, .cells 3 0 202 (ofRuns [(2, .nilSl), (1, (.int .u64 (0)))])),
  (8, .map [] 0),
  (9, .map [] 0),
  (10, .map [] 0),
  (11, .cells 7 0 131 (ofRuns [(1, (.ptr 6 0)), (1, (.ptr 7 0)), (1, (.ptr 5 0)), (1, (.map 8)), (1, (.map 9)), (1, (.map 10)), (1, (.int .u64 (0)))])),
  (12, .cells 4 0 91 (ofRuns [(1, (.ptr 11 0)), (1, (.bool false)), (1, .nilSl), (1, (.int .i64 (0)))])),
  (13, .cells 8 0 75 (ofRuns [(1, (.ptr 11 0)), (1, (.ptr 12 0)), (1, (.ptr 14 0)), (1, (.ptr 15 0)), (1, (.ptr 16 0)), (1, (.ptr 17 0)), (1, (.ptr 18 0)), (1, (.ptr 19 0))])),
  (14, .cells 10 0 79 (ofRuns [(1, (.int .i64 (0))), (1, (.int .u64 (0))), (1, (.bool false)), (1, (.str [])), (1, .nilPtr), (1, (.int .i64 (0))), (2, .nilSl), (1, (.int .i64 (0))), (1, (.bool false))])),
  (15, .cells 10 0 79 (ofRuns [(1, (.int .i64 (0))), (1, (.int .u64 (0))), (1, (.bool false)), (1, (.str [])), (1, .nilPtr), (1, (.int .i64 (0))), (2, .nilSl), (1, (.int .i64 (0))), (1, (.bool false))])),
  (16, .cells 10 0 79 (ofRuns [(1, (.int .i64 (0))), (1, (.int .u64 (0))), (1, (.bool false)), (1, (.str [])), (1, .nilPtr), (1, (.int .i64 (0))), (2, .nilSl), (1, (.int .i64 (0))), (1, (.bool false))])),
  (17, .cells 10 0 79 (ofRuns [(1, (.int .i64 (0))), (1, (.int .u64 (0))), (1, (.bool false)), (1, (.str [])), (1, .nilPtr), (1, (.int .i64 (0))), (2, .nilSl), (1, (.int .i64 (0))), (1, (.bool false))])),
  (18, .cells 10 0 79 (ofRuns [(1, (.int .i64 (0))), (1, (.int .u64 (0))), (1, (.bool false)), (1, (.str [])), (1, .nilPtr), (1, (.int .i64 (0))), (2, .nilSl), (1, (.int .i64 (0))), (1, (.bool false))])),
  (19, .cells 10 0 79 (ofRuns [(1, (.int .i64 (0))), (1, (.int .u64 (0))), (1, (.bool false)), (1, (.str [])), (1, .nilPtr), (1, (.int .i64 (0))), (2, .nilSl), (1, (.int .i64 (0))), (1, (.bool false))]))]
noncomputable def noneT : List (Nat × TO) := [(3, .cells 39 0 531 (strsA rsvL))]
theorem none_some : isSomeH (hpT noneT) = true := by kernel_rfl
theorem desk_some0 : isSomeH (hpT deskT0) = true := by kernel_rfl
theorem desk_some1 : isSomeH (hpT deskT1) = true := by kernel_rfl
theorem desk_some2 : isSomeH (hpT deskT2) = true := by kernel_rfl
theorem desk_some3 : isSomeH (hpT deskT3) = true := by kernel_rfl
theorem desk_some4 : isSomeH (hpT deskT4) = true := by kernel_rfl
theorem desk_some5 : isSomeH (hpT deskT5) = true := by kernel_rfl
theorem desk_some6 : isSomeH (hpT deskT6) = true := by kernel_rfl
theorem new_run : tellR [] deskT0 14 (.tup (.cons (.ptr 13 0) (.cons (.int .i64 (.ofNat 0)) .nil))) (fcall Tryz.prog 5 58 100000 1000 20 (.cons (.rng (some 0) (some 256)) .nil) H0 5 fin) = true := by kernel_rfl
theorem new_low : tellR [] noneT 5 (.tup (.cons .nilPtr (.cons (.int .i64 (.ofNat 1)) .nil))) (fcall Tryz.prog 5 58 100000 1000 20 (.cons (.rng none (some (-1))) .nil) H0 5 fin) = true := by kernel_rfl
theorem new_high : tellR [] noneT 5 (.tup (.cons .nilPtr (.cons (.int .i64 (.ofNat 1)) .nil))) (fcall Tryz.prog 5 58 100000 1000 20 (.cons (.rng (some 257) none) .nil) H0 5 fin) = true := by kernel_rfl
theorem open_run0 : tellR [] deskT1 15 (.tup (.cons (.int .i64 (.ofNat 0)) (.cons (.int .i64 (.ofNat 0)) .nil))) (fcall Tryz.prog 5 58 100000 1000 21 (.cons (.ptr 13 0) .nil) (heapT deskT0) 14 fin) = true := by kernel_rfl
theorem open_run1 : tellR [] deskT2 16 (.tup (.cons (.int .i64 (.ofNat 1)) (.cons (.int .i64 (.ofNat 0)) .nil))) (fcall Tryz.prog 5 58 100000 1000 21 (.cons (.ptr 13 0) .nil) (heapT deskT1) 15 fin) = true := by kernel_rfl
theorem open_run2 : tellR [] deskT3 17 (.tup (.cons (.int .i64 (.ofNat 2)) (.cons (.int .i64 (.ofNat 0)) .nil))) (fcall Tryz.prog 5 58 100000 1000 21 (.cons (.ptr 13 0) .nil) (heapT deskT2) 16 fin) = true := by kernel_rfl
theorem open_run3 : tellR [] deskT4 18 (.tup (.cons (.int .i64 (.ofNat 3)) (.cons (.int .i64 (.ofNat 0)) .nil))) (fcall Tryz.prog 5 58 100000 1000 21 (.cons (.ptr 13 0) .nil) (heapT deskT3) 17 fin) = true := by kernel_rfl
theorem open_run4 : tellR [] deskT5 19 (.tup (.cons (.int .i64 (.ofNat 4)) (.cons (.int .i64 (.ofNat 0)) .nil))) (fcall Tryz.prog 5 58 100000 1000 21 (.cons (.ptr 13 0) .nil) (heapT deskT4) 18 fin) = true := by kernel_rfl
theorem open_run5 : tellR [] deskT6 20 (.tup (.cons (.int .i64 (.ofNat 5)) (.cons (.int .i64 (.ofNat 0)) .nil))) (fcall Tryz.prog 5 58 100000 1000 21 (.cons (.ptr 13 0) .nil) (heapT deskT5) 19 fin) = true := by kernel_rfl
theorem awake_run : okT (topA Tryz.prog 5 58 100000 4 .nil H0 5) = true := by kernel_rfl
end Go.Proofs.YtahfajdmhnjkeaaGreatDoor
