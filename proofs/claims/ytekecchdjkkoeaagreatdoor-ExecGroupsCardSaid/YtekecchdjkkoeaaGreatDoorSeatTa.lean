/- What table(k, 0) leaves, as far as it is wanted. No condition. -/
import Derived.Test.YtekecchdjkkoeaaGreatDoorSeatH
import Derived.Test.YtekecchdjkkoeaaGreatDoorEv1
set_option linter.unusedVariables false
set_option linter.unusedSimpArgs false
namespace Go.Proofs.YtekecchdjkkoeaaGreatDoor
open Go.Ev
noncomputable def tl_0 : List (Nat × TO) := (3, .cells 39 0 518 (strsA rsvL)) :: [(10, .map [⟨(.int .u64 (1)), (.agg (.cons (.int .u64 (1)) (.cons (.int .u64 (2)) (.cons (.int .u64 (2)) (.cons .nilSl .nil))))), 0⟩] 1),
  (9, .map [] 0),
  (299, .cells 513 0 431 (ofRuns [(512, (.int .i64 (-1))), (1, (.int .i64 (0)))])),
  (300, .cells 3 0 320 (ofRuns [(1, (.ptr 5 0)), (1, .nilSl), (1, (.ptr 299 0))])),
  (155, .cells 513 0 431 (ofRuns [(512, (.int .i64 (-1))), (1, (.int .i64 (0)))])),
  (156, .cells 3 0 320 (ofRuns [(1, (.ptr 5 0)), (1, .nilSl), (1, (.ptr 155 0))])),
  (8, .map [⟨(.int .u64 (1)), (.ptr 156 0), 0⟩, ⟨(.int .u64 (2)), (.ptr 300 0), 1⟩] 2),
  (5, .cells 1 0 175 (ofRuns [(1, (.int .i64 (256)))])),
  (295, .cells 4 2 298 (ofRuns [(1, (.str [97])), (1, (.int .u8 (1))), (1, (.str [98])), (1, (.int .u8 (1)))])),
  (296, .cells 5 0 315 (ofRuns [(1, (.int .u64 (2))), (1, (.str [117])), (1, (.int .u64 (1))), (1, (.int .u64 (0))), (1, (.sl 295 0 2 none))])),
  (151, .cells 4 2 298 (ofRuns [(1, (.str [97])), (1, (.int .u8 (1))), (1, (.str [98])), (1, (.int .u8 (1)))])),
  (152, .cells 5 0 315 (ofRuns [(1, (.int .u64 (1))), (1, (.str [116])), (1, (.int .u64 (1))), (1, (.int .u64 (0))), (1, (.sl 151 0 2 none))])),
  (298, .cells 2 1 309 (ofRuns [(1, (.ptr 152 0)), (1, (.ptr 296 0))])),
  (7, .cells 3 0 179 (ofRuns [(1, (.sl 298 0 2 none)), (1, .nilSl), (1, (.int .u64 (2)))])),
  (13, .cells 1 1 5 (ofRuns [(1, (.int .u8 (1)))])),
  (6, .cells 3 0 161 (ofRuns [(2, (.int .u64 (1))), (1, (.sl 13 0 1 none))])),
  (11, .cells 7 0 102 (ofRuns [(1, (.ptr 6 0)), (1, (.ptr 7 0)), (1, (.ptr 5 0)), (1, (.map 8)), (1, (.map 9)), (1, (.map 10)), (1, (.int .u64 (0)))]))]
theorem some_0 : isSomeH (hpT tl_0) = true := by kernel_rfl
theorem tell_0 : tellOK tl_0 305 (.ptr 11 0) (fcall Tryz.prog 5 49 100000 1000 11 (.cons (.int .i64 0) (.cons (.int .i64 0) .nil)) H0 5 fin) = true := by kernel_rfl
noncomputable def tl_1 : List (Nat × TO) := (3, .cells 39 0 518 (strsA rsvL)) :: [(10, .map [⟨(.int .u64 (1)), (.agg (.cons (.int .u64 (1)) (.cons (.int .u64 (2)) (.cons (.int .u64 (2)) (.cons .nilSl .nil))))), 0⟩] 1),
  (9, .map [] 0),
  (580, .cells 513 0 431 (ofRuns [(512, (.int .i64 (-1))), (1, (.int .i64 (0)))])),
  (581, .cells 3 0 320 (ofRuns [(1, (.ptr 5 0)), (1, .nilSl), (1, (.ptr 580 0))])),
  (155, .cells 513 0 431 (ofRuns [(1, (.int .i64 (-1))), (2, (.int .i64 (423))), (1, (.int .i64 (-1))), (1, (.int .i64 (423))), (3, (.int .i64 (-1))), (1, (.int .i64 (423))), (7, (.int .i64 (-1))), (1, (.int .i64 (423))), (15, (.int .i64 (-1))), (1, (.int .i64 (423))), (31, (.int .i64 (-1))), (1, (.int .i64 (423))), (63, (.int .i64 (-1))), (1, (.int .i64 (423))), (127, (.int .i64 (-1))), (1, (.int .i64 (423))), (255, (.int .i64 (-1))), (1, (.int .i64 (1)))])),
  (430, .cells 512 0 512 (ofRuns [(1, (.int .u8 (1))), (1, (.int .u8 (0))), (1, (.int .u8 (209))), (1, (.int .u8 (1))), (1, (.int .u8 (209))), (1, (.int .u8 (1))), (1, (.int .u8 (47))), (458, (.int .u8 (0))), (1, (.int .u8 (1))), (7, (.int .u8 (0))), (1, (.int .u8 (1))), (38, (.int .u8 (0)))])),
  (432, .cells 1 1 345 (ofRuns [(1, (.ptr 430 0))])),
  (156, .cells 3 0 320 (ofRuns [(1, (.ptr 5 0)), (1, (.sl 432 0 1 none)), (1, (.ptr 155 0))])),
  (8, .map [⟨(.int .u64 (1)), (.ptr 156 0), 0⟩, ⟨(.int .u64 (2)), (.ptr 581 0), 1⟩] 2),
  (5, .cells 1 0 175 (ofRuns [(1, (.int .i64 (255)))])),
  (576, .cells 4 2 298 (ofRuns [(1, (.str [97])), (1, (.int .u8 (1))), (1, (.str [98])), (1, (.int .u8 (1)))])),
  (577, .cells 5 0 315 (ofRuns [(1, (.int .u64 (2))), (1, (.str [117])), (1, (.int .u64 (1))), (1, (.int .u64 (0))), (1, (.sl 576 0 2 none))])),
  (151, .cells 4 2 298 (ofRuns [(1, (.str [97])), (1, (.int .u8 (1))), (1, (.str [98])), (1, (.int .u8 (1)))])),
  (152, .cells 5 0 315 (ofRuns [(1, (.int .u64 (1))), (1, (.str [116])), (1, (.int .u64 (1))), (1, (.int .u64 (0))), (1, (.sl 151 0 2 none))])),
  (579, .cells 2 1 309 (ofRuns [(1, (.ptr 152 0)), (1, (.ptr 577 0))])),
  (7, .cells 3 0 179 (ofRuns [(1, (.sl 579 0 2 none)), (1, .nilSl), (1, (.int .u64 (2)))])),
  (13, .cells 1 1 5 (ofRuns [(1, (.int .u8 (1)))])),
  (6, .cells 3 0 161 (ofRuns [(2, (.int .u64 (1))), (1, (.sl 13 0 1 none))])),
  (11, .cells 7 0 102 (ofRuns [(1, (.ptr 6 0)), (1, (.ptr 7 0)), (1, (.ptr 5 0)), (1, (.map 8)), (1, (.map 9)), (1, (.map 10)), (1, (.int .u64 (1)))]))]
theorem some_1 : isSomeH (hpT tl_1) = true := by kernel_rfl
theorem tell_1 : tellOK tl_1 586 (.ptr 11 0) (fcall Tryz.prog 5 49 100000 1000 11 (.cons (.int .i64 1) (.cons (.int .i64 0) .nil)) H0 5 fin) = true := by kernel_rfl
noncomputable def tl_2 : List (Nat × TO) := (3, .cells 39 0 518 (strsA rsvL)) :: [(10, .map [⟨(.int .u64 (1)), (.agg (.cons (.int .u64 (1)) (.cons (.int .u64 (2)) (.cons (.int .u64 (2)) (.cons .nilSl .nil))))), 0⟩] 1),
  (9, .map [] 0),
  (858, .cells 513 0 431 (ofRuns [(512, (.int .i64 (-1))), (1, (.int .i64 (0)))])),
  (859, .cells 3 0 320 (ofRuns [(1, (.ptr 5 0)), (1, .nilSl), (1, (.ptr 858 0))])),
  (155, .cells 513 0 431 (ofRuns [(1, (.int .i64 (-1))), (2, (.int .i64 (372))), (1, (.int .i64 (-1))), (1, (.int .i64 (372))), (3, (.int .i64 (-1))), (1, (.int .i64 (372))), (7, (.int .i64 (-1))), (1, (.int .i64 (372))), (15, (.int .i64 (-1))), (1, (.int .i64 (372))), (31, (.int .i64 (-1))), (1, (.int .i64 (372))), (63, (.int .i64 (-1))), (1, (.int .i64 (372))), (127, (.int .i64 (-1))), (1, (.int .i64 (372))), (255, (.int .i64 (-1))), (1, (.int .i64 (1)))])),
  (430, .cells 512 0 512 (ofRuns [(1, (.int .u8 (2))), (1, (.int .u8 (0))), (1, (.int .u8 (162))), (1, (.int .u8 (1))), (1, (.int .u8 (209))), (1, (.int .u8 (1))), (1, (.int .u8 (47))), (1, (.int .u8 (0))), (1, (.int .u8 (162))), (1, (.int .u8 (1))), (1, (.int .u8 (47))), (407, (.int .u8 (0))), (1, (.int .u8 (2))), (7, (.int .u8 (0))), (1, (.int .u8 (1))), (22, (.int .u8 (0))), (1, (.int .u8 (1))), (7, (.int .u8 (0))), (1, (.int .u8 (1))), (7, (.int .u8 (0))), (1, (.int .u8 (1))), (7, (.int .u8 (0))), (1, (.int .u8 (1))), (38, (.int .u8 (0)))])),
  (432, .cells 1 1 345 (ofRuns [(1, (.ptr 430 0))])),
  (156, .cells 3 0 320 (ofRuns [(1, (.ptr 5 0)), (1, (.sl 432 0 1 none)), (1, (.ptr 155 0))])),
  (8, .map [⟨(.int .u64 (1)), (.ptr 156 0), 0⟩, ⟨(.int .u64 (2)), (.ptr 859 0), 1⟩] 2),
  (5, .cells 1 0 175 (ofRuns [(1, (.int .i64 (255)))])),
  (854, .cells 4 2 298 (ofRuns [(1, (.str [97])), (1, (.int .u8 (1))), (1, (.str [98])), (1, (.int .u8 (1)))])),
  (855, .cells 5 0 315 (ofRuns [(1, (.int .u64 (2))), (1, (.str [117])), (1, (.int .u64 (1))), (1, (.int .u64 (0))), (1, (.sl 854 0 2 none))])),
  (151, .cells 4 2 298 (ofRuns [(1, (.str [97])), (1, (.int .u8 (1))), (1, (.str [98])), (1, (.int .u8 (1)))])),
  (152, .cells 5 0 315 (ofRuns [(1, (.int .u64 (1))), (1, (.str [116])), (1, (.int .u64 (1))), (1, (.int .u64 (0))), (1, (.sl 151 0 2 none))])),
  (857, .cells 2 1 309 (ofRuns [(1, (.ptr 152 0)), (1, (.ptr 855 0))])),
  (7, .cells 3 0 179 (ofRuns [(1, (.sl 857 0 2 none)), (1, .nilSl), (1, (.int .u64 (2)))])),
  (13, .cells 1 1 5 (ofRuns [(1, (.int .u8 (1)))])),
  (6, .cells 3 0 161 (ofRuns [(2, (.int .u64 (1))), (1, (.sl 13 0 1 none))])),
  (11, .cells 7 0 102 (ofRuns [(1, (.ptr 6 0)), (1, (.ptr 7 0)), (1, (.ptr 5 0)), (1, (.map 8)), (1, (.map 9)), (1, (.map 10)), (1, (.int .u64 (2)))]))]
theorem some_2 : isSomeH (hpT tl_2) = true := by kernel_rfl
theorem tell_2 : tellOK tl_2 864 (.ptr 11 0) (fcall Tryz.prog 5 49 100000 1000 11 (.cons (.int .i64 2) (.cons (.int .i64 0) .nil)) H0 5 fin) = true := by kernel_rfl
noncomputable def tl_3 : List (Nat × TO) := (3, .cells 39 0 518 (strsA rsvL)) :: [(10, .map [⟨(.int .u64 (1)), (.agg (.cons (.int .u64 (1)) (.cons (.int .u64 (2)) (.cons (.int .u64 (2)) (.cons .nilSl .nil))))), 0⟩] 1),
  (9, .map [] 0),
  (1136, .cells 513 0 431 (ofRuns [(512, (.int .i64 (-1))), (1, (.int .i64 (0)))])),
  (1137, .cells 3 0 320 (ofRuns [(1, (.ptr 5 0)), (1, .nilSl), (1, (.ptr 1136 0))])),
  (155, .cells 513 0 431 (ofRuns [(1, (.int .i64 (-1))), (2, (.int .i64 (321))), (1, (.int .i64 (-1))), (1, (.int .i64 (321))), (3, (.int .i64 (-1))), (1, (.int .i64 (321))), (7, (.int .i64 (-1))), (1, (.int .i64 (321))), (15, (.int .i64 (-1))), (1, (.int .i64 (321))), (31, (.int .i64 (-1))), (1, (.int .i64 (321))), (63, (.int .i64 (-1))), (1, (.int .i64 (321))), (127, (.int .i64 (-1))), (1, (.int .i64 (321))), (255, (.int .i64 (-1))), (1, (.int .i64 (1)))])),
  (430, .cells 512 0 512 (ofRuns [(1, (.int .u8 (3))), (1, (.int .u8 (0))), (1, (.int .u8 (115))), (1, (.int .u8 (1))), (1, (.int .u8 (209))), (1, (.int .u8 (1))), (1, (.int .u8 (47))), (1, (.int .u8 (0))), (1, (.int .u8 (162))), (1, (.int .u8 (1))), (1, (.int .u8 (47))), (1, (.int .u8 (0))), (1, (.int .u8 (115))), (1, (.int .u8 (1))), (1, (.int .u8 (47))), (356, (.int .u8 (0))), (1, (.int .u8 (3))), (7, (.int .u8 (0))), (1, (.int .u8 (1))), (22, (.int .u8 (0))), (1, (.int .u8 (2))), (7, (.int .u8 (0))), (1, (.int .u8 (2))), (7, (.int .u8 (0))), (1, (.int .u8 (2))), (7, (.int .u8 (0))), (1, (.int .u8 (1))), (22, (.int .u8 (0))), (1, (.int .u8 (1))), (7, (.int .u8 (0))), (1, (.int .u8 (1))), (7, (.int .u8 (0))), (1, (.int .u8 (1))), (7, (.int .u8 (0))), (1, (.int .u8 (1))), (38, (.int .u8 (0)))])),
  (432, .cells 1 1 345 (ofRuns [(1, (.ptr 430 0))])),
  (156, .cells 3 0 320 (ofRuns [(1, (.ptr 5 0)), (1, (.sl 432 0 1 none)), (1, (.ptr 155 0))])),
  (8, .map [⟨(.int .u64 (1)), (.ptr 156 0), 0⟩, ⟨(.int .u64 (2)), (.ptr 1137 0), 1⟩] 2),
  (5, .cells 1 0 175 (ofRuns [(1, (.int .i64 (255)))])),
  (1132, .cells 4 2 298 (ofRuns [(1, (.str [97])), (1, (.int .u8 (1))), (1, (.str [98])), (1, (.int .u8 (1)))])),
  (1133, .cells 5 0 315 (ofRuns [(1, (.int .u64 (2))), (1, (.str [117])), (1, (.int .u64 (1))), (1, (.int .u64 (0))), (1, (.sl 1132 0 2 none))])),
  (151, .cells 4 2 298 (ofRuns [(1, (.str [97])), (1, (.int .u8 (1))), (1, (.str [98])), (1, (.int .u8 (1)))])),
  (152, .cells 5 0 315 (ofRuns [(1, (.int .u64 (1))), (1, (.str [116])), (1, (.int .u64 (1))), (1, (.int .u64 (0))), (1, (.sl 151 0 2 none))])),
  (1135, .cells 2 1 309 (ofRuns [(1, (.ptr 152 0)), (1, (.ptr 1133 0))])),
  (7, .cells 3 0 179 (ofRuns [(1, (.sl 1135 0 2 none)), (1, .nilSl), (1, (.int .u64 (2)))])),
  (13, .cells 1 1 5 (ofRuns [(1, (.int .u8 (1)))])),
  (6, .cells 3 0 161 (ofRuns [(2, (.int .u64 (1))), (1, (.sl 13 0 1 none))])),
  (11, .cells 7 0 102 (ofRuns [(1, (.ptr 6 0)), (1, (.ptr 7 0)), (1, (.ptr 5 0)), (1, (.map 8)), (1, (.map 9)), (1, (.map 10)), (1, (.int .u64 (3)))]))]
theorem some_3 : isSomeH (hpT tl_3) = true := by kernel_rfl
theorem tell_3 : tellOK tl_3 1142 (.ptr 11 0) (fcall Tryz.prog 5 49 100000 1000 11 (.cons (.int .i64 3) (.cons (.int .i64 0) .nil)) H0 5 fin) = true := by kernel_rfl
noncomputable def tl_4 : List (Nat × TO) := (3, .cells 39 0 518 (strsA rsvL)) :: [(10, .map [⟨(.int .u64 (1)), (.agg (.cons (.int .u64 (1)) (.cons (.int .u64 (2)) (.cons (.int .u64 (2)) (.cons .nilSl .nil))))), 0⟩] 1),
  (9, .map [] 0),
  (1414, .cells 513 0 431 (ofRuns [(512, (.int .i64 (-1))), (1, (.int .i64 (0)))])),
  (1415, .cells 3 0 320 (ofRuns [(1, (.ptr 5 0)), (1, .nilSl), (1, (.ptr 1414 0))])),
  (155, .cells 513 0 431 (ofRuns [(1, (.int .i64 (-1))), (2, (.int .i64 (270))), (1, (.int .i64 (-1))), (1, (.int .i64 (270))), (3, (.int .i64 (-1))), (1, (.int .i64 (270))), (7, (.int .i64 (-1))), (1, (.int .i64 (270))), (15, (.int .i64 (-1))), (1, (.int .i64 (270))), (31, (.int .i64 (-1))), (1, (.int .i64 (270))), (63, (.int .i64 (-1))), (1, (.int .i64 (270))), (127, (.int .i64 (-1))), (1, (.int .i64 (270))), (255, (.int .i64 (-1))), (1, (.int .i64 (1)))])),
  (430, .cells 512 0 512 (ofRuns [(1, (.int .u8 (4))), (1, (.int .u8 (0))), (1, (.int .u8 (68))), (1, (.int .u8 (1))), (1, (.int .u8 (209))), (1, (.int .u8 (1))), (1, (.int .u8 (47))), (1, (.int .u8 (0))), (1, (.int .u8 (162))), (1, (.int .u8 (1))), (1, (.int .u8 (47))), (1, (.int .u8 (0))), (1, (.int .u8 (115))), (1, (.int .u8 (1))), (1, (.int .u8 (47))), (1, (.int .u8 (0))), (1, (.int .u8 (68))), (1, (.int .u8 (1))), (1, (.int .u8 (47))), (305, (.int .u8 (0))), (1, (.int .u8 (4))), (7, (.int .u8 (0))), (1, (.int .u8 (1))), (22, (.int .u8 (0))), (1, (.int .u8 (3))), (15, (.int .u8 (0))), (1, (.int .u8 (3))), (7, (.int .u8 (0))), (1, (.int .u8 (1))), (22, (.int .u8 (0))), (1, (.int .u8 (2))), (7, (.int .u8 (0))), (1, (.int .u8 (2))), (7, (.int .u8 (0))), (1, (.int .u8 (2))), (7, (.int .u8 (0))), (1, (.int .u8 (1))), (22, (.int .u8 (0))), (1, (.int .u8 (1))), (7, (.int .u8 (0))), (1, (.int .u8 (1))), (7, (.int .u8 (0))), (1, (.int .u8 (1))), (7, (.int .u8 (0))), (1, (.int .u8 (1))), (38, (.int .u8 (0)))])),
  (432, .cells 1 1 345 (ofRuns [(1, (.ptr 430 0))])),
  (156, .cells 3 0 320 (ofRuns [(1, (.ptr 5 0)), (1, (.sl 432 0 1 none)), (1, (.ptr 155 0))])),
  (8, .map [⟨(.int .u64 (1)), (.ptr 156 0), 0⟩, ⟨(.int .u64 (2)), (.ptr 1415 0), 1⟩] 2),
  (5, .cells 1 0 175 (ofRuns [(1, (.int .i64 (255)))])),
  (1410, .cells 4 2 298 (ofRuns [(1, (.str [97])), (1, (.int .u8 (1))), (1, (.str [98])), (1, (.int .u8 (1)))])),
  (1411, .cells 5 0 315 (ofRuns [(1, (.int .u64 (2))), (1, (.str [117])), (1, (.int .u64 (1))), (1, (.int .u64 (0))), (1, (.sl 1410 0 2 none))])),
  (151, .cells 4 2 298 (ofRuns [(1, (.str [97])), (1, (.int .u8 (1))), (1, (.str [98])), (1, (.int .u8 (1)))])),
  (152, .cells 5 0 315 (ofRuns [(1, (.int .u64 (1))), (1, (.str [116])), (1, (.int .u64 (1))), (1, (.int .u64 (0))), (1, (.sl 151 0 2 none))])),
  (1413, .cells 2 1 309 (ofRuns [(1, (.ptr 152 0)), (1, (.ptr 1411 0))])),
  (7, .cells 3 0 179 (ofRuns [(1, (.sl 1413 0 2 none)), (1, .nilSl), (1, (.int .u64 (2)))])),
  (13, .cells 1 1 5 (ofRuns [(1, (.int .u8 (1)))])),
  (6, .cells 3 0 161 (ofRuns [(2, (.int .u64 (1))), (1, (.sl 13 0 1 none))])),
  (11, .cells 7 0 102 (ofRuns [(1, (.ptr 6 0)), (1, (.ptr 7 0)), (1, (.ptr 5 0)), (1, (.map 8)), (1, (.map 9)), (1, (.map 10)), (1, (.int .u64 (4)))]))]
theorem some_4 : isSomeH (hpT tl_4) = true := by kernel_rfl
theorem tell_4 : tellOK tl_4 1420 (.ptr 11 0) (fcall Tryz.prog 5 49 100000 1000 11 (.cons (.int .i64 4) (.cons (.int .i64 0) .nil)) H0 5 fin) = true := by kernel_rfl
noncomputable def tl_5 : List (Nat × TO) := (3, .cells 39 0 518 (strsA rsvL)) :: [(10, .map [⟨(.int .u64 (1)), (.agg (.cons (.int .u64 (1)) (.cons (.int .u64 (2)) (.cons (.int .u64 (2)) (.cons .nilSl .nil))))), 0⟩] 1),
  (9, .map [] 0),
  (1692, .cells 513 0 431 (ofRuns [(512, (.int .i64 (-1))), (1, (.int .i64 (0)))])),
  (1693, .cells 3 0 320 (ofRuns [(1, (.ptr 5 0)), (1, .nilSl), (1, (.ptr 1692 0))])),
  (155, .cells 513 0 431 (ofRuns [(1, (.int .i64 (-1))), (2, (.int .i64 (219))), (1, (.int .i64 (-1))), (1, (.int .i64 (219))), (3, (.int .i64 (-1))), (1, (.int .i64 (219))), (7, (.int .i64 (-1))), (1, (.int .i64 (219))), (15, (.int .i64 (-1))), (1, (.int .i64 (219))), (31, (.int .i64 (-1))), (1, (.int .i64 (219))), (63, (.int .i64 (-1))), (1, (.int .i64 (219))), (127, (.int .i64 (-1))), (1, (.int .i64 (219))), (255, (.int .i64 (-1))), (1, (.int .i64 (1)))])),
  (430, .cells 512 0 512 (ofRuns [(1, (.int .u8 (5))), (1, (.int .u8 (0))), (1, (.int .u8 (21))), (1, (.int .u8 (1))), (1, (.int .u8 (209))), (1, (.int .u8 (1))), (1, (.int .u8 (47))), (1, (.int .u8 (0))), (1, (.int .u8 (162))), (1, (.int .u8 (1))), (1, (.int .u8 (47))), (1, (.int .u8 (0))), (1, (.int .u8 (115))), (1, (.int .u8 (1))), (1, (.int .u8 (47))), (1, (.int .u8 (0))), (1, (.int .u8 (68))), (1, (.int .u8 (1))), (1, (.int .u8 (47))), (1, (.int .u8 (0))), (1, (.int .u8 (21))), (1, (.int .u8 (1))), (1, (.int .u8 (47))), (254, (.int .u8 (0))), (1, (.int .u8 (5))), (7, (.int .u8 (0))), (1, (.int .u8 (1))), (22, (.int .u8 (0))), (1, (.int .u8 (4))), (7, (.int .u8 (0))), (1, (.int .u8 (1))), (7, (.int .u8 (0))), (1, (.int .u8 (4))), (7, (.int .u8 (0))), (1, (.int .u8 (1))), (22, (.int .u8 (0))), (1, (.int .u8 (3))), (15, (.int .u8 (0))), (1, (.int .u8 (3))), (7, (.int .u8 (0))), (1, (.int .u8 (1))), (22, (.int .u8 (0))), (1, (.int .u8 (2))), (7, (.int .u8 (0))), (1, (.int .u8 (2))), (7, (.int .u8 (0))), (1, (.int .u8 (2))), (7, (.int .u8 (0))), (1, (.int .u8 (1))), (22, (.int .u8 (0))), (1, (.int .u8 (1))), (7, (.int .u8 (0))), (1, (.int .u8 (1))), (7, (.int .u8 (0))), (1, (.int .u8 (1))), (7, (.int .u8 (0))), (1, (.int .u8 (1))), (38, (.int .u8 (0)))])),
  (432, .cells 1 1 345 (ofRuns [(1, (.ptr 430 0))])),
  (156, .cells 3 0 320 (ofRuns [(1, (.ptr 5 0)), (1, (.sl 432 0 1 none)), (1, (.ptr 155 0))])),
  (8, .map [⟨(.int .u64 (1)), (.ptr 156 0), 0⟩, ⟨(.int .u64 (2)), (.ptr 1693 0), 1⟩] 2),
  (5, .cells 1 0 175 (ofRuns [(1, (.int .i64 (255)))])),
  (1688, .cells 4 2 298 (ofRuns [(1, (.str [97])), (1, (.int .u8 (1))), (1, (.str [98])), (1, (.int .u8 (1)))])),
  (1689, .cells 5 0 315 (ofRuns [(1, (.int .u64 (2))), (1, (.str [117])), (1, (.int .u64 (1))), (1, (.int .u64 (0))), (1, (.sl 1688 0 2 none))])),
  (151, .cells 4 2 298 (ofRuns [(1, (.str [97])), (1, (.int .u8 (1))), (1, (.str [98])), (1, (.int .u8 (1)))])),
  (152, .cells 5 0 315 (ofRuns [(1, (.int .u64 (1))), (1, (.str [116])), (1, (.int .u64 (1))), (1, (.int .u64 (0))), (1, (.sl 151 0 2 none))])),
  (1691, .cells 2 1 309 (ofRuns [(1, (.ptr 152 0)), (1, (.ptr 1689 0))])),
  (7, .cells 3 0 179 (ofRuns [(1, (.sl 1691 0 2 none)), (1, .nilSl), (1, (.int .u64 (2)))])),
  (13, .cells 1 1 5 (ofRuns [(1, (.int .u8 (1)))])),
  (6, .cells 3 0 161 (ofRuns [(2, (.int .u64 (1))), (1, (.sl 13 0 1 none))])),
  (11, .cells 7 0 102 (ofRuns [(1, (.ptr 6 0)), (1, (.ptr 7 0)), (1, (.ptr 5 0)), (1, (.map 8)), (1, (.map 9)), (1, (.map 10)), (1, (.int .u64 (5)))]))]
theorem some_5 : isSomeH (hpT tl_5) = true := by kernel_rfl
theorem tell_5 : tellOK tl_5 1698 (.ptr 11 0) (fcall Tryz.prog 5 49 100000 1000 11 (.cons (.int .i64 5) (.cons (.int .i64 0) .nil)) H0 5 fin) = true := by kernel_rfl
end Go.Proofs.YtekecchdjkkoeaaGreatDoor
