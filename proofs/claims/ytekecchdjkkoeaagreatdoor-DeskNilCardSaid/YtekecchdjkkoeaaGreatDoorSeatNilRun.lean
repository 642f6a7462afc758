/- DeskNil's runs. No condition. -/
import Derived.Test.YtekecchdjkkoeaaGreatDoorSeatH
set_option linter.unusedVariables false
set_option linter.unusedSimpArgs false
namespace Go.Proofs.YtekecchdjkkoeaaGreatDoor
open Go.Ev
noncomputable def ks : List AV := [.rng none (some (-1)), .rng (some 8) none, .int .i64 0, .int .i64 1, .int .i64 2, .int .i64 3, .int .i64 4, .int .i64 5, .int .i64 6, .int .i64 7]
theorem nil_runs : ks.all (fun k => okT (topA Tryz.prog 5 49 100000 9 (.cons k (.cons .unk .nil)) H0 5)) = true := by kernel_rfl
end Go.Proofs.YtekecchdjkkoeaaGreatDoor
