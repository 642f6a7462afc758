/- ShellLong returns true for every input, and every input reads as it did; its tied card. No condition. -/
import Derived.Test.YtpopoaopohngbaaGreatDoorSeatShellLongProof
import Derived.Test.YtpopoaopohngbaaGreatDoorSeatGoes
set_option linter.unusedVariables false
set_option linter.unusedSimpArgs false
namespace Go.Proofs.YtpopoaopohngbaaGreatDoor.shellLong
open Go.ChangeShapes Go.WideShapes Go.ChangeAt Go.RowKit
set_option maxRecDepth 100000
theorem proved : Rows.ShellLongCardSaid :=
  Claim7.holds_tied_plain_at .later [] [.data, .data, .data, .data, .sentinel, .sentinel, .widerDeep, .pinned, .pinned] true (true, "7794709f3afe06938b46a682ee37c4e0bfc35f7c52bfad9feee4e553a27abe47") true over (fun _ h => by cases h) (by kernel_rfl) (fun _ h => by cases h) shellLong_row_tie rfl ⟨rfl, rfl⟩ (by kernel_rfl) rfl
    (fun f fn hf hfn => by
      obtain rfl : f = 3 := Option.some.inj ((show Tryz.prog.funcNamed "lapidary/lapidarylaw23.ShellLong" = some 3 by kernel_rfl).symm.trans hf) |>.symm
      obtain rfl : fn = Tryz.f3 := (Option.some.inj (Tryz.func3.symm.trans hfn)).symm
      exact ⟨by kernel_rfl, fun j t ht => by
        rw [Tryz.params3] at ht
        have hm : t ∈ [5] := by simpa using Array.mem_of_getElem? ht
        have hall : ([5].all fun u => !Tryz.prog.wantsStandIn u) = true := by kernel_rfl
        exact (show Tryz.prog.wantsStandIn t = false by simpa using List.all_eq_true.1 hall t hm)⟩)
    (goes_by rfl)
#print axioms proved
end Go.Proofs.YtpopoaopohngbaaGreatDoor.shellLong
