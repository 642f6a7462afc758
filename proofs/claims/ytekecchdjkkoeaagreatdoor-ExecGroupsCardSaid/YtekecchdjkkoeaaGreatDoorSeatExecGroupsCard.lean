/- ExecGroups returns true for every input, and every input reads as it did; its tied card. No condition. -/
import Derived.Test.YtekecchdjkkoeaaGreatDoorSeatExecGroupsProof
import Derived.Test.YtekecchdjkkoeaaGreatDoorSeatGoes
set_option linter.unusedVariables false
set_option linter.unusedSimpArgs false
namespace Go.Proofs.YtekecchdjkkoeaaGreatDoor.execGroups
open Go.ChangeShapes Go.WideShapes Go.ChangeAt Go.RowKit
set_option maxRecDepth 100000
theorem proved : Rows.ExecGroupsCardSaid :=
  Claim7.holds_tied_plain_at .later [] [.data, .widerDeep, .pinned, .pinned] true (true, "2f39632a0813be56fe74a73e011d22bc60a15f5913f7759c76946bd8b3aa718b") true over (fun _ h => by cases h) (by kernel_rfl) (fun _ h => by cases h) execGroups_row_tie rfl ⟨rfl, rfl⟩ (by kernel_rfl) rfl
    (fun f fn hf hfn => by
      obtain rfl : f = 4 := Option.some.inj ((show Tryz.prog.funcNamed "lapidary/lapidarylaw20.ExecGroups" = some 4 by kernel_rfl).symm.trans hf) |>.symm
      obtain rfl : fn = Tryz.f4 := (Option.some.inj (Tryz.func4.symm.trans hfn)).symm
      exact ⟨by kernel_rfl, fun j t ht => by
        rw [Tryz.params4] at ht
        have hm : t ∈ [5, 37] := by simpa using Array.mem_of_getElem? ht
        have hall : ([5, 37].all fun u => !Tryz.prog.wantsStandIn u) = true := by kernel_rfl
        exact (show Tryz.prog.wantsStandIn t = false by simpa using List.all_eq_true.1 hall t hm)⟩)
    (goes_by rfl)
#print axioms proved
end Go.Proofs.YtekecchdjkkoeaaGreatDoor.execGroups
