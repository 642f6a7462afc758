/- YardNil returns true for every input, and every input reads as it did; its tied card. No condition. -/
import Derived.Test.YtahfajdmhnjkeaaGreatDoorSeatYardNilProof
import Derived.Test.YtahfajdmhnjkeaaGreatDoorSeatGoes
set_option linter.unusedVariables false
set_option linter.unusedSimpArgs false
namespace Go.Proofs.YtahfajdmhnjkeaaGreatDoor.yardNil
open Go.ChangeShapes Go.WideShapes Go.ChangeAt Go.RowKit
set_option maxRecDepth 100000
theorem proved : Rows.YardNilCardSaid :=
  Claim7.holds_tied_plain_at .later [] [.data, .widerDeep, .pinned, .pinned] true (true, "11d4b37d875055977d583e312a86b738526b277bbaa8f9b2ab378434e5e0763b") true over (fun _ h => by cases h) (by kernel_rfl) (fun _ h => by cases h) yardNil_row_tie rfl ⟨rfl, rfl⟩ (by kernel_rfl) rfl
    (fun f fn hf hfn => by
      obtain rfl : f = 3 := Option.some.inj ((show Tryz.prog.funcNamed "lapidary/lapidarylaw22.YardNil" = some 3 by kernel_rfl).symm.trans hf) |>.symm
      obtain rfl : fn = Tryz.f3 := (Option.some.inj (Tryz.func3.symm.trans hfn)).symm
      exact ⟨by kernel_rfl, fun j t ht => by
        rw [Tryz.params3] at ht
        have hm : t ∈ [3, 3, 22] := by simpa using Array.mem_of_getElem? ht
        have hall : ([3, 3, 22].all fun u => !Tryz.prog.wantsStandIn u) = true := by kernel_rfl
        exact (show Tryz.prog.wantsStandIn t = false by simpa using List.all_eq_true.1 hall t hm)⟩)
    (goes_by rfl)
#print axioms proved
end Go.Proofs.YtahfajdmhnjkeaaGreatDoor.yardNil
