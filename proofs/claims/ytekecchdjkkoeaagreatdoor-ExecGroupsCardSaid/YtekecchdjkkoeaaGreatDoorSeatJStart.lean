/- What the laws of layer 20 begin with; awake is told, not reckoned again. No condition. -/
import Derived.Test.YtekecchdjkkoeaaGreatDoorSeatBase
import Derived.Test.YtekecchdjkkoeaaGreatDoorSeatJA
set_option linter.unusedVariables false
set_option linter.unusedSimpArgs false
namespace Go.Proofs.YtekecchdjkkoeaaGreatDoor
open Go.Ev
set_option maxRecDepth 100000
theorem start_inst : Go.Ev.Start 5 3 39 518 rsvRow H0 where
  at_ := by rw [hpOf_get H0_some 3]; rfl
  lt := by omega
  dead := fun id o h => by
    have h := H0_get id o h
    match id, h with
    | 0, h => exact .inr ⟨by omega, by simpa [gRows] using h.symm⟩
    | 1, h => exact .inr ⟨by omega, by simpa [gRows] using h.symm⟩
    | 2, h => exact .inr ⟨by omega, by simpa [gRows] using h.symm⟩
    | 3, h => exact .inl rfl
    | 4, h => exact .inr ⟨by omega, by simpa [gRows] using h.symm⟩
    | g + 5, h => exact absurd (List.getElem?_eq_some_iff.1 h).1 (by simp [gRows])
  cells := fun i v h => by
    have e := putCells_get (l := strsA rsvL) (by kernel_rfl) rsv_some i
    have hlen : (strsA rsvL).len = 39 := by kernel_rfl
    rw [e, hlen] at h
    split at h
    · rename_i hi; omega
    · simp at h
theorem top_j : CallOK Tryz.prog 5 (fun f args H nx => topO Tryz.prog 5 49 100000 3 39 518 rsvRow 10 f args H nx) := topO_ok start_inst rf_ok (ext_ok next_ok) hname (draw_ok hmix) 100000 awake20
end Go.Proofs.YtekecchdjkkoeaaGreatDoor
