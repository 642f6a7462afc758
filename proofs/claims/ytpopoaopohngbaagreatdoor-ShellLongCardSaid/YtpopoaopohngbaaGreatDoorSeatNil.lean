/- What lies in memory ahead of a call of this seat. No condition. -/
import Derived.Test.YtpopoaopohngbaaGreatDoorEv5
import Derived.Test.YtpopoaopohngbaaGreatDoorSeatH
import Derived.Test.YtpopoaopohngbaaGreatDoorSeatFacts
import Derived.Test.YtpopoaopohngbaaGreatDoorCards
import Derived.Test.YtpopoaopohngbaaGreatDoorTie
import Derived.LaidMore
import Derived.Lay
import Derived.SevenTiedAt
import Derived.Stop.Joined
import Derived.RowKit
import Derived.ChangeShapes
import Derived.WideShapes
set_option linter.unusedVariables false
set_option linter.unusedSimpArgs false
namespace Go.Proofs.YtpopoaopohngbaaGreatDoor
open Go.Ev Go.Lib

set_option maxRecDepth 100000
theorem rsv_some : rowOf (strsA rsvL) = some rsvRow := by
  unfold rsvRow
  cases h : rowOf (strsA rsvL) with
  | some c => rfl
  | none => exact absurd h (by have : (rowOf (strsA rsvL)).isSome = true := by kernel_rfl
                               intro e; rw [e] at this; cases this)
theorem H0_some : hpOf gRows 0 .e = some H0 := by
  unfold H0
  cases h : hpOf gRows 0 .e with
  | some c => rfl
  | none => exact absurd h (by have : (hpOf gRows 0 .e).isSome = true := by kernel_rfl
                               intro e; rw [e] at this; cases this)
theorem H0_get (g : Nat) (o : AO) (h : H0.get g = some o) : gRows[g]? = some o := by
  rw [hpOf_get H0_some g] at h
  split at h
  · simpa using h
  · simp at h

theorem start {W : World} (hs : W.ShapedOpen Tryz.prog) (hr : VarReads Tryz.prog W "lapidary/parse.reserved" Rows.laid_lapidary_parse_reserved) : SR (env0 10) H0 10 W := by
  have hz : ∀ g z t, g < 10 → (((begin Tryz.prog (fun _ _ => 0) default).world.heap[g]?).bind Obj.row?) = some (z, t) → ∃ ob, W.heap[g]? = some ob := fun g z t hg h => by
    obtain ⟨cs, h1, _⟩ := hs.1 g z t (by show g < 10; exact hg) h
    exact ⟨_, h1⟩
  have h4 : ∃ z t, (((begin Tryz.prog (fun _ _ => 0) default).world.heap[9]?).bind Obj.row?) = some (z, t) := by
    have : (((begin Tryz.prog (fun _ _ => 0) default).world.heap[9]?).bind Obj.row?).isSome = true := by kernel_rfl
    obtain ⟨x, hx⟩ := Option.isSome_iff_exists.1 this
    exact ⟨x.1, x.2, hx⟩
  have hsz : 10 ≤ W.heap.size := by
    obtain ⟨z, t, h⟩ := h4
    obtain ⟨ob, h⟩ := hz 9 z t (by omega) h
    have := (Array.getElem?_eq_some_iff.1 h).1
    omega
  refine start_SR hsz (fun g o h => ?_)
  have h := H0_get g o h
  have hg : g < 10 := (List.getElem?_eq_some_iff.1 h).1
  refine ⟨hg, ?_⟩
  rcases (by omega : g = 8 ∨ g ≠ 8) with rfl | hne
  · right
    have ho : o = .cells rsvRow 39 0 568 := by simpa [gRows] using h.symm
    subst ho
    have h3 : (((begin Tryz.prog (fun _ _ => 0) default).world.heap[8]?).bind Obj.row?).map (fun x => (x.1.size, x.2)) = some (39, 568) := by kernel_rfl
    obtain ⟨⟨z, t⟩, hx, hzt⟩ := Option.map_eq_some_iff.1 h3
    simp only [Prod.mk.injEq] at hzt
    obtain ⟨hz1, rfl⟩ := hzt
    have hd : (Rows.laid_lapidary_parse_reserved : DataW Unit) = .agg (rsvL.map fun l => .lit (.string l)) := by kernel_rfl
    rw [hd] at hr
    exact start_row hr (by kernel_rfl) (by show 8 < 10; omega) (by kernel_rfl) (by kernel_rfl) (e := 9) (by kernel_rfl) (by kernel_rfl) (by kernel_rfl) hs hx hz1 rsv_some
  · left
    match g, hne, h with
    | 0, _, h => simpa [gRows] using h.symm
    | 1, _, h => simpa [gRows] using h.symm
    | 2, _, h => simpa [gRows] using h.symm
    | 3, _, h => simpa [gRows] using h.symm
    | 4, _, h => simpa [gRows] using h.symm
    | 5, _, h => simpa [gRows] using h.symm
    | 6, _, h => simpa [gRows] using h.symm
    | 7, _, h => simpa [gRows] using h.symm
    | 9, _, h => simpa [gRows] using h.symm
    | g + 10, _, h => omega
end Go.Proofs.YtpopoaopohngbaaGreatDoor
