/- PageStays: its arguments opened. No condition. -/
import Derived.Test.YtbibmgcklilpmaaPageStays2
namespace Go.Proofs.Ytbibmgcklilpmaa
open Go.RowKit Go.Lap

open Go.ChangeShapes Go.WideShapes in
set_option maxRecDepth 100000 in
/-- One call of a script by value. -/
theorem open_op5v {H : Type} {enc : TypeId × Value → H} {W : World} {r : Reach} {base : Nat} {v : Value} {d : DataW H} {p : List MemPlace} (hv : Value.okWide Try.prog W r base 119 v) (h : DataW.Trod enc Try.prog W 0 (fun _ => true) true 119 v d p) :
    ∃ (dn : Nat) (i : Int) (t : Tup) (A' : Option Addr) (cap' : Nat), dn < 256 ∧ t.data.length ≤ cap' ∧ cap' ≤ maxLen ∧ (∀ x ∈ t.data, x < 256) ∧ Rd W (· < W.heap.size) 1 A' t.data.length (bytesV t.data) ∧ v = .agg #[.int .u8 (dn : Int), .int .i64 i, .int .u64 (t.row : Int), .int .u64 (t.xmin : Int), .int .u64 (t.xmax : Int), .int .i64 t.pg, .int .i64 t.sl, .slice A' t.data.length cap'] := by
  obtain ⟨cs, rfl, hcs⟩ := okWide_struct Try.underlying119 hv
  obtain ⟨m, hm⟩ := h
  rw [cells_op5] at hcs
  obtain ⟨dn, i, t, A', cap', g1, g2, g3, g4, g5, e⟩ := op5_in hm (by simpa [Value.cells] using hcs)
  refine ⟨dn, i, t, A', cap', g1, g2, g3, g4, g5, ?_⟩
  simp [Value.cells] at e
  rw [← e]

set_option maxRecDepth 100000 in
theorem pageStays_walk {H : Type} {enc : TypeId × Value → H} {r : Reach} {base : Nat} {d0 d1 : DataW H} {p0 p1 : List MemPlace} (v0 v1 : Value) (W : World)
    (o0 : Value.okWide Try.prog W r base 117 v0) (h0 : DataW.Trod enc Try.prog W 0 (fun _ => true) true 117 v0 d0 p0) (o1 : Value.okWide Try.prog W r base 119 v1) (h1 : DataW.Trod enc Try.prog W 0 (fun _ => true) true 119 v1 d1 p1) :
    Calls Try.prog 15 #[v0, v1] W fun e w' => e = .returned (.bool true) ∧ Below W.heap.size W w' := by
  obtain ⟨A, n, cap, rfl, a1, a2, a3⟩ := open_ops5 o0 h0
  obtain ⟨dn, i, t, A', cap', g1, g2, g3, g4, g5, rfl⟩ := open_op5v o1 h1
  exact pageStays_any A n cap dn i t A' cap' W a3 a1 a2 g1 g2 g3 g4 g5

end Go.Proofs.Ytbibmgcklilpmaa
