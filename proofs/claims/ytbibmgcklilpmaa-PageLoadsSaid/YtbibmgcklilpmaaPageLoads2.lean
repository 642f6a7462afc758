/- PageLoads: its argument opened. No condition. -/
import Derived.Test.YtbibmgcklilpmaaPageLoads
import Derived.Test.YtbibmgcklilpmaaRefLoad
import Derived.Test.YtbibmgcklilpmaaOpen2
namespace Go.Proofs.Ytbibmgcklilpmaa
open Go.RowKit Go.Lap

open Go.ChangeShapes Go.WideShapes in
set_option maxRecDepth 100000 in
theorem pageLoads_walk {H : Type} {enc : TypeId × Value → H} {r : Reach} {base : Nat} {d0 : DataW H} {p0 : List MemPlace} (v0 : Value) (W : World)
    (o0 : Value.okWide Try.prog W r base 48 v0) (h0 : DataW.Trod enc Try.prog W 0 (fun _ => true) true 48 v0 d0 p0) :
    Calls Try.prog 14 #[v0] W fun e w' => e = .returned (.bool true) ∧ Below W.heap.size W w' := by
  obtain ⟨A, n, cap, rfl, h1, h2, h3⟩ := open_slice_of Try.underlying48 cells_u8o (by omega) o0 h0
  obtain ⟨l, rfl, hb, hr⟩ := reads_bytes (A := A) (n := n) (W := W) (fun i hi => by
    obtain ⟨b, off, hA, hb, cs', m', x', _, hc, htr⟩ := h3 i hi
    obtain ⟨z, rfl, _, hz⟩ := DataW.trod_int Try.underlying5 htr
    refine ⟨b, off, z, hA, hb, ?_, hz⟩
    have := hc 0 (by omega)
    rw [Nat.mul_one, Nat.add_zero] at this
    exact this)
  exact pageLoads_any (fun b off cap g w hc hg hcap => (ref_load b off cap g w hc hg hcap).mono (fun _ _ h => h)) A cap l W hr h1 h2 hb

end Go.Proofs.Ytbibmgcklilpmaa
