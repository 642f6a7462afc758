/- More of how arguments are opened: a slice inside a struct, a version by value, a place by value. -/
import Derived.Test.YtbibmgcklilpmaaOpen
import Derived.Test.YtbibmgcklilpmaaPageWalk4
import Derived.Laws.Rows
namespace Go.Lap
open Go.ChangeShapes Go.WideShapes Go.ChangeAt Go.RowKit Go.Deep

section
variable {H : Type} {enc : TypeId × Value → H} {P : Program} {W : World} {r : Reach} {base : Nat} {v : Value} {d : DataW H} {p : List MemPlace}

/-- A slice told by its cells. -/
theorem open_slice_in {t e : TypeId} {size fuel : Nat} {cs0 : List Value} {x : DataW H × List MemPlace} (ht : P.underlying t = some (.slice e)) (hC : P.cellsOf e = size) (hs : 0 < size) (hf : DataW.trod enc P W 0 (fun _ => true) true fuel t cs0 = some x) :
    ∃ A n cap, cs0 = [.slice A n cap] ∧ n ≤ cap ∧ cap ≤ maxLen ∧ ∀ i, i < n → ∃ b off, A = some ⟨b, off, none⟩ ∧ b < W.heap.size ∧
      ∃ cs m x, cs.length = size ∧ (∀ f, f < size → W.cell? ⟨b, off + i * size + f, none⟩ = cs[f]?) ∧ DataW.trod enc P W 0 (fun _ => true) true m e cs = some x := by
  rcases open_slice ht hf with ⟨h0, _⟩ | ⟨a, len, cap', m, k, D, Pl, hcs, hb, hl, hm, hmm, _, hi⟩
  · exact ⟨none, 0, 0, h0, Nat.le_refl _, Nat.zero_le _, fun i hi => absurd hi (by omega)⟩
  · refine ⟨some a, len, cap', hcs, hl, hm, fun i hin => ?_⟩
    simp only [if_true] at hmm
    obtain ⟨cs, hc, htr⟩ := hi i (by omega)
    rw [hC] at hc
    obtain ⟨_, hlen, hcell⟩ := World.cells?_some hc
    have h0 := hcell 0 hs
    rw [List.getElem?_eq_getElem (by omega)] at h0
    obtain ⟨b, off, spot⟩ := a
    have hlt := cell_lt h0
    have hspot : spot = none := by
      obtain ⟨cs0, hc0, _⟩ := hi 0 (by omega)
      rw [hC] at hc0
      obtain ⟨_, hlen0, hcell0⟩ := World.cells?_some hc0
      have h1 := hcell0 0 hs
      rw [List.getElem?_eq_getElem (by omega)] at h1
      simpa [Addr.add] using World.cell?_spot h1
    subst hspot
    refine ⟨b, off, rfl, ?_, cs, _, _, hlen, fun f hf => ?_, htr⟩
    · rw [add_none, add_none] at hlt; exact hlt
    · rw [← hcell f hf, add_none, add_none]

theorem nat_u64 {z : Int} (h : (Lit.int .u64 z).wf = true) : ∃ n : Nat, z = n := by
  have : 0 ≤ z := by
    simp [Lit.wf, show IntKind.u64.min = 0 from rfl] at h
    exact h.1
  exact ⟨z.toNat, by omega⟩

theorem nat_u8 {z : Int} (h : (Lit.int .u8 z).wf = true) : ∃ n : Nat, z = n ∧ n < 256 := by
  simp [Lit.wf, show IntKind.u8.min = 0 from rfl, show IntKind.u8.max = 255 from rfl] at h
  obtain ⟨h1, h2⟩ := h
  exact ⟨z.toNat, by omega, by omega⟩

end
end Go.Lap
namespace Go.Proofs.Ytbibmgcklilpmaa
open Go.RowKit Go.Lap

/-- Bytes that came in, as one list. -/
theorem reads_bytes {W : World} {A : Option Addr} {n : Nat} (h : ∀ i, i < n → ∃ b off z, A = some ⟨b, off, none⟩ ∧ b < W.heap.size ∧ W.cell? ⟨b, off + i, none⟩ = some (.int .u8 z) ∧ (Lit.int .u8 z).wf = true) :
    ∃ l : List Nat, l.length = n ∧ (∀ x ∈ l, x < 256) ∧ Rd W (· < W.heap.size) 1 A n (bytesV l) := by
  rcases n with _ | n
  · exact ⟨[], rfl, fun x hx => (List.not_mem_nil hx).elim, ⟨rfl, fun h => absurd h (by simp [bytesV])⟩⟩
  obtain ⟨b, off, _, rfl, hb, _⟩ := h 0 (by omega)
  have h' : ∀ i, ∃ m : Nat, i < n + 1 → W.cell? ⟨b, off + i, none⟩ = some (.int .u8 m) ∧ m < 256 := by
    intro i
    by_cases hi : i < n + 1
    · obtain ⟨b', off', z, e, _, hc, hz⟩ := h i hi
      obtain ⟨m, rfl, hm⟩ := nat_u8 hz
      simp only [Option.some.injEq, Addr.mk.injEq] at e
      obtain ⟨rfl, rfl, _⟩ := e
      exact ⟨m, fun _ => ⟨hc, hm⟩⟩
    · exact ⟨0, fun x => absurd x hi⟩
  obtain ⟨g, hg⟩ := Classical.axiomOfChoice h'
  refine ⟨(List.range (n + 1)).map g, by simp, fun x hx => ?_, ⟨by simp [bytesV], fun _ => ⟨b, off, rfl, hb, fun j u hj => ?_⟩⟩⟩
  · obtain ⟨i, hi, rfl⟩ := List.mem_map.1 hx
    exact (hg i (List.mem_range.1 hi)).2
  · simp only [bytesV, List.map_map, List.getElem?_map] at hj
    by_cases hjn : j < n + 1
    · rw [List.getElem?_range hjn] at hj
      simp at hj
      subst hj
      exact (hg j hjn).1
    · rw [List.getElem?_eq_none (by simp; omega)] at hj
      simp at hj

theorem cells_u8o : Try.prog.cellsOf 5 = 1 := by kernel_rfl
theorem cells_u64 : Try.prog.cellsOf 49 = 1 := by kernel_rfl
theorem cells_into : Try.prog.cellsOf 3 = 1 := by kernel_rfl
theorem cells_tid : Try.prog.cellsOf 51 = 2 := by kernel_rfl
theorem cells_tup : Try.prog.cellsOf 54 = 6 := by kernel_rfl
theorem cells_u8s : Try.prog.cellsOf 48 = 1 := by kernel_rfl

open Go.ChangeShapes Go.WideShapes in
set_option maxRecDepth 100000 in
/-- A place told by its cells. -/
theorem tid_in {H : Type} {enc : TypeId × Value → H} {W : World} {m : Nat} {cs : List Value} {x : DataW H × List MemPlace} (h : DataW.trod enc Try.prog W 0 (fun _ => true) true m 51 cs = some x) :
    ∃ pg sl : Int, cs[0]? = some (.int .i64 pg) ∧ cs[1]? = some (.int .i64 sl) ∧ (Lit.int .i64 pg).wf = true ∧ (Lit.int .i64 sl).wf = true := by
  obtain ⟨z0, e0, g0⟩ := open_field_int Try.underlying51 h 0 3 0 .i64 rfl cells_into Try.underlying3
  obtain ⟨z1, e1, g1⟩ := open_field_int Try.underlying51 h 1 3 1 .i64 rfl cells_into Try.underlying3
  exact ⟨z0, z1, e0, e1, g0, g1⟩

open Go.ChangeShapes Go.WideShapes in
set_option maxRecDepth 100000 in
/-- A version told by its cells. -/
theorem tup_in {H : Type} {enc : TypeId × Value → H} {W : World} {m : Nat} {cs : List Value} {x : DataW H × List MemPlace} (h : DataW.trod enc Try.prog W 0 (fun _ => true) true m 54 cs = some x) (hl : cs.length = 6) :
    ∃ (t : Tup) (A : Option Addr) (cap : Nat), cs = [.int .u64 t.row, .int .u64 t.xmin, .int .u64 t.xmax, .int .i64 t.pg, .int .i64 t.sl, .slice A t.data.length cap] ∧ t.data.length ≤ cap ∧ cap ≤ maxLen ∧ (∀ x ∈ t.data, x < 256) ∧ Rd W (· < W.heap.size) 1 A t.data.length (bytesV t.data) := by
  obtain ⟨z0, e0, g0⟩ := open_field_int Try.underlying54 h 0 49 0 .u64 rfl cells_u64 Try.underlying49
  obtain ⟨z1, e1, g1⟩ := open_field_int Try.underlying54 h 1 49 1 .u64 rfl cells_u64 Try.underlying49
  obtain ⟨z2, e2, g2⟩ := open_field_int Try.underlying54 h 2 49 2 .u64 rfl cells_u64 Try.underlying49
  obtain ⟨n3, y3, h3⟩ := open_field Try.underlying54 h 3 51 3 2 rfl cells_tid
  obtain ⟨n5, y5, h5⟩ := open_field Try.underlying54 h 4 48 5 1 rfl cells_u8s
  obtain ⟨pg, sl, e3, e4, _, _⟩ := tid_in h3
  obtain ⟨A, n, cap, e5, a1, a2, a3⟩ := open_slice_in Try.underlying48 cells_u8o (by omega) h5
  obtain ⟨r0, rfl⟩ := nat_u64 g0
  obtain ⟨r1, rfl⟩ := nat_u64 g1
  obtain ⟨r2, rfl⟩ := nat_u64 g2
  obtain ⟨l, rfl, hb, hr⟩ := reads_bytes (A := A) (n := n) (W := W) (fun i hi => by
    obtain ⟨b, off, hA, hb, cs', m', x', _, hc, htr⟩ := a3 i hi
    obtain ⟨z, rfl, _, hz⟩ := DataW.trod_int Try.underlying5 htr
    refine ⟨b, off, z, hA, hb, ?_, hz⟩
    have := hc 0 (by omega)
    rw [Nat.mul_one, Nat.add_zero] at this
    exact this)
  refine ⟨⟨r0, r1, r2, pg, sl, l⟩, A, cap, ?_, a1, a2, hb, hr⟩
  match cs, hl with
  | [x0, x1, x2, x3, x4, x5], _ =>
    simp at e0 e1 e2 e3 e4 e5
    simp [e0, e1, e2, e3, e4, e5]

open Go.ChangeShapes Go.WideShapes in
set_option maxRecDepth 100000 in
/-- A version by value. -/
theorem open_tup {H : Type} {enc : TypeId × Value → H} {W : World} {r : Reach} {base : Nat} {v : Value} {d : DataW H} {p : List MemPlace} (hv : Value.okWide Try.prog W r base 54 v) (h : DataW.Trod enc Try.prog W 0 (fun _ => true) true 54 v d p) :
    ∃ (t : Tup) (A : Option Addr) (cap : Nat), v = tupV t A cap ∧ t.data.length ≤ cap ∧ cap ≤ maxLen ∧ (∀ x ∈ t.data, x < 256) ∧ Rd W (· < W.heap.size) 1 A t.data.length (bytesV t.data) := by
  obtain ⟨cs, rfl, hcs⟩ := okWide_struct Try.underlying54 hv
  obtain ⟨m, hm⟩ := h
  rw [cells_tup] at hcs
  obtain ⟨t, A, cap, e, rest⟩ := tup_in hm (by simpa [Value.cells] using hcs)
  refine ⟨t, A, cap, ?_, rest⟩
  simp [Value.cells] at e
  unfold tupV
  rw [← e]

open Go.ChangeShapes Go.WideShapes in
set_option maxRecDepth 100000 in
/-- A place by value. -/
theorem open_tid {H : Type} {enc : TypeId × Value → H} {W : World} {r : Reach} {base : Nat} {v : Value} {d : DataW H} {p : List MemPlace} (hv : Value.okWide Try.prog W r base 51 v) (h : DataW.Trod enc Try.prog W 0 (fun _ => true) true 51 v d p) :
    ∃ pg sl : Int, v = .agg #[.int .i64 pg, .int .i64 sl] ∧ (Lit.int .i64 pg).wf = true ∧ (Lit.int .i64 sl).wf = true := by
  obtain ⟨cs, rfl, hcs⟩ := okWide_struct Try.underlying51 hv
  obtain ⟨m, hm⟩ := h
  rw [cells_tid] at hcs
  obtain ⟨pg, sl, e0, e1, g⟩ := tid_in hm
  refine ⟨pg, sl, ?_, g⟩
  obtain ⟨cs⟩ := cs
  match cs, hcs with
  | [x0, x1], _ =>
    simp [Value.cells] at e0 e1
    rw [e0, e1]

end Go.Proofs.Ytbibmgcklilpmaa
