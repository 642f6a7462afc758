/- YardNil's arguments opened. No condition. -/
import Derived.Test.YtahfajdmhnjkeaaGreatDoorOpen
import Derived.Test.YtahfajdmhnjkeaaGreatDoorYNil
namespace Go.Lap
open Go.ChangeShapes Go.WideShapes Go.ChangeAt Go.RowKit Go.Deep

section
variable {H : Type} {enc : TypeId × Value → H} {P : Program} {W : World} {r : Reach} {base : Nat} {v : Value} {d : DataW H} {p : List MemPlace}

/-- A slice told by its cells. -/
theorem open_slice_in {t e : TypeId} {size fuel : Nat} {cs0 : List Value} {x : DataW H × List MemPlace} (ht : P.underlying t = some (.slice e)) (hC : P.cellsOf e = size) (hs : 0 < size) (hf : DataW.trod enc P W 0 (fun _ => true) true fuel t cs0 = some x) :
    ∃ A n cap, cs0 = [.slice A n cap] ∧ n ≤ cap ∧ cap ≤ maxLen ∧ ∀ i, i < n → ∃ b off, A = some ⟨b, off, none⟩ ∧ b < W.heap.size ∧
      ∃ cs m x, cs.length = size ∧ (∀ f, f < size → W.cell? ⟨b, off + i * size + f, none⟩ = cs[f]?) ∧ DataW.trod enc P W 0 (fun _ => true) true m e cs = some x := by
  rcases open_slice ht hf with ⟨h0, _⟩ | ⟨a, len, cap', m, k, D, Pl, hcs, hb, hl, hm, hmm, _, hi⟩
  · exact ⟨none, 0, 0, h0, Nat.le_refl _, Nat.zero_le _, fun i hi => absurd hi (by omega)⟩
  · refine ⟨some a, len, cap', hcs, hl, hm, fun i hin => ?_⟩
    simp only [if_true] at hmm
    obtain ⟨cs, hc, htr⟩ := hi i (by omega)
    rw [hC] at hc
    obtain ⟨_, hlen, hcell⟩ := World.cells?_some hc
    have h0 := hcell 0 hs
    rw [List.getElem?_eq_getElem (by omega)] at h0
    obtain ⟨b, off, spot⟩ := a
    have hlt := cell_lt h0
    have hspot : spot = none := by
      obtain ⟨cs0, hc0, _⟩ := hi 0 (by omega)
      rw [hC] at hc0
      obtain ⟨_, hlen0, hcell0⟩ := World.cells?_some hc0
      have h1 := hcell0 0 hs
      rw [List.getElem?_eq_getElem (by omega)] at h1
      simpa [Addr.add] using World.cell?_spot h1
    subst hspot
    refine ⟨b, off, rfl, ?_, cs, _, _, hlen, fun f hf => ?_, htr⟩
    · rw [add_none, add_none] at hlt; exact hlt
    · rw [← hcell f hf, add_none, add_none]
end

theorem strs_in {W : World} {A : Option Addr} {n : Nat} (h : ∀ i, i < n → ∃ b off s, A = some ⟨b, off, none⟩ ∧ W.cell? ⟨b, off + i, none⟩ = some (.string s) ∧ s.size ≤ maxLen) :
    ∃ ys : List ByteArray, (∀ y ∈ ys, y.size ≤ maxLen) ∧ Rd W (fun _ => True) 1 A n (strsV ys) := by
  rcases n with _ | n
  · exact ⟨[], fun x hx => (List.not_mem_nil hx).elim, ⟨rfl, fun h => absurd h (by simp [strsV])⟩⟩
  obtain ⟨b, off, _, rfl, _⟩ := h 0 (by omega)
  have h' : ∀ i, ∃ s : ByteArray, i < n + 1 → W.cell? ⟨b, off + i, none⟩ = some (.string s) ∧ s.size ≤ maxLen := by
    intro i
    by_cases hi : i < n + 1
    · obtain ⟨b', off', z, e, hc, hz⟩ := h i hi
      simp only [Option.some.injEq, Addr.mk.injEq] at e
      obtain ⟨rfl, rfl, _⟩ := e
      exact ⟨z, fun _ => ⟨hc, hz⟩⟩
    · exact ⟨⟨#[]⟩, fun x => absurd x hi⟩
  obtain ⟨g, hg⟩ := Classical.axiomOfChoice h'
  refine ⟨(List.range (n + 1)).map g, fun x hx => ?_, ⟨by simp [strsV], fun _ => ⟨b, off, rfl, trivial, fun j u hj => ?_⟩⟩⟩
  · obtain ⟨i, hi, rfl⟩ := List.mem_map.1 hx
    exact (hg i (List.mem_range.1 hi)).2
  · simp only [strsV, List.map_map, List.getElem?_map] at hj
    by_cases hjn : j < n + 1
    · rw [List.getElem?_range hjn] at hj
      simp at hj
      subst hj
      exact (hg j hjn).1
    · rw [List.getElem?_eq_none (by simp; omega)] at hj
      simp at hj

end Go.Lap
namespace Go.Proofs.YtahfajdmhnjkeaaGreatDoor
open Go.ChangeShapes Go.WideShapes Go.ChangeAt Go.RowKit Go.Lap

theorem cells_strs : Tryz.prog.cellsOf 26 = 1 := by kernel_rfl
theorem cells_str : Tryz.prog.cellsOf 9 = 1 := by kernel_rfl

set_option maxRecDepth 100000 in
theorem open_lists {H : Type} {enc : TypeId × Value → H} {W : World} {r : Reach} {base : Nat} {v : Value} {d : DataW H} {p : List MemPlace} (hv : Value.okWide Tryz.prog W r base 22 v) (h : DataW.Trod enc Tryz.prog W 0 (fun _ => true) true 22 v d p) :
    ∃ A n cap, v = .slice A n cap ∧ n ≤ cap ∧ cap ≤ maxLen ∧ Lists W A n maxLen := by
  obtain ⟨A, n, cap, hvv, h1, h2, h3⟩ := open_slice_of Tryz.underlying22 cells_strs (by omega) hv h
  refine ⟨A, n, cap, hvv, h1, h2, fun i hi => ?_⟩
  obtain ⟨b, off, hA, hb, cs, m, x, _, hc, htr⟩ := h3 i hi
  obtain ⟨A', n', c', rfl, q1, q2, q3⟩ := open_slice_in Tryz.underlying26 cells_str (by omega) htr
  have hc0 := hc 0 (by omega)
  rw [Nat.mul_one, Nat.add_zero] at hc0
  obtain ⟨ys, y1, y2⟩ := strs_in (W := W) (A := A') (n := n') (fun k hk => by
    obtain ⟨b2, off2, e2, _, cs2, m2, x2, _, k1, k2⟩ := q3 k hk
    obtain ⟨s, rfl, _, hs⟩ := DataW.trod_string Tryz.underlying9 k2
    have k0 := k1 0 (by omega)
    rw [Nat.mul_one, Nat.add_zero] at k0
    exact ⟨b2, off2, s, e2, k0, hs⟩)
  exact ⟨b, off, A', n', c', ys, hA, hc0, y2, q1, q2, y1, by omega⟩

set_option maxRecDepth 100000 in
theorem yardNil_walk {H : Type} {enc : TypeId × Value → H} {r : Reach} {base : Nat} {d0 d1 d2 : DataW H} {p0 p1 p2 : List MemPlace} (v0 v1 v2 : Value) (W : World) (hG : Glob W)
    (o0 : Value.okWide Tryz.prog W r base 3 v0) (h0 : DataW.Trod enc Tryz.prog W 0 (fun _ => true) true 3 v0 d0 p0)
    (o1 : Value.okWide Tryz.prog W r base 3 v1) (h1 : DataW.Trod enc Tryz.prog W 0 (fun _ => true) true 3 v1 d1 p1)
    (o2 : Value.okWide Tryz.prog W r base 22 v2) (h2 : DataW.Trod enc Tryz.prog W 0 (fun _ => true) true 22 v2 d2 p2) :
    Calls Tryz.prog 3 #[v0, v1, v2] W fun e w' => e = .returned (.bool true) ∧ Below W.heap.size W w' := by
  obtain ⟨x, rfl, _, _, wx⟩ := open_int Tryz.underlying3 o0 h0
  obtain ⟨y, rfl, _, _, wy⟩ := open_int Tryz.underlying3 o1 h1
  obtain ⟨A, n, cap, rfl, hn, hc, hl⟩ := open_lists o2 h2
  refine (nil_law x y A n cap W hG hn hc hl).mono fun e W' ⟨he, hq⟩ => ⟨he, hq.os, hq.tape, hq.output, hq.size, fun k hk => hq.block k hk (fun x => x)⟩

end Go.Proofs.YtahfajdmhnjkeaaGreatDoor
