/- slices.SortFunc on a row that the call owns, of structs of k cells: a permutation, sorted. No condition. -/
import Derived.Test.YtbibmgcklilpmaaBase
import Derived.Test.YtbibmgcklilpmaaRefPage
import Derived.Shelf.SlSortCmp.NoneTotal
namespace Go.Lap
open Go.Sort Go.Proofs Go.Shelf Go.RowKit

theorem flatK_toList {α : Type} [Inhabited α] (enc : α → List Value) (k : Nat) (hk : ∀ x, (enc x).length = k) (l : List α) : (flatK enc k l.toArray).toList = l.flatMap enc := by
  apply List.ext_getElem?
  intro t
  have hrows : ∀ r ∈ l.map enc, r.length = k := fun r hr => by
    obtain ⟨x, _, rfl⟩ := List.mem_map.1 hr
    exact hk x
  have hfl : (l.flatMap enc).length = l.length * k := by
    rw [List.flatMap_def, flat_length hrows, List.length_map]
  by_cases ht : t < l.length * k
  · have k0 : 0 < k := by
      rcases Nat.eq_zero_or_pos k with h | h
      · subst h; simp at ht
      · exact h
    have hd : t / k < l.length := by rw [Nat.div_lt_iff_lt_mul k0]; exact ht
    have hm : t % k < k := Nat.mod_lt _ k0
    have e : t / k * k + t % k = t := by rw [Nat.mul_comm]; exact Nat.div_add_mod t k
    have h1 := flat_get hrows (i := t / k) (j := t % k) (r := enc l[t / k]) (by rw [List.getElem?_map, List.getElem?_eq_getElem hd]; rfl) hm
    rw [e, ← List.flatMap_def] at h1
    rw [h1, Array.getElem?_toList, Array.getElem?_eq_getElem (by simpa using ht)]
    have hg := get_flatK enc k l.toArray t (by simpa using ht)
    rw [getElem!_pos _ _ (by simpa using ht)] at hg
    rw [hg]
    have hh : l.toArray[t / k]! = l[t / k] := by
      rw [getElem!_pos _ _ (by simpa using hd)]
      simp
    rw [hh, getElem!_pos _ _ (by rw [hk]; exact hm), List.getElem?_eq_getElem (by rw [hk]; exact hm)]
  · rw [List.getElem?_eq_none (by simp; omega), List.getElem?_eq_none (by rw [hfl]; omega)]

theorem flatMap_len {α : Type} {enc : α → List Value} {k : Nat} (hk : ∀ x, (enc x).length = k) (l : List α) : (l.flatMap enc).length = l.length * k := by
  rw [List.flatMap_def, flat_length (fun r hr => by obtain ⟨x, _, rfl⟩ := List.mem_map.1 hr; exact hk x), List.length_map]

theorem putCells_take {cur F : Array Value} (h : F.size ≤ cur.size) : (putCells id 0 F cur).toList.take F.size = F.toList := by
  apply List.ext_getElem?
  intro j
  by_cases hj : j < F.size
  · rw [List.getElem?_take_of_lt hj, Array.getElem?_toList, Array.getElem?_toList]
    simp [putCells, hj, show j < cur.size by omega]
  · rw [List.getElem?_take_eq_none (by omega), List.getElem?_eq_none (by simp; omega)]

section
variable {P : Program} {ρ : Ren} {α : Type} [Inhabited α]

/-- A row of structs sorted. -/
theorem sort_own (L : SlLaysF0.n6 P ρ) (k : Nat) (aE : ∀ w, (isAgg (ρ.t 24)).run P w = .ok true w) (zE : ∀ w, (Go.sizeOf (ρ.t 24)).run P w = .ok k w) (enc : α → List Value) (hk : ∀ x, (enc x).length = k)
    (h1 : ∀ x, ∀ v ∈ enc x, v.oneCell' = true) (cf : α → α → Int) (hO : SWO (ltOf cf)) (g : Nat) (eg : ∀ args w, (callFunc g args).run P w = .ok (.enter g args) w)
    (hcl : ∀ x y W, Calls P g #[.agg (enc x).toArray, .agg (enc y).toArray] W fun e w' => e = .returned (.int .i64 (cf x y)) ∧ ∃ q os', w' = grow (W.drewN q) os')
    (e : TypeId) (v : Value) (l : List α) (w : World) (hown : w.ownsRow 0 e k v l.length (l.flatMap enc)) (hl : l.length < 4611686018427387904) :
    Calls P (ρ.f 6) #[v, .func (.func g) #[] #[]] w fun e' w' => e' = .returned (.tuple #[]) ∧ ∃ l' : List α, l'.Perm l ∧ l'.Pairwise (fun a b => ltOf cf b a = false) ∧ w'.ownsRow 0 e k v l.length (l'.flatMap enc) ∧ Only (fun k => v.ownBlock = some k) w w' := by
  rcases hown.2 with ⟨rfl, h0⟩ | ⟨b, cap, cur, rfl, _, hb, hc1, hc2, hc3, hc4⟩
  · have hl0 : l = [] := List.eq_nil_of_length_eq_zero h0
    subst hl0
    refine (AnyF.slices_SortFunc_none L none 0 (.func (.func g) #[] #[]) w).mono ?_
    rintro e' w' ⟨rfl, rfl⟩
    exact ⟨rfl, [], List.Perm.refl _, List.Pairwise.nil, hown, Only.refl _ _⟩
  · have hblk := lt_of_get hb
    have hH : HoldsK enc k w b 0 l.toArray := by
      intro j hj
      have hj' : j < l.length * k := by simpa using hj
      refine ⟨?_, frozen_of hb _⟩
      rw [Nat.zero_add, cell_of hb]
      have h2 : (l.flatMap enc)[j]? = cur[j]? := by rw [← hc4, List.getElem?_take_of_lt hj', Array.getElem?_toList]
      rw [← h2, ← flatK_toList enc k hk, Array.getElem?_toList, Array.getElem?_eq_getElem hj, getElem!_pos (flatK enc k l.toArray) j hj]
      rfl
    have hs : l.toArray.size = l.length := rfl
    have hcall := AnyQ.slices_SortFunc L k aE zE enc hk h1 cf hO g #[] b 0 cap l.toArray w eg (fun _ _ _ _ x y => hcl x y _) hH hblk (by rw [hs]; exact hl)
    rw [hs] at hcall
    refine hcall.mono ?_
    rintro e' w' ⟨rfl, d', n, os, hp, hsd, rfl⟩
    obtain ⟨p1, _, p3⟩ := hp
    have hd' : d'.size = l.length := p1
    have hperm : d'.toList.Perm l := by
      rw [show l.length = d'.size from hd'.symm] at p3
      have h5 : (d'.extract 0 d'.size).toList = d'.toList := by simp
      have h6 : (l.toArray.extract 0 d'.size).toList = l := by rw [hd']; simp
      rw [h5, h6] at p3
      exact p3
    have hg : (sortWorldK enc k w b 0 n d' os).heap[b]? = some (.cells (putCells id 0 (flatK enc k d') cur) e (0, 0)) := by
      unfold sortWorldK
      rw [heap_grow_old _ _ (by simpa [putRowK, Sort.ahead] using hblk)]
      simp [putRowK, putRow, mapBlock, Sort.ahead, Array.getElem?_modify, hb, onCells]
    refine ⟨rfl, d'.toList, hperm, ?_, ?_, ⟨rfl, rfl, rfl, ?_, fun i hi hn => ?_⟩⟩
    · rw [List.pairwise_iff_getElem]
      intro i j hi hj hij
      have := hsd i j (Nat.zero_le _) hij (by rw [← hd']; simpa using hj)
      rw [getElem!_pos d' j (by simpa using hj), getElem!_pos d' i (by simpa using hi)] at this
      simpa using this
    · have hfl : (flatK enc k d').toList = d'.toList.flatMap enc := by
        have := flatK_toList enc k hk d'.toList
        simpa using this
      refine ⟨by rw [flatMap_len hk]; simp [hd'], .inr ⟨b, cap, _, rfl, Nat.zero_le _, hg, hc1, hc2, by simp [putCells, hc3], ?_⟩⟩
      have hsz : (flatK enc k d').size = l.length * k := by rw [size_flatK, hd']
      have := putCells_take (cur := cur) (F := flatK enc k d') (by rw [hsz, hc3]; exact Nat.mul_le_mul_right _ hc1)
      rw [hsz, hfl] at this
      exact this
    · show w.heap.size ≤ ((mapBlock _ _ _).heap ++ os).size
      simp [mapBlock, Sort.ahead]
    · have hne : ¬ b = i := fun x => hn (by rw [← x]; rfl)
      unfold sortWorldK
      rw [heap_grow_old _ _ (by simpa [putRowK, Sort.ahead] using hi)]
      simp [putRowK, putRow, mapBlock, Sort.ahead, Array.getElem?_modify, hne]
end
end Go.Lap
