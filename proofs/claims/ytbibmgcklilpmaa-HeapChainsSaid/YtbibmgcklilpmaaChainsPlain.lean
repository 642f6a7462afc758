/- Plain laws for HeapChains: versions one behind the other. No condition. -/
import Derived.Test.YtbibmgcklilpmaaChainPlain
namespace Go.Proofs.Ytbibmgcklilpmaa
open Go.RowKit Go.Lap

abbrev Pl := (Int × Int) × Tup

/-- The first i tell the one behind them, all others tell none. -/
structure Linked (ts : List Pl) (i : Nat) : Prop where
  next : ∀ (j : Nat) (x y : Pl), j < i → ts[j]? = some x → ts[j + 1]? = some y → (x.2.pg, x.2.sl) = y.1
  none_ : ∀ (j : Nat) (x : Pl), i ≤ j → ts[j]? = some x → x.2.pg = -1 ∧ x.2.sl = -1

theorem Linked.step {ts : List Pl} {i : Nat} {x y : Pl} {u : Tup} (h : Linked ts i) (hx : ts[i]? = some x) (hy : ts[i + 1]? = some y) (hu : (u.pg, u.sl) = y.1) : Linked (ts.set i (x.1, u)) (i + 1) := by
  have hil : i < ts.length := (List.getElem?_eq_some_iff.1 hx).1
  refine ⟨fun j a b hj ha hb => ?_, fun j a hj ha => ?_⟩
  · rw [List.getElem?_set] at ha hb
    by_cases e : i = j
    · subst e
      rw [if_neg (show ¬ i = i + 1 by omega)] at hb
      rw [if_pos rfl, if_pos hil] at ha
      injection ha with ha
      subst ha
      rw [hy] at hb
      injection hb with hb
      subst hb
      exact hu
    · rw [if_neg e] at ha
      by_cases e2 : i = j + 1
      · rw [if_pos e2, if_pos hil] at hb
        injection hb with hb
        subst hb
        exact h.next j a x (by omega) ha (by rw [← e2]; exact hx)
      · rw [if_neg e2] at hb
        exact h.next j a b (by omega) ha hb
  · rw [List.getElem?_set, if_neg (by omega)] at ha
    exact h.none_ j a (by omega) ha

theorem set_fst {ts : List Pl} {i : Nat} {x : Pl} (hx : ts[i]? = some x) (u : Tup) : (ts.set i (x.1, u)).map (·.1) = ts.map (·.1) := by
  have hil : i < ts.length := (List.getElem?_eq_some_iff.1 hx).1
  apply List.ext_getElem?
  intro j
  rw [List.getElem?_map, List.getElem?_map, List.getElem?_set]
  by_cases e : i = j
  · subst e; rw [if_pos rfl, if_pos hil, hx]; rfl
  · rw [if_neg e]

theorem chain_line {H : List (List (Option Tup))} {ts : List Pl} {k f : Nat} {p : Int × Int} (hV : Inv H ts) (hl : ts.length = k + 1) (hL : Linked ts k) (hp : (ts.map (·.1))[f]? = some p) : chainH H p = (ts.map (·.1)).drop f := by
  have hfl : f < ts.length := by simpa using (List.getElem?_eq_some_iff.1 hp).1
  refine chain_all hV.fit (by rw [List.getElem?_drop]; exact hp) (hV.nd.sublist (List.drop_sublist _ _)) (fun i q hq => ?_)
  rw [List.getElem?_drop, List.getElem?_map] at hq
  rcases hx : ts[f + i]? with _ | x
  · rw [hx] at hq; cases hq
  · rw [hx] at hq
    simp at hq
    subst hq
    refine ⟨x.2, hV.got x (List.mem_of_getElem? hx), fun r hr => ?_, fun hr => ?_⟩
    · rw [List.getElem?_drop, List.getElem?_map] at hr
      rcases hy : ts[f + (i + 1)]? with _ | y
      · rw [hy] at hr; cases hr
      · rw [hy] at hr
        simp at hr
        subst hr
        have := (List.getElem?_eq_some_iff.1 hy).1
        exact hL.next (f + i) x y (by omega) hx hy
    · rw [List.getElem?_drop, List.getElem?_map] at hr
      rcases hy : ts[f + (i + 1)]? with _ | y
      · have := List.getElem?_eq_none_iff.1 hy
        have := (List.getElem?_eq_some_iff.1 hx).1
        obtain ⟨h1, h2⟩ := hL.none_ (f + i) x (by omega) hx
        exact Or.inl (by rw [h1, h2]; exact hGet_out (Or.inl (by omega)))
      · rw [hy] at hr; cases hr

theorem chain_ring {H : List (List (Option Tup))} {ts : List Pl} {k f : Nat} {p : Int × Int} {x y : Pl} (hV : Inv H ts) (hl : ts.length = k + 1) (hL : ∀ (j : Nat) (x y : Pl), j < k → ts[j]? = some x → ts[j + 1]? = some y → (x.2.pg, x.2.sl) = y.1)
    (hx : ts[k]? = some x) (hy : ts[0]? = some y) (hxy : (x.2.pg, x.2.sl) = y.1) (hp : (ts.map (·.1))[f]? = some p) : chainH H p = (ts.map (·.1)).drop f ++ (ts.map (·.1)).take f := by
  have hfl : f < ts.length := by simpa using (List.getElem?_eq_some_iff.1 hp).1
  have hlen : (ts.map (·.1)).length = k + 1 := by simpa using hl
  have hget : ∀ i, ((ts.map (·.1)).drop f ++ (ts.map (·.1)).take f)[i]? = if i < k + 1 - f then (ts.map (·.1))[f + i]? else if i < k + 1 then (ts.map (·.1))[i - (k + 1 - f)]? else none := by
    intro i
    rw [List.getElem?_append]
    simp only [List.length_drop, hlen]
    split
    · rw [List.getElem?_drop]
    · rw [List.getElem?_take]
      split
      · rw [if_pos (by omega)]
      · rw [if_neg (by omega)]
  have hnd : ((ts.map (·.1)).drop f ++ (ts.map (·.1)).take f).Nodup := by
    have h0 : ((ts.map (·.1)).take f ++ (ts.map (·.1)).drop f).Nodup := by rw [List.take_append_drop]; exact hV.nd
    exact (List.perm_append_comm.nodup_iff).1 h0
  refine chain_all hV.fit (by rw [hget, if_pos (by omega)]; exact hp) hnd (fun i q hq => ?_)
  have hil : i < k + 1 := by
    have := (List.getElem?_eq_some_iff.1 hq).1
    rw [List.length_append, List.length_drop, List.length_take, hlen] at this
    omega
  have key : ∀ (j : Nat) (r : Int × Int), (ts.map (·.1))[j]? = some r → ∃ z : Pl, ts[j]? = some z ∧ z.1 = r := by
    intro j r hr
    rw [List.getElem?_map] at hr
    rcases hz : ts[j]? with _ | z
    · rw [hz] at hr; cases hr
    · rw [hz] at hr
      simp at hr
      exact ⟨z, rfl, hr⟩
  rw [hget] at hq
  rw [hget]
  by_cases h1 : i < k + 1 - f
  · rw [if_pos h1] at hq
    obtain ⟨z, hz, rfl⟩ := key _ _ hq
    refine ⟨z.2, hV.got z (List.mem_of_getElem? hz), fun r hr => ?_, fun hr => ?_⟩
    · by_cases h2 : i + 1 < k + 1 - f
      · rw [if_pos h2] at hr
        obtain ⟨u, hu, rfl⟩ := key _ _ hr
        exact hL (f + i) z u (by omega) hz hu
      · rw [if_neg h2] at hr
        by_cases h3 : i + 1 < k + 1
        · rw [if_pos h3, show i + 1 - (k + 1 - f) = 0 by omega] at hr
          obtain ⟨u, hu, rfl⟩ := key _ _ hr
          have e1 : z = x := by rw [show f + i = k by omega, hx] at hz; injection hz with hz; exact hz.symm
          have e2 : u = y := by rw [hy] at hu; injection hu with hu; exact hu.symm
          rw [e1, e2, hxy]
        · rw [if_neg h3] at hr; cases hr
    · right
      have h2 : ¬ i + 1 < k + 1 - f := fun h2 => by
        rw [if_pos h2] at hr
        have := List.getElem?_eq_none_iff.1 hr
        omega
      have h3 : ¬ i + 1 < k + 1 := fun h3 => by
        rw [if_neg h2, if_pos h3] at hr
        have := List.getElem?_eq_none_iff.1 hr
        omega
      have e1 : z = x := by rw [show f + i = k by omega, hx] at hz; injection hz with hz; exact hz.symm
      rw [e1, hxy]
      refine List.mem_of_getElem? (i := 0) ?_
      rw [hget, if_pos (by omega), show f + 0 = 0 by omega, List.getElem?_map, hy]
      rfl
  · rw [if_neg h1, if_pos hil] at hq
    obtain ⟨z, hz, rfl⟩ := key _ _ hq
    refine ⟨z.2, hV.got z (List.mem_of_getElem? hz), fun r hr => ?_, fun hr => ?_⟩
    · rw [if_neg (by omega)] at hr
      by_cases h3 : i + 1 < k + 1
      · rw [if_pos h3, show i + 1 - (k + 1 - f) = i - (k + 1 - f) + 1 by omega] at hr
        obtain ⟨u, hu, rfl⟩ := key _ _ hr
        exact hL _ z u (by omega) hz hu
      · rw [if_neg h3] at hr; cases hr
    · right
      have h3 : ¬ i + 1 < k + 1 := fun h3 => by
        rw [if_neg (by omega), if_pos h3] at hr
        have := List.getElem?_eq_none_iff.1 hr
        omega
      obtain ⟨u, hu⟩ : ∃ u, ts[f]? = some u := ⟨_, List.getElem?_eq_getElem hfl⟩
      have := hL _ z u (by omega) hz (by rw [show i - (k + 1 - f) + 1 = f by omega]; exact hu)
      rw [this]
      refine List.mem_of_getElem? (i := 0) ?_
      rw [hget, if_pos (by omega), show f + 0 = f by omega, List.getElem?_map, hu]
      rfl

theorem chain_off {H : List (List (Option Tup))} {pg sl : Int} (h : hGet H pg sl = none) : chainH H (pg, sl) = [] := by
  unfold chainH
  rw [chainP_succ, h]
  simp

end Go.Proofs.Ytbibmgcklilpmaa
