/- Plain laws of chains of versions; what Stamp leaves at every place. No condition. -/
import Derived.Test.YtbibmgcklilpmaaHeapPlain
import Derived.Test.YtbibmgcklilpmaaRef5
namespace Go.Proofs.Ytbibmgcklilpmaa
open Go.RowKit Go.Lap

/-- What Stamp leaves at every place. -/
structure StampAt (H H' : List (List (Option Tup))) (pg sl : Int) (u : Tup) : Prop where
  get : ∀ p s, hGet H' p s = if p = pg ∧ s = sl then some u else hGet H p s
  used : usedH H' = usedH H
  fit : ∀ T ∈ H', Fits T
  len : H'.length = H.length

theorem stamp_goes {H : List (List (Option Tup))} {pg sl : Int} {t : Tup} {x : Nat} {npg nsl : Int} (hfit : ∀ T ∈ H, Fits T) (h : hGet H pg sl = some t) (hx : x ≤ 1099511627776) (hf : farB npg nsl = false) :
    ∃ H', hStamp H pg sl x npg nsl = (0, H') ∧ StampAt H H' pg sl (t.stamp x npg nsl) := by
  have h0 : ¬ (pg < 0 ∨ (H.length : Int) ≤ pg) := fun x => by rw [hGet_out x] at h; cases h
  obtain ⟨k, rfl⟩ := Int.eq_ofNat_of_zero_le (show 0 ≤ pg by omega)
  have hk : k < H.length := by omega
  obtain ⟨T, hT⟩ : ∃ T, H[k]? = some T := ⟨_, List.getElem?_eq_getElem hk⟩
  have hg : tupAt T sl = some t := by rw [← hGet_in sl hT]; exact h
  obtain ⟨s0, hs⟩ := tupAt_some hg
  obtain ⟨j, rfl⟩ := Int.eq_ofNat_of_zero_le s0
  rw [Int.toNat_natCast] at hs
  have hj : j < T.length := (List.getElem?_eq_some_iff.1 hs).1
  have e : pStampT T (j : Int) x npg nsl = (0, T.set j (some (t.stamp x npg nsl))) := by
    unfold pStampT
    rw [if_neg (by rintro (a | a); omega; rw [hf] at a; cases a), hg]
    rfl
  refine ⟨H.set k (T.set j (some (t.stamp x npg nsl))), ?_, fun p s => ?_, ?_, fun T' hT' => ?_, by simp⟩
  · unfold hStamp
    rw [if_neg h0, Int.toNat_natCast, getD_of hT, e]
  · rw [hGet_set H k hk, tupAt_set T j hj]
    by_cases y : p = k
    · subst y
      rw [if_pos rfl]
      by_cases z : s = j
      · rw [if_pos z, if_pos ⟨rfl, z⟩]
      · rw [if_neg z, if_neg (fun q => z q.2), hGet_in s hT]
    · rw [if_neg y, if_neg (fun q => y q.1)]
  · have h1 := usedH_set (T' := T.set j (some (t.stamp x npg nsl))) hT
    have h2 := used_set (u := some (t.stamp x npg nsl)) hs
    simp at h2
    omega
  · rcases List.mem_or_eq_of_mem_set hT' with y | y
    · exact hfit T' y
    · rw [y]
      have := hfit T (List.mem_of_getElem? hT)
      unfold Fits at this ⊢
      rw [List.length_set, sum_set_same sizeT T j (some t) (some (t.stamp x npg nsl)) hs rfl]
      exact this

/-- Where a version lies no place is far. -/
theorem near_of {H : List (List (Option Tup))} {pg sl : Int} {t : Tup} (hfit : ∀ T ∈ H, Fits T) (hl : H.length ≤ 256) (h : hGet H pg sl = some t) : 0 ≤ pg ∧ pg < 256 ∧ 0 ≤ sl ∧ sl < 128 ∧ farB pg sl = false := by
  have h0 : ¬ (pg < 0 ∨ (H.length : Int) ≤ pg) := fun x => by rw [hGet_out x] at h; cases h
  obtain ⟨k, rfl⟩ := Int.eq_ofNat_of_zero_le (show 0 ≤ pg by omega)
  have hk : k < H.length := by omega
  obtain ⟨T, hT⟩ : ∃ T, H[k]? = some T := ⟨_, List.getElem?_eq_getElem hk⟩
  have hg : tupAt T sl = some t := by rw [← hGet_in sl hT]; exact h
  obtain ⟨s0, hs⟩ := tupAt_some hg
  obtain ⟨j, rfl⟩ := Int.eq_ofNat_of_zero_le s0
  rw [Int.toNat_natCast] at hs
  have hj : j < T.length := (List.getElem?_eq_some_iff.1 hs).1
  have := hfit T (List.mem_of_getElem? hT)
  unfold Fits at this
  refine ⟨by omega, by omega, by omega, by omega, ?_⟩
  rw [far_plain, if_neg (by omega), decide_eq_false (by omega)]

/-- Places that are taken, no two the same, are no more than the versions. -/
theorem places_le {H : List (List (Option Tup))} (hfit : ∀ T ∈ H, Fits T) (l : List (Int × Int)) (hn : l.Nodup) (ht : ∀ p ∈ l, (hGet H p.1 p.2).isSome = true) : l.length ≤ usedH H := by
  induction l generalizing H with
  | nil => exact Nat.zero_le _
  | cons p l ih =>
    obtain ⟨hp, hn'⟩ := List.nodup_cons.1 hn
    have h1 := ht p (by simp)
    rcases hg : hGet H p.1 p.2 with _ | t
    · rw [hg] at h1; cases h1
    · obtain ⟨H1, _, hf⟩ := hFree_goes hfit hg
      have := ih hf.fit hn' (fun q hq => by
        rw [hf.get, if_neg (fun z => ?_)]
        · exact ht q (by simp [hq])
        · have : q = p := Prod.ext z.1 z.2
          exact hp (this ▸ hq))
      have := hf.used
      simp only [List.length_cons]
      omega

/-- One version behind the other. -/
def chainP (H : List (List (Option Tup))) : Nat → List (Int × Int) → Int × Int → List (Int × Int)
  | 0, _, _ => []
  | n + 1, seen, p => if p ∈ seen then [] else
    match hGet H p.1 p.2 with
    | none => []
    | some t => p :: chainP H n (seen ++ [p]) (t.pg, t.sl)

theorem chainP_succ (H : List (List (Option Tup))) (n : Nat) (seen : List (Int × Int)) (p : Int × Int) : chainP H (n + 1) seen p = if p ∈ seen then [] else
    match hGet H p.1 p.2 with
    | none => []
    | some t => p :: chainP H n (seen ++ [p]) (t.pg, t.sl) := rfl

/-- All of it. -/
def chainH (H : List (List (Option Tup))) (p : Int × Int) : List (Int × Int) := chainP H (usedH H + 1) [] p

/-- In the midst of it. -/
structure ChainAt (H : List (List (Option Tup))) (p0 : Int × Int) (out : List (Int × Int)) (p : Int × Int) : Prop where
  nd : out.Nodup
  some_ : ∀ q ∈ out, (hGet H q.1 q.2).isSome = true
  rest : chainH H p0 = out ++ chainP H (usedH H + 1 - out.length) out p

theorem ChainAt.start (H : List (List (Option Tup))) (p : Int × Int) : ChainAt H p [] p := ⟨List.nodup_nil, fun q hq => by simp at hq, rfl⟩

theorem ChainAt.le {H : List (List (Option Tup))} {p0 p : Int × Int} {out : List (Int × Int)} (h : ChainAt H p0 out p) (hfit : ∀ T ∈ H, Fits T) : out.length ≤ usedH H := places_le hfit out h.nd h.some_

theorem ChainAt.step {H : List (List (Option Tup))} {p0 p : Int × Int} {out : List (Int × Int)} {t : Tup} (h : ChainAt H p0 out p) (hfit : ∀ T ∈ H, Fits T) (hp : p ∉ out) (hg : hGet H p.1 p.2 = some t) : ChainAt H p0 (out ++ [p]) (t.pg, t.sl) := by
  have hle := h.le hfit
  refine ⟨?_, fun q hq => ?_, ?_⟩
  · rw [List.nodup_append]
    exact ⟨h.nd, by simp, fun a ha b hb => by simp at hb; subst hb; exact fun e => hp (e ▸ ha)⟩
  · rcases List.mem_append.1 hq with x | x
    · exact h.some_ q x
    · simp at x; subst x; rw [hg]; rfl
  · rw [h.rest]
    obtain ⟨m, hm⟩ : ∃ m, usedH H + 1 - out.length = m + 1 := ⟨usedH H - out.length, by omega⟩
    rw [hm, chainP_succ, if_neg hp, hg, List.length_append, List.length_singleton, show usedH H + 1 - (out.length + 1) = m by omega, List.append_assoc]
    rfl

theorem ChainAt.seen {H : List (List (Option Tup))} {p0 p : Int × Int} {out : List (Int × Int)} (h : ChainAt H p0 out p) (hp : p ∈ out) : chainH H p0 = out := by
  rw [h.rest]
  cases usedH H + 1 - out.length with
  | zero => unfold chainP; simp
  | succ n => rw [chainP_succ, if_pos hp]; simp

theorem ChainAt.gone {H : List (List (Option Tup))} {p0 p : Int × Int} {out : List (Int × Int)} (h : ChainAt H p0 out p) (hg : hGet H p.1 p.2 = none) : chainH H p0 = out := by
  rw [h.rest]
  cases usedH H + 1 - out.length with
  | zero => unfold chainP; simp
  | succ n =>
    rw [chainP_succ, hg]
    split <;> simp

/-- A version that is stamped. -/
theorem Inv.stamp {H H' : List (List (Option Tup))} {ts : List ((Int × Int) × Tup)} {j : Nat} {x : (Int × Int) × Tup} {u : Tup} (h : Inv H ts) (hj : ts[j]? = some x) (hs : StampAt H H' x.1.1 x.1.2 u) : Inv H' (ts.set j (x.1, u)) := by
  have hjl : j < ts.length := (List.getElem?_eq_some_iff.1 hj).1
  have hm : (ts.set j (x.1, u)).map (·.1) = ts.map (·.1) := by
    apply List.ext_getElem?
    intro i
    rw [List.getElem?_map, List.getElem?_map, List.getElem?_set]
    by_cases e : j = i
    · subst e
      rw [if_pos rfl, if_pos hjl, hj]
      rfl
    · rw [if_neg e]
  refine ⟨by rw [hs.used, h.used, List.length_set], by rw [hm]; exact h.nd, fun y hy => ?_, hs.fit⟩
  obtain ⟨i, hi⟩ := List.mem_iff_getElem?.1 hy
  rw [List.getElem?_set] at hi
  by_cases e : j = i
  · subst e
    rw [if_pos rfl, if_pos hjl] at hi
    injection hi with hi
    subst hi
    rw [hs.get, if_pos ⟨rfl, rfl⟩]
  · rw [if_neg e] at hi
    rw [hs.get, if_neg (fun z => ?_)]
    · exact h.got y (List.mem_of_getElem? hi)
    · have h1 : (ts.map (·.1))[i]? = some y.1 := by rw [List.getElem?_map, hi]; rfl
      have h2 : (ts.map (·.1))[j]? = some y.1 := by rw [List.getElem?_map, hj]; exact congrArg some (Prod.ext z.1.symm z.2.symm)
      exact e ((List.getElem?_inj (List.getElem?_eq_some_iff.1 h2).1 h.nd).1 (h2.trans h1.symm))

/-- Places one behind the other are the chain. -/
theorem chain_all {H : List (List (Option Tup))} {R : List (Int × Int)} {p0 : Int × Int} (hfit : ∀ T ∈ H, Fits T) (h0 : R[0]? = some p0) (nd : R.Nodup)
    (hg : ∀ (i : Nat) p, R[i]? = some p → ∃ t, hGet H p.1 p.2 = some t ∧ (∀ q, R[i + 1]? = some q → (t.pg, t.sl) = q) ∧ (R[i + 1]? = none → hGet H t.pg t.sl = none ∨ (t.pg, t.sl) ∈ R)) : chainH H p0 = R := by
  have key : ∀ j p, R[j]? = some p → ChainAt H p0 (R.take j) p := by
    intro j
    induction j with
    | zero =>
      intro p hp
      rw [h0] at hp
      injection hp with hp
      subst hp
      exact ChainAt.start H p0
    | succ j ih =>
      intro p hp
      have hjl : j + 1 < R.length := (List.getElem?_eq_some_iff.1 hp).1
      obtain ⟨q, hq⟩ : ∃ q, R[j]? = some q := ⟨_, List.getElem?_eq_getElem (by omega)⟩
      obtain ⟨t, h1, h2, _⟩ := hg j q hq
      have := (ih q hq).step hfit (fun hm => ?_) h1
      · rw [h2 p hp] at this
        rw [List.take_add_one, hq]
        exact this
      · obtain ⟨i, hi⟩ := List.mem_iff_getElem?.1 hm
        rw [List.getElem?_take] at hi
        split at hi
        · have := (List.getElem?_inj (List.getElem?_eq_some_iff.1 hi).1 nd).1 (hi.trans hq.symm)
          omega
        · cases hi
  have hl : 0 < R.length := (List.getElem?_eq_some_iff.1 h0).1
  obtain ⟨p, hp⟩ : ∃ p, R[R.length - 1]? = some p := ⟨_, List.getElem?_eq_getElem (by omega)⟩
  obtain ⟨t, h1, _, h3⟩ := hg _ p hp
  have hlast := (key _ p hp).step hfit (fun hm => by
    obtain ⟨i, hi⟩ := List.mem_iff_getElem?.1 hm
    rw [List.getElem?_take] at hi
    split at hi
    · have := (List.getElem?_inj (List.getElem?_eq_some_iff.1 hi).1 nd).1 (hi.trans hp.symm)
      omega
    · cases hi) h1
  have e : R.take (R.length - 1) ++ [p] = R := by
    have := List.take_add_one (l := R) (i := R.length - 1)
    rw [hp, show R.length - 1 + 1 = R.length by omega, List.take_length] at this
    exact this.symm
  rw [e] at hlast
  rcases h3 (List.getElem?_eq_none (by omega)) with x | x
  · exact hlast.gone x
  · exact hlast.seen x

end Go.Proofs.Ytbibmgcklilpmaa
