/- The last slot isn't free, whatever is done. No condition. -/
import Derived.Test.YtbibmgcklilpmaaPageBoth
import Derived.Test.YtbibmgcklilpmaaLoadPlain
namespace Go.Lap

theorem last_nil : LastSome [] := fun s h => by simp at h

theorem last_append (L : List Slot) (x : Nat × Tup) : LastSome (L ++ [some x]) := by
  intro s hs
  rw [List.length_append, List.length_singleton, Nat.add_sub_cancel, List.getElem?_append_right (Nat.le_refl _), Nat.sub_self] at hs
  injection hs with hs
  rw [← hs]
  simp

theorem last_set {L : List Slot} (h : LastSome L) (i : Nat) (x : Nat × Tup) : LastSome (L.set i (some x)) := by
  intro s hs
  rw [List.length_set, List.getElem?_set] at hs
  split at hs
  · split at hs
    · injection hs with hs
      rw [← hs]
      simp
    · cases hs
  · exact h s hs

theorem last_trim (L : List Slot) : LastSome (trim L) := by
  have key : ∀ M : List Slot, LastSome (trim M.reverse) := by
    intro M
    induction M with
    | nil => exact last_nil
    | cons s M ih =>
      rw [List.reverse_cons]
      rcases s with _ | x
      · rw [trim_none]
        exact ih
      · rw [trim_some]
        exact last_append _ _
  have := key L.reverse
  rw [List.reverse_reverse] at this
  exact this

theorem last_insL {L : List Slot} (h : LastSome L) (k : Nat) (x : Nat × Tup) : LastSome (insL L k (some x)) := by
  unfold insL
  split
  · exact last_append _ _
  · exact last_set h _ _

theorem last_mov {L : List Slot} (h : LastSome L) : LastSome (movTo L).1 := by
  rcases List.eq_nil_or_concat L with rfl | ⟨M, s, rfl⟩
  · exact last_nil
  · rw [List.concat_eq_append] at h ⊢
    rcases s with _ | ⟨f, t⟩
    · refine absurd rfl (h none ?_)
      rw [List.length_append, List.length_singleton, Nat.add_sub_cancel, List.getElem?_append_right (Nat.le_refl _), Nat.sub_self]
      rfl
    · rw [movTo_snoc]
      exact last_append _ _

theorem last_dStamp {L : List Slot} (h : LastSome L) (i : Int) (x : Nat) (pg sl : Int) : LastSome (dStamp L i x pg sl).2 := by
  unfold dStamp
  split
  · exact h
  · split
    · exact h
    · exact last_set h _ _

theorem last_dFree {L : List Slot} (h : LastSome L) (i : Int) : LastSome (dFree L i).2 := by
  unfold dFree
  split
  · exact h
  · exact last_trim _

theorem last_pIns {L : List Slot} (h : LastSome L) (st : Nat) (t : Tup) : LastSome (pIns L st t).2.2.1 := by
  unfold pIns
  split
  · exact h
  · split
    · exact h
    · unfold insTo
      split
      · exact last_insL (last_mov h) _ _
      · exact last_insL h _ _

theorem last_nStamp {on : Bool} {L : List Slot} {i : Int} {x : Nat} {pg sl : Int} {r : Int × List Slot} (hr : nStampL on L i x pg sl = r) (h : LastSome L) : LastSome r.2 := by
  rw [← hr]
  unfold nStampL
  split
  · exact last_dStamp h _ _ _ _
  · exact h

theorem last_nFree {on : Bool} {L : List Slot} {i : Int} {r : Int × List Slot} (hr : nFreeL on L i = r) (h : LastSome L) : LastSome r.2 := by
  rw [← hr]
  unfold nFreeL
  split
  · exact last_dFree h _
  · exact h

theorem last_nIns {on : Bool} {L : List Slot} {st : Nat} {t : Tup} {a b : Int} {L' : List Slot} {st' : Nat} (hr : nInsL on L st t = (a, b, L', st')) (h : LastSome L) : LastSome L' := by
  unfold nInsL at hr
  split at hr
  · have := last_pIns h st t
    rw [hr] at this
    exact this
  · injection hr with _ hr
    injection hr with _ hr
    injection hr with hr _
    rw [← hr]
    exact h

end Go.Lap
