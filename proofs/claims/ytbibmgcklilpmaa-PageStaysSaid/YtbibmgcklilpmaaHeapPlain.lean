/- Plain laws of heaps: what Insert and Free leave at every place. No condition. -/
import Derived.Test.YtbibmgcklilpmaaHeapLaw
namespace Go.Lap

theorem tupAt_nat (T : List (Option Tup)) (n : Nat) : tupAt T (n : Int) = (T[n]?).join := by
  unfold tupAt
  rw [if_neg (by omega), Int.toNat_natCast]

theorem tupAt_neg (T : List (Option Tup)) {i : Int} (h : i < 0) : tupAt T i = none := by
  unfold tupAt
  rw [if_pos h]

theorem freeT_le (T : List (Option Tup)) : freeT T ≤ T.length := by
  unfold freeT
  rcases h : T.findIdx? (fun s => s.isNone) with _ | i
  · rw [h]; exact Nat.le_refl _
  · rw [h]
    rw [List.findIdx?_eq_some_iff_getElem] at h
    obtain ⟨hi, _⟩ := h
    exact Nat.le_of_lt hi

theorem freeT_least {T : List (Option Tup)} {i : Nat} (h : T[i]? = some none) : freeT T ≤ i := by
  unfold freeT
  rcases hf : T.findIdx? (fun s => s.isNone) with _ | j
  · rw [List.findIdx?_eq_none_iff] at hf
    have := hf none (List.mem_of_getElem? h)
    simp at this
  · rw [hf]
    rw [List.findIdx?_eq_some_iff_getElem] at hf
    obtain ⟨hj, _, h2⟩ := hf
    show j ≤ i
    rcases Nat.lt_or_ge i j with x | x
    · have hi : i < T.length := (List.getElem?_eq_some_iff.1 h).1
      have := h2 i x
      rw [List.getElem?_eq_getElem hi] at h
      injection h with h
      rw [h] at this
      simp at this
    · exact x

theorem freeT_none (T : List (Option Tup)) : (T[freeT T]?).join = none := by
  unfold freeT
  rcases h : T.findIdx? (fun s => s.isNone) with _ | i
  · rw [h]
    show (T[T.length]?).join = none
    rw [List.getElem?_eq_none (Nat.le_refl _)]
    rfl
  · rw [h]
    rw [List.findIdx?_eq_some_iff_getElem] at h
    obtain ⟨hi, h1, _⟩ := h
    show (T[i]?).join = none
    rw [List.getElem?_eq_getElem hi]
    have : T[i] = none := by simpa using h1
    rw [this]
    rfl

theorem tupAt_ins (T : List (Option Tup)) (t : Tup) (s : Int) : tupAt (insT T t) s = if s = freeT T then some t else tupAt T s := by
  have hf := freeT_le T
  rcases Int.lt_or_le s 0 with h | h
  · rw [tupAt_neg _ h, tupAt_neg _ h, if_neg (by omega)]
  · obtain ⟨n, rfl⟩ := Int.eq_ofNat_of_zero_le h
    rw [tupAt_nat, tupAt_nat]
    unfold insT
    by_cases e : freeT T = T.length
    · rw [if_pos e, e]
      by_cases x : n = T.length
      · subst x
        rw [if_pos rfl]
        simp
      · rw [if_neg (by omega)]
        rcases Nat.lt_or_ge n T.length with y | y
        · rw [List.getElem?_append_left y]
        · rw [List.getElem?_eq_none (by simp; omega), List.getElem?_eq_none y]
    · rw [if_neg e, List.getElem?_set]
      by_cases x : freeT T = n
      · rw [if_pos x, if_pos (by omega), if_pos (by omega)]
        rfl
      · rw [if_neg x, if_neg (by omega)]

theorem tupAt_set (T : List (Option Tup)) (i : Nat) (hi : i < T.length) (u : Option Tup) (s : Int) : tupAt (T.set i u) s = if s = i then u else tupAt T s := by
  rcases Int.lt_or_le s 0 with h | h
  · rw [tupAt_neg _ h, tupAt_neg _ h, if_neg (by omega)]
  · obtain ⟨n, rfl⟩ := Int.eq_ofNat_of_zero_le h
    rw [tupAt_nat, tupAt_nat, List.getElem?_set]
    by_cases x : i = n
    · rw [if_pos x, if_pos hi, if_pos (by omega)]
      rfl
    · rw [if_neg x, if_neg (by omega)]

theorem trim_spec (T : List (Option Tup)) : ∃ k, T = trimT T ++ List.replicate k none := by
  induction hn : T.length generalizing T with
  | zero =>
    have : T = [] := List.eq_nil_of_length_eq_zero hn
    subst this
    exact ⟨0, rfl⟩
  | succ n ih =>
    have hne : T ≠ [] := fun e => by subst e; simp at hn
    obtain ⟨M, s, rfl⟩ : ∃ M s, T = M ++ [s] := ⟨T.dropLast, T.getLast hne, (List.dropLast_concat_getLast hne).symm⟩
    have hM : M.length = n := by simpa using hn
    rcases s with _ | t
    · obtain ⟨k, hk⟩ := ih M hM
      refine ⟨k + 1, ?_⟩
      rw [trimT_none, List.replicate_succ', ← List.append_assoc, ← hk]
    · exact ⟨0, by rw [trimT_some]; simp⟩

theorem tupAt_trim (T : List (Option Tup)) (s : Int) : tupAt (trimT T) s = tupAt T s := by
  obtain ⟨k, hk⟩ := trim_spec T
  rcases Int.lt_or_le s 0 with h | h
  · rw [tupAt_neg _ h, tupAt_neg _ h]
  · obtain ⟨n, rfl⟩ := Int.eq_ofNat_of_zero_le h
    rw [tupAt_nat, tupAt_nat]
    conv => rhs; rw [hk]
    rcases Nat.lt_or_ge n (trimT T).length with x | x
    · rw [List.getElem?_append_left x]
    · rw [List.getElem?_eq_none x, List.getElem?_append_right x, List.getElem?_replicate]
      split <;> rfl

theorem used_append (A B : List (Option Tup)) : usedT (A ++ B) = usedT A + usedT B := by simp [usedT]
theorem used_none (k : Nat) : usedT (List.replicate k none) = 0 := by simp [usedT]

theorem used_trim (T : List (Option Tup)) : usedT (trimT T) = usedT T := by
  obtain ⟨k, hk⟩ := trim_spec T
  conv => rhs; rw [hk]
  rw [used_append, used_none, Nat.add_zero]

theorem used_as_sum (T : List (Option Tup)) : usedT T = (T.map (fun s => if s.isSome then 1 else 0)).sum := by
  induction T with
  | nil => rfl
  | cons s T ih =>
    rw [List.map_cons, List.sum_cons, ← ih]
    rcases s with _ | t
    · simp [usedT]
    · simp [usedT]; omega

theorem sum_set {α : Type} (f : α → Nat) (T : List α) (i : Nat) (a b : α) (h : T[i]? = some a) : ((T.set i b).map f).sum + f a = (T.map f).sum + f b := by
  induction T generalizing i with
  | nil => simp at h
  | cons x T ih =>
    rcases i with _ | i
    · simp at h
      subst h
      simp
      omega
    · rw [List.getElem?_cons_succ] at h
      have := ih i h
      simp only [List.set_cons_succ, List.map_cons, List.sum_cons]
      omega

theorem used_set {T : List (Option Tup)} {i : Nat} {s u : Option Tup} (h : T[i]? = some s) : usedT (T.set i u) + (if s.isSome then 1 else 0) = usedT T + (if u.isSome then 1 else 0) := by
  rw [used_as_sum, used_as_sum]
  exact sum_set _ T i s u h

theorem free_get {T : List (Option Tup)} (h : ¬ freeT T = T.length) : T[freeT T]? = some none := by
  have hl := freeT_le T
  have := freeT_none T
  rw [List.getElem?_eq_getElem (show freeT T < T.length by omega)] at this ⊢
  have h2 : T[freeT T] = none := this
  rw [h2]

theorem used_ins (T : List (Option Tup)) (t : Tup) : usedT (insT T t) = usedT T + 1 := by
  unfold insT
  by_cases e : freeT T = T.length
  · rw [if_pos e, used_append]; rfl
  · rw [if_neg e]
    have := used_set (u := some t) (free_get e)
    simpa using this

/-- A page's versions fit. -/
def Fits (T : List (Option Tup)) : Prop := 4 + 4 * T.length + (T.map sizeT).sum ≤ 512

theorem ins_length (T : List (Option Tup)) (t : Tup) : (insT T t).length = max T.length (freeT T + 1) := by
  have := freeT_le T
  unfold insT
  by_cases e : freeT T = T.length
  · rw [if_pos e]; simp; omega
  · rw [if_neg e]; simp; omega

theorem ins_sizes (T : List (Option Tup)) (t : Tup) : ((insT T t).map sizeT).sum = (T.map sizeT).sum + t.size := by
  unfold insT
  by_cases e : freeT T = T.length
  · rw [if_pos e]; simp [sizeT]
  · rw [if_neg e]
    have := sum_set sizeT T _ _ (some t) (free_get e)
    simpa [sizeT] using this

theorem Fits.ins {T : List (Option Tup)} {t : Tup} (hr : (t.data.length : Int) ≤ roomT T) : Fits (insT T t) := by
  have := (room_iff T t.data.length).1 (by omega)
  unfold Fits
  rw [ins_length, ins_sizes]
  have : t.size = 30 + t.data.length := rfl
  omega

theorem trim_sizes (T : List (Option Tup)) : ((trimT T).map sizeT).sum = (T.map sizeT).sum := by
  obtain ⟨k, hk⟩ := trim_spec T
  conv => rhs; rw [hk]
  simp [sizeT]

theorem trim_length (T : List (Option Tup)) : (trimT T).length ≤ T.length := by
  obtain ⟨k, hk⟩ := trim_spec T
  have := congrArg List.length hk
  simp at this
  omega

theorem free_sizes {T : List (Option Tup)} {i : Nat} {t : Tup} (h : T[i]? = some (some t)) : ((trimT (T.set i none)).map sizeT).sum + t.size = (T.map sizeT).sum := by
  rw [trim_sizes]
  have := sum_set sizeT T i _ none h
  simpa [sizeT] using this

theorem free_len (T : List (Option Tup)) (i : Nat) (hi : i < T.length) : max (trimT (T.set i none)).length (freeT (trimT (T.set i none)) + 1) ≤ T.length := by
  have h1 := trim_length (T.set i none)
  rw [List.length_set] at h1
  have h2 := freeT_le (trimT (T.set i none))
  rcases Nat.lt_or_ge i (trimT (T.set i none)).length with x | x
  · have : (trimT (T.set i none))[i]? = some none := by
      have h3 := tupAt_trim (T.set i none) i
      rw [tupAt_set T i hi, if_pos rfl, tupAt_nat] at h3
      rw [List.getElem?_eq_getElem x] at h3 ⊢
      have h4 : (trimT (T.set i none))[i] = none := h3
      rw [h4]
    have := freeT_least this
    omega
  · omega

theorem Fits.free {T : List (Option Tup)} {i : Nat} {t : Tup} (hf : Fits T) (h : T[i]? = some (some t)) : Fits (trimT (T.set i none)) ∧ (t.data.length : Int) ≤ roomT (trimT (T.set i none)) := by
  have hi : i < T.length := (List.getElem?_eq_some_iff.1 h).1
  have h1 := free_sizes h
  have h2 := free_len T i hi
  have h3 : t.size = 30 + t.data.length := rfl
  unfold Fits at hf ⊢
  refine ⟨by omega, ?_⟩
  have := (room_iff (trimT (T.set i none)) t.data.length).2 (by omega)
  omega

/-- Heaps. -/
theorem hGet_nat (H : List (List (Option Tup))) (n : Nat) (s : Int) : hGet H (n : Int) s = tupAt (H.getD n []) s := by
  unfold hGet
  rw [if_neg (by omega), Int.toNat_natCast]

theorem hGet_set (H : List (List (Option Tup))) (i : Nat) (hi : i < H.length) (T : List (Option Tup)) (p s : Int) : hGet (H.set i T) p s = if p = i then tupAt T s else hGet H p s := by
  rcases Int.lt_or_le p 0 with h | h
  · rw [hGet_out (Or.inl h), hGet_out (Or.inl h), if_neg (by omega)]
  · obtain ⟨n, rfl⟩ := Int.eq_ofNat_of_zero_le h
    rw [hGet_nat, hGet_nat, List.getD_eq_getElem?_getD, List.getElem?_set]
    by_cases x : i = n
    · rw [if_pos x, if_pos hi, if_pos (by omega)]; rfl
    · rw [if_neg x, if_neg (by omega), List.getD_eq_getElem?_getD]

theorem hGet_push (H : List (List (Option Tup))) (T : List (Option Tup)) (p s : Int) : hGet (H ++ [T]) p s = if p = H.length then tupAt T s else hGet H p s := by
  rcases Int.lt_or_le p 0 with h | h
  · rw [hGet_out (Or.inl h), hGet_out (Or.inl h), if_neg (by omega)]
  · obtain ⟨n, rfl⟩ := Int.eq_ofNat_of_zero_le h
    by_cases x : n = H.length
    · subst x
      rw [if_pos rfl]
      exact hGet_in s (by simp)
    · rw [if_neg (by omega)]
      rcases Nat.lt_or_ge n H.length with y | y
      · rw [hGet_in s (T := H[n]) (by rw [List.getElem?_append_left y, List.getElem?_eq_getElem y]), hGet_in s (List.getElem?_eq_getElem y)]
      · rw [hGet_out (Or.inr (by simp; omega)), hGet_out (Or.inr (by omega))]

end Go.Lap
namespace Go.Proofs.Ytbibmgcklilpmaa
open Go.RowKit Go.Lap

theorem usedH_set {H : List (List (Option Tup))} {i : Nat} {T T' : List (Option Tup)} (h : H[i]? = some T) : usedH (H.set i T') + usedT T = usedH H + usedT T' := sum_set usedT H i T T' h

theorem tupAt_one (t : Tup) (s : Int) : tupAt [some t] s = if s = 0 then some t else none := by
  rcases Int.lt_or_le s 0 with h | h
  · rw [tupAt_neg _ h, if_neg (by omega)]
  · obtain ⟨n, rfl⟩ := Int.eq_ofNat_of_zero_le h
    rw [tupAt_nat]
    rcases n with _ | n
    · rfl
    · rw [if_neg (by omega)]; rfl

/-- What Insert leaves at every place. -/
structure InsAt (H H' : List (List (Option Tup))) (pg sl : Int) (t : Tup) : Prop where
  get : ∀ p s, hGet H' p s = if p = pg ∧ s = sl then some t else hGet H p s
  was : hGet H pg sl = none
  used : usedH H' = usedH H + 1
  fit : ∀ T ∈ H', Fits T
  pos : 0 ≤ pg ∧ 0 ≤ sl
  len : H'.length ≤ H.length + 1

theorem hIns_some {H : List (List (Option Tup))} {left i : Nat} {t : Tup} {T : List (Option Tup)} (hr : t.rightB = true) (hf : findH H t.data.length = some i) (hT : H[i]? = some T) : hIns H left t = (((i : Int), (freeT T : Int), 0), H.set i (insT T t), left) := by
  unfold hIns
  rw [if_neg (by simp [hr]), hf]
  show (((i : Int), (freeT (H.getD i []) : Int), (0 : Int)), H.set i (insT (H.getD i []) t), left) = _
  rw [getD_of hT]

theorem hIns_none {H : List (List (Option Tup))} {left : Nat} {t : Tup} (hr : t.rightB = true) (hf : findH H t.data.length = none) : hIns H (left + 1) t = (((H.length : Int), 0, 0), H ++ [[some t]], left) := by
  unfold hIns
  rw [if_neg (by simp [hr]), hf]
  rfl

theorem right_len {t : Tup} (hr : t.rightB = true) : t.data.length ≤ 200 := (of_decide_eq_true hr).2.2.2.2

theorem insAt_some {H : List (List (Option Tup))} {i : Nat} {t : Tup} {T : List (Option Tup)} (hfit : ∀ T ∈ H, Fits T) (hT : H[i]? = some T) (hrm : (t.data.length : Int) ≤ roomT T) : InsAt H (H.set i (insT T t)) (i : Int) (freeT T : Int) t := by
  have hi : i < H.length := (List.getElem?_eq_some_iff.1 hT).1
  refine ⟨fun p s => ?_, ?_, ?_, fun T' hT' => ?_, ⟨by omega, by omega⟩, by simp⟩
  · rw [hGet_set H i hi, tupAt_ins]
    by_cases x : p = i
    · subst x
      rw [if_pos rfl]
      by_cases y : s = freeT T
      · rw [if_pos y, if_pos ⟨rfl, y⟩]
      · rw [if_neg y, if_neg (fun z => y z.2), hGet_in s hT]
    · rw [if_neg x, if_neg (fun z => x z.1)]
  · rw [hGet_in _ hT, tupAt_nat]
    exact freeT_none T
  · have := usedH_set (T' := insT T t) hT
    rw [used_ins] at this
    omega
  · rcases List.mem_or_eq_of_mem_set hT' with x | x
    · exact hfit T' x
    · rw [x]; exact Fits.ins hrm

theorem insAt_none {H : List (List (Option Tup))} {t : Tup} (hfit : ∀ T ∈ H, Fits T) (hr : t.rightB = true) : InsAt H (H ++ [[some t]]) (H.length : Int) 0 t := by
  refine ⟨fun p s => ?_, hGet_out (Or.inr (Int.le_refl _)), ?_, fun T' hT' => ?_, ⟨by omega, by omega⟩, by simp⟩
  · rw [hGet_push, tupAt_one]
    by_cases x : p = H.length
    · subst x
      rw [if_pos rfl]
      by_cases y : s = 0
      · rw [if_pos y, if_pos ⟨rfl, y⟩]
      · rw [if_neg y, if_neg (fun z => y z.2), hGet_out (Or.inr (Int.le_refl _))]
    · rw [if_neg x, if_neg (fun z => x z.1)]
  · unfold usedH
    rw [List.map_append, List.sum_append]
    rfl
  · rcases List.mem_append.1 hT' with x | x
    · exact hfit T' x
    · simp at x
      subst x
      have := right_len hr
      unfold Fits
      simp [sizeT, Tup.size]
      omega

/-- Insert of a right version goes, where a page has room or the pool has one. -/
theorem hIns_goes {H : List (List (Option Tup))} {left : Nat} {t : Tup} (hfit : ∀ T ∈ H, Fits T) (hr : t.rightB = true) (h : 0 < left ∨ (findH H t.data.length).isSome = true) :
    ∃ pg sl H' left', hIns H left t = ((pg, sl, 0), H', left') ∧ InsAt H H' pg sl t ∧ ((findH H t.data.length).isSome = true → H'.length = H.length ∧ left' = left) ∧ H'.length + left' = H.length + left := by
  rcases hf : findH H t.data.length with _ | i
  · rw [hf] at h
    obtain ⟨left, rfl⟩ : ∃ l, left = l + 1 := ⟨left - 1, by rcases h with h | h; omega; simp at h⟩
    exact ⟨_, _, _, _, hIns_none hr hf, insAt_none hfit hr, fun x => by simp at x, by simp; omega⟩
  · obtain ⟨T, hT, hrm⟩ := findH_some hf
    exact ⟨_, _, _, _, hIns_some hr hf hT, insAt_some hfit hT hrm, fun _ => ⟨by simp, rfl⟩, by simp⟩

/-- What Free leaves at every place. -/
structure FreeAt (H H' : List (List (Option Tup))) (pg sl : Int) (t : Tup) : Prop where
  get : ∀ p s, hGet H' p s = if p = pg ∧ s = sl then none else hGet H p s
  used : usedH H' + 1 = usedH H
  fit : ∀ T ∈ H', Fits T
  len : H'.length = H.length
  room : (findH H' t.data.length).isSome = true

theorem hFree_goes {H : List (List (Option Tup))} {pg sl : Int} {t : Tup} (hfit : ∀ T ∈ H, Fits T) (h : hGet H pg sl = some t) : ∃ H', hFree H pg sl = (0, H') ∧ FreeAt H H' pg sl t := by
  have h0 : ¬ (pg < 0 ∨ (H.length : Int) ≤ pg) := fun x => by rw [hGet_out x] at h; cases h
  obtain ⟨k, rfl⟩ := Int.eq_ofNat_of_zero_le (show 0 ≤ pg by omega)
  have hk : k < H.length := by omega
  obtain ⟨T, hT⟩ : ∃ T, H[k]? = some T := ⟨_, List.getElem?_eq_getElem hk⟩
  have hg : tupAt T sl = some t := by rw [← hGet_in sl hT]; exact h
  obtain ⟨s0, hs⟩ := tupAt_some hg
  obtain ⟨j, rfl⟩ := Int.eq_ofNat_of_zero_le s0
  rw [Int.toNat_natCast] at hs
  have hj : j < T.length := (List.getElem?_eq_some_iff.1 hs).1
  have hF := Fits.free (hfit T (List.mem_of_getElem? hT)) hs
  refine ⟨H.set k (trimT (T.set j none)), ?_, fun p s => ?_, ?_, fun T' hT' => ?_, by simp, ?_⟩
  · unfold hFree
    rw [h]
    show ((0 : Int), H.set (k : Int).toNat (trimT ((H.getD (k : Int).toNat []).set (j : Int).toNat none))) = _
    rw [Int.toNat_natCast, Int.toNat_natCast, getD_of hT]
  · rw [hGet_set H k hk, tupAt_trim, tupAt_set T j hj]
    by_cases x : p = k
    · subst x
      rw [if_pos rfl]
      by_cases y : s = j
      · rw [if_pos y, if_pos ⟨rfl, y⟩]
      · rw [if_neg y, if_neg (fun z => y z.2), hGet_in s hT]
    · rw [if_neg x, if_neg (fun z => x z.1)]
  · have h1 := usedH_set (T' := trimT (T.set j none)) hT
    rw [used_trim] at h1
    have h2 := used_set (u := none) hs
    simp at h2
    omega
  · rcases List.mem_or_eq_of_mem_set hT' with x | x
    · exact hfit T' x
    · rw [x]; exact hF.1
  · unfold findH
    rcases hx : (H.set k (trimT (T.set j none))).findIdx? (fun T => decide ((t.data.length : Int) ≤ roomT T)) with _ | i
    · rw [List.findIdx?_eq_none_iff] at hx
      have := hx (trimT (T.set j none)) (by
        rw [List.mem_iff_getElem?]
        exact ⟨k, by rw [List.getElem?_set_self hk]⟩)
      rw [decide_eq_false_iff_not] at this
      exact absurd hF.2 this
    · rfl

/-- The places that a law has been told, each with its version. -/
structure Inv (H : List (List (Option Tup))) (l : List ((Int × Int) × Tup)) : Prop where
  used : usedH H = l.length
  nd : (l.map (·.1)).Nodup
  got : ∀ x ∈ l, hGet H x.1.1 x.1.2 = some x.2
  fit : ∀ T ∈ H, Fits T

theorem Inv.start : Inv [] [] := ⟨rfl, List.nodup_nil, fun x hx => by simp at hx, fun T hT => by simp at hT⟩

theorem Inv.ins {H H' : List (List (Option Tup))} {l : List ((Int × Int) × Tup)} {pg sl : Int} {t : Tup} (h : Inv H l) (hi : InsAt H H' pg sl t) : Inv H' (l ++ [((pg, sl), t)]) := by
  have hne : ∀ x ∈ l, x.1 ≠ (pg, sl) := fun x hx e => by
    have := h.got x hx
    rw [e, hi.was] at this
    cases this
  refine ⟨by rw [hi.used, h.used]; simp, ?_, fun x hx => ?_, hi.fit⟩
  · rw [List.map_append, List.nodup_append]
    refine ⟨h.nd, by simp, fun a ha b hb => ?_⟩
    obtain ⟨x, hx, rfl⟩ := List.mem_map.1 ha
    simp at hb
    subst hb
    exact hne x hx
  · rw [hi.get]
    rcases List.mem_append.1 hx with y | y
    · rw [if_neg (fun z => hne x y (by rw [← z.1, ← z.2]))]
      exact h.got x y
    · simp at y
      subst y
      rw [if_pos ⟨rfl, rfl⟩]

/-- The one at j is freed; a version is put in its stead. -/
theorem Inv.swap {H H1 H2 : List (List (Option Tup))} {l : List ((Int × Int) × Tup)} {j : Nat} {p q : Int × Int} {t u : Tup} (h : Inv H l) (hj : l[j]? = some (p, t)) (hf : FreeAt H H1 p.1 p.2 t) (hi : InsAt H1 H2 q.1 q.2 u) : Inv H2 (l.set j (q, u)) := by
  have hjl : j < l.length := (List.getElem?_eq_some_iff.1 hj).1
  have hmem : (p, t) ∈ l := List.mem_of_getElem? hj
  have hother : ∀ i x, i ≠ j → l[i]? = some x → x.1 ≠ p := fun i x hne hx e => by
    have h1 : (l.map (·.1))[i]? = some p := by rw [List.getElem?_map, hx, ← e]; rfl
    have h2 : (l.map (·.1))[j]? = some p := by rw [List.getElem?_map, hj]; rfl
    exact hne ((List.getElem?_inj (List.getElem?_eq_some_iff.1 h1).1 h.nd).1 (h1.trans h2.symm))
  have hgot1 : ∀ i x, i ≠ j → l[i]? = some x → hGet H1 x.1.1 x.1.2 = some x.2 := fun i x hne hx => by
    rw [hf.get, if_neg (fun z => hother i x hne hx (Prod.ext z.1 z.2))]
    exact h.got x (List.mem_of_getElem? hx)
  have hnq : ∀ i x, i ≠ j → l[i]? = some x → x.1 ≠ q := fun i x hne hx e => by
    have := hgot1 i x hne hx
    rw [e, hi.was] at this
    cases this
  refine ⟨?_, ?_, fun x hx => ?_, hi.fit⟩
  · rw [hi.used, hf.used, h.used, List.length_set]
  · rw [List.map_set]
    unfold List.Nodup
    rw [List.pairwise_iff_getElem]
    intro a b ha hb hab
    rw [List.length_set, List.length_map] at ha hb
    rw [List.getElem_set, List.getElem_set, List.getElem_map, List.getElem_map]
    by_cases x : j = a
    · rw [if_pos x, if_neg (by omega)]
      exact fun e => hnq b l[b] (by omega) (List.getElem?_eq_getElem hb) e.symm
    · by_cases y : j = b
      · rw [if_neg x, if_pos y]
        exact fun e => hnq a l[a] (by omega) (List.getElem?_eq_getElem ha) e
      · rw [if_neg x, if_neg y]
        have := List.pairwise_iff_getElem.1 h.nd a b (by simpa using ha) (by simpa using hb) hab
        simpa using this
  · rw [hi.get]
    obtain ⟨i, hx⟩ := List.mem_iff_getElem?.1 hx
    rw [List.getElem?_set] at hx
    by_cases y : j = i
    · rw [if_pos y, if_pos hjl] at hx
      injection hx with hx
      subst hx
      rw [if_pos ⟨rfl, rfl⟩]
    · rw [if_neg y] at hx
      rw [if_neg (fun z => hnq i x (fun e => y e.symm) hx (Prod.ext z.1 z.2))]
      exact hgot1 i x (fun e => y e.symm) hx

/-- All others are where they were. -/
theorem Inv.others {H H1 : List (List (Option Tup))} {l : List ((Int × Int) × Tup)} {i j : Nat} {x y : (Int × Int) × Tup} (h : Inv H l) (hf : FreeAt H H1 x.1.1 x.1.2 x.2) (hj : l[j]? = some x) (hi : l[i]? = some y) (hne : i ≠ j) : hGet H1 y.1.1 y.1.2 = some y.2 := by
  rw [hf.get, if_neg (fun z => ?_)]
  · exact h.got y (List.mem_of_getElem? hi)
  · have e : y.1 = x.1 := Prod.ext z.1 z.2
    have h1 : (l.map (·.1))[i]? = some x.1 := by rw [List.getElem?_map, hi, ← e]; rfl
    have h2 : (l.map (·.1))[j]? = some x.1 := by rw [List.getElem?_map, hj]; rfl
    exact hne ((List.getElem?_inj (List.getElem?_eq_some_iff.1 h1).1 h.nd).1 (h1.trans h2.symm))

end Go.Proofs.Ytbibmgcklilpmaa
