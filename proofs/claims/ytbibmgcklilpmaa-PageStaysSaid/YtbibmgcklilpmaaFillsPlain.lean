/- The plain facts behind PageFills: a page of versions of one size. No condition. -/
import Derived.Test.YtbibmgcklilpmaaPageT
namespace Go.Lap

theorem freeT_all (n : Nat) (t : Tup) : freeT (List.replicate n (some t)) = n := by
  have : (List.replicate n (some t)).findIdx? (fun s => s.isNone) = none := by
    rw [List.findIdx?_eq_none_iff]
    intro x hx
    rw [List.eq_of_mem_replicate hx]; rfl
  unfold freeT
  rw [this]; simp

theorem freeT_hole (s : Nat) (t : Tup) (r : List (Option Tup)) : freeT (List.replicate s (some t) ++ none :: r) = s := by
  have : (List.replicate s (some t) ++ none :: r).findIdx? (fun s => s.isNone) = some s := by
    rw [List.findIdx?_eq_some_iff_getElem]
    refine ⟨by simp, by simp, fun j hj => ?_⟩
    rw [List.getElem_append_left (by simpa using hj)]
    simp
  unfold freeT
  rw [this]; rfl

theorem sizes_all (n : Nat) (t : Tup) : ((List.replicate n (some t)).map sizeT).sum = n * t.size := by
  rw [List.map_replicate, List.sum_replicate_nat]; rfl

theorem set_split (n s : Nat) (t : Tup) (y : Option Tup) (hs : s < n) : (List.replicate n (some t)).set s y = List.replicate s (some t) ++ y :: List.replicate (n - s - 1) (some t) := by
  apply List.ext_getElem?
  intro i
  rw [List.getElem?_set, List.length_replicate]
  by_cases h1 : i = s
  · subst h1; simp [hs]
  · rw [if_neg (by omega)]
    by_cases h2 : i < s
    · rw [List.getElem?_append_left (by simpa using h2)]; simp [h2, show i < n by omega]
    · rw [List.getElem?_append_right (by simp; omega), List.length_replicate, show i - s = (i - s - 1) + 1 by omega, List.getElem?_cons_succ, List.getElem?_replicate, List.getElem?_replicate]
      by_cases h3 : i < n
      · rw [if_pos h3, if_pos (by omega)]
      · rw [if_neg h3, if_neg (by omega)]

theorem trimT_some (T : List (Option Tup)) (t : Tup) : trimT (T ++ [some t]) = T ++ [some t] := by simp [trimT]
theorem trimT_none (T : List (Option Tup)) : trimT (T ++ [none]) = trimT T := by simp [trimT]
theorem trimT_all (n : Nat) (t : Tup) : trimT (List.replicate n (some t)) = List.replicate n (some t) := by
  rcases n with _ | n
  · rfl
  · rw [List.replicate_succ', trimT_some]

/-- One of n is freed: the list, its hole. -/
theorem freed (n s : Nat) (t : Tup) (hs : s < n) : (s + 1 < n ∧ trimT ((List.replicate n (some t)).set s none) = List.replicate s (some t) ++ none :: List.replicate (n - s - 1) (some t)) ∨
    (s + 1 = n ∧ trimT ((List.replicate n (some t)).set s none) = List.replicate s (some t)) := by
  rw [set_split n s t none hs]
  by_cases h : s + 1 < n
  · refine Or.inl ⟨h, ?_⟩
    obtain ⟨m, hm⟩ : ∃ m, n - s - 1 = m + 1 := ⟨n - s - 2, by omega⟩
    rw [hm, List.replicate_succ', ← List.cons_append, ← List.append_assoc, trimT_some]
  · refine Or.inr ⟨by omega, ?_⟩
    rw [show n - s - 1 = 0 by omega, List.replicate_zero, trimT_none, trimT_all]

theorem ins_all (n : Nat) (t : Tup) (hr : t.rightB = true) (h : (n + 1) * (4 + t.size) ≤ 508) : pInsT (List.replicate n (some t)) t = ((n : Int), 0, List.replicate (n + 1) (some t)) := by
  have hts : t.size = 30 + t.data.length := rfl
  have hroom : ¬ roomT (List.replicate n (some t)) < t.data.length := by
    rw [room_iff, freeT_all, sizes_all, List.length_replicate]
    rw [Nat.add_mul, Nat.mul_add] at h
    omega
  unfold pInsT
  rw [if_neg (by simp [hr]), if_neg hroom, freeT_all]
  unfold insT
  rw [freeT_all, List.length_replicate, if_pos rfl, List.replicate_succ']

theorem ins_full (n : Nat) (t : Tup) (hr : t.rightB = true) (h : 508 < (n + 1) * (4 + t.size)) : pInsT (List.replicate n (some t)) t = (0, 12, List.replicate n (some t)) := by
  have hts : t.size = 30 + t.data.length := rfl
  have hroom : roomT (List.replicate n (some t)) < t.data.length := by
    apply Decidable.byContradiction
    intro hc
    rw [room_iff, freeT_all, sizes_all, List.length_replicate] at hc
    rw [Nat.add_mul, Nat.mul_add] at h
    omega
  unfold pInsT
  rw [if_neg (by simp [hr]), if_pos hroom]

theorem ins_hole (n s : Nat) (t : Tup) (hr : t.rightB = true) (hs : s < n) (h : n * (4 + t.size) ≤ 508) : pInsT (trimT ((List.replicate n (some t)).set s none)) t = ((s : Int), 0, List.replicate n (some t)) := by
  have hts : t.size = 30 + t.data.length := rfl
  rcases freed n s t hs with ⟨h1, e⟩ | ⟨h1, e⟩
  · rw [e]
    have hlen : (List.replicate s (some t) ++ none :: List.replicate (n - s - 1) (some t)).length = n := by simp; omega
    have hroom : ¬ roomT (List.replicate s (some t) ++ none :: List.replicate (n - s - 1) (some t)) < t.data.length := by
      rw [room_iff, freeT_hole, hlen, List.map_append, List.map_cons, List.sum_append, List.sum_cons, sizes_all, sizes_all]
      have e0 : sizeT none = 0 := rfl
      rw [e0]
      have e1 : s * t.size + (n - s - 1) * t.size = (n - 1) * t.size := by rw [← Nat.add_mul]; congr 1; omega
      have e2 : n * t.size = (n - 1) * t.size + t.size := by
        conv => lhs; rw [show n = (n - 1) + 1 by omega, Nat.add_mul, Nat.one_mul]
      rw [Nat.mul_add] at h
      omega
    unfold pInsT
    rw [if_neg (by simp [hr]), if_neg hroom, freeT_hole]
    unfold insT
    rw [freeT_hole, hlen, if_neg (by omega)]
    congr 2
    rw [← set_split n s t none hs, List.set_set]
    apply List.ext_getElem?
    intro i
    rw [List.getElem?_set, List.length_replicate, List.getElem?_replicate]
    by_cases hi : s = i
    · subst hi; simp [hs]
    · simp [hi]
  · rw [e]
    have := ins_all s t hr (by rw [h1]; exact h)
    rw [this, h1]

theorem used_all (n : Nat) (t : Tup) : usedT (List.replicate n (some t)) = n := by simp [usedT]

/-- The law's version. -/
def tup0 (k : Nat) : Tup := { row := 1, xmin := 1, xmax := 0, pg := -1, sl := -1, data := List.replicate k 0 }

theorem tup0_size (k : Nat) : 4 + (tup0 k).size = 34 + k := by simp [Tup.size, tup0]; omega
theorem tup0_right (k : Nat) (h : k ≤ 200) : (tup0 k).rightB = true := by
  unfold Tup.rightB
  refine decide_eq_true ⟨by show 1 ≤ _; omega, by show 1 ≤ _; omega, by show 0 ≤ _; omega, ?_, by simp [tup0]; exact h⟩
  show farB (-1) (-1) = false
  decide
theorem tup0_bytes (k : Nat) : ∀ x ∈ (tup0 k).data, x < 256 := by
  intro x hx
  rw [List.eq_of_mem_replicate (show x ∈ List.replicate k 0 from hx)]
  omega

/-- How many there are: the division. -/
theorem fill_count {n k : Nat} (h1 : n * (34 + k) ≤ 508) (h2 : 508 < (n + 1) * (34 + k)) : (508 : Int) / (34 + (k : Int)) = n := by
  have e : 508 / (34 + k) = n := by
    apply Nat.div_eq_of_lt_le
    · exact h1
    · exact h2
  have : ((508 / (34 + k) : Nat) : Int) = n := by rw [e]
  rw [Int.natCast_ediv] at this
  simpa using this

end Go.Lap
