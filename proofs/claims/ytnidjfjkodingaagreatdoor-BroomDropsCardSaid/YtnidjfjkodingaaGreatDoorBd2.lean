/- The contracts of package heap: Insert whole, Free, Get, Stamp. The plain facts behind PageFills: a page of versions of one size. What the laws on heaps share: wide, awake; a heap in a law's world. Plain laws of heaps: what Insert and Free leave at every place. slices.SortFunc on a row that the call owns, of structs of k cells: a permutation, sorted. The library's sort of rows laid at this program (printed by the kit's lay-plain, numbers turned to names). The log of transactions as plain lists: four states in a byte; those that run. Snapshots as plain data: what one sees. No condition. -/
import Derived.Test.YtnidjfjkodingaaGreatDoorBd1
import Derived.Shelf.SlSortCmp.NoneTotal
import Derived.Ground.SlsfProg
import Derived.Test.YtnidjfjkodingaaGreatDoorProg
import Derived.Maps.OwnOps
import Derived.Maps.OwnSet
import Derived.Maps.Ext
import Derived.DeepKeys4
import Derived.StillTailTactics
import Derived.Laws.RangeAny
import Derived.Lib.Bytealg
import Derived.BigQuiet
import Derived.Lib.AppendZerosOnto
import Derived.Lib.Overlaps
import Derived.Laws.IdiomCopy
set_option linter.unusedVariables false
set_option linter.unusedSimpArgs false
set_option maxRecDepth 100000
set_option maxHeartbeats 8000000
namespace Go.Lap
def ZR (H : List (List (Option Tup))) (pg sl : Int) : Option Tup := if pg < 0 then none else ZY (H.getD pg.toNat []) sl
def Z1t (H : List (List (Option Tup))) (pg sl : Int) : Int × List (List (Option Tup)) :=
 match ZR H pg sl with
 | none => (15, H)
 | some _ => (0, H.set pg.toNat (Z0f ((H.getD pg.toNat []).set sl.toNat none)))
def Z22 (H : List (List (Option Tup))) (pg sl : Int) (xmax : Nat) (npg nsl : Int) : Int × List (List (Option Tup)) :=
 if pg < 0 ∨ (H.length : Int) <= pg then ((Z0a [] sl xmax npg nsl).1, H) else ((Z0a (H.getD pg.toNat []) sl xmax npg nsl).1, H.set pg.toNat (Z0a (H.getD pg.toNat []) sl xmax npg nsl).2)
theorem Zfn (i : Int) : ZY [] i = none := by
 unfold ZY
 split <;> rfl
theorem Z1i {H : List (List (Option Tup))} {pg sl : Int} (h : pg < 0 ∨ (H.length : Int) <= pg) : ZR H pg sl = none := by
 unfold ZR
 split
 ·rfl
 ·rw [List.getD_eq_getElem?_getD, List.getElem?_eq_none (by omega)]
  exact Zfn sl
theorem Z23 {H : List (List (Option Tup))} {k : Nat} {T : List (Option Tup)} (sl : Int) (h : H[k]? = some T) : ZR H (k : Int) sl = ZY T sl := by
 unfold ZR
 rw [if_neg (by omega), Int.toNat_natCast, List.getD_eq_getElem?_getD, h]
 rfl
theorem Z6W {H : List (List (Option Tup))} {k : Nat} {T : List (Option Tup)} (h : H[k]? = some T) : H.getD k [] = T := by
 rw [List.getD_eq_getElem?_getD, h]; rfl
theorem Zb2 (T : List (Option Tup)) (i : Nat) (t u : Tup) (h : T[i]? = some (some t)) : freeT (T.set i (some u)) = freeT T := by
 have e : (T.set i (some u)).map (fun s => s.isNone) = T.map (fun s => s.isNone) := by
  rw [List.map_set]
  apply List.ext_getElem?
  intro j
  rw [List.getElem?_set]
  by_cases x : i = j
  ·subst x
   have hl : i < T.length := (zi.1 h).1
   rw [if_pos rfl, if_pos (by simpa using hl), List.getElem?_map, h]
   rfl
  ·rw [if_neg x]
 have f : ∀ L : List (Option Tup), freeT L = ((L.map (fun s => s.isNone)).findIdx? (fun b => b)).getD L.length := by
  intro L
  unfold freeT
  rw [List.findIdx?_map]
  rfl
 rw [f, f T, e, List.length_set]
theorem Zb3 {α : Type} (f : α -> Nat) (T : List α) (i : Nat) (a b : α) (h : T[i]? = some a) (hf : f b = f a) : ((T.set i b).map f).sum = (T.map f).sum := by
 have e : (T.set i b).map f = T.map f := by
  rw [List.map_set]
  apply List.ext_getElem?
  intro j
  rw [List.getElem?_set]
  by_cases x : i = j
  ·subst x
   have hl : i < T.length := (zi.1 h).1
   rw [if_pos rfl, if_pos (by simpa using hl), List.getElem?_map, h, Option.map_some, hf]
  ·rw [if_neg x]
 rw [e]
theorem Z8d {T : List (Option Tup)} {i : Int} {t : Tup} (h : ZY T i = some t) : 0 <= i /\ T[i.toNat]? = some (some t) := by
 unfold ZY at h
 split at h
 ·cases h
 ·refine ⟨by omega, ?_⟩
  rcases hx : T[i.toNat]? with _ | s
  ·rw [hx] at h; cases h
  ·rw [hx] at h
   have : s = some t := h
   rw [this]
theorem Zck (T : List (Option Tup)) (i : Int) (x : Nat) (pg sl : Int) : ZL (Z0a T i x pg sl).2 = ZL T := by
 unfold Z0a
 split
 ·rfl
 ·rcases h : ZY T i with _ | t
  ·rfl
  ·obtain ⟨h0, h1⟩ := Z8d h
   show ZL (T.set i.toNat (some (t.stamp x pg sl))) = ZL T
   unfold ZL Z2E
   rw [Zb2 T _ t _ h1, List.length_set, Zb3 (fun s => 4 + Z1p s) T _ (some t) (some (t.stamp x pg sl)) h1 rfl]
theorem ZdN (T : List (Option Tup)) (t : Tup) : Z0f (T ++ [some t]) = T ++ [some t] := by simp [Z0f]
theorem ZdO (T : List (Option Tup)) : Z0f (T ++ [none]) = Z0f T := by simp [Z0f]
theorem Z1a (T : List (Option Tup)) (n : Nat) : ZY T (n : Int) = (T[n]?).join := by
 unfold ZY
 rw [if_neg (by omega), Int.toNat_natCast]
theorem Z2s (T : List (Option Tup)) {i : Int} (h : i < 0) : ZY T i = none := by
 unfold ZY
 rw [if_pos h]
theorem Z5E (T : List (Option Tup)) : freeT T <= T.length := by
 unfold freeT
 rcases h : T.findIdx? (fun s => s.isNone) with _ | i
 ·rw [h]; exact Nat.le_refl _
 ·rw [h]
  rw [List.findIdx?_eq_some_iff_getElem] at h
  obtain ⟨hi, _⟩ := h
  exact Nat.le_of_lt hi
theorem Zcm {T : List (Option Tup)} {i : Nat} (h : T[i]? = some none) : freeT T <= i := by
 unfold freeT
 rcases hf : T.findIdx? (fun s => s.isNone) with _ | j
 ·rw [List.findIdx?_eq_none_iff] at hf
  have := hf none (List.mem_of_getElem? h)
  simp at this
 ·rw [hf]
  rw [List.findIdx?_eq_some_iff_getElem] at hf
  obtain ⟨hj, _, h2⟩ := hf
  show j <= i
  rcases Nat.lt_or_ge i j with x | x
  ·have hi : i < T.length := (zi.1 h).1
   have := h2 i x
   rw [zg hi] at h
   injection h with h
   rw [h] at this
   simp at this
  ·exact x
theorem Z8e (T : List (Option Tup)) : (T[freeT T]?).join = none := by
 unfold freeT
 rcases h : T.findIdx? (fun s => s.isNone) with _ | i
 ·rw [h]
  show (T[T.length]?).join = none
  rw [List.getElem?_eq_none (Nat.le_refl _)]
  rfl
 ·rw [h]
  rw [List.findIdx?_eq_some_iff_getElem] at h
  obtain ⟨hi, h1, _⟩ := h
  show (T[i]?).join = none
  rw [zg hi]
  have : T[i] = none := by simpa using h1
  rw [this]
  rfl
theorem Zfp (T : List (Option Tup)) (t : Tup) (s : Int) : ZY (Z1h T t) s = if s = freeT T then some t else ZY T s := by
 have hf := Z5E T
 rcases Int.lt_or_le s 0 with h | h
 ·rw [Z2s _ h, Z2s _ h, if_neg (by omega)]
 ·obtain ⟨n, rfl⟩ := Int.eq_ofNat_of_zero_le h
  rw [Z1a, Z1a]
  unfold Z1h
  by_cases e : freeT T = T.length
  ·rw [if_pos e, e]
   by_cases x : n = T.length
   ·subst x
    rw [if_pos rfl]
    simp
   ·rw [if_neg (by omega)]
    rcases Nat.lt_or_ge n T.length with y | y
    ·rw [List.getElem?_append_left y]
    ·rw [List.getElem?_eq_none (by simp; omega), List.getElem?_eq_none y]
  ·rw [if_neg e, List.getElem?_set]
   by_cases x : freeT T = n
   ·rw [if_pos x, if_pos (by omega), if_pos (by omega)]
    rfl
   ·rw [if_neg x, if_neg (by omega)]
theorem Z9H (T : List (Option Tup)) (i : Nat) (hi : i < T.length) (u : Option Tup) (s : Int) : ZY (T.set i u) s = if s = i then u else ZY T s := by
 rcases Int.lt_or_le s 0 with h | h
 ·rw [Z2s _ h, Z2s _ h, if_neg (by omega)]
 ·obtain ⟨n, rfl⟩ := Int.eq_ofNat_of_zero_le h
  rw [Z1a, Z1a, List.getElem?_set]
  by_cases x : i = n
  ·rw [if_pos x, if_pos hi, if_pos (by omega)]
   rfl
  ·rw [if_neg x, if_neg (by omega)]
theorem Z4T (T : List (Option Tup)) : ∃ k, T = Z0f T ++ List.replicate k none := by
 induction hn : T.length generalizing T with
 | zero =>
  have : T = [] := List.eq_nil_of_length_eq_zero hn
  subst this
  exact ⟨0, rfl⟩
 | succ n ih =>
  have hne : T ≠ [] := fun e => by subst e; simp at hn
  obtain ⟨M, s, rfl⟩ : ∃ M s, T = M ++ [s] := ⟨T.dropLast, T.getLast hne, (List.dropLast_concat_getLast hne).symm⟩
  have hM : M.length = n := by simpa using hn
  rcases s with _ | t
  ·obtain ⟨k, hk⟩ := ih M hM
   refine ⟨k + 1, ?_⟩
   rw [ZdO, List.replicate_succ', <- List.append_assoc, <- hk]
  ·exact ⟨0, by rw [ZdN]; simp⟩
theorem Z8f (T : List (Option Tup)) (s : Int) : ZY (Z0f T) s = ZY T s := by
 obtain ⟨k, hk⟩ := Z4T T
 rcases Int.lt_or_le s 0 with h | h
 ·rw [Z2s _ h, Z2s _ h]
 ·obtain ⟨n, rfl⟩ := Int.eq_ofNat_of_zero_le h
  rw [Z1a, Z1a]
  conv => rhs; rw [hk]
  rcases Nat.lt_or_ge n (Z0f T).length with x | x
  ·rw [List.getElem?_append_left x]
  ·rw [List.getElem?_eq_none x, List.getElem?_append_right x, List.getElem?_replicate]
   split <;> rfl
theorem Z7c (A B : List (Option Tup)) : Z0B (A ++ B) = Z0B A + Z0B B := by simp [Z0B]
theorem Zfq (k : Nat) : Z0B (List.replicate k none) = 0 := by simp [Z0B]
theorem Zfr (T : List (Option Tup)) : Z0B (Z0f T) = Z0B T := by
 obtain ⟨k, hk⟩ := Z4T T
 conv => rhs; rw [hk]
 rw [Z7c, Zfq, Nat.add_zero]
theorem Z7d (T : List (Option Tup)) : Z0B T = (T.map (fun s => if s.isSome then 1 else 0)).sum := by
 induction T with
 | nil => rfl
 | cons s T ih =>
  rw [List.map_cons, List.sum_cons, <- ih]
  rcases s with _ | t
  ·simp [Z0B]
  ·simp [Z0B]; omega
theorem Z6X {α : Type} (f : α -> Nat) (T : List α) (i : Nat) (a b : α) (h : T[i]? = some a) : ((T.set i b).map f).sum + f a = (T.map f).sum + f b := by
 induction T generalizing i with
 | nil => simp at h
 | cons x T ih =>
  rcases i with _ | i
  ·simp at h
   subst h
   simp
   omega
  ·rw [List.getElem?_cons_succ] at h
   have := ih i h
   simp only [List.set_cons_succ, List.map_cons, List.sum_cons]
   omega
theorem Zb4 {T : List (Option Tup)} {i : Nat} {s u : Option Tup} (h : T[i]? = some s) : Z0B (T.set i u) + (if s.isSome then 1 else 0) = Z0B T + (if u.isSome then 1 else 0) := by
 rw [Z7d, Z7d]
 exact Z6X _ T i s u h
theorem Zb5 {T : List (Option Tup)} (h : ¬ freeT T = T.length) : T[freeT T]? = some none := by
 have hl := Z5E T
 have := Z8e T
 rw [zg (show freeT T < T.length by omega)] at this ⊢
 have h2 : T[freeT T] = none := this
 rw [h2]
theorem ZgW (T : List (Option Tup)) (t : Tup) : Z0B (Z1h T t) = Z0B T + 1 := by
 unfold Z1h
 by_cases e : freeT T = T.length
 ·rw [if_pos e, Z7c]; rfl
 ·rw [if_neg e]
  have := Zb4 (u := some t) (Zb5 e)
  simpa using this
def Z0X (T : List (Option Tup)) : Prop := 4 + 4 * T.length + (T.map Z1p).sum <= 512
theorem ZdP (T : List (Option Tup)) (t : Tup) : (Z1h T t).length = max T.length (freeT T + 1) := by
 have := Z5E T
 unfold Z1h
 by_cases e : freeT T = T.length
 ·rw [if_pos e]; simp; omega
 ·rw [if_neg e]; simp; omega
theorem Zfs (T : List (Option Tup)) (t : Tup) : ((Z1h T t).map Z1p).sum = (T.map Z1p).sum + t.size := by
 unfold Z1h
 by_cases e : freeT T = T.length
 ·rw [if_pos e]; simp [Z1p]
 ·rw [if_neg e]
  have := Z6X Z1p T _ _ (some t) (Zb5 e)
  simpa [Z1p] using this
theorem Z0X.ins {T : List (Option Tup)} {t : Tup} (hr : (t.data.length : Int) <= ZL T) : Z0X (Z1h T t) := by
 have := (ZaZ T t.data.length).1 (by omega)
 unfold Z0X
 rw [ZdP, Zfs]
 have : t.size = 30 + t.data.length := rfl
 omega
theorem ZdQ (T : List (Option Tup)) : ((Z0f T).map Z1p).sum = (T.map Z1p).sum := by
 obtain ⟨k, hk⟩ := Z4T T
 conv => rhs; rw [hk]
 simp [Z1p]
theorem Zcn (T : List (Option Tup)) : (Z0f T).length <= T.length := by
 obtain ⟨k, hk⟩ := Z4T T
 have := congrArg List.length hk
 simp at this
 omega
theorem ZdR {T : List (Option Tup)} {i : Nat} {t : Tup} (h : T[i]? = some (some t)) : ((Z0f (T.set i none)).map Z1p).sum + t.size = (T.map Z1p).sum := by
 rw [ZdQ]
 have := Z6X Z1p T i _ none h
 simpa [Z1p] using this
theorem ZgX (T : List (Option Tup)) (i : Nat) (hi : i < T.length) : max (Z0f (T.set i none)).length (freeT (Z0f (T.set i none)) + 1) <= T.length := by
 have h1 := Zcn (T.set i none)
 rw [List.length_set] at h1
 have h2 := Z5E (Z0f (T.set i none))
 rcases Nat.lt_or_ge i (Z0f (T.set i none)).length with x | x
 ·have : (Z0f (T.set i none))[i]? = some none := by
   have h3 := Z8f (T.set i none) i
   rw [Z9H T i hi, if_pos rfl, Z1a] at h3
   rw [zg x] at h3 ⊢
   have h4 : (Z0f (T.set i none))[i] = none := h3
   rw [h4]
  have := Zcm this
  omega
 ·omega
theorem Z0X.free {T : List (Option Tup)} {i : Nat} {t : Tup} (hf : Z0X T) (h : T[i]? = some (some t)) : Z0X (Z0f (T.set i none)) /\ (t.data.length : Int) <= ZL (Z0f (T.set i none)) := by
 have hi : i < T.length := (zi.1 h).1
 have h1 := ZdR h
 have h2 := ZgX T i hi
 have h3 : t.size = 30 + t.data.length := rfl
 unfold Z0X at hf ⊢
 refine ⟨by omega, ?_⟩
 have := (ZaZ (Z0f (T.set i none)) t.data.length).2 (by omega)
 omega
theorem Zb6 (H : List (List (Option Tup))) (n : Nat) (s : Int) : ZR H (n : Int) s = ZY (H.getD n []) s := by
 unfold ZR
 rw [if_neg (by omega), Int.toNat_natCast]
theorem Zb7 (H : List (List (Option Tup))) (i : Nat) (hi : i < H.length) (T : List (Option Tup)) (p s : Int) : ZR (H.set i T) p s = if p = i then ZY T s else ZR H p s := by
 rcases Int.lt_or_le p 0 with h | h
 ·rw [Z1i (Or.inl h), Z1i (Or.inl h), if_neg (by omega)]
 ·obtain ⟨n, rfl⟩ := Int.eq_ofNat_of_zero_le h
  rw [Zb6, Zb6, List.getD_eq_getElem?_getD, List.getElem?_set]
  by_cases x : i = n
  ·rw [if_pos x, if_pos hi, if_pos (by omega)]; rfl
  ·rw [if_neg x, if_neg (by omega), List.getD_eq_getElem?_getD]
theorem Zft (H : List (List (Option Tup))) (T : List (Option Tup)) (p s : Int) : ZR (H ++ [T]) p s = if p = H.length then ZY T s else ZR H p s := by
 rcases Int.lt_or_le p 0 with h | h
 ·rw [Z1i (Or.inl h), Z1i (Or.inl h), if_neg (by omega)]
 ·obtain ⟨n, rfl⟩ := Int.eq_ofNat_of_zero_le h
  by_cases x : n = H.length
  ·subst x
   rw [if_pos rfl]
   exact Z23 s (by simp)
  ·rw [if_neg (by omega)]
   rcases Nat.lt_or_ge n H.length with y | y
   ·rw [Z23 s (T := H[n]) (by rw [List.getElem?_append_left y, zg y]), Z23 s (zg y)]
   ·rw [Z1i (Or.inr (by simp; omega)), Z1i (Or.inr (by omega))]
section
open Go.Sort Go.Proofs Go.Shelf Go.RowKit
theorem ZgY {α : Type} {k : Nat} {rows : List (List α)} (h : ∀ r ∈ rows, r.length = k) {i j : Nat} {r : List α} (hi : rows[i]? = some r) (hj : j < k) : rows.flatten[i * k + j]? = r[j]? := by
 induction rows generalizing i with
 | nil => simp at hi
 | cons x rows ih =>
  have hx : x.length = k := h x (by simp)
  rw [List.flatten_cons]
  rcases i with _ | i
  ·simp at hi
   subst hi
   rw [Nat.zero_mul, Nat.zero_add, List.getElem?_append_left (by omega)]
  ·rw [List.getElem?_cons_succ] at hi
   rw [List.getElem?_append_right (by rw [hx, Nat.add_mul]; omega), hx, show (i + 1) * k + j - k = i * k + j by rw [Nat.add_mul]; omega]
   exact ih (fun r hr => h r (by simp [hr])) hi
theorem Z7e {α : Type} {k : Nat} {rows : List (List α)} (h : ∀ r ∈ rows, r.length = k) : rows.flatten.length = rows.length * k := by
 induction rows with
 | nil => simp
 | cons x rows ih =>
  rw [List.flatten_cons, List.length_append, h x (by simp), ih (fun r hr => h r (by simp [hr])), List.length_cons, Nat.add_mul]
  omega
theorem Z6c {α : Type} [Inhabited α] (enc : α -> List Value) (k : Nat) (hk : ∀ x, (enc x).length = k) (l : List α) : (flatK enc k l.toArray).toList = l.flatMap enc := by
 apply List.ext_getElem?
 intro t
 have hrows : ∀ r ∈ l.map enc, r.length = k := fun r hr => by
  obtain ⟨x, _, rfl⟩ := List.mem_map.1 hr
  exact hk x
 have hfl : (l.flatMap enc).length = l.length * k := by
  rw [List.flatMap_def, Z7e hrows, List.length_map]
 by_cases ht : t < l.length * k
 ·have k0 : 0 < k := by
   rcases Nat.eq_zero_or_pos k with h | h
   ·subst h; simp at ht
   ·exact h
  have hd : t / k < l.length := by rw [Nat.div_lt_iff_lt_mul k0]; exact ht
  have hm : t % k < k := Nat.mod_lt _ k0
  have e : t / k * k + t % k = t := by rw [Nat.mul_comm]; exact Nat.div_add_mod t k
  have h1 := ZgY hrows (i := t / k) (j := t % k) (r := enc l[t / k]) (by rw [List.getElem?_map, zg hd]; rfl) hm
  rw [e, <- List.flatMap_def] at h1
  rw [h1, Array.getElem?_toList, Array.getElem?_eq_getElem (by simpa using ht)]
  have hg := get_flatK enc k l.toArray t (by simpa using ht)
  rw [getElem!_pos _ _ (by simpa using ht)] at hg
  rw [hg]
  have hh : l.toArray[t / k]! = l[t / k] := by
   rw [getElem!_pos _ _ (by simpa using hd)]
   simp
  rw [hh, getElem!_pos _ _ (by rw [hk]; exact hm), zg (by rw [hk]; exact hm)]
 ·rw [List.getElem?_eq_none (by simp; omega), List.getElem?_eq_none (by rw [hfl]; omega)]
theorem Zco {α : Type} {enc : α -> List Value} {k : Nat} (hk : ∀ x, (enc x).length = k) (l : List α) : (l.flatMap enc).length = l.length * k := by
 rw [List.flatMap_def, Z7e (fun r hr => by obtain ⟨x, _, rfl⟩ := List.mem_map.1 hr; exact hk x), List.length_map]
theorem Zau {cur F : Array Value} (h : F.size <= cur.size) : (putCells id 0 F cur).toList.take F.size = F.toList := by
 apply List.ext_getElem?
 intro j
 by_cases hj : j < F.size
 ·rw [List.getElem?_take_of_lt hj, Array.getElem?_toList, Array.getElem?_toList]
  simp [putCells, hj, show j < cur.size by omega]
 ·rw [List.getElem?_take_eq_none (by omega), List.getElem?_eq_none (by simp; omega)]
section
variable {P : Program} {ρ : Ren} {α : Type} [Inhabited α]
theorem ZgZ (L : SlLaysF0.n6 P ρ) (k : Nat) (aE : ∀ w, (isAgg (ρ.t 24)).run P w = .ok true w) (zE : ∀ w, (Go.sizeOf (ρ.t 24)).run P w = .ok k w) (enc : α -> List Value) (hk : ∀ x, (enc x).length = k)
  (h1 : ∀ x, ∀ v ∈ enc x, v.oneCell' = true) (cf : α -> α -> Int) (hO : SWO (ltOf cf)) (g : Nat) (eg : ∀ args w, (callFunc g args).run P w = .ok (.enter g args) w)
  (hcl : ∀ x y W, Calls P g #[.agg (enc x).toArray, .agg (enc y).toArray] W fun e w' => e = .returned (.int .i64 (cf x y)) /\ ∃ q os', w' = grow (W.drewN q) os')
  (e : TypeId) (v : Value) (l : List α) (w : World) (hown : w.ownsRow 0 e k v l.length (l.flatMap enc)) (hl : l.length < 4611686018427387904) :
  Calls P (ρ.f 6) #[v, .func (.func g) #[] #[]] w fun e' w' => e' = .returned (.tuple #[]) /\ ∃ l' : List α, l'.Perm l /\ l'.Pairwise (fun a b => ltOf cf b a = false) /\ w'.ownsRow 0 e k v l.length (l'.flatMap enc) /\ Z0 (fun k => v.ownBlock = some k) w w' := by
 rcases hown.2 with ⟨rfl, h0⟩ | ⟨b, cap, cur, rfl, _, hb, hc1, hc2, hc3, hc4⟩
 ·have hl0 : l = [] := List.eq_nil_of_length_eq_zero h0
  subst hl0
  refine (AnyF.slices_SortFunc_none L none 0 (.func (.func g) #[] #[]) w).mono ?_
  rintro e' w' ⟨rfl, rfl⟩
  exact ⟨rfl, [], List.Perm.refl _, List.Pairwise.nil, hown, Z0.refl _ _⟩
 ·have hblk := Z2 hb
  have hH : HoldsK enc k w b 0 l.toArray := by
   intro j hj
   have hj' : j < l.length * k := by simpa using hj
   refine ⟨?_, Z7 hb _⟩
   rw [Nat.zero_add, Z1 hb]
   have h2 : (l.flatMap enc)[j]? = cur[j]? := by rw [<- hc4, List.getElem?_take_of_lt hj', Array.getElem?_toList]
   rw [<- h2, <- Z6c enc k hk, Array.getElem?_toList, Array.getElem?_eq_getElem hj, getElem!_pos (flatK enc k l.toArray) j hj]
   rfl
  have hs : l.toArray.size = l.length := rfl
  have hcall := AnyQ.slices_SortFunc L k aE zE enc hk h1 cf hO g #[] b 0 cap l.toArray w eg (fun _ _ _ _ x y => hcl x y _) hH hblk (by rw [hs]; exact hl)
  rw [hs] at hcall
  refine hcall.mono ?_
  rintro e' w' ⟨rfl, d', n, os, hp, hsd, rfl⟩
  obtain ⟨p1, _, p3⟩ := hp
  have hd' : d'.size = l.length := p1
  have hperm : d'.toList.Perm l := by
   rw [show l.length = d'.size from hd'.symm] at p3
   have h5 : (d'.extract 0 d'.size).toList = d'.toList := by simp
   have h6 : (l.toArray.extract 0 d'.size).toList = l := by rw [hd']; simp
   rw [h5, h6] at p3
   exact p3
  have hg : (sortWorldK enc k w b 0 n d' os).heap[b]? = some (.cells (putCells id 0 (flatK enc k d') cur) e (0, 0)) := by
   unfold sortWorldK
   rw [heap_grow_old _ _ (by simpa [putRowK, Sort.ahead] using hblk)]
   simp [putRowK, putRow, mapBlock, Sort.ahead, Array.getElem?_modify, hb, onCells]
  refine ⟨rfl, d'.toList, hperm, ?_, ?_, ⟨rfl, rfl, rfl, ?_, fun i hi hn => ?_⟩⟩
  ·rw [List.pairwise_iff_getElem]
   intro i j hi hj hij
   have := hsd i j (Nat.zero_le _) hij (by rw [<- hd']; simpa using hj)
   rw [getElem!_pos d' j (by simpa using hj), getElem!_pos d' i (by simpa using hi)] at this
   simpa using this
  ·have hfl : (flatK enc k d').toList = d'.toList.flatMap enc := by
    have := Z6c enc k hk d'.toList
    simpa using this
   refine ⟨by rw [Zco hk]; simp [hd'], .inr ⟨b, cap, _, rfl, Nat.zero_le _, hg, hc1, hc2, by simp [putCells, hc3], ?_⟩⟩
   have hsz : (flatK enc k d').size = l.length * k := by rw [size_flatK, hd']
   have := Zau (cur := cur) (F := flatK enc k d') (by rw [hsz, hc3]; exact Nat.mul_le_mul_right _ hc1)
   rw [hsz, hfl] at this
   exact this
  ·show w.heap.size <= ((mapBlock _ _ _).heap ++ os).size
   simp [mapBlock, Sort.ahead]
  ·have hne : ¬ b = i := fun x => hn (by rw [<- x]; rfl)
   unfold sortWorldK
   rw [heap_grow_old _ _ (by simpa [putRowK, Sort.ahead] using hi)]
   simp [putRowK, putRow, mapBlock, Sort.ahead, Array.getElem?_modify, hne]
end
end
def Z0C (L : List Nat) (j : Nat) : Nat := L.getD (4 * j) 0 + 4 * L.getD (4 * j + 1) 0 + 16 * L.getD (4 * j + 2) 0 + 64 * L.getD (4 * j + 3) 0
def Z0N (L : List Nat) : List Nat := (List.range ((L.length + 3) / 4)).map (Z0C L)
def Z27 (L : List Nat) : Prop := ∀ x ∈ L, x <= 3
theorem Z27.le {L : List Nat} (h : Z27 L) (i : Nat) : L.getD i 0 <= 3 := by
 rw [List.getD_eq_getElem?_getD]
 rcases e : L[i]? with _ | x
 ·simp
 ·have := h x (List.mem_of_getElem? e)
  simp; omega
theorem Z27.byte {L : List Nat} (h : Z27 L) (j : Nat) : Z0C L j < 256 := by
 have h0 := h.le (4 * j)
 have h1 := h.le (4 * j + 1)
 have h2 := h.le (4 * j + 2)
 have h3 := h.le (4 * j + 3)
 unfold Z0C
 omega
theorem Z27.set {L : List Nat} (h : Z27 L) (i : Nat) {s : Nat} (hs : s <= 3) : Z27 (L.set i s) := by
 intro x hx
 rcases List.mem_or_eq_of_mem_set hx with y | y
 ·exact h x y
 ·subst y; exact hs
theorem Z27.snoc {L : List Nat} (h : Z27 L) {s : Nat} (hs : s <= 3) : Z27 (L ++ [s]) := by
 intro x hx
 rcases List.mem_append.1 hx with y | y
 ·exact h x y
 ·simp at y; subst y; exact hs
theorem ZZ (L : List Nat) : (Z0N L).length = (L.length + 3) / 4 := by simp [Z0N]
theorem Z1u (L : List Nat) {j : Nat} (h : j < (L.length + 3) / 4) : (Z0N L)[j]? = some (Z0C L j) := by
 unfold Z0N
 rw [List.getElem?_map, List.getElem?_range h]
 rfl
theorem Z9L {L : List Nat} (h : Z27 L) (i : Nat) : Z0C L (i / 4) / 4 ^ (i % 4) % 4 = L.getD i 0 := by
 have h0 := h.le (4 * (i / 4))
 have h1 := h.le (4 * (i / 4) + 1)
 have h2 := h.le (4 * (i / 4) + 2)
 have h3 := h.le (4 * (i / 4) + 3)
 have hd : i = 4 * (i / 4) + i % 4 := by omega
 generalize hq : i / 4 = q at *
 have hr : i % 4 < 4 := Nat.mod_lt _ (by omega)
 generalize i % 4 = r at *
 subst hd
 unfold Z0C
 rcases r with _ | _ | _ | _ | r
 ·simp only [Nat.pow_zero, Nat.div_one, Nat.add_zero]; omega
 ·simp only [Nat.zero_add, Nat.pow_one]; omega
 ·simp only [Nat.zero_add, Nat.reduceAdd, Nat.reducePow]; omega
 ·simp only [Nat.zero_add, Nat.reduceAdd, Nat.reducePow]; omega
 ·omega
theorem Z2I {L : List Nat} {i : Nat} (h : i < L.length) (s : Nat) : (L.set i s).getD i 0 = s := by
 rw [List.getD_eq_getElem?_getD, List.getElem?_set_self h]; rfl
theorem Z04 {L : List Nat} {i j : Nat} (h : i ≠ j) (s : Nat) : (L.set i s).getD j 0 = L.getD j 0 := by
 rw [List.getD_eq_getElem?_getD, List.getD_eq_getElem?_getD, List.getElem?_set_ne h]
theorem Zfx {L : List Nat} (h : Z27 L) {i : Nat} (hi : i < L.length) (s : Nat) :
  Z0C (L.set i s) (i / 4) = Z0C L (i / 4) - 4 ^ (i % 4) * (Z0C L (i / 4) / 4 ^ (i % 4) % 4) + 4 ^ (i % 4) * s := by
 rw [Z9L h]
 have h0 := h.le (4 * (i / 4))
 have h1 := h.le (4 * (i / 4) + 1)
 have h2 := h.le (4 * (i / 4) + 2)
 have h3 := h.le (4 * (i / 4) + 3)
 have hd : i = 4 * (i / 4) + i % 4 := by omega
 generalize hq : i / 4 = q at *
 have hr : i % 4 < 4 := Nat.mod_lt _ (by omega)
 generalize i % 4 = r at *
 unfold Z0C
 rcases r with _ | _ | _ | _ | r
 ·have e : i = 4 * q := by omega
  subst e
  rw [Z2I hi, Z04 (by omega), Z04 (by omega), Z04 (by omega)]
  simp only [Nat.pow_zero, Nat.one_mul]; omega
 ·have e : i = 4 * q + 1 := by omega
  subst e
  rw [Z2I hi, Z04 (by omega), Z04 (by omega), Z04 (by omega)]
  simp only [Nat.zero_add, Nat.pow_one]; omega
 ·have e : i = 4 * q + 2 := by omega
  subst e
  rw [Z2I hi, Z04 (by omega), Z04 (by omega), Z04 (by omega)]
  simp only [Nat.zero_add, Nat.reduceAdd, Nat.reducePow]; omega
 ·have e : i = 4 * q + 3 := by omega
  subst e
  rw [Z2I hi, Z04 (by omega), Z04 (by omega), Z04 (by omega)]
  simp only [Nat.zero_add, Nat.reduceAdd, Nat.reducePow]; omega
 ·omega
theorem Zb8 {L : List Nat} {i j : Nat} (h : i / 4 ≠ j) (s : Nat) : Z0C (L.set i s) j = Z0C L j := by
 unfold Z0C
 rw [Z04 (by omega), Z04 (by omega), Z04 (by omega), Z04 (by omega)]
theorem ZdV {L : List Nat} {i : Nat} (_ : i < L.length) (s : Nat) : Z0N (L.set i s) = (Z0N L).set (i / 4) (Z0C (L.set i s) (i / 4)) := by
 apply List.ext_getElem?
 intro j
 rw [List.getElem?_set]
 rcases Nat.lt_or_ge j ((L.length + 3) / 4) with hj | hj
 ·rw [Z1u _ (by simpa using hj)]
  by_cases e : i / 4 = j
  ·subst e
   rw [if_pos rfl, if_pos (by rw [ZZ]; omega)]
  ·rw [if_neg e, Z1u _ hj, Zb8 e]
 ·rw [List.getElem?_eq_none (by rw [ZZ]; simpa using hj)]
  split
  ·rename_i e
   rw [if_neg (by rw [ZZ]; omega)]
  ·rw [List.getElem?_eq_none (by rw [ZZ]; exact hj)]
def Z6Y (L : List Nat) : List Nat := if L.length % 4 = 0 then Z0N L ++ [0] else Z0N L
theorem Z6d (L : List Nat) : Z0N (L ++ [0]) = Z6Y L := by
 have hg : ∀ k, (L ++ [0]).getD k 0 = L.getD k 0 := by
  intro k
  rw [List.getD_eq_getElem?_getD, List.getD_eq_getElem?_getD, List.getElem?_append]
  split
  ·rfl
  ·rename_i h
   rw [List.getElem?_eq_none (by omega : L.length <= k)]
   rcases hk : k - L.length with _ | n <;> simp
 have hb : ∀ j, Z0C (L ++ [0]) j = Z0C L j := by
  intro j
  unfold Z0C
  rw [hg, hg, hg, hg]
 unfold Z6Y
 apply List.ext_getElem?
 intro j
 by_cases h4 : L.length % 4 = 0
 ·rw [if_pos h4]
  rcases Nat.lt_trichotomy j ((L.length + 3) / 4) with hj | hj | hj
  ·rw [Z1u _ (by simp; omega), List.getElem?_append_left (by rw [ZZ]; exact hj), Z1u _ hj, hb]
  ·rw [Z1u _ (by simp; omega), List.getElem?_append_right (by rw [ZZ]; omega), ZZ, hb]
   have e : j - (L.length + 3) / 4 = 0 := by omega
   rw [e]
   have hz : ∀ k, L.length <= k -> L.getD k 0 = 0 := fun k hk => by rw [List.getD_eq_getElem?_getD, List.getElem?_eq_none hk]; rfl
   unfold Z0C
   rw [hz _ (by omega), hz _ (by omega), hz _ (by omega), hz _ (by omega)]
   rfl
  ·rw [List.getElem?_eq_none (by rw [ZZ]; simp; omega), List.getElem?_eq_none (by rw [List.length_append, ZZ]; simp; omega)]
 ·rw [if_neg h4]
  rcases Nat.lt_or_ge j ((L.length + 3) / 4) with hj | hj
  ·rw [Z1u _ (by simp; omega), Z1u _ hj, hb]
  ·rw [List.getElem?_eq_none (by rw [ZZ]; simp; omega), List.getElem?_eq_none (by rw [ZZ]; omega)]
theorem Zb9 (L : List Nat) (s : Nat) : (L ++ [0]).set L.length s = L ++ [s] := by simp
def stateL (L : List Nat) (x : Nat) : Nat := if 1 <= x then L.getD (x - 1) 0 else 0
theorem Z4f {L : List Nat} {x : Nat} (h : x < 1 ∨ L.length < x) : stateL L x = 0 := by
 unfold stateL
 split
 ·rw [List.getD_eq_getElem?_getD, List.getElem?_eq_none (by omega)]; rfl
 ·rfl
def Z3G (L : List Nat) : List Nat := (List.range L.length).filterMap fun i => if L.getD i 0 = 1 then some (i + 1) else none
def Z5F (L : List Nat) (k : Nat) : List Nat := (List.range k).filterMap fun i => if L.getD i 0 = 1 then some (i + 1) else none
theorem Z9M (L : List Nat) : Z5F L L.length = Z3G L := rfl
theorem ZdW (L : List Nat) (k : Nat) : Z5F L (k + 1) = Z5F L k ++ if L.getD k 0 = 1 then [k + 1] else [] := by
 unfold Z5F
 rw [List.range_succ, List.filterMap_append]
 congr 1
 by_cases h : L.getD k 0 = 1
 ·rw [if_pos h, List.filterMap_cons, if_pos h]; rfl
 ·rw [if_neg h, List.filterMap_cons, if_neg h]; rfl
theorem Z6e (L : List Nat) (k : Nat) : (Z5F L k).length <= k := by
 have := List.length_filterMap_le (fun i => if L.getD i 0 = 1 then some (i + 1) else none) (List.range k)
 simpa [Z5F] using this
theorem Z9N {L : List Nat} {x : Nat} : x ∈ Z3G L ↔ stateL L x = 1 := by
 unfold Z3G stateL
 rw [List.mem_filterMap]
 constructor
 ·rintro ⟨i, hi, h⟩
  split at h
  ·rename_i e
   injection h with h
   subst h
   rw [if_pos (by omega)]
   exact e
  ·cases h
 ·intro h
  split at h
  ·rename_i hx
   refine ⟨x - 1, ?_, ?_⟩
   ·rw [List.mem_range]
    rcases Nat.lt_or_ge (x - 1) L.length with y | y
    ·exact y
    ·rw [List.getD_eq_getElem?_getD, List.getElem?_eq_none y] at h; cases h
   ·rw [if_pos h, show x - 1 + 1 = x by omega]
  ·cases h
structure Zo where
 own : Nat
 xmin : Nat
 xmax : Nat
 run : List Nat
 deriving DecidableEq
def leastR (own : Nat) (n : Nat) (l : List Nat) : Nat := l.foldl (fun m x => if x = own then m else min m x) n
def others (own : Nat) (R : List Nat) : List Nat := R.filter (· ≠ own)
theorem ZdX {own x : Nat} {R : List Nat} : x ∈ others own R ↔ x ∈ R /\ x ≠ own := by unfold others; rw [List.mem_filter]; simp
def ZT (L : List Nat) (own : Nat) : Zo := ⟨own, leastR own (L.length + 1) (Z3G L), L.length + 1, others own (Z3G L)⟩
def Z1O (L : List Nat) (s : Zo) (x : Nat) : Bool := decide (x = s.own) || (decide (x < s.xmax) && !decide (x ∈ s.run) && decide (stateL L x = 2))
def Z1V (L : List Nat) (s : Zo) (xmin xmax : Nat) : Bool := Z1O L s xmin && (decide (xmax = 0) || !Z1O L s xmax)
def freeS (L : List Nat) (s : Zo) (xmin xmax : Nat) : Nat :=
 if xmax ≠ 0 /\ xmax ≠ s.own /\ stateL L xmax ≠ 3 then 11 else if Z1V L s xmin xmax = false then 14 else 0
def Z0v (L : List Nat) (xmin xmax horizon : Nat) : Bool := decide (stateL L xmin = 3) || (decide (xmax ≠ 0) && decide (stateL L xmax = 2) && decide (xmax < horizon))
theorem Zba {L : List Nat} {x : Nat} (h : x ∈ Z3G L) : 1 <= x /\ x <= L.length := by
 rw [Z9N] at h
 refine ⟨?_, ?_⟩
 ·rcases Nat.lt_or_ge x 1 with y | y
  ·rw [Z4f (Or.inl y)] at h; cases h
  ·exact y
 ·rcases Nat.lt_or_ge L.length x with y | y
  ·rw [Z4f (Or.inr y)] at h; cases h
  ·exact y
section
open Go.RowKit
theorem Zh0 (x s r : Nat) (hx : x < 256) (hs : s <= 3) (hr : r < 4) :
  bits .or .u8 (bits .andNot .u8 (x : Int) (3 * 2 ^ (2 * r) % 256)) ((s : Int) * 2 ^ (2 * r) % 256) = ((x - 4 ^ r * (x / 4 ^ r % 4) + 4 ^ r * s : Nat) : Int) := by
 have key : ∀ (x : Fin 256) (s r : Fin 4), bits .or .u8 (bits .andNot .u8 ((x.val : Nat) : Int) (3 * 2 ^ (2 * r.val) % 256)) (((s.val : Nat) : Int) * 2 ^ (2 * r.val) % 256) = ((x.val - 4 ^ r.val * (x.val / 4 ^ r.val % 4) + 4 ^ r.val * s.val : Nat) : Int) := by decide +kernel
 exact key ⟨x, hx⟩ ⟨s, by omega⟩ ⟨r, hr⟩
theorem Zh1 (x r : Nat) (hx : x < 256) (hr : r < 4) : bits .and .u8 ((x : Int) / 2 ^ (2 * r)) 3 = ((x / 4 ^ r % 4 : Nat) : Int) := by
 have key : ∀ (x : Fin 256) (r : Fin 4), bits .and .u8 (((x.val : Nat) : Int) / 2 ^ (2 * r.val)) 3 = ((x.val / 4 ^ r.val % 4 : Nat) : Int) := by decide +kernel
 exact key ⟨x, hx⟩ ⟨r, hr⟩
end
section
open Go.RowKit
def U64 (k : Nat) : Prop := k < 18446744073709551616
def ZB (l : List Nat) : List Value := l.map (fun x : Nat => Value.int .u64 x)
theorem Z4l (l : List Nat) : ∀ u ∈ ZB l, u.oneCell' = true := by
 intro u hu
 obtain ⟨n, _, rfl⟩ := List.mem_map.1 hu
 rfl
theorem ZdY (l : List Nat) (i x : Nat) : (Zg l).set i (.int .u8 (x : Int)) = Zg (l.set i x) := by simp [Zg, List.map_set]
end
def ZM (l : List (Int × Int)) : List Value := l.flatMap (fun p => [.int .i64 p.1, .int .i64 p.2])
theorem Ze1 (p : Int × Int) (l : List (Int × Int)) : ZM (p :: l) = .int .i64 p.1 :: .int .i64 p.2 :: ZM l := rfl
theorem Z4x (l m : List (Int × Int)) : ZM (l ++ m) = ZM l ++ ZM m := by simp [ZM]
theorem Z9P {l : List (Int × Int)} {j : Nat} {p : Int × Int} (h : l[j]? = some p) : (ZM l)[j * 2]? = some (.int .i64 p.1) /\ (ZM l)[j * 2 + 1]? = some (.int .i64 p.2) := by
 induction l generalizing j with
 | nil => simp at h
 | cons q l ih =>
  rcases j with _ | j
  ·simp at h
   subst h
   exact ⟨rfl, rfl⟩
  ·rw [List.getElem?_cons_succ] at h
   obtain ⟨h1, h2⟩ := ih h
   rw [Ze1, show (j + 1) * 2 = j * 2 + 1 + 1 by omega]
   exact ⟨h1, h2⟩
theorem Z4y (l : List (Int × Int)) : ∀ u ∈ ZM l, u.oneCell' = true := by
 intro u hu
 unfold ZM at hu
 rw [List.mem_flatMap] at hu
 obtain ⟨p, _, hp⟩ := hu
 simp at hp
 rcases hp with rfl | rfl <;> rfl
def Zl (pg : Int) (T : List (Option Tup)) (k : Nat) : List (Int × Int) := (List.range k).filterMap (fun s : Nat => if ((T[s]?).join).isSome then some (pg, (s : Int)) else none)
theorem Zaw {pg : Int} {T : List (Option Tup)} {k : Nat} (h : (T[k]?).join = none) : Zl pg T (k + 1) = Zl pg T k := by
 unfold Zl
 rw [List.range_succ, List.filterMap_append]
 simp [h]
theorem Zax {pg : Int} {T : List (Option Tup)} {k : Nat} {t : Tup} (h : (T[k]?).join = some t) : Zl pg T (k + 1) = Zl pg T k ++ [(pg, (k : Int))] := by
 unfold Zl
 rw [List.range_succ, List.filterMap_append]
 simp [h]
theorem Z8j (pg : Int) (T : List (Option Tup)) (k : Nat) : (Zl pg T k).length <= k := by
 unfold Zl
 exact Nat.le_trans (List.length_filterMap_le _ _) (by simp)
theorem Zbd {pg : Int} {T : List (Option Tup)} {k : Nat} {p : Int × Int} (h : p ∈ Zl pg T k) : p.1 = pg /\ ∃ t, ZY T p.2 = some t := by
 unfold Zl at h
 rw [List.mem_filterMap] at h
 obtain ⟨s, _, hs⟩ := h
 split at hs
 ·rename_i h2
  injection hs with hs
  subst hs
  obtain ⟨t, ht⟩ := Option.isSome_iff_exists.1 h2
  exact ⟨rfl, t, by rw [Z1a]; exact ht⟩
 ·cases hs
def takeK (own n : Nat) (R : List Nat) (k : Nat) : Nat × List Nat := (leastR own n (R.take k), others own (R.take k))
theorem Ze4 {own n k x : Nat} {R : List Nat} (h : R[k]? = some x) : takeK own n R (k + 1) = if x = own then takeK own n R k else (min (takeK own n R k).1 x, (takeK own n R k).2 ++ [x]) := by
 unfold takeK leastR others
 rw [List.take_add_one, h]
 by_cases e : x = own
 ·rw [if_pos e]; simp [e]
 ·rw [if_neg e]; simp [e]
theorem ZfE (own n : Nat) (R : List Nat) (k : Nat) : (takeK own n R k).2.length <= k := by
 unfold takeK others
 exact Nat.le_trans (List.length_filter_le _ _) (List.length_take_le _ _)
theorem Zcq (own n : Nat) (R : List Nat) (k : Nat) : (takeK own n R k).1 <= n := by
 unfold takeK leastR
 generalize R.take k = M
 show List.foldl _ n M <= n
 have key : ∀ (M : List Nat) (a : Nat), List.foldl (fun m x => if x = own then m else min m x) a M <= a := by
  intro M
  induction M with
  | nil => intro a; exact Nat.le_refl _
  | cons y M ih =>
   intro a
   rw [List.foldl_cons]
   refine Nat.le_trans (ih _) ?_
   split <;> omega
 exact key M n
theorem ZfF (own n : Nat) (R : List Nat) : takeK own n R R.length = (leastR own n R, others own R) := by
 unfold takeK
 rw [List.take_length]
structure TE where
 id : Nat
 name : ByteArray
 cols : List (ByteArray × Nat)
 xmin : Nat
 xmax : Nat
structure IE where
 id : Nat
 name : ByteArray
 table : Nat
 column : Nat
 xmin : Nat
 xmax : Nat
def ZP (l : List (ByteArray × Nat)) : List Value := l.flatMap (fun c => [.string c.1, .int .u8 (c.2 : Int)])
theorem ZfH (l : List (ByteArray × Nat)) : (ZP l).length = l.length * 2 := by
 induction l with
 | nil => rfl
 | cons p l ih =>
  have : ZP (p :: l) = .string p.1 :: .int .u8 (p.2 : Int) :: ZP l := rfl
  rw [this, List.length_cons, List.length_cons, ih, List.length_cons]; omega
theorem ZfI {l : List (ByteArray × Nat)} {j : Nat} {p : ByteArray × Nat} (h : l[j]? = some p) : (ZP l)[j * 2]? = some (.string p.1) /\ (ZP l)[j * 2 + 1]? = some (.int .u8 (p.2 : Int)) := by
 induction l generalizing j with
 | nil => simp at h
 | cons q l ih =>
  have e : ZP (q :: l) = .string q.1 :: .int .u8 (q.2 : Int) :: ZP l := rfl
  rcases j with _ | j
  ·simp at h
   subst h
   exact ⟨rfl, rfl⟩
  ·rw [List.getElem?_cons_succ] at h
   obtain ⟨h1, h2⟩ := ih h
   rw [e, show (j + 1) * 2 = j * 2 + 1 + 1 by omega]
   exact ⟨h1, h2⟩
theorem Zh7 (l : List (ByteArray × Nat)) : ∀ u ∈ ZP l, u.oneCell' = true := by
 intro u hu
 unfold ZP at hu
 rw [List.mem_flatMap] at hu
 obtain ⟨p, _, hp⟩ := hu
 simp at hp
 rcases hp with rfl | rfl <;> rfl
def Z58 (xmin xmax : Nat) : Tup := ⟨0, xmin, xmax, 0, 0, []⟩
def Z0F : List Nat -> List Nat -> Int
 | [], [] => 0
 | [], _ :: _ => -1
 | _ :: _, [] => 1
 | a :: xs, b :: ys => if a < b then -1 else if b < a then 1 else Z0F xs ys
theorem Z9V : ∀ a b, Z0F b a = - Z0F a b
 | [], [] => rfl
 | [], _ :: _ => rfl
 | _ :: _, [] => rfl
 | a :: xs, b :: ys => by
  have ih := Z9V xs ys
  unfold Z0F
  by_cases x : a < b
  ·rw [if_pos x, if_neg (by omega), if_pos x]; rfl
  ·by_cases y : b < a
   ·rw [if_pos y, if_neg x, if_pos y]
   ·rw [if_neg y, if_neg x, if_neg x, if_neg y, ih]
theorem Z3S : ∀ a b, Z0F a b = 0 ↔ a = b
 | [], [] => by simp [Z0F]
 | [], _ :: _ => by simp [Z0F]
 | _ :: _, [] => by simp [Z0F]
 | a :: xs, b :: ys => by
  have ih := Z3S xs ys
  unfold Z0F
  rw [List.cons.injEq]
  split
  ·constructor
   ·intro h; omega
   ·rintro ⟨h, _⟩; omega
  ·split
   ·constructor
    ·intro h; omega
    ·rintro ⟨h, _⟩; omega
   ·rw [ih]
    constructor
    ·intro h; exact ⟨by omega, h⟩
    ·exact fun h => h.2
theorem ZfK (a : List Nat) : Z0F a a = 0 := (Z3S a a).2 rfl
theorem Z8r : ∀ a b c, Z0F a b < 0 -> Z0F b c < 0 -> Z0F a c < 0
 | [], [], _, h, _ => by simp [Z0F] at h
 | [], _ :: _, [], _, h => by simp [Z0F] at h
 | [], _ :: _, _ :: _, _, _ => by simp [Z0F]
 | _ :: _, [], _, h, _ => by simp [Z0F] at h
 | _ :: _, _ :: _, [], _, h => by simp [Z0F] at h
 | a :: xs, b :: ys, c :: zs, h1, h2 => by
  have ih := Z8r xs ys zs
  unfold Z0F at h1 h2 ⊢
  by_cases x : a < b
  ·by_cases y : b < c
   ·rw [if_pos (by omega)]; omega
   ·rw [if_neg y] at h2
    split at h2
    ·omega
    ·rw [if_pos (by omega)]; omega
  ·rw [if_neg x] at h1
   split at h1
   ·omega
   ·by_cases y : b < c
    ·rw [if_pos (by omega)]; omega
    ·rw [if_neg y] at h2
     split at h2
     ·omega
     ·rw [if_neg (by omega), if_neg (by omega)]
      exact ih h1 h2
theorem Z8s : ∀ (a b : List Nat), (∀ x ∈ a, x < 256) -> (∀ x ∈ b, x < 256) -> Lib.compareBytes (a.map UInt8.ofNat) (b.map UInt8.ofNat) = Z0F a b
 | [], [], _, _ => rfl
 | [], _ :: _, _, _ => rfl
 | _ :: _, [], _, _ => rfl
 | x :: a, y :: b, ha, hb => by
  have ih := Z8s a b (fun z hz => ha z (by simp [hz])) (fun z hz => hb z (by simp [hz]))
  have hx := ha x (by simp)
  have hy := hb y (by simp)
  have key : ∀ u v : Nat, u < 256 -> v < 256 -> (UInt8.ofNat u < UInt8.ofNat v ↔ u < v) := by
   intro u v hu hv
   rw [UInt8.lt_iff_toNat_lt]
   simp [Nat.mod_eq_of_lt hu, Nat.mod_eq_of_lt hv]
  simp only [List.map_cons]
  unfold Lib.compareBytes Z0F
  rw [ih]
  simp only [key x y hx hy, key y x hy hx]
def Z1v (x y : Int) : Int := if x < y then -1 else if y < x then 1 else 0
structure Ent where
 key : List Nat
 pg : Int
 sl : Int
theorem Ent.ext' {a b : Ent} (h1 : a.key = b.key) (h2 : a.pg = b.pg) (h3 : a.sl = b.sl) : a = b := by
 obtain ⟨_, _, _⟩ := a
 obtain ⟨_, _, _⟩ := b
 simp_all
instance : DecidableEq Ent := fun a b =>
 if h1 : a.key = b.key then
  if h2 : a.pg = b.pg then
   if h3 : a.sl = b.sl then isTrue (Ent.ext' h1 h2 h3) else isFalse (fun e => h3 (by rw [e]))
  else isFalse (fun e => h2 (by rw [e]))
 else isFalse (fun e => h1 (by rw [e]))
def cmpE (a b : Ent) : Int := if Z0F a.key b.key ≠ 0 then Z0F a.key b.key else if Z1v a.pg b.pg ≠ 0 then Z1v a.pg b.pg else Z1v a.sl b.sl
theorem Z4U (a b : Ent) : cmpE a b = 0 ↔ a = b := by
 unfold cmpE
 by_cases h1 : Z0F a.key b.key = 0
 ·rw [if_neg (by simp [h1])]
  by_cases h2 : Z1v a.pg b.pg = 0
  ·rw [if_neg (by simp [h2])]
   constructor
   ·intro h3
    refine Ent.ext' ((Z3S _ _).1 h1) ?_ ?_
    ·unfold Z1v at h2; split at h2; omega; split at h2 <;> omega
    ·unfold Z1v at h3; split at h3; omega; split at h3 <;> omega
   ·rintro rfl; simp [Z1v]
  ·rw [if_pos h2]
   constructor
   ·exact fun h => absurd h h2
   ·rintro rfl; simp [Z1v]
 ·rw [if_pos h1]
  constructor
  ·exact fun h => absurd h h1
  ·rintro rfl; exact ZfK _
theorem Z36 (a : Ent) : cmpE a a = 0 := (Z4U a a).2 rfl
theorem Z9W (x y : Int) : Z1v y x = - Z1v x y := by
 unfold Z1v
 split <;> split <;> first | omega | (split <;> omega)
theorem Z9X (a b : Ent) : cmpE b a = - cmpE a b := by
 unfold cmpE
 have k1 := Z9V a.key b.key
 have k2 := Z9W a.pg b.pg
 have k3 := Z9W a.sl b.sl
 by_cases h1 : Z0F a.key b.key = 0
 ·rw [if_neg (show ¬ Z0F b.key a.key ≠ 0 by omega), if_neg (show ¬ Z0F a.key b.key ≠ 0 by omega)]
  by_cases h2 : Z1v a.pg b.pg = 0
  ·rw [if_neg (show ¬ Z1v b.pg a.pg ≠ 0 by omega), if_neg (show ¬ Z1v a.pg b.pg ≠ 0 by omega)]
   exact k3
  ·rw [if_pos (show Z1v b.pg a.pg ≠ 0 by omega), if_pos h2]
   exact k2
 ·rw [if_pos (show Z0F b.key a.key ≠ 0 by omega), if_pos h1]
  exact k1
theorem Zd8 {x y : Int} : Z1v x y < 0 ↔ x < y := by
 unfold Z1v
 split
 ·constructor <;> intro <;> omega
 ·split <;> constructor <;> intro <;> omega
theorem Z9Y {x y : Int} : Z1v x y = 0 ↔ x = y := by
 unfold Z1v
 split
 ·constructor <;> intro <;> omega
 ·split <;> constructor <;> intro <;> omega
theorem Zik (a b : Ent) : cmpE a b < 0 ↔ Z0F a.key b.key < 0 ∨ (a.key = b.key /\ (a.pg < b.pg ∨ (a.pg = b.pg /\ a.sl < b.sl))) := by
 unfold cmpE
 by_cases h1 : Z0F a.key b.key = 0
 ·rw [if_neg (by simp [h1]), h1]
  have e := (Z3S _ _).1 h1
  by_cases h2 : Z1v a.pg b.pg = 0
  ·rw [if_neg (by simp [h2]), Zd8]
   have e2 := Z9Y.1 h2
   simp [e, e2]
  ·rw [if_pos h2, Zd8]
   have e2 : ¬ a.pg = b.pg := fun h => h2 (Z9Y.2 h)
   simp [e, e2]
 ·rw [if_pos h1]
  have e : ¬ a.key = b.key := fun h => h1 ((Z3S _ _).2 h)
  simp [e]
theorem Z1P {a b c : Ent} (h1 : cmpE a b < 0) (h2 : cmpE b c < 0) : cmpE a c < 0 := by
 rw [Zik] at *
 rcases h1 with h1 | ⟨e1, h1⟩
 ·rcases h2 with h2 | ⟨e2, h2⟩
  ·exact Or.inl (Z8r _ _ _ h1 h2)
  ·rw [<- e2]; exact Or.inl h1
 ·rcases h2 with h2 | ⟨e2, h2⟩
  ·rw [e1]; exact Or.inl h2
  ·exact Or.inr ⟨e1.trans e2, by omega⟩
def ZK (l : List Ent) : Prop := l.Pairwise (fun a b => cmpE a b < 0)
def ZH (e : Ent) : List Ent -> Nat
 | [] => 0
 | x :: l => if cmpE x e < 0 then ZH e l + 1 else 0
def insE (e : Ent) : List Ent -> List Ent
 | [] => [e]
 | x :: l => if cmpE x e < 0 then x :: insE e l else e :: x :: l
theorem Z3T (e x : Ent) (l : List Ent) : ZH e (x :: l) = if cmpE x e < 0 then ZH e l + 1 else 0 := rfl
theorem Z4m (e : Ent) (l : List Ent) : ZH e l <= l.length := by
 induction l with
 | nil => exact Nat.le_refl _
 | cons x l ih =>
  unfold ZH
  split
  ·simp; omega
  ·exact Nat.zero_le _
theorem Z9Z {e : Ent} : ∀ {l : List Ent} {i : Nat}, i <= l.length -> (∀ j x, j < i -> l[j]? = some x -> cmpE x e < 0) -> (∀ x, l[i]? = some x -> ¬ cmpE x e < 0) -> i = ZH e l
 | [], i, h, _, _ => by simp at h; subst h; rfl
 | x :: l, 0, _, _, h2 => by
  unfold ZH
  rw [if_neg (h2 x rfl)]
 | x :: l, i + 1, h0, h1, h2 => by
  unfold ZH
  rw [if_pos (h1 0 x (by omega) rfl)]
  have := Z9Z (e := e) (l := l) (i := i) (by simpa using h0) (fun j y hj hy => h1 (j + 1) y (by omega) (by simpa using hy)) (fun y hy => h2 y (by simpa using hy))
  omega
theorem Z3H {e : Ent} : ∀ {l : List Ent} {j : Nat} {x : Ent}, j < ZH e l -> l[j]? = some x -> cmpE x e < 0
 | [], _, _, h, _ => by simp [ZH] at h
 | y :: l, j, x, h, hx => by
  rw [Z3T] at h
  by_cases hy : cmpE y e < 0
  ·rw [if_pos hy] at h
   rcases j with _ | j
   ·simp at hx; subst hx; exact hy
   ·exact Z3H (l := l) (j := j) (by omega) (by simpa using hx)
  ·rw [if_neg hy] at h; omega
theorem Z9a {e : Ent} : ∀ {l : List Ent} {x : Ent}, l[ZH e l]? = some x -> ¬ cmpE x e < 0
 | [], _, h => by simp at h
 | y :: l, x, h => by
  unfold ZH at h
  split at h
  ·exact Z9a (l := l) (by simpa using h)
  ·simp at h; subst h; assumption
theorem Z70 (e : Ent) (l : List Ent) : insE e l = l.take (ZH e l) ++ e :: l.drop (ZH e l) := by
 induction l with
 | nil => rfl
 | cons x l ih =>
  unfold insE ZH
  split
  ·rw [ih]; rfl
  ·rfl
theorem ZK.nil : ZK [] := List.Pairwise.nil
theorem ZK.get {l : List Ent} (h : ZK l) {i j : Nat} {x y : Ent} (hij : i < j) (hi : l[i]? = some x) (hj : l[j]? = some y) : cmpE x y < 0 := by
 obtain ⟨h1, rfl⟩ := zi.1 hi
 obtain ⟨h2, rfl⟩ := zi.1 hj
 exact List.pairwise_iff_getElem.1 h i j h1 h2 hij
theorem Z7h {e : Ent} {l : List Ent} (h : ZK l) (hn : e ∉ l) {j : Nat} {x : Ent} (hj : ZH e l <= j) (hx : l[j]? = some x) : cmpE e x < 0 := by
 have hjl := (zi.1 hx).1
 obtain ⟨y, hy⟩ : ∃ y, l[ZH e l]? = some y := ⟨_, zg (by omega)⟩
 have h1 := Z9a hy
 have h2 : cmpE y e ≠ 0 := fun z => hn ((Z4U _ _).1 z ▸ List.mem_of_getElem? hy)
 have h3 : cmpE e y < 0 := by rw [Z9X y e]; omega
 rcases Nat.lt_or_ge (ZH e l) j with z | z
 ·exact Z1P h3 (h.get z hy hx)
 ·have : ZH e l = j := by omega
  subst this
  rw [hy] at hx
  injection hx with hx
  subst hx
  exact h3
theorem Z7H {e : Ent} {l : List Ent} (h : ZK l) : e ∈ l ↔ l[ZH e l]? = some e := by
 constructor
 ·intro hm
  obtain ⟨j, hj⟩ := List.mem_iff_getElem?.1 hm
  have hjl := (zi.1 hj).1
  have h1 : ¬ j < ZH e l := fun z => by have := Z3H z hj; rw [Z36] at this; omega
  rcases Nat.lt_or_ge (ZH e l) j with z | z
  ·obtain ⟨y, hy⟩ : ∃ y, l[ZH e l]? = some y := ⟨_, zg (by omega)⟩
   exact absurd (h.get z hy hj) (Z9a hy)
  ·have : ZH e l = j := by omega
   rw [this]; exact hj
 ·exact List.mem_of_getElem?
theorem Zhg {e x : Ent} {l : List Ent} : x ∈ insE e l ↔ x = e ∨ x ∈ l := by
 rw [Z70, List.mem_append, List.mem_cons]
 constructor
 ·rintro (h | h | h)
  ·exact Or.inr (List.mem_of_mem_take h)
  ·exact Or.inl h
  ·exact Or.inr (List.mem_of_mem_drop h)
 ·rintro (h | h)
  ·exact Or.inr (Or.inl h)
  ·rw [<- List.take_append_drop (ZH e l) l, List.mem_append] at h
   rcases h with h | h
   ·exact Or.inl h
   ·exact Or.inr (Or.inr h)
theorem Z7i (e : Ent) (l : List Ent) : (insE e l).length = l.length + 1 := by
 have := Z4m e l
 rw [Z70]
 simp
 omega
theorem ZK.ins {e : Ent} {l : List Ent} (h : ZK l) (hn : e ∉ l) : ZK (insE e l) := by
 rw [Z70]
 unfold ZK
 rw [List.pairwise_append, List.pairwise_cons]
 have ht : ∀ a ∈ l.take (ZH e l), cmpE a e < 0 := by
  intro a ha
  obtain ⟨i, hi⟩ := List.mem_iff_getElem?.1 ha
  rw [List.getElem?_take] at hi
  split at hi
  ·exact Z3H (by assumption) hi
  ·cases hi
 have hd : ∀ a ∈ l.drop (ZH e l), cmpE e a < 0 := by
  intro a ha
  obtain ⟨i, hi⟩ := List.mem_iff_getElem?.1 ha
  rw [List.getElem?_drop] at hi
  exact Z7h h hn (by omega) hi
 refine ⟨h.sublist (List.take_sublist _ _), ⟨hd, h.sublist (List.drop_sublist _ _)⟩, fun a ha b hb => ?_⟩
 rcases List.mem_cons.1 hb with rfl | hb
 ·exact ht a ha
 ·exact Z1P (ht a ha) (hd b hb)
section
open Go.RowKit
theorem Zay {P : Program} (w : World) (dT sT ty elem : TypeId) (k g o dLen dCap : Nat) (a : Addr) (sLen sCap : Nat) (cur : Array Value) (t : TypeId) (cs : List Value)
  (hu : P.underlying dT = some (.slice elem)) (hs : (P.info? elem).map (·.size) = some k)
  (hg : w.heap[g]? = some (.cells cur t (0, 0))) (hn : cs.length = Nat.min sLen dLen * k)
  (hsrc : ∀ j v, cs[j]? = some v -> w.cell? (a.add j) = some v) (hfit : o + cs.length <= cur.size) (h1 : ∀ v ∈ cs, v.oneCell' = true) :
  (Builtin.copy_ #[dT, sT] ty #[.slice (some ⟨g, o, none⟩) dLen dCap, .slice (some a) sLen sCap]).run P w =
   .ok (goInt (Nat.min sLen dLen)) (w.setRow g (cur.toList.take o ++ cs ++ cur.toList.drop (o + cs.length)).toArray) := by
 have hl := run_loadCells_list (P := P) w a cs hsrc
 have hst := run_storeCells_at P g o t cs 0 cur w hg (by simpa using hfit) h1
 cases hq : P.info? elem with
 | none => simp [hq] at hs
 | some i =>
  have hi : i.size = k := by simpa [hq] using hs
  simp [Builtin.copy_, run_underlying hu, Builtin.lenOf, Builtin.firstCells, sizeOf, typeInfo, hq, hi, <- hn, hl, hst]
theorem Z0.setRow {S : Nat -> Prop} {a w : World} (h : Z0 S a w) (g : Nat) (cs : Array Value) (hg : g < a.heap.size -> S g) : Z0 S a (w.setRow g cs) :=
 h.trans' (T := (· = g)) ⟨rfl, rfl, rfl, by simp [World.setRow], fun k _ hn => setRow_other w g k cs hn⟩ (fun k hk e => by subst e; exact hg hk)
structure EV where
 e : Ent
 A : Option Addr
 c : Nat
def EV.cells (x : EV) : List Value := [.slice x.A x.e.key.length x.c, .int .i64 x.e.pg, .int .i64 x.e.sl]
def ZU (xs : List EV) : List Value := xs.flatMap EV.cells
theorem Z2u (x : EV) (xs : List EV) : ZU (x :: xs) = .slice x.A x.e.key.length x.c :: .int .i64 x.e.pg :: .int .i64 x.e.sl :: ZU xs := rfl
theorem Z1W (xs ys : List EV) : ZU (xs ++ ys) = ZU xs ++ ZU ys := by simp [ZU]
theorem Z4C (x : EV) : ZU [x] = x.cells := by simp [ZU]
theorem Z5a (xs : List EV) : (ZU xs).length = xs.length * 3 := by
 induction xs with
 | nil => rfl
 | cons x xs ih => rw [Z2u]; simp only [List.length_cons, ih]; omega
theorem Zbm {xs : List EV} {j : Nat} {x : EV} (h : xs[j]? = some x) : (ZU xs)[j * 3]? = some (.slice x.A x.e.key.length x.c) /\ (ZU xs)[j * 3 + 1]? = some (.int .i64 x.e.pg) /\ (ZU xs)[j * 3 + 2]? = some (.int .i64 x.e.sl) := by
 induction xs generalizing j with
 | nil => simp at h
 | cons y xs ih =>
  rcases j with _ | j
  ·simp at h
   subst h
   exact ⟨rfl, rfl, rfl⟩
  ·rw [List.getElem?_cons_succ] at h
   rw [Z2u, show (j + 1) * 3 = j * 3 + 1 + 1 + 1 by omega]
   exact ih h
theorem Z3U (xs : List EV) (k : Nat) : ZU (xs.take k) = (ZU xs).take (k * 3) := by
 induction xs generalizing k with
 | nil => simp [ZU]
 | cons x xs ih =>
  rcases k with _ | k
  ·rfl
  ·rw [List.take_succ_cons, Z2u, Z2u, ih, show (k + 1) * 3 = k * 3 + 1 + 1 + 1 by omega]; rfl
theorem Z3V (xs : List EV) (k : Nat) : ZU (xs.drop k) = (ZU xs).drop (k * 3) := by
 induction xs generalizing k with
 | nil => simp [ZU]
 | cons x xs ih =>
  rcases k with _ | k
  ·rfl
  ·rw [List.drop_succ_cons, Z2u, ih, show (k + 1) * 3 = k * 3 + 1 + 1 + 1 by omega]; rfl
theorem Zhi (xs : List EV) (j : Nat) (x : EV) : (((ZU xs).set (j * 3) (.slice x.A x.e.key.length x.c)).set (j * 3 + 1) (.int .i64 x.e.pg)).set (j * 3 + 2) (.int .i64 x.e.sl) = ZU (xs.set j x) := by
 induction xs generalizing j with
 | nil => rfl
 | cons y xs ih =>
  rcases j with _ | j
  ·rfl
  ·rw [Z2u, show (j + 1) * 3 = j * 3 + 1 + 1 + 1 by omega]
   simp only [show j * 3 + 1 + 1 + 1 + 1 = (j * 3 + 1) + 1 + 1 + 1 by omega, show j * 3 + 1 + 1 + 1 + 2 = (j * 3 + 2) + 1 + 1 + 1 by omega, List.set_cons_succ]
   rw [ih, Z2u]
theorem Z1M (xs : List EV) : ∀ u ∈ ZU xs, u.oneCell' = true := by
 intro u hu
 unfold ZU at hu
 rw [List.mem_flatMap] at hu
 obtain ⟨x, _, hx⟩ := hu
 simp [EV.cells] at hx
 rcases hx with rfl | rfl | rfl <;> rfl
theorem Rd.drop {w : World} {S : Nat -> Prop} {size n b off k : Nat} {xs : List Value} (h : Rd w S size (some ⟨b, off, none⟩) n xs) (hk : k <= n) : Rd w S size (some ⟨b, off + k * size, none⟩) (n - k) (xs.drop (k * size)) := by
 have hl := h.len
 refine ⟨by rw [List.length_drop, hl, Nat.sub_mul], fun h0 => ?_⟩
 rw [List.length_drop] at h0
 obtain ⟨b', off', e, hb, hc⟩ := h.cells (by omega)
 injection e with e
 injection e with e1 e2 _
 subst e1 e2
 exact ⟨b, off + k * size, rfl, hb, fun j u hu => by
   rw [List.getElem?_drop] at hu
   rw [Nat.add_assoc]
   exact hc _ u hu⟩
theorem Rd.takeK {w : World} {S : Nat -> Prop} {size n k : Nat} {A : Option Addr} {xs : List Value} (h : Rd w S size A n xs) (hk : k <= n) : Rd w S size A k (xs.take (k * size)) := by
 have hl := h.len
 have hm : k * size <= n * size := Nat.mul_le_mul_right _ hk
 refine ⟨by rw [List.length_take, hl]; omega, fun h0 => ?_⟩
 rw [List.length_take] at h0
 obtain ⟨b, off, e, hb, hc⟩ := h.cells (by omega)
 exact ⟨b, off, e, hb, fun j u hu => hc j u (by rw [List.getElem?_take] at hu; split at hu <;> first | exact hu | cases hu)⟩
end
section
open Go.RowKit
section
variable {P : Program} {w : World} {ops : Array Oper} {rest : List Oper} {o : Oper} {a : Act} {K : Act -> World -> Prop} {Q : Exit -> Act -> World -> Prop}
def laid (cur : Array Value) (at_ : Nat) (cs : List Value) : Array Value := (cur.toList.take at_ ++ cs ++ cur.toList.drop (at_ + cs.length)).toArray
theorem Z0d {cur : Array Value} {at_ : Nat} {cs : List Value} (h : at_ + cs.length <= cur.size) : (laid cur at_ cs).size = cur.size := by
 unfold laid
 simp
 omega
theorem Z3X (cur : Array Value) (at_ : Nat) (cs : List Value) : (laid cur at_ cs).toList = cur.toList.take at_ ++ cs ++ cur.toList.drop (at_ + cs.length) := by simp [laid]
theorem Z1C (w : World) (dT sT elem : TypeId) {k g at_ dLen dCap sLen sCap : Nat} {src : Addr} {cur : Array Value} {t : TypeId} {cs : List Value} {m : Nat}
  (hu : P.underlying dT = some (.slice elem)) (hk : (P.info? elem).map (·.size) = some k) (hm : Nat.min sLen dLen = m)
  (hg : w.heap[g]? = some (.cells cur t (0, 0))) (hn : cs.length = m * k) (hsrc : ∀ j v, cs[j]? = some v -> w.cell? (src.add j) = some v) (hfit : at_ + cs.length <= cur.size) (h1 : ∀ v ∈ cs, v.oneCell' = true) :
  ∃ w', (∀ ty, (Builtin.copy_ #[dT, sT] ty #[.slice (some ⟨g, at_, none⟩) dLen dCap, .slice (some src) sLen sCap]).run P w = .ok (.int .i64 (m : Int)) w') /\ w'.heap[g]? = some (.cells (laid cur at_ cs) t (0, 0)) /\ Z0 (· = g) w w' := by
 subst hm
 exact ⟨_, fun ty => Zay (P := P) w dT sT ty elem k g at_ dLen dCap src sLen sCap cur t cs hu hk hg hn hsrc hfit h1, setRow_heap w g cur _ t (0, 0) hg, (Z0.refl _ _).setRow g _ (fun _ => rfl)⟩
theorem ZfM {t tn e : TypeId} {size bytes : Nat} (E : Z05 P t e size bytes) (htn : P.underlying tn = some (.int .i64)) (hgd : o.guard = none) (s x : Operand) (ho : o.op = .call { callee := .builtin .append, args := #[s, x], argTypes := #[t, tn] })
  {g off i cap m : Nat} {z : Int} {olds : List Value} (hs : a.eval s = .slice (some ⟨g, off, none⟩) i cap) (hx : a.eval x = .int .i64 z) (hz : z = (m : Int)) (hm : 0 < m) (hcap : cap < i + m) (hl : olds.length = i * size) (hold : ∀ j v, olds[j]? = some v -> w.cell? ⟨g, off + j, none⟩ = some v)
  (hbig : (i + m) * bytes <= 140737488355328) (h63 : i + m <= 1000000)
  (h : ∀ w' G ROW, i + m <= G -> G <= maxLen -> w'.heap[w.heap.size]? = some (.cells ROW e (0, 0)) -> ROW.size = G * size -> ROW.toList.take (i * size) = olds -> Z0 (fun _ => False) w w' -> wpList P ops Q rest (a.put o.dst (.slice (some ⟨w.heap.size, 0, none⟩) (i + m) G)) w') : wpList P ops Q (o :: rest) a w := by
 obtain ⟨inf, zv, ht, hi, h0, h1', h2, hzc, hsz⟩ := E
 subst hz
 have hfc : (Builtin.firstCells inf.size i (.slice (some ⟨g, off, none⟩) i cap)).run P w.drew = .ok olds.toArray w.drew := by
  have := run_loadCells_list (P := P) w.drew ⟨g, off, none⟩ olds (fun j v hj => by rw [Zq]; exact hold j v hj)
  rw [hl] at this
  unfold Builtin.firstCells
  rw [h1']
  exact this
 have hbb : m * inf.bytes <= 281474976710656 := by
  rw [h2]
  have : m * bytes <= (i + m) * bytes := Nat.mul_le_mul_right _ (by omega)
  omega
 have hrun := Lib.run_append_grow_zeros (P := P) w t tn o.type e inf zv .i64 .i64 ht htn hi h0 (some ⟨g, off, none⟩) i cap olds hfc m hm (by omega) hcap (by omega) hbb (by rw [h2]; exact growslice_fits hcap hbig)
 refine Lib.wpList_append_run w hgd s x t tn ho _ _ hs hx _ _ hrun ?_
 have hG := grownCap_ge w (i + m) cap e
 refine h _ (grownCap w (i + m) cap e) (olds.toArray ++ Builtin.zeroCells zv.cells m ++ Builtin.zeroCells zv.cells (grownCap w (i + m) cap e - (i + m))) hG (grownCap_le_maxLen w (i + m) cap e (by unfold maxLen; omega)) (Z5 w.drew _) ?_ ?_ ((Z0.refl _ w).drew.alloc _)
 ·simp only [Array.size_append, List.size_toArray, size_zeroCells, hzc, hl]
  rw [<- Nat.add_mul, <- Nat.add_mul]
  congr 1
  omega
 ·simp only [Array.toList_append, List.append_assoc]
  rw [<- hl]
  simp
end
theorem Zbo {cur : Array Value} {xs news : List Value} {i n size : Nat} (hx : xs.length = n * size) (hn : news.length = size) (hi : i <= n) (hc : cur.toList.take (i * size) = xs.take (i * size)) (hs : (n + 1) * size <= cur.size) :
  (laid (laid cur (i * size) news) ((i + 1) * size) (xs.drop (i * size))).toList.take ((n + 1) * size) = xs.take (i * size) ++ news ++ xs.drop (i * size) := by
 have him : i * size <= n * size := Nat.mul_le_mul_right _ hi
 have e1 : (n + 1) * size = n * size + size := by rw [Nat.add_mul]; omega
 have e2 : (i + 1) * size = i * size + size := by rw [Nat.add_mul]; omega
 have hlc : cur.toList.length = cur.size := by simp
 rw [Z3X, Z3X, hc]
 have htl : (xs.take (i * size)).length = i * size := by rw [List.length_take]; omega
 have h1 : (xs.take (i * size) ++ news ++ cur.toList.drop (i * size + news.length)).take ((i + 1) * size) = xs.take (i * size) ++ news := by
  rw [List.take_append_of_le_length (by rw [List.length_append, htl]; omega), List.take_of_length_le (by rw [List.length_append, htl]; omega)]
 rw [h1]
 rw [List.take_append_of_le_length (by rw [List.length_append, List.length_append, htl, List.length_drop]; omega), List.take_of_length_le (by rw [List.length_append, List.length_append, htl, List.length_drop]; omega)]
theorem Za0 {cur : Array Value} {xs news : List Value} {i n size : Nat} (hx : xs.length = n * size) (hn : news.length = size) (hi : i <= n) (hc : cur.toList.take (n * size) = xs) (hs : (n + 1) * size <= cur.size) :
  (laid (laid cur ((i + 1) * size) (xs.drop (i * size))) (i * size) news).toList.take ((n + 1) * size) = xs.take (i * size) ++ news ++ xs.drop (i * size) := by
 have him : i * size <= n * size := Nat.mul_le_mul_right _ hi
 have e1 : (n + 1) * size = n * size + size := by rw [Nat.add_mul]; omega
 have e2 : (i + 1) * size = i * size + size := by rw [Nat.add_mul]; omega
 have hlc : cur.toList.length = cur.size := by simp
 rw [Z3X, Z3X]
 have ht : (cur.toList.take ((i + 1) * size)).length = (i + 1) * size := by rw [List.length_take]; omega
 have hd : (xs.drop (i * size)).length = n * size - i * size := by rw [List.length_drop, hx]
 have h1 : (cur.toList.take ((i + 1) * size) ++ xs.drop (i * size) ++ cur.toList.drop ((i + 1) * size + (xs.drop (i * size)).length)).take (i * size) = xs.take (i * size) := by
  rw [List.append_assoc, List.take_append_of_le_length (by rw [ht]; omega), List.take_take, Nat.min_eq_left (by omega), <- hc, List.take_take, Nat.min_eq_left him]
 have h2 : (cur.toList.take ((i + 1) * size) ++ xs.drop (i * size) ++ cur.toList.drop ((i + 1) * size + (xs.drop (i * size)).length)).drop (i * size + news.length) = xs.drop (i * size) ++ cur.toList.drop ((i + 1) * size + (xs.drop (i * size)).length) := by
  rw [List.append_assoc, List.drop_append_of_le_length (by rw [ht]; omega), List.drop_of_length_le (by rw [ht]; omega)]
  rfl
 rw [h1, h2, <- List.append_assoc]
 have htl : (xs.take (i * size)).length = i * size := by rw [List.length_take]; omega
 rw [List.take_append_of_le_length (by rw [List.length_append, List.length_append, htl, hd]; omega), List.take_of_length_le (by rw [List.length_append, List.length_append, htl, hd]; omega)]
theorem ZfN {cur : Array Value} {xs news : List Value} {i n : Nat} (hx : xs.length = n) (hn : news.length = 1) (hi : i <= n) (hc : cur.toList.take i = xs.take i) (hs : n + 1 <= cur.size) :
  (laid (laid cur i news) (i + 1) (xs.drop i)).toList.take ((n + 1) * 1) = xs.take i ++ news ++ xs.drop i := by
 have := Zbo (size := 1) (cur := cur) (xs := xs) (news := news) (i := i) (n := n) (by omega) hn hi (by simpa using hc) (by omega)
 simpa using this
theorem Zeg {cur : Array Value} {xs news : List Value} {i n : Nat} (hx : xs.length = n) (hn : news.length = 1) (hi : i <= n) (hc : cur.toList.take n = xs) (hs : n + 1 <= cur.size) :
  (laid (laid cur (i + 1) (xs.drop i)) i news).toList.take ((n + 1) * 1) = xs.take i ++ news ++ xs.drop i := by
 have := Za0 (size := 1) (cur := cur) (xs := xs) (news := news) (i := i) (n := n) (by omega) hn hi (by simpa using hc) (by omega)
 simpa using this
end
end Go.Lap
namespace Go.Proofs.YtnidjfjkodingaaGreatDoor
open Go.RowKit Go.Lap
section
variable {w : World} {hb pb : Nat} {F : Nat -> Prop} {H : List (List (Option Tup))}
theorem Zp.lim2 {n q : Nat} (h : Zp w hb pb F H) (hq : ZI w q n) : Zp w hb pb (fun k => F k /\ k < w.heap.size /\ k ≠ q) H := by
 obtain ⟨v, ps, rb, h⟩ := h
 exact ⟨v, ps, rb, h.lim2 hq⟩
theorem Zcl (left : Nat) (t : Tup) (A : Option Addr) (cap : Nat) (S : Nat -> Prop) (h : Zp w hb pb F H) (hpo : ZI w pb left) (hle : H.length + left <= 256)
  (hby : ∀ x ∈ t.data, x < 256) (hd : Rd w S 1 A t.data.length (Zg t.data)) (hS : ∀ k, S k -> ¬ F k /\ k ≠ pb) :
  Calls Tryz.prog 88 #[.pointer (some ⟨hb, 0, none⟩), Zt t A cap] w fun e w' => e = .returned (.tuple #[.agg #[.int .i64 (Z12 H left t).1.1, .int .i64 (Z12 H left t).1.2.1], .int .i64 (Z12 H left t).1.2.2]) /\ Z0 (fun k => F k ∨ k = pb) w w' /\ ZI w' pb (Z12 H left t).2.2 /\ Zp w' hb pb (fun k => F k ∨ w.heap.size <= k) (Z12 H left t).2.1 := by
 rcases ht : t.rightB with _ | _
 ·have e : Z12 H left t = ((0, 0, 3), H, left) := by unfold Z12; rw [if_pos ht]
  rw [e]
  refine (Z7D hb t A cap S w ht hby hd).mono ?_
  rintro e w' ⟨rfl, hq⟩
  exact ⟨rfl, hq.mono (fun _ _ x => x.elim), hpo.kept hq (fun x => x), (h.kept hq (fun _ _ x => x)).mono (fun _ x => Or.inl x)⟩
 ·rcases hf : Z1c H t.data.length with _ | i
  ·rcases left with _ | left
   ·have e : Z12 H 0 t = ((0, 0, 12), H, 0) := by unfold Z12; rw [if_neg (by simp [ht]), hf]; rfl
    rw [e]
    refine (Z7E hb pb F H t A cap S w h hpo ht hf hby hd).mono ?_
    rintro e w' ⟨rfl, hq⟩
    exact ⟨rfl, hq.mono (fun _ _ x => x.elim), hpo.kept hq (fun x => x), (h.kept hq (fun _ _ x => x)).mono (fun _ x => Or.inl x)⟩
   ·have e : Z12 H (left + 1) t = (((H.length : Int), 0, 0), H ++ [[some t]], left) := by unfold Z12; rw [if_neg (by simp [ht]), hf]; rfl
    rw [e]
    exact Z7F hb pb left F H t A cap S w h hpo ht hf hle hby hd hS
  ·obtain ⟨T, hT, _⟩ := Z4e hf
   have e : Z12 H left t = (((i : Int), (freeT T : Int), 0), H.set i (Z1h T t), left) := by
    unfold Z12
    rw [if_neg (by simp [ht]), hf]
    show (((i : Int), (freeT (H.getD i []) : Int), (0 : Int)), H.set i (Z1h (H.getD i []) t), left) = _
    rw [Z6W hT]
   rw [e]
   refine (Z77 hb pb _ H T i t A cap S w (h.lim2 hpo) ht hf hT hby hd).mono ?_
   rintro e w' ⟨rfl, ho, hh⟩
   exact ⟨rfl, ho.mono (fun _ _ x => Or.inl x.1), hpo.kept ho (fun x => x.2.2 rfl), hh.mono (fun _ x => Or.inl x.1)⟩
theorem Z3O {S : Nat -> Prop} {W W' : World} {b : Nat} {pg sl : Int} (h : W.heap[b]? = some (.cells #[.int .i64 pg, .int .i64 sl] 48 (0, 0))) (ho : Z0 S W W') (hn : ¬ S b) : W'.cell? ⟨b, 0, none⟩ = some (.int .i64 pg) /\ W'.cell? ⟨b, 1, none⟩ = some (.int .i64 sl) := by
 have := ho.get h hn
 exact ⟨by rw [Z1 this]; rfl, by rw [Z1 this]; rfl⟩
theorem Zat (hp : Option Addr) (pg sl : Int) (w : World) (hpg : ∀ W : World, Quiet w W -> Calls Tryz.prog 77 #[.pointer hp, .int .i64 pg] W fun e w' => e = .returned (.pointer none) /\ W = w') :
  Calls Tryz.prog 140 #[.pointer hp, .agg #[.int .i64 pg, .int .i64 sl]] w fun e w' => e = .returned (.int .i64 15) /\ Quiet w w' := by
 have HPG := zh hpg
 have HT := zh (Z5 w (.cells #[.int .i64 pg, .int .i64 sl] 48))
 have HQ : Hid (Quiet w (w.alloc (.cells #[.int .i64 pg, .int .i64 sl] 48))) := (Z0.refl _ _).alloc _
 clear hpg
 go_enter Tryz.func140, Tryz.ntmps140
 go_wp2_with fail
 go_region_held3 (fun w' => w'.cell? ⟨w.heap.size, 0, none⟩ = some (.int .i64 pg) /\ w'.cell? ⟨w.heap.size, 1, none⟩ = some (.int .i64 sl))
  (first | go_keep | exact Z3O (by exact HT.out) ho3 (fun x => x) | fail)
  (first
    | (go_at_call 77; go_must (refine (HPG.out _ (HQ.out.drew)).mono ?_; rintro e w2 ⟨rfl, rfl⟩))
    | (go_at_call 179; go_must (refine (Zap sl _).mono ?_; rintro e w3 ⟨rfl, ho3⟩))
    | fail)
 go_wp2
 go_ret
 exact ⟨rfl, (HQ.out.drew).trans ho3⟩
theorem Z96 (k : Nat) (sl : Int) (T : List (Option Tup)) (h : Zp w hb pb F H) (hT : H[k]? = some T) (hs : ZY T sl = none) :
  Calls Tryz.prog 140 #[.pointer (some ⟨hb, 0, none⟩), .agg #[.int .i64 (k : Int), .int .i64 sl]] w fun e w' => e = .returned (.int .i64 15) /\ Quiet w w' := by
 obtain ⟨v, ps, rb, h⟩ := h
 obtain ⟨p, hp, hpt⟩ := h.pg k T hT
 have HQ : Hid (Quiet w (w.alloc (.cells #[.int .i64 (k : Int), .int .i64 sl] 48))) := (Z0.refl _ _).alloc _
 have HT := zh (Z5 w (.cells #[.int .i64 (k : Int), .int .i64 sl] 48))
 have HPG : Hid (∀ W : World, Quiet w W -> Calls Tryz.prog 77 #[.pointer (some ⟨hb, 0, none⟩), .int .i64 (k : Int)] W fun e w' => e = .returned (.pointer (some ⟨p, 0, none⟩)) /\ W = w') := fun W hq => Z1E k p (h.kept hq (fun _ _ x => x)) hp
 have HFR : Hid (∀ W : World, Quiet w W -> Calls Tryz.prog 179 #[.pointer (some ⟨p, 0, none⟩), .int .i64 sl] W fun e w' => e = .returned (.int .i64 15) /\ Quiet W w') := fun W hq => Z86 p T sl W (hpt.kept hq (fun x => x)) hs
 clear h hp hpt hT hs
 go_enter Tryz.func140, Tryz.ntmps140
 go_wp2_with fail
 go_region_held3 (fun w' => w'.cell? ⟨w.heap.size, 0, none⟩ = some (.int .i64 (k : Int)) /\ w'.cell? ⟨w.heap.size, 1, none⟩ = some (.int .i64 sl))
  (first | go_keep | exact Z3O (by exact HT.out) ho3 (fun x => x) | fail)
  (first
    | (go_at_call 77; go_must (refine (HPG.out _ (HQ.out.drew)).mono ?_; rintro e w2 ⟨rfl, rfl⟩))
    | (go_at_call 179; go_must (refine (HFR.out _ (HQ.out.drew)).mono ?_; rintro e w3 ⟨rfl, ho3⟩))
    | fail)
 go_wp2
 go_ret
 exact ⟨rfl, (HQ.out.drew).trans ho3⟩
theorem Z97 (k : Nat) (sl : Int) (T : List (Option Tup)) (t : Tup) (h : Zp w hb pb F H) (hT : H[k]? = some T) (hs : ZY T sl = some t) :
  Calls Tryz.prog 140 #[.pointer (some ⟨hb, 0, none⟩), .agg #[.int .i64 (k : Int), .int .i64 sl]] w fun e w' => e = .returned (.int .i64 0) /\ Z0 F w w' /\ Zp w' hb pb F (H.set k (Z0f (T.set sl.toNat none))) := by
 have h256 := h.most
 obtain ⟨v, ps, rb, h⟩ := h.lim
 obtain ⟨p, hp, hpt⟩ := h.pg k T hT
 have hkl : k < H.length := (zi.1 hT).1
 have HQ : Hid (Quiet w (w.alloc (.cells #[.int .i64 (k : Int), .int .i64 sl] 48))) := (Z0.refl _ _).alloc _
 have HT := zh (Z5 w (.cells #[.int .i64 (k : Int), .int .i64 sl] 48))
 have HPG : Hid (∀ W : World, Quiet w W -> Calls Tryz.prog 77 #[.pointer (some ⟨hb, 0, none⟩), .int .i64 (k : Int)] W fun e w' => e = .returned (.pointer (some ⟨p, 0, none⟩)) /\ W = w') := fun W hq => Z1E k p (h.kept hq (fun _ _ x => x)) hp
 have HFR : Hid (∀ W : World, Quiet w W -> Calls Tryz.prog 179 #[.pointer (some ⟨p, 0, none⟩), .int .i64 sl] W fun e w' => e = .returned (.int .i64 0) /\ Z0 (· = p) W w' /\ Z0m w' p (Z0f (T.set sl.toNat none))) := fun W hq => Z85 p t T sl W (hpt.kept hq (fun x => x)) hs
 have HH := zh h
 have HHP := zh hp
 have HPL : Hid (p < w.heap.size) := hpt.lt
 clear h hp hpt hT hs
 go_enter Tryz.func140, Tryz.ntmps140
 go_wp2_with fail
 go_region_held3 (fun w' => w'.cell? ⟨w.heap.size, 0, none⟩ = some (.int .i64 (k : Int)) /\ w'.cell? ⟨w.heap.size, 1, none⟩ = some (.int .i64 sl))
  (first | go_keep | exact Z3O (by exact HT.out) ho3 (by have := HPL.out; omega) | fail)
  (first
    | (go_at_call 77; go_must (refine (HPG.out _ (HQ.out.drew)).mono ?_; rintro e w2 ⟨rfl, rfl⟩))
    | (go_at_call 179; go_must (refine (HFR.out _ (HQ.out.drew)).mono ?_; rintro e w3 ⟨rfl, ho3, hp3⟩))
    | fail)
 have HH3 := zh ((HH.out.kept HQ.out.drew (fun _ _ x => x)).turn HHP.out ho3 hp3)
 have HO3 : Hid (Z0 F w w3) := ((HQ.out.drew).mono (T := F) (fun _ _ x => x.elim)).trans' ho3 (fun j _ e => by subst e; exact (HH.out.foot.2.2.1 j (List.mem_of_getElem? HHP.out)).1)
 obtain ⟨t0, t1⟩ := Z3O (by exact HT.out) ho3 (by have := HPL.out; omega)
 clear ho3 hp3 HPG HFR
 go_wp2_with fail
 refine (Z6b k p _ HH3.out HHP.out (by rw [List.getElem?_set_self hkl]) (by simp; omega) (by omega)).mono ?_
 rintro e w5 ⟨rfl, ho5, hh5⟩
 rw [Z9G H k _ hkl] at hh5
 have HH5 := zh hh5
 have HO5 : Hid (Z0 F w w5) := HO3.out.trans' ho5 (fun j _ e => by subst e; exact HH.out.foot.2.1.1)
 clear ho5 hh5
 go_wp2
 go_ret
 exact ⟨rfl, HO5.out, _, _, _, HH5.out.mono (fun _ x => x.1)⟩
theorem Zfo (pg sl : Int) (h : Zp w hb pb F H) :
  Calls Tryz.prog 140 #[.pointer (some ⟨hb, 0, none⟩), .agg #[.int .i64 pg, .int .i64 sl]] w fun e w' => e = .returned (.int .i64 (Z1t H pg sl).1) /\ Z0 F w w' /\ Zp w' hb pb F (Z1t H pg sl).2 := by
 by_cases hn : pg < 0 ∨ (H.length : Int) <= pg
 ·have e : Z1t H pg sl = (15, H) := by unfold Z1t; rw [Z1i hn]
  rw [e]
  refine (Zat (some ⟨hb, 0, none⟩) pg sl w (fun W hq => ?_)).mono ?_
  ·obtain ⟨v, ps, rb, h⟩ := h
   exact Z3w pg (h.kept hq (fun _ _ x => x)) hn
  ·rintro e w' ⟨rfl, hq⟩
   exact ⟨rfl, hq.mono (fun _ _ x => x.elim), h.kept hq (fun _ _ x => x)⟩
 ·obtain ⟨k, rfl⟩ := Int.eq_ofNat_of_zero_le (show 0 <= pg by omega)
  have hT : H[k]? = some (H.getD k []) := by
   rw [List.getD_eq_getElem?_getD, zg (show k < H.length by omega)]; rfl
  have hg := Z23 sl hT
  rcases hs : ZY (H.getD k []) sl with _ | t
  ·have e : Z1t H (k : Int) sl = (15, H) := by unfold Z1t; rw [hg, hs]
   rw [e]
   refine (Z96 k sl _ h hT hs).mono ?_
   rintro e w' ⟨rfl, hq⟩
   exact ⟨rfl, hq.mono (fun _ _ x => x.elim), h.kept hq (fun _ _ x => x)⟩
  ·have e : Z1t H (k : Int) sl = (0, H.set k (Z0f ((H.getD k []).set sl.toNat none))) := by unfold Z1t; rw [hg, hs]; rfl
   rw [e]
   exact Z97 k sl _ t h hT hs
end
section
variable {w W W' : World} {K K' : Nat -> Prop} {hb pb : Nat} {H : List (List (Option Tup))} {left : Nat}
end
theorem Z9I {H : List (List (Option Tup))} {i : Nat} {T T' : List (Option Tup)} (h : H[i]? = some T) : usedH (H.set i T') + Z0B T = usedH H + Z0B T' := Z6X Z0B H i T T' h
theorem Zfu (t : Tup) (s : Int) : ZY [some t] s = if s = 0 then some t else none := by
 rcases Int.lt_or_le s 0 with h | h
 ·rw [Z2s _ h, if_neg (by omega)]
 ·obtain ⟨n, rfl⟩ := Int.eq_ofNat_of_zero_le h
  rw [Z1a]
  rcases n with _ | n
  ·rfl
  ·rw [if_neg (by omega)]; rfl
structure ZeU (H H' : List (List (Option Tup))) (pg sl : Int) (t : Tup) : Prop where
 get : ∀ p s, ZR H' p s = if p = pg /\ s = sl then some t else ZR H p s
 was : ZR H pg sl = none
 used : usedH H' = usedH H + 1
 fit : ∀ T ∈ H', Z0X T
 pos : 0 <= pg /\ 0 <= sl
 len : H'.length <= H.length + 1
theorem Z9J {H : List (List (Option Tup))} {left i : Nat} {t : Tup} {T : List (Option Tup)} (hr : t.rightB = true) (hf : Z1c H t.data.length = some i) (hT : H[i]? = some T) : Z12 H left t = (((i : Int), (freeT T : Int), 0), H.set i (Z1h T t), left) := by
 unfold Z12
 rw [if_neg (by simp [hr]), hf]
 show (((i : Int), (freeT (H.getD i []) : Int), (0 : Int)), H.set i (Z1h (H.getD i []) t), left) = _
 rw [Z6W hT]
theorem Z9K {H : List (List (Option Tup))} {left : Nat} {t : Tup} (hr : t.rightB = true) (hf : Z1c H t.data.length = none) : Z12 H (left + 1) t = (((H.length : Int), 0, 0), H ++ [[some t]], left) := by
 unfold Z12
 rw [if_neg (by simp [hr]), hf]
 rfl
theorem Zfv {t : Tup} (hr : t.rightB = true) : t.data.length <= 200 := (of_decide_eq_true hr).2.2.2.2
theorem ZdS {H : List (List (Option Tup))} {i : Nat} {t : Tup} {T : List (Option Tup)} (hfit : ∀ T ∈ H, Z0X T) (hT : H[i]? = some T) (hrm : (t.data.length : Int) <= ZL T) : ZeU H (H.set i (Z1h T t)) (i : Int) (freeT T : Int) t := by
 have hi : i < H.length := (zi.1 hT).1
 refine ⟨fun p s => ?_, ?_, ?_, fun T' hT' => ?_, ⟨by omega, by omega⟩, by simp⟩
 ·rw [Zb7 H i hi, Zfp]
  by_cases x : p = i
  ·subst x
   rw [if_pos rfl]
   by_cases y : s = freeT T
   ·rw [if_pos y, if_pos ⟨rfl, y⟩]
   ·rw [if_neg y, if_neg (fun z => y z.2), Z23 s hT]
  ·rw [if_neg x, if_neg (fun z => x z.1)]
 ·rw [Z23 _ hT, Z1a]
  exact Z8e T
 ·have := Z9I (T' := Z1h T t) hT
  rw [ZgW] at this
  omega
 ·rcases List.mem_or_eq_of_mem_set hT' with x | x
  ·exact hfit T' x
  ·rw [x]; exact Z0X.ins hrm
theorem ZdT {H : List (List (Option Tup))} {t : Tup} (hfit : ∀ T ∈ H, Z0X T) (hr : t.rightB = true) : ZeU H (H ++ [[some t]]) (H.length : Int) 0 t := by
 refine ⟨fun p s => ?_, Z1i (Or.inr (Int.le_refl _)), ?_, fun T' hT' => ?_, ⟨by omega, by omega⟩, by simp⟩
 ·rw [Zft, Zfu]
  by_cases x : p = H.length
  ·subst x
   rw [if_pos rfl]
   by_cases y : s = 0
   ·rw [if_pos y, if_pos ⟨rfl, y⟩]
   ·rw [if_neg y, if_neg (fun z => y z.2), Z1i (Or.inr (Int.le_refl _))]
  ·rw [if_neg x, if_neg (fun z => x z.1)]
 ·unfold usedH
  rw [List.map_append, List.sum_append]
  rfl
 ·rcases List.mem_append.1 hT' with x | x
  ·exact hfit T' x
  ·simp at x
   subst x
   have := Zfv hr
   unfold Z0X
   simp [Z1p, Tup.size]
   omega
theorem Zfw {H : List (List (Option Tup))} {left : Nat} {t : Tup} (hfit : ∀ T ∈ H, Z0X T) (hr : t.rightB = true) (h : 0 < left ∨ (Z1c H t.data.length).isSome = true) :
  ∃ pg sl H' left', Z12 H left t = ((pg, sl, 0), H', left') /\ ZeU H H' pg sl t /\ ((Z1c H t.data.length).isSome = true -> H'.length = H.length /\ left' = left) /\ H'.length + left' = H.length + left := by
 rcases hf : Z1c H t.data.length with _ | i
 ·rw [hf] at h
  obtain ⟨left, rfl⟩ : ∃ l, left = l + 1 := ⟨left - 1, by rcases h with h | h; omega; simp at h⟩
  exact ⟨_, _, _, _, Z9K hr hf, ZdT hfit hr, fun x => by simp at x, by simp; omega⟩
 ·obtain ⟨T, hT, hrm⟩ := Z4e hf
  exact ⟨_, _, _, _, Z9J hr hf hT, ZdS hfit hT hrm, fun _ => ⟨by simp, rfl⟩, by simp⟩
structure Zj4 (H H' : List (List (Option Tup))) (pg sl : Int) (t : Tup) : Prop where
 get : ∀ p s, ZR H' p s = if p = pg /\ s = sl then none else ZR H p s
 used : usedH H' + 1 = usedH H
 fit : ∀ T ∈ H', Z0X T
 len : H'.length = H.length
 room : (Z1c H' t.data.length).isSome = true
theorem ZdU {H : List (List (Option Tup))} {pg sl : Int} {t : Tup} (hfit : ∀ T ∈ H, Z0X T) (h : ZR H pg sl = some t) : ∃ H', Z1t H pg sl = (0, H') /\ Zj4 H H' pg sl t := by
 have h0 : ¬ (pg < 0 ∨ (H.length : Int) <= pg) := fun x => by rw [Z1i x] at h; cases h
 obtain ⟨k, rfl⟩ := Int.eq_ofNat_of_zero_le (show 0 <= pg by omega)
 have hk : k < H.length := by omega
 obtain ⟨T, hT⟩ : ∃ T, H[k]? = some T := ⟨_, zg hk⟩
 have hg : ZY T sl = some t := by rw [<- Z23 sl hT]; exact h
 obtain ⟨s0, hs⟩ := Z8d hg
 obtain ⟨j, rfl⟩ := Int.eq_ofNat_of_zero_le s0
 rw [Int.toNat_natCast] at hs
 have hj : j < T.length := (zi.1 hs).1
 have hF := Z0X.free (hfit T (List.mem_of_getElem? hT)) hs
 refine ⟨H.set k (Z0f (T.set j none)), ?_, fun p s => ?_, ?_, fun T' hT' => ?_, by simp, ?_⟩
 ·unfold Z1t
  rw [h]
  show ((0 : Int), H.set (k : Int).toNat (Z0f ((H.getD (k : Int).toNat []).set (j : Int).toNat none))) = _
  rw [Int.toNat_natCast, Int.toNat_natCast, Z6W hT]
 ·rw [Zb7 H k hk, Z8f, Z9H T j hj]
  by_cases x : p = k
  ·subst x
   rw [if_pos rfl]
   by_cases y : s = j
   ·rw [if_pos y, if_pos ⟨rfl, y⟩]
   ·rw [if_neg y, if_neg (fun z => y z.2), Z23 s hT]
  ·rw [if_neg x, if_neg (fun z => x z.1)]
 ·have h1 := Z9I (T' := Z0f (T.set j none)) hT
  rw [Zfr] at h1
  have h2 := Zb4 (u := none) hs
  simp at h2
  omega
 ·rcases List.mem_or_eq_of_mem_set hT' with x | x
  ·exact hfit T' x
  ·rw [x]; exact hF.1
 ·unfold Z1c
  rcases hx : (H.set k (Z0f (T.set j none))).findIdx? (fun T => decide ((t.data.length : Int) <= ZL T)) with _ | i
  ·rw [List.findIdx?_eq_none_iff] at hx
   have := hx (Z0f (T.set j none)) (by
     rw [List.mem_iff_getElem?]
     exact ⟨k, by rw [List.getElem?_set_self hk]⟩)
   rw [decide_eq_false_iff_not] at this
   exact absurd hF.2 this
  ·rfl
end Go.Proofs.YtnidjfjkodingaaGreatDoor
namespace Go.Proofs
open Go.Shelf
def Tryz.sortRows_ren : Go.Shelf.Ren := ⟨fun | 6 => 91 | 15 => 132 | 14 => 131 | 28 => 173 | 29 => 174 | 20 => 165 | 21 => 166 | 22 => 167 | 23 => 168 | 24 => 169 | 25 => 170 | 26 => 171 | 27 => 172 | 46 => 188 | 47 => 189 | 48 => 190 | 49 => 191 | 50 => 192 | 57 => 202 | n => n, fun | 22 => 44 | 24 => 50 | 25 => 196 | 3 => 3 | 39 => 243 | 0 => 0 | 53 => 281 | 55 => 34 | 4 => 4 | 46 => 275 | 45 => 274 | 50 => 222 | 5 => 5 | 9 => 9 | 66 => 295 | 70 => 298 | 76 => 310 | 77 => 255 | n => n, fun | n => n⟩
theorem Tryz.sortRows : Go.Proofs.SlLaysF0.n6 Tryz.prog Tryz.sortRows_ren := {
  mixed := by kernel_rfl
  f6 := ⟨Tryz.f91.name, by decide, Tryz.func91.trans (congrArg some (by kernel_rfl))⟩
  f14 := ⟨Tryz.f131.name, by decide, Tryz.func131.trans (congrArg some (by kernel_rfl))⟩
  f15 := Tryz.func132.trans (congrArg some (by kernel_rfl))
  f20 := ⟨Tryz.f165.name, by decide, Tryz.func165.trans (congrArg some (by kernel_rfl))⟩
  f21 := ⟨Tryz.f166.name, by decide, Tryz.func166.trans (congrArg some (by kernel_rfl))⟩
  f22 := ⟨Tryz.f167.name, by decide, Tryz.func167.trans (congrArg some (by kernel_rfl))⟩
  f23 := ⟨Tryz.f168.name, by decide, Tryz.func168.trans (congrArg some (by kernel_rfl))⟩
  f24 := ⟨Tryz.f169.name, by decide, Tryz.func169.trans (congrArg some (by kernel_rfl))⟩
  f25 := ⟨Tryz.f170.name, by decide, Tryz.func170.trans (congrArg some (by kernel_rfl))⟩
  f26 := ⟨Tryz.f171.name, by decide, Tryz.func171.trans (congrArg some (by kernel_rfl))⟩
  f27 := ⟨Tryz.f172.name, by decide, Tryz.func172.trans (congrArg some (by kernel_rfl))⟩
  f28 := Tryz.func173.trans (congrArg some (by kernel_rfl))
  f29 := Tryz.func174.trans (congrArg some (by kernel_rfl))
  f46 := ⟨Tryz.f188.name, by decide, Tryz.func188.trans (congrArg some (by kernel_rfl))⟩
  f47 := Tryz.func189.trans (congrArg some (by kernel_rfl))
  f48 := Tryz.func190.trans (congrArg some (by kernel_rfl))
  f49 := ⟨Tryz.f191.name, by decide, Tryz.func191.trans (congrArg some (by kernel_rfl))⟩
  f50 := ⟨Tryz.f192.name, by decide, Tryz.func192.trans (congrArg some (by kernel_rfl))⟩
  f57 := ⟨Tryz.f202.name, by decide, Tryz.func202.trans (congrArg some (by kernel_rfl))⟩
  t0 := Tryz.underlying0
  a0 := Tryz.isAgg0
  z0 := Tryz.sizeOf0
  v0 := Tryz.zeroValue0
  t3 := Tryz.underlying3
  a3 := Tryz.isAgg3
  z3 := Tryz.sizeOf3
  v3 := Tryz.zeroValue3
  t4 := Tryz.underlying4
  a4 := Tryz.isAgg4
  z4 := Tryz.sizeOf4
  v4 := Tryz.zeroValue4
  t5 := Tryz.underlying5
  a5 := Tryz.isAgg5
  z5 := Tryz.sizeOf5
  v5 := Tryz.zeroValue5
  t9 := Tryz.underlying9
  a9 := Tryz.isAgg9
  z9 := Tryz.sizeOf9
  v9 := Tryz.zeroValue9
  t22 := Tryz.underlying44
  a22 := Tryz.isAgg44
  z22 := Tryz.sizeOf44
  v22 := Tryz.zeroValue44
  t25 := Tryz.underlying196
  a25 := Tryz.isAgg196
  z25 := Tryz.sizeOf196
  v25 := Tryz.zeroValue196
  t39 := Tryz.underlying243
  a39 := Tryz.isAgg243
  z39 := Tryz.sizeOf243
  v39 := Tryz.zeroValue243
  t45 := Tryz.underlying274
  a45 := Tryz.isAgg274
  z45 := Tryz.sizeOf274
  v45 := Tryz.zeroValue274
  t46 := Tryz.underlying275
  a46 := Tryz.isAgg275
  z46 := Tryz.sizeOf275
  v46 := Tryz.zeroValue275
  t50 := Tryz.underlying222
  a50 := Tryz.isAgg222
  z50 := Tryz.sizeOf222
  v50 := Tryz.zeroValue222
  t53 := Tryz.underlying281
  a53 := Tryz.isAgg281
  z53 := Tryz.sizeOf281
  v53 := Tryz.zeroValue281
  t55 := Tryz.underlying34
  a55 := Tryz.isAgg34
  z55 := Tryz.sizeOf34
  v55 := Tryz.zeroValue34
  t66 := Tryz.underlying295
  a66 := Tryz.isAgg295
  z66 := Tryz.sizeOf295
  v66 := Tryz.zeroValue295
  t70 := Tryz.underlying298
  a70 := Tryz.isAgg298
  z70 := Tryz.sizeOf298
  v70 := Tryz.zeroValue298
  t76 := Tryz.underlying310
  a76 := Tryz.isAgg310
  z76 := Tryz.sizeOf310
  v76 := Tryz.zeroValue310
  t77 := Tryz.underlying255
  a77 := Tryz.isAgg255
  z77 := Tryz.sizeOf255
  v77 := Tryz.zeroValue255 }
end Go.Proofs
namespace Go.Proofs.YtnidjfjkodingaaGreatDoor
open Go.RowKit Go.Lap
structure Z1I (w : World) (F : Nat -> Prop) (lb : Nat) (L : List Nat) (v : Value) : Prop where
 box : w.heap[lb]? = some (.cells #[.int .u64 1, .int .u64 (L.length : Int), v] 134 (0, 0))
 row : w.ownsRow 0 5 1 v (Z0N L).length (Zg (Z0N L))
 foot : F lb /\ ∀ k, v.ownBlock = some k -> F k
 st : Z27 L
 most : L.length <= 1099511627776
def Zy (w : World) (F : Nat -> Prop) (lb : Nat) (L : List Nat) : Prop := ∃ v, Z1I w F lb L v
section
variable {w w' : World} {F : Nat -> Prop} {lb : Nat} {L : List Nat} {v : Value}
theorem Z1I.kept {S : Nat -> Prop} (h : Z1I w F lb L v) (ho : Z0 S w w') (hn : ∀ k, F k -> ¬ S k) : Z1I w' F lb L v :=
 ⟨ho.get h.box (hn _ h.foot.1), Z4 h.row ho (fun k e => hn k (h.foot.2 k e)), h.foot, h.st, h.most⟩
theorem Zy.kept {S : Nat -> Prop} (h : Zy w F lb L) (ho : Z0 S w w') (hn : ∀ k, F k -> ¬ S k) : Zy w' F lb L := by
 obtain ⟨v, h⟩ := h
 exact ⟨v, h.kept ho hn⟩
theorem Zy.drewN (h : Zy w F lb L) (n : Nat) : Zy (w.drewN n) F lb L := h.kept ((Z0.refl (fun _ => False) w).drewN n) (fun _ _ x => x)
theorem Zy.mono {G : Nat -> Prop} (h : Zy w F lb L) (hg : ∀ k, F k -> k < w.heap.size -> G k) : Zy w G lb L := by
 obtain ⟨v, h⟩ := h
 exact ⟨v, h.box, h.row, ⟨hg _ h.foot.1 (Z2 h.box), fun k e => hg _ (h.foot.2 k e) (h.row.lt k e).2⟩, h.st, h.most⟩
theorem Z1I.cells (h : Z1I w F lb L v) : w.cell? ⟨lb, 0, none⟩ = some (.int .u64 1) /\ w.cell? ⟨lb, 1, none⟩ = some (.int .u64 (L.length : Int)) /\ w.cell? ⟨lb, 2, none⟩ = some v :=
 ⟨by rw [Z1 h.box]; rfl, by rw [Z1 h.box]; rfl, by rw [Z1 h.box]; rfl⟩
theorem Zy.lt (h : Zy w F lb L) : lb < w.heap.size /\ F lb := by
 obtain ⟨v, h⟩ := h
 exact ⟨Z2 h.box, h.foot.1⟩
end
theorem Zif (w : World) :
  Calls Tryz.prog 26 #[.int .u64 1] w fun e w' => e = .returned (.tuple #[.pointer (some ⟨w.heap.size, 0, none⟩), .int .i64 0]) /\ Quiet w w' /\ Zy w' (fun k => w.heap.size <= k) w.heap.size [] := by
 go_enter Tryz.func26, Tryz.ntmps26
 go_wp2
 go_ret2
 exact ⟨rfl, (Z0.refl _ _).alloc _, .slice none 0 0, Z5 _ _, World.ownsRow_nil _ _ _ _, ⟨Nat.le_refl _, fun k e => by cases e⟩, fun x hx => by simp at hx, by simp⟩
theorem Z4w {F : Nat -> Prop} {lb : Nat} {L : List Nat} {w : World} (h : Zy w F lb L) :
  Calls Tryz.prog 59 #[.pointer (some ⟨lb, 0, none⟩)] w fun e w' => e = .returned (.int .u64 ((L.length : Int) + 1)) /\ ∃ n, w' = w.drewN n := by
 obtain ⟨v, h⟩ := h
 obtain ⟨c0, c1, _⟩ := h.cells
 have hm := h.most
 have e1 : IntKind.u64.wrap (1 + (L.length : Int)) = (L.length : Int) + 1 := by rw [IntKind.wrap_u64]; omega
 clear h
 go_enter Tryz.func59, Tryz.ntmps59
 go_wp2
 go_quiet (fail)
 go_wp2
 go_ret
 exact ⟨rfl, _, rfl⟩
theorem Z98 {F : Nat -> Prop} {lb i s : Nat} {L : List Nat} {v : Value} {w : World} (h : Z1I w F lb L v) (hi : i < L.length) (hs : s <= 3) :
  Calls Tryz.prog 60 #[.pointer (some ⟨lb, 0, none⟩), .int .u64 ((i : Int) + 1), .int .u8 (s : Int)] w fun e w' => e = .returned (.tuple #[]) /\ Z0 F w w' /\ Z1I w' F lb (L.set i s) v := by
 obtain ⟨c0, c1, c2⟩ := h.cells
 have hm := h.most
 have hl := ZZ L
 obtain ⟨g, cap, rfl, hc, hcm⟩ : ∃ g cap, v = .slice (some ⟨g, 0, none⟩) (Z0N L).length cap /\ (Z0N L).length <= cap /\ cap <= maxLen := by
  rcases ZJ h.row with ⟨_, e⟩ | x
  ·omega
  ·exact x
 have hg : w.cell? ⟨g, i / 4, none⟩ = some (.int .u8 (Z0C L (i / 4) : Nat)) := by
  have := h.row.cells (by rfl) (i / 4) (.int .u8 (Z0C L (i / 4) : Nat)) (by unfold Zg; rw [List.getElem?_map, Z1u _ (by omega)]; rfl)
  rw [Zq, Nat.zero_add] at this
  exact this
 have hf : ∀ o, w.frozen? ⟨g, o, none⟩ = false := by
  obtain ⟨c, hh⟩ := Zj h.row rfl
  exact Z7 hh
 have hb := h.st.byte (i / 4)
 have hset := Zfx h.st hi s
 have hq : ((i : Int) / 4).toNat = i / 4 := by omega
 obtain ⟨x, hx⟩ : ∃ x, Z0C L (i / 4) = x := ⟨_, rfl⟩
 rw [hx] at hb hset hg
 obtain ⟨n, hn⟩ : ∃ n, (Z0N L).length = n := ⟨_, rfl⟩
 rw [hn] at c2 hc hl
 unfold maxLen at hcm
 have hin : i / 4 < n := by omega
 have H := zh h
 clear h
 go_enter Tryz.func60, Tryz.ntmps60
 go_wp2
 rw [Zh0 x s (i % 4) hb hs (Nat.mod_lt _ (by omega)), <- hset]
 go_end0
 have hst := H.out.row.stored (i / 4) (.int .u8 ((Z0C (L.set i s) (i / 4) : Nat) : Int))
 have ho : Z0 (· = g) w (w.setCell ⟨g, i / 4, none⟩ (.int .u8 ((Z0C (L.set i s) (i / 4) : Nat) : Int))) := (Z0.refl (· = g) w).setCell (p := ⟨g, i / 4, none⟩) (fun _ => rfl) _
 refine ⟨rfl, ho.mono (fun k _ e => by subst e; exact H.out.foot.2 _ rfl), ?_, ?_, H.out.foot, H.out.st.set i hs, by simpa using H.out.most⟩
 ·obtain ⟨c, hh⟩ := Zj H.out.row rfl
  rw [List.length_set]
  exact ho.get H.out.box (Za H.out.box hh (by decide))
 ·rw [ZdV hi, <- ZdY, List.length_set]
  exact hst.1
theorem Z2t {F : Nat -> Prop} {lb x : Nat} {L : List Nat} {w : World} (h : Zy w F lb L) (hx : U64 x) :
  Calls Tryz.prog 79 #[.pointer (some ⟨lb, 0, none⟩), .int .u64 (x : Int)] w fun e w' => e = .returned (.int .i64 (stateL L x : Int)) /\ ∃ n, w' = w.drewN n := by
 have HNX := zh (Z4w h)
 obtain ⟨v, h⟩ := h
 obtain ⟨c0, c1, c2⟩ := h.cells
 have hm := h.most
 unfold U64 at hx
 by_cases h1 : x < 1
 ·have HS : Hid (stateL L x = 0) := Z4f (Or.inl h1)
  clear h
  go_enter Tryz.func79, Tryz.ntmps79
  go_wp2
  go_ret
  exact ⟨by rw [HS.out]; rfl, 0, rfl⟩
 ·by_cases h2 : L.length < x
  ·have HS : Hid (stateL L x = 0) := Z4f (Or.inr h2)
   clear h
   have d1 : decide ((L.length : Int) + 1 <= x) = true := decide_eq_true (by omega)
   go_enter Tryz.func79, Tryz.ntmps79
   go_wp2_with fail
   refine HNX.out.mono ?_
   rintro e w1 ⟨rfl, n, rfl⟩
   go_wp2
   go_ret
   exact ⟨by rw [HS.out]; rfl, n, rfl⟩
  ·obtain ⟨i, rfl⟩ : ∃ i, x = i + 1 := ⟨x - 1, by omega⟩
   have hi : i < L.length := by omega
   have HS : Hid (stateL L (i + 1) = Z0C L (i / 4) / 4 ^ (i % 4) % 4) := by
    rw [Z9L h.st]
    unfold stateL
    rw [if_pos (by omega)]
    rfl
   have hl := ZZ L
   obtain ⟨g, cap, rfl, hc, hcm⟩ : ∃ g cap, v = .slice (some ⟨g, 0, none⟩) (Z0N L).length cap /\ (Z0N L).length <= cap /\ cap <= maxLen := by
    rcases ZJ h.row with ⟨_, e⟩ | x
    ·omega
    ·exact x
   have hg : w.cell? ⟨g, i / 4, none⟩ = some (.int .u8 (Z0C L (i / 4) : Nat)) := by
    have := h.row.cells (by rfl) (i / 4) (.int .u8 (Z0C L (i / 4) : Nat)) (by unfold Zg; rw [List.getElem?_map, Z1u _ (by omega)]; rfl)
    rw [Zq, Nat.zero_add] at this
    exact this
   have hb := h.st.byte (i / 4)
   have hq : ((i : Int) / 4).toNat = i / 4 := by omega
   obtain ⟨y, hy⟩ : ∃ y, Z0C L (i / 4) = y := ⟨_, rfl⟩
   rw [hy] at hb hg HS
   obtain ⟨n, hn⟩ : ∃ n, (Z0N L).length = n := ⟨_, rfl⟩
   rw [hn] at c2 hc hl
   unfold maxLen at hcm
   have hin : i / 4 < n := by omega
   have hpos : 0 <= (y : Int) := by omega
   have HB := zh (Zh1 y (i % 4) hb (Nat.mod_lt _ (by omega)))
   have d1 : decide ((L.length : Int) + 1 <= (i : Int) + 1) = false := decide_eq_false (by omega)
   have d2 : ¬ ((L.length : Int) + 1 <= (i : Int) + 1) := by omega
   clear h hn hl hy
   go_enter Tryz.func79, Tryz.ntmps79
   go_wp2_with fail
   refine HNX.out.mono ?_
   rintro e w1 ⟨rfl, m, rfl⟩
   go_wp2
   rw [HB.out]
   have hlt : y / 4 ^ (i % 4) % 4 < 4 := Nat.mod_lt _ (by omega)
   have HW : Hid (wrap64 ((y / 4 ^ (i % 4) % 4 : Nat) : Int) = ((y / 4 ^ (i % 4) % 4 : Nat) : Int)) := by
    generalize y / 4 ^ (i % 4) % 4 = z at hlt
    show wrap64 (z : Int) = z
    unfold wrap64
    omega
   rw [HW.out]
   go_ret
   exact ⟨by rw [HS.out]; rfl, m, rfl⟩
def Z24 (L : List Nat) (x s : Nat) : Nat × List Nat := if stateL L x = 1 then (0, L.set (x - 1) s) else (15, L)
def Z2z (w : World) (F : Nat -> Prop) (lb : Nat) (r : Nat × List Nat) (e : Ending) (w' : World) : Prop := e = .returned (.int .i64 (r.1 : Int)) /\ Z0 F w w' /\ Zy w' F lb r.2
theorem Zfy {L : List Nat} {x : Nat} (h : stateL L x = 1) : 1 <= x /\ x <= L.length := Zba (Z9N.2 h)
theorem Zd3 {F : Nat -> Prop} {lb x s : Nat} {L : List Nat} {w : World} (h : Zy w F lb L) (hx : U64 x) (hs : s <= 3) :
  Calls Tryz.prog 89 #[.pointer (some ⟨lb, 0, none⟩), .int .u64 (x : Int), .int .u8 (s : Int)] w (Z2z w F lb (Z24 L x s)) := by
 have HST := zh (Z2t h hx)
 by_cases h1 : stateL L x = 1
 ·obtain ⟨hx1, hx2⟩ := Zfy h1
  have HR : Hid (Z24 L x s = (0, L.set (x - 1) s)) := if_pos h1
  obtain ⟨v, h⟩ := h
  have HSET : Hid (∀ n, Calls Tryz.prog 60 #[.pointer (some ⟨lb, 0, none⟩), .int .u64 (x : Int), .int .u8 (s : Int)] (w.drewN n) fun e w' => e = .returned (.tuple #[]) /\ Z0 F (w.drewN n) w' /\ Z1I w' F lb (L.set (x - 1) s) v) := fun n => by
   have := Z98 (i := x - 1) (h.kept ((Z0.refl (fun _ => False) w).drewN n) (fun _ _ x => x)) (by omega) hs
   rw [show ((x - 1 : Nat) : Int) + 1 = (x : Int) by omega] at this
   exact this
  rw [h1] at HST
  clear h h1 hx hx1 hx2
  go_enter Tryz.func89, Tryz.ntmps89
  go_wp2_with fail
  refine HST.out.mono ?_
  rintro e w1 ⟨rfl, n, rfl⟩
  go_wp2_with fail
  refine (HSET.out n).mono ?_
  rintro e w2 ⟨rfl, ho2, hl2⟩
  have HP : Hid (Z2z w F lb (Z24 L x s) (.returned (.int .i64 0)) w2) := by
   rw [HR.out]
   exact ⟨rfl, ((Z0.refl F w).drewN n).trans ho2, v, hl2⟩
  clear ho2 hl2 HSET HST
  go_wp2
  go_ret
  exact HP.out
 ·have HP : Hid (∀ n, Z2z w F lb (Z24 L x s) (.returned (.int .i64 15)) (w.drewN n)) := fun n => by
   unfold Z24
   rw [if_neg h1]
   exact ⟨rfl, (Z0.refl F w).drewN n, h.drewN n⟩
  have hne : ¬ ((stateL L x : Nat) : Int) = 1 := by omega
  generalize stateL L x = st at HST hne
  clear h h1 hx
  go_enter Tryz.func89, Tryz.ntmps89
  go_wp2_with fail
  refine HST.out.mono ?_
  rintro e w1 ⟨rfl, n, rfl⟩
  go_wp2
  go_ret
  exact HP.out n
theorem ZdZ {F : Nat -> Prop} {lb x : Nat} {L : List Nat} {w : World} (h : Zy w F lb L) (hx : U64 x) :
  Calls Tryz.prog 47 #[.pointer (some ⟨lb, 0, none⟩), .int .u64 (x : Int)] w (Z2z w F lb (Z24 L x 2)) := by
 have HE := zh (Zd3 (s := 2) h hx (by omega))
 obtain ⟨Z8, hP⟩ : ∃ P, Z2z w F lb (Z24 L x 2) = P := ⟨_, rfl⟩
 have HR : Hid (∀ e w', Z8 e w' -> ∃ v : Nat, e = .returned (.int .i64 (v : Int))) := by rw [<- hP]; rintro e w' ⟨rfl, _⟩; exact ⟨_, rfl⟩
 rw [hP] at HE ⊢
 clear h hx hP
 go_enter Tryz.func47, Tryz.ntmps47
 go_wp2_with fail
 refine HE.out.mono ?_
 intro e w1 h1
 obtain ⟨v, rfl⟩ := HR.out e w1 h1
 have H1 := zh h1
 clear h1
 go_wp2
 exact H1.out
theorem Zfz {F : Nat -> Prop} {lb x : Nat} {L : List Nat} {w : World} (h : Zy w F lb L) (hx : U64 x) :
  Calls Tryz.prog 53 #[.pointer (some ⟨lb, 0, none⟩), .int .u64 (x : Int)] w (Z2z w F lb (Z24 L x 3)) := by
 have HE := zh (Zd3 (s := 3) h hx (by omega))
 obtain ⟨Z8, hP⟩ : ∃ P, Z2z w F lb (Z24 L x 3) = P := ⟨_, rfl⟩
 have HR : Hid (∀ e w', Z8 e w' -> ∃ v : Nat, e = .returned (.int .i64 (v : Int))) := by rw [<- hP]; rintro e w' ⟨rfl, _⟩; exact ⟨_, rfl⟩
 rw [hP] at HE ⊢
 clear h hx hP
 go_enter Tryz.func53, Tryz.ntmps53
 go_wp2_with fail
 refine HE.out.mono ?_
 intro e w1 h1
 obtain ⟨v, rfl⟩ := HR.out e w1 h1
 have H1 := zh h1
 clear h1
 go_wp2
 exact H1.out
structure Z3n (w wr : World) (v : Value) (l : List Nat) : Prop where
 quiet : Quiet w wr
 row : wr.ownsRow 0 34 1 v l.length (ZB l)
 own : ∀ k, v.ownBlock = some k -> w.heap.size <= k
theorem Z3y : Z05 Tryz.prog 82 34 1 8 := Z05.mk' (.int .u64 0) Tryz.underlying82 (by kernel_rfl) rfl (by decide)
section
variable {w wr w' : World} {v : Value} {l : List Nat}
theorem Z3n.start (h : Quiet w wr) : Z3n w wr (.slice none 0 0) [] := ⟨h, World.ownsRow_nil _ _ _ _, (fun _ x => by cases x)⟩
theorem Z3n.quietly (h : Z3n w wr v l) (hq : Quiet wr w') : Z3n w w' v l := ⟨h.quiet.trans hq, Z4 h.row hq (fun _ _ x => x), h.own⟩
theorem Z3n.step {w4 : World} {v' : Value} {o : Obj} {x : Nat} (h : Z3n w wr v l) (hg : ZW (wr.alloc o) w4 34 1 v v' (l.length + 1) (ZB l ++ ZB [x])) : Z3n w w4 v' (l ++ [x]) := by
 have hsz := h.quiet.size
 refine ⟨(h.quiet.alloc _).trans' hg.only (fun k hk e => by have := h.own k e; omega), ?_, fun k e => ?_⟩
 ·rw [List.length_append, show ZB (l ++ [x]) = ZB l ++ ZB [x] by simp [ZB]]
  exact hg.own
 ·rcases hg.loc with y | y
  ·rw [y] at e; exact h.own k e
  ·rw [y] at e; injection e with e; simp only [World.size_alloc] at e; omega
end
def Zbb (w : World) (l : List Nat) (e : Ending) (w' : World) : Prop := ∃ v, e = .returned v /\ Z3n w w' v l
theorem Zd4 (w : World) (x : Nat) (e : TypeId) : Rd (w.alloc (.cells #[.int .u64 (x : Int)] e)) (fun _ => True) 1 (some ⟨w.heap.size, 0, none⟩) 1 (ZB [x]) := Rd.new w 1 1 (ZB [x]) e _ rfl trivial
theorem Zig {F : Nat -> Prop} {lb : Nat} {L : List Nat} {w : World} (h : Zy w F lb L) (hl : L.length <= 1000000) :
  Calls Tryz.prog 61 #[.pointer (some ⟨lb, 0, none⟩)] w (Zbb w (Z3G L)) := by
 have HL := zh h
 obtain ⟨v, h⟩ := h
 obtain ⟨c0, c1, _⟩ := h.cells
 clear h
 go_enter Tryz.func61, Tryz.ntmps61
 go_wp2
 go_loopw [3, 11, 4] (fun o c _ wr => ∃ (k : Nat) (v' : Value), k <= L.length /\ c = .int .u64 (k : Int) /\ o = v' /\ Z3n w wr v' (Z5F L k)) (fun _ c _ _ => L.length - (intOf c).toNat)
 case atStart => exact ⟨0, _, Nat.zero_le _, rfl, rfl, Z3n.start (Z0.refl _ _)⟩
 case round =>
  obtain ⟨k, v', hk, rfl, rfl, hW⟩ := hrel
  have HW := zh hW
  obtain ⟨q0, q1⟩ : wr.cell? ⟨lb, 0, none⟩ = some (.int .u64 1) /\ wr.cell? ⟨lb, 1, none⟩ = some (.int .u64 (L.length : Int)) := ⟨hW.quiet.cell c0 (fun x => x), hW.quiet.cell c1 (fun x => x)⟩
  have hle := Z6e L k
  clear hW
  by_cases hlt : k < L.length
  ·have HST := zh (Z2t (x := k + 1) (HL.out.kept HW.out.quiet (fun _ _ x => x)) (by unfold U64; omega))
   have HRK := zh (ZdW L k)
   have hsk : stateL L (k + 1) = L.getD k 0 := by unfold stateL; rw [if_pos (by omega)]; rfl
   rw [hsk, show ((k + 1 : Nat) : Int) = 1 + (k : Int) by omega] at HST
   obtain ⟨st, hst⟩ : ∃ st, L.getD k 0 = st := ⟨_, rfl⟩
   rw [hst] at HST HRK
   clear hsk hst
   by_cases h1 : st = 1
   ·subst h1
    rw [if_pos rfl] at HRK
    go_wp2_with fail
    refine HST.out.mono ?_
    rintro e w1 ⟨rfl, n, rfl⟩
    have HW1 := zh (HW.out.quietly ((Z0.refl (fun _ => False) wr).drewN n))
    clear HW HST q0 q1
    generalize wr.drewN n = wd at HW1 ⊢
    have q0 : wd.cell? ⟨lb, 0, none⟩ = some (.int .u64 1) := HW1.out.quiet.cell c0 (fun x => x)
    have HRD : Hid (Rd (wd.alloc (.cells #[.int .u64 (1 + (k : Int))] 34)) (fun _ => True) 1 (some ⟨wd.heap.size, 0, none⟩) 1 (ZB [k + 1])) := by
     have := Zd4 wd (k + 1) 34
     rw [show ((k + 1 : Nat) : Int) = 1 + (k : Int) by omega] at this
     exact this
    have HR1 := zh (Z4 HW1.out.row ((Z0.refl (fun _ => False) wd).alloc (.cells #[.int .u64 (1 + (k : Int))] 34)) (fun _ _ x => x))
    go_wp2_with (at_builtin; refine app Z3y rfl (.tmp 23) (.tmp 30) rfl rfl HR1.out rfl HRD.out (Z4l [k + 1]) (by unfold maxLen; omega) (by omega) ?_)
    intro v4 w4 hg4
    have HST := zh (HW1.out.step hg4)
    clear hg4 HR1 HRD HW1 q0
    go_wp2
    go_roundw
    case rel => exact ⟨k + 1, _, by omega, by go_num, rfl, by rw [HRK.out]; exact HST.out⟩
    case measure => simp [intOf]; omega
   ·have hne : ¬ ((st : Nat) : Int) = 1 := by omega
    rw [if_neg h1, List.append_nil] at HRK
    clear h1
    go_wp2_with fail
    refine HST.out.mono ?_
    rintro e w1 ⟨rfl, n, rfl⟩
    have HW1 := zh (HW.out.quietly ((Z0.refl (fun _ => False) wr).drewN n))
    clear HW HST
    go_wp2
    go_roundw
    case rel => exact ⟨k + 1, _, by omega, by go_num, rfl, by rw [HRK.out]; exact HW1.out⟩
    case measure => simp [intOf]; omega
  ·obtain rfl : k = L.length := by omega
   rw [Z9M] at HW
   go_wp2
   go_ret
   exact ⟨_, rfl, HW.out⟩
def Z6f (w : World) (F : Nat -> Prop) (lb : Nat) (L : List Nat) (e : Ending) (w' : World) : Prop :=
 e = .returned (.tuple #[.int .u64 ((L.length : Int) + 1), .int .i64 0]) /\ Z0 F w w' /\ Zy w' (fun k => F k ∨ w.heap.size <= k) lb (L ++ [1])
theorem Zih (w : World) (e : TypeId) : Rd (w.alloc (.cells #[.int .u8 0] e)) (fun _ => True) 1 (some ⟨w.heap.size, 0, none⟩) 1 (Zg [0]) := Rd.new w 1 1 (Zg [0]) e _ rfl trivial
theorem Z1I.grow {w wd w4 : World} {F : Nat -> Prop} {lb : Nat} {L : List Nat} {v v4 : Value} (h : Z1I w F lb L v) (hq : Quiet w wd) (h4 : L.length % 4 = 0)
  (hg : ZW (wd.alloc (.cells #[.int .u8 0] 5)) w4 5 1 v v4 ((Z0N L).length + 1) (Zg (Z0N L) ++ Zg [0])) (hm : L.length < 1099511627776) (z : Int) (hz : z = (L.length : Int) + 1) :
  Z0 F w ((w4.setCell ⟨lb, 2, none⟩ v4).setCell ⟨lb, 1, none⟩ (.int .u64 z)) /\ Z1I ((w4.setCell ⟨lb, 2, none⟩ v4).setCell ⟨lb, 1, none⟩ (.int .u64 z)) (fun k => F k ∨ w.heap.size <= k) lb (L ++ [0]) v4 := by
 subst hz
 have hne : ∀ k, v.ownBlock = some k -> k ≠ lb := fun k e => by
  obtain ⟨c, hh⟩ := Zj h.row e
  exact (Za h.box hh (by decide)).symm
 have hl := Z2 h.box
 have hsz := hq.size
 have hqa : Quiet w (wd.alloc (.cells #[.int .u8 0] 5)) := hq.alloc _
 have b4 := hg.only.get (hqa.get h.box (fun x => x)) (fun e => hne lb e rfl)
 have ho2 : Z0 (· = lb) w4 ((w4.setCell ⟨lb, 2, none⟩ v4).setCell ⟨lb, 1, none⟩ (.int .u64 ((L.length : Int) + 1))) := ((Z0.refl (· = lb) w4).setCell (p := ⟨lb, 2, none⟩) (fun _ => rfl) v4).setCell (p := ⟨lb, 1, none⟩) (fun _ => rfl) _
 have hv4 : ∀ k, v4.ownBlock = some k -> k ≠ lb /\ (F k ∨ w.heap.size <= k) := fun k e => by
  rcases hg.loc with x | x
  ·rw [x] at e; exact ⟨hne k e, Or.inl (h.foot.2 k e)⟩
  ·rw [x] at e; injection e with e; simp only [World.size_alloc] at e; exact ⟨by omega, Or.inr (by omega)⟩
 refine ⟨((hqa.mono (T := F) (fun _ _ x => x.elim)).trans' hg.only (fun k _ e => h.foot.2 k e)).trans' ho2 (fun k _ e => by subst e; exact h.foot.1), ?_, ?_, ⟨Or.inl h.foot.1, fun k e => (hv4 k e).2⟩, h.st.snoc (by omega), by simp; omega⟩
 ·rw [Zf (Zf b4 2 _) 1 _]
  simp
 ·rw [Z6d]
  unfold Z6Y
  rw [if_pos h4, List.length_append, show Zg (Z0N L ++ [0]) = Zg (Z0N L) ++ Zg [0] by simp [Zg]]
  exact Z4 hg.own ho2 (fun k e x => (hv4 k e).1 x)
theorem Z1I.count {w wd : World} {F : Nat -> Prop} {lb : Nat} {L : List Nat} {v : Value} (h : Z1I w F lb L v) (hq : Quiet w wd) (h4 : ¬ L.length % 4 = 0) (hm : L.length < 1099511627776) (z : Int) (hz : z = (L.length : Int) + 1) :
  Z0 F w (wd.setCell ⟨lb, 1, none⟩ (.int .u64 z)) /\ Z1I (wd.setCell ⟨lb, 1, none⟩ (.int .u64 z)) (fun k => F k ∨ w.heap.size <= k) lb (L ++ [0]) v := by
 subst hz
 have hne : ∀ k, v.ownBlock = some k -> k ≠ lb := fun k e => by
  obtain ⟨c, hh⟩ := Zj h.row e
  exact (Za h.box hh (by decide)).symm
 have bd := hq.get h.box (fun x => x)
 have ho2 : Z0 (· = lb) wd (wd.setCell ⟨lb, 1, none⟩ (.int .u64 ((L.length : Int) + 1))) := (Z0.refl (· = lb) wd).setCell (p := ⟨lb, 1, none⟩) (fun _ => rfl) _
 refine ⟨(hq.mono (T := F) (fun _ _ x => x.elim)).trans' ho2 (fun k _ e => by subst e; exact h.foot.1), ?_, ?_, ⟨Or.inl h.foot.1, fun k e => Or.inl (h.foot.2 k e)⟩, h.st.snoc (by omega), by simp; omega⟩
 ·rw [Zf bd 1 _]
  simp
 ·rw [Z6d]
  unfold Z6Y
  rw [if_neg h4]
  exact Z4 (Z4 h.row hq (fun _ _ x => x)) ho2 (fun k e x => hne k e x)
theorem ZfA {F : Nat -> Prop} {lb : Nat} {L : List Nat} {w : World} (h : Zy w F lb L) (hm : L.length < 1099511627776) :
  Calls Tryz.prog 28 #[.pointer (some ⟨lb, 0, none⟩)] w (Z6f w F lb L) := by
 have HNX := zh (Z4w h)
 obtain ⟨v, h⟩ := h
 have HN2 : Hid (∀ n, Calls Tryz.prog 59 #[.pointer (some ⟨lb, 0, none⟩)] (w.drewN n) fun e w' => e = .returned (.int .u64 ((L.length : Int) + 1)) /\ ∃ m, w' = (w.drewN n).drewN m) := fun n => Z4w ⟨v, h.kept ((Z0.refl (fun _ => False) w).drewN n) (fun _ _ x => x)⟩
 have H := zh h
 have d0 : decide ((1099511627776 : Int) < (L.length : Int) + 1) = false := decide_eq_false (by omega)
 have hsz := Z2 h.box
 clear h
 go_enter Tryz.func28, Tryz.ntmps28
 go_wp2_with fail
 refine HNX.out.mono ?_
 rintro e w1 ⟨rfl, n, rfl⟩
 go_wp2_with fail
 refine (HN2.out n).mono ?_
 rintro e w2 ⟨rfl, m, rfl⟩
 have HQ : Hid (Quiet w ((w.drewN n).drewN m)) := ((Z0.refl _ w).drewN n).drewN m
 generalize (w.drewN n).drewN m = wd at HQ ⊢
 obtain ⟨_, q1, q2⟩ := (H.out.kept HQ.out (fun _ _ x => x)).cells
 have hf : ∀ o, wd.frozen? ⟨lb, o, none⟩ = false := fun o => Z7 (HQ.out.get H.out.box (fun x => x)) o
 have hlw : lb < wd.heap.size := Z2 (HQ.out.get H.out.box (fun x => x))
 have e1 : IntKind.u64.wrap ((L.length : Int) + 1) = (L.length : Int) + 1 := by rw [IntKind.wrap_u64]; omega
 by_cases h4 : L.length % 4 = 0
 ·have d4 : (L.length : Int) % 4 = 0 := by omega
  have HROW := zh (Z4 (Z4 H.out.row HQ.out (fun _ _ x => x)) ((Z0.refl (fun _ => False) wd).alloc (.cells #[.int .u8 0] 5)) (fun _ _ x => x))
  have HL := zh (ZZ L)
  have HNE : Hid (∀ k, v.ownBlock = some k -> k ≠ lb) := fun k e => by
   obtain ⟨c, hh⟩ := Zj H.out.row e
   exact (Za H.out.box hh (by decide)).symm
  go_wp2_with (at_builtin; refine app Z4k rfl (.tmp 24) (.tmp 25) rfl rfl HROW.out rfl (Zih _ 5) (Z31 [0]) (by rw [HL.out]; unfold maxLen; omega) (by rw [HL.out]; omega) ?_)
  intro v4 w4 hg4
  have b4 := hg4.only.get ((HQ.out.alloc _).get H.out.box (fun x => x)) (fun e => HNE.out lb e rfl)
  obtain ⟨A4, c4, hv4, _, _, _⟩ := Z9 hg4.own
  subst hv4
  have s1 := Z1 b4 1
  have s2 := Z1 b4 2
  have s3 := fun o => Z7 b4 o
  simp only [zGA, zGS, zGZ] at s1 s2
  have HG := zh (H.out.grow HQ.out h4 hg4 hm _ rfl)
  clear hg4 b4 q1 q2 hf HROW HL HNX HN2
  go_wp2_with fail
  refine (Z98 (i := L.length) (s := 1) HG.out.2 (by simp) (by omega)).mono ?_
  rintro e w5 ⟨rfl, ho5, hl5⟩
  rw [Zb9] at hl5
  have HP : Hid (Z6f w F lb L (.returned (.tuple #[.int .u64 ((L.length : Int) + 1), .int .i64 0])) w5) :=
   ⟨rfl, HG.out.1.trans' ho5 (fun k hk x => by rcases x with x | x; exact x; omega), _, hl5⟩
  clear ho5 hl5 HG
  go_wp2
  go_ret2
  exact HP.out
 ·have d4 : ¬ (L.length : Int) % 4 = 0 := by omega
  have HG := zh (H.out.count HQ.out h4 hm _ rfl)
  clear HNX HN2 h4
  go_wp2_with fail
  refine (Z98 (i := L.length) (s := 1) HG.out.2 (by simp) (by omega)).mono ?_
  rintro e w5 ⟨rfl, ho5, hl5⟩
  rw [Zb9] at hl5
  have HP : Hid (Z6f w F lb L (.returned (.tuple #[.int .u64 ((L.length : Int) + 1), .int .i64 0])) w5) :=
   ⟨rfl, HG.out.1.trans' ho5 (fun k hk x => by rcases x with x | x; exact x; omega), _, hl5⟩
  clear ho5 hl5 HG
  go_wp2
  go_ret2
  exact HP.out
end Go.Proofs.YtnidjfjkodingaaGreatDoor
namespace Go.Proofs.YtnidjfjkodingaaGreatDoor
open Go.RowKit Go.Lap Go.Maps
theorem Zh2 : laidOutB Tryz.prog = true := by kernel_rfl
theorem Zii : (48 : TypeId) < Tryz.prog.types.size := of_decide_eq_true (by kernel_rfl)
theorem Zh3 : (match Tryz.prog.underlying 48 with | some (.array _ _) | some (.struct _) => true | _ => false) = true := by kernel_rfl
theorem keyed_tid : Keyed Tryz.prog 48 := Keyed.of_law (deep_law_laid Zh2 (m := 2) (by omega) Zii (by kernel_rfl) Zh3)
def klT (p : Int × Int) : Lit := .string (keyBytes [.int .i64 p.1, .int .i64 p.2])
def Wf (p : Int × Int) : Prop := (Lit.int .i64 p.1).wf = true /\ (Lit.int .i64 p.2).wf = true
theorem Z8g : Tryz.prog.cellsOf 48 = 2 := by kernel_rfl
theorem Ze0 : Tryz.prog.cellsOf 3 = 1 := by kernel_rfl
theorem Zcp (d : Nat) {p : Int × Int} (h : Wf p) : Tryz.prog.keyLits (d + 2) 48 [.int .i64 p.1, .int .i64 p.2] = some [.int .i64 p.1, .int .i64 p.2] := by
 obtain ⟨h1, h2⟩ := h
 have hu := Tryz.underlying48
 have hi := Tryz.underlying3
 unfold Program.keyLits
 simp only [hu]
 rw [if_pos ⟨by rw [Z8g]; rfl, by kernel_rfl⟩]
 simp only [List.mapM_cons, List.mapM_nil, Ze0]
 simp [Program.keyLits, hi, h1, h2]
theorem Z3P {p : Int × Int} (h : Wf p) : keyOf Tryz.prog 48 (.agg #[.int .i64 p.1, .int .i64 p.2]) = some (klT p) := by
 have hk : Tryz.prog.keyType 48 = true := by kernel_rfl
 have hu := Tryz.underlying48
 obtain ⟨m, hm⟩ : ∃ m, Tryz.prog.types.size + 1 = m + 2 := by
  have h1 : 1 <= Tryz.prog.types.size := of_decide_eq_true (by kernel_rfl)
  generalize Tryz.prog.types.size = k at h1
  exact ⟨k - 1, by omega⟩
 unfold keyOf
 simp only [hu]
 rw [if_pos (by simp [hk, Value.formed, hu, Z8g]), hm]
 simp only [Value.cells]
 rw [Zcp m h]
 rfl
theorem Zij {p q : Int × Int} (hp : Wf p) (hq : Wf q) (h : klT p = klT q) : p = q := by
 have := keyed_tid.inj (Z3P hp) (by rw [h]; exact Z3P hq)
 injection this with this
 injection this with this
 simp at this
 exact Prod.ext this.1 this.2
theorem Z3Q {P : Program} {e : TypeId} (he : P.underlying e = some .bool) {v : Value} {z : DataW Unit × List MemPlace} (h : plainElem P e v = some z) : ∃ a, v = .bool a /\ z = (.lit (.bool a), []) := by
 unfold plainElem at h
 rw [he] at h
 cases v <;> simp at h
 subst h
 exact ⟨_, rfl, rfl⟩
theorem Z8h (w : World) : (zeroValue 4).run Tryz.prog w = .ok (.bool false) w := by kernel_rfl
def Z1J (w : World) (m : Nat) (l : List (Int × Int)) : Prop :=
 ∃ D : DataW Unit, w.ownsMap Tryz.prog 48 (plainElem Tryz.prog 4) m l.length D /\ IsMap D /\ ∀ p, Wf p -> D.atKey (klT p) (.lit (.bool false)) = .lit (.bool (decide (p ∈ l)))
theorem Z1J.kept {S : Nat -> Prop} {w w' : World} {m : Nat} {l : List (Int × Int)} (h : Z1J w m l) (ho : Z0 S w w') (hn : ¬ S m) : Z1J w' m l := by
 obtain ⟨D, ⟨es, clock, h1, r⟩, h2⟩ := h
 exact ⟨D, ⟨es, clock, ho.get h1 hn, r⟩, h2⟩
theorem ZfB (w : World) : Z1J (w.alloc (.map #[] 0)) w.heap.size [] :=
 ⟨.map [], World.ownsMap_made _ _ _ _, isMap_empty, fun p _ => rfl⟩
theorem Z1J.lookup {w : World} {m : Nat} {l : List (Int × Int)} (h : Z1J w m l) {p : Int × Int} (hp : Wf p) :
  (Instr.lookup 284 (.map (some m)) (.agg #[.int .i64 p.1, .int .i64 p.2]) false).run Tryz.prog w = .ok (.bool (decide (p ∈ l))) w := by
 obtain ⟨D, h1, _, h3⟩ := h
 obtain ⟨v, ps, hrun, hv⟩ := h1.lookup keyed_tid Tryz.underlying284 (Z8h w) (plainElem_bool Tryz.underlying4 false) (Z3P hp)
 rw [h3 p hp] at hv
 obtain ⟨a, rfl, hz⟩ := Z3Q Tryz.underlying4 hv
 injection hz with hz _
 injection hz with hz
 injection hz with hz
 rw [hrun, hz]
theorem Z1J.update {w : World} {m : Nat} {l : List (Int × Int)} (h : Z1J w m l) {p : Int × Int} (hp : Wf p) (hl : l.length < maxLen) :
  ∃ w', (Instr.mapUpdate 284 (.map (some m)) (.agg #[.int .i64 p.1, .int .i64 p.2]) (.bool true)).run Tryz.prog w = .ok () w' /\ Z1J w' m (l ++ [p]) /\ Z0 (· = m) w w' := by
 obtain ⟨D, h1, h2, h3⟩ := h
 obtain ⟨w', hrun, ho, hg⟩ := h1.update keyed_tid Tryz.underlying284 hl (Z3P hp) (plainElem_bool Tryz.underlying4 true)
 refine ⟨w', hrun, ⟨_, by rw [List.length_append]; exact ho, h2.put _ _, fun q hq => ?_⟩, (Z0.refl _ _).byMap hg (fun _ => rfl)⟩
 by_cases e : q = p
 ·subst e
  rw [atKey_put_same h2 (keyed_tid.key (Z3P hq))]
  simp
 ·rw [atKey_put_other (fun x => e (Zij hq hp x)), h3 q hq]
  simp [e]
section
variable {w : World} {ops : Array Oper} {rest : List Oper} {o : Oper} {a : Act} {Q : Exit -> Act -> World -> Prop}
theorem Z9O {b : Nat} {l : List (Int × Int)} {p : Int × Int} (hg : o.guard = none) (m x : Operand) (hop : o.op = Op.lookup 284 m x false) (hm : a.eval m = .map (some b)) (hx : a.eval x = .agg #[.int .i64 p.1, .int .i64 p.2])
  (h : Z1J w b l) (hp : Wf p) {r : Bool} (hr : decide (p ∈ l) = r) (hK : wpList Tryz.prog ops Q rest (a.put o.dst (.bool r)) w) : wpList Tryz.prog ops Q (o :: rest) a w := by
 refine wpList_plain hg fun K' hK' => ?_
 have hrun := h.lookup hp
 rw [hr] at hrun
 unfold Oper.wp
 simp [execOp, hop, hm, hx, hrun, Result.andThen]
 exact hK' _ _ hK
theorem Zh4 {b : Nat} {l : List (Int × Int)} {p : Int × Int} (hg : o.guard = none) (m x v : Operand) (hop : o.op = Op.mapUpdate 284 m x v) (hm : a.eval m = .map (some b)) (hx : a.eval x = .agg #[.int .i64 p.1, .int .i64 p.2]) (hv : a.eval v = .bool true)
  (h : Z1J w b l) (hp : Wf p) (hl : l.length < maxLen) (hK : ∀ w', Z1J w' b (l ++ [p]) -> Z0 (· = b) w w' -> wpList Tryz.prog ops Q rest (a.put o.dst undef) w') : wpList Tryz.prog ops Q (o :: rest) a w := by
 refine wpList_plain hg fun K' hK' => ?_
 obtain ⟨w', hrun, h1, h2⟩ := h.update hp hl
 unfold Oper.wp
 simp [execOp, hop, hm, hx, hv, hrun, Result.andThen]
 exact hK' _ _ (hK w' h1 h2)
end
end Go.Proofs.YtnidjfjkodingaaGreatDoor
namespace Go.Proofs.YtnidjfjkodingaaGreatDoor
open Go.RowKit Go.Lap
theorem Z4z : Z05 Tryz.prog 101 48 2 16 := Z05.mk' (.agg #[.int .i64 0, .int .i64 0]) Tryz.underlying101 (by kernel_rfl) rfl (by decide)
abbrev TidsAt (w : World) (v : Value) (l : List (Int × Int)) : Prop := w.ownsRow 0 48 2 v l.length (ZM l)
theorem Zh5 (w : World) (p : Int × Int) : Rd (w.alloc (.cells #[.int .i64 p.1, .int .i64 p.2] 48)) (fun _ => True) 2 (some ⟨w.heap.size, 0, none⟩) 1 (ZM [p]) := Rd.new w 2 1 (ZM [p]) _ _ rfl trivial
section
variable {w W W' : World} {K K' : Nat -> Prop} {hb pb : Nat} {H : List (List (Option Tup))} {left : Nat}
end
theorem Z8i {w : World} {b : Nat} {t : TypeId} {fr : Nat × Nat} (h : w.heap[b]? = some (.cells #[.int .u64 0, .int .u64 0, .int .u64 0, .int .i64 0, .int .i64 0, .slice none 0 0] t fr)) :
  w.cell? ⟨b, 0, none⟩ = some (.int .u64 0) /\ w.cell? ⟨b, 1, none⟩ = some (.int .u64 0) /\ w.cell? ⟨b, 2, none⟩ = some (.int .u64 0) /\ w.cell? ⟨b, 3, none⟩ = some (.int .i64 0) /\ w.cell? ⟨b, 4, none⟩ = some (.int .i64 0) /\ w.cell? ⟨b, 5, none⟩ = some (.slice none 0 0) :=
 ⟨by rw [Z1 h]; rfl, by rw [Z1 h]; rfl, by rw [Z1 h]; rfl, by rw [Z1 h]; rfl, by rw [Z1 h]; rfl, by rw [Z1 h]; rfl⟩
theorem Z9Q (w : World) (pg sl : Int) : Quiet w ((w.alloc (.cells #[.int .i64 pg, .int .i64 sl] 48)).alloc (.cells #[.int .u64 0, .int .u64 0, .int .u64 0, .int .i64 0, .int .i64 0, .slice none 0 0] 104)) ∧
  ((w.alloc (.cells #[.int .i64 pg, .int .i64 sl] 48)).alloc (.cells #[.int .u64 0, .int .u64 0, .int .u64 0, .int .i64 0, .int .i64 0, .slice none 0 0] 104)).heap[w.heap.size]? = some (.cells #[.int .i64 pg, .int .i64 sl] 48 (0, 0)) ∧
  ((w.alloc (.cells #[.int .i64 pg, .int .i64 sl] 48)).alloc (.cells #[.int .u64 0, .int .u64 0, .int .u64 0, .int .i64 0, .int .i64 0, .slice none 0 0] 104)).heap[w.heap.size + 1]? = some (.cells #[.int .u64 0, .int .u64 0, .int .u64 0, .int .i64 0, .int .i64 0, .slice none 0 0] 104 (0, 0)) :=
 ⟨((Z0.refl _ _).alloc _).alloc _, Zd (Z5 _ _) _, Z0r _ _ _⟩
theorem Z7f (h0 pp : Option Addr) (pg sl : Int) (w : World) (hpg : ∀ W : World, Quiet w W -> Calls Tryz.prog 77 #[.pointer h0, .int .i64 pg] W fun e w' => e = .returned (.pointer pp) /\ W = w')
  (hgt : ∀ W : World, Quiet w W -> Calls Tryz.prog 78 #[.pointer pp, .int .i64 sl] W (Z3v W)) :
  Calls Tryz.prog 38 #[.pointer h0, .agg #[.int .i64 pg, .int .i64 sl]] w (Z3v w) := by
 have HPG := zh hpg
 have HGT := zh hgt
 have H0 := zh (Z9Q w pg sl)
 clear hpg hgt
 go_enter Tryz.func38, Tryz.ntmps38
 go_wp2_with fail
 go_region_held3 (fun w' => w'.cell? ⟨w.heap.size, 0, none⟩ = some (.int .i64 pg) /\ w'.cell? ⟨w.heap.size, 1, none⟩ = some (.int .i64 sl))
  (first | go_keep | exact Z3O (by exact H0.out.2.1) hq3 (fun x => x) | fail)
  (first
    | (go_at_call 77; go_must (refine (HPG.out _ (H0.out.1.drew)).mono ?_; rintro e w2 ⟨rfl, rfl⟩))
    | (go_at_call 78; go_must (refine (HGT.out _ (H0.out.1.drew)).mono ?_; rintro e w3 ⟨rfl, hq3⟩; have hr3 := hq3.get (by exact H0.out.2.2) (fun x => x); obtain ⟨z0, z1, z2, z3, z4, z5⟩ := Z8i hr3; have zf := fun o => Z7 hr3 o))
    | fail)
 have HX := zh (Z0Z hr3 (.int .u64 0) (.int .u64 0) (.int .u64 0) (.int .i64 0) (.int .i64 0) (.slice none 0 0))
 have HQ : Hid (Quiet w (sixSet w3 (w.heap.size + 1) (.int .u64 0) (.int .u64 0) (.int .u64 0) (.int .i64 0) (.int .i64 0) (.slice none 0 0))) := (H0.out.1.drew.trans hq3).trans' (Z0A _ _ _ _ _ _ _ _) (fun k hk e => by omega)
 clear hq3 hr3 HPG HGT H0 z0 z1 z2 z3 z4 z5 zf
 unfold sixSet at HX HQ
 go_wp2
 generalize ((((((w3.setCell ⟨w.heap.size + 1, 0, none⟩ (.int .u64 0)).setCell ⟨w.heap.size + 1, 1, none⟩ (.int .u64 0)).setCell ⟨w.heap.size + 1, 2, none⟩ (.int .u64 0)).setCell ⟨w.heap.size + 1, 3, none⟩ (.int .i64 0)).setCell ⟨w.heap.size + 1, 4, none⟩ (.int .i64 0)).setCell ⟨w.heap.size + 1, 5, none⟩ (.slice none 0 0)) = W6 at HX HQ ⊢
 exact bodyPost_ret (ZC Tryz.results38 _ _ (w.heap.size + 1) _ _ (0, 0) _ (by rfl) HX.out Tryz.underlying104 rfl Z2T) (by rfl) ⟨rfl, HQ.out⟩
theorem ZfC {w W1 w5 W6 : World} {v : Value} {l : List Nat} (hq : Quiet w W1) (hs : w.heap.size + 1 < W1.heap.size) (h : Z0K W1 w5 v l) (ho : Z0 (· = w.heap.size + 1) w5 W6) : Z0K w W6 v l := by
 have hz := hq.size
 exact ⟨(hq.trans h.quiet).trans' ho (fun k hk e => by omega), fun k e => by have := h.new k e; omega, Z4 h.own ho (fun k e x => by have := h.new k e; omega)⟩
theorem Zbc (h0 pp : Option Addr) (pg sl : Int) (t : Tup) (w : World) (hpg : ∀ W : World, Quiet w W -> Calls Tryz.prog 77 #[.pointer h0, .int .i64 pg] W fun e w' => e = .returned (.pointer pp) /\ W = w')
  (hgt : ∀ W : World, Quiet w W -> Calls Tryz.prog 78 #[.pointer pp, .int .i64 sl] W (Z21 W t)) :
  Calls Tryz.prog 38 #[.pointer h0, .agg #[.int .i64 pg, .int .i64 sl]] w (Z21 w t) := by
 have HPG := zh hpg
 have HGT := zh hgt
 have H0 := zh (Z9Q w pg sl)
 clear hpg hgt
 go_enter Tryz.func38, Tryz.ntmps38
 go_wp2_with fail
 go_region_held3 (fun w' => w'.cell? ⟨w.heap.size, 0, none⟩ = some (.int .i64 pg) /\ w'.cell? ⟨w.heap.size, 1, none⟩ = some (.int .i64 sl))
  (first | go_keep | exact Z3O (by exact H0.out.2.1) hf3.quiet (fun x => x) | fail)
  (first
    | (go_at_call 77; go_must (refine (HPG.out _ (H0.out.1.drew)).mono ?_; rintro e w2 ⟨rfl, rfl⟩))
    | (go_at_call 78; go_must (refine (HGT.out _ (H0.out.1.drew)).mono ?_; rintro e w3 ⟨A3, c3, rfl, hf3⟩; unfold Zt; have hr3 := hf3.quiet.get (by exact H0.out.2.2) (fun x => x); obtain ⟨z0, z1, z2, z3, z4, z5⟩ := Z8i hr3; have zf := fun o => Z7 hr3 o))
    | fail)
 have HX := zh (Z0Z hr3 (.int .u64 t.row) (.int .u64 t.xmin) (.int .u64 t.xmax) (.int .i64 t.pg) (.int .i64 t.sl) (.slice A3 t.data.length c3))
 have HQ := zh (ZfC H0.out.1.drew (by show w.heap.size + 1 < ((w.alloc _).alloc _).heap.size; simp) hf3 (Z0A w3 (w.heap.size + 1) (.int .u64 t.row) (.int .u64 t.xmin) (.int .u64 t.xmax) (.int .i64 t.pg) (.int .i64 t.sl) (.slice A3 t.data.length c3)))
 clear hf3 hr3 HPG HGT H0 z0 z1 z2 z3 z4 z5 zf
 unfold sixSet at HX HQ
 go_wp2
 generalize ((((((w3.setCell ⟨w.heap.size + 1, 0, none⟩ (.int .u64 t.row)).setCell ⟨w.heap.size + 1, 1, none⟩ (.int .u64 t.xmin)).setCell ⟨w.heap.size + 1, 2, none⟩ (.int .u64 t.xmax)).setCell ⟨w.heap.size + 1, 3, none⟩ (.int .i64 t.pg)).setCell ⟨w.heap.size + 1, 4, none⟩ (.int .i64 t.sl)).setCell ⟨w.heap.size + 1, 5, none⟩ (.slice A3 t.data.length c3)) = W6 at HX HQ ⊢
 exact bodyPost_ret (ZC Tryz.results38 _ _ (w.heap.size + 1) _ _ (0, 0) _ (by rfl) HX.out Tryz.underlying104 rfl Z2T) (by rfl) (Z87 HQ.out)
section
variable {w : World} {hb pb : Nat} {F : Nat -> Prop} {H : List (List (Option Tup))}
theorem ZiK (pg sl : Int) (h : Zp w hb pb F H) (hg : ZR H pg sl = none) : Calls Tryz.prog 38 #[.pointer (some ⟨hb, 0, none⟩), .agg #[.int .i64 pg, .int .i64 sl]] w (Z3v w) := by
 obtain ⟨v, ps, rb, h⟩ := h
 by_cases hn : pg < 0 ∨ (H.length : Int) <= pg
 ·exact Z7f _ none pg sl w (fun W hq => Z3w pg (h.kept hq (fun _ _ x => x)) hn) (fun W _ => Zb1 sl W)
 ·obtain ⟨k, rfl⟩ := Int.eq_ofNat_of_zero_le (show 0 <= pg by omega)
  obtain ⟨T, hT⟩ : ∃ T, H[k]? = some T := ⟨_, zg (show k < H.length by omega)⟩
  obtain ⟨p, hp, hpt⟩ := h.pg k T hT
  rw [Z23 sl hT] at hg
  exact Z7f _ (some ⟨p, 0, none⟩) k sl w (fun W hq => Z1E k p (h.kept hq (fun _ _ x => x)) hp) (fun W hq => Z5j p T sl W (hpt.kept hq (fun x => x)) hg)
theorem Z2J (pg sl : Int) (t : Tup) (h : Zp w hb pb F H) (hg : ZR H pg sl = some t) : Calls Tryz.prog 38 #[.pointer (some ⟨hb, 0, none⟩), .agg #[.int .i64 pg, .int .i64 sl]] w (Z21 w t) := by
 obtain ⟨v, ps, rb, h⟩ := h
 have hn : ¬ (pg < 0 ∨ (H.length : Int) <= pg) := fun x => by rw [Z1i x] at hg; cases hg
 obtain ⟨k, rfl⟩ := Int.eq_ofNat_of_zero_le (show 0 <= pg by omega)
 obtain ⟨T, hT⟩ : ∃ T, H[k]? = some T := ⟨_, zg (show k < H.length by omega)⟩
 obtain ⟨p, hp, hpt⟩ := h.pg k T hT
 rw [Z23 sl hT] at hg
 exact Zbc _ (some ⟨p, 0, none⟩) k sl t w (fun W hq => Z1E k p (h.kept hq (fun _ _ x => x)) hp) (fun W hq => Z5k p t T sl W (hpt.kept hq (fun x => x)) hg)
theorem Z7g (w : World) (pg sl npg nsl : Int) : Quiet w ((w.alloc (.cells #[.int .i64 pg, .int .i64 sl] 48)).alloc (.cells #[.int .i64 npg, .int .i64 nsl] 48)) ∧
  ((w.alloc (.cells #[.int .i64 pg, .int .i64 sl] 48)).alloc (.cells #[.int .i64 npg, .int .i64 nsl] 48)).heap[w.heap.size]? = some (.cells #[.int .i64 pg, .int .i64 sl] 48 (0, 0)) ∧
  ((w.alloc (.cells #[.int .i64 pg, .int .i64 sl] 48)).alloc (.cells #[.int .i64 npg, .int .i64 nsl] 48)).heap[w.heap.size + 1]? = some (.cells #[.int .i64 npg, .int .i64 nsl] 48 (0, 0)) :=
 ⟨((Z0.refl _ _).alloc _).alloc _, Zd (Z5 _ _) _, Z0r _ _ _⟩
theorem Z99 (pg sl : Int) (x : Nat) (npg nsl : Int) (h : Zp w hb pb F H) (hn : pg < 0 ∨ (H.length : Int) <= pg) :
  Calls Tryz.prog 50 #[.pointer (some ⟨hb, 0, none⟩), .agg #[.int .i64 pg, .int .i64 sl], .int .u64 (x : Int), .agg #[.int .i64 npg, .int .i64 nsl]] w fun e w' => e = .returned (.int .i64 (Z0a [] sl x npg nsl).1) /\ Quiet w w' := by
 obtain ⟨v, ps, rb, h⟩ := h
 have H0 := zh (Z7g w pg sl npg nsl)
 have HPG := zh (Z3w pg (h.kept H0.out.1 (fun _ _ x => x)) hn)
 clear h hn
 go_enter Tryz.func50, Tryz.ntmps50
 go_wp2_with fail
 refine HPG.out.mono ?_
 rintro e w1 ⟨rfl, rfl⟩
 go_wp2_with fail
 refine (Z35 _).mono ?_
 rintro e w2 ⟨rfl, hq2, hs2, hp2⟩
 have HQ2 := zh (H0.out.1.trans hq2)
 obtain ⟨t0, t1⟩ := Z3O H0.out.2.1 hq2 (fun x => x)
 obtain ⟨n0, n1⟩ := Z3O H0.out.2.2 hq2 (fun x => x)
 simp only [World.size_alloc] at hp2
 have HST := zh (Z7b (w.heap.size + 1 + 1) [] sl x npg nsl w2 hp2)
 clear hq2 hs2 hp2 HPG H0
 go_wp2_with fail
 refine HST.out.mono ?_
 rintro e w3 ⟨rfl, ho3, hp3⟩
 go_wp2
 go_ret
 exact ⟨rfl, HQ2.out.trans' ho3 (fun k hk e => by omega)⟩
theorem Zav (k : Nat) (sl : Int) (x : Nat) (npg nsl : Int) (T : List (Option Tup)) (h : Zp w hb pb F H) (hT : H[k]? = some T) :
  Calls Tryz.prog 50 #[.pointer (some ⟨hb, 0, none⟩), .agg #[.int .i64 (k : Int), .int .i64 sl], .int .u64 (x : Int), .agg #[.int .i64 npg, .int .i64 nsl]] w fun e w' => e = .returned (.int .i64 (Z0a T sl x npg nsl).1) /\ Z0 F w w' /\ Zp w' hb pb F (H.set k (Z0a T sl x npg nsl).2) := by
 obtain ⟨v, ps, rb, h⟩ := h
 obtain ⟨p, hp, hpt⟩ := h.pg k T hT
 have hkl : k < H.length := (zi.1 hT).1
 have H0 := zh (Z7g w k sl npg nsl)
 have hh1 := h.kept H0.out.1 (fun _ _ x => x)
 have HPG := zh (Z1E k p hh1 hp)
 have HST := zh (Z7b p T sl x npg nsl _ (hpt.kept H0.out.1 (fun x => x)))
 have HH := zh hh1
 have HHP := zh hp
 have hR : (H.set k (Z0a T sl x npg nsl).2).map ZL = H.map ZL := by
  rw [List.map_set, Zck]
  apply List.ext_getElem?
  intro j
  rw [List.getElem?_set]
  by_cases e : k = j
  ·subst e
   rw [if_pos rfl, if_pos (by simpa using hkl), List.getElem?_map, hT]; rfl
  ·rw [if_neg e]
 have HR := zh hR
 clear h hh1 hp hpt hT hR
 go_enter Tryz.func50, Tryz.ntmps50
 go_wp2_with fail
 refine HPG.out.mono ?_
 rintro e w1 ⟨rfl, rfl⟩
 go_wp2_with fail
 refine HST.out.mono ?_
 rintro e w3 ⟨rfl, ho3, hp3⟩
 have HH3 := zh (HH.out.turn HHP.out ho3 hp3)
 have HO3 : Hid (Z0 F w w3) := (H0.out.1.mono (T := F) (fun _ _ x => x.elim)).trans' ho3 (fun j _ e => by subst e; exact HH.out.foot.2.2.1 j (List.mem_of_getElem? HHP.out))
 clear ho3 hp3
 go_wp2
 go_ret
 exact ⟨rfl, HO3.out, _, _, _, by rw [HR.out]; exact HH3.out⟩
theorem Ze2 (pg sl : Int) (x : Nat) (npg nsl : Int) (h : Zp w hb pb F H) :
  Calls Tryz.prog 50 #[.pointer (some ⟨hb, 0, none⟩), .agg #[.int .i64 pg, .int .i64 sl], .int .u64 (x : Int), .agg #[.int .i64 npg, .int .i64 nsl]] w fun e w' => e = .returned (.int .i64 (Z22 H pg sl x npg nsl).1) /\ Z0 F w w' /\ Zp w' hb pb F (Z22 H pg sl x npg nsl).2 := by
 by_cases hn : pg < 0 ∨ (H.length : Int) <= pg
 ·have e : Z22 H pg sl x npg nsl = ((Z0a [] sl x npg nsl).1, H) := by unfold Z22; rw [if_pos hn]
  rw [e]
  refine (Z99 pg sl x npg nsl h hn).mono ?_
  rintro e w' ⟨rfl, hq⟩
  exact ⟨rfl, hq.mono (fun _ _ x => x.elim), h.kept hq (fun _ _ x => x)⟩
 ·obtain ⟨k, rfl⟩ := Int.eq_ofNat_of_zero_le (show 0 <= pg by omega)
  obtain ⟨T, hT⟩ : ∃ T, H[k]? = some T := ⟨_, zg (show k < H.length by omega)⟩
  have e : Z22 H (k : Int) sl x npg nsl = ((Z0a T sl x npg nsl).1, H.set k (Z0a T sl x npg nsl).2) := by
   unfold Z22
   rw [if_neg hn, Int.toNat_natCast, Z6W hT]
  rw [e]
  exact Zav k sl x npg nsl T h hT
end
theorem Zd5 {z : Int} (h : -9223372036854775808 <= z /\ z < 9223372036854775808) : (Lit.int .i64 z).wf = true := WalkArith.wf_i64 (by omega)
theorem far_bounds {pg sl : Int} (h : Z0R pg sl = false) : -1 <= pg /\ pg < 65536 /\ -1 <= sl /\ sl < 65536 := by
 unfold Z0R at h
 split at h
 ·have := of_decide_eq_false h
  omega
 ·have := of_decide_eq_false h
  omega
def Zh6 : Value -> Nat
 | .slice _ n _ => n
 | _ => 0
section
variable {w wr w' : World} {v : Value} {out : List (Int × Int)} {p : Int × Int}
end
def Z1b (w : World) (l : List (Int × Int)) (e : Ending) (w' : World) : Prop := ∃ v, e = .returned v /\ Quiet w w' /\ (∀ k, v.ownBlock = some k -> w.heap.size <= k) /\ TidsAt w' v l
structure Z1x (w wr : World) (v : Value) (l : List (Int × Int)) : Prop where
 quiet : Quiet w wr
 row : TidsAt wr v l
 own : ∀ k, v.ownBlock = some k -> w.heap.size <= k
section
variable {w wr w' : World} {v : Value} {l : List (Int × Int)}
theorem Z1x.start (h : Quiet w wr) : Z1x w wr (.slice none 0 0) [] := ⟨h, World.ownsRow_nil _ _ _ _, (fun _ x => by cases x)⟩
theorem Z1x.quietly (h : Z1x w wr v l) (hq : Quiet wr w') : Z1x w w' v l := ⟨h.quiet.trans hq, Z4 h.row hq (fun _ _ x => x), h.own⟩
theorem Z1x.step {w4 : World} {v' : Value} {p : Int × Int} (h : Z1x w wr v l) (hg : ZW (wr.alloc (.cells #[.int .i64 p.1, .int .i64 p.2] 48)) w4 48 2 v v' (l.length + 1) (ZM l ++ ZM [p])) : Z1x w w4 v' (l ++ [p]) := by
 have hsz := h.quiet.size
 refine ⟨(h.quiet.alloc _).trans' hg.only (fun k hk e => by have := h.own k e; omega), ?_, fun k e => ?_⟩
 ·unfold TidsAt
  rw [List.length_append, Z4x]
  exact hg.own
 ·rcases hg.loc with x | x
  ·rw [x] at e; exact h.own k e
  ·rw [x] at e; injection e with e; simp only [World.size_alloc] at e; omega
theorem Z1x.post (h : Z1x w wr v l) : Z1b w l (.returned v) wr := ⟨v, rfl, h.quiet, h.own, h.row⟩
end
theorem Ze3 (h0 pp : Option Addr) (n : Int) (T : List (Option Tup)) (w : World) (hT : T.length <= 127)
  (hpg : ∀ W : World, Quiet w W -> Calls Tryz.prog 77 #[.pointer h0, .int .i64 n] W fun e w' => e = .returned (.pointer pp) /\ W = w')
  (hsl : ∀ W : World, Quiet w W -> Calls Tryz.prog 111 #[.pointer pp] W fun e w' => e = .returned (.int .i64 (T.length : Int)) /\ W = w')
  (hg0 : ∀ (W : World) (i : Int), Quiet w W -> ZY T i = none -> Calls Tryz.prog 78 #[.pointer pp, .int .i64 i] W (Z3v W))
  (hg1 : ∀ (W : World) (i : Int) (t : Tup), Quiet w W -> ZY T i = some t -> Calls Tryz.prog 78 #[.pointer pp, .int .i64 i] W (Z21 W t)) :
  Calls Tryz.prog 76 #[.pointer h0, .int .i64 n] w (Z1b w (Zl n T T.length)) := by
 have HPG := zh hpg
 have HSL := zh hsl
 have HG0 := zh hg0
 have HG1 := zh hg1
 obtain ⟨m, hm⟩ : ∃ m, T.length = m := ⟨_, rfl⟩
 rw [hm] at hT HSL ⊢
 have HM := zh hm
 clear hpg hsl hg0 hg1 hm
 go_enter Tryz.func76, Tryz.ntmps76
 go_wp2_with fail
 refine (HPG.out _ (Z0.refl _ _)).mono ?_
 rintro e w1 ⟨rfl, rfl⟩
 go_wp2_with fail
 refine (HSL.out _ (Z0.refl _ _)).mono ?_
 rintro e w1 ⟨rfl, rfl⟩
 go_wp2_with fail
 go_loopw [15, 5, 7, 8, 9] (fun c cv _ _ _ wr => ∃ (k : Nat) (v' : Value), k <= m /\ c = .int .i64 (k : Int) /\ cv = v' /\ Z1x w wr v' (Zl n T k)) (fun c _ _ _ _ _ => m - (intOf c).toNat)
 case atStart => exact ⟨0, _, Nat.zero_le _, rfl, rfl, Z1x.start (Z0.refl _ _)⟩
 case round =>
  obtain ⟨k, v', hk, rfl, rfl, hW⟩ := hrel
  have HW := zh hW
  clear hW
  by_cases hlt : k < m
  ·have hle := Z8j n T k
   rcases hg : ZY T (k : Int) with _ | t
   ·have HGT := zh (HG0.out wr (k : Int) HW.out.quiet hg)
    have HP := zh (Zaw (pg := n) (by rw [<- Z1a]; exact hg))
    clear hg
    go_wp2_with fail
    refine HGT.out.mono ?_
    rintro e w2 ⟨rfl, hq2⟩
    have HW2 := zh ((HW.out.quietly hq2).quietly ((Z0.refl (fun _ => False) w2).alloc (.cells #[.int .u64 0, .int .u64 0, .int .u64 0, .int .i64 0, .int .i64 0, .slice none 0 0] 104)))
    clear hq2 HGT HW
    go_wp2
    go_roundw
    case rel => exact ⟨k + 1, _, by omega, by go_num, rfl, by rw [HP.out]; exact HW2.out⟩
    case measure => simp [intOf]; omega
   ·have HGT := zh (HG1.out wr (k : Int) t HW.out.quiet hg)
    have HP := zh (Zax (pg := n) (by rw [<- Z1a]; exact hg))
    obtain ⟨l, hl⟩ : ∃ l, Zl n T k = l := ⟨_, rfl⟩
    rw [hl] at HP HW hle
    clear hg hl
    go_wp2_with fail
    refine HGT.out.mono ?_
    rintro e w2 ⟨A2, c2, rfl, hf2⟩
    unfold Zt
    have HW2 := zh ((HW.out.quietly hf2.quiet).quietly ((Z0.refl (fun _ => False) w2).alloc (.cells #[.int .u64 (t.row : Int), .int .u64 (t.xmin : Int), .int .u64 (t.xmax : Int), .int .i64 t.pg, .int .i64 t.sl, .slice A2 t.data.length c2] 104)))
    clear hf2 HGT HW
    go_upto_region 8 with fail
    generalize w2.alloc (.cells #[.int .u64 (t.row : Int), .int .u64 (t.xmin : Int), .int .u64 (t.xmax : Int), .int .i64 t.pg, .int .i64 t.sl, .slice A2 t.data.length c2] 104) = wa at HW2 ⊢
    have HROW := zh (Z4 HW2.out.row ((Z0.refl (fun _ => False) wa).alloc (.cells #[.int .i64 n, .int .i64 (k : Int)] 48)) (fun _ _ x => x))
    go_wp2_with (at_builtin; refine app Z4z rfl (.tmp 25) (.tmp 29) rfl rfl HROW.out rfl (Zh5 _ (n, (k : Int))) (Z4y [(n, (k : Int))]) (by unfold maxLen; omega) (by omega) ?_)
    intro v4 w4 hg4
    have HST := zh (HW2.out.step (p := (n, (k : Int))) hg4)
    clear hg4 HROW
    go_wp2
    go_roundw
    case rel => exact ⟨k + 1, _, by omega, by go_num, rfl, by rw [HP.out]; exact HST.out⟩
    case measure => simp [intOf]; omega
  ·obtain rfl : k = m := by omega
   go_wp2
   go_ret
   exact HW.out.post
section
variable {w : World} {hb pb : Nat} {F : Nat -> Prop} {H : List (List (Option Tup))}
theorem Z8k (k : Nat) (T : List (Option Tup)) (h : Zp w hb pb F H) (hT : H[k]? = some T) : Calls Tryz.prog 76 #[.pointer (some ⟨hb, 0, none⟩), .int .i64 (k : Int)] w (Z1b w (Zl (k : Int) T T.length)) := by
 obtain ⟨v, ps, rb, h⟩ := h
 obtain ⟨p, hp, hpt⟩ := h.pg k T hT
 exact Ze3 _ (some ⟨p, 0, none⟩) k T w hpt.len (fun W hq => Z1E k p (h.kept hq (fun _ _ x => x)) hp) (fun W hq => Zch p T W (hpt.kept hq (fun x => x))) (fun W i hq hi => Z5j p T i W (hpt.kept hq (fun x => x)) hi) (fun W i t hq hi => Z5k p t T i W (hpt.kept hq (fun x => x)) hi)
end
structure Z0q (w : World) (S : Nat -> Prop) (A : Option Addr) (c : Nat) (s : Zo) : Prop where
 row : Rd w S 1 A s.run.length (ZB s.run)
 cap : s.run.length <= c /\ c <= maxLen
 num : U64 s.own /\ U64 s.xmin /\ U64 s.xmax /\ ∀ x ∈ s.run, U64 x
def Zk (s : Zo) (A : Option Addr) (c : Nat) : Value := .agg #[.int .u64 (s.own : Int), .int .u64 (s.xmin : Int), .int .u64 (s.xmax : Int), .slice A s.run.length c]
theorem Z0q.kept {S T : Nat -> Prop} {w w' : World} {A : Option Addr} {c : Nat} {s : Zo} (h : Z0q w S A c s) (ho : Z0 T w w') (hs : ∀ k, S k -> ¬ T k) : Z0q w' S A c s := ⟨h.row.kept ho hs, h.cap, h.num⟩
theorem Z0q.mono {S T : Nat -> Prop} {w : World} {A : Option Addr} {c : Nat} {s : Zo} (h : Z0q w S A c s) (hs : ∀ k, S k -> T k) : Z0q w T A c s := ⟨h.row.mono hs, h.cap, h.num⟩
theorem ZfD {S : Nat -> Prop} {A : Option Addr} {c x : Nat} {l : List Nat} {w : World} (h : Rd w S 1 A l.length (ZB l)) (hc : l.length <= c) (hm : c <= maxLen) :
  Calls Tryz.prog 187 #[.slice A l.length c, .int .u64 (x : Int)] w fun e w' => (∃ z : Int, e = .returned (.int .i64 z) /\ decide (0 <= z) = decide (x ∈ l)) /\ w = w' := by
 unfold maxLen at hm
 obtain ⟨n, hn⟩ : ∃ n, l.length = n := ⟨_, rfl⟩
 have HR := zh h
 rw [hn] at HR hc ⊢
 have HN := zh hn
 clear h hn
 obtain ⟨Z8, hP⟩ : ∃ P : Ending -> Prop, (fun e => ∃ z : Int, e = .returned (.int .i64 z) /\ decide (0 <= z) = decide (x ∈ l)) = P := ⟨_, rfl⟩
 have HP := zh hP
 show Calls _ _ _ _ fun e w' => (fun e => ∃ z : Int, e = .returned (.int .i64 z) /\ decide (0 <= z) = decide (x ∈ l)) e /\ w = w'
 rw [hP]
 clear hP
 go_enter Tryz.func187, Tryz.ntmps187
 go_wp2
 go_loop [8, 5] (fun c _ => ∃ k : Nat, k <= n /\ c = .int .i64 (k : Int) /\ ∀ j, j < k -> l[j]? ≠ some x) (fun c _ => n - (intOf c).toNat)
 case atStart => exact ⟨0, Nat.zero_le _, rfl, fun j hj => absurd hj (by omega)⟩
 case round =>
  obtain ⟨k, hk, rfl, hno⟩ := hrel
  have HNO := zh hno
  clear hno
  by_cases hlt : k < n
  ·obtain ⟨b, off, u, rfl, _, hu, hcell⟩ := HR.out.get hlt
   obtain ⟨y, hy, rfl⟩ : ∃ y, l[k]? = some y /\ u = .int .u64 (y : Int) := by
    unfold ZB at hu
    rw [List.getElem?_map] at hu
    rcases h : l[k]? with _ | y
    ·rw [h] at hu; cases hu
    ·rw [h] at hu; injection hu with hu; exact ⟨y, rfl, hu.symm⟩
   have HY := zh hy
   clear hu hy
   by_cases hxy : x = y
   ·subst hxy
    have HE : Hid (Z8 (.returned (.int .i64 (k : Int)))) := by
     rw [<- HP.out]
     exact ⟨k, rfl, by rw [decide_eq_decide]; exact ⟨fun _ => List.mem_of_getElem? HY.out, fun _ => by omega⟩⟩
    go_wp2
    go_ret
    exact ⟨HE.out, rfl⟩
   ·have hne : ¬ (x : Int) = y := by omega
    have HK : Hid (∀ j, j < k + 1 -> l[j]? ≠ some x) := fun j hj e => by
     rcases Nat.lt_or_ge j k with a | a
     ·exact HNO.out j a e
     ·obtain rfl : j = k := by omega
      rw [HY.out] at e
      injection e with e
      exact hxy e.symm
    clear hxy
    go_wp2
    go_round
    case rel => exact ⟨k + 1, by omega, by go_num, HK.out⟩
    case measure => simp [intOf]; omega
  ·have HE : Hid (Z8 (.returned (.int .i64 (-1)))) := by
    rw [<- HP.out]
    refine ⟨-1, rfl, ?_⟩
    rw [decide_eq_decide]
    refine ⟨fun h => by omega, fun h => ?_⟩
    obtain ⟨j, hj⟩ := List.mem_iff_getElem?.1 h
    have := (zi.1 hj).1
    have hn := HN.out
    exact absurd hj (HNO.out j (by omega))
   obtain rfl : k = n := by omega
   go_wp2
   go_ret
   exact ⟨HE.out, rfl⟩
theorem Z6g {S : Nat -> Prop} {A : Option Addr} {c x : Nat} {l : List Nat} {w : World} (h : Rd w S 1 A l.length (ZB l)) (hc : l.length <= c) (hm : c <= maxLen) :
  Calls Tryz.prog 164 #[.slice A l.length c, .int .u64 (x : Int)] w fun e w' => e = .returned (.bool (decide (x ∈ l))) /\ w = w' := by
 have HX := zh (ZfD (x := x) h hc hm)
 obtain ⟨r, hr⟩ : ∃ r, decide (x ∈ l) = r := ⟨_, rfl⟩
 rw [hr] at HX ⊢
 clear h hc hm hr
 go_enter Tryz.func164, Tryz.ntmps164
 go_wp2_with fail
 refine HX.out.mono ?_
 rintro e w1 ⟨⟨z, rfl, hz⟩, rfl⟩
 go_wp2
 go_ret
 exact ⟨rfl, rfl⟩
def Z0p (w : World) (b : Bool) (e : Ending) (w' : World) : Prop := e = .returned (.bool b) /\ Quiet w w'
section
variable {w : World} {F S : Nat -> Prop} {lb c : Nat} {L : List Nat} {A : Option Addr} {s : Zo}
theorem Z9R (x : Nat) (h : Zy w F lb L) (hs : Z0q w S A c s) (hx : U64 x) :
  Calls Tryz.prog 130 #[.pointer (some ⟨lb, 0, none⟩), Zk s A c, .int .u64 (x : Int)] w (Z0p w (Z1O L s x)) := by
 have HQ : Hid (Quiet w (w.alloc (.cells #[.int .u64 (s.own : Int), .int .u64 (s.xmin : Int), .int .u64 (s.xmax : Int), .slice A s.run.length c] 84))) := (Z0.refl _ _).alloc _
 have HC := zh (Z6g (x := x) (hs.kept HQ.out (fun _ _ x => x)).row hs.cap.1 hs.cap.2)
 have HST := zh (Z2t (h.kept HQ.out (fun _ _ x => x)) hx)
 have HS := zh (rfl : Z1O L s x = Z1O L s x)
 unfold Zk
 obtain ⟨n, hn⟩ : ∃ n, s.run.length = n := ⟨_, rfl⟩
 rw [hn] at HC HQ HST ⊢
 obtain ⟨r, hr⟩ : ∃ r, Z1O L s x = r := ⟨_, rfl⟩
 have HR := zh hr
 rw [hr]
 clear h hs hx hn HS hr
 by_cases h1 : x = s.own
 ·have e1 : (x : Int) = s.own := by omega
  have HB := zh (show r = true by
    rw [<- HR.out]
    unfold Z1O
    rw [decide_eq_true h1]; rfl)
  rw [HB.out]
  clear h1 HB HR
  go_enter Tryz.func130, Tryz.ntmps130
  go_wp2
  go_ret
  exact ⟨rfl, HQ.out⟩
 ·have e1 : ¬ (x : Int) = s.own := by omega
  by_cases h2 : x < s.xmax
  ·have d2 : decide (x < s.xmax) = true := decide_eq_true h2
   by_cases h3 : x ∈ s.run
   ·have HB := zh (show r = false by
       rw [<- HR.out]
       unfold Z1O
       rw [decide_eq_false h1, decide_eq_true h3]; simp)
    rw [decide_eq_true h3] at HC
    rw [HB.out]
    clear h1 h3 HB HR
    go_enter Tryz.func130, Tryz.ntmps130
    go_wp2_with fail
    refine HC.out.mono ?_
    rintro e w1 ⟨rfl, rfl⟩
    go_wp2
    go_ret
    exact ⟨rfl, HQ.out⟩
   ·have HB := zh (show r = decide (stateL L x = 2) by
       rw [<- HR.out]
       unfold Z1O
       rw [decide_eq_false h1, decide_eq_true h2, decide_eq_false h3]; simp)
    rw [decide_eq_false h3] at HC
    obtain ⟨st, hst⟩ : ∃ st, stateL L x = st := ⟨_, rfl⟩
    rw [hst] at HB HST
    rw [HB.out, show decide (st = 2) = decide ((st : Int) = 2) by rw [decide_eq_decide]; omega]
    clear h1 h3 hst HB HR
    go_enter Tryz.func130, Tryz.ntmps130
    go_wp2_with fail
    refine HC.out.mono ?_
    rintro e w1 ⟨rfl, rfl⟩
    go_wp2_with fail
    refine HST.out.mono ?_
    rintro e w1 ⟨rfl, m, rfl⟩
    go_wp2
    go_ret
    exact ⟨rfl, HQ.out.drewN m⟩
  ·have d2 : decide (x < s.xmax) = false := decide_eq_false h2
   have HB := zh (show r = false by
     rw [<- HR.out]
     unfold Z1O
     rw [decide_eq_false h1, decide_eq_false h2]; simp)
   rw [HB.out]
   clear h1 HB HR
   go_enter Tryz.func130, Tryz.ntmps130
   go_wp2
   go_ret
   exact ⟨rfl, HQ.out⟩
abbrev tupCells (t : Tup) (At : Option Addr) (ct : Nat) : Array Value := #[.int .u64 t.row, .int .u64 t.xmin, .int .u64 t.xmax, .int .i64 t.pg, .int .i64 t.sl, .slice At t.data.length ct]
abbrev snapCells (s : Zo) (A : Option Addr) (c : Nat) : Array Value := #[.int .u64 (s.own : Int), .int .u64 (s.xmin : Int), .int .u64 (s.xmax : Int), .slice A s.run.length c]
theorem Z4A (t : Tup) (At : Option Addr) (ct : Nat) (h : Zy w F lb L) (hs : Z0q w S A c s) (h1 : U64 t.xmin) (h2 : U64 t.xmax) :
  Calls Tryz.prog 90 #[.pointer (some ⟨lb, 0, none⟩), Zk s A c, Zt t At ct] w (Z0p w (Z1V L s t.xmin t.xmax)) := by
 have HQ : Hid (Quiet w ((w.alloc (.cells (snapCells s A c) 84)).alloc (.cells (tupCells t At ct) 104))) := ((Z0.refl _ _).alloc _).alloc _
 have HS1 : Hid (∀ W, Quiet w W -> Calls Tryz.prog 130 #[.pointer (some ⟨lb, 0, none⟩), Zk s A c, .int .u64 (t.xmin : Int)] W (Z0p W (Z1O L s t.xmin))) := fun W hq => Z9R _ (h.kept hq (fun _ _ x => x)) (hs.kept hq (fun _ _ x => x)) h1
 have HS2 : Hid (∀ W, Quiet w W -> Calls Tryz.prog 130 #[.pointer (some ⟨lb, 0, none⟩), Zk s A c, .int .u64 (t.xmax : Int)] W (Z0p W (Z1O L s t.xmax))) := fun W hq => Z9R _ (h.kept hq (fun _ _ x => x)) (hs.kept hq (fun _ _ x => x)) h2
 have HT := zh (Z0r w (.cells (snapCells s A c) 84) (.cells (tupCells t At ct) 104))
 have HN := zh (Zd (Z5 w (.cells (snapCells s A c) 84)) (.cells (tupCells t At ct) 104))
 unfold Z1V
 unfold Zk Zt at *
 generalize Z1O L s t.xmin = r1 at HS1 ⊢
 generalize Z1O L s t.xmax = r2 at HS2 ⊢
 clear h hs h1 h2
 rcases r1 with _ | _
 ·go_enter Tryz.func90, Tryz.ntmps90
  go_wp2_with fail
  refine (HS1.out _ HQ.out).mono ?_
  rintro e w1 ⟨rfl, hq1⟩
  have HQ1 := zh (HQ.out.trans hq1)
  clear hq1
  go_wp2
  go_ret
  exact ⟨rfl, HQ1.out⟩
 ·by_cases h0 : t.xmax = 0
  ·have D0 := zh (show (t.xmax : Int) = 0 by omega)
   rw [decide_eq_true h0]
   clear h0
   go_enter Tryz.func90, Tryz.ntmps90
   go_wp2_with fail
   refine (HS1.out _ HQ.out).mono ?_
   rintro e w1 ⟨rfl, hq1⟩
   have HQ1 := zh (HQ.out.trans hq1)
   have b1 := hq1.get (by exact HT.out) (fun x => x)
   have c1 := Z1 b1 2
   simp only [zGA, zGS, zGZ, D0.out] at c1
   clear hq1 b1
   go_wp2
   go_ret
   exact ⟨rfl, HQ1.out⟩
  ·have d0 : ((t.xmax : Int) == 0) = false := beq_false_of_ne (by omega)
   rw [decide_eq_false h0, Bool.true_and, Bool.false_or]
   clear h0
   go_enter Tryz.func90, Tryz.ntmps90
   go_wp2_with fail
   refine (HS1.out _ HQ.out).mono ?_
   rintro e w1 ⟨rfl, hq1⟩
   have HQ1 := zh (HQ.out.trans hq1)
   have b1 := hq1.get (by exact HT.out) (fun x => x)
   have b0 := hq1.get (by exact HN.out) (fun x => x)
   have c1 := Z1 b1 2
   obtain ⟨a0, a1, a2, a3⟩ := zC4 b0
   simp only [zGA, zGS, zGZ] at c1
   clear hq1 b1 b0
   go_wp2_with fail
   refine (HS2.out _ HQ1.out).mono ?_
   rintro e w2 ⟨rfl, hq2⟩
   have HQ2 := zh (HQ1.out.trans hq2)
   clear hq2
   go_wp2
   go_ret
   exact ⟨rfl, HQ2.out⟩
theorem Z9S (t : Tup) (At : Option Addr) (ct : Nat) (h : Zy w F lb L) (hs : Z0q w S A c s) (h1 : U64 t.xmin) (h2 : U64 t.xmax) :
  Calls Tryz.prog 94 #[.pointer (some ⟨lb, 0, none⟩), Zk s A c, Zt t At ct] w fun e w' => e = .returned (.int .i64 (freeS L s t.xmin t.xmax : Int)) /\ Quiet w w' := by
 have HQ : Hid (Quiet w ((w.alloc (.cells (snapCells s A c) 84)).alloc (.cells (tupCells t At ct) 104))) := ((Z0.refl _ _).alloc _).alloc _
 have HV : Hid (∀ W, Quiet w W -> Calls Tryz.prog 90 #[.pointer (some ⟨lb, 0, none⟩), Zk s A c, Zt t At ct] W (Z0p W (Z1V L s t.xmin t.xmax))) := fun W hq => Z4A t At ct (h.kept hq (fun _ _ x => x)) (hs.kept hq (fun _ _ x => x)) h1 h2
 have HST : Hid (∀ W, Quiet w W -> Calls Tryz.prog 79 #[.pointer (some ⟨lb, 0, none⟩), .int .u64 (t.xmax : Int)] W fun e w' => e = .returned (.int .i64 (stateL L t.xmax : Int)) /\ ∃ n, w' = W.drewN n) := fun W hq => Z2t (h.kept hq (fun _ _ x => x)) h2
 have HT := zh (Z0r w (.cells (snapCells s A c) 84) (.cells (tupCells t At ct) 104))
 have HN := zh (Zd (Z5 w (.cells (snapCells s A c) 84)) (.cells (tupCells t At ct) 104))
 unfold freeS
 unfold Zk Zt at *
 generalize Z1V L s t.xmin t.xmax = r at HV ⊢
 generalize stateL L t.xmax = st at HST ⊢
 clear h hs h1 h2
 by_cases h0 : t.xmax = 0
 ·have d0 : ((t.xmax : Int) != 0) = false := by simp; omega
  rw [if_neg (fun x => x.1 h0)]
  clear h0 HST
  rcases r with _ | _
  all_goals
   go_enter Tryz.func94, Tryz.ntmps94
   go_wp2_with fail
   refine (HV.out _ HQ.out).mono ?_
   rintro e w1 ⟨rfl, hq1⟩
   have HQ1 := zh (HQ.out.trans hq1)
   clear hq1
   go_wp2
   go_ret
   exact ⟨rfl, HQ1.out⟩
 ·have d0 : ((t.xmax : Int) != 0) = true := by simp; omega
  by_cases ho : t.xmax = s.own
  ·have d1 : ((t.xmax : Int) != s.own) = false := by simp; omega
   rw [if_neg (fun x => x.2.1 ho)]
   clear ho h0 HST
   rcases r with _ | _
   all_goals
    go_enter Tryz.func94, Tryz.ntmps94
    go_wp2_with fail
    refine (HV.out _ HQ.out).mono ?_
    rintro e w1 ⟨rfl, hq1⟩
    have HQ1 := zh (HQ.out.trans hq1)
    clear hq1
    go_wp2
    go_ret
    exact ⟨rfl, HQ1.out⟩
  ·have d1 : ((t.xmax : Int) != s.own) = true := by simp; omega
   by_cases h3 : st = 3
   ·have d2 : ((st : Int) != 3) = false := by simp; omega
    rw [if_neg (fun x => x.2.2 h3)]
    clear ho h0 h3
    rcases r with _ | _
    all_goals
     go_enter Tryz.func94, Tryz.ntmps94
     go_wp2_with fail
     refine (HST.out _ HQ.out).mono ?_
     rintro e w1 ⟨rfl, n, rfl⟩
     go_wp2_with fail
     refine (HV.out _ (HQ.out.drewN n)).mono ?_
     rintro e w1 ⟨rfl, hq1⟩
     have HQ1 := zh ((HQ.out.drewN n).trans hq1)
     clear hq1
     go_wp2
     go_ret
     exact ⟨rfl, HQ1.out⟩
   ·have d2 : ((st : Int) != 3) = true := by simp; omega
    rw [if_pos ⟨h0, ho, h3⟩]
    clear ho h0 h3 HV
    go_enter Tryz.func94, Tryz.ntmps94
    go_wp2_with fail
    refine (HST.out _ HQ.out).mono ?_
    rintro e w1 ⟨rfl, n, rfl⟩
    go_wp2
    go_ret
    exact ⟨rfl, HQ.out.drewN n⟩
theorem Z6h (t : Tup) (At : Option Addr) (ct : Nat) (hz : Nat) (h : Zy w F lb L) (h1 : U64 t.xmin) (h2 : U64 t.xmax) :
  Calls Tryz.prog 39 #[.pointer (some ⟨lb, 0, none⟩), Zt t At ct, .int .u64 (hz : Int)] w (Z0p w (Z0v L t.xmin t.xmax hz)) := by
 have HQ : Hid (Quiet w (w.alloc (.cells (tupCells t At ct) 104))) := (Z0.refl _ _).alloc _
 have HS1 : Hid (∀ W, Quiet w W -> Calls Tryz.prog 79 #[.pointer (some ⟨lb, 0, none⟩), .int .u64 (t.xmin : Int)] W fun e w' => e = .returned (.int .i64 (stateL L t.xmin : Int)) /\ ∃ n, w' = W.drewN n) := fun W hq => Z2t (h.kept hq (fun _ _ x => x)) h1
 have HS2 : Hid (∀ W, Quiet w W -> Calls Tryz.prog 79 #[.pointer (some ⟨lb, 0, none⟩), .int .u64 (t.xmax : Int)] W fun e w' => e = .returned (.int .i64 (stateL L t.xmax : Int)) /\ ∃ n, w' = W.drewN n) := fun W hq => Z2t (h.kept hq (fun _ _ x => x)) h2
 unfold Z0v
 unfold Zt at *
 generalize stateL L t.xmin = s1 at HS1 ⊢
 generalize stateL L t.xmax = s2 at HS2 ⊢
 clear h h1 h2
 by_cases ha : s1 = 3
 ·have d0 : ((s1 : Int) == 3) = true := by simp; omega
  rw [decide_eq_true ha, Bool.true_or]
  clear ha HS2
  go_enter Tryz.func39, Tryz.ntmps39
  go_wp2_with fail
  refine (HS1.out _ HQ.out).mono ?_
  rintro e w1 ⟨rfl, n, rfl⟩
  go_wp2
  go_ret
  exact ⟨rfl, HQ.out.drewN n⟩
 ·have d0 : ((s1 : Int) == 3) = false := by simp; omega
  rw [decide_eq_false ha, Bool.false_or]
  by_cases hx : t.xmax = 0
  ·have d1 : ((t.xmax : Int) != 0) = false := by simp; omega
   rw [decide_eq_false (show ¬ t.xmax ≠ 0 from fun x => x hx), Bool.false_and, Bool.false_and]
   clear ha hx HS2
   go_enter Tryz.func39, Tryz.ntmps39
   go_wp2_with fail
   refine (HS1.out _ HQ.out).mono ?_
   rintro e w1 ⟨rfl, n, rfl⟩
   go_wp2
   go_ret
   exact ⟨rfl, HQ.out.drewN n⟩
  ·have d1 : ((t.xmax : Int) != 0) = true := by simp; omega
   rw [decide_eq_true (show t.xmax ≠ 0 from hx), Bool.true_and]
   by_cases h2 : s2 = 2
   ·have d2 : ((s2 : Int) == 2) = true := by simp; omega
    rw [decide_eq_true h2, Bool.true_and]
    clear ha hx h2
    by_cases hlt : t.xmax < hz
    ·rw [decide_eq_true hlt]
     go_enter Tryz.func39, Tryz.ntmps39
     go_wp2_with fail
     refine (HS1.out _ HQ.out).mono ?_
     rintro e w1 ⟨rfl, n, rfl⟩
     go_wp2_with fail
     refine (HS2.out _ (HQ.out.drewN n)).mono ?_
     rintro e w1 ⟨rfl, m, rfl⟩
     go_wp2
     go_ret
     exact ⟨rfl, HQ.out.drewN _⟩
    ·rw [decide_eq_false hlt]
     go_enter Tryz.func39, Tryz.ntmps39
     go_wp2_with fail
     refine (HS1.out _ HQ.out).mono ?_
     rintro e w1 ⟨rfl, n, rfl⟩
     go_wp2_with fail
     refine (HS2.out _ (HQ.out.drewN n)).mono ?_
     rintro e w1 ⟨rfl, m, rfl⟩
     go_wp2
     go_ret
     exact ⟨rfl, HQ.out.drewN _⟩
   ·have d2 : ((s2 : Int) == 2) = false := by simp; omega
    rw [decide_eq_false h2, Bool.false_and]
    clear ha hx h2
    go_enter Tryz.func39, Tryz.ntmps39
    go_wp2_with fail
    refine (HS1.out _ HQ.out).mono ?_
    rintro e w1 ⟨rfl, n, rfl⟩
    go_wp2_with fail
    refine (HS2.out _ (HQ.out.drewN n)).mono ?_
    rintro e w1 ⟨rfl, m, rfl⟩
    go_wp2
    go_ret
    exact ⟨rfl, HQ.out.drewN _⟩
end
structure Z3o (w wr : World) (B : Nat) (A : Option Addr) (R : List Nat) (v : Value) (own n : Nat) (r : Nat × List Nat) : Prop where
 quiet : Quiet w wr
 res : wr.heap[w.heap.size]? = some (.cells #[.int .u64 0, .int .u64 0, .int .u64 0, .slice none 0 0] 84 (0, 0))
 box : wr.heap[w.heap.size + 1]? = some (.cells #[.int .u64 (own : Int), .int .u64 (r.1 : Int), .int .u64 (n : Int), v] 84 (0, 0))
 row : wr.ownsRow 0 34 1 v r.2.length (ZB r.2)
 new : ∀ k, v.ownBlock = some k -> B <= k
 src : Rd wr (fun k => w.heap.size + 1 < k /\ k < B) 1 A R.length (ZB R)
 big : w.heap.size + 1 < B /\ B <= wr.heap.size
section
variable {w wr : World} {B own n : Nat} {A : Option Addr} {R : List Nat} {v : Value} {r : Nat × List Nat}
theorem Z3o.step {w4 : World} {v4 : Value} {x : Nat} (h : Z3o w wr B A R v own n r) (hg : ZW (wr.alloc (.cells #[.int .u64 (x : Int)] 34)) w4 34 1 v v4 (r.2.length + 1) (ZB r.2 ++ ZB [x])) (z : Int) (hz : z = ((min r.1 x : Nat) : Int)) :
  Z3o w ((w4.setCell ⟨w.heap.size + 1, 3, none⟩ v4).setCell ⟨w.heap.size + 1, 1, none⟩ (.int .u64 z)) B A R v4 own n (min r.1 x, r.2 ++ [x]) := by
 subst hz
 have hb := h.big
 have hnew : ∀ k, v4.ownBlock = some k -> B <= k := fun k e => by
  rcases hg.loc with y | y
  ·rw [y] at e; exact h.new k e
  ·rw [y] at e; injection e with e; simp only [World.size_alloc] at e; omega
 have hqa : Quiet wr (wr.alloc (.cells #[.int .u64 (x : Int)] 34)) := (Z0.refl _ _).alloc _
 have ho : Z0 (· = w.heap.size + 1) w4 ((w4.setCell ⟨w.heap.size + 1, 3, none⟩ v4).setCell ⟨w.heap.size + 1, 1, none⟩ (.int .u64 ((min r.1 x : Nat) : Int))) := ((Z0.refl (· = w.heap.size + 1) w4).setCell (p := ⟨w.heap.size + 1, 3, none⟩) (fun _ => rfl) _).setCell (p := ⟨w.heap.size + 1, 1, none⟩) (fun _ => rfl) _
 have hv : ∀ k, v.ownBlock = some k -> B <= k := h.new
 have b4 := hg.only.get (hqa.get h.box (fun x => x)) (fun e => by have := hv _ e; omega)
 have hs4 : w.heap.size + 1 < w4.heap.size := Z2 b4
 have hz4 := hg.only.size
 simp only [World.size_alloc] at hz4
 refine ⟨((h.quiet.trans hqa).trans' hg.only (fun k hk e => by have := hv k e; omega)).trans' ho (fun k hk e => by omega), ?_, ?_, ?_, hnew, ?_, ⟨hb.1, by have := ho.size; omega⟩⟩
 ·exact ho.get (hg.only.get (hqa.get h.res (fun x => x)) (fun e => by have := hv _ e; omega)) (by omega)
 ·rw [Zf (Zf b4 3 _) 1 _]
  rfl
 ·rw [List.length_append, show ZB (r.2 ++ [x]) = ZB r.2 ++ ZB [x] by simp [ZB]]
  exact Z4 hg.own ho (fun k e y => by have := hnew k e; omega)
 ·exact (Rd.kept (T := fun k => v.ownBlock = some k) (h.src.kept hqa (fun _ _ x => x)) hg.only (fun k y e => by have := hv k e; omega)).kept ho (fun k y e => by omega)
theorem Z3o.cells (h : Z3o w wr B A R v own n r) : wr.cell? ⟨w.heap.size + 1, 0, none⟩ = some (.int .u64 (own : Int)) /\ wr.cell? ⟨w.heap.size + 1, 1, none⟩ = some (.int .u64 (r.1 : Int)) /\ wr.cell? ⟨w.heap.size + 1, 2, none⟩ = some (.int .u64 (n : Int)) /\ wr.cell? ⟨w.heap.size + 1, 3, none⟩ = some v /\ ∀ o, wr.frozen? ⟨w.heap.size + 1, o, none⟩ = false :=
 ⟨by rw [Z1 h.box]; rfl, by rw [Z1 h.box]; rfl, by rw [Z1 h.box]; rfl, by rw [Z1 h.box]; rfl, fun o => Z7 h.box o⟩
theorem Z3o.zeros (h : Z3o w wr B A R v own n r) : wr.cell? ⟨w.heap.size, 0, none⟩ = some (.int .u64 0) /\ wr.cell? ⟨w.heap.size, 1, none⟩ = some (.int .u64 0) /\ wr.cell? ⟨w.heap.size, 2, none⟩ = some (.int .u64 0) /\ wr.cell? ⟨w.heap.size, 3, none⟩ = some (.slice none 0 0) /\ ∀ o, wr.frozen? ⟨w.heap.size, o, none⟩ = false :=
 ⟨by rw [Z1 h.res]; rfl, by rw [Z1 h.res]; rfl, by rw [Z1 h.res]; rfl, by rw [Z1 h.res]; rfl, fun o => Z7 h.res o⟩
end
abbrev fourSet (w : World) (b : Nat) (v0 v1 v2 v3 : Value) : World := (((w.setCell ⟨b, 0, none⟩ v0).setCell ⟨b, 1, none⟩ v1).setCell ⟨b, 2, none⟩ v2).setCell ⟨b, 3, none⟩ v3
theorem Z0g {w : World} {b : Nat} {c0 c1 c2 c3 : Value} {t : TypeId} (h : w.heap[b]? = some (.cells #[c0, c1, c2, c3] t (0, 0))) (v0 v1 v2 v3 : Value) : (fourSet w b v0 v1 v2 v3).heap[b]? = some (.cells #[v0, v1, v2, v3] t (0, 0)) := by
 rw [Zf (Zf (Zf (Zf h _ _) _ _) _ _) _ _]
 rfl
theorem Z02 (w : World) (b : Nat) (v0 v1 v2 v3 : Value) : Z0 (· = b) w (fourSet w b v0 v1 v2 v3) :=
 ((((Z0.refl (· = b) w).setCell (p := ⟨b, 0, none⟩) (fun _ => rfl) v0).setCell (p := ⟨b, 1, none⟩) (fun _ => rfl) v1).setCell (p := ⟨b, 2, none⟩) (fun _ => rfl) v2).setCell (p := ⟨b, 3, none⟩) (fun _ => rfl) v3
theorem Z3R : (Tryz.prog.info? 84).map (·.size) = some 4 := by kernel_rfl
theorem Z00 {P : Program} {fn : Func} {p : Tmp} {ty : TypeId} (h : fn.results = #[.cell p ty]) (tmps : Array Value) (w : World) (g : Nat) (t : TypeId) (cs : Array Value) (fr : Nat × Nat) (d : TypeDesc)
  (hp : tmps.getD p undef = .pointer (some ⟨g, 0, none⟩)) (hg : w.heap[g]? = some (.cells cs t fr))
  (hu : P.underlying ty = some d) (hd : (match d with | .struct _ | .array _ _ => true | _ => false) = true) (hi : (P.info? ty).map (·.size) = some cs.size) :
  (results fn tmps).run P w = .ok (.agg cs) w := by
 have hp' : tmps[p]?.getD undef = .pointer (some ⟨g, 0, none⟩) := by simpa using hp
 simp [results, h, hp', asAddr, run_loadVar_row w g t ty cs fr d hg hu hd hi]
def Zbe (w : World) (s : Zo) (e : Ending) (w' : World) : Prop := ∃ A c, e = .returned (Zk s A c) /\ Quiet w w' /\ Z0q w' (fun k => w.heap.size <= k /\ k < w'.heap.size) A c s
theorem Z3o.done {w wr : World} {B own n : Nat} {A A' : Option Addr} {c : Nat} {R : List Nat} {r : Nat × List Nat} (h : Z3o w wr B A R (.slice A' r.2.length c) own n r) (ho : U64 own) (hn : n <= 2000000) (hr : ∀ x ∈ r.2, U64 x) (h1 : r.1 <= n) (v0 v1 v2 v3 : Value) :
  Quiet w (fourSet wr w.heap.size v0 v1 v2 v3) /\ Z0q (fourSet wr w.heap.size v0 v1 v2 v3) (fun k => w.heap.size <= k /\ k < (fourSet wr w.heap.size v0 v1 v2 v3).heap.size) A' c ⟨own, r.1, n, r.2⟩ := by
 have hb := h.big
 obtain ⟨A5, c5, e5, hc, hcm, hrd⟩ := Z9 h.row
 injection e5 with e5 _ e6
 subst e5 e6
 have hq := (Z02 wr w.heap.size v0 v1 v2 v3)
 refine ⟨h.quiet.trans' hq (fun k hk e => by omega), ⟨(hrd.kept hq (fun k e x => by have := h.new k e; omega)).mono (fun k e => ?_), ⟨hc, hcm⟩, ho, (show r.1 < 18446744073709551616 by omega), (show n < 18446744073709551616 by omega), hr⟩⟩
 have h2 := h.new k e
 have h3 := (h.row.lt k e).2
 have h4 := hq.size
 exact ⟨by omega, by omega⟩
theorem ZfG {w : World} {F : Nat -> Prop} {lb own : Nat} {L : List Nat} (h : Zy w F lb L) (hl : L.length <= 1000000) (ho : U64 own) :
  Calls Tryz.prog 29 #[.pointer (some ⟨lb, 0, none⟩), .int .u64 (own : Int)] w (Zbe w (ZT L own)) := by
 have HN : Hid (∀ W, Quiet w W -> Calls Tryz.prog 59 #[.pointer (some ⟨lb, 0, none⟩)] W fun e w' => e = .returned (.int .u64 ((L.length : Int) + 1)) /\ ∃ n, w' = W.drewN n) := fun W hq => Z4w (h.kept hq (fun _ _ x => x))
 have HALL : Hid (∀ W, Quiet w W -> Calls Tryz.prog 61 #[.pointer (some ⟨lb, 0, none⟩)] W (Zbb W (Z3G L))) := fun W hq => Zig (h.kept hq (fun _ _ x => x)) hl
 unfold ZT
 have HRL : Hid (∀ x ∈ Z3G L, U64 x) := fun x hx => by have := (Zba hx).2; unfold U64; omega
 have hr := Z6e L L.length
 rw [Z9M] at hr
 obtain ⟨n, hn⟩ : ∃ n, L.length + 1 = n := ⟨_, rfl⟩
 rw [show (L.length : Int) + 1 = (n : Int) by omega] at HN
 have hn2 : n <= 2000000 := by omega
 rw [hn]
 generalize Z3G L = R at HALL hr HRL ⊢
 have hR : R.length <= 1000000 := by omega
 obtain ⟨sn, hsn⟩ : ∃ s : Zo, (⟨own, leastR own n R, n, others own R⟩ : Zo) = s := ⟨_, rfl⟩
 rw [hsn]
 have HSN := zh hsn
 clear h hn hl hr hsn
 go_enter Tryz.func29, Tryz.ntmps29
 go_wp2_with fail
 refine (HN.out _ ((Z0.refl _ _).alloc _)).mono ?_
 rintro e w1 ⟨rfl, a, rfl⟩
 go_wp2_with fail
 refine (HN.out _ (((Z0.refl _ _).alloc _).drewN _)).mono ?_
 rintro e w1 ⟨rfl, b, rfl⟩
 go_wp2_with fail
 have HQ0 : Hid (Quiet w (((w.alloc (.cells #[.int .u64 0, .int .u64 0, .int .u64 0, .slice none 0 0] 84)).drewN (a + b)).alloc (.cells #[.int .u64 (own : Int), .int .u64 (n : Int), .int .u64 (n : Int), .slice none 0 0] 84))) := (((Z0.refl _ _).alloc _).drewN _).alloc _
 have HB1 := zh (Z0r w (.cells #[.int .u64 0, .int .u64 0, .int .u64 0, .slice none 0 0] 84) (.cells #[.int .u64 (own : Int), .int .u64 (n : Int), .int .u64 (n : Int), .slice none 0 0] 84))
 have HB0 := zh (Zd (Z5 w (.cells #[.int .u64 0, .int .u64 0, .int .u64 0, .slice none 0 0] 84)) (.cells #[.int .u64 (own : Int), .int .u64 (n : Int), .int .u64 (n : Int), .slice none 0 0] 84))
 refine (HALL.out _ HQ0.out).mono ?_
 rintro e w2 ⟨rv, rfl, hW⟩
 obtain ⟨A, c, rfl, hc, hcm, hrd⟩ := Z9 hW.row
 have HT : Hid (Z3o w w2 w2.heap.size A R (.slice none 0 0) own n (takeK own n R 0)) := by
  have hz : w.heap.size + 1 < w2.heap.size := Z2 (hW.quiet.get (by exact HB1.out) (fun x => x))
  refine ⟨HQ0.out.trans hW.quiet, hW.quiet.get (by exact HB0.out) (fun x => x), hW.quiet.get (by exact HB1.out) (fun x => x), World.ownsRow_nil _ _ _ _, (fun k e => by cases e), hrd.mono (fun k e => ⟨?_, (hW.row.lt k e).2⟩), ⟨hz, Nat.le_refl _⟩⟩
  have := hW.own k e
  have hsd : ∀ (W : World) (n : Nat), (W.drewN n).heap.size = W.heap.size := fun _ _ => rfl
  simp only [World.size_alloc, hsd] at this
  omega
 unfold maxLen at hcm
 clear hW hrd HQ0 HB1 HB0 HN HALL
 generalize w2.heap.size = B at HT
 go_wp2
 go_loopw [17, 7] (fun i _ wr => ∃ (k : Nat) (v' : Value), k <= R.length /\ i = .int .i64 (k : Int) /\ Z3o w wr B A R v' own n (takeK own n R k)) (fun i _ _ => R.length - (intOf i).toNat)
 case atStart => exact ⟨0, _, Nat.zero_le _, rfl, HT.out⟩
 case round =>
  obtain ⟨k, v', hk, rfl, hW⟩ := hrel
  clear HT
  have hlen := ZfE own n R k
  obtain ⟨q0, q1, q2, q3, qf⟩ := hW.cells
  obtain ⟨A', c', hv', hc', hcm', _⟩ := Z9 hW.row
  subst hv'
  unfold maxLen at hcm'
  have HW := zh hW
  by_cases hlt : k < R.length
  ·obtain ⟨b, off, u, rfl, _, hu, hcell⟩ := hW.src.get hlt
   obtain ⟨x, hx, rfl⟩ : ∃ y, R[k]? = some y /\ u = .int .u64 (y : Int) := by
    unfold ZB at hu
    rw [List.getElem?_map] at hu
    rcases h : R[k]? with _ | y
    ·rw [h] at hu; cases hu
    ·rw [h] at hu; injection hu with hu; exact ⟨y, rfl, hu.symm⟩
   have HS := zh (Ze4 (own := own) (n := n) hx)
   clear hu hx hW
   by_cases hxo : x = own
   ·have d0 : ((x : Int) != own) = false := by simp; omega
    rw [if_pos hxo] at HS
    clear hxo
    go_wp2
    go_roundw
    case rel => exact ⟨k + 1, _, by omega, by go_num, by rw [HS.out]; exact HW.out⟩
    case measure => simp [intOf]; omega
   ·have d0 : ((x : Int) != own) = true := by simp; omega
    rw [if_neg hxo] at HS
    generalize takeK own n R k = r at HW HS hlen q1 hc' q3
    have hl2 : r.2.length <= 1000000 := by omega
    clear hxo
    have HROW := zh (Z4 HW.out.row ((Z0.refl (fun _ => False) wr).alloc (.cells #[.int .u64 (x : Int)] 34)) (fun _ _ x => x))
    go_wp2_with (at_builtin; refine app Z3y rfl (.tmp 25) (.tmp 27) rfl rfl HROW.out rfl (Zd4 _ x 34) (Z4l [x]) (by unfold maxLen; omega) (by omega) ?_)
    intro v4 w4 hg4
    have HST := zh (HW.out.step hg4 _ rfl)
    have b4 := hg4.only.get (Zd HW.out.box _) (fun e => by have := HW.out.new _ e; have := HW.out.big; omega)
    obtain ⟨A4, c4, hv4, _, _, _⟩ := Z9 hg4.own
    subst hv4
    have s1 := Z1 b4 1
    have s3 := Z1 b4 3
    have sf := fun o => Z7 b4 o
    simp only [zGA, zGS, zGZ] at s1 s3
    have e1 : ((min r.1 x : Nat) : Int) = min (r.1 : Int) x := by omega
    rw [e1] at HST
    clear hg4 b4 q0 q1 q2 q3 qf HROW e1 hcell
    go_wp2
    go_roundw
    case rel => exact ⟨k + 1, _, by omega, by go_num, by rw [HS.out]; exact HST.out⟩
    case measure => simp [intOf]; omega
  ·obtain rfl : k = R.length := by omega
   have HK := zh (ZfF own n R)
   have HL := zh (Zcq own n R R.length)
   obtain ⟨z0, z1, z2, z3, zf⟩ := hW.zeros
   rw [HK.out] at HW HL q1 q3 hc'
   have hf : (others own R).length <= 1000000 := by unfold others; exact Nat.le_trans (List.length_filter_le _ _) hR
   clear hW hlen HK
   go_wp2_with fail
   have HD := zh (HW.out.done (r := (leastR own n R, others own R)) ho hn2 (fun x hx => HRL.out x (ZdX.1 hx).1) HL.out (.int .u64 (own : Int)) (.int .u64 (leastR own n R : Int)) (.int .u64 (n : Int)) (.slice A' (others own R).length c'))
   have HX := zh (Z0g HW.out.res (.int .u64 (own : Int)) (.int .u64 (leastR own n R : Int)) (.int .u64 (n : Int)) (.slice A' (others own R).length c'))
   unfold fourSet at HD HX
   generalize (((wr.setCell ⟨w.heap.size, 0, none⟩ (.int .u64 (own : Int))).setCell ⟨w.heap.size, 1, none⟩ (.int .u64 (leastR own n R : Int))).setCell ⟨w.heap.size, 2, none⟩ (.int .u64 (n : Int))).setCell ⟨w.heap.size, 3, none⟩ (.slice A' (others own R).length c') = W6 at HD HX ⊢
   refine bodyPost_ret (Z00 Tryz.results29 _ _ w.heap.size _ _ (0, 0) _ (by rfl) HX.out Tryz.underlying84 rfl Z3R) (by rfl) ?_
   rw [<- HSN.out]
   exact ⟨A', c', rfl, HD.out⟩
structure Z52 (w : World) (eb id : Nat) (name : ByteArray) (xmin xmax : Nat) : Prop where
 c0 : w.cell? ⟨eb, 0, none⟩ = some (.int .u64 (id : Int))
 c1 : w.cell? ⟨eb, 1, none⟩ = some (.string name)
 c2 : w.cell? ⟨eb, 2, none⟩ = some (.int .u64 (xmin : Int))
 c3 : w.cell? ⟨eb, 3, none⟩ = some (.int .u64 (xmax : Int))
theorem Z52.kept {S : Nat -> Prop} {w w' : World} {eb id xmin xmax : Nat} {name : ByteArray} (h : Z52 w eb id name xmin xmax) (ho : Z0 S w w') (hn : ¬ S eb) : Z52 w' eb id name xmin xmax :=
 ⟨ho.cell h.c0 hn, ho.cell h.c1 hn, ho.cell h.c2 hn, ho.cell h.c3 hn⟩
theorem Z8l (xmin xmax : Nat) : Zt (Z58 xmin xmax) none 0 = .agg #[.int .u64 0, .int .u64 (xmin : Int), .int .u64 (xmax : Int), .int .i64 0, .int .i64 0, .slice none 0 0] := rfl
theorem Z59 {w : World} {eb id xmin xmax : Nat} {name : ByteArray} (h : Z52 w eb id name xmin xmax) :
  Calls Tryz.prog 141 #[.pointer (some ⟨eb, 0, none⟩)] w fun e w' => e = .returned (Zt (Z58 xmin xmax) none 0) /\ Quiet w w' := by
 obtain ⟨c0, c1, c2, c3⟩ := h
 have hl := Ze c0
 have hl2 : ¬ eb = w.heap.size := by have : eb < w.heap.size := hl; omega
 rw [Z8l]
 go_enter Tryz.func141, Tryz.ntmps141
 go_wp2_with fail
 go_region
 all_goals
  go_wp2
  exact bodyPost_ret (v := .agg #[.int .u64 0, .int .u64 (xmin : Int), .int .u64 (xmax : Int), .int .i64 0, .int .i64 0, .slice none 0 0]) (by simp [results, Tryz.results141, go_sem]) rfl ⟨rfl, ((Z0.refl _ _).alloc _).drew⟩
theorem Zv {w : World} {b : Nat} {s : Zo} {A : Option Addr} {c : Nat} (h : w.heap[b]? = some (.cells (snapCells s A c) 84 (0, 0))) :
  w.cell? ⟨b, 0, none⟩ = some (.int .u64 (s.own : Int)) /\ w.cell? ⟨b, 1, none⟩ = some (.int .u64 (s.xmin : Int)) /\ w.cell? ⟨b, 2, none⟩ = some (.int .u64 (s.xmax : Int)) /\ w.cell? ⟨b, 3, none⟩ = some (.slice A s.run.length c) :=
 ⟨by rw [Z1 h]; rfl, by rw [Z1 h]; rfl, by rw [Z1 h]; rfl, by rw [Z1 h]; rfl⟩
theorem Z5V {w : World} {F S : Nat -> Prop} {lb eb id xmin xmax c : Nat} {name : ByteArray} {L : List Nat} {A : Option Addr} {s : Zo} (h : Z52 w eb id name xmin xmax) (hl : Zy w F lb L) (hs : Z0q w S A c s) (h1 : U64 xmin) (h2 : U64 xmax) :
  Calls Tryz.prog 104 #[.pointer (some ⟨eb, 0, none⟩), .pointer (some ⟨lb, 0, none⟩), Zk s A c] w (Z0p w (Z1V L s xmin xmax)) := by
 have HQ : Hid (Quiet w (w.alloc (.cells (snapCells s A c) 84))) := (Z0.refl _ _).alloc _
 have HTU : Hid (∀ W, Quiet w W -> Calls Tryz.prog 141 #[.pointer (some ⟨eb, 0, none⟩)] W fun e w' => e = .returned (Zt (Z58 xmin xmax) none 0) /\ Quiet W w') := fun W hq => Z59 (h.kept hq (fun x => x))
 have HV : Hid (∀ W, Quiet w W -> Calls Tryz.prog 90 #[.pointer (some ⟨lb, 0, none⟩), Zk s A c, Zt (Z58 xmin xmax) none 0] W (Z0p W (Z1V L s xmin xmax))) := fun W hq => Z4A (Z58 xmin xmax) none 0 (hl.kept hq (fun _ _ x => x)) (hs.kept hq (fun _ _ x => x)) h1 h2
 have HB := zh (Z5 w (.cells (snapCells s A c) 84))
 generalize Z1V L s xmin xmax = r at HV ⊢
 rw [Z8l] at HTU HV
 unfold Zk at *
 clear h hl hs h1 h2
 go_enter Tryz.func104, Tryz.ntmps104
 go_wp2_with fail
 go_region_held3 (fun w' => w'.cell? ⟨w.heap.size, 0, none⟩ = some (.int .u64 (s.own : Int)) /\ w'.cell? ⟨w.heap.size, 1, none⟩ = some (.int .u64 (s.xmin : Int)) /\ w'.cell? ⟨w.heap.size, 2, none⟩ = some (.int .u64 (s.xmax : Int)) /\ w'.cell? ⟨w.heap.size, 3, none⟩ = some (.slice A s.run.length c))
  (first | go_keep | exact Zv (hq3.get (hq2.get (by exact HB.out) (fun x => x)) (fun x => x)) | exact Zv (hq2.get (by exact HB.out) (fun x => x)) | fail)
  (first
    | (go_at_call 141; go_must (refine (HTU.out _ (HQ.out.drew)).mono ?_; rintro e w2 ⟨rfl, hq2⟩))
    | (go_at_call 90; go_must (refine (HV.out _ (HQ.out.drew.trans hq2)).mono ?_; rintro e w3 ⟨rfl, hq3⟩))
    | fail)
 have HQ3 := zh ((HQ.out.drew.trans hq2).trans hq3)
 clear hq2 hq3 HV HTU HB HQ
 go_wp2
 go_ret
 exact ⟨rfl, HQ3.out⟩
theorem Z8m {w : World} {F : Nat -> Prop} {lb eb id xmin xmax hz : Nat} {name : ByteArray} {L : List Nat} (h : Z52 w eb id name xmin xmax) (hl : Zy w F lb L) (h1 : U64 xmin) (h2 : U64 xmax) :
  Calls Tryz.prog 195 #[.pointer (some ⟨eb, 0, none⟩), .pointer (some ⟨lb, 0, none⟩), .int .u64 (hz : Int)] w (Z0p w (Z0v L xmin xmax hz)) := by
 have HTU := zh (Z59 h)
 have HV : Hid (∀ W, Quiet w W -> Calls Tryz.prog 39 #[.pointer (some ⟨lb, 0, none⟩), Zt (Z58 xmin xmax) none 0, .int .u64 (hz : Int)] W (Z0p W (Z0v L xmin xmax hz))) := fun W hq => Z6h (Z58 xmin xmax) none 0 hz (hl.kept hq (fun _ _ x => x)) h1 h2
 generalize Z0v L xmin xmax hz = r at HV ⊢
 rw [Z8l] at HTU HV
 clear h hl h1 h2
 go_enter Tryz.func195, Tryz.ntmps195
 go_wp2_with fail
 refine HTU.out.mono ?_
 rintro e w2 ⟨rfl, hq2⟩
 have HQ2 := zh hq2
 clear hq2
 go_wp2_with fail
 refine (HV.out _ HQ2.out).mono ?_
 rintro e w3 ⟨rfl, hq3⟩
 have HQ3 := zh (HQ2.out.trans hq3)
 clear hq3
 go_wp2
 go_ret
 exact ⟨rfl, HQ3.out⟩
theorem Zh8 : Z05 Tryz.prog 40 39 2 24 := Z05.mk' (.agg #[.string ⟨#[]⟩, .int .u8 0]) Tryz.underlying40 (by kernel_rfl) rfl (by decide)
structure Z2G (w w' : World) (v : Value) (l : List (ByteArray × Nat)) : Prop where
 quiet : Quiet w w'
 new : ∀ k, v.ownBlock = some k -> w.heap.size <= k
 own : w'.ownsRow 0 39 2 v l.length (ZP l)
def Z8n (w : World) (l : List (ByteArray × Nat)) (e : Ending) (w' : World) : Prop := ∃ v, e = .returned v /\ Z2G w w' v l
theorem Z8o (A : Option Addr) (cap : Nat) (l : List (ByteArray × Nat)) (S : Nat -> Prop) (w : World) (hr : Rd w S 2 A l.length (ZP l)) (hl : l.length <= 1000) (h0 : 0 < l.length) :
  Calls Tryz.prog 66 #[.slice A l.length cap] w (Z8n w l) := by
 have heq := fun (w : World) (a : Option Addr) (n c : Nat) => Lib.run_eql_slice_nil (P := Tryz.prog) w 40 _ a n c 0 0 Tryz.underlying40
 obtain ⟨b, off, rfl, _⟩ := hr.cells (by rw [ZfH]; omega)
 have HR := zh hr
 clear hr
 go_enter Tryz.func66, Tryz.ntmps66
 go_wp2_with (at_builtin; refine app Zh8 rfl (.tmp 5) (.tmp 6) rfl rfl (Z4b w _ _) rfl (HR.out.kept ((Z0.refl (fun _ => False) w).alloc _) (fun _ _ x => x)) (Zh7 l) (by unfold maxLen; omega) (by omega) ?_)
 intro v w1 hg
 have HF : Hid (Z2G w w1 v l) := by
  refine ⟨((Z0.refl _ _).alloc _).trans' hg.only (fun k hk e => by simp [Value.ownBlock] at e; omega), fun k e => ?_, hg.own⟩
  rcases hg.loc with x | x <;> rw [x] at e
  ·simp [Value.ownBlock] at e; omega
  ·injection e with e; simp at e; omega
 clear hg
 go_wp2
 go_ret
 exact ⟨v, rfl, HF.out⟩
structure Z0W (w : World) (F : Nat -> Prop) (tb : Nat) (e : TE) : Prop where
 ex : ∃ A c, w.heap[tb]? = some (.cells #[.int .u64 (e.id : Int), .string e.name, .int .u64 (e.xmin : Int), .int .u64 (e.xmax : Int), .slice A e.cols.length c] 150 (0, 0)) /\ Rd w F 2 A e.cols.length (ZP e.cols) /\ e.cols.length <= c /\ c <= maxLen
 own : F tb
 pos : 0 < e.cols.length /\ e.cols.length <= 8
 num : U64 e.id /\ U64 e.xmin /\ U64 e.xmax
 typ : ∃ A c, w.heap[tb]? = some (.cells #[.int .u64 (e.id : Int), .string e.name, .int .u64 (e.xmin : Int), .int .u64 (e.xmax : Int), .slice A e.cols.length c] 150 (0, 0)) /\ ∀ g, (Value.slice A e.cols.length c).ownBlock = some g -> F g /\ ∃ cur, w.heap[g]? = some (.cells cur 39 (0, 0))
theorem Z0W.kept {S F : Nat -> Prop} {w w' : World} {tb : Nat} {e : TE} (h : Z0W w F tb e) (ho : Z0 S w w') (hn : ∀ k, F k -> ¬ S k) : Z0W w' F tb e := by
 obtain ⟨A, c, h1, h2, h3⟩ := h.ex
 obtain ⟨A', c', t1, t2⟩ := h.typ
 exact ⟨⟨A, c, ho.get h1 (hn _ h.own), h2.kept ho hn, h3⟩, h.own, h.pos, h.num, A', c', ho.get t1 (hn _ h.own), fun g e => ⟨(t2 g e).1, by obtain ⟨cur, hh⟩ := (t2 g e).2; exact ⟨cur, ho.get hh (hn g (t2 g e).1)⟩⟩⟩
theorem Z0W.mono {F G : Nat -> Prop} {w : World} {tb : Nat} {e : TE} (h : Z0W w F tb e) (hg : ∀ k, F k -> G k) : Z0W w G tb e := by
 obtain ⟨A, c, h1, h2, h3⟩ := h.ex
 obtain ⟨A', c', t1, t2⟩ := h.typ
 exact ⟨⟨A, c, h1, h2.mono hg, h3⟩, hg _ h.own, h.pos, h.num, A', c', t1, fun g e => ⟨hg g (t2 g e).1, (t2 g e).2⟩⟩
theorem Z0W.ent {F : Nat -> Prop} {w : World} {tb : Nat} {e : TE} (h : Z0W w F tb e) : Z52 w tb e.id e.name e.xmin e.xmax := by
 obtain ⟨A, c, h1, _⟩ := h.ex
 exact ⟨by rw [Z1 h1]; rfl, by rw [Z1 h1]; rfl, by rw [Z1 h1]; rfl, by rw [Z1 h1]; rfl⟩
def Z06 (e : TE) (A : Option Addr) (c : Nat) : Value := .agg #[.int .u64 (e.id : Int), .string e.name, .slice A e.cols.length c, .int .u64 (e.xmin : Int), .int .u64 (e.xmax : Int)]
def Zbf (w : World) (t : TE) (e : Ending) (w' : World) : Prop := ∃ A c, e = .returned (Z06 t A c) /\ Z2G w w' (.slice A t.cols.length c) t.cols
theorem Z4B : (Tryz.prog.info? 98).map (·.size) = some 5 := by kernel_rfl
abbrev fiveSet (w : World) (b : Nat) (v0 v1 v2 v3 v4 : Value) : World := ((((w.setCell ⟨b, 0, none⟩ v0).setCell ⟨b, 1, none⟩ v1).setCell ⟨b, 2, none⟩ v2).setCell ⟨b, 3, none⟩ v3).setCell ⟨b, 4, none⟩ v4
theorem Z25 {w : World} {b : Nat} {c0 c1 c2 c3 c4 : Value} {t : TypeId} (h : w.heap[b]? = some (.cells #[c0, c1, c2, c3, c4] t (0, 0))) (v0 v1 v2 v3 v4 : Value) : (fiveSet w b v0 v1 v2 v3 v4).heap[b]? = some (.cells #[v0, v1, v2, v3, v4] t (0, 0)) := by
 rw [Zf (Zf (Zf (Zf (Zf h _ _) _ _) _ _) _ _) _ _]
 rfl
theorem Z1m (w : World) (b : Nat) (v0 v1 v2 v3 v4 : Value) : Z0 (· = b) w (fiveSet w b v0 v1 v2 v3 v4) :=
 (((((Z0.refl (· = b) w).setCell (p := ⟨b, 0, none⟩) (fun _ => rfl) v0).setCell (p := ⟨b, 1, none⟩) (fun _ => rfl) v1).setCell (p := ⟨b, 2, none⟩) (fun _ => rfl) v2).setCell (p := ⟨b, 3, none⟩) (fun _ => rfl) v3).setCell (p := ⟨b, 4, none⟩) (fun _ => rfl) v4
theorem Z6i {S : Nat -> Prop} {w w' : World} {b : Nat} {v0 v1 v2 v3 v4 : Value} (h0 : w.cell? ⟨b, 0, none⟩ = some v0) (h1 : w.cell? ⟨b, 1, none⟩ = some v1) (h2 : w.cell? ⟨b, 2, none⟩ = some v2) (h3 : w.cell? ⟨b, 3, none⟩ = some v3) (h4 : w.cell? ⟨b, 4, none⟩ = some v4) (ho : Z0 S w w') (hn : ¬ S b) :
  w'.cell? ⟨b, 0, none⟩ = some v0 /\ w'.cell? ⟨b, 1, none⟩ = some v1 /\ w'.cell? ⟨b, 2, none⟩ = some v2 /\ w'.cell? ⟨b, 3, none⟩ = some v3 /\ w'.cell? ⟨b, 4, none⟩ = some v4 :=
 ⟨ho.cell h0 hn, ho.cell h1 hn, ho.cell h2 hn, ho.cell h3 hn, ho.cell h4 hn⟩
theorem Z8p {w : World} {F : Nat -> Prop} {tb : Nat} {t : TE} (h : Z0W w F tb t) :
  Calls Tryz.prog 106 #[.pointer (some ⟨tb, 0, none⟩)] w (Zbf w t) := by
 obtain ⟨c0, c1, c2, c3⟩ := h.ent
 obtain ⟨A, c, hb, hr, hc, hcm⟩ := h.ex
 have c4 : w.cell? ⟨tb, 4, none⟩ = some (.slice A t.cols.length c) := by rw [Z1 hb]; rfl
 have hl := Z2 hb
 have hl2 : ¬ tb = w.heap.size := by omega
 have HCL : Hid (∀ W, Quiet w W -> Calls Tryz.prog 66 #[.slice A t.cols.length c] W (Z8n W t.cols)) := fun W hq => Z8o A c t.cols F W (hr.kept hq (fun _ _ x => x)) (by have := h.pos; omega) h.pos.1
 clear h hb hr hc hcm
 go_enter Tryz.func106, Tryz.ntmps106
 go_wp2_with fail
 refine wp_region_held_drew (S := fun w' => w'.cell? ⟨tb, 0, none⟩ = some (.int .u64 (t.id : Int)) /\ w'.cell? ⟨tb, 1, none⟩ = some (.string t.name) /\ w'.cell? ⟨tb, 2, none⟩ = some (.int .u64 (t.xmin : Int)) /\ w'.cell? ⟨tb, 3, none⟩ = some (.int .u64 (t.xmax : Int)) /\ w'.cell? ⟨tb, 4, none⟩ = some (.slice A t.cols.length c)) (by kernel_rfl) (Z6i c0 c1 c2 c3 c4 (((Z0.refl (fun _ => False) w).alloc _).drew) (fun x => x)) (fun Z3 => ?_)
 simp only [List.size_toArray, List.length_cons, List.length_nil, Nat.reduceAdd]
 refine zT 0 ?_
 refine zT 1 ?_
 refine zT 2 ?_
 refine zT 3 ?_
 refine zT 4 ?_
 refine zT 5 ?_
 refine zT 6 ?_
 refine zT 7 ?_
 refine zT 8 ?_
 refine zT 9 ?_
 refine zT 10 ?_
 refine zT 11 ?_
 refine zT 12 ?_
 refine zT 13 ?_
 refine zT 15 ?_
 refine zT 16 ?_
 refine zT 17 ?_
 refine zT 18 ?_
 refine zT 19 ?_
 refine zT 20 ?_
 refine zT 21 ?_
 refine zT 22 ?_
 refine zT 23 ?_
 refine zT 24 ?_
 refine zR 14 ?_
 intro K hK
 go_simp
 go_at_call 66
 refine (HCL.out _ (((Z0.refl (fun _ => False) w).alloc _).drew)).mono ?_
 rintro e w2 ⟨v2, rfl, hf2⟩
 obtain ⟨A2, k2, hv2, hc2, hcm2, _⟩ := Z9 hf2.own
 subst hv2
 have hb2 := hf2.quiet.get (by exact Z5 w (.cells #[.int .u64 0, .string ⟨#[]⟩, .slice none 0 0, .int .u64 0, .int .u64 0] 98)) (fun x => x)
 have HK : Hid (Z2G w w2 (.slice A2 t.cols.length k2) t.cols) := ⟨(((Z0.refl (fun _ => False) w).alloc _).drew).trans hf2.quiet, (fun k e => by have := hf2.new k e; simp only [World.size_drew, World.size_alloc] at this; omega), hf2.own⟩
 have HB2 := zh hb2
 obtain ⟨z0, z1, z2, z3, z4⟩ := zC5 hb2
 have zf := fun o => Z7 hb2 o
 have HN2 : Hid (∀ k, (Value.slice A2 t.cols.length k2).ownBlock = some k -> w.heap.size < k) := fun k e => by have := hf2.new k e; simp only [World.size_drew, World.size_alloc] at this; omega
 clear hf2 hb2
 dsimp only
 refine hK.out _ _ ?_ (fun Z3 => ?_)
 ·exact Z6i c0 c1 c2 c3 c4 HK.out.quiet (fun x => x)
 clear hK K
 (try simp only [Act.put, zPA, zPZ, zPS])
 refine zT 25 ?_
 refine zR 26 ?_
 intro K hK
 go_simp
 refine hK.out _ _ ?_ (fun Z3 => ?_)
 ·exact Z6i Z3.1 Z3.2.1 Z3.2.2.1 Z3.2.2.2.1 Z3.2.2.2.2 (Z1m w2 w.heap.size (.int .u64 (t.id : Int)) (.string t.name) (.slice A2 t.cols.length k2) (.int .u64 (t.xmin : Int)) (.int .u64 (t.xmax : Int))) hl2
 clear hK K
 (try simp only [Act.put, zPA, zPZ, zPS])
 refine zD ?_
 clear Z3 z0 z1 z2 z3 z4 zf
 have HX := zh (Z25 HB2.out (.int .u64 (t.id : Int)) (.string t.name) (.slice A2 t.cols.length k2) (.int .u64 (t.xmin : Int)) (.int .u64 (t.xmax : Int)))
 have HO := Z1m w2 w.heap.size (.int .u64 (t.id : Int)) (.string t.name) (.slice A2 t.cols.length k2) (.int .u64 (t.xmin : Int)) (.int .u64 (t.xmax : Int))
 have HF : Hid (Z2G w (fiveSet w2 w.heap.size (.int .u64 (t.id : Int)) (.string t.name) (.slice A2 t.cols.length k2) (.int .u64 (t.xmin : Int)) (.int .u64 (t.xmax : Int))) (.slice A2 t.cols.length k2) t.cols) :=
  ⟨HK.out.quiet.trans' HO (fun k hk e => by omega), fun k e => by have := HN2.out k e; omega, Z4 HK.out.own HO (fun k e x => by have := HN2.out k e; omega)⟩
 clear HO HK HB2 HN2
 unfold fiveSet at HX HF
 go_wp2
 generalize ((((w2.setCell ⟨w.heap.size, 0, none⟩ (.int .u64 (t.id : Int))).setCell ⟨w.heap.size, 1, none⟩ (.string t.name)).setCell ⟨w.heap.size, 2, none⟩ (.slice A2 t.cols.length k2)).setCell ⟨w.heap.size, 3, none⟩ (.int .u64 (t.xmin : Int))).setCell ⟨w.heap.size, 4, none⟩ (.int .u64 (t.xmax : Int)) = W6 at HX HF ⊢
 exact bodyPost_ret (Z00 Tryz.results106 _ _ w.heap.size _ _ (0, 0) _ (by rfl) HX.out Tryz.underlying98 rfl Z4B) (by rfl) ⟨A2, k2, rfl, HF.out⟩
structure Z0c (w : World) (F : Nat -> Prop) (bb : Nat) (T : List TE) (vT : Value) (tps : List Nat) (vI : Value) (ips : List Nat) (last : Nat) : Prop where
 box : w.heap[bb]? = some (.cells #[vT, vI, .int .u64 (last : Int)] 138 (0, 0))
 rowT : w.ownsRow 0 144 1 vT T.length (tps.map ptrV)
 rowI : w.ownsRow 0 159 1 vI ips.length (ips.map ptrV)
 tbl : ∀ (i : Nat) e, T[i]? = some e -> ∃ p, tps[i]? = some p /\ Z0W w F p e
 foot : F bb /\ (∀ k, vT.ownBlock = some k -> F k) /\ (∀ k, vI.ownBlock = some k -> F k)
 num : U64 last
section
variable {w w' : World} {F : Nat -> Prop} {bb last : Nat} {T : List TE} {vT vI : Value} {tps ips : List Nat}
theorem Z0c.kept {S : Nat -> Prop} (h : Z0c w F bb T vT tps vI ips last) (ho : Z0 S w w') (hn : ∀ k, F k -> ¬ S k) : Z0c w' F bb T vT tps vI ips last :=
 ⟨ho.get h.box (hn _ h.foot.1), Z4 h.rowT ho (fun k e => hn k (h.foot.2.1 k e)), Z4 h.rowI ho (fun k e => hn k (h.foot.2.2 k e)), fun i e hi => by obtain ⟨p, h1, h2⟩ := h.tbl i e hi; exact ⟨p, h1, h2.kept ho hn⟩, h.foot, h.num⟩
theorem Z0c.cells (h : Z0c w F bb T vT tps vI ips last) : w.cell? ⟨bb, 0, none⟩ = some vT /\ w.cell? ⟨bb, 1, none⟩ = some vI /\ w.cell? ⟨bb, 2, none⟩ = some (.int .u64 (last : Int)) :=
 ⟨by rw [Z1 h.box]; rfl, by rw [Z1 h.box]; rfl, by rw [Z1 h.box]; rfl⟩
theorem Z0c.tlen (h : Z0c w F bb T vT tps vI ips last) : tps.length = T.length := by
 have := h.rowT.1
 simpa using this
end
theorem Z1G {w : World} {e : TypeId} {v : Value} {n : Nat} {ps : List Nat} (h : w.ownsRow 0 e 1 v n (ps.map ptrV)) : ∃ A c, v = .slice A n c /\ n <= c /\ c <= maxLen /\ ∀ (i p : Nat), ps[i]? = some p -> ∃ g, A = some ⟨g, 0, none⟩ /\ w.cell? ⟨g, i, none⟩ = some (ptrV p) := by
 have hl : ps.length = n := by have := h.1; simpa using this
 rcases h.2 with ⟨e1, e2⟩ | ⟨g, cap, cur, e1, _, hh, r1, r2, _⟩
 ·refine ⟨none, 0, by rw [e2]; exact e1, by omega, Nat.zero_le _, fun i p hi => ?_⟩
  have := (zi.1 hi).1
  omega
 ·refine ⟨_, cap, e1, r1, r2, fun i p hi => ⟨g, rfl, ?_⟩⟩
  have := h.cells (by rw [e1]; rfl) i (ptrV p) (by rw [List.getElem?_map, hi]; rfl)
  rw [Zq, Nat.zero_add] at this
  exact this
def Z43 (L : List Nat) (s : Zo) (name : ByteArray) (e : TE) : Bool := (e.name.toList == name.toList) && Z1V L s e.xmin e.xmax
def Z0w (L : List Nat) (s : Zo) (name : ByteArray) (T : List TE) : Option Nat := T.findIdx? (Z43 L s name)
def Z5l (w : World) (tps : List Nat) (o : Option Nat) (e : Ending) (w' : World) : Prop :=
 (match o with | none => e = .returned (.pointer none) | some i => ∃ p, tps[i]? = some p /\ e = .returned (ptrV p)) /\ Quiet w w'
theorem Ze5 {L : List Nat} {s : Zo} {name : ByteArray} {T : List TE} {k : Nat} {e : TE} (hk : T[k]? = some e) (he : Z43 L s name e = true) (hno : ∀ j x, j < k -> T[j]? = some x -> Z43 L s name x = false) : Z0w L s name T = some k := by
 unfold Z0w
 rw [List.findIdx?_eq_some_iff_getElem]
 obtain ⟨h1, h2⟩ := zi.1 hk
 refine ⟨h1, by rw [h2]; exact he, fun j hj => ?_⟩
 have := hno j T[j] hj (zg (by omega))
 simp [this]
theorem Ze6 {L : List Nat} {s : Zo} {name : ByteArray} {T : List TE} (hno : ∀ (j : Nat) x, T[j]? = some x -> Z43 L s name x = false) : Z0w L s name T = none := by
 unfold Z0w
 rw [List.findIdx?_eq_none_iff]
 intro x hx
 obtain ⟨j, hj⟩ := List.mem_iff_getElem?.1 hx
 rw [hno j x hj]
theorem Z5G {w : World} {F Fl S : Nat -> Prop} {bb lb last c : Nat} {T : List TE} {vT vI : Value} {tps ips : List Nat} {L : List Nat} {A : Option Addr} {s : Zo} (name : ByteArray) (h : Z0c w F bb T vT tps vI ips last) (hl : Zy w Fl lb L) (hs : Z0q w S A c s) :
  Calls Tryz.prog 68 #[.pointer (some ⟨bb, 0, none⟩), .pointer (some ⟨lb, 0, none⟩), Zk s A c, .string name] w (Z5l w tps (Z0w L s name T)) := by
 have HQ0 : Hid (Quiet w (w.alloc (.cells (snapCells s A c) 84))) := (Z0.refl _ _).alloc _
 have HB0 := zh (Z5 w (.cells (snapCells s A c) 84))
 have HH := zh h
 have HVIS : Hid (∀ (W : World) (p : Nat) (e : TE) (i : Nat), Quiet w W -> T[i]? = some e -> tps[i]? = some p -> Calls Tryz.prog 104 #[.pointer (some ⟨p, 0, none⟩), .pointer (some ⟨lb, 0, none⟩), Zk s A c] W (Z0p W (Z1V L s e.xmin e.xmax))) := fun W p e i hq he hp => by
  obtain ⟨p', h1, h2⟩ := h.tbl i e he
  rw [hp] at h1
  injection h1 with h1
  subst h1
  exact Z5V (h2.kept hq (fun _ _ x => x)).ent (hl.kept hq (fun _ _ x => x)) (hs.kept hq (fun _ _ x => x)) h2.num.2.1 h2.num.2.2
 obtain ⟨c0, _, _⟩ := h.cells
 obtain ⟨AT, cT, hvT, hcT, hmT, hfT⟩ := Z1G h.rowT
 subst hvT
 have HFT := zh hfT
 have htl := h.tlen
 obtain ⟨n, hn⟩ : ∃ n, T.length = n := ⟨_, rfl⟩
 rw [hn] at c0 hcT
 have HN := zh hn
 have HTL : Hid (tps.length = n) := by rw [htl]; exact hn
 unfold maxLen at hmT
 have hbl := Z2 h.box
 obtain ⟨Z8, Z6⟩ : ∃ Z8, Z5l w tps (Z0w L s name T) = Z8 := ⟨_, rfl⟩
 rw [Z6]
 have Zb := zh Z6
 unfold Zk at *
 clear h hl hs hfT hn htl Z6
 go_enter Tryz.func68, Tryz.ntmps68
 go_wp2
 go_loopw [16, 10, 20, 21, 22, 23, 24, 25, 26, 27, 28, 29, 30, 31, 32, 33, 34] (fun i _ _ _ _ _ _ _ _ _ _ _ _ _ _ _ _ wr => ∃ k : Nat, k <= n /\ i = .int .i64 (k : Int) /\ Quiet w wr /\ wr.heap[w.heap.size]? = some (.cells (snapCells s A c) 84 (0, 0)) /\ (∀ (j : Nat) x, j < k -> T[j]? = some x -> Z43 L s name x = false)) (fun i _ _ _ _ _ _ _ _ _ _ _ _ _ _ _ _ _ => n - (intOf i).toNat)
 case atStart => exact ⟨0, Nat.zero_le _, rfl, HQ0.out, HB0.out, fun j x hj => absurd hj (by omega)⟩
 case round =>
  obtain ⟨k, hk, rfl, hq, hb, hno⟩ := hrel
  have HQ := zh hq
  have HB := zh hb
  have HNO := zh hno
  clear hno HB0 HQ0
  by_cases hlt : k < n
  ·obtain ⟨e, he⟩ : ∃ e, T[k]? = some e := ⟨_, zg (by have := HN.out; omega)⟩
   obtain ⟨p, hp, htb⟩ := HH.out.tbl k e he
   obtain ⟨g, rfl, hg⟩ := HFT.out k p hp
   have hg2 := hq.cell hg (fun x => x)
   have c1 := (htb.kept hq (fun _ _ x => x)).ent.c1
   obtain ⟨b0, b1, b2, b3⟩ := Zv hb
   have HE := zh he
   have HP := zh hp
   clear he hp hg htb hq hb
   by_cases hnm : (e.name.toList == name.toList) = true
   ·have HV := zh (HVIS.out · p e k · HE.out HP.out)
    have HIS : Hid (Z43 L s name e = Z1V L s e.xmin e.xmax) := by
     have : Z43 L s name e = ((e.name.toList == name.toList) && Z1V L s e.xmin e.xmax) := rfl
     rw [hnm, Bool.true_and] at this
     exact this
    generalize Z1V L s e.xmin e.xmax = r at HV HIS
    go_wp2_with fail
    refine wp_region_held_drew (S := fun w' => w'.cell? ⟨p, 1, none⟩ = some (.string e.name) /\ w'.cell? ⟨w.heap.size, 0, none⟩ = some (.int .u64 (s.own : Int)) /\ w'.cell? ⟨w.heap.size, 1, none⟩ = some (.int .u64 (s.xmin : Int)) /\ w'.cell? ⟨w.heap.size, 2, none⟩ = some (.int .u64 (s.xmax : Int)) /\ w'.cell? ⟨w.heap.size, 3, none⟩ = some (.slice A s.run.length c)) (by kernel_rfl) (⟨c1, b0, b1, b2, b3⟩) (fun Z3 => ?_)
    simp only [List.size_toArray, List.length_cons, List.length_nil, Nat.reduceAdd]
    refine zT 0 ?_
    refine zT 1 ?_
    refine zT 2 ?_
    refine zT 3 ?_
    refine zT 4 ?_
    refine zT 5 ?_
    refine zT 6 ?_
    refine zT 7 ?_
    refine zT 8 ?_
    refine zT 9 ?_
    refine zT 10 ?_
    refine zT 11 ?_
    refine zT 12 ?_
    refine zR 13 ?_
    intro K hK
    go_simp
    go_at_call 104
    refine (HV.out _ HQ.out.drew).mono ?_
    rintro e' w3 ⟨rfl, hq3⟩
    have HQ3 := zh (HQ.out.drew.trans hq3)
    have HB3 := zh (hq3.get (by exact HB.out) (fun x => x))
    have hs3 := Zv HB3.out
    have hn3 := hq3.cell (by exact c1) (fun x => x)
    clear hq3
    dsimp only
    refine hK.out _ _ ?_ (fun Z3 => ?_)
    ·exact ⟨hn3, hs3⟩
    clear hK K
    (try simp only [Act.put, zPA, zPZ, zPS])
    refine zT 14 ?_
    refine zD ?_
    rcases r with _ | _
    ·have HK : Hid (∀ (j : Nat) x, j < k + 1 -> T[j]? = some x -> Z43 L s name x = false) := fun j x hj hx => by
      rcases Nat.lt_or_ge j k with a | a
      ·exact HNO.out j x a hx
      ·obtain rfl : j = k := by omega
       rw [HE.out] at hx
       injection hx with hx
       rw [<- hx]
       exact HIS.out
     clear Z3 c1 b0 b1 b2 b3 hg2
     go_wp2
     go_roundw
     case rel => exact ⟨k + 1, by omega, by go_num, HQ3.out, HB3.out, HK.out⟩
     case measure => simp [intOf]; omega
    ·have Zc : Hid (Z8 (.returned (ptrV p)) w3) := by
      rw [<- Zb.out, Ze5 HE.out HIS.out HNO.out]
      exact ⟨⟨p, HP.out, rfl⟩, HQ3.out⟩
     clear Z3 c1 b0 b1 b2 b3 hg2
     go_wp2
     exact Zc.out
   ·have hnm2 : (e.name.toList == name.toList) = false := by simpa using hnm
    have HK : Hid (∀ (j : Nat) x, j < k + 1 -> T[j]? = some x -> Z43 L s name x = false) := fun j x hj hx => by
     rcases Nat.lt_or_ge j k with a | a
     ·exact HNO.out j x a hx
     ·obtain rfl : j = k := by omega
      rw [HE.out] at hx
      injection hx with hx
      rw [<- hx]
      unfold Z43
      rw [hnm2]; rfl
    clear hnm
    go_wp2_with fail
    refine wp_region_held_drew (S := fun w' => w'.cell? ⟨p, 1, none⟩ = some (.string e.name) /\ w'.cell? ⟨w.heap.size, 0, none⟩ = some (.int .u64 (s.own : Int)) /\ w'.cell? ⟨w.heap.size, 1, none⟩ = some (.int .u64 (s.xmin : Int)) /\ w'.cell? ⟨w.heap.size, 2, none⟩ = some (.int .u64 (s.xmax : Int)) /\ w'.cell? ⟨w.heap.size, 3, none⟩ = some (.slice A s.run.length c)) (by kernel_rfl) (⟨c1, b0, b1, b2, b3⟩) (fun Z3 => ?_)
    simp only [List.size_toArray, List.length_cons, List.length_nil, Nat.reduceAdd]
    refine zT 0 ?_
    refine zT 1 ?_
    refine zT 2 ?_
    refine zT 3 ?_
    refine zT 4 ?_
    refine zT 5 ?_
    refine zT 6 ?_
    refine zT 7 ?_
    refine zO 8 ?_
    refine zO 9 ?_
    refine zO 10 ?_
    refine zO 11 ?_
    refine zO 12 ?_
    refine zO 13 ?_
    refine zT 14 ?_
    refine zD ?_
    clear Z3 c1 b0 b1 b2 b3 hg2 hnm2
    go_wp2
    go_roundw
    case rel => exact ⟨k + 1, by omega, by go_num, HQ.out.drew, HB.out, HK.out⟩
    case measure => simp [intOf]; omega
  ·have Zc : Hid (Z8 (.returned (.pointer none)) wr) := by
    rw [<- Zb.out, Ze6 (fun j x hx => HNO.out j x (by have := HN.out; have := (zi.1 hx).1; omega) hx)]
    exact ⟨rfl, HQ.out⟩
   obtain rfl : k = n := by omega
   clear hq hb
   go_wp2
   exact Zc.out
def Z9T (w : World) (t : TE) (e : Ending) (w' : World) : Prop := ∃ A c, e = .returned (.tuple #[Z06 t A c, .bool true]) /\ Z2G w w' (.slice A t.cols.length c) t.cols /\ t.cols.length <= c /\ c <= maxLen
theorem Ze7 {w : World} {F Fl S : Nat -> Prop} {bb lb last c i : Nat} {T : List TE} {vT vI : Value} {tps ips : List Nat} {L : List Nat} {A : Option Addr} {s : Zo} {t : TE} (name : ByteArray) (h : Z0c w F bb T vT tps vI ips last) (hl : Zy w Fl lb L) (hs : Z0q w S A c s) (hf : Z0w L s name T = some i) (ht : T[i]? = some t) :
  Calls Tryz.prog 86 #[.pointer (some ⟨bb, 0, none⟩), .pointer (some ⟨lb, 0, none⟩), Zk s A c, .string name] w (Z9T w t) := by
 have HQ0 : Hid (Quiet w ((w.alloc (.cells (snapCells s A c) 84)).alloc (.cells #[.int .u64 0, .string ⟨#[]⟩, .slice none 0 0, .int .u64 0, .int .u64 0] 98))) := ((Z0.refl _ _).alloc _).alloc _
 have HR := zh (Z0r w (.cells (snapCells s A c) 84) (.cells #[.int .u64 0, .string ⟨#[]⟩, .slice none 0 0, .int .u64 0, .int .u64 0] 98))
 have HT : Hid (∀ W, Quiet w W -> Calls Tryz.prog 68 #[.pointer (some ⟨bb, 0, none⟩), .pointer (some ⟨lb, 0, none⟩), Zk s A c, .string name] W (Z5l W tps (some i))) := fun W hq => by
  have := Z5G name (h.kept hq (fun _ _ x => x)) (hl.kept hq (fun _ _ x => x)) (hs.kept hq (fun _ _ x => x))
  rw [hf] at this
  exact this
 have HTO : Hid (∀ W p, Quiet w W -> tps[i]? = some p -> Calls Tryz.prog 106 #[.pointer (some ⟨p, 0, none⟩)] W (Zbf W t)) := fun W p hq hp => by
  obtain ⟨p', h1, h2⟩ := h.tbl i t ht
  rw [hp] at h1
  injection h1 with h1
  subst h1
  exact Z8p (h2.kept hq (fun _ _ x => x))
 unfold Zk at *
 clear h hl hs hf ht
 go_enter Tryz.func86, Tryz.ntmps86
 go_wp2_with fail
 refine (HT.out _ HQ0.out).mono ?_
 rintro e w1 ⟨⟨p, hp, rfl⟩, hq1⟩
 have HQ1 := zh (HQ0.out.trans hq1)
 have HR1 := zh (hq1.get (by exact HR.out) (fun x => x))
 have HP := zh hp
 clear hq1 hp HT HQ0 HR
 go_wp2_with fail
 refine (HTO.out _ p HQ1.out HP.out).mono ?_
 rintro e w2 ⟨A2, c2, rfl, hf2⟩
 obtain ⟨A5, c5, e5, hc5, hm5, _⟩ := Z9 hf2.own
 injection e5 with e5 _ e6
 subst e5 e6
 have hb2 := hf2.quiet.get (by exact HR1.out) (fun x => x)
 obtain ⟨z0, z1, z2, z3, z4⟩ := zC5 hb2
 have zf := fun o => Z7 hb2 o
 have HX := zh (Z25 hb2 (.int .u64 (t.id : Int)) (.string t.name) (.slice A2 t.cols.length c2) (.int .u64 (t.xmin : Int)) (.int .u64 (t.xmax : Int)))
 have HO := Z1m w2 (w.heap.size + 1) (.int .u64 (t.id : Int)) (.string t.name) (.slice A2 t.cols.length c2) (.int .u64 (t.xmin : Int)) (.int .u64 (t.xmax : Int))
 have hz1 : w.heap.size + 1 < w1.heap.size := Z2 HR1.out
 have HF : Hid (Z2G w (fiveSet w2 (w.heap.size + 1) (.int .u64 (t.id : Int)) (.string t.name) (.slice A2 t.cols.length c2) (.int .u64 (t.xmin : Int)) (.int .u64 (t.xmax : Int))) (.slice A2 t.cols.length c2) t.cols) :=
  ⟨(HQ1.out.trans hf2.quiet).trans' HO (fun k hk e => by omega), fun k e => by have := hf2.new k e; omega, Z4 hf2.own HO (fun k e x => by have := hf2.new k e; omega)⟩
 have HC := zh hc5
 have HM := zh hm5
 clear HO hf2 hb2 HTO HR1 HQ1 hc5 hm5
 unfold fiveSet at HX HF
 unfold Z06
 go_wp2
 generalize ((((w2.setCell ⟨w.heap.size + 1, 0, none⟩ (.int .u64 (t.id : Int))).setCell ⟨w.heap.size + 1, 1, none⟩ (.string t.name)).setCell ⟨w.heap.size + 1, 2, none⟩ (.slice A2 t.cols.length c2)).setCell ⟨w.heap.size + 1, 3, none⟩ (.int .u64 (t.xmin : Int))).setCell ⟨w.heap.size + 1, 4, none⟩ (.int .u64 (t.xmax : Int)) = W6 at HX HF ⊢
 exact bodyPost_ret (ZC Tryz.results86 _ _ (w.heap.size + 1) _ _ (0, 0) _ (by rfl) HX.out Tryz.underlying98 rfl Z4B) (by rfl) ⟨A2, c2, rfl, HF.out, HC.out, HM.out⟩
structure Z2D (s : ByteArray) : Prop where
 pos : 0 < s.size
 most : s.size <= 20
 low : ∀ (i : Nat) (h : i < s.size), 97 <= (s[i]'h).toNat /\ (s[i]'h).toNat <= 122
theorem Z6j (s : ByteArray) (hs : Z2D s) (w : World) :
  Calls Tryz.prog 62 #[.string s] w (Z0p w true) := by
 obtain ⟨h0, h20, hl⟩ := hs
 have HL := zh hl
 have he : s.toList.isEmpty = false := by
  have : s.toList.length = s.size := by rw [Lib.toList_data]; simp
  rcases h : s.toList with _ | _
  ·rw [h] at this; simp at this; omega
  ·rfl
 clear hl
 go_enter Tryz.func62, Tryz.ntmps62
 go_wp2
 go_loopw [8, 9, 10, 11, 3, 4, 5, 12, 13, 14, 15, 16, 17, 18, 19, 20, 21, 22, 23, 24, 25, 26, 27, 28, 29, 30, 31, 32, 33, 34, 35] (fun _ _ _ _ _ _ _ _ _ _ _ _ _ _ _ _ _ _ _ _ _ _ _ _ _ _ _ _ _ _ _ wr => ∃ k : Nat, k <= s.size /\ wr = w.iter s k) (fun _ _ _ _ _ _ _ _ _ _ _ _ _ _ _ _ _ _ _ _ _ _ _ _ _ _ _ _ _ _ _ wr => s.size - wr.iterPos w.heap.size)
 case atStart => exact ⟨0, Nat.zero_le _, rfl⟩
 case round =>
  obtain ⟨k, hk, rfl⟩ := hrel
  by_cases hlt : k < s.size
  ·obtain ⟨x, hx⟩ : ∃ x, (s[k]'hlt).toNat = x := ⟨_, rfl⟩
   have hb := HL.out k hlt
   have hn := fun ty => run_next_ascii (P := Tryz.prog) w s k ty hlt (by omega)
   rw [hx] at hn hb
   have d0 : (97 : Int) <= x := by omega
   have d1 : (x : Int) <= 122 := by omega
   clear hx
   go_wp2
   go_roundw
   case rel => exact ⟨k + 1, by omega, rfl⟩
   case measure => simp; omega
  ·obtain rfl : k = s.size := by omega
   have hn := fun ty => run_next_end (P := Tryz.prog) w s s.size ty (by omega)
   have d2 : decide ((s.size : Int) <= 20) = true := decide_eq_true (by omega)
   go_wp2
   go_ret
   exact ⟨rfl, (Z0.refl _ _).alloc _⟩
theorem Ze8 {w w' : World} {S : Nat -> Prop} {P : Program} {k : TypeId} {R : Value -> Option (DataW Unit × List MemPlace)} {b n : Nat} {D : DataW Unit} (h : w.ownsMap P k R b n D) (ho : Z0 S w w') (hn : ¬ S b) : w'.ownsMap P k R b n D := by
 obtain ⟨es, clock, h1, r⟩ := h
 exact ⟨es, clock, ho.get h1 hn, r⟩
theorem Ze9 {w : World} {b : Nat} (h : w.ownsMap Tryz.prog 9 (plainElem (H := Unit) Tryz.prog 4) b 0 (.map [])) (s : ByteArray) (hs : s.size <= 20) :
  (Instr.lookup 212 (.map (some b)) (.string s) false).run Tryz.prog w = .ok (.bool false) w := by
 obtain ⟨v, ps, hrun, hv⟩ := h.lookup (Maps.string_keyed Tryz.underlying9) Tryz.underlying212 (Z8h w) (plainElem_bool Tryz.underlying4 false) (Go.WideMaps.keyOf_string_mk Tryz.underlying9 (s := s) (by unfold maxLen; omega))
 obtain ⟨a, rfl, hz⟩ := Z3Q Tryz.underlying4 hv
 injection hz with hz _
 injection hz with hz
 injection hz with hz
 rw [hrun, <- hz]
theorem ZfJ {w : World} {S : Nat -> Prop} {A : Option Addr} {c kd : Nat} {nm : ByteArray} (hr : Rd w S 2 A 1 (ZP [(nm, kd)])) (hnm : Z2D nm) (hk : 1 <= kd /\ kd <= 3) (hc : 1 <= c) (hm : c <= maxLen) :
  Calls Tryz.prog 63 #[.slice A 1 c] w (Z0p w true) := by
 have hmm := @run_makeMap Tryz.prog
 obtain ⟨b, off, rfl, _, hcs⟩ := hr.at_ (k := 0) (by omega) (by omega)
 obtain ⟨u0, h0, c0⟩ := hcs 0 (by omega)
 obtain ⟨u1, h1, c1⟩ := hcs 1 (by omega)
 obtain rfl : Value.string nm = u0 := Option.some.inj h0
 obtain rfl : Value.int .u8 (kd : Int) = u1 := Option.some.inj h1
 simp only [Nat.zero_mul, Nat.add_zero, Nat.zero_add] at c0 c1
 have HNM : Hid (∀ W, Calls Tryz.prog 62 #[.string nm] W (Z0p W true)) := fun W => Z6j nm hnm W
 have HO : Hid (World.ownsMap (w.alloc (.map #[] 0)) Tryz.prog 9 (plainElem (H := Unit) Tryz.prog 4) w.heap.size 0 (.map [])) := World.ownsMap_made _ _ _ _
 have HSZ := zh hnm.most
 have hb := Ze c0
 unfold maxLen at hm
 clear hr hcs h0 h1 hnm
 go_enter Tryz.func63, Tryz.ntmps63
 go_wp2
 go_loopw [9, 5, 10, 11, 12, 13, 14, 15, 16, 17, 18, 19, 20, 21, 22, 23, 24, 25, 26, 27, 28, 29, 30, 31, 32, 33, 34, 35] (fun i _ _ _ _ _ _ _ _ _ _ _ _ _ _ _ _ _ _ _ _ _ _ _ _ _ _ _ wr => ∃ k : Nat, k <= 1 /\ i = .int .i64 (k : Int) /\ Quiet w wr /\ (k = 0 -> wr = w.alloc (.map #[] 0))) (fun i _ _ _ _ _ _ _ _ _ _ _ _ _ _ _ _ _ _ _ _ _ _ _ _ _ _ _ _ => 1 - (intOf i).toNat)
 case atStart => exact ⟨0, Nat.zero_le _, rfl, (Z0.refl _ _).alloc _, fun _ => rfl⟩
 case round =>
  obtain ⟨k, hk1, rfl, hq, hw⟩ := hrel
  rcases k with _ | k
  ·obtain rfl := hw rfl
   have HQ := zh hq
   clear hw hq hk1
   have HB : Hid (((w.alloc (.map #[] 0)).alloc (.cells #[.string nm, .int .u8 (kd : Int)] 39)).heap[w.heap.size + 1]? = some (.cells #[.string nm, .int .u8 (kd : Int)] 39 (0, 0))) := Z0r w _ _
   go_wp2_with fail
   refine (HNM.out _).mono ?_
   rintro e w2 ⟨rfl, hq2⟩
   have HO2 := zh (Ze8 HO.out (((Z0.refl (fun _ => False) _).alloc (.cells #[.string nm, .int .u8 (kd : Int)] 39)).trans hq2) (fun x => x))
   have hb2 := hq2.get (by exact HB.out) (fun x => x)
   obtain ⟨z0, z1⟩ := zC2 hb2
   have hlk := Ze9 HO2.out nm HSZ.out
   obtain ⟨w3, hup, _, hgr⟩ := HO2.out.update (Maps.string_keyed Tryz.underlying9) Tryz.underlying212 (by unfold maxLen; omega) (Go.WideMaps.keyOf_string_mk Tryz.underlying9 (s := nm) (by have := HSZ.out; unfold maxLen; omega)) (plainElem_bool Tryz.underlying4 true)
   have HQ3 : Hid (Quiet w w3) := ((HQ.out.alloc _).trans hq2).trans' ((Z0.refl (· = w.heap.size) w2).byMap hgr (fun _ => rfl)) (fun k hk e => by omega)
   have d0 : ((kd : Int) == 0) = false := by simp; omega
   have d1 : decide (3 < (kd : Int)) = false := decide_eq_false (by omega)
   clear hq2 hb2 hgr HO2 HB HQ HO
   go_wp2
   go_roundw
   case rel => exact ⟨1, by omega, by go_num, HQ3.out, fun x => by cases x⟩
   case measure => simp [intOf]
  ·obtain rfl : k = 0 := by omega
   have HQ := zh hq
   clear hw hq
   go_wp2
   go_ret
   exact ⟨rfl, HQ.out⟩
structure Z1y (w : World) (F : Nat -> Prop) (xb : Nat) (e : IE) : Prop where
 box : w.heap[xb]? = some (.cells #[.int .u64 (e.id : Int), .string e.name, .int .u64 (e.xmin : Int), .int .u64 (e.xmax : Int), .int .u64 (e.table : Int), .int .i64 (e.column : Int)] 161 (0, 0))
 own : F xb
 num : U64 e.id /\ U64 e.xmin /\ U64 e.xmax /\ U64 e.table /\ e.column < 8
theorem Z1y.kept {S F : Nat -> Prop} {w w' : World} {xb : Nat} {e : IE} (h : Z1y w F xb e) (ho : Z0 S w w') (hn : ∀ k, F k -> ¬ S k) : Z1y w' F xb e := ⟨ho.get h.box (hn _ h.own), h.own, h.num⟩
theorem Z1y.mono {F G : Nat -> Prop} {w : World} {xb : Nat} {e : IE} (h : Z1y w F xb e) (hg : ∀ k, F k -> G k) : Z1y w G xb e := ⟨h.box, hg _ h.own, h.num⟩
def ZG (w : World) (F : Nat -> Prop) (bb : Nat) (T : List TE) (I : List IE) (last : Nat) : Prop :=
 ∃ vT tps vI ips, Z0c w F bb T vT tps vI ips last /\ ips.length = I.length /\ ∀ (i : Nat) e, I[i]? = some e -> ∃ p, ips[i]? = some p /\ Z1y w F p e
section
variable {w w' : World} {F G : Nat -> Prop} {bb last : Nat} {T : List TE} {I : List IE}
theorem ZG.kept {S : Nat -> Prop} (h : ZG w F bb T I last) (ho : Z0 S w w') (hn : ∀ k, F k -> ¬ S k) : ZG w' F bb T I last := by
 obtain ⟨vT, tps, vI, ips, h1, h2, h3⟩ := h
 exact ⟨vT, tps, vI, ips, h1.kept ho hn, h2, fun i e hi => by obtain ⟨p, a, b⟩ := h3 i e hi; exact ⟨p, a, b.kept ho hn⟩⟩
theorem ZG.mono (h : ZG w F bb T I last) (hg : ∀ k, F k -> G k) : ZG w G bb T I last := by
 obtain ⟨vT, tps, vI, ips, h1, h2, h3⟩ := h
 exact ⟨vT, tps, vI, ips, ⟨h1.box, h1.rowT, h1.rowI, fun i e hi => by obtain ⟨p, a, b⟩ := h1.tbl i e hi; exact ⟨p, a, b.mono hg⟩, ⟨hg _ h1.foot.1, fun k e => hg _ (h1.foot.2.1 k e), fun k e => hg _ (h1.foot.2.2 k e)⟩, h1.num⟩, h2, fun i e hi => by obtain ⟨p, a, b⟩ := h3 i e hi; exact ⟨p, a, b.mono hg⟩⟩
theorem ZG.lt (h : ZG w F bb T I last) : F bb /\ bb < w.heap.size := by
 obtain ⟨vT, tps, vI, ips, h1, h2, h3⟩ := h
 exact ⟨h1.foot.1, Z2 h1.box⟩
end
theorem Zh9 (w : World) :
  Calls Tryz.prog 27 #[] w fun e w' => e = .returned (.pointer (some ⟨w.heap.size, 0, none⟩)) /\ Quiet w w' /\ ZG w' (fun k => w.heap.size <= k) w.heap.size [] [] 0 := by
 go_enter Tryz.func27, Tryz.ntmps27
 go_wp2
 go_ret
 exact ⟨rfl, (Z0.refl _ _).alloc _, .slice none 0 0, [], .slice none 0 0, [], ⟨Z5 _ _, World.ownsRow_nil _ _ _ _, World.ownsRow_nil _ _ _ _, fun i e hi => by simp at hi, ⟨Nat.le_refl _, (fun k e => by cases e), (fun k e => by cases e)⟩, by unfold U64; omega⟩, rfl, fun i e hi => by simp at hi⟩
def Zd6 (w : World) (e : Ending) (w' : World) : Prop := e = .returned (.slice none 0 0) /\ w = w'
theorem Zbg {w : World} {F : Nat -> Prop} {bb last : Nat} (h : ZG w F bb [] [] last) :
  Calls Tryz.prog 107 #[.pointer (some ⟨bb, 0, none⟩)] w (Zd6 w) := by
 obtain ⟨vT, tps, vI, ips, h, h2, h3⟩ := h
 have hi0 : ips = [] := List.eq_nil_of_length_eq_zero h2
 subst hi0
 obtain ⟨c0, c1, _⟩ := h.cells
 obtain ⟨A, c, hv, hc, hm, _⟩ := Z1G h.rowI
 obtain ⟨A', c', hv', hc', hm', _⟩ := Z1G h.rowT
 subst hv hv'
 rw [List.length_nil] at c0 c1
 clear h h2 h3 hc hc'
 unfold maxLen at hm hm'
 go_enter Tryz.func107, Tryz.ntmps107
 go_wp2
 go_loop [13, 3] (fun i o => i = .int .i64 0 /\ o = .slice none 0 0) (fun _ _ => 0)
 case atStart => exact ⟨rfl, rfl⟩
 case round =>
  obtain ⟨rfl, rfl⟩ := hrel
  go_wp2
  go_loop [29, 3] (fun i o => i = .int .i64 0 /\ o = .slice none 0 0) (fun _ _ => 0)
  case atStart => exact ⟨rfl, rfl⟩
  case round =>
   obtain ⟨rfl, rfl⟩ := hrel
   go_wp2
   go_ret
   exact ⟨rfl, rfl⟩
theorem Zea {w : World} {F : Nat -> Prop} {bb lb last c : Nat} {A : Option Addr} {s : Zo} {name : ByteArray} (h : ZG w F bb [] [] last) :
  Calls Tryz.prog 64 #[.pointer (some ⟨bb, 0, none⟩), .pointer (some ⟨lb, 0, none⟩), Zk s A c, .string name] w fun e w' => e = .returned (.int .i64 0) /\ Quiet w w' := by
 have HQ0 : Hid (Quiet w (w.alloc (.cells (snapCells s A c) 84))) := (Z0.refl _ _).alloc _
 have HE := zh (Zbg (h.kept HQ0.out (fun _ _ x => x)))
 unfold Zk
 clear h
 go_enter Tryz.func64, Tryz.ntmps64
 go_wp2_with fail
 refine HE.out.mono ?_
 rintro e w1 ⟨rfl, rfl⟩
 go_wp2
 go_loop [15, 9] (fun i o => i = .int .i64 0 /\ o = .int .i64 0) (fun _ _ => 0)
 case atStart => exact ⟨rfl, rfl⟩
 case round =>
  obtain ⟨rfl, rfl⟩ := hrel
  go_wp2
  go_ret
  exact ⟨rfl, HQ0.out⟩
theorem Z0c.count {w : World} {F : Nat -> Prop} {bb last : Nat} {T : List TE} {vT vI : Value} {tps ips : List Nat} (h : Z0c w F bb T vT tps vI ips last) (hl : last < 1000000) (z : Int) (hz : z = (last : Int) + 1) :
  Z0c (w.setCell ⟨bb, 2, none⟩ (.int .u64 z)) F bb T vT tps vI ips (last + 1) /\ Z0 (· = bb) w (w.setCell ⟨bb, 2, none⟩ (.int .u64 z)) := by
 subst hz
 have ho : Z0 (· = bb) w (w.setCell ⟨bb, 2, none⟩ (.int .u64 ((last : Int) + 1))) := (Z0.refl (· = bb) w).setCell (p := ⟨bb, 2, none⟩) (fun _ => rfl) _
 have ht : ∀ k, vT.ownBlock = some k -> k ≠ bb := fun k e => by
  obtain ⟨c, hh⟩ := Zj h.rowT e
  exact (Za h.box hh (by decide)).symm
 have hi : ∀ k, vI.ownBlock = some k -> k ≠ bb := fun k e => by
  obtain ⟨c, hh⟩ := Zj h.rowI e
  exact (Za h.box hh (by decide)).symm
 refine ⟨⟨?_, Z4 h.rowT ho (fun k e x => ht k e x), Z4 h.rowI ho (fun k e x => hi k e x), fun i e hie => ?_, h.foot, by unfold U64; omega⟩, ho⟩
 ·rw [Zf h.box]; rfl
 ·obtain ⟨p, h1, h2⟩ := h.tbl i e hie
  obtain ⟨A, c, hb, hr, hc⟩ := h2.ex
  obtain ⟨A', c', t1, t2⟩ := h2.typ
  refine ⟨p, h1, ⟨A, c, ho.get hb (Za hb h.box (by decide)), ?_, hc⟩, h2.own, h2.pos, h2.num, A', c', ho.get t1 (Za t1 h.box (by decide)), fun g e => ⟨(t2 g e).1, by obtain ⟨cur, hh⟩ := (t2 g e).2; exact ⟨cur, ho.get hh (Za hh h.box (by decide))⟩⟩⟩
  refine ⟨hr.len, fun hn => ?_⟩
  obtain ⟨b, off, e1, hb1, hcell⟩ := hr.cells hn
  refine ⟨b, off, e1, hb1, fun j u hu => ho.cell (hcell j u hu) (fun x => ?_)⟩
  have x' : b = bb := x
  subst x'
  have hlen : 0 < (ZP e.cols).length := hn
  have h0 := hcell 0 (ZP e.cols)[0] (zg hlen)
  obtain ⟨q, hq⟩ : ∃ q, e.cols[0]? = some q := ⟨_, zg h2.pos.1⟩
  have hv := (ZfI hq).1
  rw [Nat.zero_mul, zg hlen] at hv
  injection hv with hv
  rw [hv, Z1 h.box] at h0
  rcases hoff : off + 0 with _ | _ | _ | n
  ·rw [hoff] at h0
   simp at h0
   rcases ZJ h.rowT with ⟨e1, _⟩ | ⟨g, cap, e1, _⟩ <;> rw [e1] at h0 <;> cases h0
  ·rw [hoff] at h0
   simp at h0
   rcases ZJ h.rowI with ⟨e1, _⟩ | ⟨g, cap, e1, _⟩ <;> rw [e1] at h0 <;> cases h0
  ·rw [hoff] at h0
   simp at h0
  ·rw [hoff] at h0
   simp at h0
def Z5H (w : World) (F : Nat -> Prop) (bb : Nat) (T : List TE) (vT : Value) (tps : List Nat) (vI : Value) (ips : List Nat) (last own : Nat) (name : ByteArray) (e : Ending) (w' : World) : Prop :=
 e = .returned (.agg #[.int .u64 ((last : Int) + 1), .string name, .int .u64 (own : Int), .int .u64 0]) /\ Z0 (· = bb) w w' /\ Z0c w' F bb T vT tps vI ips (last + 1)
theorem Z8q {w : World} {F : Nat -> Prop} {bb last c : Nat} {T : List TE} {vT vI : Value} {tps ips : List Nat} {A : Option Addr} {s : Zo} {name : ByteArray} (h : Z0c w F bb T vT tps vI ips last) (hl : last < 1000000) :
  Calls Tryz.prog 65 #[.pointer (some ⟨bb, 0, none⟩), Zk s A c, .string name] w (Z5H w F bb T vT tps vI ips last s.own name) := by
 obtain ⟨_, _, c2⟩ := h.cells
 have hf : ∀ o, w.frozen? ⟨bb, o, none⟩ = false := fun o => Z7 h.box o
 have hbl := Z2 h.box
 have e1 : IntKind.u64.wrap ((last : Int) + 1) = (last : Int) + 1 := by rw [IntKind.wrap_u64]; omega
 have hb1 : ¬ bb = w.heap.size := by omega
 have hb2 : ¬ bb = w.heap.size + 1 := by omega
 have HC := zh (h.count hl _ rfl)
 unfold Zk
 clear h
 go_enter Tryz.func65, Tryz.ntmps65
 go_wp2_with fail
 go_region
 all_goals
  go_wp2
  have HQ : Quiet (w.setCell ⟨bb, 2, none⟩ (.int .u64 ((last : Int) + 1))) ((((w.setCell ⟨bb, 2, none⟩ (.int .u64 ((last : Int) + 1))).alloc (.cells (snapCells s A c) 84)).alloc (.cells #[.int .u64 ((last : Int) + 1), .string name, .int .u64 (s.own : Int), .int .u64 0] 146)).drew) := (((Z0.refl _ _).alloc _).alloc _).drew
  exact bodyPost_ret (v := .agg #[.int .u64 ((last : Int) + 1), .string name, .int .u64 (s.own : Int), .int .u64 0]) (by simp [results, Tryz.results65, go_sem]) rfl
   ⟨rfl, HC.out.2.trans' HQ (fun _ _ x => x.elim), HC.out.1.kept HQ (fun _ _ x => x)⟩
theorem Z0c.first {w4 w5 w7 : World} {F : Nat -> Prop} {bb last : Nat} {vT vI v7 : Value} {t : TE} {A5 : Option Addr} {c5 : Nat} (h : Z0c w4 F bb [] vT [] vI [] last) (hf5 : Z2G w4 w5 (.slice A5 t.cols.length c5) t.cols) (hc5 : t.cols.length <= c5 /\ c5 <= maxLen)
  (hp : 0 < t.cols.length /\ t.cols.length <= 8) (hn : U64 t.id /\ U64 t.xmin /\ U64 t.xmax)
  (hg : ZW ((w5.alloc (.cells #[.int .u64 (t.id : Int), .string t.name, .int .u64 (t.xmin : Int), .int .u64 (t.xmax : Int), .slice A5 t.cols.length c5] 150)).alloc (.cells #[ptrV w5.heap.size] 144)) w7 144 1 vT v7 1 [ptrV w5.heap.size]) :
  ZG (w7.setCell ⟨bb, 0, none⟩ v7) (fun k => F k ∨ w4.heap.size <= k) bb [t] [] last /\ Z0 F w4 (w7.setCell ⟨bb, 0, none⟩ v7) /\ (w7.setCell ⟨bb, 0, none⟩ v7).cell? ⟨w5.heap.size, 0, none⟩ = some (.int .u64 (t.id : Int)) := by
 have hvt : ∀ k, vT.ownBlock = some k -> F k /\ k < w4.heap.size /\ k ≠ bb := fun k e => by
  obtain ⟨c, hh⟩ := Zj h.rowT e
  exact ⟨h.foot.2.1 k e, Z2 hh, (Za h.box hh (by decide)).symm⟩
 have hvi : ∀ k, vI.ownBlock = some k -> k < w4.heap.size /\ k ≠ bb /\ vT.ownBlock ≠ some k := fun k e => by
  obtain ⟨c, hh⟩ := Zj h.rowI e
  refine ⟨Z2 hh, (Za h.box hh (by decide)).symm, fun x => ?_⟩
  obtain ⟨c', hh'⟩ := Zj h.rowT x
  exact absurd rfl (Za hh hh' (by decide))
 have hl := Z2 h.box
 have hz5 := hf5.quiet.size
 have hq2 : Quiet w5 ((w5.alloc (.cells #[.int .u64 (t.id : Int), .string t.name, .int .u64 (t.xmin : Int), .int .u64 (t.xmax : Int), .slice A5 t.cols.length c5] 150)).alloc (.cells #[ptrV w5.heap.size] 144)) := ((Z0.refl _ _).alloc _).alloc _
 have hq := hf5.quiet.trans hq2
 have b4 := hg.only.get (hq.get h.box (fun x => x)) (fun e => (hvt bb e).2.2 rfl)
 have ht7 := hg.only.get (Zd (Z5 w5 (.cells #[.int .u64 (t.id : Int), .string t.name, .int .u64 (t.xmin : Int), .int .u64 (t.xmax : Int), .slice A5 t.cols.length c5] 150)) (.cells #[ptrV w5.heap.size] 144)) (fun e => by have := (hvt _ e).2.1; omega)
 have ho : Z0 (· = bb) w7 (w7.setCell ⟨bb, 0, none⟩ v7) := (Z0.refl (· = bb) w7).setCell (p := ⟨bb, 0, none⟩) (fun _ => rfl) v7
 have hne : ¬ w5.heap.size = bb := by omega
 have hv7 : ∀ k, v7.ownBlock = some k -> (F k ∨ w4.heap.size <= k) /\ k ≠ bb := fun k e => by
  rcases hg.loc with x | x
  ·rw [x] at e; exact ⟨Or.inl (hvt k e).1, (hvt k e).2.2⟩
  ·rw [x] at e; injection e with e; simp only [World.size_alloc] at e; exact ⟨Or.inr (by omega), by omega⟩
 have hrow5 := hf5.own
 have hnew5 : ∀ k, (Value.slice A5 t.cols.length c5).ownBlock = some k -> w4.heap.size <= k /\ k < w5.heap.size := fun k e => ⟨hf5.new k e, (hrow5.lt k e).2⟩
 obtain ⟨A6, c6, e6, _, _, hrd⟩ := Z9 hrow5
 injection e6 with e6 _ e7
 subst e6 e7
 have hrd7 := ((hrd.kept hq2 (fun _ _ x => x)).kept hg.only (fun k e x => by have := hnew5 k e; have := (hvt k x).2.1; omega)).kept ho (fun k e x => by have := hnew5 k e; omega)
 have tb := ho.get ht7 hne
 refine ⟨⟨v7, [w5.heap.size], vI, [], ⟨?_, ?_, ?_, ?_, ⟨Or.inl h.foot.1, fun k e => (hv7 k e).1, fun k e => Or.inl (h.foot.2.2 k e)⟩, h.num⟩, rfl, fun i e hi => by simp at hi⟩, ?_, ?_⟩
 ·rw [Zf b4]; rfl
 ·exact Z4 hg.own ho (fun k e x => (hv7 k e).2 x)
 ·exact Z4 (Z4 (Z4 h.rowI hq (fun _ _ x => x)) hg.only (fun k e x => (hvi k e).2.2 x)) ho (fun k e x => (hvi k e).2.1 x)
 ·intro i e hi
  rcases i with _ | i
  ·simp at hi
   subst hi
   exact ⟨w5.heap.size, rfl, ⟨_, _, tb, hrd7.mono (fun k e => Or.inr (hnew5 k e).1), hc5⟩, Or.inr hz5, hp, hn, A5, c5, tb, fun g e => ⟨Or.inr (hnew5 g e).1, by
     obtain ⟨cur, hh⟩ := Zj hrow5 e
     exact ⟨cur, ho.get (hg.only.get (hq2.get hh (fun x => x)) (fun x => by have := hnew5 g e; have := (hvt g x).2.1; omega)) (fun x => by have x' : g = bb := x; have := hnew5 g e; omega)⟩⟩⟩
  ·simp at hi
 ·exact ((hq.mono (T := F) (fun _ _ x => x.elim)).trans' hg.only (fun k _ e => (hvt k e).1)).trans' ho (fun k _ e => by subst e; exact h.foot.1)
 ·rw [Z1 tb]; rfl
theorem Zha : Z05 Tryz.prog 135 144 1 8 := Z05.mk' (.pointer none) Tryz.underlying135 (by kernel_rfl) rfl (by decide)
def Z6k (w : World) (F : Nat -> Prop) (bb last : Nat) (t : TE) (e : Ending) (w' : World) : Prop :=
 e = .returned (.tuple #[.int .u64 ((last : Int) + 1), .int .i64 0]) /\ Z0 F w w' /\ ZG w' (fun k => F k ∨ w.heap.size <= k) bb [t] [] (last + 1)
theorem Zeb {w : World} {F S S2 : Nat -> Prop} {bb lb last c c2 kd : Nat} {A A2 : Option Addr} {s : Zo} {name nm : ByteArray} (h : ZG w F bb [] [] last) (hl : last < 1000000) (hnm : Z2D name) (hcn : Z2D nm) (hk : 1 <= kd /\ kd <= 3) (hu : U64 s.own)
  (hr : Rd w S2 2 A2 1 (ZP [(nm, kd)])) (hS : ∀ k, S2 k -> ¬ F k) (hc2 : 1 <= c2) (hm2 : c2 <= maxLen) :
  Calls Tryz.prog 31 #[.pointer (some ⟨bb, 0, none⟩), .pointer (some ⟨lb, 0, none⟩), Zk s A c, .string name, .slice A2 1 c2] w (Z6k w F bb last ⟨last + 1, name, [(nm, kd)], s.own, 0⟩) := by
 have HQ0 : Hid (Quiet w (w.alloc (.cells (snapCells s A c) 84))) := (Z0.refl _ _).alloc _
 have HNM : Hid (∀ W, Calls Tryz.prog 62 #[.string name] W (Z0p W true)) := fun W => Z6j name hnm W
 have HRI : Hid (∀ W, Quiet w W -> Calls Tryz.prog 63 #[.slice A2 1 c2] W (Z0p W true)) := fun W hq => ZfJ (hr.kept hq (fun _ _ x => x)) hcn hk hc2 hm2
 have HTK : Hid (∀ W, Quiet w W -> Calls Tryz.prog 64 #[.pointer (some ⟨bb, 0, none⟩), .pointer (some ⟨lb, 0, none⟩), Zk s A c, .string name] W fun e w' => e = .returned (.int .i64 0) /\ Quiet W w') := fun W hq => Zea (h.kept hq (fun _ _ x => x))
 have HB := zh (Z5 w (.cells (snapCells s A c) 84))
 have HH := zh h
 have HR := zh hr
 have HS := zh hS
 unfold Zk at *
 clear h hr hS hnm hcn
 go_enter Tryz.func31, Tryz.ntmps31
 go_wp2_with fail
 refine (HNM.out _).mono ?_
 rintro e w1 ⟨rfl, hq1⟩
 have HQ1 := zh (HQ0.out.trans hq1)
 have HB1 := zh (hq1.get (by exact HB.out) (fun x => x))
 clear hq1 HB HQ0
 go_wp2_with fail
 refine (HRI.out _ HQ1.out).mono ?_
 rintro e w2 ⟨rfl, hq2⟩
 have HQ2 := zh (HQ1.out.trans hq2)
 have HB2 := zh (hq2.get HB1.out (fun x => x))
 obtain ⟨b0, b1, b2, b3⟩ := Zv HB2.out
 clear hq2 HB1 HQ1
 go_wp2_with fail
 refine (HTK.out _ HQ2.out).mono ?_
 rintro e w3 ⟨rfl, hq3⟩
 have HQ3 := zh (HQ2.out.trans hq3)
 have HB3 := zh (hq3.get HB2.out (fun x => x))
 clear b0 b1 b2 b3 hq3 HB2 HQ2 HTK HRI HNM
 obtain ⟨b0, b1, b2, b3⟩ := Zv HB3.out
 obtain ⟨vT, tps, vI, ips, hrow, hi0, _⟩ := HH.out.kept HQ3.out (fun _ _ x => x)
 have hips : ips = [] := List.eq_nil_of_length_eq_zero hi0
 have htps : tps = [] := List.eq_nil_of_length_eq_zero hrow.tlen
 subst hips htps
 obtain ⟨c0, _, _⟩ := hrow.cells
 obtain ⟨AT, cT, hvT, hcT, hmT, _⟩ := Z1G hrow.rowT
 subst hvT
 rw [List.length_nil] at c0
 unfold maxLen at hmT
 have HFR : Hid (Calls Tryz.prog 65 #[.pointer (some ⟨bb, 0, none⟩), Zk s A c, .string name] w3 (Z5H w3 F bb [] (.slice AT 0 cT) [] vI [] last s.own name)) := Z8q hrow hl
 unfold Zk at HFR
 clear hcT hrow hi0
 go_wp2_with fail
 refine HFR.out.mono ?_
 rintro e w4 ⟨rfl, ho4, hr4⟩
 have HO4 := zh ho4
 have HR4 := zh hr4
 have HRD4 : Hid (Rd w4 S2 2 A2 1 (ZP [(nm, kd)])) := (HR.out.kept HQ3.out (fun _ _ x => x)).kept ho4 (fun k x e => by subst e; exact HS.out _ x hr4.foot.1)
 clear ho4 hr4 HFR c0 b0 b1 b2 b3
 go_wp2_with fail
 refine (Z8o A2 c2 [(nm, kd)] S2 w4 HRD4.out (by simp) (by simp)).mono ?_
 rintro e w5 ⟨v5, rfl, hf5⟩
 obtain ⟨A5, c5, hv5, hc5, hm5, _⟩ := Z9 hf5.own
 subst hv5
 have HF5 := zh hf5
 have HC5 := zh (And.intro hc5 hm5)
 have hb5 := hf5.quiet.get HR4.out.box (fun x => x)
 have k0 := Z1 hb5 0
 have kf := fun o => Z7 hb5 o
 simp only [zGA, zGS, zGZ] at k0
 have hbl5 : bb < w5.heap.size := Z2 hb5
 have hne5 : ¬ bb = w5.heap.size := by omega
 have hne6 : ¬ bb = w5.heap.size + 1 := by omega
 clear hf5 hc5 hm5 HRD4 hb5
 have HROW : Hid (World.ownsRow ((w5.alloc (.cells #[.int .u64 ((last : Int) + 1), .string name, .int .u64 (s.own : Int), .int .u64 0, .slice A5 1 c5] 150)).alloc (.cells #[ptrV w5.heap.size] 144)) 0 144 1 (.slice AT 0 cT) 0 []) :=
  Z4 (Z4 HR4.out.rowT HF5.out.quiet (fun _ _ x => x)) (((Z0.refl (fun _ => False) w5).alloc _).alloc _) (fun _ _ x => x)
 have HRD : Hid (Rd ((w5.alloc (.cells #[.int .u64 ((last : Int) + 1), .string name, .int .u64 (s.own : Int), .int .u64 0, .slice A5 1 c5] 150)).alloc (.cells #[ptrV w5.heap.size] 144)) (fun _ => True) 1 (some ⟨w5.heap.size + 1, 0, none⟩) 1 [ptrV w5.heap.size]) := by
  have := Rd.one (w5.alloc (.cells #[.int .u64 ((last : Int) + 1), .string name, .int .u64 (s.own : Int), .int .u64 0, .slice A5 1 c5] 150)) (ptrV w5.heap.size) 144 (0, 0) (S := fun _ => True) trivial
  rw [World.size_alloc] at this
  exact this
 go_wp2_with (at_builtin; refine app Zha rfl (.tmp 52) (.tmp 54) rfl rfl HROW.out rfl HRD.out (Z32 [w5.heap.size]) (by unfold maxLen; omega) (by omega) ?_)
 intro v7 w7 hg7
 obtain ⟨A7, c7, hv7, _, _, _⟩ := Z9 hg7.own
 subst hv7
 have HFI := zh (HR4.out.first (t := ⟨last + 1, name, [(nm, kd)], s.own, 0⟩) HF5.out HC5.out ⟨by simp, by simp⟩ ⟨by show last + 1 < 18446744073709551616; omega, hu, by show 0 < 18446744073709551616; omega⟩ hg7)
 have b7 := hg7.only.get ((((HF5.out.quiet.alloc (.cells #[.int .u64 ((last : Int) + 1), .string name, .int .u64 (s.own : Int), .int .u64 0, .slice A5 1 c5] 150)).alloc (.cells #[ptrV w5.heap.size] 144)).get HR4.out.box (fun x => x))) (fun e => by
   obtain ⟨c, hh⟩ := Zj HR4.out.rowT e
   exact absurd rfl (Za HR4.out.box hh (by decide)))
 have s0 := Z1 b7 0
 have sf := fun o => Z7 b7 o
 simp only [zGA, zGS, zGZ] at s0
 have hid : (w7.setCell ⟨bb, 0, none⟩ (.slice A7 (0 + 1) c7)).cell? ⟨w5.heap.size, 0, none⟩ = some (.int .u64 ((last : Int) + 1)) := HFI.out.2.2
 have Zc : Hid (Z6k w F bb last ⟨last + 1, name, [(nm, kd)], s.own, 0⟩ (.returned (.tuple #[.int .u64 ((last : Int) + 1), .int .i64 0])) (w7.setCell ⟨bb, 0, none⟩ (.slice A7 (0 + 1) c7))) := by
  have hz3 := HQ3.out.size
  have hz4 := HO4.out.size
  refine ⟨rfl, (((HQ3.out.mono (T := F) (fun _ _ x => x.elim)).trans' HO4.out (fun k _ e => by subst e; exact HR4.out.foot.1)).trans HFI.out.2.1), HFI.out.1.mono (fun k x => ?_)⟩
  rcases x with x | x
  ·exact Or.inl x
  ·exact Or.inr (by omega)
 clear hg7 b7 HROW HRD HFI k0 kf
 simp only [Nat.zero_add] at hid Zc
 go_wp2
 go_ret2
 exact Zc.out
theorem Zcr (w : World) :
  Calls Tryz.prog 154 #[.string ⟨#[]⟩] w fun e w' => e = .returned (.bool true) /\ w = w' := by
 go_enter Tryz.func154, Tryz.ntmps154
 go_wp2
 refine wp_loop_rounds 1 ?_
 rw [rounds_succ]
 go_wp2
 go_ret
 exact ⟨rfl, rfl⟩
theorem Zcs (w : World) :
  Calls Tryz.prog 155 #[.string ⟨#[]⟩, .int .u8 0] w fun e w' => e = .returned (.int .i64 (-1)) /\ w = w' := by
 go_enter Tryz.func155, Tryz.ntmps155
 go_wp2
 rw [run_callFunc_extern Tryz.func201 (by kernel_rfl) (by kernel_rfl) (by kernel_rfl) (e := Extern.BytealgIndexByte.indexByte) (by kernel_rfl), Lib.run_indexByteString]
 simp only [Result.andThen]
 rw [Oper.upon_value]
 go_wp2
 go_ret
 exact ⟨rfl, rfl⟩
abbrev intCells (n : Int) : Array Value := #[.int .u8 1, .int .i64 n, .string ⟨#[]⟩, .bool false]
theorem Z5m (n : Int) (w : World) :
  Calls Tryz.prog 125 #[.agg (intCells n)] w (Z0p w true) := by
 have hqq : Hid (Quiet w ((w.alloc (.cells (intCells n) 32)).alloc (.cells (intCells 0) 32))) := ((Z0.refl _ _).alloc _).alloc _
 go_enter Tryz.func125, Tryz.ntmps125
 go_wp2_with fail
 refine (Zcr _).mono ?_
 rintro e w1 ⟨rfl, rfl⟩
 go_wp2_with fail
 refine (Zcs _).mono ?_
 rintro e w1 ⟨rfl, rfl⟩
 go_wp2
 go_ret
 exact ⟨rfl, hqq.out⟩
theorem Zec (k : Nat) (hk : 1 <= k /\ k <= 3) (w : World) :
  Calls Tryz.prog 153 #[.int .u8 (k : Int)] w fun e w' => e = .returned (.bool false) /\ w = w' := by
 have d0 : ((k : Int) == 0) = false := by simp; omega
 have d1 : decide (3 < (k : Int)) = false := decide_eq_false (by omega)
 go_enter Tryz.func153, Tryz.ntmps153
 go_wp2
 go_ret
 exact ⟨rfl, rfl⟩
theorem Zed {w : World} {S : Nat -> Prop} {A : Option Addr} {c k : Nat} (hr : Rd w S 1 A 1 [.int .u8 (k : Int)]) (hk : 1 <= k /\ k <= 3) (hc : 1 <= c) (hm : c <= maxLen) :
  Calls Tryz.prog 184 #[.slice A 1 c, .func (.func 153) #[] #[]] w fun e w' => e = .returned (.int .i64 (-1)) /\ w = w' := by
 obtain ⟨b, off, u, rfl, _, hu, hcell⟩ := hr.get (k := 0) (by omega)
 obtain rfl : Value.int .u8 (k : Int) = u := Option.some.inj hu
 rw [Nat.add_zero] at hcell
 unfold maxLen at hm
 clear hr hu
 go_enter Tryz.func184, Tryz.ntmps184
 go_wp2
 refine wp_loop_rounds 2 ?_
 rw [rounds_succ]
 go_wp2_with fail
 refine (Zec k hk _).mono ?_
 rintro e w1 ⟨rfl, rfl⟩
 go_wp2
 rw [rounds_succ]
 go_wp2
 go_ret
 exact ⟨rfl, rfl⟩
theorem Zhb {w : World} {S : Nat -> Prop} {A : Option Addr} {c k : Nat} (hr : Rd w S 1 A 1 [.int .u8 (k : Int)]) (hk : 1 <= k /\ k <= 3) (hc : 1 <= c) (hm : c <= maxLen) :
  Calls Tryz.prog 152 #[.slice A 1 c, .func (.func 153) #[] #[]] w fun e w' => e = .returned (.bool false) /\ w = w' := by
 have HI := zh (Zed hr hk hc hm)
 go_enter Tryz.func152, Tryz.ntmps152
 go_wp2_with fail
 refine HI.out.mono ?_
 rintro e w1 ⟨rfl, rfl⟩
 go_wp2
 go_ret
 exact ⟨rfl, rfl⟩
theorem Z9U {w : World} {S : Nat -> Prop} {A : Option Addr} {c k : Nat} (hr : Rd w S 1 A 1 [.int .u8 (k : Int)]) (hk : 1 <= k /\ k <= 3) (hc : 1 <= c) (hm : c <= maxLen) :
  Calls Tryz.prog 123 #[.slice A 1 c] w fun e w' => e = .returned (.bool true) /\ w = w' := by
 have HI := zh (Zhb hr hk hc hm)
 go_enter Tryz.func123, Tryz.ntmps123
 go_wp2_with fail
 refine HI.out.mono ?_
 rintro e w1 ⟨rfl, rfl⟩
 go_wp2
 go_ret
 exact ⟨rfl, rfl⟩
theorem Zbh (n : Int) (w : World) :
  Calls Tryz.prog 126 #[.agg (intCells n)] w fun e w' => e = .returned (.int .i64 8) /\ Quiet w w' := by
 have hqq : Hid (Quiet w (w.alloc (.cells (intCells n) 32))) := (Z0.refl _ _).alloc _
 go_enter Tryz.func126, Tryz.ntmps126
 go_wp2
 go_ret
 exact ⟨rfl, hqq.out⟩
abbrev intRow (n : Int) : List Value := [.int .u8 1, .int .i64 n, .string ⟨#[]⟩, .bool false]
theorem intRow.get {w : World} {S : Nat -> Prop} {A : Option Addr} {n : Int} (h : Rd w S 4 A 1 (intRow n)) : ∃ b off, A = some ⟨b, off, none⟩ /\ S b /\ w.cell? ⟨b, off, none⟩ = some (.int .u8 1) /\ w.cell? ⟨b, off + 1, none⟩ = some (.int .i64 n) /\ w.cell? ⟨b, off + 2, none⟩ = some (.string ⟨#[]⟩) /\ w.cell? ⟨b, off + 3, none⟩ = some (.bool false) := by
 obtain ⟨b, off, rfl, hb, hc⟩ := h.cells (by show 0 < 4; decide)
 exact ⟨b, off, rfl, hb, hc 0 _ rfl, hc 1 _ rfl, hc 2 _ rfl, hc 3 _ rfl⟩
theorem Zbi {w : World} {S S2 : Nat -> Prop} {A A2 : Option Addr} {c c2 : Nat} {n : Int} (hk : Rd w S 1 A 1 [.int .u8 1]) (hv : Rd w S2 4 A2 1 (intRow n)) (hc : 1 <= c) (hm : c <= maxLen) (hc2 : 1 <= c2) (hm2 : c2 <= maxLen) :
  Calls Tryz.prog 87 #[.slice A 1 c, .slice A2 1 c2] w fun e w' => e = .returned (.int .i64 0) /\ Quiet w w' := by
 have HR : Hid (∀ W, Quiet w W -> Calls Tryz.prog 123 #[.slice A 1 c] W fun e w' => e = .returned (.bool true) /\ W = w') := fun W hq => Z9U (k := 1) (hk.kept hq (fun _ _ x => x)) (by omega) hc hm
 obtain ⟨b, off, u, rfl, _, hu, hcell⟩ := hk.get (k := 0) (by omega)
 obtain rfl : Value.int .u8 1 = u := Option.some.inj hu
 rw [Nat.add_zero] at hcell
 obtain ⟨b2, off2, rfl, _, v0, v1, v2, v3⟩ := intRow.get hv
 have l1 := Ze hcell
 have l2 := Ze v0
 dsimp only at l1 l2
 unfold maxLen at hm hm2
 clear hk hv hu
 go_enter Tryz.func87, Tryz.ntmps87
 go_wp2_with fail
 refine (HR.out _ (Z0.refl _ _)).mono ?_
 rintro e w1 ⟨rfl, rfl⟩
 go_wp2_with fail
 refine wp_loop_rounds 2 ?_
 rw [rounds_succ]
 go_wp2_with fail
 refine (Z5m n _).mono ?_
 rintro e w1 ⟨rfl, hq1⟩
 have hq0 : Quiet w w1 := ((Z0.refl _ _).alloc _).trans hq1
 have HS := zh (Zbh n)
 have v0' := hq0.cell v0 (fun x => x)
 have v1' := hq0.cell v1 (fun x => x)
 have v2' := hq0.cell v2 (fun x => x)
 have v3' := hq0.cell v3 (fun x => x)
 have hcell' := hq0.cell hcell (fun x => x)
 have HQ0 := zh hq0
 have l1' := Ze hcell'
 have l2' := Ze v0'
 dsimp only at l1' l2'
 clear v0 v1 v2 v3 hcell l1 l2 hq1 hq0
 go_wp2_with fail
 rw [rounds_succ]
 go_wp2_with fail
 refine wp_loop_rounds 2 ?_
 rw [rounds_succ]
 go_wp2_with fail
 go_quiet (fail)
 go_wp2_with fail
 refine (HS.out _).mono ?_
 rintro e w2 ⟨rfl, hq2⟩
 have hq3 : Quiet w w2 := ((HQ0.out.alloc _).drewN _).trans hq2
 clear hq2 v0' v1' v2' v3' hcell' HQ0 l1' l2'
 go_wp2_with fail
 rw [rounds_succ]
 go_wp2_with fail
 go_ret
 exact ⟨rfl, hq3⟩
def Z26 (n k : Nat) : List Nat := (List.range k).map (fun i => if i = 0 then n else 0)
def rowI (n : Nat) : List Nat := 0 :: Z26 n 8
theorem Zct (n k : Nat) : Z26 n (k + 1) = Z26 n k ++ [if k = 0 then n else 0] := by simp [Z26, List.range_succ]
theorem Z44 (n k : Nat) : (Z26 n k).length = k := by simp [Z26]
theorem Zee {n k : Nat} (hn : n < 256) (hk : k < 8) : (n : Int) / 2 ^ (8 * k) = ((if k = 0 then n else 0 : Nat) : Int) := by
 rcases Nat.eq_zero_or_pos k with rfl | h
 ·simp
 ·rw [if_neg (by omega)]
  have h1 : 256 <= 2 ^ (8 * k) := by
   have : 2 ^ 8 <= 2 ^ (8 * k) := Nat.pow_le_pow_right (by omega) (by omega)
   simpa using this
  have h2 : n / 2 ^ (8 * k) = 0 := Nat.div_eq_of_lt (by omega)
  have h3 : (n : Int) / 2 ^ (8 * k) = ((n / 2 ^ (8 * k) : Nat) : Int) := by push_cast; rfl
  rw [h3, h2]
theorem Zhc (w : World) (e : TypeId) (u : Value) : (w.alloc (.cells #[u] e)).ownsRow 0 e 1 (.slice (some ⟨w.heap.size, 0, none⟩) 1 1) 1 [u] :=
 ⟨by simp, .inr ⟨w.heap.size, 1, #[u], rfl, Nat.zero_le _, heap_alloc_new w _, Nat.le_refl _, by unfold maxLen; omega, rfl, by simp⟩⟩
section
variable {w wr w' : World} {v : Value} {l : List Nat}
theorem Z0K.quietly (h : Z0K w wr v l) (hq : Quiet wr w') : Z0K w w' v l := ⟨h.quiet.trans hq, h.new, Z4 h.own hq (fun _ _ x => x)⟩
theorem Z0K.step {w4 : World} {v' : Value} {o : Obj} {x : Nat} (h : Z0K w wr v l) (hg : ZW (wr.alloc o) w4 5 1 v v' (l.length + 1) (Zg l ++ Zg [x])) : Z0K w w4 v' (l ++ [x]) := by
 have hsz := h.quiet.size
 refine ⟨(h.quiet.alloc _).trans' hg.only (fun k hk e => by have := h.new k e; omega), fun k e => ?_, ?_⟩
 ·rcases hg.loc with y | y
  ·rw [y] at e; exact h.new k e
  ·rw [y] at e; injection e with e; simp only [World.size_alloc] at e; omega
 ·rw [List.length_append, show Zg (l ++ [x]) = Zg l ++ Zg [x] by simp [Zg]]
  exact hg.own
end
def Z6Z (w : World) (l : List Nat) (e : Ending) (w' : World) : Prop := ∃ v, e = .returned (.tuple #[v, .int .i64 0]) /\ Z0K w w' v l
theorem Z5W {w : World} {S S2 : Nat -> Prop} {A A2 : Option Addr} {c c2 : Nat} {n : Nat} (hn : n < 256) (hk : Rd w S 1 A 1 [.int .u8 1]) (hv : Rd w S2 4 A2 1 (intRow n)) (hc : 1 <= c) (hm : c <= maxLen) (hc2 : 1 <= c2) (hm2 : c2 <= maxLen) :
  Calls Tryz.prog 43 #[.slice A 1 c, .slice A2 1 c2] w (Z6Z w (rowI n)) := by
 have HF := zh (Zbi hk hv hc hm hc2 hm2)
 have HV := zh hv
 unfold maxLen at hm hm2
 clear hk hv
 go_enter Tryz.func43, Tryz.ntmps43
 go_wp2_with fail
 refine HF.out.mono ?_
 rintro e w1 ⟨rfl, hq1⟩
 obtain ⟨b2, off2, rfl, _, v0, v1, v2, v3⟩ := intRow.get (HV.out.kept hq1 (fun _ _ x => x))
 have l2 := Ze v0
 dsimp only at l2
 have HQ1 := zh hq1
 clear hq1 HF HV
 have HFR : Hid (Z0K w (w1.alloc (.cells #[.int .u8 0] 5)) (.slice (some ⟨w1.heap.size, 0, none⟩) 1 1) [0]) := ⟨HQ1.out.alloc _, fun k e => by injection e with e; simp only at e; have := HQ1.out.size; omega, Zhc _ _ _⟩
 go_wp2_with fail
 refine wp_loop_rounds 2 ?_
 rw [rounds_succ]
 go_wp2_with fail
 have hF0 : Z0K w ((w1.alloc (.cells #[.int .u8 0] 5)).alloc (.cells (intCells n) 32)) (.slice (some ⟨w1.heap.size, 0, none⟩) 1 1) [0] := HFR.out.quietly ((Z0.refl _ _).alloc _)
 have hN0 : ((w1.alloc (.cells #[.int .u8 0] 5)).alloc (.cells (intCells n) 32)).cell? ⟨w1.heap.size + 1, 1, none⟩ = some (.int .i64 (n : Int)) := by
  have h := Z5 (w1.alloc (.cells #[.int .u8 0] 5)) (.cells (intCells n) 32)
  rw [World.size_alloc] at h
  rw [Z1 h]; rfl
 have HF0 := zh hF0
 have HN0 := zh hN0
 clear hF0 hN0 HFR v0 v1 v2 v3 l2 HQ1
 have hbx : w1.heap.size + 1 ≠ w1.heap.size := by omega
 generalize hbb : w1.heap.size + 1 = bx at *
 have hbs : w1.heap.size ≠ bx := by omega
 go_loopw [45, 7, 10] (fun i o _ wr => ∃ (k : Nat) (v' : Value), k <= 8 /\ i = .int .i64 (k : Int) /\ o = v' /\ Z0K w wr v' (0 :: Z26 n k) /\ wr.cell? ⟨bx, 1, none⟩ = some (.int .i64 (n : Int)) /\ (∀ j, v'.ownBlock = some j -> j ≠ bx)) (fun i _ _ _ => 8 - (intOf i).toNat)
 case atStart => exact ⟨0, _, Nat.zero_le _, rfl, rfl, HF0.out, HN0.out, fun j e => by injection e with e; simp only at e; omega⟩
 case round =>
  obtain ⟨k, v', hk, rfl, rfl, hW, hN, hb⟩ := hrel
  by_cases hlt : k < 8
  ·obtain ⟨x, hx⟩ : ∃ x : Nat, (if k = 0 then n else 0) = x := ⟨_, rfl⟩
   have hx256 : x < 256 := by rw [<- hx]; split <;> omega
   have e1 : (n : Int) / 2 ^ (8 * k) % 256 = (x : Int) := by rw [Zee hn hlt, hx]; omega
   have HS := zh (Zct n k)
   rw [hx] at HS
   have hl : (0 :: Z26 n k).length = k + 1 := by rw [List.length_cons, Z44]
   have HRD : Hid (Rd (wr.alloc (.cells #[.int .u8 (x : Int)] 5)) (fun _ => True) 1 (some ⟨wr.heap.size, 0, none⟩) 1 (Zg [x])) := Rd.new wr 1 1 (Zg [x]) _ _ rfl trivial
   have HR1 := zh (Z4 hW.own ((Z0.refl (fun _ => False) wr).alloc (.cells #[.int .u8 (x : Int)] 5)) (fun _ _ x => x))
   have HW := zh hW
   have HB := zh hb
   have HL := zh hl
   have hbw := Ze hN
   dsimp only at hbw
   clear hW hb hl hx
   go_wp2_with (at_builtin; refine app Z4k rfl (.tmp 48) (.tmp 55) rfl rfl HR1.out rfl HRD.out (Z31 [x]) (by rw [HL.out]; unfold maxLen; omega) (by rw [HL.out]; omega) ?_)
   intro v4 w4 hg4
   have HST := zh (HW.out.step hg4)
   have hN4 : w4.cell? ⟨bx, 1, none⟩ = some (.int .i64 (n : Int)) := hg4.only.cell (((Z0.refl (fun _ => False) wr).alloc (.cells #[.int .u8 (x : Int)] 5)).cell hN (fun x => x)) (fun e => HB.out _ e rfl)
   have HB4 : Hid (∀ j, v4.ownBlock = some j -> j ≠ bx) := fun j e => by
    rcases hg4.loc with y | y
    ·rw [y] at e; exact HB.out j e
    ·rw [y] at e; injection e with e; simp only [World.size_alloc] at e; omega
   rw [List.cons_append, <- HS.out] at HST
   clear hg4 HR1 HRD HW HB HS e1 hN
   go_wp2
   go_roundw
   case rel => exact ⟨k + 1, _, by omega, by go_num, rfl, HST.out, hN4, HB4.out⟩
   case measure => simp [intOf]; omega
  ·obtain rfl : k = 8 := by omega
   have hFR : Z0K w wr u7 (rowI n) := hW
   clear hW hN hb
   go_wp2_with fail
   rw [rounds_succ]
   go_wp2_with fail
   go_ret2
   exact ⟨u7, rfl, hFR⟩
def soFar (n k : Nat) : Nat := if k = 0 then 0 else n
def Zhd (w : World) (n : Nat) (e : Ending) (w' : World) : Prop :=
 ∃ A c, e = .returned (.tuple #[.agg (intCells n), .slice A 0 c, .bool true]) /\ Quiet w w'
theorem Z7G {P : Program} {fn : Func} {p q r : Tmp} {ty : TypeId} (h : fn.results = #[.cell p ty, .tmp q, .tmp r]) (tmps : Array Value) (w : World) (g : Nat) (t : TypeId) (cs : Array Value) (fr : Nat × Nat) (d : TypeDesc)
  (hp : tmps.getD p undef = .pointer (some ⟨g, 0, none⟩)) (hg : w.heap[g]? = some (.cells cs t fr))
  (hu : P.underlying ty = some d) (hd : (match d with | .struct _ | .array _ _ => true | _ => false) = true) (hi : (P.info? ty).map (·.size) = some cs.size) :
  (results fn tmps).run P w = .ok (.tuple #[.agg cs, tmps.getD q undef, tmps.getD r undef]) w := by
 have hp' : tmps[p]?.getD undef = .pointer (some ⟨g, 0, none⟩) := by simpa using hp
 simp [results, h, hp', asAddr, run_loadVar_row w g t ty cs fr d hg hu hd hi]
theorem Zef : (Tryz.prog.info? 32).map (·.size) = some 4 := by kernel_rfl
theorem Zd7 {n : Nat} (hn : n < 256) : bits BinOp.or IntKind.i64 ((0 : Nat) : Int) (n : Int) = (n : Int) /\ bits BinOp.or IntKind.i64 (n : Int) ((0 : Nat) : Int) = (n : Int) := by
 have key : ∀ m : Fin 256, bits BinOp.or IntKind.i64 ((0 : Nat) : Int) ((m.val : Nat) : Int) = (m.val : Int) /\ bits BinOp.or IntKind.i64 ((m.val : Nat) : Int) ((0 : Nat) : Int) = (m.val : Int) := by decide +kernel
 exact key ⟨n, hn⟩
theorem ZE (x : Int) (h1 : -9223372036854775808 <= x) (h2 : x <= 9223372036854775807) : IntKind.i64.wrap x = x := by rw [IntKind.wrap_i64]; omega
theorem Zbj {w : World} {S : Nat -> Prop} {b off c : Nat} {n : Nat} (hn : n < 256) (hr : Rd w S 1 (some ⟨b, off, none⟩) 8 (Zg (Z26 n 8))) (hc : 8 <= c) (hm : c <= maxLen) :
  Calls Tryz.prog 124 #[.int .u8 1, .slice (some ⟨b, off, none⟩) 8 c] w (Zhd w n) := by
 have hcell : ∀ k, k < 8 -> w.cell? ⟨b, off + k, none⟩ = some (.int .u8 ((if k = 0 then n else 0 : Nat) : Int)) := fun k hk => by
  obtain ⟨b', off', u, e, _, hu, hcl⟩ := hr.get (k := k) hk
  injection e with e
  injection e with e1 e2
  subst e1 e2
  rw [hcl, <- hu]
  simp only [Zg, Z26, List.getElem?_map, List.getElem?_range hk, Option.map_some]
 have HC := zh hcell
 have hb0 := Ze (hcell 0 (by omega))
 dsimp only at hb0
 unfold maxLen at hm
 have hq0 : Quiet w ((w.alloc (.cells #[.int .u8 0, .int .i64 0, .string ⟨#[]⟩, .bool false] 32)).alloc (.cells #[.int .u8 1, .int .i64 0, .string ⟨#[]⟩, .bool false] 32)) := ((Z0.refl _ _).alloc _).alloc _
 have hB1 : ((w.alloc (.cells #[.int .u8 0, .int .i64 0, .string ⟨#[]⟩, .bool false] 32)).alloc (.cells #[.int .u8 1, .int .i64 0, .string ⟨#[]⟩, .bool false] 32)).heap[w.heap.size]? = some (.cells #[.int .u8 0, .int .i64 0, .string ⟨#[]⟩, .bool false] 32 (0, 0)) := by
  exact Zd (Z5 w _) _
 have hB2 : ((w.alloc (.cells #[.int .u8 0, .int .i64 0, .string ⟨#[]⟩, .bool false] 32)).alloc (.cells #[.int .u8 1, .int .i64 0, .string ⟨#[]⟩, .bool false] 32)).heap[w.heap.size + 1]? = some (.cells #[.int .u8 1, .int .i64 0, .string ⟨#[]⟩, .bool false] 32 (0, 0)) := by
  have h := Z5 (w.alloc (.cells #[.int .u8 0, .int .i64 0, .string ⟨#[]⟩, .bool false] 32)) (.cells #[.int .u8 1, .int .i64 0, .string ⟨#[]⟩, .bool false] 32)
  rw [World.size_alloc] at h
  exact h
 have HQ0 := zh hq0
 have HB1 := zh hB1
 have HB2 := zh hB2
 clear hr hcell hq0 hB1 hB2
 obtain ⟨p1, hp1⟩ : ∃ p1, w.heap.size = p1 := ⟨_, rfl⟩
 obtain ⟨p2, hp2⟩ : ∃ p2, w.heap.size + 1 = p2 := ⟨_, rfl⟩
 rw [hp1] at HB1
 rw [hp2] at HB2
 rw [hp1] at hp2
 go_enter Tryz.func124, Tryz.ntmps124
 go_wp2_with fail
 go_loopw [18, 8] (fun i _ wr => ∃ k : Nat, k <= 8 /\ i = .int .i64 (k : Int) /\ Quiet w wr /\ wr.heap[p1]? = some (.cells #[.int .u8 0, .int .i64 0, .string ⟨#[]⟩, .bool false] 32 (0, 0)) /\ wr.heap[p2]? = some (.cells #[.int .u8 1, .int .i64 (soFar n k : Int), .string ⟨#[]⟩, .bool false] 32 (0, 0))) (fun i _ _ => 8 - (intOf i).toNat)
 case atStart => exact ⟨0, Nat.zero_le _, rfl, HQ0.out, HB1.out, HB2.out⟩
 case round =>
  obtain ⟨k, hk, rfl, hQ, hB1, hB2⟩ := hrel
  have HQ := zh hQ
  have HB1' := zh hB1
  have HB2' := zh hB2
  have c1 : wr.cell? ⟨p2, 1, none⟩ = some (.int .i64 (soFar n k : Int)) := Z1 hB2 1
  have lp2 := Ze c1
  dsimp only at lp2
  by_cases hlt : k < 8
  ·obtain ⟨x, hx⟩ : ∃ x : Nat, (if k = 0 then n else 0) = x := ⟨_, rfl⟩
   have q1 : wr.cell? ⟨b, off + k, none⟩ = some (.int .u8 (x : Int)) := by
    have := HC.out k hlt
    rw [hx] at this
    exact HQ.out.cell this (fun x => x)
   have hx256 : x < 256 := by rw [<- hx]; split <;> omega
   have esh : Op.shift BinOp.shl IntKind.i64 (IntKind.i64.wrap (x : Int)) IntKind.i64 (IntKind.i64.wrap (8 * (k : Int))) = (pure (.int .i64 (x : Int)) : Sem Value) := by
    rw [ZE (x : Int) (by omega) (by omega), ZE (8 * (k : Int)) (by omega) (by omega), shift_shl_any _ _ _ _ (by omega)]
    congr 2
    rcases Nat.eq_zero_or_pos k with h | h
    ·subst h
     simp
     exact ZE (x : Int) (by omega) (by omega)
    ·have h0 : x = 0 := by rw [<- hx, if_neg (by omega)]
     subst h0
     simp
     rfl
   have eor : bits BinOp.or IntKind.i64 (soFar n k : Int) (x : Int) = (soFar n (k + 1) : Int) := by
    unfold soFar
    rw [if_neg (show ¬ k + 1 = 0 by omega)]
    rcases Nat.eq_zero_or_pos k with h | h
    ·subst h
     have h0 : n = x := hx
     rw [if_pos rfl, <- h0]
     exact (Zd7 hn).1
    ·have h0 : x = 0 := by rw [<- hx, if_neg (by omega)]
     rw [if_neg (by omega), h0]
     exact (Zd7 hn).2
   have f1 : wr.frozen? ⟨p2, 1, none⟩ = false := Z7 hB2 1
   clear hQ hB1 hB2 HB1 HB2 HQ0
   go_wp2_with fail
   refine Z0V (S := fun w' => w'.cell? ⟨p2, 1, none⟩ = some (.int .i64 (soFar n k : Int)) /\ w'.cell? ⟨b, off + k, none⟩ = some (.int .u8 (x : Int))) (by kernel_rfl) (by kernel_rfl) (by simp) (⟨c1, q1⟩) (fun Z3 => ?_)
   simp only [List.pop_toArray, List.dropLast, List.size_toArray, List.length_cons, List.length_nil, Nat.reduceAdd, Nat.reduceSub]
   refine zT 0 ?_
   refine zT 1 ?_
   refine zT 2 ?_
   refine zT 3 ?_
   refine zT 4 ?_
   refine zT 5 ?_
   refine zT 6 ?_
   refine zT 7 ?_
   refine zT 8 ?_
   refine zT 9 ?_
   refine zT 10 ?_
   refine zT 11 ?_
   refine zD ?_
   refine Z29 (o := ?_) ?_ ?_
   rotate_left 1
   (focus (simp only [zGA, zGZ, zGS] <;> rfl))
   intro K hK
   go_simp
   refine hK.out _ _ ?_
   clear hK K
   have hQ' : Quiet w (wr.setCell ⟨p2, 1, none⟩ (.int .i64 (soFar n (k + 1) : Int))).drew := (HQ.out.setCell (fun h => absurd h (by show ¬ p2 < w.heap.size; omega)) _).drew
   have hB1' : (wr.setCell ⟨p2, 1, none⟩ (.int .i64 (soFar n (k + 1) : Int))).drew.heap[p1]? = some (.cells #[.int .u8 0, .int .i64 0, .string ⟨#[]⟩, .bool false] 32 (0, 0)) := by
    exact Z4M HB1'.out _ _ (by omega)
   have hB2' : (wr.setCell ⟨p2, 1, none⟩ (.int .i64 (soFar n (k + 1) : Int))).drew.heap[p2]? = some (.cells #[.int .u8 1, .int .i64 (soFar n (k + 1) : Int), .string ⟨#[]⟩, .bool false] 32 (0, 0)) := by
    exact Zf HB2'.out _ _
   generalize (wr.setCell ⟨p2, 1, none⟩ (.int .i64 (soFar n (k + 1) : Int))).drew = wn at *
   clear Z3 esh eor f1 q1 c1 lp2
   go_wp2_with fail
   go_roundw
   case rel => exact ⟨k + 1, by omega, by go_num, hQ', hB1', hB2'⟩
   case measure => simp [intOf]; omega
  ·obtain rfl : k = 8 := by omega
   have f0 : wr.frozen? ⟨p1, 0, none⟩ = false := Z7 hB1 0
   have f1 : wr.frozen? ⟨p1, 1, none⟩ = false := Z7 hB1 1
   have f2 : wr.frozen? ⟨p1, 2, none⟩ = false := Z7 hB1 2
   have f3 : wr.frozen? ⟨p1, 3, none⟩ = false := Z7 hB1 3
   have r0 : wr.cell? ⟨p1, 0, none⟩ = some (.int .u8 0) := Z1 hB1 0
   have r1 : wr.cell? ⟨p1, 1, none⟩ = some (.int .i64 0) := Z1 hB1 1
   have r2 : wr.cell? ⟨p1, 2, none⟩ = some (.string ⟨#[]⟩) := Z1 hB1 2
   have r3 : wr.cell? ⟨p1, 3, none⟩ = some (.bool false) := Z1 hB1 3
   have c0 : wr.cell? ⟨p2, 0, none⟩ = some (.int .u8 1) := Z1 hB2 0
   have c2 : wr.cell? ⟨p2, 2, none⟩ = some (.string ⟨#[]⟩) := Z1 hB2 2
   have c3 : wr.cell? ⟨p2, 3, none⟩ = some (.bool false) := Z1 hB2 3
   have hne : p1 ≠ p2 := by omega
   clear hQ HB1 HB2 HQ0 hB1 hB2
   go_wp2_with fail
   go_region
   have HQ4 : Hid (Quiet w (fourSet wr p1 (.int .u8 1) (.int .i64 (soFar n 8 : Int)) (.string ⟨#[]⟩) (.bool false)).drew) := (HQ.out.trans' (Z02 wr p1 _ _ _ _) (fun k hk e => by omega)).drew
   have HX : Hid ((fourSet wr p1 (.int .u8 1) (.int .i64 (soFar n 8 : Int)) (.string ⟨#[]⟩) (.bool false)).drew.heap[p1]? = some (.cells #[.int .u8 1, .int .i64 (soFar n 8 : Int), .string ⟨#[]⟩, .bool false] 32 (0, 0))) := Z0g HB1'.out _ _ _ _
   unfold fourSet at HQ4 HX
   clear HQ HB1' HB2' f0 f1 f2 f3 r0 r1 r2 r3 c0 c2 c3 c1
   go_wp2
   all_goals exact bodyPost_ret (Z7G Tryz.results124 _ _ p1 _ _ (0, 0) _ (by rfl) HX.out Tryz.underlying32 rfl Zef) (by rfl) ⟨_, _, rfl, HQ4.out⟩
theorem Zhe : Z05 Tryz.prog 33 32 4 40 := Z05.mk' (.agg #[.int .u8 0, .int .i64 0, .string ⟨#[]⟩, .bool false]) Tryz.underlying33 (by kernel_rfl) rfl (by decide)
structure Z4J (w w' : World) (v : Value) (n : Nat) : Prop where
 quiet : Quiet w w'
 new : ∀ k, v.ownBlock = some k -> w.heap.size <= k
 own : w'.ownsRow 0 32 4 v 1 (intRow n)
def Zhf (w : World) (n : Nat) (e : Ending) (w' : World) : Prop := ∃ v, e = .returned (.tuple #[v, .int .i64 0]) /\ Z4J w w' v n
theorem Z6l {w : World} {S S2 : Nat -> Prop} {A A2 : Option Addr} {c c2 : Nat} {n : Nat} (hn : n < 256) (hk : Rd w S 1 A 1 [.int .u8 1]) (hv : Rd w S2 1 A2 9 (Zg (rowI n))) (hc : 1 <= c) (hm : c <= maxLen) (hc2 : 9 <= c2) (hm2 : c2 <= maxLen) :
  Calls Tryz.prog 84 #[.slice A 1 c, .slice A2 9 c2] w (Zhf w n) := by
 have HR := zh (Z9U (k := 1) hk (by omega) hc hm)
 obtain ⟨b, off, u, rfl, _, hu, hcell⟩ := hk.get (k := 0) (by omega)
 obtain rfl : Value.int .u8 1 = u := Option.some.inj hu
 rw [Nat.add_zero] at hcell
 obtain ⟨b2, off2, rfl, _, hcs⟩ := hv.cells (by rw [Z9q]; simp [rowI])
 have q0 : w.cell? ⟨b2, off2, none⟩ = some (.int .u8 0) := hcs 0 _ rfl
 have HT : Hid (Rd w (fun _ => True) 1 (some ⟨b2, off2 + 1, none⟩) 8 (Zg (Z26 n 8))) := by
  refine ⟨by rw [Z9q, Z44], fun _ => ⟨b2, off2 + 1, rfl, trivial, fun j u hj => ?_⟩⟩
  have := hcs (j + 1) u (by unfold rowI Zg at *; rw [List.map_cons, List.getElem?_cons_succ]; exact hj)
  rw [Nat.add_assoc, Nat.add_comm 1 j]
  exact this
 have l1 := Ze hcell
 have l2 := Ze q0
 dsimp only at l1 l2
 unfold maxLen at hm hm2
 clear hk hv hu hcs
 go_enter Tryz.func84, Tryz.ntmps84
 go_wp2_with fail
 refine HR.out.mono ?_
 rintro e w1 ⟨rfl, rfl⟩
 clear HR
 go_wp2_with fail
 go_quiet (fail)
 have hq0 : Quiet w (w.drewN nq) := (Z0.refl _ _).drewN _
 have HT' := zh (HT.out.kept hq0 (fun _ _ x => x))
 have hcell' := hq0.cell hcell (fun x => x)
 have hsz : (w.drewN nq).heap.size = w.heap.size := rfl
 rw [<- hsz] at l1 l2
 have HQ0 := zh hq0
 clear HT hcell q0 hsz hq0
 generalize w.drewN nq = wd at *
 go_wp2_with fail
 refine wp_loop_rounds 2 ?_
 rw [rounds_succ]
 go_wp2_with fail
 have hq1 : Quiet wd (wd.alloc (.cells (#[.int .u8 0, .int .i64 0, .string ⟨#[]⟩, .bool false] : Array Value) 32)) := (Z0.refl _ _).alloc _
 refine (Zbj hn (HT'.out.kept hq1 (fun _ _ x => x)) (by omega) (by unfold maxLen; omega)).mono ?_
 rintro e w2 ⟨A3, c3, rfl, hq2⟩
 have hB : w2.heap[wd.heap.size]? = some (.cells #[.int .u8 0, .int .i64 0, .string ⟨#[]⟩, .bool false] 32 (0, 0)) := hq2.get (Z5 wd _) (fun x => x)
 have hq3 := HQ0.out.trans (hq1.trans hq2)
 have hs3 : w.heap.size <= wd.heap.size := HQ0.out.size
 obtain ⟨pv, hpv⟩ : ∃ pv, wd.heap.size = pv := ⟨_, rfl⟩
 rw [hpv] at hB hs3
 have f0 : w2.frozen? ⟨pv, 0, none⟩ = false := Z7 hB 0
 have f1 : w2.frozen? ⟨pv, 1, none⟩ = false := Z7 hB 1
 have f2 : w2.frozen? ⟨pv, 2, none⟩ = false := Z7 hB 2
 have f3 : w2.frozen? ⟨pv, 3, none⟩ = false := Z7 hB 3
 have r0 : w2.cell? ⟨pv, 0, none⟩ = some (.int .u8 0) := Z1 hB 0
 have r1 : w2.cell? ⟨pv, 1, none⟩ = some (.int .i64 0) := Z1 hB 1
 have r2 : w2.cell? ⟨pv, 2, none⟩ = some (.string ⟨#[]⟩) := Z1 hB 2
 have r3 : w2.cell? ⟨pv, 3, none⟩ = some (.bool false) := Z1 hB 3
 have HQ3 : Hid (Quiet w (fourSet w2 pv (.int .u8 1) (.int .i64 (n : Int)) (.string ⟨#[]⟩) (.bool false))) := hq3.trans' (Z02 w2 pv _ _ _ _) (fun k hk e => by omega)
 unfold fourSet at HQ3
 clear HT' hcell' HQ0 hq1 hq2 hq3 hB l1 l2
 have HS5 : Hid (w2.heap.size = ((((w2.setCell ⟨pv, 0, none⟩ (.int .u8 1)).setCell ⟨pv, 1, none⟩ (.int .i64 (n : Int))).setCell ⟨pv, 2, none⟩ (.string ⟨#[]⟩)).setCell ⟨pv, 3, none⟩ (.bool false)).heap.size) := by simp [Hid, World.setCell]
 have HRD : ∀ W : World, Hid (Rd (W.alloc (.cells #[.int .u8 1, .int .i64 (n : Int), .string ⟨#[]⟩, .bool false] 32)) (fun _ => True) 4 (some ⟨W.heap.size, 0, none⟩) 1 (intRow n)) := fun W => Rd.new W 4 1 (intRow n) _ _ rfl trivial
 have HRD2 := zh (HRD ((((w2.setCell ⟨pv, 0, none⟩ (.int .u8 1)).setCell ⟨pv, 1, none⟩ (.int .i64 (n : Int))).setCell ⟨pv, 2, none⟩ (.string ⟨#[]⟩)).setCell ⟨pv, 3, none⟩ (.bool false))).out
 rw [<- HS5.out] at HRD2
 have HONE : Hid (∀ u ∈ intRow n, u.oneCell' = true) := fun u hu => by
  simp only [intRow, List.mem_cons, List.not_mem_nil, or_false] at hu
  rcases hu with rfl | rfl | rfl | rfl <;> rfl
 clear HRD
 go_wp2_with (at_builtin; refine app Zhe rfl (.tmp 61) (.tmp 63) rfl rfl (World.ownsRow_nil _ _ _ _) rfl HRD2.out HONE.out (by unfold maxLen; omega) (by omega) ?_)
 intro v4 w4 hg4
 have HF : Hid (Z4J w w4 v4 n) := by
  refine ⟨(HQ3.out.alloc _).trans' hg4.only (fun k hk e => by cases e), fun k e => ?_, hg4.own⟩
  rcases hg4.loc with y | y
  ·rw [y] at e; cases e
  ·rw [y] at e; injection e with e; simp only [World.size_alloc] at e; have := HQ3.out.size; omega
 clear hg4 HRD2 HONE HS5 HQ3 f0 f1 f2 f3 r0 r1 r2 r3
 go_wp2_with fail
 rw [rounds_succ]
 go_wp2_with fail
 go_ret2
 exact ⟨v4, rfl, HF.out⟩
theorem Z8t (w : World) (b : Nat) : ∀ (l : List Nat), (∀ x ∈ l, x < 256) -> ∀ (off : Nat) (acc : ByteArray), (∀ j u, (Zg l)[j]? = some u -> w.cell? ⟨b, off + j, none⟩ = some u) →
  (Extern.Bytes.loadBytes ⟨b, off, none⟩ l.length acc).run Tryz.prog w = .ok ⟨acc.data ++ (l.map UInt8.ofNat).toArray⟩ w
 | [], _, off, acc, _ => by simp [Extern.Bytes.loadBytes]
 | x :: l, hb, off, acc, h => by
  have h0 : w.cell? ⟨b, off, none⟩ = some (.int .u8 (x : Int)) := h 0 (.int .u8 x) rfl
  have hx := hb x (by simp)
  have ih := Z8t w b l (fun y hy => hb y (by simp [hy])) (off + 1) (acc.push (UInt8.ofNat x)) (fun j u hu => by
    have := h (j + 1) u (by simpa [Zg] using hu)
    rw [show off + 1 + j = off + (j + 1) by omega]
    exact this)
  have e : ((x : Int).toNat).toUInt8 = UInt8.ofNat x := by simp
  simp only [List.length_cons, Extern.Bytes.loadBytes, Sem.run_bind, run_load, h0, Result.andThen, Zq, e]
  rw [ih]
  congr 1
  apply ByteArray.ext
  simp [ByteArray.push]
theorem Zbk (A : Option Addr) (cap : Nat) (l : List Nat) (S : Nat -> Prop) (w : World) (hr : Rd w S 1 A l.length (Zg l)) (hb : ∀ x ∈ l, x < 256) :
  (Extern.Bytes.bytesOf (.slice A l.length cap)).run Tryz.prog w = .ok ⟨(l.map UInt8.ofNat).toArray⟩ w := by
 rcases A with _ | ⟨b, off, sp⟩
 ·have hl0 : l = [] := by
   rcases l with _ | ⟨x, l⟩
   ·rfl
   ·obtain ⟨b, off, e, _⟩ := hr.cells (by simp [Zg]); cases e
  subst hl0
  rfl
 ·rcases l with _ | ⟨x, l⟩
  ·rfl
  ·obtain ⟨b', off', e, _, hc⟩ := hr.cells (by simp [Zg])
   injection e with e
   rw [e]
   have := Z8t w b' (x :: l) hb off' .empty hc
   show (Extern.Bytes.loadBytes ⟨b', off', none⟩ (x :: l).length .empty).run Tryz.prog w = _
   rw [this]
   congr 1
   apply ByteArray.ext
   show (#[] : Array UInt8) ++ _ = _
   simp
theorem Zhh (A B : Option Addr) (ca cb : Nat) (l m : List Nat) (S S' : Nat -> Prop) (w : World) (hr : Rd w S 1 A l.length (Zg l)) (hr' : Rd w S' 1 B m.length (Zg m)) (hb : ∀ x ∈ l, x < 256) (hb' : ∀ x ∈ m, x < 256) :
  (Extern.BytealgCompare.compare #[.slice A l.length ca, .slice B m.length cb]).run Tryz.prog w = .ok (.int .i64 (Z0F l m)) w := by
 change Sem.run Tryz.prog (do pure (goInt (Extern.BytealgCompare.cmp (<- Extern.Bytes.bytesOf (.slice A l.length ca)) (<- Extern.Bytes.bytesOf (.slice B m.length cb))))) w = _
 simp only [Sem.run_bind, Sem.run_pure, Zbk A ca l S w hr hb, Zbk B cb m S' w hr' hb', Result.andThen]
 rw [Lib.cmp_eq]
 simp only [List.toList_toArray]
 rw [Z8s l m hb hb']
 rfl
theorem Zcu (A B : Option Addr) (ca cb : Nat) (l m : List Nat) (S S' : Nat -> Prop) (w : World) (hr : Rd w S 1 A l.length (Zg l)) (hr' : Rd w S' 1 B m.length (Zg m)) (hb : ∀ x ∈ l, x < 256) (hb' : ∀ x ∈ m, x < 256) :
  Calls Tryz.prog 146 #[.slice A l.length ca, .slice B m.length cb] w fun e w' => e = .returned (.int .i64 (Z0F l m)) /\ w = w' := by
 have h := zh (Zhh A B ca cb l m S S' w hr hr' hb hb')
 clear hr hr' hb hb'
 go_enter Tryz.func146, Tryz.ntmps146
 go_wp2
 rw [run_callFunc_extern Tryz.func180 (by kernel_rfl) (by kernel_rfl) (by kernel_rfl) (e := Extern.BytealgCompare.compare) (by kernel_rfl), h.out]
 simp only [Result.andThen]
 rw [Oper.upon_value]
 go_wp2
 go_ret
 exact ⟨rfl, rfl⟩
theorem Z37 (x : Int) (w : World) : Calls Tryz.prog 181 #[.int .i64 x] w fun e w' => e = .returned (.bool false) /\ w = w' := by
 go_enter Tryz.func181, Tryz.ntmps181
 go_wp2
 go_ret
 exact ⟨by simp, rfl⟩
theorem Zbl (x y : Int) (w : World) : Calls Tryz.prog 147 #[.int .i64 x, .int .i64 y] w fun e w' => e = .returned (.int .i64 (Z1v x y)) /\ w = w' := by
 have hR : Z1v x y = if x < y then -1 else if y < x then 1 else 0 := rfl
 by_cases h1 : x < y
 ·rw [if_pos h1] at hR
  have HR := zh hR
  clear hR
  go_enter Tryz.func147, Tryz.ntmps147
  go_wp2_with fail
  refine (Z37 _ _).mono ?_
  rintro e w1 ⟨rfl, rfl⟩
  go_wp2_with fail
  refine (Z37 _ _).mono ?_
  rintro e w1 ⟨rfl, rfl⟩
  go_wp2
  go_ret
  rw [HR.out]
  exact ⟨rfl, rfl⟩
 ·rw [if_neg h1] at hR
  by_cases h2 : y < x
  ·rw [if_pos h2] at hR
   have HR := zh hR
   clear hR
   go_enter Tryz.func147, Tryz.ntmps147
   go_wp2_with fail
   refine (Z37 _ _).mono ?_
   rintro e w1 ⟨rfl, rfl⟩
   go_wp2_with fail
   refine (Z37 _ _).mono ?_
   rintro e w1 ⟨rfl, rfl⟩
   go_wp2
   go_ret
   rw [HR.out]
   exact ⟨rfl, rfl⟩
  ·rw [if_neg h2] at hR
   have HR := zh hR
   clear hR
   have h3 : x = y := by omega
   subst h3
   go_enter Tryz.func147, Tryz.ntmps147
   go_wp2_with fail
   refine (Z37 _ _).mono ?_
   rintro e w1 ⟨rfl, rfl⟩
   go_wp2_with fail
   refine (Z37 _ _).mono ?_
   rintro e w1 ⟨rfl, rfl⟩
   go_wp2
   go_ret
   rw [HR.out]
   exact ⟨rfl, rfl⟩
def orV (x y z : Int) : Int := if x ≠ 0 then x else if y ≠ 0 then y else z
theorem ZiQ (b : Nat) (x y z : Int) (t : TypeId) (w : World) (h : w.heap[b]? = some (.cells #[.int .i64 x, .int .i64 y, .int .i64 z] t (0, 0))) :
  Calls Tryz.prog 145 #[.slice (some ⟨b, 0, none⟩) 3 3] w fun e w' => e = .returned (.int .i64 (orV x y z)) /\ w = w' := by
 obtain ⟨c0, c1, c2⟩ : w.cell? ⟨b, 0, none⟩ = some (.int .i64 x) /\ w.cell? ⟨b, 1, none⟩ = some (.int .i64 y) /\ w.cell? ⟨b, 2, none⟩ = some (.int .i64 z) := ⟨by rw [Z1 h]; rfl, by rw [Z1 h]; rfl, by rw [Z1 h]; rfl⟩
 have hR := zh (show orV x y z = if x ≠ 0 then x else if y ≠ 0 then y else z from rfl)
 clear h
 go_enter Tryz.func145, Tryz.ntmps145
 go_wp2_with fail
 go_loopw [8, 5] (fun c _ wr => wr = w /\ ∃ k : Nat, k <= 3 /\ c = .int .i64 (k : Int) /\ (0 < k -> x = 0) /\ (1 < k -> y = 0) /\ (2 < k -> z = 0)) (fun c _ _ => 3 - (intOf c).toNat)
 case atStart => exact ⟨rfl, 0, Nat.zero_le _, rfl, fun h => by omega, fun h => by omega, fun h => by omega⟩
 case round =>
  obtain ⟨rfl, k, hk, rfl, k0, k1, k2⟩ := hrel
  rcases (show k = 0 ∨ k = 1 ∨ k = 2 ∨ k = 3 by omega) with rfl | rfl | rfl | rfl
  ·clear k0 k1 k2 hk
   by_cases e : x = 0
   ·have d : (x != 0) = false := by simp [e]
    go_wp2
    go_roundw
    case rel => exact ⟨trivial, 1, by omega, by go_num, fun _ => e, fun h => by omega, fun h => by omega⟩
    case measure => simp [intOf]
   ·have d : (x != 0) = true := by simp [e]
    go_wp2
    go_ret
    rw [hR.out, if_pos e]
    exact ⟨rfl, rfl⟩
  ·have e0 := k0 (by omega)
   clear k0 k1 k2 hk
   have H0 := zh e0
   clear e0
   by_cases e : y = 0
   ·have d : (y != 0) = false := by simp [e]
    have HE := zh e
    clear e
    go_wp2
    go_roundw
    case rel => exact ⟨trivial, 2, by omega, by go_num, fun _ => H0.out, fun _ => HE.out, fun h => by omega⟩
    case measure => simp [intOf]
   ·have d : (y != 0) = true := by simp [e]
    go_wp2
    go_ret
    rw [hR.out, if_neg (by simp [H0.out]), if_pos e]
    exact ⟨rfl, rfl⟩
  ·have e0 := k0 (by omega)
   have e1 := k1 (by omega)
   clear k0 k1 k2 hk
   have H0 := zh e0
   have H1 := zh e1
   clear e0 e1
   by_cases e : z = 0
   ·have d : (z != 0) = false := by simp [e]
    have HE := zh e
    clear e
    go_wp2
    go_roundw
    case rel => exact ⟨trivial, 3, by omega, by go_num, fun _ => H0.out, fun _ => H1.out, fun _ => HE.out⟩
    case measure => simp [intOf]
   ·have d : (z != 0) = true := by simp [e]
    go_wp2
    go_ret
    rw [hR.out, if_neg (by simp [H0.out]), if_neg (by simp [H1.out])]
    exact ⟨rfl, rfl⟩
  ·have e0 := k0 (by omega)
   have e1 := k1 (by omega)
   have e2 := k2 (by omega)
   clear k0 k1 k2 hk c0 c1 c2
   have H0 := zh e0
   have H1 := zh e1
   have H2 := zh e2
   clear e0 e1 e2
   go_wp2
   go_ret
   rw [hR.out, if_neg (by simp [H0.out]), if_neg (by simp [H1.out]), H2.out]
   exact ⟨rfl, rfl⟩
abbrev entV (e : Ent) (A : Option Addr) (c : Nat) : Value := .agg #[.slice A e.key.length c, .int .i64 e.pg, .int .i64 e.sl]
theorem ZiR (a b : Ent) : orV (Z0F a.key b.key) (Z1v a.pg b.pg) (Z1v a.sl b.sl) = cmpE a b := rfl
theorem Z4V (w : World) (o o' o'' : Obj) : (((w.alloc o).alloc o').alloc o'').heap[w.heap.size + 1 + 1]? = some o'' := by
 have := Z0r (w.alloc o) o' o''
 rw [World.size_alloc] at this
 exact this
theorem Z1B {w : World} {b : Nat} {t : TypeId} {fr : Nat × Nat} {x y z : Value} (h : w.heap[b]? = some (.cells #[x, y, z] t fr)) : w.cell? ⟨b, 0, none⟩ = some x /\ w.cell? ⟨b, 1, none⟩ = some y /\ w.cell? ⟨b, 2, none⟩ = some z :=
 ⟨by rw [Z1 h]; rfl, by rw [Z1 h]; rfl, by rw [Z1 h]; rfl⟩
theorem ZfL (a b : Ent) (A B : Option Addr) (ca cb : Nat) (S S' : Nat -> Prop) (w : World) (hr : Rd w S 1 A a.key.length (Zg a.key)) (hr' : Rd w S' 1 B b.key.length (Zg b.key)) (hb : ∀ x ∈ a.key, x < 256) (hb' : ∀ x ∈ b.key, x < 256) :
  Calls Tryz.prog 116 #[entV a A ca, entV b B cb] w fun e w' => e = .returned (.int .i64 (cmpE a b)) /\ Quiet w w' := by
 rw [<- ZiR]
 have hq0 : Quiet w ((w.alloc (.cells #[.slice A a.key.length ca, .int .i64 a.pg, .int .i64 a.sl] 111)).alloc (.cells #[.slice B b.key.length cb, .int .i64 b.pg, .int .i64 b.sl] 111)) := ((Z0.refl _ _).alloc _).alloc _
 have HQ := zh hq0
 have HC := zh (fun (W : World) (hq : Quiet w W) => Zcu A B ca cb a.key b.key S S' W (hr.kept hq (fun _ _ x => x)) (hr'.kept hq (fun _ _ x => x)) hb hb')
 clear hr hr' hb hb' hq0
 go_enter Tryz.func116, Tryz.ntmps116
 go_wp2_with fail
 go_region_held3 (fun w' => w'.cell? ⟨w.heap.size, 0, none⟩ = some (.slice A a.key.length ca) /\ w'.cell? ⟨w.heap.size, 1, none⟩ = some (.int .i64 a.pg) /\ w'.cell? ⟨w.heap.size, 2, none⟩ = some (.int .i64 a.sl) /\ w'.cell? ⟨w.heap.size + 1, 0, none⟩ = some (.slice B b.key.length cb) /\ w'.cell? ⟨w.heap.size + 1, 1, none⟩ = some (.int .i64 b.pg) /\ w'.cell? ⟨w.heap.size + 1, 2, none⟩ = some (.int .i64 b.sl))
  (first | go_keep | fail)
  (first
    | (go_at_call 146; go_must (refine (HC.out _ (HQ.out.drew)).mono ?_; rintro e w2 ⟨rfl, rfl⟩))
    | (go_at_call 147; go_must (refine (Zbl _ _ _).mono ?_; rintro e w2 ⟨rfl, rfl⟩))
    | (go_at_call 145; go_must (refine (ZiQ (w.heap.size + 1 + 1) _ _ _ 3 _ (by exact Z4V _ _ _ _)).mono ?_; rintro e w2 ⟨rfl, rfl⟩))
    | fail)
 go_wp2
 go_ret
 exact ⟨rfl, (HQ.out.alloc _).drew⟩
theorem Z2V : Z05 Tryz.prog 164 111 3 40 := Z05.mk' (.agg #[.slice none 0 0, .int .i64 0, .int .i64 0]) Tryz.underlying164 (by kernel_rfl) rfl (by decide)
theorem Z38 : Z05 Tryz.prog 165 163 1 8 := Z05.mk' (.pointer none) Tryz.underlying165 (by kernel_rfl) rfl (by decide)
abbrev RowAt (w : World) (v : Value) (xs : List EV) : Prop := w.ownsRow 0 111 3 v xs.length (ZU xs)
structure Z28 (w w' : World) (e : TypeId) (size : Nat) (v : Value) (n : Nat) (xs : List Value) : Prop where
 quiet : Quiet w w'
 own : w'.ownsRow 0 e size v n xs
 loc : ∃ k, v.ownBlock = some k /\ w.heap.size <= k
def Z8u (w : World) (e : TypeId) (size n : Nat) (xs : List Value) (en : Ending) (w' : World) : Prop := ∃ v, en = .returned v /\ Z28 w w' e size v n xs
theorem Z8v {w w1 : World} {e : TypeId} {size n : Nat} {v : Value} {xs : List Value} (hg : ZW (w.alloc (.cells #[] e)) w1 e size (.slice (some ⟨w.heap.size, 0, none⟩) 0 0) v n xs) : Z28 w w1 e size v n xs := by
 refine ⟨((Z0.refl _ _).alloc _).trans' hg.only (fun k hk e => by simp [Value.ownBlock] at e; omega), hg.own, ?_⟩
 rcases hg.loc with x | x
 ·exact ⟨w.heap.size, by rw [x]; rfl, Nat.le_refl _⟩
 ·exact ⟨_, x, by simp⟩
theorem Z3W (ad : Addr) (n cap : Nat) (xs : List Value) (S : Nat -> Prop) (w : World) (hr : Rd w S 3 (some ad) n xs) (h1 : ∀ u ∈ xs, u.oneCell' = true) (hl : n <= 100000) :
  Calls Tryz.prog 121 #[.slice (some ad) n cap] w (Z8u w 111 3 n xs) := by
 have heq := fun (w : World) (a : Option Addr) (n c : Nat) => Lib.run_eql_slice_nil (P := Tryz.prog) w 164 _ a n c 0 0 Tryz.underlying164
 have HR := zh hr
 have H1 := zh h1
 clear hr h1
 go_enter Tryz.func121, Tryz.ntmps121
 go_wp2_with (at_builtin; refine app Z2V rfl (.tmp 5) (.tmp 6) rfl rfl (Z4b w _ _) rfl (HR.out.kept ((Z0.refl (fun _ => False) w).alloc _) (fun _ _ x => x)) H1.out (by unfold maxLen; omega) (by omega) ?_)
 intro v w1 hg
 have HF := zh (Z8v hg)
 clear hg
 go_wp2
 go_ret
 exact ⟨v, rfl, HF.out⟩
theorem Z5I (ad : Addr) (n cap : Nat) (xs : List Value) (S : Nat -> Prop) (w : World) (hr : Rd w S 1 (some ad) n xs) (h1 : ∀ u ∈ xs, u.oneCell' = true) (hl : n <= 100000) :
  Calls Tryz.prog 122 #[.slice (some ad) n cap] w (Z8u w 163 1 n xs) := by
 have heq := fun (w : World) (a : Option Addr) (n c : Nat) => Lib.run_eql_slice_nil (P := Tryz.prog) w 165 _ a n c 0 0 Tryz.underlying165
 have HR := zh hr
 have H1 := zh h1
 clear hr h1
 go_enter Tryz.func122, Tryz.ntmps122
 go_wp2_with (at_builtin; refine app Z38 rfl (.tmp 5) (.tmp 6) rfl rfl (Z4b w _ _) rfl (HR.out.kept ((Z0.refl (fun _ => False) w).alloc _) (fun _ _ x => x)) H1.out (by unfold maxLen; omega) (by omega) ?_)
 intro v w1 hg
 have HF := zh (Z8v hg)
 clear hg
 go_wp2
 go_ret
 exact ⟨v, rfl, HF.out⟩
structure Z17 (w : World) (K : Nat -> Prop) (x : EV) : Prop where
 rd : Rd w K 1 x.A x.e.key.length (Zg x.e.key)
 by_ : ∀ b ∈ x.e.key, b < 256
 len : x.e.key.length <= 1000
theorem Z17.kept {w w' : World} {K S : Nat -> Prop} {x : EV} (h : Z17 w K x) (ho : Z0 S w w') (hn : ∀ k, K k -> ¬ S k) : Z17 w' K x := ⟨h.rd.kept ho hn, h.by_, h.len⟩
theorem Z17.quietly {w w' : World} {K : Nat -> Prop} {x : EV} (h : Z17 w K x) (ho : Quiet w w') : Z17 w' K x := h.kept ho (fun _ _ x => x)
theorem Z17.mono {w : World} {K K' : Nat -> Prop} {x : EV} (h : Z17 w K x) (hn : ∀ k, K k -> K' k) : Z17 w K' x := ⟨h.rd.mono hn, h.by_, h.len⟩
theorem Zbn {w : World} {K K' : Nat -> Prop} {x y : EV} (hx : Z17 w K x) (hy : Z17 w K' y) :
  Calls Tryz.prog 116 #[entV x.e x.A x.c, entV y.e y.A y.c] w fun e w' => e = .returned (.int .i64 (cmpE x.e y.e)) /\ Quiet w w' :=
 ZfL x.e y.e x.A y.A x.c y.c K K' w hx.rd hy.rd hx.by_ hy.by_
theorem Z6m {w : World} {S : Nat -> Prop} {A : Option Addr} {xs : List EV} {j : Nat} {x : EV} (h : Rd w S 3 A xs.length (ZU xs)) (hj : xs[j]? = some x) :
  ∃ b off, A = some ⟨b, off, none⟩ /\ w.cell? ⟨b, off + j * 3, none⟩ = some (.slice x.A x.e.key.length x.c) /\ w.cell? ⟨b, off + j * 3 + 1, none⟩ = some (.int .i64 x.e.pg) /\ w.cell? ⟨b, off + j * 3 + 2, none⟩ = some (.int .i64 x.e.sl) := by
 have hl := (zi.1 hj).1
 obtain ⟨b, off, e, _, hc⟩ := h.cells (by rw [Z5a]; omega)
 obtain ⟨h1, h2, h3⟩ := Zbm hj
 exact ⟨b, off, e, hc _ _ h1, by rw [Nat.add_assoc]; exact hc _ _ h2, by rw [Nat.add_assoc]; exact hc _ _ h3⟩
theorem Zhj {es : List Ent} {t : Ent} (hs : ZK es) {h k : Nat} {x : Ent} (hx : es[h]? = some x) (hlt : cmpE x t < 0) (hk : k <= h) {y : Ent} (hy : es[k]? = some y) : cmpE y t < 0 := by
 rcases Nat.lt_or_ge k h with z | z
 ·exact Z1P (hs.get z hy hx) hlt
 ·have : k = h := by omega
  subst this
  rw [hx] at hy
  injection hy with hy
  subst hy
  exact hlt
theorem Zhk {es : List Ent} {t : Ent} (hs : ZK es) {h k : Nat} {x : Ent} (hx : es[h]? = some x) (hlt : ¬ cmpE x t < 0) (hk : h <= k) {y : Ent} (hy : es[k]? = some y) : ¬ cmpE y t < 0 := by
 rcases Nat.lt_or_ge h k with z | z
 ·intro hy2
  exact hlt (Z1P (hs.get z hx hy) hy2)
 ·have : k = h := by omega
  subst this
  rw [hx] at hy
  injection hy with hy
  subst hy
  exact hlt
theorem Z8w (xs : List EV) (t : EV) (A : Option Addr) (cap : Nat) (S K K' : Nat -> Prop) (w : World) (hr : Rd w S 3 A xs.length (ZU xs)) (hk : ∀ x ∈ xs, Z17 w K x) (ht : Z17 w K' t) (hs : ZK (xs.map (·.e))) (hl : xs.length <= 100000) :
  Calls Tryz.prog 115 #[.slice A xs.length cap, entV t.e t.A t.c, .func (.func 116) #[] #[]] w fun e w' => e = .returned (.tuple #[.int .i64 (ZH t.e (xs.map (·.e)) : Int), .bool (decide (t.e ∈ xs.map (·.e)))]) /\ Quiet w w' := by
 obtain ⟨n, hn⟩ : ∃ n, xs.length = n := ⟨_, rfl⟩
 have HN := zh hn
 have HR := zh hr
 have HK := zh hk
 have HT := zh ht
 have HS := zh hs
 rw [hn] at hl ⊢
 obtain ⟨es, hes⟩ : ∃ es, xs.map (·.e) = es := ⟨_, rfl⟩
 have HES := zh hes
 rw [hes] at HS ⊢
 have hel : es.length = n := by rw [<- hes, List.length_map, hn]
 clear hr hk ht hs hn hes
 go_enter Tryz.func115, Tryz.ntmps115
 go_wp2_with fail
 go_loopw [9, 10, 11] (fun ci cj _ wr => ∃ (i j : Nat), i <= j /\ j <= n /\ ci = .int .i64 (i : Int) /\ cj = .int .i64 (j : Int) /\ Quiet w wr /\ wr.heap[w.heap.size]? = some (.cells #[.slice t.A t.e.key.length t.c, .int .i64 t.e.pg, .int .i64 t.e.sl] 111 (0, 0)) /\ (∀ k y, k < i -> es[k]? = some y -> cmpE y t.e < 0) /\ (∀ k y, j <= k -> es[k]? = some y -> 0 <= cmpE y t.e)) (fun ci cj _ _ => (intOf cj).toNat - (intOf ci).toNat)
 case atStart => exact ⟨0, n, Nat.zero_le _, Nat.le_refl _, rfl, rfl, (Z0.refl _ _).alloc _, Z5 _ _, fun k y hk => by omega, fun k y hk hy => by have := (zi.1 hy).1; omega⟩
 case round =>
  obtain ⟨i, j, hij, hjn, rfl, rfl, hq, hb, hlo, hhi⟩ := hrel
  have HQ := zh hq
  have HB := zh hb
  have HLO := zh hlo
  have HHI := zh hhi
  clear hq hb hlo hhi
  by_cases hlt : i < j
  ·obtain ⟨h, hh⟩ : ∃ h : Nat, (i + j) / 2 = h := ⟨_, rfl⟩
   have HH := zh hh
   have hih : i <= h /\ h < j := by omega
   clear hh
   go_wp2_with fail
   rw [show ((i : Int) + (j : Int)) / 2 = (h : Int) by have := HH.out; omega]
   clear HH
   obtain ⟨x, hx⟩ : ∃ x, xs[h]? = some x := ⟨_, zg (by have := HN.out; omega)⟩
   have hxe : es[h]? = some x.e := by rw [<- HES.out, List.getElem?_map, hx]; rfl
   obtain ⟨b, off, rfl, r0, r1, r2⟩ := Z6m (HR.out.kept HQ.out (fun _ _ x => x)) hx
   have HORD := zh (Zbn ((HK.out x (List.mem_of_getElem? hx)).quietly HQ.out.drew) (HT.out.quietly HQ.out.drew))
   obtain ⟨t0, t1, t2⟩ := Z1B HB.out
   have HX := zh hxe
   have d0 : (0 : Int) <= (h : Int) := by omega
   have d1 : (h : Int) < (n : Int) := by omega
   clear hx hxe
   by_cases hc : cmpE x.e t.e < 0
   ·have HC := zh hc
    have hcd : decide (cmpE x.e t.e < 0) = true := decide_eq_true hc
    go_region_held3 (fun w' => w'.cell? ⟨b, off + h * 3, none⟩ = some (.slice x.A x.e.key.length x.c) /\ w'.cell? ⟨b, off + h * 3 + 1, none⟩ = some (.int .i64 x.e.pg) /\ w'.cell? ⟨b, off + h * 3 + 2, none⟩ = some (.int .i64 x.e.sl) /\ w'.cell? ⟨w.heap.size, 0, none⟩ = some (.slice t.A t.e.key.length t.c) /\ w'.cell? ⟨w.heap.size, 1, none⟩ = some (.int .i64 t.e.pg) /\ w'.cell? ⟨w.heap.size, 2, none⟩ = some (.int .i64 t.e.sl))
     (first | go_keep | fail)
     (first
       | (go_at_call 116; go_must (refine HORD.out.mono ?_; rintro e w2 ⟨rfl, hq2⟩; have k0 := hq2.cell r0 (fun x => x); have k1 := hq2.cell r1 (fun x => x); have k2 := hq2.cell r2 (fun x => x); have k3 := hq2.cell t0 (fun x => x); have k4 := hq2.cell t1 (fun x => x); have k5 := hq2.cell t2 (fun x => x)))
       | fail)
    have HQ2 := zh (HQ.out.drew.trans hq2)
    have HB2 := zh (hq2.get HB.out (fun x => x))
    clear hq2 k0 k1 k2 k3 k4 k5 r0 r1 r2 t0 t1 t2 HORD HB HQ
    go_wp2
    go_roundw
    case rel => exact ⟨h + 1, j, by omega, by omega, by go_num, rfl, HQ2.out, HB2.out, fun k y hk hy => Zhj HS.out HX.out HC.out (by omega) hy, HHI.out⟩
    case measure => simp [intOf]; omega
   ·have HC := zh hc
    have hcd : decide (cmpE x.e t.e < 0) = false := decide_eq_false hc
    go_region_held3 (fun w' => w'.cell? ⟨b, off + h * 3, none⟩ = some (.slice x.A x.e.key.length x.c) /\ w'.cell? ⟨b, off + h * 3 + 1, none⟩ = some (.int .i64 x.e.pg) /\ w'.cell? ⟨b, off + h * 3 + 2, none⟩ = some (.int .i64 x.e.sl) /\ w'.cell? ⟨w.heap.size, 0, none⟩ = some (.slice t.A t.e.key.length t.c) /\ w'.cell? ⟨w.heap.size, 1, none⟩ = some (.int .i64 t.e.pg) /\ w'.cell? ⟨w.heap.size, 2, none⟩ = some (.int .i64 t.e.sl))
     (first | go_keep | fail)
     (first
       | (go_at_call 116; go_must (refine HORD.out.mono ?_; rintro e w2 ⟨rfl, hq2⟩; have k0 := hq2.cell r0 (fun x => x); have k1 := hq2.cell r1 (fun x => x); have k2 := hq2.cell r2 (fun x => x); have k3 := hq2.cell t0 (fun x => x); have k4 := hq2.cell t1 (fun x => x); have k5 := hq2.cell t2 (fun x => x)))
       | fail)
    have HQ2 := zh (HQ.out.drew.trans hq2)
    have HB2 := zh (hq2.get HB.out (fun x => x))
    clear hq2 k0 k1 k2 k3 k4 k5 r0 r1 r2 t0 t1 t2 HORD HB HQ
    go_wp2
    go_roundw
    case rel => exact ⟨i, h, by omega, by omega, rfl, rfl, HQ2.out, HB2.out, HLO.out, fun k y hk hy => by have := Zhk HS.out HX.out (show ¬ cmpE x.e t.e < 0 by have := HC.out; omega) hk hy; omega⟩
    case measure => simp [intOf]; omega
  ·obtain rfl : i = j := by omega
   have hpos : i = ZH t.e es := Z9Z (by omega) HLO.out (fun y hy => by have := HHI.out i y (Nat.le_refl _) hy; omega)
   by_cases hin : i < n
   ·obtain ⟨x, hx⟩ : ∃ x, xs[i]? = some x := ⟨_, zg (by have := HN.out; omega)⟩
    have hxe : es[i]? = some x.e := by rw [<- HES.out, List.getElem?_map, hx]; rfl
    obtain ⟨b, off, rfl, r0, r1, r2⟩ := Z6m (HR.out.kept HQ.out (fun _ _ x => x)) hx
    have HORD := zh (Zbn ((HK.out x (List.mem_of_getElem? hx)).quietly HQ.out.drew) (HT.out.quietly HQ.out.drew))
    obtain ⟨t0, t1, t2⟩ := Z1B HB.out
    have HRES : Hid (decide (t.e ∈ es) = (cmpE x.e t.e == 0)) := by
     have h1 := Z7H HS.out (e := t.e)
     rw [<- hpos, hxe] at h1
     have h2 := Z4U x.e t.e
     by_cases e : x.e = t.e
     ·rw [decide_eq_true (h1.2 (by rw [e])), h2.2 e]; rfl
     ·rw [decide_eq_false (fun z => e (by injection h1.1 z))]
      exact (beq_false_of_ne (fun z => e (h2.1 z))).symm
    have HPOS := zh hpos
    have d0 : (0 : Int) <= (i : Int) := by omega
    have d1 : (i : Int) < (n : Int) := by omega
    clear hx hxe hpos
    go_wp2_with fail
    go_region_held3 (fun w' => w'.cell? ⟨b, off + i * 3, none⟩ = some (.slice x.A x.e.key.length x.c) /\ w'.cell? ⟨b, off + i * 3 + 1, none⟩ = some (.int .i64 x.e.pg) /\ w'.cell? ⟨b, off + i * 3 + 2, none⟩ = some (.int .i64 x.e.sl) /\ w'.cell? ⟨w.heap.size, 0, none⟩ = some (.slice t.A t.e.key.length t.c) /\ w'.cell? ⟨w.heap.size, 1, none⟩ = some (.int .i64 t.e.pg) /\ w'.cell? ⟨w.heap.size, 2, none⟩ = some (.int .i64 t.e.sl))
     (first | go_keep | fail)
     (first
       | (go_at_call 116; go_must (refine HORD.out.mono ?_; rintro e w2 ⟨rfl, hq2⟩; have k0 := hq2.cell r0 (fun x => x); have k1 := hq2.cell r1 (fun x => x); have k2 := hq2.cell r2 (fun x => x); have k3 := hq2.cell t0 (fun x => x); have k4 := hq2.cell t1 (fun x => x); have k5 := hq2.cell t2 (fun x => x)))
       | fail)
    have HQ2 := zh (HQ.out.drew.trans hq2)
    have HB2 := zh (hq2.get HB.out (fun x => x))
    clear hq2 k0 k1 k2 k3 k4 k5 r0 r1 r2 t0 t1 t2 HORD HB HQ
    go_wp2
    go_ret2
    rw [HRES.out, <- HPOS.out]
    exact ⟨rfl, HQ2.out⟩
   ·obtain rfl : i = n := by omega
    have HRES : Hid (decide (t.e ∈ es) = false) := decide_eq_false (fun z => by
      have := (Z7H HS.out).1 z
      rw [<- hpos] at this
      have := (zi.1 this).1
      omega)
    have HPOS := zh hpos
    clear hpos
    go_wp2_with fail
    go_quiet (fail)
    go_wp2
    go_ret2
    rw [HRES.out, <- HPOS.out]
    exact ⟨rfl, HQ.out.drewN _⟩
end Go.Proofs.YtnidjfjkodingaaGreatDoor
