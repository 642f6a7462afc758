/- store.Insert of a row of one small number. store.Update of a version that is there, to a row of one small number. store.Scan of a table whose rows are small numbers. Plain: what a stamp leaves at every place; the places of a heap. store.CreateTable of an empty book. A store in a law's world: what it holds, and what each call leaves. StoreFirst's plain part: one page of versions of one row; who may end it. The book's indexes: told, Keep. key.Bytes of a small number, and store.keyOf. store.keyOf of a row of one small number. store.put, with the indexes that must be kept up. No condition. -/
import Derived.Test.YtnidjfjkodingaaGreatDoorBd3
import Derived.Maps.Range
import Derived.Shelf.SlIter.Collect
import Derived.BigFrameIn
import Derived.BigRegion
set_option linter.unusedVariables false
set_option linter.unusedSimpArgs false
set_option maxRecDepth 100000
set_option maxHeartbeats 8000000
namespace Go.Lap
def Z4F (e : IE) : List Value := [.int .u64 (e.id : Int), .string e.name, .int .u64 (e.table : Int), .int .i64 (e.column : Int), .int .u64 (e.xmin : Int), .int .u64 (e.xmax : Int)]
abbrev idxV (l : List IE) : List Value := l.flatMap Z4F
def ZQ (L : List Nat) (id : Nat) (I : List IE) : List IE := I.filter (fun x => decide (x.table = id) && !decide (stateL L x.xmin = 3))
theorem Z5d : ∀ (l : List IE), (idxV l).length = l.length * 6
 | [] => rfl
 | x :: l => by unfold idxV; rw [List.flatMap_cons, List.length_append]; have := Z5d l; unfold idxV at this; rw [this, List.length_cons]; show 6 + _ = _; omega
theorem Z7l (l m : List IE) : idxV (l ++ m) = idxV l ++ idxV m := List.flatMap_append
theorem Zdd (e : IE) : ∀ u ∈ Z4F e, u.oneCell' = true := by
 intro u hu
 simp [Z4F] at hu
 rcases hu with rfl | rfl | rfl | rfl | rfl | rfl <;> rfl
theorem Zet {L : List Nat} {id : Nat} {I : List IE} {k : Nat} {e : IE} (h : I[k]? = some e) : ZQ L id (I.take (k + 1)) = ZQ L id (I.take k) ++ (if (decide (e.table = id) && !decide (stateL L e.xmin = 3)) = true then [e] else []) := by
 unfold ZQ
 rw [List.take_add_one, h, Option.toList_some, List.filter_append]
 congr 1
 rw [List.filter_cons, List.filter_nil]
def Z7N (n s : Nat) : Nat := if s = 0 then 128 else if s = 7 then n else 0
def Z2O (n k : Nat) : List Nat := (List.range k).map (Z7N n)
def ZN (n : Nat) : List Nat := 3 :: Z2O n 8
theorem Zeu (n k : Nat) : Z2O n (k + 1) = Z2O n k ++ [Z7N n k] := by simp [Z2O, List.range_succ]
theorem Z6z (n k : Nat) : (Z2O n k).length = k := by simp [Z2O]
theorem Z7m (n : Nat) : (ZN n).length = 9 := by simp [ZN, Z6z]
theorem Zdf {n : Nat} (hn : n < 256) (s : Nat) : Z7N n s < 256 := by unfold Z7N; split <;> (try split) <;> omega
theorem Z8F {n : Nat} (hn : n < 256) : ∀ x ∈ ZN n, x < 256 := by
 intro x hx
 rcases List.mem_cons.1 hx with e | e
 ·omega
 ·obtain ⟨i, _, e⟩ := List.mem_map.1 e
  rw [<- e]; exact Zdf hn i
theorem Zhy {n j : Nat} (hn : n < 256) (hj : j < 8) : ((9223372036854775808 + n : Nat) : Int) / 2 ^ (8 * j) % 256 = ((Z7N n (7 - j) : Nat) : Int) := by
 unfold Z7N
 rcases j with _ | _ | _ | _ | _ | _ | _ | _ | j
 all_goals first | omega | (simp; omega)
section
open Go.RowKit Go.Maps Go.MapKept Go.WideElems
def Z2P (v : Value) : Option (DataW Value × List MemPlace) := some (.held v, [])
def ZhB (x : MapEntry) : Nat := match x.key with | .int _ z => z.toNat | _ => 0
theorem Zir {x : MapEntry} {j : Nat} (h : x.key = .int .u64 (j : Int)) : ZhB x = j := by
 unfold ZhB
 rw [h]
 simp
theorem ZcH {l : List Nat} {N : Nat} (h : l.Nodup) (hb : ∀ x ∈ l, x <= N) : l.length <= N + 1 := by
 have := h.length_le_of_subset (l₂ := List.range (N + 1)) (fun x hx => List.mem_range.2 (Nat.lt_succ_of_le (hb x hx)))
 simpa using this
section
variable {P : Program} {k : TypeId} {w : World} {b : Nat} {f : Nat -> Option Value}
theorem Z09.owns (h : Z09 w b f) (hk : P.underlying k = some (.int .u64)) {N : Nat} (hN : ∀ x v, f x = some v -> x <= N) (hm : N + 1 <= maxLen) :
  ∃ D : DataW Value, w.ownsMap P k Z2P b (N + 1) D /\ Maps.size D <= N + 1 /\ (∀ kl, Maps.has D kl = true -> ∃ (x : Nat) (v : Value), kl = .int .u64 (x : Int) /\ f x = some v /\ ∀ z, D.atKey kl z = .held v) /\ ∀ x v, f x = some v -> Maps.has D (.int .u64 (x : Int)) = true := by
 obtain ⟨es, clock, h1, h2, h3, h4⟩ := h
 have hrd : ∀ x ∈ es.toList, ∃ (j : Nat), rd P k Z2P x = some (.int .u64 (j : Int), .held x.val) /\ f j = some x.val /\ x.key = .int .u64 (j : Int) := fun x hx => by
  obtain ⟨j, hj, e1, e2⟩ := h3 x hx
  refine ⟨j, ?_, e2, e1⟩
  unfold rd
  rw [e1, keyOf_int_mk hk (wf_u64 hj)]
  rfl
 have hsz : es.size <= N + 1 := by
  have hnd := h2.2.2
  have hl : ∀ (l : List MapEntry), (∀ x ∈ l, ∃ j : Nat, j <= N /\ x.key = .int .u64 (j : Int)) -> (l.map (·.key)).Nodup -> l.length <= N + 1 := by
   intro l hall hn
   have hex : ∃ m : MapEntry -> Nat, ∀ x ∈ l, m x <= N /\ x.key = .int .u64 ((m x : Nat) : Int) := ⟨ZhB, fun x hx => by
     obtain ⟨j, hj, e⟩ := hall x hx
     rw [Zir e]
     exact ⟨hj, e⟩⟩
   obtain ⟨m, hm⟩ := hex
   have : (l.map m).Nodup := by
    rw [List.Nodup, List.pairwise_map] at hn ⊢
    refine List.Pairwise.imp_of_mem ?_ hn
    intro a b ha hb hne e
    exact hne (by rw [(hm a ha).2, (hm b hb).2, e])
   have := ZcH (N := N) this (fun y hy => by obtain ⟨x, hx, rfl⟩ := List.mem_map.1 hy; exact (hm x hx).1)
   simpa using this
  have := hl es.toList (fun x hx => by obtain ⟨j, _, e2, e3⟩ := hrd x hx; exact ⟨j, hN j _ e2, e3⟩) hnd
  simpa using this
 have hfit : Fit P k Z2P es clock := ⟨by omega, h2, fun x hx => by obtain ⟨j, e, _⟩ := hrd x hx; exact ⟨_, e⟩⟩
 have hmem : ∀ p : Lit × DataW Value, p ∈ (es.toList.map (rg P k Z2P)).foldr DataW.insert [] -> ∃ (j : Nat) (v : Value), p = (.int .u64 (j : Int), .held v) /\ f j = some v := fun p hp => by
  rw [mem_sorted, List.mem_map] at hp
  obtain ⟨x, hx, rfl⟩ := hp
  obtain ⟨j, e, e2, _⟩ := hrd x hx
  exact ⟨j, x.val, rg_of e, e2⟩
 have same : ∀ (j : Nat) (kl : Lit), (Lit.int .u64 (j : Int)).sameKey kl = true -> kl = .int .u64 (j : Int) := fun j kl h => by
  cases kl <;> simp [Lit.sameKey] at h
  obtain ⟨rfl, rfl⟩ := h
  rfl
 refine ⟨.map ((es.toList.map (rg P k Z2P)).foldr DataW.insert []), ⟨es, clock, h1, hfit, hsz, rfl⟩, ?_, fun kl hkl => ?_, fun x v hx => ?_⟩
 ·show ((es.toList.map (rg P k Z2P)).foldr DataW.insert []).length <= N + 1
  rw [length_sorted, List.length_map]
  simpa using hsz
 ·obtain ⟨p, hp, hs⟩ := List.any_eq_true.1 hkl
  obtain ⟨j, v, rfl, hv⟩ := hmem p hp
  obtain rfl := same j kl hs
  refine ⟨j, v, rfl, hv, fun z => ?_⟩
  simp only [DataW.atKey]
  cases hfi : ((es.toList.map (rg P k Z2P)).foldr DataW.insert []).find? (fun p => p.1.sameKey (.int .u64 (j : Int))) with
  | none =>
   have := List.find?_eq_none.1 hfi _ hp
   exact absurd hs (by simpa using this)
  | some p2 =>
   have hm := List.mem_of_find?_eq_some hfi
   have hk2 := List.find?_some hfi
   obtain ⟨j2, v2, rfl, hv2⟩ := hmem p2 hm
   have e := same j2 _ hk2
   injection e with _ e
   have : j = j2 := by omega
   subst this
   rw [hv] at hv2
   injection hv2 with hv2
   simp only [hv2]
 ·obtain ⟨y, hy, y1, y2⟩ := h4 x v hx
  obtain ⟨j, e, e2, e3⟩ := hrd y hy
  rw [y1] at e3
  injection e3 with _ e3
  have : j = x := by omega
  subst this
  refine List.any_eq_true.2 ⟨rg P k Z2P y, mem_sorted.2 (List.mem_map.2 ⟨y, hy, rfl⟩), ?_⟩
  rw [rg_of e]
  simp [Lit.sameKey]
end
end
section
open Go.RowKit Go.Maps
structure Z6L (f : Nat -> Option Value) (vs : List Value) : Prop where
 each : ∀ v ∈ vs, ∃ x, f x = some v
 all : ∀ x v, f x = some v -> v ∈ vs
structure Z3D (f : Nat -> Option Value) (D : DataW Value) (left : Lit -> Bool) (vs : List Value) : Prop where
 each : ∀ v ∈ vs, ∃ x, f x = some v
 rest : ∀ (x : Nat) v, f x = some v -> left (.int .u64 (x : Int)) = true ∨ v ∈ vs
 has : ∀ kl, left kl = true -> Maps.has D kl = true
theorem Z3D.step {f : Nat -> Option Value} {D : DataW Value} {left : Lit -> Bool} {vs : List Value} {x : Nat} {v : Value} (h : Z3D f D left vs) (hx : f x = some v) :
  Z3D f D (fun z => left z && !z.sameKey (.int .u64 (x : Int))) (vs ++ [v]) := by
 refine ⟨fun u hu => ?_, fun y u hy => ?_, fun kl hk => ?_⟩
 ·rcases List.mem_append.1 hu with a | a
  ·exact h.each u a
  ·simp at a
   subst a
   exact ⟨x, hx⟩
 ·rcases h.rest y u hy with a | a
  ·by_cases e : y = x
   ·subst e
    rw [hx] at hy
    injection hy with hy
    subst hy
    exact Or.inr (by simp)
   ·refine Or.inl ?_
    show (left (.int .u64 (y : Int)) && !(Lit.int .u64 (y : Int)).sameKey (.int .u64 (x : Int))) = true
    rw [a]
    simp [Lit.sameKey]
    omega
  ·exact Or.inr (List.mem_append_left _ a)
 ·simp at hk
  exact h.has kl hk.1
theorem Z3D.done {f : Nat -> Option Value} {D : DataW Value} {left : Lit -> Bool} {vs : List Value} (h : Z3D f D left vs) (hl : ∀ kl, left kl = false) : Z6L f vs :=
 ⟨h.each, fun x v hx => by
   rcases h.rest x v hx with a | a
   · rw [hl] at a; cases a
   · exact a⟩
end
def cutAt (n i : Nat) : Nat := n * i / ((n + 7) / 8)
def Z1Q (n : Nat) : Nat := (n + 7) / 8
def Z8I (n i : Nat) : List Value := [.int .i64 (cutAt n i : Int), .int .i64 (cutAt n (i + 1) : Int)]
def Z3i (n i : Nat) : List Value := (List.range i).flatMap (Z8I n)
theorem Z5e (n i : Nat) : Z3i n (i + 1) = Z3i n i ++ Z8I n i := by
 unfold Z3i
 rw [List.range_succ, List.flatMap_append]
 simp
theorem Z2k (n i : Nat) : (Z3i n i).length = i * 2 := by
 induction i with
 | zero => rfl
 | succ i ih => rw [Z5e, List.length_append, ih]; simp [Z8I]; omega
theorem Z8J (n : Nat) : ∀ {k i : Nat}, i < k -> (Z3i n k)[i * 2]? = some (.int .i64 (cutAt n i : Int)) /\ (Z3i n k)[i * 2 + 1]? = some (.int .i64 (cutAt n (i + 1) : Int))
 | 0, i, h => by omega
 | k + 1, i, h => by
  rw [Z5e]
  by_cases x : i < k
  ·have := Z8J n x
   rw [List.getElem?_append_left (by rw [Z2k]; omega), List.getElem?_append_left (by rw [Z2k]; omega)]
   exact this
  ·have : i = k := by omega
   subst this
   rw [List.getElem?_append_right (by rw [Z2k]; omega), List.getElem?_append_right (by rw [Z2k]; omega), Z2k, Nat.sub_self, show i * 2 + 1 - i * 2 = 1 by omega]
   exact ⟨rfl, rfl⟩
theorem ZbO (n : Nat) : cutAt n 0 = 0 := by unfold cutAt; rw [Nat.mul_zero, Nat.zero_div]
theorem Z9g (n : Nat) : cutAt n (Z1Q n) = n := by
 unfold cutAt Z1Q
 rcases Nat.eq_zero_or_pos ((n + 7) / 8) with h | h
 ·rw [h]; simp; omega
 ·exact Nat.mul_div_cancel _ h
theorem Z7S (n i : Nat) : cutAt n i + n / ((n + 7) / 8) <= cutAt n (i + 1) := by
 unfold cutAt
 rcases Nat.eq_zero_or_pos ((n + 7) / 8) with h | h
 ·rw [h]; simp
 ·rw [Nat.le_div_iff_mul_le h, Nat.add_mul, Nat.mul_add, Nat.mul_one]
  have h1 := Nat.div_mul_le_self (n * i) ((n + 7) / 8)
  have h2 := Nat.div_mul_le_self n ((n + 7) / 8)
  omega
theorem ZhF (n : Nat) : ∀ {i j : Nat}, i <= j -> cutAt n i <= cutAt n j := by
 intro i j h
 obtain ⟨d, rfl⟩ := Nat.le.dest h
 induction d with
 | zero => exact Nat.le_refl _
 | succ d ih =>
  have h1 : cutAt n (i + d) <= cutAt n (i + d + 1) := Nat.le_trans (Nat.le_add_right _ _) (Z7S n (i + d))
  have h2 := ih (Nat.le_add_right _ _)
  rw [<- Nat.add_assoc]
  omega
theorem Zga {n i : Nat} (h : i <= Z1Q n) : cutAt n i <= n := by
 have := ZhF n h
 rw [Z9g] at this
 exact this
theorem Ziu {n : Nat} (h : 0 < n) (i : Nat) : cutAt n i + 1 <= cutAt n (i + 1) := by
 have h1 := Z7S n i
 have h2 : 1 <= n / ((n + 7) / 8) := by
  rw [Nat.le_div_iff_mul_le (by omega)]
  omega
 omega
theorem Ziv {n : Nat} (h : 2 <= n) (i : Nat) : cutAt n i + 2 <= cutAt n (i + 1) := by
 have h1 := Z7S n i
 have h2 : 2 <= n / ((n + 7) / 8) := by
  rw [Nat.le_div_iff_mul_le (by omega)]
  omega
 omega
theorem Zgb {n : Nat} (h : 2 <= n) : Z1Q n < n := by unfold Z1Q; omega
theorem ZeB {n : Nat} (h : 0 < n) : 0 < Z1Q n := by unfold Z1Q; omega
theorem ZcI : Z1Q 0 = 0 := rfl
theorem Zae (ks : List Kid) (x : Kid) : flat (ks ++ [x]) = flat ks ++ x.xs := by simp [flat]
theorem Z6B {α : Type} (xs : List α) {a b : Nat} (h : a <= b) : xs.take a ++ (xs.drop a).take (b - a) = xs.take b := by
 have e : b = a + (b - a) := by omega
 conv => rhs; rw [e]
 rw [List.take_add]
section
open Go.RowKit
end
theorem Zge {w : World} {S : Nat -> Prop} {A : Option Addr} {n i : Nat} {ps : List (Int × Int)} {p : Int × Int} (h : Rd w S 2 A n (ZM ps)) (hi : ps[i]? = some p) :
  ∃ b off, A = some ⟨b, off, none⟩ /\ S b /\ w.cell? ⟨b, off + i * 2, none⟩ = some (.int .i64 p.1) /\ w.cell? ⟨b, off + i * 2 + 1, none⟩ = some (.int .i64 p.2) := by
 obtain ⟨h1, h2⟩ := Z9P hi
 have hl := (zi.1 h1).1
 obtain ⟨b, off, e, hs, hc⟩ := h.cells (by omega)
 exact ⟨b, off, e, hs, hc _ _ h1, by have := hc _ _ h2; rw [<- Nat.add_assoc] at this; exact this⟩
def Z9h (ps : List (Int × Int)) (x : Ent) : Bool := decide ((x.pg, x.sl) ∈ ps)
def Z1w (ps : List (Int × Int)) (es : List Ent) : List Ent := es.filter (fun x => !Z9h ps x)
def Z0J (ps : List (Int × Int)) (xs : List EV) : List EV := xs.filter (fun x => !Z9h ps x.e)
theorem Z3j (ps : List (Int × Int)) (xs : List EV) : ents (Z0J ps xs) = Z1w ps (ents xs) := by
 unfold ents Z1w Z0J
 rw [List.filter_map]
 rfl
theorem Zgf (ps : List (Int × Int)) (xs : List EV) : (Z0J ps xs).length <= xs.length := List.length_filter_le _ _
theorem ZhI {ps : List (Int × Int)} {x : EV} (xs : List EV) (h : Z9h ps x.e = true) : Z0J ps (xs ++ [x]) = Z0J ps xs := by
 unfold Z0J
 rw [List.filter_append, List.filter_cons_of_neg (by simp [h])]
 simp
theorem Zgg {ps : List (Int × Int)} {x : EV} (xs : List EV) (h : Z9h ps x.e = false) : Z0J ps (xs ++ [x]) = Z0J ps xs ++ [x] := by
 unfold Z0J
 rw [List.filter_append, List.filter_cons_of_pos (by simp [h])]
 rfl
theorem ZeC {ps : List (Int × Int)} {xs : List EV} (h : xs.length <= (Z0J ps xs).length) : Z0J ps xs = xs := by
 unfold Z0J at h ⊢
 rw [List.filter_eq_self]
 rw [<- List.length_filter_eq_length_iff]
 exact Nat.le_antisymm (List.length_filter_le _ _) h
theorem ZK.prune {es : List Ent} (h : ZK es) (ps : List (Int × Int)) : ZK (Z1w ps es) := List.Pairwise.filter _ h
theorem Zgh {ps : List (Int × Int)} {xs : List EV} {x : EV} (h : x ∈ Z0J ps xs) : x ∈ xs := (List.mem_filter.1 h).1
def Z0b (L : List Nat) (H : List (List (Option Tup))) (hz : Nat) (a : Int × Int) : Bool := match ZR H a.1 a.2 with | some v => Z0v L v.xmin v.xmax hz | none => false
def Z0H (L : List Nat) (hz : Nat) (H : List (List (Option Tup))) (l : List (Int × Int)) : List (List (Option Tup)) := l.foldl (fun H a => if Z0b L H hz a then (Z1t H a.1 a.2).2 else H) H
theorem Zag (L : List Nat) (hz : Nat) (H : List (List (Option Tup))) (l : List (Int × Int)) (a : Int × Int) : Z0H L hz H (l ++ [a]) = if Z0b L (Z0H L hz H l) hz a then (Z1t (Z0H L hz H l) a.1 a.2).2 else Z0H L hz H l := by
 unfold Z0H
 rw [List.foldl_append]
 rfl
end Go.Lap
namespace Go.Proofs.YtnidjfjkodingaaGreatDoor
open Go.RowKit Go.Lap
theorem Zm.big {w : World} {sb : Nat} {o : Nat -> Nat} {s : St} (h : Zm w sb o s) : ∀ k, w.heap.size <= k -> o k = 0 := by
 obtain ⟨lb, bb, pb, mh, mt, ms, fh, ft, fs, h⟩ := h
 exact h.big
theorem Zm.cell6 {w : World} {sb : Nat} {o : Nat -> Nat} {s : St} (h : Zm w sb o s) : w.cell? ⟨sb, 6, none⟩ = some (.int .u64 (s.last : Int)) /\ o sb = 1 := by
 obtain ⟨lb, bb, pb, mh, mt, ms, fh, ft, fs, h⟩ := h
 exact ⟨h.cells.2.2.2.2.2.2, h.tags.1⟩
theorem Z2N (w : World) : Calls Tryz.prog 46 #[] w fun e w' => e = .returned (.agg #[.int .i64 (-1), .int .i64 (-1)]) /\ Quiet w w' := by
 go_enter Tryz.func46, Tryz.ntmps46
 go_wp2
 exact bodyPost_ret (v := .agg #[.int .i64 (-1), .int .i64 (-1)]) (by simp [results, Tryz.results46, go_sem]) rfl ⟨rfl, (Z0.refl _ _).alloc _⟩
theorem Zhx (n : Nat) (h : n < 18446744073709551616) : IntKind.u64.wrap (n : Int) = (n : Int) := by
 simp [IntKind.wrap, IntKind.bits, IntKind.signed]
 omega
theorem Zen {n : Nat} (hn : n < 256) : ∀ x ∈ rowI n, x < 256 := by
 intro x hx
 unfold rowI Z26 at hx
 rcases List.mem_cons.1 hx with e | e
 ·omega
 ·obtain ⟨i, _, e⟩ := List.mem_map.1 e
  split at e <;> omega
structure Z5u (wb W : World) (sb pt : Nat) (p q : Int) (o : Nat -> Nat) (s' : St) : Prop where
 only : Z0 (fun k => o k ≠ 0) wb W
 st : ∃ o', (∀ k, k < wb.heap.size -> o' k = o k) /\ Zm W sb o' s' /\ o' pt = 0
 new : wb.heap.size <= pt
 box : W.heap[pt]? = some (.cells #[.int .i64 p, .int .i64 q] 48 (0, 0))
theorem Z0T {wb w1 : World} {pt sb : Nat} {p q : Int} {c0 c1 : Value} {o o2 : Nat -> Nat} {s' : St} (hq : Z0 (fun k => o k ≠ 0) wb w1) (hn : wb.heap.size <= pt) (h1 : w1.heap[pt]? = some (.cells #[c0, c1] 48 (0, 0))) (hst : Zm w1 sb o2 s') (hop : o2 pt = 0) (ho : ∀ k, k < wb.heap.size -> o2 k = o k) :
  Z5u wb ((w1.setCell ⟨pt, 0, none⟩ (.int .i64 p)).setCell ⟨pt, 1, none⟩ (.int .i64 q)) sb pt p q o s' := by
 have h2 := Z2U w1 pt (.int .i64 p) (.int .i64 q)
 exact ⟨hq.trans' h2 (fun k hk e => by omega), ⟨o2, ho, hst.kept h2 (fun k e => by rw [e]; exact hop), hop⟩, hn, Z3x h1 _ _⟩
theorem Z2b {W : World} {sb a b : Nat} (h : a = b) (x : W.cell? ⟨sb, 6, none⟩ = some (.int .u64 (a : Int))) : W.cell? ⟨sb, 6, none⟩ = some (.int .u64 (b : Int)) := by rw [<- h]; exact x
theorem Z5u.cell6 {wb W : World} {sb pt : Nat} {p q : Int} {o : Nat -> Nat} {s' : St} (h : Z5u wb W sb pt p q o s') : W.cell? ⟨sb, 6, none⟩ = some (.int .u64 (s'.last : Int)) := by
 obtain ⟨o', _, h1, _⟩ := h.st
 exact h1.cell6.1
theorem Zdb {goal : Prop} {wb : World} {sb : Nat} {p q : Int} {o : Nat -> Nat} {s' : St} {G : Nat -> World -> Prop} (main : (∀ pt W, Z5u wb W sb pt p q o s' -> G pt W) -> goal) (key : ∀ pt W, Z5u wb W sb pt p q o s' -> G pt W) : goal := main key
def Z4D (w : World) (sb : Nat) (o : Nat -> Nat) (s' : St) (e : Ending) (w' : World) : Prop := e = .returned (.int .i64 0) /\ Z0E w sb o s' w'
theorem Z8A {w : World} {sb x i c3 n : Nat} {o : Nat -> Nat} {s s1 : St} {y : Zo} {t : TE} {name nm : ByteArray} {Sv : Nat -> Prop} {A3 : Option Addr} {p q : Int} (h : Zm w sb o s) (hx : U64 x) (hy : s.sn x = some y) (hf : Z0w s.L y name s.T = some i) (ht : s.T[i]? = some t) (hc : t.cols = [(nm, 1)])
  (hn : n < 256) (hv : Rd w Sv 4 A3 1 (intRow n)) (hc3 : 1 <= c3) (hm3 : c3 <= maxLen) (hlast : s.last + 1 < 18446744073709551616) (hl1 : s1.last = s.last)
  (hput : ∀ (W : World) (A2 : Option Addr) (c2 : Nat) (A5 : Option Addr) (c5 : Nat), Quiet w W -> Rd W (fun k => w.heap.size <= k) 2 A2 t.cols.length (ZP t.cols) -> t.cols.length <= c2 -> c2 <= maxLen -> Rd W (fun k => w.heap.size <= k) 1 A5 9 (Zg (rowI n)) -> 9 <= c5 -> c5 <= maxLen →
    Calls Tryz.prog 45 #[ptrV sb, Z06 t A2 c2, Zt ⟨s.last + 1, x, 0, -1, -1, rowI n⟩ A5 c5] W (Z4p W sb o s1 p q)) :
  Calls Tryz.prog 12 #[ptrV sb, .int .u64 (x : Int), .string name, .slice A3 1 c3] w (Z4D w sb o { s1 with last := s.last + 1 }) := by
 have HO := zh (Z5J h hx hy hf ht)
 have HH := zh h
 have HC := zh hc
 have HL1 := zh hl1
 have HPU := zh hput
 have HN := zh hn
 have HV := zh hv
 have HC3 := zh (And.intro hc3 hm3)
 obtain ⟨ln, hln⟩ : ∃ ln, s.last + 1 = ln := ⟨_, rfl⟩
 rw [hln] at hlast
 have HLN := zh hln
 have HLA := zh hlast
 have en : ((s.last : Int) + 1) = (ln : Int) := by rw [<- hln]; omega
 have hw : IntKind.u64.wrap (ln : Int) = (ln : Int) := Zhx ln hlast
 have HW := zh hw
 have HEN := zh en
 clear h hx hy hf ht hc hn hv hc3 hm3 hlast hln hw en hl1 hput
 go_enter Tryz.func12, Tryz.ntmps12
 go_wp2_with fail
 refine HO.out.mono ?_
 rintro e w1 ⟨A, c, A2, c2, rfl, hq1, hs1, hf1, hc2, hm2⟩
 clear HO
 have HQ1 := zh hq1
 have HF1 := zh hf1
 have HC2 := zh (And.intro hc2 hm2)
 have q2 : Quiet w1 ((w1.alloc (.cells (snapCells y A c) 84)).alloc (.cells #[.int .u64 (t.id : Int), .string t.name, .slice A2 t.cols.length c2, .int .u64 (t.xmin : Int), .int .u64 (t.xmax : Int)] 98)) := ((Z0.refl _ _).alloc _).alloc _
 have b10 := Z0r w1 (.cells (snapCells y A c) 84) (.cells #[.int .u64 (t.id : Int), .string t.name, .slice A2 t.cols.length c2, .int .u64 (t.xmin : Int), .int .u64 (t.xmax : Int)] 98)
 have HQ2 := zh q2
 have HB10 := zh b10
 obtain ⟨r9, hr9⟩ : ∃ r9, w1.heap.size = r9 := ⟨_, rfl⟩
 obtain ⟨r10, hr10⟩ : ∃ r10, r9 + 1 = r10 := ⟨_, rfl⟩
 rw [hr9] at HB10
 rw [hr10] at HB10
 have HR10 : Hid (w1.heap.size <= r10) := by show _ <= _; omega
 have HE9 := zh hr9
 have HE10 := zh hr10
 clear hq1 hs1 hf1 hc2 hm2 q2 b10 hr9 hr10
 unfold Zk Z06
 go_wp2_with fail
 (try simp only [World.size_alloc])
 rw [HE9.out, HE10.out]
 generalize (w1.alloc (.cells #[.int .u64 (y.own : Int), .int .u64 (y.xmin : Int), .int .u64 (y.xmax : Int), .slice A y.run.length c] 84)).alloc (.cells #[.int .u64 (t.id : Int), .string t.name, .slice A2 t.cols.length c2, .int .u64 (t.xmin : Int), .int .u64 (t.xmax : Int)] 98) = w2 at *
 have HKND : Hid (Calls Tryz.prog 44 #[Z06 t A2 c2] w2 (Z39 w2 1)) := by
  obtain ⟨A', c', e', h1, h2, h3⟩ := Z9 HF1.out.own
  injection e' with e1 _ e2
  subst e1 e2
  have h4 := h3.kept HQ2.out (fun _ _ x => x)
  have h5 := HC2.out
  rw [HC.out] at h4 h5
  exact Z3J HC.out h4 h5.1 h5.2
 unfold Z06 at HKND
 refine HKND.out.mono ?_
 rintro e w3 ⟨v3, rfl, hf3⟩
 obtain ⟨A9, c9, rfl, hc9, hm9, hrd9⟩ := Z9 hf3.own
 have HQ3 : Hid (Quiet w2 w3) := hf3.quiet
 have HQV : Hid (Quiet w w3) := (HQ1.out.trans HQ2.out).trans HQ3.out
 have HRB := zh (Z5W HN.out (by exact hrd9) (HV.out.kept HQV.out (fun _ _ x => x)) hc9 hm9 HC3.out.1 HC3.out.2)
 clear hf3 hc9 hm9 hrd9 HKND
 go_wp2_with fail
 refine HRB.out.mono ?_
 rintro e wb ⟨v5, rfl, hf5⟩
 obtain ⟨A5, c5, rfl, hc5, hm5, hrd5⟩ := Z9 hf5.own
 have h9 : (rowI n).length = 9 := Z0j n
 have HQB : Hid (Quiet w wb) := HQV.out.trans hf5.quiet
 have HQ35 : Hid (Quiet w3 wb) := hf5.quiet
 have HB10b := zh (hf5.quiet.get (HQ3.out.get HB10.out (fun x => x)) (fun x => x))
 have HRD5 := zh hrd5
 have HNEW5 : Hid (∀ k, (Value.slice A5 (rowI n).length c5).ownBlock = some k -> w.heap.size <= k) := fun k e => Nat.le_trans HQV.out.size (hf5.new k e)
 have HHB := zh (HH.out.quietly HQB.out)
 have HBZ : Hid (∀ k, wb.heap.size <= k -> o k = 0) := HHB.out.big
 have HBG : Hid (∀ k, wb.heap.size <= k -> ¬ o k ≠ 0) := fun k hk e => e (HBZ.out k hk)
 have hx10 : o r10 = 0 := HH.out.big r10 (by have := HQ1.out.size; have := HR10.out; omega)
 have HX10 : Hid (¬ o r10 ≠ 0) := fun e => e hx10
 have HS7 : Hid (∀ W, Z0 (fun k => o k ≠ 0) wb W -> W.cell? ⟨sb, 6, none⟩ = some (.int .u64 (s.last : Int)) -> (fun w' => w'.cell? ⟨sb, 6, none⟩ = some (.int .u64 (s.last : Int)) /\ w'.cell? ⟨r10, 0, none⟩ = some (.int .u64 (t.id : Int)) /\ w'.cell? ⟨r10, 1, none⟩ = some (.string t.name) /\ w'.cell? ⟨r10, 2, none⟩ = some (.slice A2 t.cols.length c2) /\ w'.cell? ⟨r10, 3, none⟩ = some (.int .u64 (t.xmin : Int)) /\ w'.cell? ⟨r10, 4, none⟩ = some (.int .u64 (t.xmax : Int))) W) := fun W hq h6 => by
  have b := Z0h (hq.get HB10b.out HX10.out)
  exact ⟨h6, b⟩
 have HC6 := zh HHB.out.cell6.1
 have HPUT : Hid (∀ W, Quiet wb W -> Calls Tryz.prog 45 #[ptrV sb, .agg #[.int .u64 (t.id : Int), .string t.name, .slice A2 t.cols.length c2, .int .u64 (t.xmin : Int), .int .u64 (t.xmax : Int)], .agg #[.int .u64 (ln : Int), .int .u64 (x : Int), .int .u64 0, .int .i64 (-1), .int .i64 (-1), .slice A5 9 c5]] W (Z4p W sb o s1 p q)) := fun W hq => by
  obtain ⟨A', c', e', h1, h2, h3⟩ := Z9 HF1.out.own
  injection e' with e1 _ e2
  subst e1 e2
  have hp := HPU.out W A2 c2 A5 c5 (HQB.out.trans hq) ((((h3.kept HQ2.out (fun _ _ x => x)).kept (HQ3.out.trans HQ35.out) (fun _ _ x => x)).kept hq (fun _ _ x => x)).mono (fun k e => HF1.out.new k e)) HC2.out.1 HC2.out.2 (by have := (HRD5.out.kept hq (fun _ _ x => x)).mono (T := fun k => w.heap.size <= k) (fun k e => HNEW5.out k e); rw [Z0j] at this; exact this) (by have := hc5; rw [Z0j] at this; exact this) hm5
  rw [HLN.out] at hp
  unfold Z06 Zt at hp
  dsimp only at hp
  rw [Z0j] at hp
  exact hp
 clear hf5 hrd5 hc5 hm5 hx10 HRB
 go_wp2_with fail
 apply Zdb (wb := wb) (sb := sb) (p := p) (q := q) (o := o) (s' := s1)
 case main =>
   intro KEY
   have hw := HW.out
   have en := HEN.out
   refine wp_region_held_drew (S := (fun w' => w'.cell? ⟨sb, 6, none⟩ = some (.int .u64 (s.last : Int)) /\ w'.cell? ⟨r10, 0, none⟩ = some (.int .u64 (t.id : Int)) /\ w'.cell? ⟨r10, 1, none⟩ = some (.string t.name) /\ w'.cell? ⟨r10, 2, none⟩ = some (.slice A2 t.cols.length c2) /\ w'.cell? ⟨r10, 3, none⟩ = some (.int .u64 (t.xmin : Int)) /\ w'.cell? ⟨r10, 4, none⟩ = some (.int .u64 (t.xmax : Int)))) (by kernel_rfl) (HS7.out _ ((Z0.refl _ _).drew) (((Z0.refl (fun _ => False) wb).drew).cell HC6.out (fun x => x))) (fun Z3 => ?_)
   simp only [List.size_toArray, List.length_cons, List.length_nil, Nat.reduceAdd]
   have q0 : Quiet wb wb.drew := (Z0.refl _ _).drew
   generalize wb.drew = d0 at q0 Z3 ⊢
   refine zT 0 ?_
   refine zT 1 ?_
   refine zT 2 ?_
   refine zT 3 ?_
   refine zT 4 ?_
   refine zT 5 ?_
   refine zT 6 ?_
   refine zT 7 ?_
   refine zT 9 ?_
   refine wpAnyH_ready (rs := [8, 15]) (by kernel_rfl) (by simp) ?_
   refine zA ?_ ?_
   ·intro K hK
    go_simp
    go_at_call 46
    refine (Z2N _).mono ?_
    rintro e d1 ⟨rfl, hqn⟩
    have q1 := q0.trans hqn
    clear hqn
    dsimp only
    refine hK.out _ _ ?_ (fun Z3 => ?_)
    ·exact HS7.out _ (q1.mono (fun _ _ x => x.elim)) (q1.cell HC6.out (fun x => x))
    clear hK K
    (try simp only [Act.put, zPA, zPZ, zPS])
    refine zT 10 ?_
    refine wpAnyH_ready (rs := [11, 15]) (by kernel_rfl) (by simp) ?_
    refine zA ?_ ?_
    ·intro K hK
     go_simp
     go_at_call 45
     refine (HPUT.out _ q1).mono ?_
     rintro e d2 ⟨rfl, o2, ho2, hw2, hst2⟩
     have q2 := (q1.mono (T := (fun k => o k ≠ 0)) (fun _ _ x => x.elim)).trans hw2
     have hz2 := q1.size
     have ho3 : ∀ k, k < wb.heap.size -> o2 k = o k := fun k hk => ho2 k (by omega)
     clear ho2 hw2 hz2
     dsimp only
     refine hK.out _ _ ?_ (fun Z3 => ?_)
     ·exact HS7.out _ q2 (Z2b HL1.out hst2.cell6.1)
     clear hK K
     (try simp only [Act.put, zPA, zPZ, zPS])
     refine zT 12 ?_
     refine zT 13 ?_
     refine zT 14 ?_
     refine zR 15 ?_
     intro K hK
     go_simp
     refine hK.out _ _ ?_ (fun Z3 => ?_)
     ·exact HS7.out _ (q2.alloc _) (((Z0.refl (fun _ => False) d2).alloc _).cell (Z2b HL1.out hst2.cell6.1) (fun x => x))
     clear hK K
     (try simp only [Act.put, zPA, zPZ, zPS])
     have hbig2 := Zm.big hst2
     have qe2 := q2.alloc (.cells #[.int .i64 0, .int .i64 0] 48)
     have hb1 := Z5 d2 (.cells #[.int .i64 0, .int .i64 0] 48)
     have hnp : wb.heap.size <= d2.heap.size := q2.size
     have hst2 := hst2.quietly ((Z0.refl (fun _ => False) d2).alloc (.cells #[.int .i64 0, .int .i64 0] 48))
     have hop : o2 d2.heap.size = 0 := hbig2 _ (Nat.le_refl _)
     obtain ⟨pt, hpt⟩ : ∃ pt, d2.heap.size = pt := ⟨_, rfl⟩
     (try rw [hpt] at hb1)
     (try rw [hpt] at hnp)
     (try rw [hpt])
     (try rw [hpt] at hop)
     generalize d2.alloc (.cells #[.int .i64 0, .int .i64 0] 48) = e2 at *
     clear hpt
     obtain ⟨z0, z1⟩ := zC2 hb1
     have zf := fun o => Z7 hb1 o
     refine zR 16 ?_
     intro K hK
     go_simp
     refine hK.out _ _ ?_ (fun Z3 => ?_)
     ·exact HS7.out _ (Z0T qe2 hnp hb1 hst2 hop ho3 (p := p) (q := q)).only (Z2b HL1.out (Z0T qe2 hnp hb1 hst2 hop ho3 (p := p) (q := q)).cell6)
     clear hK K
     (try simp only [Act.put, zPA, zPZ, zPS])
     have HG := (Z0T qe2 hnp hb1 hst2 hop ho3 (p := p) (q := q))
     refine zT 17 ?_
     refine zD ?_
     generalize (e2.setCell ⟨pt, 0, none⟩ (.int .i64 p)).setCell ⟨pt, 1, none⟩ (.int .i64 q) = WF at HG ⊢
     exact KEY _ _ HG
    refine zA ?_ AllReadyH.nil
    intro K hK
    go_simp
    refine hK.out _ _ ?_ (fun Z3 => ?_)
    ·exact HS7.out _ ((q1.alloc _).mono (fun _ _ x => x.elim)) ((q1.alloc _).cell HC6.out (fun x => x))
    clear hK K
    (try simp only [Act.put, zPA, zPZ, zPS])
    have qe1 := q1.alloc (.cells #[.int .i64 0, .int .i64 0] 48)
    have hb1 := Z5 d1 (.cells #[.int .i64 0, .int .i64 0] 48)
    have hnp : wb.heap.size <= d1.heap.size := q1.size
    obtain ⟨pt, hpt⟩ : ∃ pt, d1.heap.size = pt := ⟨_, rfl⟩
    (try rw [hpt] at hb1)
    (try rw [hpt] at hnp)
    (try rw [hpt])
    generalize d1.alloc (.cells #[.int .i64 0, .int .i64 0] 48) = e1 at *
    clear hpt
    refine zR 11 ?_
    intro K hK
    go_simp
    go_at_call 45
    refine (HPUT.out _ qe1).mono ?_
    rintro e d2 ⟨rfl, o2, ho2, hw2, hst2⟩
    have q2 := (qe1.mono (T := (fun k => o k ≠ 0)) (fun _ _ x => x.elim)).trans hw2
    have hz2 := qe1.size
    have hb2 := hw2.get hb1 (HBG.out _ hnp)
    have hop : o2 pt = 0 := by rw [ho2 pt (Z2 hb1)]; exact HBZ.out _ hnp
    have ho3 : ∀ k, k < wb.heap.size -> o2 k = o k := fun k hk => ho2 k (by omega)
    clear ho2 hw2 hz2
    dsimp only
    refine hK.out _ _ ?_ (fun Z3 => ?_)
    ·exact HS7.out _ q2 (Z2b HL1.out hst2.cell6.1)
    clear hK K
    (try simp only [Act.put, zPA, zPZ, zPS])
    obtain ⟨z0, z1⟩ := zC2 hb2
    have zf := fun o => Z7 hb2 o
    refine zT 12 ?_
    refine zT 13 ?_
    refine zT 14 ?_
    refine zR 16 ?_
    intro K hK
    go_simp
    refine hK.out _ _ ?_ (fun Z3 => ?_)
    ·exact HS7.out _ (Z0T q2 hnp hb2 hst2 hop ho3 (p := p) (q := q)).only (Z2b HL1.out (Z0T q2 hnp hb2 hst2 hop ho3 (p := p) (q := q)).cell6)
    clear hK K
    (try simp only [Act.put, zPA, zPZ, zPS])
    have HG := (Z0T q2 hnp hb2 hst2 hop ho3 (p := p) (q := q))
    refine zT 17 ?_
    refine zD ?_
    generalize (d2.setCell ⟨pt, 0, none⟩ (.int .i64 p)).setCell ⟨pt, 1, none⟩ (.int .i64 q) = WF at HG ⊢
    exact KEY _ _ HG
   refine zA ?_ AllReadyH.nil
   intro K hK
   go_simp
   refine hK.out _ _ ?_ (fun Z3 => ?_)
   ·exact HS7.out _ ((q0.alloc _).mono (fun _ _ x => x.elim)) ((q0.alloc _).cell HC6.out (fun x => x))
   clear hK K
   (try simp only [Act.put, zPA, zPZ, zPS])
   have qe0 := q0.alloc (.cells #[.int .i64 0, .int .i64 0] 48)
   have hb1 := Z5 d0 (.cells #[.int .i64 0, .int .i64 0] 48)
   have hnp : wb.heap.size <= d0.heap.size := q0.size
   obtain ⟨pt, hpt⟩ : ∃ pt, d0.heap.size = pt := ⟨_, rfl⟩
   (try rw [hpt] at hb1)
   (try rw [hpt] at hnp)
   (try rw [hpt])
   generalize d0.alloc (.cells #[.int .i64 0, .int .i64 0] 48) = e0 at *
   clear hpt
   refine zR 8 ?_
   intro K hK
   go_simp
   go_at_call 46
   refine (Z2N _).mono ?_
   rintro e d1 ⟨rfl, hqn⟩
   have q1 := qe0.trans hqn
   have hbq := hqn.get hb1 (fun x => x)
   clear hb1
   have hb1 := hbq
   clear hbq
   clear hqn
   dsimp only
   refine hK.out _ _ ?_ (fun Z3 => ?_)
   ·exact HS7.out _ (q1.mono (fun _ _ x => x.elim)) (q1.cell HC6.out (fun x => x))
   clear hK K
   (try simp only [Act.put, zPA, zPZ, zPS])
   refine zT 10 ?_
   refine zR 11 ?_
   intro K hK
   go_simp
   go_at_call 45
   refine (HPUT.out _ q1).mono ?_
   rintro e d2 ⟨rfl, o2, ho2, hw2, hst2⟩
   have q2 := (q1.mono (T := (fun k => o k ≠ 0)) (fun _ _ x => x.elim)).trans hw2
   have hz2 := q1.size
   have hb2 := hw2.get hb1 (HBG.out _ hnp)
   have hop : o2 pt = 0 := by rw [ho2 pt (Z2 hb1)]; exact HBZ.out _ hnp
   have ho3 : ∀ k, k < wb.heap.size -> o2 k = o k := fun k hk => ho2 k (by omega)
   clear ho2 hw2 hz2
   dsimp only
   refine hK.out _ _ ?_ (fun Z3 => ?_)
   ·exact HS7.out _ q2 (Z2b HL1.out hst2.cell6.1)
   clear hK K
   (try simp only [Act.put, zPA, zPZ, zPS])
   obtain ⟨z0, z1⟩ := zC2 hb2
   have zf := fun o => Z7 hb2 o
   refine zT 12 ?_
   refine zT 13 ?_
   refine zT 14 ?_
   refine zR 16 ?_
   intro K hK
   go_simp
   refine hK.out _ _ ?_ (fun Z3 => ?_)
   ·exact HS7.out _ (Z0T q2 hnp hb2 hst2 hop ho3 (p := p) (q := q)).only (Z2b HL1.out (Z0T q2 hnp hb2 hst2 hop ho3 (p := p) (q := q)).cell6)
   clear hK K
   (try simp only [Act.put, zPA, zPZ, zPS])
   have HG := (Z0T q2 hnp hb2 hst2 hop ho3 (p := p) (q := q))
   refine zT 17 ?_
   refine zD ?_
   generalize (d2.setCell ⟨pt, 0, none⟩ (.int .i64 p)).setCell ⟨pt, 1, none⟩ (.int .i64 q) = WF at HG ⊢
   exact KEY _ _ HG
 case key =>
  intro pt W HL0
  have HL := zh HL0
  obtain ⟨o', ho', hst, hop⟩ := HL0.st
  have hq := HL0.only
  clear HL0 HS7 HPUT HC6
  have HPO : Hid (Z4D w sb o { s1 with last := s.last + 1 } (.returned (.int .i64 0)) (W.setCell ⟨sb, 6, none⟩ (.int .u64 (ln : Int)))) := by
   obtain ⟨lb, bb, pb, mh, mt, ms, fh, ft, fs, h⟩ := hst
   have h2 := h.setLast (z := (ln : Int)) rfl HLA.out
   have hs1 := HHB.out.cell6.2
   have h3 : Zh (W.setCell ⟨sb, 6, none⟩ (.int .u64 (ln : Int))) sb o' { s1 with last := s.last + 1 } lb bb pb mh mt ms fh ft fs := by
    rw [HLN.out]
    exact h2
   refine ⟨rfl, o', fun k hk => ho' k (Nat.lt_of_lt_of_le hk HQB.out.size), ?_, _, _, _, _, _, _, _, _, _, h3⟩
   exact ((HQB.out.mono (fun _ _ x => x.elim)).trans' hq (fun k _ x => x)).setCell (fun _ => by show o sb ≠ 0; omega) _
  have c6 : W.cell? ⟨sb, 6, none⟩ = some (.int .u64 (s.last : Int)) := Z2b HL1.out hst.cell6.1
  have f6 : W.frozen? ⟨sb, 6, none⟩ = false := by
   obtain ⟨lb, bb, pb, mh, mt, ms, fh, ft, fs, h⟩ := hst
   exact Z7 h.box 6
  have hw := HW.out
  have en := HEN.out
  clear hst hop hq
  go_wp2
  go_ret
  exact HPO.out
theorem Z4q {α : Type} (f : Nat -> α) (i : Nat) (a b : α) : upd (upd f i a) i b = upd f i b := by
 funext k
 by_cases e : k = i <;> simp [upd, e]
def Z4r (w : World) (sb : Nat) (o : Nat -> Nat) (s s' : St) (code : Nat) (z : Int) (e : Ending) (w' : World) : Prop :=
 if code = 0 then e = .returned (.int .i64 z) /\ Z0E w sb o s' w' else e = .returned (.int .i64 (code : Int)) /\ Z0E w sb o s w'
theorem Z8B {w : World} {sb x i c3 n nr cr code : Nat} {o : Nat -> Nat} {s s1 : St} {y : Zo} {t : TE} {name nm : ByteArray} {Sv : Nat -> Prop} {A3 Ar : Option Addr} {H H1 H2 : List (List (Option Tup))} {p q pg sl z : Int} {v : Tup} (h : Zm w sb o s) (hx : U64 x) (hy : s.sn x = some y) (hf : Z0w s.L y name s.T = some i) (ht : s.T[i]? = some t) (hc : t.cols = [(nm, 1)]) (hid : U64 t.id)
  (hH : s.hs t.id = some H) (hn : n < 256) (hv : Rd w Sv 4 A3 1 (intRow n)) (hc3 : 1 <= c3) (hm3 : c3 <= maxLen) (hg : ZR H pg sl = some v) (hx1 : U64 v.xmin) (hx2 : U64 v.xmax) (hcode : freeS s.L y v.xmin v.xmax = code)
  (hs1 : s1.hs t.id = some H1) (hst : Z22 H1 pg sl x p q = (z, H2))
  (hput : code = 0 -> ∀ (W : World) (A2 : Option Addr) (c2 : Nat) (A5 : Option Addr) (c5 : Nat), Quiet w W -> Rd W (fun k => w.heap.size <= k) 2 A2 t.cols.length (ZP t.cols) -> t.cols.length <= c2 -> c2 <= maxLen -> Rd W (fun k => w.heap.size <= k) 1 A5 9 (Zg (rowI n)) -> 9 <= c5 -> c5 <= maxLen →
    Calls Tryz.prog 45 #[ptrV sb, Z06 t A2 c2, Zt ⟨v.row, x, 0, -1, -1, rowI n⟩ A5 c5] W (Z4p W sb o s1 p q)) :
  Calls Tryz.prog 15 #[ptrV sb, .int .u64 (x : Int), .string name, .agg #[.int .u64 v.row, .int .i64 pg, .int .i64 sl, .slice Ar nr cr], .slice A3 1 c3] w (Z4r w sb o s { s1 with hs := upd s1.hs t.id (some H2) } code z) := by
 have hq0 : Quiet w (w.alloc (.cells #[.int .u64 v.row, .int .i64 pg, .int .i64 sl, .slice Ar nr cr] 50)) := (Z0.refl _ _).alloc _
 have HO := zh (Z5J (h.quietly hq0) hx hy hf ht)
 have HB8 := zh (Z5 w (.cells #[.int .u64 v.row, .int .i64 pg, .int .i64 sl, .slice Ar nr cr] 50))
 have HQ0 := zh hq0
 obtain ⟨r8, hr8⟩ : ∃ r8, w.heap.size = r8 := ⟨_, rfl⟩
 rw [hr8] at HB8
 have HR8 := zh hr8
 have HH := zh h
 have HC := zh hc
 have HID := zh hid
 have HH0 := zh hH
 have HS1' := zh hs1
 have HN := zh hn
 have HV := zh hv
 have HC3 := zh (And.intro hc3 hm3)
 have HG := zh (And.intro hg (And.intro hx1 (And.intro hx2 hcode)))
 have HPU := zh hput
 have HST := zh hst
 obtain ⟨Z8, Z6⟩ : ∃ Z8, Z4r w sb o s { s1 with hs := upd s1.hs t.id (some H2) } code z = Z8 := ⟨_, rfl⟩
 rw [Z6]
 have Zb := zh Z6
 clear h hx hy hf ht hc hid hH hn hv hc3 hm3 hg hx1 hx2 hcode hput hs1 hst hq0 Z6 hr8
 go_enter Tryz.func15, Tryz.ntmps15
 go_wp2_with fail
 rw [HR8.out]
 generalize w.alloc (.cells #[.int .u64 v.row, .int .i64 pg, .int .i64 sl, .slice Ar nr cr] 50) = w0 at *
 refine HO.out.mono ?_
 rintro e w1 ⟨A, c, A2, c2, rfl, hq1, hs1, hf1, hc2, hm2⟩
 clear HO
 have HQ1 := zh (HQ0.out.trans hq1)
 have HF1 := zh hf1
 have HS1 := zh hs1
 have HC2 := zh (And.intro hc2 hm2)
 have HB81 := zh (hq1.get HB8.out (fun x => x))
 have q2 : Quiet w1 ((w1.alloc (.cells (snapCells y A c) 84)).alloc (.cells #[.int .u64 (t.id : Int), .string t.name, .slice A2 t.cols.length c2, .int .u64 (t.xmin : Int), .int .u64 (t.xmax : Int)] 98)) := ((Z0.refl _ _).alloc _).alloc _
 have b12 := Z0r w1 (.cells (snapCells y A c) 84) (.cells #[.int .u64 (t.id : Int), .string t.name, .slice A2 t.cols.length c2, .int .u64 (t.xmin : Int), .int .u64 (t.xmax : Int)] 98)
 have b11 := Zd (Z5 w1 (.cells (snapCells y A c) 84)) (.cells #[.int .u64 (t.id : Int), .string t.name, .slice A2 t.cols.length c2, .int .u64 (t.xmin : Int), .int .u64 (t.xmax : Int)] 98)
 have HQ2 := zh q2
 have HB12 := zh b12
 have HB11 := zh b11
 obtain ⟨r11, hr11⟩ : ∃ r11, w1.heap.size = r11 := ⟨_, rfl⟩
 obtain ⟨r12, hr12⟩ : ∃ r12, r11 + 1 = r12 := ⟨_, rfl⟩
 rw [hr11] at HB12 HB11
 rw [hr12] at HB12
 have HR12 : Hid (w1.heap.size <= r12) := by show _ <= _; omega
 have HE11 := zh hr11
 have HE12 := zh hr12
 clear hq1 hs1 hf1 hc2 hm2 q2 b12 b11 hr11 hr12
 unfold Zk Z06
 go_wp2_with fail
 (try simp only [World.size_alloc])
 rw [HE11.out, HE12.out]
 generalize (w1.alloc (.cells #[.int .u64 (y.own : Int), .int .u64 (y.xmin : Int), .int .u64 (y.xmax : Int), .slice A y.run.length c] 84)).alloc (.cells #[.int .u64 (t.id : Int), .string t.name, .slice A2 t.cols.length c2, .int .u64 (t.xmin : Int), .int .u64 (t.xmax : Int)] 98) = w2 at *
 have HKND : Hid (Calls Tryz.prog 44 #[Z06 t A2 c2] w2 (Z39 w2 1)) := by
  obtain ⟨A', c', e', h1, h2, h3⟩ := Z9 HF1.out.own
  injection e' with e1 _ e2
  subst e1 e2
  have h4 := h3.kept HQ2.out (fun _ _ x => x)
  have h5 := HC2.out
  rw [HC.out] at h4 h5
  exact Z3J HC.out h4 h5.1 h5.2
 unfold Z06 at HKND
 refine HKND.out.mono ?_
 rintro e w3 ⟨v3, rfl, hf3⟩
 obtain ⟨A9, c9, rfl, hc9, hm9, hrd9⟩ := Z9 hf3.own
 have HQ3 : Hid (Quiet w2 w3) := hf3.quiet
 have HQV : Hid (Quiet w w3) := (HQ1.out.trans HQ2.out).trans HQ3.out
 have HRB := zh (Z5W HN.out (by exact hrd9) (HV.out.kept HQV.out (fun _ _ x => x)) hc9 hm9 HC3.out.1 HC3.out.2)
 clear hf3 hc9 hm9 hrd9 HKND
 go_wp2_with fail
 refine HRB.out.mono ?_
 rintro e w4 ⟨v5, rfl, hf5⟩
 obtain ⟨A5, c5, rfl, hc5, hm5, hrd5⟩ := Z9 hf5.own
 have h9 : (rowI n).length = 9 := Z0j n
 have HQ4 : Hid (Quiet w w4) := HQV.out.trans hf5.quiet
 have HQ24 : Hid (Quiet w2 w4) := HQ3.out.trans hf5.quiet
 have HRD5 := zh hrd5
 have HNEW5 : Hid (∀ k, (Value.slice A5 (rowI n).length c5).ownBlock = some k -> w.heap.size <= k) := fun k e => Nat.le_trans HQV.out.size (hf5.new k e)
 have HHW := zh (HH.out.quietly HQ4.out)
 have HSW := zh (HS1.out.kept (HQ2.out.trans HQ24.out) (fun _ _ x => x))
 have HVE : Hid (Calls Tryz.prog 49 #[ptrV sb, Zk y A c, Z06 t A2 c2, .agg #[.int .u64 v.row, .int .i64 pg, .int .i64 sl, .slice Ar nr cr]] w4 (Z7L w4 v code)) := by
  have hv := ZaD (A2 := A2) (c2 := c2) (A3 := Ar) (n3 := nr) (c3 := cr) HHW.out HSW.out HID.out HH0.out HG.out.1 HG.out.2.1 HG.out.2.2.1
  rw [HG.out.2.2.2] at hv
  exact hv
 unfold Zk Z06 at HVE
 have b12 := Z0h (HQ24.out.get HB12.out (fun x => x))
 have b11 := Zv (HQ24.out.get HB11.out (fun x => x))
 have hb8 := (HQ2.out.trans HQ24.out).get HB81.out (fun x => x)
 have x0 : w4.cell? ⟨r8, 0, none⟩ = some (.int .u64 v.row) := by rw [Z1 hb8]; rfl
 have x1 : w4.cell? ⟨r8, 1, none⟩ = some (.int .i64 pg) := by rw [Z1 hb8]; rfl
 have x2 : w4.cell? ⟨r8, 2, none⟩ = some (.int .i64 sl) := by rw [Z1 hb8]; rfl
 have x3 : w4.cell? ⟨r8, 3, none⟩ = some (.slice Ar nr cr) := by rw [Z1 hb8]; rfl
 have HB8W := zh hb8
 have HB12W := zh (HQ24.out.get HB12.out (fun x => x))
 have HC5 : Hid (9 <= c5 /\ c5 <= maxLen) := ⟨by rw [Z0j] at hc5; exact hc5, hm5⟩
 clear hf5 hrd5 hc5 hm5 HRB hb8
 go_wp2_with fail
 refine HVE.out.mono ?_
 rintro e w5 ⟨A6, c6, rfl, hq5⟩
 have HQB : Hid (Quiet w4 (w5.alloc (.cells #[.int .u64 v.row, .int .u64 v.xmin, .int .u64 v.xmax, .int .i64 v.pg, .int .i64 v.sl, .slice A6 v.data.length c6] 104))) := hq5.alloc _
 clear hq5 x0 x1 x2 x3 b11 b12 HVE
 unfold Zt
 by_cases hz : code = 0
 ·subst hz
  go_wp2_with fail
  generalize w5.alloc (.cells #[.int .u64 v.row, .int .u64 v.xmin, .int .u64 v.xmax, .int .i64 v.pg, .int .i64 v.sl, .slice A6 v.data.length c6] 104) = wb at *
  have HHB := zh (HHW.out.quietly HQB.out)
  have HQWB : Hid (Quiet w wb) := HQ4.out.trans HQB.out
  have HB8b := zh (HQB.out.get HB8W.out (fun x => x))
  have HB12b := zh (HQB.out.get HB12W.out (fun x => x))
  have HBZ : Hid (∀ k, wb.heap.size <= k -> o k = 0) := HHB.out.big
  have HBG : Hid (∀ k, wb.heap.size <= k -> ¬ o k ≠ 0) := fun k hk e => e (HBZ.out k hk)
  have HX12 : Hid (¬ o r12 ≠ 0) := fun e => e (HH.out.big r12 (by have := HQ1.out.size; have := HR12.out; omega))
  have HX8 : Hid (¬ o r8 ≠ 0) := fun e => e (HH.out.big r8 (by have := HR8.out; omega))
  have HS7 : Hid (∀ W, Z0 (fun k => o k ≠ 0) wb W -> (fun w' => w'.cell? ⟨r8, 0, none⟩ = some (.int .u64 (v.row : Int)) /\ w'.cell? ⟨r12, 0, none⟩ = some (.int .u64 (t.id : Int)) /\ w'.cell? ⟨r12, 1, none⟩ = some (.string t.name) /\ w'.cell? ⟨r12, 2, none⟩ = some (.slice A2 t.cols.length c2) /\ w'.cell? ⟨r12, 3, none⟩ = some (.int .u64 (t.xmin : Int)) /\ w'.cell? ⟨r12, 4, none⟩ = some (.int .u64 (t.xmax : Int))) W) := fun W hq => by
   have b := Z0h (hq.get HB12b.out HX12.out)
   have b8 := hq.get HB8b.out HX8.out
   exact ⟨by rw [Z1 b8]; rfl, b⟩
  have HPUT : Hid (∀ W, Quiet wb W -> Calls Tryz.prog 45 #[ptrV sb, .agg #[.int .u64 (t.id : Int), .string t.name, .slice A2 t.cols.length c2, .int .u64 (t.xmin : Int), .int .u64 (t.xmax : Int)], .agg #[.int .u64 (v.row : Int), .int .u64 (x : Int), .int .u64 0, .int .i64 (-1), .int .i64 (-1), .slice A5 9 c5]] W (Z4p W sb o s1 p q)) := fun W hq => by
   obtain ⟨A', c', e', h1, h2, h3⟩ := Z9 HF1.out.own
   injection e' with e1 _ e2
   subst e1 e2
   have hp := HPU.out (by trivial) W A2 c2 A5 c5 (HQWB.out.trans hq) ((((h3.kept (HQ2.out.trans HQ24.out) (fun _ _ x => x)).kept (HQB.out.trans hq) (fun _ _ x => x))).mono (fun k e => Nat.le_trans HQ0.out.size (HF1.out.new k e))) HC2.out.1 HC2.out.2 (by have := (HRD5.out.kept (HQB.out.trans hq) (fun _ _ x => x)).mono (T := fun k => w.heap.size <= k) (fun k e => HNEW5.out k e); rw [Z0j] at this; exact this) HC5.out.1 HC5.out.2
   unfold Z06 Zt at hp
   dsimp only at hp
   rw [Z0j] at hp
   exact hp
  apply Zdb (wb := wb) (sb := sb) (p := p) (q := q) (o := o) (s' := s1)
  case main =>
    intro KEY
    refine zH HS7 ((Z0.refl _ _).drew) (fun Z3 => ?_)
    have q0 : Quiet wb wb.drew := (Z0.refl _ _).drew
    generalize wb.drew = d0 at q0 Z3 ⊢
    refine zT 0 ?_
    refine zT 1 ?_
    refine zT 2 ?_
    refine zT 3 ?_
    refine zT 4 ?_
    refine zT 6 ?_
    refine wpAnyH_ready (rs := [5, 12]) (by kernel_rfl) (by simp) ?_
    refine zA ?_ ?_
    ·intro K hK
     go_simp
     go_at_call 46
     refine (Z2N _).mono ?_
     rintro e d1 ⟨rfl, hqn⟩
     have q1 := q0.trans hqn
     clear hqn
     dsimp only
     refine hK.out _ _ ?_ (fun Z3 => ?_)
     ·exact HS7.out _ (q1.mono (fun _ _ x => x.elim))
     clear hK K
     (try simp only [Act.put, zPA, zPZ, zPS])
     refine zT 7 ?_
     refine wpAnyH_ready (rs := [8, 12]) (by kernel_rfl) (by simp) ?_
     refine zA ?_ ?_
     ·intro K hK
      go_simp
      go_at_call 45
      refine (HPUT.out _ q1).mono ?_
      rintro e d2 ⟨rfl, o2, ho2, hw2, hst2⟩
      have q2 := (q1.mono (T := (fun k => o k ≠ 0)) (fun _ _ x => x.elim)).trans hw2
      have hz2 := q1.size
      have ho3 : ∀ k, k < wb.heap.size -> o2 k = o k := fun k hk => ho2 k (by omega)
      clear ho2 hw2 hz2
      dsimp only
      refine hK.out _ _ ?_ (fun Z3 => ?_)
      ·exact HS7.out _ q2
      clear hK K
      (try simp only [Act.put, zPA, zPZ, zPS])
      refine zT 9 ?_
      refine zT 10 ?_
      refine zT 11 ?_
      refine zR 12 ?_
      intro K hK
      go_simp
      refine hK.out _ _ ?_ (fun Z3 => ?_)
      ·exact HS7.out _ (q2.alloc _)
      clear hK K
      (try simp only [Act.put, zPA, zPZ, zPS])
      have hbig2 := Zm.big hst2
      have qe2 := q2.alloc (.cells #[.int .i64 0, .int .i64 0] 48)
      have hb1 := Z5 d2 (.cells #[.int .i64 0, .int .i64 0] 48)
      have hnp : wb.heap.size <= d2.heap.size := q2.size
      have hst2 := hst2.quietly ((Z0.refl (fun _ => False) d2).alloc (.cells #[.int .i64 0, .int .i64 0] 48))
      have hop : o2 d2.heap.size = 0 := hbig2 _ (Nat.le_refl _)
      obtain ⟨pt, hpt⟩ : ∃ pt, d2.heap.size = pt := ⟨_, rfl⟩
      (try rw [hpt] at hb1)
      (try rw [hpt] at hnp)
      (try rw [hpt])
      (try rw [hpt] at hop)
      generalize d2.alloc (.cells #[.int .i64 0, .int .i64 0] 48) = e2 at *
      clear hpt
      obtain ⟨z0, z1⟩ := zC2 hb1
      have zf := fun o => Z7 hb1 o
      refine zR 13 ?_
      intro K hK
      go_simp
      refine hK.out _ _ ?_ (fun Z3 => ?_)
      ·exact HS7.out _ (Z0T qe2 hnp hb1 hst2 hop ho3 (p := p) (q := q)).only
      clear hK K
      (try simp only [Act.put, zPA, zPZ, zPS])
      have HG := (Z0T qe2 hnp hb1 hst2 hop ho3 (p := p) (q := q))
      refine zT 14 ?_
      refine zD ?_
      generalize (e2.setCell ⟨pt, 0, none⟩ (.int .i64 p)).setCell ⟨pt, 1, none⟩ (.int .i64 q) = WF at HG ⊢
      exact KEY _ _ HG
     refine zA ?_ AllReadyH.nil
     intro K hK
     go_simp
     refine hK.out _ _ ?_ (fun Z3 => ?_)
     ·exact HS7.out _ ((q1.alloc _).mono (fun _ _ x => x.elim))
     clear hK K
     (try simp only [Act.put, zPA, zPZ, zPS])
     have qe1 := q1.alloc (.cells #[.int .i64 0, .int .i64 0] 48)
     have hb1 := Z5 d1 (.cells #[.int .i64 0, .int .i64 0] 48)
     have hnp : wb.heap.size <= d1.heap.size := q1.size
     obtain ⟨pt, hpt⟩ : ∃ pt, d1.heap.size = pt := ⟨_, rfl⟩
     (try rw [hpt] at hb1)
     (try rw [hpt] at hnp)
     (try rw [hpt])
     generalize d1.alloc (.cells #[.int .i64 0, .int .i64 0] 48) = e1 at *
     clear hpt
     refine zR 8 ?_
     intro K hK
     go_simp
     go_at_call 45
     refine (HPUT.out _ qe1).mono ?_
     rintro e d2 ⟨rfl, o2, ho2, hw2, hst2⟩
     have q2 := (qe1.mono (T := (fun k => o k ≠ 0)) (fun _ _ x => x.elim)).trans hw2
     have hz2 := qe1.size
     have hb2 := hw2.get hb1 (HBG.out _ hnp)
     have hop : o2 pt = 0 := by rw [ho2 pt (Z2 hb1)]; exact HBZ.out _ hnp
     have ho3 : ∀ k, k < wb.heap.size -> o2 k = o k := fun k hk => ho2 k (by omega)
     clear ho2 hw2 hz2
     dsimp only
     refine hK.out _ _ ?_ (fun Z3 => ?_)
     ·exact HS7.out _ q2
     clear hK K
     (try simp only [Act.put, zPA, zPZ, zPS])
     obtain ⟨z0, z1⟩ := zC2 hb2
     have zf := fun o => Z7 hb2 o
     refine zT 9 ?_
     refine zT 10 ?_
     refine zT 11 ?_
     refine zR 13 ?_
     intro K hK
     go_simp
     refine hK.out _ _ ?_ (fun Z3 => ?_)
     ·exact HS7.out _ (Z0T q2 hnp hb2 hst2 hop ho3 (p := p) (q := q)).only
     clear hK K
     (try simp only [Act.put, zPA, zPZ, zPS])
     have HG := (Z0T q2 hnp hb2 hst2 hop ho3 (p := p) (q := q))
     refine zT 14 ?_
     refine zD ?_
     generalize (d2.setCell ⟨pt, 0, none⟩ (.int .i64 p)).setCell ⟨pt, 1, none⟩ (.int .i64 q) = WF at HG ⊢
     exact KEY _ _ HG
    refine zA ?_ AllReadyH.nil
    intro K hK
    go_simp
    refine hK.out _ _ ?_ (fun Z3 => ?_)
    ·exact HS7.out _ ((q0.alloc _).mono (fun _ _ x => x.elim))
    clear hK K
    (try simp only [Act.put, zPA, zPZ, zPS])
    have qe0 := q0.alloc (.cells #[.int .i64 0, .int .i64 0] 48)
    have hb1 := Z5 d0 (.cells #[.int .i64 0, .int .i64 0] 48)
    have hnp : wb.heap.size <= d0.heap.size := q0.size
    obtain ⟨pt, hpt⟩ : ∃ pt, d0.heap.size = pt := ⟨_, rfl⟩
    (try rw [hpt] at hb1)
    (try rw [hpt] at hnp)
    (try rw [hpt])
    generalize d0.alloc (.cells #[.int .i64 0, .int .i64 0] 48) = e0 at *
    clear hpt
    refine zR 5 ?_
    intro K hK
    go_simp
    go_at_call 46
    refine (Z2N _).mono ?_
    rintro e d1 ⟨rfl, hqn⟩
    have q1 := qe0.trans hqn
    have hbq := hqn.get hb1 (fun x => x)
    clear hb1
    have hb1 := hbq
    clear hbq
    clear hqn
    dsimp only
    refine hK.out _ _ ?_ (fun Z3 => ?_)
    ·exact HS7.out _ (q1.mono (fun _ _ x => x.elim))
    clear hK K
    (try simp only [Act.put, zPA, zPZ, zPS])
    refine zT 7 ?_
    refine zR 8 ?_
    intro K hK
    go_simp
    go_at_call 45
    refine (HPUT.out _ q1).mono ?_
    rintro e d2 ⟨rfl, o2, ho2, hw2, hst2⟩
    have q2 := (q1.mono (T := (fun k => o k ≠ 0)) (fun _ _ x => x.elim)).trans hw2
    have hz2 := q1.size
    have hb2 := hw2.get hb1 (HBG.out _ hnp)
    have hop : o2 pt = 0 := by rw [ho2 pt (Z2 hb1)]; exact HBZ.out _ hnp
    have ho3 : ∀ k, k < wb.heap.size -> o2 k = o k := fun k hk => ho2 k (by omega)
    clear ho2 hw2 hz2
    dsimp only
    refine hK.out _ _ ?_ (fun Z3 => ?_)
    ·exact HS7.out _ q2
    clear hK K
    (try simp only [Act.put, zPA, zPZ, zPS])
    obtain ⟨z0, z1⟩ := zC2 hb2
    have zf := fun o => Z7 hb2 o
    refine zT 9 ?_
    refine zT 10 ?_
    refine zT 11 ?_
    refine zR 13 ?_
    intro K hK
    go_simp
    refine hK.out _ _ ?_ (fun Z3 => ?_)
    ·exact HS7.out _ (Z0T q2 hnp hb2 hst2 hop ho3 (p := p) (q := q)).only
    clear hK K
    (try simp only [Act.put, zPA, zPZ, zPS])
    have HG := (Z0T q2 hnp hb2 hst2 hop ho3 (p := p) (q := q))
    refine zT 14 ?_
    refine zD ?_
    generalize (d2.setCell ⟨pt, 0, none⟩ (.int .i64 p)).setCell ⟨pt, 1, none⟩ (.int .i64 q) = WF at HG ⊢
    exact KEY _ _ HG
  case key =>
   intro pt W HL0
   have HL := zh HL0
   obtain ⟨o', ho', hst, hop⟩ := HL0.st
   have HOW := zh HL0.only
   obtain ⟨lb, bb, pb, mh, mt, ms, fh, ft, fs, h'⟩ := hst
   obtain ⟨hb, hf, hp⟩ := h'.heaps.2 t.id H1 HS1'.out
   have HR := zh h'
   have HF := zh hf
   have HP := zh hp
   have HOP := zh hop
   have HO' := zh ho'
   have h8 : o' r8 = 0 := by rw [ho' r8 (Z2 HB8b.out)]; have := HX8.out; omega
   have h12 : o' r12 = 0 := by rw [ho' r12 (Z2 HB12b.out)]; have := HX12.out; omega
   have HO8 := zh (And.intro h8 h12)
   clear HL0 HS7 HPUT hop ho' h' hf hp h8 h12
   have HS13 : Hid (∀ W', Z0 (fun k => o' k = 10 + 2 * t.id) W W' -> (fun w' => w'.cell? ⟨sb, 3, none⟩ = some (.map (some mh)) /\ w'.cell? ⟨r12, 0, none⟩ = some (.int .u64 (t.id : Int)) /\ w'.cell? ⟨r8, 1, none⟩ = some (.int .i64 pg) /\ w'.cell? ⟨r8, 2, none⟩ = some (.int .i64 sl) /\ w'.cell? ⟨pt, 0, none⟩ = some (.int .i64 p) /\ w'.cell? ⟨pt, 1, none⟩ = some (.int .i64 q) /\ (Instr.lookup 74 (.map (some mh)) (.int .u64 (t.id : Int)) false).run Tryz.prog w' = .ok (ptrV hb) w') W') := fun W' hq => by
    have b12 := Z0h (hq.get (HOW.out.get HB12b.out HX12.out) (fun e => by have := HO8.out.2; (try dsimp only at e); omega))
    have b8 := hq.get (HOW.out.get HB8b.out HX8.out) (fun e => by have := HO8.out.1; (try dsimp only at e); omega)
    have bp := hq.get HL.out.box (fun e => by have := HOP.out; (try dsimp only at e); omega)
    have t1 := HR.out.tags
    have c3 := hq.cell HR.out.cells.2.2.2.1 (fun e => by (try dsimp only at e); omega)
    have hm := HR.out.mH.kept hq (fun e => by (try dsimp only at e); omega)
    exact ⟨c3, b12.1, by rw [Z1 b8]; rfl, by rw [Z1 b8]; rfl, by rw [Z1 bp]; rfl, by rw [Z1 bp]; rfl, Z1n hm HF.out HID.out⟩
   have HSTAMP : Hid (∀ W', Quiet W W' -> Calls Tryz.prog 50 #[ptrV hb, .agg #[.int .i64 pg, .int .i64 sl], .int .u64 (x : Int), .agg #[.int .i64 p, .int .i64 q]] W' (fun e w' => e = .returned (.int .i64 z) /\ Z0 (fun k => o' k = 10 + 2 * t.id) W' w' /\ Zp w' hb pb (fun k => o' k = 10 + 2 * t.id) H2)) := fun W' hq => by
    have := Ze2 pg sl x p q (HP.out.kept hq (fun _ _ x => x))
    rw [HST.out] at this
    exact this
   go_wp2_with fail
   refine zH HS13 ((Z0.refl _ _).drew) (fun Z3 => ?_)
   have q6 : Quiet W W.drew := (Z0.refl _ _).drew
   generalize W.drew = d6 at q6 Z3 ⊢
   refine zT 0 ?_
   refine zT 1 ?_
   refine zT 2 ?_
   refine zT 3 ?_
   refine zT 4 ?_
   refine zT 5 ?_
   refine zT 6 ?_
   refine zT 7 ?_
   refine zT 8 ?_
   refine zT 9 ?_
   refine zT 10 ?_
   refine zR 11 ?_
   intro K hK
   go_simp
   go_at_call 50
   refine (HSTAMP.out _ q6).mono ?_
   rintro e d7 ⟨rfl, ho7, hh7⟩
   dsimp only
   refine hK.out _ _ ?_ (fun Z3 => ?_)
   ·exact HS13.out _ ((q6.mono (T := fun k => o' k = 10 + 2 * t.id) (fun _ _ x => x.elim)).trans ho7)
   clear hK K
   (try simp only [Act.put, zPA, zPZ, zPS])
   refine zT 12 ?_
   refine zD ?_
   have Zc : Hid (Z8 (.returned (.int .i64 z)) d7) := by
    rw [<- Zb.out]
    unfold Z4r
    rw [if_pos rfl]
    have ho := (q6.mono (T := fun k => o' k = 10 + 2 * t.id) (fun _ _ x => x.elim)).trans ho7
    have tg := HR.out.tags
    have hpo := (HR.out.pool.kept q6 (fun x => x)).kept ho7 (fun e => by (try dsimp only at e); omega)
    have h9 := HR.out.setHeap (id := t.id) HF.out (ho.mono (fun k _ x => Or.inl x)) hpo (hh7.mono (fun k x => Or.inl x))
    have hsz := HOW.out.size
    have hzz := HQWB.out.size
    have hon : Z0 (fun k => o k ≠ 0) w d7 := ((HQWB.out.mono (fun _ _ x => x.elim)).trans' HOW.out (fun k _ x => x)).trans' ho (fun k hk x => by
      rw [<- HO'.out k (by omega)]
      omega)
    exact ⟨rfl, _, fun k hk => by rw [Z0s (by omega)]; exact HO'.out k (by omega), hon, lb, bb, pb, mh, mt, ms, fh, ft, fs, h9⟩
   clear Z3 q6 ho7 hh7 HS13 HSTAMP
   go_wp2
   exact Zc.out
 ·have hne : ¬ (code : Int) = 0 := by omega
  have Zc : Hid (Z8 (.returned (.int .i64 (code : Int))) (w5.alloc (.cells #[.int .u64 v.row, .int .u64 v.xmin, .int .u64 v.xmax, .int .i64 v.pg, .int .i64 v.sl, .slice A6 v.data.length c6] 104))) := by
   rw [<- Zb.out]
   unfold Z4r
   rw [if_neg hz]
   have hq := HQ4.out.trans HQB.out
   exact ⟨rfl, o, fun _ _ => rfl, hq.mono (fun _ _ x => x.elim), HH.out.quietly hq⟩
  go_wp2
  exact Zc.out
def Z2j (w : World) (R : List RowR) (e : Ending) (w' : World) : Prop :=
 ∃ v M, e = .returned (.tuple #[v, .int .i64 0]) /\ Z18 w w' v M /\ (M.map Z0Y.told).Perm R /\ M.Pairwise (fun a b => a.id <= b.id)
def Z5o (H : List (List (Option Tup))) : Prop := ∀ pg sl v, ZR H pg sl = some v -> U64 v.xmin /\ U64 v.xmax /\ ∃ n, n < 256 /\ v.data = rowI n
theorem Z4E {p : Int} {T : List (Option Tup)} {k : Nat} {a : Int × Int} (h : a ∈ Zl p T k) : a.1 = p /\ ∃ j, j < k /\ a.2 = (j : Int) /\ ∃ v, T[j]? = some (some v) := by
 unfold Zl at h
 obtain ⟨j, hj, e⟩ := List.mem_filterMap.1 h
 split at e
 ·rename_i hs
  injection e with e
  subst e
  obtain ⟨v, hv⟩ := Option.isSome_iff_exists.1 hs
  refine ⟨rfl, j, List.mem_range.1 hj, rfl, v, ?_⟩
  cases hT : T[j]? with
  | none => rw [hT] at hv; cases hv
  | some u => rw [hT] at hv; cases u with
   | none => cases hv
   | some u => simpa using hv
 ·cases e
theorem Z5c {H : List (List (Option Tup))} {a : Int × Int} {k : Nat} (h : a ∈ ZO H k) : ∃ v, ZR H a.1 a.2 = some v := by
 induction k with
 | zero => cases h
 | succ k ih =>
  rcases List.mem_append.1 h with h | h
  ·exact ih h
  ·obtain ⟨h1, j, _, h2, v, h3⟩ := Z4E h
   refine ⟨v, ?_⟩
   unfold ZR
   rw [h1, if_neg (by omega), h2]
   unfold ZY
   rw [if_neg (by omega)]
   show ((H.getD k [])[((j : Nat) : Int).toNat]?).join = some v
   rw [Int.toNat_natCast, h3]
   rfl
theorem Zeo {w : World} {sb x i : Nat} {o : Nat -> Nat} {s : St} {y : Zo} {t : TE} {name nm : ByteArray} {H : List (List (Option Tup))} (h : Zm w sb o s) (hx : U64 x) (hy : s.sn x = some y) (hf : Z0w s.L y name s.T = some i) (ht : s.T[i]? = some t) (hc : t.cols = [(nm, 1)]) (hid : U64 t.id)
  (hH : s.hs t.id = some H) (hN : ∀ k, k <= H.length -> (ZO H k).length <= 1000000) (hI : Z5o H) :
  Calls Tryz.prog 14 #[ptrV sb, .int .u64 (x : Int), .string name] w (Z2j w (Z2p H s.L y (ZO H H.length))) := by
 have HO := zh (Z5J h hx hy hf ht)
 have HH := zh h
 have HC := zh hc
 have HID := zh hid
 have HHH := zh (And.intro hH (And.intro hN hI))
 obtain ⟨Z8, Z6⟩ : ∃ Z8, Z2j w (Z2p H s.L y (ZO H H.length)) = Z8 := ⟨_, rfl⟩
 rw [Z6]
 have Zb := zh Z6
 clear h hx hy hf ht hc hid hH hN hI Z6
 go_enter Tryz.func14, Tryz.ntmps14
 go_wp2_with fail
 refine HO.out.mono ?_
 rintro e w1 ⟨A, c, A2, c2, rfl, hq1, hs1, hf1, hc2, hm2⟩
 clear HO
 have HQ1 := zh hq1
 have HF1 := zh hf1
 have HS1 := zh hs1
 have HC2 := zh (And.intro hc2 hm2)
 have q2 : Quiet w1 ((w1.alloc (.cells (snapCells y A c) 84)).alloc (.cells #[.int .u64 (t.id : Int), .string t.name, .slice A2 t.cols.length c2, .int .u64 (t.xmin : Int), .int .u64 (t.xmax : Int)] 98)) := ((Z0.refl _ _).alloc _).alloc _
 have b9 := Z0r w1 (.cells (snapCells y A c) 84) (.cells #[.int .u64 (t.id : Int), .string t.name, .slice A2 t.cols.length c2, .int .u64 (t.xmin : Int), .int .u64 (t.xmax : Int)] 98)
 have b8 := Zd (Z5 w1 (.cells (snapCells y A c) 84)) (.cells #[.int .u64 (t.id : Int), .string t.name, .slice A2 t.cols.length c2, .int .u64 (t.xmin : Int), .int .u64 (t.xmax : Int)] 98)
 have HQ2 := zh q2
 have HB9 := zh b9
 have HB8 := zh b8
 obtain ⟨r8, hr8⟩ : ∃ r8, w1.heap.size = r8 := ⟨_, rfl⟩
 obtain ⟨r9, hr9⟩ : ∃ r9, r8 + 1 = r9 := ⟨_, rfl⟩
 rw [hr8] at HB9 HB8
 rw [hr9] at HB9
 have HE8 := zh hr8
 have HE9 := zh hr9
 clear hq1 hs1 hf1 hc2 hm2 q2 b9 b8 hr8 hr9
 unfold Zk Z06
 go_wp2_with fail
 (try simp only [World.size_alloc])
 rw [HE8.out, HE9.out]
 generalize (w1.alloc (.cells #[.int .u64 (y.own : Int), .int .u64 (y.xmin : Int), .int .u64 (y.xmax : Int), .slice A y.run.length c] 84)).alloc (.cells #[.int .u64 (t.id : Int), .string t.name, .slice A2 t.cols.length c2, .int .u64 (t.xmin : Int), .int .u64 (t.xmax : Int)] 98) = w2 at *
 have HQW : Hid (Quiet w w2) := HQ1.out.trans HQ2.out
 have HHW := zh (HH.out.quietly HQW.out)
 have HS4 : Hid (∀ W, Quiet w2 W -> (fun w' => w'.cell? ⟨r8, 0, none⟩ = some (.int .u64 (y.own : Int)) /\ w'.cell? ⟨r8, 1, none⟩ = some (.int .u64 (y.xmin : Int)) /\ w'.cell? ⟨r8, 2, none⟩ = some (.int .u64 (y.xmax : Int)) /\ w'.cell? ⟨r8, 3, none⟩ = some (.slice A y.run.length c) /\ w'.cell? ⟨r9, 0, none⟩ = some (.int .u64 (t.id : Int)) /\ w'.cell? ⟨r9, 1, none⟩ = some (.string t.name) /\ w'.cell? ⟨r9, 2, none⟩ = some (.slice A2 t.cols.length c2) /\ w'.cell? ⟨r9, 3, none⟩ = some (.int .u64 (t.xmin : Int)) /\ w'.cell? ⟨r9, 4, none⟩ = some (.int .u64 (t.xmax : Int))) W) := fun W hq => by
  have b9 := Z0h (hq.get HB9.out (fun x => x))
  have b8 := Zv (hq.get HB8.out (fun x => x))
  exact ⟨b8.1, b8.2.1, b8.2.2.1, b8.2.2.2, b9⟩
 have HPL : Hid (∀ W, Quiet w2 W -> Calls Tryz.prog 37 #[ptrV sb, .int .u64 (t.id : Int)] W (Z1b W (ZO H H.length))) := fun W hq => Z6w (HHW.out.quietly hq) HID.out HHH.out.1 HHH.out.2.1
 have HRW : Hid (∀ W, Quiet w2 W -> ∀ A3 c3 (Sl : Nat -> Prop), Rd W Sl 2 A3 (ZO H H.length).length (ZM (ZO H H.length)) -> Calls Tryz.prog 48 #[ptrV sb, Zk y A c, Z06 t A2 c2, .slice A3 (ZO H H.length).length c3] W (Z7K W (Z2p H s.L y (ZO H H.length)))) := fun W hq A3 c3 Sl hr => by
  obtain ⟨A', c', e', h1, h2, h3⟩ := Z9 HF1.out.own
  injection e' with e1 _ e2
  subst e1 e2
  exact Zem (HHW.out.quietly hq) ((HS1.out.kept HQ2.out (fun _ _ x => x)).kept hq (fun _ _ x => x)) HC.out HID.out ((h3.kept HQ2.out (fun _ _ x => x)).kept hq (fun _ _ x => x)) HC2.out.1 HC2.out.2 HHH.out.1 hr (HHH.out.2.1 _ (Nat.le_refl _)) (fun a ha => by
    obtain ⟨v, hv⟩ := Z5c ha
    obtain ⟨i1, i2, i3⟩ := HHH.out.2.2 _ _ _ hv
    exact ⟨v, hv, i1, i2, fun _ => i3⟩)
 unfold Zk Z06 at HRW
 refine zH HS4 ((Z0.refl _ _).drew) (fun Z3 => ?_)
 have q0 : Quiet w2 w2.drew := (Z0.refl _ _).drew
 generalize w2.drew = d0 at q0 Z3 ⊢
 refine zT 0 ?_
 refine zT 1 ?_
 refine zT 2 ?_
 refine zT 3 ?_
 refine zT 4 ?_
 refine zT 5 ?_
 refine zR 6 ?_
 intro K hK
 go_simp
 go_at_call 37
 refine (HPL.out _ q0).mono ?_
 rintro e d1 ⟨v3, rfl, hq3, _, ht3⟩
 obtain ⟨A3, c3, rfl, hc3, hm3, hrd3⟩ := Z9 ht3
 have q1 := q0.trans hq3
 clear hq3 ht3
 dsimp only
 refine hK.out _ _ ?_ (fun Z3 => ?_)
 ·exact HS4.out _ q1
 clear hK K
 (try simp only [Act.put, zPA, zPZ, zPS])
 refine zR 7 ?_
 intro K hK
 go_simp
 go_at_call 48
 refine (HRW.out _ q1 A3 c3 _ hrd3).mono ?_
 rintro e d2 ⟨v4, M, rfl, hrw, hpm, hpw⟩
 have q2 := q1.trans hrw.quiet
 dsimp only
 refine hK.out _ _ ?_ (fun Z3 => ?_)
 ·exact HS4.out _ q2
 clear hK K
 (try simp only [Act.put, zPA, zPZ, zPS])
 refine zT 8 ?_
 refine zT 9 ?_
 refine zD ?_
 have Zc : Hid (Z8 (.returned (.tuple #[v4, .int .i64 0])) d2) := by
  rw [<- Zb.out]
  exact ⟨v4, M, rfl, hrw.from (HQW.out.trans q1), hpm, hpw⟩
 clear Z3 q0 q1 q2 hrw hpm hpw HS4 HPL HRW hrd3 hc3 hm3
 go_wp2
 exact Zc.out
theorem stamp_size (v : Tup) (x : Nat) (p q : Int) : (v.stamp x p q).size = v.size := rfl
theorem Z9e (p : Int) (T : List (Option Tup)) (n : Nat) : (Zl p T n).Nodup := by
 unfold Zl
 refine List.Pairwise.filterMap _ (fun a a' hne b hb b' hb' e => ?_) List.nodup_range
 simp at hb hb'
 subst e
 have := hb.2.trans hb'.2.symm
 simp at this
 omega
theorem ZaE (H : List (List (Option Tup))) (k : Nat) : (ZO H k).Nodup := by
 induction k with
 | zero => exact List.nodup_nil
 | succ k ih =>
  show (ZO H k ++ Zl (k : Int) (H.getD k []) (H.getD k []).length).Nodup
  rw [List.nodup_append]
  refine ⟨ih, Z9e _ _ _, fun a ha b hb e => ?_⟩
  subst e
  obtain ⟨h1, _⟩ := Z4E hb
  have : ∀ j, j <= k -> ∀ x ∈ ZO H j, x.1 < (j : Int) := by
   intro j
   induction j with
   | zero => intro _ x hx; cases hx
   | succ j ihj =>
    intro hj x hx
    rcases List.mem_append.1 hx with y | y
    ·have := ihj (by omega) x y; omega
    ·obtain ⟨h, _⟩ := Z4E y; omega
  have := this k (Nat.le_refl _) a ha
  omega
def Z8C (s : St) (name nm : ByteArray) (kd own : Nat) : St := { s with T := [⟨s.blast + 1, name, [(nm, kd)], own, 0⟩], I := [], blast := s.blast + 1, hs := upd s.hs (s.blast + 1) (some []) }
def ZaF (w : World) (sb : Nat) (o : Nat -> Nat) (s' : St) (e : Ending) (w' : World) : Prop := e = .returned (.int .i64 0) /\ Z0E w sb o s' w'
theorem Z9f {w w2 w3 w5 w6 : World} {sb lb bb pb mh mt ms hb kd own : Nat} {o : Nat -> Nat} {s : St} {fh ft fs : Nat -> Option Value} {name nm : ByteArray} (h : Zh w sb o s lb bb pb mh mt ms fh ft fs) (_hT : s.T = []) (_hI : s.I = []) (hid : s.hs (s.blast + 1) = none) (hq2 : Quiet w w2)
  (ho3 : Z0 (fun k => o k = 3) w2 w3) (hb3 : ZG w3 (fun k => o k = 3 ∨ w2.heap.size <= k) bb [⟨s.blast + 1, name, [(nm, kd)], own, 0⟩] [] (s.blast + 1)) (hq5 : Quiet w3 w5) (hh5 : Zp w5 hb pb (fun k => w3.heap.size <= k) [])
  (ho6 : Z0 (fun k => k = mh) w5 w6) (hm : Z09 w6 mh (upd fh (s.blast + 1) (some (ptrV hb)))) : Z0E w sb o (Z8C s name nm kd own) w6 := by
 have h2 := h.quietly hq2
 have h3 := h2.setBook ho3 hb3
 have hbig := h3.big
 have h5 := h3.quietly hq5
 have tm : grow o w2.heap.size w3.heap.size 3 mh = 6 := h3.tags.2.2.1
 have hnm : ¬ w3.heap.size <= mh := fun x => by have := hbig mh x; omega
 have h6 := h5.newHeap (B := w3.heap.size) (id := s.blast + 1) (hb := hb) (H' := []) hbig hq5.size hid ho6 hm (hh5.kept ho6 (fun k hk e => by omega))
 have s1 := ho3.size
 have s2 := hq5.size
 have s0 := hq2.size
 have e6 : o mh = 6 := h.tags.2.2.1
 refine ⟨_, fun k hk => ?_, (((hq2.mono (T := fun k => o k ≠ 0) (fun _ _ x => x.elim)).trans' ho3 (fun k _ e => by omega)).trans' hq5 (fun k _ e => e.elim)).trans' ho6 (fun k _ e => by rw [e, e6]; omega), _, _, _, _, _, _, _, _, _, h6⟩
 rw [Z0s (by omega), Z0s (by omega)]
theorem Zep {w : World} {sb x kd c2 : Nat} {o : Nat -> Nat} {s : St} {y : Zo} {name nm : ByteArray} {S2 : Nat -> Prop} {A2 : Option Addr} (h : Zm w sb o s) (hx : U64 x) (hy : s.sn x = some y) (hT : s.T = []) (hI : s.I = []) (hid : s.hs (s.blast + 1) = none) (hl : s.blast < 1000000) (hu : U64 y.own)
  (hnm : Z2D name) (hcn : Z2D nm) (hk : 1 <= kd /\ kd <= 3) (hr : Rd w S2 2 A2 1 (ZP [(nm, kd)])) (hS : ∀ k, S2 k -> o k ≠ 3) (hc2 : 1 <= c2) (hm2 : c2 <= maxLen) :
  Calls Tryz.prog 10 #[ptrV sb, .int .u64 (x : Int), .string name, .slice A2 1 c2] w (ZaF w sb o (Z8C s name nm kd y.own)) := by
 have HRU := zh (Z4h h hx)
 obtain ⟨lb, bb, pb, mh, mt, ms, fh, ft, fs, h⟩ := h
 have HH := zh h
 have HR := zh hr
 unfold Z2Y at HRU
 rw [hy] at HRU
 clear hr
 go_enter Tryz.func10, Tryz.ntmps10
 go_wp2_with fail
 refine HRU.out.mono ?_
 rintro e w1 ⟨hq1, A, c, rfl, hs1⟩
 clear HRU
 have hq2 : Quiet w (w1.alloc (.cells (snapCells y A c) 84)) := hq1.alloc _
 have hpb := Z5 w1 (.cells (snapCells y A c) 84)
 have hs2 := hs1.kept ((Z0.refl (fun _ => False) w1).alloc (.cells (snapCells y A c) 84)) (fun _ _ x => x)
 have hz1 := hq1.size
 obtain ⟨pv, hpv⟩ : ∃ pv, w1.heap.size = pv := ⟨_, rfl⟩
 unfold Zk
 go_wp2_with fail
 rw [hpv] at hpb hz1
 have hpo : o pv = 0 := h.big pv hz1
 obtain ⟨t1, t2, t3, t4, t5⟩ := h.tags
 generalize w1.alloc (.cells (snapCells y A c) 84) = w2 at *
 obtain ⟨c0, c1, q2, q3, _, _, _⟩ := (h.quietly hq2).cells
 obtain ⟨p0, p1, p2, p3⟩ : w2.cell? ⟨pv, 0, none⟩ = some (.int .u64 (y.own : Int)) /\ w2.cell? ⟨pv, 1, none⟩ = some (.int .u64 (y.xmin : Int)) /\ w2.cell? ⟨pv, 2, none⟩ = some (.int .u64 (y.xmax : Int)) /\ w2.cell? ⟨pv, 3, none⟩ = some (.slice A y.run.length c) :=
  ⟨by rw [Z1 hpb]; rfl, by rw [Z1 hpb]; rfl, by rw [Z1 hpb]; rfl, by rw [Z1 hpb]; rfl⟩
 have hs3 : ¬ o sb = 3 := by omega
 have hp3 : ¬ o pv = 3 := by omega
 have HBK : Hid (Calls Tryz.prog 31 #[ptrV bb, ptrV lb, Zk y A c, .string name, .slice A2 1 c2] w2.drew (Z6k w2.drew (fun k => o k = 3) bb s.blast ⟨s.blast + 1, name, [(nm, kd)], y.own, 0⟩)) := by
  have hbk := (h.quietly hq2).book
  rw [hT, hI] at hbk
  exact Zeb (S := fun _ => False) (hbk.kept ((Z0.refl (fun _ => False) w2).drew) (fun _ _ x => x)) hl hnm hcn hk hu (HR.out.kept hq2.drew (fun _ _ x => x)) hS hc2 hm2
 have HQ2 := zh hq2
 have lsb := Ze c0
 have lpv := Ze p0
 dsimp only at lsb lpv
 unfold Zk at HBK
 clear hq1 hs1 hs2 hpb hz1 hpo hq2 HR h t1 t2 t3 t4 t5
 refine wp_region_held_drew (S := fun w' => w'.cell? ⟨sb, 1, none⟩ = some (ptrV bb) /\ w'.cell? ⟨sb, 0, none⟩ = some (ptrV lb) /\ w'.cell? ⟨pv, 0, none⟩ = some (.int .u64 (y.own : Int)) /\ w'.cell? ⟨pv, 1, none⟩ = some (.int .u64 (y.xmin : Int)) /\ w'.cell? ⟨pv, 2, none⟩ = some (.int .u64 (y.xmax : Int)) /\ w'.cell? ⟨pv, 3, none⟩ = some (.slice A y.run.length c)) (by kernel_rfl) (⟨c1, c0, p0, p1, p2, p3⟩) (fun Z3 => ?_)
 simp only [List.size_toArray, List.length_cons, List.length_nil, Nat.reduceAdd]
 refine zT 0 ?_
 refine zT 1 ?_
 refine zT 2 ?_
 refine zT 3 ?_
 refine zT 4 ?_
 refine zT 5 ?_
 refine zT 6 ?_
 refine zT 7 ?_
 refine zT 8 ?_
 refine zT 9 ?_
 refine zT 10 ?_
 refine zR 11 ?_
 intro K hK
 go_simp
 go_at_call 31
 refine (HBK.out).mono ?_
 rintro e w3 ⟨rfl, ho3, hb3⟩
 dsimp only
 refine hK.out _ _ ?_ (fun Z3 => ?_)
 ·exact ⟨ho3.cell Z3.1 hs3, ho3.cell Z3.2.1 hs3, ho3.cell Z3.2.2.1 hp3, ho3.cell Z3.2.2.2.1 hp3, ho3.cell Z3.2.2.2.2.1 hp3, ho3.cell Z3.2.2.2.2.2 hp3⟩
 clear hK K
 (try simp only [Act.put, zPA, zPZ, zPS])
 refine zT 12 ?_
 refine zT 13 ?_
 refine zT 14 ?_
 refine zT 15 ?_
 refine zT 16 ?_
 refine zD ?_
 have HO3 : Hid (Z0 (fun k => o k = 3) w2 w3) := ((Z0.refl _ w2).drew).trans ho3
 have HB3 := zh hb3
 have d3 := HO3.out.cell q3 hs3
 have d2 := HO3.out.cell q2 hs3
 have HMH : Hid (Z09 w3 mh fh) := ((HH.out.mH.kept HQ2.out (fun x => x)).kept HO3.out (by have := HH.out.tags.2.2.1; omega))
 have HX : Hid (U64 (s.blast + 1)) := by unfold Hid U64; omega
 have en : ((s.blast : Int) + 1) = ((s.blast + 1 : Nat) : Int) := by omega
 have lsb3 := Ze d3
 dsimp only at lsb3
 rw [en]
 clear ho3 hb3 Z3 c0 c1 p0 p1 p2 p3 q2 q3 HBK lsb lpv en
 go_wp2_with fail
 refine Z0V (S := fun w' => w'.cell? ⟨sb, 3, none⟩ = some (.map (some mh)) /\ w'.cell? ⟨sb, 2, none⟩ = some (ptrV pb) /\ Quiet w3 w') (by kernel_rfl) (by kernel_rfl) (by simp) (⟨d3, d2, (Z0.refl _ _).drew⟩) (fun Z3 => ?_)
 simp only [List.pop_toArray, List.dropLast, List.size_toArray, List.length_cons, List.length_nil, Nat.reduceAdd, Nat.reduceSub]
 refine zT 0 ?_
 refine zT 1 ?_
 refine zT 2 ?_
 refine zT 3 ?_
 refine zT 4 ?_
 refine zT 5 ?_
 refine zT 6 ?_
 refine zT 7 ?_
 refine zT 8 ?_
 refine wpAnyH_ready (rs := [9]) (by kernel_rfl) (by simp) ?_
 refine zA ?_ ?_
 ·intro K hK
  go_simp
  go_at_call 32
  refine (ZgT pb _).mono ?_
  rintro e w5 ⟨hb, rfl, hq5, hh5⟩
  dsimp only
  refine hK.out _ _ ?_ (fun Z3 => ?_)
  ·exact ⟨hq5.cell Z3.1 (fun x => x), hq5.cell Z3.2.1 (fun x => x), Z3.2.2.trans hq5⟩
  clear hK K
  (try simp only [Act.put, zPA, zPZ, zPS])
  refine zD ?_
  refine Z29 (o := ?_) ?_ ?_
  rotate_left 1
  (focus (simp only [zGA, zGZ, zGS] <;> rfl))
  intro K hK
  refine Zbx (.tmp 41) (.tmp 42) (.tmp 47) rfl (HMH.out.kept Z3.2.2 (fun x => x)) Tryz.underlying74 Tryz.underlying34 rfl rfl rfl HX.out ?_
  intro w6 hm6 ho6
  refine hK.out _ _ ?_
  clear hK K
  have hm7 : Z09 w6 mh (upd fh (s.blast + 1) (some (ptrV hb))) := hm6
  have HD : Hid (Z0E w sb o (Z8C s name nm kd y.own) w6) := Z9f HH.out hT hI hid HQ2.out HO3.out HB3.out Z3.2.2 hh5 ho6 hm7
  clear hm6 hm7 ho6 Z3 hh5 hq5 HH HMH HQ2 HO3 HB3
  dsimp only [Act.put]
  go_wp2
  go_ret
  exact ⟨rfl, HD.out⟩
 exact AllReadyH.nil
def Zz (w0 w : World) (sb : Nat) (K : Nat -> Prop) (s : St) : Prop := ∃ o, Zm w sb o s /\ Quiet w0 w /\ (∀ k, k < w0.heap.size -> o k = 0) /\ ∀ k, K k -> o k = 0 /\ k < w.heap.size
def Z0L (w0 w : World) (sb : Nat) (K : Nat -> Prop) (s' : St) (w' : World) : Prop := Zz w0 w' sb K s' /\ Z0 (fun k => w0.heap.size <= k /\ ¬ K k) w w'
section
variable {w0 w w' w1 : World} {sb : Nat} {K K' : Nat -> Prop} {s s' : St} {o : Nat -> Nat}
theorem Zz.quietly (h : Zz w0 w sb K s) (hq : Quiet w w1) : Zz w0 w1 sb (fun k => K k ∨ (w.heap.size <= k /\ k < w1.heap.size)) s := by
 obtain ⟨o, h1, h2, h3, h4⟩ := h
 refine ⟨o, h1.quietly hq, h2.trans hq, h3, fun k hk => ?_⟩
 rcases hk with x | x
 ·exact ⟨(h4 k x).1, Nat.lt_of_lt_of_le (h4 k x).2 hq.size⟩
 ·exact ⟨h1.big k x.1, x.2⟩
theorem Zz.mono (h : Zz w0 w sb K s) (hk : ∀ k, K' k -> K k) : Zz w0 w sb K' s := by
 obtain ⟨o, h1, h2, h3, h4⟩ := h
 exact ⟨o, h1, h2, h3, fun k x => h4 k (hk k x)⟩
theorem Zz.same (h : Zz w0 w sb K s) (hq : Quiet w w1) : Zz w0 w1 sb K s := (h.quietly hq).mono (fun _ x => Or.inl x)
theorem Zz.quiet (h : Zz w0 w sb K s) : Quiet w0 w := by
 obtain ⟨o, h1, h2, h3, h4⟩ := h
 exact h2
theorem Zz.lt (h : Zz w0 w sb K s) {k : Nat} (hk : K k) : k < w.heap.size := by
 obtain ⟨o, h1, h2, h3, h4⟩ := h
 exact (h4 k hk).2
theorem Z13 (h1 : Zm w sb o s) (h2 : Quiet w0 w) (h3 : ∀ k, k < w0.heap.size -> o k = 0) (h4 : ∀ k, K k -> o k = 0 /\ k < w.heap.size) (hst : Z0E w sb o s' w') : Z0L w0 w sb K s' w' := by
 obtain ⟨o', a, b, c⟩ := hst
 have hs := h2.size
 refine ⟨⟨o', c, h2.trans' b (fun k hk x => x (h3 k hk)), fun k hk => by rw [a k (by omega)]; exact h3 k hk, fun k x => ?_⟩, b.mono (fun k hk x => ?_)⟩
 ·obtain ⟨y1, y2⟩ := h4 k x
  exact ⟨by rw [a k y2]; exact y1, Nat.lt_of_lt_of_le y2 b.size⟩
 ·refine ⟨?_, fun y => x (h4 k y).1⟩
  rcases Nat.lt_or_ge k w0.heap.size with y | y
  ·exact absurd (h3 k y) x
  ·exact y
theorem Z0L.st (h : Z0L w0 w sb K s' w') : Zz w0 w' sb K s' := h.1
theorem Zdc (n : Nat) (hn : n <= 256) (w : World) :
  Calls Tryz.prog 7 #[.int .i64 (n : Int)] w fun e w' => ∃ sb, e = .returned (.tuple #[ptrV sb, .int .i64 0]) /\ Zz w w' sb (fun _ => False) (st0 n) := by
 refine (Zg0 n hn w).mono ?_
 rintro e w' ⟨sb, o, rfl, hq, h0, hst⟩
 exact ⟨sb, rfl, o, hst, hq, h0, fun _ x => x.elim⟩
theorem Z6x (h : Zz w0 w sb K s) (hl : s.L.length < 1000000) :
  Calls Tryz.prog 9 #[ptrV sb] w fun e w' => e = .returned (.tuple #[.int .u64 ((s.L.length : Int) + 1), .int .i64 0]) /\ Z0L w0 w sb K (Z72 s) w' := by
 obtain ⟨o, h1, h2, h3, h4⟩ := h
 refine (ZcE h1 hl).mono ?_
 rintro e w' ⟨rfl, hst⟩
 exact ⟨rfl, Z13 h1 h2 h3 h4 hst⟩
theorem Z5M {x : Nat} (h : Zz w0 w sb K s) (hx : U64 x) :
  Calls Tryz.prog 13 #[ptrV sb, .int .u64 (x : Int)] w fun e w' => e = .returned (.int .i64 ((Z24 s.L x 2).1 : Int)) /\ Z0L w0 w sb K (Z4g s x 2) w' := by
 obtain ⟨o, h1, h2, h3, h4⟩ := h
 refine (Zby h1 hx).mono ?_
 rintro e w' ⟨rfl, hst⟩
 exact ⟨rfl, Z13 h1 h2 h3 h4 hst⟩
theorem Zg4 {x : Nat} (h : Zz w0 w sb K s) (hx : U64 x) :
  Calls Tryz.prog 20 #[ptrV sb, .int .u64 (x : Int)] w fun e w' => e = .returned (.int .i64 ((Z24 s.L x 3).1 : Int)) /\ Z0L w0 w sb K (Z4g s x 3) w' := by
 obtain ⟨o, h1, h2, h3, h4⟩ := h
 refine (ZcD h1 hx).mono ?_
 rintro e w' ⟨rfl, hst⟩
 exact ⟨rfl, Z13 h1 h2 h3 h4 hst⟩
theorem ZbC {x kd c2 : Nat} {y : Zo} {name nm : ByteArray} {A2 : Option Addr} (h : Zz w0 w sb K s) (hx : U64 x) (hy : s.sn x = some y) (hT : s.T = []) (hI : s.I = []) (hid : s.hs (s.blast + 1) = none) (hl : s.blast < 1000000) (hu : U64 y.own)
  (hnm : Z2D name) (hcn : Z2D nm) (hk : 1 <= kd /\ kd <= 3) (hr : Rd w K 2 A2 1 (ZP [(nm, kd)])) (hc2 : 1 <= c2) (hm2 : c2 <= maxLen) :
  Calls Tryz.prog 10 #[ptrV sb, .int .u64 (x : Int), .string name, .slice A2 1 c2] w fun e w' => e = .returned (.int .i64 0) /\ Z0L w0 w sb K (Z8C s name nm kd y.own) w' := by
 obtain ⟨o, h1, h2, h3, h4⟩ := h
 refine (Zep h1 hx hy hT hI hid hl hu hnm hcn hk hr (fun k hk => by have := (h4 k hk).1; omega) hc2 hm2).mono ?_
 rintro e w' ⟨rfl, hst⟩
 exact ⟨rfl, Z13 h1 h2 h3 h4 hst⟩
theorem ZbD {x i : Nat} {y : Zo} {t : TE} {name nm : ByteArray} {H : List (List (Option Tup))} (h : Zz w0 w sb K s) (hx : U64 x) (hy : s.sn x = some y) (hf : Z0w s.L y name s.T = some i) (ht : s.T[i]? = some t) (hc : t.cols = [(nm, 1)]) (hid : U64 t.id)
  (hH : s.hs t.id = some H) (hN : ∀ k, k <= H.length -> (ZO H k).length <= 1000000) (hI : Z5o H) :
  Calls Tryz.prog 14 #[ptrV sb, .int .u64 (x : Int), .string name] w (Z2j w (Z2p H s.L y (ZO H H.length))) := by
 obtain ⟨o, h1, h2, h3, h4⟩ := h
 exact Zeo h1 hx hy hf ht hc hid hH hN hI
end
def Z5p (w : World) (size : Nat) (xs : List Value) (e : Ending) (w' : World) : Prop := ∃ b, e = .returned (.slice (some ⟨b, 0, none⟩) 1 1) /\ Quiet w w' /\ w.heap.size <= b /\ b < w'.heap.size /\ Rd w' (fun k => k = b) size (some ⟨b, 0, none⟩) 1 xs
def tabA : TE := ⟨1, ⟨#[116]⟩, [(⟨#[97]⟩, 1)], 1, 0⟩
section
variable {L : List Nat} {H H' : List (List (Option Tup))} {left left' last x v : Nat} {sn : Nat -> Option Zo}
end
theorem Z8D {L : List Nat} {y : Zo} (h : Z1O L y 1 = true) : Z0w L y ⟨#[116]⟩ [tabA] = some 0 := by
 unfold Z0w
 rw [List.findIdx?_cons]
 have : Z43 L y ⟨#[116]⟩ tabA = true := by
  unfold Z43 Z1V
  show ((⟨#[116]⟩ : ByteArray).toList == (⟨#[116]⟩ : ByteArray).toList && (Z1O L y 1 && (decide ((0 : Nat) = 0) || !Z1O L y 0))) = true
  rw [h]
  simp
 rw [if_pos this]
def Z7M (s : Option Tup) : Prop := ∃ v, s = some v /\ v.data.length = 9
theorem Zeq {T : List (Option Tup)} (h : ∀ s ∈ T, Z7M s) : Z2E T = 43 * T.length := by
 induction T with
 | nil => rfl
 | cons s T ih =>
  obtain ⟨v, rfl, hv⟩ := h s (List.mem_cons_self ..)
  have := ih (fun s hs => h s (List.mem_cons_of_mem _ hs))
  unfold Z2E at this ⊢
  rw [List.map_cons, List.sum_cons, this, List.length_cons]
  show 4 + v.size + _ = _
  unfold Tup.size
  omega
theorem Z6y {T : List (Option Tup)} (h : ∀ s ∈ T, Z7M s) : freeT T = T.length := by
 unfold freeT
 rw [List.findIdx?_eq_none_iff.2 (fun s hs => by obtain ⟨v, rfl, _⟩ := h s hs; rfl)]
 rfl
theorem Za8 {T : List (Option Tup)} (h : ∀ s ∈ T, Z7M s) (hm : T.length <= 10) : 9 <= ZL T := by
 unfold ZL
 rw [Zeq h, Z6y h, if_pos rfl]
 omega
theorem ZbE {T : List (Option Tup)} {t : Tup} {left : Nat} (h : ∀ s ∈ T, Z7M s) (hm : T.length <= 10) (ht : t.rightB = true) (hd : t.data.length = 9) : Z12 [T] left t = (((0 : Int), (T.length : Int), 0), [T ++ [some t]], left) := by
 unfold Z12
 rw [if_neg (by rw [ht]; decide), hd]
 have : Z1c [T] 9 = some 0 := by
  unfold Z1c
  rw [List.findIdx?_cons, if_pos (by simpa using Za8 h hm)]
 rw [this]
 show (((0 : Int), ((freeT T : Nat) : Int), 0), [Z1h T t], left) = _
 unfold Z1h
 rw [Z6y h, if_pos rfl]
theorem Zer {t : Tup} {left : Nat} (ht : t.rightB = true) (hl : left ≠ 0) : Z12 [] left t = (((0 : Int), 0, 0), [[some t]], left - 1) := by
 unfold Z12
 rw [if_neg (by rw [ht]; decide)]
 show (if left = 0 then _ else _) = _
 rw [if_neg hl]
 rfl
theorem Z4i {r x n : Nat} (hr : r <= 1099511627776) (hx : x <= 1099511627776) : (⟨r, x, 0, -1, -1, rowI n⟩ : Tup).rightB = true := by
 unfold Tup.rightB
 refine decide_eq_true ⟨hr, hx, Nat.zero_le _, (by show Z0R (-1) (-1) = false; decide), ?_⟩
 show (rowI n).length <= 200
 rw [Z0j]
 omega
theorem Zes {v : Tup} {T : List (Option Tup)} {x : Nat} {p q : Int} (hx : x <= 1099511627776) (hf : Z0R p q = false) : Z22 [some v :: T] 0 0 x p q = (0, [some (v.stamp x p q) :: T]) := by
 unfold Z22
 rw [if_neg (by simp)]
 have : Z0a (some v :: T) 0 x p q = (0, some (v.stamp x p q) :: T) := by
  unfold Z0a
  rw [if_neg (by rw [hf]; simp; omega)]
  rfl
 show ((Z0a (some v :: T) 0 x p q).1, [(Z0a (some v :: T) 0 x p q).2]) = _
 rw [this]
theorem ZbF : (Tryz.prog.info? 92).map (·.size) = some 6 := by kernel_rfl
theorem ZbG : Z05 Tryz.prog 62 92 6 56 := Z05.mk' (.agg #[.int .u64 0, .string ⟨#[]⟩, .int .u64 0, .int .i64 0, .int .u64 0, .int .u64 0]) Tryz.underlying62 (by kernel_rfl) rfl (by decide)
def Zde (w : World) (e : IE) (r : Ending) (w' : World) : Prop := r = .returned (.agg #[.int .u64 (e.id : Int), .string e.name, .int .u64 (e.table : Int), .int .i64 (e.column : Int), .int .u64 (e.xmin : Int), .int .u64 (e.xmax : Int)]) /\ Quiet w w'
theorem Z1y.cells {w : World} {F : Nat -> Prop} {xb : Nat} {e : IE} (h : Z1y w F xb e) : w.cell? ⟨xb, 0, none⟩ = some (.int .u64 (e.id : Int)) /\ w.cell? ⟨xb, 1, none⟩ = some (.string e.name) /\ w.cell? ⟨xb, 2, none⟩ = some (.int .u64 (e.xmin : Int)) /\ w.cell? ⟨xb, 3, none⟩ = some (.int .u64 (e.xmax : Int)) /\ w.cell? ⟨xb, 4, none⟩ = some (.int .u64 (e.table : Int)) /\ w.cell? ⟨xb, 5, none⟩ = some (.int .i64 (e.column : Int)) :=
 ⟨by rw [Z1 h.box]; rfl, by rw [Z1 h.box]; rfl, by rw [Z1 h.box]; rfl, by rw [Z1 h.box]; rfl, by rw [Z1 h.box]; rfl, by rw [Z1 h.box]; rfl⟩
theorem Z8E {w : World} {F : Nat -> Prop} {xb : Nat} {e : IE} (h : Z1y w F xb e) :
  Calls Tryz.prog 71 #[ptrV xb] w (Zde w e) := by
 have HQ0 : Hid (Quiet w (w.alloc (.cells #[.int .u64 0, .string ⟨#[]⟩, .int .u64 0, .int .i64 0, .int .u64 0, .int .u64 0] 92))) := (Z0.refl _ _).alloc _
 have HB2 := zh (Z5 w (.cells #[.int .u64 0, .string ⟨#[]⟩, .int .u64 0, .int .i64 0, .int .u64 0, .int .u64 0] 92))
 have hlx := Z2 h.box
 obtain ⟨r2, hr2⟩ : ∃ r2, w.heap.size = r2 := ⟨_, rfl⟩
 rw [hr2] at HB2
 have HR2 : Hid (xb ≠ r2 /\ w.heap.size <= r2) := ⟨by omega, by omega⟩
 have HH := zh h
 clear h hlx
 go_enter Tryz.func71, Tryz.ntmps71
 go_wp2_with fail
 (try rw [hr2])
 generalize w.alloc (.cells #[.int .u64 0, .string ⟨#[]⟩, .int .u64 0, .int .i64 0, .int .u64 0, .int .u64 0] 92) = w1 at *
 have HS : Hid (∀ W, Z0 (fun k => k = r2) w1 W -> (fun w' => w'.cell? ⟨xb, 0, none⟩ = some (.int .u64 (e.id : Int)) /\ w'.cell? ⟨xb, 1, none⟩ = some (.string e.name) /\ w'.cell? ⟨xb, 2, none⟩ = some (.int .u64 (e.xmin : Int)) /\ w'.cell? ⟨xb, 3, none⟩ = some (.int .u64 (e.xmax : Int)) /\ w'.cell? ⟨xb, 4, none⟩ = some (.int .u64 (e.table : Int)) /\ w'.cell? ⟨xb, 5, none⟩ = some (.int .i64 (e.column : Int))) W) := fun W ho => by
  obtain ⟨c0, c1, c2, c3, c4, c5⟩ := (HH.out.kept HQ0.out (fun _ _ x => x)).cells
  exact ⟨ho.cell c0 (fun x => HR2.out.1 x), ho.cell c1 (fun x => HR2.out.1 x), ho.cell c2 (fun x => HR2.out.1 x), ho.cell c3 (fun x => HR2.out.1 x), ho.cell c4 (fun x => HR2.out.1 x), ho.cell c5 (fun x => HR2.out.1 x)⟩
 clear hr2
 refine zH HS ((Z0.refl _ _).drew) (fun Z3 => ?_)
 have q0 : Quiet w1 w1.drew := (Z0.refl _ _).drew
 generalize w1.drew = d0 at q0 Z3 ⊢
 refine zT 0 ?_
 refine zT 1 ?_
 refine zT 2 ?_
 refine zT 3 ?_
 refine zT 4 ?_
 refine zT 5 ?_
 refine zT 6 ?_
 refine zT 7 ?_
 refine zT 8 ?_
 refine zT 9 ?_
 refine zT 10 ?_
 refine zT 11 ?_
 refine zT 12 ?_
 refine zT 13 ?_
 refine zT 14 ?_
 refine zT 15 ?_
 refine zT 16 ?_
 refine zT 17 ?_
 refine zT 18 ?_
 refine zT 19 ?_
 refine zT 20 ?_
 refine zT 21 ?_
 refine zT 22 ?_
 refine zT 23 ?_
 refine zT 24 ?_
 refine zT 25 ?_
 refine zT 26 ?_
 refine zT 27 ?_
 refine zT 28 ?_
 refine zR 29 ?_
 intro K hK
 have h2 := q0.get HB2.out (fun x => x)
 obtain ⟨z0, z1, z2, z3, z4, z5⟩ := zC6 h2
 have zf := fun o => Z7 h2 o
 go_simp
 refine hK.out _ _ ?_ (fun Z3 => ?_)
 ·exact HS.out _ ((q0.mono (T := fun k => k = r2) (fun _ _ x => x.elim)).trans' (Z0A d0 r2 (.int .u64 (e.id : Int)) (.string e.name) (.int .u64 (e.table : Int)) (.int .i64 (e.column : Int)) (.int .u64 (e.xmin : Int)) (.int .u64 (e.xmax : Int))) (fun k _ e => e))
 clear hK K
 (try simp only [Act.put, zPA, zPZ, zPS])
 refine zD ?_
 have HX : Hid ((sixSet d0 r2 (.int .u64 (e.id : Int)) (.string e.name) (.int .u64 (e.table : Int)) (.int .i64 (e.column : Int)) (.int .u64 (e.xmin : Int)) (.int .u64 (e.xmax : Int))).heap[r2]? = some (.cells #[.int .u64 (e.id : Int), .string e.name, .int .u64 (e.table : Int), .int .i64 (e.column : Int), .int .u64 (e.xmin : Int), .int .u64 (e.xmax : Int)] 92 (0, 0))) := Z0Z h2 _ _ _ _ _ _
 have HP : Hid (Zde w e (.returned (.agg #[.int .u64 (e.id : Int), .string e.name, .int .u64 (e.table : Int), .int .i64 (e.column : Int), .int .u64 (e.xmin : Int), .int .u64 (e.xmax : Int)])) (sixSet d0 r2 (.int .u64 (e.id : Int)) (.string e.name) (.int .u64 (e.table : Int)) (.int .i64 (e.column : Int)) (.int .u64 (e.xmin : Int)) (.int .u64 (e.xmax : Int)))) := ⟨rfl, (HQ0.out.trans q0).trans' (Z0A d0 r2 (.int .u64 (e.id : Int)) (.string e.name) (.int .u64 (e.table : Int)) (.int .i64 (e.column : Int)) (.int .u64 (e.xmin : Int)) (.int .u64 (e.xmax : Int))) (fun k hk e => by have := HR2.out.2; omega)⟩
 unfold sixSet at HX HP
 clear Z3 q0 h2 z0 z1 z2 z3 z4 z5 zf
 go_wp2
 exact bodyPost_ret (Z00 Tryz.results71 _ _ r2 _ _ (0, 0) _ (by rfl) HX.out Tryz.underlying92 rfl ZbF) (by rfl) HP.out
structure Z1L (w wr : World) (v : Value) (l : List IE) : Prop where
 quiet : Quiet w wr
 new : ∀ k, v.ownBlock = some k -> w.heap.size <= k
 own : wr.ownsRow 0 92 6 v l.length (idxV l)
theorem Z1L.start {w wr : World} (h : Quiet w wr) : Z1L w wr (.slice none 0 0) [] := ⟨h, (fun k e => by cases e), World.ownsRow_nil _ _ _ _⟩
theorem Z1L.quietly {w wr w' : World} {v : Value} {l : List IE} (h : Z1L w wr v l) (hq : Quiet wr w') : Z1L w w' v l := ⟨h.quiet.trans hq, h.new, Z4 h.own hq (fun _ _ x => x)⟩
theorem Z1L.push {w w3 w4 : World} {v v' : Value} {l : List IE} {e : IE} (h : Z1L w w3 v l) (hg : ZW w3 w4 92 6 v v' (l.length + 1) (idxV l ++ Z4F e)) : Z1L w w4 v' (l ++ [e]) := by
 have hsz := h.quiet.size
 refine ⟨h.quiet.trans' hg.only (fun k hk e => by have := h.new k e; omega), fun k e => ?_, ?_⟩
 ·rcases hg.loc with y | y
  ·rw [y] at e; exact h.new k e
  ·rw [y] at e; injection e with e; omega
 ·rw [List.length_append, Z7l]
  have e1 : idxV [e] = Z4F e := by simp [idxV]
  rw [e1]
  exact hg.own
def Z5N (w : World) (l : List IE) (e : Ending) (w' : World) : Prop := ∃ v, e = .returned v /\ Z1L w w' v l
theorem Za9 {w : World} {F Fl : Nat -> Prop} {bb lb last id : Nat} {T : List TE} {I : List IE} {L : List Nat} (h : ZG w F bb T I last) (hl : Zy w Fl lb L) (hI : I.length <= 1000) :
  Calls Tryz.prog 57 #[ptrV bb, ptrV lb, .int .u64 (id : Int)] w (Z5N w (ZQ L id I)) := by
 obtain ⟨vT, tps, vI, ips, h, h2, h3⟩ := h
 obtain ⟨_, c1, _⟩ := h.cells
 obtain ⟨A, c, hv, hc, hm, hf⟩ := Z1G h.rowI
 subst hv
 have HF := zh hf
 have HX := zh h3
 have HL := zh hl
 have lbb := Z2 h.box
 obtain ⟨n, hn⟩ : ∃ n, I.length = n := ⟨_, rfl⟩
 have hin : ips.length = n := h2.trans hn
 rw [hin] at c1 hc
 have HIN := zh hin
 have HN := zh hn
 rw [hn] at hI
 obtain ⟨Z8, Z6⟩ : ∃ Z8, Z5N w (ZQ L id I) = Z8 := ⟨_, rfl⟩
 rw [Z6]
 have Zb := zh Z6
 unfold maxLen at hm
 clear h h2 h3 hf hl hn hin Z6
 go_enter Tryz.func57, Tryz.ntmps57
 go_wp2
 go_loopw [17, 7, 9] (fun i v _ wr => ∃ (k : Nat) (v' : Value), k <= n /\ i = .int .i64 (k : Int) /\ v = v' /\ Z1L w wr v' (ZQ L id (I.take k))) (fun i _ _ _ => n - (intOf i).toNat)
 case atStart => exact ⟨0, _, Nat.zero_le _, rfl, rfl, Z1L.start (Z0.refl _ _)⟩
 case round =>
  obtain ⟨k, v', hk, rfl, rfl, hW⟩ := hrel
  have HW := zh hW
  clear hW
  by_cases hlt : k < n
  ·obtain ⟨e, he⟩ : ∃ e, I[k]? = some e := ⟨_, zg (by have := HN.out; omega)⟩
   obtain ⟨p, hp, hix⟩ := HX.out k e he
   obtain ⟨g, rfl, hg⟩ := HF.out k p hp
   have hg2 := HW.out.quiet.cell hg (fun x => x)
   have hix2 := hix.kept HW.out.quiet (fun _ _ x => x)
   obtain ⟨e0, e1, e2, e3, e4, e5⟩ := hix2.cells
   have HT := zh (Zet (L := L) (id := id) he)
   have HIX := zh hix2
   have HST : Hid (Calls Tryz.prog 79 #[ptrV lb, .int .u64 (e.xmin : Int)] wr (fun r w' => r = .returned (.int .i64 (stateL L e.xmin : Int)) /\ ∃ m, w' = wr.drewN m)) := Z2t (HL.out.kept HW.out.quiet (fun _ _ x => x)) hix.num.2.1
   clear he hp hg hix hix2
   by_cases ht : e.table = id
   ·obtain ⟨sx, hsx⟩ : ∃ sx, stateL L e.xmin = sx := ⟨_, rfl⟩
    rw [hsx] at HST HT
    have htb : ((e.table : Int) == (id : Int)) = true := by simp [ht]
    have htd : decide (e.table = id) = true := decide_eq_true ht
    rw [htd] at HT
    by_cases h3 : sx = 3
    ·have HEQ : Hid (ZQ L id (I.take (k + 1)) = ZQ L id (I.take k)) := by
      show _ = _
      rw [HT.out, h3]
      simp
     subst ht
     subst h3
     clear htb htd HT
     go_wp2_with fail
     refine HST.out.mono ?_
     rintro r w2 ⟨rfl, m, rfl⟩
     have HW2 := zh (HW.out.quietly ((Z0.refl (fun _ => False) wr).drewN m))
     rw [<- HEQ.out] at HW2
     clear HST
     go_wp2
     go_roundw
     case rel => exact ⟨k + 1, _, by omega, by go_num, rfl, HW2.out⟩
     case measure => simp [intOf]; omega
    ·have HEQ : Hid (ZQ L id (I.take (k + 1)) = ZQ L id (I.take k) ++ [e]) := by
      show _ = _
      rw [HT.out]
      simp [h3]
     have h3i : ¬ (sx : Int) = 3 := by omega
     subst ht
     clear htb htd HT h3
     go_wp2_with fail
     refine HST.out.mono ?_
     rintro r w2 ⟨rfl, m, rfl⟩
     have hqd : Quiet wr (wr.drewN m) := (Z0.refl (fun _ => False) wr).drewN m
     have HW2 := zh (HW.out.quietly hqd)
     have HTO := zh (Z8E (HIX.out.kept hqd (fun _ _ x => x)))
     clear HST hqd
     go_wp2_with fail
     refine HTO.out.mono ?_
     rintro r w3 ⟨rfl, hq3⟩
     have HW3 := zh (HW2.out.quietly hq3)
     have HRD := zh (Rd.new w3 6 1 (Z4F e) 92 (fun _ => True) rfl trivial)
     have HW4 := zh (HW3.out.quietly ((Z0.refl (fun _ => False) w3).alloc (.cells (Z4F e).toArray 92)))
     have hml : (ZQ L e.table (I.take k)).length <= n := by
      have e1 : (ZQ L e.table (I.take k)).length <= (I.take k).length := List.length_filter_le _ _
      rw [List.length_take] at e1
      omega
     obtain ⟨ml, hml2⟩ : ∃ ml, (ZQ L e.table (I.take k)).length = ml := ⟨_, rfl⟩
     have HML := zh hml2
     have hown := HW4.out.own
     rw [hml2] at hml hown
     have HOWN := zh hown
     clear hq3 HTO hml2 hown e0 e1 e2 e3 e4 e5 hg2
     go_wp2_with (at_builtin; refine app ZbG rfl (.tmp 37) (.tmp 40) rfl rfl HOWN.out rfl HRD.out (Zdd e) (by unfold maxLen; omega) (by omega) ?_)
     intro v5 w5 hg5
     rw [<- HML.out] at hg5
     have HP := zh (HW4.out.push hg5)
     rw [<- HEQ.out] at HP
     clear hg5 HW4 HRD HOWN HW3
     go_wp2
     go_roundw
     case rel => exact ⟨k + 1, _, by omega, by go_num, rfl, HP.out⟩
     case measure => simp [intOf]; omega
   ·have htb : ((e.table : Int) == (id : Int)) = false := by simp; omega
    have HEQ : Hid (ZQ L id (I.take (k + 1)) = ZQ L id (I.take k)) := by
     show _ = _
     rw [HT.out]
     simp [ht]
    have hti : ¬ (e.table : Int) = (id : Int) := by omega
    have HW2 := HW.out
    rw [<- HEQ.out] at HW2
    have HW3 := zh HW2
    clear ht HT HST HW2
    go_wp2
    go_roundw
    case rel => exact ⟨k + 1, _, by omega, by go_num, rfl, HW3.out⟩
    case measure => simp [intOf]; omega
  ·obtain rfl : k = n := by omega
   have Zc : Hid (Z8 (.returned u7) wr) := by
    rw [<- Zb.out]
    have := HW.out
    rw [List.take_of_length_le (by have := HN.out; omega)] at this
    exact ⟨u7, rfl, this⟩
   go_wp2
   exact Zc.out
theorem Zhz : ∀ n : Fin 256, bits BinOp.xor IntKind.u64 ((n.val : Nat) : Int) 9223372036854775808 = ((9223372036854775808 + n.val : Nat) : Int) := by decide +kernel
theorem ZaG {w : World} {S2 : Nat -> Prop} {A2 : Option Addr} {c2 : Nat} {n : Nat} (hn : n < 256) (hv : Rd w S2 4 A2 1 (intRow n)) (hc2 : 1 <= c2) (hm2 : c2 <= maxLen) :
  Calls Tryz.prog 85 #[.slice A2 1 c2] w (Z6Z w (ZN n)) := by
 obtain ⟨b2, off2, rfl, _, v0, v1, v2, v3⟩ := intRow.get hv
 have l2 := Ze v0
 dsimp only at l2
 have hx0 := Zhz ⟨n, hn⟩
 obtain ⟨z, hz⟩ : ∃ z : Nat, 9223372036854775808 + n = z := ⟨_, rfl⟩
 have hx : bits BinOp.xor IntKind.u64 (n : Int) 9223372036854775808 = (z : Int) := by rw [<- hz]; exact hx0
 have HZ := zh hz
 unfold maxLen at hm2
 obtain ⟨Z8, Z6⟩ : ∃ Z8, Z6Z w (ZN n) = Z8 := ⟨_, rfl⟩
 rw [Z6]
 have Zb := zh Z6
 clear hv hx0 hz Z6
 go_enter Tryz.func85, Tryz.ntmps85
 go_wp2_with fail
 refine wp_loop_rounds 2 ?_
 rw [rounds_succ]
 go_wp2_with fail
 have hb0 : (w.alloc (.cells (intCells n) 32)).heap[w.heap.size]? = some (.cells (intCells n) 32 (0, 0)) := Z5 w _
 have hq0 : Quiet w (w.alloc (.cells (intCells n) 32)) := (Z0.refl _ _).alloc _
 obtain ⟨bx, hbx⟩ : ∃ bx, w.heap.size = bx := ⟨_, rfl⟩
 generalize w.alloc (.cells (intCells n) 32) = w1 at *
 refine (Z5m (n : Int) w1).mono ?_
 rintro e w2 ⟨rfl, hq2⟩
 rw [hbx] at hb0
 have hb2 := hq2.get hb0 (fun x => x)
 have HQ2 : Hid (Quiet w w2) := hq0.trans hq2
 have HB2 := zh hb2
 have x0 : w2.cell? ⟨bx, 0, none⟩ = some (.int .u8 1) := by rw [Z1 hb2]; rfl
 have x1 : w2.cell? ⟨bx, 1, none⟩ = some (.int .i64 (n : Int)) := by rw [Z1 hb2]; rfl
 have lbx := Z2 hb2
 have HRD3 : Hid (Rd (w2.alloc (.cells #[.int .u8 3] 5)) (fun _ => True) 1 (some ⟨w2.heap.size, 0, none⟩) 1 (Zg [3])) := Rd.new w2 1 1 (Zg [3]) _ _ rfl trivial
 clear hb0 hq0 hq2 hb2 v0 v1 v2 v3 l2
 go_wp2_with (at_builtin; refine app Z4k rfl (.tmp 44) (.tmp 45) rfl rfl (World.ownsRow_nil _ _ _ _) rfl HRD3.out (Z31 [3]) (by unfold maxLen; omega) (by omega) ?_)
 intro v4 w4 hg4
 have hF0 : Z0K w w4 v4 (3 :: Z2O n 0) := by
  refine ⟨(HQ2.out.alloc _).trans' hg4.only (fun k hk e => by cases e), fun k e => ?_, hg4.own⟩
  have := HQ2.out.size
  rcases hg4.loc with y | y
  ·rw [y] at e; cases e
  ·rw [y] at e; injection e with e; simp only [World.size_alloc] at e; omega
 have hN4 : w4.cell? ⟨bx, 1, none⟩ = some (.int .i64 (n : Int)) := hg4.only.cell (((Z0.refl (fun _ => False) w2).alloc (.cells #[.int .u8 3] 5)).cell x1 (fun x => x)) (fun e => by cases e)
 have HF0 := zh hF0
 have HB4 : Hid (∀ j, v4.ownBlock = some j -> j ≠ bx) := fun j e => by
  rcases hg4.loc with y | y
  ·rw [y] at e; cases e
  ·rw [y] at e; injection e with e; simp only [World.size_alloc] at e; omega
 have lbx4 := Ze hN4
 dsimp only at lbx4
 clear hg4 HRD3 hF0 x0 x1 lbx
 go_wp2_with fail
 go_loopw [9, 4] (fun i o wr => ∃ (m : Nat) (v' : Value), m <= 8 /\ i = .int .i64 ((m : Int) - 1) /\ o = v' /\ Z0K w wr v' (3 :: Z2O n (8 - m))) (fun i _ _ => ((intOf i) + 1).toNat)
 case atStart => exact ⟨8, _, Nat.le_refl _, rfl, rfl, HF0.out⟩
 case round =>
  obtain ⟨m, v', hm, rfl, rfl, hW⟩ := hrel
  rcases m with _ | j
  ·have hFR : Z0K w wr u4 (ZN n) := hW
   have Zc : Hid (Z8 (.returned (.tuple #[u4, .int .i64 0])) wr) := by
    rw [<- Zb.out]
    exact ⟨u4, rfl, hFR⟩
   clear hW hFR
   go_wp2_with fail
   rw [rounds_succ]
   go_wp2_with fail
   exact Zc.out
  ·have ej : (((j + 1 : Nat) : Int) - 1) = (j : Int) := by omega
   rw [ej]
   have hj : j < 8 := by omega
   obtain ⟨x, hxx⟩ : ∃ x : Nat, Z7N n (7 - j) = x := ⟨_, rfl⟩
   have e1 : (z : Int) / 2 ^ (8 * j) % 256 = (x : Int) := by rw [<- HZ.out, Zhy hn hj, hxx]
   have hx256 : x < 256 := by rw [<- hxx]; exact Zdf hn _
   have HS : Hid (Z2O n (8 - j) = Z2O n (8 - (j + 1)) ++ [x]) := by
    show _ = _
    rw [show 8 - j = (8 - (j + 1)) + 1 by omega, Zeu, show 8 - (j + 1) = 7 - j by omega, hxx]
   have hl : (3 :: Z2O n (8 - (j + 1))).length <= 9 := by rw [List.length_cons, Z6z]; omega
   have HRD : Hid (Rd (wr.alloc (.cells #[.int .u8 (x : Int)] 5)) (fun _ => True) 1 (some ⟨wr.heap.size, 0, none⟩) 1 (Zg [x])) := Rd.new wr 1 1 (Zg [x]) _ _ rfl trivial
   have hown := Z4 hW.own ((Z0.refl (fun _ => False) wr).alloc (.cells #[.int .u8 (x : Int)] 5)) (fun _ _ x => x)
   obtain ⟨q, hq⟩ : ∃ q, 3 :: Z2O n (8 - (j + 1)) = q := ⟨_, rfl⟩
   rw [hq] at hW hown hl
   obtain ⟨ql, hql⟩ : ∃ ql, q.length = ql := ⟨_, rfl⟩
   rw [hql] at hown hl
   have HR1 := zh hown
   have HW := zh hW
   have HQL := zh hql
   have HQ := zh hq
   clear hW hown hxx hq hql ej
   go_wp2_with (at_builtin; refine app Z4k rfl (.tmp 55) (.tmp 61) rfl rfl HR1.out rfl HRD.out (Z31 [x]) (by unfold maxLen; omega) (by omega) ?_)
   intro v6 w6 hg6
   rw [<- HQL.out] at hg6
   have HST := zh (HW.out.step hg6)
   rw [<- HQ.out, List.cons_append, <- HS.out] at HST
   clear hg6 HR1 HRD HW HS e1
   go_wp2
   go_roundw
   case rel => exact ⟨j, _, by omega, rfl, rfl, HST.out⟩
   case measure => simp [intOf]
theorem Zg5 {w : World} {v : Value} {n : Nat} (h : w.ownsRow 0 32 4 v 1 (intRow n)) : ∃ b c, v = .slice (some ⟨b, 0, none⟩) 1 c /\ b < w.heap.size /\ w.cell? ⟨b, 0, none⟩ = some (.int .u8 1) /\ w.cell? ⟨b, 1, none⟩ = some (.int .i64 (n : Int)) /\ w.cell? ⟨b, 2, none⟩ = some (.string ⟨#[]⟩) /\ w.cell? ⟨b, 3, none⟩ = some (.bool false) := by
 rcases ZJ h with ⟨_, e⟩ | ⟨b, c, rfl, _, _⟩
 ·cases e
 obtain ⟨cb, hcb⟩ := Zj h (k := b) rfl
 exact ⟨b, c, rfl, Z2 hcb, h.cells (by rfl) 0 (.int .u8 1) rfl, h.cells (by rfl) 1 (.int .i64 (n : Int)) rfl, h.cells (by rfl) 2 (.string ⟨#[]⟩) rfl, h.cells (by rfl) 3 (.bool false) rfl⟩
theorem Zaa {w : World} {c2 cd n : Nat} {t : TE} {nm : ByteArray} {Sc Sd : Nat -> Prop} {A A2 : Option Addr} {v : Tup} (ht : t.cols = [(nm, 1)]) (hr : Rd w Sc 2 A2 t.cols.length (ZP t.cols)) (hc2 : t.cols.length <= c2) (hm2 : c2 <= maxLen) (hn : n < 256) (hdat : v.data = rowI n) (hd : Rd w Sd 1 A 9 (Zg (rowI n))) (hcd : 9 <= cd) (hmd : cd <= maxLen) :
  Calls Tryz.prog 41 #[Z06 t A2 c2, Zt v A cd, .int .i64 0] w (Z33 w (ZN n)) := by
 have hd9 : v.data.length = 9 := by rw [hdat]; exact Z0j n
 have HQ0 : Hid (Quiet w ((w.alloc (.cells #[.int .u64 (t.id : Int), .string t.name, .slice A2 t.cols.length c2, .int .u64 (t.xmin : Int), .int .u64 (t.xmax : Int)] 98)).alloc (.cells #[.int .u64 v.row, .int .u64 v.xmin, .int .u64 v.xmax, .int .i64 v.pg, .int .i64 v.sl, .slice A 9 cd] 104))) := ((Z0.refl _ _).alloc _).alloc _
 have HB3 := zh (Zd (Z5 w (.cells #[.int .u64 (t.id : Int), .string t.name, .slice A2 t.cols.length c2, .int .u64 (t.xmin : Int), .int .u64 (t.xmax : Int)] 98)) (.cells #[.int .u64 v.row, .int .u64 v.xmin, .int .u64 v.xmax, .int .i64 v.pg, .int .i64 v.sl, .slice A 9 cd] 104))
 have HB4 := zh (Z0r w (.cells #[.int .u64 (t.id : Int), .string t.name, .slice A2 t.cols.length c2, .int .u64 (t.xmin : Int), .int .u64 (t.xmax : Int)] 98) (.cells #[.int .u64 v.row, .int .u64 v.xmin, .int .u64 v.xmax, .int .i64 v.pg, .int .i64 v.sl, .slice A 9 cd] 104))
 obtain ⟨r3, hr3⟩ : ∃ r3, w.heap.size = r3 := ⟨_, rfl⟩
 obtain ⟨r4, hr4⟩ : ∃ r4, r3 + 1 = r4 := ⟨_, rfl⟩
 rw [hr3] at HB3 HB4
 rw [hr4] at HB4
 have HR := zh hr
 have HC2 := zh (And.intro hc2 hm2)
 have HT := zh ht
 have HX := zh hn
 have HD := zh hd
 have HDC := zh (And.intro hcd hmd)
 obtain ⟨Z8, Z6⟩ : ∃ Z8, Z33 w (ZN n) = Z8 := ⟨_, rfl⟩
 rw [Z6]
 have Zb := zh Z6
 unfold Z06 Zt
 rw [hd9]
 clear hr hc2 hm2 ht hn hd hcd hmd Z6 hdat hd9
 go_enter Tryz.func41, Tryz.ntmps41
 go_wp2_with fail
 (try simp only [World.size_alloc] at *)
 (try rw [hr3]); (try rw [hr4])
 generalize (w.alloc (.cells #[.int .u64 (t.id : Int), .string t.name, .slice A2 t.cols.length c2, .int .u64 (t.xmin : Int), .int .u64 (t.xmax : Int)] 98)).alloc (.cells #[.int .u64 v.row, .int .u64 v.xmin, .int .u64 v.xmax, .int .i64 v.pg, .int .i64 v.sl, .slice A 9 cd] 104) = w2 at *
 have HS1 : Hid (∀ W, Quiet w2 W -> (fun w' => w'.cell? ⟨r3, 0, none⟩ = some (.int .u64 (t.id : Int)) /\ w'.cell? ⟨r3, 1, none⟩ = some (.string t.name) /\ w'.cell? ⟨r3, 2, none⟩ = some (.slice A2 t.cols.length c2) /\ w'.cell? ⟨r3, 3, none⟩ = some (.int .u64 (t.xmin : Int)) /\ w'.cell? ⟨r3, 4, none⟩ = some (.int .u64 (t.xmax : Int)) /\ w'.cell? ⟨r4, 5, none⟩ = some (.slice A 9 cd)) W) := fun W hq => by
  have b3 := Z0h (hq.get HB3.out (fun x => x))
  have b4 := hq.get HB4.out (fun x => x)
  exact ⟨b3.1, b3.2.1, b3.2.2.1, b3.2.2.2.1, b3.2.2.2.2, by rw [Z1 b4]; rfl⟩
 have HKND : Hid (∀ W', Quiet w2 W' -> Calls Tryz.prog 44 #[Z06 t A2 c2] W' (Z39 W' 1)) := fun W' hq => by
  have h2 := HR.out.kept (HQ0.out.trans hq) (fun _ _ x => x)
  have h3 := HC2.out
  rw [HT.out] at h2 h3
  exact Z3J HT.out h2 h3.1 h3.2
 have HDAT : Hid (∀ W', Quiet w2 W' -> Rd W' Sd 1 A 9 (Zg (rowI n))) := fun W' hq => HD.out.kept (HQ0.out.trans hq) (fun _ _ x => x)
 unfold Z06 at HKND
 clear hr3 hr4
 refine zH HS1 (Z0.refl _ _).drew (fun Z3 => ?_)
 have q8 : Quiet w2 w2.drew := (Z0.refl _ _).drew
 generalize w2.drew = d8 at q8 Z3 ⊢
 refine zT 0 ?_
 refine zT 2 ?_
 refine zT 3 ?_
 refine zR 1 ?_
 intro K hK
 go_simp
 go_at_call 44
 refine (HKND.out _ q8).mono ?_
 rintro e d9 ⟨v9, rfl, hf9⟩
 have q9 := q8.trans hf9.quiet
 obtain ⟨A9, c9, rfl, hc9, hm9, hrd9⟩ := Z9 hf9.own
 clear hf9
 dsimp only
 refine hK.out _ _ ?_ (fun Z3 => ?_)
 ·exact HS1.out _ q9
 clear hK K
 (try simp only [Act.put, zPA, zPZ, zPS])
 refine zR 4 ?_
 intro K hK
 go_simp
 go_at_call 84
 refine (Z6l HX.out (by exact hrd9) (HDAT.out _ q9) hc9 hm9 HDC.out.1 HDC.out.2).mono ?_
 rintro e d10 ⟨v10, rfl, hf10⟩
 have q10 := q9.trans hf10.quiet
 have hfv := Z4J.from9 q9 hf10
 clear hf10
 dsimp only
 refine hK.out _ _ ?_ (fun Z3 => ?_)
 ·exact HS1.out _ q10
 clear hK K
 (try simp only [Act.put, zPA, zPZ, zPS])
 refine zT 5 ?_
 refine zT 6 ?_
 refine zT 7 ?_
 refine zT 8 ?_
 refine zT 9 ?_
 refine zD ?_
 clear Z3 q8 q9 hrd9 hc9 hm9
 obtain ⟨b, cb, rfl, hlb, x0, x1, x2, x3⟩ := Zg5 hfv.own
 have HQ10 : Hid (Quiet w d10) := HQ0.out.trans q10
 have HKB : Hid (Calls Tryz.prog 85 #[.slice (some ⟨d10.heap.size, 0, none⟩) 1 1] (d10.alloc (.cells (intCells n) 32)) (Z6Z (d10.alloc (.cells (intCells n) 32)) (ZN n))) := ZaG HX.out (Rd.new d10 4 1 (intRow n) 32 (fun _ => True) rfl trivial) (Nat.le_refl _) (by unfold maxLen; omega)
 have hqa : Quiet d10 (d10.alloc (.cells (intCells n) 32)) := (Z0.refl _ _).alloc _
 have HQA : Hid (Quiet w (d10.alloc (.cells (intCells n) 32))) := HQ10.out.trans hqa
 clear hfv q10 HDAT HKND HS1 hqa
 go_wp2_with fail
 refine HKB.out.mono ?_
 rintro e w5 ⟨v5, rfl, hf5⟩
 have Zc : Hid (Z8 (.returned v5) w5) := by
  rw [<- Zb.out]
  exact ⟨v5, rfl, HQA.out.trans hf5.quiet, fun k e => Nat.le_trans HQA.out.size (hf5.new k e), hf5.own⟩
 clear hf5 HKB x0 x1 x2 x3 hlb
 go_wp2
 exact Zc.out
def Z2A (ent : Ent) (ts : Nat -> Option (List Ent)) (l : List IE) : Nat -> Option (List Ent) := l.foldl (fun ts e => upd ts e.id (some (Z1j ent ((ts e.id).getD [])))) ts
theorem Zev (ent : Ent) (ts : Nat -> Option (List Ent)) (l : List IE) (e : IE) : Z2A ent ts (l ++ [e]) = upd (Z2A ent ts l) e.id (some (Z1j ent ((Z2A ent ts l e.id).getD []))) := by
 unfold Z2A
 rw [List.foldl_append]
 rfl
theorem ZcG {ent : Ent} {l : List IE} {i : Nat} : ∀ {ts : Nat -> Option (List Ent)}, (∀ e ∈ l, e.id ≠ i) -> Z2A ent ts l i = ts i := by
 induction l with
 | nil => intro ts _; rfl
 | cons e l ih =>
  intro ts h
  have h1 : e.id ≠ i := h e (List.mem_cons_self ..)
  have h2 := ih (ts := upd ts e.id (some (Z1j ent ((ts e.id).getD [])))) (fun x hx => h x (List.mem_cons_of_mem _ hx))
  show Z2A ent (upd ts e.id _) l i = ts i
  rw [h2]
  simp [upd, Ne.symm h1]
def putSx (s : St) (id : Nat) (H' : List (List (Option Tup))) (left' : Nat) (ent : Ent) : St := { s with left := left', hs := upd s.hs id (some H'), ts := Z2A ent s.ts (ZQ s.L id s.I) }
theorem ZbH {n : Nat} (hn : n < 256) : ∀ x ∈ rowI n, x < 256 := Zen hn
theorem Zew (w : World) : (zeroValue 95).run Tryz.prog w = .ok (.pointer none) w := by kernel_rfl
theorem Z6A {W : World} {mt tb id : Nat} {ft : Nat -> Option Value} (h : Z09 W mt ft) (hf : ft id = some (ptrV tb)) (hid : U64 id) : (Instr.lookup 75 (.map (some mt)) (.int .u64 (id : Int)) false).run Tryz.prog W = .ok (ptrV tb) W := by
 have := h.lookup Tryz.underlying75 Tryz.underlying34 false (Zew _) hid
 rw [hf] at this
 simpa using this
theorem Z7O : ∀ (M : List IE) (i : Nat) (m : IE), M[i]? = some m -> (idxV M)[i * 6]? = some (.int .u64 (m.id : Int)) /\ (idxV M)[i * 6 + 1]? = some (.string m.name) /\ (idxV M)[i * 6 + 2]? = some (.int .u64 (m.table : Int)) /\ (idxV M)[i * 6 + 3]? = some (.int .i64 (m.column : Int)) /\ (idxV M)[i * 6 + 4]? = some (.int .u64 (m.xmin : Int)) /\ (idxV M)[i * 6 + 5]? = some (.int .u64 (m.xmax : Int))
 | [], i, m, h => by simp at h
 | x :: M, 0, m, h => by
  simp at h
  subst h
  exact ⟨rfl, rfl, rfl, rfl, rfl, rfl⟩
 | x :: M, i + 1, m, h => by
  have ih := Z7O M i m (by simpa using h)
  have e : idxV (x :: M) = .int .u64 (x.id : Int) :: .string x.name :: .int .u64 (x.table : Int) :: .int .i64 (x.column : Int) :: .int .u64 (x.xmin : Int) :: .int .u64 (x.xmax : Int) :: idxV M := rfl
  rw [e, show (i + 1) * 6 = i * 6 + 1 + 1 + 1 + 1 + 1 + 1 by omega]
  exact ih
theorem ZhA {l : List IE} {k : Nat} {x : IE} (h : (l.map (fun e => e.id)).Nodup) (hx : l[k]? = some x) : ∀ e ∈ l.take k, e.id ≠ x.id := by
 intro e he hid
 obtain ⟨j, hj⟩ := List.mem_iff_getElem?.1 he
 have hjk : j < k := by
  have := (zi.1 hj).1
  rw [List.length_take] at this
  omega
 rw [List.getElem?_take_of_lt hjk] at hj
 obtain ⟨l1, e1⟩ := zi.1 hj
 obtain ⟨l2, e2⟩ := zi.1 hx
 have := (List.pairwise_iff_getElem.1 h) j k (by simpa using l1) (by simpa using l2) hjk
 simp only [List.getElem_map] at this
 rw [e1, e2] at this
 exact this hid
theorem Zh.setTree {w w' : World} {sb : Nat} {o : Nat -> Nat} {s : St} {lb bb pb mh mt ms : Nat} {fh ft fs : Nat -> Option Value} {id tb : Nat} {es' : List Ent} (h : Zh w sb o s lb bb pb mh mt ms fh ft fs) (hid : ft id = some (ptrV tb)) (ho : Z0 (fun k => o k = 11 + 2 * id) w w') (hl : Z08 w' (fun k => o k = 11 + 2 * id ∨ w.heap.size <= k) tb es') :
  Zh w' sb (grow o w.heap.size w'.heap.size (11 + 2 * id)) { s with ts := upd s.ts id (some es') } lb bb pb mh mt ms fh ft fs := by
 obtain ⟨t1, t2, t3, t4, t5⟩ := h.tags
 have hg : Z0y o (grow o w.heap.size w'.heap.size (11 + 2 * id)) := Z0y.grow h.big
 refine ⟨ho.get h.box (fun x => by omega), Z46 h.log ho hg (by omega) (fun k x => by omega), Z2M h.book ho hg (by omega) (fun k x => by omega), h.pool.kept ho (fun x => by omega),
   h.mH.kept ho (fun x => by omega), h.mT.kept ho (fun x => by omega), h.mS.kept ho (fun x => by omega), ⟨by rw [hg _ (by omega)]; exact t1, by rw [hg _ (by omega)]; exact t2, by rw [hg _ (by omega)]; exact t3, by rw [hg _ (by omega)]; exact t4, by rw [hg _ (by omega)]; exact t5⟩, fun k hk => Z2X h.big ho.size hk,
   Z3f h.heaps ho hg (fun k x i H _ => by omega), ⟨fun i hi => ?_, fun i es hi => ?_⟩, Z2F h.snaps ho hg (fun k x => by omega), h.num⟩
 ·by_cases e : i = id
  ·subst e; simp [upd] at hi
  ·exact h.trees.1 i (by simpa [upd, e] using hi)
 ·by_cases e : i = id
  ·subst e
   have : es' = es := by simpa [upd] using hi
   subst this
   exact ⟨tb, hid, hl.mono (fun k hk hlt => by rcases hk with x | x; rw [hg k (by omega)]; exact x; exact Z2h x hlt)⟩
  ·obtain ⟨tb2, e2, h2⟩ := h.trees.2 i es (by simpa [upd, e] using hi)
   exact ⟨tb2, e2, ZaO h2 ho hg (by omega) (fun k x => by omega)⟩
theorem Zab {w : World} {sb c2 cd left' n : Nat} {o : Nat -> Nat} {s : St} {t : TE} {nm : ByteArray} {Sc Sd : Nat -> Prop} {A A2 : Option Addr} {H H' : List (List (Option Tup))} {p q : Int} {v : Tup} (h : Zm w sb o s) (hI : s.I.length <= 1000) (hid : U64 t.id) (hH : s.hs t.id = some H) (hle : H.length + s.left <= 256)
  (hc : t.cols = [(nm, 1)]) (hr : Rd w Sc 2 A2 t.cols.length (ZP t.cols)) (hSc : ∀ k, Sc k -> o k = 0) (hc2 : t.cols.length <= c2) (hm2 : c2 <= maxLen) (hn : n < 256) (hdat : v.data = rowI n) (hcd : 9 <= cd) (hmd : cd <= maxLen) (hd : Rd w Sd 1 A 9 (Zg (rowI n))) (hS : ∀ k, Sd k -> o k = 0) (hins : Z12 H s.left v = ((p, q, 0), H', left'))
  (hx : ∀ e ∈ ZQ s.L t.id s.I, e.column = 0 /\ U64 e.id /\ ∃ es, s.ts e.id = some es /\ es.length <= 10000) (hnd : ((ZQ s.L t.id s.I).map (fun e => e.id)).Nodup) :
  Calls Tryz.prog 45 #[ptrV sb, Z06 t A2 c2, Zt v A cd] w (Z4p w sb o (putSx s t.id H' left' ⟨ZN n, p, q⟩) p q) := by
 obtain ⟨lb, bb, pb, mh, mt, ms, fh, ft, fs, h⟩ := h
 obtain ⟨hb, hf, hp⟩ := h.heaps.2 t.id H hH
 have HH := zh h
 have HP := zh hp
 have HF := zh hf
 have HID := zh hid
 have HD := zh hd
 have HI := zh hI
 have HIN := zh hins
 have HBY : Hid (∀ x ∈ v.data, x < 256) := by rw [hdat]; exact ZbH hn
 have HCC := zh (And.intro hc (And.intro hc2 hm2))
 have HCR := zh hr
 have HSC := zh hSc
 have HN := zh hn
 have HDAT := zh hdat
 have HCD := zh (And.intro hcd hmd)
 have HKX := zh (And.intro hx hnd)
 have hd9 : v.data.length = 9 := by rw [hdat]; exact Z0j n
 have HD9 := zh hd9
 have HSD := zh hS
 have HLE := zh hle
 obtain ⟨q0, b4, b5, b6⟩ := Zhw w (.cells #[.int .u64 (t.id : Int), .string t.name, .slice A2 t.cols.length c2, .int .u64 (t.xmin : Int), .int .u64 (t.xmax : Int)] 98) (.cells #[.int .u64 v.row, .int .u64 v.xmin, .int .u64 v.xmax, .int .i64 v.pg, .int .i64 v.sl, .slice A v.data.length cd] 104) (.cells #[.int .i64 0, .int .i64 0] 48)
 have HQ0 := zh q0
 have HB4 := zh b4
 have HB5 := zh b5
 have HB6 := zh b6
 obtain ⟨r4, hr4⟩ : ∃ r4, w.heap.size = r4 := ⟨_, rfl⟩
 obtain ⟨r5, hr5⟩ : ∃ r5, r4 + 1 = r5 := ⟨_, rfl⟩
 obtain ⟨r6, hr6⟩ : ∃ r6, r5 + 1 = r6 := ⟨_, rfl⟩
 rw [hr4] at HB4 HB5 HB6
 rw [hr5] at HB5 HB6
 rw [hr6] at HB6
 have HR6 : Hid (w.heap.size <= r6 /\ w.heap.size <= r4 /\ w.heap.size <= r5) := ⟨by omega, by omega, by omega⟩
 clear h hp hf hid hd hI hins hS hH q0 b4 b5 b6 hle hc hr hSc hc2 hm2 hn hdat hcd hmd hx hnd hd9
 unfold Z06 Zt
 go_enter Tryz.func45, Tryz.ntmps45
 go_wp2_with fail
 (try simp only [World.size_alloc] at *)
 (try rw [hr4]); (try rw [hr5]); (try rw [hr6])
 generalize ((w.alloc (.cells #[.int .u64 (t.id : Int), .string t.name, .slice A2 t.cols.length c2, .int .u64 (t.xmin : Int), .int .u64 (t.xmax : Int)] 98)).alloc (.cells #[.int .u64 v.row, .int .u64 v.xmin, .int .u64 v.xmax, .int .i64 v.pg, .int .i64 v.sl, .slice A v.data.length cd] 104)).alloc (.cells #[.int .i64 0, .int .i64 0] 48) = wb at *
 have HBIG : Hid (∀ k, w.heap.size <= k -> o k = 0) := HH.out.big
 have HPB : Hid (pb < w.heap.size) := HH.out.pool.lt
 have HGN : Hid (∀ k, wb.heap.size <= k -> ¬ (o k = 10 + 2 * t.id ∨ k = pb)) := fun k hk x => by
  have := HBIG.out k (by have := HQ0.out.size; omega)
  have := HPB.out
  have := HQ0.out.size
  rcases x with x | x <;> omega
 have HS5 : Hid (∀ W, Z0 (fun k => o k = 10 + 2 * t.id ∨ k = pb) wb W -> (fun w' => w'.cell? ⟨sb, 3, none⟩ = some (.map (some mh)) /\ w'.cell? ⟨r4, 0, none⟩ = some (.int .u64 (t.id : Int)) /\ w'.cell? ⟨r5, 0, none⟩ = some (.int .u64 v.row) /\ w'.cell? ⟨r5, 1, none⟩ = some (.int .u64 v.xmin) /\ w'.cell? ⟨r5, 2, none⟩ = some (.int .u64 v.xmax) /\ w'.cell? ⟨r5, 3, none⟩ = some (.int .i64 v.pg) /\ w'.cell? ⟨r5, 4, none⟩ = some (.int .i64 v.sl) /\ w'.cell? ⟨r5, 5, none⟩ = some (.slice A v.data.length cd) /\ (Instr.lookup 74 (.map (some mh)) (.int .u64 (t.id : Int)) false).run Tryz.prog w' = .ok (ptrV hb) w') W) := fun W hq => by
  have h2 := HH.out.quietly HQ0.out
  obtain ⟨t1, t2, t3, t4, t5⟩ := h2.tags
  have b4 := hq.get HB4.out (fun x => by have := HBIG.out r4 HR6.out.2.1; have := HPB.out; have := HR6.out; rcases x with x | x <;> omega)
  have b5 := hq.get HB5.out (fun x => by have := HBIG.out r5 HR6.out.2.2; have := HPB.out; have := HR6.out; rcases x with x | x <;> omega)
  have c3 := hq.cell h2.cells.2.2.2.1 (fun x => by dsimp only at x; rcases x with x | x; omega; rw [x] at t1; omega)
  have hm := h2.mH.kept hq (fun x => by rcases x with x | x; omega; rw [x] at t3; omega)
  refine ⟨c3, (Z0h b4).1, ?_, ?_, ?_, ?_, ?_, ?_, Z1n hm HF.out HID.out⟩ <;> (rw [Z1 b5]; rfl)
 have HINS : Hid (∀ W, Quiet wb W -> Calls Tryz.prog 88 #[ptrV hb, .agg #[.int .u64 v.row, .int .u64 v.xmin, .int .u64 v.xmax, .int .i64 v.pg, .int .i64 v.sl, .slice A v.data.length cd]] W (fun e w' => e = .returned (.tuple #[.agg #[.int .i64 p, .int .i64 q], .int .i64 0]) /\ Z0 (fun k => o k = 10 + 2 * t.id ∨ k = pb) W w' /\ ZI w' pb left' /\ Zp w' hb pb (fun k => o k = 10 + 2 * t.id ∨ W.heap.size <= k) H')) := fun W hq => by
  have hq2 := HQ0.out.trans hq
  have := Zcl s.left v A cd Sd (HP.out.kept hq2 (fun _ _ x => x)) (HH.out.pool.kept hq2 (fun x => x)) HLE.out HBY.out (by rw [HD9.out, HDAT.out]; exact HD.out.kept hq2 (fun _ _ x => x)) (fun k hk => ⟨fun x => by have := HSD.out k hk; omega, fun x => by have := HSD.out k hk; have := HH.out.tags.2.1; rw [x] at *; omega⟩)
  rw [HIN.out] at this
  exact this
 clear hr4 hr5 hr6
 apply Ziq (wb := wb) (hb := hb) (pb := pb) (left' := left') (p := p) (q := q) (Gw := fun k => o k = 10 + 2 * t.id) (H' := H')
 case main =>
   intro KEY
   refine zH HS5 ((Z0.refl _ _).drew) (fun Z3 => ?_)
   have q0 : Quiet wb wb.drew := (Z0.refl _ _).drew
   generalize wb.drew = d0 at q0 Z3 ⊢
   refine zT 0 ?_
   refine zT 1 ?_
   refine zT 2 ?_
   refine zT 3 ?_
   refine zT 4 ?_
   refine zT 5 ?_
   refine zT 6 ?_
   refine zT 7 ?_
   refine wpAnyH_ready (rs := [8, 12]) (by kernel_rfl) (by simp) ?_
   refine zA ?_ ?_
   ·intro K hK
    go_simp
    go_at_call 88
    refine (HINS.out _ q0).mono ?_
    rintro e d2 ⟨rfl, hi1, hi2, hi3⟩
    have q2 := (q0.mono (T := (fun k => o k = 10 + 2 * t.id ∨ k = pb)) (fun _ _ x => x.elim)).trans hi1
    have hheap := hi3.lim
    have hpool := hi2
    clear hi1 hi2 hi3
    dsimp only
    refine hK.out _ _ ?_ (fun Z3 => ?_)
    ·exact HS5.out _ q2
    clear hK K
    (try simp only [Act.put, zPA, zPZ, zPS])
    refine zT 9 ?_
    refine zT 10 ?_
    refine zT 11 ?_
    refine zR 12 ?_
    intro K hK
    go_simp
    refine hK.out _ _ ?_ (fun Z3 => ?_)
    ·exact HS5.out _ (q2.alloc _)
    clear hK K
    (try simp only [Act.put, zPA, zPZ, zPS])
    have qd3 := q2.alloc (.cells #[.int .i64 0, .int .i64 0] 48)
    have hb1 := Z5 d2 (.cells #[.int .i64 0, .int .i64 0] 48)
    have hnp : wb.heap.size <= d2.heap.size := q2.size
    have hpool := hpool.kept ((Z0.refl (fun _ => False) d2).alloc (.cells #[.int .i64 0, .int .i64 0] 48)) (fun x => x)
    have hheap := hheap.kept ((Z0.refl (fun _ => False) d2).alloc (.cells #[.int .i64 0, .int .i64 0] 48)) (fun _ _ x => x)
    obtain ⟨pt, hpt⟩ : ∃ pt, d2.heap.size = pt := ⟨_, rfl⟩
    (try rw [hpt] at hb1)
    (try rw [hpt] at hnp)
    (try rw [hpt])
    (try rw [hpt] at hheap)
    have hheap : Zp (d2.alloc (.cells #[.int .i64 0, .int .i64 0] 48)) hb pb (fun k => o k = 10 + 2 * t.id ∨ (wb.heap.size <= k /\ k ≠ pt)) H' := hheap.mono (fun k x => by rcases x.1 with y | y; exact Or.inl y; exact Or.inr ⟨by have := q0.size; omega, by omega⟩)
    generalize d2.alloc (.cells #[.int .i64 0, .int .i64 0] 48) = d3 at *
    clear hpt
    obtain ⟨z0, z1⟩ := zC2 hb1
    have zf := fun o => Z7 hb1 o
    refine zR 13 ?_
    intro K hK
    go_simp
    refine hK.out _ _ ?_ (fun Z3 => ?_)
    ·exact HS5.out _ (Z5L qd3 hb1 hnp hpool hheap HGN.out (p := p) (q := q)).only
    clear hK K
    (try simp only [Act.put, zPA, zPZ, zPS])
    have HG := (Z5L qd3 hb1 hnp hpool hheap HGN.out (p := p) (q := q))
    refine zT 14 ?_
    refine zD ?_
    generalize (d3.setCell ⟨pt, 0, none⟩ (.int .i64 p)).setCell ⟨pt, 1, none⟩ (.int .i64 q) = WF at HG ⊢
    exact KEY _ _ HG
   refine zA ?_ AllReadyH.nil
   intro K hK
   go_simp
   refine hK.out _ _ ?_ (fun Z3 => ?_)
   ·exact HS5.out _ ((q0.alloc _).mono (fun _ _ x => x.elim))
   clear hK K
   (try simp only [Act.put, zPA, zPZ, zPS])
   have qd1 := q0.alloc (.cells #[.int .i64 0, .int .i64 0] 48)
   have hb1 := Z5 d0 (.cells #[.int .i64 0, .int .i64 0] 48)
   have hnp : wb.heap.size <= d0.heap.size := q0.size
   have hnz : (d0.alloc (.cells #[.int .i64 0, .int .i64 0] 48)).heap.size = d0.heap.size + 1 := by simp
   obtain ⟨pt, hpt⟩ : ∃ pt, d0.heap.size = pt := ⟨_, rfl⟩
   (try rw [hpt] at hb1)
   (try rw [hpt] at hnp)
   (try rw [hpt])
   (try rw [hpt] at hnz)
   generalize d0.alloc (.cells #[.int .i64 0, .int .i64 0] 48) = d1 at *
   clear hpt
   refine zR 8 ?_
   intro K hK
   go_simp
   go_at_call 88
   refine (HINS.out _ qd1).mono ?_
   rintro e d2 ⟨rfl, hi1, hi2, hi3⟩
   have q2 := (qd1.mono (T := (fun k => o k = 10 + 2 * t.id ∨ k = pb)) (fun _ _ x => x.elim)).trans hi1
   have hb2 := hi1.get hb1 (fun x => HGN.out _ hnp x)
   have hheap : Zp d2 hb pb (fun k => o k = 10 + 2 * t.id ∨ (wb.heap.size <= k /\ k ≠ pt)) H' := hi3.mono (fun k x => by rcases x with x | x; exact Or.inl x; exact Or.inr ⟨by omega, by omega⟩)
   have hpool := hi2
   clear hi1 hi2 hi3
   dsimp only
   refine hK.out _ _ ?_ (fun Z3 => ?_)
   ·exact HS5.out _ q2
   clear hK K
   (try simp only [Act.put, zPA, zPZ, zPS])
   obtain ⟨z0, z1⟩ := zC2 hb2
   have zf := fun o => Z7 hb2 o
   refine zT 9 ?_
   refine zT 10 ?_
   refine zT 11 ?_
   refine zR 13 ?_
   intro K hK
   go_simp
   refine hK.out _ _ ?_ (fun Z3 => ?_)
   ·exact HS5.out _ (Z5L q2 hb2 hnp hpool hheap HGN.out (p := p) (q := q)).only
   clear hK K
   (try simp only [Act.put, zPA, zPZ, zPS])
   have HG := (Z5L q2 hb2 hnp hpool hheap HGN.out (p := p) (q := q))
   refine zT 14 ?_
   refine zD ?_
   generalize (d2.setCell ⟨pt, 0, none⟩ (.int .i64 p)).setCell ⟨pt, 1, none⟩ (.int .i64 q) = WF at HG ⊢
   exact KEY _ _ HG
 case key =>
  intro pt W HL0
  have HL := zh HL0
  clear HL0 HS5 HINS
  have HOW : Hid (Z0 (fun k => o k = 10 + 2 * t.id ∨ k = pb) w W) := (HQ0.out.mono (fun _ _ x => x.elim)).trans' HL.out.only (fun k _ x => x)
  have HBW : Hid (∀ k, (o k = 10 + 2 * t.id ∨ k = pb) -> o k = 10 + 2 * t.id ∨ o k = 4) := fun k x => by rcases x with x | x; exact Or.inl x; rw [x]; exact Or.inr HH.out.tags.2.1
  have HS4 : Hid (∀ W', Quiet W W' -> (fun w' => w'.cell? ⟨sb, 1, none⟩ = some (ptrV bb) /\ w'.cell? ⟨sb, 0, none⟩ = some (ptrV lb) /\ w'.cell? ⟨r4, 0, none⟩ = some (.int .u64 (t.id : Int))) W') := fun W' hq => by
   have ho := HOW.out.trans' hq (fun k _ x => x.elim)
   have b4 := hq.get (HL.out.only.get HB4.out (fun x => by have := HBIG.out r4 HR6.out.2.1; have := HPB.out; have := HR6.out; rcases x with x | x <;> omega)) (fun x => x)
   have t1 := HH.out.tags.1
   have c := HH.out.cells
   exact ⟨ho.cell c.2.1 (fun x => by have := HBW.out _ x; dsimp only at this; omega), ho.cell c.1 (fun x => by have := HBW.out _ x; dsimp only at this; omega), (Z0h b4).1⟩
  have HKEEP : Hid (∀ W', Quiet W W' -> Calls Tryz.prog 57 #[ptrV bb, ptrV lb, .int .u64 (t.id : Int)] W' (Z5N W' (ZQ s.L t.id s.I))) := fun W' hq => by
   have ho := HOW.out.trans' hq (fun k _ x => x.elim)
   have hbk := Z2M HH.out.book ho (Z0y.refl) (by omega) (fun k x => by have := HBW.out _ x; omega)
   have hlg := Z46 HH.out.log ho (Z0y.refl) (by omega) (fun k x => by have := HBW.out _ x; omega)
   exact Za9 hbk hlg HI.out
  obtain ⟨o1, ho1⟩ : ∃ o1, grow o wb.heap.size W.heap.size (10 + 2 * t.id) = o1 := ⟨_, rfl⟩
  have hst := (HH.out.quietly HQ0.out).setHeap (id := t.id) HF.out HL.out.only HL.out.pool (HL.out.heap.mono (fun k x => by rcases x with x | x; exact Or.inl x; exact Or.inr x.1))
  rw [ho1] at hst
  have HST := zh hst
  have HO1 : Hid ((∀ k, k < wb.heap.size -> o1 k = o k) /\ o1 pt = 10 + 2 * t.id) := ⟨fun k hk => by rw [<- ho1]; exact Z0s hk, by rw [<- ho1]; exact Z2h HL.out.new (Z2 HL.out.box)⟩
  obtain ⟨z0, z1⟩ := zC2 HL.out.box
  clear z0 z1 hst ho1
  go_wp2_with fail
  refine zH HS4 ((Z0.refl _ _).drew) (fun Z3 => ?_)
  have q6 : Quiet W W.drew := (Z0.refl _ _).drew
  generalize W.drew = d6 at q6 Z3 ⊢
  refine zT 0 ?_
  refine zT 1 ?_
  refine zT 2 ?_
  refine zT 3 ?_
  refine zT 4 ?_
  refine zT 5 ?_
  refine zT 6 ?_
  refine zT 7 ?_
  refine zT 8 ?_
  refine zT 9 ?_
  refine zT 12 ?_
  refine zR 10 ?_
  intro K hK
  go_simp
  go_at_call 57
  refine (HKEEP.out _ q6).mono ?_
  rintro e d7 ⟨vk, rfl, hkw⟩
  obtain ⟨Ak, ck, rfl, hck, hmk, hrk⟩ := Z9 hkw.own
  have q7 := q6.trans hkw.quiet
  dsimp only
  refine hK.out _ _ ?_ (fun Z3 => ?_)
  ·exact HS4.out _ q7
  clear hK K
  (try simp only [Act.put, zPA, zPZ, zPS])
  refine zT 11 ?_
  refine zD ?_
  obtain ⟨kl, hkl⟩ : ∃ kl, ZQ s.L t.id s.I = kl := ⟨_, rfl⟩
  rw [hkl] at hkw hck hrk
  rw [hkl]
  obtain ⟨m, hm⟩ : ∃ m, kl.length = m := ⟨_, rfl⟩
  rw [hm] at hck hrk
  rw [hm]
  have HKL := zh hkl
  have HM := zh hm
  have hm2 : m <= 1000 := by
   rw [<- hm, <- hkl]
   exact Nat.le_trans (List.length_filter_le _ _) HI.out
  have HQ7 : Hid (Quiet W d7) := q7
  have HNK : Hid (∀ k, (Value.slice Ak m ck).ownBlock = some k -> W.heap.size <= k) := fun k e => by
   have := hkw.new k (by rw [hm]; exact e)
   have := q6.size
   omega
  have HRK := zh hrk
  have HRD7 := zh (HST.out.quietly q7)
  have B4 := HQ7.out.get (HL.out.only.get HB4.out (fun x => by have := HBIG.out r4 HR6.out.2.1; have := HPB.out; have := HR6.out; rcases x with x | x <;> omega)) (fun x => x)
  have B5 := HQ7.out.get (HL.out.only.get HB5.out (fun x => by have := HBIG.out r5 HR6.out.2.2; have := HPB.out; have := HR6.out; rcases x with x | x <;> omega)) (fun x => x)
  have B6 := HQ7.out.get (HL.out.only.get HB6.out (fun x => by have := HBIG.out r6 HR6.out.1; have := HPB.out; have := HR6.out; rcases x with x | x <;> omega)) (fun x => x)
  have BP := HQ7.out.get HL.out.box (fun x => x)
  have O4 : o1 r4 = 0 := by rw [HO1.out.1 r4 (Z2 HB4.out)]; exact HBIG.out r4 HR6.out.2.1
  have O5 : o1 r5 = 0 := by rw [HO1.out.1 r5 (Z2 HB5.out)]; exact HBIG.out r5 HR6.out.2.2
  have O6 : o1 r6 = 0 := by rw [HO1.out.1 r6 (Z2 HB6.out)]; exact HBIG.out r6 HR6.out.1
  have HB := zh (And.intro B4 (And.intro B5 (And.intro B6 BP)))
  have HO := zh (And.intro O4 (And.intro O5 O6))
  have HCRW : Hid (Rd d7 (fun k => o1 k = 0) 2 A2 t.cols.length (ZP t.cols) /\ Rd d7 (fun k => o1 k = 0) 1 A 9 (Zg (rowI n))) := by
   have g1 : ∀ k, o k = 0 /\ k < w.heap.size -> o1 k = 0 := fun k hk => by rw [HO1.out.1 k (Nat.lt_of_lt_of_le hk.2 HQ0.out.size)]; exact hk.1
   have g2 : ∀ (size : Nat) (A : Option Addr) (l : Nat) (xs : List Value), Rd w (fun k => o k = 0) size A l xs -> Rd d7 (fun k => o1 k = 0) size A l xs := fun size A l xs h => by
    refine (((Z71 h).kept HOW.out (fun k hk x => by have := HBW.out k x; have := hk.1; omega)).kept HQ7.out (fun _ _ x => x)).mono g1
   exact ⟨g2 _ _ _ _ (HCR.out.mono HSC.out), g2 _ _ _ _ (HD.out.mono HSD.out)⟩
  have hcol : t.cols.length = 1 := by rw [HCC.out.1]; rfl
  clear hkw hck hmk hrk q6 q7 Z3 hkl hm B4 B5 B6 BP O4 O5 O6 HS4 HKEEP hcol
  go_wp2_with fail
  go_loopw [40, 11] (fun i _ wr => ∃ (k : Nat) (o' : Nat -> Nat), k <= m /\ i = .int .i64 (k : Int) /\ Zh wr sb o' { s with left := left', hs := upd s.hs t.id (some H'), ts := Z2A ⟨ZN n, p, q⟩ s.ts (kl.take k) } lb bb pb mh mt ms fh ft fs /\ (∀ j, j < d7.heap.size -> o' j = o1 j) /\ Z0 (fun j => ∃ i, o1 j = 11 + 2 * i) d7 wr) (fun i _ _ => m - (intOf i).toNat)
  case atStart => exact ⟨0, o1, Nat.zero_le _, rfl, HRD7.out, fun _ _ => rfl, Z0.refl _ _⟩
  case round =>
   obtain ⟨k, o', hk, rfl, hR, hO', hT⟩ := hrel
   have HR := zh hR
   have HO' := zh hO'
   have HT := zh hT
   clear hR hO' hT
   by_cases hlt : k < m
   ·obtain ⟨x, hx⟩ : ∃ x, kl[k]? = some x := ⟨_, zg (by have := HM.out; omega)⟩
    have hxm : x ∈ ZQ s.L t.id s.I := by rw [HKL.out]; exact List.mem_of_getElem? hx
    obtain ⟨hx0, hxu, es, hes, hel⟩ := HKX.out.1 x hxm
    have hts : Z2A ⟨ZN n, p, q⟩ s.ts (kl.take k) x.id = some es := by
     have hnd := HKX.out.2
     rw [HKL.out] at hnd
     rw [ZcG (ZhA hnd hx)]
     exact hes
    obtain ⟨tb, hft, htr⟩ := HR.out.trees.2 x.id es hts
    have hrk := HRK.out.kept HT.out (fun j hj hx => by
      obtain ⟨i, hi⟩ := hx
      have := HST.out.big j (HNK.out j hj)
      omega)
    obtain ⟨bk, ofk, rfl, _, hck⟩ := hrk.cells (by rw [Z5d]; have := HM.out; omega)
    obtain ⟨i0, i1, i2, i3, i4, i5⟩ := Z7O kl k x hx
    have y0 := hck _ _ i0
    have y1 := hck _ _ i1
    have y2 := hck _ _ i2
    have y3 := hck _ _ i3
    have y4 := hck _ _ i4
    have y5 := hck _ _ i5
    rw [<- Nat.add_assoc] at y1 y2 y3 y4 y5
    have ly := Ze y0
    dsimp only at ly
    have HX := zh hx
    have HXU := zh hxu
    have HTS := zh hts
    have HFT := zh hft
    have HTR := zh htr
    have HEL := zh hel
    have HX0 := zh hx0
    rw [hx0] at y3
    have y3' : wr.cell? ⟨bk, ofk + k * 6 + 3, none⟩ = some (.int .i64 0) := y3
    have hqx : Quiet wr (wr.alloc (.cells #[.int .u64 (x.id : Int), .string x.name, .int .u64 (x.table : Int), .int .i64 0, .int .u64 (x.xmin : Int), .int .u64 (x.xmax : Int)] 92)) := (Z0.refl _ _).alloc _
    have hxb := Z5 wr (.cells #[.int .u64 (x.id : Int), .string x.name, .int .u64 (x.table : Int), .int .i64 0, .int .u64 (x.xmin : Int), .int .u64 (x.xmax : Int)] 92)
    have HZX := zh (HR.out.big wr.heap.size (Nat.le_refl _))
    obtain ⟨xb, hxb_⟩ : ∃ xb, wr.heap.size = xb := ⟨_, rfl⟩
    rw [hxb_] at hxb HZX
    have HXE := zh hxb_
    clear hx hxu hes hel hts hft htr hrk hck i0 i1 i2 i3 i4 i5 y3 hxm hx0 hxb_
    go_wp2_with fail
    rw [HXE.out]
    generalize wr.alloc (.cells #[.int .u64 (x.id : Int), .string x.name, .int .u64 (x.table : Int), .int .i64 0, .int .u64 (x.xmin : Int), .int .u64 (x.xmax : Int)] 92) = wx at *
    have HXB := zh hxb
    have HQX := zh hqx
    have HTX : Hid (Z0 (fun j => ∃ i, o1 j = 11 + 2 * i) d7 wx) := HT.out.trans' hqx (fun _ _ x => x.elim)
    have HRX := zh (HR.out.quietly hqx)
    clear y0 y1 y2 y3' y4 y5 ly hxb hqx
    have HS7 : Hid (∀ W', Z0 (fun k => ∃ i, o' k = 11 + 2 * i) wx W' -> (fun w' => w'.cell? ⟨sb, 4, none⟩ = some (.map (some mt)) /\ w'.cell? ⟨xb, 0, none⟩ = some (.int .u64 (x.id : Int)) /\ w'.cell? ⟨xb, 3, none⟩ = some (.int .i64 (0 : Int)) /\ w'.cell? ⟨r4, 0, none⟩ = some (.int .u64 (t.id : Int)) /\ w'.cell? ⟨r4, 1, none⟩ = some (.string t.name) /\ w'.cell? ⟨r4, 2, none⟩ = some (.slice A2 t.cols.length c2) /\ w'.cell? ⟨r4, 3, none⟩ = some (.int .u64 (t.xmin : Int)) /\ w'.cell? ⟨r4, 4, none⟩ = some (.int .u64 (t.xmax : Int)) /\ w'.cell? ⟨r5, 0, none⟩ = some (.int .u64 v.row) /\ w'.cell? ⟨r5, 1, none⟩ = some (.int .u64 v.xmin) /\ w'.cell? ⟨r5, 2, none⟩ = some (.int .u64 v.xmax) /\ w'.cell? ⟨r5, 3, none⟩ = some (.int .i64 v.pg) /\ w'.cell? ⟨r5, 4, none⟩ = some (.int .i64 v.sl) /\ w'.cell? ⟨r5, 5, none⟩ = some (.slice A v.data.length cd) /\ w'.cell? ⟨pt, 0, none⟩ = some (.int .i64 p) /\ w'.cell? ⟨pt, 1, none⟩ = some (.int .i64 q) /\ (Instr.lookup 75 (.map (some mt)) (.int .u64 (x.id : Int)) false).run Tryz.prog w' = .ok (ptrV tb) w') W') := fun W' ho => by
     have tg := HRX.out.tags
     have c4 := ho.cell HRX.out.cells.2.2.2.2.1 (fun e => by obtain ⟨i, hi⟩ := e; (try dsimp only at hi); omega)
     have bx := ho.get HXB.out (fun e => by obtain ⟨i, hi⟩ := e; (try dsimp only at hi); have := HZX.out; omega)
     have nd : ∀ r, r < d7.heap.size -> (∀ i, o1 r ≠ 11 + 2 * i) -> ¬ (∃ i, o' r = 11 + 2 * i) := fun r hr hn e => by
      obtain ⟨i, hi⟩ := e
      rw [HO'.out r hr] at hi
      exact hn i hi
     have b4 := Z0h (ho.get (HTX.out.get HB.out.1 (fun e => by obtain ⟨i, hi⟩ := e; have := HO.out.1; omega)) (nd r4 (Z2 HB.out.1) (fun i hi => by have := HO.out.1; omega)))
     have b5 := ho.get (HTX.out.get HB.out.2.1 (fun e => by obtain ⟨i, hi⟩ := e; have := HO.out.2.1; omega)) (nd r5 (Z2 HB.out.2.1) (fun i hi => by have := HO.out.2.1; omega))
     have bp := ho.get (HTX.out.get HB.out.2.2.2 (fun e => by obtain ⟨i, hi⟩ := e; have := HO1.out.2; omega)) (nd pt (Z2 HB.out.2.2.2) (fun i hi => by have := HO1.out.2; omega))
     have hmt := HRX.out.mT.kept ho (fun e => by obtain ⟨i, hi⟩ := e; omega)
     exact ⟨c4, by rw [Z1 bx]; rfl, by rw [Z1 bx]; rfl, b4.1, b4.2.1, b4.2.2.1, b4.2.2.2.1, b4.2.2.2.2, by rw [Z1 b5]; rfl, by rw [Z1 b5]; rfl, by rw [Z1 b5]; rfl, by rw [Z1 b5]; rfl, by rw [Z1 b5]; rfl, by rw [Z1 b5]; rfl, by rw [Z1 bp]; rfl, by rw [Z1 bp]; rfl, Z6A hmt HFT.out HXU.out⟩
    have HKEY : Hid (∀ W', Quiet wx W' -> Calls Tryz.prog 41 #[.agg #[.int .u64 (t.id : Int), .string t.name, .slice A2 t.cols.length c2, .int .u64 (t.xmin : Int), .int .u64 (t.xmax : Int)], .agg #[.int .u64 v.row, .int .u64 v.xmin, .int .u64 v.xmax, .int .i64 v.pg, .int .i64 v.sl, .slice A v.data.length cd], .int .i64 0] W' (Z33 W' (ZN n))) := fun W' hq => by
     have g := HTX.out.trans' hq (fun _ _ x => x.elim)
     exact Zaa (v := v) HCC.out.1 (HCRW.out.1.kept g (fun k hk e => by obtain ⟨i, hi⟩ := e; omega)) HCC.out.2.1 HCC.out.2.2 HN.out HDAT.out (HCRW.out.2.kept g (fun k hk e => by obtain ⟨i, hi⟩ := e; omega)) HCD.out.1 HCD.out.2
    have HTIN : Hid (∀ W', Quiet wx W' -> ∀ A9 c9 (S9 : Nat -> Prop), Rd W' S9 1 A9 (ZN n).length (Zg (ZN n)) -> Calls Tryz.prog 40 #[ptrV tb, .agg #[.slice A9 (ZN n).length c9, .int .i64 p, .int .i64 q]] W' (fun e w' => (∃ z : Int, e = .returned (.int .i64 z)) /\ Z0 (fun k => o' k = 11 + 2 * x.id) W' w' /\ Z08 w' (fun k => o' k = 11 + 2 * x.id ∨ W'.heap.size <= k) tb (Z1j ⟨ZN n, p, q⟩ es))) := fun W' hq A9 c9 S9 hr => by
     refine (Z7k W' (fun k => o' k = 11 + 2 * x.id) tb es ⟨ZN n, p, q⟩ A9 c9 S9 ((HTR.out.kept HQX.out (fun _ _ x => x)).kept hq (fun _ _ x => x)) hr (Z8F HN.out) (by show (ZN n).length <= 600; rw [Z7m]; omega) HEL.out).mono ?_
     intro e w' hp
     unfold Z1j
     rcases hp with ⟨h1, h2, h3, h4⟩ | ⟨h1, h2, h3, h4⟩
     ·rw [if_pos h1]; exact ⟨⟨_, h2⟩, h3, h4⟩
     ·rw [if_neg h1]; exact ⟨⟨_, h2⟩, h3, h4⟩
    refine zH HS7 ((Z0.refl _ _).drew) (fun Z3 => ?_)
    have q8 : Quiet wx wx.drew := (Z0.refl _ _).drew
    generalize wx.drew = d8 at q8 Z3 ⊢
    refine zT 0 ?_
    refine zT 1 ?_
    refine zT 2 ?_
    refine zT 3 ?_
    refine zT 4 ?_
    refine zT 5 ?_
    refine zT 6 ?_
    refine zT 7 ?_
    refine zT 8 ?_
    refine zT 9 ?_
    refine zT 10 ?_
    refine zT 12 ?_
    refine zR 11 ?_
    intro K hK
    go_simp
    go_at_call 41
    refine (HKEY.out _ q8).mono ?_
    rintro e d9 ⟨v9, rfl, hf9⟩
    obtain ⟨A9, c9, rfl, hc9, hm9, hrd9⟩ := Z9 hf9.own
    have q9 := q8.trans hf9.quiet
    dsimp only
    refine hK.out _ _ ?_ (fun Z3 => ?_)
    ·exact HS7.out _ (q9.mono (fun _ _ x => x.elim))
    clear hK K
    (try simp only [Act.put, zPA, zPZ, zPS])
    refine zT 13 ?_
    refine zR 14 ?_
    intro K hK
    go_simp
    go_at_call 40
    refine (HTIN.out _ q9 A9 c9 _ (by exact hrd9)).mono ?_
    rintro e d10 ⟨⟨ze, rfl⟩, ho10, ht10⟩
    dsimp only
    refine hK.out _ _ ?_ (fun Z3 => ?_)
    ·exact HS7.out _ ((q9.mono (T := fun k => ∃ i, o' k = 11 + 2 * i) (fun _ _ x => x.elim)).trans (ho10.mono (fun k _ hh => ⟨x.id, hh⟩)))
    clear hK K
    (try simp only [Act.put, zPA, zPZ, zPS])
    refine zD ?_
    have HN9 : Hid (Zh d10 sb (grow o' d9.heap.size d10.heap.size (11 + 2 * x.id)) { s with left := left', hs := upd s.hs t.id (some H'), ts := Z2A ⟨ZN n, p, q⟩ s.ts (kl.take (k + 1)) } lb bb pb mh mt ms fh ft fs) := by
     have h1 := (HRX.out.quietly q9).setTree HFT.out ho10 ht10
     have e1 : Z2A ⟨ZN n, p, q⟩ s.ts (kl.take (k + 1)) = upd (Z2A ⟨ZN n, p, q⟩ s.ts (kl.take k)) x.id (some (Z1j ⟨ZN n, p, q⟩ es)) := by
      rw [List.take_add_one, HX.out, Option.toList_some, Zev, HTS.out]
      rfl
     show Zh d10 sb _ _ lb bb pb mh mt ms fh ft fs
     rw [e1]
     exact h1
    have hz9 := q9.size
    have hzx := HQX.out.size
    have hzr := HT.out.size
    have HOO : Hid (∀ j, j < d7.heap.size -> grow o' d9.heap.size d10.heap.size (11 + 2 * x.id) j = o1 j) := fun j hj => by
     rw [Z0s (by omega)]
     exact HO'.out j hj
    have HTT : Hid (Z0 (fun j => ∃ i, o1 j = 11 + 2 * i) d7 d10) := (HTX.out.trans' q9 (fun _ _ x => x.elim)).trans' ho10 (fun j hj e => ⟨x.id, by rw [<- HO'.out j hj]; exact e⟩)
    clear Z3 q8 q9 ho10 ht10 hf9 hc9 hm9 hrd9 HS7 HKEY HTIN hz9 hzx hzr
    go_wp2
    go_roundw
    case rel => exact ⟨k + 1, _, by omega, by go_num, HN9.out, HOO.out, HTT.out⟩
    case measure => simp [intOf]; omega
   ·obtain rfl : m = k := by omega
    have bp := HT.out.get HB.out.2.2.2 (fun e => by obtain ⟨i, hi⟩ := e; have := HO1.out.2; omega)
    have b6 := HT.out.get HB.out.2.2.1 (fun e => by obtain ⟨i, hi⟩ := e; have := HO.out.2.2; omega)
    obtain ⟨z0, z1⟩ := zC2 bp
    obtain ⟨y0, y1⟩ := zC2 b6
    have yf := fun o => Z7 b6 o
    have hlp := Z2 bp
    have hlr := Z2 b6
    have hnr : pt ≠ r6 := fun e => by have := HL.out.new; have := Z2 HB6.out; omega
    have HX : Hid (((wr.setCell ⟨r6, 0, none⟩ (.int .i64 p)).setCell ⟨r6, 1, none⟩ (.int .i64 q)).heap[r6]? = some (.cells #[.int .i64 p, .int .i64 q] 48 (0, 0))) := Z3x b6 _ _
    have HPO : Hid (Z4p w sb o (putSx s t.id H' left' ⟨ZN n, p, q⟩) p q (.returned (.tuple #[.agg #[.int .i64 p, .int .i64 q], .int .i64 0])) ((wr.setCell ⟨r6, 0, none⟩ (.int .i64 p)).setCell ⟨r6, 1, none⟩ (.int .i64 q))) := by
     have h2 := Z2U wr r6 (.int .i64 p) (.int .i64 q)
     have hl6 := Z2 HB6.out
     have hzw := HL.out.only.size
     have hz7 := HQ7.out.size
     have o6 : o' r6 = 0 := by rw [HO'.out r6 (by omega)]; exact HO.out.2.2
     have hst := HR.out.kept h2 (fun k e => by rw [e]; exact o6)
     rw [List.take_of_length_le (by have := HM.out; omega), <- HKL.out] at hst
     have hz0 := HQ0.out.size
     refine ⟨rfl, o', fun k hk => ?_, ?_, _, _, _, _, _, _, _, _, _, hst⟩
     ·rw [HO'.out k (by omega)]
      exact HO1.out.1 k (by omega)
     ·refine ((((HOW.out.mono (T := fun k => o k ≠ 0) (fun k _ x => by have := HBW.out k x; omega)).trans' HQ7.out (fun _ _ x => x.elim)).trans' HT.out (fun k hk e => ?_)).trans' h2 (fun k hk e => by have := HR6.out.1; omega))
      obtain ⟨i, hi⟩ := e
      rw [HO1.out.1 k (by omega)] at hi
      omega
    clear bp b6
    go_wp2
    exact bodyPost_ret (ZC Tryz.results45 _ _ r6 _ _ (0, 0) _ (by rfl) HX.out Tryz.underlying48 rfl Z4v) (by rfl) HPO.out
structure Z6K (s : St) (id : Nat) : Prop where
 few : s.I.length <= 1000
 each : ∀ e ∈ ZQ s.L id s.I, e.column = 0 /\ U64 e.id /\ ∃ es, s.ts e.id = some es /\ es.length <= 10000
 nd : ((ZQ s.L id s.I).map (fun e => e.id)).Nodup
theorem ZaH {w : World} {sb x i c3 n left' : Nat} {o : Nat -> Nat} {s : St} {y : Zo} {t : TE} {name nm : ByteArray} {Sv : Nat -> Prop} {A3 : Option Addr} {H H' : List (List (Option Tup))} {p q : Int} (h : Zm w sb o s) (hx : U64 x) (hy : s.sn x = some y) (hf : Z0w s.L y name s.T = some i) (ht : s.T[i]? = some t) (hc : t.cols = [(nm, 1)]) (hid : U64 t.id)
  (hk : Z6K s t.id) (hH : s.hs t.id = some H) (hle : H.length + s.left <= 256) (hn : n < 256) (hv : Rd w Sv 4 A3 1 (intRow n)) (hc3 : 1 <= c3) (hm3 : c3 <= maxLen) (hlast : s.last + 1 < 18446744073709551616) (hins : Z12 H s.left ⟨s.last + 1, x, 0, -1, -1, rowI n⟩ = ((p, q, 0), H', left')) :
  Calls Tryz.prog 12 #[ptrV sb, .int .u64 (x : Int), .string name, .slice A3 1 c3] w (Z4D w sb o { putSx s t.id H' left' ⟨ZN n, p, q⟩ with last := s.last + 1 }) :=
 Z8A (s1 := putSx s t.id H' left' ⟨ZN n, p, q⟩) h hx hy hf ht hc hn hv hc3 hm3 hlast rfl (fun W A2 c2 A5 c5 hq hr2 h2 m2 hd h9 m9 =>
   Zab (v := ⟨s.last + 1, x, 0, -1, -1, rowI n⟩) (cd := c5) (A2 := A2) (c2 := c2) (h.quietly hq) hk.few hid hH hle hc hr2 (fun k e => h.big k e) h2 m2 hn rfl h9 m9 hd (fun k e => h.big k e) hins hk.each hk.nd)
theorem ZaI {w : World} {sb x i c3 n left' nr cr code : Nat} {o : Nat -> Nat} {s : St} {y : Zo} {t : TE} {name nm : ByteArray} {Sv : Nat -> Prop} {A3 Ar : Option Addr} {H H1 H2 : List (List (Option Tup))} {p q pg sl z : Int} {v : Tup} (h : Zm w sb o s) (hx : U64 x) (hy : s.sn x = some y) (hf : Z0w s.L y name s.T = some i) (ht : s.T[i]? = some t) (hc : t.cols = [(nm, 1)]) (hid : U64 t.id)
  (hk : Z6K s t.id) (hH : s.hs t.id = some H) (hle : H.length + s.left <= 256) (hn : n < 256) (hv : Rd w Sv 4 A3 1 (intRow n)) (hc3 : 1 <= c3) (hm3 : c3 <= maxLen) (hg : ZR H pg sl = some v) (hx1 : U64 v.xmin) (hx2 : U64 v.xmax) (hcode : freeS s.L y v.xmin v.xmax = code)
  (hins : code = 0 -> Z12 H s.left ⟨v.row, x, 0, -1, -1, rowI n⟩ = ((p, q, 0), H1, left')) (hst : Z22 H1 pg sl x p q = (z, H2)) :
  Calls Tryz.prog 15 #[ptrV sb, .int .u64 (x : Int), .string name, .agg #[.int .u64 v.row, .int .i64 pg, .int .i64 sl, .slice Ar nr cr], .slice A3 1 c3] w (Z4r w sb o s (putSx s t.id H2 left' ⟨ZN n, p, q⟩) code z) := by
 have e1 : ({ putSx s t.id H1 left' ⟨ZN n, p, q⟩ with hs := upd (putSx s t.id H1 left' ⟨ZN n, p, q⟩).hs t.id (some H2) } : St) = putSx s t.id H2 left' ⟨ZN n, p, q⟩ := by
  simp only [putSx, Z4q]
 rw [<- e1]
 exact Z8B (s1 := putSx s t.id H1 left' ⟨ZN n, p, q⟩) h hx hy hf ht hc hid hH hn hv hc3 hm3 hg hx1 hx2 hcode (by simp [putSx, upd]) hst (fun hz W A2 c2 A5 c5 hq hr2 h2 m2 hd h9 m9 =>
   Zab (v := ⟨v.row, x, 0, -1, -1, rowI n⟩) (cd := c5) (A2 := A2) (c2 := c2) (h.quietly hq) hk.few hid hH hle hc hr2 (fun k e => h.big k e) h2 m2 hn rfl h9 m9 hd (fun k e => h.big k e) (hins hz) hk.each hk.nd)
section
variable {w0 w : World} {sb : Nat} {K : Nat -> Prop} {s : St}
theorem Z7n {x i c3 n left' : Nat} {y : Zo} {t : TE} {name nm : ByteArray} {Sv : Nat -> Prop} {A3 : Option Addr} {H H' : List (List (Option Tup))} {p q : Int} (h : Zz w0 w sb K s) (hx : U64 x) (hy : s.sn x = some y) (hf : Z0w s.L y name s.T = some i) (ht : s.T[i]? = some t) (hc : t.cols = [(nm, 1)]) (hid : U64 t.id)
  (hk : Z6K s t.id) (hH : s.hs t.id = some H) (hle : H.length + s.left <= 256) (hn : n < 256) (hv : Rd w Sv 4 A3 1 (intRow n)) (hc3 : 1 <= c3) (hm3 : c3 <= maxLen) (hlast : s.last + 1 < 18446744073709551616) (hins : Z12 H s.left ⟨s.last + 1, x, 0, -1, -1, rowI n⟩ = ((p, q, 0), H', left')) :
  Calls Tryz.prog 12 #[ptrV sb, .int .u64 (x : Int), .string name, .slice A3 1 c3] w fun e w' => e = .returned (.int .i64 0) /\ Z0L w0 w sb K { putSx s t.id H' left' ⟨ZN n, p, q⟩ with last := s.last + 1 } w' := by
 obtain ⟨o, h1, h2, h3, h4⟩ := h
 refine (ZaH h1 hx hy hf ht hc hid hk hH hle hn hv hc3 hm3 hlast hins).mono ?_
 rintro e w' ⟨rfl, hst⟩
 exact ⟨rfl, Z13 h1 h2 h3 h4 hst⟩
theorem Z7o {x i c3 n left' nr cr code : Nat} {y : Zo} {t : TE} {name nm : ByteArray} {Sv : Nat -> Prop} {A3 Ar : Option Addr} {H H1 H2 : List (List (Option Tup))} {p q pg sl z : Int} {v : Tup} (h : Zz w0 w sb K s) (hx : U64 x) (hy : s.sn x = some y) (hf : Z0w s.L y name s.T = some i) (ht : s.T[i]? = some t) (hc : t.cols = [(nm, 1)]) (hid : U64 t.id)
  (hk : Z6K s t.id) (hH : s.hs t.id = some H) (hle : H.length + s.left <= 256) (hn : n < 256) (hv : Rd w Sv 4 A3 1 (intRow n)) (hc3 : 1 <= c3) (hm3 : c3 <= maxLen) (hg : ZR H pg sl = some v) (hx1 : U64 v.xmin) (hx2 : U64 v.xmax) (hcode : freeS s.L y v.xmin v.xmax = code)
  (hins : code = 0 -> Z12 H s.left ⟨v.row, x, 0, -1, -1, rowI n⟩ = ((p, q, 0), H1, left')) (hst : Z22 H1 pg sl x p q = (z, H2)) :
  Calls Tryz.prog 15 #[ptrV sb, .int .u64 (x : Int), .string name, .agg #[.int .u64 v.row, .int .i64 pg, .int .i64 sl, .slice Ar nr cr], .slice A3 1 c3] w fun e w' => if code = 0 then e = .returned (.int .i64 z) /\ Z0L w0 w sb K (putSx s t.id H2 left' ⟨ZN n, p, q⟩) w' else e = .returned (.int .i64 (code : Int)) /\ Z0L w0 w sb K s w' := by
 obtain ⟨o, h1, h2, h3, h4⟩ := h
 refine (ZaI h1 hx hy hf ht hc hid hk hH hle hn hv hc3 hm3 hg hx1 hx2 hcode hins hst).mono ?_
 intro e w' hp
 unfold Z4r at hp
 split at hp
 ·rename_i hz
  rw [if_pos hz]
  exact ⟨hp.1, Z13 h1 h2 h3 h4 hp.2⟩
 ·rename_i hz
  rw [if_neg hz]
  exact ⟨hp.1, Z13 h1 h2 h3 h4 hp.2⟩
end
section
variable {w0 w : World} {sb : Nat} {K : Nat -> Prop} {s : St}
end
def idxA : IE := ⟨2, ⟨#[105]⟩, 1, 0, 1, 0⟩
def tsE : Option (List Ent) -> Nat -> Option (List Ent)
 | none => fun _ => none
 | some es => upd (fun _ => none) 2 (some es)
def ixE : Option (List Ent) -> List IE
 | none => []
 | some _ => [idxA]
def blE : Option (List Ent) -> Nat
 | none => 1
 | some _ => 2
def stE (H : List (List (Option Tup))) (left last : Nat) (oi : Option (List Ent)) : St := ⟨[1], [tabA], ixE oi, blE oi, left, upd (fun _ => none) 1 (some H), tsE oi, upd (fun _ => none) 1 (some (ZT [1] 1)), last⟩
section
variable {H H' : List (List (Option Tup))} {left left' last i c : Nat} {oi : Option (List Ent)} {ent : Ent} {s : St}
theorem Z74 : putSx (stE H left last oi) tabA.id H' left' ent = stE H' left' last (oi.map (Z1j ent)) := by
 cases oi with
 | none =>
  show putSx (stE H left last none) 1 H' left' ent = _
  simp only [putSx, stE, Z4q]
  rfl
 | some es =>
  show putSx (stE H left last (some es)) 1 H' left' ent = _
  have e1 : ZQ (stE H left last (some es)).L 1 (stE H left last (some es)).I = [idxA] := rfl
  unfold putSx
  rw [e1]
  have e2 : Z2A ent (stE H left last (some es)).ts [idxA] = upd (fun _ => none) 2 (some (Z1j ent es)) := by
   show upd (upd (fun _ => none) 2 (some es)) 2 (some (Z1j ent es)) = _
   rw [Z4q]
  rw [e2]
  simp only [stE, Z4q]
  rfl
theorem Z5O (he : ∀ es, oi = some es -> es.length <= 10000) : Z6K (stE H left last oi) tabA.id := by
 cases oi with
 | none => exact ⟨by show 0 <= 1000; omega, (fun e he' => by cases he'), List.nodup_nil⟩
 | some es =>
  have e1 : ZQ (stE H left last (some es)).L tabA.id (stE H left last (some es)).I = [idxA] := rfl
  refine ⟨by show 1 <= 1000; omega, fun e h => ?_, by rw [e1]; simp⟩
  rw [e1, List.mem_singleton] at h
  subst h
  exact ⟨rfl, (by unfold U64; decide), es, rfl, he es rfl⟩
variable {w0 w : World} {sb : Nat} {K : Nat -> Prop}
theorem Z2c : Z0w [1] (ZT [1] 1) ⟨#[116]⟩ [tabA] = some 0 := Z8D (by decide)
end
theorem Zdg {α : Type _} {P : List α -> Prop} (h0 : P []) (h1 : ∀ l a, P l -> P (l ++ [a])) (l : List α) : P l := by
 have h : ∀ m : List α, P m.reverse := fun m => by
  induction m with
  | nil => exact h0
  | cons a m ih => rw [List.reverse_cons]; exact h1 _ _ ih
 have := h l.reverse
 rw [List.reverse_reverse] at this
 exact this
def Z1H (H : List (List (Option Tup))) (L : List Nat) (hz : Nat) (l : List (Int × Int)) : List Ent :=
 l.foldl (fun es a => match ZR H a.1 a.2 with | some v => if Z0v L v.xmin v.xmax hz then es else Z1j ⟨ZN (Z5K v.data), a.1, a.2⟩ es | none => es) []
theorem Z7p (H : List (List (Option Tup))) (L : List Nat) (hz : Nat) (l : List (Int × Int)) (a : Int × Int) : Z1H H L hz (l ++ [a]) = match ZR H a.1 a.2 with | some v => if Z0v L v.xmin v.xmax hz then Z1H H L hz l else Z1j ⟨ZN (Z5K v.data), a.1, a.2⟩ (Z1H H L hz l) | none => Z1H H L hz l := by
 unfold Z1H
 rw [List.foldl_append]
 rfl
theorem Zex (H : List (List (Option Tup))) (L : List Nat) (hz : Nat) (l : List (Int × Int)) : (Z1H H L hz l).length <= l.length := by
 refine Zdg (P := fun l => (Z1H H L hz l).length <= l.length) ?_ ?_ l
 ·exact Nat.le_refl _
 ·intro l a ih
  rw [Z7p, List.length_append]
  show _ <= l.length + 1
  split
  ·split
   ·omega
   ·unfold Z1j
    split
    ·omega
    ·rw [Z7i]; omega
  ·omega
end Go.Proofs.YtnidjfjkodingaaGreatDoor
namespace Go.Proofs.YtnidjfjkodingaaGreatDoor
open Go.RowKit Go.Lap Go.Maps Go.Sort Go.Shelf
abbrev SnapP := Zo × Option Addr × Nat
abbrev encP (p : SnapP) : Value := .agg #[.int .u64 (p.1.own : Int), .int .u64 (p.1.xmin : Int), .int .u64 (p.1.xmax : Int), .slice p.2.1 p.1.run.length p.2.2]
abbrev cellsP (p : SnapP) : List Value := [.int .u64 (p.1.own : Int), .int .u64 (p.1.xmin : Int), .int .u64 (p.1.xmax : Int), .slice p.2.1 p.1.run.length p.2.2]
theorem elem_snap : Z05 Tryz.prog 171 84 4 48 := Z05.mk' (.agg #[.int .u64 0, .int .u64 0, .int .u64 0, .slice none 0 0]) Tryz.underlying171 (by kernel_rfl) rfl (by decide)
abbrev boxP (w : World) (p : SnapP) : World := w.alloc (.cells #[.int .u64 (p.1.own : Int), .int .u64 (p.1.xmin : Int), .int .u64 (p.1.xmax : Int), .slice p.2.1 p.1.run.length p.2.2] 84)
theorem ZbI (w : World) (p : SnapP) : (boxP w p).heap[w.heap.size]? = some (.cells #[.int .u64 (p.1.own : Int), .int .u64 (p.1.xmin : Int), .int .u64 (p.1.xmax : Int), .slice p.2.1 p.1.run.length p.2.2] 84 (0, 0)) := Z5 w _
theorem Z8G (w : World) (p : SnapP) : Quiet w (boxP w p) := (Z0.refl (fun _ => False) w).alloc _
theorem Z8H (w : World) (p : SnapP) : KeepsWalks w (boxP w p) := KeepsWalks.alloc w _
theorem Z7P {w w' : World} (h : Quiet w w') (row : Option Nat) : w.grownBy w' row := ⟨h.os, h.tape, h.output, h.size, fun k hk _ => h.block k hk (fun x => x)⟩
theorem Zis (F : Fence) (n : Nat) (hf : F.fn 110) (hro : F.round = none) (hn : 1 <= n) (l Bm b nn : Nat) (D0 : DataW Value) (f : Nat -> Option Value)
  (hhas : ∀ kl, Maps.has D0 kl = true -> ∃ (x : Nat) (v : Value), kl = .int .u64 (x : Int) /\ f x = some v /\ ∀ z, D0.atKey kl z = .held v) (hall : ∀ (x : Nat) v, f x = some v -> Maps.has D0 (.int .u64 (x : Int)) = true) (hform : ∀ x v, f x = some v -> ∃ p : SnapP, v = encP p)
  (J : List SnapP -> World -> Prop)
  (hY : ∀ pre x W, J pre W -> pre.length < Maps.size D0 -> YieldAt F (n - 1) Tryz.prog l #[encP x] W fun e W' => e = .returned (.bool true) /\ J (pre ++ [x]) W' /\ KeepsWalks W W')
  (W : World) (hJ : AbidesFrom W.heap.size J) (hm : W.cell? ⟨Bm, 0, none⟩ = some (.map (some b))) (hown : W.ownsMap Tryz.prog 34 Z2P b nn D0) (h0 : J [] W) :
  CallsIn F n Tryz.prog 110 #[.func (.yield l) #[] #[], .pointer (some ⟨Bm, 0, none⟩)] W fun e W' => (∃ v, e = .returned v) /\ ∃ ps : List SnapP, (Z6L f (ps.map encP) /\ ps.length <= Maps.size D0) /\ J ps W' := by
 have HK : Keyed Tryz.prog 34 := int_keyed Tryz.underlying34
 refine callsIn_of_wp Tryz.func110 rfl hf ?_ hro
 simp only [Tryz.ntmps110, List.size_toArray, List.length_cons, List.length_nil, Nat.reduceAdd, Nat.reduceSub, Array.replicate_succ, Array.replicate_zero, List.push_toArray, List.append_toArray, List.nil_append, List.cons_append]
 gi_wp2_with (first
   | (gi_at_range; refine wpListIn_range_own _ rfl _ 76 rfl 34 84 HK Tryz.underlying76 _ b nn _ rfl hown ?_; intro w0 hrg0 hg0 hs0)
   | gi_in)
 go_frame
 gi_loopw [4] (fun _ wr => ∃ (left : Lit -> Bool) (cnt : Nat) (ps : List SnapP), wr.ranges Tryz.prog 34 Z2P b W.heap.size nn D0 left cnt /\ ps.length + cnt <= Maps.size D0 /\ Z3D f D0 left (ps.map encP) /\ J ps wr)
  (fun _ wr => wr.rangeLeft b W.heap.size)
 case atStart =>
  exact ⟨_, _, [], hrg0, by simp, ⟨fun v hv => by simp at hv, fun x v hx => Or.inl (hall x v hx), fun kl h => h⟩, hJ [] W w0 none h0 hg0 (fun r e => by cases e)⟩
 case round =>
  obtain ⟨left, cnt, ps, hrg, hcs, hC, hJs⟩ := hrel
  gi_wp2_with (first
    | (gi_at_next; refine wpListIn_next_ranges _ rfl _ rfl 34 HK Z2P id id (fun key kl hk => ⟨key, rfl⟩) (fun v _ _ => ⟨v, rfl⟩) b W.heap.size nn _ _ _ rfl hrg ?_ ?_)
    | gi_in)
  ·intro hc0 hl0
   gi_wp2
   go_end0
   exact ⟨⟨_, rfl⟩, ps, ⟨hC.done hl0, by omega⟩, hJs⟩
  ·intro x c kl yd yp w2 cnt2 hkey hlk hv hat hrg2 hlt hg2 hs2 hen
   obtain ⟨k, v, rfl, hfk, hatk⟩ := hhas kl (hC.has kl hlk)
   obtain ⟨p, rfl⟩ := hform k v hfk
   have hcv : c = encP p := by
    have e1 := hat yd
    rw [hatk] at e1
    have e2 : (DataW.held c, ([] : List MemPlace)) = (yd, yp) := Option.some.inj hv
    injection e2 with e2 _
    rw [<- e2] at e1
    injection e1 with e1
    exact e1.symm
   subst hcv
   have hJ1 : J ps w2 := hJ ps wr w2 (some W.heap.size) hJs hg2 (fun r e => by cases e; exact ⟨Nat.le_refl _, hrg.iter_walk⟩)
   have hJ2 : J ps (boxP w2 p) := hJ ps w2 _ none hJ1 (Z7P (Z8G w2 p) none) (fun r e => by cases e)
   have hrg5 := hrg2.of_walks (Z8H w2 p)
   obtain ⟨fn, tmps, assign, body, hy, hR⟩ := hY ps p _ hJ2 (by omega)
   have hC2 : Z3D f D0 (fun z => left z && !z.sameKey (.int .u64 (k : Int))) ((ps ++ [p]).map encP) := by
    rw [List.map_append]
    exact hC.step hfk
   have hbx := ZbI w2 p
   have b0 := Z1 hbx 0
   have b1 := Z1 hbx 1
   have b2 := Z1 hbx 2
   have b3 := Z1 hbx 3
   simp only [zGA, zGS, zGZ, cellsP] at b0 b1 b2 b3
   clear hs2 hbx
   gi_wp2
   refine hR.mono ?_
   rintro e W3 ⟨rfl, hJ3, hk3⟩
   gi_wp2
   have hrg3 := hrg5.of_walks hk3
   go_roundw
   case rel => exact ⟨_, cnt2, ps ++ [p], hrg3, by simp; omega, hC2, hJ3⟩
   case measure => rw [hrg3.left_eq, hrg.left_eq]; exact hlt
theorem Zg6 (w : World) (xs : List Value) (t : TypeId) : ∀ j u, xs[j]? = some u -> (w.alloc (.cells xs.toArray t)).cell? ((⟨w.heap.size, 0, none⟩ : Addr).add j) = some u := by
 intro j u hj
 rw [Zq, Nat.zero_add, Z1 (Z5 w _)]
 simpa using hj
theorem Zey (x : SnapP) : ∀ u ∈ cellsP x, u.oneCell' = true := by
 intro u hu
 simp [cellsP] at hu
 rcases hu with rfl | rfl | rfl | rfl <;> rfl
def Z7Q : Code := (Code.region 2 #[{ dst := some 5, op := Op.alloc 84, type := 0, pos := "iter.go:51", after := #[], guard := none }, { dst := none, op := Op.store 84 (Operand.tmp 5) (Operand.tmp 7), type := 0, pos := "iter.go:51", after := #[{ on := 0, ground := Ground.data }, { on := 0, ground := Ground.phase }], guard := none }] false)
def ZbJ : Code := (Code.block 1 (Code.region 3 #[{ dst := some 8, op := Op.load 171 (Operand.tmp 2), type := 171, pos := "iter.go:52", after := #[], guard := none }, { dst := some 9, op := Op.load 84 (Operand.tmp 5), type := 84, pos := "iter.go:52", after := #[], guard := none }, { dst := some 10, op := Op.buildSlice 171 1 #[(0, Operand.tmp 9)], type := 171, pos := "iter.go:52", after := #[{ on := 1, ground := Ground.data }], guard := none }, { dst := some 11, op := Op.call { callee := Callee.builtin Builtin.append, args := #[Operand.tmp 8, Operand.tmp 10], argTypes := #[171, 171] }, type := 171, pos := "iter.go:52", after := #[{ on := 0, ground := Ground.data }, { on := 2, ground := Ground.data }], guard := none }, { dst := none, op := Op.store 171 (Operand.tmp 2) (Operand.tmp 11), type := 0, pos := "iter.go:52", after := #[{ on := 3, ground := Ground.data }, { on := 3, ground := Ground.chain }, { on := 0, ground := Ground.phase }, { on := 1, ground := Ground.phase }, { on := 2, ground := Ground.phase }, { on := 3, ground := Ground.phase }], guard := none }] false))
def apRec (fn : FuncId) (sv : Value) (Bs D : Nat) (st : LoopState) (pend : Option Code) : Loop :=
 { state := st, pending := pend, fn, tmps := #[.slice none 0 0, sv, .pointer (some ⟨Bs, 0, none⟩), undef, .slice none 0 0, undef, sv, undef, undef, undef, undef, undef, undef], params := #[7], assign := Z7Q, body := ZbJ, defers := D }
structure Zcc (w0 : World) (fn : FuncId) (sv : Value) (Bs l D : Nat) (ss : List SnapP) (W : World) : Prop where
 box : ∃ v, W.heap[Bs]? = some (.cells #[v] 171 (0, 0)) /\ W.ownsRow w0.heap.size 84 4 v ss.length (ss.flatMap cellsP) /\ (v = .slice none 0 0 ↔ ss = [])
 L : W.heap[l]? = some (.loop (apRec fn sv Bs D .ready none))
 K : W.heap[D]? = some (.deferred (some []))
 below : Below w0.heap.size w0 W
theorem Zg7 (w0 : World) (fn : FuncId) (sv : Value) (Bs l D B : Nat) (hB : w0.heap.size <= B) : AbidesFrom B (Zcc w0 fn sv Bs l D) := fun s W W' row h hg hrow => by
 have hrow' : ∀ r, row = some r -> ∃ o : Obj, W.heap[r]? = some o /\ o.isWalk = true := fun r e => (hrow r e).2
 obtain ⟨v, hv, hr, hn⟩ := h.box
 exact ⟨⟨v, (grownBy_keeps hg hrow' hv rfl).trans hv, ownsRow_abides_a hr hg hrow', hn⟩, (grownBy_keeps hg hrow' h.L rfl).trans h.L, (grownBy_keeps hg hrow' h.K rfl).trans h.K,
   h.below.grown hg h.below.size (fun k e => Nat.le_trans hB (hrow k e).1)⟩
theorem Zit (F : Fence) (m : Nat) (w0 : World) (fn : FuncId) (hfn : F.fn fn) (sv : Value) (Bs l D : Nat) (hBl : Bs ≠ l) (hDl : D ≠ l) (hDB : D ≠ Bs) (h0B : w0.heap.size <= Bs) (h0l : w0.heap.size <= l)
  (N : Nat) (hN : N <= maxLen) (hNb : N * 48 <= 140737488355328) (ss : List SnapP) (x : SnapP) (W : World) (h : Zcc w0 fn sv Bs l D ss W) (hlen : ss.length < N) :
  YieldAt F m Tryz.prog l #[encP x] W fun e W' => e = .returned (.bool true) /\ Zcc w0 fn sv Bs l D (ss ++ [x]) W' /\ KeepsWalks W W' := by
 have hne : 171 ≠ 84 := by decide
 obtain ⟨i0, z0, ht0, hi, hz0, hz1, hz2, hz3, hz4⟩ := elem_snap.ex
 obtain ⟨v, hv, hrow, _⟩ := h.box
 refine ⟨fn, #[.slice none 0 0, sv, .pointer (some ⟨Bs, 0, none⟩), undef, .slice none 0 0, undef, sv, encP x, undef, undef, undef, undef, undef], Z7Q, ZbJ, by simpa [apRec] using run_yield (P := Tryz.prog) (args := #[encP x]) h.L rfl, roundIn_of_wpIn hfn ?_⟩
 unfold Z7Q
 gi_wp2_with gi_round_op_a
 have hq5 := Z8G W x
 have hbx := ZbI W x
 have hk5 := Z8H W x
 unfold boxP at hq5 hbx hk5
 generalize W.alloc (.cells #[.int .u64 (x.1.own : Int), .int .u64 (x.1.xmin : Int), .int .u64 (x.1.xmax : Int), .slice x.2.1 x.1.run.length x.2.2] 84) = W1 at *
 have hv1 := hq5.get hv (fun x => x)
 have hK1 := hq5.get h.K (fun x => x)
 have hL1 := hq5.get h.L (fun x => x)
 have hrow1 := hrow.kept (Z7P hq5 none) (Classical.em _)
 have hb1 := h.below.grown (Z7P hq5 none) h.below.size (fun k e => by cases e)
 have hlo : l < W.heap.size := (Array.getElem?_eq_some_iff.1 h.L).1
 have hl : l < W1.heap.size := (Array.getElem?_eq_some_iff.1 hL1).1
 have hbr := run_beginRound (P := Tryz.prog) hL1 rfl
 obtain ⟨W2, hW2⟩ : ∃ W2, W1.putObj l (.loop { apRec fn sv Bs D .ready none with state := .busy }) = W2 := ⟨_, rfl⟩
 rw [hW2] at hbr
 have hg2 : W1.grownBy W2 (some l) := by rw [<- hW2]; exact grownBy_putObj_a _ _ _
 have hk2 : KeepsWalks W W2 := hk5.trans (by rw [<- hW2]; exact KeepsWalks.putObj _ hL1 rfl)
 have hv2 : W2.heap[Bs]? = some (.cells #[v] 171 (0, 0)) := by rw [<- hW2]; exact (World.putObj_heap_other hBl).trans hv1
 have hK2 : W2.heap[D]? = some (.deferred (some [])) := by rw [<- hW2]; exact (World.putObj_heap_other hDl).trans hK1
 have hL2 : W2.heap[l]? = some (.loop { apRec fn sv Bs D .ready none with state := .busy }) := by rw [<- hW2]; exact World.putObj_heap_same hl
 have hx2 : W2.heap[W.heap.size]? = some (.cells #[.int .u64 (x.1.own : Int), .int .u64 (x.1.xmin : Int), .int .u64 (x.1.xmax : Int), .slice x.2.1 x.1.run.length x.2.2] 84 (0, 0)) := by rw [<- hW2]; exact (World.putObj_heap_other (by omega)).trans hbx
 have hrow2 : W2.ownsRow w0.heap.size 84 4 v ss.length (ss.flatMap cellsP) := hrow1.kept hg2 (ownsRow_ne_a hrow1 hL1 (fun cur e => by first | cases e | exact hne (Obj.cells.inj e).2.1))
 have hb2 : Below w0.heap.size w0 W2 := hb1.grown hg2 hb1.size (fun k e => by cases e; exact h0l)
 obtain ⟨b0, b1, b2, b3⟩ := zC4 hx2
 obtain ⟨hc2, hf2⟩ := cell_of_box_a hv2
 have hBlt : Bs < W2.heap.size := (Array.getElem?_eq_some_iff.1 hv2).1
 have hl2 : l < W2.heap.size := (Array.getElem?_eq_some_iff.1 hL2).1
 have hDlt : D < W2.heap.size := (Array.getElem?_eq_some_iff.1 hK2).1
 have ne_of : ∀ {j : Nat} {o : Obj}, W2.heap[j]? = some o -> (∀ cur, o ≠ .cells cur 84 (0, 0)) -> some j ≠ v.ownBlock := fun hj hno => by
  rcases ownsRow_ne_a hrow2 hj hno with e | e
  ·rw [e]; simp
  ·exact fun e' => e e'.symm
 clear hW2 hx2 hbx
 refine ⟨W2, hbr, ?_⟩
 unfold ZbJ
 gi_wp2_with (first
   | (gi_at_builtin; refine wpListIn_append_own _ rfl _ _ 171 rfl w0.heap.size 84 i0 z0 4 48 ht0 hi hz0 hz1 hz2 hz3 hz4 _ _ _ rfl (hrow2.alloc _) ⟨W2.heap.size, 0, none⟩ 1 1 (cellsP x) rfl rfl (Zg6 W2 (cellsP x) _) (Zey x) (by omega) (by omega) (by have := hb2.size; simp; omega) ?_; intro v' w3 hown' hg3 hnil3
      have hv3 : w3.heap[Bs]? = some (.cells #[v] 171 (0, 0)) := (hg3.block Bs (by simp; omega) (ne_of hv2 (fun cur e => by first | cases e | exact hne (Obj.cells.inj e).2.1))).trans ((Below.heap_alloc _ _ Bs hBlt).trans hv2)
      obtain ⟨hc3, hf3⟩ := cell_of_box_a hv3
      obtain ⟨g', cap', cur', rfl, hbase', hgb', hr1, hr2, hr3, hr4⟩ : ∃ g' cap' cur', v' = .slice (some ⟨g', 0, none⟩) (ss.length + 1) cap' /\ w0.heap.size <= g' /\ w3.heap[g']? = some (.cells cur' 84 (0, 0)) /\ ss.length + 1 <= cap' /\ cap' <= maxLen /\ cur'.size = cap' * 4 /\ cur'.toList.take ((ss.length + 1) * 4) = ss.flatMap cellsP ++ cellsP x := by
        rcases hown'.2 with ⟨_, h0⟩ | h'
        · exact absurd h0 (by omega)
        · exact h'
      go_frame)
   | gi_round_op_a)
 have hg3' : (W2.alloc (.cells (cellsP x).toArray 84)).grownBy w3 v.ownBlock := hg3
 have hL3 : w3.heap[l]? = some (.loop { apRec fn sv Bs D .ready none with state := .busy }) := (hg3'.block l (by simp; omega) (ne_of hL2 (fun cur e => by first | cases e | exact hne (Obj.cells.inj e).2.1))).trans ((Below.heap_alloc _ _ l hl2).trans hL2)
 have hK3 : w3.heap[D]? = some (.deferred (some [])) := (hg3'.block D (by simp; omega) (ne_of hK2 (fun cur e => by first | cases e | exact hne (Obj.cells.inj e).2.1))).trans ((Below.heap_alloc _ _ D hDlt).trans hK2)
 obtain ⟨w4, hw4⟩ : ∃ w4, w3.setCell ⟨Bs, 0, none⟩ (.slice (some ⟨g', 0, none⟩) (ss.length + 1) cap') = w4 := ⟨_, rfl⟩
 rw [hw4]
 have hg4 : w3.grownBy w4 (some Bs) := by rw [<- hw4]; exact grownBy_setCell0_a _ _ _
 have hv4 : w4.heap[Bs]? = some (.cells #[.slice (some ⟨g', 0, none⟩) (ss.length + 1) cap'] 171 (0, 0)) := by rw [<- hw4]; exact heap_setCell_box_a _ hv3
 have hL4 : w4.heap[l]? = some (.loop { apRec fn sv Bs D .ready none with state := .busy }) := (hg4.block l (Array.getElem?_eq_some_iff.1 hL3).1 (fun e => hBl (by cases e; rfl))).trans hL3
 have hK4 : w4.heap[D]? = some (.deferred (some [])) := (hg4.block D (Array.getElem?_eq_some_iff.1 hK3).1 (fun e => hDB (by cases e; rfl))).trans hK3
 have hrow4 := hown'.kept hg4 (ownsRow_ne_a hown' hv3 (fun cur e => by first | cases e | exact hne (Obj.cells.inj e).2.1))
 have hl4 : l < w4.heap.size := (Array.getElem?_eq_some_iff.1 hL4).1
 have hb3 : Below w0.heap.size w0 w3 := (hb2.alloc hb2.size _).grown hg3' (by have := hb2.size; simp; omega) (fun k e => (hrow2.lt k e).1)
 have hb4 : Below w0.heap.size w0 w4 := hb3.grown hg4 hb3.size (fun k e => by cases e; exact h0B)
 have hk4 : KeepsWalks W w4 := ((hk2.trans (KeepsWalks.alloc _ _)).trans (KeepsWalks.of_grownBy hg3' (ownsRow_not_walk_a (hrow2.alloc _)))).trans (by rw [<- hw4]; exact KeepsWalks.setCell _ _ _)
 clear hw4
 refine ⟨_, _, run_endRound none hL4, rfl, ⟨⟨_, (World.putObj_heap_other hBl).trans hv4, ?_, by simp⟩, World.putObj_heap_same hl4, (World.putObj_heap_other hDl).trans hK4, hb4.grown (grownBy_putObj_a _ _ _) hb4.size (fun k e => by cases e; exact h0l)⟩, hk4.trans (KeepsWalks.putObj _ hL4 rfl)⟩
 have := hrow4.kept (grownBy_putObj_a w4 l (.loop { { apRec fn sv Bs D .ready none with state := .busy } with state := if (none : Option Code).isNone then .ready else .done, pending := none })) (ownsRow_ne_a hrow4 hL4 (fun cur e => by first | cases e | exact hne (Obj.cells.inj e).2.1))
 simpa using this
theorem ZbK (F : Fence) (n : Nat) (h11 : F.fn 109) (hro : F.round = none) (hn : 2 <= n) (g : Nat) (lb : Array Value) (hFg : F.fn g) (eg : ∀ args w, (callFunc g args).run Tryz.prog w = .ok (.enter g args) w)
  (S : List SnapP -> Prop) (N : Nat) (hN : N <= maxLen) (hNb : N * 48 <= 140737488355328) (w : World) (hseq : SeqGives F (n - 1) Tryz.prog g lb encP S N w) :
  CallsIn F n Tryz.prog 109 #[.slice none 0 0, .func (.func g) #[] lb] w fun e w' => ∃ (v : Value) (ss : List SnapP), e = .returned v /\ S ss /\ w'.ownsRow w.heap.size 84 4 v ss.length (ss.flatMap cellsP) /\ (v = .slice none 0 0 ↔ ss = []) /\ Below w.heap.size w w' := by
 have h1 : 1 <= n := by omega
 have hne : 171 ≠ 84 := by decide
 refine callsIn_of_wp_marks Tryz.func109 rfl h11 ?_ hro
 simp only [Tryz.ntmps109, List.size_toArray, List.length_cons, List.length_nil, Nat.reduceAdd, Nat.reduceSub, Array.replicate_succ, Array.replicate_zero, List.push_toArray, List.append_toArray, List.nil_append, List.cons_append]
 gi_wp2
 refine wpIn_rangeFunc ?_
 intro fn hfn
 rw [hro]
 obtain ⟨W0, hW0⟩ : ∃ W0, w.alloc (.cells #[.slice none 0 0] 171) = W0 := ⟨_, rfl⟩
 have hs0 : W0.heap.size = w.heap.size + 1 := by rw [<- hW0]; simp
 have hv0 : W0.heap[w.heap.size]? = some (.cells #[.slice none 0 0] 171 (0, 0)) := by rw [<- hW0]; exact World.alloc_heap_new w _
 have hb0 : Below w.heap.size w W0 := by rw [<- hW0]; exact (Below.refl _ w).alloc (Nat.le_refl _) _
 rw [hW0]
 obtain ⟨W1, hW1⟩ : ∃ W1, (W0.alloc (.deferred (some []))).alloc (.loop (apRec fn (.func (.func g) #[] lb) w.heap.size W0.heap.size .ready none)) = W1 := ⟨_, rfl⟩
 have hold : ∀ k, k < W0.heap.size -> W1.heap[k]? = W0.heap[k]? := fun k hk => by
  rw [<- hW1]; exact (Below.heap_alloc _ _ k (by simp; omega)).trans (Below.heap_alloc _ _ k hk)
 have hb1 : Below w.heap.size w W1 := by rw [<- hW1]; exact (hb0.alloc hb0.size _).alloc (by have := hb0.size; simp; omega) _
 have hs1 : W1.heap.size = W0.heap.size + 2 := by rw [<- hW1]; simp
 have hM : Zcc w fn (.func (.func g) #[] lb) w.heap.size (W0.heap.size + 1) W0.heap.size [] W1 :=
  ⟨⟨_, (hold w.heap.size (by omega)).trans hv0, ⟨rfl, .inl ⟨rfl, rfl⟩⟩, by simp⟩,
   by rw [<- hW1]; have := World.alloc_heap_new (W0.alloc (.deferred (some []))) (.loop (apRec fn (.func (.func g) #[] lb) w.heap.size W0.heap.size .ready none)); rwa [World.size_alloc] at this,
   by rw [<- hW1]; exact (Below.heap_alloc _ _ _ (by simp)).trans (World.alloc_heap_new W0 _), hb1⟩
 refine ⟨W0.heap.size + 1, [{ target := .collected W0.heap.size, args := #[] }], W1, { target := .fn (.func g) lb, args := #[.func (.yield (W0.heap.size + 1)) #[] #[]] }, W1, g,
   #[.func (.yield (W0.heap.size + 1)) #[] #[]] ++ lb, W1, ?_, ?_, ?_, ?_, fun _ => h1, ?_⟩
 ·rw [<- hW1]; exact run_enterLoop_outer _ _ _ _ _
 ·simp [resolve, go_sem]
 ·intro f' hf'; simp [Target.leads] at hf'; subst hf'; exact hFg
 ·simp [invoke, go_sem, eg]
 ·refine (hseq (W0.heap.size + 1) (Zcc w fn (.func (.func g) #[] lb) w.heap.size (W0.heap.size + 1) W0.heap.size) W1 hb1 (Zg7 _ _ _ _ _ _ _ hb1.size)
     (fun pre x W hJ hl => Zit F (n - 1 - 1) w fn hfn _ w.heap.size (W0.heap.size + 1) W0.heap.size (by omega) (by omega) (by omega) (Nat.le_refl _) (by omega) N hN hNb pre x W hJ hl) hM).mono ?_
  rintro e W2 ⟨⟨v0, rfl⟩, ss, hS, h2⟩
  obtain ⟨v, hv, hrow, hnil⟩ := h2.box
  have hend := run_endLoop (P := Tryz.prog) h2.L (by simp [apRec])
  obtain ⟨W3, hW3⟩ : ∃ W3, W2.putObj (W0.heap.size + 1) (.loop { apRec fn (.func (.func g) #[] lb) w.heap.size W0.heap.size .ready none with state := .exhausted }) = W3 := ⟨_, rfl⟩
  rw [hW3] at hend
  have hg3 : W2.grownBy W3 (some (W0.heap.size + 1)) := by rw [<- hW3]; exact grownBy_putObj_a _ _ _
  have hv3 : W3.heap[w.heap.size]? = some (.cells #[v] 171 (0, 0)) := by rw [<- hW3]; exact (World.putObj_heap_other (by omega)).trans hv
  have hK3 : W3.heap[W0.heap.size]? = some (.deferred (some [])) := by rw [<- hW3]; exact (World.putObj_heap_other (by omega)).trans h2.K
  have hrow3 := hrow.kept hg3 (ownsRow_ne_a hrow h2.L (fun cur e => by first | cases e | exact hne (Obj.cells.inj e).2.1))
  have hb3 : Below w.heap.size w W3 := h2.below.grown hg3 h2.below.size (fun k e => by cases e; omega)
  obtain ⟨hc3, hf3⟩ := cell_of_box_a hv3
  clear hW3
  refine ⟨none, W3, hend, ?_⟩
  gi_wp2
  rw [<- hs0]
  refine ⟨by simp, .inl ⟨_, _, rfl, run_takeDeferred hK3, ?_⟩⟩
  exact ⟨_, results_tmp rfl _ _ _, v, ss, rfl, hS, hrow3.kept (grownBy_putObj_a _ _ _) (ownsRow_ne_a hrow3 hK3 (fun cur e => by first | cases e | exact hne (Obj.cells.inj e).2.1)), hnil, hb3.grown (grownBy_putObj_a _ _ _) hb3.size (fun k e => by cases e; omega)⟩
theorem Zez (F : Fence) (n : Nat) (h8 : F.fn 73) (h11 : F.fn 109) (hro : F.round = none) (hn : 3 <= n) (g : Nat) (lb : Array Value) (hFg : F.fn g) (eg : ∀ args w, (callFunc g args).run Tryz.prog w = .ok (.enter g args) w)
  (S : List SnapP -> Prop) (N : Nat) (hN : N <= maxLen) (hNb : N * 48 <= 140737488355328) (w : World) (hseq : SeqGives F (n - 1 - 1) Tryz.prog g lb encP S N w) :
  CallsIn F n Tryz.prog 73 #[.func (.func g) #[] lb] w fun e w' => ∃ (v : Value) (ss : List SnapP), e = .returned v /\ S ss /\ w'.ownsRow w.heap.size 84 4 v ss.length (ss.flatMap cellsP) /\ (v = .slice none 0 0 ↔ ss = []) /\ Below w.heap.size w w' := by
 have h1 : 1 <= n := by omega
 have e11 : ∀ args w, (callFunc 109 args).run Tryz.prog w = .ok (.enter 109 args) w := enters_of Tryz.func109 (by kernel_rfl) rfl
 refine callsIn_of_wp Tryz.func73 rfl h8 ?_ hro
 simp only [Tryz.ntmps73, List.size_toArray, List.length_cons, List.length_nil, Nat.reduceAdd, Nat.reduceSub, Array.replicate_succ, Array.replicate_zero, List.push_toArray, List.append_toArray, List.nil_append, List.cons_append]
 gi_wp2_with (gi_at_fn 109; refine (ZbK F (n - 1) h11 hro (by omega) g lb hFg eg S N hN hNb _ hseq).mono ?_; rintro e w' ⟨v, ss, rfl, hS, hrow, hnil, hb⟩)
 go_ret
 exact ⟨v, ss, rfl, hS, hrow, hnil, hb⟩
end Go.Proofs.YtnidjfjkodingaaGreatDoor
namespace Go.Proofs.YtnidjfjkodingaaGreatDoor
open Go.RowKit Go.Lap
structure Z1Y (nx : Nat) (ps : List SnapP) (hz : Nat) : Prop where
 none_ : ps = [] -> hz = nx
 some_ : ps ≠ [] -> ∃ p ∈ ps, hz = p.1.xmin
 least : ∀ p ∈ ps, hz <= p.1.xmin
theorem Z1Y.start (nx : Nat) : Z1Y nx [] nx := ⟨fun _ => rfl, fun h => absurd rfl h, fun p hp => by cases hp⟩
theorem Z1Y.take_ {nx hz : Nat} {ps : List SnapP} {p : SnapP} (h : Z1Y nx ps hz) (hl : ps = [] ∨ p.1.xmin < hz) : Z1Y nx (ps ++ [p]) p.1.xmin :=
 ⟨fun e => by simp at e, fun _ => ⟨p, by simp, rfl⟩, fun q hq => by
   rcases List.mem_append.1 hq with x | x
   · rcases hl with y | y
     · rw [y] at x; cases x
     · exact Nat.le_of_lt (Nat.lt_of_lt_of_le y (h.least q x))
   · rw [List.mem_singleton] at x; rw [x]; exact Nat.le_refl _⟩
theorem Z1Y.leave {nx hz : Nat} {ps : List SnapP} {p : SnapP} (h : Z1Y nx ps hz) (hl : ps ≠ []) (hp : ¬ p.1.xmin < hz) : Z1Y nx (ps ++ [p]) hz :=
 ⟨fun e => by simp at e, fun _ => by obtain ⟨q, hq, e⟩ := h.some_ hl; exact ⟨q, List.mem_append_left _ hq, e⟩, fun q hq => by
   rcases List.mem_append.1 hq with x | x
   · exact h.least q x
   · rw [List.mem_singleton] at x; rw [x]; omega⟩
theorem ZbL : ∀ (ps : List SnapP) (i : Nat) (p : SnapP), ps[i]? = some p -> (ps.flatMap cellsP)[i * 4]? = some (.int .u64 (p.1.own : Int)) /\ (ps.flatMap cellsP)[i * 4 + 1]? = some (.int .u64 (p.1.xmin : Int)) /\ (ps.flatMap cellsP)[i * 4 + 2]? = some (.int .u64 (p.1.xmax : Int)) /\ (ps.flatMap cellsP)[i * 4 + 3]? = some (.slice p.2.1 p.1.run.length p.2.2)
 | [], i, p, h => by simp at h
 | x :: ps, 0, p, h => by
  simp at h
  subst h
  exact ⟨rfl, rfl, rfl, rfl⟩
 | x :: ps, i + 1, p, h => by
  have ih := ZbL ps i p (by simpa using h)
  have e : (x :: ps).flatMap cellsP = .int .u64 (x.1.own : Int) :: .int .u64 (x.1.xmin : Int) :: .int .u64 (x.1.xmax : Int) :: .slice x.2.1 x.1.run.length x.2.2 :: ps.flatMap cellsP := rfl
  rw [e, show (i + 1) * 4 = i * 4 + 1 + 1 + 1 + 1 by omega]
  exact ih
def Zdh (w : World) (nx : Nat) (ps : List SnapP) (e : Ending) (w' : World) : Prop := ∃ hz : Nat, e = .returned (.int .u64 (hz : Int)) /\ Z1Y nx ps hz /\ U64 hz /\ Quiet w w'
theorem ZbM {w : World} {F S : Nat -> Prop} {lb c : Nat} {L : List Nat} {A : Option Addr} {ps : List SnapP} (h : Zy w F lb L) (hL : L.length < 1000000000) (hr : Rd w S 4 A ps.length (ps.flatMap cellsP)) (hn : ps.length <= 10000000) (hu : ∀ p ∈ ps, U64 p.1.xmin) :
  Calls Tryz.prog 72 #[.pointer (some ⟨lb, 0, none⟩), .slice A ps.length c] w (Zdh w (L.length + 1) ps) := by
 have HNX := zh (Z4w h)
 have HR := zh hr
 have HU := zh hu
 obtain ⟨nx, hnx⟩ : ∃ nx, L.length + 1 = nx := ⟨_, rfl⟩
 have hnu : U64 nx := by unfold U64; omega
 have HNU := zh hnu
 rw [hnx]
 obtain ⟨n, hn2⟩ : ∃ n, ps.length = n := ⟨_, rfl⟩
 have HN := zh hn2
 rw [hn2] at hn ⊢
 obtain ⟨Z8, Z6⟩ : ∃ Z8, Zdh w nx ps = Z8 := ⟨_, rfl⟩
 rw [Z6]
 have Zb := zh Z6
 have HE : Hid (((L.length : Int) + 1) = (nx : Int)) := by show _ = _; omega
 clear h hL hr hu hn2 Z6 hnu hnx
 go_enter Tryz.func72, Tryz.ntmps72
 go_wp2_with fail
 refine HNX.out.mono ?_
 rintro e w1 ⟨rfl, m, rfl⟩
 rw [HE.out]
 have HQ1 : Hid (Quiet w (w.drewN m)) := (Z0.refl (fun _ => False) w).drewN m
 clear HNX HE
 generalize w.drewN m = w1 at *
 go_wp2_with fail
 go_loopw [12, 5, 6, 7] (fun i v _ _ wr => ∃ (k hz : Nat), k <= n /\ i = .int .i64 (k : Int) /\ v = .int .u64 (hz : Int) /\ Z1Y nx (ps.take k) hz /\ U64 hz /\ Quiet w wr) (fun i _ _ _ _ => n - (intOf i).toNat)
 case atStart => exact ⟨0, nx, Nat.zero_le _, rfl, rfl, Z1Y.start nx, HNU.out, HQ1.out⟩
 case round =>
  obtain ⟨k, hz, hk, rfl, rfl, hH, hz64, hq⟩ := hrel
  have HH := zh hH
  have HZ := zh hz64
  have HQ := zh hq
  clear hH hz64 hq
  by_cases hlt : k < n
  ·obtain ⟨p, hp⟩ : ∃ p, ps[k]? = some p := ⟨_, zg (by have := HN.out; omega)⟩
   obtain ⟨k0, k1, k2, k3⟩ := ZbL ps k p hp
   have hlen := (zi.1 k0).1
   obtain ⟨b, off, rfl, _, hc⟩ := (HR.out.kept HQ.out (fun _ _ x => x)).cells (by omega)
   have c0 := hc _ _ k0
   have c1 := hc _ _ k1
   have c2 := hc _ _ k2
   have c3 := hc _ _ k3
   rw [<- Nat.add_assoc] at c1 c2 c3
   have hlb := Ze c0
   dsimp only at hlb
   have HU2 : Hid (U64 p.1.xmin) := HU.out p (List.mem_of_getElem? hp)
   have HT : Hid (ps.take (k + 1) = ps.take k ++ [p]) := by show _ = _; rw [List.take_add_one, hp]; rfl
   have HTL : Hid ((ps.take k).length = k) := by show _ = _; rw [List.length_take]; have := HN.out; omega
   have HQ5 : Hid (Quiet w (wr.alloc (.cells #[.int .u64 (p.1.own : Int), .int .u64 (p.1.xmin : Int), .int .u64 (p.1.xmax : Int), .slice p.2.1 p.1.run.length p.2.2] 84))) := HQ.out.alloc _
   clear hc hlen k0 k1 k2 k3
   by_cases h0 : k = 0 ∨ p.1.xmin < hz
   ·have HN1 : Hid (Z1Y nx (ps.take (k + 1)) p.1.xmin) := by
     show Z1Y _ _ _
     rw [HT.out]
     exact HH.out.take_ (by rcases h0 with x | x; left; subst x; rfl; right; exact x)
    clear HH HT HTL
    by_cases hk0 : k = 0
    ·subst hk0
     simp only [Nat.zero_mul, Nat.add_zero] at c0 c1 c2 c3
     go_wp2
     go_roundw
     case rel => exact ⟨1, p.1.xmin, by omega, by go_num, rfl, HN1.out, HU2.out, HQ5.out⟩
     case measure => simp [intOf]; omega
    ·have hx : (p.1.xmin : Int) < (hz : Int) := by rcases h0 with x | x; exact absurd x hk0; omega
     have hki : ¬ (k : Int) = 0 := by omega
     go_wp2
     go_roundw
     case rel => exact ⟨k + 1, p.1.xmin, by omega, by go_num, rfl, HN1.out, HU2.out, HQ5.out⟩
     case measure => simp [intOf]; omega
   ·have hk0 : ¬ (k : Int) = 0 := by omega
    have hx : ¬ (p.1.xmin : Int) < (hz : Int) := by omega
    have HN1 : Hid (Z1Y nx (ps.take (k + 1)) hz) := by
     show Z1Y _ _ _
     rw [HT.out]
     exact HH.out.leave (fun e => by have := HTL.out; rw [e] at this; simp at this; omega) (by omega)
    clear HH HT HTL h0
    go_wp2
    go_roundw
    case rel => exact ⟨k + 1, hz, by omega, by go_num, rfl, HN1.out, HZ.out, HQ5.out⟩
    case measure => simp [intOf]; omega
  ·obtain rfl : k = n := by omega
   have Zc : Hid (Z8 (.returned (.int .u64 (hz : Int))) wr) := by
    rw [<- Zb.out]
    have := HH.out
    rw [List.take_of_length_le (by have := HN.out; omega)] at this
    exact ⟨hz, rfl, this, HZ.out, HQ.out⟩
   clear HH
   go_wp2
   exact Zc.out
end Go.Proofs.YtnidjfjkodingaaGreatDoor
namespace Go.Proofs.YtnidjfjkodingaaGreatDoor
open Go.RowKit Go.Lap Go.Maps
structure Z19 (s : St) (hz : Nat) : Prop where
 none_ : (∀ x, s.sn x = none) -> hz = s.L.length + 1
 some_ : (∃ x y, s.sn x = some y) -> ∃ x y, s.sn x = some y /\ hz = y.xmin
 least : ∀ x y, s.sn x = some y -> hz <= y.xmin
 num : U64 hz
def Z4G (w : World) (s : St) (e : Ending) (w' : World) : Prop := ∃ hz : Nat, e = .returned (.int .u64 (hz : Int)) /\ Z19 s hz /\ Quiet w w'
theorem Z7R {p : SnapP} {y : Zo} {A : Option Addr} {c : Nat} (h : encP p = Zk y A c) : p.1.xmin = y.xmin := by
 have h' : (#[Value.int .u64 (p.1.own : Int), .int .u64 (p.1.xmin : Int), .int .u64 (p.1.xmax : Int), .slice p.2.1 p.1.run.length p.2.2] : Array Value) = #[.int .u64 (y.own : Int), .int .u64 (y.xmin : Int), .int .u64 (y.xmax : Int), .slice A y.run.length c] := by injection h
 have h2 := congrArg (fun a : Array Value => a[1]?) h'
 simp at h2
 omega
theorem ZhC {w : World} {o : Nat -> Nat} {s : St} {fs : Nat -> Option Value} {ps : List SnapP} {hz : Nat} (h : Z4n w o s.sn fs) (hv : Z6L fs (ps.map encP)) (hh : Z1Y (s.L.length + 1) ps hz) (hu : U64 hz) : Z19 s hz := by
 have back : ∀ p ∈ ps, ∃ x y, s.sn x = some y /\ p.1.xmin = y.xmin := fun p hp => by
  obtain ⟨x, hx⟩ := hv.each (encP p) (List.mem_map_of_mem hp)
  cases hs : s.sn x with
  | none => rw [h.1 x hs] at hx; cases hx
  | some y =>
   obtain ⟨A, c, e, _⟩ := h.2 x y hs
   rw [e] at hx
   injection hx with hx
   exact ⟨x, y, hs, Z7R hx.symm⟩
 have forth : ∀ x y, s.sn x = some y -> ∃ p ∈ ps, p.1.xmin = y.xmin := fun x y hs => by
  obtain ⟨A, c, e, _⟩ := h.2 x y hs
  obtain ⟨p, hp, hpe⟩ := List.mem_map.1 (hv.all x _ e)
  exact ⟨p, hp, Z7R hpe⟩
 refine ⟨fun hn => hh.none_ ?_, fun ⟨x, y, hs⟩ => ?_, fun x y hs => ?_, hu⟩
 ·rcases ps with _ | ⟨p, ps⟩
  ·rfl
  ·obtain ⟨x, y, hs, _⟩ := back p (List.mem_cons_self ..)
   rw [hn x] at hs
   cases hs
 ·obtain ⟨p, hp, _⟩ := forth x y hs
  obtain ⟨q, hq, e⟩ := hh.some_ (fun e => by rw [e] at hp; cases hp)
  obtain ⟨x', y', h1, h2⟩ := back q hq
  exact ⟨x', y', h1, e.trans h2⟩
 ·obtain ⟨p, hp, e⟩ := forth x y hs
  rw [<- e]
  exact hh.least p hp
theorem Zg8 (ms : Nat) (w : World) : Calls Tryz.prog 74 #[.map (some ms)] w fun e w' => e = .returned (.func (.func 110) #[] #[.pointer (some ⟨w.heap.size, 0, none⟩)]) /\ Quiet w w' /\ w'.heap[w.heap.size]? = some (.cells #[.map (some ms)] 76 (0, 0)) := by
 go_enter Tryz.func74, Tryz.ntmps74
 go_wp2
 go_ret
 exact ⟨rfl, (Z0.refl _ _).alloc _, Z5 _ _⟩
theorem ZeA {w : World} {o : Nat -> Nat} {sn : Nat -> Option Zo} {ms Bm N : Nat} {fs : Nat -> Option Value} (hm : Z09 w ms fs) (hs : Z4n w o sn fs) (hN : ∀ x y, sn x = some y -> x <= N) (hN2 : N <= 2000000) (hB : w.heap[Bm]? = some (.cells #[.map (some ms)] 76 (0, 0))) :
  ∃ M, M <= N + 1 /\ SeqGives Fence.wide 4 Tryz.prog 110 #[.pointer (some ⟨Bm, 0, none⟩)] encP (fun ps => Z6L fs (ps.map encP) /\ ps.length <= M) M w := by
 have hx : ∀ x v, fs x = some v -> ∃ y A c, sn x = some y /\ v = Zk y A c := fun x v h => by
  cases e : sn x with
  | none => rw [hs.1 x e] at h; cases h
  | some y =>
   obtain ⟨A, c, e2, _⟩ := hs.2 x y e
   rw [e2] at h
   injection h with h
   exact ⟨y, A, c, rfl, h.symm⟩
 obtain ⟨D, h1, h2, h3, h4⟩ := hm.owns Tryz.underlying34 (N := N) (fun x v h => by obtain ⟨y, A, c, e, _⟩ := hx x v h; exact hN x y e) (by unfold maxLen; omega)
 refine ⟨Maps.size D, h2, fun l J W hW hJ hY h0 => ?_⟩
 have hown' : W.ownsMap Tryz.prog 34 Z2P ms (N + 1) D := by
  have hbl := h1.lt
  obtain ⟨es, clock, hb, Ft, hs', hD⟩ := h1
  exact ⟨es, clock, (hW.block ms hbl).trans hb, Ft, hs', hD⟩
 have hb2 : W.heap[Bm]? = some (.cells #[.map (some ms)] 76 (0, 0)) := (hW.block Bm (Z2 hB)).trans hB
 exact Zis Fence.wide 4 trivial rfl (by omega) l Bm ms (N + 1) D fs h3 h4 (fun x v h => by obtain ⟨y, A, c, _, e⟩ := hx x v h; exact ⟨(y, A, c), e⟩) J hY W hJ (by rw [Z1 hb2]; rfl) hown' h0
def ZhD (w : World) (fs : Nat -> Option Value) (N : Nat) (e : Ending) (w' : World) : Prop :=
 ∃ A c, ∃ ps : List SnapP, e = .returned (.slice A ps.length c) /\ Z6L fs (ps.map encP) /\ ps.length <= N /\ Quiet w w' /\ Rd w' (fun _ => True) 4 A ps.length (ps.flatMap cellsP)
theorem ZbN {w : World} {o : Nat -> Nat} {sn : Nat -> Option Zo} {ms Bm N : Nat} {fs : Nat -> Option Value} (hm : Z09 w ms fs) (hs : Z4n w o sn fs) (hN : ∀ x y, sn x = some y -> x <= N) (hN2 : N <= 2000000) (hB : w.heap[Bm]? = some (.cells #[.map (some ms)] 76 (0, 0))) :
  Calls Tryz.prog 73 #[.func (.func 110) #[] #[.pointer (some ⟨Bm, 0, none⟩)]] w (ZhD w fs (N + 1)) := by
 obtain ⟨M, hM, hg⟩ := ZeA hm hs hN hN2 hB
 have eg : ∀ args w, (callFunc 110 args).run Tryz.prog w = .ok (.enter 110 args) w := enters_of Tryz.func110 (by kernel_rfl) rfl
 refine (callsIn_wide.1 (Zez Fence.wide 6 trivial trivial rfl (by omega) 110 #[.pointer (some ⟨Bm, 0, none⟩)] trivial eg _ M (by unfold maxLen; omega) (by omega) w hg)).mono ?_
 rintro e w' ⟨v, ps, rfl, ⟨hv, hl⟩, hrow, _, hb⟩
 obtain ⟨A, c, rfl, _, _, hrd⟩ := Z9 (ownsRow_base_a hrow (Nat.zero_le _))
 exact ⟨A, c, ps, rfl, hv, by omega, ⟨hb.os, hb.tape, hb.output, hb.size, fun k hk _ => hb.block k hk⟩, hrd.mono (fun _ _ => trivial)⟩
theorem Z2Q {w : World} {sb N : Nat} {o : Nat -> Nat} {s : St} (h : Zm w sb o s) (hL : s.L.length < 1000000000) (hN : ∀ x y, s.sn x = some y -> x <= N) (hN2 : N <= 2000000) :
  Calls Tryz.prog 36 #[ptrV sb] w (Z4G w s) := by
 obtain ⟨lb, bb, pb, mh, mt, ms, fh, ft, fs, h⟩ := h
 have HH := zh h
 have HN := zh (And.intro hN (And.intro hN2 hL))
 have HS3 : Hid (∀ W, Quiet w W -> (fun w' => w'.cell? ⟨sb, 0, none⟩ = some (ptrV lb) /\ w'.cell? ⟨sb, 5, none⟩ = some (.map (some ms))) W) := fun W hq => by
  have c := (HH.out.quietly hq).cells
  exact ⟨c.1, c.2.2.2.2.2.1⟩
 obtain ⟨Z8, Z6⟩ : ∃ Z8, Z4G w s = Z8 := ⟨_, rfl⟩
 rw [Z6]
 have Zb := zh Z6
 clear h hL hN hN2 Z6
 go_enter Tryz.func36, Tryz.ntmps36
 go_wp2_with fail
 refine zH HS3 ((Z0.refl _ _).drew) (fun Z3 => ?_)
 have q0 : Quiet w w.drew := (Z0.refl _ _).drew
 generalize w.drew = d0 at q0 Z3 ⊢
 refine zT 0 ?_
 refine zT 1 ?_
 refine zT 2 ?_
 refine zT 3 ?_
 refine zT 4 ?_
 refine zT 5 ?_
 refine zT 6 ?_
 refine zT 7 ?_
 refine zR 8 ?_
 intro K hK
 go_simp
 go_at_call 74
 refine (Zg8 ms _).mono ?_
 rintro e d1 ⟨rfl, hq1, hb1⟩
 have q1 := q0.trans hq1
 dsimp only
 refine hK.out _ _ ?_ (fun Z3 => ?_)
 ·exact HS3.out _ q1
 clear hK K
 (try simp only [Act.put, zPA, zPZ, zPS])
 obtain ⟨Bm, hBm⟩ : ∃ Bm, d0.heap.size = Bm := ⟨_, rfl⟩
 rw [hBm] at hb1
 (try rw [hBm])
 refine zR 9 ?_
 intro K hK
 go_simp
 go_at_call 73
 refine (ZbN (Bm := Bm) (HH.out.quietly q1).mS (HH.out.quietly q1).snaps HN.out.1 HN.out.2.1 hb1).mono ?_
 rintro e d2 ⟨A2, c2, ps, rfl, hv2, hl2, hq2, hr2⟩
 have q2 := q1.trans hq2
 dsimp only
 refine hK.out _ _ ?_ (fun Z3 => ?_)
 ·exact HS3.out _ q2
 clear hK K
 (try simp only [Act.put, zPA, zPZ, zPS])
 refine zR 10 ?_
 intro K hK
 go_simp
 go_at_call 72
 refine (ZbM (HH.out.quietly q2).log HN.out.2.2 hr2 (by have := HN.out.2.1; omega) (fun p hp => by
     obtain ⟨x, hx⟩ := hv2.each (encP p) (List.mem_map_of_mem hp)
     cases hs : s.sn x with
     | none => rw [HH.out.snaps.1 x hs] at hx; cases hx
     | some y =>
       obtain ⟨A, c, e, hsv⟩ := HH.out.snaps.2 x y hs
       rw [e] at hx
       injection hx with hx
       rw [Z7R hx.symm]
       exact hsv.num.2.1)).mono ?_
 rintro e d3 ⟨hz, rfl, hh3, hu3, hq3⟩
 have q3 := q2.trans hq3
 dsimp only
 refine hK.out _ _ ?_ (fun Z3 => ?_)
 ·exact HS3.out _ q3
 clear hK K
 (try simp only [Act.put, zPA, zPZ, zPS])
 refine zT 11 ?_
 refine zD ?_
 have Zc : Hid (Z8 (.returned (.int .u64 (hz : Int))) d3) := by
  rw [<- Zb.out]
  exact ⟨hz, rfl, ZhC HH.out.snaps hv2 hh3 hu3, q3⟩
 clear Z3 q0 q1 q2 q3 hq1 hq2 hq3 hb1 hv2 hl2 hr2 hh3 hu3 HS3
 go_wp2
 exact Zc.out
end Go.Proofs.YtnidjfjkodingaaGreatDoor
namespace Go.Proofs.YtnidjfjkodingaaGreatDoor
open Go.RowKit Go.Lap
structure Z5S (w0 w : World) (v0 v : Value) (ys xs : List EV) : Prop where
 only : Z0 (fun k => v0.ownBlock = some k) w0 w
 row : RowAt w v (ys ++ xs)
 loc : v.ownBlock = v0.ownBlock ∨ ∃ k, v.ownBlock = some k /\ w0.heap.size <= k
theorem Z5S.start {w : World} {v : Value} {ys : List EV} (h : RowAt w v ys) : Z5S w w v v ys [] := ⟨Z0.refl _ _, by rw [List.append_nil]; exact h, Or.inl rfl⟩
theorem Z5S.join {w0 w w' : World} {v0 v v' : Value} {ys xs zs : List EV} (h : Z5S w0 w v0 v ys xs) (h' : Z5S w w' v v' (ys ++ xs) zs) : Z5S w0 w' v0 v' ys (xs ++ zs) := by
 have hz0 := h.only.size
 refine ⟨h.only.trans' h'.only (fun k hk e => ?_), by rw [<- List.append_assoc]; exact h'.row, ?_⟩
 ·rcases h.loc with x | ⟨j, x, y⟩
  ·rw [x] at e; exact e
  ·rw [x] at e; injection e with e; omega
 ·rcases h'.loc with x | ⟨j, x, y⟩
  ·rw [x]; exact h.loc
  ·exact Or.inr ⟨j, x, by omega⟩
def Z5q (w : World) (v : Value) (ys xs : List EV) (e : Ending) (w' : World) : Prop := ∃ v', e = .returned v' /\ Z5S w w' v v' ys xs
theorem ZhE {K F : Nat -> Prop} {w : World} {b : Nat} {xs ys : List EV} {v0 v : Value} (hl : Z6J K w b F xs v0) (hrow : RowAt w v ys) (hn : ys.length + xs.length <= 40000) :
  Calls Tryz.prog 177 #[ptrV b, v] w (Z5q w v ys xs) := by
 obtain ⟨A0, c0, hv0, _, _, hr0⟩ := Z9 hl.row
 obtain ⟨Av, cv, hvv, _, _, _⟩ := Z9 hrow
 have hbox := hl.box
 rw [hv0] at hbox
 have b0 : w.cell? ⟨b, 0, none⟩ = some (.slice A0 xs.length c0) := by rw [Z1 hbox]; rfl
 have HLF := zh (Z3z b _ none 0 0 _ hbox)
 have HR0 := zh hr0
 have HROW := zh hrow
 obtain ⟨Z8, Z6⟩ : ∃ Z8, Z5q w v ys xs = Z8 := ⟨_, rfl⟩
 have Zb := zh Z6
 rw [Z6]
 subst hvv
 clear hl hrow hbox hr0 hv0 Z6
 go_enter Tryz.func177, Tryz.ntmps177
 go_wp2_with fail
 refine HLF.out.mono ?_
 rintro r w1 ⟨rfl, rfl⟩
 clear HLF
 go_wp2_with (at_builtin; refine app Z2V rfl (.tmp 9) (.tmp 13) rfl rfl HROW.out rfl HR0.out (Z1M xs) (by unfold maxLen; omega) (by omega) ?_)
 intro v5 w5 hg
 have HR : Hid (Z8 (.returned v5) w5) := by
  rw [<- Zb.out]
  refine ⟨v5, rfl, hg.only, ?_, ?_⟩
  ·unfold RowAt
   rw [Z1W, List.length_append]
   exact hg.own
  ·rcases hg.loc with x | x
   ·exact Or.inl x
   ·exact Or.inr ⟨_, x, Nat.le_refl _⟩
 clear hg HR0 HROW b0
 go_wp2
 exact HR.out
def Zi0 (K : Nat -> Prop) (h : Nat) : Prop := ∀ (F : Nat -> Prop) (w : World) (b : Nat) (xs ys : List EV) (v : Value), Zi K h w b F xs -> (∀ k, F k ∨ K k -> k < w.heap.size /\ v.ownBlock ≠ some k) -> RowAt w v ys -> ys.length + xs.length <= 40000 →
 Calls Tryz.prog 177 #[ptrV b, v] w (Z5q w v ys xs)
theorem Zg9 {K F : Nat -> Prop} {h : Nat} {w : World} {b : Nat} {ks : List Kid} {ys : List EV} {v0 u0 v : Value} (hih : Zi0 K h) (hl : Z53 (Zi K h) w b F v0 u0 ks) (hR : ∀ k, F k ∨ K k -> k < w.heap.size /\ v.ownBlock ≠ some k) (hrow : RowAt w v ys) (hn : ys.length + (flat ks).length <= 40000) :
  Calls Tryz.prog 177 #[ptrV b, v] w (Z5q w v ys (flat ks)) := by
 obtain ⟨gu, cu, hu0, hcu, _⟩ := hl.form
 obtain ⟨n, hnn⟩ : ∃ n, ks.length = n := ⟨_, rfl⟩
 have hnk : n <= 40000 := by have := Z9b (fun x hx => (hl.kid x hx).1); omega
 have hbox := hl.box
 rw [hnn] at hu0
 rw [hu0] at hbox
 have b1 : w.cell? ⟨b, 1, none⟩ = some (.slice (some ⟨gu, 0, none⟩) n cu) := by rw [Z1 hbox]; rfl
 have HLF := zh (Z3z b _ _ _ _ _ hbox)
 have HNN := zh hnn
 have HI := zh hl
 have HR := zh hR
 have HU0 := zh hu0
 have HO0 := zh (Z5S.start hrow)
 have HIH := zh hih
 have HN4 := zh hn
 obtain ⟨Z8, Z6⟩ : ∃ Z8, Z5q w v ys (flat ks) = Z8 := ⟨_, rfl⟩
 have Zb := zh Z6
 rw [Z6]
 clear hl hR hrow hnn Z6 hu0 hn hcu hih hbox
 go_enter Tryz.func177, Tryz.ntmps177
 go_wp2_with fail
 refine HLF.out.mono ?_
 rintro r w1 ⟨rfl, rfl⟩
 clear HLF
 go_wp2_with fail
 clear b1
 go_loopw [20, 1, 6] (fun ci cv _ wr => ∃ (i : Nat) (v' : Value), i <= n /\ ci = .int .i64 (i : Int) /\ v' = cv /\ Z5S w wr v v' ys (flat (ks.take i))) (fun ci _ _ _ => n - (intOf ci).toNat)
 case atStart => exact ⟨0, v, Nat.zero_le _, rfl, rfl, HO0.out⟩
 case round =>
  obtain ⟨i, v', hi', rfl, rfl, hO⟩ := hrel
  clear HO0
  have HO := zh hO
  obtain ⟨Av, cv', hvv, _, _, _⟩ := Z9 hO.row
  obtain ⟨m, hm⟩ : ∃ m, (ys ++ flat (ks.take i)).length = m := ⟨_, rfl⟩
  rw [hm] at hvv
  subst hvv
  clear hm
  by_cases hlt : i < n
  ·obtain ⟨x, hx⟩ : ∃ x, ks[i]? = some x := ⟨_, zg (by have := HNN.out; omega)⟩
   have hxm : x ∈ ks := List.mem_of_getElem? hx
   have hkids := Z4 HI.out.kids hO.only (fun k e => (HR.out k (Or.inl (HI.out.foot.2.2 k e))).2)
   rw [HU0.out] at hkids
   have p1 : wr.cell? ⟨gu, i, none⟩ = some (ptrV x.b) := by
    have := hkids.cells rfl i (ptrV x.b) (by rw [kptrs, List.getElem?_map, hx]; rfl)
    rw [Zq, Nat.zero_add] at this
    exact this
   have hft : (flat (ks.take (i + 1))).length <= (flat ks).length := by
    have e : flat ks = flat (ks.take (i + 1)) ++ flat (ks.drop (i + 1)) := by rw [<- List.flatMap_append, List.take_append_drop]
    rw [e, List.length_append]; omega
   rw [Za4 hx, List.length_append] at hft
   have hz := hO.only.size
   have HC := zh (HIH.out (fun k => x.F k /\ k < w.heap.size) wr x.b x.xs (ys ++ flat (ks.take i)) _ (Zi.kept hO.only (fun k z => (HR.out k (Or.inr z)).2) ((HI.out.kid x hxm).2.lim) (fun k z => (HR.out k (Or.inl (HI.out.sub x hxm k z.1).1)).2)) (fun k z => by
     have hk : k < w.heap.size /\ v.ownBlock ≠ some k := by
       rcases z with z | z
       · exact HR.out k (Or.inl (HI.out.sub x hxm k z.1).1)
       · exact HR.out k (Or.inr z)
     refine ⟨by omega, fun e => ?_⟩
     rcases hO.loc with y | ⟨j, y, t⟩
     · rw [y] at e; exact hk.2 e
     · rw [y] at e; injection e with e; omega) hO.row (by have := HN4.out; rw [List.length_append]; omega))
   have HFT := zh (Za4 hx)
   have d0 : (0 : Int) <= (i : Int) := by omega
   have d1 : (i : Int) < (n : Int) := by omega
   clear hx hxm hkids hft hz hO
   go_wp2_with fail
   refine HC.out.mono ?_
   rintro r w2 ⟨v2, rfl, hO2⟩
   have HO2 := zh (HO.out.join hO2)
   rw [<- HFT.out] at HO2
   clear hO2 HC p1
   go_wp2
   go_roundw
   case rel => exact ⟨i + 1, v2, by omega, by go_num, rfl, HO2.out⟩
   case measure => simp [intOf]; omega
  ·have HRES : Hid (Z8 (.returned (.slice Av m cv')) wr) := by
    rw [<- Zb.out]
    refine ⟨_, rfl, ?_⟩
    rw [List.take_of_length_le (by have := HNN.out; omega)] at hO
    exact hO
   clear hO
   go_wp2
   exact HRES.out
theorem ZiV (K : Nat -> Prop) (h : Nat) : Zi0 K h := by
 induction h with
 | zero =>
  intro F w b xs ys v ⟨v0, hl⟩ hR hrow hn
  exact ZhE hl hrow hn
 | succ h ih =>
  intro F w b xs ys v ⟨v0, u0, ks, hi', e⟩ hR hrow hn
  subst e
  exact Zg9 ih hi' hR hrow hn
theorem Zgc : Z05 Tryz.prog 305 307 2 16 := Z05.mk' (.agg #[.int .i64 0, .int .i64 0]) Tryz.underlying305 (by kernel_rfl) rfl (by decide)
structure Z4K (w w' : World) (n i : Nat) (v : Value) : Prop where
 quiet : Quiet w w'
 own : w'.ownsRow 0 307 2 v i (Z3i n i)
 new : ∀ k, v.ownBlock = some k -> w.heap.size <= k
def Zac (w : World) (n : Nat) (e : Ending) (w' : World) : Prop := ∃ v, e = .returned v /\ Z4K w w' n (Z1Q n) v
theorem Z4K.push {w w1 w2 w' : World} {n i : Nat} {v v' : Value} (h : Z4K w w1 n i v) (hq : Quiet w1 w2) (hg : ZW w2 w' 307 2 v v' (i + 1) (Z3i n i ++ Z8I n i)) : Z4K w w' n (i + 1) v' := by
 have hz := h.quiet.size
 have hz2 := hq.size
 refine ⟨(h.quiet.trans hq).trans' hg.only (fun k hk e => by have := h.new k e; omega), by rw [Z5e]; exact hg.own, fun k e => ?_⟩
 rcases hg.loc with x | x
 ·rw [x] at e; exact h.new k e
 ·rw [x] at e; injection e with e; omega
theorem Ziw (a b : Int) : ∀ u ∈ [Value.int .i64 a, Value.int .i64 b], u.oneCell' = true := by
 intro u hu
 simp at hu
 rcases hu with rfl | rfl <;> rfl
theorem Zad (n : Nat) (w : World) (hn : n <= 40000) : Calls Tryz.prog 198 #[.int .i64 (n : Int)] w (Zac w n) := by
 obtain ⟨k, hk⟩ : ∃ k, Z1Q n = k := ⟨_, rfl⟩
 have hk2 : (n + 7) / 8 = k := hk
 have HK := zh hk
 have e1 : ((n : Int) + 7).tdiv 8 = (k : Int) := by
  rw [<- hk2]
  rw [Int.tdiv_eq_ediv_of_nonneg (by omega)]
  omega
 have e1' : ((n : Int) + 8 - 1) / 8 = (k : Int) := by omega
 have hk3 : k <= 40000 := by omega
 have HS0 : Hid (Z4K w w n 0 (.slice none 0 0)) := ⟨Z0.refl _ _, World.ownsRow_nil _ _ _ _, fun _ e => by cases e⟩
 clear hk
 go_enter Tryz.func198, Tryz.ntmps198
 go_wp2_with fail
 rw [e1']
 go_loopw [11, 4, 5] (fun ci cv _ wr => ∃ (i : Nat) (v' : Value), i <= k /\ ci = .int .i64 (i : Int) /\ v' = cv /\ Z4K w wr n i v') (fun ci _ _ _ => k - (intOf ci).toNat)
 case atStart => exact ⟨0, _, Nat.zero_le _, rfl, rfl, HS0.out⟩
 case round =>
  obtain ⟨i, v', hi', rfl, rfl, hO⟩ := hrel
  clear HS0
  have HO := zh hO
  obtain ⟨Av, cv', hvv, _, _, _⟩ := Z9 hO.own
  subst hvv
  clear hO
  by_cases hlt : i < k
  ·obtain ⟨p, hp⟩ : ∃ p : Nat, n * i = p := ⟨_, rfl⟩
   obtain ⟨q, hq⟩ : ∃ q : Nat, n * (i + 1) = q := ⟨_, rfl⟩
   obtain ⟨a, ha⟩ : ∃ a : Nat, p / k = a := ⟨_, rfl⟩
   obtain ⟨b, hb⟩ : ∃ b : Nat, q / k = b := ⟨_, rfl⟩
   have hpb : p <= 40000 * 40000 := by rw [<- hp]; exact Nat.mul_le_mul hn (by omega)
   have hqb : q <= 40000 * 40000 := by rw [<- hq]; exact Nat.mul_le_mul hn (by omega)
   have hab : a <= p := by rw [<- ha]; exact Nat.div_le_self _ _
   have hbb : b <= q := by rw [<- hb]; exact Nat.div_le_self _ _
   have HA : Hid (cutAt n i = a) := by show n * i / ((n + 7) / 8) = a; rw [hk2, hp, ha]
   have HB : Hid (cutAt n (i + 1) = b) := by show n * (i + 1) / ((n + 7) / 8) = b; rw [hk2, hq, hb]
   have hpi : (n : Int) * (i : Int) = (p : Int) := by rw [<- hp]; simp
   have hqi : (n : Int) * ((i : Int) + 1) = (q : Int) := by rw [<- hq]; simp
   have m1 : IntKind.i64.wrap ((n : Int) * (i : Int)) = (p : Int) := by rw [hpi]; exact Z2H (by omega)
   have m2 : IntKind.i64.wrap ((n : Int) * ((i : Int) + 1)) = (q : Int) := by rw [hqi]; exact Z2H (by omega)
   have m3 : IntKind.i64.wrap ((i : Int) + 1) = (i : Int) + 1 := Z2H (by omega)
   have ta : (p : Int).tdiv (k : Int) = (a : Int) := by rw [<- ha]; rw [Int.tdiv_eq_ediv_of_nonneg (by omega)]; rfl
   have tb : (q : Int).tdiv (k : Int) = (b : Int) := by rw [<- hb]; rw [Int.tdiv_eq_ediv_of_nonneg (by omega)]; rfl
   have q1 : IntKind.i64.wrap ((p : Int).tdiv (k : Int)) = (a : Int) := by rw [ta]; exact Z2H (by omega)
   have q2 : IntKind.i64.wrap ((q : Int).tdiv (k : Int)) = (b : Int) := by rw [tb]; exact Z2H (by omega)
   have k0 : ¬ k = 0 := by omega
   have wa : IntKind.i64.wrap (a : Int) = (a : Int) := Z2H (by omega)
   have wb : IntKind.i64.wrap (b : Int) = (b : Int) := Z2H (by omega)
   clear hp hq ha hb hpi hqi hpb hqb hab hbb
   go_upto_region 6 with fail
   go_region_law (first
     | (refine Z1T Zgc rfl (.tmp 14) (.tmp 27) rfl rfl (Z4 HO.out.own (((Z0.refl (fun _ => False) wr).alloc (.cells #[.int .i64 (a : Int), .int .i64 (b : Int)] 307)).drew) (fun _ _ x => x)) rfl (Rd.kept (Rd.new wr 2 1 [.int .i64 (a : Int), .int .i64 (b : Int)] 307 (fun _ => True) rfl trivial) ((Z0.refl (fun _ => False) _).drew) (fun _ _ x => x)) (Ziw a b) (by unfold maxLen; omega) (by omega) ?_; intro v5 w5 hg5; have HO5 : Hid (Z4K w w5 n (i + 1) v5) := HO.out.push (((Z0.refl (fun _ => False) wr).alloc (.cells #[.int .i64 (a : Int), .int .i64 (b : Int)] 307)).drew) (by unfold Z8I; rw [HA.out, HB.out]; exact hg5); clear hg5)
     | fail)
   all_goals
    go_wp2
    go_roundw
    case rel => exact ⟨i + 1, v5, by omega, by go_num, rfl, HO5.out⟩
    case measure => simp [intOf]; omega
  ·have HR : Hid (Zac w n (.returned (.slice Av i cv')) wr) := ⟨_, rfl, by rw [HK.out, show k = i by omega]; exact HO.out⟩
   go_wp2
   go_ret
   exact HR.out
structure Z1g (K : Nat -> Prop) (h : Nat) (w0 w : World) (v : Value) (ks : List Kid) : Prop where
 quiet : Quiet w0 w
 row : w.ownsRow 0 163 1 v ks.length (kptrs ks)
 new : ∀ k, v.ownBlock = some k -> w0.heap.size <= k
 kid : ∀ x ∈ ks, x.xs ≠ [] /\ Zi K h w x.b x.F x.xs
 sub : ∀ x ∈ ks, ∀ k, x.F k -> w0.heap.size <= k /\ k < w.heap.size /\ v.ownBlock ≠ some k
 apart : ks.Pairwise (fun x y => ∀ k, x.F k -> ¬ y.F k)
theorem Z1g.start {K : Nat -> Prop} {h : Nat} {w0 w : World} (hq : Quiet w0 w) : Z1g K h w0 w (.slice none 0 0) [] :=
 ⟨hq, World.ownsRow_nil _ _ _ _, (fun _ e => by cases e), (fun x hx => by cases hx), (fun x hx => by cases hx), List.Pairwise.nil⟩
theorem Z1g.push {K : Nat -> Prop} {h : Nat} {w0 w w2 w5 : World} {v v5 : Value} {ks : List Kid} {x : Kid} (hK : ∀ k, K k -> k < w0.heap.size) (hF : Z1g K h w0 w v ks) (hq : Quiet w w2) (hx : x.xs ≠ [] /\ Zi K h w2 x.b x.F x.xs) (hs : ∀ k, x.F k -> w0.heap.size <= k /\ k < w2.heap.size /\ v.ownBlock ≠ some k) (ha : ∀ y ∈ ks, ∀ k, y.F k -> ¬ x.F k) (hg : ZW w2 w5 163 1 v v5 (ks.length + 1) (kptrs ks ++ [ptrV x.b])) : Z1g K h w0 w5 v5 (ks ++ [x]) := by
 have hz0 := hF.quiet.size
 have hz := hq.size
 have hz5 := hg.only.size
 have hKv : ∀ k, K k -> ¬ v.ownBlock = some k := fun k x e => by have := hK k x; have := hF.new k e; omega
 refine ⟨(hF.quiet.trans hq).trans' hg.only (fun k hk e => by have := hF.new k e; omega), ?_, fun k e => ?_, fun y hy => ?_, fun y hy k hk => ?_, ?_⟩
 ·rw [List.length_append, kptrs, List.map_append]
  exact hg.own
 ·rcases hg.loc with y | y
  ·rw [y] at e; exact hF.new k e
  ·rw [y] at e; injection e with e; omega
 ·rcases List.mem_append.1 hy with z | z
  ·exact ⟨(hF.kid y z).1, Zi.kept hg.only hKv (Zi.kept hq (fun _ _ x => x) (hF.kid y z).2 (fun _ _ x => x)) (fun k u e => (hF.sub y z k u).2.2 e)⟩
  ·simp at z
   subst z
   exact ⟨hx.1, Zi.kept hg.only hKv hx.2 (fun k u e => (hs k u).2.2 e)⟩
 ·have key : w0.heap.size <= k /\ k < w2.heap.size /\ v.ownBlock ≠ some k := by
   rcases List.mem_append.1 hy with z | z
   ·have := hF.sub y z k hk
    exact ⟨this.1, by omega, this.2.2⟩
   ·simp at z
    subst z
    exact hs k hk
  refine ⟨key.1, by omega, fun e => ?_⟩
  rcases hg.loc with u | u
  ·rw [u] at e; exact key.2.2 e
  ·rw [u] at e; injection e with e; omega
 ·rw [List.pairwise_append]
  refine ⟨hF.apart, List.pairwise_singleton _ _, fun y hy z hz k u => ?_⟩
  simp at hz
  subst hz
  exact ha y hy k u
theorem ZhG {K : Nat -> Prop} {w w2 : World} {xs : List EV} {v : Value} (hn : Z28 w w2 111 3 v xs.length (ZU xs)) (hk : ∀ x ∈ xs, Z17 w K x) : Zi K 0 (w2.alloc (.cells #[v, .slice none 0 0] 167)) w2.heap.size (fun k => k = w2.heap.size ∨ v.ownBlock = some k) xs :=
 ⟨v, Z5 w2 _, Z4 hn.own ((Z0.refl (fun _ => False) w2).alloc _) (fun _ _ x => x), fun x hx => ((hk x hx).quietly hn.quiet).quietly ((Z0.refl (fun _ => False) w2).alloc _), Or.inl rfl, fun k e => Or.inr e⟩
structure Up (K : Nat -> Prop) (h : Nat) (w1 w3 w : World) (vu : Value) (ks us : List Kid) (m : Nat) : Prop where
 up : Z1g K (h + 1) w1 w vu us
 nu : ∀ k, vu.ownBlock = some k -> w3.heap.size <= k
 old : Quiet w3 w
 sep : ∀ x ∈ ks.drop m, ∀ u ∈ us, ∀ k, x.F k -> ¬ u.F k
 flt : flat us = flat (ks.take m)
theorem Up.start {K : Nat -> Prop} {h : Nat} {w1 w3 : World} {vr : Value} {ks : List Kid} (hb : Z1g K h w1 w3 vr ks) : Up K h w1 w3 w3 (.slice none 0 0) ks [] 0 :=
 ⟨Z1g.start hb.quiet, (fun _ e => by cases e), Z0.refl _ _, (fun x _ u hu => by cases hu), rfl⟩
theorem Zix {ks : List Kid} (h : ks ≠ []) (hx : ∀ x ∈ ks, x.xs ≠ []) : flat ks ≠ [] := by
 rcases ks with _ | ⟨x, ks⟩
 ·exact absurd rfl h
 ·intro e
  unfold flat at e
  rw [List.flatMap_cons, List.append_eq_nil_iff] at e
  exact hx x (by simp) e.1
theorem Z1g.quietly {K : Nat -> Prop} {h : Nat} {w0 w w' : World} {v : Value} {ks : List Kid} (hF : Z1g K h w0 w v ks) (hq : Quiet w w') : Z1g K h w0 w' v ks := by
 have hz := hq.size
 exact ⟨hF.quiet.trans hq, Z4 hF.row hq (fun _ _ x => x), hF.new, fun x hx => ⟨(hF.kid x hx).1, Zi.kept hq (fun _ _ x => x) (hF.kid x hx).2 (fun _ _ x => x)⟩, fun x hx k hk => by have := hF.sub x hx k hk; exact ⟨this.1, by omega, this.2.2⟩, hF.apart⟩
theorem Up.push {K : Nat -> Prop} {h : Nat} {w1 w3 wr wa w4 w5 w7 : World} {vr vu u vl v7 : Value} {ks us grp : List Kid} {a b : Nat} (hK : ∀ k, K k -> k < w1.heap.size) (hb : Z1g K h w1 w3 vr ks) (hU : Up K h w1 w3 wr vu ks us a) (hab : a + 2 <= b) (hbn : b <= ks.length) (hgrp : (ks.drop a).take (b - a) = grp)
  (hqa : Quiet wr wa) (hu : Z28 wa w4 163 1 u grp.length (kptrs grp)) (hq : Quiet w4 w5) (hbox : w5.heap[w4.heap.size]? = some (.cells #[vl, u] 167 (0, 0))) (hrow : RowAt w5 vl (heads grp)) (hvl : ∀ k, vl.ownBlock = some k -> w4.heap.size < k)
  (hg : ZW (w5.alloc (.cells #[ptrV w4.heap.size] 163)) w7 163 1 vu v7 (us.length + 1) (kptrs us ++ [ptrV w4.heap.size])) : ∃ F, Up K h w1 w3 w7 v7 ks (us ++ [⟨w4.heap.size, F, flat grp⟩]) b := by
 have z1 := hU.up.quiet.size
 have z2 := hU.old.size
 have z3 := hqa.size
 have z4 := hu.quiet.size
 have z5 := hq.size
 have z0 := hb.quiet.size
 have hgl : grp.length = b - a := by rw [<- hgrp, List.length_take, List.length_drop]; omega
 have hgs : ∀ x ∈ grp, x ∈ ks.drop a := fun x hx => by rw [<- hgrp] at hx; exact List.mem_of_mem_take hx
 have hgk : ∀ x ∈ grp, x ∈ ks := fun x hx => List.mem_of_mem_drop (hgs x hx)
 have hq35 : Quiet w3 w5 := ((hU.old.trans hqa).trans hu.quiet).trans hq
 have hlb := Z2 hbox
 obtain ⟨ju, eu1, eu2⟩ := hu.loc
 have eu3 := (hu.own.lt ju eu1).2
 have hold : ∀ x ∈ ks, ∀ k, x.F k -> w1.heap.size <= k /\ k < w3.heap.size := fun x hx k hk => ⟨(hb.sub x hx k hk).1, (hb.sub x hx k hk).2.1⟩
 have hnode : Zi K (h + 1) w5 w4.heap.size (fun k => (k = w4.heap.size ∨ vl.ownBlock = some k ∨ u.ownBlock = some k) ∨ ∃ x ∈ grp, x.F k) (flat grp) := by
  refine ⟨vl, u, grp, ⟨hbox, hrow, Z4 hu.own hq (fun _ _ x => x), ⟨ju, eu1⟩, by omega, fun x hx => ⟨(hb.kid x (hgk x hx)).1, Zi.kept hq35 (fun _ _ x => x) (hb.kid x (hgk x hx)).2 (fun _ _ x => x)⟩, fun x hx k hk => ⟨Or.inr ⟨x, hx, hk⟩, ?_, ?_, ?_⟩, ?_, Or.inl (Or.inl rfl), fun k e => Or.inl (Or.inr (Or.inl e)), fun k e => Or.inl (Or.inr (Or.inr e))⟩, rfl⟩
  ·have := (hold x (hgk x hx) k hk).2; omega
  ·intro e; have := (hold x (hgk x hx) k hk).2; have := hvl k e; omega
  ·intro e; have := (hold x (hgk x hx) k hk).2; rw [eu1] at e; injection e with e; omega
  ·rw [<- hgrp]
   exact hb.apart.sublist ((List.take_sublist _ _).trans (List.drop_sublist _ _))
 have hne : flat grp ≠ [] := Zix (fun e => by rw [e] at hgl; simp at hgl; omega) (fun x hx => (hb.kid x (hgk x hx)).1)
 have hvu : ∀ k, vu.ownBlock = some k -> k < wr.heap.size := fun k e => (hU.up.row.lt k e).2
 have hq6 : Quiet wr (w5.alloc (.cells #[ptrV w4.heap.size] 163)) := (((hqa.trans hu.quiet).trans hq).alloc _)
 have hF7 := hU.up.push (x := ⟨w4.heap.size, _, flat grp⟩) hK hq6 ⟨hne, Zi.kept ((Z0.refl (fun _ => False) w5).alloc (.cells #[ptrV w4.heap.size] 163)) (fun _ _ x => x) hnode (fun _ _ x => x)⟩ (fun k x => by
     rw [World.size_alloc]
     rcases x with (x | x | x) | ⟨y, hy, x⟩
     · exact ⟨by omega, by omega, fun e => by have := hvu k e; omega⟩
     · have h1 := hvl k x
       have h2 := (hrow.lt k x).2
       exact ⟨by omega, by omega, fun e => by have := hvu k e; omega⟩
     · rw [eu1] at x
       injection x with x
       exact ⟨by omega, by omega, fun e => by have := hvu k e; omega⟩
     · have := hold y (hgk y hy) k x
       exact ⟨this.1, by omega, fun e => by have := hU.nu k e; omega⟩) (fun y hy k hk x => by
     have h1 := (hU.up.sub y hy k hk).2.1
     rcases x with (x | x | x) | ⟨z, hz, x⟩
     · omega
     · have := hvl k x; omega
     · rw [eu1] at x; injection x with x; omega
     · exact hU.sep z (hgs z hz) y hy k x hk) hg
 refine ⟨_, hF7, fun k e => ?_, ((hU.old.trans hqa).trans hu.quiet |>.trans hq |>.alloc _).trans' hg.only (fun k hk e => by have := hU.nu k e; omega), fun x hx y hy k hk hk' => ?_, ?_⟩
 ·rcases hg.loc with x | x
  ·rw [x] at e; exact hU.nu k e
  ·rw [x] at e; injection e with e; rw [World.size_alloc] at e; omega
 ·have hxa : x ∈ ks.drop a := by
   have e : ks.drop b = (ks.drop a).drop (b - a) := by rw [List.drop_drop]; congr 1; omega
   rw [e] at hx
   exact List.mem_of_mem_drop hx
  rcases List.mem_append.1 hy with z | z
  ·exact hU.sep x hxa y z k hk hk'
  ·simp at z
   subst z
   have h1 := hold x (List.mem_of_mem_drop hxa) k hk
   rcases hk' with (u1 | u1 | u1) | ⟨z, hz, u1⟩
   ·omega
   ·have := hvl k u1; omega
   ·rw [eu1] at u1; injection u1 with u1; omega
   ·have hap : (ks.take b ++ ks.drop b).Pairwise (fun x y => ∀ k, x.F k -> ¬ y.F k) := by rw [List.take_append_drop]; exact hb.apart
    rw [List.pairwise_append] at hap
    refine hap.2.2 z ?_ x hx k u1 hk
    rw [<- Z6B ks (show a <= b by omega), hgrp]
    exact List.mem_append_right _ hz
 ·rw [Zae, hU.flt, <- Z6B ks (show a <= b by omega), hgrp]
  unfold flat
  rw [List.flatMap_append]
structure Z54 (w4 w : World) (u vl : Value) (grp : List Kid) (t : Nat) : Prop where
 quiet : Quiet w4 w
 box : w.heap[w4.heap.size]? = some (.cells #[vl, u] 167 (0, 0))
 row : RowAt w vl (heads (grp.take t))
 new : ∀ k, vl.ownBlock = some k -> w4.heap.size < k
theorem Z54.start (w4 : World) (u : Value) (grp : List Kid) : Z54 w4 (w4.alloc (.cells #[.slice none 0 0, u] 167)) u (.slice none 0 0) grp 0 :=
 ⟨(Z0.refl _ _).alloc _, Z5 w4 _, World.ownsRow_nil _ _ _ _, (fun _ e => by cases e)⟩
theorem Z54.push {w4 w W w5 : World} {u vl v5 : Value} {grp : List Kid} {t : Nat} {x : Kid} (h : Z54 w4 w u vl grp t) (hx : grp[t]? = some x) (hq : Quiet w W) (hg : ZW W w5 111 3 vl v5 (t + 1) (ZU (heads (grp.take t)) ++ (hd x.xs).cells)) : Z54 w4 (w5.setCell ⟨w4.heap.size, 0, none⟩ v5) u v5 grp (t + 1) := by
 have hset : Z0 (· = w4.heap.size) w5 (w5.setCell ⟨w4.heap.size, 0, none⟩ v5) := (Z0.refl (· = w4.heap.size) w5).setCell (p := ⟨w4.heap.size, 0, none⟩) (fun _ => rfl) _
 have hb := Z2 h.box
 have hz := hq.size
 have hv5 : ∀ k, v5.ownBlock = some k -> w4.heap.size < k := fun k e => by
  rcases hg.loc with y | y
  ·rw [y] at e; exact h.new k e
  ·rw [y] at e; injection e with e; omega
 have hl := (zi.1 hx).1
 refine ⟨((h.quiet.trans hq).trans' hg.only (fun k hk e => by have := h.new k e; omega)).trans' hset (fun k hk e => by omega), by rw [Zf (hg.only.get (hq.get h.box (fun x => x)) (fun e => by have := h.new _ e; omega))]; rfl, ?_, hv5⟩
 have e1 : heads (grp.take (t + 1)) = heads (grp.take t) ++ [hd x.xs] := by rw [Z2K hx]; simp [heads]
 unfold RowAt
 rw [e1, Z1W, Z4C, List.length_append, heads, List.length_map, List.length_take, Nat.min_eq_left (by omega)]
 exact Z4 hg.own hset (fun k e y => by have := hv5 k e; omega)
def Zaf (K : Nat -> Prop) (w : World) (xs : List EV) (e : Ending) (w' : World) : Prop := ∃ b h F, e = .returned (ptrV b) /\ Quiet w w' /\ Zi K h w' b F xs /\ ∀ k, F k -> w.heap.size <= k /\ k < w'.heap.size
theorem Zdi {w w' : World} {n k i : Nat} {v : Value} {A : Option Addr} {c : Nat} (h : w.ownsRow 0 307 2 v k (Z3i n k)) (hv : v = .slice A k c) (hi : i < k) (hq : Z0 (fun _ => False) w w') : ∃ g, A = some ⟨g, 0, none⟩ /\ w'.cell? ⟨g, i * 2, none⟩ = some (.int .i64 (cutAt n i : Int)) /\ w'.cell? ⟨g, i * 2 + 1, none⟩ = some (.int .i64 (cutAt n (i + 1) : Int)) := by
 obtain ⟨h1, h2⟩ := Z8J n hi
 rcases ZJ h with ⟨_, e⟩ | ⟨g, c', e, _, _⟩
 ·omega
 ·subst e
  injection hv with e1 _ _
  subst e1
  refine ⟨g, rfl, ?_, ?_⟩
  ·have := h.cells rfl (i * 2) _ h1
   rw [Zq, Nat.zero_add] at this
   exact hq.cell this (fun x => x)
  ·have := h.cells rfl (i * 2 + 1) _ h2
   rw [Zq, Nat.zero_add] at this
   exact hq.cell this (fun x => x)
theorem Ziy {w : World} {S : Nat -> Prop} {g o n a b : Nat} {xs : List EV} (h : Rd w S 3 (some ⟨g, o, none⟩) n (ZU xs)) (hab : a <= b) (hb : b <= n) : Rd w S 3 (some ⟨g, o + a * 3, none⟩) (b - a) (ZU ((xs.drop a).take (b - a))) := by
 have := (h.drop (k := a) (by omega)).takeK (k := b - a) (by omega)
 rw [Z3U, Z3V]
 exact this
theorem ZhH {w : World} {S : Nat -> Prop} {g o n a b : Nat} {ks : List Kid} (h : Rd w S 1 (some ⟨g, o, none⟩) n (kptrs ks)) (hab : a <= b) (hb : b <= n) : Rd w S 1 (some ⟨g, o + a, none⟩) (b - a) (kptrs ((ks.drop a).take (b - a))) := by
 have := (h.drop (k := a) (by omega)).takeK (k := b - a) (by omega)
 rw [Nat.mul_one, Nat.mul_one] at this
 unfold kptrs at this ⊢
 rw [List.map_take, List.map_drop]
 exact this
theorem Z1g.leaf {K : Nat -> Prop} {w w0 wr w2 w5 : World} {v v1 v5 : Value} {ks : List Kid} {ys : List EV} (hK : ∀ k, K k -> k < w.heap.size) (hF : Z1g K 0 w wr v ks) (hq : Quiet wr w0) (hn : Z28 w0 w2 111 3 v1 ys.length (ZU ys)) (hk : ∀ x ∈ ys, Z17 w K x) (hy : ys ≠ [])
  (hg : ZW ((w2.alloc (.cells #[v1, .slice none 0 0] 167)).alloc (.cells #[ptrV w2.heap.size] 163)) w5 163 1 v v5 (ks.length + 1) (kptrs ks ++ [ptrV w2.heap.size])) : ∃ F, Z1g K 0 w w5 v5 (ks ++ [⟨w2.heap.size, F, ys⟩]) := by
 have z1 := hF.quiet.size
 have z2 := hq.size
 have z3 := hn.quiet.size
 have hq2 : Quiet wr w2 := hq.trans hn.quiet
 have hl := ZhG hn (fun x hx => (hk x hx).quietly (hF.quiet.trans hq))
 refine ⟨_, hF.push hK ((hq2.alloc _).alloc _) ⟨hy, Zi.kept ((Z0.refl (fun _ => False) _).alloc (.cells #[ptrV w2.heap.size] 163)) (fun _ _ x => x) hl (fun _ _ x => x)⟩ (fun k x => ?_) (fun y hy' k u x => ?_) hg⟩
 ·rw [World.size_alloc, World.size_alloc]
  rcases x with x | x
  ·exact ⟨by omega, by omega, fun e => by have := (hF.row.lt k e).2; omega⟩
  ·obtain ⟨j, e1, e2⟩ := hn.loc
   rw [e1] at x
   injection x with x
   have := (hn.own.lt j e1).2
   exact ⟨by omega, by omega, fun e => by have := (hF.row.lt k e).2; omega⟩
 ·have := (hF.sub y hy' k u).2.1
  rcases x with x | x
  ·omega
  ·obtain ⟨j, e1, e2⟩ := hn.loc
   rw [e1] at x
   injection x with x
   omega
theorem Zgd (K S : Nat -> Prop) (xs : List EV) (A : Option Addr) (n cap : Nat) (w : World) (hn : xs.length = n) (hr : Rd w S 3 A n (ZU xs)) (hk : ∀ x ∈ xs, Z17 w K x) (hK : ∀ k, K k -> k < w.heap.size) (hc : n <= cap) (hcap : cap <= maxLen) (hl : n <= 40000) :
  Calls Tryz.prog 178 #[.slice A n cap] w (Zaf K w xs) := by
 unfold maxLen at hcap
 have HN := zh hn
 have HR := zh hr
 have HK := zh hk
 have HKO := zh hK
 obtain ⟨m, hm⟩ : ∃ m, Z1Q n = m := ⟨_, rfl⟩
 have hml : m <= 40000 := by unfold Z1Q at hm; omega
 have HM := zh hm
 have HF0 := zh (trivial : True)
 have HP := zh (Zad n w hl)
 obtain ⟨Z8, Z6⟩ : ∃ Z8, Zaf K w xs = Z8 := ⟨_, rfl⟩
 have Zb := zh Z6
 rw [Z6]
 clear hn hr hk hK hm Z6
 go_enter Tryz.func178, Tryz.ntmps178
 go_wp2_with fail
 refine HP.out.mono ?_
 rintro e w1 ⟨vp, rfl, hp⟩
 rw [HM.out] at hp
 obtain ⟨Ap, cp, hvp, hcp, hcpm, _⟩ := Z9 hp.own
 subst hvp
 have HPA := zh hp
 have HKO1 : Hid (∀ k, K k -> k < w1.heap.size) := fun k x => by have := HKO.out k x; have := hp.quiet.size; omega
 clear HP hp
 go_wp2_with fail
 go_loopw [16, 3, 5] (fun ci cv _ wr => ∃ (i : Nat) (v' : Value) (ks : List Kid), i <= m /\ ci = .int .i64 (i : Int) /\ v' = cv /\ Z1g K 0 w1 wr v' ks /\ ks.length = i /\ flat ks = xs.take (cutAt n i)) (fun ci _ _ _ => m - (intOf ci).toNat)
 case atStart => exact ⟨0, _, [], Nat.zero_le _, rfl, rfl, Z1g.start (Z0.refl _ _), rfl, by rw [ZbO]; rfl⟩
 case round =>
  obtain ⟨i, v', ks, hi, rfl, rfl, hF, hkl, hfl⟩ := hrel
  clear HF0
  have HF := zh hF
  have HQI := zh hF.quiet
  have HFL := zh hfl
  have HKL := zh hkl
  obtain ⟨Av, cv', hvv, hcv, _, _⟩ := Z9 hF.row
  rw [hkl] at hvv hcv
  subst hvv
  clear hF hfl hkl
  by_cases hlt : i < m
  ·obtain ⟨a, ha⟩ : ∃ a, cutAt n i = a := ⟨_, rfl⟩
   obtain ⟨b, hb⟩ : ∃ b, cutAt n (i + 1) = b := ⟨_, rfl⟩
   have hn0 : 0 < n := by
    rcases Nat.eq_zero_or_pos n with z | z
    ·subst z; have := HM.out; rw [ZcI] at this; omega
    ·exact z
   have hab : a < b := by have := Ziu hn0 i; omega
   have hbn : b <= n := by rw [<- hb]; exact Zga (by have := HM.out; omega)
   obtain ⟨g, hA, p0, p1⟩ := Zdi HPA.out.own rfl hlt HQI.out
   rw [ha] at p0
   rw [hb] at p1
   subst hA
   have HAB := zh (And.intro ha hb)
   clear ha hb
   obtain ⟨gx, ox, hAx, _, _⟩ := HR.out.cells (by rw [Z5a, HN.out]; omega)
   subst hAx
   obtain ⟨ys, hys⟩ : ∃ ys, (xs.drop a).take (b - a) = ys := ⟨_, rfl⟩
   have HYL : Hid (ys.length = b - a) := by show ys.length = b - a; rw [<- hys, List.length_take, List.length_drop, HN.out]; omega
   have HYS := zh hys
   have HQA := zh (((Z0.refl (fun _ => False) wr).alloc (.cells #[.int .i64 (a : Int), .int .i64 (b : Int)] 307)))
   have HCL := zh (Z3W ⟨gx, ox + a * 3, none⟩ (b - a) (cap - a) _ _ _ ((Ziy (HR.out.kept (HPA.out.quiet.trans (HF.out.quiet.trans HQA.out)) (fun _ _ x => x)) (Nat.le_of_lt hab) hbn)) (Z1M _) (by omega))
   rw [hys] at HCL
   clear hys
   go_wp2_with fail
   refine HCL.out.mono ?_
   rintro e w2 ⟨v1, rfl, hn1⟩
   obtain ⟨A1, c1, hv1, _, _, _⟩ := Z9 hn1.own
   subst hv1
   have HN1 : Hid (Z28 (wr.alloc (.cells #[.int .i64 (a : Int), .int .i64 (b : Int)] 307)) w2 111 3 (.slice A1 (b - a) c1) ys.length (ZU ys)) := by rw [HYL.out]; exact hn1
   clear hn1 HCL p0 p1
   have HRD : Hid (Rd ((w2.alloc (.cells #[.slice A1 (b - a) c1, .slice none 0 0] 167)).alloc (.cells #[ptrV w2.heap.size] 163)) (fun _ => True) 1 (some ⟨w2.heap.size + 1, 0, none⟩) 1 [ptrV w2.heap.size]) := by
    have := Rd.new (w2.alloc (.cells #[.slice A1 (b - a) c1, .slice none 0 0] 167)) 1 1 [ptrV w2.heap.size] 163 (fun _ => True) rfl trivial
    rw [World.size_alloc] at this
    exact this
   have HRW := zh (Z4 HF.out.row (((HQA.out.trans HN1.out.quiet).alloc (.cells #[.slice A1 (b - a) c1, .slice none 0 0] 167)).alloc (.cells #[ptrV w2.heap.size] 163)) (fun _ _ x => x))
   have hkl1 : ks.length <= 40000 := by have := HKL.out; omega
   go_wp2_with (at_builtin; refine app Z38 rfl (.tmp 20) (.tmp 30) rfl rfl HRW.out rfl HRD.out (Z32 [w2.heap.size]) (by unfold maxLen; omega) (by omega) ?_)
   intro v5 w5 hg5
   have hyn : ys ≠ [] := fun e => by have := HYL.out; rw [e] at this; simp at this; omega
   have hkm : ∀ x ∈ ys, Z17 w1 K x := fun x hx => (HK.out x (List.mem_of_mem_drop (List.mem_of_mem_take (by rw [HYS.out]; exact hx)))).quietly HPA.out.quiet
   obtain ⟨F, hF5⟩ := HF.out.leaf HKO1.out HQA.out HN1.out hkm hyn hg5
   have HF5 := zh hF5
   have HFL5 : Hid (flat (ks ++ [⟨w2.heap.size, F, ys⟩]) = xs.take (cutAt n (i + 1))) := by
    rw [Zae, HFL.out, HAB.out.1, HAB.out.2, <- HYS.out]
    exact Z6B xs (Nat.le_of_lt hab)
   clear hg5 hF5 HRD HRW hyn hkm HF HFL HQI HQA HN1 hkl1
   go_wp2
   go_roundw
   case rel => exact ⟨i + 1, v5, _, by omega, by go_num, rfl, HF5.out, by rw [List.length_append, HKL.out]; rfl, HFL5.out⟩
   case measure => simp [intOf]; omega
  ·obtain rfl : i = m := by omega
   have HFX : Hid (flat ks = xs) := by show flat ks = xs; rw [HFL.out, <- HM.out, Z9g, List.take_of_length_le (by rw [HN.out]; omega)]
   have HFS := zh HF.out
   clear HFL HQI
   by_cases hi0 : i = 0
   ·subst hi0
    have hx0 : xs = [] := by
     have h1 := HKL.out
     have h2 : ks = [] := List.eq_nil_of_length_eq_zero h1
     rw [<- HFX.out, h2]; rfl
    have HRES : Hid (Z8 (.returned (ptrV wr.heap.size)) (wr.alloc (.cells #[.slice none 0 0, .slice none 0 0] 167))) := by
     have hz1 := HPA.out.quiet.size
     have hz2 := HF.out.quiet.size
     rw [<- Zb.out]
     exact ⟨_, 0, fun k => k = wr.heap.size, rfl, (HPA.out.quiet.trans HF.out.quiet).alloc _, ⟨_, Z5 wr _, (by rw [hx0]; exact World.ownsRow_nil _ _ _ _), (fun x hx => by rw [hx0] at hx; cases hx), rfl, (fun k e => by cases e)⟩, fun k e => by rw [World.size_alloc]; omega⟩
    go_wp2
    exact HRES.out
   ·have hib : ((i : Int) == 0) = false := by simp; omega
    go_wp2_with fail
    go_loopw [3, 6, 8, 9, 11] (fun c3 _ _ _ _ wr => ∃ (h : Nat) (v' : Value) (ks : List Kid), v' = c3 /\ Z1g K h w1 wr v' ks /\ 1 <= ks.length /\ flat ks = xs) (fun c3 _ _ _ _ _ => Zh6 c3)
    case atStart => exact ⟨0, _, ks, rfl, HFS.out, by have := HKL.out; omega, HFX.out⟩
    case round =>
     obtain ⟨h, v', ks2, rfl, hF2, hk1, hfx⟩ := hrel
     obtain ⟨m2, hm2⟩ : ∃ m2, ks2.length = m2 := ⟨_, rfl⟩
     have hm2l : m2 <= n := by have := Z9b (fun x hx => (hF2.kid x hx).1); rw [hfx, HN.out] at this; omega
     obtain ⟨A2, c2, hv2, hc2, hc2m, _⟩ := Z9 hF2.row
     rw [hm2] at hv2 hc2 hk1
     subst hv2
     have HF2 := zh hF2
     have HFX2 := zh hfx
     have HM2 := zh hm2
     clear hF2 hfx hm2 HF HFS HFX HKL
     by_cases hone : 1 < m2
     ·obtain ⟨q2, hq2⟩ : ∃ q2, Z1Q m2 = q2 := ⟨_, rfl⟩
      have hq2l : q2 <= 40000 := by unfold Z1Q at hq2; omega
      have hq2m : q2 < m2 := by rw [<- hq2]; exact Zgb hone
      have hq2p : 0 < q2 := by rw [<- hq2]; exact ZeB (by omega)
      have HP2 := zh (Zad m2 wr (by omega))
      have HQ2 := zh hq2
      clear hq2
      go_wp2_with fail
      refine HP2.out.mono ?_
      rintro e w3 ⟨vp2, rfl, hp2⟩
      rw [HQ2.out] at hp2
      obtain ⟨Ap2, cp2, hvp2, hcp2, hcpm2, _⟩ := Z9 hp2.own
      subst hvp2
      have HPA2 := zh hp2
      have HB := zh (HF2.out.quietly hp2.quiet)
      clear HP2 hp2 HF2
      go_wp2_with fail
      go_loopw [45, 6, 8, 9, 11] (fun ci cv _ _ _ wr => ∃ (i : Nat) (v' : Value) (us : List Kid), i <= q2 /\ ci = .int .i64 (i : Int) /\ v' = cv /\ Up K h w1 w3 wr v' ks2 us (cutAt m2 i) /\ us.length = i) (fun ci _ _ _ _ _ => q2 - (intOf ci).toNat)
      case atStart => exact ⟨0, _, [], Nat.zero_le _, rfl, rfl, by rw [ZbO]; exact Up.start HB.out, rfl⟩
      case round =>
       obtain ⟨j, v', us, hj, rfl, rfl, hU, hul⟩ := hrel
       have HU := zh hU
       have HUL := zh hul
       obtain ⟨Au, cu, hvu, hcu, _, _⟩ := Z9 hU.up.row
       rw [hul] at hvu hcu
       subst hvu
       clear hU hul
       by_cases hjq : j < q2
       ·obtain ⟨a, ha⟩ : ∃ a, cutAt m2 j = a := ⟨_, rfl⟩
        obtain ⟨b, hb⟩ : ∃ b, cutAt m2 (j + 1) = b := ⟨_, rfl⟩
        have hab : a + 2 <= b := by have := Ziv (show 2 <= m2 by omega) j; omega
        have hbn : b <= m2 := by rw [<- hb]; exact Zga (by have := HQ2.out; omega)
        obtain ⟨g, hA, p0, p1⟩ := Zdi HPA2.out.own rfl hjq HU.out.old
        rw [ha] at p0
        rw [hb] at p1
        subst hA
        rw [ha] at HU
        have HAB := zh hb
        clear ha hb
        obtain ⟨grp, hgrp⟩ : ∃ grp, (ks2.drop a).take (b - a) = grp := ⟨_, rfl⟩
        have HGL : Hid (grp.length = b - a) := by show grp.length = b - a; rw [<- hgrp, List.length_take, List.length_drop, HM2.out]; omega
        have HGRP := zh hgrp
        have HQA := zh (((Z0.refl (fun _ => False) wr).alloc (.cells #[.int .i64 (a : Int), .int .i64 (b : Int)] 307)))
        obtain ⟨A2', c2', hv2', _, _, hrd2⟩ := Z9 HB.out.row
        injection hv2' with e1 e2 e3
        rw [<- e1, HM2.out] at hrd2
        clear e1 e2 e3
        obtain ⟨g2, o2, hA2, _, _⟩ := hrd2.cells (by rw [kptrs, List.length_map, HM2.out]; omega)
        subst hA2
        have hrdg := ZhH (hrd2.kept (HU.out.old.trans HQA.out) (fun _ _ x => x)) (show a <= b by omega) hbn
        rw [hgrp] at hrdg
        have HCL := zh (Z5I ⟨g2, o2 + a, none⟩ (b - a) (c2 - a) _ _ _ hrdg (Z6n _) (by omega))
        clear hgrp hrd2 hrdg
        go_wp2_with fail
        refine HCL.out.mono ?_
        rintro e w4 ⟨u, rfl, hn4⟩
        obtain ⟨A4, c4, hv4, _, _, _⟩ := Z9 hn4.own
        subst hv4
        have HN4 : Hid (Z28 (wr.alloc (.cells #[.int .i64 (a : Int), .int .i64 (b : Int)] 307)) w4 163 1 (.slice A4 (b - a) c4) grp.length (kptrs grp)) := by rw [HGL.out]; exact hn4
        obtain ⟨g4, hA4⟩ : ∃ g4, A4 = some ⟨g4, 0, none⟩ := by
         rcases ZJ hn4.own with ⟨_, e⟩ | ⟨g4, c4', e, _, _⟩
         ·omega
         ·injection e with e1 _ _
          exact ⟨g4, e1⟩
        subst hA4
        obtain ⟨l4, hl4⟩ : ∃ l4, b - a = l4 := ⟨_, rfl⟩
        rw [hl4] at HGL HN4
        have HL4 := zh hl4
        have hl4m : l4 <= 40000 := by omega
        rw [hl4]
        have HH0 := zh (Z54.start w4 (.slice (some ⟨g4, 0, none⟩) l4 c4) grp)
        have HUP : Hid (∀ (w5 w7 : World) (vl v7 : Value), Z54 w4 w5 (.slice (some ⟨g4, 0, none⟩) l4 c4) vl grp l4 -> ZW (w5.alloc (.cells #[ptrV w4.heap.size] 163)) w7 163 1 (.slice Au j cu) v7 (j + 1) (kptrs us ++ [ptrV w4.heap.size]) -> ∃ F, Up K h w1 w3 w7 v7 ks2 (us ++ [⟨w4.heap.size, F, flat grp⟩]) b) := fun w5 w7 vl v7 hH hg => Up.push HKO1.out HB.out HU.out hab (by rw [HM2.out]; exact hbn) HGRP.out HQA.out HN4.out hH.quiet hH.box (by have := hH.row; rw [List.take_of_length_le (by rw [HGL.out]; exact Nat.le_refl _)] at this; exact this) hH.new (by rw [HUL.out]; exact hg)
        have HROWU : Hid (∀ w5 : World, Quiet w4 w5 -> w5.ownsRow 0 163 1 (.slice Au j cu) us.length (kptrs us)) := fun w5 hq => Z4 HU.out.up.row ((HQA.out.trans HN4.out.quiet).trans hq) (fun _ _ x => x)
        have HKIDS : Hid (∀ w5 : World, Quiet w4 w5 -> ∀ x ∈ ks2, x.xs ≠ [] /\ Zi K h w5 x.b x.F x.xs) := fun w5 hq x hx => ⟨(HB.out.kid x hx).1, Zi.kept (((HU.out.old.trans HQA.out).trans HN4.out.quiet).trans hq) (fun _ _ x => x) (HB.out.kid x hx).2 (fun _ _ x => x)⟩
        have HUROW : Hid (∀ w5 : World, Quiet w4 w5 -> ∀ (t : Nat) (x : Kid), grp[t]? = some x -> w5.cell? ⟨g4, t, none⟩ = some (ptrV x.b)) := fun w5 hq t x hx => by
         have := (Z4 HN4.out.own hq (fun _ _ x => x)).cells rfl t (ptrV x.b) (by rw [kptrs, List.getElem?_map, hx]; rfl)
         rw [Zq, Nat.zero_add] at this
         exact this
        have HUSL : Hid (us.length = j /\ j <= 40000) := ⟨HUL.out, by omega⟩
        clear hn4 hl4 HCL p0 p1
        go_wp2_with fail
        go_loopw [63, 11] (fun ci _ wr => ∃ (t : Nat) (vl : Value), t <= l4 /\ ci = .int .i64 (t : Int) /\ Z54 w4 wr (.slice (some ⟨g4, 0, none⟩) l4 c4) vl grp t) (fun ci _ _ => l4 - (intOf ci).toNat)
        case atStart => exact ⟨0, _, Nat.zero_le _, rfl, HH0.out⟩
        case round =>
         obtain ⟨t, vl, ht, rfl, hH⟩ := hrel
         clear HH0
         have HH := zh hH
         clear hH
         by_cases htl : t < l4
         ·obtain ⟨x, hx⟩ : ∃ x, grp[t]? = some x := ⟨_, zg (by have := HGL.out; omega)⟩
          have hxk : x ∈ ks2 := List.mem_of_mem_drop (List.mem_of_mem_take (by have e := HGRP.out; rw [e]; exact List.mem_of_getElem? hx))
          have r0 := HUROW.out wr HH.out.quiet t x hx
          have hkid := HKIDS.out wr HH.out.quiet x hxk
          have HLE : Hid (∀ W, Quiet wr W -> Calls Tryz.prog 83 #[ptrV x.b] W fun e w' => e = .returned (entV (hd x.xs).e (hd x.xs).A (hd x.xs).c) /\ Quiet W w') := fun W hW => Z6o (Zi.kept hW (fun _ _ x => x) hkid.2 (fun _ _ x => x)) hkid.1
          obtain ⟨Al, cl, hvl, _, _, _⟩ := Z9 HH.out.row
          have htk : (heads (grp.take t)).length = t := by rw [heads, List.length_map, List.length_take]; have := HGL.out; omega
          rw [htk] at hvl
          subst hvl
          have HTK := zh htk
          have hbx := HH.out.box
          have b0 : wr.cell? ⟨w4.heap.size, 0, none⟩ = some (.slice Al t cl) := by rw [Z1 hbx]; rfl
          have HNV : Hid (∀ k, (Value.slice Al t cl).ownBlock = some k -> k ≠ w4.heap.size) := fun k e => by have := HH.out.new k e; omega
          have HX := zh hx
          have d0 : (0 : Int) <= (t : Int) := by omega
          have d1 : (t : Int) < (l4 : Int) := by omega
          have HROWT : Hid (wr.ownsRow 0 111 3 (.slice Al t cl) t (ZU (heads (grp.take t)))) := by have := HH.out.row; unfold RowAt at this; rw [HTK.out] at this; exact this
          clear hx hxk hkid htk hbx
          go_upto_region 18 with fail
          go_region_law (first
            | (go_simp; go_at_call 83; refine (HLE.out _ (Z0.refl (fun _ => False) wr).drew).mono ?_; rintro e w6 ⟨rfl, hq6⟩; have k6 : w6.cell? ⟨w4.heap.size, 0, none⟩ = some (.slice Al t cl) := hq6.cell (by exact b0) (fun x => x); have hl6 : w4.heap.size < w6.heap.size := Ze k6; have hn6 : ¬ w4.heap.size = w6.heap.size := (by omega))
            | (refine Z1T Z2V rfl (.tmp 71) (.tmp 74) rfl rfl (Z4 (Z4 (by exact HROWT.out) hq6 (fun _ _ x => x)) ((Z0.refl (fun _ => False) w6).alloc _) (fun _ _ x => x)) rfl (Rd.new w6 3 1 (hd x.xs).cells 111 (fun _ => True) rfl trivial) (Z1M [hd x.xs]) (by unfold maxLen; omega) (by omega) ?_; intro v5 w5 hg5; have hb5 := hg5.only.get (Zd (hq6.get (by exact HH.out.box) (fun x => x)) _) (fun e => HNV.out _ e rfl); obtain ⟨A5, c5, hv5, _, _, _⟩ := Z9 hg5.own; subst hv5; have s1 : w5.cell? ⟨w4.heap.size, 0, none⟩ = some (.slice Al t cl) := (by rw [Z1 hb5]; rfl); have s2 := fun o => Z7 hb5 o)
            | fail)
          all_goals
           have HH5 := zh (HH.out.push HX.out (((Z0.refl (fun _ => False) wr).drew.trans hq6).alloc (.cells #[.slice (hd x.xs).A (hd x.xs).e.key.length (hd x.xs).c, .int .i64 (hd x.xs).e.pg, .int .i64 (hd x.xs).e.sl] 111)) (by exact hg5))
           clear hg5 hq6 s1 s2 hb5 k6 hl6 hn6 b0 r0
           go_wp2
           go_roundw
           case rel => exact ⟨t + 1, _, by omega, by go_num, HH5.out⟩
           case measure => simp [intOf]; omega
         ·obtain rfl : t = l4 := by omega
          have hus := HUSL.out
          have HRU := zh (Z4 (HROWU.out wr HH.out.quiet) ((Z0.refl (fun _ => False) wr).alloc (.cells #[ptrV w4.heap.size] 163)) (fun _ _ x => x))
          go_wp2_with (at_builtin; refine app Z38 rfl (.tmp 79) (.tmp 81) rfl rfl HRU.out rfl (Rd.new wr 1 1 [ptrV w4.heap.size] 163 (fun _ => True) rfl trivial) (Z32 [w4.heap.size]) (by unfold maxLen; omega) (by omega) ?_)
          intro v7 w7 hg7
          obtain ⟨F, hU7⟩ := HUP.out wr w7 vl v7 HH.out hg7
          rw [<- HAB.out] at hU7
          have HU7 := zh hU7
          have hul7 : (us ++ [(⟨w4.heap.size, F, flat grp⟩ : Kid)]).length = j + 1 := by rw [List.length_append, hus.1]; rfl
          have HUL7 := zh hul7
          clear hg7 hU7 hul7 HRU HUP HROWU HKIDS HUROW hus
          go_wp2
          go_roundw
          case rel => exact ⟨j + 1, v7, _, by omega, by go_num, rfl, HU7.out, HUL7.out⟩
          case measure => simp [intOf]; omega
       ·obtain rfl : j = q2 := by omega
        have HRX : Hid (1 <= us.length /\ flat us = xs) := by
         refine ⟨by have := HUL.out; omega, ?_⟩
         rw [HU.out.flt, <- HQ2.out, Z9g, List.take_of_length_le (by have := HM2.out; omega)]
         exact HFX2.out
        go_wp2
        go_roundw
        case rel => exact ⟨h + 1, _, us, rfl, HU.out.up, HRX.out.1, HRX.out.2⟩
        case measure => show j < m2; omega
     ·obtain rfl : m2 = 1 := by omega
      obtain ⟨x, hx⟩ : ∃ x, ks2 = [x] := List.length_eq_one_iff.1 HM2.out
      rcases ZJ HF2.out.row with ⟨_, e⟩ | ⟨g2, c2', e, _, _⟩
      ·rw [HM2.out] at e; omega
      ·rw [HM2.out] at e
       injection e with e1 _ e3
       subst e1 e3
       have r0 : wr.cell? ⟨g2, 0, none⟩ = some (ptrV x.b) := by
        have := HF2.out.row.cells rfl 0 (ptrV x.b) (by rw [hx]; rfl)
        rw [Zq, Nat.zero_add] at this
        exact this
       have HRES : Hid (Z8 (.returned (ptrV x.b)) wr) := by
        have hz1 := HPA.out.quiet.size
        rw [<- Zb.out]
        refine ⟨x.b, h, x.F, rfl, HPA.out.quiet.trans HF2.out.quiet, ?_, fun k e => ?_⟩
        ·have := (HF2.out.kid x (by rw [hx]; simp)).2
         rw [<- HFX2.out, hx]
         simpa [flat] using this
        ·have := HF2.out.sub x (by rw [hx]; simp) k e
         omega
       clear hx
       go_wp2
       exact HRES.out
theorem ZX.built {w0 w w' : World} {D : Nat -> Prop} {tb rb h rb' h' : Nat} {F K F' : Nat -> Prop} {xs xs' : List EV} {cnt c' : Int} (hm : ZX w0 w D tb rb h F K xs cnt) (hq : Quiet w w') (hn : Zi K h' w' rb' F' xs') (hF : ∀ k, F' k -> w.heap.size <= k /\ k < w'.heap.size) (hc : c' = (xs'.length : Int)) :
  ZX w0 ((w'.setCell ⟨tb, 0, none⟩ (ptrV rb')).setCell ⟨tb, 1, none⟩ (.int .i64 c')) D tb rb' h' F' K xs' c' := by
 have hz := hq.size
 have hz0 := hm.only.size
 have htb := Z2 hm.box
 have ho : Z0 (· = tb) w' ((w'.setCell ⟨tb, 0, none⟩ (ptrV rb')).setCell ⟨tb, 1, none⟩ (.int .i64 c')) := ((Z0.refl (· = tb) w').setCell (p := ⟨tb, 0, none⟩) (fun _ => rfl) _).setCell (p := ⟨tb, 1, none⟩) (fun _ => rfl) _
 have hzo := ho.size
 refine ⟨(hm.only.trans' hq (fun _ _ x => x.elim)).trans' ho (fun k _ e => by rw [e]; exact hm.own.1), ?_, Zi.kept ho (fun k hk e => (hm.subK k hk).2.2.1 e) hn (fun k hk e => by have := (hF k hk).1; omega), fun k hk => ?_, fun k hk => ?_, hm.own⟩
 ·rw [Zf (Zf (hq.get hm.box (fun x => x)) 0 _) 1 _]; rfl
 ·have := hF k hk
  exact ⟨Or.inr (by omega), by omega, by omega⟩
 ·have := hm.subK k hk
  exact ⟨this.1, fun x => by have := (hF k x).1; omega, this.2.2.1, by omega⟩
structure Z5T (w2 wr : World) (v : Value) (ys : List EV) : Prop where
 quiet : Quiet w2 wr
 row : RowAt wr v ys
 new : ∀ k, v.ownBlock = some k -> w2.heap.size <= k
theorem Z5T.quietly {w2 wr w' : World} {v : Value} {ys : List EV} (h : Z5T w2 wr v ys) (hq : Quiet wr w') : Z5T w2 w' v ys := ⟨h.quiet.trans hq, Z4 h.row hq (fun _ _ x => x), h.new⟩
theorem Z5T.push {w2 wr wa w5 : World} {v v5 : Value} {ys : List EV} {x : EV} {m : Nat} (h : Z5T w2 wr v ys) (hm : ys.length = m) (hq : Quiet wr wa) (hg : ZW wa w5 111 3 v v5 (m + 1) (ZU ys ++ x.cells)) : Z5T w2 w5 v5 (ys ++ [x]) := by
 have h1 := h.quiet.size
 have h2 := hq.size
 refine ⟨(h.quiet.trans hq).trans' hg.only (fun k hk e => by have := h.new k e; omega), ?_, fun k e => ?_⟩
 ·unfold RowAt
  rw [Z1W, Z4C, List.length_append, hm]
  exact hg.own
 ·rcases hg.loc with y | y
  ·rw [y] at e; exact h.new k e
  ·rw [y] at e; injection e with e; omega
def Z8K (w : World) (D : Nat -> Prop) (tb : Nat) (es : List Ent) (ps : List (Int × Int)) (r : Ending) (w' : World) : Prop :=
 r = .returned (.int .i64 ((es.length : Int) - ((Z1w ps es).length : Int))) /\ Z0 D w w' /\ Z08 w' (fun k => D k ∨ w.heap.size <= k) tb (Z1w ps es)
theorem ZeD (w : World) (D : Nat -> Prop) (tb : Nat) (es : List Ent) (ps : List (Int × Int)) (A : Option Addr) (m c : Nat) (S : Nat -> Prop) (ht : Z08 w D tb es) (hr : Rd w S 2 A m (ZM ps)) (hpl : ps.length = m) (hwp : ∀ p ∈ ps, Wf p) (hwe : ∀ e ∈ es, Wf (e.pg, e.sl)) (hm : m <= 10000) (hn : es.length <= 10000) :
  Calls Tryz.prog 139 #[ptrV tb, .slice A m c] w (Z8K w D tb es ps) := by
 obtain ⟨rb, h, F, K, xs, hmid, hes, hris⟩ := ht
 subst hes
 have hxl : xs.length <= 10000 := by simpa using hn
 have HMID := zh hmid
 have HRIS := zh hris
 have HR := zh hr
 have HPL := zh hpl
 have HWP := zh hwp
 have HWE : Hid (∀ x ∈ xs, Wf (x.e.pg, x.e.sl)) := fun x hx => hwe x.e (List.mem_map.2 ⟨x, hx, rfl⟩)
 have hex : (ents xs).length = xs.length := by simp
 have HS0 : Hid (Z1J (w.alloc (.map #[] 0)) w.heap.size []) := ZfB w
 have HQ0 : Hid (Quiet w (w.alloc (.map #[] 0))) := (Z0.refl _ _).alloc _
 obtain ⟨Z8, Z6⟩ : ∃ Z8, Z8K w D tb (ents xs) ps = Z8 := ⟨_, rfl⟩
 rw [Z6]
 have Zb := zh Z6
 have HEX := zh hex
 have hmm := @run_makeMap Tryz.prog
 clear hmid hris hr hpl hwp hwe Z6 hn hex
 go_enter Tryz.func139, Tryz.ntmps139
 go_wp2_with fail
 go_loopw [17, 7] (fun ci _ wr => ∃ i : Nat, i <= m /\ ci = .int .i64 (i : Int) /\ Quiet w wr /\ Z1J wr w.heap.size (ps.take i)) (fun ci _ _ => m - (intOf ci).toNat)
 case atStart => exact ⟨0, Nat.zero_le _, rfl, HQ0.out, HS0.out⟩
 case round =>
  obtain ⟨i, hi, rfl, hq, hs⟩ := hrel
  clear HS0 HQ0
  have HQ := zh hq
  have HS := zh hs
  clear hq hs
  by_cases hlt : i < m
  ·obtain ⟨p, hp⟩ : ∃ p, ps[i]? = some p := ⟨_, zg (by have := HPL.out; omega)⟩
   obtain ⟨b, off, rfl, _, c0, c1⟩ := Zge (HR.out.kept HQ.out (fun _ _ x => x)) hp
   have HP := zh hp
   have HWF := zh (HWP.out p (List.mem_of_getElem? hp))
   have HSA := zh (HS.out.kept ((Z0.refl (fun _ => False) wr).alloc (.cells #[.int .i64 p.1, .int .i64 p.2] 48)) (fun x => x))
   have HPT : Hid (ps.take i ++ [p] = ps.take (i + 1)) := (Z2K hp).symm
   have hpl : (ps.take i).length < maxLen := by unfold maxLen; rw [List.length_take]; omega
   have HLL := zh hpl
   have d0 : (0 : Int) <= (i : Int) := by omega
   have d1 : (i : Int) < (m : Int) := by omega
   clear hp hpl
   go_wp2_with (first | (at_mapUpdate; refine Zh4 rfl _ _ _ rfl rfl rfl rfl HSA.out HWF.out HLL.out ?_) | fail)
   intro w3 hs3 ho3
   have HQ3 : Hid (Quiet w w3) := (HQ.out.alloc _).trans' ho3 (fun k hk e => by omega)
   rw [HPT.out] at hs3
   have HS3 := zh hs3
   clear hs3 ho3 c0 c1 HSA HS HPT
   go_wp2
   go_roundw
   case rel => exact ⟨i + 1, by omega, by go_num, HQ3.out, HS3.out⟩
   case measure => simp [intOf]; omega
  ·have hsl : ps.take i = ps := List.take_of_length_le (by have := HPL.out; omega)
   have HSE : Hid (Z1J wr w.heap.size ps) := by have := HS.out; rw [hsl] at this; exact this
   have HM1 := zh (HMID.out.quietly HQ.out)
   obtain ⟨c0, c1, cf⟩ := HM1.out.cells
   have HALL := zh (ZiV K h F _ rb xs [] (.slice none 0 0) HM1.out.node (fun k x => ⟨by
     rcases x with x | x
     · exact (HM1.out.subF k x).2.2
     · exact (HM1.out.subK k x).2.2.2, fun z => by cases z⟩) (World.ownsRow_nil _ _ _ _) (by simp; omega))
   clear hsl HS
   go_wp2_with fail
   refine HALL.out.mono ?_
   rintro r w2 ⟨v2, rfl, ho2⟩
   have hq2 : Quiet wr w2 := ho2.only.mono (fun k _ e => by cases e)
   have hrow2 := ho2.row
   rw [List.nil_append] at hrow2
   obtain ⟨n, hnn⟩ : ∃ n, xs.length = n := ⟨_, rfl⟩
   have HN := zh hnn
   obtain ⟨A2, c2, hv2, hc2, hcm2, hr2⟩ := Z9 hrow2
   rw [hnn] at hv2 hc2 hxl
   have HR2 := zh hr2
   have HM2 := zh (HM1.out.quietly hq2)
   have HSE2 := zh (HSE.out.kept hq2 (fun x => x))
   have HKEY := zh HM2.out.node.key
   subst hv2
   clear ho2 hq2 hrow2 hr2 hnn HALL HM1 HSE c0 c1 cf HMID
   go_wp2_with fail
   go_loopw [30, 8, 10] (fun ci cv _ wr => ∃ (j : Nat) (v' : Value), j <= n /\ ci = .int .i64 (j : Int) /\ v' = cv /\ Z5T w2 wr v' (Z0J ps (xs.take j))) (fun ci _ _ _ => n - (intOf ci).toNat)
   case atStart => exact ⟨0, _, Nat.zero_le _, rfl, rfl, Z0.refl _ _, World.ownsRow_nil _ _ _ _, fun k e => by cases e⟩
   case round =>
    obtain ⟨j, v', hj, rfl, rfl, hW⟩ := hrel
    have HW := zh hW
    obtain ⟨Av, cv', hvv, _, _, _⟩ := Z9 hW.row
    obtain ⟨q, hq⟩ : ∃ q, (Z0J ps (xs.take j)).length = q := ⟨_, rfl⟩
    have hqn : q <= j := by have := Zgf ps (xs.take j); rw [List.length_take] at this; omega
    have HQL := zh hq
    rw [hq] at hvv
    subst hvv
    clear hW hq
    by_cases hjn : j < n
    ·obtain ⟨x, hx⟩ : ∃ x, xs[j]? = some x := ⟨_, zg (by have := HN.out; omega)⟩
     obtain ⟨b, off, rfl, r0, r1, r2⟩ := Z6m (HR2.out.kept HW.out.quiet (fun _ _ x => x)) hx
     have HWA := zh (HW.out.quietly ((Z0.refl (fun _ => False) wr).alloc (.cells #[.slice x.A x.e.key.length x.c, .int .i64 x.e.pg, .int .i64 x.e.sl] 111)))
     have HSE3 := zh (HSE2.out.kept HWA.out.quiet (fun x => x))
     have HWF := zh (HWE.out x (List.mem_of_getElem? hx))
     have HTS := zh (Z2K hx)
     obtain ⟨x0, x1, x2⟩ := Z1B (Z5 wr (.cells #[.slice x.A x.e.key.length x.c, .int .i64 x.e.pg, .int .i64 x.e.sl] 111))
     have d0 : (0 : Int) <= (j : Int) := by omega
     have d1 : (j : Int) < (n : Int) := by omega
     clear hx
     by_cases hin : Z9h ps x.e = true
     ·have HP : Hid (Z0J ps (xs.take (j + 1)) = Z0J ps (xs.take j)) := by
       show Z0J ps (xs.take (j + 1)) = Z0J ps (xs.take j)
       rw [HTS.out, ZhI _ hin]
      have hin' : decide ((x.e.pg, x.e.sl) ∈ ps) = true := hin
      have HIN := zh hin'
      clear hin hin'
      go_wp2_with (first | (at_lookup; refine Z9O rfl _ _ rfl rfl rfl HSE3.out HWF.out HIN.out ?_) | fail)
      go_wp2
      go_roundw
      case rel => exact ⟨j + 1, _, by omega, by go_num, rfl, by rw [HP.out]; exact HWA.out⟩
      case measure => simp [intOf]; omega
     ·have hin0 : Z9h ps x.e = false := by simpa using hin
      have HP : Hid (Z0J ps (xs.take (j + 1)) = Z0J ps (xs.take j) ++ [x]) := by
       show Z0J ps (xs.take (j + 1)) = Z0J ps (xs.take j) ++ [x]
       rw [HTS.out, Zgg _ hin0]
      have hin' : decide ((x.e.pg, x.e.sl) ∈ ps) = false := hin0
      have HIN := zh hin'
      have HROW : Hid (((wr.alloc (.cells #[.slice x.A x.e.key.length x.c, .int .i64 x.e.pg, .int .i64 x.e.sl] 111)).alloc (.cells #[.slice x.A x.e.key.length x.c, .int .i64 x.e.pg, .int .i64 x.e.sl] 111)).ownsRow 0 111 3 (.slice Av q cv') q (ZU (Z0J ps (xs.take j)))) := by
       have := Z4 HWA.out.row ((Z0.refl (fun _ => False) _).alloc (.cells #[.slice x.A x.e.key.length x.c, .int .i64 x.e.pg, .int .i64 x.e.sl] 111)) (fun _ _ x => x)
       rw [HQL.out] at this
       exact this
      have HQ4 := zh ((Z0.refl (fun _ => False) (wr.alloc (.cells #[.slice x.A x.e.key.length x.c, .int .i64 x.e.pg, .int .i64 x.e.sl] 111))).alloc (.cells #[.slice x.A x.e.key.length x.c, .int .i64 x.e.pg, .int .i64 x.e.sl] 111))
      have HRN : Hid (Rd ((wr.alloc (.cells #[.slice x.A x.e.key.length x.c, .int .i64 x.e.pg, .int .i64 x.e.sl] 111)).alloc (.cells #[.slice x.A x.e.key.length x.c, .int .i64 x.e.pg, .int .i64 x.e.sl] 111)) (fun _ => True) 3 (some ⟨wr.heap.size + 1, 0, none⟩) 1 x.cells) := by
       have := Rd.new (wr.alloc (.cells #[.slice x.A x.e.key.length x.c, .int .i64 x.e.pg, .int .i64 x.e.sl] 111)) 3 1 x.cells 111 (fun _ => True) rfl trivial
       rw [World.size_alloc] at this
       exact this
      clear hin hin0 hin'
      go_wp2_with (first
        | (at_lookup; refine Z9O rfl _ _ rfl rfl rfl HSE3.out HWF.out HIN.out ?_)
        | (at_builtin; refine app Z2V rfl (.tmp 39) (.tmp 41) rfl rfl HROW.out rfl HRN.out (Z1M [x]) (by unfold maxLen; omega) (by omega) ?_)
        | fail)
      intro v5 w5 hg5
      have hW5 := HWA.out.push HQL.out HQ4.out hg5
      rw [<- HP.out] at hW5
      have HW5 := zh hW5
      clear hg5 hW5 HROW HQ4 HWA r0 r1 r2 x0 x1 x2
      go_wp2
      go_roundw
      case rel => exact ⟨j + 1, _, by omega, by go_num, rfl, HW5.out⟩
      case measure => simp [intOf]; omega
    ·have hsx : xs.take j = xs := List.take_of_length_le (by have := HN.out; omega)
     have hW := HW.out
     have hQL := HQL.out
     rw [hsx] at hW hQL
     have HM3 := zh (HM2.out.quietly hW.quiet)
     obtain ⟨c0, c1, cf⟩ := HM3.out.cells
     rw [HN.out] at c1
     by_cases hqn2 : q < n
     ·have hkey3 : ∀ y ∈ Z0J ps xs, Z17 wr K y := fun y hy => (HKEY.out y (Zgh hy)).quietly hW.quiet
      obtain ⟨A4, c4, hv4, hc4, hcm4, hrd4⟩ := Z9 hW.row
      rw [hQL] at hv4 hc4 hrd4
      injection hv4 with e1 _ e3
      subst e1 e3
      have HB := zh (Zgd K _ (Z0J ps xs) Av q cv' wr hQL hrd4 hkey3 (fun k x => (HM3.out.subK k x).2.2.2) hc4 hcm4 (by omega))
      have HPL2 := zh hQL
      have d0 : ((0 : Int) < (n : Int) - (q : Int)) := by omega
      clear hsx hW hQL hkey3 hc4 hcm4 hrd4 HQL HW
      go_wp2_with fail
      refine HB.out.mono ?_
      rintro r w5 ⟨rb5, h5, F5, rfl, hq5, hn5, hF5⟩
      obtain ⟨k0, k1, kf⟩ := (HM3.out.quietly hq5).cells
      have HRES : Hid (Z8 (.returned (.int .i64 ((n : Int) - (q : Int)))) ((w5.setCell ⟨tb, 0, none⟩ (ptrV rb5)).setCell ⟨tb, 1, none⟩ (.int .i64 (q : Int)))) := by
       have h6 := HM3.out.built hq5 hn5 hF5 (c' := (q : Int)) (by rw [HPL2.out])
       rw [<- Zb.out]
       have h7 : (Z1w ps (ents xs)).length = q := by rw [<- Z3j, List.length_map, HPL2.out]
       refine ⟨by rw [HEX.out, HN.out, h7], h6.only, ?_⟩
       have := h6.is (by rw [HPL2.out]) (by rw [Z3j]; exact HRIS.out.prune ps)
       rw [Z3j] at this
       exact this
      clear hn5 hF5 hq5 HB HM3 c0 c1 cf
      go_wp2
      exact HRES.out
     ·have hsame := ZeC (ps := ps) (xs := xs) (by rw [hQL, HN.out]; omega)
      have HRES : Hid (Z8 (.returned (.int .i64 ((n : Int) - (q : Int)))) wr) := by
       rw [<- Zb.out]
       have h7 : (Z1w ps (ents xs)).length = q := by rw [<- Z3j, List.length_map, hQL]
       refine ⟨by rw [HEX.out, HN.out, h7], HM3.out.only, ?_⟩
       rw [<- Z3j, hsame]
       exact HM3.out.is rfl HRIS.out
      have d0 : ¬ ((0 : Int) < (n : Int) - (q : Int)) := by omega
      clear hsx hW hQL hsame HQL HW
      go_wp2
      exact HRES.out
theorem Z19.same {s : St} {a b : Nat} (h : Z19 s a) (k : Z19 s b) : a = b := by
 by_cases e : ∃ x y, s.sn x = some y
 ·obtain ⟨x, y, e1, e2⟩ := h.some_ e
  obtain ⟨x', y', e3, e4⟩ := k.some_ e
  have h1 := h.least x' y' e3
  have h2 := k.least x y e1
  omega
 ·have e' : ∀ x, s.sn x = none := fun x => by
   rcases hx : s.sn x with _ | y
   ·rfl
   ·exact absurd ⟨x, y, hx⟩ e
  rw [h.none_ e', k.none_ e']
theorem Z8L {w : World} {sb id hz : Nat} {o : Nat -> Nat} {s : St} {H : List (List (Option Tup))} {pg sl : Int} {v : Tup} (h : Zm w sb o s) (hid : U64 id) (hH : s.hs id = some H) (hg : ZR H pg sl = some v) (hx1 : U64 v.xmin) (hx2 : U64 v.xmax) :
  Calls Tryz.prog 138 #[ptrV sb, .int .u64 (id : Int), .agg #[.int .i64 pg, .int .i64 sl], .int .u64 (hz : Int)] w (Z0p w (Z0v s.L v.xmin v.xmax hz)) := by
 obtain ⟨lb, bb, pb, mh, mt, ms, fh, ft, fs, h⟩ := h
 obtain ⟨hb, hfh, hp⟩ := h.heaps.2 id H hH
 have HH := zh h
 have HP := zh hp
 have HF := zh hfh
 have HID := zh hid
 have HGV := zh hg
 have HV1 := zh (And.intro hx1 hx2)
 obtain ⟨r, hrv⟩ : ∃ r, Z0v s.L v.xmin v.xmax hz = r := ⟨_, rfl⟩
 have HRV := zh hrv
 obtain ⟨Z8, Z6⟩ : ∃ Z8, Z0p w (Z0v s.L v.xmin v.xmax hz) = Z8 := ⟨_, rfl⟩
 rw [Z6]
 rw [hrv] at Z6
 have Zb := zh Z6
 have hqb : Quiet w (w.alloc (.cells #[.int .i64 pg, .int .i64 sl] 48)) := (Z0.refl _ _).alloc _
 have hat := Z5 w (.cells #[.int .i64 pg, .int .i64 sl] 48)
 obtain ⟨at_, hat_⟩ : ∃ at_, w.heap.size = at_ := ⟨_, rfl⟩
 rw [hat_] at hat
 clear h hfh hp hid hg hx1 hx2 hrv Z6 hH
 go_enter Tryz.func138, Tryz.ntmps138
 go_wp2_with fail
 (try rw [hat_])
 generalize w.alloc (.cells #[.int .i64 pg, .int .i64 sl] 48) = wb at *
 have HQB := zh hqb
 have HAT := zh hat
 clear hqb hat hat_
 have HS5 : Hid (∀ W, Quiet wb W -> (fun w' => w'.cell? ⟨sb, 3, none⟩ = some (.map (some mh)) /\ w'.cell? ⟨at_, 0, none⟩ = some (.int .i64 pg) /\ w'.cell? ⟨at_, 1, none⟩ = some (.int .i64 sl) /\ (Instr.lookup 74 (.map (some mh)) (.int .u64 (id : Int)) false).run Tryz.prog w' = .ok (ptrV hb) w') W) := fun W hq => by
  have hq2 := HQB.out.trans hq
  have h2 := HH.out.quietly hq2
  have b7 := hq.get HAT.out (fun x => x)
  exact ⟨h2.cells.2.2.2.1, by rw [Z1 b7]; rfl, by rw [Z1 b7]; rfl, Z1n h2.mH HF.out HID.out⟩
 have HGET : Hid (∀ W, Quiet wb W -> Calls Tryz.prog 38 #[ptrV hb, .agg #[.int .i64 pg, .int .i64 sl]] W (Z21 W v)) := fun W hq => Z2J pg sl v (HP.out.kept (HQB.out.trans hq) (fun _ _ x => x)) HGV.out
 apply Z73 (wb := wb) (t := v)
 case main =>
       intro KEY
       refine zH HS5 (Z0.refl _ _).drew (fun Z3 => ?_)
       have q0 : Quiet wb wb.drew := (Z0.refl _ _).drew
       generalize wb.drew = d0 at q0 Z3 ⊢
       refine zT 0 ?_
       refine zT 1 ?_
       refine zT 2 ?_
       refine zT 3 ?_
       refine zT 4 ?_
       refine zT 5 ?_
       refine zT 6 ?_
       refine wpAnyH_ready (rs := [7, 11]) (by kernel_rfl) (by simp) ?_
       refine zA ?_ ?_
       · intro K hK
         go_simp
         go_at_call 38
         refine (HGET.out _ q0).mono ?_
         rintro e d2 ⟨A4, c4, rfl, hf4⟩
         have q2 := q0.trans hf4.quiet
         have hown := hf4.own
         have hfn : ∀ k, (Value.slice A4 v.data.length c4).ownBlock = some k -> wb.heap.size <= k := fun k e => Nat.le_trans (q0).size (hf4.new k e)
         clear hf4
         unfold Zt
         dsimp only
         refine hK.out _ _ ?_ (fun Z3 => ?_)
         · exact HS5.out _ q2
         clear hK K
         (try simp only [Act.put, zPA, zPZ, zPS])
         refine zT 8 ?_
         refine zT 9 ?_
         refine zT 10 ?_
         refine zR 11 ?_
         intro K hK
         go_simp
         refine hK.out _ _ ?_ (fun Z3 => ?_)
         · exact HS5.out _ (q2.alloc _)
         clear hK K
         (try simp only [Act.put, zPA, zPZ, zPS])
         have qd3 : Quiet wb (d2.alloc (.cells #[.int .u64 0, .int .u64 0, .int .u64 0, .int .i64 0, .int .i64 0, .slice none 0 0] 104)) := q2.alloc _
         have hb1 := Z5 d2 (.cells #[.int .u64 0, .int .u64 0, .int .u64 0, .int .i64 0, .int .i64 0, .slice none 0 0] 104)
         have hnp : wb.heap.size <= d2.heap.size := q2.size
         have hown := Z4 hown ((Z0.refl (fun _ => False) d2).alloc (.cells #[.int .u64 0, .int .u64 0, .int .u64 0, .int .i64 0, .int .i64 0, .slice none 0 0] 104)) (fun _ _ x => x)
         obtain ⟨pt, hpt⟩ : ∃ pt, d2.heap.size = pt := ⟨_, rfl⟩
         rw [hpt] at hb1 hnp ⊢
         generalize d2.alloc (.cells #[.int .u64 0, .int .u64 0, .int .u64 0, .int .i64 0, .int .i64 0, .slice none 0 0] 104) = d3 at *
         clear hpt
         obtain ⟨z0, z1, z2, z3, z4, z5⟩ := zC6 hb1
         have zf := fun o => Z7 hb1 o
         refine zR 12 ?_
         intro K hK
         go_simp
         refine hK.out _ _ ?_ (fun Z3 => ?_)
         · exact HS5.out _ (Z0G qd3 hb1 hnp hown hfn).quiet
         clear hK K
         (try simp only [Act.put, zPA, zPZ, zPS])
         have HG := Z0G qd3 hb1 hnp hown hfn
         unfold sixSet at HG
         refine zT 13 ?_
         refine zD ?_
         generalize ((((((d3.setCell ⟨pt, 0, none⟩ (.int .u64 v.row)).setCell ⟨pt, 1, none⟩ (.int .u64 v.xmin)).setCell ⟨pt, 2, none⟩ (.int .u64 v.xmax)).setCell ⟨pt, 3, none⟩ (.int .i64 v.pg)).setCell ⟨pt, 4, none⟩ (.int .i64 v.sl)).setCell ⟨pt, 5, none⟩ (.slice A4 v.data.length c4)) = WF at HG ⊢
         exact KEY _ _ _ _ HG
       refine zA ?_ AllReadyH.nil
       intro K hK
       go_simp
       refine hK.out _ _ ?_ (fun Z3 => ?_)
       · exact HS5.out _ (q0.alloc _)
       clear hK K
       (try simp only [Act.put, zPA, zPZ, zPS])
       have qd1 : Quiet wb (d0.alloc (.cells #[.int .u64 0, .int .u64 0, .int .u64 0, .int .i64 0, .int .i64 0, .slice none 0 0] 104)) := q0.alloc _
       have hb1 := Z5 d0 (.cells #[.int .u64 0, .int .u64 0, .int .u64 0, .int .i64 0, .int .i64 0, .slice none 0 0] 104)
       have hnp : wb.heap.size <= d0.heap.size := q0.size
       obtain ⟨pt, hpt⟩ : ∃ pt, d0.heap.size = pt := ⟨_, rfl⟩
       rw [hpt] at hb1 hnp ⊢
       generalize d0.alloc (.cells #[.int .u64 0, .int .u64 0, .int .u64 0, .int .i64 0, .int .i64 0, .slice none 0 0] 104) = d1 at *
       clear hpt
       refine zR 7 ?_
       intro K hK
       go_simp
       go_at_call 38
       refine (HGET.out _ qd1).mono ?_
       rintro e d2 ⟨A4, c4, rfl, hf4⟩
       have q2 := qd1.trans hf4.quiet
       have hb2 := hf4.quiet.get hb1 (fun x => x)
       have hown := hf4.own
       have hfn : ∀ k, (Value.slice A4 v.data.length c4).ownBlock = some k -> wb.heap.size <= k := fun k e => Nat.le_trans (qd1).size (hf4.new k e)
       clear hf4
       unfold Zt
       dsimp only
       refine hK.out _ _ ?_ (fun Z3 => ?_)
       · exact HS5.out _ q2
       clear hK K
       (try simp only [Act.put, zPA, zPZ, zPS])
       obtain ⟨z0, z1, z2, z3, z4, z5⟩ := zC6 hb2
       have zf := fun o => Z7 hb2 o
       refine zT 8 ?_
       refine zT 9 ?_
       refine zT 10 ?_
       refine zR 12 ?_
       intro K hK
       go_simp
       refine hK.out _ _ ?_ (fun Z3 => ?_)
       · exact HS5.out _ (Z0G q2 hb2 hnp hown hfn).quiet
       clear hK K
       (try simp only [Act.put, zPA, zPZ, zPS])
       have HG := Z0G q2 hb2 hnp hown hfn
       unfold sixSet at HG
       refine zT 13 ?_
       refine zD ?_
       generalize ((((((d2.setCell ⟨pt, 0, none⟩ (.int .u64 v.row)).setCell ⟨pt, 1, none⟩ (.int .u64 v.xmin)).setCell ⟨pt, 2, none⟩ (.int .u64 v.xmax)).setCell ⟨pt, 3, none⟩ (.int .i64 v.pg)).setCell ⟨pt, 4, none⟩ (.int .i64 v.sl)).setCell ⟨pt, 5, none⟩ (.slice A4 v.data.length c4)) = WF at HG ⊢
       exact KEY _ _ _ _ HG
 case key =>
  intro A4 c4 pt W HL0
  have HL := zh HL0
  clear HL0 HS5 HGET
  have HQW : Hid (Quiet w W) := HQB.out.trans HL.out.quiet
  have HS6 : Hid (∀ W', Quiet W W' -> (fun w' => w'.cell? ⟨sb, 0, none⟩ = some (ptrV lb) /\ w'.cell? ⟨pt, 0, none⟩ = some (.int .u64 v.row) /\ w'.cell? ⟨pt, 1, none⟩ = some (.int .u64 v.xmin) /\ w'.cell? ⟨pt, 2, none⟩ = some (.int .u64 v.xmax) /\ w'.cell? ⟨pt, 3, none⟩ = some (.int .i64 v.pg) /\ w'.cell? ⟨pt, 4, none⟩ = some (.int .i64 v.sl) /\ w'.cell? ⟨pt, 5, none⟩ = some (.slice A4 v.data.length c4)) W') := fun W' hq => by
   have bt := hq.get HL.out.box (fun x => x)
   refine ⟨((HH.out.quietly HQW.out).quietly hq).cells.1, ?_, ?_, ?_, ?_, ?_, ?_⟩ <;> (rw [Z1 bt]; rfl)
  have HDEAD : Hid (∀ W', Quiet W W' -> Calls Tryz.prog 39 #[ptrV lb, Zt v A4 c4, .int .u64 (hz : Int)] W' (Z0p W' r)) := fun W' hq => by
   rw [<- HRV.out]
   exact Z6h v A4 c4 hz ((HH.out.quietly HQW.out).quietly hq).log HV1.out.1 HV1.out.2
  unfold Zt at HDEAD
  go_wp2_with fail
  refine zH HS6 (Z0.refl _ _).drew (fun Z3 => ?_)
  have q6 : Quiet W W.drew := (Z0.refl _ _).drew
  generalize W.drew = d6 at q6 Z3 ⊢
  refine zT 0 ?_
  refine zT 1 ?_
  refine zT 2 ?_
  refine zT 3 ?_
  refine zT 4 ?_
  refine zT 5 ?_
  refine zT 6 ?_
  refine zT 7 ?_
  refine zR 8 ?_
  intro K hK
  go_simp
  go_at_call 39
  refine (HDEAD.out _ q6).mono ?_
  rintro e d7 ⟨rfl, hq7⟩
  have q7 := q6.trans hq7
  clear hq7
  dsimp only
  refine hK.out _ _ ?_ (fun Z3 => ?_)
  ·exact HS6.out _ q7
  clear hK K
  (try simp only [Act.put, zPA, zPZ, zPS])
  refine zT 9 ?_
  refine zT 10 ?_
  refine zD ?_
  have Zc : Hid (Z8 (.returned (.bool r)) d7) := by
   rw [<- Zb.out]
   exact ⟨rfl, HQW.out.trans q7⟩
  clear Z3 q6 q7 HS6 HDEAD
  go_wp2
  exact Zc.out
theorem ZcJ {w : World} {sb id : Nat} {o : Nat -> Nat} {s : St} {H : List (List (Option Tup))} (h : Zm w sb o s) (hid : U64 id) (hH : s.hs id = some H) :
  Calls Tryz.prog 98 #[ptrV sb, .int .u64 (id : Int)] w (fun e w' => e = .returned (.int .i64 (H.length : Int)) /\ Quiet w w') := by
 obtain ⟨lb, bb, pb, mh, mt, ms, fh, ft, fs, h⟩ := h
 obtain ⟨_, _, _, c3, _⟩ := h.cells
 have lsb := Ze c3
 dsimp only at lsb
 obtain ⟨hb, hf, hp⟩ := h.heaps.2 id H hH
 have hlk := Z1n h.mH hf hid
 have HPG := zh (Z8c hp)
 clear h hp hf
 go_enter Tryz.func98, Tryz.ntmps98
 go_wp2_with fail
 refine HPG.out.mono ?_
 rintro e w1 ⟨rfl, rfl⟩
 go_wp2
 go_ret
 exact ⟨rfl, Z0.refl _ _⟩
theorem Z9i {p : Int} {T : List (Option Tup)} {k : Nat} {H : List (List (Option Tup))} (hT : H[k]? = some T) (hp : p = (k : Int)) {a : Int × Int} (h : a ∈ Zl p T T.length) : ∃ v, ZR H a.1 a.2 = some v := by
 obtain ⟨e1, t, e2⟩ := Zbd h
 exact ⟨t, by rw [e1, hp, Z23 _ hT]; exact e2⟩
def Z2m (H : List (List (Option Tup))) : Prop := ∀ pg sl v, ZR H pg sl = some v -> U64 v.xmin /\ U64 v.xmax
theorem ZbP {w : World} {sb id hz k N : Nat} {o : Nat -> Nat} {s : St} {H : List (List (Option Tup))} {T : List (Option Tup)} (h : Zm w sb o s) (hid : U64 id) (hH : s.hs id = some H) (hT : H[k]? = some T) (hnum : Z2m H) (hh : Z19 s hz) (hL : s.L.length < 1000000000) (hN : ∀ x y, s.sn x = some y -> x <= N) (hN2 : N <= 2000000) (hlen : (Zl (k : Int) T T.length).length <= 1000000) :
  Calls Tryz.prog 99 #[ptrV sb, .int .u64 (id : Int), .int .i64 (k : Int)] w (Z1b w ((Zl (k : Int) T T.length).filter (Z0b s.L H hz))) := by
 have HST := zh h
 obtain ⟨lb, bb, pb, mh, mt, ms, fh, ft, fs, h⟩ := h
 obtain ⟨_, _, _, c3, _⟩ := h.cells
 have lsb := Ze c3
 dsimp only at lsb
 obtain ⟨hb, hf, hp⟩ := h.heaps.2 id H hH
 have hlk := Z1n h.mH hf hid
 have HPL := zh (Z8k k T hp hT)
 have HID := zh hid
 have HHH := zh hH
 have HNUM := zh hnum
 have HHZ := zh hh
 have HNN := zh (And.intro hL (And.intro hN hN2))
 have HPN : Hid (∀ a ∈ Zl (k : Int) T T.length, ∃ v, ZR H a.1 a.2 = some v) := fun a ha => Z9i hT rfl ha
 obtain ⟨Z8, Z6⟩ : ∃ Z8, Z1b w ((Zl (k : Int) T T.length).filter (Z0b s.L H hz)) = Z8 := ⟨_, rfl⟩
 rw [Z6]
 obtain ⟨pl, hpl⟩ : ∃ pl, Zl (k : Int) T T.length = pl := ⟨_, rfl⟩
 rw [hpl] at HPL HPN Z6 hlen
 have Zb := zh Z6
 obtain ⟨n, hn⟩ : ∃ n, pl.length = n := ⟨_, rfl⟩
 rw [hn] at hlen
 have HN := zh hn
 clear h hp hf hid hH hT hnum hh hL hN hN2 Z6 hpl hn
 go_enter Tryz.func99, Tryz.ntmps99
 go_wp2_with fail
 refine HPL.out.mono ?_
 rintro e w1 ⟨vp, rfl, hq1, _, hr1⟩
 obtain ⟨A3, c3_, rfl, hc3, hm3, hrd⟩ := Z9 hr1
 have HQ1 := zh hq1
 have HLD := zh hrd
 have hnn := HN.out
 rw [hnn] at hc3 ⊢
 unfold maxLen at hm3
 clear hq1 hr1 hrd hnn HPL hlk
 go_wp2_with fail
 go_loopw [21, 7, 9] (fun i v _ wr => ∃ (k : Nat) (v' : Value), k <= n /\ i = .int .i64 (k : Int) /\ v = v' /\ Z1x w1 wr v' ((pl.take k).filter (Z0b s.L H hz))) (fun i _ _ _ => n - (intOf i).toNat)
 case atStart => exact ⟨0, _, Nat.zero_le _, rfl, rfl, Z1x.start (Z0.refl _ _)⟩
 case round =>
  obtain ⟨j, v', hk, rfl, rfl, hW⟩ := hrel
  have HW := zh hW
  clear hW
  by_cases hlt : j < n
  ·obtain ⟨⟨pg, sl⟩, ha⟩ : ∃ a, pl[j]? = some a := ⟨_, zg (by have := HN.out; omega)⟩
   obtain ⟨v, hgv⟩ := HPN.out (pg, sl) (List.mem_of_getElem? ha)
   obtain ⟨hx1, hx2⟩ := HNUM.out pg sl v hgv
   obtain ⟨bl, ofl, rfl, _, la, lb2⟩ := Z3K (HLD.out.kept HW.out.quiet (fun _ _ x => x)) ha
   obtain ⟨r, hrv⟩ : ∃ r, Z0v s.L v.xmin v.xmax hz = r := ⟨_, rfl⟩
   have HTK : Hid ((pl.take (j + 1)).filter (Z0b s.L H hz) = (pl.take j).filter (Z0b s.L H hz) ++ if r then [(pg, sl)] else []) := by
    show _ = _
    rw [List.take_add_one, ha, Option.toList_some, List.filter_append]
    have e1 : Z0b s.L H hz (pg, sl) = r := by unfold Z0b; rw [hgv]; exact hrv
    cases r <;> simp [e1]
   have HPLN : Hid (((pl.take j).filter (Z0b s.L H hz)).length <= j) := by
    have h1 := List.length_filter_le (Z0b s.L H hz) (pl.take j)
    rw [List.length_take] at h1
    show _ <= _
    omega
   have hqb : Quiet wr (wr.alloc (.cells #[.int .i64 pg, .int .i64 sl] 48)) := (Z0.refl _ _).alloc _
   have hat := Z5 wr (.cells #[.int .i64 pg, .int .i64 sl] 48)
   obtain ⟨at_, hat_⟩ : ∃ at_, wr.heap.size = at_ := ⟨_, rfl⟩
   rw [hat_] at hat
   have HQB : Hid (Quiet w (wr.alloc (.cells #[.int .i64 pg, .int .i64 sl] 48))) := (HQ1.out.trans HW.out.quiet).trans hqb
   have HWB := zh (HW.out.quietly hqb)
   have HDD : Hid (∀ W, Quiet (wr.alloc (.cells #[.int .i64 pg, .int .i64 sl] 48)) W -> Calls Tryz.prog 138 #[ptrV sb, .int .u64 (id : Int), .agg #[.int .i64 pg, .int .i64 sl], .int .u64 (hz : Int)] W (Z0p W r)) := fun W hq => by
    rw [<- hrv]
    exact Z8L (HST.out.quietly (HQB.out.trans hq)) HID.out HHH.out hgv hx1 hx2
   have HHO : Hid (∀ W, Quiet (wr.alloc (.cells #[.int .i64 pg, .int .i64 sl] 48)) W -> Calls Tryz.prog 36 #[ptrV sb] W (fun e w' => e = .returned (.int .u64 (hz : Int)) /\ Quiet W w')) := fun W hq => by
    refine (Z2Q (HST.out.quietly (HQB.out.trans hq)) HNN.out.1 HNN.out.2.1 HNN.out.2.2).mono ?_
    rintro e w' ⟨z, rfl, hh, hq'⟩
    rw [hh.same HHZ.out]
    exact ⟨rfl, hq'⟩
   dsimp only at la lb2
   clear ha hgv hx1 hx2 hrv
   go_wp2_with fail
   (try rw [hat_])
   generalize wr.alloc (.cells #[.int .i64 pg, .int .i64 sl] 48) = wb at *
   have HAT := zh hat
   clear la lb2 hat hqb hat_
   have HS6 : Hid (∀ W, Quiet wb W -> (fun w' => w'.cell? ⟨at_, 0, none⟩ = some (.int .i64 pg) /\ w'.cell? ⟨at_, 1, none⟩ = some (.int .i64 sl)) W) := fun W hq => by
    have b7 := hq.get HAT.out (fun x => x)
    exact ⟨by rw [Z1 b7]; rfl, by rw [Z1 b7]; rfl⟩
   generalize (pl.take j).filter (Z0b s.L H hz) = fl at HWB HTK HPLN
   refine zH HS6 (Z0.refl _ _).drew (fun Z3 => ?_)
   have q0 : Quiet wb wb.drew := (Z0.refl _ _).drew
   generalize wb.drew = d0 at q0 Z3 ⊢
   refine zT 0 ?_
   refine zT 1 ?_
   refine zT 2 ?_
   refine zT 3 ?_
   refine zR 4 ?_
   intro K hK
   go_simp
   go_at_call 36
   refine (HHO.out _ q0).mono ?_
   rintro e d1 ⟨rfl, hq1⟩
   have q1 := q0.trans hq1
   clear hq1
   dsimp only
   refine hK.out _ _ ?_ (fun Z3 => ?_)
   ·exact HS6.out _ q1
   clear hK K
   (try simp only [Act.put, zPA, zPZ, zPS])
   refine zR 5 ?_
   intro K hK
   go_simp
   go_at_call 138
   refine (HDD.out _ q1).mono ?_
   rintro e d2 ⟨rfl, hq2⟩
   have q2 := q1.trans hq2
   clear hq2
   dsimp only
   refine hK.out _ _ ?_ (fun Z3 => ?_)
   ·exact HS6.out _ q2
   clear hK K
   (try simp only [Act.put, zPA, zPZ, zPS])
   refine zD ?_
   have HW7 := zh (HWB.out.quietly q2)
   have HA7 := zh (q2.get HAT.out (fun x => x))
   clear Z3 q0 q1 q2 HS6 HDD HHO HW HWB
   cases r with
   | false =>
    have Zc := HW7
    rw [if_neg (by decide), List.append_nil] at HTK
    rw [<- HTK.out] at Zc
    go_wp2
    go_roundw
    case rel => exact ⟨j + 1, _, by omega, by go_num, rfl, Zc.out⟩
    case measure => simp [intOf]; omega
   | true =>
    rw [if_pos rfl] at HTK
    have a0 : d2.cell? ⟨at_, 0, none⟩ = some (.int .i64 pg) := by rw [Z1 HA7.out]; rfl
    have a1 : d2.cell? ⟨at_, 1, none⟩ = some (.int .i64 sl) := by rw [Z1 HA7.out]; rfl
    have lat := Ze a0
    dsimp only at lat
    have HOWN : Hid (World.ownsRow (d2.alloc (.cells #[.int .i64 pg, .int .i64 sl] 48)) 0 48 2 u7 fl.length (ZM fl)) := Z4 HW7.out.row ((Z0.refl (fun _ => False) d2).alloc _) (fun _ _ x => x)
    have HRD := zh (Rd.new d2 2 1 (ZM [(pg, sl)]) 48 (fun _ => True) rfl trivial)
    have hfl := HPLN.out
    go_wp2_with (at_builtin; refine app Z4z rfl (.tmp 31) (.tmp 33) rfl rfl HOWN.out rfl HRD.out (Z4y [(pg, sl)]) (by unfold maxLen; omega) (by omega) ?_)
    intro v4 w4 hg4
    have HP := zh (HW7.out.step (p := (pg, sl)) hg4)
    rw [<- HTK.out] at HP
    clear hg4 HOWN HRD
    go_wp2
    go_roundw
    case rel => exact ⟨j + 1, _, by omega, by go_num, rfl, HP.out⟩
    case measure => simp [intOf]; omega
  ·obtain rfl : j = n := by omega
   have Zc : Hid (Z8 (.returned u7) wr) := by
    rw [<- Zb.out]
    have := HW.out
    rw [List.take_of_length_le (by have := HN.out; omega)] at this
    exact ⟨u7, rfl, HQ1.out.trans this.quiet, fun k e => Nat.le_trans HQ1.out.size (this.own k e), this.row⟩
   go_wp2
   exact Zc.out
def Z8M (w : World) (sb : Nat) (o : Nat -> Nat) (s : St) (id : Nat) (es : List Ent) (ps : List (Int × Int)) (e : Ending) (w' : World) : Prop :=
 e = .returned (.int .i64 ((es.length : Int) - ((Z1w ps es).length : Int))) /\ Z0E w sb o { s with ts := upd s.ts id (some (Z1w ps es)) } w'
theorem ZbQ {w : World} {sb id m c : Nat} {o : Nat -> Nat} {s : St} {es : List Ent} {ps : List (Int × Int)} {A : Option Addr} {S : Nat -> Prop} (h : Zm w sb o s) (hid : U64 id) (hts : s.ts id = some es) (hr : Rd w S 2 A m (ZM ps)) (hpl : ps.length = m) (hwp : ∀ p ∈ ps, Wf p) (hwe : ∀ e ∈ es, Wf (e.pg, e.sl)) (hm : m <= 10000) (hn : es.length <= 10000) :
  Calls Tryz.prog 101 #[ptrV sb, .int .u64 (id : Int), .slice A m c] w (Z8M w sb o s id es ps) := by
 obtain ⟨lb, bb, pb, mh, mt, ms, fh, ft, fs, h⟩ := h
 obtain ⟨_, _, _, _, c4, _⟩ := h.cells
 have lsb := Ze c4
 dsimp only at lsb
 obtain ⟨tb, hf, ht⟩ := h.trees.2 id es hts
 have hlk := Z6A h.mT hf hid
 have HPR := zh (ZeD w (fun k => o k = 11 + 2 * id) tb es ps A m c S ht hr hpl hwp hwe hm hn)
 have HH := zh h
 have HF := zh hf
 obtain ⟨Z8, Z6⟩ : ∃ Z8, Z8M w sb o s id es ps = Z8 := ⟨_, rfl⟩
 rw [Z6]
 have Zb := zh Z6
 clear h hf ht hr hpl hwp hwe hm hn Z6
 go_enter Tryz.func101, Tryz.ntmps101
 go_wp2_with fail
 refine HPR.out.mono ?_
 rintro e w1 ⟨rfl, ho, ht⟩
 have Zc : Hid (Z8 (.returned (.int .i64 ((es.length : Int) - ((Z1w ps es).length : Int)))) w1) := by
  rw [<- Zb.out]
  have hst := HH.out.setTree HF.out ho ht
  refine ⟨rfl, _, fun k hk => Z0s hk, ho.mono (fun k _ x => by omega), _, _, _, _, _, _, _, _, _, hst⟩
 clear ho ht HPR hlk
 go_wp2
 exact Zc.out
end Go.Proofs.YtnidjfjkodingaaGreatDoor
