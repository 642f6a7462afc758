/- The contract of slices.Insert of one element, at entries. The contract of slices.Insert of one element, at nodes. Nodes of a tree in memory, told by their entries; how they are kept. The contracts of the tree's small functions: leaf, least, below, copyOf, New. The contract of a node's split. The contract of a node's split, at a node over others; at every node. The contract of the tree's copyOf; three cells written. The contract of a node's insert, at a leaf. A node over others in the midst of an insert: how its parts turn. The contract of a node's insert, at a node over others; at every node. No condition. -/
import Derived.Test.YtnidjfjkodingaaGreatDoorBd2
import Derived.Deep.RegionLawGrows
import Derived.Laws.Rows
import Derived.Maps.OwnOps
import Derived.Maps.Ext
set_option linter.unusedVariables false
set_option linter.unusedSimpArgs false
set_option maxRecDepth 100000
set_option maxHeartbeats 8000000
namespace Go.Lap
section
open Go.RowKit
abbrev ents (xs : List EV) : List Ent := xs.map (·.e)
def Zjb : EV := ⟨⟨[], 0, 0⟩, none, 0⟩
def hd (xs : List EV) : EV := xs.headD Zjb
theorem Za1 {xs : List EV} (h : xs ≠ []) (ys : List EV) : hd (xs ++ ys) = hd xs := by
 rcases xs with _ | ⟨x, xs⟩
 ·exact absurd rfl h
 ·rfl
theorem ZfO {xs : List EV} (h : xs ≠ []) : xs[0]? = some (hd xs) := by
 rcases xs with _ | ⟨x, xs⟩
 ·exact absurd rfl h
 ·rfl
theorem Z8x {xs : List EV} (h : xs ≠ []) : hd xs ∈ xs := List.mem_of_getElem? (ZfO h)
def Z0S (e : EV) (xs : List EV) : List EV := xs.take (ZH e.e (ents xs)) ++ e :: xs.drop (ZH e.e (ents xs))
theorem ZfP (e : EV) (xs : List EV) : ents (Z0S e xs) = insE e.e (ents xs) := by
 rw [Z70]
 unfold Z0S ents
 simp [List.map_take, List.map_drop]
theorem Z3I (e : EV) (xs : List EV) : (Z0S e xs).length = xs.length + 1 := by
 have := Z4m e.e (ents xs)
 unfold Z0S
 simp at this ⊢
 omega
theorem Zd9 (e : EV) (xs : List EV) : Z0S e xs ≠ [] := by
 intro h
 have := Z3I e xs
 rw [h] at this
 simp at this
theorem Zhl {e x : EV} {xs : List EV} (h : x ∈ Z0S e xs) : x = e ∨ x ∈ xs := by
 unfold Z0S at h
 rw [List.mem_append, List.mem_cons] at h
 rcases h with h | h | h
 ·exact Or.inr (List.mem_of_mem_take h)
 ·exact Or.inl h
 ·exact Or.inr (List.mem_of_mem_drop h)
theorem Zhm {e : Ent} {A P B : List Ent} (hA : ∀ a ∈ A, cmpE a e < 0) (hB : ∀ b ∈ B, ¬ cmpE b e < 0) : ZH e (A ++ P ++ B) = A.length + ZH e P := by
 induction A with
 | nil =>
  simp only [List.nil_append, List.length_nil, Nat.zero_add]
  induction P with
  | nil =>
   rcases B with _ | ⟨b, B⟩
   ·rfl
   ·show ZH e (b :: B) = 0
    rw [Z3T, if_neg (hB b (by simp))]
  | cons p P ih =>
   show ZH e (p :: (P ++ B)) = _
   rw [Z3T, Z3T, ih]
 | cons a A ih =>
  show ZH e (a :: (A ++ P ++ B)) = _
  rw [Z3T, if_pos (hA a (by simp)), ih (fun x hx => hA x (by simp [hx])), List.length_cons]
  omega
theorem Zhn {e : EV} {A P B : List EV} (hA : ∀ a ∈ A, cmpE a.e e.e < 0) (hB : ∀ b ∈ B, ¬ cmpE b.e e.e < 0) : Z0S e (A ++ P ++ B) = A ++ Z0S e P ++ B := by
 have hp : ZH e.e (ents (A ++ P ++ B)) = A.length + ZH e.e (ents P) := by
  unfold ents
  rw [List.map_append, List.map_append, Zhm, List.length_map]
  ·intro a ha
   obtain ⟨x, hx, rfl⟩ := List.mem_map.1 ha
   exact hA x hx
  ·intro b hb
   obtain ⟨x, hx, rfl⟩ := List.mem_map.1 hb
   exact hB x hx
 have hle : ZH e.e (ents P) <= P.length := by have := Z4m e.e (ents P); simpa using this
 unfold Z0S
 rw [hp]
 have ht : (A ++ P ++ B).take (A.length + ZH e.e (ents P)) = A ++ P.take (ZH e.e (ents P)) := by
  rw [List.append_assoc, List.take_length_add_append, List.take_append_of_le_length hle]
 have hd : (A ++ P ++ B).drop (A.length + ZH e.e (ents P)) = P.drop (ZH e.e (ents P)) ++ B := by
  rw [List.append_assoc, List.drop_length_add_append, List.drop_append_of_le_length hle]
 rw [ht, hd]
 simp
structure Kid where
 b : Nat
 F : Nat -> Prop
 xs : List EV
abbrev heads (ks : List Kid) : List EV := ks.map (fun x => hd x.xs)
abbrev flat (ks : List Kid) : List EV := ks.flatMap (·.xs)
abbrev kptrs (ks : List Kid) : List Value := ks.map (fun x => ptrV x.b)
theorem Z6n (ks : List Kid) : ∀ u ∈ kptrs ks, u.oneCell' = true := by
 intro u hu
 obtain ⟨n, _, rfl⟩ := List.mem_map.1 hu
 rfl
end
section
open Go.RowKit
def Z6q (w : World) (b : Nat) (x y z : Value) : World := ((w.setCell ⟨b, 0, none⟩ x).setCell ⟨b, 1, none⟩ y).setCell ⟨b, 2, none⟩ z
theorem Zcz {w : World} {b : Nat} {t : TypeId} {fr : Nat × Nat} {a c d : Value} (h : w.heap[b]? = some (.cells #[a, c, d] t fr)) (x y z : Value) : (Z6q w b x y z).heap[b]? = some (.cells #[x, y, z] t fr) := by
 unfold Z6q
 rw [Zf (Zf (Zf h 0 x) 1 y) 2 z]
 rfl
theorem ZcA (w : World) (b : Nat) (x y z : Value) : Z0 (· = b) w (Z6q w b x y z) :=
 (((Z0.refl (· = b) w).setCell (p := ⟨b, 0, none⟩) (fun _ => rfl) _).setCell (p := ⟨b, 1, none⟩) (fun _ => rfl) _).setCell (p := ⟨b, 2, none⟩) (fun _ => rfl) _
end
theorem ZfW {ks : List Kid} (hne : ∀ x ∈ ks, x.xs ≠ []) : ∀ y ∈ heads ks, y ∈ flat ks := by
 intro y hy
 obtain ⟨x, hx, rfl⟩ := List.mem_map.1 hy
 exact List.mem_flatMap.2 ⟨x, hx, Z8x (hne x hx)⟩
theorem Z4W (x : Kid) (ks : List Kid) : flat (x :: ks) = x.xs ++ flat ks := by rw [flat, List.flatMap_cons]
theorem Z2W (A : List Kid) (x : Kid) (B : List Kid) : flat (A ++ x :: B) = flat A ++ x.xs ++ flat B := by
 rw [flat, List.flatMap_append, List.flatMap_cons, List.append_assoc]
theorem Z3Y (A : List Kid) (x : Kid) (B : List Kid) : heads (A ++ x :: B) = heads A ++ hd x.xs :: heads B := by simp [heads]
theorem Z6r (A : List Kid) (x : Kid) (B : List Kid) : (A ++ x :: B).map (·.b) = A.map (·.b) ++ x.b :: B.map (·.b) := by simp
theorem Zbt {ks : List Kid} (hne : ∀ x ∈ ks, x.xs ≠ []) (hs : ZK (ents (flat ks))) : ZK (ents (heads ks)) := by
 induction ks with
 | nil => exact ZK.nil
 | cons x ks ih =>
  rw [Z4W] at hs
  unfold ents ZK at hs
  rw [List.map_append, List.pairwise_append] at hs
  refine List.pairwise_cons.2 ⟨fun y hy => ?_, ih (fun z hz => hne z (by simp [hz])) hs.2.1⟩
  obtain ⟨z, hz, rfl⟩ := List.mem_map.1 hy
  exact hs.2.2 _ (List.mem_map.2 ⟨_, Z8x (hne x (by simp)), rfl⟩) _ (List.mem_map.2 ⟨z, ZfW (fun z hz => hne z (by simp [hz])) z hz, rfl⟩)
theorem Zhq {xs : List EV} (hs : ZK (ents xs)) {y : EV} (hy : y ∈ xs) : (hd xs).e = y.e ∨ cmpE (hd xs).e y.e < 0 := by
 rcases xs with _ | ⟨x, xs⟩
 ·simp at hy
 ·rcases List.mem_cons.1 hy with rfl | hy
  ·exact Or.inl rfl
  ·exact Or.inr ((List.pairwise_cons.1 hs).1 _ (List.mem_map.2 ⟨y, hy, rfl⟩))
theorem Z2K {α : Type} {l : List α} {i : Nat} {x : α} (h : l[i]? = some x) : l.take (i + 1) = l.take i ++ [x] := by
 rw [List.take_add_one, h]; rfl
theorem Za4 {ks : List Kid} {i : Nat} {x : Kid} (h : ks[i]? = some x) : flat (ks.take (i + 1)) = flat (ks.take i) ++ x.xs := by
 rw [Z2K h, flat, List.flatMap_append]
 simp
def Z1j (e : Ent) (es : List Ent) : List Ent := if e ∈ es then es else insE e es
theorem Z7I {e x : Ent} {es : List Ent} : x ∈ Z1j e es ↔ x = e ∨ x ∈ es := by
 unfold Z1j
 split
 ·constructor
  ·exact Or.inr
  ·rintro (h | h)
   ·rw [h]; assumption
   ·exact h
 ·exact Zhg
theorem ZcC (e : Ent) (es : List Ent) : (Z1j e es).length <= es.length + 1 := by
 unfold Z1j
 split
 ·omega
 ·rw [Z7i]; omega
section
open Go.RowKit Go.Maps Go.MapKept
open Go.ChangeMaps (setBlock)
theorem wf_u64 {k : Nat} (h : U64 k) : (Lit.int .u64 (k : Int)).wf = true := by
 unfold U64 at h
 exact WalkArith.wf_u64 (by omega)
def Z09 (w : World) (b : Nat) (f : Nat -> Option Value) : Prop :=
 ∃ es clock, w.heap[b]? = some (.map es clock) /\ Stamped es clock /\ (∀ x ∈ es.toList, ∃ k : Nat, U64 k /\ x.key = .int .u64 (k : Int) /\ f k = some x.val) /\ ∀ k v, f k = some v -> ∃ x ∈ es.toList, x.key = .int .u64 (k : Int) /\ x.val = v
theorem Z09.kept {S : Nat -> Prop} {w w' : World} {b : Nat} {f : Nat -> Option Value} (h : Z09 w b f) (ho : Z0 S w w') (hn : ¬ S b) : Z09 w' b f := by
 obtain ⟨es, clock, h1, r⟩ := h
 exact ⟨es, clock, ho.get h1 hn, r⟩
theorem Z09.lt {w : World} {b : Nat} {f : Nat -> Option Value} (h : Z09 w b f) : b < w.heap.size := by
 obtain ⟨es, clock, h1, _⟩ := h
 exact Z2 h1
theorem Z09.small {w : World} {b : Nat} {f : Nat -> Option Value} (h : Z09 w b f) {k : Nat} {v : Value} (hk : f k = some v) : U64 k := by
 obtain ⟨es, clock, h1, h2, h3, h4⟩ := h
 obtain ⟨x, hx, e1, e2⟩ := h4 k v hk
 obtain ⟨k', hk', e3, _⟩ := h3 x hx
 rw [e1] at e3
 injection e3 with _ e3
 have : k = k' := by omega
 rw [this]; exact hk'
theorem Z6s (w : World) : Z09 (w.alloc (.map #[] 0)) w.heap.size (fun _ => none) :=
 ⟨#[], 0, Z5 _ _, stamped_empty 0, fun x hx => by simp at hx, fun k v h => by cases h⟩
section
variable {P : Program} {t k e : TypeId} {w : World} {b : Nat} {f : Nat -> Option Value}
theorem Z09.find (_ : Z09 w b f) (hk : P.underlying k = some (.int .u64)) {x : Nat} (hx : U64 x) (es : List MapEntry) (hes : ∀ y ∈ es, ∃ k : Nat, U64 k /\ y.key = .int .u64 (k : Int) /\ f k = some y.val) :
  ((Instr.findKey k (.int .u64 (x : Int)) es).run P w = .ok none w /\ ∀ y ∈ es, y.key ≠ .int .u64 (x : Int)) ∨ ∃ j y, (Instr.findKey k (.int .u64 (x : Int)) es).run P w = .ok (some (j, y.val)) w /\ es[j]? = some y /\ y.key = .int .u64 (x : Int) :=
 (int_keyed hk).find w (keyOf_int_mk hk (wf_u64 hx)) es (fun y hy => by
   obtain ⟨k', h1, h2, _⟩ := hes y hy
   exact ⟨_, by rw [h2]; exact keyOf_int_mk hk (wf_u64 h1)⟩)
theorem Zhs {f : Nat -> Option Value} {x : Nat} {y : MapEntry} (hy : ∃ k : Nat, U64 k /\ y.key = .int .u64 (k : Int) /\ f k = some y.val) (he : y.key = .int .u64 (x : Int)) : f x = some y.val := by
 obtain ⟨k, _, e, r⟩ := hy
 rw [he] at e
 injection e with _ e
 have : x = k := by omega
 rw [this]; exact r
theorem Z09.lookup (h : Z09 w b f) (ht : P.underlying t = some (.map k e)) (hk : P.underlying k = some (.int .u64)) (c : Bool) {z : Value} (hz : (zeroValue e).run P w = .ok z w) {x : Nat} (hx : U64 x) :
  (Instr.lookup t (.map (some b)) (.int .u64 (x : Int)) c).run P w = .ok (if c then .tuple #[(f x).getD z, .bool (f x).isSome] else (f x).getD z) w := by
 have h' := h
 obtain ⟨es, clock, h1, h2, h3, h4⟩ := h
 have hck := (int_keyed hk).check w es.isEmpty (keyOf_int_mk hk (wf_u64 hx))
 rcases h'.find hk hx es.toList h3 with ⟨h5, h6⟩ | ⟨j, y, h5, h6, h7⟩
 ·have hf : f x = none := by
   rcases hfx : f x with _ | v
   ·rfl
   ·obtain ⟨y, hy, e1, _⟩ := h4 x v hfx
    exact absurd e1 (h6 y hy)
  rw [hf]
  simp [Instr.lookup, run_underlying ht, MapKept.run_getObj_map h1, hck, h5, hz, Result.andThen]
 ·have hf := Zhs (h3 y (List.mem_of_getElem? h6)) h7
  rw [hf]
  simp [Instr.lookup, run_underlying ht, MapKept.run_getObj_map h1, hck, h5, Result.andThen]
theorem Z2L {es : Array MapEntry} {clock : Nat} (h : w.heap[b]? = some (.map es clock)) (o : Obj) : Z0 (· = b) w (setBlock w b o) :=
 ⟨rfl, rfl, rfl, by simp [setBlock], fun _ _ hn => Go.ChangeMaps.heap_setBlock_other h o hn⟩
theorem Z09.update (h : Z09 w b f) (ht : P.underlying t = some (.map k e)) (hk : P.underlying k = some (.int .u64)) {x : Nat} (hx : U64 x) (v : Value) :
  ∃ w', (Instr.mapUpdate t (.map (some b)) (.int .u64 (x : Int)) v).run P w = .ok () w' /\ Z09 w' b (upd f x (some v)) /\ Z0 (· = b) w w' := by
 have h' := h
 obtain ⟨es, clock, h1, h2, h3, h4⟩ := h
 have hck := (int_keyed hk).check w false (keyOf_int_mk hk (wf_u64 hx))
 rcases h'.find hk hx es.toList h3 with ⟨h5, h6⟩ | ⟨j, y, h5, h6, h7⟩
 ·refine ⟨setBlock w b (.map (es.push ⟨.int .u64 (x : Int), v, clock⟩) (clock + 1)), by simp [Instr.mapUpdate, run_underlying ht, MapKept.run_getObj_map h1, hck, h5, MapKept.run_setObj_map _ h1, Result.andThen, setBlock], ⟨_, _, Go.ChangeMaps.heap_setBlock_same h1 _, stamped_push h2 h6, ?_, ?_⟩, Z2L h1 _⟩
  ·intro y hy
   simp only [Array.toList_push, List.mem_append, List.mem_singleton] at hy
   rcases hy with hy | rfl
   ·obtain ⟨k', a1, a2, a3⟩ := h3 y hy
    refine ⟨k', a1, a2, ?_⟩
    rw [ZS _ _ (fun e => h6 y hy (by rw [a2, e]))]
    exact a3
   ·exact ⟨x, hx, rfl, by rw [Z1F]⟩
  ·intro k' v' hv
   simp only [Array.toList_push, List.mem_append, List.mem_singleton]
   by_cases e : k' = x
   ·subst e
    rw [Z1F] at hv
    injection hv with hv
    exact ⟨_, Or.inr rfl, rfl, hv⟩
   ·rw [ZS _ _ e] at hv
    obtain ⟨y, hy, a1, a2⟩ := h4 k' v' hv
    exact ⟨y, Or.inl hy, a1, a2⟩
 ·have hkey : ∀ z ∈ es.toList, es[j]? = some z -> ({ z with key := .int .u64 (x : Int), val := v } : MapEntry).key = z.key := fun z _ hz => by
   rw [show es[j]? = some y by simpa using h6] at hz
   injection hz with hz
   subst hz
   exact h7.symm
  have hst := (int_keyed hk).stays w (keyOf_int_mk hk (wf_u64 hx))
  have hj : es[j]? = some y := by simpa using h6
  refine ⟨setBlock w b (.map (es.modify j fun z => { z with key := .int .u64 (x : Int), val := v }) clock), ?_, ⟨_, _, Go.ChangeMaps.heap_setBlock_same h1 _, stamped_modify h2 j _ (fun _ _ => rfl) hkey, ?_, ?_⟩, Z2L h1 _⟩
  ·simp [Instr.mapUpdate, run_underlying ht, MapKept.run_getObj_map h1, hck, h5, hj, h7, hst, MapKept.run_setObj_map _ h1, Result.andThen, setBlock]
  ·intro z hz
   rw [Array.toList_modify, Go.ChangeMaps.modify_eq_set _ _ _ _ h6] at hz
   obtain ⟨i, hi⟩ := List.mem_iff_getElem?.1 hz
   rw [List.getElem?_set] at hi
   split at hi
   ·split at hi
    ·injection hi with hi
     subst hi
     exact ⟨x, hx, rfl, by rw [Z1F]⟩
    ·cases hi
   ·rename_i hne
    obtain ⟨k', a1, a2, a3⟩ := h3 z (List.mem_of_getElem? hi)
    refine ⟨k', a1, a2, ?_⟩
    rw [ZS _ _ (fun e => hne ?_)]
    ·exact a3
    ·have hnd := h2.2.2
     have l1 : j < es.toList.length := (zi.1 h6).1
     refine (List.getElem?_inj (l := es.toList.map (·.key)) (by simpa using l1) hnd).1 ?_
     rw [List.getElem?_map, List.getElem?_map, h6, hi]
     simp [h7, a2, e]
  ·intro k' v' hv
   rw [Array.toList_modify, Go.ChangeMaps.modify_eq_set _ _ _ _ h6]
   have l1 : j < es.toList.length := (zi.1 h6).1
   by_cases e : k' = x
   ·subst e
    rw [Z1F] at hv
    injection hv with hv
    exact ⟨_, List.mem_of_getElem? (List.getElem?_set_self l1), rfl, hv⟩
   ·rw [ZS _ _ e] at hv
    obtain ⟨z, hz, a1, a2⟩ := h4 k' v' hv
    obtain ⟨i, hi⟩ := List.mem_iff_getElem?.1 hz
    refine ⟨z, List.mem_of_getElem? (i := i) ?_, a1, a2⟩
    rw [List.getElem?_set_ne (fun x' => ?_)]
    ·exact hi
    ·subst x'
     rw [h6] at hi
     injection hi with hi
     subst hi
     rw [h7] at a1
     injection a1 with _ a1
     exact e (by omega)
theorem Z09.delete (h : Z09 w b f) (ht : P.underlying t = some (.map k e)) (hk : P.underlying k = some (.int .u64)) (ty : TypeId) {x : Nat} (hx : U64 x) :
  ∃ w', (Builtin.delete_ #[t, k] ty #[.map (some b), .int .u64 (x : Int)]).run P w = .ok (.tuple #[]) w' /\ Z09 w' b (upd f x none) /\ Z0 (· = b) w w' := by
 have h' := h
 obtain ⟨es, clock, h1, h2, h3, h4⟩ := h
 have hck := (int_keyed hk).check w es.isEmpty (keyOf_int_mk hk (wf_u64 hx))
 rcases h'.find hk hx es.toList h3 with ⟨h5, h6⟩ | ⟨j, y, h5, h6, h7⟩
 ·refine ⟨setBlock w b (.map es clock), by simp [Builtin.delete_, run_underlying ht, MapKept.run_getObj_map h1, hck, h5, MapKept.run_setObj_map _ h1, Result.andThen, setBlock], ⟨_, _, Go.ChangeMaps.heap_setBlock_same h1 _, h2, ?_, ?_⟩, Z2L h1 _⟩
  ·intro y hy
   obtain ⟨k', a1, a2, a3⟩ := h3 y hy
   exact ⟨k', a1, a2, by rw [ZS _ _ (fun e => h6 y hy (by rw [a2, e]))]; exact a3⟩
  ·intro k' v' hv
   by_cases e : k' = x
   ·subst e; rw [Z1F] at hv; cases hv
   ·rw [ZS _ _ e] at hv
    exact h4 k' v' hv
 ·have hjl : j < es.toList.length := (zi.1 h6).1
  have hjs : j < es.size := by simpa using hjl
  have hsub : (es.eraseIdxIfInBounds j).toList = es.toList.eraseIdx j := by
   unfold Array.eraseIdxIfInBounds
   rw [dif_pos hjs]
   simp
  refine ⟨setBlock w b (.map (es.eraseIdxIfInBounds j) clock), by simp [Builtin.delete_, run_underlying ht, MapKept.run_getObj_map h1, hck, h5, MapKept.run_setObj_map _ h1, Result.andThen, setBlock], ⟨_, _, Go.ChangeMaps.heap_setBlock_same h1 _, stamped_erase h2 j, ?_, ?_⟩, Z2L h1 _⟩
  ·intro z hz
   rw [hsub] at hz
   obtain ⟨i, hi, hij⟩ := List.mem_eraseIdx_iff_getElem?.1 hz
   obtain ⟨k', a1, a2, a3⟩ := h3 z (List.mem_of_getElem? hij)
   refine ⟨k', a1, a2, ?_⟩
   rw [ZS _ _ (fun e => hi ?_)]
   ·exact a3
   ·have hnd := h2.2.2
    refine ((List.getElem?_inj (l := es.toList.map (·.key)) (by simpa using hjl) hnd).1 ?_).symm
    rw [List.getElem?_map, List.getElem?_map, h6, hij]
    simp [h7, a2, e]
  ·intro k' v' hv
   rw [hsub]
   by_cases e : k' = x
   ·subst e; rw [Z1F] at hv; cases hv
   ·rw [ZS _ _ e] at hv
    obtain ⟨z, hz, a1, a2⟩ := h4 k' v' hv
    obtain ⟨i, hi⟩ := List.mem_iff_getElem?.1 hz
    refine ⟨z, List.mem_eraseIdx_iff_getElem?.2 ⟨i, fun x' => ?_, hi⟩, a1, a2⟩
    subst x'
    rw [h6] at hi
    injection hi with hi
    subst hi
    rw [h7] at a1
    injection a1 with _ a1
    exact e (by omega)
variable {ops : Array Oper} {rest : List Oper} {o : Oper} {a : Act} {K : Act -> World -> Prop} {Q : Exit -> Act -> World -> Prop}
theorem Zbx (m x v : Operand) (hop : o.op = Op.mapUpdate t m x v) (h : Z09 w b f) (ht : P.underlying t = some (.map k e)) (hk : P.underlying k = some (.int .u64))
  {n : Nat} {u : Value} (hm : a.eval m = .map (some b)) (hx : a.eval x = .int .u64 (n : Int)) (hv : a.eval v = u) (hn : U64 n) (hK : ∀ w', Z09 w' b (upd f n (some u)) -> Z0 (· = b) w w' -> K (a.put o.dst undef) w') : o.wp P a w K Q := by
 obtain ⟨w', hrun, h1, h2⟩ := h.update ht hk hn u
 unfold Oper.wp
 simp [execOp, hop, hm, hx, hv, hrun, Result.andThen]
 exact hK w' h1 h2
end
end
structure Z0Y where
 id : Nat
 pg : Int
 sl : Int
 n : Nat
 A : Option Addr
 c : Nat
instance : Inhabited Z0Y := ⟨⟨0, 0, 0, 0, none, 0⟩⟩
def Z47 (x : Z0Y) : List Value := [.int .u64 (x.id : Int), .int .i64 x.pg, .int .i64 x.sl, .slice x.A 1 x.c]
def Z7J (x y : Z0Y) : Int := if x.id < y.id then -1 else if y.id < x.id then 1 else 0
abbrev rowsV (l : List Z0Y) : List Value := l.flatMap Z47
abbrev RowR := Nat × Int × Int × Nat
def Z0Y.told (x : Z0Y) : RowR := (x.id, x.pg, x.sl, x.n)
theorem Zht (x : Z0Y) : (Z47 x).length = 4 := rfl
theorem ZbA (x : Z0Y) : ∀ v ∈ Z47 x, v.oneCell' = true := by
 intro v hv
 simp [Z47] at hv
 rcases hv with rfl | rfl | rfl | rfl <;> rfl
theorem ZbB (l m : List Z0Y) : rowsV (l ++ m) = rowsV l ++ rowsV m := List.flatMap_append
theorem ZaP (x y : Z0Y) : Go.Proofs.ltOf Z7J x y = decide (x.id < y.id) := by
 unfold Go.Proofs.ltOf Z7J
 rw [decide_eq_decide]
 split
 ·omega
 ·split <;> omega
theorem ZiU : Go.Sort.SWO (Go.Proofs.ltOf Z7J) where
 irrefl x := by rw [ZaP]; simp
 trans x y z h1 h2 := by rw [ZaP] at *; simp at *; omega
 ntrans x y z h1 h2 := by rw [ZaP] at *; simp at *; omega
end Go.Lap
namespace Go.Proofs.YtnidjfjkodingaaGreatDoor
open Go.RowKit Go.Lap
theorem Z3d : (Tryz.prog.info? 111).map (·.size) = some 3 := by kernel_rfl
theorem Zcv (v : Value) (n vb : Nat) (xs news : List Value) (w : World) (hown : w.ownsRow 0 111 3 v n xs) (hnl : news.length = 3) (hnew : w.heap[vb]? = some (.cells news.toArray 111 (0, 0))) (h1 : ∀ u ∈ news, u.oneCell' = true) (hn : n <= 100000) :
  Calls Tryz.prog 117 #[v, .int .i64 (n : Int), .slice (some ⟨vb, 0, none⟩) 1 1] w fun e w' => ∃ v', e = .returned v' /\ ZW w w' 111 3 v v' (n + 1) (xs ++ news) := by
 obtain ⟨A, cap, hv, hnc, hcm, _⟩ := Z9 hown
 subst hv
 unfold maxLen at hcm
 have HO := zh hown
 have HR : Hid (Rd w (fun _ => True) 3 (some ⟨vb, 0, none⟩) 1 news) := ⟨by omega, fun _ => ⟨vb, 0, rfl, trivial, fun j u hu => by rw [Z1 hnew]; simpa using hu⟩⟩
 have H1 := zh h1
 clear hown hnew h1
 by_cases hc : cap = n
 ·subst hc
  go_enter Tryz.func117, Tryz.ntmps117
  go_wp2_with (at_builtin; refine app Z2V rfl (.tmp 23) (.tmp 24) rfl rfl HO.out rfl HR.out H1.out (by unfold maxLen; omega) (by omega) ?_)
  intro v' w1 hg
  have HG := zh hg
  clear hg
  go_wp2
  go_ret
  exact ⟨v', rfl, HG.out⟩
 ·go_enter Tryz.func117, Tryz.ntmps117
  go_wp2_with (at_builtin; refine app Z2V rfl (.tmp 23) (.tmp 24) rfl rfl HO.out rfl HR.out H1.out (by unfold maxLen; omega) (by omega) ?_)
  intro v' w1 hg
  have HG := zh hg
  clear hg
  go_wp2
  go_ret
  exact ⟨v', rfl, HG.out⟩
theorem Zbp (g n i vb : Nat) (xs news : List Value) (w : World) (hown : w.ownsRow 0 111 3 (.slice (some ⟨g, 0, none⟩) n n) n xs) (hnl : news.length = 3) (hnew : w.heap[vb]? = some (.cells news.toArray 111 (0, 0))) (h1 : ∀ u ∈ news, u.oneCell' = true) (hx1 : ∀ u ∈ xs, u.oneCell' = true) (hn : n <= 100000) (hi : i < n) :
  Calls Tryz.prog 117 #[.slice (some ⟨g, 0, none⟩) n n, .int .i64 (i : Int), .slice (some ⟨vb, 0, none⟩) 1 1] w fun e w' => ∃ v', e = .returned v' /\ ZW w w' 111 3 (.slice (some ⟨g, 0, none⟩) n n) v' (n + 1) (xs.take (i * 3) ++ news ++ xs.drop (i * 3)) := by
 have hxl := hown.1
 have hcell : ∀ j v, xs[j]? = some v -> w.cell? ⟨g, j, none⟩ = some v := fun j v hj => by have := hown.cells rfl j v hj; rw [Zq, Nat.zero_add] at this; exact this
 have hgl : g < w.heap.size := (hown.lt g rfl).2
 have HC := zh hcell
 have HN := zh hnew
 have H1 := zh h1
 have HX := zh hx1
 have hin : ¬ ((i : Int) = (n : Int)) := by omega
 have hin2 : ¬ n = i := by omega
 have d0 : (0 : Int) <= (i : Int) := by omega
 have d1 : (i : Int) <= (n : Int) := by omega
 have d2 : (i : Int) <= (n : Int) + 1 := by omega
 clear hown hcell hnew h1 hx1
 go_enter Tryz.func117, Tryz.ntmps117
 go_wp2_with (at_builtin; refine ZfM Z2V Tryz.underlying3 rfl (.tmp 34) (.tmp 39) rfl (g := g) (off := 0) (i := i) (cap := n) (m := n + 1 - i) (olds := xs.take (i * 3)) rfl rfl (by omega) (by omega) (by omega) (by rw [List.length_take]; omega) (fun j v hj => by
   rw [Nat.zero_add]
   rw [List.getElem?_take] at hj
   split at hj
   · exact HC.out j v hj
   · cases hj) (by omega) (by omega) ?_)
 intro w1 G ROW hG hGm hh1 hRs hRt hq1
 rw [show i + (n + 1 - i) = n + 1 by omega] at hG ⊢
 have HH1 := zh hh1
 have HQ1 := zh hq1
 have HRT := zh hRt
 have hvb1 : w1.heap[vb]? = _ := hq1.get HN.out (fun x => x)
 have HV1 := zh hvb1
 have hGi : ¬ G = i := by omega
 have hGi1 : ¬ G = i + 1 := by omega
 unfold maxLen at hGm
 clear hh1 hq1 hRt hvb1
 obtain ⟨w2, hcp1, hh2, ho2⟩ := Z1C (P := Tryz.prog) w1 164 164 111 (k := 3) (g := w.heap.size) (at_ := i * 3) (dLen := n + 1 - i) (dCap := G - i) (sLen := 1) (sCap := 1) (src := ⟨vb, 0, none⟩) (cs := news) (m := 1) Tryz.underlying164 Z3d (Nat.min_eq_left (by omega)) HH1.out (by rw [hnl]) (fun j v hj => by rw [Zq, Z1 HV1.out, Nat.zero_add]; simpa using hj) (by rw [hnl, hRs]; omega) H1.out
 have HH2 := zh hh2
 have HO2 : Hid (Z0 (fun k => k = w.heap.size) w w2) := (HQ1.out.mono (T := fun k => k = w.heap.size) (fun _ _ x => x.elim)).trans' ho2 (fun k _ e => e)
 clear hh2 ho2 HH1 HV1
 obtain ⟨w3, hcp2, hh3, ho3⟩ := Z1C (P := Tryz.prog) w2.drew 164 164 111 (k := 3) (g := w.heap.size) (at_ := (i + 1) * 3) (dLen := n - i) (dCap := G - (i + 1)) (sLen := n - i) (sCap := n - i) (src := ⟨g, i * 3, none⟩) (cs := xs.drop (i * 3)) (m := n - i) Tryz.underlying164 Z3d (Nat.min_self _) HH2.out (by rw [List.length_drop]; omega) (fun j v hj => by
   rw [Zq]
   rw [List.getElem?_drop] at hj
   exact HO2.out.cell (HC.out _ v hj) (by show ¬ g = w.heap.size; omega)) (by rw [Z0d (by rw [hnl, hRs]; omega), List.length_drop, hRs]; omega) (fun v hv => HX.out v (List.mem_of_mem_drop hv))
 have HH3 := zh hh3
 have HO3 : Hid (Z0 (fun k => k = w.heap.size) w w3) := HO2.out.drew.trans ho3
 clear hh3 ho3 HH2 HO2
 have dw : IntKind.i64.wrap ((i : Int) + 1) = (i : Int) + 1 := Z2H (by omega)
 have dt : ((i : Int) + 1).toNat = i + 1 := by omega
 have d3 : (0 : Int) <= (i : Int) + 1 := by omega
 have d4 : (i : Int) + 1 <= (n : Int) + 1 := by omega
 go_wp2_with fail
 go_region_held3 (fun _ => True) (first | trivial | fail) (fail)
 have HF : Hid (ZW w w3 111 3 (.slice (some ⟨g, 0, none⟩) n n) (.slice (some ⟨w.heap.size, 0, none⟩) (n + 1) G) (n + 1) (xs.take (i * 3) ++ news ++ xs.drop (i * 3))) := by
  refine ⟨⟨?_, Or.inr ⟨w.heap.size, G, _, rfl, Nat.zero_le _, HH3.out, hG, by unfold maxLen; omega, ?_, ?_⟩⟩, HO3.out.mono (fun k hk e => by omega), Or.inr rfl⟩
  ·simp only [List.length_append, List.length_take, List.length_drop, hnl]; omega
  ·rw [Z0d (by rw [Z0d (by rw [hnl, hRs]; omega), List.length_drop, hRs]; omega), Z0d (by rw [hnl, hRs]; omega), hRs]
  ·exact Zbo hxl hnl (by omega) HRT.out (by rw [hRs]; omega)
 clear hcp1 hcp2 HH3 HO3
 go_wp2
 go_ret
 exact ⟨_, rfl, HF.out⟩
theorem Zaz (g n cap i vb : Nat) (xs news : List Value) (w : World) (hown : w.ownsRow 0 111 3 (.slice (some ⟨g, 0, none⟩) n cap) n xs) (hnl : news.length = 3) (hnew : w.heap[vb]? = some (.cells news.toArray 111 (0, 0))) (h1 : ∀ u ∈ news, u.oneCell' = true) (hx1 : ∀ u ∈ xs, u.oneCell' = true) (hn : n <= 100000) (hi : i < n) (hcap : n + 1 <= cap) (hvg : vb ≠ g) :
  Calls Tryz.prog 117 #[.slice (some ⟨g, 0, none⟩) n cap, .int .i64 (i : Int), .slice (some ⟨vb, 0, none⟩) 1 1] w fun e w' => ∃ v', e = .returned v' /\ ZW w w' 111 3 (.slice (some ⟨g, 0, none⟩) n cap) v' (n + 1) (xs.take (i * 3) ++ news ++ xs.drop (i * 3)) := by
 have hxl := hown.1
 have hcell : ∀ j v, xs[j]? = some v -> w.cell? ⟨g, j, none⟩ = some v := fun j v hj => by have := hown.cells rfl j v hj; rw [Zq, Nat.zero_add] at this; exact this
 obtain ⟨cur, hcur, hcs, hct, hcm⟩ : ∃ cur : Array Value, w.heap[g]? = some (.cells cur 111 (0, 0)) /\ cur.size = cap * 3 /\ cur.toList.take (n * 3) = xs /\ cap <= maxLen := by
  rcases hown.2 with ⟨e1, _⟩ | ⟨g', cap', cur, e1, _, hh, _, hm, h1, h2⟩
  ·cases e1
  ·injection e1 with e1 _ e3
   injection e1 with e1
   injection e1 with e1 _ _
   subst e1 e3
   exact ⟨cur, hh, h1, h2, hm⟩
 unfold maxLen at hcm
 have hov : ∀ lb cb, (callFunc 148 #[.slice (some ⟨vb, 0, none⟩) 1 1, .slice (some ⟨g, (i + 1) * 3, none⟩) lb cb]).run Tryz.prog w = .ok (.value (.bool false)) w := fun lb cb => by
  rw [run_callFunc_extern Tryz.func148 (by kernel_rfl) (by kernel_rfl) (by kernel_rfl) (e := Extern.SlicesOverlaps.overlaps #[164, 164] #[4]) (by kernel_rfl),
    Lib.run_overlaps_apart w 164 4 111 Tryz.underlying164 3 (fun w => by kernel_rfl) ⟨vb, 0, none⟩ ⟨g, (i + 1) * 3, none⟩ 1 1 lb cb hvg 111 111 news.toArray.size cur.size (by simp [World.shape?, hnew]) (by simp [World.shape?, hcur]) (by rw [hcs]; omega) (Z7 hnew 0) (Z7 hnew _)]
  rfl
 have hin : ¬ ((i : Int) = (n : Int)) := by omega
 have d0 : (0 : Int) <= (i : Int) := by omega
 have d1 : (i : Int) <= (n : Int) := by omega
 have d2 : (i : Int) <= (n : Int) + 1 := by omega
 have dw : IntKind.i64.wrap ((i : Int) + 1) = (i : Int) + 1 := Z2H (by omega)
 have dt : ((i : Int) + 1).toNat = i + 1 := by omega
 have d3 : (0 : Int) <= (i : Int) + 1 := by omega
 have d4 : (i : Int) + 1 <= (n : Int) + 1 := by omega
 have hci : ¬ cap = i := by omega
 have hci1 : ¬ cap = i + 1 := by omega
 obtain ⟨w2, hcp1, hh2, ho2⟩ := Z1C (P := Tryz.prog) w.drew 164 164 111 (k := 3) (g := g) (at_ := (i + 1) * 3) (dLen := n - i) (dCap := cap - (i + 1)) (sLen := n + 1 - i) (sCap := cap - i) (src := ⟨g, i * 3, none⟩) (cs := xs.drop (i * 3)) (m := n - i) Tryz.underlying164 Z3d (Nat.min_eq_right (by omega)) (show w.drew.heap[g]? = _ from hcur) (by rw [List.length_drop]; omega) (fun j v hj => by
   rw [Zq]
   rw [List.getElem?_drop] at hj
   exact hcell _ v hj) (by rw [List.length_drop, hcs]; omega) (fun v hv => hx1 v (List.mem_of_mem_drop hv))
 have HO2 : Hid (Z0 (fun k => k = g) w w2) := ((Z0.refl (fun k => k = g) w).drew).trans ho2
 obtain ⟨w3, hcp2, hh3, ho3⟩ := Z1C (P := Tryz.prog) w2 164 164 111 (k := 3) (g := g) (at_ := i * 3) (dLen := n + 1 - i) (dCap := cap - i) (sLen := 1) (sCap := 1) (src := ⟨vb, 0, none⟩) (cs := news) (m := 1) Tryz.underlying164 Z3d (Nat.min_eq_left (by omega)) hh2 (by rw [hnl]) (fun j v hj => by rw [Zq, Z1 (HO2.out.get hnew hvg), Nat.zero_add]; simpa using hj) (by rw [hnl, Z0d (by rw [List.length_drop, hcs]; omega), hcs]; omega) h1
 have HF : Hid (ZW w w3 111 3 (.slice (some ⟨g, 0, none⟩) n cap) (.slice (some ⟨g, 0, none⟩) (n + 1) cap) (n + 1) (xs.take (i * 3) ++ news ++ xs.drop (i * 3))) := by
  refine ⟨⟨?_, Or.inr ⟨g, cap, _, rfl, Nat.zero_le _, hh3, hcap, by unfold maxLen; omega, ?_, ?_⟩⟩, (HO2.out.trans ho3).mono (fun k hk e => by rw [e]; rfl), Or.inl rfl⟩
  ·simp only [List.length_append, List.length_take, List.length_drop, hnl]; omega
  ·rw [Z0d (by rw [hnl, Z0d (by rw [List.length_drop, hcs]; omega), hcs]; omega), Z0d (by rw [List.length_drop, hcs]; omega), hcs]
  ·exact Za0 hxl hnl (by omega) hct (by rw [hcs]; omega)
 clear hown hcell hcur hct hnew h1 hx1 hh2 ho2 hh3 ho3 HO2
 go_enter Tryz.func117, Tryz.ntmps117
 go_wp2_with fail
 go_region_held3 (fun _ => True) (first | trivial | fail) (fail)
 go_wp2
 go_ret
 exact ⟨_, rfl, HF.out⟩
theorem Z7j (v : Value) (n i vb : Nat) (xs news : List Value) (w : World) (hown : w.ownsRow 0 111 3 v n xs) (hnl : news.length = 3) (hnew : w.heap[vb]? = some (.cells news.toArray 111 (0, 0))) (h1 : ∀ u ∈ news, u.oneCell' = true) (hx1 : ∀ u ∈ xs, u.oneCell' = true) (hn : n <= 100000) (hi : i <= n) (hvb : v.ownBlock ≠ some vb) :
  Calls Tryz.prog 117 #[v, .int .i64 (i : Int), .slice (some ⟨vb, 0, none⟩) 1 1] w fun e w' => ∃ v', e = .returned v' /\ ZW w w' 111 3 v v' (n + 1) (xs.take (i * 3) ++ news ++ xs.drop (i * 3)) := by
 have hxl := hown.1
 by_cases hin : i = n
 ·subst hin
  have := Zcv v i vb xs news w hown hnl hnew h1 hn
  rw [List.take_of_length_le (by omega), List.drop_of_length_le (by omega), List.append_nil]
  exact this
 ·rcases ZJ hown with ⟨_, h0⟩ | ⟨g, cap, rfl, hnc, _⟩
  ·omega
  ·by_cases hc : cap = n
   ·subst hc
    exact Zbp g cap i vb xs news w hown hnl hnew h1 hx1 hn (by omega)
   ·exact Zaz g n cap i vb xs news w hown hnl hnew h1 hx1 hn (by omega) (by omega) (fun e => hvb (by rw [e]; rfl))
theorem Z3e : (Tryz.prog.info? 163).map (·.size) = some 1 := by kernel_rfl
theorem Zcw (v : Value) (n vb : Nat) (xs news : List Value) (w : World) (hown : w.ownsRow 0 163 1 v n xs) (hnl : news.length = 1) (hnew : w.heap[vb]? = some (.cells news.toArray 163 (0, 0))) (h1 : ∀ u ∈ news, u.oneCell' = true) (hn : n <= 100000) :
  Calls Tryz.prog 119 #[v, .int .i64 (n : Int), .slice (some ⟨vb, 0, none⟩) 1 1] w fun e w' => ∃ v', e = .returned v' /\ ZW w w' 163 1 v v' (n + 1) (xs ++ news) := by
 obtain ⟨A, cap, hv, hnc, hcm, _⟩ := Z9 hown
 subst hv
 unfold maxLen at hcm
 have HO := zh hown
 have HR : Hid (Rd w (fun _ => True) 1 (some ⟨vb, 0, none⟩) 1 news) := ⟨by omega, fun _ => ⟨vb, 0, rfl, trivial, fun j u hu => by rw [Z1 hnew]; simpa using hu⟩⟩
 have H1 := zh h1
 clear hown hnew h1
 by_cases hc : cap = n
 ·subst hc
  go_enter Tryz.func119, Tryz.ntmps119
  go_wp2_with (at_builtin; refine app Z38 rfl (.tmp 23) (.tmp 24) rfl rfl HO.out rfl HR.out H1.out (by unfold maxLen; omega) (by omega) ?_)
  intro v' w1 hg
  have HG := zh hg
  clear hg
  go_wp2
  go_ret
  exact ⟨v', rfl, HG.out⟩
 ·go_enter Tryz.func119, Tryz.ntmps119
  go_wp2_with (at_builtin; refine app Z38 rfl (.tmp 23) (.tmp 24) rfl rfl HO.out rfl HR.out H1.out (by unfold maxLen; omega) (by omega) ?_)
  intro v' w1 hg
  have HG := zh hg
  clear hg
  go_wp2
  go_ret
  exact ⟨v', rfl, HG.out⟩
theorem Zbq (g n i vb : Nat) (xs news : List Value) (w : World) (hown : w.ownsRow 0 163 1 (.slice (some ⟨g, 0, none⟩) n n) n xs) (hnl : news.length = 1) (hnew : w.heap[vb]? = some (.cells news.toArray 163 (0, 0))) (h1 : ∀ u ∈ news, u.oneCell' = true) (hx1 : ∀ u ∈ xs, u.oneCell' = true) (hn : n <= 100000) (hi : i < n) :
  Calls Tryz.prog 119 #[.slice (some ⟨g, 0, none⟩) n n, .int .i64 (i : Int), .slice (some ⟨vb, 0, none⟩) 1 1] w fun e w' => ∃ v', e = .returned v' /\ ZW w w' 163 1 (.slice (some ⟨g, 0, none⟩) n n) v' (n + 1) (xs.take i ++ news ++ xs.drop i) := by
 have hxl := hown.1
 have hcell : ∀ j v, xs[j]? = some v -> w.cell? ⟨g, j, none⟩ = some v := fun j v hj => by have := hown.cells rfl j v hj; rw [Zq, Nat.zero_add] at this; exact this
 have hgl : g < w.heap.size := (hown.lt g rfl).2
 have HC := zh hcell
 have HN := zh hnew
 have H1 := zh h1
 have HX := zh hx1
 have hin : ¬ ((i : Int) = (n : Int)) := by omega
 have hin2 : ¬ n = i := by omega
 have d0 : (0 : Int) <= (i : Int) := by omega
 have d1 : (i : Int) <= (n : Int) := by omega
 have d2 : (i : Int) <= (n : Int) + 1 := by omega
 clear hown hcell hnew h1 hx1
 go_enter Tryz.func119, Tryz.ntmps119
 go_wp2_with (at_builtin; refine ZfM Z38 Tryz.underlying3 rfl (.tmp 34) (.tmp 39) rfl (g := g) (off := 0) (i := i) (cap := n) (m := n + 1 - i) (olds := xs.take i) rfl rfl (by omega) (by omega) (by omega) (by rw [List.length_take]; omega) (fun j v hj => by
   rw [Nat.zero_add]
   rw [List.getElem?_take] at hj
   split at hj
   · exact HC.out j v hj
   · cases hj) (by omega) (by omega) ?_)
 intro w1 G ROW hG hGm hh1 hRs hRt hq1
 rw [show i + (n + 1 - i) = n + 1 by omega] at hG ⊢
 have HH1 := zh hh1
 have HQ1 := zh hq1
 have HRT := zh hRt
 have hvb1 : w1.heap[vb]? = _ := hq1.get HN.out (fun x => x)
 have HV1 := zh hvb1
 have hGi : ¬ G = i := by omega
 have hGi1 : ¬ G = i + 1 := by omega
 unfold maxLen at hGm
 clear hh1 hq1 hRt hvb1
 obtain ⟨w2, hcp1, hh2, ho2⟩ := Z1C (P := Tryz.prog) w1 165 165 163 (k := 1) (g := w.heap.size) (at_ := i) (dLen := n + 1 - i) (dCap := G - i) (sLen := 1) (sCap := 1) (src := ⟨vb, 0, none⟩) (cs := news) (m := 1) Tryz.underlying165 Z3e (Nat.min_eq_left (by omega)) HH1.out (by rw [hnl]) (fun j v hj => by rw [Zq, Z1 HV1.out, Nat.zero_add]; simpa using hj) (by rw [hnl, hRs]; omega) H1.out
 have HH2 := zh hh2
 have HO2 : Hid (Z0 (fun k => k = w.heap.size) w w2) := (HQ1.out.mono (T := fun k => k = w.heap.size) (fun _ _ x => x.elim)).trans' ho2 (fun k _ e => e)
 clear hh2 ho2 HH1 HV1
 obtain ⟨w3, hcp2, hh3, ho3⟩ := Z1C (P := Tryz.prog) w2.drew 165 165 163 (k := 1) (g := w.heap.size) (at_ := (i + 1)) (dLen := n - i) (dCap := G - (i + 1)) (sLen := n - i) (sCap := n - i) (src := ⟨g, i, none⟩) (cs := xs.drop i) (m := n - i) Tryz.underlying165 Z3e (Nat.min_self _) HH2.out (by rw [List.length_drop]; omega) (fun j v hj => by
   rw [Zq]
   rw [List.getElem?_drop] at hj
   exact HO2.out.cell (HC.out _ v hj) (by show ¬ g = w.heap.size; omega)) (by rw [Z0d (by rw [hnl, hRs]; omega), List.length_drop, hRs]; omega) (fun v hv => HX.out v (List.mem_of_mem_drop hv))
 have HH3 := zh hh3
 have HO3 : Hid (Z0 (fun k => k = w.heap.size) w w3) := HO2.out.drew.trans ho3
 clear hh3 ho3 HH2 HO2
 have dw : IntKind.i64.wrap ((i : Int) + 1) = (i : Int) + 1 := Z2H (by omega)
 have dt : ((i : Int) + 1).toNat = i + 1 := by omega
 have d3 : (0 : Int) <= (i : Int) + 1 := by omega
 have d4 : (i : Int) + 1 <= (n : Int) + 1 := by omega
 go_wp2_with fail
 go_region_held3 (fun _ => True) (first | trivial | fail) (fail)
 have HF : Hid (ZW w w3 163 1 (.slice (some ⟨g, 0, none⟩) n n) (.slice (some ⟨w.heap.size, 0, none⟩) (n + 1) G) (n + 1) (xs.take i ++ news ++ xs.drop i)) := by
  refine ⟨⟨?_, Or.inr ⟨w.heap.size, G, _, rfl, Nat.zero_le _, HH3.out, hG, by unfold maxLen; omega, ?_, ?_⟩⟩, HO3.out.mono (fun k hk e => by omega), Or.inr rfl⟩
  ·simp only [List.length_append, List.length_take, List.length_drop, hnl]; omega
  ·rw [Z0d (by rw [Z0d (by rw [hnl, hRs]; omega), List.length_drop, hRs]; omega), Z0d (by rw [hnl, hRs]; omega), hRs]; omega
  ·exact ZfN (by omega) hnl (by omega) HRT.out (by rw [hRs]; omega)
 clear hcp1 hcp2 HH3 HO3
 go_wp2
 go_ret
 exact ⟨_, rfl, HF.out⟩
theorem ZaA (g n cap i vb : Nat) (xs news : List Value) (w : World) (hown : w.ownsRow 0 163 1 (.slice (some ⟨g, 0, none⟩) n cap) n xs) (hnl : news.length = 1) (hnew : w.heap[vb]? = some (.cells news.toArray 163 (0, 0))) (h1 : ∀ u ∈ news, u.oneCell' = true) (hx1 : ∀ u ∈ xs, u.oneCell' = true) (hn : n <= 100000) (hi : i < n) (hcap : n + 1 <= cap) (hvg : vb ≠ g) :
  Calls Tryz.prog 119 #[.slice (some ⟨g, 0, none⟩) n cap, .int .i64 (i : Int), .slice (some ⟨vb, 0, none⟩) 1 1] w fun e w' => ∃ v', e = .returned v' /\ ZW w w' 163 1 (.slice (some ⟨g, 0, none⟩) n cap) v' (n + 1) (xs.take i ++ news ++ xs.drop i) := by
 have hxl := hown.1
 have hcell : ∀ j v, xs[j]? = some v -> w.cell? ⟨g, j, none⟩ = some v := fun j v hj => by have := hown.cells rfl j v hj; rw [Zq, Nat.zero_add] at this; exact this
 obtain ⟨cur, hcur, hcs, hct, hcm⟩ : ∃ cur : Array Value, w.heap[g]? = some (.cells cur 163 (0, 0)) /\ cur.size = cap /\ cur.toList.take (n) = xs /\ cap <= maxLen := by
  rcases hown.2 with ⟨e1, _⟩ | ⟨g', cap', cur, e1, _, hh, _, hm, h1, h2⟩
  ·cases e1
  ·injection e1 with e1 _ e3
   injection e1 with e1
   injection e1 with e1 _ _
   subst e1 e3
   exact ⟨cur, hh, by simpa using h1, by simpa using h2, hm⟩
 unfold maxLen at hcm
 have hov : ∀ lb cb, (callFunc 150 #[.slice (some ⟨vb, 0, none⟩) 1 1, .slice (some ⟨g, (i + 1), none⟩) lb cb]).run Tryz.prog w = .ok (.value (.bool false)) w := fun lb cb => by
  rw [run_callFunc_extern Tryz.func150 (by kernel_rfl) (by kernel_rfl) (by kernel_rfl) (e := Extern.SlicesOverlaps.overlaps #[165, 165] #[4]) (by kernel_rfl),
    Lib.run_overlaps_apart w 165 4 163 Tryz.underlying165 1 (fun w => by kernel_rfl) ⟨vb, 0, none⟩ ⟨g, (i + 1), none⟩ 1 1 lb cb hvg 163 163 news.toArray.size cur.size (by simp [World.shape?, hnew]) (by simp [World.shape?, hcur]) (by rw [hcs]; omega) (Z7 hnew 0) (Z7 hnew _)]
  rfl
 have hin : ¬ ((i : Int) = (n : Int)) := by omega
 have d0 : (0 : Int) <= (i : Int) := by omega
 have d1 : (i : Int) <= (n : Int) := by omega
 have d2 : (i : Int) <= (n : Int) + 1 := by omega
 have dw : IntKind.i64.wrap ((i : Int) + 1) = (i : Int) + 1 := Z2H (by omega)
 have dt : ((i : Int) + 1).toNat = i + 1 := by omega
 have d3 : (0 : Int) <= (i : Int) + 1 := by omega
 have d4 : (i : Int) + 1 <= (n : Int) + 1 := by omega
 have hci : ¬ cap = i := by omega
 have hci1 : ¬ cap = i + 1 := by omega
 obtain ⟨w2, hcp1, hh2, ho2⟩ := Z1C (P := Tryz.prog) w.drew 165 165 163 (k := 1) (g := g) (at_ := (i + 1)) (dLen := n - i) (dCap := cap - (i + 1)) (sLen := n + 1 - i) (sCap := cap - i) (src := ⟨g, i, none⟩) (cs := xs.drop i) (m := n - i) Tryz.underlying165 Z3e (Nat.min_eq_right (by omega)) (show w.drew.heap[g]? = _ from hcur) (by rw [List.length_drop]; omega) (fun j v hj => by
   rw [Zq]
   rw [List.getElem?_drop] at hj
   exact hcell _ v hj) (by rw [List.length_drop, hcs]; omega) (fun v hv => hx1 v (List.mem_of_mem_drop hv))
 have HO2 : Hid (Z0 (fun k => k = g) w w2) := ((Z0.refl (fun k => k = g) w).drew).trans ho2
 obtain ⟨w3, hcp2, hh3, ho3⟩ := Z1C (P := Tryz.prog) w2 165 165 163 (k := 1) (g := g) (at_ := i) (dLen := n + 1 - i) (dCap := cap - i) (sLen := 1) (sCap := 1) (src := ⟨vb, 0, none⟩) (cs := news) (m := 1) Tryz.underlying165 Z3e (Nat.min_eq_left (by omega)) hh2 (by rw [hnl]) (fun j v hj => by rw [Zq, Z1 (HO2.out.get hnew hvg), Nat.zero_add]; simpa using hj) (by rw [hnl, Z0d (by rw [List.length_drop, hcs]; omega), hcs]; omega) h1
 have HF : Hid (ZW w w3 163 1 (.slice (some ⟨g, 0, none⟩) n cap) (.slice (some ⟨g, 0, none⟩) (n + 1) cap) (n + 1) (xs.take i ++ news ++ xs.drop i)) := by
  refine ⟨⟨?_, Or.inr ⟨g, cap, _, rfl, Nat.zero_le _, hh3, hcap, by unfold maxLen; omega, ?_, ?_⟩⟩, (HO2.out.trans ho3).mono (fun k hk e => by rw [e]; rfl), Or.inl rfl⟩
  ·simp only [List.length_append, List.length_take, List.length_drop, hnl]; omega
  ·rw [Z0d (by rw [hnl, Z0d (by rw [List.length_drop, hcs]; omega), hcs]; omega), Z0d (by rw [List.length_drop, hcs]; omega), hcs]; omega
  ·exact Zeg (by omega) hnl (by omega) hct (by rw [hcs]; omega)
 clear hown hcell hcur hct hnew h1 hx1 hh2 ho2 hh3 ho3 HO2
 go_enter Tryz.func119, Tryz.ntmps119
 go_wp2_with fail
 go_region_held3 (fun _ => True) (first | trivial | fail) (fail)
 go_wp2
 go_ret
 exact ⟨_, rfl, HF.out⟩
theorem Zcx (v : Value) (n i vb : Nat) (xs news : List Value) (w : World) (hown : w.ownsRow 0 163 1 v n xs) (hnl : news.length = 1) (hnew : w.heap[vb]? = some (.cells news.toArray 163 (0, 0))) (h1 : ∀ u ∈ news, u.oneCell' = true) (hx1 : ∀ u ∈ xs, u.oneCell' = true) (hn : n <= 100000) (hi : i <= n) (hvb : v.ownBlock ≠ some vb) :
  Calls Tryz.prog 119 #[v, .int .i64 (i : Int), .slice (some ⟨vb, 0, none⟩) 1 1] w fun e w' => ∃ v', e = .returned v' /\ ZW w w' 163 1 v v' (n + 1) (xs.take i ++ news ++ xs.drop i) := by
 have hxl := hown.1
 by_cases hin : i = n
 ·subst hin
  have := Zcw v i vb xs news w hown hnl hnew h1 hn
  rw [List.take_of_length_le (by omega), List.drop_of_length_le (by omega), List.append_nil]
  exact this
 ·rcases ZJ hown with ⟨_, h0⟩ | ⟨g, cap, rfl, hnc, _⟩
  ·omega
  ·by_cases hc : cap = n
   ·subst hc
    exact Zbq g cap i vb xs news w hown hnl hnew h1 hx1 hn (by omega)
   ·exact ZaA g n cap i vb xs news w hown hnl hnew h1 hx1 hn (by omega) (by omega) (fun e => hvb (by rw [e]; rfl))
structure Z6J (K : Nat -> Prop) (w : World) (b : Nat) (F : Nat -> Prop) (xs : List EV) (v : Value) : Prop where
 box : w.heap[b]? = some (.cells #[v, .slice none 0 0] 167 (0, 0))
 row : RowAt w v xs
 key : ∀ x ∈ xs, Z17 w K x
 foot : F b /\ (∀ k, v.ownBlock = some k -> F k)
structure Z53 (N : World -> Nat -> (Nat -> Prop) -> List EV -> Prop) (w : World) (b : Nat) (F : Nat -> Prop) (v u : Value) (ks : List Kid) : Prop where
 box : w.heap[b]? = some (.cells #[v, u] 167 (0, 0))
 row : RowAt w v (heads ks)
 kids : w.ownsRow 0 163 1 u ks.length (kptrs ks)
 some_ : ∃ g, u.ownBlock = some g
 two : 2 <= ks.length
 kid : ∀ x ∈ ks, x.xs ≠ [] /\ N w x.b x.F x.xs
 sub : ∀ x ∈ ks, ∀ k, x.F k -> F k /\ k ≠ b /\ v.ownBlock ≠ some k /\ u.ownBlock ≠ some k
 apart : ks.Pairwise (fun x y => ∀ k, x.F k -> ¬ y.F k)
 foot : F b /\ (∀ k, v.ownBlock = some k -> F k) /\ (∀ k, u.ownBlock = some k -> F k)
def Zi (K : Nat -> Prop) : Nat -> World -> Nat -> (Nat -> Prop) -> List EV -> Prop
 | 0, w, b, F, xs => ∃ v, Z6J K w b F xs v
 | h + 1, w, b, F, xs => ∃ v u ks, Z53 (Zi K h) w b F v u ks /\ xs = flat ks
theorem Zi.kept {K S : Nat -> Prop} {w w' : World} (ho : Z0 S w w') (hK : ∀ k, K k -> ¬ S k) {h : Nat} : ∀ {b : Nat} {F : Nat -> Prop} {xs : List EV}, Zi K h w b F xs -> (∀ k, F k -> ¬ S k) -> Zi K h w' b F xs := by
 induction h with
 | zero =>
  intro b F xs ⟨v, h⟩ hF
  exact ⟨v, ho.get h.box (hF _ h.foot.1), Z4 h.row ho (fun k e => hF k (h.foot.2 k e)), fun x hx => (h.key x hx).kept ho hK, h.foot⟩
 | succ h ih =>
  intro b F xs ⟨v, u, ks, h, e⟩ hF
  exact ⟨v, u, ks, ⟨ho.get h.box (hF _ h.foot.1), Z4 h.row ho (fun k e => hF k (h.foot.2.1 k e)), Z4 h.kids ho (fun k e => hF k (h.foot.2.2 k e)), h.some_, h.two, fun x hx => ⟨(h.kid x hx).1, ih (h.kid x hx).2 (fun k hk => hF k (h.sub x hx k hk).1)⟩, h.sub, h.apart, h.foot⟩, e⟩
theorem Zi.mono {K : Nat -> Prop} {h : Nat} {w : World} {b : Nat} {F G : Nat -> Prop} {xs : List EV} (hn : Zi K h w b F xs) (hg : ∀ k, F k -> G k) : Zi K h w b G xs := by
 cases h with
 | zero => obtain ⟨v, h⟩ := hn; exact ⟨v, h.box, h.row, h.key, hg _ h.foot.1, fun k e => hg _ (h.foot.2 k e)⟩
 | succ h =>
  obtain ⟨v, u, ks, h, e⟩ := hn
  exact ⟨v, u, ks, ⟨h.box, h.row, h.kids, h.some_, h.two, h.kid, fun x hx k hk => ⟨hg _ (h.sub x hx k hk).1, (h.sub x hx k hk).2⟩, h.apart, hg _ h.foot.1, fun k e => hg _ (h.foot.2.1 k e), fun k e => hg _ (h.foot.2.2 k e)⟩, e⟩
theorem Zi.keys {K K' : Nat -> Prop} {w : World} (hk : ∀ k, K k -> K' k) {h : Nat} : ∀ {b : Nat} {F : Nat -> Prop} {xs : List EV}, Zi K h w b F xs -> Zi K' h w b F xs := by
 induction h with
 | zero =>
  intro b F xs ⟨v, h⟩
  exact ⟨v, h.box, h.row, fun x hx => (h.key x hx).mono hk, h.foot⟩
 | succ h ih =>
  intro b F xs ⟨v, u, ks, h, e⟩
  exact ⟨v, u, ks, ⟨h.box, h.row, h.kids, h.some_, h.two, fun x hx => ⟨(h.kid x hx).1, ih (h.kid x hx).2⟩, h.sub, h.apart, h.foot⟩, e⟩
theorem Zi.key {K : Nat -> Prop} {w : World} {h : Nat} : ∀ {b : Nat} {F : Nat -> Prop} {xs : List EV}, Zi K h w b F xs -> ∀ x ∈ xs, Z17 w K x := by
 induction h with
 | zero => intro b F xs ⟨v, h⟩; exact h.key
 | succ h ih =>
  intro b F xs ⟨v, u, ks, h, e⟩ x hx
  rw [e] at hx
  obtain ⟨y, hy, hxy⟩ := List.mem_flatMap.1 hx
  exact ih (h.kid y hy).2 x hxy
theorem Zi.lim {K : Nat -> Prop} {w : World} {h : Nat} : ∀ {b : Nat} {F : Nat -> Prop} {xs : List EV}, Zi K h w b F xs -> Zi K h w b (fun k => F k /\ k < w.heap.size) xs := by
 induction h with
 | zero =>
  intro b F xs ⟨v, h⟩
  exact ⟨v, h.box, h.row, h.key, ⟨h.foot.1, Z2 h.box⟩, fun k e => ⟨h.foot.2 k e, (h.row.lt k e).2⟩⟩
 | succ h ih =>
  intro b F xs ⟨v, u, ks, h, e⟩
  refine ⟨v, u, ks.map (fun x => ⟨x.b, fun k => x.F k /\ k < w.heap.size, x.xs⟩), ⟨h.box, ?_, ?_, h.some_, by simpa using h.two, fun x hx => ?_, fun x hx k hk => ?_, ?_, ⟨h.foot.1, Z2 h.box⟩, fun k e => ⟨h.foot.2.1 k e, (h.row.lt k e).2⟩, fun k e => ⟨h.foot.2.2 k e, (h.kids.lt k e).2⟩⟩, ?_⟩
  ·rw [heads, List.map_map]; exact h.row
  ·rw [kptrs, List.map_map, List.length_map]; exact h.kids
  ·obtain ⟨y, hy, rfl⟩ := List.mem_map.1 hx
   exact ⟨(h.kid y hy).1, ih (h.kid y hy).2⟩
  ·obtain ⟨y, hy, rfl⟩ := List.mem_map.1 hx
   exact ⟨⟨(h.sub y hy k hk.1).1, hk.2⟩, (h.sub y hy k hk.1).2⟩
  ·rw [List.pairwise_map]
   exact h.apart.imp (fun hxy k hk hk' => hxy k hk.1 hk'.1)
  ·rw [flat, List.flatMap_map]; exact e
section
variable {P : Program}
theorem Z5X {fn : Func} {p : Tmp} {ty : TypeId} (h : fn.results = #[.cell p ty]) (tmps : Array Value) (w : World) (g : Nat) (t : TypeId) (cs : Array Value) (fr : Nat × Nat) (d : TypeDesc)
  (hp : tmps.getD p undef = .pointer (some ⟨g, 0, none⟩)) (hg : w.heap[g]? = some (.cells cs t fr))
  (hu : P.underlying ty = some d) (hd : (match d with | .struct _ | .array _ _ => true | _ => false) = true) (hi : (P.info? ty).map (·.size) = some cs.size) :
  (results fn tmps).run P w = .ok (.agg cs) w := by
 have hp' : tmps[p]?.getD undef = .pointer (some ⟨g, 0, none⟩) := by simpa using hp
 simp [results, h, hp', asAddr, run_loadVar_row w g t ty cs fr d hg hu hd hi]
end
theorem Zbr : (Tryz.prog.info? 111).map (·.size) = some 3 := by kernel_rfl
theorem Z3z (b : Nat) (v : Value) (A : Option Addr) (n c : Nat) (w : World) (h : w.heap[b]? = some (.cells #[v, .slice A n c] 167 (0, 0))) :
  Calls Tryz.prog 114 #[ptrV b] w fun e w' => e = .returned (.bool A.isNone) /\ w = w' := by
 have heq := fun (w : World) (a : Option Addr) (n c : Nat) => Lib.run_eql_slice_nil (P := Tryz.prog) w 165 _ a n c 0 0 Tryz.underlying165
 have c1 : w.cell? ⟨b, 1, none⟩ = some (.slice A n c) := by rw [Z1 h]; rfl
 clear h
 go_enter Tryz.func114, Tryz.ntmps114
 go_wp2
 go_ret
 exact ⟨rfl, rfl⟩
theorem Z53.form {N : World -> Nat -> (Nat -> Prop) -> List EV -> Prop} {w : World} {b : Nat} {F : Nat -> Prop} {v u : Value} {ks : List Kid} (h : Z53 N w b F v u ks) : ∃ g c, u = .slice (some ⟨g, 0, none⟩) ks.length c /\ ks.length <= c /\ c <= maxLen := by
 obtain ⟨g, hg⟩ := h.some_
 rcases ZJ h.kids with ⟨e, _⟩ | ⟨g', c, e, h1, h2⟩
 ·rw [e] at hg; cases hg
 ·exact ⟨g', c, e, h1, h2⟩
theorem Zi.row {K F : Nat -> Prop} {h : Nat} {w : World} {b : Nat} {xs : List EV} (hn : Zi K h w b F xs) (hx : xs ≠ []) : ∃ v u ys, w.heap[b]? = some (.cells #[v, u] 167 (0, 0)) /\ RowAt w v ys /\ ys ≠ [] /\ hd ys = hd xs := by
 cases h with
 | zero => obtain ⟨v, h⟩ := hn; exact ⟨v, _, xs, h.box, h.row, hx, rfl⟩
 | succ h =>
  obtain ⟨v, u, ks, h, e⟩ := hn
  have h2 := h.two
  rcases ks with _ | ⟨x, ks⟩
  ·simp at h2
  ·refine ⟨v, u, _, h.box, h.row, by simp, ?_⟩
   rw [e, flat, List.flatMap_cons, Za1 (h.kid x (by simp)).1]
   rfl
theorem ZfQ {w w' : World} {g n c : Nat} {xs : List EV} {j : Nat} {x : EV} (h : RowAt w (.slice (some ⟨g, 0, none⟩) n c) xs) (hj : xs[j]? = some x) (hq : Quiet w w') :
  w'.cell? ⟨g, j * 3, none⟩ = some (.slice x.A x.e.key.length x.c) /\ w'.cell? ⟨g, j * 3 + 1, none⟩ = some (.int .i64 x.e.pg) /\ w'.cell? ⟨g, j * 3 + 2, none⟩ = some (.int .i64 x.e.sl) := by
 obtain ⟨h1, h2, h3⟩ := Zbm hj
 have key : ∀ k u, (ZU xs)[k]? = some u -> w'.cell? ⟨g, k, none⟩ = some u := fun k u hu => by
  have := h.cells rfl k u hu
  rw [Zq, Nat.zero_add] at this
  exact hq.cell this (fun x => x)
 exact ⟨key _ _ h1, key _ _ h2, key _ _ h3⟩
theorem Z5b {K F : Nat -> Prop} {h : Nat} {w : World} {b : Nat} {xs : List EV} (hn : Zi K h w b F xs) (hx : xs ≠ []) :
  Calls Tryz.prog 83 #[ptrV b] w fun e w' => e = .returned (entV (hd xs).e (hd xs).A (hd xs).c) /\ w' = w.alloc (.cells #[.slice (hd xs).A (hd xs).e.key.length (hd xs).c, .int .i64 (hd xs).e.pg, .int .i64 (hd xs).e.sl] 111) := by
 obtain ⟨v, u, ys, hbox, hrow, hys, he⟩ := hn.row hx
 rw [<- he]
 have hl : 0 < ys.length := List.length_pos_iff.2 hys
 obtain ⟨g, c, rfl, hc, hcm⟩ : ∃ g c, v = .slice (some ⟨g, 0, none⟩) ys.length c /\ ys.length <= c /\ c <= maxLen := by
  rcases ZJ hrow with ⟨_, e⟩ | ⟨g, c, e, h1, h2⟩
  ·omega
  ·exact ⟨g, c, e, h1, h2⟩
 obtain ⟨c0, c1, c2⟩ := ZfQ hrow (ZfO hys) (w' := w.alloc (.cells #[.slice none 0 0, .int .i64 0, .int .i64 0] 111)) ((Z0.refl (fun _ => False) w).alloc _)
 rw [Nat.zero_mul] at c0 c1 c2
 rw [Nat.zero_add] at c1 c2
 have d0 : (0 : Int) < (ys.length : Int) := by omega
 have hb1 := Zd hbox (.cells #[.slice none 0 0, .int .i64 0, .int .i64 0] 111)
 have b0 : (w.alloc (.cells #[.slice none 0 0, .int .i64 0, .int .i64 0] 111)).cell? ⟨b, 0, none⟩ = some (.slice (some ⟨g, 0, none⟩) ys.length c) := by rw [Z1 hb1]; rfl
 generalize hd ys = y at *
 clear hn hx hbox hb1 hrow he hys
 go_enter Tryz.func83, Tryz.ntmps83
 go_wp2
 exact bodyPost_ret (Z5X Tryz.results83 _ _ w.heap.size _ _ (0, 0) _ (by rfl) (Z5 w _) Tryz.underlying111 rfl Zbr) (by rfl) ⟨rfl, rfl⟩
theorem Z6o {K F : Nat -> Prop} {h : Nat} {w : World} {b : Nat} {xs : List EV} (hn : Zi K h w b F xs) (hx : xs ≠ []) :
  Calls Tryz.prog 83 #[ptrV b] w fun e w' => e = .returned (entV (hd xs).e (hd xs).A (hd xs).c) /\ Quiet w w' :=
 (Z5b hn hx).mono fun _ _ ⟨he, hw⟩ => ⟨he, by rw [hw]; exact (Z0.refl _ _).alloc _⟩
def Z5n (t : Ent) (es : List Ent) : Nat := if t ∈ es then ZH t es else ZH t es - 1
structure Zgw (t : Ent) (es : List Ent) (i : Nat) : Prop where
 lt : i < es.length
 left : i = 0 ∨ ∀ y, es[i]? = some y -> ¬ cmpE t y < 0
 right : ∀ j y, i < j -> es[j]? = some y -> cmpE t y < 0
theorem Zeh {t : Ent} {es : List Ent} (hs : ZK es) (h0 : es ≠ []) : Zgw t es (Z5n t es) := by
 have hl := List.length_pos_iff.2 h0
 have hp := Z4m t es
 unfold Z5n
 by_cases hm : t ∈ es
 ·rw [if_pos hm]
  have ht := (Z7H hs).1 hm
  have hlt := (zi.1 ht).1
  refine ⟨hlt, Or.inr (fun y hy => ?_), fun j y hj hy => hs.get hj ht hy⟩
  rw [ht] at hy
  injection hy with hy
  rw [<- hy, Z36]
  omega
 ·rw [if_neg hm]
  refine ⟨by omega, ?_, fun j y hj hy => Z7h hs hm (j := j) (by omega) hy⟩
  ·by_cases h1 : ZH t es = 0
   ·exact Or.inl (by omega)
   ·right
    intro y hy h
    have := Z3H (e := t) (l := es) (j := ZH t es - 1) (by omega) hy
    have := Z1P h this
    rw [Z36] at this
    omega
theorem ZfR (b : Nat) (v u : Value) (ys : List EV) (t : EV) (K K' : Nat -> Prop) (w : World) (hbox : w.heap[b]? = some (.cells #[v, u] 167 (0, 0))) (hrow : RowAt w v ys) (hk : ∀ x ∈ ys, Z17 w K x) (ht : Z17 w K' t) (hs : ZK (ents ys)) (hl : ys.length <= 100000) :
  Calls Tryz.prog 118 #[ptrV b, entV t.e t.A t.c] w fun e w' => e = .returned (.int .i64 (Z5n t.e (ents ys) : Int)) /\ Quiet w w' := by
 obtain ⟨A, c, rfl, hc, hcm, hrd⟩ := Z9 hrow
 have hq0 : Quiet w (w.alloc (.cells #[.slice t.A t.e.key.length t.c, .int .i64 t.e.pg, .int .i64 t.e.sl] 111)) := (Z0.refl _ _).alloc _
 have HQ0 := zh hq0
 have b0 : (w.alloc (.cells #[.slice t.A t.e.key.length t.c, .int .i64 t.e.pg, .int .i64 t.e.sl] 111)).cell? ⟨b, 0, none⟩ = some (.slice A ys.length c) := by rw [Z1 (hq0.get hbox (fun x => x))]; rfl
 obtain ⟨t0, t1, t2⟩ := Z1B (Z5 w (.cells #[.slice t.A t.e.key.length t.c, .int .i64 t.e.pg, .int .i64 t.e.sl] 111))
 have HSR := zh (Z8w ys t A c _ K K' _ (hrd.kept hq0.drew (fun _ _ x => x)) (fun x hx => (hk x hx).quietly hq0.drew) (ht.quietly hq0.drew) hs hl)
 have hpl : ZH t.e (ents ys) <= ys.length := by have := Z4m t.e (ents ys); simpa using this
 have HR : Hid (Z5n t.e (ents ys) = if t.e ∈ ents ys then ZH t.e (ents ys) else ZH t.e (ents ys) - 1) := rfl
 generalize ZH t.e (ents ys) = p at *
 generalize Z5n t.e (ents ys) = r at *
 by_cases hm : t.e ∈ ents ys
 ·rw [if_pos hm] at HR
  have HSR' := HSR.out
  rw [decide_eq_true hm] at HSR'
  have HS := zh HSR'
  clear hbox hrow hrd hk ht hs hq0 HSR HSR' hm
  go_enter Tryz.func118, Tryz.ntmps118
  go_wp2_with fail
  go_region_held3 (fun w' => w'.cell? ⟨b, 0, none⟩ = some (.slice A ys.length c) /\ w'.cell? ⟨w.heap.size, 0, none⟩ = some (.slice t.A t.e.key.length t.c) /\ w'.cell? ⟨w.heap.size, 1, none⟩ = some (.int .i64 t.e.pg) /\ w'.cell? ⟨w.heap.size, 2, none⟩ = some (.int .i64 t.e.sl))
   (first | go_keep | fail)
   (first
     | (go_at_call 115; go_must (refine HS.out.mono ?_; rintro e w2 ⟨rfl, hq2⟩; have k0 := hq2.cell b0 (fun x => x); have k1 := hq2.cell t0 (fun x => x); have k2 := hq2.cell t1 (fun x => x); have k3 := hq2.cell t2 (fun x => x)))
     | fail)
  have HQ2 := zh (HQ0.out.drew.trans hq2)
  clear hq2 k0 k1 k2 k3 b0 t0 t1 t2 HS HQ0
  go_wp2
  go_ret
  rw [HR.out]
  exact ⟨rfl, HQ2.out⟩
 ·rw [if_neg hm] at HR
  have HSR' := HSR.out
  rw [decide_eq_false hm] at HSR'
  have HS := zh HSR'
  clear hbox hrow hrd hk ht hs hq0 HSR HSR' hm
  go_enter Tryz.func118, Tryz.ntmps118
  go_wp2_with fail
  go_region_held3 (fun w' => w'.cell? ⟨b, 0, none⟩ = some (.slice A ys.length c) /\ w'.cell? ⟨w.heap.size, 0, none⟩ = some (.slice t.A t.e.key.length t.c) /\ w'.cell? ⟨w.heap.size, 1, none⟩ = some (.int .i64 t.e.pg) /\ w'.cell? ⟨w.heap.size, 2, none⟩ = some (.int .i64 t.e.sl))
   (first | go_keep | fail)
   (first
     | (go_at_call 115; go_must (refine HS.out.mono ?_; rintro e w2 ⟨rfl, hq2⟩; have k0 := hq2.cell b0 (fun x => x); have k1 := hq2.cell t0 (fun x => x); have k2 := hq2.cell t1 (fun x => x); have k3 := hq2.cell t2 (fun x => x)))
     | fail)
  have HQ2 := zh (HQ0.out.drew.trans hq2)
  clear hq2 k0 k1 k2 k3 b0 t0 t1 t2 HS HQ0
  go_wp2
  go_ret
  rw [HR.out, show ((p - 1 : Nat) : Int) = max ((p : Int) - 1) 0 by omega]
  exact ⟨rfl, HQ2.out⟩
def Zbs (w : World) (e0 : Ent) (e : Ending) (w' : World) : Prop :=
 ∃ A c, e = .returned (entV e0 A c) /\ Quiet w w' /\ Rd w' (fun k => w.heap.size <= k /\ k < w'.heap.size) 1 A e0.key.length (Zg e0.key)
theorem Zda (w : World) : Calls Tryz.prog 34 #[] w fun e w' => e = .returned (ptrV (w.heap.size + 1)) /\ Quiet w w' /\ w'.heap[w.heap.size]? = some (.cells #[.slice none 0 0, .slice none 0 0] 167 (0, 0)) /\ w'.heap[w.heap.size + 1]? = some (.cells #[ptrV w.heap.size, .int .i64 0] 169 (0, 0)) := by
 go_enter Tryz.func34, Tryz.ntmps34
 go_wp2
 go_ret
 exact ⟨rfl, ((Z0.refl _ _).alloc _).alloc _, Zd (Z5 _ _) _, Z0r _ _ _⟩
structure Z8X (K : Nat -> Prop) (h : Nat) (w w' : World) (b : Nat) (F : Nat -> Prop) (xs : List EV) (r : Nat) (F1 F2 : Nat -> Prop) (x1 x2 : List EV) : Prop where
 all : xs = x1 ++ x2
 ne1 : x1 ≠ []
 ne2 : x2 ≠ []
 n1 : Zi K h w' b F1 x1
 n2 : Zi K h w' r F2 x2
 apart : ∀ k, F1 k -> ¬ F2 k
 sub1 : ∀ k, F1 k -> F k ∨ w.heap.size <= k
 sub2 : ∀ k, F2 k -> F k ∨ w.heap.size <= k
 only : Z0 F w w'
def Z6p (K : Nat -> Prop) (h : Nat) (w : World) (b : Nat) (F : Nat -> Prop) (xs : List EV) (e : Ending) (w' : World) : Prop :=
 (e = .returned (.pointer none) /\ w = w') ∨ ∃ r F1 F2 x1 x2, e = .returned (ptrV r) /\ Z8X K h w w' b F xs r F1 F2 x1 x2
theorem Z8y (b : Nat) (v u : Value) (ys : List EV) (w : World) (hbox : w.heap[b]? = some (.cells #[v, u] 167 (0, 0))) (hrow : RowAt w v ys) (hl : ys.length <= 8) :
  Calls Tryz.prog 82 #[ptrV b] w fun e w' => e = .returned (.pointer none) /\ w = w' := by
 obtain ⟨A, c, rfl, hc, hcm, _⟩ := Z9 hrow
 have b0 : w.cell? ⟨b, 0, none⟩ = some (.slice A ys.length c) := by rw [Z1 hbox]; rfl
 have d : decide ((ys.length : Int) <= 8) = true := decide_eq_true (by omega)
 clear hbox hrow
 go_enter Tryz.func82, Tryz.ntmps82
 go_wp2
 go_ret
 exact ⟨rfl, rfl⟩
theorem ZfS {w : World} {v : Value} {g n c : Nat} {ys : List EV} (h : RowAt w v ys) (e : v = .slice (some ⟨g, 0, none⟩) n c) : Rd w (· = g) 3 (some ⟨g, 0, none⟩) ys.length (ZU ys) := by
 subst e
 refine ⟨by rw [Z5a], fun _ => ⟨g, 0, rfl, rfl, fun j u hu => ?_⟩⟩
 have := h.cells rfl j u hu
 rw [Zq] at this
 exact this
structure Z8Y (w w3 : World) (b r : Nat) (v1 v2 u : Value) (ys : List EV) (k : Nat) : Prop where
 only : Z0 (· = b) w (w3.setCell ⟨b, 0, none⟩ v1)
 box : (w3.setCell ⟨b, 0, none⟩ v1).heap[b]? = some (.cells #[v1, u] 167 (0, 0))
 new : (w3.setCell ⟨b, 0, none⟩ v1).heap[r]? = some (.cells #[v2, .slice none 0 0] 167 (0, 0))
 row1 : RowAt (w3.setCell ⟨b, 0, none⟩ v1) v1 (ys.take k)
 row2 : RowAt (w3.setCell ⟨b, 0, none⟩ v1) v2 (ys.drop k)
 fresh : w.heap.size <= r /\ (∀ j, v1.ownBlock = some j -> w.heap.size <= j /\ j ≠ r /\ v2.ownBlock ≠ some j) /\ (∀ j, v2.ownBlock = some j -> w.heap.size <= j /\ j ≠ r)
theorem Za2 {w w1 w3 : World} {b k : Nat} {v v1 v2 u : Value} {ys : List EV} (hbox : w.heap[b]? = some (.cells #[v, u] 167 (0, 0))) (hk : k <= ys.length)
  (h1 : Z28 w w1 111 3 v2 (ys.length - k) (ZU (ys.drop k))) (h3 : Z28 (w1.alloc (.cells #[v2, .slice none 0 0] 167)) w3 111 3 v1 k (ZU (ys.take k))) : Z8Y w w3 b w1.heap.size v1 v2 u ys k := by
 have hb := Z2 hbox
 have hz1 := h1.quiet.size
 have hz3 := h3.quiet.size
 rw [World.size_alloc] at hz3
 obtain ⟨j1, e1, l1⟩ := h3.loc
 obtain ⟨j2, e2, l2⟩ := h1.loc
 rw [World.size_alloc] at l1
 have hj2 := (h1.own.lt j2 e2).2
 have hq : Quiet w w3 := (h1.quiet.alloc _).trans h3.quiet
 have hset : Z0 (· = b) w3 (w3.setCell ⟨b, 0, none⟩ v1) := (Z0.refl (· = b) w3).setCell (p := ⟨b, 0, none⟩) (fun _ => rfl) _
 refine ⟨(hq.mono (T := (· = b)) (fun _ _ x => x.elim)).trans hset, ?_, ?_, ?_, ?_, hz1, fun j e => ?_, fun j e => ?_⟩
 ·rw [Zf (hq.get hbox (fun x => x)) 0 v1]; rfl
 ·exact hset.get (h3.quiet.get (Z5 w1 _) (fun x => x)) (by show ¬ w1.heap.size = b; omega)
 ·have hl : (ys.take k).length = k := by rw [List.length_take]; omega
  unfold RowAt
  rw [hl]
  exact Z4 h3.own hset (fun j e x => by rw [e1] at e; injection e with e; omega)
 ·have hl : (ys.drop k).length = ys.length - k := List.length_drop
  unfold RowAt
  rw [hl]
  exact Z4 (Z4 (Z4 h1.own ((Z0.refl (fun _ => False) w1).alloc _) (fun _ _ x => x)) h3.quiet (fun _ _ x => x)) hset (fun j e x => by rw [e2] at e; injection e with e; omega)
 ·rw [e1] at e
  injection e with e
  exact ⟨by omega, by omega, fun x => by rw [e2] at x; injection x with x; omega⟩
 ·rw [e2] at e
  injection e with e
  exact ⟨by omega, by omega⟩
theorem Z8Y.leaf {K F : Nat -> Prop} {w w3 : World} {b r k : Nat} {v v1 v2 : Value} {xs : List EV} (h : Z8Y w w3 b r v1 v2 (.slice none 0 0) xs k) (hl : Z6J K w b F xs v) (hK : ∀ j, K j -> ¬ F j) (hk0 : 0 < k) (hk : k < xs.length) :
  Z8X K 0 w (w3.setCell ⟨b, 0, none⟩ v1) b F xs r (fun j => j = b ∨ v1.ownBlock = some j) (fun j => j = r ∨ v2.ownBlock = some j) (xs.take k) (xs.drop k) := by
 have hb := Z2 hl.box
 have hkey : ∀ x ∈ xs, Z17 (w3.setCell ⟨b, 0, none⟩ v1) K x := fun x hx => (hl.key x hx).kept h.only (fun j hj e => hK j hj (by rw [e]; exact hl.foot.1))
 refine ⟨(List.take_append_drop k xs).symm, fun e => ?_, fun e => ?_, ⟨v1, h.box, h.row1, fun x hx => hkey x (List.mem_of_mem_take hx), Or.inl rfl, fun j e => Or.inr e⟩, ⟨v2, h.new, h.row2, fun x hx => hkey x (List.mem_of_mem_drop hx), Or.inl rfl, fun j e => Or.inr e⟩, fun j x y => ?_, fun j x => ?_, fun j x => ?_, h.only.mono (fun j _ e => by rw [e]; exact hl.foot.1)⟩
 ·have := congrArg List.length e; rw [List.length_take, List.length_nil] at this; omega
 ·have := congrArg List.length e; rw [List.length_drop, List.length_nil] at this; omega
 ·have hf := h.fresh
  rcases x with x | x <;> rcases y with y | y
  ·omega
  ·have := (hf.2.2 j y).1; omega
  ·exact (hf.2.1 j x).2.1 y
  ·exact (hf.2.1 j x).2.2 y
 ·rcases x with x | x
  ·exact Or.inl (by rw [x]; exact hl.foot.1)
  ·exact Or.inr (h.fresh.2.1 j x).1
 ·rcases x with x | x
  ·exact Or.inr (by rw [x]; exact h.fresh.1)
  ·exact Or.inr (h.fresh.2.2 j x).1
theorem Zei {K F : Nat -> Prop} {w : World} {b : Nat} {xs : List EV} {v : Value} (hl : Z6J K w b F xs v) (hK : ∀ j, K j -> ¬ F j) (hn : xs.length <= 100000) :
  Calls Tryz.prog 82 #[ptrV b] w (Z6p K 0 w b F xs) := by
 by_cases h8 : xs.length <= 8
 ·exact (Z8y b v _ xs w hl.box hl.row h8).mono (fun e w' h => Or.inl h)
 ·obtain ⟨g, c, hv, hc, hcm⟩ : ∃ g c, v = .slice (some ⟨g, 0, none⟩) xs.length c /\ xs.length <= c /\ c <= maxLen := by
   rcases ZJ hl.row with ⟨_, e⟩ | ⟨g, c, e, h1, h2⟩
   ·omega
   ·exact ⟨g, c, e, h1, h2⟩
  obtain ⟨k, hk⟩ : ∃ k, xs.length / 2 = k := ⟨_, rfl⟩
  have hrd := ZfS hl.row hv
  have b0 : w.cell? ⟨b, 0, none⟩ = some (.slice (some ⟨g, 0, none⟩) xs.length c) := by rw [Z1 hl.box, <- hv]; rfl
  have HL := zh hl
  have HV := zh hv
  have HK := zh hK
  have HRD := zh hrd
  have HD1 := zh (hrd.drop (k := k) (by omega))
  have hb := Z2 hl.box
  have hkk : 4 <= k /\ k < xs.length := by omega
  have q0 : (0 : Int) <= (xs.length : Int) / 2 := by omega
  have q1 : (xs.length : Int) / 2 <= (xs.length : Int) := by omega
  have q2 : ((xs.length : Int) / 2).toNat = k := by omega
  have q3 : ¬ c = k := by omega
  have d8 : decide ((xs.length : Int) <= 8) = false := decide_eq_false (by omega)
  have hcm' : c <= 9223372036854775807 := by unfold maxLen at hcm; omega
  have HC1 := zh (Z3W ⟨g, 0 + k * 3, none⟩ (xs.length - k) (c - k) _ (· = g) w HD1.out (fun u hu => Z1M xs u (List.mem_of_mem_drop hu)) (by omega))
  rw [Nat.zero_add] at HC1
  clear hrd hK hl hk hcm hv
  go_enter Tryz.func82, Tryz.ntmps82
  have HBX : Hid (w.heap[b]? = some (.cells #[.slice (some ⟨g, 0, none⟩) xs.length c, .slice none 0 0] 167 (0, 0))) := by rw [<- HV.out]; exact HL.out.box
  go_wp2_with fail
  refine HC1.out.mono ?_
  rintro e w1 ⟨v2, rfl, h1⟩
  rw [<- Z3V] at h1
  obtain ⟨A2, c2, hv2, _, _, _⟩ := Z9 h1.own
  subst hv2
  have HN1 := zh h1
  have hq2 : Quiet w (w1.alloc (.cells #[.slice A2 (xs.length - k) c2, .slice none 0 0] 167)) := h1.quiet.alloc _
  have hb2 := hq2.get HBX.out (fun x => x)
  have HB2 := zh hb2
  have HC2 := zh (Z3W ⟨g, 0, none⟩ k c _ (· = g) _ ((HRD.out.takeK (k := k) (by omega)).kept hq2 (fun _ _ x => x)) (fun u hu => Z1M xs u (List.mem_of_mem_take hu)) (by omega))
  have b0' : (w1.alloc (.cells #[.slice A2 (xs.length - k) c2, .slice none 0 0] 167)).cell? ⟨b, 0, none⟩ = some (.slice (some ⟨g, 0, none⟩) xs.length c) := hq2.cell b0 (fun x => x)
  clear h1 HC1 HD1 b0 hb2 hq2
  go_wp2_with fail
  refine HC2.out.mono ?_
  rintro e w3 ⟨v1, rfl, h3⟩
  rw [<- Z3U] at h3
  obtain ⟨A1, c1, hv1, _, _, _⟩ := Z9 h3.own
  subst hv1
  have hb3 := h3.quiet.get HB2.out (fun x => x)
  have HCW := zh (Za2 HBX.out (by omega) HN1.out h3)
  have b3 : w3.cell? ⟨b, 0, none⟩ = some (.slice (some ⟨g, 0, none⟩) xs.length c) := h3.quiet.cell b0' (fun x => x)
  have f3 := fun o => Z7 hb3 o
  clear h3 HC2 b0' hb3 HN1 HRD HB2
  have HLF := zh (Z3z b _ _ _ _ _ HCW.out.box)
  go_wp2_with fail
  refine HLF.out.mono ?_
  rintro e w4 ⟨rfl, rfl⟩
  have HR := zh (HCW.out.leaf HL.out HK.out (by omega) (by omega))
  clear HLF HCW b3 f3
  go_wp2
  go_ret
  exact Or.inr ⟨_, _, _, _, _, rfl, HR.out⟩
structure Zcb (w w8 : World) (b r : Nat) (v1 v2 u1 u2 : Value) (ys : List EV) (ps : List Value) (k : Nat) : Prop where
 only : Z0 (· = b) w w8
 box1 : w8.heap[b]? = some (.cells #[v1, u1] 167 (0, 0))
 box2 : w8.heap[r]? = some (.cells #[v2, u2] 167 (0, 0))
 row1 : RowAt w8 v1 (ys.take k)
 row2 : RowAt w8 v2 (ys.drop k)
 kid1 : w8.ownsRow 0 163 1 u1 k (ps.take k)
 kid2 : w8.ownsRow 0 163 1 u2 (ps.length - k) (ps.drop k)
 some1 : ∃ g, u1.ownBlock = some g
 some2 : ∃ g, u2.ownBlock = some g
 fresh : w.heap.size <= r /\ (∀ j, v1.ownBlock = some j -> w.heap.size <= j /\ j ≠ r /\ v2.ownBlock ≠ some j /\ u2.ownBlock ≠ some j) /\ (∀ j, v2.ownBlock = some j -> w.heap.size <= j /\ j ≠ r) /\ (∀ j, u1.ownBlock = some j -> w.heap.size <= j /\ j ≠ r /\ v2.ownBlock ≠ some j /\ u2.ownBlock ≠ some j) /\ (∀ j, u2.ownBlock = some j -> w.heap.size <= j /\ j ≠ r)
theorem ZfT {w w3 w5 w7 : World} {b r k : Nat} {v1 v2 u u1 u2 : Value} {ys : List EV} {ps : List Value} (hb : b < w.heap.size) (h : Z8Y w w3 b r v1 v2 u ys k)
  (h5 : Z28 (w3.setCell ⟨b, 0, none⟩ v1) w5 163 1 u2 (ps.length - k) (ps.drop k)) (h7 : Z28 (w5.setCell ⟨r, 1, none⟩ u2) w7 163 1 u1 k (ps.take k)) :
  Zcb w (w7.setCell ⟨b, 1, none⟩ u1) b r v1 v2 u1 u2 ys ps k := by
 obtain ⟨hr, hf1, hf2⟩ := h.fresh
 have hz4 := h.only.size
 have hz5 := h5.quiet.size
 have hz7 := h7.quiet.size
 have hs6 : Z0 (· = r) w5 (w5.setCell ⟨r, 1, none⟩ u2) := (Z0.refl (· = r) w5).setCell (p := ⟨r, 1, none⟩) (fun _ => rfl) _
 have hz6 := hs6.size
 have hs8 : Z0 (· = b) w7 (w7.setCell ⟨b, 1, none⟩ u1) := (Z0.refl (· = b) w7).setCell (p := ⟨b, 1, none⟩) (fun _ => rfl) _
 obtain ⟨j1, e1, l1⟩ := h7.loc
 obtain ⟨j2, e2, l2⟩ := h5.loc
 have hj2 := (h5.own.lt j2 e2).2
 have hrl := Z2 h.new
 have hr5 := h5.quiet.get h.new (fun x => x)
 have hb5 := h5.quiet.get h.box (fun x => x)
 have hr6 := Zf hr5 1 u2
 have hb6 := hs6.get hb5 (show ¬ b = r by omega)
 have hr7 := h7.quiet.get hr6 (fun x => x)
 have hb7 := h7.quiet.get hb6 (fun x => x)
 have v1l : ∀ j, v1.ownBlock = some j -> j < (w3.setCell ⟨b, 0, none⟩ v1).heap.size := fun j e => (h.row1.lt j e).2
 have v2l : ∀ j, v2.ownBlock = some j -> j < (w3.setCell ⟨b, 0, none⟩ v1).heap.size := fun j e => (h.row2.lt j e).2
 have keep : ∀ {e : TypeId} {sz n : Nat} {v : Value} {xs : List Value}, (w3.setCell ⟨b, 0, none⟩ v1).ownsRow 0 e sz v n xs -> (∀ j, v.ownBlock = some j -> j ≠ r /\ j ≠ b) -> (w7.setCell ⟨b, 1, none⟩ u1).ownsRow 0 e sz v n xs := fun ho hn =>
  Z4 (Z4 (Z4 (Z4 ho h5.quiet (fun _ _ x => x)) hs6 (fun j e => (hn j e).1)) h7.quiet (fun _ _ x => x)) hs8 (fun j e => (hn j e).2)
 refine ⟨?_, ?_, ?_, keep h.row1 (fun j e => ⟨(hf1 j e).2.1, by have := (hf1 j e).1; omega⟩), keep h.row2 (fun j e => ⟨(hf2 j e).2, by have := (hf2 j e).1; omega⟩), ?_, ?_, ⟨j1, e1⟩, ⟨j2, e2⟩, hr, fun j e => ⟨(hf1 j e).1, (hf1 j e).2.1, (hf1 j e).2.2, fun x => ?_⟩, hf2, fun j e => ?_, fun j e => ?_⟩
 ·exact (((h.only.trans' h5.quiet (fun _ _ x => x.elim)).trans' hs6 (fun k hk e => by omega)).trans' h7.quiet (fun _ _ x => x.elim)).trans hs8
 ·rw [Zf hb7 1 u1]; rfl
 ·have := hs8.get hr7 (show ¬ r = b by omega)
  rw [this]; rfl
 ·exact Z4 h7.own hs8 (fun j e x => by rw [e1] at e; injection e with e; omega)
 ·exact Z4 (Z4 (Z4 h5.own hs6 (fun j e x => by rw [e2] at e; injection e with e; omega)) h7.quiet (fun _ _ x => x)) hs8 (fun j e x => by rw [e2] at e; injection e with e; omega)
 ·rw [e2] at x
  injection x with x
  have := v1l j e
  omega
 ·rw [e1] at e
  injection e with e
  refine ⟨by omega, by omega, fun x => ?_, fun x => ?_⟩
  ·have := v2l j x; omega
  ·rw [e2] at x; injection x with x; omega
 ·rw [e2] at e
  injection e with e
  exact ⟨by omega, by omega⟩
theorem Zcb.inner {K F : Nat -> Prop} {h : Nat} {w w8 : World} {b r k : Nat} {v u v1 v2 u1 u2 : Value} {ks : List Kid} (hc : Zcb w w8 b r v1 v2 u1 u2 (heads ks) (kptrs ks) k) (hi : Z53 (Zi K h) w b F v u ks) (hK : ∀ j, K j -> ¬ F j) (hlim : ∀ x ∈ ks, ∀ j, x.F j -> j < w.heap.size) (hk0 : 2 <= k) (hk : k + 2 <= ks.length) :
  Z8X K (h + 1) w w8 b F (flat ks) r (fun j => j = b ∨ v1.ownBlock = some j ∨ u1.ownBlock = some j ∨ ∃ x ∈ ks.take k, x.F j) (fun j => j = r ∨ v2.ownBlock = some j ∨ u2.ownBlock = some j ∨ ∃ x ∈ ks.drop k, x.F j) (flat (ks.take k)) (flat (ks.drop k)) := by
 obtain ⟨hr, hf1, hf2, hf3, hf4⟩ := hc.fresh
 have hb := Z2 hi.box
 have hkid : ∀ x ∈ ks, x.xs ≠ [] /\ Zi K h w8 x.b x.F x.xs := fun x hx => ⟨(hi.kid x hx).1, Zi.kept hc.only (fun j hj e => hK j hj (by rw [e]; exact hi.foot.1)) (hi.kid x hx).2 (fun j hj e => (hi.sub x hx j hj).2.1 e)⟩
 have hkl : (kptrs ks).length = ks.length := by simp
 have hne : ∀ l : List Kid, (∀ x ∈ l, x ∈ ks) -> l ≠ [] -> flat l ≠ [] := fun l hl h0 e => by
  rcases l with _ | ⟨x, l⟩
  ·exact h0 rfl
  ·rw [flat, List.flatMap_cons] at e
   exact (hi.kid x (hl x (by simp))).1 (List.append_eq_nil_iff.1 e).1
 have hcross : ∀ x ∈ ks.take k, ∀ y ∈ ks.drop k, ∀ j, x.F j -> ¬ y.F j := by
  have := hi.apart
  rw [<- List.take_append_drop k ks, List.pairwise_append] at this
  exact this.2.2
 refine ⟨?_, hne _ (fun x hx => List.mem_of_mem_take hx) (fun e => ?_), hne _ (fun x hx => List.mem_of_mem_drop hx) (fun e => ?_), ⟨v1, u1, ks.take k, ⟨hc.box1, ?_, ?_, hc.some1, ?_, fun x hx => hkid x (List.mem_of_mem_take hx), fun x hx j hj => ?_, hi.apart.sublist (List.take_sublist _ _), Or.inl rfl, fun j e => Or.inr (Or.inl e), fun j e => Or.inr (Or.inr (Or.inl e))⟩, rfl⟩, ⟨v2, u2, ks.drop k, ⟨hc.box2, ?_, ?_, hc.some2, ?_, fun x hx => hkid x (List.mem_of_mem_drop hx), fun x hx j hj => ?_, hi.apart.sublist (List.drop_sublist _ _), Or.inl rfl, fun j e => Or.inr (Or.inl e), fun j e => Or.inr (Or.inr (Or.inl e))⟩, rfl⟩, fun j x y => ?_, fun j x => ?_, fun j x => ?_, hc.only.mono (fun j _ e => by rw [e]; exact hi.foot.1)⟩
 ·rw [<- List.flatMap_append, List.take_append_drop]
 ·have := congrArg List.length e; rw [List.length_take, List.length_nil] at this; omega
 ·have := congrArg List.length e; rw [List.length_drop, List.length_nil] at this; omega
 ·rw [heads, List.map_take]; exact hc.row1
 ·rw [kptrs, List.map_take, List.length_take, Nat.min_eq_left (by omega)]; exact hc.kid1
 ·rw [List.length_take]; omega
 ·have hx' := List.mem_of_mem_take hx
  have hl := hlim x hx' j hj
  exact ⟨Or.inr (Or.inr (Or.inr ⟨x, hx, hj⟩)), (hi.sub x hx' j hj).2.1, fun e => by have := (hf1 j e).1; omega, fun e => by have := (hf3 j e).1; omega⟩
 ·rw [heads, List.map_drop]; exact hc.row2
 ·rw [kptrs, List.map_drop, List.length_drop]; have := hc.kid2; rw [hkl] at this; exact this
 ·rw [List.length_drop]; omega
 ·have hx' := List.mem_of_mem_drop hx
  have hl := hlim x hx' j hj
  exact ⟨Or.inr (Or.inr (Or.inr ⟨x, hx, hj⟩)), by omega, fun e => by have := (hf2 j e).1; omega, fun e => by have := (hf4 j e).1; omega⟩
 ·rcases x with x | x | x | ⟨x, hx, hxj⟩
  ·rcases y with y | y | y | ⟨y, hy, hyj⟩
   ·omega
   ·have := (hf2 j y).1; omega
   ·have := (hf4 j y).1; omega
   ·exact (hi.sub y (List.mem_of_mem_drop hy) j hyj).2.1 x
  ·rcases y with y | y | y | ⟨y, hy, hyj⟩
   ·exact (hf1 j x).2.1 y
   ·exact (hf1 j x).2.2.1 y
   ·exact (hf1 j x).2.2.2 y
   ·have := hlim y (List.mem_of_mem_drop hy) j hyj; have := (hf1 j x).1; omega
  ·rcases y with y | y | y | ⟨y, hy, hyj⟩
   ·exact (hf3 j x).2.1 y
   ·exact (hf3 j x).2.2.1 y
   ·exact (hf3 j x).2.2.2 y
   ·have := hlim y (List.mem_of_mem_drop hy) j hyj; have := (hf3 j x).1; omega
  ·have hl := hlim x (List.mem_of_mem_take hx) j hxj
   rcases y with y | y | y | ⟨y, hy, hyj⟩
   ·omega
   ·have := (hf2 j y).1; omega
   ·have := (hf4 j y).1; omega
   ·exact hcross x hx y hy j hxj hyj
 ·rcases x with x | x | x | ⟨x, hx, hxj⟩
  ·exact Or.inl (by rw [x]; exact hi.foot.1)
  ·exact Or.inr (hf1 j x).1
  ·exact Or.inr (hf3 j x).1
  ·exact Or.inl (hi.sub x (List.mem_of_mem_take hx) j hxj).1
 ·rcases x with x | x | x | ⟨x, hx, hxj⟩
  ·exact Or.inr (by rw [x]; exact hr)
  ·exact Or.inr (hf2 j x).1
  ·exact Or.inr (hf4 j x).1
  ·exact Or.inl (hi.sub x (List.mem_of_mem_drop hx) j hxj).1
theorem ZiS {w : World} {u : Value} {g n c m : Nat} {ps : List Value} (h : w.ownsRow 0 163 1 u m ps) (e : u = .slice (some ⟨g, 0, none⟩) n c) : Rd w (· = g) 1 (some ⟨g, 0, none⟩) m ps := by
 subst e
 refine ⟨h.1, fun _ => ⟨g, 0, rfl, rfl, fun j u hu => ?_⟩⟩
 have := h.cells rfl j u hu
 rw [Zq] at this
 exact this
theorem Zcy {K F : Nat -> Prop} {h : Nat} {w : World} {b : Nat} {v u : Value} {ks : List Kid} (hi : Z53 (Zi K h) w b F v u ks) (hK : ∀ j, K j -> ¬ F j) (hlim : ∀ x ∈ ks, ∀ j, x.F j -> j < w.heap.size) (hn : ks.length <= 100000) :
  Calls Tryz.prog 82 #[ptrV b] w (Z6p K (h + 1) w b F (flat ks)) := by
 have hhl : (heads ks).length = ks.length := by simp
 by_cases h8 : ks.length <= 8
 ·exact (Z8y b v u (heads ks) w hi.box hi.row (by omega)).mono (fun e w' h => Or.inl h)
 ·obtain ⟨g, c, hv, hc, hcm⟩ : ∃ g c, v = .slice (some ⟨g, 0, none⟩) ks.length c /\ ks.length <= c /\ c <= maxLen := by
   rcases ZJ hi.row with ⟨_, e⟩ | ⟨g, c, e, h1, h2⟩
   ·omega
   ·rw [hhl] at e h1
    exact ⟨g, c, e, h1, h2⟩
  obtain ⟨gu, cu, hu, hcu, hcum⟩ := hi.form
  obtain ⟨k, hk⟩ : ∃ k, ks.length / 2 = k := ⟨_, rfl⟩
  obtain ⟨n, hnn⟩ : ∃ n, ks.length = n := ⟨_, rfl⟩
  have hrd := ZfS hi.row hv
  rw [hhl, hnn] at hrd
  have hru := ZiS hi.kids hu
  rw [hnn] at hru hv hu hc hcu hk h8 hn
  have HHL := zh (hhl.trans hnn)
  have HPL : Hid ((kptrs ks).length = n) := by show _ = _; simp [hnn]
  have b0 : w.cell? ⟨b, 0, none⟩ = some (.slice (some ⟨g, 0, none⟩) n c) := by rw [Z1 hi.box, <- hv]; rfl
  have HI := zh hi
  have HV := zh hv
  have HK := zh hK
  have HLIM := zh hlim
  have HRD := zh hrd
  have HRU := zh hru
  have HD1 := zh (hrd.drop (k := k) (by omega))
  have hb := Z2 hi.box
  have hkk : 4 <= k /\ k + 4 <= n := by omega
  have q0 : (0 : Int) <= (n : Int) / 2 := by omega
  have q1 : (n : Int) / 2 <= (n : Int) := by omega
  have q2 : ((n : Int) / 2).toNat = k := by omega
  have q3 : ¬ c = k := by omega
  have q4 : ¬ cu = k := by omega
  have d8 : decide ((n : Int) <= 8) = false := decide_eq_false (by omega)
  have hcm' : c <= 9223372036854775807 := by unfold maxLen at hcm; omega
  have hcum' : cu <= 9223372036854775807 := by unfold maxLen at hcum; omega
  have HC1 := zh (Z3W ⟨g, 0 + k * 3, none⟩ (n - k) (c - k) _ (· = g) w HD1.out (fun u hu => Z1M (heads ks) u (List.mem_of_mem_drop hu)) (by omega))
  rw [Nat.zero_add] at HC1
  have HBX : Hid (w.heap[b]? = some (.cells #[.slice (some ⟨g, 0, none⟩) n c, .slice (some ⟨gu, 0, none⟩) n cu] 167 (0, 0))) := by rw [<- HV.out, <- hu]; exact hi.box
  have HNN := zh hnn
  have HUG : Hid (∀ j, u.ownBlock = some j -> j = gu) := fun j e => by rw [hu] at e; injection e with e; exact e.symm
  have hgub : gu ≠ b := fun e => by
   obtain ⟨cc, hcc⟩ := Zj hi.kids (k := gu) (by rw [hu]; rfl)
   exact Za hcc hi.box (by decide) e
  have hgul : gu < w.heap.size := (hi.kids.lt gu (by rw [hu]; rfl)).2
  clear hrd hru hK hlim hi hk hcm hcum hv hu hnn hhl
  go_enter Tryz.func82, Tryz.ntmps82
  go_wp2_with fail
  refine HC1.out.mono ?_
  rintro e w1 ⟨v2, rfl, h1⟩
  rw [<- Z3V] at h1
  obtain ⟨A2, c2, hv2, _, _, _⟩ := Z9 h1.own
  subst hv2
  have HN1 := zh h1
  have hq2 : Quiet w (w1.alloc (.cells #[.slice A2 (n - k) c2, .slice none 0 0] 167)) := h1.quiet.alloc _
  have hb2 := hq2.get HBX.out (fun x => x)
  have HB2 := zh hb2
  have HC2 := zh (Z3W ⟨g, 0, none⟩ k c _ (· = g) _ ((HRD.out.takeK (k := k) (by omega)).kept hq2 (fun _ _ x => x)) (fun u hu => Z1M (heads ks) u (List.mem_of_mem_take hu)) (by omega))
  have b0' : (w1.alloc (.cells #[.slice A2 (n - k) c2, .slice none 0 0] 167)).cell? ⟨b, 0, none⟩ = some (.slice (some ⟨g, 0, none⟩) n c) := hq2.cell b0 (fun x => x)
  clear h1 HC1 HD1 b0 hb2 hq2
  go_wp2_with fail
  refine HC2.out.mono ?_
  rintro e w3 ⟨v1, rfl, h3⟩
  rw [<- Z3U] at h3
  obtain ⟨A1, c1, hv1, _, _, _⟩ := Z9 h3.own
  subst hv1
  have hb3 := h3.quiet.get HB2.out (fun x => x)
  have HCW := zh (Za2 (ys := heads ks) HBX.out (by rw [HHL.out]; omega) (by rw [HHL.out]; exact HN1.out) h3)
  have b3 : w3.cell? ⟨b, 0, none⟩ = some (.slice (some ⟨g, 0, none⟩) n c) := h3.quiet.cell b0' (fun x => x)
  have f3 := fun o => Z7 hb3 o
  clear h3 HC2 b0' hb3 HN1 HRD HB2
  have HLF := zh (Z3z b _ _ _ _ _ HCW.out.box)
  go_wp2_with fail
  refine HLF.out.mono ?_
  rintro e w4 ⟨rfl, rfl⟩
  have hru4 := HRU.out.kept HCW.out.only (fun j e e' => hgub (e.symm.trans e'))
  have HRU4 := zh hru4
  have HC3 := zh (Z5I ⟨gu, 0 + k * 1, none⟩ (n - k) (cu - k) _ (· = gu) _ (hru4.drop (k := k) (by omega)) (fun u hu => Z6n ks u (List.mem_of_mem_drop hu)) (by omega))
  rw [Nat.zero_add, Nat.mul_one] at HC3
  have b1 : (w3.setCell ⟨b, 0, none⟩ (.slice A1 k c1)).cell? ⟨b, 1, none⟩ = some (.slice (some ⟨gu, 0, none⟩) n cu) := by rw [Z1 HCW.out.box]; rfl
  have hrn := HCW.out.new
  clear HLF b3 f3 hru4
  go_wp2_with fail
  refine HC3.out.mono ?_
  rintro e w5 ⟨u2, rfl, h5⟩
  obtain ⟨A5, c5, hu2, _, _, _⟩ := Z9 h5.own
  subst hu2
  have hr5 := h5.quiet.get hrn (fun x => x)
  have z5 : w5.cell? ⟨w1.heap.size, 1, none⟩ = some (.slice none 0 0) := by rw [Z1 hr5]; rfl
  have f5 := fun o => Z7 hr5 o
  have hb5 := h5.quiet.get HCW.out.box (fun x => x)
  have hs6 : Z0 (· = w1.heap.size) w5 (w5.setCell ⟨w1.heap.size, 1, none⟩ (.slice A5 (n - k) c5)) := (Z0.refl (· = w1.heap.size) w5).setCell (p := ⟨w1.heap.size, 1, none⟩) (fun _ => rfl) _
  have hfr := HCW.out.fresh.1
  have hb6 := hs6.get hb5 (show ¬ b = w1.heap.size by omega)
  have b6 : (w5.setCell ⟨w1.heap.size, 1, none⟩ (.slice A5 (n - k) c5)).cell? ⟨b, 1, none⟩ = some (.slice (some ⟨gu, 0, none⟩) n cu) := by rw [Z1 hb6]; rfl
  have HB6 := zh hb6
  have HN5 : Hid (Z28 (w3.setCell ⟨b, 0, none⟩ (.slice A1 k c1)) w5 163 1 (.slice A5 (n - k) c5) ((kptrs ks).length - k) ((kptrs ks).drop k)) := by show Z28 _ _ _ _ _ _ _; rw [HPL.out]; exact h5
  have HC4 := zh (Z5I ⟨gu, 0, none⟩ k cu _ (· = gu) _ (((HRU4.out.takeK (k := k) (by omega)).kept h5.quiet (fun _ _ x => x)).kept hs6 (fun j e e' => by omega)) (fun u hu => Z6n ks u (List.mem_of_mem_take hu)) (by omega))
  rw [Nat.mul_one] at HC4
  clear h5 hr5 hb5 hs6 hb6 HC3 b1 hrn HRU4
  go_wp2_with fail
  refine HC4.out.mono ?_
  rintro e w7 ⟨u1, rfl, h7⟩
  obtain ⟨A7, c7, hu1, _, _, _⟩ := Z9 h7.own
  subst hu1
  have hb7 := h7.quiet.get HB6.out (fun x => x)
  have z7 : w7.cell? ⟨b, 1, none⟩ = some (.slice (some ⟨gu, 0, none⟩) n cu) := by rw [Z1 hb7]; rfl
  have f7 := fun o => Z7 hb7 o
  have HCI := zh (ZfT (ps := kptrs ks) hb HCW.out HN5.out h7)
  have HR := zh (HCI.out.inner HI.out HK.out HLIM.out (by omega) (by have := HNN.out; omega))
  clear h7 hb7 HC4 HN5 HCW HCI b6 z5 f5 HB6
  go_wp2
  go_ret
  exact Or.inr ⟨_, _, _, _, _, rfl, HR.out⟩
theorem Za3 {K F : Nat -> Prop} {h : Nat} {w : World} {b : Nat} {xs : List EV} (hn : Zi K h w b F xs) (hK : ∀ j, K j -> ¬ F j) (hl : xs.length <= 100000) :
  Calls Tryz.prog 82 #[ptrV b] w (Z6p K h w b F xs) := by
 cases h with
 | zero => obtain ⟨v, hv⟩ := hn; exact Zei hv hK hl
 | succ h =>
  obtain ⟨v, u, ks, hi, e⟩ := hn.lim
  subst e
  have hkl : ks.length <= (flat ks).length := by
   have hk := hi.kid
   clear hi hl hn
   induction ks with
   | nil => simp
   | cons x ks ih =>
    have h1 := List.length_pos_iff.2 (hk x (by simp)).1
    have h2 := ih (fun y hy => hk y (by simp [hy]))
    rw [flat, List.flatMap_cons, List.length_append, List.length_cons]
    unfold flat at h2
    omega
  refine (Zcy hi (fun j hj x => hK j hj x.1) (fun x hx j hj => (hi.sub x hx j hj).1.2) (by omega)).mono ?_
  rintro e w' (x | ⟨r, F1, F2, x1, x2, rfl, hc⟩)
  ·exact Or.inl x
  ·exact Or.inr ⟨r, F1, F2, x1, x2, rfl, hc.all, hc.ne1, hc.ne2, hc.n1, hc.n2, hc.apart, fun j hj => (hc.sub1 j hj).imp (fun x => x.1) id, fun j hj => (hc.sub2 j hj).imp (fun x => x.1) id, hc.only.mono (fun j _ x => x.1)⟩
theorem Zej (e0 : Ent) (A : Option Addr) (c : Nat) (S : Nat -> Prop) (w : World) (hr : Rd w S 1 A e0.key.length (Zg e0.key)) (hl : e0.key.length <= 100000) :
  Calls Tryz.prog 81 #[entV e0 A c] w (Zbs w e0) := by
 have hq0 : Quiet w ((w.alloc (.cells #[.slice A e0.key.length c, .int .i64 e0.pg, .int .i64 e0.sl] 111)).alloc (.cells #[.slice none 0 0, .int .i64 0, .int .i64 0] 111)) := ((Z0.refl _ _).alloc _).alloc _
 have H0 := zh hq0
 obtain ⟨t0, t1, t2⟩ := Z1B (Zd (Z5 w (.cells #[.slice A e0.key.length c, .int .i64 e0.pg, .int .i64 e0.sl] 111)) (.cells #[.slice none 0 0, .int .i64 0, .int .i64 0] 111))
 have HN := zh (Z0r w (.cells #[.slice A e0.key.length c, .int .i64 e0.pg, .int .i64 e0.sl] 111) (.cells #[.slice none 0 0, .int .i64 0, .int .i64 0] 111))
 have HC := zh (Z9r A c e0.key S _ (hr.kept hq0.drew (fun _ _ x => x)) hl)
 clear hr hq0
 go_enter Tryz.func81, Tryz.ntmps81
 go_wp2_with fail
 go_region_held3 (fun w' => w'.cell? ⟨w.heap.size, 0, none⟩ = some (.slice A e0.key.length c) /\ w'.cell? ⟨w.heap.size, 1, none⟩ = some (.int .i64 e0.pg) /\ w'.cell? ⟨w.heap.size, 2, none⟩ = some (.int .i64 e0.sl))
  (first | go_keep | fail)
  (first
    | (go_at_call 120; go_must (refine HC.out.mono ?_; rintro e w2 ⟨v2, rfl, hf2⟩; obtain ⟨A2, c2, hv2, _, _, hrd2⟩ := Z9 hf2.own; subst hv2; have k0 := hf2.quiet.cell t0 (fun x => x); have k1 := hf2.quiet.cell t1 (fun x => x); have k2 := hf2.quiet.cell t2 (fun x => x); have hr2 := hf2.quiet.get HN.out (fun x => x); obtain ⟨z0, z1, z2⟩ := Z1B hr2; have zf := fun o => Z7 hr2 o))
    | fail)
 have HX := zh (Zcz hr2 (.slice A2 e0.key.length c2) (.int .i64 e0.pg) (.int .i64 e0.sl))
 have hz2 := hf2.quiet.size
 have hsz : ((w.alloc (.cells #[.slice A e0.key.length c, .int .i64 e0.pg, .int .i64 e0.sl] 111)).alloc (.cells #[.slice none 0 0, .int .i64 0, .int .i64 0] 111)).drew.heap.size = w.heap.size + 2 := by show (World.alloc _ _).heap.size = _; simp
 have HP : Hid (Zbs w e0 (.returned (entV e0 A2 c2)) (Z6q w2 (w.heap.size + 1) (.slice A2 e0.key.length c2) (.int .i64 e0.pg) (.int .i64 e0.sl))) := by
  have ho := ZcA w2 (w.heap.size + 1) (.slice A2 e0.key.length c2) (.int .i64 e0.pg) (.int .i64 e0.sl)
  have hlz : ∀ k, Value.ownBlock (.slice A2 e0.key.length c2) = some k -> w.heap.size + 2 <= k /\ k < w2.heap.size := fun k e => ⟨by have := hf2.new k e; omega, (hf2.own.lt k e).2⟩
  refine ⟨A2, c2, rfl, (H0.out.drew.trans hf2.quiet).trans' ho (fun k hk e => by omega), ?_⟩
  exact (Rd.kept (hrd2.mono (T := fun k => w.heap.size + 2 <= k /\ k < w2.heap.size) hlz) ho (fun k hk e => by omega)).mono (fun k hk => ⟨by omega, by have := ho.size; omega⟩)
 clear hf2 hr2 hrd2 hz2 hsz HC H0 HN k0 k1 k2 z0 z1 z2 zf t0 t1 t2
 unfold Z6q at HX HP
 go_wp2
 generalize (((w2.setCell ⟨w.heap.size + 1, 0, none⟩ (.slice A2 e0.key.length c2)).setCell ⟨w.heap.size + 1, 1, none⟩ (.int .i64 e0.pg)).setCell ⟨w.heap.size + 1, 2, none⟩ (.int .i64 e0.sl)) = W6 at HX HP ⊢
 exact bodyPost_ret (Z5X Tryz.results81 _ _ (w.heap.size + 1) _ _ (0, 0) _ (by rfl) HX.out Tryz.underlying111 rfl Zbr) (by rfl) HP.out
theorem Zho (e : EV) (xs : List EV) : ZU (Z0S e xs) = (ZU xs).take (ZH e.e (ents xs) * 3) ++ e.cells ++ (ZU xs).drop (ZH e.e (ents xs) * 3) := by
 unfold Z0S
 rw [show ∀ l : List EV, e :: l = [e] ++ l from fun _ => rfl, Z1W, Z1W, Z4C, Z3U, Z3V, List.append_assoc]
theorem Zhp {K F : Nat -> Prop} {w W w5 : World} {b : Nat} {xs : List EV} {v v5 : Value} {e : EV} (hl : Z6J K w b F xs v) (hK : ∀ k, K k -> ¬ F k /\ k < w.heap.size) (he : Z17 w K e) (hq : Quiet w W)
  (hg : ZW W w5 111 3 v v5 (xs.length + 1) ((ZU xs).take (ZH e.e (ents xs) * 3) ++ e.cells ++ (ZU xs).drop (ZH e.e (ents xs) * 3))) :
  Z0 F w (w5.setCell ⟨b, 0, none⟩ v5) /\ Z6J K (w5.setCell ⟨b, 0, none⟩ v5) b (fun k => F k ∨ w.heap.size <= k) (Z0S e xs) v5 := by
 have hbw := Z2 hl.box
 have hset : Z0 (· = b) w5 (w5.setCell ⟨b, 0, none⟩ v5) := (Z0.refl (· = b) w5).setCell (p := ⟨b, 0, none⟩) (fun _ => rfl) _
 have hvb : ∀ j, v.ownBlock = some j -> j ≠ b := fun j e => by
  obtain ⟨c, hc⟩ := Zj hl.row e
  exact Za hc hl.box (by decide)
 have hz := hq.size
 have hbox5 := hg.only.get (hq.get hl.box (fun x => x)) (fun e => hvb b e rfl)
 have ho : Z0 F w (w5.setCell ⟨b, 0, none⟩ v5) := ((hq.mono (T := F) (fun _ _ x => x.elim)).trans' hg.only (fun k hk e => hl.foot.2 k e)).trans' hset (fun k hk e => by rw [e]; exact hl.foot.1)
 have hv5b : ∀ j, v5.ownBlock = some j -> j ≠ b := fun j e => by
  rcases hg.loc with x | x
  ·rw [x] at e; exact hvb j e
  ·rw [x] at e; injection e with e; omega
 refine ⟨ho, ⟨by rw [Zf hbox5]; rfl, ?_, fun x hx => ?_, Or.inl hl.foot.1, fun j e => ?_⟩⟩
 ·unfold RowAt
  rw [Z3I, Zho]
  exact Z4 hg.own hset (fun j e x => hv5b j e x)
 ·have : Z17 w K x := by
   rcases Zhl hx with rfl | hx
   ·exact he
   ·exact hl.key x hx
  exact this.kept ho (fun k hk => (hK k hk).1)
 ·rcases hg.loc with x | x
  ·rw [x] at e; exact Or.inl (hl.foot.2 j e)
  ·rw [x] at e; injection e with e; exact Or.inr (by omega)
def Z3A (K : Nat -> Prop) (h : Nat) (w : World) (b : Nat) (F : Nat -> Prop) (xs : List EV) (e : EV) (r : Ending) (w' : World) : Prop :=
 (e.e ∈ ents xs /\ r = .returned (.bool false) /\ Z0 F w w' /\ Zi K h w' b (fun k => F k ∨ w.heap.size <= k) xs) ∨
 (e.e ∉ ents xs /\ r = .returned (.bool true) /\ Z0 F w w' /\ Zi K h w' b (fun k => F k ∨ w.heap.size <= k) (Z0S e xs))
theorem ZcB {K F : Nat -> Prop} {w : World} {b : Nat} {xs : List EV} {v : Value} {e : EV} (hl : Z6J K w b F xs v) (hK : ∀ k, K k -> ¬ F k /\ k < w.heap.size) (he : Z17 w K e) (hs : ZK (ents xs)) (hn : xs.length <= 50000) :
  Calls Tryz.prog 80 #[ptrV b, entV e.e e.A e.c] w (Z3A K 0 w b F xs e) := by
 obtain ⟨A, c, hv, hc, hcm, hrd⟩ := Z9 hl.row
 have hq0 : Quiet w (w.alloc (.cells #[.slice e.A e.e.key.length e.c, .int .i64 e.e.pg, .int .i64 e.e.sl] 111)) := (Z0.refl _ _).alloc _
 have HQ0 := zh hq0
 have hbox1 := hq0.get hl.box (fun x => x)
 have HLF := zh (Z3z b v none 0 0 _ hbox1)
 have b0 : (w.alloc (.cells #[.slice e.A e.e.key.length e.c, .int .i64 e.e.pg, .int .i64 e.e.sl] 111)).cell? ⟨b, 0, none⟩ = some (.slice A xs.length c) := by rw [Z1 hbox1, <- hv]; rfl
 obtain ⟨t0, t1, t2⟩ := Z1B (Z5 w (.cells #[.slice e.A e.e.key.length e.c, .int .i64 e.e.pg, .int .i64 e.e.sl] 111))
 have HS := zh (Z8w xs e A c _ K K _ (hrd.kept hq0.drew (fun _ _ x => x)) (fun x hx => (hl.key x hx).quietly hq0.drew) (he.quietly hq0.drew) hs (by omega))
 have hpl : ZH e.e (ents xs) <= xs.length := by have := Z4m e.e (ents xs); simpa using this
 have HL := zh hl
 have HK := zh hK
 have HE := zh he
 have HV := zh hv
 have HBX := zh hbox1
 clear hl hK he hs hrd hq0 hbox1 hv
 by_cases hm : e.e ∈ ents xs
 ·rw [decide_eq_true hm] at HS
  have HM := zh hm
  clear hm
  generalize ZH e.e (ents xs) = p at HS hpl
  go_enter Tryz.func80, Tryz.ntmps80
  go_wp2_with fail
  refine HLF.out.mono ?_
  rintro r w1 ⟨rfl, rfl⟩
  go_wp2_with fail
  go_region_held3 (fun w' => w'.cell? ⟨b, 0, none⟩ = some (.slice A xs.length c) /\ w'.cell? ⟨w.heap.size, 0, none⟩ = some (.slice e.A e.e.key.length e.c) /\ w'.cell? ⟨w.heap.size, 1, none⟩ = some (.int .i64 e.e.pg) /\ w'.cell? ⟨w.heap.size, 2, none⟩ = some (.int .i64 e.e.sl))
   (first | go_keep | fail)
   (first
     | (go_at_call 115; go_must (refine HS.out.mono ?_; rintro r w2 ⟨rfl, hq2⟩; have k0 := hq2.cell b0 (fun x => x); have k1 := hq2.cell t0 (fun x => x); have k2 := hq2.cell t1 (fun x => x); have k3 := hq2.cell t2 (fun x => x)))
     | fail)
  have HQ2 := zh (HQ0.out.drew.trans hq2)
  clear hq2 k0 k1 k2 k3 b0 t0 t1 t2 HS HQ0 HLF
  go_wp2
  go_ret
  refine Or.inl ⟨HM.out, rfl, HQ2.out.mono (fun _ _ x => x.elim), ?_⟩
  exact (Zi.kept (K := K) (h := 0) HQ2.out (fun _ _ x => x) ⟨v, HL.out⟩ (fun _ _ x => x)).mono (fun _ x => Or.inl x)
 ·rw [decide_eq_false hm] at HS
  have HM := zh hm
  clear hm
  obtain ⟨p, hp⟩ : ∃ p, ZH e.e (ents xs) = p := ⟨_, rfl⟩
  have HP := zh hp
  rw [hp] at HS hpl
  clear hp
  go_enter Tryz.func80, Tryz.ntmps80
  go_wp2_with fail
  refine HLF.out.mono ?_
  rintro r w1 ⟨rfl, rfl⟩
  go_wp2_with fail
  go_region_held3 (fun w' => w'.cell? ⟨b, 0, none⟩ = some (.slice A xs.length c) /\ w'.cell? ⟨w.heap.size, 0, none⟩ = some (.slice e.A e.e.key.length e.c) /\ w'.cell? ⟨w.heap.size, 1, none⟩ = some (.int .i64 e.e.pg) /\ w'.cell? ⟨w.heap.size, 2, none⟩ = some (.int .i64 e.e.sl))
   (first | go_keep | fail)
   (first
     | (go_at_call 115; go_must (refine HS.out.mono ?_; rintro r w2 ⟨rfl, hq2⟩; have k0 := hq2.cell b0 (fun x => x); have k1 := hq2.cell t0 (fun x => x); have k2 := hq2.cell t1 (fun x => x); have k3 := hq2.cell t2 (fun x => x)))
     | fail)
  have HQ2 := zh (HQ0.out.drew.trans hq2)
  have HB2 := zh (hq2.get HBX.out (fun x => x))
  clear hq2 b0 t0 t1 t2 HS HQ0 HLF HBX
  go_upto_region 5 with fail
  have hw2 : w.heap.size < w2.heap.size := Ze k1
  have hvb : Hid (∀ j, v.ownBlock = some j -> j ≠ b) := fun j e => by
   obtain ⟨c, hc⟩ := Zj HL.out.row e
   exact Za hc HL.out.box (by decide)
  have hvl : Hid (∀ j, v.ownBlock = some j -> j < w.heap.size) := fun j e => (HL.out.row.lt j e).2
  go_cut [] (fun wx => ∃ v5, Z0 F w wx /\ Z6J K wx b (fun k => F k ∨ w.heap.size <= k) (Z0S e xs) v5)
  case first =>
   have k0a : (w2.alloc (.cells #[.slice e.A e.e.key.length e.c, .int .i64 e.e.pg, .int .i64 e.e.sl] 111)).cell? ⟨b, 0, none⟩ = some (.slice A xs.length c) := ((Z0.refl (fun _ => False) w2).alloc _).cell k0 (fun x => x)
   go_region_law (first
     | (go_simp; go_at_call 117; refine (Z7j _ xs.length p w2.heap.size (ZU xs) e.cells _ (by rw [<- HV.out]; exact Z4 (Z4 HL.out.row HQ2.out (fun _ _ x => x)) (((Z0.refl (fun _ => False) w2).alloc _).drew) (fun _ _ x => x)) rfl (by exact Z5 w2 _) (Z1M [e]) (Z1M xs) (by omega) hpl (by rw [<- HV.out]; exact fun x => by have := hvl.out _ x; omega)).mono ?_; rintro r w5 ⟨v5, rfl, hg5⟩; have hb5 : w5.heap[b]? = some (.cells #[v, .slice none 0 0] 167 (0, 0)) := hg5.only.get (by exact Zd HB2.out _) (fun x => hvb.out b (by rw [HV.out]; exact x) rfl); obtain ⟨A5, c5, hv5, _, _, _⟩ := Z9 hg5.own; subst hv5; have s1 : w5.cell? ⟨b, 0, none⟩ = some v := (by rw [Z1 hb5]; rfl); have s2 := fun o => Z7 hb5 o)
     | fail)
   all_goals
    go_wp2_with fail
    go_meet
    have hr := Zhp (e := e) HL.out HK.out HE.out (HQ2.out.alloc (.cells #[.slice e.A e.e.key.length e.c, .int .i64 e.e.pg, .int .i64 e.e.sl] 111)).drew (by rw [HP.out, HV.out]; exact hg5)
    exact ⟨_, hr.1, hr.2⟩
  case rest =>
   obtain ⟨v5, ho5, hl5⟩ := hcut
   have HR : Hid (Z3A K 0 w b F xs e (.returned (.bool true)) wc) := Or.inr ⟨HM.out, rfl, ho5, v5, hl5⟩
   clear ho5 hl5
   go_wp2
   go_ret
   exact HR.out
structure Mid (K : Nat -> Prop) (h : Nat) (w0 w : World) (b : Nat) (F : Nat -> Prop) (v u : Value) (ys : List EV) (ps : List Nat) (ks : List Kid) : Prop where
 only : Z0 F w0 w
 box : w.heap[b]? = some (.cells #[v, u] 167 (0, 0))
 row : RowAt w v ys
 kids : w.ownsRow 0 163 1 u ps.length (ps.map ptrV)
 some_ : ∃ g, u.ownBlock = some g
 kid : ∀ x ∈ ks, x.xs ≠ [] /\ Zi K h w x.b x.F x.xs
 sub : ∀ x ∈ ks, ∀ k, x.F k -> (F k ∨ w0.heap.size <= k) /\ k < w.heap.size /\ k ≠ b /\ v.ownBlock ≠ some k /\ u.ownBlock ≠ some k
 apart : ks.Pairwise (fun x y => ∀ k, x.F k -> ¬ y.F k)
 foot : F b /\ b < w0.heap.size /\ (∀ k, v.ownBlock = some k -> F k ∨ w0.heap.size <= k) /\ (∀ k, u.ownBlock = some k -> F k ∨ w0.heap.size <= k)
 keys : ∀ k, K k -> ¬ F k /\ k < w0.heap.size
section
variable {K F : Nat -> Prop} {h : Nat} {w0 w w' : World} {b : Nat} {v u : Value} {ys : List EV} {ps : List Nat} {ks : List Kid}
theorem Mid.start (hi : Z53 (Zi K h) w0 b F v u ks) (hlim : ∀ k, F k -> k < w0.heap.size) (hK : ∀ k, K k -> ¬ F k /\ k < w0.heap.size) : Mid K h w0 w0 b F v u (heads ks) (ks.map (·.b)) ks := by
 refine ⟨Z0.refl _ _, hi.box, hi.row, ?_, hi.some_, hi.kid, fun x hx k hk => ⟨Or.inl (hi.sub x hx k hk).1, hlim k (hi.sub x hx k hk).1, (hi.sub x hx k hk).2⟩, hi.apart, ⟨hi.foot.1, Z2 hi.box, fun k e => Or.inl (hi.foot.2.1 k e), fun k e => Or.inl (hi.foot.2.2 k e)⟩, hK⟩
 have := hi.kids
 rw [List.length_map, List.map_map]
 exact this
theorem Mid.done (hm : Mid K h w0 w b F v u (heads ks) (ks.map (·.b)) ks) (h2 : 2 <= ks.length) : Zi K (h + 1) w b (fun k => F k ∨ w0.heap.size <= k) (flat ks) := by
 refine ⟨v, u, ks, ⟨hm.box, hm.row, ?_, hm.some_, h2, hm.kid, fun x hx k hk => ⟨(hm.sub x hx k hk).1, (hm.sub x hx k hk).2.2⟩, hm.apart, Or.inl hm.foot.1, hm.foot.2.2.1, hm.foot.2.2.2⟩, rfl⟩
 have := hm.kids
 rw [List.length_map, List.map_map] at this
 exact this
theorem Mid.nokey (hm : Mid K h w0 w b F v u ys ps ks) {k : Nat} (hk : K k) : ¬ (F k ∨ w0.heap.size <= k) := fun x => by
 have := hm.keys k hk
 rcases x with x | x
 ·exact this.1 x
 ·omega
theorem Mid.bn (hm : Mid K h w0 w b F v u ys ps ks) : (∀ k, v.ownBlock = some k -> k ≠ b) /\ (∀ k, u.ownBlock = some k -> k ≠ b) /\ (∀ k, v.ownBlock = some k -> u.ownBlock ≠ some k) := by
 refine ⟨fun k e => ?_, fun k e => ?_, fun k e e' => ?_⟩
 ·obtain ⟨c, hc⟩ := Zj hm.row e; exact Za hc hm.box (by decide)
 ·obtain ⟨c, hc⟩ := Zj hm.kids e; exact Za hc hm.box (by decide)
 ·obtain ⟨c, hc⟩ := Zj hm.row e
  obtain ⟨d, hd⟩ := Zj hm.kids e'
  exact Za hc hd (by decide) rfl
theorem Mid.quietly (hm : Mid K h w0 w b F v u ys ps ks) (hq : Quiet w w') : Mid K h w0 w' b F v u ys ps ks := by
 have hz := hq.size
 exact ⟨hm.only.trans' hq (fun _ _ x => x.elim), hq.get hm.box (fun x => x), Z4 hm.row hq (fun _ _ x => x), Z4 hm.kids hq (fun _ _ x => x), hm.some_, fun x hx => ⟨(hm.kid x hx).1, Zi.kept hq (fun _ _ x => x) (hm.kid x hx).2 (fun _ _ x => x)⟩, fun x hx k hk => ⟨(hm.sub x hx k hk).1, by have := (hm.sub x hx k hk).2.1; omega, (hm.sub x hx k hk).2.2⟩, hm.apart, hm.foot, hm.keys⟩
theorem ZfU {A B : List Kid} {x : Kid} (h : (A ++ x :: B).Pairwise (fun x y => ∀ k, x.F k -> ¬ y.F k)) : ∀ y, y ∈ A ∨ y ∈ B -> ∀ k, x.F k -> ¬ y.F k := by
 rw [List.pairwise_append, List.pairwise_cons] at h
 intro y hy k hx hyk
 rcases hy with hy | hy
 ·exact h.2.2 y hy x (by simp) k hyk hx
 ·exact h.2.1.1 y hy k hx hyk
theorem ZfV {A B M : List Kid} {x : Kid} (h : (A ++ x :: B).Pairwise (fun x y => ∀ k, x.F k -> ¬ y.F k)) (hM : M.Pairwise (fun x y => ∀ k, x.F k -> ¬ y.F k)) (hn : ∀ m ∈ M, ∀ y, y ∈ A ∨ y ∈ B -> ∀ k, m.F k -> ¬ y.F k) :
  (A ++ M ++ B).Pairwise (fun x y => ∀ k, x.F k -> ¬ y.F k) := by
 rw [List.pairwise_append, List.pairwise_cons] at h
 rw [List.pairwise_append, List.pairwise_append]
 refine ⟨⟨h.1, hM, fun a ha m hm k hk hmk => hn m hm a (Or.inl ha) k hmk hk⟩, h.2.1.2, fun a ha y hy => ?_⟩
 rcases List.mem_append.1 ha with ha | ha
 ·exact h.2.2 a ha y (by simp [hy])
 ·exact hn a ha y (Or.inr hy)
theorem Mid.turn {A B M : List Kid} {x : Kid} (hm : Mid K h w0 w b F v u ys ps (A ++ x :: B)) (ho : Z0 x.F w w') (hM : ∀ m ∈ M, m.xs ≠ [] /\ Zi K h w' m.b m.F m.xs /\ ∀ k, m.F k -> (x.F k ∨ w.heap.size <= k) /\ k < w'.heap.size) (hMp : M.Pairwise (fun x y => ∀ k, x.F k -> ¬ y.F k)) :
  Mid K h w0 w' b F v u ys ps (A ++ M ++ B) := by
 have hz := ho.size
 have hz0 := hm.only.size
 have hxm : x ∈ A ++ x :: B := by simp
 have hxs := hm.sub x hxm
 have hbw := Z2 hm.box
 have hap := ZfU hm.apart
 have hkK : ∀ k, K k -> ¬ x.F k := fun k hk hx => hm.nokey hk (hxs k hx).1
 have old : ∀ y, y ∈ A ∨ y ∈ B -> y ∈ A ++ x :: B := fun y hy => by rcases hy with hy | hy <;> simp [hy]
 refine ⟨hm.only.trans' ho (fun k hk hx => ?_), ho.get hm.box (fun hx => (hxs b hx).2.2.1 rfl), Z4 hm.row ho (fun k e hx => (hxs k hx).2.2.2.1 e), Z4 hm.kids ho (fun k e hx => (hxs k hx).2.2.2.2 e), hm.some_, fun y hy => ?_, fun y hy k hk => ?_, ZfV hm.apart hMp (fun m hmm y hy k hk hyk => ?_), hm.foot, hm.keys⟩
 ·rcases (hxs k hx).1 with e | e
  ·exact e
  ·omega
 ·rw [List.append_assoc, List.mem_append, List.mem_append] at hy
  have key : ∀ y, y ∈ A ∨ y ∈ B -> y.xs ≠ [] /\ Zi K h w' y.b y.F y.xs := fun y hy => ⟨(hm.kid y (old y hy)).1, Zi.kept ho hkK (hm.kid y (old y hy)).2 (fun k hk hx => hap y hy k hx hk)⟩
  rcases hy with hy | hy | hy
  ·exact key y (Or.inl hy)
  ·exact ⟨(hM y hy).1, (hM y hy).2.1⟩
  ·exact key y (Or.inr hy)
 ·rw [List.append_assoc, List.mem_append, List.mem_append] at hy
  have key : ∀ y, y ∈ A ∨ y ∈ B -> y.F k -> (F k ∨ w0.heap.size <= k) /\ k < w'.heap.size /\ k ≠ b /\ v.ownBlock ≠ some k /\ u.ownBlock ≠ some k := fun y hy hk => by
   have := hm.sub y (old y hy) k hk
   exact ⟨this.1, by omega, this.2.2⟩
  rcases hy with hy | hy | hy
  ·exact key y (Or.inl hy) hk
  ·obtain ⟨h1, h2⟩ := (hM y hy).2.2 k hk
   rcases h1 with h1 | h1
   ·have := hxs k h1
    exact ⟨this.1, h2, this.2.2⟩
   ·exact ⟨Or.inr (by omega), h2, by omega, fun e => by have := (hm.row.lt k e).2; omega, fun e => by have := (hm.kids.lt k e).2; omega⟩
  ·exact key y (Or.inr hy) hk
 ·rcases ((hM m hmm).2.2 k hk).1 with h1 | h1
  ·exact hap y hy k h1 hyk
  ·have := (hm.sub y (old y hy) k hyk).2.1
   omega
theorem Mid.put {A B : List Kid} {x : Kid} {xs' : List EV} (hm : Mid K h w0 w b F v u ys ps (A ++ x :: B)) (ho : Z0 x.F w w') (hn : Zi K h w' x.b (fun k => x.F k ∨ w.heap.size <= k) xs') (hne : xs' ≠ []) :
  Mid K h w0 w' b F v u ys ps (A ++ ⟨x.b, fun k => (x.F k ∨ w.heap.size <= k) /\ k < w'.heap.size, xs'⟩ :: B) := by
 have := hm.turn (M := [⟨x.b, fun k => (x.F k ∨ w.heap.size <= k) /\ k < w'.heap.size, xs'⟩]) ho (fun m hmm => by
   simp at hmm
   subst hmm
   exact ⟨hne, hn.lim, fun k hk => hk⟩) (by simp)
 rw [List.append_assoc] at this
 exact this
theorem Mid.cleave {A B : List Kid} {x : Kid} {r : Nat} {F1 F2 : Nat -> Prop} {x1 x2 : List EV} (hm : Mid K h w0 w b F v u ys ps (A ++ x :: B)) (hc : Z8X K h w w' x.b x.F x.xs r F1 F2 x1 x2) :
  ∃ G1 G2, Mid K h w0 w' b F v u ys ps (A ++ ⟨x.b, G1, x1⟩ :: ⟨r, G2, x2⟩ :: B) := by
 refine ⟨fun k => F1 k /\ k < w'.heap.size, fun k => F2 k /\ k < w'.heap.size, ?_⟩
 have := hm.turn (M := [⟨x.b, fun k => F1 k /\ k < w'.heap.size, x1⟩, ⟨r, fun k => F2 k /\ k < w'.heap.size, x2⟩]) hc.only (fun m hmm => by
   simp at hmm
   rcases hmm with rfl | rfl
   · exact ⟨hc.ne1, hc.n1.lim, fun k hk => ⟨hc.sub1 k hk.1, hk.2⟩⟩
   · exact ⟨hc.ne2, hc.n2.lim, fun k hk => ⟨hc.sub2 k hk.1, hk.2⟩⟩) (by
   rw [List.pairwise_cons]
   refine ⟨fun y hy k hk hyk => ?_, by simp⟩
   simp at hy
   subst hy
   exact hc.apart k hk.1 hyk.1)
 rw [List.append_assoc] at this
 exact this
theorem Mid.lay {g n c j : Nat} (hm : Mid K h w0 w b F (.slice (some ⟨g, 0, none⟩) n c) u ys ps ks) (hn : ys.length = n) (x : EV) :
  Mid K h w0 (((w.setCell ⟨g, j * 3, none⟩ (.slice x.A x.e.key.length x.c)).setCell ⟨g, j * 3 + 1, none⟩ (.int .i64 x.e.pg)).setCell ⟨g, j * 3 + 2, none⟩ (.int .i64 x.e.sl)) b F (.slice (some ⟨g, 0, none⟩) n c) u (ys.set j x) ps ks := by
 subst hn
 have ho : Z0 (· = g) w (((w.setCell ⟨g, j * 3, none⟩ (.slice x.A x.e.key.length x.c)).setCell ⟨g, j * 3 + 1, none⟩ (.int .i64 x.e.pg)).setCell ⟨g, j * 3 + 2, none⟩ (.int .i64 x.e.sl)) := (((Z0.refl (· = g) w).setCell (p := ⟨g, j * 3, none⟩) (fun _ => rfl) _).setCell (p := ⟨g, j * 3 + 1, none⟩) (fun _ => rfl) _).setCell (p := ⟨g, j * 3 + 2, none⟩) (fun _ => rfl) _
 have hz := ho.size
 obtain ⟨hb1, hb2, hb3⟩ := hm.bn
 have hg : F g ∨ w0.heap.size <= g := hm.foot.2.2.1 g rfl
 refine ⟨hm.only.trans' ho (fun k hk e => ?_), ho.get hm.box (fun e => hb1 g rfl e.symm), ?_, Z4 hm.kids ho (fun k e e' => hb3 g rfl (by rw [<- e']; exact e)), hm.some_, fun y hy => ⟨(hm.kid y hy).1, Zi.kept ho (fun k hk e => hm.nokey hk (by rw [e]; exact hg)) (hm.kid y hy).2 (fun k hk e => (hm.sub y hy k hk).2.2.2.1 (by rw [e]; rfl))⟩, fun y hy k hk => ⟨(hm.sub y hy k hk).1, by have := (hm.sub y hy k hk).2.1; omega, (hm.sub y hy k hk).2.2⟩, hm.apart, hm.foot, hm.keys⟩
 ·subst e
  rcases hg with x | x
  ·exact x
  ·omega
 ·have h1 := (hm.row.stored (j * 3) (.slice x.A x.e.key.length x.c)).1
  have h2 := (World.ownsRow.stored h1 (j * 3 + 1) (.int .i64 x.e.pg)).1
  have h3 := (World.ownsRow.stored h2 (j * 3 + 2) (.int .i64 x.e.sl)).1
  rw [Zhi] at h3
  unfold RowAt
  rw [List.length_set]
  exact h3
theorem Mid.grow {W w5 : World} {v5 : Value} {ys' : List EV} (hm : Mid K h w0 w b F v u ys ps ks) (hq : Quiet w W) (hg : ZW W w5 111 3 v v5 ys'.length (ZU ys')) : Mid K h w0 (w5.setCell ⟨b, 0, none⟩ v5) b F v5 u ys' ps ks := by
 have hset : Z0 (· = b) w5 (w5.setCell ⟨b, 0, none⟩ v5) := (Z0.refl (· = b) w5).setCell (p := ⟨b, 0, none⟩) (fun _ => rfl) _
 have hmq := hm.quietly hq
 obtain ⟨hb1, hb2, hb3⟩ := hmq.bn
 have hbw := Z2 hmq.box
 have hz := hg.only.size
 have hz5 := hset.size
 have hz0 := hmq.only.size
 have hv5 : ∀ k, v5.ownBlock = some k -> v.ownBlock = some k ∨ k = W.heap.size := fun k e => by
  rcases hg.loc with x | x
  ·rw [x] at e; exact Or.inl e
  ·rw [x] at e; injection e with e; exact Or.inr e.symm
 have hv5b : ∀ k, v5.ownBlock = some k -> k ≠ b := fun k e => by
  rcases hv5 k e with x | x
  ·exact hb1 k x
  ·omega
 refine ⟨(hmq.only.trans' hg.only (fun k hk e => ?_)).trans' hset (fun k hk e => by rw [e]; exact hm.foot.1), by rw [Zf (hg.only.get hmq.box (fun e => hb1 b e rfl))]; rfl, Z4 hg.own hset (fun k e x => hv5b k e x), Z4 (Z4 hmq.kids hg.only (fun k e e' => hb3 k e' e)) hset (fun k e => hb2 k e), hm.some_, fun y hy => ⟨(hm.kid y hy).1, Zi.kept hset (fun k hk e => hm.nokey hk (by rw [e]; exact Or.inl hm.foot.1)) (Zi.kept hg.only (fun k hk e => hm.nokey hk (hm.foot.2.2.1 k e)) (hmq.kid y hy).2 (fun k hk e => (hmq.sub y hy k hk).2.2.2.1 e)) (fun k hk e => (hmq.sub y hy k hk).2.2.1 e)⟩, fun y hy k hk => ?_, hm.apart, ⟨hm.foot.1, hm.foot.2.1, fun k e => ?_, hm.foot.2.2.2⟩, hm.keys⟩
 ·rcases hm.foot.2.2.1 k e with x | x
  ·exact x
  ·omega
 ·have := hmq.sub y hy k hk
  refine ⟨this.1, by omega, this.2.2.1, fun e => ?_, this.2.2.2.2⟩
  rcases hv5 k e with x | x
  ·exact this.2.2.2.1 x
  ·omega
 ·rcases hv5 k e with x | x
  ·exact hm.foot.2.2.1 k x
  ·exact Or.inr (by omega)
theorem Mid.growKids {W w5 : World} {u5 : Value} {ps' : List Nat} (hm : Mid K h w0 w b F v u ys ps ks) (hq : Quiet w W) (hg : ZW W w5 163 1 u u5 ps'.length (ps'.map ptrV)) : Mid K h w0 (w5.setCell ⟨b, 1, none⟩ u5) b F v u5 ys ps' ks := by
 have hset : Z0 (· = b) w5 (w5.setCell ⟨b, 1, none⟩ u5) := (Z0.refl (· = b) w5).setCell (p := ⟨b, 1, none⟩) (fun _ => rfl) _
 have hmq := hm.quietly hq
 obtain ⟨hb1, hb2, hb3⟩ := hmq.bn
 have hbw := Z2 hmq.box
 have hz := hg.only.size
 have hz5 := hset.size
 have hz0 := hmq.only.size
 have hu5 : ∀ k, u5.ownBlock = some k -> u.ownBlock = some k ∨ k = W.heap.size := fun k e => by
  rcases hg.loc with x | x
  ·rw [x] at e; exact Or.inl e
  ·rw [x] at e; injection e with e; exact Or.inr e.symm
 have hu5b : ∀ k, u5.ownBlock = some k -> k ≠ b := fun k e => by
  rcases hu5 k e with x | x
  ·exact hb2 k x
  ·omega
 refine ⟨(hmq.only.trans' hg.only (fun k hk e => ?_)).trans' hset (fun k hk e => by rw [e]; exact hm.foot.1), by rw [Zf (hg.only.get hmq.box (fun e => hb2 b e rfl))]; rfl, Z4 (Z4 hmq.row hg.only (fun k e e' => hb3 k e e')) hset (fun k e => hb1 k e), Z4 hg.own hset (fun k e x => hu5b k e x), ?_, fun y hy => ⟨(hm.kid y hy).1, Zi.kept hset (fun k hk e => hm.nokey hk (by rw [e]; exact Or.inl hm.foot.1)) (Zi.kept hg.only (fun k hk e => hm.nokey hk (hm.foot.2.2.2 k e)) (hmq.kid y hy).2 (fun k hk e => (hmq.sub y hy k hk).2.2.2.2 e)) (fun k hk e => (hmq.sub y hy k hk).2.2.1 e)⟩, fun y hy k hk => ?_, hm.apart, ⟨hm.foot.1, hm.foot.2.1, hm.foot.2.2.1, fun k e => ?_⟩, hm.keys⟩
 ·rcases hm.foot.2.2.2 k e with x | x
  ·exact x
  ·omega
 ·rcases hg.loc with x | x
  ·obtain ⟨g, hg'⟩ := hm.some_; exact ⟨g, by rw [x]; exact hg'⟩
  ·exact ⟨_, x⟩
 ·have := hmq.sub y hy k hk
  refine ⟨this.1, by omega, this.2.2.1, this.2.2.2.1, fun e => ?_⟩
  rcases hu5 k e with x | x
  ·exact this.2.2.2.2 x
  ·omega
 ·rcases hu5 k e with x | x
  ·exact hm.foot.2.2.2 k x
  ·exact Or.inr (by omega)
end
structure ZhX (t : Ent) (A : List Kid) (x : Kid) (B : List Kid) : Prop where
 left : ∀ a ∈ flat A, cmpE a.e t < 0
 right : ∀ b ∈ flat B, cmpE t b.e < 0
 mem : t ∈ ents (flat (A ++ x :: B)) ↔ t ∈ ents x.xs
 rise : ZK (ents x.xs)
theorem Zil {t : Ent} {A B : List Kid} {x : Kid} (hne : ∀ y ∈ A ++ x :: B, y.xs ≠ []) (hs : ZK (ents (flat (A ++ x :: B)))) (hb : Zgw t (ents (heads (A ++ x :: B))) A.length) : ZhX t A x B := by
 have hs' := hs
 rw [Z2W] at hs
 unfold ents ZK at hs
 rw [List.map_append, List.map_append, List.pairwise_append, List.pairwise_append] at hs
 obtain ⟨⟨_, hx, hAx⟩, hB, _⟩ := hs
 have hL : ∀ a ∈ flat A, cmpE a.e t < 0 := by
  intro a ha
  rcases hb.left with h0 | h0
  ·have : A = [] := List.eq_nil_of_length_eq_zero h0
   subst this
   simp [flat] at ha
  ·have h1 := h0 (hd x.xs).e (by unfold ents heads; simp)
   have h2 := hAx _ (List.mem_map.2 ⟨a, ha, rfl⟩) _ (List.mem_map.2 ⟨_, Z8x (hne x (by simp)), rfl⟩)
   by_cases h3 : cmpE t (hd x.xs).e = 0
   ·rw [(Z4U _ _).1 h3]; exact h2
   ·exact Z1P h2 (by rw [Z9X t]; omega)
 have hR : ∀ b ∈ flat B, cmpE t b.e < 0 := by
  intro c hc
  obtain ⟨y, hy, hcy⟩ := List.mem_flatMap.1 hc
  obtain ⟨j, hj⟩ := List.mem_iff_getElem?.1 hy
  have h1 : (ents (heads (A ++ x :: B)))[A.length + 1 + j]? = some (hd y.xs).e := by
   unfold ents heads
   rw [List.getElem?_map, List.getElem?_map, List.getElem?_append_right (by omega), show A.length + 1 + j - A.length = j + 1 by omega, List.getElem?_cons_succ, hj]
   rfl
  have h2 := hb.right _ _ (by omega) h1
  have hyr : ZK (ents y.xs) := by
   have hmem : ∀ l : List Kid, y ∈ l -> ZK (ents (flat l)) -> ZK (ents y.xs) := by
    intro l hl hr
    induction l with
    | nil => simp at hl
    | cons z l ih =>
     rw [Z4W] at hr
     unfold ents ZK at hr
     rw [List.map_append, List.pairwise_append] at hr
     rcases List.mem_cons.1 hl with rfl | hl
     ·exact hr.1
     ·exact ih hl hr.2.1
   exact hmem _ (by simp [hy]) hs'
  rcases Zhq hyr hcy with e | e
  ·rw [<- e]; exact h2
  ·exact Z1P h2 e
 refine ⟨hL, hR, ?_, hx⟩
 rw [Z2W]
 unfold ents
 rw [List.map_append, List.map_append, List.mem_append, List.mem_append]
 constructor
 ·rintro ((h | h) | h)
  ·obtain ⟨a, ha, e⟩ := List.mem_map.1 h
   have := hL a ha
   rw [e, Z36] at this
   omega
  ·exact h
  ·obtain ⟨a, ha, e⟩ := List.mem_map.1 h
   have := hR a ha
   rw [e, Z36] at this
   omega
 ·exact fun h => Or.inl (Or.inr h)
theorem ZhX.ins {e : EV} {A B : List Kid} {x : Kid} (h : ZhX e.e A x B) : Z0S e (flat (A ++ x :: B)) = flat A ++ Z0S e x.xs ++ flat B := by
 rw [Z2W]
 refine Zhn h.left (fun b hb x => ?_)
 have := Z1P (h.right b hb) x
 rw [Z36] at this
 omega
theorem ZiT {α : Type} {ks : List α} {i : Nat} (h : i < ks.length) : ∃ A x B, ks = A ++ x :: B /\ A.length = i /\ ks[i]? = some x := by
 refine ⟨ks.take i, ks[i], ks.drop (i + 1), ?_, by rw [List.length_take]; omega, zg h⟩
 rw [List.getElem_cons_drop, List.take_append_drop]
theorem Zim {α : Type} (A : List α) (x y : α) (B : List α) : (A ++ x :: B).set A.length y = A ++ y :: B := by simp
theorem Zin (P Q : List EV) (y z : EV) : (ZU (P ++ y :: Q)).take ((P.length + 1) * 3) ++ z.cells ++ (ZU (P ++ y :: Q)).drop ((P.length + 1) * 3) = ZU (P ++ y :: z :: Q) := by
 rw [<- Z3U, <- Z3V, show P ++ y :: Q = (P ++ [y]) ++ Q by simp, List.take_left' (by simp), List.drop_left' (by simp), show P ++ y :: z :: Q = (P ++ [y]) ++ ([z] ++ Q) by simp, Z1W (P ++ [y]) ([z] ++ Q), Z1W [z] Q, Z4C, List.append_assoc]
theorem Zio (P Q : List Nat) (y z : Nat) : ((P ++ y :: Q).map ptrV).take (P.length + 1) ++ [ptrV z] ++ ((P ++ y :: Q).map ptrV).drop (P.length + 1) = (P ++ y :: z :: Q).map ptrV := by
 rw [<- List.map_take, <- List.map_drop, show P ++ y :: Q = (P ++ [y]) ++ Q by simp, List.take_left' (by simp), List.drop_left' (by simp)]
 simp
theorem ZfX {z : Int} (v : Value) (n i vb : Nat) (xs news : List Value) (w : World) (hz : z = (i : Int)) (hown : w.ownsRow 0 111 3 v n xs) (hnl : news.length = 3) (hnew : w.heap[vb]? = some (.cells news.toArray 111 (0, 0))) (h1 : ∀ u ∈ news, u.oneCell' = true) (hx1 : ∀ u ∈ xs, u.oneCell' = true) (hn : n <= 100000) (hi : i <= n) (hvb : v.ownBlock ≠ some vb) :
  Calls Tryz.prog 117 #[v, .int .i64 z, .slice (some ⟨vb, 0, none⟩) 1 1] w fun e w' => ∃ v', e = .returned v' /\ ZW w w' 111 3 v v' (n + 1) (xs.take (i * 3) ++ news ++ xs.drop (i * 3)) := by
 subst hz
 exact Z7j v n i vb xs news w hown hnl hnew h1 hx1 hn hi hvb
theorem ZfY {z : Int} (v : Value) (n i vb : Nat) (xs news : List Value) (w : World) (hz : z = (i : Int)) (hown : w.ownsRow 0 163 1 v n xs) (hnl : news.length = 1) (hnew : w.heap[vb]? = some (.cells news.toArray 163 (0, 0))) (h1 : ∀ u ∈ news, u.oneCell' = true) (hx1 : ∀ u ∈ xs, u.oneCell' = true) (hn : n <= 100000) (hi : i <= n) (hvb : v.ownBlock ≠ some vb) :
  Calls Tryz.prog 119 #[v, .int .i64 z, .slice (some ⟨vb, 0, none⟩) 1 1] w fun e w' => ∃ v', e = .returned v' /\ ZW w w' 163 1 v v' (n + 1) (xs.take i ++ news ++ xs.drop i) := by
 subst hz
 exact Zcx v n i vb xs news w hown hnl hnew h1 hx1 hn hi hvb
theorem Mid.insE {K F : Nat -> Prop} {h : Nat} {w0 w : World} {b g n c i : Nat} {u : Value} {P Q : List EV} {y x : EV} {ps : List Nat} {ks : List Kid} {z : Int} (hm : Mid K h w0 w b F (.slice (some ⟨g, 0, none⟩) n c) u (P ++ y :: Q) ps ks) (hz : z = (i : Int) + 1) (hP : P.length = i) (hn : n <= 50000) :
  Calls Tryz.prog 117 #[.slice (some ⟨g, 0, none⟩) n c, .int .i64 z, .slice (some ⟨w.heap.size, 0, none⟩) 1 1] (w.alloc (.cells #[.slice x.A x.e.key.length x.c, .int .i64 x.e.pg, .int .i64 x.e.sl] 111)) fun e w8 =>
   ∃ A8 c8, e = .returned (.slice A8 (n + 1) c8) /\ w8.cell? ⟨b, 0, none⟩ = some (.slice (some ⟨g, 0, none⟩) n c) /\ (∀ o, w8.frozen? ⟨b, o, none⟩ = false) /\ Mid K h w0 (w8.setCell ⟨b, 0, none⟩ (.slice A8 (n + 1) c8)) b F (.slice A8 (n + 1) c8) u (P ++ y :: x :: Q) ps ks := by
 obtain ⟨A', c', he, _, _, _⟩ := Z9 hm.row
 have hlen : (P ++ y :: Q).length = n := by injection he with _ he _; exact he.symm
 have hil : i + 1 <= n := by rw [<- hlen, <- hP]; simp
 have hgl : g < w.heap.size := (hm.row.lt g rfl).2
 have hrow := Z4 hm.row ((Z0.refl (fun _ => False) w).alloc (.cells #[.slice x.A x.e.key.length x.c, .int .i64 x.e.pg, .int .i64 x.e.sl] 111)) (fun _ _ x => x)
 rw [hlen] at hrow
 refine (ZfX (z := z) _ n (i + 1) w.heap.size (ZU (P ++ y :: Q)) x.cells _ (by omega) hrow rfl (Z5 w _) (fun u hu => Z1M [x] u (by rw [Z4C]; exact hu)) (Z1M _) (by omega) hil (fun e => by have e2 : g = w.heap.size := Option.some.inj e; omega)).mono ?_
 rintro e w8 ⟨v8, rfl, hg⟩
 obtain ⟨A8, c8, hv8, _, _, _⟩ := Z9 hg.own
 subst hv8
 have hb8 := hg.only.get (Zd hm.box _) (fun e => hm.bn.1 b e rfl)
 rw [<- hP, Zin] at hg
 have hl2 : (P ++ y :: x :: Q).length = n + 1 := by rw [<- hlen]; simp; omega
 refine ⟨A8, c8, rfl, by rw [Z1 hb8]; rfl, fun o => Z7 hb8 o, hm.grow ((Z0.refl _ _).alloc _) (by rw [hl2]; exact hg)⟩
theorem Mid.insN {K F : Nat -> Prop} {h : Nat} {w0 w : World} {b g n c i r : Nat} {v : Value} {ys : List EV} {P Q : List Nat} {y : Nat} {ks : List Kid} {z : Int} (hm : Mid K h w0 w b F v (.slice (some ⟨g, 0, none⟩) n c) ys (P ++ y :: Q) ks) (hz : z = (i : Int) + 1) (hP : P.length = i) (hn : n <= 50000) :
  Calls Tryz.prog 119 #[.slice (some ⟨g, 0, none⟩) n c, .int .i64 z, .slice (some ⟨w.heap.size, 0, none⟩) 1 1] (w.alloc (.cells #[ptrV r] 163)) fun e w8 =>
   ∃ A8 c8, e = .returned (.slice A8 (n + 1) c8) /\ w8.cell? ⟨b, 1, none⟩ = some (.slice (some ⟨g, 0, none⟩) n c) /\ (∀ o, w8.frozen? ⟨b, o, none⟩ = false) /\ Mid K h w0 (w8.setCell ⟨b, 1, none⟩ (.slice A8 (n + 1) c8)) b F v (.slice A8 (n + 1) c8) ys (P ++ y :: r :: Q) ks := by
 obtain ⟨A', c', he, _, _, _⟩ := Z9 hm.kids
 have hlen : (P ++ y :: Q).length = n := by injection he with _ he _; exact he.symm
 have hil : i + 1 <= n := by rw [<- hlen, <- hP]; simp
 have hgl : g < w.heap.size := (hm.kids.lt g rfl).2
 have hrow := Z4 hm.kids ((Z0.refl (fun _ => False) w).alloc (.cells #[ptrV r] 163)) (fun _ _ x => x)
 rw [hlen] at hrow
 refine (ZfY (z := z) _ n (i + 1) w.heap.size ((P ++ y :: Q).map ptrV) [ptrV r] _ (by omega) hrow rfl (Z5 w _) (Z32 [r]) (Z32 _) (by omega) hil (fun e => by have e2 : g = w.heap.size := Option.some.inj e; omega)).mono ?_
 rintro e w8 ⟨v8, rfl, hg⟩
 obtain ⟨A8, c8, hv8, _, _, _⟩ := Z9 hg.own
 subst hv8
 have hb8 := hg.only.get (Zd hm.box _) (fun e => hm.bn.2.1 b e rfl)
 rw [<- hP, Zio] at hg
 have hl2 : (P ++ y :: r :: Q).length = n + 1 := by rw [<- hlen]; simp; omega
 refine ⟨A8, c8, rfl, by rw [Z1 hb8]; rfl, fun o => Z7 hb8 o, hm.growKids ((Z0.refl _ _).alloc _) (by rw [hl2]; exact hg)⟩
def ZhZ (K : Nat -> Prop) (h : Nat) : Prop := ∀ (w : World) (b : Nat) (F : Nat -> Prop) (xs : List EV) (e : EV), Zi K h w b F xs -> (∀ k, K k -> ¬ F k /\ k < w.heap.size) -> Z17 w K e -> ZK (ents xs) -> xs.length <= 50000 →
 Calls Tryz.prog 80 #[ptrV b, entV e.e e.A e.c] w (Z3A K h w b F xs e)
theorem Zbu {K F : Nat -> Prop} {h : Nat} {w : World} {b : Nat} {v u : Value} {ks : List Kid} {e : EV} (hih : ZhZ K h) (hi : Z53 (Zi K h) w b F v u ks) (hlim : ∀ k, F k -> k < w.heap.size) (hK : ∀ k, K k -> ¬ F k /\ k < w.heap.size) (he : Z17 w K e) (hs : ZK (ents (flat ks))) (hn : (flat ks).length <= 50000) (hkl : ks.length <= (flat ks).length) :
  Calls Tryz.prog 80 #[ptrV b, entV e.e e.A e.c] w (Z3A K (h + 1) w b F (flat ks) e) := by
 have hhl : (heads ks).length = ks.length := by simp
 have hne : ∀ x ∈ ks, x.xs ≠ [] := fun x hx => (hi.kid x hx).1
 have hrh := Zbt hne hs
 have h2 := hi.two
 have hb1 := Zeh (t := e.e) hrh (by intro x; have := congrArg List.length x; simp at this; rw [this] at h2; simp at h2)
 obtain ⟨i, hie⟩ : ∃ i, Z5n e.e (ents (heads ks)) = i := ⟨_, rfl⟩
 rw [hie] at hb1
 have hil : i < ks.length := by have := hb1.lt; simpa using this
 obtain ⟨A, x, B, hks, hAi, _⟩ := ZiT hil
 subst hks
 rw [<- hAi] at hb1
 have HGO := zh (Zil hne hs hb1)
 obtain ⟨gu, cu, hu, hcu, hcum⟩ := hi.form
 obtain ⟨g, c, hv, hc, hcm⟩ : ∃ g c, v = .slice (some ⟨g, 0, none⟩) (A ++ x :: B).length c /\ (A ++ x :: B).length <= c /\ c <= maxLen := by
  rcases ZJ hi.row with ⟨_, e⟩ | ⟨g, c, e, h1, h2'⟩
  ·omega
  ·rw [hhl] at e h1
   exact ⟨g, c, e, h1, h2'⟩
 have hm0 := Mid.start hi hlim hK
 obtain ⟨n, hnn⟩ : ∃ n, (A ++ x :: B).length = n := ⟨_, rfl⟩
 rw [hnn] at hv hu hc hcu hil h2
 rw [hv, hu] at hm0
 have hq0 : Quiet w (w.alloc (.cells #[.slice e.A e.e.key.length e.c, .int .i64 e.e.pg, .int .i64 e.e.sl] 111)) := (Z0.refl _ _).alloc _
 have hm1 := hm0.quietly hq0
 have HM1 := zh hm1
 have HE1 := zh (he.quietly hq0)
 have HBX1 := zh (Z5 w (.cells #[.slice e.A e.e.key.length e.c, .int .i64 e.e.pg, .int .i64 e.e.sl] 111))
 have HLF := zh (Z3z b _ _ _ _ _ hm1.box)
 have hkey1 : ∀ y ∈ heads (A ++ x :: B), Z17 (w.alloc (.cells #[.slice e.A e.e.key.length e.c, .int .i64 e.e.pg, .int .i64 e.e.sl] 111)) K y := fun y hy => by
  obtain ⟨z, hz, rfl⟩ := List.mem_map.1 hy
  exact (hm1.kid z hz).2.key _ (Z8x (hne z hz))
 have HBE := zh (ZfR b _ _ (heads (A ++ x :: B)) e K K _ hm1.box hm1.row hkey1 HE1.out hrh (by rw [hhl]; omega))
 rw [hie] at HBE
 obtain ⟨t0, t1, t2⟩ := Z1B HBX1.out
 have HIH := zh hih
 have HNN := zh hnn
 have HAI := zh hAi
 have hxl : Hid (x.xs.length <= 50000) := by show _ <= _; rw [Z2W] at hn; simp at hn; omega
 have hn5 : n <= 50000 := by omega
 obtain ⟨Z8, Z6⟩ : ∃ Z8, Z3A K (h + 1) w b F (flat (A ++ x :: B)) e = Z8 := ⟨_, rfl⟩
 rw [Z6]
 have Zb := zh Z6
 have hcm' : c <= 9223372036854775807 := by unfold maxLen at hcm; omega
 have hcum' : cu <= 9223372036854775807 := by unfold maxLen at hcum; omega
 clear hih hi hlim hK he hs hn hkl hhl hne hrh hb1 hie hu hv hm0 hq0 hm1 hkey1 hnn hAi hcm hcum Z6
 go_enter Tryz.func80, Tryz.ntmps80
 go_wp2_with fail
 refine HLF.out.mono ?_
 rintro r w1 ⟨rfl, rfl⟩
 go_wp2_with fail
 refine HBE.out.mono ?_
 rintro r w2 ⟨rfl, hq2⟩
 have hm2 := HM1.out.quietly hq2
 have HM2 := zh hm2
 have HE2 := zh (HE1.out.quietly hq2)
 have HBX2 := zh (hq2.get HBX1.out (fun x => x))
 have b1 : w2.cell? ⟨b, 1, none⟩ = some (.slice (some ⟨gu, 0, none⟩) n cu) := by rw [Z1 hm2.box]; rfl
 have p1 : w2.cell? ⟨gu, i, none⟩ = some (ptrV x.b) := by
  have := hm2.kids.cells rfl i (ptrV x.b) (by rw [List.getElem?_map, List.getElem?_map, <- HAI.out]; simp)
  rw [Zq, Nat.zero_add] at this
  exact this
 obtain ⟨t0, t1, t2⟩ := Z1B HBX2.out
 have d0 : (0 : Int) <= (i : Int) := by omega
 have d1 : (i : Int) < (n : Int) := by omega
 have HIN := zh (HIH.out w2 x.b x.F x.xs e (hm2.kid x (by simp)).2 (fun k hk => ⟨fun y => hm2.nokey hk (hm2.sub x (by simp) k y).1, by have := (hm2.keys k hk).2; have := hm2.only.size; omega⟩) HE2.out HGO.out.rise hxl.out)
 clear hq2 hm2 HM1 HE1 HBX1 HLF HBE HIH
 go_wp2_with fail
 refine HIN.out.mono ?_
 rintro r w3 (⟨hmem, rfl, ho3, hn3⟩ | ⟨hmem, rfl, ho3, hn3⟩)
 ·have hm3 := HM2.out.put ho3 hn3 (HM2.out.kid x (by simp)).1
  rw [Z3Y, Z6r] at hm3
  have HR : Hid (Z8 (.returned (.bool false)) w3) := by
   rw [<- Zb.out]
   refine Or.inl ⟨HGO.out.mem.2 hmem, rfl, hm3.only, ?_⟩
   have := Mid.done (ks := A ++ ⟨x.b, fun k => (x.F k ∨ w2.heap.size <= k) /\ k < w3.heap.size, x.xs⟩ :: B) (by rw [Z3Y, Z6r]; exact hm3) (by have := HNN.out; simp at this ⊢; omega)
   rw [Z2W] at this ⊢
   exact this
  clear hm3 hmem ho3 hn3 HIN HM2 HE2 HBX2 b1 p1 t0 t1 t2
  go_wp2
  exact HR.out
 ·have hm3 := HM2.out.put ho3 hn3 (Zd9 e x.xs)
  rw [Z3Y, Z6r] at hm3
  have HM3 := zh hm3
  have HMEM := zh hmem
  have hq3d : Quiet w3 w3.drew := (Z0.refl _ _).drew
  have HLE := zh (Z6o ((hm3.quietly hq3d).kid _ (List.mem_append_right A List.mem_cons_self)).2 (Zd9 e x.xs))
  have b3 : w3.cell? ⟨b, 0, none⟩ = some (.slice (some ⟨g, 0, none⟩) n c) := by rw [Z1 hm3.box]; rfl
  have hgb : g ≠ b := hm3.bn.1 g rfl
  have hgl : g < w3.heap.size := (hm3.row.lt g rfl).2
  have hys : Hid ((heads A ++ hd x.xs :: heads B)[i]? = some (hd x.xs)) := by show _ = _; rw [<- HAI.out]; simp [heads]
  clear hm3 hmem ho3 hn3 HIN HM2 HE2 HBX2 b1 p1 t0 t1 t2 hq3d
  go_wp2_with fail
  go_region_held3 (fun w' => w'.cell? ⟨b, 0, none⟩ = some (.slice (some ⟨g, 0, none⟩) n c))
   (first | go_keep | fail)
   (first
     | (go_at_call 83; go_must (refine HLE.out.mono ?_; rintro r w4 ⟨rfl, hq4⟩; have k0 := hq4.cell b3 (fun x => x); have hm4 := (HM3.out.quietly ((Z0.refl (fun _ => False) w3).drew)).quietly hq4; obtain ⟨s0, s1, s2⟩ := ZfQ hm4.row hys.out (Z0.refl _ _); obtain ⟨rc, hrc⟩ := Zj hm4.row (k := g) rfl; have sf := fun o => Z7 hrc o))
     | fail)
  have hlen : (heads A ++ hd x.xs :: heads B).length = n := by have := HNN.out; simp [heads] at this ⊢; omega
  have hm5 := hm4.lay (j := i) hlen (hd (Z0S e x.xs))
  rw [show (heads A ++ hd x.xs :: heads B).set i (hd (Z0S e x.xs)) = heads A ++ hd (Z0S e x.xs) :: heads B by rw [show i = (heads A).length by rw [<- HAI.out]; simp [heads]]; exact Zim _ _ _ _] at hm5
  have HM5 := zh hm5
  clear hm5 hm4 hq4 k0 s0 s1 s2 rc hrc sf HLE b3 HM3 hgb hgl hys hlen
  generalize (((w4.setCell ⟨g, i * 3, none⟩ (.slice (hd (Z0S e x.xs)).A (hd (Z0S e x.xs)).e.key.length (hd (Z0S e x.xs)).c)).setCell ⟨g, i * 3 + 1, none⟩ (.int .i64 (hd (Z0S e x.xs)).e.pg)).setCell ⟨g, i * 3 + 2, none⟩ (.int .i64 (hd (Z0S e x.xs)).e.sl)) = w5 at HM5 ⊢
  obtain ⟨x5, HX5⟩ : ∃ x5 : Kid, Hid (x5.b = x.b /\ x5.xs = Z0S e x.xs /\ Mid K h w w5 b F (.slice (some ⟨g, 0, none⟩) n c) (.slice (some ⟨gu, 0, none⟩) n cu) (heads A ++ hd (Z0S e x.xs) :: heads B) (A.map (·.b) ++ x.b :: B.map (·.b)) (A ++ x5 :: B)) := ⟨⟨x.b, fun k => (x.F k ∨ w2.heap.size <= k) /\ k < w3.heap.size, Z0S e x.xs⟩, rfl, rfl, HM5.out⟩
  have hsp := Za3 (HX5.out.2.2.kid x5 (by simp)).2 (fun j hj hx => HX5.out.2.2.nokey hj (HX5.out.2.2.sub x5 (by simp) j hx).1) (by rw [HX5.out.2.1, Z3I]; have := hxl.out; omega)
  rw [HX5.out.1] at hsp
  have HSP := zh hsp
  have HLEN : Hid ((A ++ x5 :: B).length = n) := by have := HNN.out; show _ = _; simp at this ⊢; omega
  clear hsp HM5
  go_wp2_with fail
  refine HSP.out.mono ?_
  rintro r w6 (⟨rfl, rfl⟩ | ⟨r, F1, F2, x1, x2, rfl, hc6⟩)
  ·have HR : Hid (Z8 (.returned (.bool true)) w5) := by
    rw [<- Zb.out]
    refine Or.inr ⟨fun z => HMEM.out (HGO.out.mem.1 z), rfl, HX5.out.2.2.only, ?_⟩
    have := Mid.done (ks := A ++ x5 :: B) (by rw [Z3Y, Z6r, HX5.out.1, HX5.out.2.1]; exact HX5.out.2.2) (by rw [HLEN.out]; exact h2)
    rw [Z2W, HX5.out.2.1] at this
    rw [HGO.out.ins]
    exact this
   clear HSP HX5
   go_wp2
   exact HR.out
  ·rw [<- HX5.out.1] at hc6
   obtain ⟨G1, G2, hm6⟩ := HX5.out.2.2.cleave hc6
   have hall := hc6.all
   rw [HX5.out.2.1] at hall
   have hh1 : hd (Z0S e x.xs) = hd x1 := by rw [hall]; exact Za1 hc6.ne1 _
   rw [hh1, HX5.out.1] at hm6
   have HALL := zh hall
   have HM6 := zh hm6
   have HLR := zh (Z6o (xs := x2) ((hm6.quietly ((Z0.refl (fun _ => False) w6).drew)).kid ⟨r, G2, x2⟩ (by simp)).2 hc6.ne2)
   have k6 : w6.cell? ⟨b, 0, none⟩ = some (.slice (some ⟨g, 0, none⟩) n c) := by rw [Z1 hm6.box]; rfl
   have hlen : Hid ((heads A ++ hd x1 :: heads B).length = n) := by have := HNN.out; show _ = _; simp [heads] at this ⊢; omega
   have hhA : Hid ((heads A).length = i) := by show _ = _; rw [<- HAI.out]; simp [heads]
   have dw : IntKind.i64.wrap ((i : Int) + 1) = (i : Int) + 1 := Z2H (by omega)
   have hgl : g < w6.heap.size := (hm6.row.lt g rfl).2
   have hgb : Hid (g ≠ b) := hm6.bn.1 g rfl
   clear hm6 hall hh1 hc6 HSP HX5
   go_upto_region 14 with fail
   go_cut [] (fun wx => ∃ v7, Mid K h w wx b F v7 (.slice (some ⟨gu, 0, none⟩) n cu) (heads A ++ hd x1 :: hd x2 :: heads B) (A.map (·.b) ++ x.b :: B.map (·.b)) (A ++ ⟨x.b, G1, x1⟩ :: ⟨r, G2, x2⟩ :: B))
   case first =>
    go_region_law (first
      | (go_simp; go_at_call 83; refine HLR.out.mono ?_; rintro r' w7 ⟨rfl, hq7⟩; have k7 := hq7.cell k6 (fun x => x); have k7a : (w7.alloc (.cells #[.slice (hd x2).A (hd x2).e.key.length (hd x2).c, .int .i64 (hd x2).e.pg, .int .i64 (hd x2).e.sl] 111)).cell? ⟨b, 0, none⟩ = some (.slice (some ⟨g, 0, none⟩) n c) := ((Z0.refl (fun _ => False) w7).alloc _).cell k7 (fun x => x); have hm7 := (HM6.out.quietly ((Z0.refl (fun _ => False) w6).drew)).quietly hq7; have hz7 := hq7.size)
      | (go_simp; go_at_call 117; refine (hm7.insE (x := hd x2) rfl hhA.out hn5).mono ?_; rintro r' w8 ⟨A8, c8, rfl, s1, s2, hm8⟩)
      | fail)
    all_goals
     go_wp2_with fail
     go_meet
     exact ⟨_, hm8⟩
   case rest =>
    obtain ⟨v7, hm7⟩ := hcut
    have HM7 := zh hm7
    have b7 : wc.cell? ⟨b, 1, none⟩ = some (.slice (some ⟨gu, 0, none⟩) n cu) := by rw [Z1 hm7.box]; rfl
    have HIN7 := zh (hm7.insN (r := r) (z := (i : Int) + 1) rfl (show (A.map (·.b)).length = i by rw [<- HAI.out]; simp) hn5)
    clear hm7 HLR k6 HM6 dw
    go_wp2_with fail
    refine HIN7.out.mono ?_
    rintro r' w9 ⟨A9, c9, rfl, s1, s2, hm9⟩
    have HR : Hid (Z8 (.returned (.bool true)) (w9.setCell ⟨b, 1, none⟩ (.slice A9 (n + 1) c9))) := by
     rw [<- Zb.out]
     refine Or.inr ⟨fun z => HMEM.out (HGO.out.mem.1 z), rfl, hm9.only, ?_⟩
     have := Mid.done (ks := A ++ ⟨x.b, G1, x1⟩ :: ⟨r, G2, x2⟩ :: B) (by
       rw [Z3Y, Z6r]
       exact hm9) (by simp; omega)
     rw [Z2W, Z4W] at this
     rw [HGO.out.ins, HALL.out]
     simp only [List.append_assoc] at this ⊢
     exact this
    clear hm9 HIN7 HM7 b7
    go_wp2
    exact HR.out
theorem Z9b {ks : List Kid} (hk : ∀ x ∈ ks, x.xs ≠ []) : ks.length <= (flat ks).length := by
 induction ks with
 | nil => simp
 | cons x ks ih =>
  have h1 := List.length_pos_iff.2 (hk x (by simp))
  have h2 := ih (fun y hy => hk y (by simp [hy]))
  rw [Z4W, List.length_append, List.length_cons]
  omega
theorem ZfZ (K : Nat -> Prop) (h : Nat) : ZhZ K h := by
 induction h with
 | zero =>
  intro w b F xs e ⟨v, hl⟩ hK he hs hn
  exact ZcB hl hK he hs hn
 | succ h ih =>
  intro w b F xs e hn hK he hs hl
  obtain ⟨v, u, ks, hi, rfl⟩ := hn.lim
  refine (Zbu ih hi (fun k hk => hk.2) (fun k hk => ⟨fun x => (hK k hk).1 x.1, (hK k hk).2⟩) he hs hl (Z9b (fun x hx => (hi.kid x hx).1))).mono ?_
  rintro r w' (⟨h1, h2, h3, h4⟩ | ⟨h1, h2, h3, h4⟩)
  ·exact Or.inl ⟨h1, h2, h3.mono (fun _ _ x => x.1), h4.mono (fun k x => x.imp (fun y => y.1) id)⟩
  ·exact Or.inr ⟨h1, h2, h3.mono (fun _ _ x => x.1), h4.mono (fun k x => x.imp (fun y => y.1) id)⟩
structure ZX (w0 w : World) (D : Nat -> Prop) (tb rb h : Nat) (F K : Nat -> Prop) (xs : List EV) (cnt : Int) : Prop where
 only : Z0 D w0 w
 box : w.heap[tb]? = some (.cells #[ptrV rb, .int .i64 cnt] 169 (0, 0))
 node : Zi K h w rb F xs
 subF : ∀ k, F k -> (D k ∨ w0.heap.size <= k) /\ k ≠ tb /\ k < w.heap.size
 subK : ∀ k, K k -> (D k ∨ w0.heap.size <= k) /\ ¬ F k /\ k ≠ tb /\ k < w.heap.size
 own : D tb /\ tb < w0.heap.size
def Z08 (w : World) (D : Nat -> Prop) (tb : Nat) (es : List Ent) : Prop := ∃ rb h F K xs, ZX w w D tb rb h F K xs (xs.length : Int) /\ ents xs = es /\ ZK es
section
variable {w0 w w' : World} {D : Nat -> Prop} {tb rb h : Nat} {F K : Nat -> Prop} {xs : List EV} {cnt : Int}
theorem ZX.quietly (hm : ZX w0 w D tb rb h F K xs cnt) (hq : Quiet w w') : ZX w0 w' D tb rb h F K xs cnt := by
 have hz := hq.size
 exact ⟨hm.only.trans' hq (fun _ _ x => x.elim), hq.get hm.box (fun x => x), Zi.kept hq (fun _ _ x => x) hm.node (fun _ _ x => x), fun k hk => by have := hm.subF k hk; exact ⟨this.1, this.2.1, by omega⟩, fun k hk => by have := hm.subK k hk; exact ⟨this.1, this.2.1, this.2.2.1, by omega⟩, hm.own⟩
theorem ZX.keys {K' : Nat -> Prop} (hm : ZX w0 w D tb rb h F K xs cnt) (hk : ∀ k, K k -> K' k) (hn : ∀ k, K' k -> K k ∨ (w0.heap.size <= k /\ k < w.heap.size /\ ¬ F k)) : ZX w0 w D tb rb h F K' xs cnt := by
 refine ⟨hm.only, hm.box, Zi.keys hk hm.node, hm.subF, fun k x => ?_, hm.own⟩
 rcases hn k x with y | ⟨y, z, u⟩
 ·exact hm.subK k y
 ·exact ⟨Or.inr y, u, by have := hm.own.2; omega, z⟩
theorem ZX.turn {rb' h' : Nat} {F' : Nat -> Prop} {xs' : List EV} (hm : ZX w0 w D tb rb h F K xs cnt) (ho : Z0 F w w') (hn : Zi K h' w' rb' F' xs') (hF : ∀ k, F' k -> F k ∨ w.heap.size <= k) (hrb : rb' = rb) : ZX w0 w' D tb rb' h' (fun k => F' k /\ k < w'.heap.size) K xs' cnt := by
 subst hrb
 have hz := ho.size
 have hz0 := hm.only.size
 have htb := Z2 hm.box
 refine ⟨hm.only.trans' ho (fun k hk x => ?_), ho.get hm.box (fun x => (hm.subF tb x).2.1 rfl), hn.lim, fun k x => ?_, fun k x => ?_, hm.own⟩
 ·rcases (hm.subF k x).1 with y | y
  ·exact y
  ·omega
 ·rcases hF k x.1 with y | y
  ·exact ⟨(hm.subF k y).1, (hm.subF k y).2.1, x.2⟩
  ·exact ⟨Or.inr (by omega), by omega, x.2⟩
 ·have := hm.subK k x
  refine ⟨this.1, fun y => ?_, this.2.2.1, by omega⟩
  rcases hF k y.1 with z | z
  ·exact this.2.1 z
  ·omega
theorem ZX.count (hm : ZX w0 w D tb rb h F K xs cnt) (c : Int) : ZX w0 (w.setCell ⟨tb, 1, none⟩ (.int .i64 c)) D tb rb h F K xs c := by
 have ho : Z0 (· = tb) w (w.setCell ⟨tb, 1, none⟩ (.int .i64 c)) := (Z0.refl (· = tb) w).setCell (p := ⟨tb, 1, none⟩) (fun _ => rfl) _
 have hz := ho.size
 exact ⟨hm.only.trans' ho (fun k _ e => by rw [e]; exact hm.own.1), by rw [Zf hm.box]; rfl, Zi.kept ho (fun k hk e => (hm.subK k hk).2.2.1 e) hm.node (fun k hk e => (hm.subF k hk).2.1 e), fun k hk => by have := hm.subF k hk; exact ⟨this.1, this.2.1, by omega⟩, fun k hk => by have := hm.subK k hk; exact ⟨this.1, this.2.1, this.2.2.1, by omega⟩, hm.own⟩
theorem ZX.cells (hm : ZX w0 w D tb rb h F K xs cnt) : w.cell? ⟨tb, 0, none⟩ = some (ptrV rb) /\ w.cell? ⟨tb, 1, none⟩ = some (.int .i64 cnt) /\ ∀ o, w.frozen? ⟨tb, o, none⟩ = false :=
 ⟨by rw [Z1 hm.box]; rfl, by rw [Z1 hm.box]; rfl, fun o => Z7 hm.box o⟩
theorem ZX.root {X : World} {r gl gk nb : Nat} {F1 F2 : Nat -> Prop} {x1 x2 : List EV} (hm : ZX w0 w D tb rb h F K xs cnt) (hc : Z8X K h w w' rb F xs r F1 F2 x1 x2) (hq : Quiet w' X)
  (hl : X.heap[gl]? = some (.cells #[.slice (hd x1).A (hd x1).e.key.length (hd x1).c, .int .i64 (hd x1).e.pg, .int .i64 (hd x1).e.sl, .slice (hd x2).A (hd x2).e.key.length (hd x2).c, .int .i64 (hd x2).e.pg, .int .i64 (hd x2).e.sl] 111 (0, 0)))
  (hk : X.heap[gk]? = some (.cells #[ptrV rb, ptrV r] 163 (0, 0)))
  (hn : X.heap[nb]? = some (.cells #[.slice (some ⟨gl, 0, none⟩) 2 2, .slice (some ⟨gk, 0, none⟩) 2 2] 167 (0, 0))) (hgl : w'.heap.size <= gl) (hgk : w'.heap.size <= gk) (hnb : w'.heap.size <= nb) :
  ∃ F', ZX w0 (X.setCell ⟨tb, 0, none⟩ (ptrV nb)) D tb nb (h + 1) F' K xs cnt := by
 have hz := hc.only.size
 have hzq := hq.size
 have hz0 := hm.only.size
 have htb := Z2 hm.box
 have ltl := Z2 hl
 have ltk := Z2 hk
 have ltn := Z2 hn
 have h0 : ZX w0 w' D tb rb h (fun k => F1 k /\ k < w'.heap.size) K x1 cnt := hm.turn hc.only hc.n1 hc.sub1 rfl
 have hs : Z0 (· = tb) X (X.setCell ⟨tb, 0, none⟩ (ptrV nb)) := (Z0.refl (· = tb) X).setCell (p := ⟨tb, 0, none⟩) (fun _ => rfl) _
 have hzs := hs.size
 have htF : ∀ k, (F1 k /\ k < w'.heap.size) ∨ (F2 k /\ k < w'.heap.size) -> (D k ∨ w0.heap.size <= k) /\ k ≠ tb /\ k < w'.heap.size /\ ¬ K k := by
  intro k x
  have key : (F k ∨ w.heap.size <= k) -> (D k ∨ w0.heap.size <= k) /\ k ≠ tb /\ ¬ K k := fun y => by
   rcases y with y | y
   ·exact ⟨(hm.subF k y).1, (hm.subF k y).2.1, fun z => (hm.subK k z).2.1 y⟩
   ·exact ⟨Or.inr (by omega), by omega, fun z => by have := (hm.subK k z).2.2.2; omega⟩
  rcases x with x | x
  ·have := key (hc.sub1 k x.1); exact ⟨this.1, this.2.1, x.2, this.2.2⟩
  ·have := key (hc.sub2 k x.1); exact ⟨this.1, this.2.1, x.2, this.2.2⟩
 have hold : ∀ k, K k -> k < w'.heap.size /\ k ≠ tb := fun k x => ⟨by have := (hm.subK k x).2.2.2; omega, (hm.subK k x).2.2.1⟩
 have keepN : ∀ {b : Nat} {G : Nat -> Prop} {ys : List EV}, Zi K h w' b G ys -> (∀ k, G k -> k ≠ tb) -> Zi K h (X.setCell ⟨tb, 0, none⟩ (ptrV nb)) b G ys := fun hnn hg =>
  Zi.kept hs (fun k x e => (hold k x).2 e) (Zi.kept hq (fun _ _ x => x) hnn (fun _ _ x => x)) (fun k x e => hg k x e)
 refine ⟨fun k => k = nb ∨ k = gl ∨ k = gk ∨ (F1 k /\ k < w'.heap.size) ∨ (F2 k /\ k < w'.heap.size), ⟨?_, ?_, ⟨.slice (some ⟨gl, 0, none⟩) 2 2, .slice (some ⟨gk, 0, none⟩) 2 2, [⟨rb, fun k => F1 k /\ k < w'.heap.size, x1⟩, ⟨r, fun k => F2 k /\ k < w'.heap.size, x2⟩], ⟨hs.get hn (by show ¬ nb = tb; omega), ?_, ?_, ⟨gk, rfl⟩, by simp, ?_, ?_, ?_, Or.inl rfl, fun k e => ?_, fun k e => ?_⟩, ?_⟩, fun k x => ?_, fun k x => ?_, hm.own⟩⟩
 ·exact ((h0.only.trans' hq (fun _ _ x => x.elim)).trans' hs (fun k _ e => by rw [e]; exact hm.own.1))
 ·rw [Zf (hq.get h0.box (fun x => x))]; rfl
 ·refine ⟨rfl, Or.inr ⟨gl, 2, _, rfl, Nat.zero_le _, hs.get hl (by show ¬ gl = tb; omega), by simp, by simp [maxLen], rfl, rfl⟩⟩
 ·refine ⟨rfl, Or.inr ⟨gk, 2, _, rfl, Nat.zero_le _, hs.get hk (by show ¬ gk = tb; omega), by simp, by simp [maxLen], rfl, rfl⟩⟩
 ·intro x hx
  simp at hx
  rcases hx with rfl | rfl
  ·exact ⟨hc.ne1, keepN hc.n1.lim (fun k y => (htF k (Or.inl y)).2.1)⟩
  ·exact ⟨hc.ne2, keepN hc.n2.lim (fun k y => (htF k (Or.inr y)).2.1)⟩
 ·intro x hx k y
  simp at hx
  have ne : k < w'.heap.size -> k ≠ nb /\ Value.ownBlock (.slice (some ⟨gl, 0, none⟩) 2 2) ≠ some k /\ Value.ownBlock (.slice (some ⟨gk, 0, none⟩) 2 2) ≠ some k := fun z =>
   ⟨by omega, fun e => by have e2 : gl = k := Option.some.inj e; omega, fun e => by have e2 : gk = k := Option.some.inj e; omega⟩
  rcases hx with rfl | rfl
  ·exact ⟨Or.inr (Or.inr (Or.inr (Or.inl y))), ne y.2⟩
  ·exact ⟨Or.inr (Or.inr (Or.inr (Or.inr y))), ne y.2⟩
 ·rw [List.pairwise_cons]
  refine ⟨fun y hy k hk hyk => ?_, by simp⟩
  simp at hy
  subst hy
  exact hc.apart k hk.1 hyk.1
 ·have e2 : gl = k := Option.some.inj e
  exact Or.inr (Or.inl e2.symm)
 ·have e2 : gk = k := Option.some.inj e
  exact Or.inr (Or.inr (Or.inl e2.symm))
 ·rw [hc.all]; simp [flat]
 ·rcases x with x | x | x | x | x
  ·exact ⟨Or.inr (by omega), by omega, by omega⟩
  ·exact ⟨Or.inr (by omega), by omega, by omega⟩
  ·exact ⟨Or.inr (by omega), by omega, by omega⟩
  ·have := htF k (Or.inl x); exact ⟨this.1, this.2.1, by omega⟩
  ·have := htF k (Or.inr x); exact ⟨this.1, this.2.1, by omega⟩
 ·have h1 := hold k x
  refine ⟨(hm.subK k x).1, fun y => ?_, h1.2, by omega⟩
  rcases y with y | y | y | y | y
  ·omega
  ·omega
  ·omega
  ·exact (htF k (Or.inl y)).2.2.2 x
  ·exact (htF k (Or.inr y)).2.2.2 x
end
def Zbv (w : World) (D : Nat -> Prop) (tb : Nat) (es : List Ent) (e : Ent) (r : Ending) (w' : World) : Prop :=
 (e ∈ es /\ r = .returned (.int .i64 7) /\ Z0 D w w' /\ Z08 w' (fun k => D k ∨ w.heap.size <= k) tb es) ∨
 (e ∉ es /\ r = .returned (.int .i64 0) /\ Z0 D w w' /\ Z08 w' (fun k => D k ∨ w.heap.size <= k) tb (insE e es))
theorem ZX.is {w0 w : World} {D : Nat -> Prop} {tb rb h : Nat} {F K : Nat -> Prop} {xs : List EV} {cnt : Int} (hm : ZX w0 w D tb rb h F K xs cnt) (hc : cnt = (xs.length : Int)) (hr : ZK (ents xs)) : Z08 w (fun k => D k ∨ w0.heap.size <= k) tb (ents xs) := by
 subst hc
 have hz := hm.only.size
 have := hm.own
 exact ⟨rb, h, F, K, xs, ⟨Z0.refl _ _, hm.box, hm.node, fun k x => ⟨Or.inl (hm.subF k x).1, (hm.subF k x).2⟩, fun k x => ⟨Or.inl (hm.subK k x).1, (hm.subK k x).2⟩, Or.inl this.1, by omega⟩, rfl, hr⟩
theorem Z45 (w : World) (a b c d e : Obj) : ((((((w.alloc a).alloc b).alloc c).alloc d).alloc e).heap[w.heap.size]? = some a) /\ ((((((w.alloc a).alloc b).alloc c).alloc d).alloc e).heap[w.heap.size + 1]? = some b) /\ ((((((w.alloc a).alloc b).alloc c).alloc d).alloc e).heap[w.heap.size + 1 + 1]? = some c) /\ ((((((w.alloc a).alloc b).alloc c).alloc d).alloc e).heap[w.heap.size + 1 + 1 + 1]? = some d) /\ ((((((w.alloc a).alloc b).alloc c).alloc d).alloc e).heap[w.heap.size + 1 + 1 + 1 + 1]? = some e) := by
 have h1 := Z5 w a
 have h2 := Z0r w a b
 have h3 := Z4V w a b c
 have h4 := Z4V (w.alloc a) b c d
 rw [World.size_alloc] at h4
 have h5 := Z4V ((w.alloc a).alloc b) c d e
 rw [World.size_alloc, World.size_alloc] at h5
 exact ⟨Zd (Zd (Zd (Zd h1 _) _) _) _, Zd (Zd (Zd h2 _) _) _, Zd (Zd h3 _) _, Zd h4 _, h5⟩
theorem Z7k (w : World) (D : Nat -> Prop) (tb : Nat) (es : List Ent) (e : Ent) (A : Option Addr) (c : Nat) (S : Nat -> Prop) (ht : Z08 w D tb es) (hr : Rd w S 1 A e.key.length (Zg e.key)) (hby : ∀ x ∈ e.key, x < 256) (hl : e.key.length <= 600) (hn : es.length <= 10000) :
  Calls Tryz.prog 40 #[ptrV tb, entV e A c] w (Zbv w D tb es e) := by
 obtain ⟨rb, h, F, K, xs, hm, hes, hris⟩ := ht
 subst hes
 have hxl : xs.length <= 10000 := by simpa using hn
 have hq0 : Quiet w (w.alloc (.cells #[.slice A e.key.length c, .int .i64 e.pg, .int .i64 e.sl] 111)) := (Z0.refl _ _).alloc _
 have hm1 := hm.quietly hq0
 obtain ⟨c0, _, _⟩ := hm1.cells
 obtain ⟨t0, t1, t2⟩ := Z1B (Z5 w (.cells #[.slice A e.key.length c, .int .i64 e.pg, .int .i64 e.sl] 111))
 have HCO := zh (Zej e A c S _ (hr.kept hq0.drew (fun _ _ x => x)) (by omega))
 have HBX := zh (Z5 w (.cells #[.slice A e.key.length c, .int .i64 e.pg, .int .i64 e.sl] 111))
 have hzl : ∀ k, F k -> k < w.heap.size := fun k x => (hm.subF k x).2.2
 have HINS : Hid (∀ (w2 : World) (A2 : Option Addr) (c2 : Nat), Quiet w w2 -> Rd w2 (fun k => w.heap.size <= k /\ k < w2.heap.size) 1 A2 e.key.length (Zg e.key) →
     ∃ K', ZX w w2 D tb rb h F K' xs (xs.length : Int) /\ Calls Tryz.prog 80 #[ptrV rb, entV e A2 c2] w2 (Z3A K' h w2 rb F xs ⟨e, A2, c2⟩)) := by
  intro w2 A2 c2 hq hrd
  have hz := hq.size
  have hm2 := (hm.quietly hq).keys (K' := fun k => K k ∨ (w.heap.size <= k /\ k < w2.heap.size)) (fun k x => Or.inl x) (fun k x => by
    rcases x with x | x
    · exact Or.inl x
    · exact Or.inr ⟨x.1, x.2, fun y => by have := hzl k y; omega⟩)
  refine ⟨_, hm2, ZfZ _ h w2 rb F xs ⟨e, A2, c2⟩ hm2.node (fun k x => ⟨(hm2.subK k x).2.1, (hm2.subK k x).2.2.2⟩) ⟨hrd.mono (fun k x => Or.inr x), hby, by show e.key.length <= 1000; omega⟩ hris (by omega)⟩
 have HRI := zh hris
 have HQ0 := zh hq0
 obtain ⟨Z8, Z6⟩ : ∃ Z8, Zbv w D tb (ents xs) e = Z8 := ⟨_, rfl⟩
 rw [Z6]
 have Zb := zh Z6
 have hzt : Hid (∀ k, F k -> k < w.heap.size /\ k ≠ tb) := fun k x => ⟨(hm.subF k x).2.2, (hm.subF k x).2.1⟩
 have d6 : decide ((600 : Int) < (e.key.length : Int)) = false := decide_eq_false (by omega)
 have htl : tb < w.heap.size := hm.own.2
 clear hm hm1 hr hby hris hq0 Z6 hzl hn hl
 go_enter Tryz.func40, Tryz.ntmps40
 go_wp2_with fail
 go_region_held3 (fun w' => w'.cell? ⟨tb, 0, none⟩ = some (ptrV rb) /\ w'.cell? ⟨w.heap.size, 0, none⟩ = some (.slice A e.key.length c) /\ w'.cell? ⟨w.heap.size, 1, none⟩ = some (.int .i64 e.pg) /\ w'.cell? ⟨w.heap.size, 2, none⟩ = some (.int .i64 e.sl))
  (first | go_keep | fail)
  (first
    | (go_at_call 81; go_must (refine HCO.out.mono ?_; rintro r w2 ⟨A2, c2, rfl, hq2, hrd2⟩; have k0 := hq2.cell c0 (fun x => x); have k1 := hq2.cell t0 (fun x => x); have k2 := hq2.cell t1 (fun x => x); have k3 := hq2.cell t2 (fun x => x); obtain ⟨K', hm2, hin2⟩ := HINS.out w2 A2 c2 (HQ0.out.drew.trans hq2) (hrd2.mono (fun k x => ⟨by have := HQ0.out.drew.size; omega, x.2⟩))))
    | (go_at_call 80; go_must (refine hin2.mono ?_; intro r w3 hp3; obtain ⟨ok, rfl, hp3⟩ : ∃ ok, r = .returned (.bool ok) /\ Z3A K' h w2 rb F xs ⟨e, A2, c2⟩ (.returned (.bool ok)) w3 := (by rcases hp3 with ⟨a, rfl, b⟩ | ⟨a, rfl, b⟩; exact ⟨_, rfl, Or.inl ⟨a, rfl, b⟩⟩; exact ⟨_, rfl, Or.inr ⟨a, rfl, b⟩⟩); have ho3 : Z0 F w2 w3 := (by rcases hp3 with ⟨_, _, b, _⟩ | ⟨_, _, b, _⟩ <;> exact b); have j0 := ho3.cell k0 (fun x => (hzt.out _ x).2 rfl); have j1 := ho3.cell k1 (fun x => absurd (hzt.out _ x).1 (Nat.lt_irrefl _)); have j2 := ho3.cell k2 (fun x => absurd (hzt.out _ x).1 (Nat.lt_irrefl _)); have j3 := ho3.cell k3 (fun x => absurd (hzt.out _ x).1 (Nat.lt_irrefl _))))
    | fail)
 have HP3 := zh hp3
 have HM2 := zh hm2
 have HO3 := zh ho3
 clear hp3 hm2 hin2 ho3 hq2 hrd2 k0 k1 k2 k3 c0 t0 t1 t2 j1 j2 j3 HCO HBX HINS HQ0 hzt
 rcases HP3.out with ⟨hmem, hr3, _, hn3⟩ | ⟨hmem, hr3, _, hn3⟩
 ·obtain rfl : ok = false := by injection hr3 with hr3; injection hr3
  have hm3 := HM2.out.turn HO3.out hn3 (fun k x => x) rfl
  have HR : Hid (Z8 (.returned (.int .i64 7)) w3) := by
   rw [<- Zb.out]
   exact Or.inl ⟨hmem, rfl, hm3.only, hm3.is rfl HRI.out⟩
  clear hm3 hn3 HP3 j0 HM2 HO3 hr3
  go_wp2
  exact HR.out
 ·obtain rfl : ok = true := by injection hr3 with hr3; injection hr3
  have hm3 := HM2.out.turn HO3.out hn3 (fun k x => x) rfl
  obtain ⟨F3, HM3⟩ : ∃ F3, Hid (ZX w w3 D tb rb h F3 K' (Z0S ⟨e, A2, c2⟩ xs) (xs.length : Int)) := ⟨_, hm3⟩
  have HMEM := zh hmem
  obtain ⟨xs3, hxs3⟩ : ∃ xs3, Z0S ⟨e, A2, c2⟩ xs = xs3 := ⟨_, rfl⟩
  rw [hxs3] at HM3
  have HX3 := zh hxs3
  have hx3l : xs3.length = xs.length + 1 := by rw [<- hxs3, Z3I]
  obtain ⟨c0, c1, cf⟩ := HM3.out.cells
  have hm4 := HM3.out.count ((xs.length : Int) + 1)
  have HM4 := zh hm4
  obtain ⟨d0, d1, df⟩ := hm4.cells
  have HSP := zh (Za3 hm4.node (fun j hj hx => (hm4.subK j hj).2.1 hx) (by omega))
  have HIS : Hid (ZK (ents xs3) /\ ents xs3 = insE e (ents xs)) := by
   have e1 : ents xs3 = insE e (ents xs) := by rw [<- hxs3]; exact ZfP _ _
   exact ⟨by rw [e1]; exact HRI.out.ins hmem, e1⟩
  clear hm3 hn3 HP3 j0 HM2 HO3 hr3 hmem hxs3 hm4 HM3
  go_wp2_with fail
  refine HSP.out.mono ?_
  rintro r w6 (⟨rfl, rfl⟩ | ⟨r, F1, F2, x1, x2, rfl, hc6⟩)
  ·have HR : Hid (Z8 (.returned (.int .i64 0)) (w3.setCell ⟨tb, 1, none⟩ (.int .i64 ((xs.length : Int) + 1)))) := by
    rw [<- Zb.out]
    refine Or.inr ⟨HMEM.out, rfl, HM4.out.only, ?_⟩
    rw [<- HIS.out.2]
    exact HM4.out.is (by omega) HIS.out.1
   clear HSP c0 c1 cf d0 d1 df HM4
   go_wp2
   exact HR.out
  ·have HC6 := zh hc6
   have k6 : w6.cell? ⟨tb, 0, none⟩ = some (ptrV rb) := hc6.only.cell d0 (fun x => (HM4.out.subF tb x).2.1 rfl)
   have hb6 := hc6.only.get HM4.out.box (fun x => (HM4.out.subF tb x).2.1 rfl)
   have kf : ∀ o, w6.frozen? ⟨tb, o, none⟩ = false := fun o => Z7 hb6 o
   have ht6 : tb < w6.heap.size := Ze k6
   have n0 : tb < w6.heap.size := ht6
   have ka1 : ∀ o1, (w6.alloc o1).cell? ⟨tb, 0, none⟩ = some (ptrV rb) := fun o1 => ((Z0.refl (fun _ => False) w6).alloc o1).cell k6 (fun x => x)
   have ka2 : ∀ o1 o2, ((w6.alloc o1).alloc o2).cell? ⟨tb, 0, none⟩ = some (ptrV rb) := fun o1 o2 => ((Z0.refl (fun _ => False) _).alloc o2).cell (ka1 o1) (fun x => x)
   have ka3 : ∀ o1 o2 o3, (((w6.alloc o1).alloc o2).alloc o3).cell? ⟨tb, 0, none⟩ = some (ptrV rb) := fun o1 o2 o3 => ((Z0.refl (fun _ => False) _).alloc o3).cell (ka2 o1 o2) (fun x => x)
   have ka4 : ∀ o1 o2 o3 o4, ((((w6.alloc o1).alloc o2).alloc o3).alloc o4).cell? ⟨tb, 0, none⟩ = some (ptrV rb) := fun o1 o2 o3 o4 => ((Z0.refl (fun _ => False) _).alloc o4).cell (ka3 o1 o2 o3) (fun x => x)
   have ka5 : ∀ o1 o2 o3 o4 o5, (((((w6.alloc o1).alloc o2).alloc o3).alloc o4).alloc o5).cell? ⟨tb, 0, none⟩ = some (ptrV rb) := fun o1 o2 o3 o4 o5 => ((Z0.refl (fun _ => False) _).alloc o5).cell (ka4 o1 o2 o3 o4) (fun x => x)
   have fa5 : ∀ o1 o2 o3 o4 o5 o, (((((w6.alloc o1).alloc o2).alloc o3).alloc o4).alloc o5).frozen? ⟨tb, o, none⟩ = false := fun o1 o2 o3 o4 o5 o => Z7 (Zd (Zd (Zd (Zd (Zd hb6 _) _) _) _) _) o
   have HL1 : Hid (∀ W : World, Quiet w6 W -> Calls Tryz.prog 83 #[ptrV rb] W fun e w' => e = .returned (entV (hd x1).e (hd x1).A (hd x1).c) /\ w' = W.alloc (.cells #[.slice (hd x1).A (hd x1).e.key.length (hd x1).c, .int .i64 (hd x1).e.pg, .int .i64 (hd x1).e.sl] 111)) :=
    fun W hq => Z5b (Zi.kept hq (fun _ _ x => x) hc6.n1 (fun _ _ x => x)) hc6.ne1
   have HL2 : Hid (∀ W : World, Quiet w6 W -> Calls Tryz.prog 83 #[ptrV r] W fun e w' => e = .returned (entV (hd x2).e (hd x2).A (hd x2).c) /\ w' = W.alloc (.cells #[.slice (hd x2).A (hd x2).e.key.length (hd x2).c, .int .i64 (hd x2).e.pg, .int .i64 (hd x2).e.sl] 111)) :=
    fun W hq => Z5b (Zi.kept hq (fun _ _ x => x) hc6.n2 (fun _ _ x => x)) hc6.ne2
   have Q0 : Hid (Quiet w6 w6) := Z0.refl _ _
   clear hc6 hb6 HSP c0 c1 cf d0 d1 df
   go_upto_region 10 with fail
   go_cut [] (fun wx => ∃ nb F', ZX w wx D tb nb (h + 1) F' K' xs3 ((xs.length : Int) + 1))
   case first =>
    go_region_law (first
      | (go_simp; go_at_call_of 83 (ptrV rb); refine (HL1.out _ (by first | exact Q0.out.drew | exact (Q0.out.alloc _).drew | exact ((Q0.out.alloc _).alloc _).drew | exact (((Q0.out.alloc _).alloc _).alloc _).drew)).mono ?_; rintro r' w7 ⟨rfl, rfl⟩)
      | (go_simp; go_at_call_of 83 (ptrV r); refine (HL2.out _ (by first | exact Q0.out.drew | exact (Q0.out.alloc _).drew | exact ((Q0.out.alloc _).alloc _).drew | exact (((Q0.out.alloc _).alloc _).alloc _).drew)).mono ?_; rintro r' w7 ⟨rfl, rfl⟩)
      | fail)
    all_goals
     go_wp2_with fail
     go_meet
     first
      | exact ⟨_, HM4.out.root HC6.out (((((Q0.out.alloc _).alloc _).alloc _).alloc _).alloc _).drew (Z45 w6 _ _ _ _ _).2.2.1 (Z45 w6 _ _ _ _ _).2.2.2.1 (Z45 w6 _ _ _ _ _).2.2.2.2 (by omega) (by omega) (by omega)⟩
      | exact ⟨_, HM4.out.root HC6.out (((((Q0.out.alloc _).alloc _).alloc _).alloc _).alloc _).drew (Z45 w6 _ _ _ _ _).2.2.2.1 (Z45 w6 _ _ _ _ _).1 (Z45 w6 _ _ _ _ _).2.2.2.2 (by omega) (by omega) (by omega)⟩
      | exact ⟨_, HM4.out.root HC6.out (((((Q0.out.alloc _).alloc _).alloc _).alloc _).alloc _).drew (Z45 w6 _ _ _ _ _).2.2.2.1 (Z45 w6 _ _ _ _ _).2.1 (Z45 w6 _ _ _ _ _).2.2.2.2 (by omega) (by omega) (by omega)⟩
      | exact ⟨_, HM4.out.root HC6.out (((((Q0.out.alloc _).alloc _).alloc _).alloc _).alloc _).drew (Z45 w6 _ _ _ _ _).2.2.2.1 (Z45 w6 _ _ _ _ _).2.2.1 (Z45 w6 _ _ _ _ _).2.2.2.2 (by omega) (by omega) (by omega)⟩
      | fail
   case rest =>
    obtain ⟨nb, F', hm7⟩ := hcut
    have HR : Hid (Z8 (.returned (.int .i64 0)) wc) := by
     rw [<- Zb.out]
     refine Or.inr ⟨HMEM.out, rfl, hm7.only, ?_⟩
     rw [<- HIS.out.2]
     exact hm7.is (by omega) HIS.out.1
    clear hm7 HM4 HC6 HL1 HL2 k6 kf ka1 ka2 ka3 ka4 ka5 fa5
    go_wp2
    exact HR.out
section
variable {w0 w w' : World} {v0 v : Value} {ys zs : List EV}
end
theorem Z08.kept {w w' : World} {D S : Nat -> Prop} {tb : Nat} {es : List Ent} (h : Z08 w D tb es) (ho : Z0 S w w') (hn : ∀ k, D k -> ¬ S k) : Z08 w' D tb es := by
 obtain ⟨rb, hh, F, K, xs, hm, e, hr⟩ := h
 have hz := ho.size
 have hlt := hm.own.2
 have hF : ∀ k, F k -> ¬ S k := fun k x y => by
  rcases (hm.subF k x).1 with z | z
  ·exact hn k z y
  ·have := (hm.subF k x).2.2; omega
 have hK : ∀ k, K k -> ¬ S k := fun k x y => by
  rcases (hm.subK k x).1 with z | z
  ·exact hn k z y
  ·have := (hm.subK k x).2.2.2; omega
 refine ⟨rb, hh, F, K, xs, ⟨Z0.refl _ _, ho.get hm.box (hn tb hm.own.1), Zi.kept ho hK hm.node hF, fun k x => ?_, fun k x => ?_, hm.own.1, by omega⟩, e, hr⟩
 ·have := hm.subF k x
  refine ⟨?_, this.2.1, by omega⟩
  rcases this.1 with z | z
  ·exact Or.inl z
  ·have := this.2.2; omega
 ·have := hm.subK k x
  refine ⟨?_, this.2.1, this.2.2.1, by omega⟩
  rcases this.1 with z | z
  ·exact Or.inl z
  ·have := this.2.2.2; omega
theorem Z08.mono {w : World} {D D' : Nat -> Prop} {tb : Nat} {es : List Ent} (h : Z08 w D tb es) (hd : ∀ k, D k -> k < w.heap.size -> D' k) : Z08 w D' tb es := by
 obtain ⟨rb, hh, F, K, xs, hm, e, hr⟩ := h
 have hlt := hm.own.2
 refine ⟨rb, hh, F, K, xs, ⟨Z0.refl _ _, hm.box, hm.node, fun k x => ?_, fun k x => ?_, hd tb hm.own.1 hlt, hlt⟩, e, hr⟩
 ·have := hm.subF k x
  refine ⟨?_, this.2⟩
  rcases this.1 with z | z
  ·exact Or.inl (hd k z this.2.2)
  ·have := this.2.2; omega
 ·have := hm.subK k x
  refine ⟨?_, this.2⟩
  rcases this.1 with z | z
  ·exact Or.inl (hd k z this.2.2.2)
  ·have := this.2.2.2; omega
theorem Zhr {w : World} {D : Nat -> Prop} {tb : Nat} {es : List Ent} (ht : Z08 w D tb es) :
  Calls Tryz.prog 58 #[ptrV tb] w fun e w' => e = .returned (.int .i64 (es.length : Int)) /\ w = w' := by
 obtain ⟨rb, h, F, K, xs, hm, e, hr⟩ := ht
 obtain ⟨_, c1, _⟩ := hm.cells
 have hl : es.length = xs.length := by rw [<- e]; simp
 rw [hl]
 clear hm hr e hl
 go_enter Tryz.func58, Tryz.ntmps58
 go_wp2
 go_ret
 exact ⟨rfl, rfl⟩
theorem Zbw {w w' : World} (hq : Quiet w w') (h0 : w'.heap[w.heap.size]? = some (.cells #[.slice none 0 0, .slice none 0 0] 167 (0, 0))) (h1 : w'.heap[w.heap.size + 1]? = some (.cells #[ptrV w.heap.size, .int .i64 0] 169 (0, 0))) : Z08 w' (fun k => w.heap.size <= k) (w.heap.size + 1) [] := by
 have l1 := Z2 h1
 refine ⟨w.heap.size, 0, fun k => k = w.heap.size, fun _ => False, [], ⟨Z0.refl _ _, h1, ⟨_, h0, World.ownsRow_nil _ _ _ _, fun x hx => by simp at hx, rfl, fun k e => by cases e⟩, fun k e => ⟨Or.inl (by omega), by omega, by omega⟩, fun k e => e.elim, by omega, l1⟩, rfl, ZK.nil⟩
section
variable {w W W' : World} {J J' : Nat -> Prop} {tb : Nat} {es : List Ent}
end
theorem Z71 {w : World} {S : Nat -> Prop} {size n : Nat} {A : Option Addr} {xs : List Value} (h : Rd w S size A n xs) : Rd w (fun k => S k /\ k < w.heap.size) size A n xs :=
 ⟨h.len, fun h0 => by
   obtain ⟨b, off, e, hb, hc⟩ := h.cells h0
   exact ⟨b, off, e, ⟨hb, by have := Ze (hc 0 _ (zg h0)); exact this⟩, hc⟩⟩
section
variable {w w' : World} {F G : Nat -> Prop}
theorem Zy.lim {lb : Nat} {L : List Nat} (h : Zy w F lb L) : Zy w (fun k => F k /\ k < w.heap.size) lb L := by
 obtain ⟨v, h⟩ := h
 exact ⟨v, h.box, h.row, ⟨⟨h.foot.1, Z2 h.box⟩, fun k e => ⟨h.foot.2 k e, (h.row.lt k e).2⟩⟩, h.st, h.most⟩
theorem Z0W.lim {tb : Nat} {e : TE} (h : Z0W w F tb e) : Z0W w (fun k => F k /\ k < w.heap.size) tb e := by
 obtain ⟨A, c, h1, h2, h3⟩ := h.ex
 obtain ⟨A', c', t1, t2⟩ := h.typ
 exact ⟨⟨A, c, h1, Z71 h2, h3⟩, ⟨h.own, Z2 h1⟩, h.pos, h.num, A', c', t1, fun g e => ⟨⟨(t2 g e).1, by obtain ⟨cur, hh⟩ := (t2 g e).2; exact Z2 hh⟩, (t2 g e).2⟩⟩
theorem Z1y.lim {xb : Nat} {e : IE} (h : Z1y w F xb e) : Z1y w (fun k => F k /\ k < w.heap.size) xb e := ⟨h.box, ⟨h.own, Z2 h.box⟩, h.num⟩
theorem ZG.lim {bb last : Nat} {T : List TE} {I : List IE} (h : ZG w F bb T I last) : ZG w (fun k => F k /\ k < w.heap.size) bb T I last := by
 obtain ⟨vT, tps, vI, ips, h1, h2, h3⟩ := h
 exact ⟨vT, tps, vI, ips, ⟨h1.box, h1.rowT, h1.rowI, fun i e hi => by obtain ⟨p, a, b⟩ := h1.tbl i e hi; exact ⟨p, a, b.lim⟩, ⟨⟨h1.foot.1, Z2 h1.box⟩, fun k e => ⟨h1.foot.2.1 k e, (h1.rowT.lt k e).2⟩, fun k e => ⟨h1.foot.2.2 k e, (h1.rowI.lt k e).2⟩⟩, h1.num⟩, h2, fun i e hi => by obtain ⟨p, a, b⟩ := h3 i e hi; exact ⟨p, a, b.lim⟩⟩
theorem Z0q.lim {A : Option Addr} {c : Nat} {s : Zo} (h : Z0q w F A c s) : Z0q w (fun k => F k /\ k < w.heap.size) A c s := ⟨Z71 h.row, h.cap, h.num⟩
end
structure St where
 L : List Nat
 T : List TE
 I : List IE
 blast : Nat
 left : Nat
 hs : Nat -> Option (List (List (Option Tup)))
 ts : Nat -> Option (List Ent)
 sn : Nat -> Option Zo
 last : Nat
def Z9c (w : World) (pb : Nat) (o : Nat -> Nat) (hs : Nat -> Option (List (List (Option Tup)))) (fh : Nat -> Option Value) : Prop :=
 (∀ id, hs id = none -> fh id = none) /\ ∀ id H, hs id = some H -> ∃ hb, fh id = some (ptrV hb) /\ Zp w hb pb (fun k => o k = 10 + 2 * id) H
def Z9d (w : World) (o : Nat -> Nat) (ts : Nat -> Option (List Ent)) (ft : Nat -> Option Value) : Prop :=
 (∀ id, ts id = none -> ft id = none) /\ ∀ id es, ts id = some es -> ∃ tb, ft id = some (ptrV tb) /\ Z08 w (fun k => o k = 11 + 2 * id) tb es
def Z4n (w : World) (o : Nat -> Nat) (sn : Nat -> Option Zo) (fs : Nat -> Option Value) : Prop :=
 (∀ id, sn id = none -> fs id = none) /\ ∀ id x, sn id = some x -> ∃ A c, fs id = some (Zk x A c) /\ Z0q w (fun k => o k = 5) A c x
structure Zh (w : World) (sb : Nat) (o : Nat -> Nat) (s : St) (lb bb pb mh mt ms : Nat) (fh ft fs : Nat -> Option Value) : Prop where
 box : w.heap[sb]? = some (.cells #[ptrV lb, ptrV bb, ptrV pb, .map (some mh), .map (some mt), .map (some ms), .int .u64 (s.last : Int)] 78 (0, 0))
 log : Zy w (fun k => o k = 2) lb s.L
 book : ZG w (fun k => o k = 3) bb s.T s.I s.blast
 pool : ZI w pb s.left
 mH : Z09 w mh fh
 mT : Z09 w mt ft
 mS : Z09 w ms fs
 tags : o sb = 1 /\ o pb = 4 /\ o mh = 6 /\ o mt = 7 /\ o ms = 8
 big : ∀ k, w.heap.size <= k -> o k = 0
 heaps : Z9c w pb o s.hs fh
 trees : Z9d w o s.ts ft
 snaps : Z4n w o s.sn fs
 num : U64 s.last
def Zm (w : World) (sb : Nat) (o : Nat -> Nat) (s : St) : Prop := ∃ lb bb pb mh mt ms fh ft fs, Zh w sb o s lb bb pb mh mt ms fh ft fs
def grow (o : Nat -> Nat) (n m t : Nat) (k : Nat) : Nat := if n <= k /\ k < m then t else o k
theorem Z0s {o : Nat -> Nat} {n m t k : Nat} (h : k < n) : grow o n m t k = o k := if_neg (by omega)
theorem Z2h {o : Nat -> Nat} {n m t k : Nat} (h : n <= k) (h2 : k < m) : grow o n m t k = t := if_pos ⟨h, h2⟩
theorem Z2X {o : Nat -> Nat} {n m t k : Nat} (hb : ∀ k, n <= k -> o k = 0) (hm : n <= m) (h : m <= k) : grow o n m t k = 0 := by
 unfold grow
 rw [if_neg (by omega)]
 exact hb k (by omega)
def Z0y (o o' : Nat -> Nat) : Prop := ∀ k, o k ≠ 0 -> o' k = o k
section
variable {w w' : World} {S : Nat -> Prop} {o o' : Nat -> Nat}
theorem Z0y.grow {n m t : Nat} (hb : ∀ k, n <= k -> o k = 0) : Z0y o (grow o n m t) := fun k hk => Z0s (by
  rcases Nat.lt_or_ge k n with x | x
  · exact x
  · exact absurd (hb k x) hk)
theorem Z0y.refl : Z0y o o := fun _ _ => rfl
theorem Z46 {lb t : Nat} {L : List Nat} (h : Zy w (fun k => o k = t) lb L) (ho : Z0 S w w') (hg : Z0y o o') (ht : t ≠ 0) (hn : ∀ k, S k -> o k ≠ t) : Zy w' (fun k => o' k = t) lb L :=
 (h.kept ho (fun k hk x => hn k x hk)).mono (fun k hk _ => by rw [hg k (by rw [hk]; exact ht)]; exact hk)
theorem Z2M {bb t last : Nat} {T : List TE} {I : List IE} (h : ZG w (fun k => o k = t) bb T I last) (ho : Z0 S w w') (hg : Z0y o o') (ht : t ≠ 0) (hn : ∀ k, S k -> o k ≠ t) : ZG w' (fun k => o' k = t) bb T I last :=
 (h.kept ho (fun k hk x => hn k x hk)).mono (fun k hk => by rw [hg k (by rw [hk]; exact ht)]; exact hk)
theorem ZaN {hb pb t : Nat} {H : List (List (Option Tup))} (h : Zp w hb pb (fun k => o k = t) H) (ho : Z0 S w w') (hg : Z0y o o') (ht : t ≠ 0) (hn : ∀ k, S k -> o k ≠ t) : Zp w' hb pb (fun k => o' k = t) H :=
 (h.kept ho (fun k hk x => hn k x hk)).mono (fun k hk => by rw [hg k (by rw [hk]; exact ht)]; exact hk)
theorem Zek {A : Option Addr} {c t : Nat} {s : Zo} (h : Z0q w (fun k => o k = t) A c s) (ho : Z0 S w w') (hg : Z0y o o') (ht : t ≠ 0) (hn : ∀ k, S k -> o k ≠ t) : Z0q w' (fun k => o' k = t) A c s :=
 (h.kept ho (fun k hk x => hn k x hk)).mono (fun k hk => by rw [hg k (by rw [hk]; exact ht)]; exact hk)
theorem ZaO {tb t : Nat} {es : List Ent} (h : Z08 w (fun k => o k = t) tb es) (ho : Z0 S w w') (hg : Z0y o o') (ht : t ≠ 0) (hn : ∀ k, S k -> o k ≠ t) : Z08 w' (fun k => o' k = t) tb es :=
 (h.kept ho (fun k hk x => hn k x hk)).mono (fun k hk _ => by rw [hg k (by rw [hk]; exact ht)]; exact hk)
theorem Z3f {pb : Nat} {hs : Nat -> Option (List (List (Option Tup)))} {fh : Nat -> Option Value} (h : Z9c w pb o hs fh) (ho : Z0 S w w') (hg : Z0y o o') (hn : ∀ k, S k -> ∀ id H, hs id = some H -> o k ≠ 10 + 2 * id) : Z9c w' pb o' hs fh :=
 ⟨h.1, fun id H hi => by obtain ⟨hb, e, h1⟩ := h.2 id H hi; exact ⟨hb, e, ZaN h1 ho hg (by omega) (fun k hk => hn k hk id H hi)⟩⟩
theorem Z3g {ts : Nat -> Option (List Ent)} {ft : Nat -> Option Value} (h : Z9d w o ts ft) (ho : Z0 S w w') (hg : Z0y o o') (hn : ∀ k, S k -> ∀ id es, ts id = some es -> o k ≠ 11 + 2 * id) : Z9d w' o' ts ft :=
 ⟨h.1, fun id es hi => by obtain ⟨tb, e, h1⟩ := h.2 id es hi; exact ⟨tb, e, ZaO h1 ho hg (by omega) (fun k hk => hn k hk id es hi)⟩⟩
theorem Z2F {sn : Nat -> Option Zo} {fs : Nat -> Option Value} (h : Z4n w o sn fs) (ho : Z0 S w w') (hg : Z0y o o') (hn : ∀ k, S k -> o k ≠ 5) : Z4n w' o' sn fs :=
 ⟨h.1, fun id x hi => by obtain ⟨A, c, e, h1⟩ := h.2 id x hi; exact ⟨A, c, e, Zek h1 ho hg (by omega) hn⟩⟩
end
section
variable {w w' : World} {sb : Nat} {o : Nat -> Nat} {s : St} {lb bb pb mh mt ms : Nat} {fh ft fs : Nat -> Option Value}
theorem Zh.cells (h : Zh w sb o s lb bb pb mh mt ms fh ft fs) : w.cell? ⟨sb, 0, none⟩ = some (ptrV lb) /\ w.cell? ⟨sb, 1, none⟩ = some (ptrV bb) /\ w.cell? ⟨sb, 2, none⟩ = some (ptrV pb) /\ w.cell? ⟨sb, 3, none⟩ = some (.map (some mh)) /\ w.cell? ⟨sb, 4, none⟩ = some (.map (some mt)) /\ w.cell? ⟨sb, 5, none⟩ = some (.map (some ms)) /\ w.cell? ⟨sb, 6, none⟩ = some (.int .u64 (s.last : Int)) :=
 ⟨by rw [Z1 h.box]; rfl, by rw [Z1 h.box]; rfl, by rw [Z1 h.box]; rfl, by rw [Z1 h.box]; rfl, by rw [Z1 h.box]; rfl, by rw [Z1 h.box]; rfl, by rw [Z1 h.box]; rfl⟩
theorem Zh.kept {S : Nat -> Prop} (h : Zh w sb o s lb bb pb mh mt ms fh ft fs) (ho : Z0 S w w') (hn : ∀ k, S k -> o k = 0) : Zh w' sb o s lb bb pb mh mt ms fh ft fs := by
 obtain ⟨t1, t2, t3, t4, t5⟩ := h.tags
 exact ⟨ho.get h.box (fun x => by have := hn _ x; omega), Z46 h.log ho .refl (by omega) (fun k x => by have := hn _ x; omega), Z2M h.book ho .refl (by omega) (fun k x => by have := hn _ x; omega), h.pool.kept ho (fun x => by have := hn _ x; omega),
   h.mH.kept ho (fun x => by have := hn _ x; omega), h.mT.kept ho (fun x => by have := hn _ x; omega), h.mS.kept ho (fun x => by have := hn _ x; omega), h.tags, fun k hk => h.big k (Nat.le_trans ho.size hk),
   Z3f h.heaps ho .refl (fun k x id H _ => by have := hn _ x; omega), Z3g h.trees ho .refl (fun k x id es _ => by have := hn _ x; omega), Z2F h.snaps ho .refl (fun k x => by have := hn _ x; omega), h.num⟩
theorem Zh.quietly (h : Zh w sb o s lb bb pb mh mt ms fh ft fs) (hq : Quiet w w') : Zh w' sb o s lb bb pb mh mt ms fh ft fs := h.kept hq (fun _ x => x.elim)
theorem Zm.quietly (h : Zm w sb o s) (hq : Quiet w w') : Zm w' sb o s := by
 obtain ⟨lb, bb, pb, mh, mt, ms, fh, ft, fs, h⟩ := h
 exact ⟨lb, bb, pb, mh, mt, ms, fh, ft, fs, h.quietly hq⟩
theorem Zm.kept {S : Nat -> Prop} (h : Zm w sb o s) (ho : Z0 S w w') (hn : ∀ k, S k -> o k = 0) : Zm w' sb o s := by
 obtain ⟨lb, bb, pb, mh, mt, ms, fh, ft, fs, h⟩ := h
 exact ⟨lb, bb, pb, mh, mt, ms, fh, ft, fs, h.kept ho hn⟩
theorem Zh.setLog {L' : List Nat} (h : Zh w sb o s lb bb pb mh mt ms fh ft fs) (ho : Z0 (fun k => o k = 2) w w') (hl : Zy w' (fun k => o k = 2 ∨ w.heap.size <= k) lb L') : Zh w' sb (grow o w.heap.size w'.heap.size 2) { s with L := L' } lb bb pb mh mt ms fh ft fs := by
 obtain ⟨t1, t2, t3, t4, t5⟩ := h.tags
 have hg : Z0y o (grow o w.heap.size w'.heap.size 2) := Z0y.grow h.big
 exact ⟨ho.get h.box (fun x => by omega), hl.mono (fun k hk hl => by rcases hk with x | x; rw [hg k (by omega)]; exact x; exact Z2h x hl), Z2M h.book ho hg (by omega) (fun k x => by omega), h.pool.kept ho (fun x => by omega),
   h.mH.kept ho (fun x => by omega), h.mT.kept ho (fun x => by omega), h.mS.kept ho (fun x => by omega), ⟨by rw [hg _ (by omega)]; exact t1, by rw [hg _ (by omega)]; exact t2, by rw [hg _ (by omega)]; exact t3, by rw [hg _ (by omega)]; exact t4, by rw [hg _ (by omega)]; exact t5⟩, fun k hk => Z2X h.big ho.size hk,
   Z3f h.heaps ho hg (fun k x id H _ => by omega), Z3g h.trees ho hg (fun k x id es _ => by omega), Z2F h.snaps ho hg (fun k x => by omega), h.num⟩
theorem Zh.setBook {T' : List TE} {I' : List IE} {last' : Nat} (h : Zh w sb o s lb bb pb mh mt ms fh ft fs) (ho : Z0 (fun k => o k = 3) w w') (hl : ZG w' (fun k => o k = 3 ∨ w.heap.size <= k) bb T' I' last') : Zh w' sb (grow o w.heap.size w'.heap.size 3) { s with T := T', I := I', blast := last' } lb bb pb mh mt ms fh ft fs := by
 obtain ⟨t1, t2, t3, t4, t5⟩ := h.tags
 have hg : Z0y o (grow o w.heap.size w'.heap.size 3) := Z0y.grow h.big
 exact ⟨ho.get h.box (fun x => by omega), Z46 h.log ho hg (by omega) (fun k x => by omega), hl.lim.mono (fun k hk => by rcases hk.1 with x | x; rw [hg k (by omega)]; exact x; exact Z2h x hk.2), h.pool.kept ho (fun x => by omega),
   h.mH.kept ho (fun x => by omega), h.mT.kept ho (fun x => by omega), h.mS.kept ho (fun x => by omega), ⟨by rw [hg _ (by omega)]; exact t1, by rw [hg _ (by omega)]; exact t2, by rw [hg _ (by omega)]; exact t3, by rw [hg _ (by omega)]; exact t4, by rw [hg _ (by omega)]; exact t5⟩, fun k hk => Z2X h.big ho.size hk,
   Z3f h.heaps ho hg (fun k x id H _ => by omega), Z3g h.trees ho hg (fun k x id es _ => by omega), Z2F h.snaps ho hg (fun k x => by omega), h.num⟩
theorem Zh.setHeap {id hb left' : Nat} {H' : List (List (Option Tup))} (h : Zh w sb o s lb bb pb mh mt ms fh ft fs) (hid : fh id = some (ptrV hb)) (ho : Z0 (fun k => o k = 10 + 2 * id ∨ k = pb) w w') (hp : ZI w' pb left') (hl : Zp w' hb pb (fun k => o k = 10 + 2 * id ∨ w.heap.size <= k) H') :
  Zh w' sb (grow o w.heap.size w'.heap.size (10 + 2 * id)) { s with left := left', hs := upd s.hs id (some H') } lb bb pb mh mt ms fh ft fs := by
 obtain ⟨t1, t2, t3, t4, t5⟩ := h.tags
 have hg : Z0y o (grow o w.heap.size w'.heap.size (10 + 2 * id)) := Z0y.grow h.big
 have hn : ∀ k, (o k = 10 + 2 * id ∨ k = pb) -> o k = 10 + 2 * id ∨ o k = 4 := fun k x => by rcases x with x | x; exact Or.inl x; rw [x]; exact Or.inr t2
 refine ⟨ho.get h.box (fun x => by have := hn _ x; omega), Z46 h.log ho hg (by omega) (fun k x => by have := hn _ x; omega), Z2M h.book ho hg (by omega) (fun k x => by have := hn _ x; omega), hp,
   h.mH.kept ho (fun x => by have := hn _ x; omega), h.mT.kept ho (fun x => by have := hn _ x; omega), h.mS.kept ho (fun x => by have := hn _ x; omega), ⟨by rw [hg _ (by omega)]; exact t1, by rw [hg _ (by omega)]; exact t2, by rw [hg _ (by omega)]; exact t3, by rw [hg _ (by omega)]; exact t4, by rw [hg _ (by omega)]; exact t5⟩, fun k hk => Z2X h.big ho.size hk,
   ⟨fun i hi => ?_, fun i H hi => ?_⟩, Z3g h.trees ho hg (fun k x i es _ => by have := hn _ x; omega), Z2F h.snaps ho hg (fun k x => by have := hn _ x; omega), h.num⟩
 ·by_cases e : i = id
  ·subst e; simp [upd] at hi
  ·exact h.heaps.1 i (by simpa [upd, e] using hi)
 ·by_cases e : i = id
  ·subst e
   have : H' = H := by simpa [upd] using hi
   subst this
   exact ⟨hb, hid, hl.lim.mono (fun k hk => by rcases hk.1 with x | x; rw [hg k (by omega)]; exact x; exact Z2h x hk.2)⟩
  ·obtain ⟨hb2, e2, h2⟩ := h.heaps.2 i H (by simpa [upd, e] using hi)
   exact ⟨hb2, e2, ZaN h2 ho hg (by omega) (fun k x => by have := hn _ x; omega)⟩
theorem Zh.newHeap {id hb B : Nat} {H' : List (List (Option Tup))} (h : Zh w sb o s lb bb pb mh mt ms fh ft fs) (hB : ∀ k, B <= k -> o k = 0) (hBw : B <= w.heap.size) (hid : s.hs id = none) (ho : Z0 (fun k => k = mh) w w') (hm : Z09 w' mh (upd fh id (some (ptrV hb)))) (hl : Zp w' hb pb (fun k => B <= k) H') :
  Zh w' sb (grow o B w'.heap.size (10 + 2 * id)) { s with hs := upd s.hs id (some H') } lb bb pb mh mt ms (upd fh id (some (ptrV hb))) ft fs := by
 obtain ⟨t1, t2, t3, t4, t5⟩ := h.tags
 have hg : Z0y o (grow o B w'.heap.size (10 + 2 * id)) := Z0y.grow hB
 have hn : ∀ k, k = mh -> o k = 6 := fun k x => by rw [x]; exact t3
 refine ⟨ho.get h.box (fun x => by have := hn _ x; omega), Z46 h.log ho hg (by omega) (fun k x => by have := hn _ x; omega), Z2M h.book ho hg (by omega) (fun k x => by have := hn _ x; omega), h.pool.kept ho (fun x => by have := hn _ x; omega),
   hm, h.mT.kept ho (fun x => by have := hn _ x; omega), h.mS.kept ho (fun x => by have := hn _ x; omega), ⟨by rw [hg _ (by omega)]; exact t1, by rw [hg _ (by omega)]; exact t2, by rw [hg _ (by omega)]; exact t3, by rw [hg _ (by omega)]; exact t4, by rw [hg _ (by omega)]; exact t5⟩, fun k hk => Z2X hB (Nat.le_trans hBw ho.size) hk,
   ⟨fun i hi => ?_, fun i H hi => ?_⟩, Z3g h.trees ho hg (fun k x i es _ => by have := hn _ x; omega), Z2F h.snaps ho hg (fun k x => by have := hn _ x; omega), h.num⟩
 ·by_cases e : i = id
  ·subst e; simp [upd] at hi
  ·have := h.heaps.1 i (by simpa [upd, e] using hi)
   simpa [upd, e] using this
 ·by_cases e : i = id
  ·subst e
   have : H' = H := by simpa [upd] using hi
   subst this
   exact ⟨hb, by simp [upd], hl.lim.mono (fun k hk => Z2h hk.1 hk.2)⟩
  ·obtain ⟨hb2, e2, h2⟩ := h.heaps.2 i H (by simpa [upd, e] using hi)
   exact ⟨hb2, by simpa [upd, e] using e2, ZaN h2 ho hg (by omega) (fun k x => by have := hn _ x; omega)⟩
theorem Zh.putSnap {id B c : Nat} {A : Option Addr} {x : Zo} (h : Zh w sb o s lb bb pb mh mt ms fh ft fs) (hB : ∀ k, B <= k -> o k = 0) (hBw : B <= w.heap.size) (ho : Z0 (fun k => k = ms) w w') (hm : Z09 w' ms (upd fs id (some (Zk x A c)))) (hl : Z0q w' (fun k => B <= k) A c x) :
  Zh w' sb (grow o B w'.heap.size 5) { s with sn := upd s.sn id (some x) } lb bb pb mh mt ms fh ft (upd fs id (some (Zk x A c))) := by
 obtain ⟨t1, t2, t3, t4, t5⟩ := h.tags
 have hg : Z0y o (grow o B w'.heap.size 5) := Z0y.grow hB
 have hn : ∀ k, k = ms -> o k = 8 := fun k x => by rw [x]; exact t5
 refine ⟨ho.get h.box (fun x => by have := hn _ x; omega), Z46 h.log ho hg (by omega) (fun k x => by have := hn _ x; omega), Z2M h.book ho hg (by omega) (fun k x => by have := hn _ x; omega), h.pool.kept ho (fun x => by have := hn _ x; omega),
   h.mH.kept ho (fun x => by have := hn _ x; omega), h.mT.kept ho (fun x => by have := hn _ x; omega), hm, ⟨by rw [hg _ (by omega)]; exact t1, by rw [hg _ (by omega)]; exact t2, by rw [hg _ (by omega)]; exact t3, by rw [hg _ (by omega)]; exact t4, by rw [hg _ (by omega)]; exact t5⟩, fun k hk => Z2X hB (Nat.le_trans hBw ho.size) hk,
   Z3f h.heaps ho hg (fun k x i H _ => by have := hn _ x; omega), Z3g h.trees ho hg (fun k x i es _ => by have := hn _ x; omega), ⟨fun i hi => ?_, fun i y hi => ?_⟩, h.num⟩
 ·by_cases e : i = id
  ·subst e; simp [upd] at hi
  ·have := h.snaps.1 i (by simpa [upd, e] using hi)
   simpa [upd, e] using this
 ·by_cases e : i = id
  ·subst e
   have : x = y := by simpa [upd] using hi
   subst this
   exact ⟨A, c, by simp [upd], hl.lim.mono (fun k hk => Z2h hk.1 hk.2)⟩
  ·obtain ⟨A2, c2, e2, h2⟩ := h.snaps.2 i y (by simpa [upd, e] using hi)
   exact ⟨A2, c2, by simpa [upd, e] using e2, Zek h2 ho hg (by omega) (fun k x => by have := hn _ x; omega)⟩
theorem Zh.delSnap {id : Nat} (h : Zh w sb o s lb bb pb mh mt ms fh ft fs) (ho : Z0 (fun k => k = ms) w w') (hm : Z09 w' ms (upd fs id none)) :
  Zh w' sb o { s with sn := upd s.sn id none } lb bb pb mh mt ms fh ft (upd fs id none) := by
 obtain ⟨t1, t2, t3, t4, t5⟩ := h.tags
 have hn : ∀ k, k = ms -> o k = 8 := fun k x => by rw [x]; exact t5
 refine ⟨ho.get h.box (fun x => by have := hn _ x; omega), Z46 h.log ho .refl (by omega) (fun k x => by have := hn _ x; omega), Z2M h.book ho .refl (by omega) (fun k x => by have := hn _ x; omega), h.pool.kept ho (fun x => by have := hn _ x; omega),
   h.mH.kept ho (fun x => by have := hn _ x; omega), h.mT.kept ho (fun x => by have := hn _ x; omega), hm, h.tags, fun k hk => h.big k (Nat.le_trans ho.size hk),
   Z3f h.heaps ho .refl (fun k x i H _ => by have := hn _ x; omega), Z3g h.trees ho .refl (fun k x i es _ => by have := hn _ x; omega), ⟨fun i hi => ?_, fun i y hi => ?_⟩, h.num⟩
 ·by_cases e : i = id
  ·subst e; simp [upd]
  ·have := h.snaps.1 i (by simpa [upd, e] using hi)
   simpa [upd, e] using this
 ·by_cases e : i = id
  ·subst e; simp [upd] at hi
  ·obtain ⟨A2, c2, e2, h2⟩ := h.snaps.2 i y (by simpa [upd, e] using hi)
   exact ⟨A2, c2, by simpa [upd, e] using e2, Zek h2 ho .refl (by omega) (fun k x => by have := hn _ x; omega)⟩
theorem Zh.setLast {z : Int} {n : Nat} (h : Zh w sb o s lb bb pb mh mt ms fh ft fs) (hz : z = n) (hn : U64 n) : Zh (w.setCell ⟨sb, 6, none⟩ (.int .u64 z)) sb o { s with last := n } lb bb pb mh mt ms fh ft fs := by
 subst hz
 obtain ⟨t1, t2, t3, t4, t5⟩ := h.tags
 have ho : Z0 (fun k => k = sb) w (w.setCell ⟨sb, 6, none⟩ (.int .u64 (n : Int))) := (Z0.refl (fun k => k = sb) w).setCell (p := ⟨sb, 6, none⟩) (fun _ => rfl) _
 have hn' : ∀ k, k = sb -> o k = 1 := fun k x => by rw [x]; exact t1
 exact ⟨Zf h.box 6 _, Z46 h.log ho .refl (by omega) (fun k x => by have := hn' _ x; omega), Z2M h.book ho .refl (by omega) (fun k x => by have := hn' _ x; omega), h.pool.kept ho (fun x => by have := hn' _ x; omega),
   h.mH.kept ho (fun x => by have := hn' _ x; omega), h.mT.kept ho (fun x => by have := hn' _ x; omega), h.mS.kept ho (fun x => by have := hn' _ x; omega), h.tags, fun k hk => h.big k (Nat.le_trans ho.size hk),
   Z3f h.heaps ho .refl (fun k x i H _ => by have := hn' _ x; omega), Z3g h.trees ho .refl (fun k x i es _ => by have := hn' _ x; omega), Z2F h.snaps ho .refl (fun k x => by have := hn' _ x; omega), hn⟩
end
def st0 (n : Nat) : St := ⟨[], [], [], 0, n, fun _ => none, fun _ => none, fun _ => none, 0⟩
def Z3h (pb n1 n2 n3 : Nat) (k : Nat) : Nat :=
 if k = pb then 4 else if n1 <= k /\ k < n2 then 2 else if n2 <= k /\ k < n3 then 3 else if k = n3 then 6 else if k = n3 + 1 then 7 else if k = n3 + 2 then 8 else if k = n3 + 3 then 1 else 0
def Z6t (w : World) (n : Nat) (e : Ending) (w' : World) : Prop := ∃ sb o, e = .returned (.tuple #[ptrV sb, .int .i64 0]) /\ Quiet w w' /\ (∀ k, k < w.heap.size -> o k = 0) /\ Zm w' sb o (st0 n)
theorem ZaB {w w1 w2 w3 : World} {n : Nat} (hq1 : Quiet w w1) (hp : ZI w1 w.heap.size n) (hq2 : Quiet w1 w2) (hl : Zy w2 (fun k => w1.heap.size <= k) w1.heap.size []) (hq3 : Quiet w2 w3) (hb : ZG w3 (fun k => w2.heap.size <= k) w2.heap.size [] [] 0)
  (W : World) (hW : W = (((w3.alloc (.map #[] 0)).alloc (.map #[] 0)).alloc (.map #[] 0)).alloc (.cells #[ptrV w1.heap.size, ptrV w2.heap.size, ptrV w.heap.size, .map (some w3.heap.size), .map (some (w3.heap.size + 1)), .map (some (w3.heap.size + 2)), .int .u64 0] 78)) :
  Z6t w n (.returned (.tuple #[ptrV (w3.heap.size + 3), .int .i64 0])) W := by
 subst hW
 have s1 : w.heap.size < w1.heap.size := hp.lt
 have s2 : w1.heap.size < w2.heap.size := hl.lt.1
 have s3 : w2.heap.size < w3.heap.size := hb.lt.2
 have q : Quiet w3 ((((w3.alloc (.map #[] 0)).alloc (.map #[] 0)).alloc (.map #[] 0)).alloc (.cells #[ptrV w1.heap.size, ptrV w2.heap.size, ptrV w.heap.size, .map (some w3.heap.size), .map (some (w3.heap.size + 1)), .map (some (w3.heap.size + 2)), .int .u64 0] 78)) := ((((Z0.refl _ _).alloc _).alloc _).alloc _).alloc _
 have m1 := Z6s w3
 have m2 := Z6s (w3.alloc (.map #[] 0))
 have m3 := Z6s ((w3.alloc (.map #[] 0)).alloc (.map #[] 0))
 have b4 := Z5 (((w3.alloc (.map #[] 0)).alloc (.map #[] 0)).alloc (.map #[] 0)) (.cells #[ptrV w1.heap.size, ptrV w2.heap.size, ptrV w.heap.size, .map (some w3.heap.size), .map (some (w3.heap.size + 1)), .map (some (w3.heap.size + 2)), .int .u64 0] 78)
 simp only [World.size_alloc] at m2 m3 b4
 refine ⟨w3.heap.size + 3, Z3h w.heap.size w1.heap.size w2.heap.size w3.heap.size, rfl, hq1.trans (hq2.trans (hq3.trans q)), fun k hk => ?_, w1.heap.size, w2.heap.size, w.heap.size, w3.heap.size, w3.heap.size + 1, w3.heap.size + 2, fun _ => none, fun _ => none, fun _ => none, ?_⟩
 ·unfold Z3h
  repeat rw [if_neg (by omega)]
 ·have big : ∀ k, w3.heap.size + 4 <= k -> Z3h w.heap.size w1.heap.size w2.heap.size w3.heap.size k = 0 := fun k hk => by
   unfold Z3h
   repeat rw [if_neg (by omega)]
  refine ⟨b4, ?_, ?_, hp.kept (hq2.trans (hq3.trans q)) (fun x => x), m1.kept ((((Z0.refl (fun _ => False) _).alloc _).alloc _).alloc _) (fun x => x), m2.kept (((Z0.refl (fun _ => False) _).alloc _).alloc _) (fun x => x), m3.kept ((Z0.refl (fun _ => False) _).alloc _) (fun x => x), ?_, fun k hk => big k (by simpa using hk), ⟨fun _ _ => rfl, fun _ _ x => by cases x⟩, ⟨fun _ _ => rfl, fun _ _ x => by cases x⟩, ⟨fun _ _ => rfl, fun _ _ x => by cases x⟩, by show 0 < _; decide⟩
  ·exact (hl.lim.kept (hq3.trans q) (fun _ _ x => x)).mono (fun k hk _ => by show Z3h _ _ _ _ k = 2; unfold Z3h; rw [if_neg (by omega), if_pos (by omega)])
  ·exact (hb.lim.kept q (fun _ _ x => x)).mono (fun k hk => by show Z3h _ _ _ _ k = 3; unfold Z3h; rw [if_neg (by omega), if_neg (by omega), if_pos (by omega)])
  ·unfold Z3h
   refine ⟨?_, if_pos rfl, ?_, ?_, ?_⟩
   ·rw [if_neg (by omega), if_neg (by omega), if_neg (by omega), if_neg (by omega), if_neg (by omega), if_neg (by omega), if_pos rfl]
   ·rw [if_neg (by omega), if_neg (by omega), if_neg (by omega), if_pos rfl]
   ·rw [if_neg (by omega), if_neg (by omega), if_neg (by omega), if_neg (by omega), if_pos rfl]
   ·rw [if_neg (by omega), if_neg (by omega), if_neg (by omega), if_neg (by omega), if_neg (by omega), if_pos rfl]
theorem Zg0 (n : Nat) (hn : n <= 256) (w : World) :
  Calls Tryz.prog 7 #[.int .i64 (n : Int)] w (Z6t w n) := by
 have hmm := @run_makeMap Tryz.prog
 go_enter Tryz.func7, Tryz.ntmps7
 go_wp2_with fail
 refine (ZgS n hn w).mono ?_
 rintro e w1 ⟨rfl, hq1, hp⟩
 go_wp2_with fail
 refine (Zif w1).mono ?_
 rintro e w2 ⟨rfl, hq2, hl⟩
 go_wp2_with fail
 refine (Zh9 w2).mono ?_
 rintro e w3 ⟨rfl, hq3, hb⟩
 have HD := zh (@ZaB w w1 w2 w3 n hq1 hp hq2 hl hq3 hb)
 clear hq1 hp hq2 hl hq3 hb
 go_wp2
 go_ret2
 exact HD.out _ rfl
def Z0E (w : World) (sb : Nat) (o : Nat -> Nat) (s' : St) (w' : World) : Prop := ∃ o', (∀ k, k < w.heap.size -> o' k = o k) /\ Z0 (fun k => o k ≠ 0) w w' /\ Zm w' sb o' s'
def Z4g (s : St) (x v : Nat) : St := { s with L := (Z24 s.L x v).2, sn := upd s.sn x none }
def Z6u (w : World) (sb : Nat) (o : Nat -> Nat) (s : St) (x v : Nat) (e : Ending) (w' : World) : Prop :=
 e = .returned (.int .i64 ((Z24 s.L x v).1 : Int)) /\ Z0E w sb o (Z4g s x v) w'
theorem Z5Y {w w1 w2 : World} {sb lb bb pb mh mt ms x v : Nat} {o : Nat -> Nat} {s : St} {fh ft fs : Nat -> Option Value} (h : Zh w sb o s lb bb pb mh mt ms fh ft fs) (ho : Z0 (fun k => k = ms) w w1) (hm : Z09 w1 ms (upd fs x none))
  (ho2 : Z0 (fun k => o k = 2) w1 w2) (hl : Zy w2 (fun k => o k = 2) lb (Z24 s.L x v).2) : Z0E w sb o (Z4g s x v) w2 := by
 have h1 := h.delSnap ho hm
 have h2 := h1.setLog (L' := (Z24 s.L x v).2) ho2 (hl.mono (fun k hk _ => Or.inl hk))
 have s1 := ho.size
 obtain ⟨t1, t2, t3, t4, t5⟩ := h.tags
 refine ⟨_, fun k hk => Z0s (by omega), (ho.mono (T := fun k => o k ≠ 0) (fun k _ e => by rw [e, t5]; omega)).trans' ho2 (fun k _ e => by omega), _, _, _, _, _, _, _, _, _, h2⟩
theorem Zby {w : World} {sb x : Nat} {o : Nat -> Nat} {s : St} (h : Zm w sb o s) (hx : U64 x) :
  Calls Tryz.prog 13 #[ptrV sb, .int .u64 (x : Int)] w (Z6u w sb o s x 2) := by
 obtain ⟨lb, bb, pb, mh, mt, ms, fh, ft, fs, h⟩ := h
 obtain ⟨c0, c1, c2, c3, c4, c5, c6⟩ := h.cells
 obtain ⟨t1, t2, t3, t4, t5⟩ := h.tags
 have HH := zh h
 have HM := zh h.mS
 have HLOG : Hid (∀ W, Z0 (fun k => k = ms) w W -> Calls Tryz.prog 47 #[ptrV lb, .int .u64 (x : Int)] W (Z2z W (fun k => o k = 2) lb (Z24 s.L x 2))) := fun W hq => ZdZ (h.log.kept hq (fun k hk e => by rw [e, t5] at hk; omega)) hx
 have hsm : sb ≠ ms := fun e => by rw [e, t5] at t1; omega
 obtain ⟨w1, hrun, hm1, ho1⟩ := HM.out.delete Tryz.underlying76 Tryz.underlying34 0 hx
 have HM1 := zh hm1
 have HO1 : Hid (Z0 (fun k => k = ms) w w1) := ho1
 have d0 : w1.cell? ⟨sb, 0, none⟩ = some (ptrV lb) := HO1.out.cell c0 hsm
 have lsb := Ze d0
 dsimp only at lsb
 clear h t1 t2 t3 t4 t5 hx HM hm1 ho1 c1 c2 c3 c4 c6
 go_enter Tryz.func13, Tryz.ntmps13
 go_wp2_with fail
 refine (HLOG.out _ HO1.out).mono ?_
 rintro e w2 ⟨rfl, ho2, hl2⟩
 have HD := zh (Z5Y HH.out HO1.out HM1.out ho2 hl2)
 clear ho2 hl2 HLOG HO1 HM1 d0 lsb HH hrun c0 c5
 go_wp2
 go_ret
 exact ⟨rfl, HD.out⟩
theorem ZcD {w : World} {sb x : Nat} {o : Nat -> Nat} {s : St} (h : Zm w sb o s) (hx : U64 x) :
  Calls Tryz.prog 20 #[ptrV sb, .int .u64 (x : Int)] w (Z6u w sb o s x 3) := by
 obtain ⟨lb, bb, pb, mh, mt, ms, fh, ft, fs, h⟩ := h
 obtain ⟨c0, c1, c2, c3, c4, c5, c6⟩ := h.cells
 obtain ⟨t1, t2, t3, t4, t5⟩ := h.tags
 have HH := zh h
 have HM := zh h.mS
 have HLOG : Hid (∀ W, Z0 (fun k => k = ms) w W -> Calls Tryz.prog 53 #[ptrV lb, .int .u64 (x : Int)] W (Z2z W (fun k => o k = 2) lb (Z24 s.L x 3))) := fun W hq => Zfz (h.log.kept hq (fun k hk e => by rw [e, t5] at hk; omega)) hx
 have hsm : sb ≠ ms := fun e => by rw [e, t5] at t1; omega
 obtain ⟨w1, hrun, hm1, ho1⟩ := HM.out.delete Tryz.underlying76 Tryz.underlying34 0 hx
 have HM1 := zh hm1
 have HO1 : Hid (Z0 (fun k => k = ms) w w1) := ho1
 have d0 : w1.cell? ⟨sb, 0, none⟩ = some (ptrV lb) := HO1.out.cell c0 hsm
 have lsb := Ze d0
 dsimp only at lsb
 clear h t1 t2 t3 t4 t5 hx HM hm1 ho1 c1 c2 c3 c4 c6
 go_enter Tryz.func20, Tryz.ntmps20
 go_wp2_with fail
 refine (HLOG.out _ HO1.out).mono ?_
 rintro e w2 ⟨rfl, ho2, hl2⟩
 have HD := zh (Z5Y HH.out HO1.out HM1.out ho2 hl2)
 clear ho2 hl2 HLOG HO1 HM1 d0 lsb HH hrun c0 c5
 go_wp2
 go_ret
 exact ⟨rfl, HD.out⟩
theorem Zg1 (w : World) : (zeroValue 84).run Tryz.prog w = .ok (.agg #[.int .u64 0, .int .u64 0, .int .u64 0, .slice none 0 0]) w := by kernel_rfl
abbrev noSnap : Zo := ⟨0, 0, 0, []⟩
def Z2Y (w : World) (s : St) (o : Nat -> Nat) (x : Nat) (e : Ending) (w' : World) : Prop :=
 Quiet w w' /\ match s.sn x with
 | none => e = .returned (.tuple #[Zk noSnap none 0, .bool false])
 | some y => ∃ A c, e = .returned (.tuple #[Zk y A c, .bool true]) /\ Z0q w' (fun k => o k = 5) A c y
theorem Z4h {w : World} {sb x : Nat} {o : Nat -> Nat} {s : St} (h : Zm w sb o s) (hx : U64 x) :
  Calls Tryz.prog 30 #[ptrV sb, .int .u64 (x : Int)] w (Z2Y w s o x) := by
 obtain ⟨lb, bb, pb, mh, mt, ms, fh, ft, fs, h⟩ := h
 obtain ⟨_, _, _, _, _, c5, _⟩ := h.cells
 have lsb := Ze c5
 dsimp only at lsb
 have hq0 : Quiet w (w.alloc (.cells #[.int .u64 0, .int .u64 0, .int .u64 0, .slice none 0 0] 84)) := (Z0.refl _ _).alloc _
 have hlk := (h.mS.kept hq0 (fun x => x)).lookup Tryz.underlying76 Tryz.underlying34 true (Zg1 _) hx
 rcases hy : s.sn x with _ | y
 ·rw [h.snaps.1 x hy] at hlk
  simp only [if_true, Option.getD_none, Option.isSome_none] at hlk
  have HQ : Hid (Quiet w ((w.alloc (.cells #[.int .u64 0, .int .u64 0, .int .u64 0, .slice none 0 0] 84)).alloc (.cells #[.int .u64 0, .int .u64 0, .int .u64 0, .slice none 0 0] 84))) := hq0.alloc _
  have HX := zh (Zd (Z5 w (.cells #[.int .u64 0, .int .u64 0, .int .u64 0, .slice none 0 0] 84)) (.cells #[.int .u64 0, .int .u64 0, .int .u64 0, .slice none 0 0] 84))
  have HP : Hid (∀ W, Quiet w W -> Z2Y w s o x (.returned (.tuple #[Zk noSnap none 0, .bool false])) W) := fun W hq => ⟨hq, by rw [hy]⟩
  clear h hx hq0 hy
  go_enter Tryz.func30, Tryz.ntmps30
  go_wp2_with fail
  exact bodyPost_ret (ZC Tryz.results30 _ _ w.heap.size _ _ (0, 0) _ (by rfl) HX.out Tryz.underlying84 rfl Z3R) (by rfl) (HP.out _ HQ.out)
 ·obtain ⟨A, c, hfs, hs⟩ := h.snaps.2 x y hy
  rw [hfs] at hlk
  simp only [if_true, Option.getD_some, Option.isSome_some] at hlk
  have HQ : Hid (Quiet w ((w.alloc (.cells (snapCells y A c) 84)).alloc (.cells (snapCells y A c) 84))) := ((Z0.refl _ _).alloc _).alloc _
  have HX := zh (Zd (Z5 w (.cells (snapCells y A c) 84)) (.cells (snapCells y A c) 84))
  have HP : Hid (∀ W, Quiet w W -> Z2Y w s o x (.returned (.tuple #[Zk y A c, .bool true])) W) := fun W hq => ⟨hq, by rw [hy]; exact ⟨A, c, rfl, hs.kept hq (fun _ _ x => x)⟩⟩
  unfold Zk at HP hlk
  clear h hx hq0 hy hs hfs
  go_enter Tryz.func30, Tryz.ntmps30
  go_wp2_with fail
  exact bodyPost_ret (ZC Tryz.results30 _ _ w.heap.size _ _ (0, 0) _ (by rfl) HX.out Tryz.underlying84 rfl Z3R) (by rfl) (HP.out _ HQ.out)
def Z72 (s : St) : St := { s with L := s.L ++ [1], sn := upd s.sn (s.L.length + 1) (some (ZT (s.L ++ [1]) (s.L.length + 1))) }
def Z6v (w : World) (sb : Nat) (o : Nat -> Nat) (s : St) (e : Ending) (w' : World) : Prop :=
 e = .returned (.tuple #[.int .u64 ((s.L.length : Int) + 1), .int .i64 0]) /\ Z0E w sb o (Z72 s) w'
theorem ZaC {w w1 w3 w4 : World} {sb lb bb pb mh mt ms c : Nat} {o : Nat -> Nat} {s : St} {fh ft fs : Nat -> Option Value} {A : Option Addr} {L' : List Nat} {x : Nat} {y : Zo} (h : Zh w sb o s lb bb pb mh mt ms fh ft fs) (ho : Z0 (fun k => o k = 2) w w1) (hl : Zy w1 (fun k => o k = 2 ∨ w.heap.size <= k) lb L')
  (hq : Quiet w1 w3) (hs : Z0q w3 (fun k => w1.heap.size <= k /\ k < w3.heap.size) A c y) (ho4 : Z0 (fun k => k = ms) w3 w4) (hm : Z09 w4 ms (upd fs x (some (Zk y A c)))) : Z0E w sb o { s with L := L', sn := upd s.sn x (some y) } w4 := by
 have h1 := h.setLog ho hl
 have hbig := h1.big
 have h3 := h1.quietly hq
 have hms := h3.mS.lt
 have tm : grow o w.heap.size w1.heap.size 2 ms = 8 := h1.tags.2.2.2.2
 have hnm : ¬ w1.heap.size <= ms := fun x => by have := hbig ms x; omega
 have h4 := h3.putSnap (B := w1.heap.size) (id := x) (x := y) (A := A) (c := c) hbig hq.size ho4 hm ((hs.kept ho4 (fun k hk e => by omega)).mono (fun k hk => hk.1))
 have s1 := ho.size
 have s2 := hq.size
 have e8 : o ms = 8 := h.tags.2.2.2.2
 refine ⟨_, fun k hk => ?_, ((ho.mono (T := fun k => o k ≠ 0) (fun k _ e => by omega)).trans' hq (fun k _ e => e.elim)).trans' ho4 (fun k _ e => by rw [e, e8]; omega), _, _, _, _, _, _, _, _, _, h4⟩
 rw [Z0s (by omega), Z0s (by omega)]
theorem ZcE {w : World} {sb : Nat} {o : Nat -> Nat} {s : St} (h : Zm w sb o s) (hl : s.L.length < 1000000) :
  Calls Tryz.prog 9 #[ptrV sb] w (Z6v w sb o s) := by
 obtain ⟨lb, bb, pb, mh, mt, ms, fh, ft, fs, h⟩ := h
 obtain ⟨c0, _, _, _, _, c5, _⟩ := h.cells
 have lsb := Ze c0
 dsimp only at lsb
 obtain ⟨t1, t2, t3, t4, t5⟩ := h.tags
 have HB := zh (ZfA h.log (by omega))
 have HH := zh h
 obtain ⟨n, hn⟩ : ∃ n, s.L.length = n := ⟨_, rfl⟩
 have HP : Hid (Z6v w sb o s = fun e w' => e = .returned (.tuple #[.int .u64 ((n : Int) + 1), .int .i64 0]) /\ Z0E w sb o (Z72 s) w') := by rw [<- hn]; rfl
 have HN := zh hn
 have hsl : o sb ≠ 2 := by omega
 have hml : o ms ≠ 2 := by omega
 clear h t1 t2 t3 t4 t5 hn
 go_enter Tryz.func9, Tryz.ntmps9
 go_wp2_with fail
 refine HB.out.mono ?_
 rintro e w1 ⟨rfl, ho1, hl1⟩
 rw [HN.out]
 have HO1 := zh ho1
 have HL1 := zh hl1
 have d0 := ho1.cell c0 hsl
 have d5 := ho1.cell c5 hsl
 have lsb1 := Ze d0
 dsimp only at lsb1
 have HM := zh (HH.out.mS.kept ho1 hml)
 have HX : Hid (U64 (n + 1)) := by have := HN.out; unfold Hid U64; omega
 have HTK : Hid (∀ W, Quiet w1 W -> Calls Tryz.prog 29 #[ptrV lb, .int .u64 ((n + 1 : Nat) : Int)] W (Zbe W (ZT (s.L ++ [1]) (n + 1)))) := fun W hq => ZfG (hl1.kept hq (fun _ _ x => x)) (by rw [List.length_append]; simp; omega) HX.out
 clear ho1 hl1 c0 c5 lsb HB
 have en : ((n : Int) + 1) = ((n + 1 : Nat) : Int) := by omega
 rw [en] at *
 have c0 := d0
 have c5 := d5
 clear d0 d5
 go_wp2_with fail
 refine Z0V (S := fun w' => w'.cell? ⟨sb, 5, none⟩ = some (.map (some ms)) /\ w'.cell? ⟨sb, 0, none⟩ = some (ptrV lb) /\ Quiet w1 w') (by kernel_rfl) (by kernel_rfl) (by simp) (⟨c5, c0, (Z0.refl _ _).drew⟩) (fun Z3 => ?_)
 simp only [List.pop_toArray, List.dropLast, List.size_toArray, List.length_cons, List.length_nil, Nat.reduceAdd, Nat.reduceSub]
 refine zT 0 ?_
 refine zT 1 ?_
 refine zT 2 ?_
 refine zT 3 ?_
 refine zT 4 ?_
 refine zT 5 ?_
 refine zT 6 ?_
 refine zT 7 ?_
 refine zT 8 ?_
 refine zT 9 ?_
 refine wpAnyH_ready (rs := [10]) (by kernel_rfl) (by simp) ?_
 refine zA ?_ ?_
 ·intro K hK
  go_simp
  go_at_call 29
  refine (HTK.out _ Z3.2.2).mono ?_
  rintro e w3 ⟨A, c, rfl, hq3, hs3⟩
  dsimp only
  refine hK.out _ _ ?_ (fun Z3 => ?_)
  ·exact ⟨hq3.cell Z3.1 (fun x => x), hq3.cell Z3.2.1 (fun x => x), Z3.2.2.trans hq3⟩
  clear hK K
  (try simp only [Act.put, zPA, zPZ, zPS])
  refine zD ?_
  refine Z29 (o := ?_) ?_ ?_
  rotate_left 1
  (focus (simp only [zGA, zGZ, zGS] <;> rfl))
  intro K hK
  refine Zbx (.tmp 22) (.tmp 23) (.tmp 29) rfl (HM.out.kept Z3.2.2 (fun x => x)) Tryz.underlying76 Tryz.underlying34 rfl rfl rfl HX.out ?_
  intro w4 hm4 ho4
  refine hK.out _ _ ?_
  clear hK K
  have hm5 : Z09 w4 ms (upd fs (n + 1) (some (Zk (ZT (s.L ++ [1]) (n + 1)) A c))) := hm4
  have HD : Hid (Z0E w sb o (Z72 s) w4) := by
   have := ZaC HH.out HO1.out HL1.out Z3.2.2 hs3 ho4 hm5
   unfold Z72
   rw [HN.out]
   exact this
  clear hm4 hm5 ho4 Z3 hs3 hq3 HH HO1 HL1 HM HTK
  dsimp only [Act.put]
  go_wp2
  go_ret2
  rw [HP.out]
  exact ⟨rfl, HD.out⟩
 exact AllReadyH.nil
def Zbz (w : World) (o : Nat -> Nat) (y : Zo) (t : TE) (e : Ending) (w' : World) : Prop :=
 ∃ A c A2 c2, e = .returned (.tuple #[Zk y A c, Z06 t A2 c2, .int .i64 0]) /\ Quiet w w' /\ Z0q w' (fun k => o k = 5) A c y /\ Z2G w w' (.slice A2 t.cols.length c2) t.cols /\ t.cols.length <= c2 /\ c2 <= maxLen
abbrev openEnd (W : World) (r6 r7 : Nat) (v0 v1 v2 v3 u0 u1 u2 u3 u4 : Value) : World := fiveSet (fourSet W r6 v0 v1 v2 v3) r7 u0 u1 u2 u3 u4
theorem Z5Z {W : World} {r6 r7 : Nat} {a0 a1 a2 a3 d0 d1 d2 d3 d4 : Value} {t6 t7 : TypeId} (b6 : W.heap[r6]? = some (.cells #[a0, a1, a2, a3] t6 (0, 0))) (b7 : W.heap[r7]? = some (.cells #[d0, d1, d2, d3, d4] t7 (0, 0))) (hne : r6 ≠ r7) (v0 v1 v2 v3 u0 u1 u2 u3 u4 : Value) :
  (openEnd W r6 r7 v0 v1 v2 v3 u0 u1 u2 u3 u4).heap[r6]? = some (.cells #[v0, v1, v2, v3] t6 (0, 0)) /\ (openEnd W r6 r7 v0 v1 v2 v3 u0 u1 u2 u3 u4).heap[r7]? = some (.cells #[u0, u1, u2, u3, u4] t7 (0, 0)) /\ Z0 (fun k => k = r6 ∨ k = r7) W (openEnd W r6 r7 v0 v1 v2 v3 u0 u1 u2 u3 u4) := by
 unfold openEnd
 have h1 := Z0g b6 v0 v1 v2 v3
 have o1 := Z02 W r6 v0 v1 v2 v3
 have h2 := o1.get b7 (fun e => hne e.symm)
 generalize fourSet W r6 v0 v1 v2 v3 = W1 at *
 have h3 := Z25 h2 u0 u1 u2 u3 u4
 have o2 := Z1m W1 r7 u0 u1 u2 u3 u4
 have h4 := o2.get h1 hne
 exact ⟨h4, h3, (o1.mono (fun k _ e => Or.inl e)).trans' o2 (fun k _ e => Or.inr e)⟩
theorem Za5 {w W F : World} {r6 r7 c A5c : Nat} {o : Nat -> Nat} {y : Zo} {t : TE} {A A5 : Option Addr} (hr6 : w.heap.size = r6) (hr7 : r6 + 1 = r7) (hq : Quiet w W) (ho : Z0 (fun k => k = r6 ∨ k = r7) W F) (hs : Z0q W (fun k => o k = 5) A c y) (hbig : ∀ k, w.heap.size <= k -> o k = 0)
  (hfr : W.ownsRow 0 39 2 (.slice A5 t.cols.length A5c) t.cols.length (ZP t.cols)) (hfn : ∀ k, (Value.slice A5 t.cols.length A5c).ownBlock = some k -> r7 < k) (hc5 : t.cols.length <= A5c) (hm5 : A5c <= maxLen) :
  Zbz w o y t (.returned (.tuple #[Zk y A c, Z06 t A5 A5c, .int .i64 0])) F.drew := by
 have hqF : Quiet w F.drew := (hq.trans' ho (fun k hk e => by rcases e with e | e <;> omega)).drew
 refine ⟨A, c, A5, A5c, rfl, hqF, (hs.kept ho (fun k hk e => ?_)).kept ((Z0.refl (fun _ => False) F).drew) (fun _ _ x => x), ⟨hqF, fun k e => by have := hfn k e; omega, Z4 (Z4 hfr ho (fun k e1 e2 => ?_)) ((Z0.refl (fun _ => False) F).drew) (fun _ _ x => x)⟩, hc5, hm5⟩
 ·have := hbig k (by rcases e with e | e <;> omega)
  omega
 ·have := hfn k e1
  rcases e2 with e | e <;> omega
theorem Z4X {P : Program} {fn : Func} {p q r : Tmp} {ty ty2 : TypeId} (h : fn.results = #[.cell p ty, .cell q ty2, .tmp r]) (tmps : Array Value) (w : World) (g g2 : Nat) (t t2 : TypeId) (cs cs2 : Array Value) (fr fr2 : Nat × Nat) (d d2 : TypeDesc)
  (hp : tmps.getD p undef = .pointer (some ⟨g, 0, none⟩)) (hg : w.heap[g]? = some (.cells cs t fr)) (hp2 : tmps.getD q undef = .pointer (some ⟨g2, 0, none⟩)) (hg2 : w.heap[g2]? = some (.cells cs2 t2 fr2))
  (hu : P.underlying ty = some d) (hd : (match d with | .struct _ | .array _ _ => true | _ => false) = true) (hi : (P.info? ty).map (·.size) = some cs.size)
  (hu2 : P.underlying ty2 = some d2) (hd2 : (match d2 with | .struct _ | .array _ _ => true | _ => false) = true) (hi2 : (P.info? ty2).map (·.size) = some cs2.size) :
  (results fn tmps).run P w = .ok (.tuple #[.agg cs, .agg cs2, tmps.getD r undef]) w := by
 have hp' : tmps[p]?.getD undef = .pointer (some ⟨g, 0, none⟩) := by simpa using hp
 have hp2' : tmps[q]?.getD undef = .pointer (some ⟨g2, 0, none⟩) := by simpa using hp2
 simp [results, h, hp', hp2', asAddr, run_loadVar_row w g t ty cs fr d hg hu hd hi, run_loadVar_row w g2 t2 ty2 cs2 fr2 d2 hg2 hu2 hd2 hi2]
theorem Z4Y {w : World} {b : Nat} {x : Option Obj} (h : w.heap[b]? = x) : w.drew.heap[b]? = x := h
theorem Z5J {w : World} {sb x i : Nat} {o : Nat -> Nat} {s : St} {y : Zo} {t : TE} {name : ByteArray} (h : Zm w sb o s) (hx : U64 x) (hy : s.sn x = some y) (hf : Z0w s.L y name s.T = some i) (ht : s.T[i]? = some t) :
  Calls Tryz.prog 42 #[ptrV sb, .int .u64 (x : Int), .string name] w (Zbz w o y t) := by
 have hq0 : Quiet w ((w.alloc (.cells #[.int .u64 0, .int .u64 0, .int .u64 0, .slice none 0 0] 84)).alloc (.cells #[.int .u64 0, .string ⟨#[]⟩, .slice none 0 0, .int .u64 0, .int .u64 0] 98)) := ((Z0.refl _ _).alloc _).alloc _
 have HRU := zh (Z4h (h.quietly hq0) hx)
 have HQ0 := zh hq0
 have HR := zh (Z0r w (.cells #[.int .u64 0, .int .u64 0, .int .u64 0, .slice none 0 0] 84) (.cells #[.int .u64 0, .string ⟨#[]⟩, .slice none 0 0, .int .u64 0, .int .u64 0] 98))
 have HN := zh (Zd (Z5 w (.cells #[.int .u64 0, .int .u64 0, .int .u64 0, .slice none 0 0] 84)) (.cells #[.int .u64 0, .string ⟨#[]⟩, .slice none 0 0, .int .u64 0, .int .u64 0] 98))
 obtain ⟨lb, bb, pb, mh, mt, ms, fh, ft, fs, h⟩ := h
 have HH := zh h
 unfold Z2Y at HRU
 rw [hy] at HRU
 obtain ⟨r6, hr6⟩ : ∃ r6, w.heap.size = r6 := ⟨_, rfl⟩
 obtain ⟨r7, hr7⟩ : ∃ r7, r6 + 1 = r7 := ⟨_, rfl⟩
 rw [hr6] at HN HR
 rw [hr7] at HR
 clear hq0 h
 go_enter Tryz.func42, Tryz.ntmps42
 go_wp2_with fail
 refine HRU.out.mono ?_
 rintro e w1 ⟨hq1, A, c, rfl, hs1⟩
 clear HRU
 have hq01 : Quiet w w1 := HQ0.out.trans hq1
 have b6 := hq1.get HN.out (fun x => x)
 have b7 := hq1.get HR.out (fun x => x)
 have hq2 : Quiet w1 (w1.alloc (.cells (snapCells y A c) 84)) := (Z0.refl _ _).alloc _
 have hpb := Z5 w1 (.cells (snapCells y A c) 84)
 have l7 := Z2 b7
 obtain ⟨pv, hpv⟩ : ∃ pv, w1.heap.size = pv := ⟨_, rfl⟩
 have hz1 := hq01.size
 unfold Zk
 go_wp2_with fail
 rw [hpv] at hpb l7
 have hs2 := hs1.kept hq2 (fun _ _ x => x)
 have b6' := hq2.get b6 (fun x => x)
 have b7' := hq2.get b7 (fun x => x)
 have hq02 := hq01.trans hq2
 generalize w1.alloc (.cells (snapCells y A c) 84) = w2 at *
 obtain ⟨c0, c1, _⟩ := (HH.out.quietly hq02).cells
 obtain ⟨p0, p1, p2, p3⟩ : w2.cell? ⟨pv, 0, none⟩ = some (.int .u64 (y.own : Int)) /\ w2.cell? ⟨pv, 1, none⟩ = some (.int .u64 (y.xmin : Int)) /\ w2.cell? ⟨pv, 2, none⟩ = some (.int .u64 (y.xmax : Int)) /\ w2.cell? ⟨pv, 3, none⟩ = some (.slice A y.run.length c) :=
  ⟨by rw [Z1 hpb]; rfl, by rw [Z1 hpb]; rfl, by rw [Z1 hpb]; rfl, by rw [Z1 hpb]; rfl⟩
 have HTB : Hid (∀ W, Quiet w2 W -> Calls Tryz.prog 86 #[ptrV bb, ptrV lb, Zk y A c, .string name] W (Z9T W t)) := fun W hq => by
  have h2 := (HH.out.quietly hq02).quietly hq
  obtain ⟨vT, tps, vI, ips, hb1, _, _⟩ := h2.book
  exact Ze7 name hb1 h2.log (hs2.kept hq (fun _ _ x => x)) hf ht
 have HSQ : Hid (∀ W, Quiet w2 W -> (fun w' => w'.cell? ⟨sb, 1, none⟩ = some (ptrV bb) /\ w'.cell? ⟨sb, 0, none⟩ = some (ptrV lb) /\ w'.cell? ⟨pv, 0, none⟩ = some (.int .u64 (y.own : Int)) /\ w'.cell? ⟨pv, 1, none⟩ = some (.int .u64 (y.xmin : Int)) /\ w'.cell? ⟨pv, 2, none⟩ = some (.int .u64 (y.xmax : Int)) /\ w'.cell? ⟨pv, 3, none⟩ = some (.slice A y.run.length c)) W) := fun W hq => ⟨hq.cell c1 (fun x => x), hq.cell c0 (fun x => x), hq.cell p0 (fun x => x), hq.cell p1 (fun x => x), hq.cell p2 (fun x => x), hq.cell p3 (fun x => x)⟩
 have lsb := Ze c0
 have lpv := Ze p0
 dsimp only at lsb lpv
 have HB6 := zh b6'
 have HB7 := zh b7'
 have HPV := zh hpb
 have HQ2 := zh hq02
 have HS2 := zh hs2
 unfold Zk at HTB
 clear hq1 hs1 b6 b7 hq2 hpb hq01 hs2 b6' b7' hq02 HN HR c0 c1 p0 p1 p2 p3
 refine zH HSQ ((Z0.refl _ _).drew) (fun Z3 => ?_)
 refine zT 0 ?_
 refine zT 1 ?_
 refine zT 2 ?_
 refine zT 3 ?_
 refine zT 4 ?_
 refine zT 5 ?_
 refine zT 6 ?_
 refine zT 7 ?_
 refine zT 8 ?_
 refine zT 9 ?_
 refine wpAnyH_ready (rs := [10, 14]) (by kernel_rfl) (by simp) ?_
 refine zA ?_ ?_
 ·intro K hK
  go_simp
  go_at_call 86
  refine (HTB.out _ ((Z0.refl (fun _ => False) w2).drew)).mono ?_
  rintro e w4 ⟨A5, c5, rfl, hf5, hc5, hm5⟩
  have hq4 : Quiet w2 w4 := ((Z0.refl (fun _ => False) w2).drew).trans hf5.quiet
  unfold Z06
  dsimp only
  refine hK.out _ _ ?_ (fun Z3 => ?_)
  ·exact HSQ.out _ hq4
  clear hK K
  (try simp only [Act.put, zPA, zPZ, zPS])
  refine zT 11 ?_
  refine zT 12 ?_
  refine zT 13 ?_
  refine zR 14 ?_
  intro K hK
  go_simp
  refine hK.out _ _ ?_ (fun Z3 => ?_)
  ·exact HSQ.out _ (hq4.alloc _)
  clear hK K
  (try simp only [Act.put, zPA, zPZ, zPS])
  refine zR 15 ?_
  intro K hK
  go_simp
  refine hK.out _ _ ?_ (fun Z3 => ?_)
  ·exact HSQ.out _ ((hq4.alloc _))
  clear hK K
  (try simp only [Act.put, zPA, zPZ, zPS])
  refine zT 16 ?_
  refine zD ?_
  have hW : Quiet w2 (w4.alloc (.cells #[.int .u64 (t.id : Int), .string t.name, .slice A5 t.cols.length c5, .int .u64 (t.xmin : Int), .int .u64 (t.xmax : Int)] 98)) := hq4.alloc _
  have hbt := Z5 w4 (.cells #[.int .u64 (t.id : Int), .string t.name, .slice A5 t.cols.length c5, .int .u64 (t.xmin : Int), .int .u64 (t.xmax : Int)] 98)
  have hfn : ∀ k, (Value.slice A5 t.cols.length c5).ownBlock = some k -> w2.heap.size <= k := hf5.new
  have hown := Z4 hf5.own ((Z0.refl (fun _ => False) w4).alloc (.cells #[.int .u64 (t.id : Int), .string t.name, .slice A5 t.cols.length c5, .int .u64 (t.xmin : Int), .int .u64 (t.xmax : Int)] 98)) (fun _ _ x => x)
  have hpt : w2.heap.size <= w4.heap.size := hq4.size
  obtain ⟨pt, hpt2⟩ : ∃ pt, w4.heap.size = pt := ⟨_, rfl⟩
  rw [hpt2] at hbt hpt ⊢
  clear hf5
  generalize w4.alloc (.cells #[.int .u64 (t.id : Int), .string t.name, .slice A5 t.cols.length c5, .int .u64 (t.xmin : Int), .int .u64 (t.xmax : Int)] 98) = W at *
  have b6 := hW.get HB6.out (fun x => x)
  have b7 := hW.get HB7.out (fun x => x)
  have bp := hW.get HPV.out (fun x => x)
  obtain ⟨x0, x1, x2, x3⟩ := zC4 b6
  obtain ⟨y0, y1, y2, y3, y4⟩ := zC5 b7
  obtain ⟨u0, u1, u2, u3⟩ := zC4 bp
  obtain ⟨z0, z1, z2, z3, z4⟩ := zC5 hbt
  have fx := fun o => Z7 b6 o
  have fy := fun o => Z7 b7 o
  have hne : r6 ≠ r7 := by omega
  have hn6 : r6 ≠ pt := by omega
  have hn7 : r7 ≠ pt := by omega
  have hn8 : r6 ≠ pv := by omega
  have hn9 : r7 ≠ pv := by omega
  obtain ⟨X6, X7, hO⟩ := Z5Z b6 b7 hne (.int .u64 (y.own : Int)) (.int .u64 (y.xmin : Int)) (.int .u64 (y.xmax : Int)) (.slice A y.run.length c) (.int .u64 (t.id : Int)) (.string t.name) (.slice A5 t.cols.length c5) (.int .u64 (t.xmin : Int)) (.int .u64 (t.xmax : Int))
  have HOUT := zh (Za5 hr6 hr7 (HQ2.out.trans hW) hO (HS2.out.kept hW (fun _ _ x => x)) HH.out.big hown (fun k e => by have := hfn k e; omega) hc5 hm5)
  have HX6 : Hid ((openEnd W r6 r7 (.int .u64 (y.own : Int)) (.int .u64 (y.xmin : Int)) (.int .u64 (y.xmax : Int)) (.slice A y.run.length c) (.int .u64 (t.id : Int)) (.string t.name) (.slice A5 t.cols.length c5) (.int .u64 (t.xmin : Int)) (.int .u64 (t.xmax : Int))).drew.heap[r6]? = some (.cells (snapCells y A c) 84 (0, 0))) := Z4Y X6
  have HX7 : Hid ((openEnd W r6 r7 (.int .u64 (y.own : Int)) (.int .u64 (y.xmin : Int)) (.int .u64 (y.xmax : Int)) (.slice A y.run.length c) (.int .u64 (t.id : Int)) (.string t.name) (.slice A5 t.cols.length c5) (.int .u64 (t.xmin : Int)) (.int .u64 (t.xmax : Int))).drew.heap[r7]? = some (.cells #[.int .u64 (t.id : Int), .string t.name, .slice A5 t.cols.length c5, .int .u64 (t.xmin : Int), .int .u64 (t.xmax : Int)] 98 (0, 0))) := Z4Y X7
  unfold openEnd fiveSet fourSet at HX6 HX7 HOUT
  clear X6 X7 hO b6 b7 bp hbt hown hW HB6 HB7 HPV HQ2 HS2 HSQ HTB Z3 hr6 hr7 HH
  go_wp2_with fail
  go_region
  go_wp2
  generalize (((((((((W.setCell ⟨r6, 0, none⟩ (.int .u64 (y.own : Int))).setCell ⟨r6, 1, none⟩ (.int .u64 (y.xmin : Int))).setCell ⟨r6, 2, none⟩ (.int .u64 (y.xmax : Int))).setCell ⟨r6, 3, none⟩ (.slice A y.run.length c)).setCell ⟨r7, 0, none⟩ (.int .u64 (t.id : Int))).setCell ⟨r7, 1, none⟩ (.string t.name)).setCell ⟨r7, 2, none⟩ (.slice A5 t.cols.length c5)).setCell ⟨r7, 3, none⟩ (.int .u64 (t.xmin : Int))).setCell ⟨r7, 4, none⟩ (.int .u64 (t.xmax : Int))).drew = WF at HX6 HX7 HOUT ⊢
  exact bodyPost_ret (Z4X Tryz.results42 _ _ r6 r7 _ _ _ _ (0, 0) (0, 0) _ _ (by rfl) HX6.out (by rfl) HX7.out Tryz.underlying84 rfl Z3R Tryz.underlying98 rfl Z4B) (by rfl) HOUT.out
 refine zA ?_ ?_
 ·intro K hK
  go_simp
  refine hK.out _ _ ?_ (fun Z3 => ?_)
  ·exact HSQ.out _ ((Z0.refl (fun _ => False) w2).drew.alloc _)
  clear hK K
  (try simp only [Act.put, zPA, zPZ, zPS])
  refine zR 10 ?_
  intro K hK
  go_simp
  go_at_call 86
  refine (HTB.out _ ((Z0.refl (fun _ => False) w2).drew.alloc _)).mono ?_
  rintro e w4 ⟨A5, c5, rfl, hf5, hc5, hm5⟩
  have hq4 : Quiet w2 w4 := ((Z0.refl (fun _ => False) w2).drew.alloc _).trans hf5.quiet
  have hb4 : w4.heap[w2.heap.size]? = some (.cells #[.int .u64 0, .string ⟨#[]⟩, .slice none 0 0, .int .u64 0, .int .u64 0] 98 (0, 0)) := hf5.quiet.get (Z5 w2.drew (.cells #[.int .u64 0, .string ⟨#[]⟩, .slice none 0 0, .int .u64 0, .int .u64 0] 98)) (fun x => x)
  obtain ⟨z0, z1, z2, z3, z4⟩ := zC5 hb4
  have zf := fun o => Z7 hb4 o
  unfold Z06
  dsimp only
  refine hK.out _ _ ?_ (fun Z3 => ?_)
  ·exact HSQ.out _ hq4
  clear hK K
  (try simp only [Act.put, zPA, zPZ, zPS])
  refine zT 11 ?_
  refine zT 12 ?_
  refine zT 13 ?_
  refine zR 15 ?_
  intro K hK
  go_simp
  refine hK.out _ _ ?_ (fun Z3 => ?_)
  ·exact HSQ.out _ (hq4.trans' (Z1m w4 w2.heap.size (.int .u64 (t.id : Int)) (.string t.name) (.slice A5 t.cols.length c5) (.int .u64 (t.xmin : Int)) (.int .u64 (t.xmax : Int))) (fun k hk e => by omega))
  clear hK K
  (try simp only [Act.put, zPA, zPZ, zPS])
  refine zT 16 ?_
  refine zD ?_
  have hO4 := Z1m w4 w2.heap.size (.int .u64 (t.id : Int)) (.string t.name) (.slice A5 t.cols.length c5) (.int .u64 (t.xmin : Int)) (.int .u64 (t.xmax : Int))
  have hW : Quiet w2 (fiveSet w4 w2.heap.size (.int .u64 (t.id : Int)) (.string t.name) (.slice A5 t.cols.length c5) (.int .u64 (t.xmin : Int)) (.int .u64 (t.xmax : Int))) := hq4.trans' hO4 (fun k hk e => by omega)
  have hbt := Z25 hb4 (.int .u64 (t.id : Int)) (.string t.name) (.slice A5 t.cols.length c5) (.int .u64 (t.xmin : Int)) (.int .u64 (t.xmax : Int))
  have hfn' : ∀ k, (Value.slice A5 t.cols.length c5).ownBlock = some k -> w2.heap.size < k := fun k e => by have := hf5.new k e; rw [World.size_alloc] at this; exact this
  have hfn : ∀ k, (Value.slice A5 t.cols.length c5).ownBlock = some k -> w2.heap.size <= k := fun k e => Nat.le_of_lt (hfn' k e)
  have hown := Z4 hf5.own hO4 (fun k e1 e2 => by have := hfn' k e1; omega)
  unfold fiveSet at hW hbt hown hO4
  clear hf5 hfn' hb4 hO4 z0 z1 z2 z3 z4 zf
  have hpt : w2.heap.size <= w2.heap.size := Nat.le_refl _
  obtain ⟨pt, hpt2⟩ : ∃ pt, w2.heap.size = pt := ⟨_, rfl⟩
  generalize ((((w4.setCell ⟨w2.heap.size, 0, none⟩ (.int .u64 (t.id : Int))).setCell ⟨w2.heap.size, 1, none⟩ (.string t.name)).setCell ⟨w2.heap.size, 2, none⟩ (.slice A5 t.cols.length c5)).setCell ⟨w2.heap.size, 3, none⟩ (.int .u64 (t.xmin : Int))).setCell ⟨w2.heap.size, 4, none⟩ (.int .u64 (t.xmax : Int)) = W at *
  rw [hpt2] at hbt ⊢
  have b6 := hW.get HB6.out (fun x => x)
  have b7 := hW.get HB7.out (fun x => x)
  have bp := hW.get HPV.out (fun x => x)
  obtain ⟨x0, x1, x2, x3⟩ := zC4 b6
  obtain ⟨y0, y1, y2, y3, y4⟩ := zC5 b7
  obtain ⟨u0, u1, u2, u3⟩ := zC4 bp
  obtain ⟨z0, z1, z2, z3, z4⟩ := zC5 hbt
  have fx := fun o => Z7 b6 o
  have fy := fun o => Z7 b7 o
  have hne : r6 ≠ r7 := by omega
  have hn6 : r6 ≠ pt := by omega
  have hn7 : r7 ≠ pt := by omega
  have hn8 : r6 ≠ pv := by omega
  have hn9 : r7 ≠ pv := by omega
  obtain ⟨X6, X7, hO⟩ := Z5Z b6 b7 hne (.int .u64 (y.own : Int)) (.int .u64 (y.xmin : Int)) (.int .u64 (y.xmax : Int)) (.slice A y.run.length c) (.int .u64 (t.id : Int)) (.string t.name) (.slice A5 t.cols.length c5) (.int .u64 (t.xmin : Int)) (.int .u64 (t.xmax : Int))
  have HOUT := zh (Za5 hr6 hr7 (HQ2.out.trans hW) hO (HS2.out.kept hW (fun _ _ x => x)) HH.out.big hown (fun k e => by have := hfn k e; omega) hc5 hm5)
  have HX6 : Hid ((openEnd W r6 r7 (.int .u64 (y.own : Int)) (.int .u64 (y.xmin : Int)) (.int .u64 (y.xmax : Int)) (.slice A y.run.length c) (.int .u64 (t.id : Int)) (.string t.name) (.slice A5 t.cols.length c5) (.int .u64 (t.xmin : Int)) (.int .u64 (t.xmax : Int))).drew.heap[r6]? = some (.cells (snapCells y A c) 84 (0, 0))) := Z4Y X6
  have HX7 : Hid ((openEnd W r6 r7 (.int .u64 (y.own : Int)) (.int .u64 (y.xmin : Int)) (.int .u64 (y.xmax : Int)) (.slice A y.run.length c) (.int .u64 (t.id : Int)) (.string t.name) (.slice A5 t.cols.length c5) (.int .u64 (t.xmin : Int)) (.int .u64 (t.xmax : Int))).drew.heap[r7]? = some (.cells #[.int .u64 (t.id : Int), .string t.name, .slice A5 t.cols.length c5, .int .u64 (t.xmin : Int), .int .u64 (t.xmax : Int)] 98 (0, 0))) := Z4Y X7
  unfold openEnd fiveSet fourSet at HX6 HX7 HOUT
  clear X6 X7 hO b6 b7 bp hbt hown hW HB6 HB7 HPV HQ2 HS2 HSQ HTB Z3 hr6 hr7 HH
  go_wp2_with fail
  go_region
  go_wp2
  generalize (((((((((W.setCell ⟨r6, 0, none⟩ (.int .u64 (y.own : Int))).setCell ⟨r6, 1, none⟩ (.int .u64 (y.xmin : Int))).setCell ⟨r6, 2, none⟩ (.int .u64 (y.xmax : Int))).setCell ⟨r6, 3, none⟩ (.slice A y.run.length c)).setCell ⟨r7, 0, none⟩ (.int .u64 (t.id : Int))).setCell ⟨r7, 1, none⟩ (.string t.name)).setCell ⟨r7, 2, none⟩ (.slice A5 t.cols.length c5)).setCell ⟨r7, 3, none⟩ (.int .u64 (t.xmin : Int))).setCell ⟨r7, 4, none⟩ (.int .u64 (t.xmax : Int))).drew = WF at HX6 HX7 HOUT ⊢
  exact bodyPost_ret (Z4X Tryz.results42 _ _ r6 r7 _ _ _ _ (0, 0) (0, 0) _ _ (by rfl) HX6.out (by rfl) HX7.out Tryz.underlying84 rfl Z3R Tryz.underlying98 rfl Z4B) (by rfl) HOUT.out
 exact AllReadyH.nil
theorem Zg2 : Z05 Tryz.prog 116 30 1 1 := Z05.mk' (.int .u8 0) Tryz.underlying116 (by kernel_rfl) rfl (by decide)
structure Zgx (w w' : World) (v : Value) (k : Nat) : Prop where
 quiet : Quiet w w'
 new : ∀ j, v.ownBlock = some j -> w.heap.size <= j
 own : w'.ownsRow 0 30 1 v 1 [.int .u8 (k : Int)]
def Z39 (w : World) (k : Nat) (e : Ending) (w' : World) : Prop := ∃ v, e = .returned v /\ Zgx w w' v k
theorem Z3J {w : World} {S : Nat -> Prop} {t : TE} {nm : ByteArray} {kd c : Nat} {A : Option Addr} (ht : t.cols = [(nm, kd)]) (hr : Rd w S 2 A 1 (ZP [(nm, kd)])) (hc : 1 <= c) (hm : c <= maxLen) :
  Calls Tryz.prog 44 #[Z06 t A c] w (Z39 w kd) := by
 obtain ⟨b, off, rfl, _, hcs⟩ := hr.at_ (k := 0) (by omega) (by omega)
 obtain ⟨u0, h0, c0⟩ := hcs 0 (by omega)
 obtain ⟨u1, h1, c1⟩ := hcs 1 (by omega)
 obtain rfl : Value.string nm = u0 := Option.some.inj h0
 obtain rfl : Value.int .u8 (kd : Int) = u1 := Option.some.inj h1
 simp only [Nat.zero_mul, Nat.add_zero, Nat.zero_add] at c0 c1
 have l0 := Ze c0
 dsimp only at l0
 unfold maxLen at hm
 unfold Z06
 rw [ht]
 show Calls Tryz.prog 44 #[.agg #[.int .u64 (t.id : Int), .string t.name, .slice (some ⟨b, off, none⟩) 1 c, .int .u64 (t.xmin : Int), .int .u64 (t.xmax : Int)]] w (Z39 w kd)
 have HRD : Hid (∀ W : World, Rd (W.alloc (.cells #[.int .u8 (kd : Int)] 30)) (fun _ => True) 1 (some ⟨W.heap.size, 0, none⟩) 1 [.int .u8 (kd : Int)]) := fun W => Rd.new W 1 1 [.int .u8 (kd : Int)] _ _ rfl trivial
 have HONE : Hid (∀ u ∈ [Value.int .u8 (kd : Int)], u.oneCell' = true) := fun u hu => by simp only [List.mem_singleton] at hu; subst hu; rfl
 have HQ : Hid (Quiet w ((w.alloc (.cells #[.int .u64 (t.id : Int), .string t.name, .slice (some ⟨b, off, none⟩) 1 c, .int .u64 (t.xmin : Int), .int .u64 (t.xmax : Int)] 98)).alloc (.cells #[.string nm, .int .u8 (kd : Int)] 39))) := ((Z0.refl _ _).alloc _).alloc _
 have HRD2 := zh (HRD.out ((w.alloc (.cells #[.int .u64 (t.id : Int), .string t.name, .slice (some ⟨b, off, none⟩) 1 c, .int .u64 (t.xmin : Int), .int .u64 (t.xmax : Int)] 98)).alloc (.cells #[.string nm, .int .u8 (kd : Int)] 39)))
 simp only [World.size_alloc] at HRD2
 clear hr hcs h0 h1 HRD ht
 go_enter Tryz.func44, Tryz.ntmps44
 go_wp2
 refine wp_loop_rounds 2 ?_
 rw [rounds_succ]
 go_wp2_with (at_builtin; refine app Zg2 rfl (.tmp 13) (.tmp 16) rfl rfl (World.ownsRow_nil _ _ _ _) rfl HRD2.out HONE.out (by unfold maxLen; omega) (by omega) ?_)
 intro v4 w4 hg4
 have HF : Hid (Zgx w w4 v4 kd) := by
  refine ⟨(HQ.out.alloc _).trans' hg4.only (fun k hk e => by cases e), fun k e => ?_, hg4.own⟩
  rcases hg4.loc with y | y
  ·rw [y] at e; cases e
  ·rw [y] at e; injection e with e; simp only [World.size_alloc] at e; omega
 clear hg4 HRD2 HONE HQ c0 c1 l0
 go_wp2
 rw [rounds_succ]
 go_wp2
 go_ret
 exact ⟨v4, rfl, HF.out⟩
def ZO (H : List (List (Option Tup))) : Nat -> List (Int × Int)
 | 0 => []
 | k + 1 => ZO H k ++ Zl (k : Int) (H.getD k []) (H.getD k []).length
theorem Z1x.join {w wr w4 : World} {v v' : Value} {l m : List (Int × Int)} (h : Z1x w wr v l) (hg : ZW wr w4 48 2 v v' (l.length + m.length) (ZM l ++ ZM m)) : Z1x w w4 v' (l ++ m) := by
 have hsz := h.quiet.size
 refine ⟨h.quiet.trans' hg.only (fun k hk e => by have := h.own k e; omega), ?_, fun k e => ?_⟩
 ·unfold TidsAt
  rw [List.length_append, Z4x]
  exact hg.own
 ·rcases hg.loc with x | x
  ·rw [x] at e; exact h.own k e
  ·rw [x] at e; injection e with e; omega
theorem Z8z (w : World) : (zeroValue 89).run Tryz.prog w = .ok (.pointer none) w := by kernel_rfl
theorem Z6w {w : World} {sb id : Nat} {o : Nat -> Nat} {s : St} {H : List (List (Option Tup))} (h : Zm w sb o s) (hid : U64 id) (hH : s.hs id = some H) (hN : ∀ k, k <= H.length -> (ZO H k).length <= 1000000) :
  Calls Tryz.prog 37 #[ptrV sb, .int .u64 (id : Int)] w (Z1b w (ZO H H.length)) := by
 obtain ⟨lb, bb, pb, mh, mt, ms, fh, ft, fs, h⟩ := h
 obtain ⟨_, _, _, c3, _⟩ := h.cells
 have lsb := Ze c3
 dsimp only at lsb
 obtain ⟨hb, hf, hp⟩ := h.heaps.2 id H hH
 have hlk := h.mH.lookup Tryz.underlying74 Tryz.underlying34 false (Z8z _) hid
 rw [hf] at hlk
 simp only [Bool.false_eq_true, if_false, Option.getD_some] at hlk
 have HP := zh hp
 have HPG := zh (Z8c hp)
 have HNN := zh hN
 have hm : H.length <= 1000000 := by have := hp.most; omega
 obtain ⟨n, hn⟩ : ∃ n, H.length = n := ⟨_, rfl⟩
 have HLN := zh hn
 rw [hn] at HPG hm
 clear h hp hf hN hn
 go_enter Tryz.func37, Tryz.ntmps37
 go_wp2_with fail
 refine HPG.out.mono ?_
 rintro e w1 ⟨rfl, rfl⟩
 rw [HLN.out]
 go_wp2_with fail
 go_loopw [16, 5, 7] (fun i v _ wr => ∃ (k : Nat) (v' : Value), k <= n /\ i = .int .i64 (k : Int) /\ v = v' /\ Z1x w wr v' (ZO H k)) (fun i _ _ _ => n - (intOf i).toNat)
 case atStart => exact ⟨0, _, Nat.zero_le _, rfl, rfl, Z1x.start (Z0.refl _ _)⟩
 case round =>
  obtain ⟨k, v', hk, rfl, rfl, hW⟩ := hrel
  have HW := zh hW
  by_cases hlt : k < n
  ·have hT : H[k]? = some (H.getD k []) := by rw [List.getD_eq_getElem?_getD, zg (by rw [HLN.out]; exact hlt)]; rfl
   have HPL := zh (Z8k k _ (HP.out.kept hW.quiet (fun _ _ x => x)) hT)
   have HS : Hid (ZO H (k + 1) = ZO H k ++ Zl (k : Int) (H.getD k []) (H.getD k []).length) := rfl
   have hl1 := HNN.out (k + 1) (by rw [HLN.out]; omega)
   rw [HS.out, List.length_append] at hl1
   generalize Zl (k : Int) (H.getD k []) (H.getD k []).length = m at HPL HS hl1
   clear hW hT
   go_wp2_with fail
   refine HPL.out.mono ?_
   rintro e w2 ⟨v2, rfl, hq2, hn2, ht2⟩
   obtain ⟨A2, c2, rfl, _, _, hrd⟩ := Z9 ht2
   have HW2 := zh (HW.out.quietly hq2)
   have HRD := zh hrd
   clear hq2 hn2 ht2 hrd HW HPL
   go_wp2_with (at_builtin; refine app Z4z rfl (.tmp 19) (.tmp 22) rfl rfl HW2.out.row rfl HRD.out (Z4y m) (by unfold maxLen; omega) (by omega) ?_)
   intro v4 w4 hg4
   have HST := zh (HW2.out.join hg4)
   rw [<- HS.out] at HST
   clear hg4 HW2 HRD HS
   go_wp2
   go_roundw
   case rel => exact ⟨k + 1, _, by omega, by go_num, rfl, HST.out⟩
   case measure => simp [intOf]; omega
  ·obtain rfl : k = n := by omega
   have HC : Hid (Z1b w (ZO H H.length) (.returned u5) wr) := ⟨u5, rfl, hW.quiet, hW.own, by rw [HLN.out]; exact hW.row⟩
   clear hW HW
   go_wp2
   go_ret
   exact HC.out
def Z5K (d : List Nat) : Nat := d.getD 1 0
theorem Za6 (n : Nat) : Z5K (rowI n) = n := by simp [Z5K, rowI, Z26, List.range_succ]
theorem Z0j (n : Nat) : (rowI n).length = 9 := by simp [rowI, Z44]
def Z3Z (H : List (List (Option Tup))) (L : List Nat) (y : Zo) (a : Int × Int) : Option RowR :=
 match ZR H a.1 a.2 with
 | some t => if Z1V L y t.xmin t.xmax then some (t.row, a.1, a.2, Z5K t.data) else none
 | none => none
def Z2p (H : List (List (Option Tup))) (L : List Nat) (y : Zo) (l : List (Int × Int)) : List RowR := l.filterMap (Z3Z H L y)
theorem Zel (H : List (List (Option Tup))) (L : List Nat) (y : Zo) (l : List (Int × Int)) (a : Int × Int) : Z2p H L y (l ++ [a]) = Z2p H L y l ++ (Z3Z H L y a).toList := by
 unfold Z2p
 rw [List.filterMap_append]
 cases h : Z3Z H L y a <;> simp [h]
structure Z5t (wb W : World) (pt : Nat) (A : Option Addr) (c : Nat) (t : Tup) : Prop where
 quiet : Quiet wb W
 box : W.heap[pt]? = some (.cells (tupCells t A c) 104 (0, 0))
 new : wb.heap.size <= pt
 own : W.ownsRow 0 5 1 (.slice A t.data.length c) t.data.length (Zg t.data)
 fresh : ∀ k, (Value.slice A t.data.length c).ownBlock = some k -> wb.heap.size <= k
theorem Z5t.cells {wb W : World} {pt : Nat} {A : Option Addr} {c : Nat} {t : Tup} (h : Z5t wb W pt A c t) : W.cell? ⟨pt, 0, none⟩ = some (.int .u64 t.row) /\ W.cell? ⟨pt, 1, none⟩ = some (.int .u64 t.xmin) /\ W.cell? ⟨pt, 2, none⟩ = some (.int .u64 t.xmax) /\ W.cell? ⟨pt, 3, none⟩ = some (.int .i64 t.pg) /\ W.cell? ⟨pt, 4, none⟩ = some (.int .i64 t.sl) /\ W.cell? ⟨pt, 5, none⟩ = some (.slice A t.data.length c) :=
 ⟨by rw [Z1 h.box]; rfl, by rw [Z1 h.box]; rfl, by rw [Z1 h.box]; rfl, by rw [Z1 h.box]; rfl, by rw [Z1 h.box]; rfl, by rw [Z1 h.box]; rfl⟩
theorem Z73 {goal : Prop} {wb : World} {t : Tup} {G : Option Addr -> Nat -> Nat -> World -> Prop} (main : (∀ A c pt W, Z5t wb W pt A c t -> G A c pt W) -> goal) (key : ∀ A c pt W, Z5t wb W pt A c t -> G A c pt W) : goal := main key
theorem Z0G {wb w1 : World} {pt c : Nat} {A : Option Addr} {t : Tup} {c0 c1 c2 c3 c4 c5 : Value} (hq : Quiet wb w1) (hb : w1.heap[pt]? = some (.cells #[c0, c1, c2, c3, c4, c5] 104 (0, 0))) (hn : wb.heap.size <= pt)
  (ho : w1.ownsRow 0 5 1 (.slice A t.data.length c) t.data.length (Zg t.data)) (hf : ∀ k, (Value.slice A t.data.length c).ownBlock = some k -> wb.heap.size <= k) :
  Z5t wb (sixSet w1 pt (.int .u64 t.row) (.int .u64 t.xmin) (.int .u64 t.xmax) (.int .i64 t.pg) (.int .i64 t.sl) (.slice A t.data.length c)) pt A c t := by
 have h1 := Z0A w1 pt (.int .u64 t.row) (.int .u64 t.xmin) (.int .u64 t.xmax) (.int .i64 t.pg) (.int .i64 t.sl) (.slice A t.data.length c)
 refine ⟨hq.trans' h1 (fun k hk e => by omega), Z0Z hb _ _ _ _ _ _, hn, Z4 ho h1 (fun k e x => ?_), hf⟩
 obtain ⟨cs, hcs⟩ := Zj ho e
 exact Za hcs hb (by decide) x
structure Z18 (w wr : World) (v : Value) (M : List Z0Y) : Prop where
 quiet : Quiet w wr
 new : ∀ k, v.ownBlock = some k -> w.heap.size <= k
 own : wr.ownsRow 0 50 4 v M.length (rowsV M)
 vals : ∀ m ∈ M, (∀ k, (Value.slice m.A 1 m.c).ownBlock = some k -> w.heap.size <= k) /\ wr.ownsRow 0 32 4 (.slice m.A 1 m.c) 1 (intRow m.n)
section
variable {w wr w' w3 w4 : World} {v v' : Value} {M : List Z0Y} {m : Z0Y}
theorem Z18.start (h : Quiet w wr) : Z18 w wr (.slice none 0 0) [] := ⟨h, (fun k e => by cases e), World.ownsRow_nil _ _ _ _, (fun m hm => by cases hm)⟩
theorem Z18.quietly (h : Z18 w wr v M) (hq : Quiet wr w') : Z18 w w' v M :=
 ⟨h.quiet.trans hq, h.new, Z4 h.own hq (fun _ _ x => x), fun m hm => ⟨(h.vals m hm).1, Z4 (h.vals m hm).2 hq (fun _ _ x => x)⟩⟩
theorem Z18.from (h : Z18 w wr v M) {w0 : World} (hq : Quiet w0 w) : Z18 w0 wr v M :=
 ⟨hq.trans h.quiet, fun k e => Nat.le_trans hq.size (h.new k e), h.own, fun m hm => ⟨fun k e => Nat.le_trans hq.size ((h.vals m hm).1 k e), (h.vals m hm).2⟩⟩
theorem Z18.valsOn (h : Z18 w wr v M) (ho : Z0 (fun k => v.ownBlock = some k) wr w') : ∀ m ∈ M, (∀ k, (Value.slice m.A 1 m.c).ownBlock = some k -> w.heap.size <= k) /\ w'.ownsRow 0 32 4 (.slice m.A 1 m.c) 1 (intRow m.n) := fun m hm =>
 ⟨(h.vals m hm).1, Z4 (h.vals m hm).2 ho (fun k e x => by
   obtain ⟨c1, h1⟩ := Zj (h.vals m hm).2 e
   obtain ⟨c2, h2⟩ := Zj h.own x
   exact Za h1 h2 (by decide) rfl)⟩
theorem Z18.push (h : Z18 w w3 v M) (hm : (∀ k, (Value.slice m.A 1 m.c).ownBlock = some k -> w.heap.size <= k) /\ w3.ownsRow 0 32 4 (.slice m.A 1 m.c) 1 (intRow m.n))
  (hg : ZW w3 w4 50 4 v v' (M.length + 1) (rowsV M ++ Z47 m)) : Z18 w w4 v' (M ++ [m]) := by
 have hsz := h.quiet.size
 refine ⟨h.quiet.trans' hg.only (fun k hk e => by have := h.new k e; omega), fun k e => ?_, ?_, fun x hx => ?_⟩
 ·rcases hg.loc with y | y
  ·rw [y] at e; exact h.new k e
  ·rw [y] at e; injection e with e; omega
 ·have := hg.own
  rw [List.length_append, ZbB]
  have e1 : rowsV [m] = Z47 m := by simp [rowsV]
  rw [e1]
  exact this
 ·rcases List.mem_append.1 hx with y | y
  ·exact h.valsOn hg.only x y
  ·simp at y
   subst y
   exact ⟨hm.1, Z4 hm.2 hg.only (fun k e z => by
     obtain ⟨c1, h1⟩ := Zj hm.2 e
     obtain ⟨c2, h2⟩ := Zj h.own z
     exact Za h1 h2 (by decide) rfl)⟩
theorem Z18.sorted {M' : List Z0Y} (h : Z18 w wr v M) (hp : M'.Perm M) (ho : Z0 (fun k => v.ownBlock = some k) wr w') (hw : w'.ownsRow 0 50 4 v M.length (rowsV M')) : Z18 w w' v M' := by
 have hsz := h.quiet.size
 refine ⟨h.quiet.trans' ho (fun k hk e => by have := h.new k e; omega), h.new, ?_, fun m hm => h.valsOn ho m (hp.mem_iff.1 hm)⟩
 rw [hp.length_eq]
 exact hw
end
def Z7K (w : World) (R : List RowR) (e : Ending) (w' : World) : Prop :=
 ∃ v M, e = .returned v /\ Z18 w w' v M /\ (M.map Z0Y.told).Perm R /\ M.Pairwise (fun a b => a.id <= b.id)
theorem Zhu : Z05 Tryz.prog 44 50 4 48 := Z05.mk' (.agg #[.int .u64 0, .int .i64 0, .int .i64 0, .slice none 0 0]) Tryz.underlying44 (by kernel_rfl) rfl (by decide)
end Go.Proofs.YtnidjfjkodingaaGreatDoor
namespace Go.Proofs.YtnidjfjkodingaaGreatDoor
open Go.RowKit Go.Lap Go.Sort Go.Shelf
theorem Z4o (x : Nat) (w : World) : Calls Tryz.prog 133 #[.int .u64 (x : Int)] w fun e w' => e = .returned (.bool false) /\ w = w' := by
 go_enter Tryz.func133, Tryz.ntmps133
 go_wp2
 go_ret
 exact ⟨by simp, rfl⟩
theorem ZcF (x y : Nat) (w : World) : Calls Tryz.prog 93 #[.int .u64 (x : Int), .int .u64 (y : Int)] w fun e w' => e = .returned (.int .i64 (if x < y then -1 else if y < x then 1 else 0)) /\ w = w' := by
 by_cases h1 : x < y
 ·rw [if_pos h1]
  go_enter Tryz.func93, Tryz.ntmps93
  go_wp2_with fail
  refine (Z4o _ _).mono ?_
  rintro e w1 ⟨rfl, rfl⟩
  go_wp2_with fail
  refine (Z4o _ _).mono ?_
  rintro e w1 ⟨rfl, rfl⟩
  go_wp2
  go_ret
  exact ⟨rfl, rfl⟩
 ·rw [if_neg h1]
  by_cases h2 : y < x
  ·rw [if_pos h2]
   go_enter Tryz.func93, Tryz.ntmps93
   go_wp2_with fail
   refine (Z4o _ _).mono ?_
   rintro e w1 ⟨rfl, rfl⟩
   go_wp2_with fail
   refine (Z4o _ _).mono ?_
   rintro e w1 ⟨rfl, rfl⟩
   go_wp2
   go_ret
   exact ⟨rfl, rfl⟩
  ·rw [if_neg h2]
   obtain rfl : x = y := by omega
   go_enter Tryz.func93, Tryz.ntmps93
   go_wp2_with fail
   refine (Z4o _ _).mono ?_
   rintro e w1 ⟨rfl, rfl⟩
   go_wp2_with fail
   refine (Z4o _ _).mono ?_
   rintro e w1 ⟨rfl, rfl⟩
   go_wp2
   go_ret
   exact ⟨rfl, rfl⟩
theorem Zip (x y : Z0Y) (W : World) : Calls Tryz.prog 92 #[.agg (Z47 x).toArray, .agg (Z47 y).toArray] W fun e w' => e = .returned (.int .i64 (Z7J x y)) /\ ∃ q os', w' = Go.Sort.grow (W.drewN q) os' := by
 show Calls Tryz.prog 92 #[.agg #[.int .u64 (x.id : Int), .int .i64 x.pg, .int .i64 x.sl, .slice x.A 1 x.c], .agg #[.int .u64 (y.id : Int), .int .i64 y.pg, .int .i64 y.sl, .slice y.A 1 y.c]] W fun e w' => e = .returned (.int .i64 (Z7J x y)) /\ ∃ q os', w' = Go.Sort.grow (W.drewN q) os'
 obtain ⟨z, hz⟩ : ∃ z, Z7J x y = z := ⟨_, rfl⟩
 rw [hz]
 have HC : Hid (z = if x.id < y.id then -1 else if y.id < x.id then 1 else 0) := hz.symm
 clear hz
 go_enter Tryz.func92, Tryz.ntmps92
 go_wp2_with fail
 refine (ZcF _ _ _).mono ?_
 rintro e w1 ⟨rfl, rfl⟩
 rw [<- HC.out]
 go_wp2
 go_ret
 exact ⟨rfl, 0, _, by rw [alloc_eq_grow, alloc_eq_grow, grow_grow]; rfl⟩
theorem Zg3 (v : Value) (l : List Z0Y) (w : World) (hown : w.ownsRow 0 50 4 v l.length (rowsV l)) (hl : l.length < 4611686018427387904) :
  Calls Tryz.prog 91 #[v, .func (.func 92) #[] #[]] w fun e w' => e = .returned (.tuple #[]) /\ ∃ l' : List Z0Y, l'.Perm l /\ l'.Pairwise (fun a b => a.id <= b.id) /\ w'.ownsRow 0 50 4 v l.length (rowsV l') /\ Z0 (fun k => v.ownBlock = some k) w w' := by
 have eg : ∀ args w, (callFunc 92 args).run Tryz.prog w = .ok (.enter 92 args) w := enters_of Tryz.func92 (by kernel_rfl) rfl
 have h := ZgZ Tryz.sortRows 4 Tryz.isAgg50 Tryz.sizeOf50 Z47 Zht ZbA Z7J ZiU 92 eg Zip 50 v l w hown hl
 change Calls Tryz.prog 91 _ _ _ at h
 refine h.mono ?_
 rintro e w' ⟨rfl, l', hp, hs, ho, hon⟩
 refine ⟨rfl, l', hp, hs.imp ?_, ho, hon⟩
 intro a b hab
 rw [ZaP] at hab
 have := of_decide_eq_false hab
 omega
end Go.Proofs.YtnidjfjkodingaaGreatDoor
namespace Go.Proofs.YtnidjfjkodingaaGreatDoor
open Go.RowKit Go.Lap
theorem Z3K {w : World} {S : Nat -> Prop} {A : Option Addr} {n i : Nat} {ps : List (Int × Int)} {p : Int × Int} (h : Rd w S 2 A n (ZM ps)) (hi : ps[i]? = some p) :
  ∃ b off, A = some ⟨b, off, none⟩ /\ S b /\ w.cell? ⟨b, off + i * 2, none⟩ = some (.int .i64 p.1) /\ w.cell? ⟨b, off + i * 2 + 1, none⟩ = some (.int .i64 p.2) := by
 obtain ⟨h1, h2⟩ := Z9P hi
 have hl := (zi.1 h1).1
 obtain ⟨b, off, e, hs, hc⟩ := h.cells (by omega)
 exact ⟨b, off, e, hs, hc _ _ h1, by have := hc _ _ h2; rw [<- Nat.add_assoc] at this; exact this⟩
theorem Z4J.from9 {W w9 w10 : World} {v : Value} {n : Nat} (hq : Quiet W w9) (hf : Z4J w9 w10 v n) : Z4J W w10 v n := ⟨hq.trans hf.quiet, fun k e => Nat.le_trans hq.size (hf.new k e), hf.own⟩
theorem Z1n {W : World} {mh hb id : Nat} {fh : Nat -> Option Value} (h : Z09 W mh fh) (hf : fh id = some (ptrV hb)) (hid : U64 id) : (Instr.lookup 74 (.map (some mh)) (.int .u64 (id : Int)) false).run Tryz.prog W = .ok (ptrV hb) W := by
 have := h.lookup Tryz.underlying74 Tryz.underlying34 false (Z8z _) hid
 rw [hf] at this
 simpa using this
theorem Z0h {w : World} {b c : Nat} {t : TE} {A : Option Addr} (h : w.heap[b]? = some (.cells #[.int .u64 (t.id : Int), .string t.name, .slice A t.cols.length c, .int .u64 (t.xmin : Int), .int .u64 (t.xmax : Int)] 98 (0, 0))) :
  w.cell? ⟨b, 0, none⟩ = some (.int .u64 (t.id : Int)) /\ w.cell? ⟨b, 1, none⟩ = some (.string t.name) /\ w.cell? ⟨b, 2, none⟩ = some (.slice A t.cols.length c) /\ w.cell? ⟨b, 3, none⟩ = some (.int .u64 (t.xmin : Int)) /\ w.cell? ⟨b, 4, none⟩ = some (.int .u64 (t.xmax : Int)) :=
 ⟨by rw [Z1 h]; rfl, by rw [Z1 h]; rfl, by rw [Z1 h]; rfl, by rw [Z1 h]; rfl, by rw [Z1 h]; rfl⟩
theorem Za7 {H : List (List (Option Tup))} {L : List Nat} {y : Zo} {l : List (Int × Int)} {k : Nat} {a : Int × Int} (h : l[k]? = some a) : Z2p H L y (l.take (k + 1)) = Z2p H L y (l.take k) ++ (Z3Z H L y a).toList := by
 rw [List.take_add_one, h]
 exact Zel H L y (l.take k) a
theorem Zem {w : World} {sb cy c2 c3 : Nat} {o : Nat -> Nat} {s : St} {y : Zo} {t : TE} {nm : ByteArray} {Sy Sc Sl : Nat -> Prop} {A A2 A3 : Option Addr} {H : List (List (Option Tup))} {l : List (Int × Int)} (h : Zm w sb o s) (hs : Z0q w Sy A cy y) (ht : t.cols = [(nm, 1)]) (hid : U64 t.id)
  (hr : Rd w Sc 2 A2 t.cols.length (ZP t.cols)) (hc2 : t.cols.length <= c2) (hm2 : c2 <= maxLen) (hH : s.hs t.id = some H) (hl : Rd w Sl 2 A3 l.length (ZM l)) (hlm : l.length <= 1000000)
  (hg : ∀ a ∈ l, ∃ v, ZR H a.1 a.2 = some v /\ U64 v.xmin /\ U64 v.xmax /\ (Z1V s.L y v.xmin v.xmax = true -> ∃ n, n < 256 /\ v.data = rowI n)) :
  Calls Tryz.prog 48 #[ptrV sb, Zk y A cy, Z06 t A2 c2, .slice A3 l.length c3] w (Z7K w (Z2p H s.L y l)) := by
 obtain ⟨lb, bb, pb, mh, mt, ms, fh, ft, fs, h⟩ := h
 obtain ⟨hb, hf, hp⟩ := h.heaps.2 t.id H hH
 have HH := zh h
 have HP := zh hp
 have HF := zh hf
 have HS := zh hs
 have HR := zh hr
 have HLD := zh hl
 have HG := zh hg
 have HID := zh hid
 have HC2 := zh (And.intro hc2 hm2)
 have HT := zh ht
 have HQ0 : Hid (Quiet w ((w.alloc (.cells (snapCells y A cy) 84)).alloc (.cells #[.int .u64 (t.id : Int), .string t.name, .slice A2 t.cols.length c2, .int .u64 (t.xmin : Int), .int .u64 (t.xmax : Int)] 98))) := ((Z0.refl _ _).alloc _).alloc _
 have HB5 := zh (Zd (Z5 w (.cells (snapCells y A cy) 84)) (.cells #[.int .u64 (t.id : Int), .string t.name, .slice A2 t.cols.length c2, .int .u64 (t.xmin : Int), .int .u64 (t.xmax : Int)] 98))
 have HB6 := zh (Z0r w (.cells (snapCells y A cy) 84) (.cells #[.int .u64 (t.id : Int), .string t.name, .slice A2 t.cols.length c2, .int .u64 (t.xmin : Int), .int .u64 (t.xmax : Int)] 98))
 have hsz : ((w.alloc (.cells (snapCells y A cy) 84)).alloc (.cells #[.int .u64 (t.id : Int), .string t.name, .slice A2 t.cols.length c2, .int .u64 (t.xmin : Int), .int .u64 (t.xmax : Int)] 98)).heap.size = w.heap.size + 1 + 1 := by simp
 obtain ⟨r5, hr5⟩ : ∃ r5, w.heap.size = r5 := ⟨_, rfl⟩
 obtain ⟨r6, hr6⟩ : ∃ r6, r5 + 1 = r6 := ⟨_, rfl⟩
 rw [hr5] at HB5 HB6 hsz
 rw [hr6] at HB6 hsz
 obtain ⟨n, hn⟩ : ∃ n, l.length = n := ⟨_, rfl⟩
 have HN := zh hn
 obtain ⟨Z8, Z6⟩ : ∃ Z8, Z7K w (Z2p H s.L y l) = Z8 := ⟨_, rfl⟩
 rw [Z6, hn]
 have Zb := zh Z6
 have hnm : n <= 1000000 := by omega
 clear h hs hr hl hg hp hf hH hc2 hm2 ht hid hlm hn Z6
 unfold Zk Z06
 go_enter Tryz.func48, Tryz.ntmps48
 go_wp2_with fail
 (try simp only [World.size_alloc] at *)
 (try rw [hr5]); (try rw [hr6])
 generalize (w.alloc (.cells #[.int .u64 (y.own : Int), .int .u64 (y.xmin : Int), .int .u64 (y.xmax : Int), .slice A y.run.length cy] 84)).alloc (.cells #[.int .u64 (t.id : Int), .string t.name, .slice A2 t.cols.length c2, .int .u64 (t.xmin : Int), .int .u64 (t.xmax : Int)] 98) = W0 at *
 go_loopw [18, 9, 11, 12, 13, 14, 15] (fun i v _ _ _ _ _ wr => ∃ (k : Nat) (v' : Value) (M : List Z0Y), k <= n /\ i = .int .i64 (k : Int) /\ v = v' /\ Z18 W0 wr v' M /\ M.map Z0Y.told = Z2p H s.L y (l.take k)) (fun i _ _ _ _ _ _ _ => n - (intOf i).toNat)
 case atStart => exact ⟨0, _, [], Nat.zero_le _, rfl, rfl, Z18.start (Z0.refl _ _), rfl⟩
 case round =>
  obtain ⟨k, v', M, hk, rfl, rfl, hW, hM⟩ := hrel
  have HW := zh hW
  have HM := zh hM
  clear hW hM
  by_cases hlt : k < n
  ·obtain ⟨⟨pg, sl⟩, ha⟩ : ∃ a, l[k]? = some a := ⟨_, zg (by have := HN.out; omega)⟩
   obtain ⟨v, hgv, hx1, hx2, hvis⟩ := HG.out (pg, sl) (List.mem_of_getElem? ha)
   have HQr : Hid (Quiet w wr) := HQ0.out.trans HW.out.quiet
   obtain ⟨bl, ofl, rfl, _, la, lb2⟩ := Z3K (HLD.out.kept HQr.out (fun _ _ x => x)) ha
   have HV1 := zh (And.intro hx1 hx2)
   have HVIS0 := zh hvis
   have HGV := zh hgv
   have HA := zh ha
   have hqb : Quiet wr (wr.alloc (.cells #[.int .i64 pg, .int .i64 sl] 48)) := (Z0.refl _ _).alloc _
   have hat := Z5 wr (.cells #[.int .i64 pg, .int .i64 sl] 48)
   obtain ⟨at_, hat_⟩ : ∃ at_, wr.heap.size = at_ := ⟨_, rfl⟩
   dsimp only at la lb2
   clear ha hgv hx1 hx2 hvis
   go_wp2_with fail
   (try rw [hat_] at hat)
   (try rw [hat_])
   generalize wr.alloc (.cells #[.int .i64 pg, .int .i64 sl] 48) = wb at *
   have HQb : Hid (Quiet w wb) := HQr.out.trans hqb
   have HWb := zh (HW.out.quietly hqb)
   have HAT := zh hat
   clear la lb2 hat hqb hat_
   have HS5 : Hid (∀ W, Quiet wb W -> (fun w' => w'.cell? ⟨sb, 3, none⟩ = some (.map (some mh)) /\ w'.cell? ⟨r6, 0, none⟩ = some (.int .u64 (t.id : Int)) /\ w'.cell? ⟨at_, 0, none⟩ = some (.int .i64 pg) /\ w'.cell? ⟨at_, 1, none⟩ = some (.int .i64 sl) /\ (Instr.lookup 74 (.map (some mh)) (.int .u64 (t.id : Int)) false).run Tryz.prog w' = .ok (ptrV hb) w') W) := fun W hq => by
    have hq2 := HQb.out.trans hq
    have h2 := HH.out.quietly hq2
    have b6 := hq.get (HWb.out.quiet.get HB6.out (fun x => x)) (fun x => x)
    have b7 := hq.get HAT.out (fun x => x)
    exact ⟨h2.cells.2.2.2.1, (Z0h b6).1, by rw [Z1 b7]; rfl, by rw [Z1 b7]; rfl, Z1n h2.mH HF.out HID.out⟩
   have HGET : Hid (∀ W, Quiet wb W -> Calls Tryz.prog 38 #[ptrV hb, .agg #[.int .i64 pg, .int .i64 sl]] W (Z21 W v)) := fun W hq => Z2J pg sl v (HP.out.kept (HQb.out.trans hq) (fun _ _ x => x)) HGV.out
   apply Z73 (wb := wb) (t := v)
   case main =>
         intro KEY
         refine zH HS5 (Z0.refl _ _).drew (fun Z3 => ?_)
         have q0 : Quiet wb wb.drew := (Z0.refl _ _).drew
         generalize wb.drew = d0 at q0 Z3 ⊢
         refine zT 0 ?_
         refine zT 1 ?_
         refine zT 2 ?_
         refine zT 3 ?_
         refine zT 4 ?_
         refine zT 5 ?_
         refine zT 6 ?_
         refine zT 7 ?_
         refine wpAnyH_ready (rs := [8, 12]) (by kernel_rfl) (by simp) ?_
         refine zA ?_ ?_
         · intro K hK
           go_simp
           go_at_call 38
           refine (HGET.out _ q0).mono ?_
           rintro e d2 ⟨A4, c4, rfl, hf4⟩
           have q2 := q0.trans hf4.quiet
           have hown := hf4.own
           have hfn : ∀ k, (Value.slice A4 v.data.length c4).ownBlock = some k -> wb.heap.size <= k := fun k e => Nat.le_trans (q0).size (hf4.new k e)
           clear hf4
           unfold Zt
           dsimp only
           refine hK.out _ _ ?_ (fun Z3 => ?_)
           · exact HS5.out _ q2
           clear hK K
           (try simp only [Act.put, zPA, zPZ, zPS])
           refine zT 9 ?_
           refine zT 10 ?_
           refine zT 11 ?_
           refine zR 12 ?_
           intro K hK
           go_simp
           refine hK.out _ _ ?_ (fun Z3 => ?_)
           · exact HS5.out _ (q2.alloc _)
           clear hK K
           (try simp only [Act.put, zPA, zPZ, zPS])
           have qd3 : Quiet wb (d2.alloc (.cells #[.int .u64 0, .int .u64 0, .int .u64 0, .int .i64 0, .int .i64 0, .slice none 0 0] 104)) := q2.alloc _
           have hb1 := Z5 d2 (.cells #[.int .u64 0, .int .u64 0, .int .u64 0, .int .i64 0, .int .i64 0, .slice none 0 0] 104)
           have hnp : wb.heap.size <= d2.heap.size := q2.size
           have hown := Z4 hown ((Z0.refl (fun _ => False) d2).alloc (.cells #[.int .u64 0, .int .u64 0, .int .u64 0, .int .i64 0, .int .i64 0, .slice none 0 0] 104)) (fun _ _ x => x)
           obtain ⟨pt, hpt⟩ : ∃ pt, d2.heap.size = pt := ⟨_, rfl⟩
           rw [hpt] at hb1 hnp ⊢
           generalize d2.alloc (.cells #[.int .u64 0, .int .u64 0, .int .u64 0, .int .i64 0, .int .i64 0, .slice none 0 0] 104) = d3 at *
           clear hpt
           obtain ⟨z0, z1, z2, z3, z4, z5⟩ := zC6 hb1
           have zf := fun o => Z7 hb1 o
           refine zR 13 ?_
           intro K hK
           go_simp
           refine hK.out _ _ ?_ (fun Z3 => ?_)
           · exact HS5.out _ (Z0G qd3 hb1 hnp hown hfn).quiet
           clear hK K
           (try simp only [Act.put, zPA, zPZ, zPS])
           have HG := Z0G qd3 hb1 hnp hown hfn
           unfold sixSet at HG
           refine zT 14 ?_
           refine zD ?_
           generalize ((((((d3.setCell ⟨pt, 0, none⟩ (.int .u64 v.row)).setCell ⟨pt, 1, none⟩ (.int .u64 v.xmin)).setCell ⟨pt, 2, none⟩ (.int .u64 v.xmax)).setCell ⟨pt, 3, none⟩ (.int .i64 v.pg)).setCell ⟨pt, 4, none⟩ (.int .i64 v.sl)).setCell ⟨pt, 5, none⟩ (.slice A4 v.data.length c4)) = WF at HG ⊢
           exact KEY _ _ _ _ HG
         refine zA ?_ AllReadyH.nil
         intro K hK
         go_simp
         refine hK.out _ _ ?_ (fun Z3 => ?_)
         · exact HS5.out _ (q0.alloc _)
         clear hK K
         (try simp only [Act.put, zPA, zPZ, zPS])
         have qd1 : Quiet wb (d0.alloc (.cells #[.int .u64 0, .int .u64 0, .int .u64 0, .int .i64 0, .int .i64 0, .slice none 0 0] 104)) := q0.alloc _
         have hb1 := Z5 d0 (.cells #[.int .u64 0, .int .u64 0, .int .u64 0, .int .i64 0, .int .i64 0, .slice none 0 0] 104)
         have hnp : wb.heap.size <= d0.heap.size := q0.size
         obtain ⟨pt, hpt⟩ : ∃ pt, d0.heap.size = pt := ⟨_, rfl⟩
         rw [hpt] at hb1 hnp ⊢
         generalize d0.alloc (.cells #[.int .u64 0, .int .u64 0, .int .u64 0, .int .i64 0, .int .i64 0, .slice none 0 0] 104) = d1 at *
         clear hpt
         refine zR 8 ?_
         intro K hK
         go_simp
         go_at_call 38
         refine (HGET.out _ qd1).mono ?_
         rintro e d2 ⟨A4, c4, rfl, hf4⟩
         have q2 := qd1.trans hf4.quiet
         have hb2 := hf4.quiet.get hb1 (fun x => x)
         have hown := hf4.own
         have hfn : ∀ k, (Value.slice A4 v.data.length c4).ownBlock = some k -> wb.heap.size <= k := fun k e => Nat.le_trans (qd1).size (hf4.new k e)
         clear hf4
         unfold Zt
         dsimp only
         refine hK.out _ _ ?_ (fun Z3 => ?_)
         · exact HS5.out _ q2
         clear hK K
         (try simp only [Act.put, zPA, zPZ, zPS])
         obtain ⟨z0, z1, z2, z3, z4, z5⟩ := zC6 hb2
         have zf := fun o => Z7 hb2 o
         refine zT 9 ?_
         refine zT 10 ?_
         refine zT 11 ?_
         refine zR 13 ?_
         intro K hK
         go_simp
         refine hK.out _ _ ?_ (fun Z3 => ?_)
         · exact HS5.out _ (Z0G q2 hb2 hnp hown hfn).quiet
         clear hK K
         (try simp only [Act.put, zPA, zPZ, zPS])
         have HG := Z0G q2 hb2 hnp hown hfn
         unfold sixSet at HG
         refine zT 14 ?_
         refine zD ?_
         generalize ((((((d2.setCell ⟨pt, 0, none⟩ (.int .u64 v.row)).setCell ⟨pt, 1, none⟩ (.int .u64 v.xmin)).setCell ⟨pt, 2, none⟩ (.int .u64 v.xmax)).setCell ⟨pt, 3, none⟩ (.int .i64 v.pg)).setCell ⟨pt, 4, none⟩ (.int .i64 v.sl)).setCell ⟨pt, 5, none⟩ (.slice A4 v.data.length c4)) = WF at HG ⊢
         exact KEY _ _ _ _ HG
   case key =>
    intro A4 c4 pt W HL0
    have HL := zh HL0
    clear HL0 HS5 HGET
    have HQW : Hid (Quiet w W) := HQb.out.trans HL.out.quiet
    have HWW := zh (HWb.out.quietly HL.out.quiet)
    have HS6 : Hid (∀ W', Quiet W W' -> (fun w' => w'.cell? ⟨sb, 0, none⟩ = some (ptrV lb) /\ w'.cell? ⟨r5, 0, none⟩ = some (.int .u64 (y.own : Int)) /\ w'.cell? ⟨r5, 1, none⟩ = some (.int .u64 (y.xmin : Int)) /\ w'.cell? ⟨r5, 2, none⟩ = some (.int .u64 (y.xmax : Int)) /\ w'.cell? ⟨r5, 3, none⟩ = some (.slice A y.run.length cy) /\ w'.cell? ⟨pt, 0, none⟩ = some (.int .u64 v.row) /\ w'.cell? ⟨pt, 1, none⟩ = some (.int .u64 v.xmin) /\ w'.cell? ⟨pt, 2, none⟩ = some (.int .u64 v.xmax) /\ w'.cell? ⟨pt, 3, none⟩ = some (.int .i64 v.pg) /\ w'.cell? ⟨pt, 4, none⟩ = some (.int .i64 v.sl) /\ w'.cell? ⟨pt, 5, none⟩ = some (.slice A4 v.data.length c4)) W') := fun W' hq => by
     have b5 := hq.get (HWW.out.quiet.get HB5.out (fun x => x)) (fun x => x)
     have bt := hq.get HL.out.box (fun x => x)
     have hsn := Zv b5
     refine ⟨((HH.out.quietly HQW.out).quietly hq).cells.1, hsn.1, hsn.2.1, hsn.2.2.1, hsn.2.2.2, ?_, ?_, ?_, ?_, ?_, ?_⟩ <;> (rw [Z1 bt]; rfl)
    obtain ⟨r, hrv⟩ : ∃ r, Z1V s.L y v.xmin v.xmax = r := ⟨_, rfl⟩
    have HRV := zh hrv
    have HVIS : Hid (∀ W', Quiet W W' -> Calls Tryz.prog 90 #[ptrV lb, Zk y A cy, Zt v A4 c4] W' (Z0p W' r)) := fun W' hq => by
     rw [<- HRV.out]
     have hq2 := HQW.out.trans hq
     exact Z4A v A4 c4 (HH.out.quietly hq2).log (HS.out.kept hq2 (fun _ _ x => x)) HV1.out.1 HV1.out.2
    unfold Zk Zt at HVIS
    clear hrv
    go_wp2_with fail
    refine zH HS6 (Z0.refl _ _).drew (fun Z3 => ?_)
    have q6 : Quiet W W.drew := (Z0.refl _ _).drew
    generalize W.drew = d6 at q6 Z3 ⊢
    refine zT 0 ?_
    refine zT 1 ?_
    refine zT 2 ?_
    refine zT 3 ?_
    refine zT 4 ?_
    refine zT 5 ?_
    refine zT 6 ?_
    refine zT 7 ?_
    refine zR 8 ?_
    intro K hK
    go_simp
    go_at_call 90
    refine (HVIS.out _ q6).mono ?_
    rintro e d7 ⟨rfl, hq7⟩
    have q7 := q6.trans hq7
    clear hq7
    dsimp only
    refine hK.out _ _ ?_ (fun Z3 => ?_)
    ·exact HS6.out _ q7
    clear hK K
    (try simp only [Act.put, zPA, zPZ, zPS])
    refine zT 9 ?_
    refine zD ?_
    clear Z3
    rcases r with _ | _
    ·have HTK : Hid (M.map Z0Y.told = Z2p H s.L y (l.take (k + 1))) := by
      show _ = _
      rw [Za7 HA.out, HM.out]
      have : Z3Z H s.L y (pg, sl) = none := by
       unfold Z3Z
       rw [HGV.out]
       simp [HRV.out]
      rw [this]
      simp
     have Zc := zh (HWW.out.quietly q7)
     clear q7 q6
     go_wp2
     go_roundw
     case rel => exact ⟨k + 1, _, M, by omega, by go_num, rfl, Zc.out, HTK.out⟩
     case measure => simp [intOf]; omega
    ·obtain ⟨x, hx, hdat⟩ := HVIS0.out HRV.out
     have hd9 : v.data.length = 9 := by rw [hdat]; exact Z0j x
     have HTK : Hid (Z3Z H s.L y (pg, sl) = some (v.row, pg, sl, x)) := by
      unfold Hid Z3Z
      rw [HGV.out]
      simp only [HRV.out, if_true]
      rw [hdat, Za6]
     have HW7 := zh (HWW.out.quietly q7)
     have HQ7 : Hid (Quiet w d7) := HQW.out.trans q7
     have HBT := zh (q7.get HL.out.box (fun x => x))
     have HAT7 := zh (q7.get (HL.out.quiet.get HAT.out (fun x => x)) (fun x => x))
     obtain ⟨A', c', e', hc4, hm4, hrd4⟩ := Z9 HL.out.own
     injection e' with e1 _ e2
     subst e1 e2
     rw [hd9] at hc4
     have HDC := zh (And.intro hc4 hm4)
     have HDAT : Hid (∀ W', Quiet d7 W' -> Rd W' (fun _ => True) 1 A4 9 (Zg (rowI x))) := fun W' hq => by
      have := (hrd4.kept (q7.trans hq) (fun _ _ x => x)).mono (T := fun _ => True) (fun _ _ => trivial)
      rw [hd9, hdat] at this
      exact this
     have HKND : Hid (∀ W', Quiet d7 W' -> Calls Tryz.prog 44 #[Z06 t A2 c2] W' (Z39 W' 1)) := fun W' hq => by
      have h2 := HR.out.kept (HQ7.out.trans hq) (fun _ _ x => x)
      have h3 := HC2.out
      rw [HT.out] at h2 h3
      exact Z3J HT.out h2 h3.1 h3.2
     have HS7 : Hid (∀ W', Quiet d7 W' -> (fun w' => w'.cell? ⟨r6, 0, none⟩ = some (.int .u64 (t.id : Int)) /\ w'.cell? ⟨r6, 1, none⟩ = some (.string t.name) /\ w'.cell? ⟨r6, 2, none⟩ = some (.slice A2 t.cols.length c2) /\ w'.cell? ⟨r6, 3, none⟩ = some (.int .u64 (t.xmin : Int)) /\ w'.cell? ⟨r6, 4, none⟩ = some (.int .u64 (t.xmax : Int)) /\ w'.cell? ⟨pt, 5, none⟩ = some (.slice A4 v.data.length c4)) W') := fun W' hq => by
      have b6 := Z0h (hq.get (HW7.out.quiet.get HB6.out (fun x => x)) (fun x => x))
      have bt := hq.get HBT.out (fun x => x)
      exact ⟨b6.1, b6.2.1, b6.2.2.1, b6.2.2.2.1, b6.2.2.2.2, by rw [Z1 bt]; rfl⟩
     unfold Z06 at HKND
     have HX := zh hx
     have HD9 := zh hd9
     clear hc4 hm4 hrd4 hdat q7 q6 hx HS6 HVIS
     go_wp2_with fail
     refine zH HS7 (Z0.refl _ _).drew (fun Z3 => ?_)
     have q8 : Quiet d7 d7.drew := (Z0.refl _ _).drew
     generalize d7.drew = d8 at q8 Z3 ⊢
     refine zT 0 ?_
     refine zT 2 ?_
     refine zT 3 ?_
     refine zR 1 ?_
     intro K hK
     go_simp
     go_at_call 44
     refine (HKND.out _ q8).mono ?_
     rintro e d9 ⟨v9, rfl, hf9⟩
     have q9 := q8.trans hf9.quiet
     obtain ⟨A9, c9, rfl, hc9, hm9, hrd9⟩ := Z9 hf9.own
     clear hf9
     dsimp only
     refine hK.out _ _ ?_ (fun Z3 => ?_)
     ·exact HS7.out _ q9
     clear hK K
     (try simp only [Act.put, zPA, zPZ, zPS])
     refine zR 4 ?_
     intro K hK
     go_simp
     go_at_call 84
     (try rw [HD9.out])
     refine (Z6l HX.out (by exact hrd9) (HDAT.out _ q9) hc9 hm9 HDC.out.1 HDC.out.2).mono ?_
     rintro e d10 ⟨v10, rfl, hf10⟩
     have q10 := q9.trans hf10.quiet
     have hfv := Z4J.from9 q9 hf10
     clear hf10
     dsimp only
     refine hK.out _ _ ?_ (fun Z3 => ?_)
     ·exact HS7.out _ q10
     clear hK K
     (try simp only [Act.put, zPA, zPZ, zPS])
     refine zT 5 ?_
     refine zT 6 ?_
     refine zT 7 ?_
     refine zT 8 ?_
     refine zT 9 ?_
     refine zD ?_
     clear Z3 q8 q9 q10 hrd9 hc9 hm9
     obtain ⟨A10, c10, rfl, hc10, hm10, _⟩ := Z9 hfv.own
     have HW10 := zh (HW7.out.quietly hfv.quiet)
     have HRD := zh (Rd.new d10 4 1 (Z47 ⟨v.row, pg, sl, x, A10, c10⟩) 50 (fun _ => True) rfl trivial)
     have HW11 := zh (HW10.out.quietly ((Z0.refl (fun _ => False) d10).alloc (.cells (Z47 ⟨v.row, pg, sl, x, A10, c10⟩).toArray 50)))
     have HVAL : Hid ((∀ k, (Value.slice A10 1 c10).ownBlock = some k -> W0.heap.size <= k) /\ (d10.alloc (.cells (Z47 ⟨v.row, pg, sl, x, A10, c10⟩).toArray 50)).ownsRow 0 32 4 (.slice A10 1 c10) 1 (intRow x)) :=
      ⟨fun k e => Nat.le_trans HW7.out.quiet.size (hfv.new k e), Z4 hfv.own ((Z0.refl (fun _ => False) d10).alloc _) (fun _ _ x => x)⟩
     have hml : M.length <= n := by
      have e1 : (M.map Z0Y.told).length <= (l.take k).length := by rw [HM.out]; exact List.length_filterMap_le _ _
      rw [List.length_map, List.length_take] at e1
      omega
     have x0 : d10.cell? ⟨pt, 0, none⟩ = some (.int .u64 v.row) := by rw [Z1 (hfv.quiet.get HBT.out (fun x => x))]; rfl
     have x1 : d10.cell? ⟨at_, 0, none⟩ = some (.int .i64 pg) := by rw [Z1 (hfv.quiet.get HAT7.out (fun x => x))]; rfl
     have x2 : d10.cell? ⟨at_, 1, none⟩ = some (.int .i64 sl) := by rw [Z1 (hfv.quiet.get HAT7.out (fun x => x))]; rfl
     obtain ⟨ml, hml2⟩ : ∃ ml, M.length = ml := ⟨_, rfl⟩
     have HML := zh hml2
     rw [hml2] at hml
     have hown := HW11.out.own
     rw [hml2] at hown
     have HOWN := zh hown
     clear hfv hc10 hm10 hml2 hown HDAT HKND HS7 HBT
     go_wp2_with (at_builtin; refine app Zhu rfl (.tmp 52) (.tmp 58) rfl rfl HOWN.out rfl HRD.out (ZbA ⟨v.row, pg, sl, x, A10, c10⟩) (by unfold maxLen; omega) (by omega) ?_)
     intro v11 w11 hg11
     rw [<- HML.out] at hg11
     have HPU := zh (Z18.push (m := ⟨v.row, pg, sl, x, A10, c10⟩) HW11.out HVAL.out hg11)
     have HTK2 : Hid ((M ++ [(⟨v.row, pg, sl, x, A10, c10⟩ : Z0Y)]).map Z0Y.told = Z2p H s.L y (l.take (k + 1))) := by
      show _ = _
      rw [List.map_append, HM.out, Za7 HA.out, HTK.out]
      rfl
     clear hg11 HW11 HVAL HRD HOWN HW10 x0 x1 x2
     go_wp2
     go_roundw
     case rel => exact ⟨k + 1, _, _, by omega, by go_num, rfl, HPU.out, HTK2.out⟩
     case measure => simp [intOf]; omega
  ·obtain rfl : k = n := by omega
   have hml : M.length <= k := by
    have e1 : (M.map Z0Y.told).length <= (l.take k).length := by rw [HM.out]; exact List.length_filterMap_le _ _
    rw [List.length_map, List.length_take] at e1
    omega
   have HSO := zh (Zg3 u9 M wr HW.out.own (by omega))
   clear hml
   go_wp2_with fail
   refine HSO.out.mono ?_
   rintro e w9 ⟨rfl, M', hp, hsd, ho, hon⟩
   have Zc : Hid (Z8 (.returned u9) w9) := by
    rw [<- Zb.out]
    refine ⟨u9, M', rfl, (HW.out.sorted hp hon ho).from HQ0.out, ?_, hsd⟩
    have := hp.map Z0Y.told
    rw [HM.out, List.take_of_length_le (by have := HN.out; omega)] at this
    exact this
   clear hp hsd ho hon HSO
   go_wp2
   exact Zc.out
def Z7L (w : World) (v : Tup) (code : Nat) (e : Ending) (w' : World) : Prop := ∃ A c, e = .returned (.tuple #[Zt v A c, .int .i64 (code : Int)]) /\ Quiet w w'
theorem Zhv (w : World) (a b c d : Obj) : Quiet w ((((w.alloc a).alloc b).alloc c).alloc d) /\ ((((w.alloc a).alloc b).alloc c).alloc d).heap[w.heap.size]? = some a /\ ((((w.alloc a).alloc b).alloc c).alloc d).heap[w.heap.size + 1]? = some b /\ ((((w.alloc a).alloc b).alloc c).alloc d).heap[w.heap.size + 1 + 1]? = some c /\ ((((w.alloc a).alloc b).alloc c).alloc d).heap[w.heap.size + 1 + 1 + 1]? = some d := by
 refine ⟨((((Z0.refl _ _).alloc _).alloc _).alloc _).alloc _, Zd (Zd (Zd (Z5 w a) b) c) d, Zd (Zd (Z0r w a b) c) d, ?_, ?_⟩
 ·have := Z5 ((w.alloc a).alloc b) c
  simp only [World.size_alloc] at this
  exact Zd this d
 ·have := Z5 (((w.alloc a).alloc b).alloc c) d
  simp only [World.size_alloc] at this
  exact this
theorem ZaD {w : World} {sb cy c2 n3 c3 : Nat} {o : Nat -> Nat} {s : St} {y : Zo} {t : TE} {Sy : Nat -> Prop} {A A2 A3 : Option Addr} {H : List (List (Option Tup))} {pg sl : Int} {v : Tup} (h : Zm w sb o s) (hs : Z0q w Sy A cy y) (hid : U64 t.id)
  (hH : s.hs t.id = some H) (hg : ZR H pg sl = some v) (hx1 : U64 v.xmin) (hx2 : U64 v.xmax) :
  Calls Tryz.prog 49 #[ptrV sb, Zk y A cy, Z06 t A2 c2, .agg #[.int .u64 v.row, .int .i64 pg, .int .i64 sl, .slice A3 n3 c3]] w (Z7L w v (freeS s.L y v.xmin v.xmax)) := by
 obtain ⟨lb, bb, pb, mh, mt, ms, fh, ft, fs, h⟩ := h
 obtain ⟨hb, hf, hp⟩ := h.heaps.2 t.id H hH
 have HH := zh h
 have HP := zh hp
 have HF := zh hf
 have HS := zh hs
 have HID := zh hid
 have HGV := zh hg
 have HV1 := zh (And.intro hx1 hx2)
 obtain ⟨q0, b5, b6, b7, b8⟩ := Zhv w (.cells (snapCells y A cy) 84) (.cells #[.int .u64 (t.id : Int), .string t.name, .slice A2 t.cols.length c2, .int .u64 (t.xmin : Int), .int .u64 (t.xmax : Int)] 98) (.cells #[.int .u64 v.row, .int .i64 pg, .int .i64 sl, .slice A3 n3 c3] 50) (.cells #[.int .u64 0, .int .u64 0, .int .u64 0, .int .i64 0, .int .i64 0, .slice none 0 0] 104)
 have HQ0 := zh q0
 have HB5 := zh b5
 have HB6 := zh b6
 have HB7 := zh b7
 have HB8 := zh b8
 obtain ⟨r5, hr5⟩ : ∃ r5, w.heap.size = r5 := ⟨_, rfl⟩
 obtain ⟨r6, hr6⟩ : ∃ r6, r5 + 1 = r6 := ⟨_, rfl⟩
 obtain ⟨r7, hr7⟩ : ∃ r7, r6 + 1 = r7 := ⟨_, rfl⟩
 obtain ⟨r8, hr8⟩ : ∃ r8, r7 + 1 = r8 := ⟨_, rfl⟩
 rw [hr5] at HB5 HB6 HB7 HB8
 rw [hr6] at HB6 HB7 HB8
 rw [hr7] at HB7 HB8
 rw [hr8] at HB8
 obtain ⟨code, hcode⟩ : ∃ code, freeS s.L y v.xmin v.xmax = code := ⟨_, rfl⟩
 rw [hcode]
 have HCODE := zh hcode
 have HNE : Hid (r5 ≠ r8 /\ w.heap.size <= r8) := ⟨by omega, by omega⟩
 clear h hs hp hf hH hid hg hx1 hx2 q0 b5 b6 b7 b8 hcode
 unfold Zk Z06
 go_enter Tryz.func49, Tryz.ntmps49
 go_wp2_with fail
 (try simp only [World.size_alloc] at *)
 (try rw [hr5]); (try rw [hr6]); (try rw [hr7]); (try rw [hr8])
 generalize (((w.alloc (.cells #[.int .u64 (y.own : Int), .int .u64 (y.xmin : Int), .int .u64 (y.xmax : Int), .slice A y.run.length cy] 84)).alloc (.cells #[.int .u64 (t.id : Int), .string t.name, .slice A2 t.cols.length c2, .int .u64 (t.xmin : Int), .int .u64 (t.xmax : Int)] 98)).alloc (.cells #[.int .u64 v.row, .int .i64 pg, .int .i64 sl, .slice A3 n3 c3] 50)).alloc (.cells #[.int .u64 0, .int .u64 0, .int .u64 0, .int .i64 0, .int .i64 0, .slice none 0 0] 104) = wb at *
 have HS5 : Hid (∀ W, Quiet wb W -> (fun w' => w'.cell? ⟨sb, 3, none⟩ = some (.map (some mh)) /\ w'.cell? ⟨r6, 0, none⟩ = some (.int .u64 (t.id : Int)) /\ w'.cell? ⟨r7, 1, none⟩ = some (.int .i64 pg) /\ w'.cell? ⟨r7, 2, none⟩ = some (.int .i64 sl) /\ (Instr.lookup 74 (.map (some mh)) (.int .u64 (t.id : Int)) false).run Tryz.prog w' = .ok (ptrV hb) w') W) := fun W hq => by
  have h2 := HH.out.quietly (HQ0.out.trans hq)
  have b6 := hq.get HB6.out (fun x => x)
  have b7 := hq.get HB7.out (fun x => x)
  exact ⟨h2.cells.2.2.2.1, (Z0h b6).1, by rw [Z1 b7]; rfl, by rw [Z1 b7]; rfl, Z1n h2.mH HF.out HID.out⟩
 have HGET : Hid (∀ W, Quiet wb W -> Calls Tryz.prog 38 #[ptrV hb, .agg #[.int .i64 pg, .int .i64 sl]] W (Z21 W v)) := fun W hq => Z2J pg sl v (HP.out.kept (HQ0.out.trans hq) (fun _ _ x => x)) HGV.out
 clear hr5 hr6 hr7 hr8
 apply Z73 (wb := wb) (t := v)
 case main =>
   intro KEY
   refine zH HS5 (Z0.refl _ _).drew (fun Z3 => ?_)
   have q0 : Quiet wb wb.drew := (Z0.refl _ _).drew
   generalize wb.drew = d0 at q0 Z3 ⊢
   refine zT 0 ?_
   refine zT 1 ?_
   refine zT 2 ?_
   refine zT 3 ?_
   refine zT 4 ?_
   refine zT 5 ?_
   refine zT 6 ?_
   refine zT 7 ?_
   refine zT 8 ?_
   refine wpAnyH_ready (rs := [9, 13]) (by kernel_rfl) (by simp) ?_
   refine zA ?_ ?_
   ·intro K hK
    go_simp
    go_at_call 38
    refine (HGET.out _ q0).mono ?_
    rintro e d2 ⟨A4, c4, rfl, hf4⟩
    have q2 := q0.trans hf4.quiet
    have hown := hf4.own
    have hfn : ∀ k, (Value.slice A4 v.data.length c4).ownBlock = some k -> wb.heap.size <= k := fun k e => Nat.le_trans (q0).size (hf4.new k e)
    clear hf4
    unfold Zt
    dsimp only
    refine hK.out _ _ ?_ (fun Z3 => ?_)
    ·exact HS5.out _ q2
    clear hK K
    (try simp only [Act.put, zPA, zPZ, zPS])
    refine zT 10 ?_
    refine zT 11 ?_
    refine zT 12 ?_
    refine zR 13 ?_
    intro K hK
    go_simp
    refine hK.out _ _ ?_ (fun Z3 => ?_)
    ·exact HS5.out _ (q2.alloc _)
    clear hK K
    (try simp only [Act.put, zPA, zPZ, zPS])
    have qd3 : Quiet wb (d2.alloc (.cells #[.int .u64 0, .int .u64 0, .int .u64 0, .int .i64 0, .int .i64 0, .slice none 0 0] 104)) := q2.alloc _
    have hb1 := Z5 d2 (.cells #[.int .u64 0, .int .u64 0, .int .u64 0, .int .i64 0, .int .i64 0, .slice none 0 0] 104)
    have hnp : wb.heap.size <= d2.heap.size := q2.size
    have hown := Z4 hown ((Z0.refl (fun _ => False) d2).alloc (.cells #[.int .u64 0, .int .u64 0, .int .u64 0, .int .i64 0, .int .i64 0, .slice none 0 0] 104)) (fun _ _ x => x)
    obtain ⟨pt, hpt⟩ : ∃ pt, d2.heap.size = pt := ⟨_, rfl⟩
    rw [hpt] at hb1 hnp ⊢
    generalize d2.alloc (.cells #[.int .u64 0, .int .u64 0, .int .u64 0, .int .i64 0, .int .i64 0, .slice none 0 0] 104) = d3 at *
    clear hpt
    obtain ⟨z0, z1, z2, z3, z4, z5⟩ := zC6 hb1
    have zf := fun o => Z7 hb1 o
    refine zR 14 ?_
    intro K hK
    go_simp
    refine hK.out _ _ ?_ (fun Z3 => ?_)
    ·exact HS5.out _ (Z0G qd3 hb1 hnp hown hfn).quiet
    clear hK K
    (try simp only [Act.put, zPA, zPZ, zPS])
    have HG := Z0G qd3 hb1 hnp hown hfn
    unfold sixSet at HG
    refine zT 15 ?_
    refine zD ?_
    generalize ((((((d3.setCell ⟨pt, 0, none⟩ (.int .u64 v.row)).setCell ⟨pt, 1, none⟩ (.int .u64 v.xmin)).setCell ⟨pt, 2, none⟩ (.int .u64 v.xmax)).setCell ⟨pt, 3, none⟩ (.int .i64 v.pg)).setCell ⟨pt, 4, none⟩ (.int .i64 v.sl)).setCell ⟨pt, 5, none⟩ (.slice A4 v.data.length c4)) = WF at HG ⊢
    exact KEY _ _ _ _ HG
   refine zA ?_ AllReadyH.nil
   intro K hK
   go_simp
   refine hK.out _ _ ?_ (fun Z3 => ?_)
   ·exact HS5.out _ (q0.alloc _)
   clear hK K
   (try simp only [Act.put, zPA, zPZ, zPS])
   have qd1 : Quiet wb (d0.alloc (.cells #[.int .u64 0, .int .u64 0, .int .u64 0, .int .i64 0, .int .i64 0, .slice none 0 0] 104)) := q0.alloc _
   have hb1 := Z5 d0 (.cells #[.int .u64 0, .int .u64 0, .int .u64 0, .int .i64 0, .int .i64 0, .slice none 0 0] 104)
   have hnp : wb.heap.size <= d0.heap.size := q0.size
   obtain ⟨pt, hpt⟩ : ∃ pt, d0.heap.size = pt := ⟨_, rfl⟩
   rw [hpt] at hb1 hnp ⊢
   generalize d0.alloc (.cells #[.int .u64 0, .int .u64 0, .int .u64 0, .int .i64 0, .int .i64 0, .slice none 0 0] 104) = d1 at *
   clear hpt
   refine zR 9 ?_
   intro K hK
   go_simp
   go_at_call 38
   refine (HGET.out _ qd1).mono ?_
   rintro e d2 ⟨A4, c4, rfl, hf4⟩
   have q2 := qd1.trans hf4.quiet
   have hb2 := hf4.quiet.get hb1 (fun x => x)
   have hown := hf4.own
   have hfn : ∀ k, (Value.slice A4 v.data.length c4).ownBlock = some k -> wb.heap.size <= k := fun k e => Nat.le_trans (qd1).size (hf4.new k e)
   clear hf4
   unfold Zt
   dsimp only
   refine hK.out _ _ ?_ (fun Z3 => ?_)
   ·exact HS5.out _ q2
   clear hK K
   (try simp only [Act.put, zPA, zPZ, zPS])
   obtain ⟨z0, z1, z2, z3, z4, z5⟩ := zC6 hb2
   have zf := fun o => Z7 hb2 o
   refine zT 10 ?_
   refine zT 11 ?_
   refine zT 12 ?_
   refine zR 14 ?_
   intro K hK
   go_simp
   refine hK.out _ _ ?_ (fun Z3 => ?_)
   ·exact HS5.out _ (Z0G q2 hb2 hnp hown hfn).quiet
   clear hK K
   (try simp only [Act.put, zPA, zPZ, zPS])
   have HG := Z0G q2 hb2 hnp hown hfn
   unfold sixSet at HG
   refine zT 15 ?_
   refine zD ?_
   generalize ((((((d2.setCell ⟨pt, 0, none⟩ (.int .u64 v.row)).setCell ⟨pt, 1, none⟩ (.int .u64 v.xmin)).setCell ⟨pt, 2, none⟩ (.int .u64 v.xmax)).setCell ⟨pt, 3, none⟩ (.int .i64 v.pg)).setCell ⟨pt, 4, none⟩ (.int .i64 v.sl)).setCell ⟨pt, 5, none⟩ (.slice A4 v.data.length c4)) = WF at HG ⊢
   exact KEY _ _ _ _ HG
 case key =>
  intro A4 c4 pt W HL0
  have HL := zh HL0
  clear HL0 HS5 HGET
  have HQW : Hid (Quiet w W) := HQ0.out.trans HL.out.quiet
  have HNP : Hid (pt ≠ r8) := fun e => by have := HL.out.new; have := Z2 HB8.out; omega
  have HS4 : Hid (∀ W', Z0 (fun k => k = r8) W W' -> (fun w' => w'.cell? ⟨sb, 0, none⟩ = some (ptrV lb) /\ w'.cell? ⟨r5, 0, none⟩ = some (.int .u64 (y.own : Int)) /\ w'.cell? ⟨r5, 1, none⟩ = some (.int .u64 (y.xmin : Int)) /\ w'.cell? ⟨r5, 2, none⟩ = some (.int .u64 (y.xmax : Int)) /\ w'.cell? ⟨r5, 3, none⟩ = some (.slice A y.run.length cy) /\ w'.cell? ⟨pt, 0, none⟩ = some (.int .u64 v.row) /\ w'.cell? ⟨pt, 1, none⟩ = some (.int .u64 v.xmin) /\ w'.cell? ⟨pt, 2, none⟩ = some (.int .u64 v.xmax) /\ w'.cell? ⟨pt, 3, none⟩ = some (.int .i64 v.pg) /\ w'.cell? ⟨pt, 4, none⟩ = some (.int .i64 v.sl) /\ w'.cell? ⟨pt, 5, none⟩ = some (.slice A4 v.data.length c4)) W') := fun W' hq => by
   have b5 := hq.get (HL.out.quiet.get HB5.out (fun x => x)) (fun x => HNE.out.1 x)
   have bt := hq.get HL.out.box (fun x => HNP.out x)
   have hsn := Zv b5
   have c0 := hq.cell ((HH.out.quietly HQW.out).cells.1) (fun x => by have := Z2 HH.out.box; have := HNE.out.2; simp only at x; omega)
   refine ⟨c0, hsn.1, hsn.2.1, hsn.2.2.1, hsn.2.2.2, ?_, ?_, ?_, ?_, ?_, ?_⟩ <;> (rw [Z1 bt]; rfl)
  have HFREE : Hid (∀ W', Quiet W W' -> Calls Tryz.prog 94 #[ptrV lb, Zk y A cy, Zt v A4 c4] W' (fun e w' => e = .returned (.int .i64 (code : Int)) /\ Quiet W' w')) := fun W' hq => by
   rw [<- HCODE.out]
   have hq2 := HQW.out.trans hq
   exact Z9S v A4 c4 (HH.out.quietly hq2).log (HS.out.kept hq2 (fun _ _ x => x)) HV1.out.1 HV1.out.2
  unfold Zk Zt at HFREE
  have HB8' := zh (HL.out.quiet.get HB8.out (fun x => x))
  have t0 := HL.out.cells.1
  have r0 : W.cell? ⟨r7, 0, none⟩ = some (.int .u64 v.row) := by rw [Z1 (HL.out.quiet.get HB7.out (fun x => x))]; rfl
  clear HB8
  have HB8 := HB8'
  clear HB8'
  go_wp2_with fail
  clear t0 r0
  refine zH HS4 (Z0.refl _ _).drew (fun Z3 => ?_)
  have q6 : Quiet W W.drew := (Z0.refl _ _).drew
  generalize W.drew = d6 at q6 Z3 ⊢
  refine zT 0 ?_
  refine zT 1 ?_
  refine zT 2 ?_
  refine zT 3 ?_
  refine zT 4 ?_
  refine zT 5 ?_
  refine zT 6 ?_
  refine zR 7 ?_
  intro K hK
  go_simp
  go_at_call 94
  refine (HFREE.out _ q6).mono ?_
  rintro e d7 ⟨rfl, hq7⟩
  have q7 := q6.trans hq7
  clear hq7
  have h8 := q7.get HB8.out (fun x => x)
  obtain ⟨e0, e1, e2, e3, e4, e5⟩ := zC6 h8
  have ef := fun o => Z7 h8 o
  dsimp only
  refine hK.out _ _ ?_ (fun Z3 => ?_)
  ·exact HS4.out _ (q7.mono (fun _ _ x => x.elim))
  clear hK K
  (try simp only [Act.put, zPA, zPZ, zPS])
  refine zR 8 ?_
  intro K hK
  go_simp
  refine hK.out _ _ ?_ (fun Z3 => ?_)
  ·exact HS4.out _ ((q7.mono (T := fun k => k = r8) (fun _ _ x => x.elim)).trans' (Z0A d7 r8 (.int .u64 v.row) (.int .u64 v.xmin) (.int .u64 v.xmax) (.int .i64 v.pg) (.int .i64 v.sl) (.slice A4 v.data.length c4)) (fun k _ e => e))
  clear hK K
  (try simp only [Act.put, zPA, zPZ, zPS])
  refine zT 9 ?_
  refine zD ?_
  have HX : Hid ((sixSet d7 r8 (.int .u64 v.row) (.int .u64 v.xmin) (.int .u64 v.xmax) (.int .i64 v.pg) (.int .i64 v.sl) (.slice A4 v.data.length c4)).heap[r8]? = some (.cells #[.int .u64 v.row, .int .u64 v.xmin, .int .u64 v.xmax, .int .i64 v.pg, .int .i64 v.sl, .slice A4 v.data.length c4] 104 (0, 0))) := Z0Z h8 _ _ _ _ _ _
  have HP : Hid (Z7L w v code (.returned (.tuple #[Zt v A4 c4, .int .i64 (code : Int)])) (sixSet d7 r8 (.int .u64 v.row) (.int .u64 v.xmin) (.int .u64 v.xmax) (.int .i64 v.pg) (.int .i64 v.sl) (.slice A4 v.data.length c4))) := ⟨A4, c4, rfl, (HQW.out.trans q7).trans' (Z0A d7 r8 (.int .u64 v.row) (.int .u64 v.xmin) (.int .u64 v.xmax) (.int .i64 v.pg) (.int .i64 v.sl) (.slice A4 v.data.length c4)) (fun k hk e => by have := HNE.out.2; omega)⟩
  unfold sixSet at HX HP
  clear Z3 q6 q7 h8 e0 e1 e2 e3 e4 e5 ef
  unfold Zt at HP
  go_wp2
  exact bodyPost_ret (ZC Tryz.results49 _ _ r8 _ _ (0, 0) _ (by rfl) HX.out Tryz.underlying104 rfl Z2T) (by rfl) HP.out
def Z4p (w : World) (sb : Nat) (o : Nat -> Nat) (s' : St) (p q : Int) (e : Ending) (w' : World) : Prop := e = .returned (.tuple #[.agg #[.int .i64 p, .int .i64 q], .int .i64 0]) /\ Z0E w sb o s' w'
structure Z9o (wb W : World) (pt hb pb left' : Nat) (p q : Int) (G : Nat -> Prop) (H' : List (List (Option Tup))) : Prop where
 only : Z0 (fun k => G k ∨ k = pb) wb W
 box : W.heap[pt]? = some (.cells #[.int .i64 p, .int .i64 q] 48 (0, 0))
 new : wb.heap.size <= pt
 pool : ZI W pb left'
 heap : Zp W hb pb (fun k => G k ∨ (wb.heap.size <= k /\ k ≠ pt)) H'
theorem Z5L {wb w1 : World} {pt hb pb left' : Nat} {p q : Int} {G : Nat -> Prop} {H' : List (List (Option Tup))} {c0 c1 : Value} (hq : Z0 (fun k => G k ∨ k = pb) wb w1) (h1 : w1.heap[pt]? = some (.cells #[c0, c1] 48 (0, 0))) (hn : wb.heap.size <= pt)
  (hp : ZI w1 pb left') (hh : Zp w1 hb pb (fun k => G k ∨ (wb.heap.size <= k /\ k ≠ pt)) H') (hG : ∀ k, wb.heap.size <= k -> ¬ (G k ∨ k = pb)) :
  Z9o wb ((w1.setCell ⟨pt, 0, none⟩ (.int .i64 p)).setCell ⟨pt, 1, none⟩ (.int .i64 q)) pt hb pb left' p q G H' := by
 have ho := Z2U w1 pt (.int .i64 p) (.int .i64 q)
 refine ⟨hq.trans' ho (fun k hk e => by omega), Z3x h1 _ _, hn, hp.kept ho (fun e => hG _ hn (Or.inr e.symm)), hh.kept ho (fun k x e => ?_)⟩
 rcases x with x | x
 ·exact hG k (by omega) (Or.inl x)
 ·exact x.2 e
theorem Ziq {goal : Prop} {wb : World} {hb pb left' : Nat} {p q : Int} {Gw : Nat -> Prop} {H' : List (List (Option Tup))} {G : Nat -> World -> Prop} (main : (∀ pt W, Z9o wb W pt hb pb left' p q Gw H' -> G pt W) -> goal) (key : ∀ pt W, Z9o wb W pt hb pb left' p q Gw H' -> G pt W) : goal := main key
theorem Zhw (w : World) (a b c : Obj) : Quiet w (((w.alloc a).alloc b).alloc c) /\ (((w.alloc a).alloc b).alloc c).heap[w.heap.size]? = some a /\ (((w.alloc a).alloc b).alloc c).heap[w.heap.size + 1]? = some b /\ (((w.alloc a).alloc b).alloc c).heap[w.heap.size + 1 + 1]? = some c := by
 refine ⟨(((Z0.refl _ _).alloc _).alloc _).alloc _, Zd (Zd (Z5 w a) b) c, Zd (Z0r w a b) c, ?_⟩
 have := Z5 ((w.alloc a).alloc b) c
 simp only [World.size_alloc] at this
 exact this
end Go.Proofs.YtnidjfjkodingaaGreatDoor
