/- Plain laws of entries in order: a key's bytes and a place, compared; what insertion, deletion and a scan leave. The contracts of bytes.Compare, cmp.Compare, cmp.Or and of the tree's order. Rows in memory: copy at elements of several cells; rows of entries; slices.Clone. The contract of slices.BinarySearchFunc at entries, by the tree's order. Laws on append of so many zero values, and on copy, for slices.Insert. The contract of slices.Insert of one element, at entries. The contract of slices.Insert of one element, at nodes. Nodes of a tree in memory, told by their entries; how they are kept. No condition. -/
import Derived.Test.YthipgglplneijaaGreatDoorBh2
import Derived.Lib.Bytealg
import Derived.Lib.AppendZerosOnto
import Derived.Lib.Overlaps
import Derived.Laws.IdiomCopy
import Derived.Deep.RegionLawGrows
import Derived.Laws.Rows
import Derived.Maps.OwnOps
import Derived.Maps.Ext
set_option maxRecDepth 100000
namespace Go.Lap
def cmpB : List Nat -> List Nat -> Int
 | [], [] => 0
 | [], _ :: _ => -1
 | _ :: _, [] => 1
 | a :: xs, b :: ys => if a < b then -1 else if b < a then 1 else cmpB xs ys
theorem cmpB_swap : ∀ a b, cmpB b a = - cmpB a b
 | [], [] => rfl
 | [], _ :: _ => rfl
 | _ :: _, [] => rfl
 | a :: xs, b :: ys => by
  have ih := cmpB_swap xs ys
  unfold cmpB
  by_cases x : a < b
  ·rw [if_pos x, if_neg (by omega), if_pos x]; rfl
  ·by_cases y : b < a
   ·rw [if_pos y, if_neg x, if_pos y]
   ·rw [if_neg y, if_neg x, if_neg x, if_neg y, ih]
theorem cmpB_zero : ∀ a b, cmpB a b = 0 ↔ a = b
 | [], [] => by simp [cmpB]
 | [], _ :: _ => by simp [cmpB]
 | _ :: _, [] => by simp [cmpB]
 | a :: xs, b :: ys => by
  have ih := cmpB_zero xs ys
  unfold cmpB
  rw [List.cons.injEq]
  split
  ·constructor
   ·intro h; omega
   ·rintro ⟨h, _⟩; omega
  ·split
   ·constructor
    ·intro h; omega
    ·rintro ⟨h, _⟩; omega
   ·rw [ih]
    constructor
    ·intro h; exact ⟨by omega, h⟩
    ·exact fun h => h.2
theorem cmpB_self (a : List Nat) : cmpB a a = 0 := (cmpB_zero a a).2 rfl
theorem cmpB_trans : ∀ a b c, cmpB a b < 0 -> cmpB b c < 0 -> cmpB a c < 0
 | [], [], _, h, _ => by simp [cmpB] at h
 | [], _ :: _, [], _, h => by simp [cmpB] at h
 | [], _ :: _, _ :: _, _, _ => by simp [cmpB]
 | _ :: _, [], _, h, _ => by simp [cmpB] at h
 | _ :: _, _ :: _, [], _, h => by simp [cmpB] at h
 | a :: xs, b :: ys, c :: zs, h1, h2 => by
  have ih := cmpB_trans xs ys zs
  unfold cmpB at h1 h2 ⊢
  by_cases x : a < b
  ·by_cases y : b < c
   ·rw [if_pos (by omega)]; omega
   ·rw [if_neg y] at h2
    split at h2
    ·omega
    ·rw [if_pos (by omega)]; omega
  ·rw [if_neg x] at h1
   split at h1
   ·omega
   ·by_cases y : b < c
    ·rw [if_pos (by omega)]; omega
    ·rw [if_neg y] at h2
     split at h2
     ·omega
     ·rw [if_neg (by omega), if_neg (by omega)]
      exact ih h1 h2
theorem cmpB_model : ∀ (a b : List Nat), (∀ x ∈ a, x < 256) -> (∀ x ∈ b, x < 256) -> Lib.compareBytes (a.map UInt8.ofNat) (b.map UInt8.ofNat) = cmpB a b
 | [], [], _, _ => rfl
 | [], _ :: _, _, _ => rfl
 | _ :: _, [], _, _ => rfl
 | x :: a, y :: b, ha, hb => by
  have ih := cmpB_model a b (fun z hz => ha z (by simp [hz])) (fun z hz => hb z (by simp [hz]))
  have hx := ha x (by simp)
  have hy := hb y (by simp)
  have key : ∀ u v : Nat, u < 256 -> v < 256 -> (UInt8.ofNat u < UInt8.ofNat v ↔ u < v) := by
   intro u v hu hv
   rw [UInt8.lt_iff_toNat_lt]
   simp [Nat.mod_eq_of_lt hu, Nat.mod_eq_of_lt hv]
  simp only [List.map_cons]
  unfold Lib.compareBytes cmpB
  rw [ih]
  simp only [key x y hx hy, key y x hy hx]
def cmpI (x y : Int) : Int := if x < y then -1 else if y < x then 1 else 0
structure Ent where
 key : List Nat
 pg : Int
 sl : Int
theorem Ent.ext' {a b : Ent} (h1 : a.key = b.key) (h2 : a.pg = b.pg) (h3 : a.sl = b.sl) : a = b := by
 obtain ⟨_, _, _⟩ := a
 obtain ⟨_, _, _⟩ := b
 simp_all
instance : DecidableEq Ent := fun a b =>
 if h1 : a.key = b.key then
  if h2 : a.pg = b.pg then
   if h3 : a.sl = b.sl then isTrue (Ent.ext' h1 h2 h3) else isFalse (fun e => h3 (by rw [e]))
  else isFalse (fun e => h2 (by rw [e]))
 else isFalse (fun e => h1 (by rw [e]))
def cmpE (a b : Ent) : Int := if cmpB a.key b.key ≠ 0 then cmpB a.key b.key else if cmpI a.pg b.pg ≠ 0 then cmpI a.pg b.pg else cmpI a.sl b.sl
theorem cmpE_zero (a b : Ent) : cmpE a b = 0 ↔ a = b := by
 unfold cmpE
 by_cases h1 : cmpB a.key b.key = 0
 ·rw [if_neg (by simp [h1])]
  by_cases h2 : cmpI a.pg b.pg = 0
  ·rw [if_neg (by simp [h2])]
   constructor
   ·intro h3
    refine Ent.ext' ((cmpB_zero _ _).1 h1) ?_ ?_
    ·unfold cmpI at h2; split at h2; omega; split at h2 <;> omega
    ·unfold cmpI at h3; split at h3; omega; split at h3 <;> omega
   ·rintro rfl; simp [cmpI]
  ·rw [if_pos h2]
   constructor
   ·exact fun h => absurd h h2
   ·rintro rfl; simp [cmpI]
 ·rw [if_pos h1]
  constructor
  ·exact fun h => absurd h h1
  ·rintro rfl; exact cmpB_self _
theorem cmpE_self (a : Ent) : cmpE a a = 0 := (cmpE_zero a a).2 rfl
theorem cmpI_swap (x y : Int) : cmpI y x = - cmpI x y := by
 unfold cmpI
 split <;> split <;> first | omega | (split <;> omega)
theorem cmpE_swap (a b : Ent) : cmpE b a = - cmpE a b := by
 unfold cmpE
 have k1 := cmpB_swap a.key b.key
 have k2 := cmpI_swap a.pg b.pg
 have k3 := cmpI_swap a.sl b.sl
 by_cases h1 : cmpB a.key b.key = 0
 ·rw [if_neg (show ¬ cmpB b.key a.key ≠ 0 by omega), if_neg (show ¬ cmpB a.key b.key ≠ 0 by omega)]
  by_cases h2 : cmpI a.pg b.pg = 0
  ·rw [if_neg (show ¬ cmpI b.pg a.pg ≠ 0 by omega), if_neg (show ¬ cmpI a.pg b.pg ≠ 0 by omega)]
   exact k3
  ·rw [if_pos (show cmpI b.pg a.pg ≠ 0 by omega), if_pos h2]
   exact k2
 ·rw [if_pos (show cmpB b.key a.key ≠ 0 by omega), if_pos h1]
  exact k1
theorem cmpI_lt {x y : Int} : cmpI x y < 0 ↔ x < y := by
 unfold cmpI
 split
 ·constructor <;> intro <;> omega
 ·split <;> constructor <;> intro <;> omega
theorem cmpI_zero {x y : Int} : cmpI x y = 0 ↔ x = y := by
 unfold cmpI
 split
 ·constructor <;> intro <;> omega
 ·split <;> constructor <;> intro <;> omega
theorem cmpE_lt (a b : Ent) : cmpE a b < 0 ↔ cmpB a.key b.key < 0 ∨ (a.key = b.key /\ (a.pg < b.pg ∨ (a.pg = b.pg /\ a.sl < b.sl))) := by
 unfold cmpE
 by_cases h1 : cmpB a.key b.key = 0
 ·rw [if_neg (by simp [h1]), h1]
  have e := (cmpB_zero _ _).1 h1
  by_cases h2 : cmpI a.pg b.pg = 0
  ·rw [if_neg (by simp [h2]), cmpI_lt]
   have e2 := cmpI_zero.1 h2
   simp [e, e2]
  ·rw [if_pos h2, cmpI_lt]
   have e2 : ¬ a.pg = b.pg := fun h => h2 (cmpI_zero.2 h)
   simp [e, e2]
 ·rw [if_pos h1]
  have e : ¬ a.key = b.key := fun h => h1 ((cmpB_zero _ _).2 h)
  simp [e]
theorem cmpE_trans {a b c : Ent} (h1 : cmpE a b < 0) (h2 : cmpE b c < 0) : cmpE a c < 0 := by
 rw [cmpE_lt] at *
 rcases h1 with h1 | ⟨e1, h1⟩
 ·rcases h2 with h2 | ⟨e2, h2⟩
  ·exact Or.inl (cmpB_trans _ _ _ h1 h2)
  ·rw [<- e2]; exact Or.inl h1
 ·rcases h2 with h2 | ⟨e2, h2⟩
  ·rw [e1]; exact Or.inl h2
  ·exact Or.inr ⟨e1.trans e2, by omega⟩
def Rising (l : List Ent) : Prop := l.Pairwise (fun a b => cmpE a b < 0)
def posE (e : Ent) : List Ent -> Nat
 | [] => 0
 | x :: l => if cmpE x e < 0 then posE e l + 1 else 0
def insE (e : Ent) : List Ent -> List Ent
 | [] => [e]
 | x :: l => if cmpE x e < 0 then x :: insE e l else e :: x :: l
theorem posE_cons (e x : Ent) (l : List Ent) : posE e (x :: l) = if cmpE x e < 0 then posE e l + 1 else 0 := rfl
theorem posE_le (e : Ent) (l : List Ent) : posE e l <= l.length := by
 induction l with
 | nil => exact Nat.le_refl _
 | cons x l ih =>
  unfold posE
  split
  ·simp; omega
  ·exact Nat.zero_le _
theorem posE_char {e : Ent} : ∀ {l : List Ent} {i : Nat}, i <= l.length -> (∀ j x, j < i -> l[j]? = some x -> cmpE x e < 0) -> (∀ x, l[i]? = some x -> ¬ cmpE x e < 0) -> i = posE e l
 | [], i, h, _, _ => by simp at h; subst h; rfl
 | x :: l, 0, _, _, h2 => by
  unfold posE
  rw [if_neg (h2 x rfl)]
 | x :: l, i + 1, h0, h1, h2 => by
  unfold posE
  rw [if_pos (h1 0 x (by omega) rfl)]
  have := posE_char (e := e) (l := l) (i := i) (by simpa using h0) (fun j y hj hy => h1 (j + 1) y (by omega) (by simpa using hy)) (fun y hy => h2 y (by simpa using hy))
  omega
theorem posE_before {e : Ent} : ∀ {l : List Ent} {j : Nat} {x : Ent}, j < posE e l -> l[j]? = some x -> cmpE x e < 0
 | [], _, _, h, _ => by simp [posE] at h
 | y :: l, j, x, h, hx => by
  rw [posE_cons] at h
  by_cases hy : cmpE y e < 0
  ·rw [if_pos hy] at h
   rcases j with _ | j
   ·simp at hx; subst hx; exact hy
   ·exact posE_before (l := l) (j := j) (by omega) (by simpa using hx)
  ·rw [if_neg hy] at h; omega
theorem posE_at {e : Ent} : ∀ {l : List Ent} {x : Ent}, l[posE e l]? = some x -> ¬ cmpE x e < 0
 | [], _, h => by simp at h
 | y :: l, x, h => by
  unfold posE at h
  split at h
  ·exact posE_at (l := l) (by simpa using h)
  ·simp at h; subst h; assumption
theorem insE_eq (e : Ent) (l : List Ent) : insE e l = l.take (posE e l) ++ e :: l.drop (posE e l) := by
 induction l with
 | nil => rfl
 | cons x l ih =>
  unfold insE posE
  split
  ·rw [ih]; rfl
  ·rfl
theorem Rising.nil : Rising [] := List.Pairwise.nil
theorem Rising.get {l : List Ent} (h : Rising l) {i j : Nat} {x y : Ent} (hij : i < j) (hi : l[i]? = some x) (hj : l[j]? = some y) : cmpE x y < 0 := by
 obtain ⟨h1, rfl⟩ := List.getElem?_eq_some_iff.1 hi
 obtain ⟨h2, rfl⟩ := List.getElem?_eq_some_iff.1 hj
 exact List.pairwise_iff_getElem.1 h i j h1 h2 hij
theorem posE_behind {e : Ent} {l : List Ent} (h : Rising l) (hn : e ∉ l) {j : Nat} {x : Ent} (hj : posE e l <= j) (hx : l[j]? = some x) : cmpE e x < 0 := by
 have hjl := (List.getElem?_eq_some_iff.1 hx).1
 obtain ⟨y, hy⟩ : ∃ y, l[posE e l]? = some y := ⟨_, List.getElem?_eq_getElem (by omega)⟩
 have h1 := posE_at hy
 have h2 : cmpE y e ≠ 0 := fun z => hn ((cmpE_zero _ _).1 z ▸ List.mem_of_getElem? hy)
 have h3 : cmpE e y < 0 := by rw [cmpE_swap y e]; omega
 rcases Nat.lt_or_ge (posE e l) j with z | z
 ·exact cmpE_trans h3 (h.get z hy hx)
 ·have : posE e l = j := by omega
  subst this
  rw [hy] at hx
  injection hx with hx
  subst hx
  exact h3
theorem posE_mem {e : Ent} {l : List Ent} (h : Rising l) : e ∈ l ↔ l[posE e l]? = some e := by
 constructor
 ·intro hm
  obtain ⟨j, hj⟩ := List.mem_iff_getElem?.1 hm
  have hjl := (List.getElem?_eq_some_iff.1 hj).1
  have h1 : ¬ j < posE e l := fun z => by have := posE_before z hj; rw [cmpE_self] at this; omega
  rcases Nat.lt_or_ge (posE e l) j with z | z
  ·obtain ⟨y, hy⟩ : ∃ y, l[posE e l]? = some y := ⟨_, List.getElem?_eq_getElem (by omega)⟩
   exact absurd (h.get z hy hj) (posE_at hy)
  ·have : posE e l = j := by omega
   rw [this]; exact hj
 ·exact List.mem_of_getElem?
theorem mem_insE {e x : Ent} {l : List Ent} : x ∈ insE e l ↔ x = e ∨ x ∈ l := by
 rw [insE_eq, List.mem_append, List.mem_cons]
 constructor
 ·rintro (h | h | h)
  ·exact Or.inr (List.mem_of_mem_take h)
  ·exact Or.inl h
  ·exact Or.inr (List.mem_of_mem_drop h)
 ·rintro (h | h)
  ·exact Or.inr (Or.inl h)
  ·rw [<- List.take_append_drop (posE e l) l, List.mem_append] at h
   rcases h with h | h
   ·exact Or.inl h
   ·exact Or.inr (Or.inr h)
theorem insE_length (e : Ent) (l : List Ent) : (insE e l).length = l.length + 1 := by
 have := posE_le e l
 rw [insE_eq]
 simp
 omega
theorem Rising.ins {e : Ent} {l : List Ent} (h : Rising l) (hn : e ∉ l) : Rising (insE e l) := by
 rw [insE_eq]
 unfold Rising
 rw [List.pairwise_append, List.pairwise_cons]
 have ht : ∀ a ∈ l.take (posE e l), cmpE a e < 0 := by
  intro a ha
  obtain ⟨i, hi⟩ := List.mem_iff_getElem?.1 ha
  rw [List.getElem?_take] at hi
  split at hi
  ·exact posE_before (by assumption) hi
  ·cases hi
 have hd : ∀ a ∈ l.drop (posE e l), cmpE e a < 0 := by
  intro a ha
  obtain ⟨i, hi⟩ := List.mem_iff_getElem?.1 ha
  rw [List.getElem?_drop] at hi
  exact posE_behind h hn (by omega) hi
 refine ⟨h.sublist (List.take_sublist _ _), ⟨hd, h.sublist (List.drop_sublist _ _)⟩, fun a ha b hb => ?_⟩
 rcases List.mem_cons.1 hb with rfl | hb
 ·exact ht a ha
 ·exact cmpE_trans (ht a ha) (hd b hb)
end Go.Lap
namespace Go.Proofs.YthipgglplneijaaGreatDoor
open Go.RowKit Go.Lap
theorem load_bytes (w : World) (b : Nat) : ∀ (l : List Nat), (∀ x ∈ l, x < 256) -> ∀ (off : Nat) (acc : ByteArray), (∀ j u, (bytesV l)[j]? = some u -> w.cell? ⟨b, off + j, none⟩ = some u) →
  (Extern.Bytes.loadBytes ⟨b, off, none⟩ l.length acc).run Tryz.prog w = .ok ⟨acc.data ++ (l.map UInt8.ofNat).toArray⟩ w
 | [], _, off, acc, _ => by simp [Extern.Bytes.loadBytes]
 | x :: l, hb, off, acc, h => by
  have h0 : w.cell? ⟨b, off, none⟩ = some (.int .u8 (x : Int)) := h 0 (.int .u8 x) rfl
  have hx := hb x (by simp)
  have ih := load_bytes w b l (fun y hy => hb y (by simp [hy])) (off + 1) (acc.push (UInt8.ofNat x)) (fun j u hu => by
    have := h (j + 1) u (by simpa [bytesV] using hu)
    rw [show off + 1 + j = off + (j + 1) by omega]
    exact this)
  have e : ((x : Int).toNat).toUInt8 = UInt8.ofNat x := by simp
  simp only [List.length_cons, Extern.Bytes.loadBytes, Sem.run_bind, run_load, h0, Result.andThen, add_none, e]
  rw [ih]
  congr 1
  apply ByteArray.ext
  simp [ByteArray.push]
theorem bytes_of (A : Option Addr) (cap : Nat) (l : List Nat) (S : Nat -> Prop) (w : World) (hr : Rd w S 1 A l.length (bytesV l)) (hb : ∀ x ∈ l, x < 256) :
  (Extern.Bytes.bytesOf (.slice A l.length cap)).run Tryz.prog w = .ok ⟨(l.map UInt8.ofNat).toArray⟩ w := by
 rcases A with _ | ⟨b, off, sp⟩
 ·have hl0 : l = [] := by
   rcases l with _ | ⟨x, l⟩
   ·rfl
   ·obtain ⟨b, off, e, _⟩ := hr.cells (by simp [bytesV]); cases e
  subst hl0
  rfl
 ·rcases l with _ | ⟨x, l⟩
  ·rfl
  ·obtain ⟨b', off', e, _, hc⟩ := hr.cells (by simp [bytesV])
   injection e with e
   rw [e]
   have := load_bytes w b' (x :: l) hb off' .empty hc
   show (Extern.Bytes.loadBytes ⟨b', off', none⟩ (x :: l).length .empty).run Tryz.prog w = _
   rw [this]
   congr 1
   apply ByteArray.ext
   show (#[] : Array UInt8) ++ _ = _
   simp
theorem run_cmpB (A B : Option Addr) (ca cb : Nat) (l m : List Nat) (S S' : Nat -> Prop) (w : World) (hr : Rd w S 1 A l.length (bytesV l)) (hr' : Rd w S' 1 B m.length (bytesV m)) (hb : ∀ x ∈ l, x < 256) (hb' : ∀ x ∈ m, x < 256) :
  (Extern.BytealgCompare.compare #[.slice A l.length ca, .slice B m.length cb]).run Tryz.prog w = .ok (.int .i64 (cmpB l m)) w := by
 change Sem.run Tryz.prog (do pure (goInt (Extern.BytealgCompare.cmp (<- Extern.Bytes.bytesOf (.slice A l.length ca)) (<- Extern.Bytes.bytesOf (.slice B m.length cb))))) w = _
 simp only [Sem.run_bind, Sem.run_pure, bytes_of A ca l S w hr hb, bytes_of B cb m S' w hr' hb', Result.andThen]
 rw [Lib.cmp_eq]
 simp only [List.toList_toArray]
 rw [cmpB_model l m hb hb']
 rfl
theorem compare_any (A B : Option Addr) (ca cb : Nat) (l m : List Nat) (S S' : Nat -> Prop) (w : World) (hr : Rd w S 1 A l.length (bytesV l)) (hr' : Rd w S' 1 B m.length (bytesV m)) (hb : ∀ x ∈ l, x < 256) (hb' : ∀ x ∈ m, x < 256) :
  Calls Tryz.prog 166 #[.slice A l.length ca, .slice B m.length cb] w fun e w' => e = .returned (.int .i64 (cmpB l m)) /\ w = w' := by
 have h := Lib.hid (run_cmpB A B ca cb l m S S' w hr hr' hb hb')
 clear hr hr' hb hb'
 go_enter Tryz.func166, Tryz.ntmps166
 go_wp2
 rw [run_callFunc_extern Tryz.func187 (by kernel_rfl) (by kernel_rfl) (by kernel_rfl) (e := Extern.BytealgCompare.compare) (by kernel_rfl), h.out]
 simp only [Result.andThen]
 rw [Oper.upon_value]
 go_wp2
 go_ret
 exact ⟨rfl, rfl⟩
theorem isNaN_any (x : Int) (w : World) : Calls Tryz.prog 188 #[.int .i64 x] w fun e w' => e = .returned (.bool false) /\ w = w' := by
 go_enter Tryz.func188, Tryz.ntmps188
 go_wp2
 go_ret
 exact ⟨by simp, rfl⟩
theorem compareI_any (x y : Int) (w : World) : Calls Tryz.prog 167 #[.int .i64 x, .int .i64 y] w fun e w' => e = .returned (.int .i64 (cmpI x y)) /\ w = w' := by
 have hR : cmpI x y = if x < y then -1 else if y < x then 1 else 0 := rfl
 by_cases h1 : x < y
 ·rw [if_pos h1] at hR
  have HR := Lib.hid hR
  clear hR
  go_enter Tryz.func167, Tryz.ntmps167
  go_wp2_with fail
  refine (isNaN_any _ _).mono ?_
  rintro e w1 ⟨rfl, rfl⟩
  go_wp2_with fail
  refine (isNaN_any _ _).mono ?_
  rintro e w1 ⟨rfl, rfl⟩
  go_wp2
  go_ret
  rw [HR.out]
  exact ⟨rfl, rfl⟩
 ·rw [if_neg h1] at hR
  by_cases h2 : y < x
  ·rw [if_pos h2] at hR
   have HR := Lib.hid hR
   clear hR
   go_enter Tryz.func167, Tryz.ntmps167
   go_wp2_with fail
   refine (isNaN_any _ _).mono ?_
   rintro e w1 ⟨rfl, rfl⟩
   go_wp2_with fail
   refine (isNaN_any _ _).mono ?_
   rintro e w1 ⟨rfl, rfl⟩
   go_wp2
   go_ret
   rw [HR.out]
   exact ⟨rfl, rfl⟩
  ·rw [if_neg h2] at hR
   have HR := Lib.hid hR
   clear hR
   have h3 : x = y := by omega
   subst h3
   go_enter Tryz.func167, Tryz.ntmps167
   go_wp2_with fail
   refine (isNaN_any _ _).mono ?_
   rintro e w1 ⟨rfl, rfl⟩
   go_wp2_with fail
   refine (isNaN_any _ _).mono ?_
   rintro e w1 ⟨rfl, rfl⟩
   go_wp2
   go_ret
   rw [HR.out]
   exact ⟨rfl, rfl⟩
def orV (x y z : Int) : Int := if x ≠ 0 then x else if y ≠ 0 then y else z
set_option maxHeartbeats 400000 in
theorem or_any (b : Nat) (x y z : Int) (t : TypeId) (w : World) (h : w.heap[b]? = some (.cells #[.int .i64 x, .int .i64 y, .int .i64 z] t (0, 0))) :
  Calls Tryz.prog 165 #[.slice (some ⟨b, 0, none⟩) 3 3] w fun e w' => e = .returned (.int .i64 (orV x y z)) /\ w = w' := by
 obtain ⟨c0, c1, c2⟩ : w.cell? ⟨b, 0, none⟩ = some (.int .i64 x) /\ w.cell? ⟨b, 1, none⟩ = some (.int .i64 y) /\ w.cell? ⟨b, 2, none⟩ = some (.int .i64 z) := ⟨by rw [cell_of h]; rfl, by rw [cell_of h]; rfl, by rw [cell_of h]; rfl⟩
 have hR := Lib.hid (show orV x y z = if x ≠ 0 then x else if y ≠ 0 then y else z from rfl)
 clear h
 go_enter Tryz.func165, Tryz.ntmps165
 go_wp2_with fail
 go_loopw [8, 5] (fun c _ wr => wr = w /\ ∃ k : Nat, k <= 3 /\ c = .int .i64 (k : Int) /\ (0 < k -> x = 0) /\ (1 < k -> y = 0) /\ (2 < k -> z = 0)) (fun c _ _ => 3 - (intOf c).toNat)
 case atStart => exact ⟨rfl, 0, Nat.zero_le _, rfl, fun h => by omega, fun h => by omega, fun h => by omega⟩
 case round =>
  obtain ⟨rfl, k, hk, rfl, k0, k1, k2⟩ := hrel
  rcases (show k = 0 ∨ k = 1 ∨ k = 2 ∨ k = 3 by omega) with rfl | rfl | rfl | rfl
  ·clear k0 k1 k2 hk
   by_cases e : x = 0
   ·have d : (x != 0) = false := by simp [e]
    go_wp2
    go_roundw
    case rel => exact ⟨trivial, 1, by omega, by go_num, fun _ => e, fun h => by omega, fun h => by omega⟩
    case measure => simp [intOf]
   ·have d : (x != 0) = true := by simp [e]
    go_wp2
    go_ret
    rw [hR.out, if_pos e]
    exact ⟨rfl, rfl⟩
  ·have e0 := k0 (by omega)
   clear k0 k1 k2 hk
   have H0 := Lib.hid e0
   clear e0
   by_cases e : y = 0
   ·have d : (y != 0) = false := by simp [e]
    have HE := Lib.hid e
    clear e
    go_wp2
    go_roundw
    case rel => exact ⟨trivial, 2, by omega, by go_num, fun _ => H0.out, fun _ => HE.out, fun h => by omega⟩
    case measure => simp [intOf]
   ·have d : (y != 0) = true := by simp [e]
    go_wp2
    go_ret
    rw [hR.out, if_neg (by simp [H0.out]), if_pos e]
    exact ⟨rfl, rfl⟩
  ·have e0 := k0 (by omega)
   have e1 := k1 (by omega)
   clear k0 k1 k2 hk
   have H0 := Lib.hid e0
   have H1 := Lib.hid e1
   clear e0 e1
   by_cases e : z = 0
   ·have d : (z != 0) = false := by simp [e]
    have HE := Lib.hid e
    clear e
    go_wp2
    go_roundw
    case rel => exact ⟨trivial, 3, by omega, by go_num, fun _ => H0.out, fun _ => H1.out, fun _ => HE.out⟩
    case measure => simp [intOf]
   ·have d : (z != 0) = true := by simp [e]
    go_wp2
    go_ret
    rw [hR.out, if_neg (by simp [H0.out]), if_neg (by simp [H1.out])]
    exact ⟨rfl, rfl⟩
  ·have e0 := k0 (by omega)
   have e1 := k1 (by omega)
   have e2 := k2 (by omega)
   clear k0 k1 k2 hk c0 c1 c2
   have H0 := Lib.hid e0
   have H1 := Lib.hid e1
   have H2 := Lib.hid e2
   clear e0 e1 e2
   go_wp2
   go_ret
   rw [hR.out, if_neg (by simp [H0.out]), if_neg (by simp [H1.out]), H2.out]
   exact ⟨rfl, rfl⟩
abbrev entV (e : Ent) (A : Option Addr) (c : Nat) : Value := .agg #[.slice A e.key.length c, .int .i64 e.pg, .int .i64 e.sl]
theorem or_cmp (a b : Ent) : orV (cmpB a.key b.key) (cmpI a.pg b.pg) (cmpI a.sl b.sl) = cmpE a b := rfl
theorem three_new (w : World) (o o' o'' : Obj) : (((w.alloc o).alloc o').alloc o'').heap[w.heap.size + 1 + 1]? = some o'' := by
 have := two_new (w.alloc o) o' o''
 rw [World.size_alloc] at this
 exact this
theorem ent_cells {w : World} {b : Nat} {t : TypeId} {fr : Nat × Nat} {x y z : Value} (h : w.heap[b]? = some (.cells #[x, y, z] t fr)) : w.cell? ⟨b, 0, none⟩ = some x /\ w.cell? ⟨b, 1, none⟩ = some y /\ w.cell? ⟨b, 2, none⟩ = some z :=
 ⟨by rw [cell_of h]; rfl, by rw [cell_of h]; rfl, by rw [cell_of h]; rfl⟩
set_option maxHeartbeats 1000000 in
theorem order_any (a b : Ent) (A B : Option Addr) (ca cb : Nat) (S S' : Nat -> Prop) (w : World) (hr : Rd w S 1 A a.key.length (bytesV a.key)) (hr' : Rd w S' 1 B b.key.length (bytesV b.key)) (hb : ∀ x ∈ a.key, x < 256) (hb' : ∀ x ∈ b.key, x < 256) :
  Calls Tryz.prog 126 #[entV a A ca, entV b B cb] w fun e w' => e = .returned (.int .i64 (cmpE a b)) /\ Quiet w w' := by
 rw [<- or_cmp]
 have hq0 : Quiet w ((w.alloc (.cells #[.slice A a.key.length ca, .int .i64 a.pg, .int .i64 a.sl] 124)).alloc (.cells #[.slice B b.key.length cb, .int .i64 b.pg, .int .i64 b.sl] 124)) := ((Only.refl _ _).alloc _).alloc _
 have HQ := Lib.hid hq0
 have HC := Lib.hid (fun (W : World) (hq : Quiet w W) => compare_any A B ca cb a.key b.key S S' W (hr.kept hq (fun _ _ x => x)) (hr'.kept hq (fun _ _ x => x)) hb hb')
 clear hr hr' hb hb' hq0
 go_enter Tryz.func126, Tryz.ntmps126
 go_wp2_with fail
 go_region_held3 (fun w' => w'.cell? ⟨w.heap.size, 0, none⟩ = some (.slice A a.key.length ca) /\ w'.cell? ⟨w.heap.size, 1, none⟩ = some (.int .i64 a.pg) /\ w'.cell? ⟨w.heap.size, 2, none⟩ = some (.int .i64 a.sl) /\ w'.cell? ⟨w.heap.size + 1, 0, none⟩ = some (.slice B b.key.length cb) /\ w'.cell? ⟨w.heap.size + 1, 1, none⟩ = some (.int .i64 b.pg) /\ w'.cell? ⟨w.heap.size + 1, 2, none⟩ = some (.int .i64 b.sl))
  (first | go_keep | fail)
  (first
    | (go_at_call 166; go_must (refine (HC.out _ (HQ.out.drew)).mono ?_; rintro e w2 ⟨rfl, rfl⟩))
    | (go_at_call 167; go_must (refine (compareI_any _ _ _).mono ?_; rintro e w2 ⟨rfl, rfl⟩))
    | (go_at_call 165; go_must (refine (or_any (w.heap.size + 1 + 1) _ _ _ 3 _ (by exact three_new _ _ _ _)).mono ?_; rintro e w2 ⟨rfl, rfl⟩))
    | fail)
 go_wp2
 go_ret
 exact ⟨rfl, (HQ.out.alloc _).drew⟩
end Go.Proofs.YthipgglplneijaaGreatDoor
namespace Go.Lap
open Go.RowKit
theorem run_copy_rowK {P : Program} (w : World) (dT sT ty elem : TypeId) (k g o dLen dCap : Nat) (a : Addr) (sLen sCap : Nat) (cur : Array Value) (t : TypeId) (cs : List Value)
  (hu : P.underlying dT = some (.slice elem)) (hs : (P.info? elem).map (·.size) = some k)
  (hg : w.heap[g]? = some (.cells cur t (0, 0))) (hn : cs.length = Nat.min sLen dLen * k)
  (hsrc : ∀ j v, cs[j]? = some v -> w.cell? (a.add j) = some v) (hfit : o + cs.length <= cur.size) (h1 : ∀ v ∈ cs, v.oneCell' = true) :
  (Builtin.copy_ #[dT, sT] ty #[.slice (some ⟨g, o, none⟩) dLen dCap, .slice (some a) sLen sCap]).run P w =
   .ok (goInt (Nat.min sLen dLen)) (w.setRow g (cur.toList.take o ++ cs ++ cur.toList.drop (o + cs.length)).toArray) := by
 have hl := run_loadCells_list (P := P) w a cs hsrc
 have hst := run_storeCells_at P g o t cs 0 cur w hg (by simpa using hfit) h1
 cases hq : P.info? elem with
 | none => simp [hq] at hs
 | some i =>
  have hi : i.size = k := by simpa [hq] using hs
  simp [Builtin.copy_, run_underlying hu, Builtin.lenOf, Builtin.firstCells, sizeOf, typeInfo, hq, hi, <- hn, hl, hst]
theorem Only.setRow {S : Nat -> Prop} {a w : World} (h : Only S a w) (g : Nat) (cs : Array Value) (hg : g < a.heap.size -> S g) : Only S a (w.setRow g cs) :=
 h.trans' (T := (· = g)) ⟨rfl, rfl, rfl, by simp [World.setRow], fun k _ hn => setRow_other w g k cs hn⟩ (fun k hk e => by subst e; exact hg hk)
structure EV where
 e : Ent
 A : Option Addr
 c : Nat
def EV.cells (x : EV) : List Value := [.slice x.A x.e.key.length x.c, .int .i64 x.e.pg, .int .i64 x.e.sl]
def rowV (xs : List EV) : List Value := xs.flatMap EV.cells
theorem rowV_cons (x : EV) (xs : List EV) : rowV (x :: xs) = .slice x.A x.e.key.length x.c :: .int .i64 x.e.pg :: .int .i64 x.e.sl :: rowV xs := rfl
theorem rowV_append (xs ys : List EV) : rowV (xs ++ ys) = rowV xs ++ rowV ys := by simp [rowV]
theorem rowV_one (x : EV) : rowV [x] = x.cells := by simp [rowV]
theorem rowV_length (xs : List EV) : (rowV xs).length = xs.length * 3 := by
 induction xs with
 | nil => rfl
 | cons x xs ih => rw [rowV_cons]; simp only [List.length_cons, ih]; omega
theorem rowV_get {xs : List EV} {j : Nat} {x : EV} (h : xs[j]? = some x) : (rowV xs)[j * 3]? = some (.slice x.A x.e.key.length x.c) /\ (rowV xs)[j * 3 + 1]? = some (.int .i64 x.e.pg) /\ (rowV xs)[j * 3 + 2]? = some (.int .i64 x.e.sl) := by
 induction xs generalizing j with
 | nil => simp at h
 | cons y xs ih =>
  rcases j with _ | j
  ·simp at h
   subst h
   exact ⟨rfl, rfl, rfl⟩
  ·rw [List.getElem?_cons_succ] at h
   rw [rowV_cons, show (j + 1) * 3 = j * 3 + 1 + 1 + 1 by omega]
   exact ih h
theorem rowV_take (xs : List EV) (k : Nat) : rowV (xs.take k) = (rowV xs).take (k * 3) := by
 induction xs generalizing k with
 | nil => simp [rowV]
 | cons x xs ih =>
  rcases k with _ | k
  ·rfl
  ·rw [List.take_succ_cons, rowV_cons, rowV_cons, ih, show (k + 1) * 3 = k * 3 + 1 + 1 + 1 by omega]; rfl
theorem rowV_drop (xs : List EV) (k : Nat) : rowV (xs.drop k) = (rowV xs).drop (k * 3) := by
 induction xs generalizing k with
 | nil => simp [rowV]
 | cons x xs ih =>
  rcases k with _ | k
  ·rfl
  ·rw [List.drop_succ_cons, rowV_cons, ih, show (k + 1) * 3 = k * 3 + 1 + 1 + 1 by omega]; rfl
theorem rowV_set (xs : List EV) (j : Nat) (x : EV) : (((rowV xs).set (j * 3) (.slice x.A x.e.key.length x.c)).set (j * 3 + 1) (.int .i64 x.e.pg)).set (j * 3 + 2) (.int .i64 x.e.sl) = rowV (xs.set j x) := by
 induction xs generalizing j with
 | nil => rfl
 | cons y xs ih =>
  rcases j with _ | j
  ·rfl
  ·rw [rowV_cons, show (j + 1) * 3 = j * 3 + 1 + 1 + 1 by omega]
   simp only [show j * 3 + 1 + 1 + 1 + 1 = (j * 3 + 1) + 1 + 1 + 1 by omega, show j * 3 + 1 + 1 + 1 + 2 = (j * 3 + 2) + 1 + 1 + 1 by omega, List.set_cons_succ]
   rw [ih, rowV_cons]
theorem one_row (xs : List EV) : ∀ u ∈ rowV xs, u.oneCell' = true := by
 intro u hu
 unfold rowV at hu
 rw [List.mem_flatMap] at hu
 obtain ⟨x, _, hx⟩ := hu
 simp [EV.cells] at hx
 rcases hx with rfl | rfl | rfl <;> rfl
theorem Rd.drop {w : World} {S : Nat -> Prop} {size n b off k : Nat} {xs : List Value} (h : Rd w S size (some ⟨b, off, none⟩) n xs) (hk : k <= n) : Rd w S size (some ⟨b, off + k * size, none⟩) (n - k) (xs.drop (k * size)) := by
 have hl := h.len
 refine ⟨by rw [List.length_drop, hl, Nat.sub_mul], fun h0 => ?_⟩
 rw [List.length_drop] at h0
 obtain ⟨b', off', e, hb, hc⟩ := h.cells (by omega)
 injection e with e
 injection e with e1 e2 _
 subst e1 e2
 exact ⟨b, off + k * size, rfl, hb, fun j u hu => by
   rw [List.getElem?_drop] at hu
   rw [Nat.add_assoc]
   exact hc _ u hu⟩
theorem Rd.takeK {w : World} {S : Nat -> Prop} {size n k : Nat} {A : Option Addr} {xs : List Value} (h : Rd w S size A n xs) (hk : k <= n) : Rd w S size A k (xs.take (k * size)) := by
 have hl := h.len
 have hm : k * size <= n * size := Nat.mul_le_mul_right _ hk
 refine ⟨by rw [List.length_take, hl]; omega, fun h0 => ?_⟩
 rw [List.length_take] at h0
 obtain ⟨b, off, e, hb, hc⟩ := h.cells (by omega)
 exact ⟨b, off, e, hb, fun j u hu => hc j u (by rw [List.getElem?_take] at hu; split at hu <;> first | exact hu | cases hu)⟩
end Go.Lap
namespace Go.Proofs.YthipgglplneijaaGreatDoor
open Go.RowKit Go.Lap
theorem elem_ent : Elem Tryz.prog 184 124 3 40 := Elem.mk' (.agg #[.slice none 0 0, .int .i64 0, .int .i64 0]) Tryz.underlying184 (by kernel_rfl) rfl (by decide)
theorem elem_node : Elem Tryz.prog 185 183 1 8 := Elem.mk' (.pointer none) Tryz.underlying185 (by kernel_rfl) rfl (by decide)
abbrev RowAt (w : World) (v : Value) (xs : List EV) : Prop := w.ownsRow 0 124 3 v xs.length (rowV xs)
structure NewRow (w w' : World) (e : TypeId) (size : Nat) (v : Value) (n : Nat) (xs : List Value) : Prop where
 quiet : Quiet w w'
 own : w'.ownsRow 0 e size v n xs
 loc : ∃ k, v.ownBlock = some k /\ w.heap.size <= k
def NewRowPost (w : World) (e : TypeId) (size n : Nat) (xs : List Value) (en : Ending) (w' : World) : Prop := ∃ v, en = .returned v /\ NewRow w w' e size v n xs
theorem newRow_app {w w1 : World} {e : TypeId} {size n : Nat} {v : Value} {xs : List Value} (hg : Grew (w.alloc (.cells #[] e)) w1 e size (.slice (some ⟨w.heap.size, 0, none⟩) 0 0) v n xs) : NewRow w w1 e size v n xs := by
 refine ⟨((Only.refl _ _).alloc _).trans' hg.only (fun k hk e => by simp [Value.ownBlock] at e; omega), hg.own, ?_⟩
 rcases hg.loc with x | x
 ·exact ⟨w.heap.size, by rw [x]; rfl, Nat.le_refl _⟩
 ·exact ⟨_, x, by simp⟩
set_option maxHeartbeats 400000 in
theorem clone_ent (ad : Addr) (n cap : Nat) (xs : List Value) (S : Nat -> Prop) (w : World) (hr : Rd w S 3 (some ad) n xs) (h1 : ∀ u ∈ xs, u.oneCell' = true) (hl : n <= 100000) :
  Calls Tryz.prog 131 #[.slice (some ad) n cap] w (NewRowPost w 124 3 n xs) := by
 have heq := fun (w : World) (a : Option Addr) (n c : Nat) => Lib.run_eql_slice_nil (P := Tryz.prog) w 184 _ a n c 0 0 Tryz.underlying184
 have HR := Lib.hid hr
 have H1 := Lib.hid h1
 clear hr h1
 go_enter Tryz.func131, Tryz.ntmps131
 go_wp2_with (at_builtin; refine app elem_ent rfl (.tmp 5) (.tmp 6) rfl rfl (owns_empty w _ _) rfl (HR.out.kept ((Only.refl (fun _ => False) w).alloc _) (fun _ _ x => x)) H1.out (by unfold maxLen; omega) (by omega) ?_)
 intro v w1 hg
 have HF := Lib.hid (newRow_app hg)
 clear hg
 go_wp2
 go_ret
 exact ⟨v, rfl, HF.out⟩
set_option maxHeartbeats 400000 in
theorem clone_node (ad : Addr) (n cap : Nat) (xs : List Value) (S : Nat -> Prop) (w : World) (hr : Rd w S 1 (some ad) n xs) (h1 : ∀ u ∈ xs, u.oneCell' = true) (hl : n <= 100000) :
  Calls Tryz.prog 132 #[.slice (some ad) n cap] w (NewRowPost w 183 1 n xs) := by
 have heq := fun (w : World) (a : Option Addr) (n c : Nat) => Lib.run_eql_slice_nil (P := Tryz.prog) w 185 _ a n c 0 0 Tryz.underlying185
 have HR := Lib.hid hr
 have H1 := Lib.hid h1
 clear hr h1
 go_enter Tryz.func132, Tryz.ntmps132
 go_wp2_with (at_builtin; refine app elem_node rfl (.tmp 5) (.tmp 6) rfl rfl (owns_empty w _ _) rfl (HR.out.kept ((Only.refl (fun _ => False) w).alloc _) (fun _ _ x => x)) H1.out (by unfold maxLen; omega) (by omega) ?_)
 intro v w1 hg
 have HF := Lib.hid (newRow_app hg)
 clear hg
 go_wp2
 go_ret
 exact ⟨v, rfl, HF.out⟩
structure Keyd (w : World) (K : Nat -> Prop) (x : EV) : Prop where
 rd : Rd w K 1 x.A x.e.key.length (bytesV x.e.key)
 by_ : ∀ b ∈ x.e.key, b < 256
 len : x.e.key.length <= 1000
theorem Keyd.kept {w w' : World} {K S : Nat -> Prop} {x : EV} (h : Keyd w K x) (ho : Only S w w') (hn : ∀ k, K k -> ¬ S k) : Keyd w' K x := ⟨h.rd.kept ho hn, h.by_, h.len⟩
theorem Keyd.quietly {w w' : World} {K : Nat -> Prop} {x : EV} (h : Keyd w K x) (ho : Quiet w w') : Keyd w' K x := h.kept ho (fun _ _ x => x)
theorem Keyd.mono {w : World} {K K' : Nat -> Prop} {x : EV} (h : Keyd w K x) (hn : ∀ k, K k -> K' k) : Keyd w K' x := ⟨h.rd.mono hn, h.by_, h.len⟩
theorem order_ev {w : World} {K K' : Nat -> Prop} {x y : EV} (hx : Keyd w K x) (hy : Keyd w K' y) :
  Calls Tryz.prog 126 #[entV x.e x.A x.c, entV y.e y.A y.c] w fun e w' => e = .returned (.int .i64 (cmpE x.e y.e)) /\ Quiet w w' :=
 order_any x.e y.e x.A y.A x.c y.c K K' w hx.rd hy.rd hx.by_ hy.by_
theorem row_cells {w : World} {S : Nat -> Prop} {A : Option Addr} {xs : List EV} {j : Nat} {x : EV} (h : Rd w S 3 A xs.length (rowV xs)) (hj : xs[j]? = some x) :
  ∃ b off, A = some ⟨b, off, none⟩ /\ w.cell? ⟨b, off + j * 3, none⟩ = some (.slice x.A x.e.key.length x.c) /\ w.cell? ⟨b, off + j * 3 + 1, none⟩ = some (.int .i64 x.e.pg) /\ w.cell? ⟨b, off + j * 3 + 2, none⟩ = some (.int .i64 x.e.sl) := by
 have hl := (List.getElem?_eq_some_iff.1 hj).1
 obtain ⟨b, off, e, _, hc⟩ := h.cells (by rw [rowV_length]; omega)
 obtain ⟨h1, h2, h3⟩ := rowV_get hj
 exact ⟨b, off, e, hc _ _ h1, by rw [Nat.add_assoc]; exact hc _ _ h2, by rw [Nat.add_assoc]; exact hc _ _ h3⟩
theorem bs_split {es : List Ent} {t : Ent} (hs : Rising es) {h k : Nat} {x : Ent} (hx : es[h]? = some x) (hlt : cmpE x t < 0) (hk : k <= h) {y : Ent} (hy : es[k]? = some y) : cmpE y t < 0 := by
 rcases Nat.lt_or_ge k h with z | z
 ·exact cmpE_trans (hs.get z hy hx) hlt
 ·have : k = h := by omega
  subst this
  rw [hx] at hy
  injection hy with hy
  subst hy
  exact hlt
theorem bs_right {es : List Ent} {t : Ent} (hs : Rising es) {h k : Nat} {x : Ent} (hx : es[h]? = some x) (hlt : ¬ cmpE x t < 0) (hk : h <= k) {y : Ent} (hy : es[k]? = some y) : ¬ cmpE y t < 0 := by
 rcases Nat.lt_or_ge h k with z | z
 ·intro hy2
  exact hlt (cmpE_trans (hs.get z hx hy) hy2)
 ·have : k = h := by omega
  subst this
  rw [hx] at hy
  injection hy with hy
  subst hy
  exact hlt
set_option maxHeartbeats 1000000 in
theorem search_any (xs : List EV) (t : EV) (A : Option Addr) (cap : Nat) (S K K' : Nat -> Prop) (w : World) (hr : Rd w S 3 A xs.length (rowV xs)) (hk : ∀ x ∈ xs, Keyd w K x) (ht : Keyd w K' t) (hs : Rising (xs.map (·.e))) (hl : xs.length <= 100000) :
  Calls Tryz.prog 125 #[.slice A xs.length cap, entV t.e t.A t.c, .func (.func 126) #[] #[]] w fun e w' => e = .returned (.tuple #[.int .i64 (posE t.e (xs.map (·.e)) : Int), .bool (decide (t.e ∈ xs.map (·.e)))]) /\ Quiet w w' := by
 obtain ⟨n, hn⟩ : ∃ n, xs.length = n := ⟨_, rfl⟩
 have HN := Lib.hid hn
 have HR := Lib.hid hr
 have HK := Lib.hid hk
 have HT := Lib.hid ht
 have HS := Lib.hid hs
 rw [hn] at hl ⊢
 obtain ⟨es, hes⟩ : ∃ es, xs.map (·.e) = es := ⟨_, rfl⟩
 have HES := Lib.hid hes
 rw [hes] at HS ⊢
 have hel : es.length = n := by rw [<- hes, List.length_map, hn]
 clear hr hk ht hs hn hes
 go_enter Tryz.func125, Tryz.ntmps125
 go_wp2_with fail
 go_loopw [9, 10, 11] (fun ci cj _ wr => ∃ (i j : Nat), i <= j /\ j <= n /\ ci = .int .i64 (i : Int) /\ cj = .int .i64 (j : Int) /\ Quiet w wr /\ wr.heap[w.heap.size]? = some (.cells #[.slice t.A t.e.key.length t.c, .int .i64 t.e.pg, .int .i64 t.e.sl] 124 (0, 0)) /\ (∀ k y, k < i -> es[k]? = some y -> cmpE y t.e < 0) /\ (∀ k y, j <= k -> es[k]? = some y -> 0 <= cmpE y t.e)) (fun ci cj _ _ => (intOf cj).toNat - (intOf ci).toNat)
 case atStart => exact ⟨0, n, Nat.zero_le _, Nat.le_refl _, rfl, rfl, (Only.refl _ _).alloc _, alloc_new _ _, fun k y hk => by omega, fun k y hk hy => by have := (List.getElem?_eq_some_iff.1 hy).1; omega⟩
 case round =>
  obtain ⟨i, j, hij, hjn, rfl, rfl, hq, hb, hlo, hhi⟩ := hrel
  have HQ := Lib.hid hq
  have HB := Lib.hid hb
  have HLO := Lib.hid hlo
  have HHI := Lib.hid hhi
  clear hq hb hlo hhi
  by_cases hlt : i < j
  ·obtain ⟨h, hh⟩ : ∃ h : Nat, (i + j) / 2 = h := ⟨_, rfl⟩
   have HH := Lib.hid hh
   have hih : i <= h /\ h < j := by omega
   clear hh
   go_wp2_with fail
   rw [show ((i : Int) + (j : Int)) / 2 = (h : Int) by have := HH.out; omega]
   clear HH
   obtain ⟨x, hx⟩ : ∃ x, xs[h]? = some x := ⟨_, List.getElem?_eq_getElem (by have := HN.out; omega)⟩
   have hxe : es[h]? = some x.e := by rw [<- HES.out, List.getElem?_map, hx]; rfl
   obtain ⟨b, off, rfl, r0, r1, r2⟩ := row_cells (HR.out.kept HQ.out (fun _ _ x => x)) hx
   have HORD := Lib.hid (order_ev ((HK.out x (List.mem_of_getElem? hx)).quietly HQ.out.drew) (HT.out.quietly HQ.out.drew))
   obtain ⟨t0, t1, t2⟩ := ent_cells HB.out
   have HX := Lib.hid hxe
   have d0 : (0 : Int) <= (h : Int) := by omega
   have d1 : (h : Int) < (n : Int) := by omega
   clear hx hxe
   by_cases hc : cmpE x.e t.e < 0
   ·have HC := Lib.hid hc
    have hcd : decide (cmpE x.e t.e < 0) = true := decide_eq_true hc
    go_region_held3 (fun w' => w'.cell? ⟨b, off + h * 3, none⟩ = some (.slice x.A x.e.key.length x.c) /\ w'.cell? ⟨b, off + h * 3 + 1, none⟩ = some (.int .i64 x.e.pg) /\ w'.cell? ⟨b, off + h * 3 + 2, none⟩ = some (.int .i64 x.e.sl) /\ w'.cell? ⟨w.heap.size, 0, none⟩ = some (.slice t.A t.e.key.length t.c) /\ w'.cell? ⟨w.heap.size, 1, none⟩ = some (.int .i64 t.e.pg) /\ w'.cell? ⟨w.heap.size, 2, none⟩ = some (.int .i64 t.e.sl))
     (first | go_keep | fail)
     (first
       | (go_at_call 126; go_must (refine HORD.out.mono ?_; rintro e w2 ⟨rfl, hq2⟩; have k0 := hq2.cell r0 (fun x => x); have k1 := hq2.cell r1 (fun x => x); have k2 := hq2.cell r2 (fun x => x); have k3 := hq2.cell t0 (fun x => x); have k4 := hq2.cell t1 (fun x => x); have k5 := hq2.cell t2 (fun x => x)))
       | fail)
    have HQ2 := Lib.hid (HQ.out.drew.trans hq2)
    have HB2 := Lib.hid (hq2.get HB.out (fun x => x))
    clear hq2 k0 k1 k2 k3 k4 k5 r0 r1 r2 t0 t1 t2 HORD HB HQ
    go_wp2
    go_roundw
    case rel => exact ⟨h + 1, j, by omega, by omega, by go_num, rfl, HQ2.out, HB2.out, fun k y hk hy => bs_split HS.out HX.out HC.out (by omega) hy, HHI.out⟩
    case measure => simp [intOf]; omega
   ·have HC := Lib.hid hc
    have hcd : decide (cmpE x.e t.e < 0) = false := decide_eq_false hc
    go_region_held3 (fun w' => w'.cell? ⟨b, off + h * 3, none⟩ = some (.slice x.A x.e.key.length x.c) /\ w'.cell? ⟨b, off + h * 3 + 1, none⟩ = some (.int .i64 x.e.pg) /\ w'.cell? ⟨b, off + h * 3 + 2, none⟩ = some (.int .i64 x.e.sl) /\ w'.cell? ⟨w.heap.size, 0, none⟩ = some (.slice t.A t.e.key.length t.c) /\ w'.cell? ⟨w.heap.size, 1, none⟩ = some (.int .i64 t.e.pg) /\ w'.cell? ⟨w.heap.size, 2, none⟩ = some (.int .i64 t.e.sl))
     (first | go_keep | fail)
     (first
       | (go_at_call 126; go_must (refine HORD.out.mono ?_; rintro e w2 ⟨rfl, hq2⟩; have k0 := hq2.cell r0 (fun x => x); have k1 := hq2.cell r1 (fun x => x); have k2 := hq2.cell r2 (fun x => x); have k3 := hq2.cell t0 (fun x => x); have k4 := hq2.cell t1 (fun x => x); have k5 := hq2.cell t2 (fun x => x)))
       | fail)
    have HQ2 := Lib.hid (HQ.out.drew.trans hq2)
    have HB2 := Lib.hid (hq2.get HB.out (fun x => x))
    clear hq2 k0 k1 k2 k3 k4 k5 r0 r1 r2 t0 t1 t2 HORD HB HQ
    go_wp2
    go_roundw
    case rel => exact ⟨i, h, by omega, by omega, rfl, rfl, HQ2.out, HB2.out, HLO.out, fun k y hk hy => by have := bs_right HS.out HX.out (show ¬ cmpE x.e t.e < 0 by have := HC.out; omega) hk hy; omega⟩
    case measure => simp [intOf]; omega
  ·obtain rfl : i = j := by omega
   have hpos : i = posE t.e es := posE_char (by omega) HLO.out (fun y hy => by have := HHI.out i y (Nat.le_refl _) hy; omega)
   by_cases hin : i < n
   ·obtain ⟨x, hx⟩ : ∃ x, xs[i]? = some x := ⟨_, List.getElem?_eq_getElem (by have := HN.out; omega)⟩
    have hxe : es[i]? = some x.e := by rw [<- HES.out, List.getElem?_map, hx]; rfl
    obtain ⟨b, off, rfl, r0, r1, r2⟩ := row_cells (HR.out.kept HQ.out (fun _ _ x => x)) hx
    have HORD := Lib.hid (order_ev ((HK.out x (List.mem_of_getElem? hx)).quietly HQ.out.drew) (HT.out.quietly HQ.out.drew))
    obtain ⟨t0, t1, t2⟩ := ent_cells HB.out
    have HRES : Hid (decide (t.e ∈ es) = (cmpE x.e t.e == 0)) := by
     have h1 := posE_mem HS.out (e := t.e)
     rw [<- hpos, hxe] at h1
     have h2 := cmpE_zero x.e t.e
     by_cases e : x.e = t.e
     ·rw [decide_eq_true (h1.2 (by rw [e])), h2.2 e]; rfl
     ·rw [decide_eq_false (fun z => e (by injection h1.1 z))]
      exact (beq_false_of_ne (fun z => e (h2.1 z))).symm
    have HPOS := Lib.hid hpos
    have d0 : (0 : Int) <= (i : Int) := by omega
    have d1 : (i : Int) < (n : Int) := by omega
    clear hx hxe hpos
    go_wp2_with fail
    go_region_held3 (fun w' => w'.cell? ⟨b, off + i * 3, none⟩ = some (.slice x.A x.e.key.length x.c) /\ w'.cell? ⟨b, off + i * 3 + 1, none⟩ = some (.int .i64 x.e.pg) /\ w'.cell? ⟨b, off + i * 3 + 2, none⟩ = some (.int .i64 x.e.sl) /\ w'.cell? ⟨w.heap.size, 0, none⟩ = some (.slice t.A t.e.key.length t.c) /\ w'.cell? ⟨w.heap.size, 1, none⟩ = some (.int .i64 t.e.pg) /\ w'.cell? ⟨w.heap.size, 2, none⟩ = some (.int .i64 t.e.sl))
     (first | go_keep | fail)
     (first
       | (go_at_call 126; go_must (refine HORD.out.mono ?_; rintro e w2 ⟨rfl, hq2⟩; have k0 := hq2.cell r0 (fun x => x); have k1 := hq2.cell r1 (fun x => x); have k2 := hq2.cell r2 (fun x => x); have k3 := hq2.cell t0 (fun x => x); have k4 := hq2.cell t1 (fun x => x); have k5 := hq2.cell t2 (fun x => x)))
       | fail)
    have HQ2 := Lib.hid (HQ.out.drew.trans hq2)
    have HB2 := Lib.hid (hq2.get HB.out (fun x => x))
    clear hq2 k0 k1 k2 k3 k4 k5 r0 r1 r2 t0 t1 t2 HORD HB HQ
    go_wp2
    go_ret2
    rw [HRES.out, <- HPOS.out]
    exact ⟨rfl, HQ2.out⟩
   ·obtain rfl : i = n := by omega
    have HRES : Hid (decide (t.e ∈ es) = false) := decide_eq_false (fun z => by
      have := (posE_mem HS.out).1 z
      rw [<- hpos] at this
      have := (List.getElem?_eq_some_iff.1 this).1
      omega)
    have HPOS := Lib.hid hpos
    clear hpos
    go_wp2_with fail
    go_quiet (fail)
    go_wp2
    go_ret2
    rw [HRES.out, <- HPOS.out]
    exact ⟨rfl, HQ.out.drewN _⟩
end Go.Proofs.YthipgglplneijaaGreatDoor
namespace Go.Lap
open Go.RowKit
section
variable {P : Program} {w : World} {ops : Array Oper} {rest : List Oper} {o : Oper} {a : Act} {K : Act -> World -> Prop} {Q : Exit -> Act -> World -> Prop}
def laid (cur : Array Value) (at_ : Nat) (cs : List Value) : Array Value := (cur.toList.take at_ ++ cs ++ cur.toList.drop (at_ + cs.length)).toArray
theorem laid_size {cur : Array Value} {at_ : Nat} {cs : List Value} (h : at_ + cs.length <= cur.size) : (laid cur at_ cs).size = cur.size := by
 unfold laid
 simp
 omega
theorem laid_list (cur : Array Value) (at_ : Nat) (cs : List Value) : (laid cur at_ cs).toList = cur.toList.take at_ ++ cs ++ cur.toList.drop (at_ + cs.length) := by simp [laid]
theorem run_copy_ex (w : World) (dT sT elem : TypeId) {k g at_ dLen dCap sLen sCap : Nat} {src : Addr} {cur : Array Value} {t : TypeId} {cs : List Value} {m : Nat}
  (hu : P.underlying dT = some (.slice elem)) (hk : (P.info? elem).map (·.size) = some k) (hm : Nat.min sLen dLen = m)
  (hg : w.heap[g]? = some (.cells cur t (0, 0))) (hn : cs.length = m * k) (hsrc : ∀ j v, cs[j]? = some v -> w.cell? (src.add j) = some v) (hfit : at_ + cs.length <= cur.size) (h1 : ∀ v ∈ cs, v.oneCell' = true) :
  ∃ w', (∀ ty, (Builtin.copy_ #[dT, sT] ty #[.slice (some ⟨g, at_, none⟩) dLen dCap, .slice (some src) sLen sCap]).run P w = .ok (.int .i64 (m : Int)) w') /\ w'.heap[g]? = some (.cells (laid cur at_ cs) t (0, 0)) /\ Only (· = g) w w' := by
 subst hm
 exact ⟨_, fun ty => run_copy_rowK (P := P) w dT sT ty elem k g at_ dLen dCap src sLen sCap cur t cs hu hk hg hn hsrc hfit h1, setRow_heap w g cur _ t (0, 0) hg, (Only.refl _ _).setRow g _ (fun _ => rfl)⟩
theorem zerosK {t tn e : TypeId} {size bytes : Nat} (E : Elem P t e size bytes) (htn : P.underlying tn = some (.int .i64)) (hgd : o.guard = none) (s x : Operand) (ho : o.op = .call { callee := .builtin .append, args := #[s, x], argTypes := #[t, tn] })
  {g off i cap m : Nat} {z : Int} {olds : List Value} (hs : a.eval s = .slice (some ⟨g, off, none⟩) i cap) (hx : a.eval x = .int .i64 z) (hz : z = (m : Int)) (hm : 0 < m) (hcap : cap < i + m) (hl : olds.length = i * size) (hold : ∀ j v, olds[j]? = some v -> w.cell? ⟨g, off + j, none⟩ = some v)
  (hbig : (i + m) * bytes <= 140737488355328) (h63 : i + m <= 1000000)
  (h : ∀ w' G ROW, i + m <= G -> G <= maxLen -> w'.heap[w.heap.size]? = some (.cells ROW e (0, 0)) -> ROW.size = G * size -> ROW.toList.take (i * size) = olds -> Only (fun _ => False) w w' -> wpList P ops Q rest (a.put o.dst (.slice (some ⟨w.heap.size, 0, none⟩) (i + m) G)) w') : wpList P ops Q (o :: rest) a w := by
 obtain ⟨inf, zv, ht, hi, h0, h1', h2, hzc, hsz⟩ := E
 subst hz
 have hfc : (Builtin.firstCells inf.size i (.slice (some ⟨g, off, none⟩) i cap)).run P w.drew = .ok olds.toArray w.drew := by
  have := run_loadCells_list (P := P) w.drew ⟨g, off, none⟩ olds (fun j v hj => by rw [add_none]; exact hold j v hj)
  rw [hl] at this
  unfold Builtin.firstCells
  rw [h1']
  exact this
 have hbb : m * inf.bytes <= 281474976710656 := by
  rw [h2]
  have : m * bytes <= (i + m) * bytes := Nat.mul_le_mul_right _ (by omega)
  omega
 have hrun := Lib.run_append_grow_zeros (P := P) w t tn o.type e inf zv .i64 .i64 ht htn hi h0 (some ⟨g, off, none⟩) i cap olds hfc m hm (by omega) hcap (by omega) hbb (by rw [h2]; exact growslice_fits hcap hbig)
 refine Lib.wpList_append_run w hgd s x t tn ho _ _ hs hx _ _ hrun ?_
 have hG := grownCap_ge w (i + m) cap e
 refine h _ (grownCap w (i + m) cap e) (olds.toArray ++ Builtin.zeroCells zv.cells m ++ Builtin.zeroCells zv.cells (grownCap w (i + m) cap e - (i + m))) hG (grownCap_le_maxLen w (i + m) cap e (by unfold maxLen; omega)) (alloc_new w.drew _) ?_ ?_ ((Only.refl _ w).drew.alloc _)
 ·simp only [Array.size_append, List.size_toArray, size_zeroCells, hzc, hl]
  rw [<- Nat.add_mul, <- Nat.add_mul]
  congr 1
  omega
 ·simp only [Array.toList_append, List.append_assoc]
  rw [<- hl]
  simp
end
theorem laid_two {cur : Array Value} {xs news : List Value} {i n size : Nat} (hx : xs.length = n * size) (hn : news.length = size) (hi : i <= n) (hc : cur.toList.take (i * size) = xs.take (i * size)) (hs : (n + 1) * size <= cur.size) :
  (laid (laid cur (i * size) news) ((i + 1) * size) (xs.drop (i * size))).toList.take ((n + 1) * size) = xs.take (i * size) ++ news ++ xs.drop (i * size) := by
 have him : i * size <= n * size := Nat.mul_le_mul_right _ hi
 have e1 : (n + 1) * size = n * size + size := by rw [Nat.add_mul]; omega
 have e2 : (i + 1) * size = i * size + size := by rw [Nat.add_mul]; omega
 have hlc : cur.toList.length = cur.size := by simp
 rw [laid_list, laid_list, hc]
 have htl : (xs.take (i * size)).length = i * size := by rw [List.length_take]; omega
 have h1 : (xs.take (i * size) ++ news ++ cur.toList.drop (i * size + news.length)).take ((i + 1) * size) = xs.take (i * size) ++ news := by
  rw [List.take_append_of_le_length (by rw [List.length_append, htl]; omega), List.take_of_length_le (by rw [List.length_append, htl]; omega)]
 rw [h1]
 rw [List.take_append_of_le_length (by rw [List.length_append, List.length_append, htl, List.length_drop]; omega), List.take_of_length_le (by rw [List.length_append, List.length_append, htl, List.length_drop]; omega)]
theorem laid_back {cur : Array Value} {xs news : List Value} {i n size : Nat} (hx : xs.length = n * size) (hn : news.length = size) (hi : i <= n) (hc : cur.toList.take (n * size) = xs) (hs : (n + 1) * size <= cur.size) :
  (laid (laid cur ((i + 1) * size) (xs.drop (i * size))) (i * size) news).toList.take ((n + 1) * size) = xs.take (i * size) ++ news ++ xs.drop (i * size) := by
 have him : i * size <= n * size := Nat.mul_le_mul_right _ hi
 have e1 : (n + 1) * size = n * size + size := by rw [Nat.add_mul]; omega
 have e2 : (i + 1) * size = i * size + size := by rw [Nat.add_mul]; omega
 have hlc : cur.toList.length = cur.size := by simp
 rw [laid_list, laid_list]
 have ht : (cur.toList.take ((i + 1) * size)).length = (i + 1) * size := by rw [List.length_take]; omega
 have hd : (xs.drop (i * size)).length = n * size - i * size := by rw [List.length_drop, hx]
 have h1 : (cur.toList.take ((i + 1) * size) ++ xs.drop (i * size) ++ cur.toList.drop ((i + 1) * size + (xs.drop (i * size)).length)).take (i * size) = xs.take (i * size) := by
  rw [List.append_assoc, List.take_append_of_le_length (by rw [ht]; omega), List.take_take, Nat.min_eq_left (by omega), <- hc, List.take_take, Nat.min_eq_left him]
 have h2 : (cur.toList.take ((i + 1) * size) ++ xs.drop (i * size) ++ cur.toList.drop ((i + 1) * size + (xs.drop (i * size)).length)).drop (i * size + news.length) = xs.drop (i * size) ++ cur.toList.drop ((i + 1) * size + (xs.drop (i * size)).length) := by
  rw [List.append_assoc, List.drop_append_of_le_length (by rw [ht]; omega), List.drop_of_length_le (by rw [ht]; omega)]
  rfl
 rw [h1, h2, <- List.append_assoc]
 have htl : (xs.take (i * size)).length = i * size := by rw [List.length_take]; omega
 rw [List.take_append_of_le_length (by rw [List.length_append, List.length_append, htl, hd]; omega), List.take_of_length_le (by rw [List.length_append, List.length_append, htl, hd]; omega)]
theorem laid_two1 {cur : Array Value} {xs news : List Value} {i n : Nat} (hx : xs.length = n) (hn : news.length = 1) (hi : i <= n) (hc : cur.toList.take i = xs.take i) (hs : n + 1 <= cur.size) :
  (laid (laid cur i news) (i + 1) (xs.drop i)).toList.take ((n + 1) * 1) = xs.take i ++ news ++ xs.drop i := by
 have := laid_two (size := 1) (cur := cur) (xs := xs) (news := news) (i := i) (n := n) (by omega) hn hi (by simpa using hc) (by omega)
 simpa using this
theorem laid_back1 {cur : Array Value} {xs news : List Value} {i n : Nat} (hx : xs.length = n) (hn : news.length = 1) (hi : i <= n) (hc : cur.toList.take n = xs) (hs : n + 1 <= cur.size) :
  (laid (laid cur (i + 1) (xs.drop i)) i news).toList.take ((n + 1) * 1) = xs.take i ++ news ++ xs.drop i := by
 have := laid_back (size := 1) (cur := cur) (xs := xs) (news := news) (i := i) (n := n) (by omega) hn hi (by simpa using hc) (by omega)
 simpa using this
end Go.Lap
namespace Go.Proofs.YthipgglplneijaaGreatDoor
open Go.RowKit Go.Lap
theorem insertE_size : (Tryz.prog.info? 124).map (·.size) = some 3 := by kernel_rfl
set_option maxHeartbeats 1000000 in
theorem insertE_end (v : Value) (n vb : Nat) (xs news : List Value) (w : World) (hown : w.ownsRow 0 124 3 v n xs) (hnl : news.length = 3) (hnew : w.heap[vb]? = some (.cells news.toArray 124 (0, 0))) (h1 : ∀ u ∈ news, u.oneCell' = true) (hn : n <= 100000) :
  Calls Tryz.prog 127 #[v, .int .i64 (n : Int), .slice (some ⟨vb, 0, none⟩) 1 1] w fun e w' => ∃ v', e = .returned v' /\ Grew w w' 124 3 v v' (n + 1) (xs ++ news) := by
 obtain ⟨A, cap, hv, hnc, hcm, _⟩ := own_form hown
 subst hv
 unfold maxLen at hcm
 have HO := Lib.hid hown
 have HR : Hid (Rd w (fun _ => True) 3 (some ⟨vb, 0, none⟩) 1 news) := ⟨by omega, fun _ => ⟨vb, 0, rfl, trivial, fun j u hu => by rw [cell_of hnew]; simpa using hu⟩⟩
 have H1 := Lib.hid h1
 clear hown hnew h1
 by_cases hc : cap = n
 ·subst hc
  go_enter Tryz.func127, Tryz.ntmps127
  go_wp2_with (at_builtin; refine app elem_ent rfl (.tmp 23) (.tmp 24) rfl rfl HO.out rfl HR.out H1.out (by unfold maxLen; omega) (by omega) ?_)
  intro v' w1 hg
  have HG := Lib.hid hg
  clear hg
  go_wp2
  go_ret
  exact ⟨v', rfl, HG.out⟩
 ·go_enter Tryz.func127, Tryz.ntmps127
  go_wp2_with (at_builtin; refine app elem_ent rfl (.tmp 23) (.tmp 24) rfl rfl HO.out rfl HR.out H1.out (by unfold maxLen; omega) (by omega) ?_)
  intro v' w1 hg
  have HG := Lib.hid hg
  clear hg
  go_wp2
  go_ret
  exact ⟨v', rfl, HG.out⟩
set_option maxHeartbeats 2000000 in
theorem insertE_grow (g n i vb : Nat) (xs news : List Value) (w : World) (hown : w.ownsRow 0 124 3 (.slice (some ⟨g, 0, none⟩) n n) n xs) (hnl : news.length = 3) (hnew : w.heap[vb]? = some (.cells news.toArray 124 (0, 0))) (h1 : ∀ u ∈ news, u.oneCell' = true) (hx1 : ∀ u ∈ xs, u.oneCell' = true) (hn : n <= 100000) (hi : i < n) :
  Calls Tryz.prog 127 #[.slice (some ⟨g, 0, none⟩) n n, .int .i64 (i : Int), .slice (some ⟨vb, 0, none⟩) 1 1] w fun e w' => ∃ v', e = .returned v' /\ Grew w w' 124 3 (.slice (some ⟨g, 0, none⟩) n n) v' (n + 1) (xs.take (i * 3) ++ news ++ xs.drop (i * 3)) := by
 have hxl := hown.1
 have hcell : ∀ j v, xs[j]? = some v -> w.cell? ⟨g, j, none⟩ = some v := fun j v hj => by have := hown.cells rfl j v hj; rw [add_none, Nat.zero_add] at this; exact this
 have hgl : g < w.heap.size := (hown.lt g rfl).2
 have HC := Lib.hid hcell
 have HN := Lib.hid hnew
 have H1 := Lib.hid h1
 have HX := Lib.hid hx1
 have hin : ¬ ((i : Int) = (n : Int)) := by omega
 have hin2 : ¬ n = i := by omega
 have d0 : (0 : Int) <= (i : Int) := by omega
 have d1 : (i : Int) <= (n : Int) := by omega
 have d2 : (i : Int) <= (n : Int) + 1 := by omega
 clear hown hcell hnew h1 hx1
 go_enter Tryz.func127, Tryz.ntmps127
 go_wp2_with (at_builtin; refine zerosK elem_ent Tryz.underlying3 rfl (.tmp 34) (.tmp 39) rfl (g := g) (off := 0) (i := i) (cap := n) (m := n + 1 - i) (olds := xs.take (i * 3)) rfl rfl (by omega) (by omega) (by omega) (by rw [List.length_take]; omega) (fun j v hj => by
   rw [Nat.zero_add]
   rw [List.getElem?_take] at hj
   split at hj
   · exact HC.out j v hj
   · cases hj) (by omega) (by omega) ?_)
 intro w1 G ROW hG hGm hh1 hRs hRt hq1
 rw [show i + (n + 1 - i) = n + 1 by omega] at hG ⊢
 have HH1 := Lib.hid hh1
 have HQ1 := Lib.hid hq1
 have HRT := Lib.hid hRt
 have hvb1 : w1.heap[vb]? = _ := hq1.get HN.out (fun x => x)
 have HV1 := Lib.hid hvb1
 have hGi : ¬ G = i := by omega
 have hGi1 : ¬ G = i + 1 := by omega
 unfold maxLen at hGm
 clear hh1 hq1 hRt hvb1
 obtain ⟨w2, hcp1, hh2, ho2⟩ := run_copy_ex (P := Tryz.prog) w1 184 184 124 (k := 3) (g := w.heap.size) (at_ := i * 3) (dLen := n + 1 - i) (dCap := G - i) (sLen := 1) (sCap := 1) (src := ⟨vb, 0, none⟩) (cs := news) (m := 1) Tryz.underlying184 insertE_size (Nat.min_eq_left (by omega)) HH1.out (by rw [hnl]) (fun j v hj => by rw [add_none, cell_of HV1.out, Nat.zero_add]; simpa using hj) (by rw [hnl, hRs]; omega) H1.out
 have HH2 := Lib.hid hh2
 have HO2 : Hid (Only (fun k => k = w.heap.size) w w2) := (HQ1.out.mono (T := fun k => k = w.heap.size) (fun _ _ x => x.elim)).trans' ho2 (fun k _ e => e)
 clear hh2 ho2 HH1 HV1
 obtain ⟨w3, hcp2, hh3, ho3⟩ := run_copy_ex (P := Tryz.prog) w2.drew 184 184 124 (k := 3) (g := w.heap.size) (at_ := (i + 1) * 3) (dLen := n - i) (dCap := G - (i + 1)) (sLen := n - i) (sCap := n - i) (src := ⟨g, i * 3, none⟩) (cs := xs.drop (i * 3)) (m := n - i) Tryz.underlying184 insertE_size (Nat.min_self _) HH2.out (by rw [List.length_drop]; omega) (fun j v hj => by
   rw [add_none]
   rw [List.getElem?_drop] at hj
   exact HO2.out.cell (HC.out _ v hj) (by show ¬ g = w.heap.size; omega)) (by rw [laid_size (by rw [hnl, hRs]; omega), List.length_drop, hRs]; omega) (fun v hv => HX.out v (List.mem_of_mem_drop hv))
 have HH3 := Lib.hid hh3
 have HO3 : Hid (Only (fun k => k = w.heap.size) w w3) := HO2.out.drew.trans ho3
 clear hh3 ho3 HH2 HO2
 have dw : IntKind.i64.wrap ((i : Int) + 1) = (i : Int) + 1 := wrapI (by omega)
 have dt : ((i : Int) + 1).toNat = i + 1 := by omega
 have d3 : (0 : Int) <= (i : Int) + 1 := by omega
 have d4 : (i : Int) + 1 <= (n : Int) + 1 := by omega
 go_wp2_with fail
 go_region_held3 (fun _ => True) (first | trivial | fail) (fail)
 have HF : Hid (Grew w w3 124 3 (.slice (some ⟨g, 0, none⟩) n n) (.slice (some ⟨w.heap.size, 0, none⟩) (n + 1) G) (n + 1) (xs.take (i * 3) ++ news ++ xs.drop (i * 3))) := by
  refine ⟨⟨?_, Or.inr ⟨w.heap.size, G, _, rfl, Nat.zero_le _, HH3.out, hG, by unfold maxLen; omega, ?_, ?_⟩⟩, HO3.out.mono (fun k hk e => by omega), Or.inr rfl⟩
  ·simp only [List.length_append, List.length_take, List.length_drop, hnl]; omega
  ·rw [laid_size (by rw [laid_size (by rw [hnl, hRs]; omega), List.length_drop, hRs]; omega), laid_size (by rw [hnl, hRs]; omega), hRs]
  ·exact laid_two hxl hnl (by omega) HRT.out (by rw [hRs]; omega)
 clear hcp1 hcp2 HH3 HO3
 go_wp2
 go_ret
 exact ⟨_, rfl, HF.out⟩
set_option maxHeartbeats 2000000 in
theorem insertE_shift (g n cap i vb : Nat) (xs news : List Value) (w : World) (hown : w.ownsRow 0 124 3 (.slice (some ⟨g, 0, none⟩) n cap) n xs) (hnl : news.length = 3) (hnew : w.heap[vb]? = some (.cells news.toArray 124 (0, 0))) (h1 : ∀ u ∈ news, u.oneCell' = true) (hx1 : ∀ u ∈ xs, u.oneCell' = true) (hn : n <= 100000) (hi : i < n) (hcap : n + 1 <= cap) (hvg : vb ≠ g) :
  Calls Tryz.prog 127 #[.slice (some ⟨g, 0, none⟩) n cap, .int .i64 (i : Int), .slice (some ⟨vb, 0, none⟩) 1 1] w fun e w' => ∃ v', e = .returned v' /\ Grew w w' 124 3 (.slice (some ⟨g, 0, none⟩) n cap) v' (n + 1) (xs.take (i * 3) ++ news ++ xs.drop (i * 3)) := by
 have hxl := hown.1
 have hcell : ∀ j v, xs[j]? = some v -> w.cell? ⟨g, j, none⟩ = some v := fun j v hj => by have := hown.cells rfl j v hj; rw [add_none, Nat.zero_add] at this; exact this
 obtain ⟨cur, hcur, hcs, hct, hcm⟩ : ∃ cur : Array Value, w.heap[g]? = some (.cells cur 124 (0, 0)) /\ cur.size = cap * 3 /\ cur.toList.take (n * 3) = xs /\ cap <= maxLen := by
  rcases hown.2 with ⟨e1, _⟩ | ⟨g', cap', cur, e1, _, hh, _, hm, h1, h2⟩
  ·cases e1
  ·injection e1 with e1 _ e3
   injection e1 with e1
   injection e1 with e1 _ _
   subst e1 e3
   exact ⟨cur, hh, h1, h2, hm⟩
 unfold maxLen at hcm
 have hov : ∀ lb cb, (callFunc 168 #[.slice (some ⟨vb, 0, none⟩) 1 1, .slice (some ⟨g, (i + 1) * 3, none⟩) lb cb]).run Tryz.prog w = .ok (.value (.bool false)) w := fun lb cb => by
  rw [run_callFunc_extern Tryz.func168 (by kernel_rfl) (by kernel_rfl) (by kernel_rfl) (e := Extern.SlicesOverlaps.overlaps #[184, 184] #[4]) (by kernel_rfl),
    Lib.run_overlaps_apart w 184 4 124 Tryz.underlying184 3 (fun w => by kernel_rfl) ⟨vb, 0, none⟩ ⟨g, (i + 1) * 3, none⟩ 1 1 lb cb hvg 124 124 news.toArray.size cur.size (by simp [World.shape?, hnew]) (by simp [World.shape?, hcur]) (by rw [hcs]; omega) (frozen_of hnew 0) (frozen_of hnew _)]
  rfl
 have hin : ¬ ((i : Int) = (n : Int)) := by omega
 have d0 : (0 : Int) <= (i : Int) := by omega
 have d1 : (i : Int) <= (n : Int) := by omega
 have d2 : (i : Int) <= (n : Int) + 1 := by omega
 have dw : IntKind.i64.wrap ((i : Int) + 1) = (i : Int) + 1 := wrapI (by omega)
 have dt : ((i : Int) + 1).toNat = i + 1 := by omega
 have d3 : (0 : Int) <= (i : Int) + 1 := by omega
 have d4 : (i : Int) + 1 <= (n : Int) + 1 := by omega
 have hci : ¬ cap = i := by omega
 have hci1 : ¬ cap = i + 1 := by omega
 obtain ⟨w2, hcp1, hh2, ho2⟩ := run_copy_ex (P := Tryz.prog) w.drew 184 184 124 (k := 3) (g := g) (at_ := (i + 1) * 3) (dLen := n - i) (dCap := cap - (i + 1)) (sLen := n + 1 - i) (sCap := cap - i) (src := ⟨g, i * 3, none⟩) (cs := xs.drop (i * 3)) (m := n - i) Tryz.underlying184 insertE_size (Nat.min_eq_right (by omega)) (show w.drew.heap[g]? = _ from hcur) (by rw [List.length_drop]; omega) (fun j v hj => by
   rw [add_none]
   rw [List.getElem?_drop] at hj
   exact hcell _ v hj) (by rw [List.length_drop, hcs]; omega) (fun v hv => hx1 v (List.mem_of_mem_drop hv))
 have HO2 : Hid (Only (fun k => k = g) w w2) := ((Only.refl (fun k => k = g) w).drew).trans ho2
 obtain ⟨w3, hcp2, hh3, ho3⟩ := run_copy_ex (P := Tryz.prog) w2 184 184 124 (k := 3) (g := g) (at_ := i * 3) (dLen := n + 1 - i) (dCap := cap - i) (sLen := 1) (sCap := 1) (src := ⟨vb, 0, none⟩) (cs := news) (m := 1) Tryz.underlying184 insertE_size (Nat.min_eq_left (by omega)) hh2 (by rw [hnl]) (fun j v hj => by rw [add_none, cell_of (HO2.out.get hnew hvg), Nat.zero_add]; simpa using hj) (by rw [hnl, laid_size (by rw [List.length_drop, hcs]; omega), hcs]; omega) h1
 have HF : Hid (Grew w w3 124 3 (.slice (some ⟨g, 0, none⟩) n cap) (.slice (some ⟨g, 0, none⟩) (n + 1) cap) (n + 1) (xs.take (i * 3) ++ news ++ xs.drop (i * 3))) := by
  refine ⟨⟨?_, Or.inr ⟨g, cap, _, rfl, Nat.zero_le _, hh3, hcap, by unfold maxLen; omega, ?_, ?_⟩⟩, (HO2.out.trans ho3).mono (fun k hk e => by rw [e]; rfl), Or.inl rfl⟩
  ·simp only [List.length_append, List.length_take, List.length_drop, hnl]; omega
  ·rw [laid_size (by rw [hnl, laid_size (by rw [List.length_drop, hcs]; omega), hcs]; omega), laid_size (by rw [List.length_drop, hcs]; omega), hcs]
  ·exact laid_back hxl hnl (by omega) hct (by rw [hcs]; omega)
 clear hown hcell hcur hct hnew h1 hx1 hh2 ho2 hh3 ho3 HO2
 go_enter Tryz.func127, Tryz.ntmps127
 go_wp2_with fail
 go_region_held3 (fun _ => True) (first | trivial | fail) (fail)
 go_wp2
 go_ret
 exact ⟨_, rfl, HF.out⟩
theorem insertE_any (v : Value) (n i vb : Nat) (xs news : List Value) (w : World) (hown : w.ownsRow 0 124 3 v n xs) (hnl : news.length = 3) (hnew : w.heap[vb]? = some (.cells news.toArray 124 (0, 0))) (h1 : ∀ u ∈ news, u.oneCell' = true) (hx1 : ∀ u ∈ xs, u.oneCell' = true) (hn : n <= 100000) (hi : i <= n) (hvb : v.ownBlock ≠ some vb) :
  Calls Tryz.prog 127 #[v, .int .i64 (i : Int), .slice (some ⟨vb, 0, none⟩) 1 1] w fun e w' => ∃ v', e = .returned v' /\ Grew w w' 124 3 v v' (n + 1) (xs.take (i * 3) ++ news ++ xs.drop (i * 3)) := by
 have hxl := hown.1
 by_cases hin : i = n
 ·subst hin
  have := insertE_end v i vb xs news w hown hnl hnew h1 hn
  rw [List.take_of_length_le (by omega), List.drop_of_length_le (by omega), List.append_nil]
  exact this
 ·rcases owns_cases hown with ⟨_, h0⟩ | ⟨g, cap, rfl, hnc, _⟩
  ·omega
  ·by_cases hc : cap = n
   ·subst hc
    exact insertE_grow g cap i vb xs news w hown hnl hnew h1 hx1 hn (by omega)
   ·exact insertE_shift g n cap i vb xs news w hown hnl hnew h1 hx1 hn (by omega) (by omega) (fun e => hvb (by rw [e]; rfl))
theorem insertN_size : (Tryz.prog.info? 183).map (·.size) = some 1 := by kernel_rfl
set_option maxHeartbeats 1000000 in
theorem insertN_end (v : Value) (n vb : Nat) (xs news : List Value) (w : World) (hown : w.ownsRow 0 183 1 v n xs) (hnl : news.length = 1) (hnew : w.heap[vb]? = some (.cells news.toArray 183 (0, 0))) (h1 : ∀ u ∈ news, u.oneCell' = true) (hn : n <= 100000) :
  Calls Tryz.prog 129 #[v, .int .i64 (n : Int), .slice (some ⟨vb, 0, none⟩) 1 1] w fun e w' => ∃ v', e = .returned v' /\ Grew w w' 183 1 v v' (n + 1) (xs ++ news) := by
 obtain ⟨A, cap, hv, hnc, hcm, _⟩ := own_form hown
 subst hv
 unfold maxLen at hcm
 have HO := Lib.hid hown
 have HR : Hid (Rd w (fun _ => True) 1 (some ⟨vb, 0, none⟩) 1 news) := ⟨by omega, fun _ => ⟨vb, 0, rfl, trivial, fun j u hu => by rw [cell_of hnew]; simpa using hu⟩⟩
 have H1 := Lib.hid h1
 clear hown hnew h1
 by_cases hc : cap = n
 ·subst hc
  go_enter Tryz.func129, Tryz.ntmps129
  go_wp2_with (at_builtin; refine app elem_node rfl (.tmp 23) (.tmp 24) rfl rfl HO.out rfl HR.out H1.out (by unfold maxLen; omega) (by omega) ?_)
  intro v' w1 hg
  have HG := Lib.hid hg
  clear hg
  go_wp2
  go_ret
  exact ⟨v', rfl, HG.out⟩
 ·go_enter Tryz.func129, Tryz.ntmps129
  go_wp2_with (at_builtin; refine app elem_node rfl (.tmp 23) (.tmp 24) rfl rfl HO.out rfl HR.out H1.out (by unfold maxLen; omega) (by omega) ?_)
  intro v' w1 hg
  have HG := Lib.hid hg
  clear hg
  go_wp2
  go_ret
  exact ⟨v', rfl, HG.out⟩
set_option maxHeartbeats 2000000 in
theorem insertN_grow (g n i vb : Nat) (xs news : List Value) (w : World) (hown : w.ownsRow 0 183 1 (.slice (some ⟨g, 0, none⟩) n n) n xs) (hnl : news.length = 1) (hnew : w.heap[vb]? = some (.cells news.toArray 183 (0, 0))) (h1 : ∀ u ∈ news, u.oneCell' = true) (hx1 : ∀ u ∈ xs, u.oneCell' = true) (hn : n <= 100000) (hi : i < n) :
  Calls Tryz.prog 129 #[.slice (some ⟨g, 0, none⟩) n n, .int .i64 (i : Int), .slice (some ⟨vb, 0, none⟩) 1 1] w fun e w' => ∃ v', e = .returned v' /\ Grew w w' 183 1 (.slice (some ⟨g, 0, none⟩) n n) v' (n + 1) (xs.take i ++ news ++ xs.drop i) := by
 have hxl := hown.1
 have hcell : ∀ j v, xs[j]? = some v -> w.cell? ⟨g, j, none⟩ = some v := fun j v hj => by have := hown.cells rfl j v hj; rw [add_none, Nat.zero_add] at this; exact this
 have hgl : g < w.heap.size := (hown.lt g rfl).2
 have HC := Lib.hid hcell
 have HN := Lib.hid hnew
 have H1 := Lib.hid h1
 have HX := Lib.hid hx1
 have hin : ¬ ((i : Int) = (n : Int)) := by omega
 have hin2 : ¬ n = i := by omega
 have d0 : (0 : Int) <= (i : Int) := by omega
 have d1 : (i : Int) <= (n : Int) := by omega
 have d2 : (i : Int) <= (n : Int) + 1 := by omega
 clear hown hcell hnew h1 hx1
 go_enter Tryz.func129, Tryz.ntmps129
 go_wp2_with (at_builtin; refine zerosK elem_node Tryz.underlying3 rfl (.tmp 34) (.tmp 39) rfl (g := g) (off := 0) (i := i) (cap := n) (m := n + 1 - i) (olds := xs.take i) rfl rfl (by omega) (by omega) (by omega) (by rw [List.length_take]; omega) (fun j v hj => by
   rw [Nat.zero_add]
   rw [List.getElem?_take] at hj
   split at hj
   · exact HC.out j v hj
   · cases hj) (by omega) (by omega) ?_)
 intro w1 G ROW hG hGm hh1 hRs hRt hq1
 rw [show i + (n + 1 - i) = n + 1 by omega] at hG ⊢
 have HH1 := Lib.hid hh1
 have HQ1 := Lib.hid hq1
 have HRT := Lib.hid hRt
 have hvb1 : w1.heap[vb]? = _ := hq1.get HN.out (fun x => x)
 have HV1 := Lib.hid hvb1
 have hGi : ¬ G = i := by omega
 have hGi1 : ¬ G = i + 1 := by omega
 unfold maxLen at hGm
 clear hh1 hq1 hRt hvb1
 obtain ⟨w2, hcp1, hh2, ho2⟩ := run_copy_ex (P := Tryz.prog) w1 185 185 183 (k := 1) (g := w.heap.size) (at_ := i) (dLen := n + 1 - i) (dCap := G - i) (sLen := 1) (sCap := 1) (src := ⟨vb, 0, none⟩) (cs := news) (m := 1) Tryz.underlying185 insertN_size (Nat.min_eq_left (by omega)) HH1.out (by rw [hnl]) (fun j v hj => by rw [add_none, cell_of HV1.out, Nat.zero_add]; simpa using hj) (by rw [hnl, hRs]; omega) H1.out
 have HH2 := Lib.hid hh2
 have HO2 : Hid (Only (fun k => k = w.heap.size) w w2) := (HQ1.out.mono (T := fun k => k = w.heap.size) (fun _ _ x => x.elim)).trans' ho2 (fun k _ e => e)
 clear hh2 ho2 HH1 HV1
 obtain ⟨w3, hcp2, hh3, ho3⟩ := run_copy_ex (P := Tryz.prog) w2.drew 185 185 183 (k := 1) (g := w.heap.size) (at_ := (i + 1)) (dLen := n - i) (dCap := G - (i + 1)) (sLen := n - i) (sCap := n - i) (src := ⟨g, i, none⟩) (cs := xs.drop i) (m := n - i) Tryz.underlying185 insertN_size (Nat.min_self _) HH2.out (by rw [List.length_drop]; omega) (fun j v hj => by
   rw [add_none]
   rw [List.getElem?_drop] at hj
   exact HO2.out.cell (HC.out _ v hj) (by show ¬ g = w.heap.size; omega)) (by rw [laid_size (by rw [hnl, hRs]; omega), List.length_drop, hRs]; omega) (fun v hv => HX.out v (List.mem_of_mem_drop hv))
 have HH3 := Lib.hid hh3
 have HO3 : Hid (Only (fun k => k = w.heap.size) w w3) := HO2.out.drew.trans ho3
 clear hh3 ho3 HH2 HO2
 have dw : IntKind.i64.wrap ((i : Int) + 1) = (i : Int) + 1 := wrapI (by omega)
 have dt : ((i : Int) + 1).toNat = i + 1 := by omega
 have d3 : (0 : Int) <= (i : Int) + 1 := by omega
 have d4 : (i : Int) + 1 <= (n : Int) + 1 := by omega
 go_wp2_with fail
 go_region_held3 (fun _ => True) (first | trivial | fail) (fail)
 have HF : Hid (Grew w w3 183 1 (.slice (some ⟨g, 0, none⟩) n n) (.slice (some ⟨w.heap.size, 0, none⟩) (n + 1) G) (n + 1) (xs.take i ++ news ++ xs.drop i)) := by
  refine ⟨⟨?_, Or.inr ⟨w.heap.size, G, _, rfl, Nat.zero_le _, HH3.out, hG, by unfold maxLen; omega, ?_, ?_⟩⟩, HO3.out.mono (fun k hk e => by omega), Or.inr rfl⟩
  ·simp only [List.length_append, List.length_take, List.length_drop, hnl]; omega
  ·rw [laid_size (by rw [laid_size (by rw [hnl, hRs]; omega), List.length_drop, hRs]; omega), laid_size (by rw [hnl, hRs]; omega), hRs]; omega
  ·exact laid_two1 (by omega) hnl (by omega) HRT.out (by rw [hRs]; omega)
 clear hcp1 hcp2 HH3 HO3
 go_wp2
 go_ret
 exact ⟨_, rfl, HF.out⟩
set_option maxHeartbeats 2000000 in
theorem insertN_shift (g n cap i vb : Nat) (xs news : List Value) (w : World) (hown : w.ownsRow 0 183 1 (.slice (some ⟨g, 0, none⟩) n cap) n xs) (hnl : news.length = 1) (hnew : w.heap[vb]? = some (.cells news.toArray 183 (0, 0))) (h1 : ∀ u ∈ news, u.oneCell' = true) (hx1 : ∀ u ∈ xs, u.oneCell' = true) (hn : n <= 100000) (hi : i < n) (hcap : n + 1 <= cap) (hvg : vb ≠ g) :
  Calls Tryz.prog 129 #[.slice (some ⟨g, 0, none⟩) n cap, .int .i64 (i : Int), .slice (some ⟨vb, 0, none⟩) 1 1] w fun e w' => ∃ v', e = .returned v' /\ Grew w w' 183 1 (.slice (some ⟨g, 0, none⟩) n cap) v' (n + 1) (xs.take i ++ news ++ xs.drop i) := by
 have hxl := hown.1
 have hcell : ∀ j v, xs[j]? = some v -> w.cell? ⟨g, j, none⟩ = some v := fun j v hj => by have := hown.cells rfl j v hj; rw [add_none, Nat.zero_add] at this; exact this
 obtain ⟨cur, hcur, hcs, hct, hcm⟩ : ∃ cur : Array Value, w.heap[g]? = some (.cells cur 183 (0, 0)) /\ cur.size = cap /\ cur.toList.take (n) = xs /\ cap <= maxLen := by
  rcases hown.2 with ⟨e1, _⟩ | ⟨g', cap', cur, e1, _, hh, _, hm, h1, h2⟩
  ·cases e1
  ·injection e1 with e1 _ e3
   injection e1 with e1
   injection e1 with e1 _ _
   subst e1 e3
   exact ⟨cur, hh, by simpa using h1, by simpa using h2, hm⟩
 unfold maxLen at hcm
 have hov : ∀ lb cb, (callFunc 170 #[.slice (some ⟨vb, 0, none⟩) 1 1, .slice (some ⟨g, (i + 1), none⟩) lb cb]).run Tryz.prog w = .ok (.value (.bool false)) w := fun lb cb => by
  rw [run_callFunc_extern Tryz.func170 (by kernel_rfl) (by kernel_rfl) (by kernel_rfl) (e := Extern.SlicesOverlaps.overlaps #[185, 185] #[4]) (by kernel_rfl),
    Lib.run_overlaps_apart w 185 4 183 Tryz.underlying185 1 (fun w => by kernel_rfl) ⟨vb, 0, none⟩ ⟨g, (i + 1), none⟩ 1 1 lb cb hvg 183 183 news.toArray.size cur.size (by simp [World.shape?, hnew]) (by simp [World.shape?, hcur]) (by rw [hcs]; omega) (frozen_of hnew 0) (frozen_of hnew _)]
  rfl
 have hin : ¬ ((i : Int) = (n : Int)) := by omega
 have d0 : (0 : Int) <= (i : Int) := by omega
 have d1 : (i : Int) <= (n : Int) := by omega
 have d2 : (i : Int) <= (n : Int) + 1 := by omega
 have dw : IntKind.i64.wrap ((i : Int) + 1) = (i : Int) + 1 := wrapI (by omega)
 have dt : ((i : Int) + 1).toNat = i + 1 := by omega
 have d3 : (0 : Int) <= (i : Int) + 1 := by omega
 have d4 : (i : Int) + 1 <= (n : Int) + 1 := by omega
 have hci : ¬ cap = i := by omega
 have hci1 : ¬ cap = i + 1 := by omega
 obtain ⟨w2, hcp1, hh2, ho2⟩ := run_copy_ex (P := Tryz.prog) w.drew 185 185 183 (k := 1) (g := g) (at_ := (i + 1)) (dLen := n - i) (dCap := cap - (i + 1)) (sLen := n + 1 - i) (sCap := cap - i) (src := ⟨g, i, none⟩) (cs := xs.drop i) (m := n - i) Tryz.underlying185 insertN_size (Nat.min_eq_right (by omega)) (show w.drew.heap[g]? = _ from hcur) (by rw [List.length_drop]; omega) (fun j v hj => by
   rw [add_none]
   rw [List.getElem?_drop] at hj
   exact hcell _ v hj) (by rw [List.length_drop, hcs]; omega) (fun v hv => hx1 v (List.mem_of_mem_drop hv))
 have HO2 : Hid (Only (fun k => k = g) w w2) := ((Only.refl (fun k => k = g) w).drew).trans ho2
 obtain ⟨w3, hcp2, hh3, ho3⟩ := run_copy_ex (P := Tryz.prog) w2 185 185 183 (k := 1) (g := g) (at_ := i) (dLen := n + 1 - i) (dCap := cap - i) (sLen := 1) (sCap := 1) (src := ⟨vb, 0, none⟩) (cs := news) (m := 1) Tryz.underlying185 insertN_size (Nat.min_eq_left (by omega)) hh2 (by rw [hnl]) (fun j v hj => by rw [add_none, cell_of (HO2.out.get hnew hvg), Nat.zero_add]; simpa using hj) (by rw [hnl, laid_size (by rw [List.length_drop, hcs]; omega), hcs]; omega) h1
 have HF : Hid (Grew w w3 183 1 (.slice (some ⟨g, 0, none⟩) n cap) (.slice (some ⟨g, 0, none⟩) (n + 1) cap) (n + 1) (xs.take i ++ news ++ xs.drop i)) := by
  refine ⟨⟨?_, Or.inr ⟨g, cap, _, rfl, Nat.zero_le _, hh3, hcap, by unfold maxLen; omega, ?_, ?_⟩⟩, (HO2.out.trans ho3).mono (fun k hk e => by rw [e]; rfl), Or.inl rfl⟩
  ·simp only [List.length_append, List.length_take, List.length_drop, hnl]; omega
  ·rw [laid_size (by rw [hnl, laid_size (by rw [List.length_drop, hcs]; omega), hcs]; omega), laid_size (by rw [List.length_drop, hcs]; omega), hcs]; omega
  ·exact laid_back1 (by omega) hnl (by omega) hct (by rw [hcs]; omega)
 clear hown hcell hcur hct hnew h1 hx1 hh2 ho2 hh3 ho3 HO2
 go_enter Tryz.func129, Tryz.ntmps129
 go_wp2_with fail
 go_region_held3 (fun _ => True) (first | trivial | fail) (fail)
 go_wp2
 go_ret
 exact ⟨_, rfl, HF.out⟩
theorem insertN_any (v : Value) (n i vb : Nat) (xs news : List Value) (w : World) (hown : w.ownsRow 0 183 1 v n xs) (hnl : news.length = 1) (hnew : w.heap[vb]? = some (.cells news.toArray 183 (0, 0))) (h1 : ∀ u ∈ news, u.oneCell' = true) (hx1 : ∀ u ∈ xs, u.oneCell' = true) (hn : n <= 100000) (hi : i <= n) (hvb : v.ownBlock ≠ some vb) :
  Calls Tryz.prog 129 #[v, .int .i64 (i : Int), .slice (some ⟨vb, 0, none⟩) 1 1] w fun e w' => ∃ v', e = .returned v' /\ Grew w w' 183 1 v v' (n + 1) (xs.take i ++ news ++ xs.drop i) := by
 have hxl := hown.1
 by_cases hin : i = n
 ·subst hin
  have := insertN_end v i vb xs news w hown hnl hnew h1 hn
  rw [List.take_of_length_le (by omega), List.drop_of_length_le (by omega), List.append_nil]
  exact this
 ·rcases owns_cases hown with ⟨_, h0⟩ | ⟨g, cap, rfl, hnc, _⟩
  ·omega
  ·by_cases hc : cap = n
   ·subst hc
    exact insertN_grow g cap i vb xs news w hown hnl hnew h1 hx1 hn (by omega)
   ·exact insertN_shift g n cap i vb xs news w hown hnl hnew h1 hx1 hn (by omega) (by omega) (fun e => hvb (by rw [e]; rfl))
end Go.Proofs.YthipgglplneijaaGreatDoor
namespace Go.Lap
open Go.RowKit
abbrev ents (xs : List EV) : List Ent := xs.map (·.e)
def noEV : EV := ⟨⟨[], 0, 0⟩, none, 0⟩
def hd (xs : List EV) : EV := xs.headD noEV
theorem hd_append {xs : List EV} (h : xs ≠ []) (ys : List EV) : hd (xs ++ ys) = hd xs := by
 rcases xs with _ | ⟨x, xs⟩
 ·exact absurd rfl h
 ·rfl
theorem hd_get {xs : List EV} (h : xs ≠ []) : xs[0]? = some (hd xs) := by
 rcases xs with _ | ⟨x, xs⟩
 ·exact absurd rfl h
 ·rfl
theorem hd_mem {xs : List EV} (h : xs ≠ []) : hd xs ∈ xs := List.mem_of_getElem? (hd_get h)
def insX (e : EV) (xs : List EV) : List EV := xs.take (posE e.e (ents xs)) ++ e :: xs.drop (posE e.e (ents xs))
theorem ents_insX (e : EV) (xs : List EV) : ents (insX e xs) = insE e.e (ents xs) := by
 rw [insE_eq]
 unfold insX ents
 simp [List.map_take, List.map_drop]
theorem insX_length (e : EV) (xs : List EV) : (insX e xs).length = xs.length + 1 := by
 have := posE_le e.e (ents xs)
 unfold insX
 simp at this ⊢
 omega
theorem insX_ne (e : EV) (xs : List EV) : insX e xs ≠ [] := by
 intro h
 have := insX_length e xs
 rw [h] at this
 simp at this
theorem mem_insX {e x : EV} {xs : List EV} (h : x ∈ insX e xs) : x = e ∨ x ∈ xs := by
 unfold insX at h
 rw [List.mem_append, List.mem_cons] at h
 rcases h with h | h | h
 ·exact Or.inr (List.mem_of_mem_take h)
 ·exact Or.inl h
 ·exact Or.inr (List.mem_of_mem_drop h)
theorem posE_mid {e : Ent} {A P B : List Ent} (hA : ∀ a ∈ A, cmpE a e < 0) (hB : ∀ b ∈ B, ¬ cmpE b e < 0) : posE e (A ++ P ++ B) = A.length + posE e P := by
 induction A with
 | nil =>
  simp only [List.nil_append, List.length_nil, Nat.zero_add]
  induction P with
  | nil =>
   rcases B with _ | ⟨b, B⟩
   ·rfl
   ·show posE e (b :: B) = 0
    rw [posE_cons, if_neg (hB b (by simp))]
  | cons p P ih =>
   show posE e (p :: (P ++ B)) = _
   rw [posE_cons, posE_cons, ih]
 | cons a A ih =>
  show posE e (a :: (A ++ P ++ B)) = _
  rw [posE_cons, if_pos (hA a (by simp)), ih (fun x hx => hA x (by simp [hx])), List.length_cons]
  omega
theorem insX_mid {e : EV} {A P B : List EV} (hA : ∀ a ∈ A, cmpE a.e e.e < 0) (hB : ∀ b ∈ B, ¬ cmpE b.e e.e < 0) : insX e (A ++ P ++ B) = A ++ insX e P ++ B := by
 have hp : posE e.e (ents (A ++ P ++ B)) = A.length + posE e.e (ents P) := by
  unfold ents
  rw [List.map_append, List.map_append, posE_mid, List.length_map]
  ·intro a ha
   obtain ⟨x, hx, rfl⟩ := List.mem_map.1 ha
   exact hA x hx
  ·intro b hb
   obtain ⟨x, hx, rfl⟩ := List.mem_map.1 hb
   exact hB x hx
 have hle : posE e.e (ents P) <= P.length := by have := posE_le e.e (ents P); simpa using this
 unfold insX
 rw [hp]
 have ht : (A ++ P ++ B).take (A.length + posE e.e (ents P)) = A ++ P.take (posE e.e (ents P)) := by
  rw [List.append_assoc, List.take_length_add_append, List.take_append_of_le_length hle]
 have hd : (A ++ P ++ B).drop (A.length + posE e.e (ents P)) = P.drop (posE e.e (ents P)) ++ B := by
  rw [List.append_assoc, List.drop_length_add_append, List.drop_append_of_le_length hle]
 rw [ht, hd]
 simp
structure Kid where
 b : Nat
 F : Nat -> Prop
 xs : List EV
abbrev heads (ks : List Kid) : List EV := ks.map (fun x => hd x.xs)
abbrev flat (ks : List Kid) : List EV := ks.flatMap (·.xs)
abbrev kptrs (ks : List Kid) : List Value := ks.map (fun x => ptrV x.b)
theorem one_kptrs (ks : List Kid) : ∀ u ∈ kptrs ks, u.oneCell' = true := by
 intro u hu
 obtain ⟨n, _, rfl⟩ := List.mem_map.1 hu
 rfl
end Go.Lap
namespace Go.Proofs.YthipgglplneijaaGreatDoor
open Go.RowKit Go.Lap
structure Leaf (K : Nat -> Prop) (w : World) (b : Nat) (F : Nat -> Prop) (xs : List EV) (v : Value) : Prop where
 box : w.heap[b]? = some (.cells #[v, .slice none 0 0] 187 (0, 0))
 row : RowAt w v xs
 key : ∀ x ∈ xs, Keyd w K x
 foot : F b /\ (∀ k, v.ownBlock = some k -> F k)
structure Inner (N : World -> Nat -> (Nat -> Prop) -> List EV -> Prop) (w : World) (b : Nat) (F : Nat -> Prop) (v u : Value) (ks : List Kid) : Prop where
 box : w.heap[b]? = some (.cells #[v, u] 187 (0, 0))
 row : RowAt w v (heads ks)
 kids : w.ownsRow 0 183 1 u ks.length (kptrs ks)
 some_ : ∃ g, u.ownBlock = some g
 two : 2 <= ks.length
 kid : ∀ x ∈ ks, x.xs ≠ [] /\ N w x.b x.F x.xs
 sub : ∀ x ∈ ks, ∀ k, x.F k -> F k /\ k ≠ b /\ v.ownBlock ≠ some k /\ u.ownBlock ≠ some k
 apart : ks.Pairwise (fun x y => ∀ k, x.F k -> ¬ y.F k)
 foot : F b /\ (∀ k, v.ownBlock = some k -> F k) /\ (∀ k, u.ownBlock = some k -> F k)
def NodeAt (K : Nat -> Prop) : Nat -> World -> Nat -> (Nat -> Prop) -> List EV -> Prop
 | 0, w, b, F, xs => ∃ v, Leaf K w b F xs v
 | h + 1, w, b, F, xs => ∃ v u ks, Inner (NodeAt K h) w b F v u ks /\ xs = flat ks
theorem NodeAt.kept {K S : Nat -> Prop} {w w' : World} (ho : Only S w w') (hK : ∀ k, K k -> ¬ S k) {h : Nat} : ∀ {b : Nat} {F : Nat -> Prop} {xs : List EV}, NodeAt K h w b F xs -> (∀ k, F k -> ¬ S k) -> NodeAt K h w' b F xs := by
 induction h with
 | zero =>
  intro b F xs ⟨v, h⟩ hF
  exact ⟨v, ho.get h.box (hF _ h.foot.1), owns_kept h.row ho (fun k e => hF k (h.foot.2 k e)), fun x hx => (h.key x hx).kept ho hK, h.foot⟩
 | succ h ih =>
  intro b F xs ⟨v, u, ks, h, e⟩ hF
  exact ⟨v, u, ks, ⟨ho.get h.box (hF _ h.foot.1), owns_kept h.row ho (fun k e => hF k (h.foot.2.1 k e)), owns_kept h.kids ho (fun k e => hF k (h.foot.2.2 k e)), h.some_, h.two, fun x hx => ⟨(h.kid x hx).1, ih (h.kid x hx).2 (fun k hk => hF k (h.sub x hx k hk).1)⟩, h.sub, h.apart, h.foot⟩, e⟩
theorem NodeAt.mono {K : Nat -> Prop} {h : Nat} {w : World} {b : Nat} {F G : Nat -> Prop} {xs : List EV} (hn : NodeAt K h w b F xs) (hg : ∀ k, F k -> G k) : NodeAt K h w b G xs := by
 cases h with
 | zero => obtain ⟨v, h⟩ := hn; exact ⟨v, h.box, h.row, h.key, hg _ h.foot.1, fun k e => hg _ (h.foot.2 k e)⟩
 | succ h =>
  obtain ⟨v, u, ks, h, e⟩ := hn
  exact ⟨v, u, ks, ⟨h.box, h.row, h.kids, h.some_, h.two, h.kid, fun x hx k hk => ⟨hg _ (h.sub x hx k hk).1, (h.sub x hx k hk).2⟩, h.apart, hg _ h.foot.1, fun k e => hg _ (h.foot.2.1 k e), fun k e => hg _ (h.foot.2.2 k e)⟩, e⟩
theorem NodeAt.keys {K K' : Nat -> Prop} {w : World} (hk : ∀ k, K k -> K' k) {h : Nat} : ∀ {b : Nat} {F : Nat -> Prop} {xs : List EV}, NodeAt K h w b F xs -> NodeAt K' h w b F xs := by
 induction h with
 | zero =>
  intro b F xs ⟨v, h⟩
  exact ⟨v, h.box, h.row, fun x hx => (h.key x hx).mono hk, h.foot⟩
 | succ h ih =>
  intro b F xs ⟨v, u, ks, h, e⟩
  exact ⟨v, u, ks, ⟨h.box, h.row, h.kids, h.some_, h.two, fun x hx => ⟨(h.kid x hx).1, ih (h.kid x hx).2⟩, h.sub, h.apart, h.foot⟩, e⟩
theorem NodeAt.key {K : Nat -> Prop} {w : World} {h : Nat} : ∀ {b : Nat} {F : Nat -> Prop} {xs : List EV}, NodeAt K h w b F xs -> ∀ x ∈ xs, Keyd w K x := by
 induction h with
 | zero => intro b F xs ⟨v, h⟩; exact h.key
 | succ h ih =>
  intro b F xs ⟨v, u, ks, h, e⟩ x hx
  rw [e] at hx
  obtain ⟨y, hy, hxy⟩ := List.mem_flatMap.1 hx
  exact ih (h.kid y hy).2 x hxy
theorem NodeAt.lim {K : Nat -> Prop} {w : World} {h : Nat} : ∀ {b : Nat} {F : Nat -> Prop} {xs : List EV}, NodeAt K h w b F xs -> NodeAt K h w b (fun k => F k /\ k < w.heap.size) xs := by
 induction h with
 | zero =>
  intro b F xs ⟨v, h⟩
  exact ⟨v, h.box, h.row, h.key, ⟨h.foot.1, lt_of_get h.box⟩, fun k e => ⟨h.foot.2 k e, (h.row.lt k e).2⟩⟩
 | succ h ih =>
  intro b F xs ⟨v, u, ks, h, e⟩
  refine ⟨v, u, ks.map (fun x => ⟨x.b, fun k => x.F k /\ k < w.heap.size, x.xs⟩), ⟨h.box, ?_, ?_, h.some_, by simpa using h.two, fun x hx => ?_, fun x hx k hk => ?_, ?_, ⟨h.foot.1, lt_of_get h.box⟩, fun k e => ⟨h.foot.2.1 k e, (h.row.lt k e).2⟩, fun k e => ⟨h.foot.2.2 k e, (h.kids.lt k e).2⟩⟩, ?_⟩
  ·rw [heads, List.map_map]; exact h.row
  ·rw [kptrs, List.map_map, List.length_map]; exact h.kids
  ·obtain ⟨y, hy, rfl⟩ := List.mem_map.1 hx
   exact ⟨(h.kid y hy).1, ih (h.kid y hy).2⟩
  ·obtain ⟨y, hy, rfl⟩ := List.mem_map.1 hx
   exact ⟨⟨(h.sub y hy k hk.1).1, hk.2⟩, (h.sub y hy k hk.1).2⟩
  ·rw [List.pairwise_map]
   exact h.apart.imp (fun hxy k hk hk' => hxy k hk.1 hk'.1)
  ·rw [flat, List.flatMap_map]; exact e
section
variable {P : Program}
theorem results_cell1 {fn : Func} {p : Tmp} {ty : TypeId} (h : fn.results = #[.cell p ty]) (tmps : Array Value) (w : World) (g : Nat) (t : TypeId) (cs : Array Value) (fr : Nat × Nat) (d : TypeDesc)
  (hp : tmps.getD p undef = .pointer (some ⟨g, 0, none⟩)) (hg : w.heap[g]? = some (.cells cs t fr))
  (hu : P.underlying ty = some d) (hd : (match d with | .struct _ | .array _ _ => true | _ => false) = true) (hi : (P.info? ty).map (·.size) = some cs.size) :
  (results fn tmps).run P w = .ok (.agg cs) w := by
 have hp' : tmps[p]?.getD undef = .pointer (some ⟨g, 0, none⟩) := by simpa using hp
 simp [results, h, hp', asAddr, run_loadVar_row w g t ty cs fr d hg hu hd hi]
end
theorem info_ent : (Tryz.prog.info? 124).map (·.size) = some 3 := by kernel_rfl
theorem leaf_any (b : Nat) (v : Value) (A : Option Addr) (n c : Nat) (w : World) (h : w.heap[b]? = some (.cells #[v, .slice A n c] 187 (0, 0))) :
  Calls Tryz.prog 124 #[ptrV b] w fun e w' => e = .returned (.bool A.isNone) /\ w = w' := by
 have heq := fun (w : World) (a : Option Addr) (n c : Nat) => Lib.run_eql_slice_nil (P := Tryz.prog) w 185 _ a n c 0 0 Tryz.underlying185
 have c1 : w.cell? ⟨b, 1, none⟩ = some (.slice A n c) := by rw [cell_of h]; rfl
 clear h
 go_enter Tryz.func124, Tryz.ntmps124
 go_wp2
 go_ret
 exact ⟨rfl, rfl⟩
theorem Inner.form {N : World -> Nat -> (Nat -> Prop) -> List EV -> Prop} {w : World} {b : Nat} {F : Nat -> Prop} {v u : Value} {ks : List Kid} (h : Inner N w b F v u ks) : ∃ g c, u = .slice (some ⟨g, 0, none⟩) ks.length c /\ ks.length <= c /\ c <= maxLen := by
 obtain ⟨g, hg⟩ := h.some_
 rcases owns_cases h.kids with ⟨e, _⟩ | ⟨g', c, e, h1, h2⟩
 ·rw [e] at hg; cases hg
 ·exact ⟨g', c, e, h1, h2⟩
theorem NodeAt.row {K F : Nat -> Prop} {h : Nat} {w : World} {b : Nat} {xs : List EV} (hn : NodeAt K h w b F xs) (hx : xs ≠ []) : ∃ v u ys, w.heap[b]? = some (.cells #[v, u] 187 (0, 0)) /\ RowAt w v ys /\ ys ≠ [] /\ hd ys = hd xs := by
 cases h with
 | zero => obtain ⟨v, h⟩ := hn; exact ⟨v, _, xs, h.box, h.row, hx, rfl⟩
 | succ h =>
  obtain ⟨v, u, ks, h, e⟩ := hn
  have h2 := h.two
  rcases ks with _ | ⟨x, ks⟩
  ·simp at h2
  ·refine ⟨v, u, _, h.box, h.row, by simp, ?_⟩
   rw [e, flat, List.flatMap_cons, hd_append (h.kid x (by simp)).1]
   rfl
theorem row_at {w w' : World} {g n c : Nat} {xs : List EV} {j : Nat} {x : EV} (h : RowAt w (.slice (some ⟨g, 0, none⟩) n c) xs) (hj : xs[j]? = some x) (hq : Quiet w w') :
  w'.cell? ⟨g, j * 3, none⟩ = some (.slice x.A x.e.key.length x.c) /\ w'.cell? ⟨g, j * 3 + 1, none⟩ = some (.int .i64 x.e.pg) /\ w'.cell? ⟨g, j * 3 + 2, none⟩ = some (.int .i64 x.e.sl) := by
 obtain ⟨h1, h2, h3⟩ := rowV_get hj
 have key : ∀ k u, (rowV xs)[k]? = some u -> w'.cell? ⟨g, k, none⟩ = some u := fun k u hu => by
  have := h.cells rfl k u hu
  rw [add_none, Nat.zero_add] at this
  exact hq.cell this (fun x => x)
 exact ⟨key _ _ h1, key _ _ h2, key _ _ h3⟩
set_option maxHeartbeats 400000 in
theorem least_exact {K F : Nat -> Prop} {h : Nat} {w : World} {b : Nat} {xs : List EV} (hn : NodeAt K h w b F xs) (hx : xs ≠ []) :
  Calls Tryz.prog 94 #[ptrV b] w fun e w' => e = .returned (entV (hd xs).e (hd xs).A (hd xs).c) /\ w' = w.alloc (.cells #[.slice (hd xs).A (hd xs).e.key.length (hd xs).c, .int .i64 (hd xs).e.pg, .int .i64 (hd xs).e.sl] 124) := by
 obtain ⟨v, u, ys, hbox, hrow, hys, he⟩ := hn.row hx
 rw [<- he]
 have hl : 0 < ys.length := List.length_pos_iff.2 hys
 obtain ⟨g, c, rfl, hc, hcm⟩ : ∃ g c, v = .slice (some ⟨g, 0, none⟩) ys.length c /\ ys.length <= c /\ c <= maxLen := by
  rcases owns_cases hrow with ⟨_, e⟩ | ⟨g, c, e, h1, h2⟩
  ·omega
  ·exact ⟨g, c, e, h1, h2⟩
 obtain ⟨c0, c1, c2⟩ := row_at hrow (hd_get hys) (w' := w.alloc (.cells #[.slice none 0 0, .int .i64 0, .int .i64 0] 124)) ((Only.refl (fun _ => False) w).alloc _)
 rw [Nat.zero_mul] at c0 c1 c2
 rw [Nat.zero_add] at c1 c2
 have d0 : (0 : Int) < (ys.length : Int) := by omega
 have hb1 := alloc_old hbox (.cells #[.slice none 0 0, .int .i64 0, .int .i64 0] 124)
 have b0 : (w.alloc (.cells #[.slice none 0 0, .int .i64 0, .int .i64 0] 124)).cell? ⟨b, 0, none⟩ = some (.slice (some ⟨g, 0, none⟩) ys.length c) := by rw [cell_of hb1]; rfl
 generalize hd ys = y at *
 clear hn hx hbox hb1 hrow he hys
 go_enter Tryz.func94, Tryz.ntmps94
 go_wp2
 exact bodyPost_ret (results_cell1 Tryz.results94 _ _ w.heap.size _ _ (0, 0) _ (by rfl) (alloc_new w _) Tryz.underlying124 rfl info_ent) (by rfl) ⟨rfl, rfl⟩
theorem least_any {K F : Nat -> Prop} {h : Nat} {w : World} {b : Nat} {xs : List EV} (hn : NodeAt K h w b F xs) (hx : xs ≠ []) :
  Calls Tryz.prog 94 #[ptrV b] w fun e w' => e = .returned (entV (hd xs).e (hd xs).A (hd xs).c) /\ Quiet w w' :=
 (least_exact hn hx).mono fun _ _ ⟨he, hw⟩ => ⟨he, by rw [hw]; exact (Only.refl _ _).alloc _⟩
def belowE (t : Ent) (es : List Ent) : Nat := if t ∈ es then posE t es else posE t es - 1
structure Below1 (t : Ent) (es : List Ent) (i : Nat) : Prop where
 lt : i < es.length
 left : i = 0 ∨ ∀ y, es[i]? = some y -> ¬ cmpE t y < 0
 right : ∀ j y, i < j -> es[j]? = some y -> cmpE t y < 0
theorem below_spec {t : Ent} {es : List Ent} (hs : Rising es) (h0 : es ≠ []) : Below1 t es (belowE t es) := by
 have hl := List.length_pos_iff.2 h0
 have hp := posE_le t es
 unfold belowE
 by_cases hm : t ∈ es
 ·rw [if_pos hm]
  have ht := (posE_mem hs).1 hm
  have hlt := (List.getElem?_eq_some_iff.1 ht).1
  refine ⟨hlt, Or.inr (fun y hy => ?_), fun j y hj hy => hs.get hj ht hy⟩
  rw [ht] at hy
  injection hy with hy
  rw [<- hy, cmpE_self]
  omega
 ·rw [if_neg hm]
  refine ⟨by omega, ?_, fun j y hj hy => posE_behind hs hm (j := j) (by omega) hy⟩
  ·by_cases h1 : posE t es = 0
   ·exact Or.inl (by omega)
   ·right
    intro y hy h
    have := posE_before (e := t) (l := es) (j := posE t es - 1) (by omega) hy
    have := cmpE_trans h this
    rw [cmpE_self] at this
    omega
set_option maxHeartbeats 1000000 in
theorem below_any (b : Nat) (v u : Value) (ys : List EV) (t : EV) (K K' : Nat -> Prop) (w : World) (hbox : w.heap[b]? = some (.cells #[v, u] 187 (0, 0))) (hrow : RowAt w v ys) (hk : ∀ x ∈ ys, Keyd w K x) (ht : Keyd w K' t) (hs : Rising (ents ys)) (hl : ys.length <= 100000) :
  Calls Tryz.prog 128 #[ptrV b, entV t.e t.A t.c] w fun e w' => e = .returned (.int .i64 (belowE t.e (ents ys) : Int)) /\ Quiet w w' := by
 obtain ⟨A, c, rfl, hc, hcm, hrd⟩ := own_form hrow
 have hq0 : Quiet w (w.alloc (.cells #[.slice t.A t.e.key.length t.c, .int .i64 t.e.pg, .int .i64 t.e.sl] 124)) := (Only.refl _ _).alloc _
 have HQ0 := Lib.hid hq0
 have b0 : (w.alloc (.cells #[.slice t.A t.e.key.length t.c, .int .i64 t.e.pg, .int .i64 t.e.sl] 124)).cell? ⟨b, 0, none⟩ = some (.slice A ys.length c) := by rw [cell_of (hq0.get hbox (fun x => x))]; rfl
 obtain ⟨t0, t1, t2⟩ := ent_cells (alloc_new w (.cells #[.slice t.A t.e.key.length t.c, .int .i64 t.e.pg, .int .i64 t.e.sl] 124))
 have HSR := Lib.hid (search_any ys t A c _ K K' _ (hrd.kept hq0.drew (fun _ _ x => x)) (fun x hx => (hk x hx).quietly hq0.drew) (ht.quietly hq0.drew) hs hl)
 have hpl : posE t.e (ents ys) <= ys.length := by have := posE_le t.e (ents ys); simpa using this
 have HR : Hid (belowE t.e (ents ys) = if t.e ∈ ents ys then posE t.e (ents ys) else posE t.e (ents ys) - 1) := rfl
 generalize posE t.e (ents ys) = p at *
 generalize belowE t.e (ents ys) = r at *
 by_cases hm : t.e ∈ ents ys
 ·rw [if_pos hm] at HR
  have HSR' := HSR.out
  rw [decide_eq_true hm] at HSR'
  have HS := Lib.hid HSR'
  clear hbox hrow hrd hk ht hs hq0 HSR HSR' hm
  go_enter Tryz.func128, Tryz.ntmps128
  go_wp2_with fail
  go_region_held3 (fun w' => w'.cell? ⟨b, 0, none⟩ = some (.slice A ys.length c) /\ w'.cell? ⟨w.heap.size, 0, none⟩ = some (.slice t.A t.e.key.length t.c) /\ w'.cell? ⟨w.heap.size, 1, none⟩ = some (.int .i64 t.e.pg) /\ w'.cell? ⟨w.heap.size, 2, none⟩ = some (.int .i64 t.e.sl))
   (first | go_keep | fail)
   (first
     | (go_at_call 125; go_must (refine HS.out.mono ?_; rintro e w2 ⟨rfl, hq2⟩; have k0 := hq2.cell b0 (fun x => x); have k1 := hq2.cell t0 (fun x => x); have k2 := hq2.cell t1 (fun x => x); have k3 := hq2.cell t2 (fun x => x)))
     | fail)
  have HQ2 := Lib.hid (HQ0.out.drew.trans hq2)
  clear hq2 k0 k1 k2 k3 b0 t0 t1 t2 HS HQ0
  go_wp2
  go_ret
  rw [HR.out]
  exact ⟨rfl, HQ2.out⟩
 ·rw [if_neg hm] at HR
  have HSR' := HSR.out
  rw [decide_eq_false hm] at HSR'
  have HS := Lib.hid HSR'
  clear hbox hrow hrd hk ht hs hq0 HSR HSR' hm
  go_enter Tryz.func128, Tryz.ntmps128
  go_wp2_with fail
  go_region_held3 (fun w' => w'.cell? ⟨b, 0, none⟩ = some (.slice A ys.length c) /\ w'.cell? ⟨w.heap.size, 0, none⟩ = some (.slice t.A t.e.key.length t.c) /\ w'.cell? ⟨w.heap.size, 1, none⟩ = some (.int .i64 t.e.pg) /\ w'.cell? ⟨w.heap.size, 2, none⟩ = some (.int .i64 t.e.sl))
   (first | go_keep | fail)
   (first
     | (go_at_call 125; go_must (refine HS.out.mono ?_; rintro e w2 ⟨rfl, hq2⟩; have k0 := hq2.cell b0 (fun x => x); have k1 := hq2.cell t0 (fun x => x); have k2 := hq2.cell t1 (fun x => x); have k3 := hq2.cell t2 (fun x => x)))
     | fail)
  have HQ2 := Lib.hid (HQ0.out.drew.trans hq2)
  clear hq2 k0 k1 k2 k3 b0 t0 t1 t2 HS HQ0
  go_wp2
  go_ret
  rw [HR.out, show ((p - 1 : Nat) : Int) = max ((p : Int) - 1) 0 by omega]
  exact ⟨rfl, HQ2.out⟩
def CopyPost (w : World) (e0 : Ent) (e : Ending) (w' : World) : Prop :=
 ∃ A c, e = .returned (entV e0 A c) /\ Quiet w w' /\ Rd w' (fun k => w.heap.size <= k /\ k < w'.heap.size) 1 A e0.key.length (bytesV e0.key)
theorem new_any (w : World) : Calls Tryz.prog 41 #[] w fun e w' => e = .returned (ptrV (w.heap.size + 1)) /\ Quiet w w' /\ w'.heap[w.heap.size]? = some (.cells #[.slice none 0 0, .slice none 0 0] 187 (0, 0)) /\ w'.heap[w.heap.size + 1]? = some (.cells #[ptrV w.heap.size, .int .i64 0] 189 (0, 0)) := by
 go_enter Tryz.func41, Tryz.ntmps41
 go_wp2
 go_ret
 exact ⟨rfl, ((Only.refl _ _).alloc _).alloc _, alloc_old (alloc_new _ _) _, two_new _ _ _⟩
structure Cleft (K : Nat -> Prop) (h : Nat) (w w' : World) (b : Nat) (F : Nat -> Prop) (xs : List EV) (r : Nat) (F1 F2 : Nat -> Prop) (x1 x2 : List EV) : Prop where
 all : xs = x1 ++ x2
 ne1 : x1 ≠ []
 ne2 : x2 ≠ []
 n1 : NodeAt K h w' b F1 x1
 n2 : NodeAt K h w' r F2 x2
 apart : ∀ k, F1 k -> ¬ F2 k
 sub1 : ∀ k, F1 k -> F k ∨ w.heap.size <= k
 sub2 : ∀ k, F2 k -> F k ∨ w.heap.size <= k
 only : Only F w w'
def SplitPost (K : Nat -> Prop) (h : Nat) (w : World) (b : Nat) (F : Nat -> Prop) (xs : List EV) (e : Ending) (w' : World) : Prop :=
 (e = .returned (.pointer none) /\ w = w') ∨ ∃ r F1 F2 x1 x2, e = .returned (ptrV r) /\ Cleft K h w w' b F xs r F1 F2 x1 x2
theorem split_none (b : Nat) (v u : Value) (ys : List EV) (w : World) (hbox : w.heap[b]? = some (.cells #[v, u] 187 (0, 0))) (hrow : RowAt w v ys) (hl : ys.length <= 8) :
  Calls Tryz.prog 93 #[ptrV b] w fun e w' => e = .returned (.pointer none) /\ w = w' := by
 obtain ⟨A, c, rfl, hc, hcm, _⟩ := own_form hrow
 have b0 : w.cell? ⟨b, 0, none⟩ = some (.slice A ys.length c) := by rw [cell_of hbox]; rfl
 have d : decide ((ys.length : Int) <= 8) = true := decide_eq_true (by omega)
 clear hbox hrow
 go_enter Tryz.func93, Tryz.ntmps93
 go_wp2
 go_ret
 exact ⟨rfl, rfl⟩
theorem row_rd {w : World} {v : Value} {g n c : Nat} {ys : List EV} (h : RowAt w v ys) (e : v = .slice (some ⟨g, 0, none⟩) n c) : Rd w (· = g) 3 (some ⟨g, 0, none⟩) ys.length (rowV ys) := by
 subst e
 refine ⟨by rw [rowV_length], fun _ => ⟨g, 0, rfl, rfl, fun j u hu => ?_⟩⟩
 have := h.cells rfl j u hu
 rw [add_none] at this
 exact this
structure CleftW (w w3 : World) (b r : Nat) (v1 v2 u : Value) (ys : List EV) (k : Nat) : Prop where
 only : Only (· = b) w (w3.setCell ⟨b, 0, none⟩ v1)
 box : (w3.setCell ⟨b, 0, none⟩ v1).heap[b]? = some (.cells #[v1, u] 187 (0, 0))
 new : (w3.setCell ⟨b, 0, none⟩ v1).heap[r]? = some (.cells #[v2, .slice none 0 0] 187 (0, 0))
 row1 : RowAt (w3.setCell ⟨b, 0, none⟩ v1) v1 (ys.take k)
 row2 : RowAt (w3.setCell ⟨b, 0, none⟩ v1) v2 (ys.drop k)
 fresh : w.heap.size <= r /\ (∀ j, v1.ownBlock = some j -> w.heap.size <= j /\ j ≠ r /\ v2.ownBlock ≠ some j) /\ (∀ j, v2.ownBlock = some j -> w.heap.size <= j /\ j ≠ r)
theorem cleftW_mk {w w1 w3 : World} {b k : Nat} {v v1 v2 u : Value} {ys : List EV} (hbox : w.heap[b]? = some (.cells #[v, u] 187 (0, 0))) (hk : k <= ys.length)
  (h1 : NewRow w w1 124 3 v2 (ys.length - k) (rowV (ys.drop k))) (h3 : NewRow (w1.alloc (.cells #[v2, .slice none 0 0] 187)) w3 124 3 v1 k (rowV (ys.take k))) : CleftW w w3 b w1.heap.size v1 v2 u ys k := by
 have hb := lt_of_get hbox
 have hz1 := h1.quiet.size
 have hz3 := h3.quiet.size
 rw [World.size_alloc] at hz3
 obtain ⟨j1, e1, l1⟩ := h3.loc
 obtain ⟨j2, e2, l2⟩ := h1.loc
 rw [World.size_alloc] at l1
 have hj2 := (h1.own.lt j2 e2).2
 have hq : Quiet w w3 := (h1.quiet.alloc _).trans h3.quiet
 have hset : Only (· = b) w3 (w3.setCell ⟨b, 0, none⟩ v1) := (Only.refl (· = b) w3).setCell (p := ⟨b, 0, none⟩) (fun _ => rfl) _
 refine ⟨(hq.mono (T := (· = b)) (fun _ _ x => x.elim)).trans hset, ?_, ?_, ?_, ?_, hz1, fun j e => ?_, fun j e => ?_⟩
 ·rw [set_same (hq.get hbox (fun x => x)) 0 v1]; rfl
 ·exact hset.get (h3.quiet.get (alloc_new w1 _) (fun x => x)) (by show ¬ w1.heap.size = b; omega)
 ·have hl : (ys.take k).length = k := by rw [List.length_take]; omega
  unfold RowAt
  rw [hl]
  exact owns_kept h3.own hset (fun j e x => by rw [e1] at e; injection e with e; omega)
 ·have hl : (ys.drop k).length = ys.length - k := List.length_drop
  unfold RowAt
  rw [hl]
  exact owns_kept (owns_kept (owns_kept h1.own ((Only.refl (fun _ => False) w1).alloc _) (fun _ _ x => x)) h3.quiet (fun _ _ x => x)) hset (fun j e x => by rw [e2] at e; injection e with e; omega)
 ·rw [e1] at e
  injection e with e
  exact ⟨by omega, by omega, fun x => by rw [e2] at x; injection x with x; omega⟩
 ·rw [e2] at e
  injection e with e
  exact ⟨by omega, by omega⟩
theorem CleftW.leaf {K F : Nat -> Prop} {w w3 : World} {b r k : Nat} {v v1 v2 : Value} {xs : List EV} (h : CleftW w w3 b r v1 v2 (.slice none 0 0) xs k) (hl : Leaf K w b F xs v) (hK : ∀ j, K j -> ¬ F j) (hk0 : 0 < k) (hk : k < xs.length) :
  Cleft K 0 w (w3.setCell ⟨b, 0, none⟩ v1) b F xs r (fun j => j = b ∨ v1.ownBlock = some j) (fun j => j = r ∨ v2.ownBlock = some j) (xs.take k) (xs.drop k) := by
 have hb := lt_of_get hl.box
 have hkey : ∀ x ∈ xs, Keyd (w3.setCell ⟨b, 0, none⟩ v1) K x := fun x hx => (hl.key x hx).kept h.only (fun j hj e => hK j hj (by rw [e]; exact hl.foot.1))
 refine ⟨(List.take_append_drop k xs).symm, fun e => ?_, fun e => ?_, ⟨v1, h.box, h.row1, fun x hx => hkey x (List.mem_of_mem_take hx), Or.inl rfl, fun j e => Or.inr e⟩, ⟨v2, h.new, h.row2, fun x hx => hkey x (List.mem_of_mem_drop hx), Or.inl rfl, fun j e => Or.inr e⟩, fun j x y => ?_, fun j x => ?_, fun j x => ?_, h.only.mono (fun j _ e => by rw [e]; exact hl.foot.1)⟩
 ·have := congrArg List.length e; rw [List.length_take, List.length_nil] at this; omega
 ·have := congrArg List.length e; rw [List.length_drop, List.length_nil] at this; omega
 ·have hf := h.fresh
  rcases x with x | x <;> rcases y with y | y
  ·omega
  ·have := (hf.2.2 j y).1; omega
  ·exact (hf.2.1 j x).2.1 y
  ·exact (hf.2.1 j x).2.2 y
 ·rcases x with x | x
  ·exact Or.inl (by rw [x]; exact hl.foot.1)
  ·exact Or.inr (h.fresh.2.1 j x).1
 ·rcases x with x | x
  ·exact Or.inr (by rw [x]; exact h.fresh.1)
  ·exact Or.inr (h.fresh.2.2 j x).1
set_option maxHeartbeats 1000000 in
theorem split_leaf {K F : Nat -> Prop} {w : World} {b : Nat} {xs : List EV} {v : Value} (hl : Leaf K w b F xs v) (hK : ∀ j, K j -> ¬ F j) (hn : xs.length <= 100000) :
  Calls Tryz.prog 93 #[ptrV b] w (SplitPost K 0 w b F xs) := by
 by_cases h8 : xs.length <= 8
 ·exact (split_none b v _ xs w hl.box hl.row h8).mono (fun e w' h => Or.inl h)
 ·obtain ⟨g, c, hv, hc, hcm⟩ : ∃ g c, v = .slice (some ⟨g, 0, none⟩) xs.length c /\ xs.length <= c /\ c <= maxLen := by
   rcases owns_cases hl.row with ⟨_, e⟩ | ⟨g, c, e, h1, h2⟩
   ·omega
   ·exact ⟨g, c, e, h1, h2⟩
  obtain ⟨k, hk⟩ : ∃ k, xs.length / 2 = k := ⟨_, rfl⟩
  have hrd := row_rd hl.row hv
  have b0 : w.cell? ⟨b, 0, none⟩ = some (.slice (some ⟨g, 0, none⟩) xs.length c) := by rw [cell_of hl.box, <- hv]; rfl
  have HL := Lib.hid hl
  have HV := Lib.hid hv
  have HK := Lib.hid hK
  have HRD := Lib.hid hrd
  have HD1 := Lib.hid (hrd.drop (k := k) (by omega))
  have hb := lt_of_get hl.box
  have hkk : 4 <= k /\ k < xs.length := by omega
  have q0 : (0 : Int) <= (xs.length : Int) / 2 := by omega
  have q1 : (xs.length : Int) / 2 <= (xs.length : Int) := by omega
  have q2 : ((xs.length : Int) / 2).toNat = k := by omega
  have q3 : ¬ c = k := by omega
  have d8 : decide ((xs.length : Int) <= 8) = false := decide_eq_false (by omega)
  have hcm' : c <= 9223372036854775807 := by unfold maxLen at hcm; omega
  have HC1 := Lib.hid (clone_ent ⟨g, 0 + k * 3, none⟩ (xs.length - k) (c - k) _ (· = g) w HD1.out (fun u hu => one_row xs u (List.mem_of_mem_drop hu)) (by omega))
  rw [Nat.zero_add] at HC1
  clear hrd hK hl hk hcm hv
  go_enter Tryz.func93, Tryz.ntmps93
  have HBX : Hid (w.heap[b]? = some (.cells #[.slice (some ⟨g, 0, none⟩) xs.length c, .slice none 0 0] 187 (0, 0))) := by rw [<- HV.out]; exact HL.out.box
  go_wp2_with fail
  refine HC1.out.mono ?_
  rintro e w1 ⟨v2, rfl, h1⟩
  rw [<- rowV_drop] at h1
  obtain ⟨A2, c2, hv2, _, _, _⟩ := own_form h1.own
  subst hv2
  have HN1 := Lib.hid h1
  have hq2 : Quiet w (w1.alloc (.cells #[.slice A2 (xs.length - k) c2, .slice none 0 0] 187)) := h1.quiet.alloc _
  have hb2 := hq2.get HBX.out (fun x => x)
  have HB2 := Lib.hid hb2
  have HC2 := Lib.hid (clone_ent ⟨g, 0, none⟩ k c _ (· = g) _ ((HRD.out.takeK (k := k) (by omega)).kept hq2 (fun _ _ x => x)) (fun u hu => one_row xs u (List.mem_of_mem_take hu)) (by omega))
  have b0' : (w1.alloc (.cells #[.slice A2 (xs.length - k) c2, .slice none 0 0] 187)).cell? ⟨b, 0, none⟩ = some (.slice (some ⟨g, 0, none⟩) xs.length c) := hq2.cell b0 (fun x => x)
  clear h1 HC1 HD1 b0 hb2 hq2
  go_wp2_with fail
  refine HC2.out.mono ?_
  rintro e w3 ⟨v1, rfl, h3⟩
  rw [<- rowV_take] at h3
  obtain ⟨A1, c1, hv1, _, _, _⟩ := own_form h3.own
  subst hv1
  have hb3 := h3.quiet.get HB2.out (fun x => x)
  have HCW := Lib.hid (cleftW_mk HBX.out (by omega) HN1.out h3)
  have b3 : w3.cell? ⟨b, 0, none⟩ = some (.slice (some ⟨g, 0, none⟩) xs.length c) := h3.quiet.cell b0' (fun x => x)
  have f3 := fun o => frozen_of hb3 o
  clear h3 HC2 b0' hb3 HN1 HRD HB2
  have HLF := Lib.hid (leaf_any b _ _ _ _ _ HCW.out.box)
  go_wp2_with fail
  refine HLF.out.mono ?_
  rintro e w4 ⟨rfl, rfl⟩
  have HR := Lib.hid (HCW.out.leaf HL.out HK.out (by omega) (by omega))
  clear HLF HCW b3 f3
  go_wp2
  go_ret
  exact Or.inr ⟨_, _, _, _, _, rfl, HR.out⟩
structure CleftI (w w8 : World) (b r : Nat) (v1 v2 u1 u2 : Value) (ys : List EV) (ps : List Value) (k : Nat) : Prop where
 only : Only (· = b) w w8
 box1 : w8.heap[b]? = some (.cells #[v1, u1] 187 (0, 0))
 box2 : w8.heap[r]? = some (.cells #[v2, u2] 187 (0, 0))
 row1 : RowAt w8 v1 (ys.take k)
 row2 : RowAt w8 v2 (ys.drop k)
 kid1 : w8.ownsRow 0 183 1 u1 k (ps.take k)
 kid2 : w8.ownsRow 0 183 1 u2 (ps.length - k) (ps.drop k)
 some1 : ∃ g, u1.ownBlock = some g
 some2 : ∃ g, u2.ownBlock = some g
 fresh : w.heap.size <= r /\ (∀ j, v1.ownBlock = some j -> w.heap.size <= j /\ j ≠ r /\ v2.ownBlock ≠ some j /\ u2.ownBlock ≠ some j) /\ (∀ j, v2.ownBlock = some j -> w.heap.size <= j /\ j ≠ r) /\ (∀ j, u1.ownBlock = some j -> w.heap.size <= j /\ j ≠ r /\ v2.ownBlock ≠ some j /\ u2.ownBlock ≠ some j) /\ (∀ j, u2.ownBlock = some j -> w.heap.size <= j /\ j ≠ r)
theorem cleftI_mk {w w3 w5 w7 : World} {b r k : Nat} {v1 v2 u u1 u2 : Value} {ys : List EV} {ps : List Value} (hb : b < w.heap.size) (h : CleftW w w3 b r v1 v2 u ys k)
  (h5 : NewRow (w3.setCell ⟨b, 0, none⟩ v1) w5 183 1 u2 (ps.length - k) (ps.drop k)) (h7 : NewRow (w5.setCell ⟨r, 1, none⟩ u2) w7 183 1 u1 k (ps.take k)) :
  CleftI w (w7.setCell ⟨b, 1, none⟩ u1) b r v1 v2 u1 u2 ys ps k := by
 obtain ⟨hr, hf1, hf2⟩ := h.fresh
 have hz4 := h.only.size
 have hz5 := h5.quiet.size
 have hz7 := h7.quiet.size
 have hs6 : Only (· = r) w5 (w5.setCell ⟨r, 1, none⟩ u2) := (Only.refl (· = r) w5).setCell (p := ⟨r, 1, none⟩) (fun _ => rfl) _
 have hz6 := hs6.size
 have hs8 : Only (· = b) w7 (w7.setCell ⟨b, 1, none⟩ u1) := (Only.refl (· = b) w7).setCell (p := ⟨b, 1, none⟩) (fun _ => rfl) _
 obtain ⟨j1, e1, l1⟩ := h7.loc
 obtain ⟨j2, e2, l2⟩ := h5.loc
 have hj2 := (h5.own.lt j2 e2).2
 have hrl := lt_of_get h.new
 have hr5 := h5.quiet.get h.new (fun x => x)
 have hb5 := h5.quiet.get h.box (fun x => x)
 have hr6 := set_same hr5 1 u2
 have hb6 := hs6.get hb5 (show ¬ b = r by omega)
 have hr7 := h7.quiet.get hr6 (fun x => x)
 have hb7 := h7.quiet.get hb6 (fun x => x)
 have v1l : ∀ j, v1.ownBlock = some j -> j < (w3.setCell ⟨b, 0, none⟩ v1).heap.size := fun j e => (h.row1.lt j e).2
 have v2l : ∀ j, v2.ownBlock = some j -> j < (w3.setCell ⟨b, 0, none⟩ v1).heap.size := fun j e => (h.row2.lt j e).2
 have keep : ∀ {e : TypeId} {sz n : Nat} {v : Value} {xs : List Value}, (w3.setCell ⟨b, 0, none⟩ v1).ownsRow 0 e sz v n xs -> (∀ j, v.ownBlock = some j -> j ≠ r /\ j ≠ b) -> (w7.setCell ⟨b, 1, none⟩ u1).ownsRow 0 e sz v n xs := fun ho hn =>
  owns_kept (owns_kept (owns_kept (owns_kept ho h5.quiet (fun _ _ x => x)) hs6 (fun j e => (hn j e).1)) h7.quiet (fun _ _ x => x)) hs8 (fun j e => (hn j e).2)
 refine ⟨?_, ?_, ?_, keep h.row1 (fun j e => ⟨(hf1 j e).2.1, by have := (hf1 j e).1; omega⟩), keep h.row2 (fun j e => ⟨(hf2 j e).2, by have := (hf2 j e).1; omega⟩), ?_, ?_, ⟨j1, e1⟩, ⟨j2, e2⟩, hr, fun j e => ⟨(hf1 j e).1, (hf1 j e).2.1, (hf1 j e).2.2, fun x => ?_⟩, hf2, fun j e => ?_, fun j e => ?_⟩
 ·exact (((h.only.trans' h5.quiet (fun _ _ x => x.elim)).trans' hs6 (fun k hk e => by omega)).trans' h7.quiet (fun _ _ x => x.elim)).trans hs8
 ·rw [set_same hb7 1 u1]; rfl
 ·have := hs8.get hr7 (show ¬ r = b by omega)
  rw [this]; rfl
 ·exact owns_kept h7.own hs8 (fun j e x => by rw [e1] at e; injection e with e; omega)
 ·exact owns_kept (owns_kept (owns_kept h5.own hs6 (fun j e x => by rw [e2] at e; injection e with e; omega)) h7.quiet (fun _ _ x => x)) hs8 (fun j e x => by rw [e2] at e; injection e with e; omega)
 ·rw [e2] at x
  injection x with x
  have := v1l j e
  omega
 ·rw [e1] at e
  injection e with e
  refine ⟨by omega, by omega, fun x => ?_, fun x => ?_⟩
  ·have := v2l j x; omega
  ·rw [e2] at x; injection x with x; omega
 ·rw [e2] at e
  injection e with e
  exact ⟨by omega, by omega⟩
theorem CleftI.inner {K F : Nat -> Prop} {h : Nat} {w w8 : World} {b r k : Nat} {v u v1 v2 u1 u2 : Value} {ks : List Kid} (hc : CleftI w w8 b r v1 v2 u1 u2 (heads ks) (kptrs ks) k) (hi : Inner (NodeAt K h) w b F v u ks) (hK : ∀ j, K j -> ¬ F j) (hlim : ∀ x ∈ ks, ∀ j, x.F j -> j < w.heap.size) (hk0 : 2 <= k) (hk : k + 2 <= ks.length) :
  Cleft K (h + 1) w w8 b F (flat ks) r (fun j => j = b ∨ v1.ownBlock = some j ∨ u1.ownBlock = some j ∨ ∃ x ∈ ks.take k, x.F j) (fun j => j = r ∨ v2.ownBlock = some j ∨ u2.ownBlock = some j ∨ ∃ x ∈ ks.drop k, x.F j) (flat (ks.take k)) (flat (ks.drop k)) := by
 obtain ⟨hr, hf1, hf2, hf3, hf4⟩ := hc.fresh
 have hb := lt_of_get hi.box
 have hkid : ∀ x ∈ ks, x.xs ≠ [] /\ NodeAt K h w8 x.b x.F x.xs := fun x hx => ⟨(hi.kid x hx).1, NodeAt.kept hc.only (fun j hj e => hK j hj (by rw [e]; exact hi.foot.1)) (hi.kid x hx).2 (fun j hj e => (hi.sub x hx j hj).2.1 e)⟩
 have hkl : (kptrs ks).length = ks.length := by simp
 have hne : ∀ l : List Kid, (∀ x ∈ l, x ∈ ks) -> l ≠ [] -> flat l ≠ [] := fun l hl h0 e => by
  rcases l with _ | ⟨x, l⟩
  ·exact h0 rfl
  ·rw [flat, List.flatMap_cons] at e
   exact (hi.kid x (hl x (by simp))).1 (List.append_eq_nil_iff.1 e).1
 have hcross : ∀ x ∈ ks.take k, ∀ y ∈ ks.drop k, ∀ j, x.F j -> ¬ y.F j := by
  have := hi.apart
  rw [<- List.take_append_drop k ks, List.pairwise_append] at this
  exact this.2.2
 refine ⟨?_, hne _ (fun x hx => List.mem_of_mem_take hx) (fun e => ?_), hne _ (fun x hx => List.mem_of_mem_drop hx) (fun e => ?_), ⟨v1, u1, ks.take k, ⟨hc.box1, ?_, ?_, hc.some1, ?_, fun x hx => hkid x (List.mem_of_mem_take hx), fun x hx j hj => ?_, hi.apart.sublist (List.take_sublist _ _), Or.inl rfl, fun j e => Or.inr (Or.inl e), fun j e => Or.inr (Or.inr (Or.inl e))⟩, rfl⟩, ⟨v2, u2, ks.drop k, ⟨hc.box2, ?_, ?_, hc.some2, ?_, fun x hx => hkid x (List.mem_of_mem_drop hx), fun x hx j hj => ?_, hi.apart.sublist (List.drop_sublist _ _), Or.inl rfl, fun j e => Or.inr (Or.inl e), fun j e => Or.inr (Or.inr (Or.inl e))⟩, rfl⟩, fun j x y => ?_, fun j x => ?_, fun j x => ?_, hc.only.mono (fun j _ e => by rw [e]; exact hi.foot.1)⟩
 ·rw [<- List.flatMap_append, List.take_append_drop]
 ·have := congrArg List.length e; rw [List.length_take, List.length_nil] at this; omega
 ·have := congrArg List.length e; rw [List.length_drop, List.length_nil] at this; omega
 ·rw [heads, List.map_take]; exact hc.row1
 ·rw [kptrs, List.map_take, List.length_take, Nat.min_eq_left (by omega)]; exact hc.kid1
 ·rw [List.length_take]; omega
 ·have hx' := List.mem_of_mem_take hx
  have hl := hlim x hx' j hj
  exact ⟨Or.inr (Or.inr (Or.inr ⟨x, hx, hj⟩)), (hi.sub x hx' j hj).2.1, fun e => by have := (hf1 j e).1; omega, fun e => by have := (hf3 j e).1; omega⟩
 ·rw [heads, List.map_drop]; exact hc.row2
 ·rw [kptrs, List.map_drop, List.length_drop]; have := hc.kid2; rw [hkl] at this; exact this
 ·rw [List.length_drop]; omega
 ·have hx' := List.mem_of_mem_drop hx
  have hl := hlim x hx' j hj
  exact ⟨Or.inr (Or.inr (Or.inr ⟨x, hx, hj⟩)), by omega, fun e => by have := (hf2 j e).1; omega, fun e => by have := (hf4 j e).1; omega⟩
 ·rcases x with x | x | x | ⟨x, hx, hxj⟩
  ·rcases y with y | y | y | ⟨y, hy, hyj⟩
   ·omega
   ·have := (hf2 j y).1; omega
   ·have := (hf4 j y).1; omega
   ·exact (hi.sub y (List.mem_of_mem_drop hy) j hyj).2.1 x
  ·rcases y with y | y | y | ⟨y, hy, hyj⟩
   ·exact (hf1 j x).2.1 y
   ·exact (hf1 j x).2.2.1 y
   ·exact (hf1 j x).2.2.2 y
   ·have := hlim y (List.mem_of_mem_drop hy) j hyj; have := (hf1 j x).1; omega
  ·rcases y with y | y | y | ⟨y, hy, hyj⟩
   ·exact (hf3 j x).2.1 y
   ·exact (hf3 j x).2.2.1 y
   ·exact (hf3 j x).2.2.2 y
   ·have := hlim y (List.mem_of_mem_drop hy) j hyj; have := (hf3 j x).1; omega
  ·have hl := hlim x (List.mem_of_mem_take hx) j hxj
   rcases y with y | y | y | ⟨y, hy, hyj⟩
   ·omega
   ·have := (hf2 j y).1; omega
   ·have := (hf4 j y).1; omega
   ·exact hcross x hx y hy j hxj hyj
 ·rcases x with x | x | x | ⟨x, hx, hxj⟩
  ·exact Or.inl (by rw [x]; exact hi.foot.1)
  ·exact Or.inr (hf1 j x).1
  ·exact Or.inr (hf3 j x).1
  ·exact Or.inl (hi.sub x (List.mem_of_mem_take hx) j hxj).1
 ·rcases x with x | x | x | ⟨x, hx, hxj⟩
  ·exact Or.inr (by rw [x]; exact hr)
  ·exact Or.inr (hf2 j x).1
  ·exact Or.inr (hf4 j x).1
  ·exact Or.inl (hi.sub x (List.mem_of_mem_drop hx) j hxj).1
theorem ptr_rd {w : World} {u : Value} {g n c m : Nat} {ps : List Value} (h : w.ownsRow 0 183 1 u m ps) (e : u = .slice (some ⟨g, 0, none⟩) n c) : Rd w (· = g) 1 (some ⟨g, 0, none⟩) m ps := by
 subst e
 refine ⟨h.1, fun _ => ⟨g, 0, rfl, rfl, fun j u hu => ?_⟩⟩
 have := h.cells rfl j u hu
 rw [add_none] at this
 exact this
set_option maxHeartbeats 2000000 in
theorem split_inner {K F : Nat -> Prop} {h : Nat} {w : World} {b : Nat} {v u : Value} {ks : List Kid} (hi : Inner (NodeAt K h) w b F v u ks) (hK : ∀ j, K j -> ¬ F j) (hlim : ∀ x ∈ ks, ∀ j, x.F j -> j < w.heap.size) (hn : ks.length <= 100000) :
  Calls Tryz.prog 93 #[ptrV b] w (SplitPost K (h + 1) w b F (flat ks)) := by
 have hhl : (heads ks).length = ks.length := by simp
 by_cases h8 : ks.length <= 8
 ·exact (split_none b v u (heads ks) w hi.box hi.row (by omega)).mono (fun e w' h => Or.inl h)
 ·obtain ⟨g, c, hv, hc, hcm⟩ : ∃ g c, v = .slice (some ⟨g, 0, none⟩) ks.length c /\ ks.length <= c /\ c <= maxLen := by
   rcases owns_cases hi.row with ⟨_, e⟩ | ⟨g, c, e, h1, h2⟩
   ·omega
   ·rw [hhl] at e h1
    exact ⟨g, c, e, h1, h2⟩
  obtain ⟨gu, cu, hu, hcu, hcum⟩ := hi.form
  obtain ⟨k, hk⟩ : ∃ k, ks.length / 2 = k := ⟨_, rfl⟩
  obtain ⟨n, hnn⟩ : ∃ n, ks.length = n := ⟨_, rfl⟩
  have hrd := row_rd hi.row hv
  rw [hhl, hnn] at hrd
  have hru := ptr_rd hi.kids hu
  rw [hnn] at hru hv hu hc hcu hk h8 hn
  have HHL := Lib.hid (hhl.trans hnn)
  have HPL : Hid ((kptrs ks).length = n) := by show _ = _; simp [hnn]
  have b0 : w.cell? ⟨b, 0, none⟩ = some (.slice (some ⟨g, 0, none⟩) n c) := by rw [cell_of hi.box, <- hv]; rfl
  have HI := Lib.hid hi
  have HV := Lib.hid hv
  have HK := Lib.hid hK
  have HLIM := Lib.hid hlim
  have HRD := Lib.hid hrd
  have HRU := Lib.hid hru
  have HD1 := Lib.hid (hrd.drop (k := k) (by omega))
  have hb := lt_of_get hi.box
  have hkk : 4 <= k /\ k + 4 <= n := by omega
  have q0 : (0 : Int) <= (n : Int) / 2 := by omega
  have q1 : (n : Int) / 2 <= (n : Int) := by omega
  have q2 : ((n : Int) / 2).toNat = k := by omega
  have q3 : ¬ c = k := by omega
  have q4 : ¬ cu = k := by omega
  have d8 : decide ((n : Int) <= 8) = false := decide_eq_false (by omega)
  have hcm' : c <= 9223372036854775807 := by unfold maxLen at hcm; omega
  have hcum' : cu <= 9223372036854775807 := by unfold maxLen at hcum; omega
  have HC1 := Lib.hid (clone_ent ⟨g, 0 + k * 3, none⟩ (n - k) (c - k) _ (· = g) w HD1.out (fun u hu => one_row (heads ks) u (List.mem_of_mem_drop hu)) (by omega))
  rw [Nat.zero_add] at HC1
  have HBX : Hid (w.heap[b]? = some (.cells #[.slice (some ⟨g, 0, none⟩) n c, .slice (some ⟨gu, 0, none⟩) n cu] 187 (0, 0))) := by rw [<- HV.out, <- hu]; exact hi.box
  have HNN := Lib.hid hnn
  have HUG : Hid (∀ j, u.ownBlock = some j -> j = gu) := fun j e => by rw [hu] at e; injection e with e; exact e.symm
  have hgub : gu ≠ b := fun e => by
   obtain ⟨cc, hcc⟩ := own_blk hi.kids (k := gu) (by rw [hu]; rfl)
   exact ne_type hcc hi.box (by decide) e
  have hgul : gu < w.heap.size := (hi.kids.lt gu (by rw [hu]; rfl)).2
  clear hrd hru hK hlim hi hk hcm hcum hv hu hnn hhl
  go_enter Tryz.func93, Tryz.ntmps93
  go_wp2_with fail
  refine HC1.out.mono ?_
  rintro e w1 ⟨v2, rfl, h1⟩
  rw [<- rowV_drop] at h1
  obtain ⟨A2, c2, hv2, _, _, _⟩ := own_form h1.own
  subst hv2
  have HN1 := Lib.hid h1
  have hq2 : Quiet w (w1.alloc (.cells #[.slice A2 (n - k) c2, .slice none 0 0] 187)) := h1.quiet.alloc _
  have hb2 := hq2.get HBX.out (fun x => x)
  have HB2 := Lib.hid hb2
  have HC2 := Lib.hid (clone_ent ⟨g, 0, none⟩ k c _ (· = g) _ ((HRD.out.takeK (k := k) (by omega)).kept hq2 (fun _ _ x => x)) (fun u hu => one_row (heads ks) u (List.mem_of_mem_take hu)) (by omega))
  have b0' : (w1.alloc (.cells #[.slice A2 (n - k) c2, .slice none 0 0] 187)).cell? ⟨b, 0, none⟩ = some (.slice (some ⟨g, 0, none⟩) n c) := hq2.cell b0 (fun x => x)
  clear h1 HC1 HD1 b0 hb2 hq2
  go_wp2_with fail
  refine HC2.out.mono ?_
  rintro e w3 ⟨v1, rfl, h3⟩
  rw [<- rowV_take] at h3
  obtain ⟨A1, c1, hv1, _, _, _⟩ := own_form h3.own
  subst hv1
  have hb3 := h3.quiet.get HB2.out (fun x => x)
  have HCW := Lib.hid (cleftW_mk (ys := heads ks) HBX.out (by rw [HHL.out]; omega) (by rw [HHL.out]; exact HN1.out) h3)
  have b3 : w3.cell? ⟨b, 0, none⟩ = some (.slice (some ⟨g, 0, none⟩) n c) := h3.quiet.cell b0' (fun x => x)
  have f3 := fun o => frozen_of hb3 o
  clear h3 HC2 b0' hb3 HN1 HRD HB2
  have HLF := Lib.hid (leaf_any b _ _ _ _ _ HCW.out.box)
  go_wp2_with fail
  refine HLF.out.mono ?_
  rintro e w4 ⟨rfl, rfl⟩
  have hru4 := HRU.out.kept HCW.out.only (fun j e e' => hgub (e.symm.trans e'))
  have HRU4 := Lib.hid hru4
  have HC3 := Lib.hid (clone_node ⟨gu, 0 + k * 1, none⟩ (n - k) (cu - k) _ (· = gu) _ (hru4.drop (k := k) (by omega)) (fun u hu => one_kptrs ks u (List.mem_of_mem_drop hu)) (by omega))
  rw [Nat.zero_add, Nat.mul_one] at HC3
  have b1 : (w3.setCell ⟨b, 0, none⟩ (.slice A1 k c1)).cell? ⟨b, 1, none⟩ = some (.slice (some ⟨gu, 0, none⟩) n cu) := by rw [cell_of HCW.out.box]; rfl
  have hrn := HCW.out.new
  clear HLF b3 f3 hru4
  go_wp2_with fail
  refine HC3.out.mono ?_
  rintro e w5 ⟨u2, rfl, h5⟩
  obtain ⟨A5, c5, hu2, _, _, _⟩ := own_form h5.own
  subst hu2
  have hr5 := h5.quiet.get hrn (fun x => x)
  have z5 : w5.cell? ⟨w1.heap.size, 1, none⟩ = some (.slice none 0 0) := by rw [cell_of hr5]; rfl
  have f5 := fun o => frozen_of hr5 o
  have hb5 := h5.quiet.get HCW.out.box (fun x => x)
  have hs6 : Only (· = w1.heap.size) w5 (w5.setCell ⟨w1.heap.size, 1, none⟩ (.slice A5 (n - k) c5)) := (Only.refl (· = w1.heap.size) w5).setCell (p := ⟨w1.heap.size, 1, none⟩) (fun _ => rfl) _
  have hfr := HCW.out.fresh.1
  have hb6 := hs6.get hb5 (show ¬ b = w1.heap.size by omega)
  have b6 : (w5.setCell ⟨w1.heap.size, 1, none⟩ (.slice A5 (n - k) c5)).cell? ⟨b, 1, none⟩ = some (.slice (some ⟨gu, 0, none⟩) n cu) := by rw [cell_of hb6]; rfl
  have HB6 := Lib.hid hb6
  have HN5 : Hid (NewRow (w3.setCell ⟨b, 0, none⟩ (.slice A1 k c1)) w5 183 1 (.slice A5 (n - k) c5) ((kptrs ks).length - k) ((kptrs ks).drop k)) := by show NewRow _ _ _ _ _ _ _; rw [HPL.out]; exact h5
  have HC4 := Lib.hid (clone_node ⟨gu, 0, none⟩ k cu _ (· = gu) _ (((HRU4.out.takeK (k := k) (by omega)).kept h5.quiet (fun _ _ x => x)).kept hs6 (fun j e e' => by omega)) (fun u hu => one_kptrs ks u (List.mem_of_mem_take hu)) (by omega))
  rw [Nat.mul_one] at HC4
  clear h5 hr5 hb5 hs6 hb6 HC3 b1 hrn HRU4
  go_wp2_with fail
  refine HC4.out.mono ?_
  rintro e w7 ⟨u1, rfl, h7⟩
  obtain ⟨A7, c7, hu1, _, _, _⟩ := own_form h7.own
  subst hu1
  have hb7 := h7.quiet.get HB6.out (fun x => x)
  have z7 : w7.cell? ⟨b, 1, none⟩ = some (.slice (some ⟨gu, 0, none⟩) n cu) := by rw [cell_of hb7]; rfl
  have f7 := fun o => frozen_of hb7 o
  have HCI := Lib.hid (cleftI_mk (ps := kptrs ks) hb HCW.out HN5.out h7)
  have HR := Lib.hid (HCI.out.inner HI.out HK.out HLIM.out (by omega) (by have := HNN.out; omega))
  clear h7 hb7 HC4 HN5 HCW HCI b6 z5 f5 HB6
  go_wp2
  go_ret
  exact Or.inr ⟨_, _, _, _, _, rfl, HR.out⟩
theorem split_any {K F : Nat -> Prop} {h : Nat} {w : World} {b : Nat} {xs : List EV} (hn : NodeAt K h w b F xs) (hK : ∀ j, K j -> ¬ F j) (hl : xs.length <= 100000) :
  Calls Tryz.prog 93 #[ptrV b] w (SplitPost K h w b F xs) := by
 cases h with
 | zero => obtain ⟨v, hv⟩ := hn; exact split_leaf hv hK hl
 | succ h =>
  obtain ⟨v, u, ks, hi, e⟩ := hn.lim
  subst e
  have hkl : ks.length <= (flat ks).length := by
   have hk := hi.kid
   clear hi hl hn
   induction ks with
   | nil => simp
   | cons x ks ih =>
    have h1 := List.length_pos_iff.2 (hk x (by simp)).1
    have h2 := ih (fun y hy => hk y (by simp [hy]))
    rw [flat, List.flatMap_cons, List.length_append, List.length_cons]
    unfold flat at h2
    omega
  refine (split_inner hi (fun j hj x => hK j hj x.1) (fun x hx j hj => (hi.sub x hx j hj).1.2) (by omega)).mono ?_
  rintro e w' (x | ⟨r, F1, F2, x1, x2, rfl, hc⟩)
  ·exact Or.inl x
  ·exact Or.inr ⟨r, F1, F2, x1, x2, rfl, hc.all, hc.ne1, hc.ne2, hc.n1, hc.n2, hc.apart, fun j hj => (hc.sub1 j hj).imp (fun x => x.1) id, fun j hj => (hc.sub2 j hj).imp (fun x => x.1) id, hc.only.mono (fun j _ x => x.1)⟩
end Go.Proofs.YthipgglplneijaaGreatDoor
namespace Go.Lap
open Go.RowKit
def triSet (w : World) (b : Nat) (x y z : Value) : World := ((w.setCell ⟨b, 0, none⟩ x).setCell ⟨b, 1, none⟩ y).setCell ⟨b, 2, none⟩ z
theorem triSet_same {w : World} {b : Nat} {t : TypeId} {fr : Nat × Nat} {a c d : Value} (h : w.heap[b]? = some (.cells #[a, c, d] t fr)) (x y z : Value) : (triSet w b x y z).heap[b]? = some (.cells #[x, y, z] t fr) := by
 unfold triSet
 rw [set_same (set_same (set_same h 0 x) 1 y) 2 z]
 rfl
theorem triSet_only (w : World) (b : Nat) (x y z : Value) : Only (· = b) w (triSet w b x y z) :=
 (((Only.refl (· = b) w).setCell (p := ⟨b, 0, none⟩) (fun _ => rfl) _).setCell (p := ⟨b, 1, none⟩) (fun _ => rfl) _).setCell (p := ⟨b, 2, none⟩) (fun _ => rfl) _
end Go.Lap
namespace Go.Proofs.YthipgglplneijaaGreatDoor
open Go.RowKit Go.Lap
set_option maxHeartbeats 1000000 in
theorem copyOf_any (e0 : Ent) (A : Option Addr) (c : Nat) (S : Nat -> Prop) (w : World) (hr : Rd w S 1 A e0.key.length (bytesV e0.key)) (hl : e0.key.length <= 100000) :
  Calls Tryz.prog 92 #[entV e0 A c] w (CopyPost w e0) := by
 have hq0 : Quiet w ((w.alloc (.cells #[.slice A e0.key.length c, .int .i64 e0.pg, .int .i64 e0.sl] 124)).alloc (.cells #[.slice none 0 0, .int .i64 0, .int .i64 0] 124)) := ((Only.refl _ _).alloc _).alloc _
 have H0 := Lib.hid hq0
 obtain ⟨t0, t1, t2⟩ := ent_cells (alloc_old (alloc_new w (.cells #[.slice A e0.key.length c, .int .i64 e0.pg, .int .i64 e0.sl] 124)) (.cells #[.slice none 0 0, .int .i64 0, .int .i64 0] 124))
 have HN := Lib.hid (two_new w (.cells #[.slice A e0.key.length c, .int .i64 e0.pg, .int .i64 e0.sl] 124) (.cells #[.slice none 0 0, .int .i64 0, .int .i64 0] 124))
 have HC := Lib.hid (clone_any A c e0.key S _ (hr.kept hq0.drew (fun _ _ x => x)) hl)
 clear hr hq0
 go_enter Tryz.func92, Tryz.ntmps92
 go_wp2_with fail
 go_region_held3 (fun w' => w'.cell? ⟨w.heap.size, 0, none⟩ = some (.slice A e0.key.length c) /\ w'.cell? ⟨w.heap.size, 1, none⟩ = some (.int .i64 e0.pg) /\ w'.cell? ⟨w.heap.size, 2, none⟩ = some (.int .i64 e0.sl))
  (first | go_keep | fail)
  (first
    | (go_at_call 130; go_must (refine HC.out.mono ?_; rintro e w2 ⟨v2, rfl, hf2⟩; obtain ⟨A2, c2, hv2, _, _, hrd2⟩ := own_form hf2.own; subst hv2; have k0 := hf2.quiet.cell t0 (fun x => x); have k1 := hf2.quiet.cell t1 (fun x => x); have k2 := hf2.quiet.cell t2 (fun x => x); have hr2 := hf2.quiet.get HN.out (fun x => x); obtain ⟨z0, z1, z2⟩ := ent_cells hr2; have zf := fun o => frozen_of hr2 o))
    | fail)
 have HX := Lib.hid (triSet_same hr2 (.slice A2 e0.key.length c2) (.int .i64 e0.pg) (.int .i64 e0.sl))
 have hz2 := hf2.quiet.size
 have hsz : ((w.alloc (.cells #[.slice A e0.key.length c, .int .i64 e0.pg, .int .i64 e0.sl] 124)).alloc (.cells #[.slice none 0 0, .int .i64 0, .int .i64 0] 124)).drew.heap.size = w.heap.size + 2 := by show (World.alloc _ _).heap.size = _; simp
 have HP : Hid (CopyPost w e0 (.returned (entV e0 A2 c2)) (triSet w2 (w.heap.size + 1) (.slice A2 e0.key.length c2) (.int .i64 e0.pg) (.int .i64 e0.sl))) := by
  have ho := triSet_only w2 (w.heap.size + 1) (.slice A2 e0.key.length c2) (.int .i64 e0.pg) (.int .i64 e0.sl)
  have hlz : ∀ k, Value.ownBlock (.slice A2 e0.key.length c2) = some k -> w.heap.size + 2 <= k /\ k < w2.heap.size := fun k e => ⟨by have := hf2.new k e; omega, (hf2.own.lt k e).2⟩
  refine ⟨A2, c2, rfl, (H0.out.drew.trans hf2.quiet).trans' ho (fun k hk e => by omega), ?_⟩
  exact (Rd.kept (hrd2.mono (T := fun k => w.heap.size + 2 <= k /\ k < w2.heap.size) hlz) ho (fun k hk e => by omega)).mono (fun k hk => ⟨by omega, by have := ho.size; omega⟩)
 clear hf2 hr2 hrd2 hz2 hsz HC H0 HN k0 k1 k2 z0 z1 z2 zf t0 t1 t2
 unfold triSet at HX HP
 go_wp2
 generalize (((w2.setCell ⟨w.heap.size + 1, 0, none⟩ (.slice A2 e0.key.length c2)).setCell ⟨w.heap.size + 1, 1, none⟩ (.int .i64 e0.pg)).setCell ⟨w.heap.size + 1, 2, none⟩ (.int .i64 e0.sl)) = W6 at HX HP ⊢
 exact bodyPost_ret (results_cell1 Tryz.results92 _ _ (w.heap.size + 1) _ _ (0, 0) _ (by rfl) HX.out Tryz.underlying124 rfl info_ent) (by rfl) HP.out
theorem rowV_ins (e : EV) (xs : List EV) : rowV (insX e xs) = (rowV xs).take (posE e.e (ents xs) * 3) ++ e.cells ++ (rowV xs).drop (posE e.e (ents xs) * 3) := by
 unfold insX
 rw [show ∀ l : List EV, e :: l = [e] ++ l from fun _ => rfl, rowV_append, rowV_append, rowV_one, rowV_take, rowV_drop, List.append_assoc]
theorem leaf_ins {K F : Nat -> Prop} {w W w5 : World} {b : Nat} {xs : List EV} {v v5 : Value} {e : EV} (hl : Leaf K w b F xs v) (hK : ∀ k, K k -> ¬ F k /\ k < w.heap.size) (he : Keyd w K e) (hq : Quiet w W)
  (hg : Grew W w5 124 3 v v5 (xs.length + 1) ((rowV xs).take (posE e.e (ents xs) * 3) ++ e.cells ++ (rowV xs).drop (posE e.e (ents xs) * 3))) :
  Only F w (w5.setCell ⟨b, 0, none⟩ v5) /\ Leaf K (w5.setCell ⟨b, 0, none⟩ v5) b (fun k => F k ∨ w.heap.size <= k) (insX e xs) v5 := by
 have hbw := lt_of_get hl.box
 have hset : Only (· = b) w5 (w5.setCell ⟨b, 0, none⟩ v5) := (Only.refl (· = b) w5).setCell (p := ⟨b, 0, none⟩) (fun _ => rfl) _
 have hvb : ∀ j, v.ownBlock = some j -> j ≠ b := fun j e => by
  obtain ⟨c, hc⟩ := own_blk hl.row e
  exact ne_type hc hl.box (by decide)
 have hz := hq.size
 have hbox5 := hg.only.get (hq.get hl.box (fun x => x)) (fun e => hvb b e rfl)
 have ho : Only F w (w5.setCell ⟨b, 0, none⟩ v5) := ((hq.mono (T := F) (fun _ _ x => x.elim)).trans' hg.only (fun k hk e => hl.foot.2 k e)).trans' hset (fun k hk e => by rw [e]; exact hl.foot.1)
 have hv5b : ∀ j, v5.ownBlock = some j -> j ≠ b := fun j e => by
  rcases hg.loc with x | x
  ·rw [x] at e; exact hvb j e
  ·rw [x] at e; injection e with e; omega
 refine ⟨ho, ⟨by rw [set_same hbox5]; rfl, ?_, fun x hx => ?_, Or.inl hl.foot.1, fun j e => ?_⟩⟩
 ·unfold RowAt
  rw [insX_length, rowV_ins]
  exact owns_kept hg.own hset (fun j e x => hv5b j e x)
 ·have : Keyd w K x := by
   rcases mem_insX hx with rfl | hx
   ·exact he
   ·exact hl.key x hx
  exact this.kept ho (fun k hk => (hK k hk).1)
 ·rcases hg.loc with x | x
  ·rw [x] at e; exact Or.inl (hl.foot.2 j e)
  ·rw [x] at e; injection e with e; exact Or.inr (by omega)
def InsPost (K : Nat -> Prop) (h : Nat) (w : World) (b : Nat) (F : Nat -> Prop) (xs : List EV) (e : EV) (r : Ending) (w' : World) : Prop :=
 (e.e ∈ ents xs /\ r = .returned (.bool false) /\ Only F w w' /\ NodeAt K h w' b (fun k => F k ∨ w.heap.size <= k) xs) ∨
 (e.e ∉ ents xs /\ r = .returned (.bool true) /\ Only F w w' /\ NodeAt K h w' b (fun k => F k ∨ w.heap.size <= k) (insX e xs))
set_option maxHeartbeats 2000000 in
theorem insert_leaf {K F : Nat -> Prop} {w : World} {b : Nat} {xs : List EV} {v : Value} {e : EV} (hl : Leaf K w b F xs v) (hK : ∀ k, K k -> ¬ F k /\ k < w.heap.size) (he : Keyd w K e) (hs : Rising (ents xs)) (hn : xs.length <= 50000) :
  Calls Tryz.prog 91 #[ptrV b, entV e.e e.A e.c] w (InsPost K 0 w b F xs e) := by
 obtain ⟨A, c, hv, hc, hcm, hrd⟩ := own_form hl.row
 have hq0 : Quiet w (w.alloc (.cells #[.slice e.A e.e.key.length e.c, .int .i64 e.e.pg, .int .i64 e.e.sl] 124)) := (Only.refl _ _).alloc _
 have HQ0 := Lib.hid hq0
 have hbox1 := hq0.get hl.box (fun x => x)
 have HLF := Lib.hid (leaf_any b v none 0 0 _ hbox1)
 have b0 : (w.alloc (.cells #[.slice e.A e.e.key.length e.c, .int .i64 e.e.pg, .int .i64 e.e.sl] 124)).cell? ⟨b, 0, none⟩ = some (.slice A xs.length c) := by rw [cell_of hbox1, <- hv]; rfl
 obtain ⟨t0, t1, t2⟩ := ent_cells (alloc_new w (.cells #[.slice e.A e.e.key.length e.c, .int .i64 e.e.pg, .int .i64 e.e.sl] 124))
 have HS := Lib.hid (search_any xs e A c _ K K _ (hrd.kept hq0.drew (fun _ _ x => x)) (fun x hx => (hl.key x hx).quietly hq0.drew) (he.quietly hq0.drew) hs (by omega))
 have hpl : posE e.e (ents xs) <= xs.length := by have := posE_le e.e (ents xs); simpa using this
 have HL := Lib.hid hl
 have HK := Lib.hid hK
 have HE := Lib.hid he
 have HV := Lib.hid hv
 have HBX := Lib.hid hbox1
 clear hl hK he hs hrd hq0 hbox1 hv
 by_cases hm : e.e ∈ ents xs
 ·rw [decide_eq_true hm] at HS
  have HM := Lib.hid hm
  clear hm
  generalize posE e.e (ents xs) = p at HS hpl
  go_enter Tryz.func91, Tryz.ntmps91
  go_wp2_with fail
  refine HLF.out.mono ?_
  rintro r w1 ⟨rfl, rfl⟩
  go_wp2_with fail
  go_region_held3 (fun w' => w'.cell? ⟨b, 0, none⟩ = some (.slice A xs.length c) /\ w'.cell? ⟨w.heap.size, 0, none⟩ = some (.slice e.A e.e.key.length e.c) /\ w'.cell? ⟨w.heap.size, 1, none⟩ = some (.int .i64 e.e.pg) /\ w'.cell? ⟨w.heap.size, 2, none⟩ = some (.int .i64 e.e.sl))
   (first | go_keep | fail)
   (first
     | (go_at_call 125; go_must (refine HS.out.mono ?_; rintro r w2 ⟨rfl, hq2⟩; have k0 := hq2.cell b0 (fun x => x); have k1 := hq2.cell t0 (fun x => x); have k2 := hq2.cell t1 (fun x => x); have k3 := hq2.cell t2 (fun x => x)))
     | fail)
  have HQ2 := Lib.hid (HQ0.out.drew.trans hq2)
  clear hq2 k0 k1 k2 k3 b0 t0 t1 t2 HS HQ0 HLF
  go_wp2
  go_ret
  refine Or.inl ⟨HM.out, rfl, HQ2.out.mono (fun _ _ x => x.elim), ?_⟩
  exact (NodeAt.kept (K := K) (h := 0) HQ2.out (fun _ _ x => x) ⟨v, HL.out⟩ (fun _ _ x => x)).mono (fun _ x => Or.inl x)
 ·rw [decide_eq_false hm] at HS
  have HM := Lib.hid hm
  clear hm
  obtain ⟨p, hp⟩ : ∃ p, posE e.e (ents xs) = p := ⟨_, rfl⟩
  have HP := Lib.hid hp
  rw [hp] at HS hpl
  clear hp
  go_enter Tryz.func91, Tryz.ntmps91
  go_wp2_with fail
  refine HLF.out.mono ?_
  rintro r w1 ⟨rfl, rfl⟩
  go_wp2_with fail
  go_region_held3 (fun w' => w'.cell? ⟨b, 0, none⟩ = some (.slice A xs.length c) /\ w'.cell? ⟨w.heap.size, 0, none⟩ = some (.slice e.A e.e.key.length e.c) /\ w'.cell? ⟨w.heap.size, 1, none⟩ = some (.int .i64 e.e.pg) /\ w'.cell? ⟨w.heap.size, 2, none⟩ = some (.int .i64 e.e.sl))
   (first | go_keep | fail)
   (first
     | (go_at_call 125; go_must (refine HS.out.mono ?_; rintro r w2 ⟨rfl, hq2⟩; have k0 := hq2.cell b0 (fun x => x); have k1 := hq2.cell t0 (fun x => x); have k2 := hq2.cell t1 (fun x => x); have k3 := hq2.cell t2 (fun x => x)))
     | fail)
  have HQ2 := Lib.hid (HQ0.out.drew.trans hq2)
  have HB2 := Lib.hid (hq2.get HBX.out (fun x => x))
  clear hq2 b0 t0 t1 t2 HS HQ0 HLF HBX
  go_upto_region 5 with fail
  have hw2 : w.heap.size < w2.heap.size := cell_lt k1
  have hvb : Hid (∀ j, v.ownBlock = some j -> j ≠ b) := fun j e => by
   obtain ⟨c, hc⟩ := own_blk HL.out.row e
   exact ne_type hc HL.out.box (by decide)
  have hvl : Hid (∀ j, v.ownBlock = some j -> j < w.heap.size) := fun j e => (HL.out.row.lt j e).2
  go_cut [] (fun wx => ∃ v5, Only F w wx /\ Leaf K wx b (fun k => F k ∨ w.heap.size <= k) (insX e xs) v5)
  case first =>
   have k0a : (w2.alloc (.cells #[.slice e.A e.e.key.length e.c, .int .i64 e.e.pg, .int .i64 e.e.sl] 124)).cell? ⟨b, 0, none⟩ = some (.slice A xs.length c) := ((Only.refl (fun _ => False) w2).alloc _).cell k0 (fun x => x)
   go_region_law (first
     | (go_simp; go_at_call 127; refine (insertE_any _ xs.length p w2.heap.size (rowV xs) e.cells _ (by rw [<- HV.out]; exact owns_kept (owns_kept HL.out.row HQ2.out (fun _ _ x => x)) (((Only.refl (fun _ => False) w2).alloc _).drew) (fun _ _ x => x)) rfl (by exact alloc_new w2 _) (one_row [e]) (one_row xs) (by omega) hpl (by rw [<- HV.out]; exact fun x => by have := hvl.out _ x; omega)).mono ?_; rintro r w5 ⟨v5, rfl, hg5⟩; have hb5 : w5.heap[b]? = some (.cells #[v, .slice none 0 0] 187 (0, 0)) := hg5.only.get (by exact alloc_old HB2.out _) (fun x => hvb.out b (by rw [HV.out]; exact x) rfl); obtain ⟨A5, c5, hv5, _, _, _⟩ := own_form hg5.own; subst hv5; have s1 : w5.cell? ⟨b, 0, none⟩ = some v := (by rw [cell_of hb5]; rfl); have s2 := fun o => frozen_of hb5 o)
     | fail)
   all_goals
    go_wp2_with fail
    go_meet
    have hr := leaf_ins (e := e) HL.out HK.out HE.out (HQ2.out.alloc (.cells #[.slice e.A e.e.key.length e.c, .int .i64 e.e.pg, .int .i64 e.e.sl] 124)).drew (by rw [HP.out, HV.out]; exact hg5)
    exact ⟨_, hr.1, hr.2⟩
  case rest =>
   obtain ⟨v5, ho5, hl5⟩ := hcut
   have HR : Hid (InsPost K 0 w b F xs e (.returned (.bool true)) wc) := Or.inr ⟨HM.out, rfl, ho5, v5, hl5⟩
   clear ho5 hl5
   go_wp2
   go_ret
   exact HR.out
structure Mid (K : Nat -> Prop) (h : Nat) (w0 w : World) (b : Nat) (F : Nat -> Prop) (v u : Value) (ys : List EV) (ps : List Nat) (ks : List Kid) : Prop where
 only : Only F w0 w
 box : w.heap[b]? = some (.cells #[v, u] 187 (0, 0))
 row : RowAt w v ys
 kids : w.ownsRow 0 183 1 u ps.length (ps.map ptrV)
 some_ : ∃ g, u.ownBlock = some g
 kid : ∀ x ∈ ks, x.xs ≠ [] /\ NodeAt K h w x.b x.F x.xs
 sub : ∀ x ∈ ks, ∀ k, x.F k -> (F k ∨ w0.heap.size <= k) /\ k < w.heap.size /\ k ≠ b /\ v.ownBlock ≠ some k /\ u.ownBlock ≠ some k
 apart : ks.Pairwise (fun x y => ∀ k, x.F k -> ¬ y.F k)
 foot : F b /\ b < w0.heap.size /\ (∀ k, v.ownBlock = some k -> F k ∨ w0.heap.size <= k) /\ (∀ k, u.ownBlock = some k -> F k ∨ w0.heap.size <= k)
 keys : ∀ k, K k -> ¬ F k /\ k < w0.heap.size
section
variable {K F : Nat -> Prop} {h : Nat} {w0 w w' : World} {b : Nat} {v u : Value} {ys : List EV} {ps : List Nat} {ks : List Kid}
theorem Mid.start (hi : Inner (NodeAt K h) w0 b F v u ks) (hlim : ∀ k, F k -> k < w0.heap.size) (hK : ∀ k, K k -> ¬ F k /\ k < w0.heap.size) : Mid K h w0 w0 b F v u (heads ks) (ks.map (·.b)) ks := by
 refine ⟨Only.refl _ _, hi.box, hi.row, ?_, hi.some_, hi.kid, fun x hx k hk => ⟨Or.inl (hi.sub x hx k hk).1, hlim k (hi.sub x hx k hk).1, (hi.sub x hx k hk).2⟩, hi.apart, ⟨hi.foot.1, lt_of_get hi.box, fun k e => Or.inl (hi.foot.2.1 k e), fun k e => Or.inl (hi.foot.2.2 k e)⟩, hK⟩
 have := hi.kids
 rw [List.length_map, List.map_map]
 exact this
theorem Mid.done (hm : Mid K h w0 w b F v u (heads ks) (ks.map (·.b)) ks) (h2 : 2 <= ks.length) : NodeAt K (h + 1) w b (fun k => F k ∨ w0.heap.size <= k) (flat ks) := by
 refine ⟨v, u, ks, ⟨hm.box, hm.row, ?_, hm.some_, h2, hm.kid, fun x hx k hk => ⟨(hm.sub x hx k hk).1, (hm.sub x hx k hk).2.2⟩, hm.apart, Or.inl hm.foot.1, hm.foot.2.2.1, hm.foot.2.2.2⟩, rfl⟩
 have := hm.kids
 rw [List.length_map, List.map_map] at this
 exact this
theorem Mid.nokey (hm : Mid K h w0 w b F v u ys ps ks) {k : Nat} (hk : K k) : ¬ (F k ∨ w0.heap.size <= k) := fun x => by
 have := hm.keys k hk
 rcases x with x | x
 ·exact this.1 x
 ·omega
theorem Mid.bn (hm : Mid K h w0 w b F v u ys ps ks) : (∀ k, v.ownBlock = some k -> k ≠ b) /\ (∀ k, u.ownBlock = some k -> k ≠ b) /\ (∀ k, v.ownBlock = some k -> u.ownBlock ≠ some k) := by
 refine ⟨fun k e => ?_, fun k e => ?_, fun k e e' => ?_⟩
 ·obtain ⟨c, hc⟩ := own_blk hm.row e; exact ne_type hc hm.box (by decide)
 ·obtain ⟨c, hc⟩ := own_blk hm.kids e; exact ne_type hc hm.box (by decide)
 ·obtain ⟨c, hc⟩ := own_blk hm.row e
  obtain ⟨d, hd⟩ := own_blk hm.kids e'
  exact ne_type hc hd (by decide) rfl
theorem Mid.quietly (hm : Mid K h w0 w b F v u ys ps ks) (hq : Quiet w w') : Mid K h w0 w' b F v u ys ps ks := by
 have hz := hq.size
 exact ⟨hm.only.trans' hq (fun _ _ x => x.elim), hq.get hm.box (fun x => x), owns_kept hm.row hq (fun _ _ x => x), owns_kept hm.kids hq (fun _ _ x => x), hm.some_, fun x hx => ⟨(hm.kid x hx).1, NodeAt.kept hq (fun _ _ x => x) (hm.kid x hx).2 (fun _ _ x => x)⟩, fun x hx k hk => ⟨(hm.sub x hx k hk).1, by have := (hm.sub x hx k hk).2.1; omega, (hm.sub x hx k hk).2.2⟩, hm.apart, hm.foot, hm.keys⟩
theorem apart_mid {A B : List Kid} {x : Kid} (h : (A ++ x :: B).Pairwise (fun x y => ∀ k, x.F k -> ¬ y.F k)) : ∀ y, y ∈ A ∨ y ∈ B -> ∀ k, x.F k -> ¬ y.F k := by
 rw [List.pairwise_append, List.pairwise_cons] at h
 intro y hy k hx hyk
 rcases hy with hy | hy
 ·exact h.2.2 y hy x (by simp) k hyk hx
 ·exact h.2.1.1 y hy k hx hyk
theorem apart_put {A B M : List Kid} {x : Kid} (h : (A ++ x :: B).Pairwise (fun x y => ∀ k, x.F k -> ¬ y.F k)) (hM : M.Pairwise (fun x y => ∀ k, x.F k -> ¬ y.F k)) (hn : ∀ m ∈ M, ∀ y, y ∈ A ∨ y ∈ B -> ∀ k, m.F k -> ¬ y.F k) :
  (A ++ M ++ B).Pairwise (fun x y => ∀ k, x.F k -> ¬ y.F k) := by
 rw [List.pairwise_append, List.pairwise_cons] at h
 rw [List.pairwise_append, List.pairwise_append]
 refine ⟨⟨h.1, hM, fun a ha m hm k hk hmk => hn m hm a (Or.inl ha) k hmk hk⟩, h.2.1.2, fun a ha y hy => ?_⟩
 rcases List.mem_append.1 ha with ha | ha
 ·exact h.2.2 a ha y (by simp [hy])
 ·exact hn a ha y (Or.inr hy)
theorem Mid.turn {A B M : List Kid} {x : Kid} (hm : Mid K h w0 w b F v u ys ps (A ++ x :: B)) (ho : Only x.F w w') (hM : ∀ m ∈ M, m.xs ≠ [] /\ NodeAt K h w' m.b m.F m.xs /\ ∀ k, m.F k -> (x.F k ∨ w.heap.size <= k) /\ k < w'.heap.size) (hMp : M.Pairwise (fun x y => ∀ k, x.F k -> ¬ y.F k)) :
  Mid K h w0 w' b F v u ys ps (A ++ M ++ B) := by
 have hz := ho.size
 have hz0 := hm.only.size
 have hxm : x ∈ A ++ x :: B := by simp
 have hxs := hm.sub x hxm
 have hbw := lt_of_get hm.box
 have hap := apart_mid hm.apart
 have hkK : ∀ k, K k -> ¬ x.F k := fun k hk hx => hm.nokey hk (hxs k hx).1
 have old : ∀ y, y ∈ A ∨ y ∈ B -> y ∈ A ++ x :: B := fun y hy => by rcases hy with hy | hy <;> simp [hy]
 refine ⟨hm.only.trans' ho (fun k hk hx => ?_), ho.get hm.box (fun hx => (hxs b hx).2.2.1 rfl), owns_kept hm.row ho (fun k e hx => (hxs k hx).2.2.2.1 e), owns_kept hm.kids ho (fun k e hx => (hxs k hx).2.2.2.2 e), hm.some_, fun y hy => ?_, fun y hy k hk => ?_, apart_put hm.apart hMp (fun m hmm y hy k hk hyk => ?_), hm.foot, hm.keys⟩
 ·rcases (hxs k hx).1 with e | e
  ·exact e
  ·omega
 ·rw [List.append_assoc, List.mem_append, List.mem_append] at hy
  have key : ∀ y, y ∈ A ∨ y ∈ B -> y.xs ≠ [] /\ NodeAt K h w' y.b y.F y.xs := fun y hy => ⟨(hm.kid y (old y hy)).1, NodeAt.kept ho hkK (hm.kid y (old y hy)).2 (fun k hk hx => hap y hy k hx hk)⟩
  rcases hy with hy | hy | hy
  ·exact key y (Or.inl hy)
  ·exact ⟨(hM y hy).1, (hM y hy).2.1⟩
  ·exact key y (Or.inr hy)
 ·rw [List.append_assoc, List.mem_append, List.mem_append] at hy
  have key : ∀ y, y ∈ A ∨ y ∈ B -> y.F k -> (F k ∨ w0.heap.size <= k) /\ k < w'.heap.size /\ k ≠ b /\ v.ownBlock ≠ some k /\ u.ownBlock ≠ some k := fun y hy hk => by
   have := hm.sub y (old y hy) k hk
   exact ⟨this.1, by omega, this.2.2⟩
  rcases hy with hy | hy | hy
  ·exact key y (Or.inl hy) hk
  ·obtain ⟨h1, h2⟩ := (hM y hy).2.2 k hk
   rcases h1 with h1 | h1
   ·have := hxs k h1
    exact ⟨this.1, h2, this.2.2⟩
   ·exact ⟨Or.inr (by omega), h2, by omega, fun e => by have := (hm.row.lt k e).2; omega, fun e => by have := (hm.kids.lt k e).2; omega⟩
  ·exact key y (Or.inr hy) hk
 ·rcases ((hM m hmm).2.2 k hk).1 with h1 | h1
  ·exact hap y hy k h1 hyk
  ·have := (hm.sub y (old y hy) k hyk).2.1
   omega
theorem Mid.put {A B : List Kid} {x : Kid} {xs' : List EV} (hm : Mid K h w0 w b F v u ys ps (A ++ x :: B)) (ho : Only x.F w w') (hn : NodeAt K h w' x.b (fun k => x.F k ∨ w.heap.size <= k) xs') (hne : xs' ≠ []) :
  Mid K h w0 w' b F v u ys ps (A ++ ⟨x.b, fun k => (x.F k ∨ w.heap.size <= k) /\ k < w'.heap.size, xs'⟩ :: B) := by
 have := hm.turn (M := [⟨x.b, fun k => (x.F k ∨ w.heap.size <= k) /\ k < w'.heap.size, xs'⟩]) ho (fun m hmm => by
   simp at hmm
   subst hmm
   exact ⟨hne, hn.lim, fun k hk => hk⟩) (by simp)
 rw [List.append_assoc] at this
 exact this
theorem Mid.cleave {A B : List Kid} {x : Kid} {r : Nat} {F1 F2 : Nat -> Prop} {x1 x2 : List EV} (hm : Mid K h w0 w b F v u ys ps (A ++ x :: B)) (hc : Cleft K h w w' x.b x.F x.xs r F1 F2 x1 x2) :
  ∃ G1 G2, Mid K h w0 w' b F v u ys ps (A ++ ⟨x.b, G1, x1⟩ :: ⟨r, G2, x2⟩ :: B) := by
 refine ⟨fun k => F1 k /\ k < w'.heap.size, fun k => F2 k /\ k < w'.heap.size, ?_⟩
 have := hm.turn (M := [⟨x.b, fun k => F1 k /\ k < w'.heap.size, x1⟩, ⟨r, fun k => F2 k /\ k < w'.heap.size, x2⟩]) hc.only (fun m hmm => by
   simp at hmm
   rcases hmm with rfl | rfl
   · exact ⟨hc.ne1, hc.n1.lim, fun k hk => ⟨hc.sub1 k hk.1, hk.2⟩⟩
   · exact ⟨hc.ne2, hc.n2.lim, fun k hk => ⟨hc.sub2 k hk.1, hk.2⟩⟩) (by
   rw [List.pairwise_cons]
   refine ⟨fun y hy k hk hyk => ?_, by simp⟩
   simp at hy
   subst hy
   exact hc.apart k hk.1 hyk.1)
 rw [List.append_assoc] at this
 exact this
theorem Mid.lay {g n c j : Nat} (hm : Mid K h w0 w b F (.slice (some ⟨g, 0, none⟩) n c) u ys ps ks) (hn : ys.length = n) (x : EV) :
  Mid K h w0 (((w.setCell ⟨g, j * 3, none⟩ (.slice x.A x.e.key.length x.c)).setCell ⟨g, j * 3 + 1, none⟩ (.int .i64 x.e.pg)).setCell ⟨g, j * 3 + 2, none⟩ (.int .i64 x.e.sl)) b F (.slice (some ⟨g, 0, none⟩) n c) u (ys.set j x) ps ks := by
 subst hn
 have ho : Only (· = g) w (((w.setCell ⟨g, j * 3, none⟩ (.slice x.A x.e.key.length x.c)).setCell ⟨g, j * 3 + 1, none⟩ (.int .i64 x.e.pg)).setCell ⟨g, j * 3 + 2, none⟩ (.int .i64 x.e.sl)) := (((Only.refl (· = g) w).setCell (p := ⟨g, j * 3, none⟩) (fun _ => rfl) _).setCell (p := ⟨g, j * 3 + 1, none⟩) (fun _ => rfl) _).setCell (p := ⟨g, j * 3 + 2, none⟩) (fun _ => rfl) _
 have hz := ho.size
 obtain ⟨hb1, hb2, hb3⟩ := hm.bn
 have hg : F g ∨ w0.heap.size <= g := hm.foot.2.2.1 g rfl
 refine ⟨hm.only.trans' ho (fun k hk e => ?_), ho.get hm.box (fun e => hb1 g rfl e.symm), ?_, owns_kept hm.kids ho (fun k e e' => hb3 g rfl (by rw [<- e']; exact e)), hm.some_, fun y hy => ⟨(hm.kid y hy).1, NodeAt.kept ho (fun k hk e => hm.nokey hk (by rw [e]; exact hg)) (hm.kid y hy).2 (fun k hk e => (hm.sub y hy k hk).2.2.2.1 (by rw [e]; rfl))⟩, fun y hy k hk => ⟨(hm.sub y hy k hk).1, by have := (hm.sub y hy k hk).2.1; omega, (hm.sub y hy k hk).2.2⟩, hm.apart, hm.foot, hm.keys⟩
 ·subst e
  rcases hg with x | x
  ·exact x
  ·omega
 ·have h1 := (hm.row.stored (j * 3) (.slice x.A x.e.key.length x.c)).1
  have h2 := (World.ownsRow.stored h1 (j * 3 + 1) (.int .i64 x.e.pg)).1
  have h3 := (World.ownsRow.stored h2 (j * 3 + 2) (.int .i64 x.e.sl)).1
  rw [rowV_set] at h3
  unfold RowAt
  rw [List.length_set]
  exact h3
theorem Mid.grow {W w5 : World} {v5 : Value} {ys' : List EV} (hm : Mid K h w0 w b F v u ys ps ks) (hq : Quiet w W) (hg : Grew W w5 124 3 v v5 ys'.length (rowV ys')) : Mid K h w0 (w5.setCell ⟨b, 0, none⟩ v5) b F v5 u ys' ps ks := by
 have hset : Only (· = b) w5 (w5.setCell ⟨b, 0, none⟩ v5) := (Only.refl (· = b) w5).setCell (p := ⟨b, 0, none⟩) (fun _ => rfl) _
 have hmq := hm.quietly hq
 obtain ⟨hb1, hb2, hb3⟩ := hmq.bn
 have hbw := lt_of_get hmq.box
 have hz := hg.only.size
 have hz5 := hset.size
 have hz0 := hmq.only.size
 have hv5 : ∀ k, v5.ownBlock = some k -> v.ownBlock = some k ∨ k = W.heap.size := fun k e => by
  rcases hg.loc with x | x
  ·rw [x] at e; exact Or.inl e
  ·rw [x] at e; injection e with e; exact Or.inr e.symm
 have hv5b : ∀ k, v5.ownBlock = some k -> k ≠ b := fun k e => by
  rcases hv5 k e with x | x
  ·exact hb1 k x
  ·omega
 refine ⟨(hmq.only.trans' hg.only (fun k hk e => ?_)).trans' hset (fun k hk e => by rw [e]; exact hm.foot.1), by rw [set_same (hg.only.get hmq.box (fun e => hb1 b e rfl))]; rfl, owns_kept hg.own hset (fun k e x => hv5b k e x), owns_kept (owns_kept hmq.kids hg.only (fun k e e' => hb3 k e' e)) hset (fun k e => hb2 k e), hm.some_, fun y hy => ⟨(hm.kid y hy).1, NodeAt.kept hset (fun k hk e => hm.nokey hk (by rw [e]; exact Or.inl hm.foot.1)) (NodeAt.kept hg.only (fun k hk e => hm.nokey hk (hm.foot.2.2.1 k e)) (hmq.kid y hy).2 (fun k hk e => (hmq.sub y hy k hk).2.2.2.1 e)) (fun k hk e => (hmq.sub y hy k hk).2.2.1 e)⟩, fun y hy k hk => ?_, hm.apart, ⟨hm.foot.1, hm.foot.2.1, fun k e => ?_, hm.foot.2.2.2⟩, hm.keys⟩
 ·rcases hm.foot.2.2.1 k e with x | x
  ·exact x
  ·omega
 ·have := hmq.sub y hy k hk
  refine ⟨this.1, by omega, this.2.2.1, fun e => ?_, this.2.2.2.2⟩
  rcases hv5 k e with x | x
  ·exact this.2.2.2.1 x
  ·omega
 ·rcases hv5 k e with x | x
  ·exact hm.foot.2.2.1 k x
  ·exact Or.inr (by omega)
theorem Mid.growKids {W w5 : World} {u5 : Value} {ps' : List Nat} (hm : Mid K h w0 w b F v u ys ps ks) (hq : Quiet w W) (hg : Grew W w5 183 1 u u5 ps'.length (ps'.map ptrV)) : Mid K h w0 (w5.setCell ⟨b, 1, none⟩ u5) b F v u5 ys ps' ks := by
 have hset : Only (· = b) w5 (w5.setCell ⟨b, 1, none⟩ u5) := (Only.refl (· = b) w5).setCell (p := ⟨b, 1, none⟩) (fun _ => rfl) _
 have hmq := hm.quietly hq
 obtain ⟨hb1, hb2, hb3⟩ := hmq.bn
 have hbw := lt_of_get hmq.box
 have hz := hg.only.size
 have hz5 := hset.size
 have hz0 := hmq.only.size
 have hu5 : ∀ k, u5.ownBlock = some k -> u.ownBlock = some k ∨ k = W.heap.size := fun k e => by
  rcases hg.loc with x | x
  ·rw [x] at e; exact Or.inl e
  ·rw [x] at e; injection e with e; exact Or.inr e.symm
 have hu5b : ∀ k, u5.ownBlock = some k -> k ≠ b := fun k e => by
  rcases hu5 k e with x | x
  ·exact hb2 k x
  ·omega
 refine ⟨(hmq.only.trans' hg.only (fun k hk e => ?_)).trans' hset (fun k hk e => by rw [e]; exact hm.foot.1), by rw [set_same (hg.only.get hmq.box (fun e => hb2 b e rfl))]; rfl, owns_kept (owns_kept hmq.row hg.only (fun k e e' => hb3 k e e')) hset (fun k e => hb1 k e), owns_kept hg.own hset (fun k e x => hu5b k e x), ?_, fun y hy => ⟨(hm.kid y hy).1, NodeAt.kept hset (fun k hk e => hm.nokey hk (by rw [e]; exact Or.inl hm.foot.1)) (NodeAt.kept hg.only (fun k hk e => hm.nokey hk (hm.foot.2.2.2 k e)) (hmq.kid y hy).2 (fun k hk e => (hmq.sub y hy k hk).2.2.2.2 e)) (fun k hk e => (hmq.sub y hy k hk).2.2.1 e)⟩, fun y hy k hk => ?_, hm.apart, ⟨hm.foot.1, hm.foot.2.1, hm.foot.2.2.1, fun k e => ?_⟩, hm.keys⟩
 ·rcases hm.foot.2.2.2 k e with x | x
  ·exact x
  ·omega
 ·rcases hg.loc with x | x
  ·obtain ⟨g, hg'⟩ := hm.some_; exact ⟨g, by rw [x]; exact hg'⟩
  ·exact ⟨_, x⟩
 ·have := hmq.sub y hy k hk
  refine ⟨this.1, by omega, this.2.2.1, this.2.2.2.1, fun e => ?_⟩
  rcases hu5 k e with x | x
  ·exact this.2.2.2.2 x
  ·omega
 ·rcases hu5 k e with x | x
  ·exact hm.foot.2.2.2 k x
  ·exact Or.inr (by omega)
end
end Go.Proofs.YthipgglplneijaaGreatDoor
namespace Go.Lap
theorem heads_sub {ks : List Kid} (hne : ∀ x ∈ ks, x.xs ≠ []) : ∀ y ∈ heads ks, y ∈ flat ks := by
 intro y hy
 obtain ⟨x, hx, rfl⟩ := List.mem_map.1 hy
 exact List.mem_flatMap.2 ⟨x, hx, hd_mem (hne x hx)⟩
theorem flat_cons (x : Kid) (ks : List Kid) : flat (x :: ks) = x.xs ++ flat ks := by rw [flat, List.flatMap_cons]
theorem flat_mid (A : List Kid) (x : Kid) (B : List Kid) : flat (A ++ x :: B) = flat A ++ x.xs ++ flat B := by
 rw [flat, List.flatMap_append, List.flatMap_cons, List.append_assoc]
theorem heads_mid (A : List Kid) (x : Kid) (B : List Kid) : heads (A ++ x :: B) = heads A ++ hd x.xs :: heads B := by simp [heads]
theorem bs_mid (A : List Kid) (x : Kid) (B : List Kid) : (A ++ x :: B).map (·.b) = A.map (·.b) ++ x.b :: B.map (·.b) := by simp
theorem rising_heads {ks : List Kid} (hne : ∀ x ∈ ks, x.xs ≠ []) (hs : Rising (ents (flat ks))) : Rising (ents (heads ks)) := by
 induction ks with
 | nil => exact Rising.nil
 | cons x ks ih =>
  rw [flat_cons] at hs
  unfold ents Rising at hs
  rw [List.map_append, List.pairwise_append] at hs
  refine List.pairwise_cons.2 ⟨fun y hy => ?_, ih (fun z hz => hne z (by simp [hz])) hs.2.1⟩
  obtain ⟨z, hz, rfl⟩ := List.mem_map.1 hy
  exact hs.2.2 _ (List.mem_map.2 ⟨_, hd_mem (hne x (by simp)), rfl⟩) _ (List.mem_map.2 ⟨z, heads_sub (fun z hz => hne z (by simp [hz])) z hz, rfl⟩)
theorem hd_least {xs : List EV} (hs : Rising (ents xs)) {y : EV} (hy : y ∈ xs) : (hd xs).e = y.e ∨ cmpE (hd xs).e y.e < 0 := by
 rcases xs with _ | ⟨x, xs⟩
 ·simp at hy
 ·rcases List.mem_cons.1 hy with rfl | hy
  ·exact Or.inl rfl
  ·exact Or.inr ((List.pairwise_cons.1 hs).1 _ (List.mem_map.2 ⟨y, hy, rfl⟩))
end Go.Lap
namespace Go.Proofs.YthipgglplneijaaGreatDoor
open Go.RowKit Go.Lap
structure Goes (t : Ent) (A : List Kid) (x : Kid) (B : List Kid) : Prop where
 left : ∀ a ∈ flat A, cmpE a.e t < 0
 right : ∀ b ∈ flat B, cmpE t b.e < 0
 mem : t ∈ ents (flat (A ++ x :: B)) ↔ t ∈ ents x.xs
 rise : Rising (ents x.xs)
theorem goes_of {t : Ent} {A B : List Kid} {x : Kid} (hne : ∀ y ∈ A ++ x :: B, y.xs ≠ []) (hs : Rising (ents (flat (A ++ x :: B)))) (hb : Below1 t (ents (heads (A ++ x :: B))) A.length) : Goes t A x B := by
 have hs' := hs
 rw [flat_mid] at hs
 unfold ents Rising at hs
 rw [List.map_append, List.map_append, List.pairwise_append, List.pairwise_append] at hs
 obtain ⟨⟨_, hx, hAx⟩, hB, _⟩ := hs
 have hL : ∀ a ∈ flat A, cmpE a.e t < 0 := by
  intro a ha
  rcases hb.left with h0 | h0
  ·have : A = [] := List.eq_nil_of_length_eq_zero h0
   subst this
   simp [flat] at ha
  ·have h1 := h0 (hd x.xs).e (by unfold ents heads; simp)
   have h2 := hAx _ (List.mem_map.2 ⟨a, ha, rfl⟩) _ (List.mem_map.2 ⟨_, hd_mem (hne x (by simp)), rfl⟩)
   by_cases h3 : cmpE t (hd x.xs).e = 0
   ·rw [(cmpE_zero _ _).1 h3]; exact h2
   ·exact cmpE_trans h2 (by rw [cmpE_swap t]; omega)
 have hR : ∀ b ∈ flat B, cmpE t b.e < 0 := by
  intro c hc
  obtain ⟨y, hy, hcy⟩ := List.mem_flatMap.1 hc
  obtain ⟨j, hj⟩ := List.mem_iff_getElem?.1 hy
  have h1 : (ents (heads (A ++ x :: B)))[A.length + 1 + j]? = some (hd y.xs).e := by
   unfold ents heads
   rw [List.getElem?_map, List.getElem?_map, List.getElem?_append_right (by omega), show A.length + 1 + j - A.length = j + 1 by omega, List.getElem?_cons_succ, hj]
   rfl
  have h2 := hb.right _ _ (by omega) h1
  have hyr : Rising (ents y.xs) := by
   have hmem : ∀ l : List Kid, y ∈ l -> Rising (ents (flat l)) -> Rising (ents y.xs) := by
    intro l hl hr
    induction l with
    | nil => simp at hl
    | cons z l ih =>
     rw [flat_cons] at hr
     unfold ents Rising at hr
     rw [List.map_append, List.pairwise_append] at hr
     rcases List.mem_cons.1 hl with rfl | hl
     ·exact hr.1
     ·exact ih hl hr.2.1
   exact hmem _ (by simp [hy]) hs'
  rcases hd_least hyr hcy with e | e
  ·rw [<- e]; exact h2
  ·exact cmpE_trans h2 e
 refine ⟨hL, hR, ?_, hx⟩
 rw [flat_mid]
 unfold ents
 rw [List.map_append, List.map_append, List.mem_append, List.mem_append]
 constructor
 ·rintro ((h | h) | h)
  ·obtain ⟨a, ha, e⟩ := List.mem_map.1 h
   have := hL a ha
   rw [e, cmpE_self] at this
   omega
  ·exact h
  ·obtain ⟨a, ha, e⟩ := List.mem_map.1 h
   have := hR a ha
   rw [e, cmpE_self] at this
   omega
 ·exact fun h => Or.inl (Or.inr h)
theorem Goes.ins {e : EV} {A B : List Kid} {x : Kid} (h : Goes e.e A x B) : insX e (flat (A ++ x :: B)) = flat A ++ insX e x.xs ++ flat B := by
 rw [flat_mid]
 refine insX_mid h.left (fun b hb x => ?_)
 have := cmpE_trans (h.right b hb) x
 rw [cmpE_self] at this
 omega
theorem parted {α : Type} {ks : List α} {i : Nat} (h : i < ks.length) : ∃ A x B, ks = A ++ x :: B /\ A.length = i /\ ks[i]? = some x := by
 refine ⟨ks.take i, ks[i], ks.drop (i + 1), ?_, by rw [List.length_take]; omega, List.getElem?_eq_getElem h⟩
 rw [List.getElem_cons_drop, List.take_append_drop]
theorem set_mid {α : Type} (A : List α) (x y : α) (B : List α) : (A ++ x :: B).set A.length y = A ++ y :: B := by simp
theorem row_two (P Q : List EV) (y z : EV) : (rowV (P ++ y :: Q)).take ((P.length + 1) * 3) ++ z.cells ++ (rowV (P ++ y :: Q)).drop ((P.length + 1) * 3) = rowV (P ++ y :: z :: Q) := by
 rw [<- rowV_take, <- rowV_drop, show P ++ y :: Q = (P ++ [y]) ++ Q by simp, List.take_left' (by simp), List.drop_left' (by simp), show P ++ y :: z :: Q = (P ++ [y]) ++ ([z] ++ Q) by simp, rowV_append (P ++ [y]) ([z] ++ Q), rowV_append [z] Q, rowV_one, List.append_assoc]
theorem ptr_two (P Q : List Nat) (y z : Nat) : ((P ++ y :: Q).map ptrV).take (P.length + 1) ++ [ptrV z] ++ ((P ++ y :: Q).map ptrV).drop (P.length + 1) = (P ++ y :: z :: Q).map ptrV := by
 rw [<- List.map_take, <- List.map_drop, show P ++ y :: Q = (P ++ [y]) ++ Q by simp, List.take_left' (by simp), List.drop_left' (by simp)]
 simp
theorem insertE_z {z : Int} (v : Value) (n i vb : Nat) (xs news : List Value) (w : World) (hz : z = (i : Int)) (hown : w.ownsRow 0 124 3 v n xs) (hnl : news.length = 3) (hnew : w.heap[vb]? = some (.cells news.toArray 124 (0, 0))) (h1 : ∀ u ∈ news, u.oneCell' = true) (hx1 : ∀ u ∈ xs, u.oneCell' = true) (hn : n <= 100000) (hi : i <= n) (hvb : v.ownBlock ≠ some vb) :
  Calls Tryz.prog 127 #[v, .int .i64 z, .slice (some ⟨vb, 0, none⟩) 1 1] w fun e w' => ∃ v', e = .returned v' /\ Grew w w' 124 3 v v' (n + 1) (xs.take (i * 3) ++ news ++ xs.drop (i * 3)) := by
 subst hz
 exact insertE_any v n i vb xs news w hown hnl hnew h1 hx1 hn hi hvb
theorem insertN_z {z : Int} (v : Value) (n i vb : Nat) (xs news : List Value) (w : World) (hz : z = (i : Int)) (hown : w.ownsRow 0 183 1 v n xs) (hnl : news.length = 1) (hnew : w.heap[vb]? = some (.cells news.toArray 183 (0, 0))) (h1 : ∀ u ∈ news, u.oneCell' = true) (hx1 : ∀ u ∈ xs, u.oneCell' = true) (hn : n <= 100000) (hi : i <= n) (hvb : v.ownBlock ≠ some vb) :
  Calls Tryz.prog 129 #[v, .int .i64 z, .slice (some ⟨vb, 0, none⟩) 1 1] w fun e w' => ∃ v', e = .returned v' /\ Grew w w' 183 1 v v' (n + 1) (xs.take i ++ news ++ xs.drop i) := by
 subst hz
 exact insertN_any v n i vb xs news w hown hnl hnew h1 hx1 hn hi hvb
theorem Mid.insE {K F : Nat -> Prop} {h : Nat} {w0 w : World} {b g n c i : Nat} {u : Value} {P Q : List EV} {y x : EV} {ps : List Nat} {ks : List Kid} {z : Int} (hm : Mid K h w0 w b F (.slice (some ⟨g, 0, none⟩) n c) u (P ++ y :: Q) ps ks) (hz : z = (i : Int) + 1) (hP : P.length = i) (hn : n <= 50000) :
  Calls Tryz.prog 127 #[.slice (some ⟨g, 0, none⟩) n c, .int .i64 z, .slice (some ⟨w.heap.size, 0, none⟩) 1 1] (w.alloc (.cells #[.slice x.A x.e.key.length x.c, .int .i64 x.e.pg, .int .i64 x.e.sl] 124)) fun e w8 =>
   ∃ A8 c8, e = .returned (.slice A8 (n + 1) c8) /\ w8.cell? ⟨b, 0, none⟩ = some (.slice (some ⟨g, 0, none⟩) n c) /\ (∀ o, w8.frozen? ⟨b, o, none⟩ = false) /\ Mid K h w0 (w8.setCell ⟨b, 0, none⟩ (.slice A8 (n + 1) c8)) b F (.slice A8 (n + 1) c8) u (P ++ y :: x :: Q) ps ks := by
 obtain ⟨A', c', he, _, _, _⟩ := own_form hm.row
 have hlen : (P ++ y :: Q).length = n := by injection he with _ he _; exact he.symm
 have hil : i + 1 <= n := by rw [<- hlen, <- hP]; simp
 have hgl : g < w.heap.size := (hm.row.lt g rfl).2
 have hrow := owns_kept hm.row ((Only.refl (fun _ => False) w).alloc (.cells #[.slice x.A x.e.key.length x.c, .int .i64 x.e.pg, .int .i64 x.e.sl] 124)) (fun _ _ x => x)
 rw [hlen] at hrow
 refine (insertE_z (z := z) _ n (i + 1) w.heap.size (rowV (P ++ y :: Q)) x.cells _ (by omega) hrow rfl (alloc_new w _) (fun u hu => one_row [x] u (by rw [rowV_one]; exact hu)) (one_row _) (by omega) hil (fun e => by have e2 : g = w.heap.size := Option.some.inj e; omega)).mono ?_
 rintro e w8 ⟨v8, rfl, hg⟩
 obtain ⟨A8, c8, hv8, _, _, _⟩ := own_form hg.own
 subst hv8
 have hb8 := hg.only.get (alloc_old hm.box _) (fun e => hm.bn.1 b e rfl)
 rw [<- hP, row_two] at hg
 have hl2 : (P ++ y :: x :: Q).length = n + 1 := by rw [<- hlen]; simp; omega
 refine ⟨A8, c8, rfl, by rw [cell_of hb8]; rfl, fun o => frozen_of hb8 o, hm.grow ((Only.refl _ _).alloc _) (by rw [hl2]; exact hg)⟩
theorem Mid.insN {K F : Nat -> Prop} {h : Nat} {w0 w : World} {b g n c i r : Nat} {v : Value} {ys : List EV} {P Q : List Nat} {y : Nat} {ks : List Kid} {z : Int} (hm : Mid K h w0 w b F v (.slice (some ⟨g, 0, none⟩) n c) ys (P ++ y :: Q) ks) (hz : z = (i : Int) + 1) (hP : P.length = i) (hn : n <= 50000) :
  Calls Tryz.prog 129 #[.slice (some ⟨g, 0, none⟩) n c, .int .i64 z, .slice (some ⟨w.heap.size, 0, none⟩) 1 1] (w.alloc (.cells #[ptrV r] 183)) fun e w8 =>
   ∃ A8 c8, e = .returned (.slice A8 (n + 1) c8) /\ w8.cell? ⟨b, 1, none⟩ = some (.slice (some ⟨g, 0, none⟩) n c) /\ (∀ o, w8.frozen? ⟨b, o, none⟩ = false) /\ Mid K h w0 (w8.setCell ⟨b, 1, none⟩ (.slice A8 (n + 1) c8)) b F v (.slice A8 (n + 1) c8) ys (P ++ y :: r :: Q) ks := by
 obtain ⟨A', c', he, _, _, _⟩ := own_form hm.kids
 have hlen : (P ++ y :: Q).length = n := by injection he with _ he _; exact he.symm
 have hil : i + 1 <= n := by rw [<- hlen, <- hP]; simp
 have hgl : g < w.heap.size := (hm.kids.lt g rfl).2
 have hrow := owns_kept hm.kids ((Only.refl (fun _ => False) w).alloc (.cells #[ptrV r] 183)) (fun _ _ x => x)
 rw [hlen] at hrow
 refine (insertN_z (z := z) _ n (i + 1) w.heap.size ((P ++ y :: Q).map ptrV) [ptrV r] _ (by omega) hrow rfl (alloc_new w _) (one_ptr [r]) (one_ptr _) (by omega) hil (fun e => by have e2 : g = w.heap.size := Option.some.inj e; omega)).mono ?_
 rintro e w8 ⟨v8, rfl, hg⟩
 obtain ⟨A8, c8, hv8, _, _, _⟩ := own_form hg.own
 subst hv8
 have hb8 := hg.only.get (alloc_old hm.box _) (fun e => hm.bn.2.1 b e rfl)
 rw [<- hP, ptr_two] at hg
 have hl2 : (P ++ y :: r :: Q).length = n + 1 := by rw [<- hlen]; simp; omega
 refine ⟨A8, c8, rfl, by rw [cell_of hb8]; rfl, fun o => frozen_of hb8 o, hm.growKids ((Only.refl _ _).alloc _) (by rw [hl2]; exact hg)⟩
def InsIH (K : Nat -> Prop) (h : Nat) : Prop := ∀ (w : World) (b : Nat) (F : Nat -> Prop) (xs : List EV) (e : EV), NodeAt K h w b F xs -> (∀ k, K k -> ¬ F k /\ k < w.heap.size) -> Keyd w K e -> Rising (ents xs) -> xs.length <= 50000 →
 Calls Tryz.prog 91 #[ptrV b, entV e.e e.A e.c] w (InsPost K h w b F xs e)
set_option maxHeartbeats 4000000 in
theorem insert_inner {K F : Nat -> Prop} {h : Nat} {w : World} {b : Nat} {v u : Value} {ks : List Kid} {e : EV} (hih : InsIH K h) (hi : Inner (NodeAt K h) w b F v u ks) (hlim : ∀ k, F k -> k < w.heap.size) (hK : ∀ k, K k -> ¬ F k /\ k < w.heap.size) (he : Keyd w K e) (hs : Rising (ents (flat ks))) (hn : (flat ks).length <= 50000) (hkl : ks.length <= (flat ks).length) :
  Calls Tryz.prog 91 #[ptrV b, entV e.e e.A e.c] w (InsPost K (h + 1) w b F (flat ks) e) := by
 have hhl : (heads ks).length = ks.length := by simp
 have hne : ∀ x ∈ ks, x.xs ≠ [] := fun x hx => (hi.kid x hx).1
 have hrh := rising_heads hne hs
 have h2 := hi.two
 have hb1 := below_spec (t := e.e) hrh (by intro x; have := congrArg List.length x; simp at this; rw [this] at h2; simp at h2)
 obtain ⟨i, hie⟩ : ∃ i, belowE e.e (ents (heads ks)) = i := ⟨_, rfl⟩
 rw [hie] at hb1
 have hil : i < ks.length := by have := hb1.lt; simpa using this
 obtain ⟨A, x, B, hks, hAi, _⟩ := parted hil
 subst hks
 rw [<- hAi] at hb1
 have HGO := Lib.hid (goes_of hne hs hb1)
 obtain ⟨gu, cu, hu, hcu, hcum⟩ := hi.form
 obtain ⟨g, c, hv, hc, hcm⟩ : ∃ g c, v = .slice (some ⟨g, 0, none⟩) (A ++ x :: B).length c /\ (A ++ x :: B).length <= c /\ c <= maxLen := by
  rcases owns_cases hi.row with ⟨_, e⟩ | ⟨g, c, e, h1, h2'⟩
  ·omega
  ·rw [hhl] at e h1
   exact ⟨g, c, e, h1, h2'⟩
 have hm0 := Mid.start hi hlim hK
 obtain ⟨n, hnn⟩ : ∃ n, (A ++ x :: B).length = n := ⟨_, rfl⟩
 rw [hnn] at hv hu hc hcu hil h2
 rw [hv, hu] at hm0
 have hq0 : Quiet w (w.alloc (.cells #[.slice e.A e.e.key.length e.c, .int .i64 e.e.pg, .int .i64 e.e.sl] 124)) := (Only.refl _ _).alloc _
 have hm1 := hm0.quietly hq0
 have HM1 := Lib.hid hm1
 have HE1 := Lib.hid (he.quietly hq0)
 have HBX1 := Lib.hid (alloc_new w (.cells #[.slice e.A e.e.key.length e.c, .int .i64 e.e.pg, .int .i64 e.e.sl] 124))
 have HLF := Lib.hid (leaf_any b _ _ _ _ _ hm1.box)
 have hkey1 : ∀ y ∈ heads (A ++ x :: B), Keyd (w.alloc (.cells #[.slice e.A e.e.key.length e.c, .int .i64 e.e.pg, .int .i64 e.e.sl] 124)) K y := fun y hy => by
  obtain ⟨z, hz, rfl⟩ := List.mem_map.1 hy
  exact (hm1.kid z hz).2.key _ (hd_mem (hne z hz))
 have HBE := Lib.hid (below_any b _ _ (heads (A ++ x :: B)) e K K _ hm1.box hm1.row hkey1 HE1.out hrh (by rw [hhl]; omega))
 rw [hie] at HBE
 obtain ⟨t0, t1, t2⟩ := ent_cells HBX1.out
 have HIH := Lib.hid hih
 have HNN := Lib.hid hnn
 have HAI := Lib.hid hAi
 have hxl : Hid (x.xs.length <= 50000) := by show _ <= _; rw [flat_mid] at hn; simp at hn; omega
 have hn5 : n <= 50000 := by omega
 obtain ⟨POST, hPOST⟩ : ∃ POST, InsPost K (h + 1) w b F (flat (A ++ x :: B)) e = POST := ⟨_, rfl⟩
 rw [hPOST]
 have HPOST := Lib.hid hPOST
 have hcm' : c <= 9223372036854775807 := by unfold maxLen at hcm; omega
 have hcum' : cu <= 9223372036854775807 := by unfold maxLen at hcum; omega
 clear hih hi hlim hK he hs hn hkl hhl hne hrh hb1 hie hu hv hm0 hq0 hm1 hkey1 hnn hAi hcm hcum hPOST
 go_enter Tryz.func91, Tryz.ntmps91
 go_wp2_with fail
 refine HLF.out.mono ?_
 rintro r w1 ⟨rfl, rfl⟩
 go_wp2_with fail
 refine HBE.out.mono ?_
 rintro r w2 ⟨rfl, hq2⟩
 have hm2 := HM1.out.quietly hq2
 have HM2 := Lib.hid hm2
 have HE2 := Lib.hid (HE1.out.quietly hq2)
 have HBX2 := Lib.hid (hq2.get HBX1.out (fun x => x))
 have b1 : w2.cell? ⟨b, 1, none⟩ = some (.slice (some ⟨gu, 0, none⟩) n cu) := by rw [cell_of hm2.box]; rfl
 have p1 : w2.cell? ⟨gu, i, none⟩ = some (ptrV x.b) := by
  have := hm2.kids.cells rfl i (ptrV x.b) (by rw [List.getElem?_map, List.getElem?_map, <- HAI.out]; simp)
  rw [add_none, Nat.zero_add] at this
  exact this
 obtain ⟨t0, t1, t2⟩ := ent_cells HBX2.out
 have d0 : (0 : Int) <= (i : Int) := by omega
 have d1 : (i : Int) < (n : Int) := by omega
 have HIN := Lib.hid (HIH.out w2 x.b x.F x.xs e (hm2.kid x (by simp)).2 (fun k hk => ⟨fun y => hm2.nokey hk (hm2.sub x (by simp) k y).1, by have := (hm2.keys k hk).2; have := hm2.only.size; omega⟩) HE2.out HGO.out.rise hxl.out)
 clear hq2 hm2 HM1 HE1 HBX1 HLF HBE HIH
 go_wp2_with fail
 refine HIN.out.mono ?_
 rintro r w3 (⟨hmem, rfl, ho3, hn3⟩ | ⟨hmem, rfl, ho3, hn3⟩)
 ·have hm3 := HM2.out.put ho3 hn3 (HM2.out.kid x (by simp)).1
  rw [heads_mid, bs_mid] at hm3
  have HR : Hid (POST (.returned (.bool false)) w3) := by
   rw [<- HPOST.out]
   refine Or.inl ⟨HGO.out.mem.2 hmem, rfl, hm3.only, ?_⟩
   have := Mid.done (ks := A ++ ⟨x.b, fun k => (x.F k ∨ w2.heap.size <= k) /\ k < w3.heap.size, x.xs⟩ :: B) (by rw [heads_mid, bs_mid]; exact hm3) (by have := HNN.out; simp at this ⊢; omega)
   rw [flat_mid] at this ⊢
   exact this
  clear hm3 hmem ho3 hn3 HIN HM2 HE2 HBX2 b1 p1 t0 t1 t2
  go_wp2
  exact HR.out
 ·have hm3 := HM2.out.put ho3 hn3 (insX_ne e x.xs)
  rw [heads_mid, bs_mid] at hm3
  have HM3 := Lib.hid hm3
  have HMEM := Lib.hid hmem
  have hq3d : Quiet w3 w3.drew := (Only.refl _ _).drew
  have HLE := Lib.hid (least_any ((hm3.quietly hq3d).kid _ (List.mem_append_right A List.mem_cons_self)).2 (insX_ne e x.xs))
  have b3 : w3.cell? ⟨b, 0, none⟩ = some (.slice (some ⟨g, 0, none⟩) n c) := by rw [cell_of hm3.box]; rfl
  have hgb : g ≠ b := hm3.bn.1 g rfl
  have hgl : g < w3.heap.size := (hm3.row.lt g rfl).2
  have hys : Hid ((heads A ++ hd x.xs :: heads B)[i]? = some (hd x.xs)) := by show _ = _; rw [<- HAI.out]; simp [heads]
  clear hm3 hmem ho3 hn3 HIN HM2 HE2 HBX2 b1 p1 t0 t1 t2 hq3d
  go_wp2_with fail
  go_region_held3 (fun w' => w'.cell? ⟨b, 0, none⟩ = some (.slice (some ⟨g, 0, none⟩) n c))
   (first | go_keep | fail)
   (first
     | (go_at_call 94; go_must (refine HLE.out.mono ?_; rintro r w4 ⟨rfl, hq4⟩; have k0 := hq4.cell b3 (fun x => x); have hm4 := (HM3.out.quietly ((Only.refl (fun _ => False) w3).drew)).quietly hq4; obtain ⟨s0, s1, s2⟩ := row_at hm4.row hys.out (Only.refl _ _); obtain ⟨rc, hrc⟩ := own_blk hm4.row (k := g) rfl; have sf := fun o => frozen_of hrc o))
     | fail)
  have hlen : (heads A ++ hd x.xs :: heads B).length = n := by have := HNN.out; simp [heads] at this ⊢; omega
  have hm5 := hm4.lay (j := i) hlen (hd (insX e x.xs))
  rw [show (heads A ++ hd x.xs :: heads B).set i (hd (insX e x.xs)) = heads A ++ hd (insX e x.xs) :: heads B by rw [show i = (heads A).length by rw [<- HAI.out]; simp [heads]]; exact set_mid _ _ _ _] at hm5
  have HM5 := Lib.hid hm5
  clear hm5 hm4 hq4 k0 s0 s1 s2 rc hrc sf HLE b3 HM3 hgb hgl hys hlen
  generalize (((w4.setCell ⟨g, i * 3, none⟩ (.slice (hd (insX e x.xs)).A (hd (insX e x.xs)).e.key.length (hd (insX e x.xs)).c)).setCell ⟨g, i * 3 + 1, none⟩ (.int .i64 (hd (insX e x.xs)).e.pg)).setCell ⟨g, i * 3 + 2, none⟩ (.int .i64 (hd (insX e x.xs)).e.sl)) = w5 at HM5 ⊢
  obtain ⟨x5, HX5⟩ : ∃ x5 : Kid, Hid (x5.b = x.b /\ x5.xs = insX e x.xs /\ Mid K h w w5 b F (.slice (some ⟨g, 0, none⟩) n c) (.slice (some ⟨gu, 0, none⟩) n cu) (heads A ++ hd (insX e x.xs) :: heads B) (A.map (·.b) ++ x.b :: B.map (·.b)) (A ++ x5 :: B)) := ⟨⟨x.b, fun k => (x.F k ∨ w2.heap.size <= k) /\ k < w3.heap.size, insX e x.xs⟩, rfl, rfl, HM5.out⟩
  have hsp := split_any (HX5.out.2.2.kid x5 (by simp)).2 (fun j hj hx => HX5.out.2.2.nokey hj (HX5.out.2.2.sub x5 (by simp) j hx).1) (by rw [HX5.out.2.1, insX_length]; have := hxl.out; omega)
  rw [HX5.out.1] at hsp
  have HSP := Lib.hid hsp
  have HLEN : Hid ((A ++ x5 :: B).length = n) := by have := HNN.out; show _ = _; simp at this ⊢; omega
  clear hsp HM5
  go_wp2_with fail
  refine HSP.out.mono ?_
  rintro r w6 (⟨rfl, rfl⟩ | ⟨r, F1, F2, x1, x2, rfl, hc6⟩)
  ·have HR : Hid (POST (.returned (.bool true)) w5) := by
    rw [<- HPOST.out]
    refine Or.inr ⟨fun z => HMEM.out (HGO.out.mem.1 z), rfl, HX5.out.2.2.only, ?_⟩
    have := Mid.done (ks := A ++ x5 :: B) (by rw [heads_mid, bs_mid, HX5.out.1, HX5.out.2.1]; exact HX5.out.2.2) (by rw [HLEN.out]; exact h2)
    rw [flat_mid, HX5.out.2.1] at this
    rw [HGO.out.ins]
    exact this
   clear HSP HX5
   go_wp2
   exact HR.out
  ·rw [<- HX5.out.1] at hc6
   obtain ⟨G1, G2, hm6⟩ := HX5.out.2.2.cleave hc6
   have hall := hc6.all
   rw [HX5.out.2.1] at hall
   have hh1 : hd (insX e x.xs) = hd x1 := by rw [hall]; exact hd_append hc6.ne1 _
   rw [hh1, HX5.out.1] at hm6
   have HALL := Lib.hid hall
   have HM6 := Lib.hid hm6
   have HLR := Lib.hid (least_any (xs := x2) ((hm6.quietly ((Only.refl (fun _ => False) w6).drew)).kid ⟨r, G2, x2⟩ (by simp)).2 hc6.ne2)
   have k6 : w6.cell? ⟨b, 0, none⟩ = some (.slice (some ⟨g, 0, none⟩) n c) := by rw [cell_of hm6.box]; rfl
   have hlen : Hid ((heads A ++ hd x1 :: heads B).length = n) := by have := HNN.out; show _ = _; simp [heads] at this ⊢; omega
   have hhA : Hid ((heads A).length = i) := by show _ = _; rw [<- HAI.out]; simp [heads]
   have dw : IntKind.i64.wrap ((i : Int) + 1) = (i : Int) + 1 := wrapI (by omega)
   have hgl : g < w6.heap.size := (hm6.row.lt g rfl).2
   have hgb : Hid (g ≠ b) := hm6.bn.1 g rfl
   clear hm6 hall hh1 hc6 HSP HX5
   go_upto_region 14 with fail
   go_cut [] (fun wx => ∃ v7, Mid K h w wx b F v7 (.slice (some ⟨gu, 0, none⟩) n cu) (heads A ++ hd x1 :: hd x2 :: heads B) (A.map (·.b) ++ x.b :: B.map (·.b)) (A ++ ⟨x.b, G1, x1⟩ :: ⟨r, G2, x2⟩ :: B))
   case first =>
    go_region_law (first
      | (go_simp; go_at_call 94; refine HLR.out.mono ?_; rintro r' w7 ⟨rfl, hq7⟩; have k7 := hq7.cell k6 (fun x => x); have k7a : (w7.alloc (.cells #[.slice (hd x2).A (hd x2).e.key.length (hd x2).c, .int .i64 (hd x2).e.pg, .int .i64 (hd x2).e.sl] 124)).cell? ⟨b, 0, none⟩ = some (.slice (some ⟨g, 0, none⟩) n c) := ((Only.refl (fun _ => False) w7).alloc _).cell k7 (fun x => x); have hm7 := (HM6.out.quietly ((Only.refl (fun _ => False) w6).drew)).quietly hq7; have hz7 := hq7.size)
      | (go_simp; go_at_call 127; refine (hm7.insE (x := hd x2) rfl hhA.out hn5).mono ?_; rintro r' w8 ⟨A8, c8, rfl, s1, s2, hm8⟩)
      | fail)
    all_goals
     go_wp2_with fail
     go_meet
     exact ⟨_, hm8⟩
   case rest =>
    obtain ⟨v7, hm7⟩ := hcut
    have HM7 := Lib.hid hm7
    have b7 : wc.cell? ⟨b, 1, none⟩ = some (.slice (some ⟨gu, 0, none⟩) n cu) := by rw [cell_of hm7.box]; rfl
    have HIN7 := Lib.hid (hm7.insN (r := r) (z := (i : Int) + 1) rfl (show (A.map (·.b)).length = i by rw [<- HAI.out]; simp) hn5)
    clear hm7 HLR k6 HM6 dw
    go_wp2_with fail
    refine HIN7.out.mono ?_
    rintro r' w9 ⟨A9, c9, rfl, s1, s2, hm9⟩
    have HR : Hid (POST (.returned (.bool true)) (w9.setCell ⟨b, 1, none⟩ (.slice A9 (n + 1) c9))) := by
     rw [<- HPOST.out]
     refine Or.inr ⟨fun z => HMEM.out (HGO.out.mem.1 z), rfl, hm9.only, ?_⟩
     have := Mid.done (ks := A ++ ⟨x.b, G1, x1⟩ :: ⟨r, G2, x2⟩ :: B) (by
       rw [heads_mid, bs_mid]
       exact hm9) (by simp; omega)
     rw [flat_mid, flat_cons] at this
     rw [HGO.out.ins, HALL.out]
     simp only [List.append_assoc] at this ⊢
     exact this
    clear hm9 HIN7 HM7 b7
    go_wp2
    exact HR.out
theorem flat_le {ks : List Kid} (hk : ∀ x ∈ ks, x.xs ≠ []) : ks.length <= (flat ks).length := by
 induction ks with
 | nil => simp
 | cons x ks ih =>
  have h1 := List.length_pos_iff.2 (hk x (by simp))
  have h2 := ih (fun y hy => hk y (by simp [hy]))
  rw [flat_cons, List.length_append, List.length_cons]
  omega
theorem insert_ih (K : Nat -> Prop) (h : Nat) : InsIH K h := by
 induction h with
 | zero =>
  intro w b F xs e ⟨v, hl⟩ hK he hs hn
  exact insert_leaf hl hK he hs hn
 | succ h ih =>
  intro w b F xs e hn hK he hs hl
  obtain ⟨v, u, ks, hi, rfl⟩ := hn.lim
  refine (insert_inner ih hi (fun k hk => hk.2) (fun k hk => ⟨fun x => (hK k hk).1 x.1, (hK k hk).2⟩) he hs hl (flat_le (fun x hx => (hi.kid x hx).1))).mono ?_
  rintro r w' (⟨h1, h2, h3, h4⟩ | ⟨h1, h2, h3, h4⟩)
  ·exact Or.inl ⟨h1, h2, h3.mono (fun _ _ x => x.1), h4.mono (fun k x => x.imp (fun y => y.1) id)⟩
  ·exact Or.inr ⟨h1, h2, h3.mono (fun _ _ x => x.1), h4.mono (fun k x => x.imp (fun y => y.1) id)⟩
structure TreeMid (w0 w : World) (D : Nat -> Prop) (tb rb h : Nat) (F K : Nat -> Prop) (xs : List EV) (cnt : Int) : Prop where
 only : Only D w0 w
 box : w.heap[tb]? = some (.cells #[ptrV rb, .int .i64 cnt] 189 (0, 0))
 node : NodeAt K h w rb F xs
 subF : ∀ k, F k -> (D k ∨ w0.heap.size <= k) /\ k ≠ tb /\ k < w.heap.size
 subK : ∀ k, K k -> (D k ∨ w0.heap.size <= k) /\ ¬ F k /\ k ≠ tb /\ k < w.heap.size
 own : D tb /\ tb < w0.heap.size
def TreeIs (w : World) (D : Nat -> Prop) (tb : Nat) (es : List Ent) : Prop := ∃ rb h F K xs, TreeMid w w D tb rb h F K xs (xs.length : Int) /\ ents xs = es /\ Rising es
section
variable {w0 w w' : World} {D : Nat -> Prop} {tb rb h : Nat} {F K : Nat -> Prop} {xs : List EV} {cnt : Int}
theorem TreeMid.quietly (hm : TreeMid w0 w D tb rb h F K xs cnt) (hq : Quiet w w') : TreeMid w0 w' D tb rb h F K xs cnt := by
 have hz := hq.size
 exact ⟨hm.only.trans' hq (fun _ _ x => x.elim), hq.get hm.box (fun x => x), NodeAt.kept hq (fun _ _ x => x) hm.node (fun _ _ x => x), fun k hk => by have := hm.subF k hk; exact ⟨this.1, this.2.1, by omega⟩, fun k hk => by have := hm.subK k hk; exact ⟨this.1, this.2.1, this.2.2.1, by omega⟩, hm.own⟩
theorem TreeMid.keys {K' : Nat -> Prop} (hm : TreeMid w0 w D tb rb h F K xs cnt) (hk : ∀ k, K k -> K' k) (hn : ∀ k, K' k -> K k ∨ (w0.heap.size <= k /\ k < w.heap.size /\ ¬ F k)) : TreeMid w0 w D tb rb h F K' xs cnt := by
 refine ⟨hm.only, hm.box, NodeAt.keys hk hm.node, hm.subF, fun k x => ?_, hm.own⟩
 rcases hn k x with y | ⟨y, z, u⟩
 ·exact hm.subK k y
 ·exact ⟨Or.inr y, u, by have := hm.own.2; omega, z⟩
theorem TreeMid.turn {rb' h' : Nat} {F' : Nat -> Prop} {xs' : List EV} (hm : TreeMid w0 w D tb rb h F K xs cnt) (ho : Only F w w') (hn : NodeAt K h' w' rb' F' xs') (hF : ∀ k, F' k -> F k ∨ w.heap.size <= k) (hrb : rb' = rb) : TreeMid w0 w' D tb rb' h' (fun k => F' k /\ k < w'.heap.size) K xs' cnt := by
 subst hrb
 have hz := ho.size
 have hz0 := hm.only.size
 have htb := lt_of_get hm.box
 refine ⟨hm.only.trans' ho (fun k hk x => ?_), ho.get hm.box (fun x => (hm.subF tb x).2.1 rfl), hn.lim, fun k x => ?_, fun k x => ?_, hm.own⟩
 ·rcases (hm.subF k x).1 with y | y
  ·exact y
  ·omega
 ·rcases hF k x.1 with y | y
  ·exact ⟨(hm.subF k y).1, (hm.subF k y).2.1, x.2⟩
  ·exact ⟨Or.inr (by omega), by omega, x.2⟩
 ·have := hm.subK k x
  refine ⟨this.1, fun y => ?_, this.2.2.1, by omega⟩
  rcases hF k y.1 with z | z
  ·exact this.2.1 z
  ·omega
theorem TreeMid.count (hm : TreeMid w0 w D tb rb h F K xs cnt) (c : Int) : TreeMid w0 (w.setCell ⟨tb, 1, none⟩ (.int .i64 c)) D tb rb h F K xs c := by
 have ho : Only (· = tb) w (w.setCell ⟨tb, 1, none⟩ (.int .i64 c)) := (Only.refl (· = tb) w).setCell (p := ⟨tb, 1, none⟩) (fun _ => rfl) _
 have hz := ho.size
 exact ⟨hm.only.trans' ho (fun k _ e => by rw [e]; exact hm.own.1), by rw [set_same hm.box]; rfl, NodeAt.kept ho (fun k hk e => (hm.subK k hk).2.2.1 e) hm.node (fun k hk e => (hm.subF k hk).2.1 e), fun k hk => by have := hm.subF k hk; exact ⟨this.1, this.2.1, by omega⟩, fun k hk => by have := hm.subK k hk; exact ⟨this.1, this.2.1, this.2.2.1, by omega⟩, hm.own⟩
theorem TreeMid.cells (hm : TreeMid w0 w D tb rb h F K xs cnt) : w.cell? ⟨tb, 0, none⟩ = some (ptrV rb) /\ w.cell? ⟨tb, 1, none⟩ = some (.int .i64 cnt) /\ ∀ o, w.frozen? ⟨tb, o, none⟩ = false :=
 ⟨by rw [cell_of hm.box]; rfl, by rw [cell_of hm.box]; rfl, fun o => frozen_of hm.box o⟩
theorem TreeMid.root {X : World} {r gl gk nb : Nat} {F1 F2 : Nat -> Prop} {x1 x2 : List EV} (hm : TreeMid w0 w D tb rb h F K xs cnt) (hc : Cleft K h w w' rb F xs r F1 F2 x1 x2) (hq : Quiet w' X)
  (hl : X.heap[gl]? = some (.cells #[.slice (hd x1).A (hd x1).e.key.length (hd x1).c, .int .i64 (hd x1).e.pg, .int .i64 (hd x1).e.sl, .slice (hd x2).A (hd x2).e.key.length (hd x2).c, .int .i64 (hd x2).e.pg, .int .i64 (hd x2).e.sl] 124 (0, 0)))
  (hk : X.heap[gk]? = some (.cells #[ptrV rb, ptrV r] 183 (0, 0)))
  (hn : X.heap[nb]? = some (.cells #[.slice (some ⟨gl, 0, none⟩) 2 2, .slice (some ⟨gk, 0, none⟩) 2 2] 187 (0, 0))) (hgl : w'.heap.size <= gl) (hgk : w'.heap.size <= gk) (hnb : w'.heap.size <= nb) :
  ∃ F', TreeMid w0 (X.setCell ⟨tb, 0, none⟩ (ptrV nb)) D tb nb (h + 1) F' K xs cnt := by
 have hz := hc.only.size
 have hzq := hq.size
 have hz0 := hm.only.size
 have htb := lt_of_get hm.box
 have ltl := lt_of_get hl
 have ltk := lt_of_get hk
 have ltn := lt_of_get hn
 have h0 : TreeMid w0 w' D tb rb h (fun k => F1 k /\ k < w'.heap.size) K x1 cnt := hm.turn hc.only hc.n1 hc.sub1 rfl
 have hs : Only (· = tb) X (X.setCell ⟨tb, 0, none⟩ (ptrV nb)) := (Only.refl (· = tb) X).setCell (p := ⟨tb, 0, none⟩) (fun _ => rfl) _
 have hzs := hs.size
 have htF : ∀ k, (F1 k /\ k < w'.heap.size) ∨ (F2 k /\ k < w'.heap.size) -> (D k ∨ w0.heap.size <= k) /\ k ≠ tb /\ k < w'.heap.size /\ ¬ K k := by
  intro k x
  have key : (F k ∨ w.heap.size <= k) -> (D k ∨ w0.heap.size <= k) /\ k ≠ tb /\ ¬ K k := fun y => by
   rcases y with y | y
   ·exact ⟨(hm.subF k y).1, (hm.subF k y).2.1, fun z => (hm.subK k z).2.1 y⟩
   ·exact ⟨Or.inr (by omega), by omega, fun z => by have := (hm.subK k z).2.2.2; omega⟩
  rcases x with x | x
  ·have := key (hc.sub1 k x.1); exact ⟨this.1, this.2.1, x.2, this.2.2⟩
  ·have := key (hc.sub2 k x.1); exact ⟨this.1, this.2.1, x.2, this.2.2⟩
 have hold : ∀ k, K k -> k < w'.heap.size /\ k ≠ tb := fun k x => ⟨by have := (hm.subK k x).2.2.2; omega, (hm.subK k x).2.2.1⟩
 have keepN : ∀ {b : Nat} {G : Nat -> Prop} {ys : List EV}, NodeAt K h w' b G ys -> (∀ k, G k -> k ≠ tb) -> NodeAt K h (X.setCell ⟨tb, 0, none⟩ (ptrV nb)) b G ys := fun hnn hg =>
  NodeAt.kept hs (fun k x e => (hold k x).2 e) (NodeAt.kept hq (fun _ _ x => x) hnn (fun _ _ x => x)) (fun k x e => hg k x e)
 refine ⟨fun k => k = nb ∨ k = gl ∨ k = gk ∨ (F1 k /\ k < w'.heap.size) ∨ (F2 k /\ k < w'.heap.size), ⟨?_, ?_, ⟨.slice (some ⟨gl, 0, none⟩) 2 2, .slice (some ⟨gk, 0, none⟩) 2 2, [⟨rb, fun k => F1 k /\ k < w'.heap.size, x1⟩, ⟨r, fun k => F2 k /\ k < w'.heap.size, x2⟩], ⟨hs.get hn (by show ¬ nb = tb; omega), ?_, ?_, ⟨gk, rfl⟩, by simp, ?_, ?_, ?_, Or.inl rfl, fun k e => ?_, fun k e => ?_⟩, ?_⟩, fun k x => ?_, fun k x => ?_, hm.own⟩⟩
 ·exact ((h0.only.trans' hq (fun _ _ x => x.elim)).trans' hs (fun k _ e => by rw [e]; exact hm.own.1))
 ·rw [set_same (hq.get h0.box (fun x => x))]; rfl
 ·refine ⟨rfl, Or.inr ⟨gl, 2, _, rfl, Nat.zero_le _, hs.get hl (by show ¬ gl = tb; omega), by simp, by simp [maxLen], rfl, rfl⟩⟩
 ·refine ⟨rfl, Or.inr ⟨gk, 2, _, rfl, Nat.zero_le _, hs.get hk (by show ¬ gk = tb; omega), by simp, by simp [maxLen], rfl, rfl⟩⟩
 ·intro x hx
  simp at hx
  rcases hx with rfl | rfl
  ·exact ⟨hc.ne1, keepN hc.n1.lim (fun k y => (htF k (Or.inl y)).2.1)⟩
  ·exact ⟨hc.ne2, keepN hc.n2.lim (fun k y => (htF k (Or.inr y)).2.1)⟩
 ·intro x hx k y
  simp at hx
  have ne : k < w'.heap.size -> k ≠ nb /\ Value.ownBlock (.slice (some ⟨gl, 0, none⟩) 2 2) ≠ some k /\ Value.ownBlock (.slice (some ⟨gk, 0, none⟩) 2 2) ≠ some k := fun z =>
   ⟨by omega, fun e => by have e2 : gl = k := Option.some.inj e; omega, fun e => by have e2 : gk = k := Option.some.inj e; omega⟩
  rcases hx with rfl | rfl
  ·exact ⟨Or.inr (Or.inr (Or.inr (Or.inl y))), ne y.2⟩
  ·exact ⟨Or.inr (Or.inr (Or.inr (Or.inr y))), ne y.2⟩
 ·rw [List.pairwise_cons]
  refine ⟨fun y hy k hk hyk => ?_, by simp⟩
  simp at hy
  subst hy
  exact hc.apart k hk.1 hyk.1
 ·have e2 : gl = k := Option.some.inj e
  exact Or.inr (Or.inl e2.symm)
 ·have e2 : gk = k := Option.some.inj e
  exact Or.inr (Or.inr (Or.inl e2.symm))
 ·rw [hc.all]; simp [flat]
 ·rcases x with x | x | x | x | x
  ·exact ⟨Or.inr (by omega), by omega, by omega⟩
  ·exact ⟨Or.inr (by omega), by omega, by omega⟩
  ·exact ⟨Or.inr (by omega), by omega, by omega⟩
  ·have := htF k (Or.inl x); exact ⟨this.1, this.2.1, by omega⟩
  ·have := htF k (Or.inr x); exact ⟨this.1, this.2.1, by omega⟩
 ·have h1 := hold k x
  refine ⟨(hm.subK k x).1, fun y => ?_, h1.2, by omega⟩
  rcases y with y | y | y | y | y
  ·omega
  ·omega
  ·omega
  ·exact (htF k (Or.inl y)).2.2.2 x
  ·exact (htF k (Or.inr y)).2.2.2 x
end
def insPostT (w : World) (D : Nat -> Prop) (tb : Nat) (es : List Ent) (e : Ent) (r : Ending) (w' : World) : Prop :=
 (e ∈ es /\ r = .returned (.int .i64 7) /\ Only D w w' /\ TreeIs w' (fun k => D k ∨ w.heap.size <= k) tb es) ∨
 (e ∉ es /\ r = .returned (.int .i64 0) /\ Only D w w' /\ TreeIs w' (fun k => D k ∨ w.heap.size <= k) tb (insE e es))
theorem TreeMid.is {w0 w : World} {D : Nat -> Prop} {tb rb h : Nat} {F K : Nat -> Prop} {xs : List EV} {cnt : Int} (hm : TreeMid w0 w D tb rb h F K xs cnt) (hc : cnt = (xs.length : Int)) (hr : Rising (ents xs)) : TreeIs w (fun k => D k ∨ w0.heap.size <= k) tb (ents xs) := by
 subst hc
 have hz := hm.only.size
 have := hm.own
 exact ⟨rb, h, F, K, xs, ⟨Only.refl _ _, hm.box, hm.node, fun k x => ⟨Or.inl (hm.subF k x).1, (hm.subF k x).2⟩, fun k x => ⟨Or.inl (hm.subK k x).1, (hm.subK k x).2⟩, Or.inl this.1, by omega⟩, rfl, hr⟩
theorem five (w : World) (a b c d e : Obj) : ((((((w.alloc a).alloc b).alloc c).alloc d).alloc e).heap[w.heap.size]? = some a) /\ ((((((w.alloc a).alloc b).alloc c).alloc d).alloc e).heap[w.heap.size + 1]? = some b) /\ ((((((w.alloc a).alloc b).alloc c).alloc d).alloc e).heap[w.heap.size + 1 + 1]? = some c) /\ ((((((w.alloc a).alloc b).alloc c).alloc d).alloc e).heap[w.heap.size + 1 + 1 + 1]? = some d) /\ ((((((w.alloc a).alloc b).alloc c).alloc d).alloc e).heap[w.heap.size + 1 + 1 + 1 + 1]? = some e) := by
 have h1 := alloc_new w a
 have h2 := two_new w a b
 have h3 := three_new w a b c
 have h4 := three_new (w.alloc a) b c d
 rw [World.size_alloc] at h4
 have h5 := three_new ((w.alloc a).alloc b) c d e
 rw [World.size_alloc, World.size_alloc] at h5
 exact ⟨alloc_old (alloc_old (alloc_old (alloc_old h1 _) _) _) _, alloc_old (alloc_old (alloc_old h2 _) _) _, alloc_old (alloc_old h3 _) _, alloc_old h4 _, h5⟩
set_option maxHeartbeats 8000000 in
theorem tree_insert (w : World) (D : Nat -> Prop) (tb : Nat) (es : List Ent) (e : Ent) (A : Option Addr) (c : Nat) (S : Nat -> Prop) (ht : TreeIs w D tb es) (hr : Rd w S 1 A e.key.length (bytesV e.key)) (hby : ∀ x ∈ e.key, x < 256) (hl : e.key.length <= 600) (hn : es.length <= 10000) :
  Calls Tryz.prog 46 #[ptrV tb, entV e A c] w (insPostT w D tb es e) := by
 obtain ⟨rb, h, F, K, xs, hm, hes, hris⟩ := ht
 subst hes
 have hxl : xs.length <= 10000 := by simpa using hn
 have hq0 : Quiet w (w.alloc (.cells #[.slice A e.key.length c, .int .i64 e.pg, .int .i64 e.sl] 124)) := (Only.refl _ _).alloc _
 have hm1 := hm.quietly hq0
 obtain ⟨c0, _, _⟩ := hm1.cells
 obtain ⟨t0, t1, t2⟩ := ent_cells (alloc_new w (.cells #[.slice A e.key.length c, .int .i64 e.pg, .int .i64 e.sl] 124))
 have HCO := Lib.hid (copyOf_any e A c S _ (hr.kept hq0.drew (fun _ _ x => x)) (by omega))
 have HBX := Lib.hid (alloc_new w (.cells #[.slice A e.key.length c, .int .i64 e.pg, .int .i64 e.sl] 124))
 have hzl : ∀ k, F k -> k < w.heap.size := fun k x => (hm.subF k x).2.2
 have HINS : Hid (∀ (w2 : World) (A2 : Option Addr) (c2 : Nat), Quiet w w2 -> Rd w2 (fun k => w.heap.size <= k /\ k < w2.heap.size) 1 A2 e.key.length (bytesV e.key) →
     ∃ K', TreeMid w w2 D tb rb h F K' xs (xs.length : Int) /\ Calls Tryz.prog 91 #[ptrV rb, entV e A2 c2] w2 (InsPost K' h w2 rb F xs ⟨e, A2, c2⟩)) := by
  intro w2 A2 c2 hq hrd
  have hz := hq.size
  have hm2 := (hm.quietly hq).keys (K' := fun k => K k ∨ (w.heap.size <= k /\ k < w2.heap.size)) (fun k x => Or.inl x) (fun k x => by
    rcases x with x | x
    · exact Or.inl x
    · exact Or.inr ⟨x.1, x.2, fun y => by have := hzl k y; omega⟩)
  refine ⟨_, hm2, insert_ih _ h w2 rb F xs ⟨e, A2, c2⟩ hm2.node (fun k x => ⟨(hm2.subK k x).2.1, (hm2.subK k x).2.2.2⟩) ⟨hrd.mono (fun k x => Or.inr x), hby, by show e.key.length <= 1000; omega⟩ hris (by omega)⟩
 have HRI := Lib.hid hris
 have HQ0 := Lib.hid hq0
 obtain ⟨POST, hPOST⟩ : ∃ POST, insPostT w D tb (ents xs) e = POST := ⟨_, rfl⟩
 rw [hPOST]
 have HPOST := Lib.hid hPOST
 have hzt : Hid (∀ k, F k -> k < w.heap.size /\ k ≠ tb) := fun k x => ⟨(hm.subF k x).2.2, (hm.subF k x).2.1⟩
 have d6 : decide ((600 : Int) < (e.key.length : Int)) = false := decide_eq_false (by omega)
 have htl : tb < w.heap.size := hm.own.2
 clear hm hm1 hr hby hris hq0 hPOST hzl hn hl
 go_enter Tryz.func46, Tryz.ntmps46
 go_wp2_with fail
 go_region_held3 (fun w' => w'.cell? ⟨tb, 0, none⟩ = some (ptrV rb) /\ w'.cell? ⟨w.heap.size, 0, none⟩ = some (.slice A e.key.length c) /\ w'.cell? ⟨w.heap.size, 1, none⟩ = some (.int .i64 e.pg) /\ w'.cell? ⟨w.heap.size, 2, none⟩ = some (.int .i64 e.sl))
  (first | go_keep | fail)
  (first
    | (go_at_call 92; go_must (refine HCO.out.mono ?_; rintro r w2 ⟨A2, c2, rfl, hq2, hrd2⟩; have k0 := hq2.cell c0 (fun x => x); have k1 := hq2.cell t0 (fun x => x); have k2 := hq2.cell t1 (fun x => x); have k3 := hq2.cell t2 (fun x => x); obtain ⟨K', hm2, hin2⟩ := HINS.out w2 A2 c2 (HQ0.out.drew.trans hq2) (hrd2.mono (fun k x => ⟨by have := HQ0.out.drew.size; omega, x.2⟩))))
    | (go_at_call 91; go_must (refine hin2.mono ?_; intro r w3 hp3; obtain ⟨ok, rfl, hp3⟩ : ∃ ok, r = .returned (.bool ok) /\ InsPost K' h w2 rb F xs ⟨e, A2, c2⟩ (.returned (.bool ok)) w3 := (by rcases hp3 with ⟨a, rfl, b⟩ | ⟨a, rfl, b⟩; exact ⟨_, rfl, Or.inl ⟨a, rfl, b⟩⟩; exact ⟨_, rfl, Or.inr ⟨a, rfl, b⟩⟩); have ho3 : Only F w2 w3 := (by rcases hp3 with ⟨_, _, b, _⟩ | ⟨_, _, b, _⟩ <;> exact b); have j0 := ho3.cell k0 (fun x => (hzt.out _ x).2 rfl); have j1 := ho3.cell k1 (fun x => absurd (hzt.out _ x).1 (Nat.lt_irrefl _)); have j2 := ho3.cell k2 (fun x => absurd (hzt.out _ x).1 (Nat.lt_irrefl _)); have j3 := ho3.cell k3 (fun x => absurd (hzt.out _ x).1 (Nat.lt_irrefl _))))
    | fail)
 have HP3 := Lib.hid hp3
 have HM2 := Lib.hid hm2
 have HO3 := Lib.hid ho3
 clear hp3 hm2 hin2 ho3 hq2 hrd2 k0 k1 k2 k3 c0 t0 t1 t2 j1 j2 j3 HCO HBX HINS HQ0 hzt
 rcases HP3.out with ⟨hmem, hr3, _, hn3⟩ | ⟨hmem, hr3, _, hn3⟩
 ·obtain rfl : ok = false := by injection hr3 with hr3; injection hr3
  have hm3 := HM2.out.turn HO3.out hn3 (fun k x => x) rfl
  have HR : Hid (POST (.returned (.int .i64 7)) w3) := by
   rw [<- HPOST.out]
   exact Or.inl ⟨hmem, rfl, hm3.only, hm3.is rfl HRI.out⟩
  clear hm3 hn3 HP3 j0 HM2 HO3 hr3
  go_wp2
  exact HR.out
 ·obtain rfl : ok = true := by injection hr3 with hr3; injection hr3
  have hm3 := HM2.out.turn HO3.out hn3 (fun k x => x) rfl
  obtain ⟨F3, HM3⟩ : ∃ F3, Hid (TreeMid w w3 D tb rb h F3 K' (insX ⟨e, A2, c2⟩ xs) (xs.length : Int)) := ⟨_, hm3⟩
  have HMEM := Lib.hid hmem
  obtain ⟨xs3, hxs3⟩ : ∃ xs3, insX ⟨e, A2, c2⟩ xs = xs3 := ⟨_, rfl⟩
  rw [hxs3] at HM3
  have HX3 := Lib.hid hxs3
  have hx3l : xs3.length = xs.length + 1 := by rw [<- hxs3, insX_length]
  obtain ⟨c0, c1, cf⟩ := HM3.out.cells
  have hm4 := HM3.out.count ((xs.length : Int) + 1)
  have HM4 := Lib.hid hm4
  obtain ⟨d0, d1, df⟩ := hm4.cells
  have HSP := Lib.hid (split_any hm4.node (fun j hj hx => (hm4.subK j hj).2.1 hx) (by omega))
  have HIS : Hid (Rising (ents xs3) /\ ents xs3 = insE e (ents xs)) := by
   have e1 : ents xs3 = insE e (ents xs) := by rw [<- hxs3]; exact ents_insX _ _
   exact ⟨by rw [e1]; exact HRI.out.ins hmem, e1⟩
  clear hm3 hn3 HP3 j0 HM2 HO3 hr3 hmem hxs3 hm4 HM3
  go_wp2_with fail
  refine HSP.out.mono ?_
  rintro r w6 (⟨rfl, rfl⟩ | ⟨r, F1, F2, x1, x2, rfl, hc6⟩)
  ·have HR : Hid (POST (.returned (.int .i64 0)) (w3.setCell ⟨tb, 1, none⟩ (.int .i64 ((xs.length : Int) + 1)))) := by
    rw [<- HPOST.out]
    refine Or.inr ⟨HMEM.out, rfl, HM4.out.only, ?_⟩
    rw [<- HIS.out.2]
    exact HM4.out.is (by omega) HIS.out.1
   clear HSP c0 c1 cf d0 d1 df HM4
   go_wp2
   exact HR.out
  ·have HC6 := Lib.hid hc6
   have k6 : w6.cell? ⟨tb, 0, none⟩ = some (ptrV rb) := hc6.only.cell d0 (fun x => (HM4.out.subF tb x).2.1 rfl)
   have hb6 := hc6.only.get HM4.out.box (fun x => (HM4.out.subF tb x).2.1 rfl)
   have kf : ∀ o, w6.frozen? ⟨tb, o, none⟩ = false := fun o => frozen_of hb6 o
   have ht6 : tb < w6.heap.size := cell_lt k6
   have n0 : tb < w6.heap.size := ht6
   have ka1 : ∀ o1, (w6.alloc o1).cell? ⟨tb, 0, none⟩ = some (ptrV rb) := fun o1 => ((Only.refl (fun _ => False) w6).alloc o1).cell k6 (fun x => x)
   have ka2 : ∀ o1 o2, ((w6.alloc o1).alloc o2).cell? ⟨tb, 0, none⟩ = some (ptrV rb) := fun o1 o2 => ((Only.refl (fun _ => False) _).alloc o2).cell (ka1 o1) (fun x => x)
   have ka3 : ∀ o1 o2 o3, (((w6.alloc o1).alloc o2).alloc o3).cell? ⟨tb, 0, none⟩ = some (ptrV rb) := fun o1 o2 o3 => ((Only.refl (fun _ => False) _).alloc o3).cell (ka2 o1 o2) (fun x => x)
   have ka4 : ∀ o1 o2 o3 o4, ((((w6.alloc o1).alloc o2).alloc o3).alloc o4).cell? ⟨tb, 0, none⟩ = some (ptrV rb) := fun o1 o2 o3 o4 => ((Only.refl (fun _ => False) _).alloc o4).cell (ka3 o1 o2 o3) (fun x => x)
   have ka5 : ∀ o1 o2 o3 o4 o5, (((((w6.alloc o1).alloc o2).alloc o3).alloc o4).alloc o5).cell? ⟨tb, 0, none⟩ = some (ptrV rb) := fun o1 o2 o3 o4 o5 => ((Only.refl (fun _ => False) _).alloc o5).cell (ka4 o1 o2 o3 o4) (fun x => x)
   have fa5 : ∀ o1 o2 o3 o4 o5 o, (((((w6.alloc o1).alloc o2).alloc o3).alloc o4).alloc o5).frozen? ⟨tb, o, none⟩ = false := fun o1 o2 o3 o4 o5 o => frozen_of (alloc_old (alloc_old (alloc_old (alloc_old (alloc_old hb6 _) _) _) _) _) o
   have HL1 : Hid (∀ W : World, Quiet w6 W -> Calls Tryz.prog 94 #[ptrV rb] W fun e w' => e = .returned (entV (hd x1).e (hd x1).A (hd x1).c) /\ w' = W.alloc (.cells #[.slice (hd x1).A (hd x1).e.key.length (hd x1).c, .int .i64 (hd x1).e.pg, .int .i64 (hd x1).e.sl] 124)) :=
    fun W hq => least_exact (NodeAt.kept hq (fun _ _ x => x) hc6.n1 (fun _ _ x => x)) hc6.ne1
   have HL2 : Hid (∀ W : World, Quiet w6 W -> Calls Tryz.prog 94 #[ptrV r] W fun e w' => e = .returned (entV (hd x2).e (hd x2).A (hd x2).c) /\ w' = W.alloc (.cells #[.slice (hd x2).A (hd x2).e.key.length (hd x2).c, .int .i64 (hd x2).e.pg, .int .i64 (hd x2).e.sl] 124)) :=
    fun W hq => least_exact (NodeAt.kept hq (fun _ _ x => x) hc6.n2 (fun _ _ x => x)) hc6.ne2
   have Q0 : Hid (Quiet w6 w6) := Only.refl _ _
   clear hc6 hb6 HSP c0 c1 cf d0 d1 df
   go_upto_region 10 with fail
   go_cut [] (fun wx => ∃ nb F', TreeMid w wx D tb nb (h + 1) F' K' xs3 ((xs.length : Int) + 1))
   case first =>
    go_region_law (first
      | (go_simp; go_at_call_of 94 (ptrV rb); refine (HL1.out _ (by first | exact Q0.out.drew | exact (Q0.out.alloc _).drew | exact ((Q0.out.alloc _).alloc _).drew | exact (((Q0.out.alloc _).alloc _).alloc _).drew)).mono ?_; rintro r' w7 ⟨rfl, rfl⟩)
      | (go_simp; go_at_call_of 94 (ptrV r); refine (HL2.out _ (by first | exact Q0.out.drew | exact (Q0.out.alloc _).drew | exact ((Q0.out.alloc _).alloc _).drew | exact (((Q0.out.alloc _).alloc _).alloc _).drew)).mono ?_; rintro r' w7 ⟨rfl, rfl⟩)
      | fail)
    all_goals
     go_wp2_with fail
     go_meet
     first
      | exact ⟨_, HM4.out.root HC6.out (((((Q0.out.alloc _).alloc _).alloc _).alloc _).alloc _).drew (five w6 _ _ _ _ _).2.2.1 (five w6 _ _ _ _ _).2.2.2.1 (five w6 _ _ _ _ _).2.2.2.2 (by omega) (by omega) (by omega)⟩
      | exact ⟨_, HM4.out.root HC6.out (((((Q0.out.alloc _).alloc _).alloc _).alloc _).alloc _).drew (five w6 _ _ _ _ _).2.2.2.1 (five w6 _ _ _ _ _).1 (five w6 _ _ _ _ _).2.2.2.2 (by omega) (by omega) (by omega)⟩
      | exact ⟨_, HM4.out.root HC6.out (((((Q0.out.alloc _).alloc _).alloc _).alloc _).alloc _).drew (five w6 _ _ _ _ _).2.2.2.1 (five w6 _ _ _ _ _).2.1 (five w6 _ _ _ _ _).2.2.2.2 (by omega) (by omega) (by omega)⟩
      | exact ⟨_, HM4.out.root HC6.out (((((Q0.out.alloc _).alloc _).alloc _).alloc _).alloc _).drew (five w6 _ _ _ _ _).2.2.2.1 (five w6 _ _ _ _ _).2.2.1 (five w6 _ _ _ _ _).2.2.2.2 (by omega) (by omega) (by omega)⟩
      | fail
   case rest =>
    obtain ⟨nb, F', hm7⟩ := hcut
    have HR : Hid (POST (.returned (.int .i64 0)) wc) := by
     rw [<- HPOST.out]
     refine Or.inr ⟨HMEM.out, rfl, hm7.only, ?_⟩
     rw [<- HIS.out.2]
     exact hm7.is (by omega) HIS.out.1
    clear hm7 HM4 HC6 HL1 HL2 k6 kf ka1 ka2 ka3 ka4 ka5 fa5
    go_wp2
    exact HR.out
end Go.Proofs.YthipgglplneijaaGreatDoor
namespace Go.Lap
theorem take_succ_get {α : Type} {l : List α} {i : Nat} {x : α} (h : l[i]? = some x) : l.take (i + 1) = l.take i ++ [x] := by
 rw [List.take_add_one, h]; rfl
end Go.Lap
namespace Go.Proofs.YthipgglplneijaaGreatDoor
open Go.RowKit Go.Lap
section
variable {w0 w w' : World} {v0 v : Value} {ys zs : List EV}
end
end Go.Proofs.YthipgglplneijaaGreatDoor
namespace Go.Lap
theorem flat_take {ks : List Kid} {i : Nat} {x : Kid} (h : ks[i]? = some x) : flat (ks.take (i + 1)) = flat (ks.take i) ++ x.xs := by
 rw [take_succ_get h, flat, List.flatMap_append]
 simp
end Go.Lap
namespace Go.Proofs.YthipgglplneijaaGreatDoor
open Go.RowKit Go.Lap
end Go.Proofs.YthipgglplneijaaGreatDoor
namespace Go.Lap
def putE (e : Ent) (es : List Ent) : List Ent := if e ∈ es then es else insE e es
theorem mem_putE {e x : Ent} {es : List Ent} : x ∈ putE e es ↔ x = e ∨ x ∈ es := by
 unfold putE
 split
 ·constructor
  ·exact Or.inr
  ·rintro (h | h)
   ·rw [h]; assumption
   ·exact h
 ·exact mem_insE
end Go.Lap
namespace Go.Proofs.YthipgglplneijaaGreatDoor
open Go.RowKit Go.Lap
theorem TreeIs.kept {w w' : World} {D S : Nat -> Prop} {tb : Nat} {es : List Ent} (h : TreeIs w D tb es) (ho : Only S w w') (hn : ∀ k, D k -> ¬ S k) : TreeIs w' D tb es := by
 obtain ⟨rb, hh, F, K, xs, hm, e, hr⟩ := h
 have hz := ho.size
 have hlt := hm.own.2
 have hF : ∀ k, F k -> ¬ S k := fun k x y => by
  rcases (hm.subF k x).1 with z | z
  ·exact hn k z y
  ·have := (hm.subF k x).2.2; omega
 have hK : ∀ k, K k -> ¬ S k := fun k x y => by
  rcases (hm.subK k x).1 with z | z
  ·exact hn k z y
  ·have := (hm.subK k x).2.2.2; omega
 refine ⟨rb, hh, F, K, xs, ⟨Only.refl _ _, ho.get hm.box (hn tb hm.own.1), NodeAt.kept ho hK hm.node hF, fun k x => ?_, fun k x => ?_, hm.own.1, by omega⟩, e, hr⟩
 ·have := hm.subF k x
  refine ⟨?_, this.2.1, by omega⟩
  rcases this.1 with z | z
  ·exact Or.inl z
  ·have := this.2.2; omega
 ·have := hm.subK k x
  refine ⟨?_, this.2.1, this.2.2.1, by omega⟩
  rcases this.1 with z | z
  ·exact Or.inl z
  ·have := this.2.2.2; omega
theorem TreeIs.mono {w : World} {D D' : Nat -> Prop} {tb : Nat} {es : List Ent} (h : TreeIs w D tb es) (hd : ∀ k, D k -> k < w.heap.size -> D' k) : TreeIs w D' tb es := by
 obtain ⟨rb, hh, F, K, xs, hm, e, hr⟩ := h
 have hlt := hm.own.2
 refine ⟨rb, hh, F, K, xs, ⟨Only.refl _ _, hm.box, hm.node, fun k x => ?_, fun k x => ?_, hd tb hm.own.1 hlt, hlt⟩, e, hr⟩
 ·have := hm.subF k x
  refine ⟨?_, this.2⟩
  rcases this.1 with z | z
  ·exact Or.inl (hd k z this.2.2)
  ·have := this.2.2; omega
 ·have := hm.subK k x
  refine ⟨?_, this.2⟩
  rcases this.1 with z | z
  ·exact Or.inl (hd k z this.2.2.2)
  ·have := this.2.2.2; omega
theorem tree_len {w : World} {D : Nat -> Prop} {tb : Nat} {es : List Ent} (ht : TreeIs w D tb es) :
  Calls Tryz.prog 48 #[ptrV tb] w fun e w' => e = .returned (.int .i64 (es.length : Int)) /\ w = w' := by
 obtain ⟨rb, h, F, K, xs, hm, e, hr⟩ := ht
 obtain ⟨_, c1, _⟩ := hm.cells
 have hl : es.length = xs.length := by rw [<- e]; simp
 rw [hl]
 clear hm hr e hl
 go_enter Tryz.func48, Tryz.ntmps48
 go_wp2
 go_ret
 exact ⟨rfl, rfl⟩
theorem tree_new {w w' : World} (hq : Quiet w w') (h0 : w'.heap[w.heap.size]? = some (.cells #[.slice none 0 0, .slice none 0 0] 187 (0, 0))) (h1 : w'.heap[w.heap.size + 1]? = some (.cells #[ptrV w.heap.size, .int .i64 0] 189 (0, 0))) : TreeIs w' (fun k => w.heap.size <= k) (w.heap.size + 1) [] := by
 have l1 := lt_of_get h1
 refine ⟨w.heap.size, 0, fun k => k = w.heap.size, fun _ => False, [], ⟨Only.refl _ _, h1, ⟨_, h0, World.ownsRow_nil _ _ _ _, fun x hx => by simp at hx, rfl, fun k e => by cases e⟩, fun k e => ⟨Or.inl (by omega), by omega, by omega⟩, fun k e => e.elim, by omega, l1⟩, rfl, Rising.nil⟩
section
variable {w W W' : World} {J J' : Nat -> Prop} {tb : Nat} {es : List Ent}
end
end Go.Proofs.YthipgglplneijaaGreatDoor
namespace Go.Lap
open Go.RowKit Go.Maps Go.MapKept
open Go.ChangeMaps (setBlock)
theorem wf_u64 {k : Nat} (h : U64 k) : (Lit.int .u64 (k : Int)).wf = true := by
 unfold U64 at h
 exact WalkArith.wf_u64 (by omega)
def MapF (w : World) (b : Nat) (f : Nat -> Option Value) : Prop :=
 ∃ es clock, w.heap[b]? = some (.map es clock) /\ Stamped es clock /\ (∀ x ∈ es.toList, ∃ k : Nat, U64 k /\ x.key = .int .u64 (k : Int) /\ f k = some x.val) /\ ∀ k v, f k = some v -> ∃ x ∈ es.toList, x.key = .int .u64 (k : Int) /\ x.val = v
theorem MapF.kept {S : Nat -> Prop} {w w' : World} {b : Nat} {f : Nat -> Option Value} (h : MapF w b f) (ho : Only S w w') (hn : ¬ S b) : MapF w' b f := by
 obtain ⟨es, clock, h1, r⟩ := h
 exact ⟨es, clock, ho.get h1 hn, r⟩
theorem MapF.lt {w : World} {b : Nat} {f : Nat -> Option Value} (h : MapF w b f) : b < w.heap.size := by
 obtain ⟨es, clock, h1, _⟩ := h
 exact lt_of_get h1
theorem MapF.small {w : World} {b : Nat} {f : Nat -> Option Value} (h : MapF w b f) {k : Nat} {v : Value} (hk : f k = some v) : U64 k := by
 obtain ⟨es, clock, h1, h2, h3, h4⟩ := h
 obtain ⟨x, hx, e1, e2⟩ := h4 k v hk
 obtain ⟨k', hk', e3, _⟩ := h3 x hx
 rw [e1] at e3
 injection e3 with _ e3
 have : k = k' := by omega
 rw [this]; exact hk'
theorem mapF_made (w : World) : MapF (w.alloc (.map #[] 0)) w.heap.size (fun _ => none) :=
 ⟨#[], 0, alloc_new _ _, stamped_empty 0, fun x hx => by simp at hx, fun k v h => by cases h⟩
section
variable {P : Program} {t k e : TypeId} {w : World} {b : Nat} {f : Nat -> Option Value}
theorem MapF.find (_ : MapF w b f) (hk : P.underlying k = some (.int .u64)) {x : Nat} (hx : U64 x) (es : List MapEntry) (hes : ∀ y ∈ es, ∃ k : Nat, U64 k /\ y.key = .int .u64 (k : Int) /\ f k = some y.val) :
  ((Instr.findKey k (.int .u64 (x : Int)) es).run P w = .ok none w /\ ∀ y ∈ es, y.key ≠ .int .u64 (x : Int)) ∨ ∃ j y, (Instr.findKey k (.int .u64 (x : Int)) es).run P w = .ok (some (j, y.val)) w /\ es[j]? = some y /\ y.key = .int .u64 (x : Int) :=
 (int_keyed hk).find w (keyOf_int_mk hk (wf_u64 hx)) es (fun y hy => by
   obtain ⟨k', h1, h2, _⟩ := hes y hy
   exact ⟨_, by rw [h2]; exact keyOf_int_mk hk (wf_u64 h1)⟩)
theorem same_key {f : Nat -> Option Value} {x : Nat} {y : MapEntry} (hy : ∃ k : Nat, U64 k /\ y.key = .int .u64 (k : Int) /\ f k = some y.val) (he : y.key = .int .u64 (x : Int)) : f x = some y.val := by
 obtain ⟨k, _, e, r⟩ := hy
 rw [he] at e
 injection e with _ e
 have : x = k := by omega
 rw [this]; exact r
theorem MapF.lookup (h : MapF w b f) (ht : P.underlying t = some (.map k e)) (hk : P.underlying k = some (.int .u64)) (c : Bool) {z : Value} (hz : (zeroValue e).run P w = .ok z w) {x : Nat} (hx : U64 x) :
  (Instr.lookup t (.map (some b)) (.int .u64 (x : Int)) c).run P w = .ok (if c then .tuple #[(f x).getD z, .bool (f x).isSome] else (f x).getD z) w := by
 have h' := h
 obtain ⟨es, clock, h1, h2, h3, h4⟩ := h
 have hck := (int_keyed hk).check w es.isEmpty (keyOf_int_mk hk (wf_u64 hx))
 rcases h'.find hk hx es.toList h3 with ⟨h5, h6⟩ | ⟨j, y, h5, h6, h7⟩
 ·have hf : f x = none := by
   rcases hfx : f x with _ | v
   ·rfl
   ·obtain ⟨y, hy, e1, _⟩ := h4 x v hfx
    exact absurd e1 (h6 y hy)
  rw [hf]
  simp [Instr.lookup, run_underlying ht, MapKept.run_getObj_map h1, hck, h5, hz, Result.andThen]
 ·have hf := same_key (h3 y (List.mem_of_getElem? h6)) h7
  rw [hf]
  simp [Instr.lookup, run_underlying ht, MapKept.run_getObj_map h1, hck, h5, Result.andThen]
theorem setBlock_only {es : Array MapEntry} {clock : Nat} (h : w.heap[b]? = some (.map es clock)) (o : Obj) : Only (· = b) w (setBlock w b o) :=
 ⟨rfl, rfl, rfl, by simp [setBlock], fun _ _ hn => Go.ChangeMaps.heap_setBlock_other h o hn⟩
theorem MapF.update (h : MapF w b f) (ht : P.underlying t = some (.map k e)) (hk : P.underlying k = some (.int .u64)) {x : Nat} (hx : U64 x) (v : Value) :
  ∃ w', (Instr.mapUpdate t (.map (some b)) (.int .u64 (x : Int)) v).run P w = .ok () w' /\ MapF w' b (upd f x (some v)) /\ Only (· = b) w w' := by
 have h' := h
 obtain ⟨es, clock, h1, h2, h3, h4⟩ := h
 have hck := (int_keyed hk).check w false (keyOf_int_mk hk (wf_u64 hx))
 rcases h'.find hk hx es.toList h3 with ⟨h5, h6⟩ | ⟨j, y, h5, h6, h7⟩
 ·refine ⟨setBlock w b (.map (es.push ⟨.int .u64 (x : Int), v, clock⟩) (clock + 1)), by simp [Instr.mapUpdate, run_underlying ht, MapKept.run_getObj_map h1, hck, h5, MapKept.run_setObj_map _ h1, Result.andThen, setBlock], ⟨_, _, Go.ChangeMaps.heap_setBlock_same h1 _, stamped_push h2 h6, ?_, ?_⟩, setBlock_only h1 _⟩
  ·intro y hy
   simp only [Array.toList_push, List.mem_append, List.mem_singleton] at hy
   rcases hy with hy | rfl
   ·obtain ⟨k', a1, a2, a3⟩ := h3 y hy
    refine ⟨k', a1, a2, ?_⟩
    rw [upd_other _ _ (fun e => h6 y hy (by rw [a2, e]))]
    exact a3
   ·exact ⟨x, hx, rfl, by rw [upd_same]⟩
  ·intro k' v' hv
   simp only [Array.toList_push, List.mem_append, List.mem_singleton]
   by_cases e : k' = x
   ·subst e
    rw [upd_same] at hv
    injection hv with hv
    exact ⟨_, Or.inr rfl, rfl, hv⟩
   ·rw [upd_other _ _ e] at hv
    obtain ⟨y, hy, a1, a2⟩ := h4 k' v' hv
    exact ⟨y, Or.inl hy, a1, a2⟩
 ·have hkey : ∀ z ∈ es.toList, es[j]? = some z -> ({ z with key := .int .u64 (x : Int), val := v } : MapEntry).key = z.key := fun z _ hz => by
   rw [show es[j]? = some y by simpa using h6] at hz
   injection hz with hz
   subst hz
   exact h7.symm
  have hst := (int_keyed hk).stays w (keyOf_int_mk hk (wf_u64 hx))
  have hj : es[j]? = some y := by simpa using h6
  refine ⟨setBlock w b (.map (es.modify j fun z => { z with key := .int .u64 (x : Int), val := v }) clock), ?_, ⟨_, _, Go.ChangeMaps.heap_setBlock_same h1 _, stamped_modify h2 j _ (fun _ _ => rfl) hkey, ?_, ?_⟩, setBlock_only h1 _⟩
  ·simp [Instr.mapUpdate, run_underlying ht, MapKept.run_getObj_map h1, hck, h5, hj, h7, hst, MapKept.run_setObj_map _ h1, Result.andThen, setBlock]
  ·intro z hz
   rw [Array.toList_modify, Go.ChangeMaps.modify_eq_set _ _ _ _ h6] at hz
   obtain ⟨i, hi⟩ := List.mem_iff_getElem?.1 hz
   rw [List.getElem?_set] at hi
   split at hi
   ·split at hi
    ·injection hi with hi
     subst hi
     exact ⟨x, hx, rfl, by rw [upd_same]⟩
    ·cases hi
   ·rename_i hne
    obtain ⟨k', a1, a2, a3⟩ := h3 z (List.mem_of_getElem? hi)
    refine ⟨k', a1, a2, ?_⟩
    rw [upd_other _ _ (fun e => hne ?_)]
    ·exact a3
    ·have hnd := h2.2.2
     have l1 : j < es.toList.length := (List.getElem?_eq_some_iff.1 h6).1
     refine (List.getElem?_inj (l := es.toList.map (·.key)) (by simpa using l1) hnd).1 ?_
     rw [List.getElem?_map, List.getElem?_map, h6, hi]
     simp [h7, a2, e]
  ·intro k' v' hv
   rw [Array.toList_modify, Go.ChangeMaps.modify_eq_set _ _ _ _ h6]
   have l1 : j < es.toList.length := (List.getElem?_eq_some_iff.1 h6).1
   by_cases e : k' = x
   ·subst e
    rw [upd_same] at hv
    injection hv with hv
    exact ⟨_, List.mem_of_getElem? (List.getElem?_set_self l1), rfl, hv⟩
   ·rw [upd_other _ _ e] at hv
    obtain ⟨z, hz, a1, a2⟩ := h4 k' v' hv
    obtain ⟨i, hi⟩ := List.mem_iff_getElem?.1 hz
    refine ⟨z, List.mem_of_getElem? (i := i) ?_, a1, a2⟩
    rw [List.getElem?_set_ne (fun x' => ?_)]
    ·exact hi
    ·subst x'
     rw [h6] at hi
     injection hi with hi
     subst hi
     rw [h7] at a1
     injection a1 with _ a1
     exact e (by omega)
theorem MapF.delete (h : MapF w b f) (ht : P.underlying t = some (.map k e)) (hk : P.underlying k = some (.int .u64)) (ty : TypeId) {x : Nat} (hx : U64 x) :
  ∃ w', (Builtin.delete_ #[t, k] ty #[.map (some b), .int .u64 (x : Int)]).run P w = .ok (.tuple #[]) w' /\ MapF w' b (upd f x none) /\ Only (· = b) w w' := by
 have h' := h
 obtain ⟨es, clock, h1, h2, h3, h4⟩ := h
 have hck := (int_keyed hk).check w es.isEmpty (keyOf_int_mk hk (wf_u64 hx))
 rcases h'.find hk hx es.toList h3 with ⟨h5, h6⟩ | ⟨j, y, h5, h6, h7⟩
 ·refine ⟨setBlock w b (.map es clock), by simp [Builtin.delete_, run_underlying ht, MapKept.run_getObj_map h1, hck, h5, MapKept.run_setObj_map _ h1, Result.andThen, setBlock], ⟨_, _, Go.ChangeMaps.heap_setBlock_same h1 _, h2, ?_, ?_⟩, setBlock_only h1 _⟩
  ·intro y hy
   obtain ⟨k', a1, a2, a3⟩ := h3 y hy
   exact ⟨k', a1, a2, by rw [upd_other _ _ (fun e => h6 y hy (by rw [a2, e]))]; exact a3⟩
  ·intro k' v' hv
   by_cases e : k' = x
   ·subst e; rw [upd_same] at hv; cases hv
   ·rw [upd_other _ _ e] at hv
    exact h4 k' v' hv
 ·have hjl : j < es.toList.length := (List.getElem?_eq_some_iff.1 h6).1
  have hjs : j < es.size := by simpa using hjl
  have hsub : (es.eraseIdxIfInBounds j).toList = es.toList.eraseIdx j := by
   unfold Array.eraseIdxIfInBounds
   rw [dif_pos hjs]
   simp
  refine ⟨setBlock w b (.map (es.eraseIdxIfInBounds j) clock), by simp [Builtin.delete_, run_underlying ht, MapKept.run_getObj_map h1, hck, h5, MapKept.run_setObj_map _ h1, Result.andThen, setBlock], ⟨_, _, Go.ChangeMaps.heap_setBlock_same h1 _, stamped_erase h2 j, ?_, ?_⟩, setBlock_only h1 _⟩
  ·intro z hz
   rw [hsub] at hz
   obtain ⟨i, hi, hij⟩ := List.mem_eraseIdx_iff_getElem?.1 hz
   obtain ⟨k', a1, a2, a3⟩ := h3 z (List.mem_of_getElem? hij)
   refine ⟨k', a1, a2, ?_⟩
   rw [upd_other _ _ (fun e => hi ?_)]
   ·exact a3
   ·have hnd := h2.2.2
    refine ((List.getElem?_inj (l := es.toList.map (·.key)) (by simpa using hjl) hnd).1 ?_).symm
    rw [List.getElem?_map, List.getElem?_map, h6, hij]
    simp [h7, a2, e]
  ·intro k' v' hv
   rw [hsub]
   by_cases e : k' = x
   ·subst e; rw [upd_same] at hv; cases hv
   ·rw [upd_other _ _ e] at hv
    obtain ⟨z, hz, a1, a2⟩ := h4 k' v' hv
    obtain ⟨i, hi⟩ := List.mem_iff_getElem?.1 hz
    refine ⟨z, List.mem_eraseIdx_iff_getElem?.2 ⟨i, fun x' => ?_, hi⟩, a1, a2⟩
    subst x'
    rw [h6] at hi
    injection hi with hi
    subst hi
    rw [h7] at a1
    injection a1 with _ a1
    exact e (by omega)
variable {ops : Array Oper} {rest : List Oper} {o : Oper} {a : Act} {K : Act -> World -> Prop} {Q : Exit -> Act -> World -> Prop}
theorem wp_put (m x v : Operand) (hop : o.op = Op.mapUpdate t m x v) (h : MapF w b f) (ht : P.underlying t = some (.map k e)) (hk : P.underlying k = some (.int .u64))
  {n : Nat} {u : Value} (hm : a.eval m = .map (some b)) (hx : a.eval x = .int .u64 (n : Int)) (hv : a.eval v = u) (hn : U64 n) (hK : ∀ w', MapF w' b (upd f n (some u)) -> Only (· = b) w w' -> K (a.put o.dst undef) w') : o.wp P a w K Q := by
 obtain ⟨w', hrun, h1, h2⟩ := h.update ht hk hn u
 unfold Oper.wp
 simp [execOp, hop, hm, hx, hv, hrun, Result.andThen]
 exact hK w' h1 h2
end
end Go.Lap
namespace Go.Proofs.YthipgglplneijaaGreatDoor
open Go.RowKit Go.Lap
theorem rd_limS {w : World} {S : Nat -> Prop} {size n : Nat} {A : Option Addr} {xs : List Value} (h : Rd w S size A n xs) : Rd w (fun k => S k /\ k < w.heap.size) size A n xs :=
 ⟨h.len, fun h0 => by
   obtain ⟨b, off, e, hb, hc⟩ := h.cells h0
   exact ⟨b, off, e, ⟨hb, by have := cell_lt (hc 0 _ (List.getElem?_eq_getElem h0)); exact this⟩, hc⟩⟩
section
variable {w w' : World} {F G : Nat -> Prop}
theorem LogAt.lim {lb : Nat} {L : List Nat} (h : LogAt w F lb L) : LogAt w (fun k => F k /\ k < w.heap.size) lb L := by
 obtain ⟨v, h⟩ := h
 exact ⟨v, h.box, h.row, ⟨⟨h.foot.1, lt_of_get h.box⟩, fun k e => ⟨h.foot.2 k e, (h.row.lt k e).2⟩⟩, h.st, h.most⟩
theorem TblAt.lim {tb : Nat} {e : TE} (h : TblAt w F tb e) : TblAt w (fun k => F k /\ k < w.heap.size) tb e := by
 obtain ⟨A, c, h1, h2, h3⟩ := h.ex
 obtain ⟨A', c', t1, t2⟩ := h.typ
 exact ⟨⟨A, c, h1, rd_limS h2, h3⟩, ⟨h.own, lt_of_get h1⟩, h.pos, h.num, A', c', t1, fun g e => ⟨⟨(t2 g e).1, by obtain ⟨cur, hh⟩ := (t2 g e).2; exact lt_of_get hh⟩, (t2 g e).2⟩⟩
theorem IdxAt.lim {xb : Nat} {e : IE} (h : IdxAt w F xb e) : IdxAt w (fun k => F k /\ k < w.heap.size) xb e := ⟨h.box, ⟨h.own, lt_of_get h.box⟩, h.num⟩
theorem BookIs.lim {bb last : Nat} {T : List TE} {I : List IE} (h : BookIs w F bb T I last) : BookIs w (fun k => F k /\ k < w.heap.size) bb T I last := by
 obtain ⟨vT, tps, vI, ips, h1, h2, h3⟩ := h
 exact ⟨vT, tps, vI, ips, ⟨h1.box, h1.rowT, h1.rowI, fun i e hi => by obtain ⟨p, a, b⟩ := h1.tbl i e hi; exact ⟨p, a, b.lim⟩, ⟨⟨h1.foot.1, lt_of_get h1.box⟩, fun k e => ⟨h1.foot.2.1 k e, (h1.rowT.lt k e).2⟩, fun k e => ⟨h1.foot.2.2 k e, (h1.rowI.lt k e).2⟩⟩, h1.num⟩, h2, fun i e hi => by obtain ⟨p, a, b⟩ := h3 i e hi; exact ⟨p, a, b.lim⟩⟩
theorem SnapV.lim {A : Option Addr} {c : Nat} {s : Snap} (h : SnapV w F A c s) : SnapV w (fun k => F k /\ k < w.heap.size) A c s := ⟨rd_limS h.row, h.cap, h.num⟩
end
structure St where
 L : List Nat
 T : List TE
 I : List IE
 blast : Nat
 left : Nat
 hs : Nat -> Option (List (List (Option Tup)))
 ts : Nat -> Option (List Ent)
 sn : Nat -> Option Snap
 last : Nat
def HeapsIn (w : World) (pb : Nat) (o : Nat -> Nat) (hs : Nat -> Option (List (List (Option Tup)))) (fh : Nat -> Option Value) : Prop :=
 (∀ id, hs id = none -> fh id = none) /\ ∀ id H, hs id = some H -> ∃ hb, fh id = some (ptrV hb) /\ HeapIs w hb pb (fun k => o k = 10 + 2 * id) H
def TreesIn (w : World) (o : Nat -> Nat) (ts : Nat -> Option (List Ent)) (ft : Nat -> Option Value) : Prop :=
 (∀ id, ts id = none -> ft id = none) /\ ∀ id es, ts id = some es -> ∃ tb, ft id = some (ptrV tb) /\ TreeIs w (fun k => o k = 11 + 2 * id) tb es
def SnapsIn (w : World) (o : Nat -> Nat) (sn : Nat -> Option Snap) (fs : Nat -> Option Value) : Prop :=
 (∀ id, sn id = none -> fs id = none) /\ ∀ id x, sn id = some x -> ∃ A c, fs id = some (snapV x A c) /\ SnapV w (fun k => o k = 5) A c x
structure StoreRow (w : World) (sb : Nat) (o : Nat -> Nat) (s : St) (lb bb pb mh mt ms : Nat) (fh ft fs : Nat -> Option Value) : Prop where
 box : w.heap[sb]? = some (.cells #[ptrV lb, ptrV bb, ptrV pb, .map (some mh), .map (some mt), .map (some ms), .int .u64 (s.last : Int)] 67 (0, 0))
 log : LogAt w (fun k => o k = 2) lb s.L
 book : BookIs w (fun k => o k = 3) bb s.T s.I s.blast
 pool : PoolAt w pb s.left
 mH : MapF w mh fh
 mT : MapF w mt ft
 mS : MapF w ms fs
 tags : o sb = 1 /\ o pb = 4 /\ o mh = 6 /\ o mt = 7 /\ o ms = 8
 big : ∀ k, w.heap.size <= k -> o k = 0
 heaps : HeapsIn w pb o s.hs fh
 trees : TreesIn w o s.ts ft
 snaps : SnapsIn w o s.sn fs
 num : U64 s.last
def StoreAt (w : World) (sb : Nat) (o : Nat -> Nat) (s : St) : Prop := ∃ lb bb pb mh mt ms fh ft fs, StoreRow w sb o s lb bb pb mh mt ms fh ft fs
def grow (o : Nat -> Nat) (n m t : Nat) (k : Nat) : Nat := if n <= k /\ k < m then t else o k
theorem grow_old {o : Nat -> Nat} {n m t k : Nat} (h : k < n) : grow o n m t k = o k := if_neg (by omega)
theorem grow_new {o : Nat -> Nat} {n m t k : Nat} (h : n <= k) (h2 : k < m) : grow o n m t k = t := if_pos ⟨h, h2⟩
theorem grow_big {o : Nat -> Nat} {n m t k : Nat} (hb : ∀ k, n <= k -> o k = 0) (hm : n <= m) (h : m <= k) : grow o n m t k = 0 := by
 unfold grow
 rw [if_neg (by omega)]
 exact hb k (by omega)
def OwnOn (o o' : Nat -> Nat) : Prop := ∀ k, o k ≠ 0 -> o' k = o k
section
variable {w w' : World} {S : Nat -> Prop} {o o' : Nat -> Nat}
theorem OwnOn.grow {n m t : Nat} (hb : ∀ k, n <= k -> o k = 0) : OwnOn o (grow o n m t) := fun k hk => grow_old (by
  rcases Nat.lt_or_ge k n with x | x
  · exact x
  · exact absurd (hb k x) hk)
theorem OwnOn.refl : OwnOn o o := fun _ _ => rfl
theorem logK {lb t : Nat} {L : List Nat} (h : LogAt w (fun k => o k = t) lb L) (ho : Only S w w') (hg : OwnOn o o') (ht : t ≠ 0) (hn : ∀ k, S k -> o k ≠ t) : LogAt w' (fun k => o' k = t) lb L :=
 (h.kept ho (fun k hk x => hn k x hk)).mono (fun k hk _ => by rw [hg k (by rw [hk]; exact ht)]; exact hk)
theorem bookK {bb t last : Nat} {T : List TE} {I : List IE} (h : BookIs w (fun k => o k = t) bb T I last) (ho : Only S w w') (hg : OwnOn o o') (ht : t ≠ 0) (hn : ∀ k, S k -> o k ≠ t) : BookIs w' (fun k => o' k = t) bb T I last :=
 (h.kept ho (fun k hk x => hn k x hk)).mono (fun k hk => by rw [hg k (by rw [hk]; exact ht)]; exact hk)
theorem heapK {hb pb t : Nat} {H : List (List (Option Tup))} (h : HeapIs w hb pb (fun k => o k = t) H) (ho : Only S w w') (hg : OwnOn o o') (ht : t ≠ 0) (hn : ∀ k, S k -> o k ≠ t) : HeapIs w' hb pb (fun k => o' k = t) H :=
 (h.kept ho (fun k hk x => hn k x hk)).mono (fun k hk => by rw [hg k (by rw [hk]; exact ht)]; exact hk)
theorem snapK {A : Option Addr} {c t : Nat} {s : Snap} (h : SnapV w (fun k => o k = t) A c s) (ho : Only S w w') (hg : OwnOn o o') (ht : t ≠ 0) (hn : ∀ k, S k -> o k ≠ t) : SnapV w' (fun k => o' k = t) A c s :=
 (h.kept ho (fun k hk x => hn k x hk)).mono (fun k hk => by rw [hg k (by rw [hk]; exact ht)]; exact hk)
theorem treeK {tb t : Nat} {es : List Ent} (h : TreeIs w (fun k => o k = t) tb es) (ho : Only S w w') (hg : OwnOn o o') (ht : t ≠ 0) (hn : ∀ k, S k -> o k ≠ t) : TreeIs w' (fun k => o' k = t) tb es :=
 (h.kept ho (fun k hk x => hn k x hk)).mono (fun k hk _ => by rw [hg k (by rw [hk]; exact ht)]; exact hk)
theorem heapsK {pb : Nat} {hs : Nat -> Option (List (List (Option Tup)))} {fh : Nat -> Option Value} (h : HeapsIn w pb o hs fh) (ho : Only S w w') (hg : OwnOn o o') (hn : ∀ k, S k -> ∀ id H, hs id = some H -> o k ≠ 10 + 2 * id) : HeapsIn w' pb o' hs fh :=
 ⟨h.1, fun id H hi => by obtain ⟨hb, e, h1⟩ := h.2 id H hi; exact ⟨hb, e, heapK h1 ho hg (by omega) (fun k hk => hn k hk id H hi)⟩⟩
theorem treesK {ts : Nat -> Option (List Ent)} {ft : Nat -> Option Value} (h : TreesIn w o ts ft) (ho : Only S w w') (hg : OwnOn o o') (hn : ∀ k, S k -> ∀ id es, ts id = some es -> o k ≠ 11 + 2 * id) : TreesIn w' o' ts ft :=
 ⟨h.1, fun id es hi => by obtain ⟨tb, e, h1⟩ := h.2 id es hi; exact ⟨tb, e, treeK h1 ho hg (by omega) (fun k hk => hn k hk id es hi)⟩⟩
theorem snapsK {sn : Nat -> Option Snap} {fs : Nat -> Option Value} (h : SnapsIn w o sn fs) (ho : Only S w w') (hg : OwnOn o o') (hn : ∀ k, S k -> o k ≠ 5) : SnapsIn w' o' sn fs :=
 ⟨h.1, fun id x hi => by obtain ⟨A, c, e, h1⟩ := h.2 id x hi; exact ⟨A, c, e, snapK h1 ho hg (by omega) hn⟩⟩
end
section
variable {w w' : World} {sb : Nat} {o : Nat -> Nat} {s : St} {lb bb pb mh mt ms : Nat} {fh ft fs : Nat -> Option Value}
theorem StoreRow.cells (h : StoreRow w sb o s lb bb pb mh mt ms fh ft fs) : w.cell? ⟨sb, 0, none⟩ = some (ptrV lb) /\ w.cell? ⟨sb, 1, none⟩ = some (ptrV bb) /\ w.cell? ⟨sb, 2, none⟩ = some (ptrV pb) /\ w.cell? ⟨sb, 3, none⟩ = some (.map (some mh)) /\ w.cell? ⟨sb, 4, none⟩ = some (.map (some mt)) /\ w.cell? ⟨sb, 5, none⟩ = some (.map (some ms)) /\ w.cell? ⟨sb, 6, none⟩ = some (.int .u64 (s.last : Int)) :=
 ⟨by rw [cell_of h.box]; rfl, by rw [cell_of h.box]; rfl, by rw [cell_of h.box]; rfl, by rw [cell_of h.box]; rfl, by rw [cell_of h.box]; rfl, by rw [cell_of h.box]; rfl, by rw [cell_of h.box]; rfl⟩
theorem StoreRow.kept {S : Nat -> Prop} (h : StoreRow w sb o s lb bb pb mh mt ms fh ft fs) (ho : Only S w w') (hn : ∀ k, S k -> o k = 0) : StoreRow w' sb o s lb bb pb mh mt ms fh ft fs := by
 obtain ⟨t1, t2, t3, t4, t5⟩ := h.tags
 exact ⟨ho.get h.box (fun x => by have := hn _ x; omega), logK h.log ho .refl (by omega) (fun k x => by have := hn _ x; omega), bookK h.book ho .refl (by omega) (fun k x => by have := hn _ x; omega), h.pool.kept ho (fun x => by have := hn _ x; omega),
   h.mH.kept ho (fun x => by have := hn _ x; omega), h.mT.kept ho (fun x => by have := hn _ x; omega), h.mS.kept ho (fun x => by have := hn _ x; omega), h.tags, fun k hk => h.big k (Nat.le_trans ho.size hk),
   heapsK h.heaps ho .refl (fun k x id H _ => by have := hn _ x; omega), treesK h.trees ho .refl (fun k x id es _ => by have := hn _ x; omega), snapsK h.snaps ho .refl (fun k x => by have := hn _ x; omega), h.num⟩
theorem StoreRow.quietly (h : StoreRow w sb o s lb bb pb mh mt ms fh ft fs) (hq : Quiet w w') : StoreRow w' sb o s lb bb pb mh mt ms fh ft fs := h.kept hq (fun _ x => x.elim)
theorem StoreAt.quietly (h : StoreAt w sb o s) (hq : Quiet w w') : StoreAt w' sb o s := by
 obtain ⟨lb, bb, pb, mh, mt, ms, fh, ft, fs, h⟩ := h
 exact ⟨lb, bb, pb, mh, mt, ms, fh, ft, fs, h.quietly hq⟩
theorem StoreAt.kept {S : Nat -> Prop} (h : StoreAt w sb o s) (ho : Only S w w') (hn : ∀ k, S k -> o k = 0) : StoreAt w' sb o s := by
 obtain ⟨lb, bb, pb, mh, mt, ms, fh, ft, fs, h⟩ := h
 exact ⟨lb, bb, pb, mh, mt, ms, fh, ft, fs, h.kept ho hn⟩
theorem StoreRow.setLog {L' : List Nat} (h : StoreRow w sb o s lb bb pb mh mt ms fh ft fs) (ho : Only (fun k => o k = 2) w w') (hl : LogAt w' (fun k => o k = 2 ∨ w.heap.size <= k) lb L') : StoreRow w' sb (grow o w.heap.size w'.heap.size 2) { s with L := L' } lb bb pb mh mt ms fh ft fs := by
 obtain ⟨t1, t2, t3, t4, t5⟩ := h.tags
 have hg : OwnOn o (grow o w.heap.size w'.heap.size 2) := OwnOn.grow h.big
 exact ⟨ho.get h.box (fun x => by omega), hl.mono (fun k hk hl => by rcases hk with x | x; rw [hg k (by omega)]; exact x; exact grow_new x hl), bookK h.book ho hg (by omega) (fun k x => by omega), h.pool.kept ho (fun x => by omega),
   h.mH.kept ho (fun x => by omega), h.mT.kept ho (fun x => by omega), h.mS.kept ho (fun x => by omega), ⟨by rw [hg _ (by omega)]; exact t1, by rw [hg _ (by omega)]; exact t2, by rw [hg _ (by omega)]; exact t3, by rw [hg _ (by omega)]; exact t4, by rw [hg _ (by omega)]; exact t5⟩, fun k hk => grow_big h.big ho.size hk,
   heapsK h.heaps ho hg (fun k x id H _ => by omega), treesK h.trees ho hg (fun k x id es _ => by omega), snapsK h.snaps ho hg (fun k x => by omega), h.num⟩
theorem StoreRow.setBook {T' : List TE} {I' : List IE} {last' : Nat} (h : StoreRow w sb o s lb bb pb mh mt ms fh ft fs) (ho : Only (fun k => o k = 3) w w') (hl : BookIs w' (fun k => o k = 3 ∨ w.heap.size <= k) bb T' I' last') : StoreRow w' sb (grow o w.heap.size w'.heap.size 3) { s with T := T', I := I', blast := last' } lb bb pb mh mt ms fh ft fs := by
 obtain ⟨t1, t2, t3, t4, t5⟩ := h.tags
 have hg : OwnOn o (grow o w.heap.size w'.heap.size 3) := OwnOn.grow h.big
 exact ⟨ho.get h.box (fun x => by omega), logK h.log ho hg (by omega) (fun k x => by omega), hl.lim.mono (fun k hk => by rcases hk.1 with x | x; rw [hg k (by omega)]; exact x; exact grow_new x hk.2), h.pool.kept ho (fun x => by omega),
   h.mH.kept ho (fun x => by omega), h.mT.kept ho (fun x => by omega), h.mS.kept ho (fun x => by omega), ⟨by rw [hg _ (by omega)]; exact t1, by rw [hg _ (by omega)]; exact t2, by rw [hg _ (by omega)]; exact t3, by rw [hg _ (by omega)]; exact t4, by rw [hg _ (by omega)]; exact t5⟩, fun k hk => grow_big h.big ho.size hk,
   heapsK h.heaps ho hg (fun k x id H _ => by omega), treesK h.trees ho hg (fun k x id es _ => by omega), snapsK h.snaps ho hg (fun k x => by omega), h.num⟩
theorem StoreRow.setHeap {id hb left' : Nat} {H' : List (List (Option Tup))} (h : StoreRow w sb o s lb bb pb mh mt ms fh ft fs) (hid : fh id = some (ptrV hb)) (ho : Only (fun k => o k = 10 + 2 * id ∨ k = pb) w w') (hp : PoolAt w' pb left') (hl : HeapIs w' hb pb (fun k => o k = 10 + 2 * id ∨ w.heap.size <= k) H') :
  StoreRow w' sb (grow o w.heap.size w'.heap.size (10 + 2 * id)) { s with left := left', hs := upd s.hs id (some H') } lb bb pb mh mt ms fh ft fs := by
 obtain ⟨t1, t2, t3, t4, t5⟩ := h.tags
 have hg : OwnOn o (grow o w.heap.size w'.heap.size (10 + 2 * id)) := OwnOn.grow h.big
 have hn : ∀ k, (o k = 10 + 2 * id ∨ k = pb) -> o k = 10 + 2 * id ∨ o k = 4 := fun k x => by rcases x with x | x; exact Or.inl x; rw [x]; exact Or.inr t2
 refine ⟨ho.get h.box (fun x => by have := hn _ x; omega), logK h.log ho hg (by omega) (fun k x => by have := hn _ x; omega), bookK h.book ho hg (by omega) (fun k x => by have := hn _ x; omega), hp,
   h.mH.kept ho (fun x => by have := hn _ x; omega), h.mT.kept ho (fun x => by have := hn _ x; omega), h.mS.kept ho (fun x => by have := hn _ x; omega), ⟨by rw [hg _ (by omega)]; exact t1, by rw [hg _ (by omega)]; exact t2, by rw [hg _ (by omega)]; exact t3, by rw [hg _ (by omega)]; exact t4, by rw [hg _ (by omega)]; exact t5⟩, fun k hk => grow_big h.big ho.size hk,
   ⟨fun i hi => ?_, fun i H hi => ?_⟩, treesK h.trees ho hg (fun k x i es _ => by have := hn _ x; omega), snapsK h.snaps ho hg (fun k x => by have := hn _ x; omega), h.num⟩
 ·by_cases e : i = id
  ·subst e; simp [upd] at hi
  ·exact h.heaps.1 i (by simpa [upd, e] using hi)
 ·by_cases e : i = id
  ·subst e
   have : H' = H := by simpa [upd] using hi
   subst this
   exact ⟨hb, hid, hl.lim.mono (fun k hk => by rcases hk.1 with x | x; rw [hg k (by omega)]; exact x; exact grow_new x hk.2)⟩
  ·obtain ⟨hb2, e2, h2⟩ := h.heaps.2 i H (by simpa [upd, e] using hi)
   exact ⟨hb2, e2, heapK h2 ho hg (by omega) (fun k x => by have := hn _ x; omega)⟩
theorem StoreRow.newHeap {id hb B : Nat} {H' : List (List (Option Tup))} (h : StoreRow w sb o s lb bb pb mh mt ms fh ft fs) (hB : ∀ k, B <= k -> o k = 0) (hBw : B <= w.heap.size) (hid : s.hs id = none) (ho : Only (fun k => k = mh) w w') (hm : MapF w' mh (upd fh id (some (ptrV hb)))) (hl : HeapIs w' hb pb (fun k => B <= k) H') :
  StoreRow w' sb (grow o B w'.heap.size (10 + 2 * id)) { s with hs := upd s.hs id (some H') } lb bb pb mh mt ms (upd fh id (some (ptrV hb))) ft fs := by
 obtain ⟨t1, t2, t3, t4, t5⟩ := h.tags
 have hg : OwnOn o (grow o B w'.heap.size (10 + 2 * id)) := OwnOn.grow hB
 have hn : ∀ k, k = mh -> o k = 6 := fun k x => by rw [x]; exact t3
 refine ⟨ho.get h.box (fun x => by have := hn _ x; omega), logK h.log ho hg (by omega) (fun k x => by have := hn _ x; omega), bookK h.book ho hg (by omega) (fun k x => by have := hn _ x; omega), h.pool.kept ho (fun x => by have := hn _ x; omega),
   hm, h.mT.kept ho (fun x => by have := hn _ x; omega), h.mS.kept ho (fun x => by have := hn _ x; omega), ⟨by rw [hg _ (by omega)]; exact t1, by rw [hg _ (by omega)]; exact t2, by rw [hg _ (by omega)]; exact t3, by rw [hg _ (by omega)]; exact t4, by rw [hg _ (by omega)]; exact t5⟩, fun k hk => grow_big hB (Nat.le_trans hBw ho.size) hk,
   ⟨fun i hi => ?_, fun i H hi => ?_⟩, treesK h.trees ho hg (fun k x i es _ => by have := hn _ x; omega), snapsK h.snaps ho hg (fun k x => by have := hn _ x; omega), h.num⟩
 ·by_cases e : i = id
  ·subst e; simp [upd] at hi
  ·have := h.heaps.1 i (by simpa [upd, e] using hi)
   simpa [upd, e] using this
 ·by_cases e : i = id
  ·subst e
   have : H' = H := by simpa [upd] using hi
   subst this
   exact ⟨hb, by simp [upd], hl.lim.mono (fun k hk => grow_new hk.1 hk.2)⟩
  ·obtain ⟨hb2, e2, h2⟩ := h.heaps.2 i H (by simpa [upd, e] using hi)
   exact ⟨hb2, by simpa [upd, e] using e2, heapK h2 ho hg (by omega) (fun k x => by have := hn _ x; omega)⟩
theorem StoreRow.putSnap {id B c : Nat} {A : Option Addr} {x : Snap} (h : StoreRow w sb o s lb bb pb mh mt ms fh ft fs) (hB : ∀ k, B <= k -> o k = 0) (hBw : B <= w.heap.size) (ho : Only (fun k => k = ms) w w') (hm : MapF w' ms (upd fs id (some (snapV x A c)))) (hl : SnapV w' (fun k => B <= k) A c x) :
  StoreRow w' sb (grow o B w'.heap.size 5) { s with sn := upd s.sn id (some x) } lb bb pb mh mt ms fh ft (upd fs id (some (snapV x A c))) := by
 obtain ⟨t1, t2, t3, t4, t5⟩ := h.tags
 have hg : OwnOn o (grow o B w'.heap.size 5) := OwnOn.grow hB
 have hn : ∀ k, k = ms -> o k = 8 := fun k x => by rw [x]; exact t5
 refine ⟨ho.get h.box (fun x => by have := hn _ x; omega), logK h.log ho hg (by omega) (fun k x => by have := hn _ x; omega), bookK h.book ho hg (by omega) (fun k x => by have := hn _ x; omega), h.pool.kept ho (fun x => by have := hn _ x; omega),
   h.mH.kept ho (fun x => by have := hn _ x; omega), h.mT.kept ho (fun x => by have := hn _ x; omega), hm, ⟨by rw [hg _ (by omega)]; exact t1, by rw [hg _ (by omega)]; exact t2, by rw [hg _ (by omega)]; exact t3, by rw [hg _ (by omega)]; exact t4, by rw [hg _ (by omega)]; exact t5⟩, fun k hk => grow_big hB (Nat.le_trans hBw ho.size) hk,
   heapsK h.heaps ho hg (fun k x i H _ => by have := hn _ x; omega), treesK h.trees ho hg (fun k x i es _ => by have := hn _ x; omega), ⟨fun i hi => ?_, fun i y hi => ?_⟩, h.num⟩
 ·by_cases e : i = id
  ·subst e; simp [upd] at hi
  ·have := h.snaps.1 i (by simpa [upd, e] using hi)
   simpa [upd, e] using this
 ·by_cases e : i = id
  ·subst e
   have : x = y := by simpa [upd] using hi
   subst this
   exact ⟨A, c, by simp [upd], hl.lim.mono (fun k hk => grow_new hk.1 hk.2)⟩
  ·obtain ⟨A2, c2, e2, h2⟩ := h.snaps.2 i y (by simpa [upd, e] using hi)
   exact ⟨A2, c2, by simpa [upd, e] using e2, snapK h2 ho hg (by omega) (fun k x => by have := hn _ x; omega)⟩
theorem StoreRow.delSnap {id : Nat} (h : StoreRow w sb o s lb bb pb mh mt ms fh ft fs) (ho : Only (fun k => k = ms) w w') (hm : MapF w' ms (upd fs id none)) :
  StoreRow w' sb o { s with sn := upd s.sn id none } lb bb pb mh mt ms fh ft (upd fs id none) := by
 obtain ⟨t1, t2, t3, t4, t5⟩ := h.tags
 have hn : ∀ k, k = ms -> o k = 8 := fun k x => by rw [x]; exact t5
 refine ⟨ho.get h.box (fun x => by have := hn _ x; omega), logK h.log ho .refl (by omega) (fun k x => by have := hn _ x; omega), bookK h.book ho .refl (by omega) (fun k x => by have := hn _ x; omega), h.pool.kept ho (fun x => by have := hn _ x; omega),
   h.mH.kept ho (fun x => by have := hn _ x; omega), h.mT.kept ho (fun x => by have := hn _ x; omega), hm, h.tags, fun k hk => h.big k (Nat.le_trans ho.size hk),
   heapsK h.heaps ho .refl (fun k x i H _ => by have := hn _ x; omega), treesK h.trees ho .refl (fun k x i es _ => by have := hn _ x; omega), ⟨fun i hi => ?_, fun i y hi => ?_⟩, h.num⟩
 ·by_cases e : i = id
  ·subst e; simp [upd]
  ·have := h.snaps.1 i (by simpa [upd, e] using hi)
   simpa [upd, e] using this
 ·by_cases e : i = id
  ·subst e; simp [upd] at hi
  ·obtain ⟨A2, c2, e2, h2⟩ := h.snaps.2 i y (by simpa [upd, e] using hi)
   exact ⟨A2, c2, by simpa [upd, e] using e2, snapK h2 ho .refl (by omega) (fun k x => by have := hn _ x; omega)⟩
theorem StoreRow.setLast {z : Int} {n : Nat} (h : StoreRow w sb o s lb bb pb mh mt ms fh ft fs) (hz : z = n) (hn : U64 n) : StoreRow (w.setCell ⟨sb, 6, none⟩ (.int .u64 z)) sb o { s with last := n } lb bb pb mh mt ms fh ft fs := by
 subst hz
 obtain ⟨t1, t2, t3, t4, t5⟩ := h.tags
 have ho : Only (fun k => k = sb) w (w.setCell ⟨sb, 6, none⟩ (.int .u64 (n : Int))) := (Only.refl (fun k => k = sb) w).setCell (p := ⟨sb, 6, none⟩) (fun _ => rfl) _
 have hn' : ∀ k, k = sb -> o k = 1 := fun k x => by rw [x]; exact t1
 exact ⟨set_same h.box 6 _, logK h.log ho .refl (by omega) (fun k x => by have := hn' _ x; omega), bookK h.book ho .refl (by omega) (fun k x => by have := hn' _ x; omega), h.pool.kept ho (fun x => by have := hn' _ x; omega),
   h.mH.kept ho (fun x => by have := hn' _ x; omega), h.mT.kept ho (fun x => by have := hn' _ x; omega), h.mS.kept ho (fun x => by have := hn' _ x; omega), h.tags, fun k hk => h.big k (Nat.le_trans ho.size hk),
   heapsK h.heaps ho .refl (fun k x i H _ => by have := hn' _ x; omega), treesK h.trees ho .refl (fun k x i es _ => by have := hn' _ x; omega), snapsK h.snaps ho .refl (fun k x => by have := hn' _ x; omega), hn⟩
end
def st0 (n : Nat) : St := ⟨[], [], [], 0, n, fun _ => none, fun _ => none, fun _ => none, 0⟩
def ownNew (pb n1 n2 n3 : Nat) (k : Nat) : Nat :=
 if k = pb then 4 else if n1 <= k /\ k < n2 then 2 else if n2 <= k /\ k < n3 then 3 else if k = n3 then 6 else if k = n3 + 1 then 7 else if k = n3 + 2 then 8 else if k = n3 + 3 then 1 else 0
def StoreNewPost (w : World) (n : Nat) (e : Ending) (w' : World) : Prop := ∃ sb o, e = .returned (.tuple #[ptrV sb, .int .i64 0]) /\ Quiet w w' /\ (∀ k, k < w.heap.size -> o k = 0) /\ StoreAt w' sb o (st0 n)
theorem storeNew_done {w w1 w2 w3 : World} {n : Nat} (hq1 : Quiet w w1) (hp : PoolAt w1 w.heap.size n) (hq2 : Quiet w1 w2) (hl : LogAt w2 (fun k => w1.heap.size <= k) w1.heap.size []) (hq3 : Quiet w2 w3) (hb : BookIs w3 (fun k => w2.heap.size <= k) w2.heap.size [] [] 0)
  (W : World) (hW : W = (((w3.alloc (.map #[] 0)).alloc (.map #[] 0)).alloc (.map #[] 0)).alloc (.cells #[ptrV w1.heap.size, ptrV w2.heap.size, ptrV w.heap.size, .map (some w3.heap.size), .map (some (w3.heap.size + 1)), .map (some (w3.heap.size + 2)), .int .u64 0] 67)) :
  StoreNewPost w n (.returned (.tuple #[ptrV (w3.heap.size + 3), .int .i64 0])) W := by
 subst hW
 have s1 : w.heap.size < w1.heap.size := hp.lt
 have s2 : w1.heap.size < w2.heap.size := hl.lt.1
 have s3 : w2.heap.size < w3.heap.size := hb.lt.2
 have q : Quiet w3 ((((w3.alloc (.map #[] 0)).alloc (.map #[] 0)).alloc (.map #[] 0)).alloc (.cells #[ptrV w1.heap.size, ptrV w2.heap.size, ptrV w.heap.size, .map (some w3.heap.size), .map (some (w3.heap.size + 1)), .map (some (w3.heap.size + 2)), .int .u64 0] 67)) := ((((Only.refl _ _).alloc _).alloc _).alloc _).alloc _
 have m1 := mapF_made w3
 have m2 := mapF_made (w3.alloc (.map #[] 0))
 have m3 := mapF_made ((w3.alloc (.map #[] 0)).alloc (.map #[] 0))
 have b4 := alloc_new (((w3.alloc (.map #[] 0)).alloc (.map #[] 0)).alloc (.map #[] 0)) (.cells #[ptrV w1.heap.size, ptrV w2.heap.size, ptrV w.heap.size, .map (some w3.heap.size), .map (some (w3.heap.size + 1)), .map (some (w3.heap.size + 2)), .int .u64 0] 67)
 simp only [World.size_alloc] at m2 m3 b4
 refine ⟨w3.heap.size + 3, ownNew w.heap.size w1.heap.size w2.heap.size w3.heap.size, rfl, hq1.trans (hq2.trans (hq3.trans q)), fun k hk => ?_, w1.heap.size, w2.heap.size, w.heap.size, w3.heap.size, w3.heap.size + 1, w3.heap.size + 2, fun _ => none, fun _ => none, fun _ => none, ?_⟩
 ·unfold ownNew
  repeat rw [if_neg (by omega)]
 ·have big : ∀ k, w3.heap.size + 4 <= k -> ownNew w.heap.size w1.heap.size w2.heap.size w3.heap.size k = 0 := fun k hk => by
   unfold ownNew
   repeat rw [if_neg (by omega)]
  refine ⟨b4, ?_, ?_, hp.kept (hq2.trans (hq3.trans q)) (fun x => x), m1.kept ((((Only.refl (fun _ => False) _).alloc _).alloc _).alloc _) (fun x => x), m2.kept (((Only.refl (fun _ => False) _).alloc _).alloc _) (fun x => x), m3.kept ((Only.refl (fun _ => False) _).alloc _) (fun x => x), ?_, fun k hk => big k (by simpa using hk), ⟨fun _ _ => rfl, fun _ _ x => by cases x⟩, ⟨fun _ _ => rfl, fun _ _ x => by cases x⟩, ⟨fun _ _ => rfl, fun _ _ x => by cases x⟩, by show 0 < _; decide⟩
  ·exact (hl.lim.kept (hq3.trans q) (fun _ _ x => x)).mono (fun k hk _ => by show ownNew _ _ _ _ k = 2; unfold ownNew; rw [if_neg (by omega), if_pos (by omega)])
  ·exact (hb.lim.kept q (fun _ _ x => x)).mono (fun k hk => by show ownNew _ _ _ _ k = 3; unfold ownNew; rw [if_neg (by omega), if_neg (by omega), if_pos (by omega)])
  ·unfold ownNew
   refine ⟨?_, if_pos rfl, ?_, ?_, ?_⟩
   ·rw [if_neg (by omega), if_neg (by omega), if_neg (by omega), if_neg (by omega), if_neg (by omega), if_neg (by omega), if_pos rfl]
   ·rw [if_neg (by omega), if_neg (by omega), if_neg (by omega), if_pos rfl]
   ·rw [if_neg (by omega), if_neg (by omega), if_neg (by omega), if_neg (by omega), if_pos rfl]
   ·rw [if_neg (by omega), if_neg (by omega), if_neg (by omega), if_neg (by omega), if_neg (by omega), if_pos rfl]
set_option maxHeartbeats 1000000 in
theorem store_new (n : Nat) (hn : n <= 256) (w : World) :
  Calls Tryz.prog 5 #[.int .i64 (n : Int)] w (StoreNewPost w n) := by
 have hmm := @run_makeMap Tryz.prog
 go_enter Tryz.func5, Tryz.ntmps5
 go_wp2_with fail
 refine (pool_new n hn w).mono ?_
 rintro e w1 ⟨rfl, hq1, hp⟩
 go_wp2_with fail
 refine (log_new w1).mono ?_
 rintro e w2 ⟨rfl, hq2, hl⟩
 go_wp2_with fail
 refine (book_new w2).mono ?_
 rintro e w3 ⟨rfl, hq3, hb⟩
 have HD := Lib.hid (@storeNew_done w w1 w2 w3 n hq1 hp hq2 hl hq3 hb)
 clear hq1 hp hq2 hl hq3 hb
 go_wp2
 go_ret2
 exact HD.out _ rfl
def StepTo (w : World) (sb : Nat) (o : Nat -> Nat) (s' : St) (w' : World) : Prop := ∃ o', (∀ k, k < w.heap.size -> o' k = o k) /\ Only (fun k => o k ≠ 0) w w' /\ StoreAt w' sb o' s'
def endSt (s : St) (x v : Nat) : St := { s with L := (endL s.L x v).2, sn := upd s.sn x none }
def StoreEndPost (w : World) (sb : Nat) (o : Nat -> Nat) (s : St) (x v : Nat) (e : Ending) (w' : World) : Prop :=
 e = .returned (.int .i64 ((endL s.L x v).1 : Int)) /\ StepTo w sb o (endSt s x v) w'
theorem storeEnd_done {w w1 w2 : World} {sb lb bb pb mh mt ms x v : Nat} {o : Nat -> Nat} {s : St} {fh ft fs : Nat -> Option Value} (h : StoreRow w sb o s lb bb pb mh mt ms fh ft fs) (ho : Only (fun k => k = ms) w w1) (hm : MapF w1 ms (upd fs x none))
  (ho2 : Only (fun k => o k = 2) w1 w2) (hl : LogAt w2 (fun k => o k = 2) lb (endL s.L x v).2) : StepTo w sb o (endSt s x v) w2 := by
 have h1 := h.delSnap ho hm
 have h2 := h1.setLog (L' := (endL s.L x v).2) ho2 (hl.mono (fun k hk _ => Or.inl hk))
 have s1 := ho.size
 obtain ⟨t1, t2, t3, t4, t5⟩ := h.tags
 refine ⟨_, fun k hk => grow_old (by omega), (ho.mono (T := fun k => o k ≠ 0) (fun k _ e => by rw [e, t5]; omega)).trans' ho2 (fun k _ e => by omega), _, _, _, _, _, _, _, _, _, h2⟩
set_option maxHeartbeats 1000000 in
theorem store_commit {w : World} {sb x : Nat} {o : Nat -> Nat} {s : St} (h : StoreAt w sb o s) (hx : U64 x) :
  Calls Tryz.prog 12 #[ptrV sb, .int .u64 (x : Int)] w (StoreEndPost w sb o s x 2) := by
 obtain ⟨lb, bb, pb, mh, mt, ms, fh, ft, fs, h⟩ := h
 obtain ⟨c0, c1, c2, c3, c4, c5, c6⟩ := h.cells
 obtain ⟨t1, t2, t3, t4, t5⟩ := h.tags
 have HH := Lib.hid h
 have HM := Lib.hid h.mS
 have HLOG : Hid (∀ W, Only (fun k => k = ms) w W -> Calls Tryz.prog 32 #[ptrV lb, .int .u64 (x : Int)] W (EndPost W (fun k => o k = 2) lb (endL s.L x 2))) := fun W hq => log_commit (h.log.kept hq (fun k hk e => by rw [e, t5] at hk; omega)) hx
 have hsm : sb ≠ ms := fun e => by rw [e, t5] at t1; omega
 obtain ⟨w1, hrun, hm1, ho1⟩ := HM.out.delete Tryz.underlying65 Tryz.underlying29 0 hx
 have HM1 := Lib.hid hm1
 have HO1 : Hid (Only (fun k => k = ms) w w1) := ho1
 have d0 : w1.cell? ⟨sb, 0, none⟩ = some (ptrV lb) := HO1.out.cell c0 hsm
 have lsb := cell_lt d0
 dsimp only at lsb
 clear h t1 t2 t3 t4 t5 hx HM hm1 ho1 c1 c2 c3 c4 c6
 go_enter Tryz.func12, Tryz.ntmps12
 go_wp2_with fail
 refine (HLOG.out _ HO1.out).mono ?_
 rintro e w2 ⟨rfl, ho2, hl2⟩
 have HD := Lib.hid (storeEnd_done HH.out HO1.out HM1.out ho2 hl2)
 clear ho2 hl2 HLOG HO1 HM1 d0 lsb HH hrun c0 c5
 go_wp2
 go_ret
 exact ⟨rfl, HD.out⟩
theorem zero_snap (w : World) : (zeroValue 73).run Tryz.prog w = .ok (.agg #[.int .u64 0, .int .u64 0, .int .u64 0, .slice none 0 0]) w := by kernel_rfl
abbrev noSnap : Snap := ⟨0, 0, 0, []⟩
def RunsPost (w : World) (s : St) (o : Nat -> Nat) (x : Nat) (e : Ending) (w' : World) : Prop :=
 Quiet w w' /\ match s.sn x with
 | none => e = .returned (.tuple #[snapV noSnap none 0, .bool false])
 | some y => ∃ A c, e = .returned (.tuple #[snapV y A c, .bool true]) /\ SnapV w' (fun k => o k = 5) A c y
set_option maxHeartbeats 1000000 in
theorem store_runs {w : World} {sb x : Nat} {o : Nat -> Nat} {s : St} (h : StoreAt w sb o s) (hx : U64 x) :
  Calls Tryz.prog 24 #[ptrV sb, .int .u64 (x : Int)] w (RunsPost w s o x) := by
 obtain ⟨lb, bb, pb, mh, mt, ms, fh, ft, fs, h⟩ := h
 obtain ⟨_, _, _, _, _, c5, _⟩ := h.cells
 have lsb := cell_lt c5
 dsimp only at lsb
 have hq0 : Quiet w (w.alloc (.cells #[.int .u64 0, .int .u64 0, .int .u64 0, .slice none 0 0] 73)) := (Only.refl _ _).alloc _
 have hlk := (h.mS.kept hq0 (fun x => x)).lookup Tryz.underlying65 Tryz.underlying29 true (zero_snap _) hx
 rcases hy : s.sn x with _ | y
 ·rw [h.snaps.1 x hy] at hlk
  simp only [if_true, Option.getD_none, Option.isSome_none] at hlk
  have HQ : Hid (Quiet w ((w.alloc (.cells #[.int .u64 0, .int .u64 0, .int .u64 0, .slice none 0 0] 73)).alloc (.cells #[.int .u64 0, .int .u64 0, .int .u64 0, .slice none 0 0] 73))) := hq0.alloc _
  have HX := Lib.hid (alloc_old (alloc_new w (.cells #[.int .u64 0, .int .u64 0, .int .u64 0, .slice none 0 0] 73)) (.cells #[.int .u64 0, .int .u64 0, .int .u64 0, .slice none 0 0] 73))
  have HP : Hid (∀ W, Quiet w W -> RunsPost w s o x (.returned (.tuple #[snapV noSnap none 0, .bool false])) W) := fun W hq => ⟨hq, by rw [hy]⟩
  clear h hx hq0 hy
  go_enter Tryz.func24, Tryz.ntmps24
  go_wp2_with fail
  exact bodyPost_ret (results_cell_tmp Tryz.results24 _ _ w.heap.size _ _ (0, 0) _ (by rfl) HX.out Tryz.underlying73 rfl info_snap) (by rfl) (HP.out _ HQ.out)
 ·obtain ⟨A, c, hfs, hs⟩ := h.snaps.2 x y hy
  rw [hfs] at hlk
  simp only [if_true, Option.getD_some, Option.isSome_some] at hlk
  have HQ : Hid (Quiet w ((w.alloc (.cells (snapCells y A c) 73)).alloc (.cells (snapCells y A c) 73))) := ((Only.refl _ _).alloc _).alloc _
  have HX := Lib.hid (alloc_old (alloc_new w (.cells (snapCells y A c) 73)) (.cells (snapCells y A c) 73))
  have HP : Hid (∀ W, Quiet w W -> RunsPost w s o x (.returned (.tuple #[snapV y A c, .bool true])) W) := fun W hq => ⟨hq, by rw [hy]; exact ⟨A, c, rfl, hs.kept hq (fun _ _ x => x)⟩⟩
  unfold snapV at HP hlk
  clear h hx hq0 hy hs hfs
  go_enter Tryz.func24, Tryz.ntmps24
  go_wp2_with fail
  exact bodyPost_ret (results_cell_tmp Tryz.results24 _ _ w.heap.size _ _ (0, 0) _ (by rfl) HX.out Tryz.underlying73 rfl info_snap) (by rfl) (HP.out _ HQ.out)
def begSt (s : St) : St := { s with L := s.L ++ [1], sn := upd s.sn (s.L.length + 1) (some (takeS (s.L ++ [1]) (s.L.length + 1))) }
def StoreBegPost (w : World) (sb : Nat) (o : Nat -> Nat) (s : St) (e : Ending) (w' : World) : Prop :=
 e = .returned (.tuple #[.int .u64 ((s.L.length : Int) + 1), .int .i64 0]) /\ StepTo w sb o (begSt s) w'
theorem storeBeg_done {w w1 w3 w4 : World} {sb lb bb pb mh mt ms c : Nat} {o : Nat -> Nat} {s : St} {fh ft fs : Nat -> Option Value} {A : Option Addr} {L' : List Nat} {x : Nat} {y : Snap} (h : StoreRow w sb o s lb bb pb mh mt ms fh ft fs) (ho : Only (fun k => o k = 2) w w1) (hl : LogAt w1 (fun k => o k = 2 ∨ w.heap.size <= k) lb L')
  (hq : Quiet w1 w3) (hs : SnapV w3 (fun k => w1.heap.size <= k /\ k < w3.heap.size) A c y) (ho4 : Only (fun k => k = ms) w3 w4) (hm : MapF w4 ms (upd fs x (some (snapV y A c)))) : StepTo w sb o { s with L := L', sn := upd s.sn x (some y) } w4 := by
 have h1 := h.setLog ho hl
 have hbig := h1.big
 have h3 := h1.quietly hq
 have hms := h3.mS.lt
 have tm : grow o w.heap.size w1.heap.size 2 ms = 8 := h1.tags.2.2.2.2
 have hnm : ¬ w1.heap.size <= ms := fun x => by have := hbig ms x; omega
 have h4 := h3.putSnap (B := w1.heap.size) (id := x) (x := y) (A := A) (c := c) hbig hq.size ho4 hm ((hs.kept ho4 (fun k hk e => by omega)).mono (fun k hk => hk.1))
 have s1 := ho.size
 have s2 := hq.size
 have e8 : o ms = 8 := h.tags.2.2.2.2
 refine ⟨_, fun k hk => ?_, ((ho.mono (T := fun k => o k ≠ 0) (fun k _ e => by omega)).trans' hq (fun k _ e => e.elim)).trans' ho4 (fun k _ e => by rw [e, e8]; omega), _, _, _, _, _, _, _, _, _, h4⟩
 rw [grow_old (by omega), grow_old (by omega)]
set_option maxHeartbeats 2000000 in
theorem store_begin {w : World} {sb : Nat} {o : Nat -> Nat} {s : St} (h : StoreAt w sb o s) (hl : s.L.length < 1000000) :
  Calls Tryz.prog 7 #[ptrV sb] w (StoreBegPost w sb o s) := by
 obtain ⟨lb, bb, pb, mh, mt, ms, fh, ft, fs, h⟩ := h
 obtain ⟨c0, _, _, _, _, c5, _⟩ := h.cells
 have lsb := cell_lt c0
 dsimp only at lsb
 obtain ⟨t1, t2, t3, t4, t5⟩ := h.tags
 have HB := Lib.hid (log_begin h.log (by omega))
 have HH := Lib.hid h
 obtain ⟨n, hn⟩ : ∃ n, s.L.length = n := ⟨_, rfl⟩
 have HP : Hid (StoreBegPost w sb o s = fun e w' => e = .returned (.tuple #[.int .u64 ((n : Int) + 1), .int .i64 0]) /\ StepTo w sb o (begSt s) w') := by rw [<- hn]; rfl
 have HN := Lib.hid hn
 have hsl : o sb ≠ 2 := by omega
 have hml : o ms ≠ 2 := by omega
 clear h t1 t2 t3 t4 t5 hn
 go_enter Tryz.func7, Tryz.ntmps7
 go_wp2_with fail
 refine HB.out.mono ?_
 rintro e w1 ⟨rfl, ho1, hl1⟩
 rw [HN.out]
 have HO1 := Lib.hid ho1
 have HL1 := Lib.hid hl1
 have d0 := ho1.cell c0 hsl
 have d5 := ho1.cell c5 hsl
 have lsb1 := cell_lt d0
 dsimp only at lsb1
 have HM := Lib.hid (HH.out.mS.kept ho1 hml)
 have HX : Hid (U64 (n + 1)) := by have := HN.out; unfold Hid U64; omega
 have HTK : Hid (∀ W, Quiet w1 W -> Calls Tryz.prog 23 #[ptrV lb, .int .u64 ((n + 1 : Nat) : Int)] W (SnapPost W (takeS (s.L ++ [1]) (n + 1)))) := fun W hq => snap_take (hl1.kept hq (fun _ _ x => x)) (by rw [List.length_append]; simp; omega) HX.out
 clear ho1 hl1 c0 c5 lsb HB
 have en : ((n : Int) + 1) = ((n + 1 : Nat) : Int) := by omega
 rw [en] at *
 have c0 := d0
 have c5 := d5
 clear d0 d5
 go_wp2_with fail
 refine wp_region_last (S := fun w' => w'.cell? ⟨sb, 5, none⟩ = some (.map (some ms)) /\ w'.cell? ⟨sb, 0, none⟩ = some (ptrV lb) /\ Quiet w1 w') (by kernel_rfl) (by kernel_rfl) (by simp) (⟨c5, c0, (Only.refl _ _).drew⟩) (fun hHeld => ?_)
 simp only [List.pop_toArray, List.dropLast, List.size_toArray, List.length_cons, List.length_nil, Nat.reduceAdd, Nat.reduceSub]
 refine zT 0 ?_
 refine zT 1 ?_
 refine zT 2 ?_
 refine zT 3 ?_
 refine zT 4 ?_
 refine zT 5 ?_
 refine zT 6 ?_
 refine zT 7 ?_
 refine zT 8 ?_
 refine zT 9 ?_
 refine wpAnyH_ready (rs := [10]) (by kernel_rfl) (by simp) ?_
 refine zA ?_ ?_
 ·intro K hK
  go_simp
  go_at_call 23
  refine (HTK.out _ hHeld.2.2).mono ?_
  rintro e w3 ⟨A, c, rfl, hq3, hs3⟩
  dsimp only
  refine hK.out _ _ ?_ (fun hHeld => ?_)
  ·exact ⟨hq3.cell hHeld.1 (fun x => x), hq3.cell hHeld.2.1 (fun x => x), hHeld.2.2.trans hq3⟩
  clear hK K
  (try simp only [Act.put, zPA, zPZ, zPS])
  refine wpAnyH_done (by kernel_rfl) ?_ _
  refine last_step (o := ?_) ?_ ?_
  rotate_left 1
  (focus (simp only [zGA, zGZ, zGS] <;> rfl))
  intro K hK
  refine wp_put (.tmp 22) (.tmp 23) (.tmp 29) rfl (HM.out.kept hHeld.2.2 (fun x => x)) Tryz.underlying65 Tryz.underlying29 rfl rfl rfl HX.out ?_
  intro w4 hm4 ho4
  refine hK.out _ _ ?_
  clear hK K
  have hm5 : MapF w4 ms (upd fs (n + 1) (some (snapV (takeS (s.L ++ [1]) (n + 1)) A c))) := hm4
  have HD : Hid (StepTo w sb o (begSt s) w4) := by
   have := storeBeg_done HH.out HO1.out HL1.out hHeld.2.2 hs3 ho4 hm5
   unfold begSt
   rw [HN.out]
   exact this
  clear hm4 hm5 ho4 hHeld hs3 hq3 HH HO1 HL1 HM HTK
  dsimp only [Act.put]
  go_wp2
  go_ret2
  rw [HP.out]
  exact ⟨rfl, HD.out⟩
 exact AllReadyH.nil
def OpenPost (w : World) (o : Nat -> Nat) (y : Snap) (t : TE) (e : Ending) (w' : World) : Prop :=
 ∃ A c A2 c2, e = .returned (.tuple #[snapV y A c, tabV t A2 c2, .int .i64 0]) /\ Quiet w w' /\ SnapV w' (fun k => o k = 5) A c y /\ FreshC w w' (.slice A2 t.cols.length c2) t.cols /\ t.cols.length <= c2 /\ c2 <= maxLen
abbrev openEnd (W : World) (r6 r7 : Nat) (v0 v1 v2 v3 u0 u1 u2 u3 u4 : Value) : World := fiveSet (fourSet W r6 v0 v1 v2 v3) r7 u0 u1 u2 u3 u4
theorem openEnd_facts {W : World} {r6 r7 : Nat} {a0 a1 a2 a3 d0 d1 d2 d3 d4 : Value} {t6 t7 : TypeId} (b6 : W.heap[r6]? = some (.cells #[a0, a1, a2, a3] t6 (0, 0))) (b7 : W.heap[r7]? = some (.cells #[d0, d1, d2, d3, d4] t7 (0, 0))) (hne : r6 ≠ r7) (v0 v1 v2 v3 u0 u1 u2 u3 u4 : Value) :
  (openEnd W r6 r7 v0 v1 v2 v3 u0 u1 u2 u3 u4).heap[r6]? = some (.cells #[v0, v1, v2, v3] t6 (0, 0)) /\ (openEnd W r6 r7 v0 v1 v2 v3 u0 u1 u2 u3 u4).heap[r7]? = some (.cells #[u0, u1, u2, u3, u4] t7 (0, 0)) /\ Only (fun k => k = r6 ∨ k = r7) W (openEnd W r6 r7 v0 v1 v2 v3 u0 u1 u2 u3 u4) := by
 unfold openEnd
 have h1 := fourSet_same b6 v0 v1 v2 v3
 have o1 := fourSet_only W r6 v0 v1 v2 v3
 have h2 := o1.get b7 (fun e => hne e.symm)
 generalize fourSet W r6 v0 v1 v2 v3 = W1 at *
 have h3 := fiveSet_same h2 u0 u1 u2 u3 u4
 have o2 := fiveSet_only W1 r7 u0 u1 u2 u3 u4
 have h4 := o2.get h1 hne
 exact ⟨h4, h3, (o1.mono (fun k _ e => Or.inl e)).trans' o2 (fun k _ e => Or.inr e)⟩
theorem open_done {w W F : World} {r6 r7 c A5c : Nat} {o : Nat -> Nat} {y : Snap} {t : TE} {A A5 : Option Addr} (hr6 : w.heap.size = r6) (hr7 : r6 + 1 = r7) (hq : Quiet w W) (ho : Only (fun k => k = r6 ∨ k = r7) W F) (hs : SnapV W (fun k => o k = 5) A c y) (hbig : ∀ k, w.heap.size <= k -> o k = 0)
  (hfr : W.ownsRow 0 81 2 (.slice A5 t.cols.length A5c) t.cols.length (colsV t.cols)) (hfn : ∀ k, (Value.slice A5 t.cols.length A5c).ownBlock = some k -> r7 < k) (hc5 : t.cols.length <= A5c) (hm5 : A5c <= maxLen) :
  OpenPost w o y t (.returned (.tuple #[snapV y A c, tabV t A5 A5c, .int .i64 0])) F.drew := by
 have hqF : Quiet w F.drew := (hq.trans' ho (fun k hk e => by rcases e with e | e <;> omega)).drew
 refine ⟨A, c, A5, A5c, rfl, hqF, (hs.kept ho (fun k hk e => ?_)).kept ((Only.refl (fun _ => False) F).drew) (fun _ _ x => x), ⟨hqF, fun k e => by have := hfn k e; omega, owns_kept (owns_kept hfr ho (fun k e1 e2 => ?_)) ((Only.refl (fun _ => False) F).drew) (fun _ _ x => x)⟩, hc5, hm5⟩
 ·have := hbig k (by rcases e with e | e <;> omega)
  omega
 ·have := hfn k e1
  rcases e2 with e | e <;> omega
theorem results_two_tmp {P : Program} {fn : Func} {p q r : Tmp} {ty ty2 : TypeId} (h : fn.results = #[.cell p ty, .cell q ty2, .tmp r]) (tmps : Array Value) (w : World) (g g2 : Nat) (t t2 : TypeId) (cs cs2 : Array Value) (fr fr2 : Nat × Nat) (d d2 : TypeDesc)
  (hp : tmps.getD p undef = .pointer (some ⟨g, 0, none⟩)) (hg : w.heap[g]? = some (.cells cs t fr)) (hp2 : tmps.getD q undef = .pointer (some ⟨g2, 0, none⟩)) (hg2 : w.heap[g2]? = some (.cells cs2 t2 fr2))
  (hu : P.underlying ty = some d) (hd : (match d with | .struct _ | .array _ _ => true | _ => false) = true) (hi : (P.info? ty).map (·.size) = some cs.size)
  (hu2 : P.underlying ty2 = some d2) (hd2 : (match d2 with | .struct _ | .array _ _ => true | _ => false) = true) (hi2 : (P.info? ty2).map (·.size) = some cs2.size) :
  (results fn tmps).run P w = .ok (.tuple #[.agg cs, .agg cs2, tmps.getD r undef]) w := by
 have hp' : tmps[p]?.getD undef = .pointer (some ⟨g, 0, none⟩) := by simpa using hp
 have hp2' : tmps[q]?.getD undef = .pointer (some ⟨g2, 0, none⟩) := by simpa using hp2
 simp [results, h, hp', hp2', asAddr, run_loadVar_row w g t ty cs fr d hg hu hd hi, run_loadVar_row w g2 t2 ty2 cs2 fr2 d2 hg2 hu2 hd2 hi2]
theorem drew_get6 {w : World} {b : Nat} {x : Option Obj} (h : w.heap[b]? = x) : w.drew.heap[b]? = x := h
set_option maxHeartbeats 1000000 in
theorem store_open {w : World} {sb x i : Nat} {o : Nat -> Nat} {s : St} {y : Snap} {t : TE} {name : ByteArray} (h : StoreAt w sb o s) (hx : U64 x) (hy : s.sn x = some y) (hf : findT s.L y name s.T = some i) (ht : s.T[i]? = some t) :
  Calls Tryz.prog 27 #[ptrV sb, .int .u64 (x : Int), .string name] w (OpenPost w o y t) := by
 have hq0 : Quiet w ((w.alloc (.cells #[.int .u64 0, .int .u64 0, .int .u64 0, .slice none 0 0] 73)).alloc (.cells #[.int .u64 0, .string ⟨#[]⟩, .slice none 0 0, .int .u64 0, .int .u64 0] 83)) := ((Only.refl _ _).alloc _).alloc _
 have HRU := Lib.hid (store_runs (h.quietly hq0) hx)
 have HQ0 := Lib.hid hq0
 have HR := Lib.hid (two_new w (.cells #[.int .u64 0, .int .u64 0, .int .u64 0, .slice none 0 0] 73) (.cells #[.int .u64 0, .string ⟨#[]⟩, .slice none 0 0, .int .u64 0, .int .u64 0] 83))
 have HN := Lib.hid (alloc_old (alloc_new w (.cells #[.int .u64 0, .int .u64 0, .int .u64 0, .slice none 0 0] 73)) (.cells #[.int .u64 0, .string ⟨#[]⟩, .slice none 0 0, .int .u64 0, .int .u64 0] 83))
 obtain ⟨lb, bb, pb, mh, mt, ms, fh, ft, fs, h⟩ := h
 have HH := Lib.hid h
 unfold RunsPost at HRU
 rw [hy] at HRU
 obtain ⟨r6, hr6⟩ : ∃ r6, w.heap.size = r6 := ⟨_, rfl⟩
 obtain ⟨r7, hr7⟩ : ∃ r7, r6 + 1 = r7 := ⟨_, rfl⟩
 rw [hr6] at HN HR
 rw [hr7] at HR
 clear hq0 h
 go_enter Tryz.func27, Tryz.ntmps27
 go_wp2_with fail
 refine HRU.out.mono ?_
 rintro e w1 ⟨hq1, A, c, rfl, hs1⟩
 clear HRU
 have hq01 : Quiet w w1 := HQ0.out.trans hq1
 have b6 := hq1.get HN.out (fun x => x)
 have b7 := hq1.get HR.out (fun x => x)
 have hq2 : Quiet w1 (w1.alloc (.cells (snapCells y A c) 73)) := (Only.refl _ _).alloc _
 have hpb := alloc_new w1 (.cells (snapCells y A c) 73)
 have l7 := lt_of_get b7
 obtain ⟨pv, hpv⟩ : ∃ pv, w1.heap.size = pv := ⟨_, rfl⟩
 have hz1 := hq01.size
 unfold snapV
 go_wp2_with fail
 rw [hpv] at hpb l7
 have hs2 := hs1.kept hq2 (fun _ _ x => x)
 have b6' := hq2.get b6 (fun x => x)
 have b7' := hq2.get b7 (fun x => x)
 have hq02 := hq01.trans hq2
 generalize w1.alloc (.cells (snapCells y A c) 73) = w2 at *
 obtain ⟨c0, c1, _⟩ := (HH.out.quietly hq02).cells
 obtain ⟨p0, p1, p2, p3⟩ : w2.cell? ⟨pv, 0, none⟩ = some (.int .u64 (y.own : Int)) /\ w2.cell? ⟨pv, 1, none⟩ = some (.int .u64 (y.xmin : Int)) /\ w2.cell? ⟨pv, 2, none⟩ = some (.int .u64 (y.xmax : Int)) /\ w2.cell? ⟨pv, 3, none⟩ = some (.slice A y.run.length c) :=
  ⟨by rw [cell_of hpb]; rfl, by rw [cell_of hpb]; rfl, by rw [cell_of hpb]; rfl, by rw [cell_of hpb]; rfl⟩
 have HTB : Hid (∀ W, Quiet w2 W -> Calls Tryz.prog 58 #[ptrV bb, ptrV lb, snapV y A c, .string name] W (TablePost W t)) := fun W hq => by
  have h2 := (HH.out.quietly hq02).quietly hq
  obtain ⟨vT, tps, vI, ips, hb1, _, _⟩ := h2.book
  exact book_Table name hb1 h2.log (hs2.kept hq (fun _ _ x => x)) hf ht
 have HSQ : Hid (∀ W, Quiet w2 W -> (fun w' => w'.cell? ⟨sb, 1, none⟩ = some (ptrV bb) /\ w'.cell? ⟨sb, 0, none⟩ = some (ptrV lb) /\ w'.cell? ⟨pv, 0, none⟩ = some (.int .u64 (y.own : Int)) /\ w'.cell? ⟨pv, 1, none⟩ = some (.int .u64 (y.xmin : Int)) /\ w'.cell? ⟨pv, 2, none⟩ = some (.int .u64 (y.xmax : Int)) /\ w'.cell? ⟨pv, 3, none⟩ = some (.slice A y.run.length c)) W) := fun W hq => ⟨hq.cell c1 (fun x => x), hq.cell c0 (fun x => x), hq.cell p0 (fun x => x), hq.cell p1 (fun x => x), hq.cell p2 (fun x => x), hq.cell p3 (fun x => x)⟩
 have lsb := cell_lt c0
 have lpv := cell_lt p0
 dsimp only at lsb lpv
 have HB6 := Lib.hid b6'
 have HB7 := Lib.hid b7'
 have HPV := Lib.hid hpb
 have HQ2 := Lib.hid hq02
 have HS2 := Lib.hid hs2
 unfold snapV at HTB
 clear hq1 hs1 b6 b7 hq2 hpb hq01 hs2 b6' b7' hq02 HN HR c0 c1 p0 p1 p2 p3
 refine zH HSQ ((Only.refl _ _).drew) (fun hHeld => ?_)
 simp only [List.size_toArray, List.length_cons, List.length_nil, Nat.reduceAdd]
 refine zT 0 ?_
 refine zT 1 ?_
 refine zT 2 ?_
 refine zT 3 ?_
 refine zT 4 ?_
 refine zT 5 ?_
 refine zT 6 ?_
 refine zT 7 ?_
 refine zT 8 ?_
 refine zT 9 ?_
 refine wpAnyH_ready (rs := [10, 14]) (by kernel_rfl) (by simp) ?_
 refine zA ?_ ?_
 ·intro K hK
  go_simp
  go_at_call 58
  refine (HTB.out _ ((Only.refl (fun _ => False) w2).drew)).mono ?_
  rintro e w4 ⟨A5, c5, rfl, hf5, hc5, hm5⟩
  have hq4 : Quiet w2 w4 := ((Only.refl (fun _ => False) w2).drew).trans hf5.quiet
  unfold tabV
  dsimp only
  refine hK.out _ _ ?_ (fun hHeld => ?_)
  ·exact HSQ.out _ hq4
  clear hK K
  (try simp only [Act.put, zPA, zPZ, zPS])
  refine zT 11 ?_
  refine zT 12 ?_
  refine zT 13 ?_
  refine zR 14 ?_
  intro K hK
  go_simp
  refine hK.out _ _ ?_ (fun hHeld => ?_)
  ·exact HSQ.out _ (hq4.alloc _)
  clear hK K
  (try simp only [Act.put, zPA, zPZ, zPS])
  refine zR 15 ?_
  intro K hK
  go_simp
  refine hK.out _ _ ?_ (fun hHeld => ?_)
  ·exact HSQ.out _ ((hq4.alloc _))
  clear hK K
  (try simp only [Act.put, zPA, zPZ, zPS])
  refine zT 16 ?_
  refine wpAnyH_done (by kernel_rfl) ?_ _
  have hW : Quiet w2 (w4.alloc (.cells #[.int .u64 (t.id : Int), .string t.name, .slice A5 t.cols.length c5, .int .u64 (t.xmin : Int), .int .u64 (t.xmax : Int)] 83)) := hq4.alloc _
  have hbt := alloc_new w4 (.cells #[.int .u64 (t.id : Int), .string t.name, .slice A5 t.cols.length c5, .int .u64 (t.xmin : Int), .int .u64 (t.xmax : Int)] 83)
  have hfn : ∀ k, (Value.slice A5 t.cols.length c5).ownBlock = some k -> w2.heap.size <= k := hf5.new
  have hown := owns_kept hf5.own ((Only.refl (fun _ => False) w4).alloc (.cells #[.int .u64 (t.id : Int), .string t.name, .slice A5 t.cols.length c5, .int .u64 (t.xmin : Int), .int .u64 (t.xmax : Int)] 83)) (fun _ _ x => x)
  have hpt : w2.heap.size <= w4.heap.size := hq4.size
  obtain ⟨pt, hpt2⟩ : ∃ pt, w4.heap.size = pt := ⟨_, rfl⟩
  rw [hpt2] at hbt hpt ⊢
  clear hf5
  generalize w4.alloc (.cells #[.int .u64 (t.id : Int), .string t.name, .slice A5 t.cols.length c5, .int .u64 (t.xmin : Int), .int .u64 (t.xmax : Int)] 83) = W at *
  have b6 := hW.get HB6.out (fun x => x)
  have b7 := hW.get HB7.out (fun x => x)
  have bp := hW.get HPV.out (fun x => x)
  have x0 := cell_of b6 0
  have x1 := cell_of b6 1
  have x2 := cell_of b6 2
  have x3 := cell_of b6 3
  have y0 := cell_of b7 0
  have y1 := cell_of b7 1
  have y2 := cell_of b7 2
  have y3 := cell_of b7 3
  have y4 := cell_of b7 4
  have u0 := cell_of bp 0
  have u1 := cell_of bp 1
  have u2 := cell_of bp 2
  have u3 := cell_of bp 3
  have z0 := cell_of hbt 0
  have z1 := cell_of hbt 1
  have z2 := cell_of hbt 2
  have z3 := cell_of hbt 3
  have z4 := cell_of hbt 4
  have fx := fun o => frozen_of b6 o
  have fy := fun o => frozen_of b7 o
  simp only [zGA, zGS, zGZ] at x0 x1 x2 x3 y0 y1 y2 y3 y4 u0 u1 u2 u3 z0 z1 z2 z3 z4
  have hne : r6 ≠ r7 := by omega
  have hn6 : r6 ≠ pt := by omega
  have hn7 : r7 ≠ pt := by omega
  have hn8 : r6 ≠ pv := by omega
  have hn9 : r7 ≠ pv := by omega
  obtain ⟨X6, X7, hO⟩ := openEnd_facts b6 b7 hne (.int .u64 (y.own : Int)) (.int .u64 (y.xmin : Int)) (.int .u64 (y.xmax : Int)) (.slice A y.run.length c) (.int .u64 (t.id : Int)) (.string t.name) (.slice A5 t.cols.length c5) (.int .u64 (t.xmin : Int)) (.int .u64 (t.xmax : Int))
  have HOUT := Lib.hid (open_done hr6 hr7 (HQ2.out.trans hW) hO (HS2.out.kept hW (fun _ _ x => x)) HH.out.big hown (fun k e => by have := hfn k e; omega) hc5 hm5)
  have HX6 : Hid ((openEnd W r6 r7 (.int .u64 (y.own : Int)) (.int .u64 (y.xmin : Int)) (.int .u64 (y.xmax : Int)) (.slice A y.run.length c) (.int .u64 (t.id : Int)) (.string t.name) (.slice A5 t.cols.length c5) (.int .u64 (t.xmin : Int)) (.int .u64 (t.xmax : Int))).drew.heap[r6]? = some (.cells (snapCells y A c) 73 (0, 0))) := drew_get6 X6
  have HX7 : Hid ((openEnd W r6 r7 (.int .u64 (y.own : Int)) (.int .u64 (y.xmin : Int)) (.int .u64 (y.xmax : Int)) (.slice A y.run.length c) (.int .u64 (t.id : Int)) (.string t.name) (.slice A5 t.cols.length c5) (.int .u64 (t.xmin : Int)) (.int .u64 (t.xmax : Int))).drew.heap[r7]? = some (.cells #[.int .u64 (t.id : Int), .string t.name, .slice A5 t.cols.length c5, .int .u64 (t.xmin : Int), .int .u64 (t.xmax : Int)] 83 (0, 0))) := drew_get6 X7
  unfold openEnd fiveSet fourSet at HX6 HX7 HOUT
  clear X6 X7 hO b6 b7 bp hbt hown hW HB6 HB7 HPV HQ2 HS2 HSQ HTB hHeld hr6 hr7 HH
  go_wp2_with fail
  go_region
  go_wp2
  generalize (((((((((W.setCell ⟨r6, 0, none⟩ (.int .u64 (y.own : Int))).setCell ⟨r6, 1, none⟩ (.int .u64 (y.xmin : Int))).setCell ⟨r6, 2, none⟩ (.int .u64 (y.xmax : Int))).setCell ⟨r6, 3, none⟩ (.slice A y.run.length c)).setCell ⟨r7, 0, none⟩ (.int .u64 (t.id : Int))).setCell ⟨r7, 1, none⟩ (.string t.name)).setCell ⟨r7, 2, none⟩ (.slice A5 t.cols.length c5)).setCell ⟨r7, 3, none⟩ (.int .u64 (t.xmin : Int))).setCell ⟨r7, 4, none⟩ (.int .u64 (t.xmax : Int))).drew = WF at HX6 HX7 HOUT ⊢
  exact bodyPost_ret (results_two_tmp Tryz.results27 _ _ r6 r7 _ _ _ _ (0, 0) (0, 0) _ _ (by rfl) HX6.out (by rfl) HX7.out Tryz.underlying73 rfl info_snap Tryz.underlying83 rfl info_tab) (by rfl) HOUT.out
 refine zA ?_ ?_
 ·intro K hK
  go_simp
  refine hK.out _ _ ?_ (fun hHeld => ?_)
  ·exact HSQ.out _ ((Only.refl (fun _ => False) w2).drew.alloc _)
  clear hK K
  (try simp only [Act.put, zPA, zPZ, zPS])
  refine zR 10 ?_
  intro K hK
  go_simp
  go_at_call 58
  refine (HTB.out _ ((Only.refl (fun _ => False) w2).drew.alloc _)).mono ?_
  rintro e w4 ⟨A5, c5, rfl, hf5, hc5, hm5⟩
  have hq4 : Quiet w2 w4 := ((Only.refl (fun _ => False) w2).drew.alloc _).trans hf5.quiet
  have hb4 : w4.heap[w2.heap.size]? = some (.cells #[.int .u64 0, .string ⟨#[]⟩, .slice none 0 0, .int .u64 0, .int .u64 0] 83 (0, 0)) := hf5.quiet.get (alloc_new w2.drew (.cells #[.int .u64 0, .string ⟨#[]⟩, .slice none 0 0, .int .u64 0, .int .u64 0] 83)) (fun x => x)
  have z0 := cell_of hb4 0
  have z1 := cell_of hb4 1
  have z2 := cell_of hb4 2
  have z3 := cell_of hb4 3
  have z4 := cell_of hb4 4
  have zf := fun o => frozen_of hb4 o
  simp only [zGA, zGS, zGZ] at z0 z1 z2 z3 z4
  unfold tabV
  dsimp only
  refine hK.out _ _ ?_ (fun hHeld => ?_)
  ·exact HSQ.out _ hq4
  clear hK K
  (try simp only [Act.put, zPA, zPZ, zPS])
  refine zT 11 ?_
  refine zT 12 ?_
  refine zT 13 ?_
  refine zR 15 ?_
  intro K hK
  go_simp
  refine hK.out _ _ ?_ (fun hHeld => ?_)
  ·exact HSQ.out _ (hq4.trans' (fiveSet_only w4 w2.heap.size (.int .u64 (t.id : Int)) (.string t.name) (.slice A5 t.cols.length c5) (.int .u64 (t.xmin : Int)) (.int .u64 (t.xmax : Int))) (fun k hk e => by omega))
  clear hK K
  (try simp only [Act.put, zPA, zPZ, zPS])
  refine zT 16 ?_
  refine wpAnyH_done (by kernel_rfl) ?_ _
  have hO4 := fiveSet_only w4 w2.heap.size (.int .u64 (t.id : Int)) (.string t.name) (.slice A5 t.cols.length c5) (.int .u64 (t.xmin : Int)) (.int .u64 (t.xmax : Int))
  have hW : Quiet w2 (fiveSet w4 w2.heap.size (.int .u64 (t.id : Int)) (.string t.name) (.slice A5 t.cols.length c5) (.int .u64 (t.xmin : Int)) (.int .u64 (t.xmax : Int))) := hq4.trans' hO4 (fun k hk e => by omega)
  have hbt := fiveSet_same hb4 (.int .u64 (t.id : Int)) (.string t.name) (.slice A5 t.cols.length c5) (.int .u64 (t.xmin : Int)) (.int .u64 (t.xmax : Int))
  have hfn' : ∀ k, (Value.slice A5 t.cols.length c5).ownBlock = some k -> w2.heap.size < k := fun k e => by have := hf5.new k e; rw [World.size_alloc] at this; exact this
  have hfn : ∀ k, (Value.slice A5 t.cols.length c5).ownBlock = some k -> w2.heap.size <= k := fun k e => Nat.le_of_lt (hfn' k e)
  have hown := owns_kept hf5.own hO4 (fun k e1 e2 => by have := hfn' k e1; omega)
  unfold fiveSet at hW hbt hown hO4
  clear hf5 hfn' hb4 hO4 z0 z1 z2 z3 z4 zf
  have hpt : w2.heap.size <= w2.heap.size := Nat.le_refl _
  obtain ⟨pt, hpt2⟩ : ∃ pt, w2.heap.size = pt := ⟨_, rfl⟩
  generalize ((((w4.setCell ⟨w2.heap.size, 0, none⟩ (.int .u64 (t.id : Int))).setCell ⟨w2.heap.size, 1, none⟩ (.string t.name)).setCell ⟨w2.heap.size, 2, none⟩ (.slice A5 t.cols.length c5)).setCell ⟨w2.heap.size, 3, none⟩ (.int .u64 (t.xmin : Int))).setCell ⟨w2.heap.size, 4, none⟩ (.int .u64 (t.xmax : Int)) = W at *
  rw [hpt2] at hbt ⊢
  have b6 := hW.get HB6.out (fun x => x)
  have b7 := hW.get HB7.out (fun x => x)
  have bp := hW.get HPV.out (fun x => x)
  have x0 := cell_of b6 0
  have x1 := cell_of b6 1
  have x2 := cell_of b6 2
  have x3 := cell_of b6 3
  have y0 := cell_of b7 0
  have y1 := cell_of b7 1
  have y2 := cell_of b7 2
  have y3 := cell_of b7 3
  have y4 := cell_of b7 4
  have u0 := cell_of bp 0
  have u1 := cell_of bp 1
  have u2 := cell_of bp 2
  have u3 := cell_of bp 3
  have z0 := cell_of hbt 0
  have z1 := cell_of hbt 1
  have z2 := cell_of hbt 2
  have z3 := cell_of hbt 3
  have z4 := cell_of hbt 4
  have fx := fun o => frozen_of b6 o
  have fy := fun o => frozen_of b7 o
  simp only [zGA, zGS, zGZ] at x0 x1 x2 x3 y0 y1 y2 y3 y4 u0 u1 u2 u3 z0 z1 z2 z3 z4
  have hne : r6 ≠ r7 := by omega
  have hn6 : r6 ≠ pt := by omega
  have hn7 : r7 ≠ pt := by omega
  have hn8 : r6 ≠ pv := by omega
  have hn9 : r7 ≠ pv := by omega
  obtain ⟨X6, X7, hO⟩ := openEnd_facts b6 b7 hne (.int .u64 (y.own : Int)) (.int .u64 (y.xmin : Int)) (.int .u64 (y.xmax : Int)) (.slice A y.run.length c) (.int .u64 (t.id : Int)) (.string t.name) (.slice A5 t.cols.length c5) (.int .u64 (t.xmin : Int)) (.int .u64 (t.xmax : Int))
  have HOUT := Lib.hid (open_done hr6 hr7 (HQ2.out.trans hW) hO (HS2.out.kept hW (fun _ _ x => x)) HH.out.big hown (fun k e => by have := hfn k e; omega) hc5 hm5)
  have HX6 : Hid ((openEnd W r6 r7 (.int .u64 (y.own : Int)) (.int .u64 (y.xmin : Int)) (.int .u64 (y.xmax : Int)) (.slice A y.run.length c) (.int .u64 (t.id : Int)) (.string t.name) (.slice A5 t.cols.length c5) (.int .u64 (t.xmin : Int)) (.int .u64 (t.xmax : Int))).drew.heap[r6]? = some (.cells (snapCells y A c) 73 (0, 0))) := drew_get6 X6
  have HX7 : Hid ((openEnd W r6 r7 (.int .u64 (y.own : Int)) (.int .u64 (y.xmin : Int)) (.int .u64 (y.xmax : Int)) (.slice A y.run.length c) (.int .u64 (t.id : Int)) (.string t.name) (.slice A5 t.cols.length c5) (.int .u64 (t.xmin : Int)) (.int .u64 (t.xmax : Int))).drew.heap[r7]? = some (.cells #[.int .u64 (t.id : Int), .string t.name, .slice A5 t.cols.length c5, .int .u64 (t.xmin : Int), .int .u64 (t.xmax : Int)] 83 (0, 0))) := drew_get6 X7
  unfold openEnd fiveSet fourSet at HX6 HX7 HOUT
  clear X6 X7 hO b6 b7 bp hbt hown hW HB6 HB7 HPV HQ2 HS2 HSQ HTB hHeld hr6 hr7 HH
  go_wp2_with fail
  go_region
  go_wp2
  generalize (((((((((W.setCell ⟨r6, 0, none⟩ (.int .u64 (y.own : Int))).setCell ⟨r6, 1, none⟩ (.int .u64 (y.xmin : Int))).setCell ⟨r6, 2, none⟩ (.int .u64 (y.xmax : Int))).setCell ⟨r6, 3, none⟩ (.slice A y.run.length c)).setCell ⟨r7, 0, none⟩ (.int .u64 (t.id : Int))).setCell ⟨r7, 1, none⟩ (.string t.name)).setCell ⟨r7, 2, none⟩ (.slice A5 t.cols.length c5)).setCell ⟨r7, 3, none⟩ (.int .u64 (t.xmin : Int))).setCell ⟨r7, 4, none⟩ (.int .u64 (t.xmax : Int))).drew = WF at HX6 HX7 HOUT ⊢
  exact bodyPost_ret (results_two_tmp Tryz.results27 _ _ r6 r7 _ _ _ _ (0, 0) (0, 0) _ _ (by rfl) HX6.out (by rfl) HX7.out Tryz.underlying73 rfl info_snap Tryz.underlying83 rfl info_tab) (by rfl) HOUT.out
 exact AllReadyH.nil
theorem elem_kind : Elem Tryz.prog 89 48 1 1 := Elem.mk' (.int .u8 0) Tryz.underlying89 (by kernel_rfl) rfl (by decide)
structure FreshK (w w' : World) (v : Value) (k : Nat) : Prop where
 quiet : Quiet w w'
 new : ∀ j, v.ownBlock = some j -> w.heap.size <= j
 own : w'.ownsRow 0 48 1 v 1 [.int .u8 (k : Int)]
def KindsPost (w : World) (k : Nat) (e : Ending) (w' : World) : Prop := ∃ v, e = .returned v /\ FreshK w w' v k
set_option maxHeartbeats 1000000 in
theorem store_kinds {w : World} {S : Nat -> Prop} {t : TE} {nm : ByteArray} {kd c : Nat} {A : Option Addr} (ht : t.cols = [(nm, kd)]) (hr : Rd w S 2 A 1 (colsV [(nm, kd)])) (hc : 1 <= c) (hm : c <= maxLen) :
  Calls Tryz.prog 29 #[tabV t A c] w (KindsPost w kd) := by
 obtain ⟨b, off, rfl, _, hcs⟩ := hr.at_ (k := 0) (by omega) (by omega)
 obtain ⟨u0, h0, c0⟩ := hcs 0 (by omega)
 obtain ⟨u1, h1, c1⟩ := hcs 1 (by omega)
 obtain rfl : Value.string nm = u0 := Option.some.inj h0
 obtain rfl : Value.int .u8 (kd : Int) = u1 := Option.some.inj h1
 simp only [Nat.zero_mul, Nat.add_zero, Nat.zero_add] at c0 c1
 have l0 := cell_lt c0
 dsimp only at l0
 unfold maxLen at hm
 unfold tabV
 rw [ht]
 show Calls Tryz.prog 29 #[.agg #[.int .u64 (t.id : Int), .string t.name, .slice (some ⟨b, off, none⟩) 1 c, .int .u64 (t.xmin : Int), .int .u64 (t.xmax : Int)]] w (KindsPost w kd)
 have HRD : Hid (∀ W : World, Rd (W.alloc (.cells #[.int .u8 (kd : Int)] 48)) (fun _ => True) 1 (some ⟨W.heap.size, 0, none⟩) 1 [.int .u8 (kd : Int)]) := fun W => Rd.new W 1 1 [.int .u8 (kd : Int)] _ _ rfl trivial
 have HONE : Hid (∀ u ∈ [Value.int .u8 (kd : Int)], u.oneCell' = true) := fun u hu => by simp only [List.mem_singleton] at hu; subst hu; rfl
 have HQ : Hid (Quiet w ((w.alloc (.cells #[.int .u64 (t.id : Int), .string t.name, .slice (some ⟨b, off, none⟩) 1 c, .int .u64 (t.xmin : Int), .int .u64 (t.xmax : Int)] 83)).alloc (.cells #[.string nm, .int .u8 (kd : Int)] 81))) := ((Only.refl _ _).alloc _).alloc _
 have HRD2 := Lib.hid (HRD.out ((w.alloc (.cells #[.int .u64 (t.id : Int), .string t.name, .slice (some ⟨b, off, none⟩) 1 c, .int .u64 (t.xmin : Int), .int .u64 (t.xmax : Int)] 83)).alloc (.cells #[.string nm, .int .u8 (kd : Int)] 81)))
 simp only [World.size_alloc] at HRD2
 clear hr hcs h0 h1 HRD ht
 go_enter Tryz.func29, Tryz.ntmps29
 go_wp2
 refine wp_loop_rounds 2 ?_
 rw [rounds_succ]
 go_wp2_with (at_builtin; refine app elem_kind rfl (.tmp 13) (.tmp 16) rfl rfl (World.ownsRow_nil _ _ _ _) rfl HRD2.out HONE.out (by unfold maxLen; omega) (by omega) ?_)
 intro v4 w4 hg4
 have HF : Hid (FreshK w w4 v4 kd) := by
  refine ⟨(HQ.out.alloc _).trans' hg4.only (fun k hk e => by cases e), fun k e => ?_, hg4.own⟩
  rcases hg4.loc with y | y
  ·rw [y] at e; cases e
  ·rw [y] at e; injection e with e; simp only [World.size_alloc] at e; omega
 clear hg4 HRD2 HONE HQ c0 c1 l0
 go_wp2
 rw [rounds_succ]
 go_wp2
 go_ret
 exact ⟨v4, rfl, HF.out⟩
def placesH (H : List (List (Option Tup))) : Nat -> List (Int × Int)
 | 0 => []
 | k + 1 => placesH H k ++ placesTo (k : Int) (H.getD k []) (H.getD k []).length
theorem TidsW.join {w wr w4 : World} {v v' : Value} {l m : List (Int × Int)} (h : TidsW w wr v l) (hg : Grew wr w4 43 2 v v' (l.length + m.length) (tidsV l ++ tidsV m)) : TidsW w w4 v' (l ++ m) := by
 have hsz := h.quiet.size
 refine ⟨h.quiet.trans' hg.only (fun k hk e => by have := h.own k e; omega), ?_, fun k e => ?_⟩
 ·unfold TidsAt
  rw [List.length_append, tidsV_append]
  exact hg.own
 ·rcases hg.loc with x | x
  ·rw [x] at e; exact h.own k e
  ·rw [x] at e; injection e with e; omega
theorem zero_heapP (w : World) : (zeroValue 78).run Tryz.prog w = .ok (.pointer none) w := by kernel_rfl
set_option maxHeartbeats 1000000 in
theorem store_places {w : World} {sb id : Nat} {o : Nat -> Nat} {s : St} {H : List (List (Option Tup))} (h : StoreAt w sb o s) (hid : U64 id) (hH : s.hs id = some H) (hN : ∀ k, k <= H.length -> (placesH H k).length <= 1000000) :
  Calls Tryz.prog 34 #[ptrV sb, .int .u64 (id : Int)] w (ChainPost w (placesH H H.length)) := by
 obtain ⟨lb, bb, pb, mh, mt, ms, fh, ft, fs, h⟩ := h
 obtain ⟨_, _, _, c3, _⟩ := h.cells
 have lsb := cell_lt c3
 dsimp only at lsb
 obtain ⟨hb, hf, hp⟩ := h.heaps.2 id H hH
 have hlk := h.mH.lookup Tryz.underlying63 Tryz.underlying29 false (zero_heapP _) hid
 rw [hf] at hlk
 simp only [Bool.false_eq_true, if_false, Option.getD_some] at hlk
 have HP := Lib.hid hp
 have HPG := Lib.hid (heap_pages hp)
 have HNN := Lib.hid hN
 have hm : H.length <= 1000000 := by have := hp.most; omega
 obtain ⟨n, hn⟩ : ∃ n, H.length = n := ⟨_, rfl⟩
 have HLN := Lib.hid hn
 rw [hn] at HPG hm
 clear h hp hf hN hn
 go_enter Tryz.func34, Tryz.ntmps34
 go_wp2_with fail
 refine HPG.out.mono ?_
 rintro e w1 ⟨rfl, rfl⟩
 rw [HLN.out]
 go_wp2_with fail
 go_loopw [16, 5, 7] (fun i v _ wr => ∃ (k : Nat) (v' : Value), k <= n /\ i = .int .i64 (k : Int) /\ v = v' /\ TidsW w wr v' (placesH H k)) (fun i _ _ _ => n - (intOf i).toNat)
 case atStart => exact ⟨0, _, Nat.zero_le _, rfl, rfl, TidsW.start (Only.refl _ _)⟩
 case round =>
  obtain ⟨k, v', hk, rfl, rfl, hW⟩ := hrel
  have HW := Lib.hid hW
  by_cases hlt : k < n
  ·have hT : H[k]? = some (H.getD k []) := by rw [List.getD_eq_getElem?_getD, List.getElem?_eq_getElem (by rw [HLN.out]; exact hlt)]; rfl
   have HPL := Lib.hid (heap_plist k _ (HP.out.kept hW.quiet (fun _ _ x => x)) hT)
   have HS : Hid (placesH H (k + 1) = placesH H k ++ placesTo (k : Int) (H.getD k []) (H.getD k []).length) := rfl
   have hl1 := HNN.out (k + 1) (by rw [HLN.out]; omega)
   rw [HS.out, List.length_append] at hl1
   generalize placesTo (k : Int) (H.getD k []) (H.getD k []).length = m at HPL HS hl1
   clear hW hT
   go_wp2_with fail
   refine HPL.out.mono ?_
   rintro e w2 ⟨v2, rfl, hq2, hn2, ht2⟩
   obtain ⟨A2, c2, rfl, _, _, hrd⟩ := own_form ht2
   have HW2 := Lib.hid (HW.out.quietly hq2)
   have HRD := Lib.hid hrd
   clear hq2 hn2 ht2 hrd HW HPL
   go_wp2_with (at_builtin; refine app elem_tid rfl (.tmp 19) (.tmp 22) rfl rfl HW2.out.row rfl HRD.out (one_tids m) (by unfold maxLen; omega) (by omega) ?_)
   intro v4 w4 hg4
   have HST := Lib.hid (HW2.out.join hg4)
   rw [<- HS.out] at HST
   clear hg4 HW2 HRD HS
   go_wp2
   go_roundw
   case rel => exact ⟨k + 1, _, by omega, by go_num, rfl, HST.out⟩
   case measure => simp [intOf]; omega
  ·obtain rfl : k = n := by omega
   have HC : Hid (ChainPost w (placesH H H.length) (.returned u5) wr) := ⟨u5, rfl, hW.quiet, hW.own, by rw [HLN.out]; exact hW.row⟩
   clear hW HW
   go_wp2
   go_ret
   exact HC.out
end Go.Proofs.YthipgglplneijaaGreatDoor
