/- Plain facts on worlds, blocks and frames that all walks of this seat share. No condition. -/
import Derived.Test.YtbibmgcklilpmaaRows
import Derived.WalkKit
import Derived.WalkSpells
import Derived.WalkLawsBesides
import Derived.Lib.Hide
import Derived.Lib.MinMax
namespace Go.Lap
open Go.RowKit

/-- Outside the blocks of S nothing that was there has turned. -/
structure Only (S : Nat → Prop) (w w' : World) : Prop where
  os : w'.os = w.os
  tape : w'.tape = w.tape
  output : w'.output = w.output
  size : w.heap.size ≤ w'.heap.size
  block : ∀ k, k < w.heap.size → ¬ S k → w'.heap[k]? = w.heap[k]?

theorem Only.refl (S : Nat → Prop) (w : World) : Only S w w := ⟨rfl, rfl, rfl, Nat.le_refl _, fun _ _ _ => rfl⟩

theorem Only.trans {S : Nat → Prop} {a b c : World} (h : Only S a b) (k : Only S b c) : Only S a c :=
  ⟨k.os.trans h.os, k.tape.trans h.tape, k.output.trans h.output, Nat.le_trans h.size k.size, fun i hi hs => (k.block i (Nat.lt_of_lt_of_le hi h.size) hs).trans (h.block i hi hs)⟩

theorem Only.mono {S T : Nat → Prop} {a b : World} (h : Only S a b) (hs : ∀ k, k < a.heap.size → S k → T k) : Only T a b :=
  ⟨h.os, h.tape, h.output, h.size, fun i hi hn => h.block i hi (fun x => hn (hs i hi x))⟩

theorem Only.trans' {S T : Nat → Prop} {a b c : World} (h : Only S a b) (k : Only T b c) (hs : ∀ k, k < a.heap.size → T k → S k) : Only S a c :=
  ⟨k.os.trans h.os, k.tape.trans h.tape, k.output.trans h.output, Nat.le_trans h.size k.size, fun i hi hn => (k.block i (Nat.lt_of_lt_of_le hi h.size) (fun x => hn (hs i hi x))).trans (h.block i hi hn)⟩

theorem Only.drew {S : Nat → Prop} {a w : World} (h : Only S a w) : Only S a w.drew := ⟨h.os, h.tape, h.output, h.size, h.block⟩

theorem Only.drewN {S : Nat → Prop} {a w : World} (h : Only S a w) (n : Nat) : Only S a (w.drewN n) := ⟨h.os, h.tape, h.output, h.size, h.block⟩

theorem Only.alloc {S : Nat → Prop} {a w : World} (h : Only S a w) (o : Obj) : Only S a (w.alloc o) :=
  h.trans ⟨rfl, rfl, rfl, by simp, fun k hk _ => Below.heap_alloc _ _ _ hk⟩

theorem Only.setCell {S : Nat → Prop} {a w : World} (h : Only S a w) {p : Addr} (hp : p.block < a.heap.size → S p.block) (u : Value) : Only S a (w.setCell p u) :=
  h.trans' (T := fun k => k = p.block) ⟨rfl, rfl, rfl, by simp [World.setCell], fun k _ hn => Below.heap_setCell _ _ _ _ hn⟩ (fun k hk e => by subst e; exact hp hk)

theorem Only.grown {S : Nat → Prop} {a w w' : World} {row : Option Nat} (h : Only S a w) (hg : w.grownBy w' row) (hr : ∀ k, row = some k → k < a.heap.size → S k) : Only S a w' :=
  h.trans' (T := fun k => row = some k) ⟨hg.os, hg.tape, hg.output, hg.size, fun k hk hn => hg.block k hk (fun e => hn e.symm)⟩ (fun k hk e => hr k e hk)

theorem Only.below {B : Nat} {a w : World} (h : Only (fun k => B ≤ k) a w) (hB : B ≤ a.heap.size) : Below B a w :=
  ⟨h.os, h.tape, h.output, h.size, fun k hk => h.block k (by omega) (by omega)⟩

theorem Only.ofBelow {B : Nat} {a w : World} (h : Below B a w) : Only (fun k => B ≤ k) a w :=
  ⟨h.os, h.tape, h.output, h.size, fun k _ hn => h.block k (by omega)⟩

theorem Only.ofBelow' {S : Nat → Prop} {a w : World} (h : Below a.heap.size a w) : Only S a w :=
  ⟨h.os, h.tape, h.output, h.size, fun k hk _ => h.block k hk⟩

/-- Below B nothing turns where only blocks from B on are written. -/
theorem onward {B : Nat} {S : Nat → Prop} {a w w' : World} (h : Below B a w) (hB : B ≤ w.heap.size) (ho : Only S w w') (hs : ∀ k, S k → B ≤ k) : Below B a w' :=
  h.trans ⟨ho.os, ho.tape, ho.output, ho.size, fun k hk => ho.block k (by omega) (fun x => by have := hs k x; omega)⟩

/-- A block that is not written reads as it did. -/
theorem Only.get {S : Nat → Prop} {a w : World} (h : Only S a w) {b : Nat} {o : Obj} (hb : a.heap[b]? = some o) (hn : ¬ S b) : w.heap[b]? = some o := by
  have hl : b < a.heap.size := by
    rcases Nat.lt_or_ge b a.heap.size with x | x
    · exact x
    · rw [Array.getElem?_eq_none x] at hb; cases hb
  rw [h.block b hl hn]; exact hb

theorem lt_of_get {w : World} {b : Nat} {o : Obj} (hb : w.heap[b]? = some o) : b < w.heap.size := by
  rcases Nat.lt_or_ge b w.heap.size with x | x
  · exact x
  · rw [Array.getElem?_eq_none x] at hb; cases hb

theorem cell_of {w : World} {b : Nat} {c : Array Value} {t : TypeId} {fr : Nat × Nat} (h : w.heap[b]? = some (.cells c t fr)) (o : Nat) : w.cell? ⟨b, o, none⟩ = c[o]? := by
  simp [World.cell?, h]

theorem frozen_of {w : World} {b : Nat} {c : Array Value} {t : TypeId} (h : w.heap[b]? = some (.cells c t (0, 0))) (o : Nat) : w.frozen? ⟨b, o, none⟩ = false := by
  simp [World.frozen?, h]

theorem set_same {w : World} {b : Nat} {c : Array Value} {t : TypeId} {fr : Nat × Nat} (h : w.heap[b]? = some (.cells c t fr)) (o : Nat) (v : Value) :
    (w.setCell ⟨b, o, none⟩ v).heap[b]? = some (.cells (c.setIfInBounds o v) t fr) := by
  simp [World.setCell, Array.getElem?_modify, h]

theorem set_other {w : World} {b b' : Nat} {x : Obj} (h : w.heap[b]? = some x) (o : Nat) (v : Value) (hn : b ≠ b') :
    (w.setCell ⟨b', o, none⟩ v).heap[b]? = some x := by
  rw [Below.heap_setCell _ _ _ _ hn]; exact h

theorem alloc_old {w : World} {b : Nat} {x : Obj} (h : w.heap[b]? = some x) (o : Obj) : (w.alloc o).heap[b]? = some x := by
  rw [Below.heap_alloc _ _ _ (lt_of_get h)]; exact h

theorem alloc_new (w : World) (o : Obj) : (w.alloc o).heap[w.heap.size]? = some o := by
  show (w.heap.push o)[w.heap.size]? = _
  simp

theorem drew_get {w : World} (k : Nat) : w.drew.heap[k]? = w.heap[k]? := rfl

/-- A block of k cells, cell i is f i. -/
def tab (k : Nat) (f : Nat → Value) : Array Value := Array.ofFn (n := k) fun i => f i

theorem tab_size (k : Nat) (f : Nat → Value) : (tab k f).size = k := by simp [tab]

theorem tab_get {k : Nat} {f : Nat → Value} {i : Nat} (h : i < k) : (tab k f)[i]? = some (f i) := by
  simp [tab, h]

theorem tab_ext {k : Nat} {f g : Nat → Value} (h : ∀ i, i < k → f i = g i) : tab k f = tab k g := by
  unfold tab
  congr 1
  funext i
  exact h i i.isLt

theorem tab_set (k : Nat) (f : Nat → Value) (i : Nat) (v : Value) : (tab k f).setIfInBounds i v = tab k (fun j => if j = i then v else f j) := by
  apply Array.ext
  · simp [tab]
  · intro j h1 h2
    simp only [tab, Array.size_setIfInBounds, Array.size_ofFn] at h1 h2 ⊢
    rw [Array.getElem_setIfInBounds (by simpa using h1)]
    by_cases e : i = j
    · subst e; simp
    · have e' : ¬ j = i := fun x => e x.symm
      simp [e, e']

theorem tab_of {c : Array Value} {k : Nat} {f : Nat → Value} (hk : c.size = k) (h : ∀ i, i < k → c[i]? = some (f i)) : c = tab k f := by
  apply Array.ext
  · rw [hk, tab_size]
  · intro j h1 h2
    have h3 := h j (by omega)
    have h4 := tab_get (f := f) (show j < k by omega)
    rw [Array.getElem?_eq_getElem h1] at h3
    rw [Array.getElem?_eq_getElem h2] at h4
    have h5 := h3.trans h4.symm
    exact Option.some.inj h5

/-- One place of a function is another value. -/
def upd {α : Type} (f : Nat → α) (i : Nat) (v : α) : Nat → α := fun j => if j = i then v else f j

theorem upd_same {α : Type} (f : Nat → α) (i : Nat) (v : α) : upd f i v i = v := by simp [upd]

theorem upd_other {α : Type} (f : Nat → α) {i j : Nat} (v : α) (h : j ≠ i) : upd f i v j = f j := by simp [upd, h]

end Go.Lap
