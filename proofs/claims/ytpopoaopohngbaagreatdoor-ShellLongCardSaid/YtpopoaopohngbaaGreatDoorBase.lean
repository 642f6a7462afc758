/- Plain facts on worlds, blocks and frames that all walks of this seat share. No condition. -/
import Derived.Test.YtpopoaopohngbaaGreatDoorProg
import Derived.WalkKit
import Derived.WalkSpells
import Derived.WalkLawsBesides
import Derived.Lib.Hide
import Derived.Lib.MinMax
import Derived.OwnWalk
import Derived.Laws.AppendOwnNone
import Derived.Maps.AppendAt
import Derived.RegionTactic
namespace Go.Lap
open Go.RowKit

/-- Outside the blocks of S nothing that was there has turned. -/
structure Only (S : Nat → Prop) (w w' : World) : Prop where
  os : w'.os = w.os
  tape : w'.tape = w.tape
  output : w'.output = w.output
  size : w.heap.size ≤ w'.heap.size
  block : ∀ k, k < w.heap.size → ¬ S k → w'.heap[k]? = w.heap[k]?

theorem Only.refl (S : Nat → Prop) (w : World) : Only S w w := ⟨rfl, rfl, rfl, Nat.le_refl _, fun _ _ _ => rfl⟩

theorem Only.trans {S : Nat → Prop} {a b c : World} (h : Only S a b) (k : Only S b c) : Only S a c :=
  ⟨k.os.trans h.os, k.tape.trans h.tape, k.output.trans h.output, Nat.le_trans h.size k.size, fun i hi hs => (k.block i (Nat.lt_of_lt_of_le hi h.size) hs).trans (h.block i hi hs)⟩

theorem Only.mono {S T : Nat → Prop} {a b : World} (h : Only S a b) (hs : ∀ k, k < a.heap.size → S k → T k) : Only T a b :=
  ⟨h.os, h.tape, h.output, h.size, fun i hi hn => h.block i hi (fun x => hn (hs i hi x))⟩

theorem Only.trans' {S T : Nat → Prop} {a b c : World} (h : Only S a b) (k : Only T b c) (hs : ∀ k, k < a.heap.size → T k → S k) : Only S a c :=
  ⟨k.os.trans h.os, k.tape.trans h.tape, k.output.trans h.output, Nat.le_trans h.size k.size, fun i hi hn => (k.block i (Nat.lt_of_lt_of_le hi h.size) (fun x => hn (hs i hi x))).trans (h.block i hi hn)⟩

theorem Only.drew {S : Nat → Prop} {a w : World} (h : Only S a w) : Only S a w.drew := ⟨h.os, h.tape, h.output, h.size, h.block⟩

theorem Only.drewN {S : Nat → Prop} {a w : World} (h : Only S a w) (n : Nat) : Only S a (w.drewN n) := ⟨h.os, h.tape, h.output, h.size, h.block⟩

theorem Only.alloc {S : Nat → Prop} {a w : World} (h : Only S a w) (o : Obj) : Only S a (w.alloc o) :=
  h.trans ⟨rfl, rfl, rfl, by simp, fun k hk _ => Below.heap_alloc _ _ _ hk⟩

theorem Only.setCell {S : Nat → Prop} {a w : World} (h : Only S a w) {p : Addr} (hp : p.block < a.heap.size → S p.block) (u : Value) : Only S a (w.setCell p u) :=
  h.trans' (T := fun k => k = p.block) ⟨rfl, rfl, rfl, by simp [World.setCell], fun k _ hn => Below.heap_setCell _ _ _ _ hn⟩ (fun k hk e => by subst e; exact hp hk)

theorem Only.grown {S : Nat → Prop} {a w w' : World} {row : Option Nat} (h : Only S a w) (hg : w.grownBy w' row) (hr : ∀ k, row = some k → k < a.heap.size → S k) : Only S a w' :=
  h.trans' (T := fun k => row = some k) ⟨hg.os, hg.tape, hg.output, hg.size, fun k hk hn => hg.block k hk (fun e => hn e.symm)⟩ (fun k hk e => hr k e hk)

theorem Only.byMap {S : Nat → Prop} {a w w' : World} {b : Nat} (h : Only S a w) (hg : w.grownBy w' (some b)) (hb : b < a.heap.size → S b) : Only S a w' :=
  h.grown hg (fun k e hk => by injection e with e; subst e; exact hb hk)

theorem Only.below {B : Nat} {a w : World} (h : Only (fun k => B ≤ k) a w) (hB : B ≤ a.heap.size) : Below B a w :=
  ⟨h.os, h.tape, h.output, h.size, fun k hk => h.block k (by omega) (by omega)⟩

theorem Only.ofBelow {B : Nat} {a w : World} (h : Below B a w) : Only (fun k => B ≤ k) a w :=
  ⟨h.os, h.tape, h.output, h.size, fun k _ hn => h.block k (by omega)⟩

theorem Only.ofBelow' {S : Nat → Prop} {a w : World} (h : Below a.heap.size a w) : Only S a w :=
  ⟨h.os, h.tape, h.output, h.size, fun k hk _ => h.block k hk⟩

/-- Below B nothing turns where only blocks from B on are written. -/
theorem onward {B : Nat} {S : Nat → Prop} {a w w' : World} (h : Below B a w) (hB : B ≤ w.heap.size) (ho : Only S w w') (hs : ∀ k, S k → B ≤ k) : Below B a w' :=
  h.trans ⟨ho.os, ho.tape, ho.output, ho.size, fun k hk => ho.block k (by omega) (fun x => by have := hs k x; omega)⟩

/-- A block that is not written reads as it did. -/
theorem Only.get {S : Nat → Prop} {a w : World} (h : Only S a w) {b : Nat} {o : Obj} (hb : a.heap[b]? = some o) (hn : ¬ S b) : w.heap[b]? = some o := by
  have hl : b < a.heap.size := by
    rcases Nat.lt_or_ge b a.heap.size with x | x
    · exact x
    · rw [Array.getElem?_eq_none x] at hb; cases hb
  rw [h.block b hl hn]; exact hb

theorem lt_of_get {w : World} {b : Nat} {o : Obj} (hb : w.heap[b]? = some o) : b < w.heap.size := by
  rcases Nat.lt_or_ge b w.heap.size with x | x
  · exact x
  · rw [Array.getElem?_eq_none x] at hb; cases hb

theorem cell_of {w : World} {b : Nat} {c : Array Value} {t : TypeId} {fr : Nat × Nat} (h : w.heap[b]? = some (.cells c t fr)) (o : Nat) : w.cell? ⟨b, o, none⟩ = c[o]? := by
  simp [World.cell?, h]

theorem frozen_of {w : World} {b : Nat} {c : Array Value} {t : TypeId} (h : w.heap[b]? = some (.cells c t (0, 0))) (o : Nat) : w.frozen? ⟨b, o, none⟩ = false := by
  simp [World.frozen?, h]

theorem set_same {w : World} {b : Nat} {c : Array Value} {t : TypeId} {fr : Nat × Nat} (h : w.heap[b]? = some (.cells c t fr)) (o : Nat) (v : Value) :
    (w.setCell ⟨b, o, none⟩ v).heap[b]? = some (.cells (c.setIfInBounds o v) t fr) := by
  simp [World.setCell, Array.getElem?_modify, h]

theorem set_other {w : World} {b b' : Nat} {x : Obj} (h : w.heap[b]? = some x) (o : Nat) (v : Value) (hn : b ≠ b') :
    (w.setCell ⟨b', o, none⟩ v).heap[b]? = some x := by
  rw [Below.heap_setCell _ _ _ _ hn]; exact h

theorem alloc_old {w : World} {b : Nat} {x : Obj} (h : w.heap[b]? = some x) (o : Obj) : (w.alloc o).heap[b]? = some x := by
  rw [Below.heap_alloc _ _ _ (lt_of_get h)]; exact h

theorem alloc_new (w : World) (o : Obj) : (w.alloc o).heap[w.heap.size]? = some o := by
  show (w.heap.push o)[w.heap.size]? = _
  simp

theorem drew_get {w : World} (k : Nat) : w.drew.heap[k]? = w.heap[k]? := rfl

/-- A block of k cells, cell i is f i. -/
def tab (k : Nat) (f : Nat → Value) : Array Value := Array.ofFn (n := k) fun i => f i

theorem tab_size (k : Nat) (f : Nat → Value) : (tab k f).size = k := by simp [tab]

theorem tab_get {k : Nat} {f : Nat → Value} {i : Nat} (h : i < k) : (tab k f)[i]? = some (f i) := by
  simp [tab, h]

theorem tab_ext {k : Nat} {f g : Nat → Value} (h : ∀ i, i < k → f i = g i) : tab k f = tab k g := by
  unfold tab
  congr 1
  funext i
  exact h i i.isLt

theorem tab_set (k : Nat) (f : Nat → Value) (i : Nat) (v : Value) : (tab k f).setIfInBounds i v = tab k (fun j => if j = i then v else f j) := by
  apply Array.ext
  · simp [tab]
  · intro j h1 h2
    simp only [tab, Array.size_setIfInBounds, Array.size_ofFn] at h1 h2 ⊢
    rw [Array.getElem_setIfInBounds (by simpa using h1)]
    by_cases e : i = j
    · subst e; simp
    · have e' : ¬ j = i := fun x => e x.symm
      simp [e, e']

theorem tab_of {c : Array Value} {k : Nat} {f : Nat → Value} (hk : c.size = k) (h : ∀ i, i < k → c[i]? = some (f i)) : c = tab k f := by
  apply Array.ext
  · rw [hk, tab_size]
  · intro j h1 h2
    have h3 := h j (by omega)
    have h4 := tab_get (f := f) (show j < k by omega)
    rw [Array.getElem?_eq_getElem h1] at h3
    rw [Array.getElem?_eq_getElem h2] at h4
    have h5 := h3.trans h4.symm
    exact Option.some.inj h5

/-- All that the laws on append ask of a slice's type. -/
structure Elem (P : Program) (t e : TypeId) (size bytes : Nat) : Prop where
  ex : ∃ i z, P.underlying t = some (.slice e) ∧ P.info? e = some i ∧ i.zero = some z ∧ i.size = size ∧ i.bytes = bytes ∧ z.cells.size = size ∧ 0 < size

theorem Elem.mk' {P : Program} {t e : TypeId} {size bytes : Nat} (z : Value) (ht : P.underlying t = some (.slice e)) (hi : (P.info? e).map (fun i => (i.zero, i.size, i.bytes)) = some (some z, size, bytes))
    (hz : z.cells.size = size) (hs : 0 < size) : Elem P t e size bytes := by
  obtain ⟨i, hi, h0, h1, h2⟩ := info_parts hi
  exact ⟨i, z, ht, hi, h0, h1, h2, hz, hs⟩

/-- A slice of n elements whose cells are xs; it lies in a block of S (where there is an element). -/
structure Rd (w : World) (S : Nat → Prop) (size : Nat) (A : Option Addr) (n : Nat) (xs : List Value) : Prop where
  len : xs.length = n * size
  cells : 0 < xs.length → ∃ b off, A = some ⟨b, off, none⟩ ∧ S b ∧ ∀ j u, xs[j]? = some u → w.cell? ⟨b, off + j, none⟩ = some u

theorem add_none (b off j : Nat) : (⟨b, off, none⟩ : Addr).add j = ⟨b, off + j, none⟩ := by
  unfold Addr.add
  split
  · subst_vars; rfl
  · rfl

theorem cell_lt {w : World} {p : Addr} {u : Value} (h : w.cell? p = some u) : p.block < w.heap.size := by
  rcases Nat.lt_or_ge p.block w.heap.size with x | x
  · exact x
  · simp [World.cell?, Array.getElem?_eq_none x] at h

theorem Only.cell {S : Nat → Prop} {a w : World} (h : Only S a w) {p : Addr} {u : Value} (hc : a.cell? p = some u) (hn : ¬ S p.block) : w.cell? p = some u := by
  rw [World.cell?_of_block (h.block p.block (cell_lt hc) hn)]; exact hc

theorem Rd.kept {w w' : World} {S T : Nat → Prop} {size n : Nat} {A : Option Addr} {xs : List Value} (h : Rd w S size A n xs) (ho : Only T w w') (hs : ∀ k, S k → ¬ T k) : Rd w' S size A n xs :=
  ⟨h.len, fun hn => by
    obtain ⟨b, off, e, hb, hc⟩ := h.cells hn
    exact ⟨b, off, e, hb, fun j u hu => ho.cell (hc j u hu) (hs _ hb)⟩⟩

theorem Rd.mono {w : World} {S T : Nat → Prop} {size n : Nat} {A : Option Addr} {xs : List Value} (h : Rd w S size A n xs) (hs : ∀ k, S k → T k) : Rd w T size A n xs :=
  ⟨h.len, fun hn => by
    obtain ⟨b, off, e, hb, hc⟩ := h.cells hn
    exact ⟨b, off, e, hs _ hb, hc⟩⟩

theorem Rd.nil (w : World) (S : Nat → Prop) (size : Nat) (A : Option Addr) : Rd w S size A 0 [] := ⟨by simp, fun h => absurd h (by simp)⟩

/-- The element at k, of one cell. -/
theorem Rd.get {w : World} {S : Nat → Prop} {n k : Nat} {A : Option Addr} {xs : List Value} (h : Rd w S 1 A n xs) (hk : k < n) : ∃ b off u, A = some ⟨b, off, none⟩ ∧ S b ∧ xs[k]? = some u ∧ w.cell? ⟨b, off + k, none⟩ = some u := by
  have hl : k < xs.length := by have := h.len; omega
  obtain ⟨b, off, e, hb, hc⟩ := h.cells (by omega)
  exact ⟨b, off, xs[k], e, hb, List.getElem?_eq_getElem hl, hc k _ (List.getElem?_eq_getElem hl)⟩

/-- The element at k, of several cells. -/
theorem Rd.at_ {w : World} {S : Nat → Prop} {size n k : Nat} {A : Option Addr} {xs : List Value} (h : Rd w S size A n xs) (hk : k < n) (hs : 0 < size) : ∃ b off, A = some ⟨b, off, none⟩ ∧ S b ∧ ∀ f, f < size → ∃ u, xs[k * size + f]? = some u ∧ w.cell? ⟨b, off + (k * size + f), none⟩ = some u := by
  have hm : (k + 1) * size ≤ n * size := Nat.mul_le_mul_right _ hk
  rw [Nat.add_mul, Nat.one_mul] at hm
  have hl := h.len
  obtain ⟨b, off, e, hb, hc⟩ := h.cells (by omega)
  refine ⟨b, off, e, hb, fun f hf => ?_⟩
  have hlt : k * size + f < xs.length := by omega
  exact ⟨xs[k * size + f], List.getElem?_eq_getElem hlt, hc _ _ (List.getElem?_eq_getElem hlt)⟩

/-- An owned row reads. -/
theorem own_form {w : World} {e : TypeId} {size : Nat} {v : Value} {n : Nat} {xs : List Value} (h : w.ownsRow 0 e size v n xs) :
    ∃ A c, v = .slice A n c ∧ n ≤ c ∧ c ≤ maxLen ∧ Rd w (fun k => v.ownBlock = some k) size A n xs := by
  rcases h.2 with ⟨rfl, rfl⟩ | ⟨g, cap, cur, rfl, hg, hh, r1, r2, _⟩
  · have hx : xs = [] := List.eq_nil_of_length_eq_zero (by simpa using h.1)
    subst hx
    exact ⟨none, 0, rfl, Nat.le_refl _, Nat.zero_le _, Rd.nil _ _ _ _⟩
  · exact ⟨_, cap, rfl, r1, r2, h.1, fun _ => ⟨g, 0, rfl, rfl, fun j u hu => by rw [← add_none]; exact h.cells rfl j u hu⟩⟩

theorem run_app_nil {P : Program} (w : World) (t ty e : TypeId) (i : TypeInfo) (size : Nat) (ht : P.underlying t = some (.slice e)) (hi : P.info? e = some i)
    (v : Value) (n : Nat) (xs : List Value) (hown : w.ownsRow 0 e size v n xs) (c : Nat) : (Builtin.append_ #[t, t] ty #[v, .slice none 0 c]).run P w = .ok v w := by
  rcases hown.2 with ⟨rfl, rfl⟩ | ⟨g, cap, cur, rfl, _, _, hnc, _⟩
  · simp [Builtin.append_, run_underlying ht, sizeOf, typeInfo, hi, Builtin.lenOf, Builtin.firstCells]
  · simp [Builtin.append_, run_underlying ht, sizeOf, typeInfo, hi, Builtin.lenOf, Builtin.firstCells, hnc, storeCells]

/-- What an append leaves: the row, and where it lies. -/
structure Grew (w w' : World) (e : TypeId) (size : Nat) (v v' : Value) (n : Nat) (xs : List Value) : Prop where
  own : w'.ownsRow 0 e size v' n xs
  only : Only (fun k => v.ownBlock = some k) w w'
  loc : v'.ownBlock = v.ownBlock ∨ v'.ownBlock = some w.heap.size

theorem run_app {P : Program} (w : World) {t e : TypeId} {size bytes : Nat} (E : Elem P t e size bytes) (ty : TypeId)
    {v : Value} {n : Nat} {xs : List Value} (hown : w.ownsRow 0 e size v n xs)
    {S : Nat → Prop} {A : Option Addr} {m c : Nat} {news : List Value} (hr : Rd w S size A m news) (h1 : ∀ u ∈ news, u.oneCell' = true)
    (h63 : n + m ≤ maxLen) (hbytes : (n + m) * bytes ≤ 140737488355328) :
    ∃ v' w', (Builtin.append_ #[t, t] ty #[v, .slice A m c]).run P w = .ok v' w' ∧ Grew w w' e size v v' (n + m) (xs ++ news) := by
  obtain ⟨i, z, ht, hi, h0, h1', h2, hz, hsz⟩ := E
  by_cases hne : 0 < news.length
  · obtain ⟨b, off, rfl, _, hc⟩ := hr.cells hne
    obtain ⟨v', w', hrun, h2, h3, _, h5⟩ := run_append_own_at (P := P) w 0 t ty e i z size bytes ht hi h0 h1' h2 hz hsz v n xs hown ⟨b, off, none⟩ m c news hr.len (fun j u hu => by rw [add_none]; exact hc j u hu) h1 h63 hbytes (Nat.zero_le _)
    exact ⟨v', w', hrun, h2, (Only.refl _ _).grown h3 (fun k e _ => e), h5⟩
  · have hn : news = [] := List.eq_nil_of_length_eq_zero (by omega)
    subst hn
    have hm : m = 0 := by
      have := hr.len
      simp only [List.length_nil] at this
      rcases Nat.mul_eq_zero.1 this.symm with x | x
      · exact x
      · omega
    subst hm
    rcases A with _ | ad
    · exact ⟨v, w, run_app_nil w t ty e i size ht hi v n xs hown c, by simpa using hown, Only.refl _ _, .inl rfl⟩
    · obtain ⟨v', w', hrun, h2, h3, _, h5⟩ := run_append_own_at (P := P) w 0 t ty e i z size bytes ht hi h0 h1' h2 hz hsz v n xs hown ad 0 c [] (by simp) (fun j u hu => by simp at hu) h1 h63 hbytes (Nat.zero_le _)
      exact ⟨v', w', hrun, h2, (Only.refl _ _).grown h3 (fun k e _ => e), h5⟩

theorem wp_app {P : Program} {w : World} {t e : TypeId} {size bytes : Nat} (E : Elem P t e size bytes) {o : Oper} {a : Act} {K : Act → World → Prop} {Q : Exit → Act → World → Prop} (s x : Operand)
    (ho : o.op = .call { callee := .builtin .append, args := #[s, x], argTypes := #[t, t] })
    {v : Value} {n : Nat} {xs : List Value} (hs : a.eval s = v) (hown : w.ownsRow 0 e size v n xs)
    {S : Nat → Prop} {A : Option Addr} {m c : Nat} {news : List Value} (hx : a.eval x = .slice A m c) (hr : Rd w S size A m news) (h1 : ∀ u ∈ news, u.oneCell' = true)
    (h63 : n + m ≤ maxLen) (hbytes : (n + m) * bytes ≤ 140737488355328)
    (h : ∀ v' w', Grew w w' e size v v' (n + m) (xs ++ news) → K (a.put o.dst v') w') : o.wp P a w K Q := by
  obtain ⟨v', w', hrun, h2⟩ := run_app (P := P) w E o.type hown hr (c := c) h1 h63 hbytes
  unfold Oper.wp execOp
  simp only [ho, resolve, invoke, builtin, Sem.run_bind, Sem.run_pure, Result.andThen_ok, List.map_toArray, List.map_cons, List.map_nil, hs, hx, hrun]
  exact h v' w' h2

/-- Append to an owned row: a law for a walk. -/
theorem app {P : Program} {w : World} {t e : TypeId} {size bytes : Nat} (E : Elem P t e size bytes) {ops : Array Oper} {rest : List Oper} {o : Oper} {a : Act} {Q : Exit → Act → World → Prop} (hgd : o.guard = none) (s x : Operand)
    (ho : o.op = .call { callee := .builtin .append, args := #[s, x], argTypes := #[t, t] })
    {v : Value} {n : Nat} {xs : List Value} (hs : a.eval s = v) (hown : w.ownsRow 0 e size v n xs)
    {S : Nat → Prop} {A : Option Addr} {m c : Nat} {news : List Value} (hx : a.eval x = .slice A m c) (hr : Rd w S size A m news) (h1 : ∀ u ∈ news, u.oneCell' = true)
    (h63 : n + m ≤ maxLen) (hbytes : (n + m) * bytes ≤ 140737488355328)
    (h : ∀ v' w', Grew w w' e size v v' (n + m) (xs ++ news) → wpList P ops Q rest (a.put o.dst v') w') : wpList P ops Q (o :: rest) a w :=
  wpList_plain hgd fun _ hK => wp_app E s x ho hs hown hx hr h1 h63 hbytes fun v' w' h2 => hK _ _ (h v' w' h2)

/-- The same inside a region that draws its order. -/
theorem app_step {P : Program} {w : World} {t e : TypeId} {size bytes : Nat} (E : Elem P t e size bytes) {ops : Array Oper} {o : Oper} {a : Act} {K : Act → World → Prop} {Q : Exit → Act → World → Prop} {F : Prop} (hgd : o.guard = none) (s x : Operand)
    (ho : o.op = .call { callee := .builtin .append, args := #[s, x], argTypes := #[t, t] })
    {v : Value} {n : Nat} {xs : List Value} (hs : a.eval s = v) (hown : w.ownsRow 0 e size v n xs)
    {S : Nat → Prop} {A : Option Addr} {m c : Nat} {news : List Value} (hx : a.eval x = .slice A m c) (hr : Rd w S size A m news) (h1 : ∀ u ∈ news, u.oneCell' = true)
    (h63 : n + m ≤ maxLen) (hbytes : (n + m) * bytes ≤ 140737488355328)
    (h : ∀ v' w', Grew w w' e size v v' (n + m) (xs ++ news) → K (a.put o.dst v') w') :
    if Region.wanted o (yielded ops a.tmps) = true then Oper.wp P o a w K Q else F := by
  have hw : Region.wanted o (yielded ops a.tmps) = true := by simp [Region.wanted, hgd]
  rw [if_pos hw]
  exact wp_app E s x ho hs hown hx hr h1 h63 hbytes h

/-- A block that was just laid reads whole. -/
theorem Rd.new (w : World) (size m : Nat) (xs : List Value) (e : TypeId) (S : Nat → Prop) (hl : xs.length = m * size) (hS : S w.heap.size) : Rd (w.alloc (.cells xs.toArray e)) S size (some ⟨w.heap.size, 0, none⟩) m xs := by
  refine ⟨hl, fun _ => ⟨w.heap.size, 0, rfl, hS, fun j u hu => ?_⟩⟩
  rw [cell_of (alloc_new w _)]
  simpa using hu

/-- '[]T{}'. -/
theorem owns_empty (w : World) (e : TypeId) (size : Nat) : (w.alloc (.cells #[] e)).ownsRow 0 e size (.slice (some ⟨w.heap.size, 0, none⟩) 0 0) 0 [] :=
  World.ownsRow_made w #[] 0 (Nat.zero_le _) (Nat.zero_le _) (by simp)

theorem one_int {k : IntKind} {l : List Int} : ∀ u ∈ l.map (Value.int k), u.oneCell' = true := by
  intro u hu
  obtain ⟨n, _, rfl⟩ := List.mem_map.1 hu
  rfl

theorem owns_mono {w : World} {base base' : Nat} {e : TypeId} {size : Nat} {v : Value} {n : Nat} {xs : List Value} (h : w.ownsRow base e size v n xs) (hb : base' ≤ base) : w.ownsRow base' e size v n xs := by
  obtain ⟨h1, h2⟩ := h
  refine ⟨h1, ?_⟩
  rcases h2 with h2 | ⟨g, cap, cur, hv, hg, r⟩
  · exact Or.inl h2
  · exact Or.inr ⟨g, cap, cur, hv, Nat.le_trans hb hg, r⟩

theorem owns_kept {S : Nat → Prop} {w w' : World} {base : Nat} {e : TypeId} {size : Nat} {v : Value} {n : Nat} {xs : List Value} (h : w.ownsRow base e size v n xs) (ho : Only S w w')
    (hn : ∀ k, v.ownBlock = some k → ¬ S k) : w'.ownsRow base e size v n xs := by
  obtain ⟨h1, h2⟩ := h
  refine ⟨h1, ?_⟩
  rcases h2 with h2 | ⟨g, cap, cur, hv, hg, hh, r⟩
  · exact Or.inl h2
  · exact Or.inr ⟨g, cap, cur, hv, hg, ho.get hh (hn g (by rw [hv]; rfl)), r⟩

/-- An owned row is nil, or lies in a block. -/
theorem owns_cases {w : World} {base : Nat} {e : TypeId} {size : Nat} {v : Value} {n : Nat} {xs : List Value} (h : w.ownsRow base e size v n xs) :
    (v = .slice none 0 0 ∧ n = 0) ∨ ∃ g cap, v = .slice (some ⟨g, 0, none⟩) n cap ∧ n ≤ cap ∧ cap ≤ maxLen := by
  rcases h.2 with ⟨a, b⟩ | ⟨g, cap, cur, hv, hg, hh, r1, r2, _⟩
  · exact Or.inl ⟨a, b⟩
  · exact Or.inr ⟨g, cap, hv, r1, r2⟩

theorem quiet_left {P : Program} {f : FuncId} {args : Array Value} {w : World} {n : Nat} {v : Value}
    (h : Calls P f args (w.drewN n) fun e w' => e = .returned v ∧ w.drewN n = w') : Calls P f args (w.drewN n) fun e w'' => e = .returned v ∧ ∃ m, w'' = w.drewN m :=
  h.mono fun _ _ ⟨he, hm⟩ => ⟨he, n, hm.symm⟩

theorem quiet_add_left {P : Program} {f : FuncId} {args : Array Value} {w : World} {a n : Nat} {v : Value}
    (h : Calls P f args (w.drewN (a + n)) fun e w' => e = .returned v ∧ w.drewN (a + n) = w') :
    Calls P f args (w.drewN (a + n)) fun e w'' => e = .returned v ∧ ∃ m, w'' = w.drewN (a + m) :=
  h.mono fun _ _ ⟨he, hm⟩ => ⟨he, n, hm.symm⟩

/-- One place of a function is another value. -/
def upd {α : Type} (f : Nat → α) (i : Nat) (v : α) : Nat → α := fun j => if j = i then v else f j

theorem upd_same {α : Type} (f : Nat → α) (i : Nat) (v : α) : upd f i v i = v := by simp [upd]

theorem upd_other {α : Type} (f : Nat → α) {i j : Nat} (v : α) (h : j ≠ i) : upd f i v j = f j := by simp [upd, h]

end Go.Lap
