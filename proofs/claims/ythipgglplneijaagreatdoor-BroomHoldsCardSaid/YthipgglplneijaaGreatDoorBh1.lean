/- Plain facts on worlds, blocks and frames that all walks of this seat share. A region that draws its order and whose last operation waits for all others: the others first, then the last one. The contracts on slices of bytes: bytes.Clone, and the references' Copy, Cut, Same. The plain facts on pages: numbers of bytes, versions, slots. The plain facts on pages, more: a version that is stamped, freed; all that are moved. The contracts of package page's inner functions on bytes: num, put, count, start, set, at, point, New. No condition. -/
import Derived.Test.YthipgglplneijaaGreatDoorProg
import Derived.WalkKit
import Derived.WalkSpells
import Derived.WalkLawsBesides
import Derived.Lib.Hide
import Derived.Lib.MinMax
import Derived.OwnWalk
import Derived.Laws.AppendOwnNone
import Derived.Maps.AppendAt
import Derived.RegionTactic
import Derived.Deep.RegionHeld3
import Derived.BigRegion
import Derived.BigQuiet
import Derived.Deep.QuietTactic
import Derived.Deep.LoopGhost
import Derived.Deep.RegionWith
import Derived.Deep.DeepCutAuto
import Derived.Outline
import Derived.Laws.CopyRow
import Derived.Lib.SliceRun
import Derived.Laws.Externs
import Derived.Laws.IdiomStrings
import Derived.Lib.BufferRead
import Derived.Lib.Strings
import Derived.Laws.BitsAllLaws
import Derived.Lib.SlBytesConst
import Derived.Deep.RegionHeld
set_option maxRecDepth 100000
namespace Go.Lap
open Go.RowKit
structure Only (S : Nat -> Prop) (w w' : World) : Prop where
 os : w'.os = w.os
 tape : w'.tape = w.tape
 output : w'.output = w.output
 size : w.heap.size <= w'.heap.size
 block : ∀ k, k < w.heap.size -> ¬ S k -> w'.heap[k]? = w.heap[k]?
theorem Only.refl (S : Nat -> Prop) (w : World) : Only S w w := ⟨rfl, rfl, rfl, Nat.le_refl _, fun _ _ _ => rfl⟩
theorem Only.trans {S : Nat -> Prop} {a b c : World} (h : Only S a b) (k : Only S b c) : Only S a c :=
 ⟨k.os.trans h.os, k.tape.trans h.tape, k.output.trans h.output, Nat.le_trans h.size k.size, fun i hi hs => (k.block i (Nat.lt_of_lt_of_le hi h.size) hs).trans (h.block i hi hs)⟩
theorem Only.mono {S T : Nat -> Prop} {a b : World} (h : Only S a b) (hs : ∀ k, k < a.heap.size -> S k -> T k) : Only T a b :=
 ⟨h.os, h.tape, h.output, h.size, fun i hi hn => h.block i hi (fun x => hn (hs i hi x))⟩
theorem Only.trans' {S T : Nat -> Prop} {a b c : World} (h : Only S a b) (k : Only T b c) (hs : ∀ k, k < a.heap.size -> T k -> S k) : Only S a c :=
 ⟨k.os.trans h.os, k.tape.trans h.tape, k.output.trans h.output, Nat.le_trans h.size k.size, fun i hi hn => (k.block i (Nat.lt_of_lt_of_le hi h.size) (fun x => hn (hs i hi x))).trans (h.block i hi hn)⟩
theorem Only.drew {S : Nat -> Prop} {a w : World} (h : Only S a w) : Only S a w.drew := ⟨h.os, h.tape, h.output, h.size, h.block⟩
theorem Only.drewN {S : Nat -> Prop} {a w : World} (h : Only S a w) (n : Nat) : Only S a (w.drewN n) := ⟨h.os, h.tape, h.output, h.size, h.block⟩
theorem Only.alloc {S : Nat -> Prop} {a w : World} (h : Only S a w) (o : Obj) : Only S a (w.alloc o) :=
 h.trans ⟨rfl, rfl, rfl, by simp, fun k hk _ => Below.heap_alloc _ _ _ hk⟩
theorem Only.setCell {S : Nat -> Prop} {a w : World} (h : Only S a w) {p : Addr} (hp : p.block < a.heap.size -> S p.block) (u : Value) : Only S a (w.setCell p u) :=
 h.trans' (T := fun k => k = p.block) ⟨rfl, rfl, rfl, by simp [World.setCell], fun k _ hn => Below.heap_setCell _ _ _ _ hn⟩ (fun k hk e => by subst e; exact hp hk)
theorem Only.grown {S : Nat -> Prop} {a w w' : World} {row : Option Nat} (h : Only S a w) (hg : w.grownBy w' row) (hr : ∀ k, row = some k -> k < a.heap.size -> S k) : Only S a w' :=
 h.trans' (T := fun k => row = some k) ⟨hg.os, hg.tape, hg.output, hg.size, fun k hk hn => hg.block k hk (fun e => hn e.symm)⟩ (fun k hk e => hr k e hk)
theorem Only.byMap {S : Nat -> Prop} {a w w' : World} {b : Nat} (h : Only S a w) (hg : w.grownBy w' (some b)) (hb : b < a.heap.size -> S b) : Only S a w' :=
 h.grown hg (fun k e hk => by injection e with e; subst e; exact hb hk)
theorem Only.ofBelow' {S : Nat -> Prop} {a w : World} (h : Below a.heap.size a w) : Only S a w :=
 ⟨h.os, h.tape, h.output, h.size, fun k hk _ => h.block k hk⟩
theorem Only.get {S : Nat -> Prop} {a w : World} (h : Only S a w) {b : Nat} {o : Obj} (hb : a.heap[b]? = some o) (hn : ¬ S b) : w.heap[b]? = some o := by
 have hl : b < a.heap.size := by
  rcases Nat.lt_or_ge b a.heap.size with x | x
  ·exact x
  ·rw [Array.getElem?_eq_none x] at hb; cases hb
 rw [h.block b hl hn]; exact hb
theorem lt_of_get {w : World} {b : Nat} {o : Obj} (hb : w.heap[b]? = some o) : b < w.heap.size := by
 rcases Nat.lt_or_ge b w.heap.size with x | x
 ·exact x
 ·rw [Array.getElem?_eq_none x] at hb; cases hb
theorem cell_of {w : World} {b : Nat} {c : Array Value} {t : TypeId} {fr : Nat × Nat} (h : w.heap[b]? = some (.cells c t fr)) (o : Nat) : w.cell? ⟨b, o, none⟩ = c[o]? := by
 simp [World.cell?, h]
theorem frozen_of {w : World} {b : Nat} {c : Array Value} {t : TypeId} (h : w.heap[b]? = some (.cells c t (0, 0))) (o : Nat) : w.frozen? ⟨b, o, none⟩ = false := by
 simp [World.frozen?, h]
theorem set_same {w : World} {b : Nat} {c : Array Value} {t : TypeId} {fr : Nat × Nat} (h : w.heap[b]? = some (.cells c t fr)) (o : Nat) (v : Value) :
  (w.setCell ⟨b, o, none⟩ v).heap[b]? = some (.cells (c.setIfInBounds o v) t fr) := by
 simp [World.setCell, Array.getElem?_modify, h]
theorem set_other {w : World} {b b' : Nat} {x : Obj} (h : w.heap[b]? = some x) (o : Nat) (v : Value) (hn : b ≠ b') :
  (w.setCell ⟨b', o, none⟩ v).heap[b]? = some x := by
 rw [Below.heap_setCell _ _ _ _ hn]; exact h
theorem alloc_old {w : World} {b : Nat} {x : Obj} (h : w.heap[b]? = some x) (o : Obj) : (w.alloc o).heap[b]? = some x := by
 rw [Below.heap_alloc _ _ _ (lt_of_get h)]; exact h
theorem alloc_new (w : World) (o : Obj) : (w.alloc o).heap[w.heap.size]? = some o := by
 show (w.heap.push o)[w.heap.size]? = _
 simp
def tab (k : Nat) (f : Nat -> Value) : Array Value := Array.ofFn (n := k) fun i => f i
theorem tab_size (k : Nat) (f : Nat -> Value) : (tab k f).size = k := by simp [tab]
theorem tab_get {k : Nat} {f : Nat -> Value} {i : Nat} (h : i < k) : (tab k f)[i]? = some (f i) := by
 simp [tab, h]
theorem tab_ext {k : Nat} {f g : Nat -> Value} (h : ∀ i, i < k -> f i = g i) : tab k f = tab k g := by
 unfold tab
 congr 1
 funext i
 exact h i i.isLt
theorem tab_set (k : Nat) (f : Nat -> Value) (i : Nat) (v : Value) : (tab k f).setIfInBounds i v = tab k (fun j => if j = i then v else f j) := by
 apply Array.ext
 ·simp [tab]
 ·intro j h1 h2
  simp only [tab, Array.size_setIfInBounds, Array.size_ofFn] at h1 h2 ⊢
  rw [Array.getElem_setIfInBounds (by simpa using h1)]
  by_cases e : i = j
  ·subst e; simp
  ·have e' : ¬ j = i := fun x => e x.symm
   simp [e, e']
theorem tab_of {c : Array Value} {k : Nat} {f : Nat -> Value} (hk : c.size = k) (h : ∀ i, i < k -> c[i]? = some (f i)) : c = tab k f := by
 apply Array.ext
 ·rw [hk, tab_size]
 ·intro j h1 h2
  have h3 := h j (by omega)
  have h4 := tab_get (f := f) (show j < k by omega)
  rw [Array.getElem?_eq_getElem h1] at h3
  rw [Array.getElem?_eq_getElem h2] at h4
  have h5 := h3.trans h4.symm
  exact Option.some.inj h5
structure Elem (P : Program) (t e : TypeId) (size bytes : Nat) : Prop where
 ex : ∃ i z, P.underlying t = some (.slice e) /\ P.info? e = some i /\ i.zero = some z /\ i.size = size /\ i.bytes = bytes /\ z.cells.size = size /\ 0 < size
theorem Elem.mk' {P : Program} {t e : TypeId} {size bytes : Nat} (z : Value) (ht : P.underlying t = some (.slice e)) (hi : (P.info? e).map (fun i => (i.zero, i.size, i.bytes)) = some (some z, size, bytes))
  (hz : z.cells.size = size) (hs : 0 < size) : Elem P t e size bytes := by
 obtain ⟨i, hi, h0, h1, h2⟩ := info_parts hi
 exact ⟨i, z, ht, hi, h0, h1, h2, hz, hs⟩
structure Rd (w : World) (S : Nat -> Prop) (size : Nat) (A : Option Addr) (n : Nat) (xs : List Value) : Prop where
 len : xs.length = n * size
 cells : 0 < xs.length -> ∃ b off, A = some ⟨b, off, none⟩ /\ S b /\ ∀ j u, xs[j]? = some u -> w.cell? ⟨b, off + j, none⟩ = some u
theorem add_none (b off j : Nat) : (⟨b, off, none⟩ : Addr).add j = ⟨b, off + j, none⟩ := by
 unfold Addr.add
 split
 ·subst_vars; rfl
 ·rfl
theorem cell_lt {w : World} {p : Addr} {u : Value} (h : w.cell? p = some u) : p.block < w.heap.size := by
 rcases Nat.lt_or_ge p.block w.heap.size with x | x
 ·exact x
 ·simp [World.cell?, Array.getElem?_eq_none x] at h
theorem Only.cell {S : Nat -> Prop} {a w : World} (h : Only S a w) {p : Addr} {u : Value} (hc : a.cell? p = some u) (hn : ¬ S p.block) : w.cell? p = some u := by
 rw [World.cell?_of_block (h.block p.block (cell_lt hc) hn)]; exact hc
theorem Rd.kept {w w' : World} {S T : Nat -> Prop} {size n : Nat} {A : Option Addr} {xs : List Value} (h : Rd w S size A n xs) (ho : Only T w w') (hs : ∀ k, S k -> ¬ T k) : Rd w' S size A n xs :=
 ⟨h.len, fun hn => by
   obtain ⟨b, off, e, hb, hc⟩ := h.cells hn
   exact ⟨b, off, e, hb, fun j u hu => ho.cell (hc j u hu) (hs _ hb)⟩⟩
theorem Rd.mono {w : World} {S T : Nat -> Prop} {size n : Nat} {A : Option Addr} {xs : List Value} (h : Rd w S size A n xs) (hs : ∀ k, S k -> T k) : Rd w T size A n xs :=
 ⟨h.len, fun hn => by
   obtain ⟨b, off, e, hb, hc⟩ := h.cells hn
   exact ⟨b, off, e, hs _ hb, hc⟩⟩
theorem Rd.nil (w : World) (S : Nat -> Prop) (size : Nat) (A : Option Addr) : Rd w S size A 0 [] := ⟨by simp, fun h => absurd h (by simp)⟩
theorem Rd.get {w : World} {S : Nat -> Prop} {n k : Nat} {A : Option Addr} {xs : List Value} (h : Rd w S 1 A n xs) (hk : k < n) : ∃ b off u, A = some ⟨b, off, none⟩ /\ S b /\ xs[k]? = some u /\ w.cell? ⟨b, off + k, none⟩ = some u := by
 have hl : k < xs.length := by have := h.len; omega
 obtain ⟨b, off, e, hb, hc⟩ := h.cells (by omega)
 exact ⟨b, off, xs[k], e, hb, List.getElem?_eq_getElem hl, hc k _ (List.getElem?_eq_getElem hl)⟩
theorem Rd.at_ {w : World} {S : Nat -> Prop} {size n k : Nat} {A : Option Addr} {xs : List Value} (h : Rd w S size A n xs) (hk : k < n) (hs : 0 < size) : ∃ b off, A = some ⟨b, off, none⟩ /\ S b /\ ∀ f, f < size -> ∃ u, xs[k * size + f]? = some u /\ w.cell? ⟨b, off + (k * size + f), none⟩ = some u := by
 have hm : (k + 1) * size <= n * size := Nat.mul_le_mul_right _ hk
 rw [Nat.add_mul, Nat.one_mul] at hm
 have hl := h.len
 obtain ⟨b, off, e, hb, hc⟩ := h.cells (by omega)
 refine ⟨b, off, e, hb, fun f hf => ?_⟩
 have hlt : k * size + f < xs.length := by omega
 exact ⟨xs[k * size + f], List.getElem?_eq_getElem hlt, hc _ _ (List.getElem?_eq_getElem hlt)⟩
theorem own_form {w : World} {e : TypeId} {size : Nat} {v : Value} {n : Nat} {xs : List Value} (h : w.ownsRow 0 e size v n xs) :
  ∃ A c, v = .slice A n c /\ n <= c /\ c <= maxLen /\ Rd w (fun k => v.ownBlock = some k) size A n xs := by
 rcases h.2 with ⟨rfl, rfl⟩ | ⟨g, cap, cur, rfl, hg, hh, r1, r2, _⟩
 ·have hx : xs = [] := List.eq_nil_of_length_eq_zero (by simpa using h.1)
  subst hx
  exact ⟨none, 0, rfl, Nat.le_refl _, Nat.zero_le _, Rd.nil _ _ _ _⟩
 ·exact ⟨_, cap, rfl, r1, r2, h.1, fun _ => ⟨g, 0, rfl, rfl, fun j u hu => by rw [<- add_none]; exact h.cells rfl j u hu⟩⟩
theorem run_app_nil {P : Program} (w : World) (t ty e : TypeId) (i : TypeInfo) (size : Nat) (ht : P.underlying t = some (.slice e)) (hi : P.info? e = some i)
  (v : Value) (n : Nat) (xs : List Value) (hown : w.ownsRow 0 e size v n xs) (c : Nat) : (Builtin.append_ #[t, t] ty #[v, .slice none 0 c]).run P w = .ok v w := by
 rcases hown.2 with ⟨rfl, rfl⟩ | ⟨g, cap, cur, rfl, _, _, hnc, _⟩
 ·simp [Builtin.append_, run_underlying ht, sizeOf, typeInfo, hi, Builtin.lenOf, Builtin.firstCells]
 ·simp [Builtin.append_, run_underlying ht, sizeOf, typeInfo, hi, Builtin.lenOf, Builtin.firstCells, hnc, storeCells]
structure Grew (w w' : World) (e : TypeId) (size : Nat) (v v' : Value) (n : Nat) (xs : List Value) : Prop where
 own : w'.ownsRow 0 e size v' n xs
 only : Only (fun k => v.ownBlock = some k) w w'
 loc : v'.ownBlock = v.ownBlock ∨ v'.ownBlock = some w.heap.size
theorem run_app {P : Program} (w : World) {t e : TypeId} {size bytes : Nat} (E : Elem P t e size bytes) (ty : TypeId)
  {v : Value} {n : Nat} {xs : List Value} (hown : w.ownsRow 0 e size v n xs)
  {S : Nat -> Prop} {A : Option Addr} {m c : Nat} {news : List Value} (hr : Rd w S size A m news) (h1 : ∀ u ∈ news, u.oneCell' = true)
  (h63 : n + m <= maxLen) (hbytes : (n + m) * bytes <= 140737488355328) :
  ∃ v' w', (Builtin.append_ #[t, t] ty #[v, .slice A m c]).run P w = .ok v' w' /\ Grew w w' e size v v' (n + m) (xs ++ news) := by
 obtain ⟨i, z, ht, hi, h0, h1', h2, hz, hsz⟩ := E
 by_cases hne : 0 < news.length
 ·obtain ⟨b, off, rfl, _, hc⟩ := hr.cells hne
  obtain ⟨v', w', hrun, h2, h3, _, h5⟩ := run_append_own_at (P := P) w 0 t ty e i z size bytes ht hi h0 h1' h2 hz hsz v n xs hown ⟨b, off, none⟩ m c news hr.len (fun j u hu => by rw [add_none]; exact hc j u hu) h1 h63 hbytes (Nat.zero_le _)
  exact ⟨v', w', hrun, h2, (Only.refl _ _).grown h3 (fun k e _ => e), h5⟩
 ·have hn : news = [] := List.eq_nil_of_length_eq_zero (by omega)
  subst hn
  have hm : m = 0 := by
   have := hr.len
   simp only [List.length_nil] at this
   rcases Nat.mul_eq_zero.1 this.symm with x | x
   ·exact x
   ·omega
  subst hm
  rcases A with _ | ad
  ·exact ⟨v, w, run_app_nil w t ty e i size ht hi v n xs hown c, by simpa using hown, Only.refl _ _, .inl rfl⟩
  ·obtain ⟨v', w', hrun, h2, h3, _, h5⟩ := run_append_own_at (P := P) w 0 t ty e i z size bytes ht hi h0 h1' h2 hz hsz v n xs hown ad 0 c [] (by simp) (fun j u hu => by simp at hu) h1 h63 hbytes (Nat.zero_le _)
   exact ⟨v', w', hrun, h2, (Only.refl _ _).grown h3 (fun k e _ => e), h5⟩
theorem wp_app {P : Program} {w : World} {t e : TypeId} {size bytes : Nat} (E : Elem P t e size bytes) {o : Oper} {a : Act} {K : Act -> World -> Prop} {Q : Exit -> Act -> World -> Prop} (s x : Operand)
  (ho : o.op = .call { callee := .builtin .append, args := #[s, x], argTypes := #[t, t] })
  {v : Value} {n : Nat} {xs : List Value} (hs : a.eval s = v) (hown : w.ownsRow 0 e size v n xs)
  {S : Nat -> Prop} {A : Option Addr} {m c : Nat} {news : List Value} (hx : a.eval x = .slice A m c) (hr : Rd w S size A m news) (h1 : ∀ u ∈ news, u.oneCell' = true)
  (h63 : n + m <= maxLen) (hbytes : (n + m) * bytes <= 140737488355328)
  (h : ∀ v' w', Grew w w' e size v v' (n + m) (xs ++ news) -> K (a.put o.dst v') w') : o.wp P a w K Q := by
 obtain ⟨v', w', hrun, h2⟩ := run_app (P := P) w E o.type hown hr (c := c) h1 h63 hbytes
 unfold Oper.wp execOp
 simp only [ho, resolve, invoke, builtin, Sem.run_bind, Sem.run_pure, Result.andThen_ok, List.map_toArray, List.map_cons, List.map_nil, hs, hx, hrun]
 exact h v' w' h2
theorem app {P : Program} {w : World} {t e : TypeId} {size bytes : Nat} (E : Elem P t e size bytes) {ops : Array Oper} {rest : List Oper} {o : Oper} {a : Act} {Q : Exit -> Act -> World -> Prop} (hgd : o.guard = none) (s x : Operand)
  (ho : o.op = .call { callee := .builtin .append, args := #[s, x], argTypes := #[t, t] })
  {v : Value} {n : Nat} {xs : List Value} (hs : a.eval s = v) (hown : w.ownsRow 0 e size v n xs)
  {S : Nat -> Prop} {A : Option Addr} {m c : Nat} {news : List Value} (hx : a.eval x = .slice A m c) (hr : Rd w S size A m news) (h1 : ∀ u ∈ news, u.oneCell' = true)
  (h63 : n + m <= maxLen) (hbytes : (n + m) * bytes <= 140737488355328)
  (h : ∀ v' w', Grew w w' e size v v' (n + m) (xs ++ news) -> wpList P ops Q rest (a.put o.dst v') w') : wpList P ops Q (o :: rest) a w :=
 wpList_plain hgd fun _ hK => wp_app E s x ho hs hown hx hr h1 h63 hbytes fun v' w' h2 => hK _ _ (h v' w' h2)
theorem app_step {P : Program} {w : World} {t e : TypeId} {size bytes : Nat} (E : Elem P t e size bytes) {ops : Array Oper} {o : Oper} {a : Act} {K : Act -> World -> Prop} {Q : Exit -> Act -> World -> Prop} {F : Prop} (hgd : o.guard = none) (s x : Operand)
  (ho : o.op = .call { callee := .builtin .append, args := #[s, x], argTypes := #[t, t] })
  {v : Value} {n : Nat} {xs : List Value} (hs : a.eval s = v) (hown : w.ownsRow 0 e size v n xs)
  {S : Nat -> Prop} {A : Option Addr} {m c : Nat} {news : List Value} (hx : a.eval x = .slice A m c) (hr : Rd w S size A m news) (h1 : ∀ u ∈ news, u.oneCell' = true)
  (h63 : n + m <= maxLen) (hbytes : (n + m) * bytes <= 140737488355328)
  (h : ∀ v' w', Grew w w' e size v v' (n + m) (xs ++ news) -> K (a.put o.dst v') w') :
  if Region.wanted o (yielded ops a.tmps) = true then Oper.wp P o a w K Q else F := by
 have hw : Region.wanted o (yielded ops a.tmps) = true := by simp [Region.wanted, hgd]
 rw [if_pos hw]
 exact wp_app E s x ho hs hown hx hr h1 h63 hbytes h
theorem Rd.new (w : World) (size m : Nat) (xs : List Value) (e : TypeId) (S : Nat -> Prop) (hl : xs.length = m * size) (hS : S w.heap.size) : Rd (w.alloc (.cells xs.toArray e)) S size (some ⟨w.heap.size, 0, none⟩) m xs := by
 refine ⟨hl, fun _ => ⟨w.heap.size, 0, rfl, hS, fun j u hu => ?_⟩⟩
 rw [cell_of (alloc_new w _)]
 simpa using hu
theorem owns_empty (w : World) (e : TypeId) (size : Nat) : (w.alloc (.cells #[] e)).ownsRow 0 e size (.slice (some ⟨w.heap.size, 0, none⟩) 0 0) 0 [] :=
 World.ownsRow_made w #[] 0 (Nat.zero_le _) (Nat.zero_le _) (by simp)
theorem owns_kept {S : Nat -> Prop} {w w' : World} {base : Nat} {e : TypeId} {size : Nat} {v : Value} {n : Nat} {xs : List Value} (h : w.ownsRow base e size v n xs) (ho : Only S w w')
  (hn : ∀ k, v.ownBlock = some k -> ¬ S k) : w'.ownsRow base e size v n xs := by
 obtain ⟨h1, h2⟩ := h
 refine ⟨h1, ?_⟩
 rcases h2 with h2 | ⟨g, cap, cur, hv, hg, hh, r⟩
 ·exact Or.inl h2
 ·exact Or.inr ⟨g, cap, cur, hv, hg, ho.get hh (hn g (by rw [hv]; rfl)), r⟩
theorem owns_cases {w : World} {base : Nat} {e : TypeId} {size : Nat} {v : Value} {n : Nat} {xs : List Value} (h : w.ownsRow base e size v n xs) :
  (v = .slice none 0 0 /\ n = 0) ∨ ∃ g cap, v = .slice (some ⟨g, 0, none⟩) n cap /\ n <= cap /\ cap <= maxLen := by
 rcases h.2 with ⟨a, b⟩ | ⟨g, cap, cur, hv, hg, hh, r1, r2, _⟩
 ·exact Or.inl ⟨a, b⟩
 ·exact Or.inr ⟨g, cap, hv, r1, r2⟩
theorem quiet_left {P : Program} {f : FuncId} {args : Array Value} {w : World} {n : Nat} {v : Value}
  (h : Calls P f args (w.drewN n) fun e w' => e = .returned v /\ w.drewN n = w') : Calls P f args (w.drewN n) fun e w'' => e = .returned v /\ ∃ m, w'' = w.drewN m :=
 h.mono fun _ _ ⟨he, hm⟩ => ⟨he, n, hm.symm⟩
def upd {α : Type} (f : Nat -> α) (i : Nat) (v : α) : Nat -> α := fun j => if j = i then v else f j
theorem upd_same {α : Type} (f : Nat -> α) (i : Nat) (v : α) : upd f i v i = v := by simp [upd]
theorem upd_other {α : Type} (f : Nat -> α) {i j : Nat} (v : α) (h : j ≠ i) : upd f i v j = f j := by simp [upd, h]
end Go.Lap
namespace Go.Lap
theorem anyMem {α : Type} {p : α -> Bool} {xs : Array α} : xs.any p = true ↔ ∃ x ∈ xs, p x = true := by
 rw [Array.any_eq_true]
 constructor
 ·rintro ⟨i, hi, h⟩
  exact ⟨xs[i], Array.getElem_mem hi, h⟩
 ·rintro ⟨x, hx, h⟩
  obtain ⟨i, hi, rfl⟩ := Array.mem_iff_getElem.1 hx
  exact ⟨i, hi, h⟩
theorem allMem {α : Type} {p : α -> Bool} {xs : Array α} : xs.all p = true ↔ ∀ x ∈ xs, p x = true := by
 rw [Array.all_eq_true]
 constructor
 ·intro h x hx
  obtain ⟨i, hi, rfl⟩ := Array.mem_iff_getElem.1 hx
  exact h i hi
 ·exact fun h i hi => h _ (Array.getElem_mem hi)
section
variable {P : Program} {Q : Exit -> Act -> World -> Prop}
def LastQ (P : Program) (ops : Array Oper) (Q : Exit -> Act -> World -> Prop) : Exit -> Act -> World -> Prop
 | .normal, a, w => wpOp P ops Q (ops.size - 1) (fun a' w' => Q .normal a' w') a w
 | .exit i, a, w => Q (.exit i) a w
 | .goto l, a, w => Q (.goto l) a w
 | .ret, a, w => Q .ret a w
 | .panic c, a, w => Q (.panic c) a w
 | .outgrown, a, w => Q .outgrown a w
def lastOk (ops : Array Oper) : Bool :=
 (List.range ops.size).all (fun j => (ops[j]?).any fun o => o.after.all (fun e => decide (e.on < j)) && (match o.guard with | none => true | some (g, _) => decide (g < j))) &&
 (List.range (ops.size - 1)).all (fun i => (ops[ops.size - 1]?).any fun o => o.after.any fun e => Region.binds .any e && (e.on == i || (ops[e.on]?).any fun o' => o'.after.any fun e' => Region.binds .any e' && e'.on == i))
theorem lastOk_edges {ops : Array Oper} (h : lastOk ops = true) {j : Nat} {o : Oper} (ho : ops[j]? = some o) : (∀ e ∈ o.after, e.on < j) /\ ∀ g b, o.guard = some (g, b) -> g < j := by
 unfold lastOk at h
 rw [Bool.and_eq_true] at h
 have h1 := h.1
 rw [List.all_eq_true] at h1
 have hj : j < ops.size := (Array.getElem?_eq_some_iff.1 ho).1
 have h2 := h1 j (List.mem_range.2 hj)
 rw [ho] at h2
 simp only [Option.any_some, Bool.and_eq_true] at h2
 refine ⟨fun e he => ?_, fun g b hg => ?_⟩
 ·have := h2.1
  rw [allMem] at this
  exact of_decide_eq_true (this e he)
 ·have := h2.2
  rw [hg] at this
  exact of_decide_eq_true this
theorem lastOk_waits {ops : Array Oper} (h : lastOk ops = true) {i : Nat} (hi : i < ops.size - 1) {o : Oper} (ho : ops[ops.size - 1]? = some o) :
  ∃ e ∈ o.after, Region.binds .any e = true /\ (e.on = i ∨ ∃ o', ops[e.on]? = some o' /\ ∃ e' ∈ o'.after, Region.binds .any e' = true /\ e'.on = i) := by
 unfold lastOk at h
 rw [Bool.and_eq_true] at h
 have h1 := h.2
 rw [List.all_eq_true] at h1
 have h2 := h1 i (List.mem_range.2 hi)
 rw [ho] at h2
 simp only [Option.any_some] at h2
 rw [anyMem] at h2
 obtain ⟨e, he, h3⟩ := h2
 rw [Bool.and_eq_true, Bool.or_eq_true] at h3
 refine ⟨e, he, h3.1, ?_⟩
 rcases h3.2 with h4 | h4
 ·exact Or.inl (by simpa using h4)
 ·cases hq : ops[e.on]? with
  | none => rw [hq] at h4; simp at h4
  | some o' =>
   rw [hq] at h4
   simp only [Option.any_some] at h4
   rw [anyMem] at h4
   obtain ⟨e', he', h5⟩ := h4
   rw [Bool.and_eq_true] at h5
   exact Or.inr ⟨o', rfl, e', he', h5.1, by simpa using h5.2⟩
theorem pop_get {ops : Array Oper} {i : Nat} (h : i < ops.size - 1) : ops.pop[i]? = ops[i]? := by
 rw [Array.getElem?_pop, if_pos h]
theorem push_getD {listed : Array Bool} {i : Nat} (b d : Bool) (h : i < listed.size) : (listed.push b).getD i d = listed.getD i d := by
 simp [Array.getElem?_push, h, Nat.ne_of_lt h]
theorem push_getD_last {listed : Array Bool} (b d : Bool) : (listed.push b).getD listed.size d = b := by
 simp
theorem getD_any {listed : Array Bool} {i : Nat} (d d' : Bool) (h : i < listed.size) : listed.getD i d = listed.getD i d' := by
 simp [h]
theorem push_set {listed : Array Bool} {i : Nat} (b : Bool) (h : i < listed.size) : (listed.push b).setIfInBounds i true = (listed.setIfInBounds i true).push b := by
 apply Array.ext
 ·simp
 ·intro j h1 h2
  simp only [Array.size_setIfInBounds, Array.size_push] at h1
  rw [Array.getElem_setIfInBounds (by simpa using h1), Array.getElem_push, Array.getElem_push]
  by_cases hj : j < listed.size
  ·simp only [Array.size_setIfInBounds, hj, dite_true]
   rw [Array.getElem_setIfInBounds hj]
  ·simp only [Array.size_setIfInBounds, hj, dite_false]
   rw [if_neg (by omega)]
def Shutd (ops : Array Oper) (listed : Array Bool) : Prop := ∀ (j : Nat) (o : Oper), ops[j]? = some o -> listed.getD j false = true -> ∀ e ∈ o.after, Region.binds .any e = true -> listed.getD e.on false = true
theorem Shutd.start (ops : Array Oper) (n : Nat) : Shutd ops (Array.replicate n false) := by
 intro j o _ h
 by_cases hj : j < n
 ·simp [hj] at h
 ·simp [hj] at h
theorem set_getD_true {listed : Array Bool} {i j : Nat} (h : listed.getD j false = true) : (listed.setIfInBounds i true).getD j false = true := by
 by_cases e : i = j
 ·subst e
  have hl : i < listed.size := by
   rcases Nat.lt_or_ge i listed.size with x | x
   ·exact x
   ·simp [Array.getElem?_eq_none x] at h
  simp [hl]
 ·rw [getD_set_ne false e]; exact h
theorem Shutd.set {ops : Array Oper} {listed : Array Bool} {i : Nat} (h : Shutd ops listed) (hr : ∀ o, ops[i]? = some o -> ∀ e ∈ o.after, Region.binds .any e = true -> listed.getD e.on false = true) : Shutd ops (listed.setIfInBounds i true) := by
 intro j o ho hl e he hb
 by_cases hij : i = j
 ·subst hij
  exact set_getD_true (hr o ho e he hb)
 ·rw [getD_set_ne false hij] at hl
  exact set_getD_true (h j o ho hl e he hb)
variable {ops : Array Oper}
theorem ready_pop {listed : Array Bool} (hok : lastOk ops = true) (hs : listed.size = ops.size - 1) {i : Nat} (hi : i < ops.size - 1) : i ∈ Region.ready .any ops (listed.push false) ↔ i ∈ Region.ready .any ops.pop listed := by
 rw [mem_ready, mem_ready, push_getD _ _ (by omega), pop_get hi]
 constructor
 ·rintro ⟨h1, o, ho, h2⟩
  refine ⟨h1, o, ho, fun e he hb => ?_⟩
  have := (lastOk_edges hok ho).1 e he
  have h3 := h2 e he hb
  rw [push_getD _ _ (by omega)] at h3
  exact h3
 ·rintro ⟨h1, o, ho, h2⟩
  refine ⟨h1, o, ho, fun e he hb => ?_⟩
  have := (lastOk_edges hok ho).1 e he
  rw [push_getD _ _ (by omega)]
  exact h2 e he hb
theorem ready_lt {listed : Array Bool} {i : Nat} (h : i ∈ Region.ready .any ops listed) : i < ops.size := by
 obtain ⟨_, o, ho, _⟩ := mem_ready.1 h
 exact (Array.getElem?_eq_some_iff.1 ho).1
theorem all_listed {listed : Array Bool} (hok : lastOk ops = true) (hs : listed.size = ops.size - 1) (hr : Region.ready .any ops.pop listed = []) : ∀ (k i : Nat), i < k -> i < ops.size - 1 -> listed.getD i false = true := by
 intro k
 induction k with
 | zero => intro i h; omega
 | succ k ih =>
  intro i _ hi
  cases hl : listed.getD i false with
  | true => rfl
  | false =>
   have hlt : i < ops.size := by omega
   have : i ∈ Region.ready .any ops.pop listed := by
    rw [mem_ready, pop_get hi]
    refine ⟨by rw [getD_any true false (by omega)]; exact hl, ops[i], Array.getElem?_eq_getElem hlt, fun e he _ => ?_⟩
    have := (lastOk_edges hok (Array.getElem?_eq_getElem hlt)).1 e he
    exact ih e.on (by omega) (by omega)
   rw [hr] at this
   cases this
theorem last_ready {listed : Array Bool} (hok : lastOk ops = true) (h0 : 0 < ops.size) (hs : listed.size = ops.size - 1) (hall : ∀ i, i < ops.size - 1 -> listed.getD i false = true) : ops.size - 1 ∈ Region.ready .any ops (listed.push false) := by
 rw [mem_ready]
 have hlt : ops.size - 1 < ops.size := by omega
 refine ⟨by rw [<- hs]; exact push_getD_last _ _, ops[ops.size - 1], Array.getElem?_eq_getElem hlt, fun e he _ => ?_⟩
 have := (lastOk_edges hok (Array.getElem?_eq_getElem hlt)).1 e he
 rw [push_getD _ _ (by omega)]
 exact hall e.on this
theorem wanted_pop (hok : lastOk ops = true) {i : Nat} {o : Oper} (hi : i < ops.size - 1) (ho : ops[i]? = some o) (tmps : Array Value) : Region.wanted o (yielded ops.pop tmps) = Region.wanted o (yielded ops tmps) := by
 unfold Region.wanted
 cases hg : o.guard with
 | none => rfl
 | some gb =>
  obtain ⟨g, b⟩ := gb
  have := (lastOk_edges hok ho).2 g b hg
  simp only [yielded]
  rw [pop_get (by omega)]
theorem wpOp_pop (hok : lastOk ops = true) {i : Nat} (hi : i < ops.size - 1) {K : Act -> World -> Prop} {a : Act} {w : World} (h : wpOp P ops.pop (LastQ P ops Q) i K a w) : wpOp P ops Q i K a w := by
 have hlt : i < ops.size := by omega
 have ho : ops[i]? = some ops[i] := Array.getElem?_eq_getElem hlt
 unfold wpOp at *
 rw [pop_get hi] at h
 simp only [ho] at h ⊢
 rw [wanted_pop hok hi ho] at h
 by_cases hw : Region.wanted ops[i] (yielded ops a.tmps) = true
 ·rw [if_pos hw] at h ⊢
  rcases h with h | ⟨h, hl⟩
  ·refine Or.inl ?_
   unfold Oper.wp at *
   generalize (execOp a.eval ops[i]).run P w = r at *
   cases r with
   | ok n w' =>
    cases n <;> simp only [Oper.upon] at h ⊢ <;>
     first
      | exact h
      | exact Calls.mono h (fun e w'' he => by cases e <;> exact he)
   | halt x w' => cases x <;> simp only [Oper.upon] at h ⊢ <;> exact h
  ·exact Or.inr ⟨h, hl⟩
 ·rw [if_neg hw] at h ⊢
  exact h
theorem wpAny_last (hok : lastOk ops = true) (h0 : 0 < ops.size) : ∀ (fuel : Nat) (listed : Array Bool) (a : Act) (w : World), listed.size = ops.size - 1 -> Shutd ops listed -> wpAny P .any ops.pop (LastQ P ops Q) fuel listed a w -> wpAny P .any ops Q (fuel + 1) (listed.push false) a w := by
 intro fuel
 induction fuel with
 | zero =>
  intro listed a w hs hc H
  have hall := fun i hi => all_listed hok hs H.1 (i + 1) i (Nat.lt_succ_self i) hi
  refine ⟨fun hr => ?_, fun i hi => ?_⟩
  ·have := last_ready hok h0 hs hall
   rw [hr] at this
   cases this
  ·have hlt := ready_lt hi
   by_cases hn : i < ops.size - 1
   ·have := (ready_pop hok hs hn).1 hi
    rw [H.1] at this
    cases this
   ·obtain rfl : i = ops.size - 1 := by omega
    refine wpOp_mono (fun a' w' hq => ?_) H.2
    exact ⟨(by
      rw [List.eq_nil_iff_forall_not_mem]
      intro j hj
      have h1 := ready_lt hj
      have h2 := (mem_ready.1 hj).1
      by_cases hjn : j = ops.size - 1
      · subst hjn
        rw [<- hs] at h2
        simp at h2
      · rw [getD_set_ne true (by omega), push_getD _ _ (by omega), getD_any true false (by omega), hall j (by omega)] at h2
        cases h2), hq⟩
 | succ f ih =>
  intro listed a w hs hc H
  refine ⟨fun hr => ?_, fun i hi => ?_⟩
  ·have hr' : Region.ready .any ops.pop listed = [] := by
    rw [List.eq_nil_iff_forall_not_mem]
    intro j hj
    have h1 := ready_lt hj
    rw [Array.size_pop] at h1
    have := (ready_pop hok hs h1).2 hj
    rw [hr] at this
    cases this
   have hall := fun i hi => all_listed hok hs hr' (i + 1) i (Nat.lt_succ_self i) hi
   have := last_ready hok h0 hs hall
   rw [hr] at this
   cases this
  ·have hlt := ready_lt hi
   by_cases hn : i < ops.size - 1
   ·have hi' := (ready_pop hok hs hn).1 hi
    refine wpOp_mono (fun a' w' hq => ?_) (wpOp_pop hok hn (H.2 i hi'))
    rw [push_set _ (by omega)]
    refine ih _ a' w' (by simpa using hs) (hc.set (fun o ho e he hb => ?_)) hq
    obtain ⟨_, o', ho', h2⟩ := mem_ready.1 hi'
    rw [pop_get hn, ho] at ho'
    injection ho' with ho'
    subst ho'
    exact h2 e he hb
   ·obtain rfl : i = ops.size - 1 := by omega
    obtain ⟨_, o, ho, h2⟩ := mem_ready.1 hi
    have hall : ∀ j, j < ops.size - 1 -> listed.getD j false = true := by
     intro j hj
     obtain ⟨e, he, hb, h3⟩ := lastOk_waits hok hj ho
     have h4 := h2 e he hb
     have h5 := (lastOk_edges hok ho).1 e he
     rw [push_getD _ _ (by omega)] at h4
     rcases h3 with rfl | ⟨o', ho', e', he', hb', rfl⟩
     ·exact h4
     ·exact hc e.on o' ho' h4 e' he' hb'
    have hr' : Region.ready .any ops.pop listed = [] := by
     rw [List.eq_nil_iff_forall_not_mem]
     intro j hj
     have h1 := ready_lt hj
     rw [Array.size_pop] at h1
     have h2 := (mem_ready.1 hj).1
     rw [getD_any true false (by omega), hall j h1] at h2
     cases h2
    refine wpOp_mono (fun a' w' hq => ?_) (H.1 hr')
    refine ⟨fun _ => hq, fun j hj => ?_⟩
    have h1 := ready_lt hj
    have h2 := (mem_ready.1 hj).1
    by_cases hjn : j = ops.size - 1
    ·subst hjn
     rw [<- hs] at h2
     simp at h2
    ·rw [getD_set_ne true (by omega), push_getD _ _ (by omega), getD_any true false (by omega), hall j (by omega)] at h2
     cases h2
theorem wp_region_last {S : World -> Prop} {id : Nat} {a : Act} {w : World} (hm : P.follows .mixedOrders = true) (hok : lastOk ops = true) (h0 : 0 < ops.size) (hS : S w.drew)
  (h : S w.drew -> wpAnyH P .any ops.pop (LastQ P ops Q) S (ops.size - 1) (Array.replicate (ops.size - 1) false) a w.drew) : (Code.region id ops true).wp P Q a w := by
 refine wp_region_any hm ?_
 have h1 := wpAny_last hok h0 (ops.size - 1) (Array.replicate (ops.size - 1) false) a w.drew (by simp) (Shutd.start _ _) (wpAny_of_held _ _ _ _ (h hS))
 have e : (Array.replicate (ops.size - 1) false).push false = Array.replicate ops.size false := by
  rw [<- Array.replicate_succ]
  congr 1
  omega
 rw [e, show ops.size - 1 + 1 = ops.size by omega] at h1
 exact h1
theorem last_panic {c : List PanicEntry} {a a' : Act} {w : World} (hq : Q (.panic c) a' w -> Q (.panic c) a w) (h : LastQ P ops Q (.panic c) a' w) : LastQ P ops Q (.panic c) a w := hq h
theorem last_step {o : Oper} {a : Act} {w : World} (ho : ops[ops.size - 1]? = some o)
  (h : ∀ K' : Act -> World -> Prop, Shut (∀ a w, Q .normal a w -> K' a w) -> if Region.wanted o (yielded ops a.tmps) = true then Oper.wp P o a w K' Q else K' (a.put o.dst undef) w) : LastQ P ops Q .normal a w := by
 have h1 := h (fun a' w' => Q .normal a' w') (fun _ _ x => x)
 show wpOp P ops Q (ops.size - 1) (fun a' w' => Q .normal a' w') a w
 unfold wpOp
 simp only [ho]
 by_cases hw : Region.wanted o (yielded ops a.tmps) = true
 ·rw [if_pos hw] at h1 ⊢; exact Or.inl h1
 ·rw [if_neg hw] at h1 ⊢; exact h1
end
end Go.Lap
namespace Go.Proofs.YthipgglplneijaaGreatDoor
theorem zGA {α : Type _} (l : List α) (i : Nat) : l.toArray[i]? = l[i]? := List.getElem?_toArray
theorem zGZ {α : Type _} (a : α) (l : List α) : (a :: l)[0]? = some a := rfl
theorem zGS {α : Type _} (a : α) (i : Nat) (l : List α) : (a :: l)[i + 1]? = l[i]? := rfl
theorem zPA {α : Type _} (l : List α) (i : Nat) (a : α) : l.toArray.setIfInBounds i a = (l.set i a).toArray := List.setIfInBounds_toArray l i a
theorem zPZ {α : Type _} (x a : α) (l : List α) : (x :: l).set 0 a = a :: l := rfl
theorem zPS {α : Type _} (x a : α) (l : List α) (i : Nat) : (x :: l).set (i + 1) a = x :: l.set i a := rfl
/-- One operation more, that only reads. -/
theorem zT {P : Program} {ops : Array Oper} {Q : Exit → Act → World → Prop} {md : Region.Mode} {S : World → Prop} (i : Nat) {oi : Oper} {v : Value} {fuel : Nat} {listed l' : Array Bool} {a a' : Act} {w : World} (h : wpAnyH P md ops Q S fuel l' a' w)
    (hi : ops[i]? = some oi := by simp only [zGA, zGZ, zGS] <;> rfl)
    (hg : Region.wanted oi (yielded ops a.tmps) = true := by rfl)
    (hv : ∀ w, S w → (execOp a.eval oi).run P w = .ok (.value v) w := by intro w hSw; (try dsimp only at hSw); go_simp; (try with_reducible rfl); done)
    (hQ : ∀ c a w, Q (.panic c) (a.put oi.dst v) w → Q (.panic c) a w := by first | exact fun _ _ _ h => h | exact fun _ _ _ => last_panic (fun h => h))
    (ha : a.put oi.dst v = a' := by (try simp only [Act.put, zPA, zPZ, zPS]); first | done | exact rfl)
    (hl : listed.setIfInBounds i true = l' := by (try simp only [zPA, zPZ, zPS]); first | done | exact rfl)
    (hs : Region.noSelect ops = true := by kernel_rfl) (hf : Region.free md ops listed i = true := by decide +kernel) (hr : (Region.ready md ops listed).contains i = true := by decide +kernel) (hS : S w := by first | assumption | exact trivial) : wpAnyH P md ops Q S (fuel + 1) listed a w :=
  wpAnyH_take hi hs hf hr hQ (Or.inl ⟨hg, hv⟩) hS (by rw [ha, hl]; exact h)
/-- One that is not wanted. -/
theorem zO {P : Program} {ops : Array Oper} {Q : Exit → Act → World → Prop} {md : Region.Mode} {S : World → Prop} (i : Nat) {oi : Oper} {fuel : Nat} {listed l' : Array Bool} {a a' : Act} {w : World} (h : wpAnyH P md ops Q S fuel l' a' w)
    (hi : ops[i]? = some oi := by simp only [zGA, zGZ, zGS] <;> rfl)
    (hg : Region.wanted oi (yielded ops a.tmps) = false := by rfl)
    (hQ : ∀ c a w, Q (.panic c) (a.put oi.dst undef) w → Q (.panic c) a w := by first | exact fun _ _ _ h => h | exact fun _ _ _ => last_panic (fun h => h))
    (ha : a.put oi.dst undef = a' := by (try simp only [Act.put, zPA, zPZ, zPS]); first | done | exact rfl)
    (hl : listed.setIfInBounds i true = l' := by (try simp only [zPA, zPZ, zPS]); first | done | exact rfl)
    (hs : Region.noSelect ops = true := by kernel_rfl) (hf : Region.free md ops listed i = true := by decide +kernel) (hr : (Region.ready md ops listed).contains i = true := by decide +kernel) (hS : S w := by first | assumption | exact trivial) : wpAnyH P md ops Q S (fuel + 1) listed a w :=
  wpAnyH_take hi hs hf hr hQ (Or.inr ⟨hg, rfl⟩) hS (by rw [ha, hl]; exact h)
/-- The one that is ready. -/
theorem zR {P : Program} {ops : Array Oper} {Q : Exit → Act → World → Prop} {md : Region.Mode} {S : World → Prop} (i : Nat) {o : Oper} {fuel : Nat} {listed : Array Bool} {a : Act} {w : World}
    (h : ∀ K' : Act → World → Prop, Shut (∀ a w, S w → (S w → wpAnyH P md ops Q S fuel (listed.setIfInBounds i true) a w) → K' a w) → if Region.wanted o (yielded ops a.tmps) = true then Oper.wp P o a w K' Q else K' (a.put o.dst undef) w)
    (hi : ops[i]? = some o := by simp only [zGA, zGZ, zGS] <;> rfl) (hr : Region.ready md ops listed = [i] := by kernel_rfl) : wpAnyH P md ops Q S (fuel + 1) listed a w :=
  wpAnyH_ready hr (by simp) (AllReadyH.cons hi h AllReadyH.nil)
/-- A region's beginning. -/
theorem zH {P : Program} {ops : Array Oper} {Q : Exit → Act → World → Prop} {S R : World → Prop} {id : Nat} {a : Act} {w : World} (hS : RowKit.Hid (∀ W, R W → S W)) (hr : R w.drew)
    (h : S w.drew → wpAnyH P .any ops Q S ops.size (Array.replicate ops.size false) a w.drew) (hm : P.follows .mixedOrders = true := by kernel_rfl) : (Code.region id ops true).wp P Q a w := wp_region_held_drew hm (hS.out _ hr) h
theorem zA {P : Program} {ops : Array Oper} {Q : Exit → Act → World → Prop} {md : Region.Mode} {S : World → Prop} {fuel : Nat} {listed : Array Bool} {a : Act} {w : World} {i : Nat} {o : Oper} {rs : List Nat}
    (h : ∀ K' : Act → World → Prop, Shut (∀ a w, S w → (S w → wpAnyH P md ops Q S fuel (listed.setIfInBounds i true) a w) → K' a w) → if Region.wanted o (yielded ops a.tmps) = true then Oper.wp P o a w K' Q else K' (a.put o.dst undef) w)
    (hs : AllReadyH P md ops Q S fuel listed a w rs) (ho : ops[i]? = some o := by simp only [zGA, zGZ, zGS] <;> rfl) : AllReadyH P md ops Q S fuel listed a w (i :: rs) := AllReadyH.cons ho h hs
end Go.Proofs.YthipgglplneijaaGreatDoor
namespace Go.Lap
open Go.RowKit
abbrev Quiet (w w' : World) : Prop := Only (fun _ => False) w w'
def bytesV (l : List Nat) : List Value := l.map (fun x : Nat => Value.int .u8 x)
theorem one_bytes (l : List Nat) : ∀ u ∈ bytesV l, u.oneCell' = true := by
 intro u hu
 obtain ⟨n, _, rfl⟩ := List.mem_map.1 hu
 rfl
theorem ne_type {w : World} {a b : Nat} {c1 c2 : Array Value} {t1 t2 : TypeId} {f1 f2 : Nat × Nat} (h1 : w.heap[a]? = some (.cells c1 t1 f1)) (h2 : w.heap[b]? = some (.cells c2 t2 f2)) (h : t1 ≠ t2) : a ≠ b := by
 intro e
 subst e
 rw [h1] at h2
 injection h2 with h2
 injection h2 with _ h3 _
 exact h h3
theorem snoc_get {α : Type} {M : List α} {s : α} {k : Nat} {x : α} (h : (M ++ [s])[k]? = some x) : (k < M.length /\ M[k]? = some x) ∨ (k = M.length /\ x = s) := by
 rw [List.getElem?_append] at h
 split at h
 ·exact Or.inl ⟨by assumption, h⟩
 ·rcases hk : k - M.length with _ | n
  ·rw [hk] at h
   simp at h
   exact Or.inr ⟨by omega, h.symm⟩
  ·rw [hk] at h
   simp at h
theorem own_blk {w : World} {e : TypeId} {size : Nat} {v : Value} {n : Nat} {xs : List Value} (h : w.ownsRow 0 e size v n xs) {k : Nat} (hk : v.ownBlock = some k) : ∃ c, w.heap[k]? = some (.cells c e (0, 0)) := by
 rcases h.2 with ⟨rfl, _⟩ | ⟨g, cap, cur, rfl, _, hh, _⟩
 ·cases hk
 ·obtain rfl : g = k := by injection hk
  exact ⟨_, hh⟩
abbrev ptrV (p : Nat) : Value := .pointer (some ⟨p, 0, none⟩)
theorem one_ptr (ps : List Nat) : ∀ u ∈ ps.map ptrV, u.oneCell' = true := by
 intro u hu
 obtain ⟨n, _, rfl⟩ := List.mem_map.1 hu
 rfl
theorem wrapI {x : Int} (h : -9223372036854775808 <= x /\ x < 9223372036854775808) : IntKind.i64.wrap x = x := by
 rw [IntKind.wrap_i64]
 omega
end Go.Lap
namespace Go.Proofs.YthipgglplneijaaGreatDoor
open Go.RowKit Go.Lap
theorem elem_u8 : Elem Tryz.prog 86 5 1 1 := Elem.mk' (.int .u8 0) Tryz.underlying86 (by kernel_rfl) rfl (by decide)
structure Fresh (w w' : World) (v : Value) (l : List Nat) : Prop where
 quiet : Quiet w w'
 new : ∀ k, v.ownBlock = some k -> w.heap.size <= k
 own : w'.ownsRow 0 5 1 v l.length (bytesV l)
def FreshPost (w : World) (l : List Nat) (e : Ending) (w' : World) : Prop := ∃ v, e = .returned v /\ Fresh w w' v l
theorem bytes_len (l : List Nat) : (bytesV l).length = l.length := by simp [bytesV]
theorem fresh_app {w w1 : World} {l : List Nat} {v : Value} (hg : Grew (w.alloc (.cells #[] 5)) w1 5 1 (.slice (some ⟨w.heap.size, 0, none⟩) 0 0) v l.length (bytesV l)) : Fresh w w1 v l := by
 refine ⟨((Only.refl _ _).alloc _).trans' hg.only (fun k hk e => by simp [Value.ownBlock] at e; omega), fun k e => ?_, hg.own⟩
 rcases hg.loc with x | x <;> rw [x] at e
 ·simp [Value.ownBlock] at e; omega
 ·injection e with e; simp at e; omega
set_option maxHeartbeats 400000 in
theorem clone_any (A : Option Addr) (cap : Nat) (l : List Nat) (S : Nat -> Prop) (w : World) (hr : Rd w S 1 A l.length (bytesV l)) (hl : l.length <= 100000) :
  Calls Tryz.prog 130 #[.slice A l.length cap] w (FreshPost w l) := by
 have heq := fun (w : World) (a : Option Addr) (n c : Nat) => Lib.run_eql_slice_nil (P := Tryz.prog) w 86 _ a n c 0 0 Tryz.underlying86
 rcases A with _ | ad
 ·have hl0 : l = [] := by
   rcases l with _ | ⟨x, l⟩
   ·rfl
   ·obtain ⟨b, off, e, _⟩ := hr.cells (by simp [bytesV]); cases e
  have HF : Hid (FreshPost w l (.returned (.slice none 0 0)) w) := by
   subst hl0
   exact ⟨_, rfl, Only.refl _ _, by simp [Value.ownBlock], World.ownsRow_nil _ _ _ _⟩
  clear hl0 hr
  go_enter Tryz.func130, Tryz.ntmps130
  go_wp2
  go_ret
  exact HF.out
 ·have HR := Lib.hid hr
  clear hr
  go_enter Tryz.func130, Tryz.ntmps130
  go_wp2_with (at_builtin; refine app elem_u8 rfl (.tmp 5) (.tmp 6) rfl rfl (owns_empty w _ _) rfl (HR.out.kept ((Only.refl (fun _ => False) w).alloc _) (fun _ _ x => x)) (one_bytes l) (by unfold maxLen; omega) (by omega) ?_)
  intro v w1 hg
  have HF := Lib.hid (fresh_app hg)
  clear hg
  go_wp2
  go_ret
  exact ⟨v, rfl, HF.out⟩
end Go.Proofs.YthipgglplneijaaGreatDoor
namespace Go.Lap
def leNum (g : Nat -> Nat) : Nat -> Nat -> Nat
 | _, 0 => 0
 | off, n + 1 => g off + 256 * leNum g (off + 1) n
theorem leNum_lt {g : Nat -> Nat} (hg : ∀ i, g i < 256) : ∀ n off, leNum g off n < 256 ^ n
 | 0, _ => by simp [leNum]
 | n + 1, off => by
  have := leNum_lt hg n (off + 1)
  have := hg off
  rw [leNum, Nat.pow_succ]
  omega
theorem leNum_congr {g g' : Nat -> Nat} : ∀ n off, (∀ i, off <= i -> i < off + n -> g i = g' i) -> leNum g off n = leNum g' off n
 | 0, _, _ => rfl
 | n + 1, off, h => by
  rw [leNum, leNum, h off (Nat.le_refl _) (by omega), leNum_congr n (off + 1) (fun i h1 h2 => h i (by omega) (by omega))]
def putN (g : Nat -> Nat) (off n x : Nat) : Nat -> Nat := fun j => if off <= j /\ j < off + n then x / 256 ^ (j - off) % 256 else g j
theorem putN_lt {g : Nat -> Nat} (hg : ∀ i, g i < 256) (off n x : Nat) : ∀ i, putN g off n x i < 256 := by
 intro i
 unfold putN
 split
 ·exact Nat.mod_lt _ (by omega)
 ·exact hg i
theorem putN_out {g : Nat -> Nat} {off n x j : Nat} (h : j < off ∨ off + n <= j) : putN g off n x j = g j := by
 unfold putN
 rw [if_neg (by omega)]
theorem leNum_ofFn (f : Nat -> Nat) : ∀ n off x, (∀ i, i < n -> f (off + i) = x / 256 ^ i % 256) -> x < 256 ^ n -> leNum f off n = x
 | 0, _, x, _, h => by simp at h; simp [leNum, h]
 | n + 1, off, x, h, hx => by
  rw [Nat.pow_succ] at hx
  rw [leNum, leNum_ofFn f n (off + 1) (x / 256) (fun i hi => ?_) (by omega)]
  ·have := h 0 (by omega)
   simp at this
   omega
  ·have := h (i + 1) (by omega)
   rw [show off + 1 + i = off + (i + 1) by omega, this, Nat.pow_succ, Nat.mul_comm (256 ^ i) 256, <- Nat.div_div_eq_div_mul]
theorem leNum_putN {g : Nat -> Nat} {off n x : Nat} (hx : x < 256 ^ n) : leNum (putN g off n x) off n = x := by
 refine leNum_ofFn _ n off x (fun i hi => ?_) hx
 unfold putN
 rw [if_pos (by omega), Nat.add_sub_cancel_left]
theorem leNum_putN_out {g : Nat -> Nat} {off n x off' n' : Nat} (h : off' + n' <= off ∨ off + n <= off') : leNum (putN g off n x) off' n' = leNum g off' n' :=
 leNum_congr _ _ (fun i h1 h2 => putN_out (by omega))
def layF (g : Nat -> Nat) (off n : Nat) (f : Nat -> Nat) : Nat -> Nat := fun j => if off <= j /\ j < off + n then f (j - off) else g j
theorem layF_out {g f : Nat -> Nat} {off n j : Nat} (h : j < off ∨ off + n <= j) : layF g off n f j = g j := by
 unfold layF
 rw [if_neg (by omega)]
theorem layF_in {g f : Nat -> Nat} {off n j : Nat} (h : j < n) : layF g off n f (off + j) = f j := by
 unfold layF
 rw [if_pos (by omega), Nat.add_sub_cancel_left]
theorem layF_lt {g f : Nat -> Nat} (hg : ∀ i, g i < 256) (off n : Nat) (hf : ∀ i, i < n -> f i < 256) : ∀ i, layF g off n f i < 256 := by
 intro i
 unfold layF
 split
 ·exact hf _ (by omega)
 ·exact hg i
theorem leNum_layF_out {g f : Nat -> Nat} {off n off' n' : Nat} (h : off' + n' <= off ∨ off + n <= off') : leNum (layF g off n f) off' n' = leNum g off' n' :=
 leNum_congr _ _ (fun i h1 h2 => layF_out (by omega))
structure Tup where
 row : Nat
 xmin : Nat
 xmax : Nat
 pg : Int
 sl : Int
 data : List Nat
def farB (pg sl : Int) : Bool := if pg = -1 ∨ sl = -1 then decide (pg ≠ sl) else decide (pg < 0 ∨ 65536 <= pg ∨ sl < 0 ∨ 65535 <= sl)
def Tup.rightB (t : Tup) : Bool := decide (t.row <= 1099511627776 /\ t.xmin <= 1099511627776 /\ t.xmax <= 1099511627776 /\ farB t.pg t.sl = false /\ t.data.length <= 200)
structure Tup.Ok (t : Tup) : Prop where
 right : t.rightB = true
 bytes : ∀ x ∈ t.data, x < 256
def Tup.size (t : Tup) : Nat := 30 + t.data.length
def Tup.hdr (t : Tup) : Nat -> Nat := putN (putN (putN (putN (putN (fun _ => 0) 0 8 t.row) 8 8 t.xmin) 16 8 t.xmax) 24 4 (t.pg + 1).toNat) 28 2 (t.sl + 1).toNat
def Tup.ver (t : Tup) (j : Nat) : Nat := if j < 30 then t.hdr j else t.data.getD (j - 30) 0
theorem Tup.ver_lt {t : Tup} (h : ∀ x ∈ t.data, x < 256) : ∀ j, t.ver j < 256 := by
 intro j
 unfold Tup.ver
 split
 ·exact putN_lt (putN_lt (putN_lt (putN_lt (putN_lt (fun _ => by omega) _ _ _) _ _ _) _ _ _) _ _ _) _ _ _ _
 ·rw [List.getD_eq_getElem?_getD]
  rcases hx : t.data[j - 30]? with _ | x
  ·simp
  ·exact h x (List.mem_of_getElem? hx)
theorem Tup.far_bounds {pg sl : Int} (h : farB pg sl = false) : -1 <= pg /\ pg <= 65535 /\ -1 <= sl /\ sl <= 65534 := by
 unfold farB at h
 split at h
 ·have := of_decide_eq_false h
  omega
 ·have := of_decide_eq_false h
  omega
theorem Tup.Ok.bounds {t : Tup} (h : t.Ok) : t.row <= 1099511627776 /\ t.xmin <= 1099511627776 /\ t.xmax <= 1099511627776 /\ -1 <= t.pg /\ t.pg <= 65535 /\ -1 <= t.sl /\ t.sl <= 65534 /\ t.data.length <= 200 := by
 obtain ⟨h1, h2, h3, h4, h5⟩ := of_decide_eq_true h.right
 have := Tup.far_bounds h4
 omega
theorem Tup.read {t : Tup} (h : t.Ok) {g : Nat -> Nat} {f : Nat} (hg : ∀ j, j < t.size -> g (f + j) = t.ver j) :
  leNum g f 8 = t.row /\ leNum g (f + 8) 8 = t.xmin /\ leNum g (f + 16) 8 = t.xmax /\ leNum g (f + 24) 4 = (t.pg + 1).toNat /\ leNum g (f + 28) 2 = (t.sl + 1).toNat := by
 have hb := h.bounds
 have hs : 30 <= t.size := by unfold Tup.size; omega
 have key : ∀ o n, o + n <= 30 -> leNum g (f + o) n = leNum t.hdr o n := by
  intro o n hon
  have e : ∀ n o, o + n <= 30 -> leNum g (f + o) n = leNum t.hdr o n := by
   intro n
   induction n with
   | zero => intro o _; rfl
   | succ n ih =>
    intro o ho
    have h1 := hg o (by omega)
    rw [Tup.ver, if_pos (by omega)] at h1
    rw [leNum, leNum, h1, show f + o + 1 = f + (o + 1) by omega, ih (o + 1) (by omega)]
  exact e n o hon
 have k0 := key 0 8 (by omega)
 rw [Nat.add_zero] at k0
 refine ⟨?_, ?_, ?_, ?_, ?_⟩
 ·rw [k0, Tup.hdr, leNum_putN_out (by omega), leNum_putN_out (by omega), leNum_putN_out (by omega), leNum_putN_out (by omega), leNum_putN (by omega)]
 ·rw [key 8 8 (by omega), Tup.hdr, leNum_putN_out (by omega), leNum_putN_out (by omega), leNum_putN_out (by omega), leNum_putN (by omega)]
 ·rw [key 16 8 (by omega), Tup.hdr, leNum_putN_out (by omega), leNum_putN_out (by omega), leNum_putN (by omega)]
 ·rw [key 24 4 (by omega), Tup.hdr, leNum_putN_out (by omega), leNum_putN (by omega)]
 ·rw [key 28 2 (by omega), Tup.hdr, leNum_putN (by omega)]
abbrev Slot := Option (Nat × Tup)
def Slot.from_ : Slot -> Nat
 | none => 0
 | some (f, _) => f
def Slot.size : Slot -> Nat
 | none => 0
 | some (_, t) => t.size
theorem Tup.size_pos (t : Tup) : 30 <= t.size := by unfold Tup.size; omega
structure Pg (g : Nat -> Nat) (L : List Slot) (start : Nat) : Prop where
 lt : ∀ i, g i < 256
 cnt : leNum g 0 2 = L.length
 st : leNum g 2 2 = start
 fit : 4 + 4 * L.length <= start
 le : start <= 512
 ptr : ∀ i s, L[i]? = some s -> leNum g (4 + 4 * i) 2 = Slot.from_ s /\ leNum g (6 + 4 * i) 2 = Slot.size s
 ver : ∀ (i f : Nat) (t : Tup), L[i]? = some (some (f, t)) -> start <= f /\ f + t.size <= 512 /\ t.Ok /\ ∀ j, j < t.size -> g (f + j) = t.ver j
 sep : ∀ (i j f : Nat) (t : Tup) (f' : Nat) (t' : Tup), i ≠ j -> L[i]? = some (some (f, t)) -> L[j]? = some (some (f', t')) -> f + t.size <= f' ∨ f' + t'.size <= f
 zero : ∀ x, 4 + 4 * L.length <= x -> x < 512 -> (∀ (i f : Nat) (t : Tup), L[i]? = some (some (f, t)) -> x < f ∨ f + t.size <= x) -> g x = 0
theorem Pg.new : Pg (putN (putN (fun _ => 0) 0 2 0) 2 2 512) [] 512 := by
 refine ⟨putN_lt (putN_lt (fun _ => by omega) _ _ _) _ _ _, ?_, leNum_putN (by omega), by simp, Nat.le_refl _, by simp, by simp, by simp, fun x h1 h2 _ => ?_⟩
 ·rw [leNum_putN_out (by omega), leNum_putN (by omega)]; rfl
 ·simp at h1
  rw [putN_out (by omega), putN_out (by omega)]
def insG (g : Nat -> Nat) (slot count from_ : Nat) (t : Tup) : Nat -> Nat :=
 putN (putN (layF (putN (putN g 0 2 count) 2 2 from_) from_ t.size t.ver) (4 + 4 * slot) 2 from_) (6 + 4 * slot) 2 t.size
def insL (L : List Slot) (slot : Nat) (s : Slot) : List Slot := if slot = L.length then L ++ [s] else L.set slot s
theorem insL_length (L : List Slot) (slot : Nat) (s : Slot) (h : slot <= L.length) : (insL L slot s).length = max L.length (slot + 1) := by
 unfold insL
 split
 ·simp; omega
 ·simp; omega
theorem insL_get (L : List Slot) (slot : Nat) (s : Slot) (h : slot <= L.length) (i : Nat) : (insL L slot s)[i]? = if i = slot then some s else L[i]? := by
 unfold insL
 split
 ·rename_i e
  subst e
  by_cases hi : i = L.length
  ·subst hi; simp
  ·rw [if_neg hi, List.getElem?_append]
   split
   ·rfl
   ·rw [List.getElem?_eq_none (by simp; omega), List.getElem?_eq_none (by omega)]
 ·rw [List.getElem?_set]
  by_cases hi : i = slot
  ·subst hi; simp [show i < L.length by omega]
  ·simp [hi, show ¬ slot = i by omega]
theorem Pg.insert {g : Nat -> Nat} {L : List Slot} {start slot : Nat} {t : Tup} (h : Pg g L start) (hs : slot <= L.length) (hfree : ∀ s, L[slot]? = some s -> s = none) (ht : t.Ok)
  (hroom : 4 + 4 * max L.length (slot + 1) + t.size <= start) :
  Pg (insG g slot (max L.length (slot + 1)) (start - t.size) t) (insL L slot (some (start - t.size, t))) (start - t.size) := by
 have hlen := insL_length L slot (some (start - t.size, t)) hs
 have hget := insL_get L slot (some (start - t.size, t)) hs
 have hb := ht.bounds
 have hts : t.size = 30 + t.data.length := rfl
 have hle := h.le
 have hfit := h.fit
 generalize hf : start - t.size = fr at *
 generalize hc : max L.length (slot + 1) = c at *
 have lt1 : ∀ i, insG g slot c fr t i < 256 := putN_lt (putN_lt (layF_lt (putN_lt (putN_lt h.lt _ _ _) _ _ _) _ _ (fun i _ => Tup.ver_lt ht.bytes i)) _ _ _) _ _ _
 have out : ∀ x, 4 <= x -> (x < 4 + 4 * slot ∨ 8 + 4 * slot <= x) -> (x < fr ∨ fr + t.size <= x) -> insG g slot c fr t x = g x := by
  intro x h1 h2 h3
  unfold insG
  rw [putN_out (by omega), putN_out (by omega), layF_out h3, putN_out (by omega), putN_out (by omega)]
 refine ⟨lt1, ?_, ?_, by omega, by omega, ?_, ?_, ?_, ?_⟩
 ·unfold insG
  rw [leNum_putN_out (by omega), leNum_putN_out (by omega), leNum_layF_out (by omega), leNum_putN_out (by omega), leNum_putN (by omega), hlen]
 ·unfold insG
  rw [leNum_putN_out (by omega), leNum_putN_out (by omega), leNum_layF_out (by omega), leNum_putN (by omega)]
 ·intro i s hi
  rw [hget] at hi
  by_cases e : i = slot
  ·subst e
   rw [if_pos rfl] at hi
   injection hi with hi
   subst hi
   unfold insG
   constructor
   ·rw [leNum_putN_out (by omega), leNum_putN (by omega)]; rfl
   ·rw [leNum_putN (by omega)]; rfl
  ·rw [if_neg e] at hi
   have hil : i < L.length := (List.getElem?_eq_some_iff.1 hi).1
   have := h.ptr i s hi
   constructor
   ·rw [leNum_congr (g' := g) _ _ (fun x h1 h2 => out x (by omega) (by omega) (by omega))]; exact this.1
   ·rw [leNum_congr (g' := g) _ _ (fun x h1 h2 => out x (by omega) (by omega) (by omega))]; exact this.2
 ·intro i f t' hi
  rw [hget] at hi
  by_cases e : i = slot
  ·subst e
   rw [if_pos rfl] at hi
   injection hi with hi
   injection hi with hi
   injection hi with h1 h2
   subst h1 h2
   refine ⟨Nat.le_refl _, by omega, ht, fun j hj => ?_⟩
   unfold insG
   rw [putN_out (by omega), putN_out (by omega), layF_in hj]
  ·rw [if_neg e] at hi
   obtain ⟨a, b, c', d⟩ := h.ver i f t' hi
   refine ⟨by omega, b, c', fun j hj => ?_⟩
   rw [out _ (by omega) (by omega) (by omega)]
   exact d j hj
 ·intro i j f t1 f' t2 hij hi hj
  rw [hget] at hi hj
  by_cases e : i = slot
  ·by_cases e' : j = slot
   ·omega
   ·rw [if_pos e] at hi
    rw [if_neg e'] at hj
    injection hi with hi
    injection hi with hi
    injection hi with h1 h2
    subst h1 h2
    have := (h.ver j f' t2 hj).1
    omega
  ·rw [if_neg e] at hi
   by_cases e' : j = slot
   ·rw [if_pos e'] at hj
    injection hj with hj
    injection hj with hj
    injection hj with h1 h2
    subst h1 h2
    have := (h.ver i f t1 hi).1
    omega
   ·rw [if_neg e'] at hj
    exact h.sep i j f t1 f' t2 hij hi hj
 ·intro x h1 h2 h3
  rw [hlen] at h1
  have h4 := h3 slot fr t (by rw [hget, if_pos rfl])
  rw [out x (by omega) (by omega) h4]
  refine h.zero x (by omega) h2 (fun i f t' hi => h3 i f t' ?_)
  rw [hget, if_neg (fun e => ?_)]
  ·exact hi
  ·subst e
   cases hfree _ hi
end Go.Lap
namespace Go.Lap
def Tup.stamp (t : Tup) (xmax : Nat) (pg sl : Int) : Tup := { t with xmax := xmax, pg := pg, sl := sl }
theorem Slot.stamp_same (f : Nat) (t : Tup) (xmax : Nat) (pg sl : Int) : Slot.from_ (some (f, t.stamp xmax pg sl)) = Slot.from_ (some (f, t)) /\ Slot.size (some (f, t.stamp xmax pg sl)) = Slot.size (some (f, t)) := ⟨rfl, rfl⟩
theorem Tup.stamp_size (t : Tup) (xmax : Nat) (pg sl : Int) : (t.stamp xmax pg sl).size = t.size := rfl
theorem Tup.stamp_ok {t : Tup} (h : t.Ok) {xmax : Nat} {pg sl : Int} (hx : xmax <= 1099511627776) (hf : farB pg sl = false) : (t.stamp xmax pg sl).Ok := by
 obtain ⟨h1, h2, h3, h4, h5⟩ := of_decide_eq_true h.right
 exact ⟨decide_eq_true ⟨h1, h2, hx, hf, h5⟩, h.bytes⟩
def stampG (g : Nat -> Nat) (f xmax : Nat) (pg sl : Int) : Nat -> Nat := putN (putN (putN g (f + 16) 8 xmax) (f + 24) 4 (pg + 1).toNat) (f + 28) 2 (sl + 1).toNat
theorem stampG_out {g : Nat -> Nat} {f xmax : Nat} {pg sl : Int} {x : Nat} (h : x < f + 16 ∨ f + 30 <= x) : stampG g f xmax pg sl x = g x := by
 unfold stampG
 rw [putN_out (by omega), putN_out (by omega), putN_out (by omega)]
theorem stampG_in {g : Nat -> Nat} {f xmax : Nat} {pg sl : Int} {t : Tup} (hg : ∀ j, j < t.size -> g (f + j) = t.ver j) (j : Nat) (hj : j < t.size) : stampG g f xmax pg sl (f + j) = (t.stamp xmax pg sl).ver j := by
 have h0 := hg j hj
 by_cases h1 : j < 16 ∨ 30 <= j
 ·rw [stampG_out (by omega), h0]
  unfold Tup.ver
  rcases h1 with h1 | h1
  ·rw [if_pos (by omega), if_pos (by omega)]
   unfold Tup.hdr Tup.stamp
   dsimp only
   rw [putN_out (g := putN _ 24 4 (t.pg + 1).toNat) (by omega), putN_out (g := putN _ 16 8 t.xmax) (by omega), putN_out (off := 16) (x := t.xmax) (by omega), putN_out (x := (sl + 1).toNat) (by omega), putN_out (x := (pg + 1).toNat) (by omega), putN_out (x := xmax) (by omega)]
  ·rw [if_neg (by omega), if_neg (by omega)]; rfl
 ·rw [Tup.ver, if_pos (by omega)]
  unfold stampG Tup.hdr Tup.stamp
  dsimp only
  by_cases h2 : 28 <= j
  ·unfold putN
   rw [if_pos (by omega), if_pos (by omega), show f + j - (f + 28) = j - 28 by omega]
  ·rw [putN_out (by omega), putN_out (g := putN _ 24 4 _) (by omega)]
   by_cases h3 : 24 <= j
   ·unfold putN
    rw [if_pos (by omega), if_pos (by omega), show f + j - (f + 24) = j - 24 by omega]
   ·rw [putN_out (by omega), putN_out (g := putN _ 16 8 _) (by omega)]
    unfold putN
    rw [if_pos (by omega), if_pos (by omega), show f + j - (f + 16) = j - 16 by omega]
theorem set_get (L : List Slot) (i : Nat) (s : Slot) (hi : i < L.length) (k : Nat) : (L.set i s)[k]? = if k = i then some s else L[k]? := by
 rw [List.getElem?_set]
 by_cases hk : k = i
 ·subst hk; simp [hi]
 ·simp [hk, show ¬ i = k by omega]
theorem Pg.stamp {g : Nat -> Nat} {L : List Slot} {start i f : Nat} {t : Tup} (h : Pg g L start) (hi : L[i]? = some (some (f, t))) {xmax : Nat} {pg sl : Int} (hx : xmax <= 1099511627776) (hf : farB pg sl = false) :
  Pg (stampG g f xmax pg sl) (L.set i (some (f, t.stamp xmax pg sl))) start := by
 have hil : i < L.length := (List.getElem?_eq_some_iff.1 hi).1
 have hget := set_get L i (some (f, t.stamp xmax pg sl)) hil
 obtain ⟨v1, v2, v3, v4⟩ := h.ver i f t hi
 have hfit := h.fit
 have hsz := Tup.size_pos t
 refine ⟨putN_lt (putN_lt (putN_lt h.lt _ _ _) _ _ _) _ _ _, ?_, ?_, by rw [List.length_set]; exact hfit, h.le, ?_, ?_, ?_, ?_⟩
 ·rw [leNum_congr (g' := g) _ _ (fun x h1 h2 => stampG_out (by omega)), h.cnt, List.length_set]
 ·rw [leNum_congr (g' := g) _ _ (fun x h1 h2 => stampG_out (by omega)), h.st]
 ·intro k s hk
  have hkl : k < L.length := by simpa using (List.getElem?_eq_some_iff.1 hk).1
  rw [hget] at hk
  have hp : leNum (stampG g f xmax pg sl) (4 + 4 * k) 2 = leNum g (4 + 4 * k) 2 /\ leNum (stampG g f xmax pg sl) (6 + 4 * k) 2 = leNum g (6 + 4 * k) 2 :=
   ⟨leNum_congr _ _ (fun x h1 h2 => stampG_out (by omega)), leNum_congr _ _ (fun x h1 h2 => stampG_out (by omega))⟩
  rw [hp.1, hp.2]
  by_cases e : k = i
  ·subst e
   rw [if_pos rfl] at hk
   injection hk with hk
   subst hk
   have := h.ptr k _ hi
   rw [(Slot.stamp_same f t xmax pg sl).1, (Slot.stamp_same f t xmax pg sl).2]
   exact this
  ·rw [if_neg e] at hk
   exact h.ptr k s hk
 ·intro k f' t' hk
  rw [hget] at hk
  by_cases e : k = i
  ·subst e
   rw [if_pos rfl] at hk
   injection hk with hk
   injection hk with hk
   injection hk with h1 h2
   subst h1 h2
   exact ⟨v1, v2, Tup.stamp_ok v3 hx hf, fun j hj => stampG_in v4 j hj⟩
  ·rw [if_neg e] at hk
   obtain ⟨u1, u2, u3, u4⟩ := h.ver k f' t' hk
   refine ⟨u1, u2, u3, fun j hj => ?_⟩
   have := h.sep k i f' t' f t e hk hi
   rw [stampG_out (by omega)]
   exact u4 j hj
 ·intro a b fa ta fb tb hab ha hb
  rw [hget] at ha hb
  by_cases e : a = i
  ·by_cases e' : b = i
   ·omega
   ·rw [if_pos e] at ha
    rw [if_neg e'] at hb
    injection ha with ha
    injection ha with ha
    injection ha with h1 h2
    subst h1 h2
    exact h.sep i b f t fb tb (by omega) hi hb
  ·rw [if_neg e] at ha
   by_cases e' : b = i
   ·rw [if_pos e'] at hb
    injection hb with hb
    injection hb with hb
    injection hb with h1 h2
    subst h1 h2
    exact h.sep a i fa ta f t (by omega) ha hi
   ·rw [if_neg e'] at hb
    exact h.sep a b fa ta fb tb hab ha hb
 ·intro x h1 h2 h3
  rw [List.length_set] at h1
  have h4 := h3 i f (t.stamp xmax pg sl) (by rw [hget, if_pos rfl])
  rw [Tup.stamp_size] at h4
  rw [stampG_out (by omega)]
  refine h.zero x h1 h2 (fun k f' t' hk => ?_)
  by_cases e : k = i
  ·subst e
   rw [hi] at hk
   injection hk with hk
   injection hk with hk
   injection hk with e1 e2
   subst e1 e2
   exact h4
  ·exact h3 k f' t' (by rw [hget, if_neg e]; exact hk)
def freeG (g : Nat -> Nat) (i f size : Nat) : Nat -> Nat := putN (putN (layF g f size (fun _ => 0)) (4 + 4 * i) 2 0) (6 + 4 * i) 2 0
theorem Pg.free {g : Nat -> Nat} {L : List Slot} {start i f : Nat} {t : Tup} (h : Pg g L start) (hi : L[i]? = some (some (f, t))) : Pg (freeG g i f t.size) (L.set i none) start := by
 have hil : i < L.length := (List.getElem?_eq_some_iff.1 hi).1
 have hget := set_get L i none hil
 obtain ⟨v1, v2, v3, v4⟩ := h.ver i f t hi
 have hfit := h.fit
 have hle := h.le
 have out : ∀ x, (x < 4 + 4 * i ∨ 8 + 4 * i <= x) -> (x < f ∨ f + t.size <= x) -> freeG g i f t.size x = g x := by
  intro x h1 h2
  unfold freeG
  rw [putN_out (by omega), putN_out (by omega), layF_out h2]
 refine ⟨putN_lt (putN_lt (layF_lt h.lt _ _ (fun _ _ => by omega)) _ _ _) _ _ _, ?_, ?_, by rw [List.length_set]; exact hfit, h.le, ?_, ?_, ?_, ?_⟩
 ·rw [leNum_congr (g' := g) _ _ (fun x h1 h2 => out x (by omega) (by omega)), h.cnt, List.length_set]
 ·rw [leNum_congr (g' := g) _ _ (fun x h1 h2 => out x (by omega) (by omega)), h.st]
 ·intro k s hk
  have hkl : k < L.length := by simpa using (List.getElem?_eq_some_iff.1 hk).1
  rw [hget] at hk
  by_cases e : k = i
  ·subst e
   rw [if_pos rfl] at hk
   injection hk with hk
   subst hk
   unfold freeG
   exact ⟨by rw [leNum_putN_out (by omega), leNum_putN (by omega)]; rfl, by rw [leNum_putN (by omega)]; rfl⟩
  ·rw [if_neg e] at hk
   have := h.ptr k s hk
   exact ⟨by rw [leNum_congr (g' := g) _ _ (fun x h1 h2 => out x (by omega) (by omega))]; exact this.1, by rw [leNum_congr (g' := g) _ _ (fun x h1 h2 => out x (by omega) (by omega))]; exact this.2⟩
 ·intro k f' t' hk
  rw [hget] at hk
  by_cases e : k = i
  ·rw [if_pos e] at hk; cases hk
  ·rw [if_neg e] at hk
   obtain ⟨u1, u2, u3, u4⟩ := h.ver k f' t' hk
   refine ⟨u1, u2, u3, fun j hj => ?_⟩
   have := h.sep k i f' t' f t e hk hi
   rw [out _ (by omega) (by omega)]
   exact u4 j hj
 ·intro a b fa ta fb tb hab ha hb
  rw [hget] at ha hb
  by_cases e : a = i
  ·rw [if_pos e] at ha; cases ha
  ·by_cases e' : b = i
   ·rw [if_pos e'] at hb; cases hb
   ·rw [if_neg e] at ha
    rw [if_neg e'] at hb
    exact h.sep a b fa ta fb tb hab ha hb
 ·intro x h1 h2 h3
  rw [List.length_set] at h1
  by_cases hx : x < f ∨ f + t.size <= x
  ·rw [out x (by omega) hx]
   refine h.zero x h1 h2 (fun k f' t' hk => ?_)
   by_cases e : k = i
   ·subst e
    rw [hi] at hk
    injection hk with hk
    injection hk with hk
    injection hk with e1 e2
    subst e1 e2
    exact hx
   ·exact h3 k f' t' (by rw [hget, if_neg e]; exact hk)
  ·unfold freeG
   rw [putN_out (by omega), putN_out (by omega)]
   unfold layF
   rw [if_pos (by omega)]
def trimG (g : Nat -> Nat) (m n start : Nat) : Nat -> Nat := putN (putN (layF g (4 + 4 * m) (4 * (n - m)) (fun _ => 0)) 0 2 m) 2 2 start
theorem Pg.trim {g : Nat -> Nat} {L : List Slot} {start m : Nat} (h : Pg g L start) (hm : m <= L.length) (hn : ∀ k s, m <= k -> L[k]? = some s -> s = none) : Pg (trimG g m L.length start) (L.take m) start := by
 have hfit := h.fit
 have hle := h.le
 have hlen : (L.take m).length = m := by simp; omega
 have hget : ∀ k, (L.take m)[k]? = if k < m then L[k]? else none := by
  intro k
  rw [List.getElem?_take]
 have out : ∀ x, 4 <= x -> (x < 4 + 4 * m ∨ 4 + 4 * L.length <= x) -> trimG g m L.length start x = g x := by
  intro x h0 h1
  unfold trimG
  rw [putN_out (by omega), putN_out (by omega), layF_out (by omega)]
 refine ⟨putN_lt (putN_lt (layF_lt h.lt _ _ (fun _ _ => by omega)) _ _ _) _ _ _, ?_, ?_, by rw [hlen]; omega, h.le, ?_, ?_, ?_, ?_⟩
 ·unfold trimG
  rw [leNum_putN_out (by omega), leNum_putN (by omega), hlen]
 ·unfold trimG
  rw [leNum_putN (by omega)]
 ·intro k s hk
  rw [hget] at hk
  by_cases e : k < m
  ·rw [if_pos e] at hk
   have := h.ptr k s hk
   exact ⟨by rw [leNum_congr (g' := g) _ _ (fun x h1 h2 => out x (by omega) (by omega))]; exact this.1, by rw [leNum_congr (g' := g) _ _ (fun x h1 h2 => out x (by omega) (by omega))]; exact this.2⟩
  ·rw [if_neg e] at hk; cases hk
 ·intro k f t hk
  rw [hget] at hk
  by_cases e : k < m
  ·rw [if_pos e] at hk
   obtain ⟨u1, u2, u3, u4⟩ := h.ver k f t hk
   refine ⟨u1, u2, u3, fun j hj => ?_⟩
   rw [out _ (by omega) (by omega)]
   exact u4 j hj
  ·rw [if_neg e] at hk; cases hk
 ·intro a b fa ta fb tb hab ha hb
  rw [hget] at ha hb
  by_cases e : a < m
  ·by_cases e' : b < m
   ·rw [if_pos e] at ha
    rw [if_pos e'] at hb
    exact h.sep a b fa ta fb tb hab ha hb
   ·rw [if_neg e'] at hb; cases hb
  ·rw [if_neg e] at ha; cases ha
 ·intro x h1 h2 h3
  rw [hlen] at h1
  by_cases hx : 4 + 4 * L.length <= x
  ·rw [out x (by omega) (by omega)]
   refine h.zero x hx h2 (fun k f t hk => ?_)
   by_cases e : k < m
   ·exact h3 k f t (by rw [hget, if_pos e]; exact hk)
   ·have := hn k _ (by omega) hk
    cases this
  ·unfold trimG
   rw [putN_out (by omega), putN_out (by omega)]
   unfold layF
   rw [if_pos (by omega)]
def movStep (p : List Slot × Nat) (s : Slot) : List Slot × Nat :=
 match s with
 | none => (p.1 ++ [none], p.2)
 | some (_, t) => (p.1 ++ [some (p.2 - t.size, t)], p.2 - t.size)
def movTo (L : List Slot) : List Slot × Nat := L.foldl movStep ([], 512)
def sumS (L : List Slot) : Nat := (L.map Slot.size).sum
theorem movTo_snoc (L : List Slot) (s : Slot) : movTo (L ++ [s]) = movStep (movTo L) s := by simp [movTo, List.foldl_append]
theorem sumS_snoc (L : List Slot) (s : Slot) : sumS (L ++ [s]) = sumS L + Slot.size s := by simp [sumS]
structure Mv (g g0 : Nat -> Nat) (n i : Nat) (M : List Slot) (at_ : Nat) : Prop where
 lt : ∀ x, g x < 256
 len : M.length = i
 same : ∀ x, x < 4 ∨ (4 + 4 * i <= x /\ x < 4 + 4 * n) -> g x = g0 x
 lo : 4 + 4 * n <= at_
 hi : at_ <= 512
 ptr : ∀ k s, M[k]? = some s -> leNum g (4 + 4 * k) 2 = Slot.from_ s /\ leNum g (6 + 4 * k) 2 = Slot.size s
 ver : ∀ (k f : Nat) (t : Tup), M[k]? = some (some (f, t)) -> at_ <= f /\ f + t.size <= 512 /\ t.Ok /\ ∀ j, j < t.size -> g (f + j) = t.ver j
 sep : ∀ (k j f : Nat) (t : Tup) (f' : Nat) (t' : Tup), k ≠ j -> M[k]? = some (some (f, t)) -> M[j]? = some (some (f', t')) -> f + t.size <= f' ∨ f' + t'.size <= f
 zero : ∀ x, 4 + 4 * n <= x -> x < 512 -> (∀ (k f : Nat) (t : Tup), M[k]? = some (some (f, t)) -> x < f ∨ f + t.size <= x) -> g x = 0
theorem Mv.start {g : Nat -> Nat} {n : Nat} (hg : ∀ x, g x < 256) (hn : 4 + 4 * n <= 512) : Mv (layF g (4 + 4 * n) (512 - (4 + 4 * n)) (fun _ => 0)) g n 0 [] 512 := by
 refine ⟨layF_lt hg _ _ (fun _ _ => by omega), rfl, fun x hx => layF_out (by omega), hn, Nat.le_refl _, by simp, by simp, by simp, fun x h1 h2 _ => ?_⟩
 unfold layF
 rw [if_pos (by omega)]
theorem snoc_old {α : Type} {M : List α} {s : α} {k : Nat} {x : α} (h : M[k]? = some x) : (M ++ [s])[k]? = some x := by
 rw [List.getElem?_append_left (List.getElem?_eq_some_iff.1 h).1]; exact h
theorem Mv.none {g g0 : Nat -> Nat} {n i at_ : Nat} {M : List Slot} (h : Mv g g0 n i M at_) (hi : i < n) (h0 : leNum g0 (4 + 4 * i) 2 = 0 /\ leNum g0 (6 + 4 * i) 2 = 0) : Mv g g0 n (i + 1) (M ++ [Option.none]) at_ := by
 refine ⟨h.lt, by simp [h.len], fun x hx => h.same x (by omega), h.lo, h.hi, fun k s hk => ?_, fun k f t hk => ?_, fun k j f t f' t' hkj hk hj => ?_, fun x h1 h2 h3 => h.zero x h1 h2 (fun k f t hk => h3 k f t (snoc_old hk))⟩
 ·rcases snoc_get hk with ⟨_, hk⟩ | ⟨rfl, rfl⟩
  ·exact h.ptr k s hk
  ·rw [h.len]
   exact ⟨by rw [leNum_congr (g' := g0) _ _ (fun x h1 h2 => h.same x (by omega))]; exact h0.1, by rw [leNum_congr (g' := g0) _ _ (fun x h1 h2 => h.same x (by omega))]; exact h0.2⟩
 ·rcases snoc_get hk with ⟨_, hk⟩ | ⟨_, e⟩
  ·exact h.ver k f t hk
  ·cases e
 ·rcases snoc_get hk with ⟨_, hk⟩ | ⟨_, e⟩
  ·rcases snoc_get hj with ⟨_, hj⟩ | ⟨_, e⟩
   ·exact h.sep k j f t f' t' hkj hk hj
   ·cases e
  ·cases e
def movG (g : Nat -> Nat) (i at_ : Nat) (t : Tup) : Nat -> Nat := putN (putN (layF g at_ t.size t.ver) (4 + 4 * i) 2 at_) (6 + 4 * i) 2 t.size
theorem Mv.some {g g0 : Nat -> Nat} {n i at_ : Nat} {M : List Slot} {t : Tup} (h : Mv g g0 n i M at_) (hi : i < n) (ht : t.Ok) (hr : 4 + 4 * n + t.size <= at_) :
  Mv (movG g i (at_ - t.size) t) g0 n (i + 1) (M ++ [Option.some (at_ - t.size, t)]) (at_ - t.size) := by
 have hh := h.hi
 have hb := ht.bounds
 have hts : t.size = 30 + t.data.length := rfl
 have hl := h.len
 generalize hf : at_ - t.size = fr at *
 have out : ∀ x, (x < 4 + 4 * i ∨ 8 + 4 * i <= x) -> (x < fr ∨ fr + t.size <= x) -> movG g i fr t x = g x := by
  intro x h1 h2
  unfold movG
  rw [putN_out (by omega), putN_out (by omega), layF_out h2]
 refine ⟨putN_lt (putN_lt (layF_lt h.lt _ _ (fun j _ => Tup.ver_lt ht.bytes j)) _ _ _) _ _ _, by simp [hl], fun x hx => ?_, by omega, by omega, fun k s hk => ?_, fun k f t' hk => ?_, fun k j f t1 f' t2 hkj hk hj => ?_, fun x h1 h2 h3 => ?_⟩
 ·rw [out x (by omega) (by omega)]
  exact h.same x (by omega)
 ·rcases snoc_get hk with ⟨hlt, hk⟩ | ⟨rfl, rfl⟩
  ·have := h.ptr k s hk
   exact ⟨by rw [leNum_congr (g' := g) _ _ (fun x h1 h2 => out x (by omega) (by omega))]; exact this.1, by rw [leNum_congr (g' := g) _ _ (fun x h1 h2 => out x (by omega) (by omega))]; exact this.2⟩
  ·rw [hl]
   unfold movG
   exact ⟨by rw [leNum_putN_out (by omega), leNum_putN (by omega)]; rfl, by rw [leNum_putN (by omega)]; rfl⟩
 ·rcases snoc_get hk with ⟨hlt, hk⟩ | ⟨rfl, e⟩
  ·obtain ⟨u1, u2, u3, u4⟩ := h.ver k f t' hk
   refine ⟨by omega, u2, u3, fun j hj => ?_⟩
   rw [out _ (by omega) (by omega)]
   exact u4 j hj
  ·injection e with e
   injection e with e1 e2
   subst e1 e2
   refine ⟨Nat.le_refl _, by omega, ht, fun j hj => ?_⟩
   unfold movG
   rw [putN_out (by omega), putN_out (by omega), layF_in hj]
 ·rcases snoc_get hk with ⟨_, hk'⟩ | ⟨e0, e⟩
  ·rcases snoc_get hj with ⟨_, hj'⟩ | ⟨_, e⟩
   ·exact h.sep k j f t1 f' t2 hkj hk' hj'
   ·have := (h.ver k f t1 hk').1
    injection e with e
    injection e with e1 e2
    subst e1 e2
    omega
  ·rcases snoc_get hj with ⟨_, hj'⟩ | ⟨e1, _⟩
   ·have := (h.ver j f' t2 hj').1
    injection e with e
    injection e with e1 e2
    subst e1 e2
    omega
   ·omega
 ·have h4 := h3 M.length fr t (by simp)
  rw [out x (by omega) h4]
  exact h.zero x h1 h2 (fun k f t hk => h3 k f t (snoc_old hk))
theorem Mv.done {g g0 : Nat -> Nat} {n at_ : Nat} {M : List Slot} (h : Mv g g0 n n M at_) : Pg (putN (putN g 0 2 n) 2 2 at_) M at_ := by
 have hl := h.len
 have hlo := h.lo
 have hhi := h.hi
 have out : ∀ x, 4 <= x -> putN (putN g 0 2 n) 2 2 at_ x = g x := by
  intro x hx
  rw [putN_out (by omega), putN_out (by omega)]
 refine ⟨putN_lt (putN_lt h.lt _ _ _) _ _ _, ?_, leNum_putN (by omega), by omega, by omega, fun k s hk => ?_, fun k f t hk => ?_, h.sep, fun x h1 h2 h3 => ?_⟩
 ·rw [leNum_putN_out (by omega), leNum_putN (by omega), hl]
 ·have := h.ptr k s hk
  exact ⟨by rw [leNum_congr (g' := g) _ _ (fun x h1 h2 => out x (by omega))]; exact this.1, by rw [leNum_congr (g' := g) _ _ (fun x h1 h2 => out x (by omega))]; exact this.2⟩
 ·obtain ⟨u1, u2, u3, u4⟩ := h.ver k f t hk
  refine ⟨u1, u2, u3, fun j hj => ?_⟩
  rw [out _ (by omega)]
  exact u4 j hj
 ·rw [out x (by omega)]
  exact h.zero x (by omega) h2 h3
end Go.Lap
namespace Go.Lap
open Go.RowKit
def byteF (g : Nat -> Nat) (i : Nat) : Value := .int .u8 (g i)
def Bk (w : World) (b N : Nat) (t : TypeId) (g : Nat -> Nat) : Prop := w.heap[b]? = some (.cells (tab N (byteF g)) t (0, 0))
theorem Bk.cell {w : World} {b N : Nat} {t : TypeId} {g : Nat -> Nat} (h : Bk w b N t g) {i : Nat} (hi : i < N) : w.cell? ⟨b, i, none⟩ = some (.int .u8 (g i)) := by
 rw [cell_of h, tab_get hi]; rfl
theorem Bk.frozen {w : World} {b N : Nat} {t : TypeId} {g : Nat -> Nat} (h : Bk w b N t g) (i : Nat) : w.frozen? ⟨b, i, none⟩ = false := frozen_of h i
theorem Bk.kept {S : Nat -> Prop} {w w' : World} {b N : Nat} {t : TypeId} {g : Nat -> Nat} (h : Bk w b N t g) (ho : Only S w w') (hn : ¬ S b) : Bk w' b N t g := ho.get h hn
theorem Bk.lt {w : World} {b N : Nat} {t : TypeId} {g : Nat -> Nat} (h : Bk w b N t g) : b < w.heap.size := lt_of_get h
theorem Bk.ext {w : World} {b N : Nat} {t : TypeId} {g g' : Nat -> Nat} (h : Bk w b N t g) (he : ∀ i, i < N -> g i = g' i) : Bk w b N t g' := by
 unfold Bk at *
 rw [h, tab_ext (g := byteF g') (fun i hi => by unfold byteF; rw [he i hi])]
theorem Bk.set {w : World} {b N : Nat} {t : TypeId} {g : Nat -> Nat} (h : Bk w b N t g) (i x : Nat) : Bk (w.setCell ⟨b, i, none⟩ (.int .u8 x)) b N t (fun j => if j = i then x else g j) := by
 unfold Bk at *
 rw [set_same h, tab_set]
 congr 2
 apply tab_ext
 intro j _
 unfold byteF
 by_cases e : j = i <;> simp [e]
theorem or_low (v c : Nat) (hv : v < 72057594037927936) (hc : c < 256) : bits .or .u64 ((v : Int) * 256) (c : Int) = ((c + 256 * v : Nat) : Int) := by
 have h := u64_or_nat (v * 256) c (by omega) (by omega)
 rw [show (((v * 256 : Nat)) : Int) = (v : Int) * 256 by omega] at h
 rw [h]
 have e := Nat.two_pow_add_eq_or_of_lt (i := 8) (b := c) (by simpa using hc) v
 rw [show v * 256 = 2 ^ 8 * v by omega, <- e]
 omega
theorem shift_byte (x k : Nat) : (x : Int) / 2 ^ (8 * k) % 256 = ((x / 256 ^ k % 256 : Nat) : Int) := by
 have e : (2 : Int) ^ (8 * k) = ((256 ^ k : Nat) : Int) := by
  rw [Int.pow_mul]
  norm_cast
 rw [e, <- Int.natCast_ediv]
 rfl
theorem leNum_down {g : Nat -> Nat} {off n k : Nat} (h0 : 0 < k) (hk : k <= n) : leNum g (off + (k - 1)) (n - (k - 1)) = g (off + (k - 1)) + 256 * leNum g (off + k) (n - k) := by
 rw [show n - (k - 1) = (n - k) + 1 by omega, leNum, show off + (k - 1) + 1 = off + k by omega]
end Go.Lap
namespace Go.Proofs.YthipgglplneijaaGreatDoor
open Go.RowKit Go.Lap
set_option maxHeartbeats 400000 in
theorem num_any (b N off n cap : Nat) (t : TypeId) (g : Nat -> Nat) (w : World) (hb : Bk w b N t g) (hg : ∀ i, g i < 256) (hn : n <= 8) (hN : off + n <= N) (hm : N <= 1000) :
  Calls Tryz.prog 164 #[.slice (some ⟨b, off, none⟩) n cap] w fun e w' => e = .returned (.int .u64 (leNum g off n)) /\ w = w' := by
 have HB := Lib.hid hb
 have HG := Lib.hid hg
 clear hb hg
 go_enter Tryz.func164, Tryz.ntmps164
 go_wp2
 go_loop [3, 4] (fun v i => ∃ k : Nat, k <= n /\ i = .int .i64 ((k : Int) - 1) /\ v = .int .u64 (leNum g (off + k) (n - k))) (fun _ i => ((intOf i) + 1).toNat)
 case atStart => exact ⟨n, Nat.le_refl _, by go_num, by simp [leNum]⟩
 case round =>
  obtain ⟨k, hk, rfl, rfl⟩ := hrel
  by_cases h0 : 0 < k
  ·have hc := HB.out.cell (i := off + (k - 1)) (by omega)
   have hlt := leNum_lt HG.out (n - k) (off + k)
   have h8 := HG.out (off + (k - 1))
   obtain ⟨v, hv⟩ : ∃ v, v = leNum g (off + k) (n - k) := ⟨_, rfl⟩
   obtain ⟨c, hcc⟩ : ∃ c, c = g (off + (k - 1)) := ⟨_, rfl⟩
   rw [<- hcc] at hc h8
   rw [<- hv] at hlt ⊢
   have HV := Lib.hid hv
   have HCC := Lib.hid hcc
   have h56 : v < 72057594037927936 := by
    have : 256 ^ (n - k) <= 256 ^ 7 := Nat.pow_le_pow_right (by omega) (by omega)
    omega
   clear hv hcc hlt
   go_wp2
   go_round
   case rel =>
    refine ⟨k - 1, by omega, by rw [show ((k : Int) - 1 - 1) = ((k - 1 : Nat) : Int) - 1 by omega], ?_⟩
    rw [or_low v c h56 h8, leNum_down h0 hk, <- HV.out, <- HCC.out]
   case measure => simp [intOf]; omega
  ·obtain rfl : k = 0 := by omega
   go_wp2
   go_ret
   exact ⟨by simp, rfl⟩
def PutW (w wr : World) (b N off k x : Nat) (t : TypeId) (g : Nat -> Nat) : Prop := Only (· = b) w wr /\ Bk wr b N t (putN g off k x)
theorem PutW.next {w wr : World} {b N off k x : Nat} {t : TypeId} {g : Nat -> Nat} (h : PutW w wr b N off k x t g) {c : Int} (hc : c = ((x / 256 ^ k % 256 : Nat) : Int)) : PutW w (wr.setCell ⟨b, off + k, none⟩ (.int .u8 c)) b N off (k + 1) x t g := by
 subst hc
 refine ⟨h.1.setCell (fun _ => rfl) _, (h.2.set _ _).ext (fun i _ => ?_)⟩
 unfold putN
 by_cases e : i = off + k
 ·subst e
  rw [if_pos rfl, if_pos (by omega), Nat.add_sub_cancel_left]
 ·rw [if_neg e]
  by_cases e2 : off <= i /\ i < off + k
  ·rw [if_pos e2, if_pos (by omega)]
  ·rw [if_neg e2, if_neg (by omega)]
set_option maxHeartbeats 400000 in
theorem put_any (b N off n cap x : Nat) (t : TypeId) (g : Nat -> Nat) (w : World) (hb : Bk w b N t g) (hn : n <= 8) (hN : off + n <= N) (hm : N <= 1000) (hx : x < 18446744073709551616) :
  Calls Tryz.prog 116 #[.slice (some ⟨b, off, none⟩) n cap, .int .u64 x] w fun e w' => e = .returned (.tuple #[]) /\ Only (· = b) w w' /\ Bk w' b N t (putN g off n x) := by
 have HB : Hid (PutW w w b N off 0 x t g) := ⟨Only.refl _ _, hb.ext (fun i _ => by unfold putN; rw [if_neg (by omega)])⟩
 clear hb
 go_enter Tryz.func116, Tryz.ntmps116
 go_wp2
 go_loopw [7] (fun v wr => ∃ k : Nat, k <= n /\ v = .int .i64 k /\ PutW w wr b N off k x t g) (fun v _ => n - (intOf v).toNat)
 case atStart => exact ⟨0, Nat.zero_le _, rfl, HB.out⟩
 case round =>
  obtain ⟨k, hk, rfl, hW⟩ := hrel
  have HW := Lib.hid hW
  have hc := hW.2.cell (i := off + k)
  have hf := hW.2.frozen (off + k)
  clear hW HB
  by_cases hlt : k < n
  ·have hc := hc (by omega)
   go_wp2
   go_roundw
   case rel =>
    exact ⟨k + 1, by omega, by go_num, HW.out.next (shift_byte x k)⟩
   case measure => simp [intOf]; omega
  ·clear hc
   obtain rfl : k = n := by omega
   go_wp2
   go_end0
   exact ⟨rfl, HW.out⟩
abbrev pageT : TypeId := 230
theorem num2_lt {g : Nat -> Nat} (hg : ∀ i, g i < 256) (off : Nat) : leNum g off 2 < 65536 := leNum_lt hg 2 off
theorem arr512 : Tryz.prog.arrayLen 228 = 512 := by kernel_rfl
theorem und512 : Tryz.prog.underlying 228 = some (.array (Tryz.prog.arrayLen 228) (Tryz.prog.elem 228)) := by kernel_rfl
theorem size512 (w : World) : (sizeOf (Tryz.prog.elem 228)).run Tryz.prog w = .ok 1 w := by kernel_rfl
theorem page_from (b l : Nat) (L : Int) (hL : L = l) (hl : l < 512) (w : World) :
  (Instr.sliceAt 228 (.pointer (some ⟨b, 0, none⟩)) (some (.int .i64 L)) none none).run Tryz.prog w = .ok (.slice (some ⟨b, l, none⟩) (512 - l) (512 - l)) w := by
 subst hL
 rw [run_sliceAt_array_l w _ _ und512 _ _ (by omega) (by rw [arr512]; omega), size512]
 simp only [Result.andThen_ok, slicedAt, arr512, Int.toNat_natCast, if_neg (show ¬ 512 = l by omega), Nat.mul_one, add_none, Nat.zero_add]
theorem page_range (b l h : Nat) (L H : Int) (hL : L = l) (hH : H = h) (hl : l < 512) (hlh : l <= h) (hh : h <= 512) (w : World) :
  (Instr.sliceAt 228 (.pointer (some ⟨b, 0, none⟩)) (some (.int .i64 L)) (some (.int .i64 H)) none).run Tryz.prog w = .ok (.slice (some ⟨b, l, none⟩) (h - l) (512 - l)) w := by
 subst hL hH
 rw [run_sliceAt_array_lh w _ _ und512 _ _ _ _ (by omega) (by omega) (by rw [arr512]; omega), size512]
 simp only [Result.andThen_ok, slicedAt, arr512, Int.toNat_natCast, if_neg (show ¬ 512 = l by omega), Nat.mul_one, add_none, Nat.zero_add]
set_option maxHeartbeats 400000 in
theorem count_any (b : Nat) (g : Nat -> Nat) (w : World) (hb : Bk w b 512 pageT g) (hg : ∀ i, g i < 256) :
  Calls Tryz.prog 142 #[.pointer (some ⟨b, 0, none⟩)] w fun e w' => e = .returned (.int .i64 (leNum g 0 2)) /\ w = w' := by
 have h16 := num2_lt hg 0
 have HB := Lib.hid hb
 have HG := Lib.hid hg
 clear hb hg
 go_enter Tryz.func142, Tryz.ntmps142
 go_wp2_with fail
 refine (num_any _ 512 _ _ _ pageT g _ HB.out HG.out (by omega) (by omega) (by omega)).mono ?_
 rintro e w' ⟨rfl, rfl⟩
 go_wp2
 go_ret
 exact ⟨rfl, rfl⟩
set_option maxHeartbeats 400000 in
theorem start_any (b : Nat) (g : Nat -> Nat) (w : World) (hb : Bk w b 512 pageT g) (hg : ∀ i, g i < 256) :
  Calls Tryz.prog 143 #[.pointer (some ⟨b, 0, none⟩)] w fun e w' => e = .returned (.int .i64 (leNum g 2 2)) /\ w = w' := by
 have h16 := num2_lt hg 2
 have HB := Lib.hid hb
 have HG := Lib.hid hg
 clear hb hg
 go_enter Tryz.func143, Tryz.ntmps143
 go_wp2_with fail
 refine (num_any _ 512 _ _ _ pageT g _ HB.out HG.out (by omega) (by omega) (by omega)).mono ?_
 rintro e w' ⟨rfl, rfl⟩
 go_wp2
 go_ret
 exact ⟨rfl, rfl⟩
set_option maxHeartbeats 400000 in
theorem pset_any (b c s : Nat) (g : Nat -> Nat) (w : World) (hb : Bk w b 512 pageT g) (hc : c < 65536) (hs : s < 65536) :
  Calls Tryz.prog 113 #[.pointer (some ⟨b, 0, none⟩), .int .i64 c, .int .i64 s] w fun e w' => e = .returned (.tuple #[]) /\ Only (· = b) w w' /\ Bk w' b 512 pageT (putN (putN g 0 2 c) 2 2 s) := by
 have HB := Lib.hid hb
 clear hb
 go_enter Tryz.func113, Tryz.ntmps113
 go_wp2_with fail
 refine (put_any _ 512 _ _ _ c pageT g _ HB.out (by omega) (by omega) (by omega) (by omega)).mono ?_
 rintro e w1 ⟨rfl, ho1, hb1⟩
 have HO1 := Lib.hid ho1
 have HB1 := Lib.hid hb1
 clear ho1 hb1
 go_wp2_with fail
 refine (put_any _ 512 _ _ _ s pageT _ _ HB1.out (by omega) (by omega) (by omega) (by omega)).mono ?_
 rintro e w2 ⟨rfl, ho2, hb2⟩
 have HO2 := Lib.hid (HO1.out.trans ho2)
 have HB2 := Lib.hid hb2
 clear ho2 hb2
 go_wp2_with fail
 go_end0
 exact ⟨rfl, HO2.out, HB2.out⟩
set_option maxHeartbeats 400000 in
theorem at_any (b i : Nat) (g : Nat -> Nat) (w : World) (hb : Bk w b 512 pageT g) (hg : ∀ i, g i < 256) (hi : 8 + 4 * i <= 512) :
  Calls Tryz.prog 158 #[.pointer (some ⟨b, 0, none⟩), .int .i64 i] w fun e w' => e = .returned (.tuple #[.int .i64 (leNum g (4 + 4 * i) 2), .int .i64 (leNum g (4 + 4 * i + 2) 2)]) /\ ∃ n, w' = w.drewN n := by
 have h1 := num2_lt hg (4 + 4 * i)
 have h2 := num2_lt hg (4 + 4 * i + 2)
 have HB := Lib.hid hb
 have HG := Lib.hid hg
 clear hb hg
 have hsl := fun w => page_from b (4 + 4 * i) (4 + 4 * (i : Int)) (by omega) (by omega) w
 go_enter Tryz.func158, Tryz.ntmps158
 go_wp2_with fail
 go_quiet ((go_at_call 164; exact quiet_left (num_any _ 512 _ _ _ pageT g _ HB.out HG.out (by omega) (by omega) (by omega))))
 go_wp2
 go_ret2
 exact ⟨rfl, _, rfl⟩
set_option maxHeartbeats 400000 in
theorem point_any (b i f s : Nat) (g : Nat -> Nat) (w : World) (hb : Bk w b 512 pageT g) (hi : 8 + 4 * i <= 512) (hc : f < 65536) (hs : s < 65536) :
  Calls Tryz.prog 145 #[.pointer (some ⟨b, 0, none⟩), .int .i64 i, .int .i64 f, .int .i64 s] w fun e w' => e = .returned (.tuple #[]) /\ Only (· = b) w w' /\ Bk w' b 512 pageT (putN (putN g (4 + 4 * i) 2 f) (4 + 4 * i + 2) 2 s) := by
 have HB := Lib.hid hb
 clear hb
 have hsl := fun w => page_from b (4 + 4 * i) (4 + 4 * (i : Int)) (by omega) (by omega) w
 go_enter Tryz.func145, Tryz.ntmps145
 go_wp2_with fail
 refine (put_any _ 512 _ _ _ f pageT g _ HB.out (by omega) (by omega) (by omega) (by omega)).mono ?_
 rintro e w1 ⟨rfl, ho1, hb1⟩
 have HO1 := Lib.hid ho1
 have HB1 := Lib.hid hb1
 clear ho1 hb1
 go_wp2_with fail
 refine (put_any _ 512 _ _ _ s pageT _ _ HB1.out (by omega) (by omega) (by omega) (by omega)).mono ?_
 rintro e w2 ⟨rfl, ho2, hb2⟩
 have HO2 := Lib.hid (HO1.out.trans ho2)
 have HB2 := Lib.hid hb2
 clear ho2 hb2
 go_wp2_with fail
 go_end0
 exact ⟨rfl, HO2.out, HB2.out⟩
end Go.Proofs.YthipgglplneijaaGreatDoor
namespace Go.Lap
open Go.RowKit
def slotAt (L : List Slot) (i : Int) : Slot := if i < 0 then none else (L[i.toNat]?).join
theorem slotAt_nat (L : List Slot) (i : Nat) : slotAt L i = (L[i]?).join := by
 unfold slotAt
 rw [if_neg (by omega), Int.toNat_natCast]
theorem slotAt_some {L : List Slot} {i : Int} {f : Nat} {t : Tup} (h : slotAt L i = some (f, t)) : ∃ k : Nat, i = k /\ k < L.length /\ L[k]? = some (some (f, t)) := by
 unfold slotAt at h
 split at h
 ·cases h
 ·rename_i h0
  obtain ⟨k, rfl⟩ := Int.eq_ofNat_of_zero_le (show 0 <= i by omega)
  rw [Int.toNat_natCast] at h
  rcases hk : L[k]? with _ | s
  ·rw [hk] at h; cases h
  ·rw [hk] at h
   have : s = some (f, t) := h
   subst this
   exact ⟨k, rfl, (List.getElem?_eq_some_iff.1 hk).1, hk⟩
def freeIdx (L : List Slot) : Nat := (L.findIdx? (fun s => s.isNone)).getD L.length
theorem freeIdx_le (L : List Slot) : freeIdx L <= L.length := by
 unfold freeIdx
 rcases h : L.findIdx? (fun s => s.isNone) with _ | i
 ·rw [h]; exact Nat.le_refl _
 ·rw [h]
  rw [List.findIdx?_eq_some_iff_getElem] at h
  obtain ⟨hi, _⟩ := h
  exact Nat.le_of_lt hi
theorem freeIdx_free (L : List Slot) : ∀ s, L[freeIdx L]? = some s -> s = none := by
 intro s hs
 unfold freeIdx at hs
 rcases h : L.findIdx? (fun s => s.isNone) with _ | i
 ·rw [h] at hs
  simp at hs
 ·rw [h] at hs
  rw [List.findIdx?_eq_some_iff_getElem] at h
  obtain ⟨hi, h1, _⟩ := h
  simp only [Option.getD_some] at hs
  rw [List.getElem?_eq_getElem hi] at hs
  injection hs with hs
  subst hs
  simpa using h1
theorem freeIdx_at {L : List Slot} {k : Nat} (hk : L[k]? = some none) (h : ∀ j, j < k -> ∀ s, L[j]? = some s -> s ≠ none) : freeIdx L = k := by
 have hkl : k < L.length := (List.getElem?_eq_some_iff.1 hk).1
 have : L.findIdx? (fun s => s.isNone) = some k := by
  rw [List.findIdx?_eq_some_iff_getElem]
  refine ⟨hkl, ?_, fun j hj => ?_⟩
  ·rw [List.getElem?_eq_getElem hkl] at hk; injection hk with hk; rw [hk]; rfl
  ·have := h j hj _ (List.getElem?_eq_getElem (by omega))
   simpa using this
 unfold freeIdx
 rw [this]; rfl
theorem freeIdx_none {L : List Slot} (h : ∀ j, j < L.length -> ∀ s, L[j]? = some s -> s ≠ none) : freeIdx L = L.length := by
 have : L.findIdx? (fun s => s.isNone) = Option.none := by
  rw [List.findIdx?_eq_none_iff]
  intro s hs
  obtain ⟨j, hj, rfl⟩ := List.mem_iff_getElem.1 hs
  have := h j hj _ (List.getElem?_eq_getElem hj)
  cases hx : L[j]
  ·exact absurd hx this
  ·rfl
 unfold freeIdx
 rw [this]; rfl
def spent (L : List Slot) : Nat := (L.map (fun s => 4 + Slot.size s)).sum
theorem spent_snoc (L : List Slot) (s : Slot) : spent (L ++ [s]) = spent L + (4 + Slot.size s) := by simp [spent]
theorem spent_take_succ (L : List Slot) (k : Nat) (s : Slot) (h : L[k]? = some s) : spent (L.take (k + 1)) = spent (L.take k) + (4 + Slot.size s) := by
 rw [<- spent_snoc]
 congr 1
 rw [List.take_add_one, h]; rfl
def roomOf (L : List Slot) : Int := max (478 - spent L - (if freeIdx L = L.length then 4 else 0)) (-1)
def usedOf (L : List Slot) : Nat := (L.filter (fun s => s.isSome)).length
theorem usedOf_take_succ (L : List Slot) (k : Nat) (s : Slot) (h : L[k]? = some s) : usedOf (L.take (k + 1)) = usedOf (L.take k) + (if s.isSome then 1 else 0) := by
 have e : L.take (k + 1) = L.take k ++ [s] := by rw [List.take_add_one, h]; rfl
 unfold usedOf
 rw [e, List.filter_append, List.length_append]
 cases s <;> rfl
end Go.Lap
namespace Go.Proofs.YthipgglplneijaaGreatDoor
open Go.RowKit Go.Lap
def PageAt (w : World) (b : Nat) (L : List Slot) (st : Nat) : Prop := ∃ g, Bk w b 512 pageT g /\ Pg g L st
theorem PageAt.kept {S : Nat -> Prop} {w w' : World} {b st : Nat} {L : List Slot} (h : PageAt w b L st) (ho : Only S w w') (hn : ¬ S b) : PageAt w' b L st := by
 obtain ⟨g, h1, h2⟩ := h
 exact ⟨g, h1.kept ho hn, h2⟩
theorem PageAt.lt {w : World} {b st : Nat} {L : List Slot} (h : PageAt w b L st) : b < w.heap.size := by
 obtain ⟨g, h1, h2⟩ := h
 exact h1.lt
theorem PageAt.len {w : World} {b st : Nat} {L : List Slot} (h : PageAt w b L st) : L.length <= 127 := by
 obtain ⟨g, h1, h2⟩ := h
 have := h2.fit
 have := h2.le
 omega
theorem page_count (b st : Nat) (L : List Slot) (w : World) (h : PageAt w b L st) :
  Calls Tryz.prog 142 #[.pointer (some ⟨b, 0, none⟩)] w fun e w' => e = .returned (.int .i64 L.length) /\ w = w' := by
 obtain ⟨g, h1, h2⟩ := h
 have := count_any b g w h1 h2.lt
 rw [h2.cnt] at this
 exact this
theorem page_start (b st : Nat) (L : List Slot) (w : World) (h : PageAt w b L st) :
  Calls Tryz.prog 143 #[.pointer (some ⟨b, 0, none⟩)] w fun e w' => e = .returned (.int .i64 st) /\ w = w' := by
 obtain ⟨g, h1, h2⟩ := h
 have := start_any b g w h1 h2.lt
 rw [h2.st] at this
 exact this
theorem zero_page : Tryz.zeroCells230 = tab 512 (byteF (fun _ => 0)) := by
 apply tab_of
 ·kernel_rfl
 ·have h : (List.range 512).all (fun i => match Tryz.zeroCells230[i]? with | some (.int .u8 0) => true | _ => false) = true := by kernel_rfl
  intro i hi
  have := List.all_eq_true.1 h i (List.mem_range.2 hi)
  revert this
  split
  ·rename_i e; intro _; exact e
  ·intro x; cases x
set_option maxHeartbeats 400000 in
theorem page_new (w : World) :
  Calls Tryz.prog 72 #[] w fun e w' => e = .returned (.pointer (some ⟨w.heap.size, 0, none⟩)) /\ Quiet w w' /\ w.heap.size < w'.heap.size /\ PageAt w' w.heap.size [] 512 := by
 go_enter Tryz.func72, Tryz.ntmps72
 go_wp2_with fail
 refine (pset_any _ 0 512 (fun _ => 0) _ (by unfold Bk; rw [alloc_new, zero_page]) (by omega) (by omega)).mono ?_
 rintro e w1 ⟨rfl, ho, hb⟩
 have HO := Lib.hid ho
 have HB := Lib.hid hb
 clear ho hb
 go_wp2
 go_ret
 refine ⟨rfl, ((Only.refl _ _).alloc _).trans' HO.out (fun k hk e => by omega), by have := HO.out.size; simp at this; omega, _, HB.out, Pg.new⟩
set_option maxHeartbeats 400000 in
theorem far_any (pg sl : Int) (w : World) :
  Calls Tryz.prog 115 #[.agg #[.int .i64 pg, .int .i64 sl]] w fun e w' => e = .returned (.bool (farB pg sl)) /\ Quiet w w' := by
 have hq : Hid (Quiet w (w.alloc (.cells #[.int .i64 pg, .int .i64 sl] 43))) := (Only.refl _ _).alloc _
 by_cases h1 : pg = -1
 ·have hF : farB pg sl = (pg != sl) := by
   unfold farB; rw [if_pos (Or.inl h1)]; rw [Bool.eq_iff_iff]; simp
  rw [hF]
  have HF := Lib.hid hF
  clear hF
  have hb : (pg == -1) = true := by simp [h1]
  clear h1
  go_enter Tryz.func115, Tryz.ntmps115
  go_wp2
  go_ret
  exact ⟨rfl, hq.out⟩
 ·have hb : (pg == -1) = false := by simp [h1]
  by_cases h2 : sl = -1
  ·have hF : farB pg sl = (pg != sl) := by
    unfold farB; rw [if_pos (Or.inr h2)]; rw [Bool.eq_iff_iff]; simp
   rw [hF]
   clear hF
   have hb2 : (sl == -1) = true := by simp [h2]
   clear h1 h2
   go_enter Tryz.func115, Tryz.ntmps115
   go_wp2
   go_ret
   exact ⟨rfl, hq.out⟩
  ·have hF : farB pg sl = decide (pg < 0 ∨ 65536 <= pg ∨ sl < 0 ∨ 65535 <= sl) := by
    unfold farB; rw [if_neg (by omega)]
   have hb2 : (sl == -1) = false := by simp [h2]
   have HF := Lib.hid hF
   clear h1 h2 hF
   by_cases a1 : pg < 0
   ·have hT : Hid (farB pg sl = true) := by rw [HF.out]; exact decide_eq_true (by omega)
    go_enter Tryz.func115, Tryz.ntmps115
    go_wp2
    go_ret
    rw [hT.out]; exact ⟨rfl, hq.out⟩
   ·have d1 : decide (pg < 0) = false := decide_eq_false a1
    by_cases a2 : 65536 <= pg
    ·have hT : Hid (farB pg sl = true) := by rw [HF.out]; exact decide_eq_true (by omega)
     go_enter Tryz.func115, Tryz.ntmps115
     go_wp2
     go_ret
     rw [hT.out]; exact ⟨rfl, hq.out⟩
    ·have d2 : decide (65536 <= pg) = false := decide_eq_false a2
     by_cases a3 : sl < 0
     ·have hT : Hid (farB pg sl = true) := by rw [HF.out]; exact decide_eq_true (by omega)
      go_enter Tryz.func115, Tryz.ntmps115
      go_wp2
      go_ret
      rw [hT.out]; exact ⟨rfl, hq.out⟩
     ·have d3 : decide (sl < 0) = false := decide_eq_false a3
      have hT : Hid (farB pg sl = decide (65535 <= sl)) := by rw [HF.out]; simp only [decide_eq_decide]; exact ⟨fun h => by omega, fun h => by omega⟩
      go_enter Tryz.func115, Tryz.ntmps115
      go_wp2
      go_ret
      rw [hT.out]; exact ⟨rfl, hq.out⟩
def tupV (t : Tup) (A : Option Addr) (cap : Nat) : Value := .agg #[.int .u64 t.row, .int .u64 t.xmin, .int .u64 t.xmax, .int .i64 t.pg, .int .i64 t.sl, .slice A t.data.length cap]
def rightF (row xmin xmax : Nat) (far : Bool) (n : Nat) : Bool := decide (max (max (row : Int) xmin) xmax <= 1099511627776) && (!far && decide ((n : Int) <= 200))
theorem rightF_eq (t : Tup) : rightF t.row t.xmin t.xmax (farB t.pg t.sl) t.data.length = t.rightB := by
 unfold rightF Tup.rightB
 rw [Bool.eq_iff_iff]
 simp only [Bool.and_eq_true, decide_eq_true_eq, Bool.not_eq_true']
 constructor
 ·rintro ⟨h1, h2, h3⟩
  exact ⟨by omega, by omega, by omega, h2, by omega⟩
 ·rintro ⟨h1, h2, h3, h4, h5⟩
  exact ⟨by omega, h4, by omega⟩
set_option maxHeartbeats 400000 in
theorem right_core (row xmin xmax n cap : Nat) (pg sl : Int) (A : Option Addr) (w : World) :
  Calls Tryz.prog 138 #[.agg #[.int .u64 row, .int .u64 xmin, .int .u64 xmax, .int .i64 pg, .int .i64 sl, .slice A n cap]] w fun e w' => e = .returned (.bool (rightF row xmin xmax (farB pg sl) n)) /\ Quiet w w' := by
 have HQ : Hid (Quiet w (w.alloc (.cells #[.int .u64 row, .int .u64 xmin, .int .u64 xmax, .int .i64 pg, .int .i64 sl, .slice A n cap] 95))) := (Only.refl _ _).alloc _
 have hf := far_any pg sl
 generalize farB pg sl = fb at hf ⊢
 have HF := Lib.hid hf
 clear hf
 by_cases h1 : max (max (row : Int) xmin) xmax <= 1099511627776
 ·have e1 : Hid (rightF row xmin xmax fb n = (!fb && decide ((n : Int) <= 200))) := by unfold rightF; rw [decide_eq_true h1]; rfl
  cases fb
  ·all_goals
    have e2 : Hid (rightF row xmin xmax false n = decide ((n : Int) <= 200)) := e1.out
    go_enter Tryz.func138, Tryz.ntmps138
    go_wp2_with fail
    all_goals
     refine (HF.out _).mono ?_
     rintro e w1 ⟨rfl, hq1⟩
     have hblk : w1.heap[w.heap.size]? = _ := hq1.get (alloc_new w _) (fun x => x)
     have hc5 : w1.cell? ⟨w.heap.size, 5, none⟩ = some (.slice A n cap) := by rw [cell_of hblk]; rfl
     have HQ1 := Lib.hid (HQ.out.trans hq1)
     clear hblk hq1
     go_wp2
     go_ret
     rw [e2.out]
     exact ⟨rfl, HQ1.out⟩
  ·have e2 : Hid (rightF row xmin xmax true n = false) := e1.out
   go_enter Tryz.func138, Tryz.ntmps138
   go_wp2_with fail
   all_goals
    refine (HF.out _).mono ?_
    rintro e w1 ⟨rfl, hq1⟩
    have HQ1 := Lib.hid (HQ.out.trans hq1)
    clear hq1
    go_wp2
    go_ret
    rw [e2.out]
    exact ⟨rfl, HQ1.out⟩
 ·have e2 : Hid (rightF row xmin xmax fb n = false) := by unfold rightF; rw [decide_eq_false h1]; rfl
  have h3 : (1099511627776 : Int) < row ∨ (1099511627776 : Int) < xmin ∨ (1099511627776 : Int) < xmax := by omega
  clear h1
  go_enter Tryz.func138, Tryz.ntmps138
  rcases h3 with h3 | h3 | h3
  all_goals
   go_wp2_with fail
   all_goals
    go_ret
    rw [e2.out]
    exact ⟨rfl, HQ.out⟩
theorem right_any (t : Tup) (A : Option Addr) (cap : Nat) (w : World) :
  Calls Tryz.prog 138 #[tupV t A cap] w fun e w' => e = .returned (.bool t.rightB) /\ Quiet w w' := by
 rw [<- rightF_eq]
 exact right_core t.row t.xmin t.xmax t.data.length cap t.pg t.sl A w
set_option maxHeartbeats 400000 in
theorem bytes_nil (i : Int) (w : World) :
  Calls Tryz.prog 114 #[.pointer none, .int .i64 i] w fun e w' => e = .returned (.slice none 0 0) /\ ∃ n, w' = w.drewN n := by
 go_enter Tryz.func114, Tryz.ntmps114
 go_wp2
 go_ret
 exact ⟨rfl, 0, rfl⟩
set_option maxHeartbeats 400000 in
theorem bytes_none (b st : Nat) (L : List Slot) (i : Int) (w : World) (h : PageAt w b L st) (hi : slotAt L i = none) :
  Calls Tryz.prog 114 #[.pointer (some ⟨b, 0, none⟩), .int .i64 i] w fun e w' => e = .returned (.slice none 0 0) /\ ∃ n, w' = w.drewN n := by
 have HP := Lib.hid h
 by_cases h0 : i < 0
 ·clear hi h
  go_enter Tryz.func114, Tryz.ntmps114
  go_wp2
  go_ret
  exact ⟨rfl, 0, rfl⟩
 ·obtain ⟨k, rfl⟩ := Int.eq_ofNat_of_zero_le (show 0 <= i by omega)
  have d0 : decide ((k : Int) < 0) = false := by simp
  rw [slotAt_nat] at hi
  have hl := h.len
  by_cases hk : k < L.length
  ·have hs : L[k]? = some none := by
    rw [List.getElem?_eq_getElem hk] at hi ⊢
    have : L[k] = none := hi
    rw [this]
   obtain ⟨g, h1, h2⟩ := h
   have HA := Lib.hid (at_any b k g w h1 h2.lt (by omega))
   have hp := h2.ptr k none hs
   rw [show 6 + 4 * k = 4 + 4 * k + 2 by omega] at hp
   have Hp := Lib.hid hp
   clear hi hs hp h1 h2
   go_enter Tryz.func114, Tryz.ntmps114
   go_wp2_with fail
   refine (page_count b st L _ HP.out).mono ?_
   rintro e w1 ⟨rfl, rfl⟩
   go_wp2_with fail
   refine HA.out.mono ?_
   rintro e w1 ⟨rfl, n, rfl⟩
   rw [Hp.out.1, Hp.out.2]
   go_wp2
   go_ret
   exact ⟨rfl, n, rfl⟩
  ·clear hi h
   go_enter Tryz.func114, Tryz.ntmps114
   go_wp2_with fail
   refine (page_count b st L _ HP.out).mono ?_
   rintro e w1 ⟨rfl, rfl⟩
   go_wp2
   go_ret
   exact ⟨rfl, 0, rfl⟩
set_option maxHeartbeats 400000 in
theorem bytes_some (b st f : Nat) (t : Tup) (L : List Slot) (i : Int) (w : World) (h : PageAt w b L st) (hi : slotAt L i = some (f, t)) :
  Calls Tryz.prog 114 #[.pointer (some ⟨b, 0, none⟩), .int .i64 i] w fun e w' => e = .returned (.slice (some ⟨b, f, none⟩) t.size (512 - f)) /\ ∃ n, w' = w.drewN n := by
 have HP := Lib.hid h
 obtain ⟨k, rfl, hk, hs⟩ := slotAt_some hi
 have d0 : decide ((k : Int) < 0) = false := by simp
 have hl := h.len
 obtain ⟨g, h1, h2⟩ := h
 have HA := Lib.hid (at_any b k g w h1 h2.lt (by omega))
 have hp := h2.ptr k _ hs
 obtain ⟨v1, v2, v3, v4⟩ := h2.ver k f t hs
 rw [show 6 + 4 * k = 4 + 4 * k + 2 by omega] at hp
 have hp' : leNum g (4 + 4 * k) 2 = f /\ leNum g (4 + 4 * k + 2) 2 = t.size := hp
 have Hp := Lib.hid hp'
 have hsz := Tup.size_pos t
 obtain ⟨z, hz⟩ : ∃ z, z = t.size := ⟨_, rfl⟩
 rw [<- hz] at Hp hsz v2 ⊢
 have hsl := fun w => page_range b f (f + z) (f : Int) ((f : Int) + z) rfl (by omega) (by omega) (by omega) (by omega) w
 rw [Nat.add_sub_cancel_left] at hsl
 have hz0 : ((z : Int) == 0) = false := by simp; omega
 clear hi hs hp hp' h1 h2 v4 v3 hz
 go_enter Tryz.func114, Tryz.ntmps114
 go_wp2_with fail
 refine (page_count b st L _ HP.out).mono ?_
 rintro e w1 ⟨rfl, rfl⟩
 go_wp2_with fail
 refine HA.out.mono ?_
 rintro e w1 ⟨rfl, n, rfl⟩
 rw [Hp.out.1, Hp.out.2]
 go_wp2
 go_ret
 exact ⟨rfl, n, rfl⟩
theorem all_next {L : List Slot} {k f : Nat} {t : Tup} (h : ∀ j, j < k -> ∀ s, L[j]? = some s -> s ≠ none) (hk : L[k]? = some (some (f, t))) : ∀ j, j < k + 1 -> ∀ s, L[j]? = some s -> s ≠ none := by
 intro j hj s hs
 by_cases e : j = k
 ·subst e; rw [hk] at hs; injection hs with hs; subst hs; simp
 ·exact h j (by omega) s hs
set_option maxHeartbeats 400000 in
theorem page_free (b st : Nat) (L : List Slot) (w : World) (h : PageAt w b L st) :
  Calls Tryz.prog 140 #[.pointer (some ⟨b, 0, none⟩)] w fun e w' => e = .returned (.int .i64 (freeIdx L)) /\ ∃ n, w' = w.drewN n := by
 have HP := Lib.hid h
 have hl := h.len
 clear h
 have heq := fun (w : World) (a : Option Addr) (n c : Nat) => Lib.run_eql_slice_nil (P := Tryz.prog) w 86 _ a n c 0 0 Tryz.underlying86
 go_enter Tryz.func140, Tryz.ntmps140
 go_wp2_with fail
 refine (page_count b st L _ (by exact HP.out)).mono ?_
 rintro e w1 ⟨rfl, rfl⟩
 go_wp2_with fail
 go_loopw [6] (fun v wr => ∃ k : Nat, k <= L.length /\ v = .int .i64 k /\ (∃ n, wr = w.drewN n) /\ (∀ j, j < k -> ∀ s, L[j]? = some s -> s ≠ none)) (fun v _ => L.length - (intOf v).toNat)
 case atStart => exact ⟨0, Nat.zero_le _, rfl, ⟨0, rfl⟩, fun j hj => absurd hj (by omega)⟩
 case round =>
  obtain ⟨k, hk, rfl, ⟨m, rfl⟩, hall⟩ := hrel
  have HA := Lib.hid hall
  clear hall
  by_cases hlt : k < L.length
  ·rcases hs : L[k]? with _ | s
   ·rw [List.getElem?_eq_getElem hlt] at hs; cases hs
   ·have HS := Lib.hid hs
    clear hs
    rcases s with _ | ⟨f, t⟩
    ·have HE := Lib.hid (freeIdx_at HS.out HA.out)
     go_wp2_with fail
     refine (bytes_none b st L _ _ (by exact HP.out) (by rw [slotAt_nat, HS.out]; rfl)).mono ?_
     rintro e w1 ⟨rfl, n, rfl⟩
     go_wp2
     go_ret
     rw [HE.out]
     exact ⟨rfl, _, rfl⟩
    ·go_wp2_with fail
     refine (bytes_some b st f t L _ _ (by exact HP.out) (by rw [slotAt_nat, HS.out]; rfl)).mono ?_
     rintro e w1 ⟨rfl, n, rfl⟩
     go_wp2
     go_roundw
     case rel => exact ⟨k + 1, by omega, by go_num, ⟨_, rfl⟩, all_next HA.out HS.out⟩
     case measure => simp [intOf]; omega
  ·obtain rfl : k = L.length := by omega
   have HE := Lib.hid (freeIdx_none HA.out)
   go_wp2_with fail
   refine (page_count b st L _ (by exact HP.out)).mono ?_
   rintro e w1 ⟨rfl, rfl⟩
   go_wp2
   go_ret
   rw [HE.out]
   exact ⟨rfl, _, rfl⟩
theorem spent_bound {g : Nat -> Nat} {L : List Slot} {st : Nat} (h : Pg g L st) : ∀ k, k <= L.length -> spent (L.take k) <= 1000 * k
 | 0, _ => by simp [spent]
 | k + 1, hk => by
  have ih := spent_bound h k (by omega)
  have hs : L[k]? = some L[k] := List.getElem?_eq_getElem (by omega)
  rw [spent_take_succ L k _ hs]
  have : Slot.size L[k] <= 512 := by
   rcases hx : L[k] with _ | ⟨f, t⟩
   ·simp [Slot.size]
   ·rw [hx] at hs
    have := (h.ver k f t hs).2.1
    have : Slot.size (some (f, t)) = t.size := rfl
    omega
  omega
set_option maxHeartbeats 400000 in
theorem page_room (b st : Nat) (L : List Slot) (w : World) (h : PageAt w b L st) :
  Calls Tryz.prog 139 #[.pointer (some ⟨b, 0, none⟩)] w fun e w' => e = .returned (.int .i64 (roomOf L)) /\ ∃ n, w' = w.drewN n := by
 have HP := Lib.hid h
 have hl := h.len
 have HSB : Hid (∀ k, k <= L.length -> spent (L.take k) <= 1000 * k) := by
  obtain ⟨g, _, h2⟩ := h
  exact spent_bound h2
 clear h
 go_enter Tryz.func139, Tryz.ntmps139
 go_wp2_with fail
 refine (page_count b st L _ HP.out).mono ?_
 rintro e w1 ⟨rfl, rfl⟩
 go_wp2_with fail
 go_loopw [3, 9] (fun n v wr => ∃ k : Nat, k <= L.length /\ v = .int .i64 k /\ n = .int .i64 (478 - (spent (L.take k) : Int)) /\ (∃ n, wr = w.drewN n)) (fun _ v _ => L.length - (intOf v).toNat)
 case atStart => exact ⟨0, Nat.zero_le _, rfl, by simp [spent], ⟨0, rfl⟩⟩
 case round =>
  obtain ⟨k, hk, rfl, rfl, ⟨m, rfl⟩⟩ := hrel
  have hsb := HSB.out k hk
  by_cases hlt : k < L.length
  ·have hsb1 := HSB.out (k + 1) hlt
   rcases hs : L[k]? with _ | s
   ·rw [List.getElem?_eq_getElem hlt] at hs; cases hs
   ·have HN := Lib.hid (spent_take_succ L k s hs)
    have HS := Lib.hid hs
    clear hs
    rw [HN.out] at hsb1
    rcases s with _ | ⟨f, t⟩
    ·go_wp2_with fail
     refine (bytes_none b st L _ _ (by exact HP.out) (by rw [slotAt_nat, HS.out]; rfl)).mono ?_
     rintro e w1 ⟨rfl, n, rfl⟩
     go_wp2
     go_roundw
     case rel => exact ⟨k + 1, by omega, by go_num, by rw [HN.out]; simp only [Slot.size]; congr 1; omega, ⟨_, rfl⟩⟩
     case measure => simp [intOf]; omega
    ·obtain ⟨z, hz⟩ : ∃ z, z = t.size := ⟨_, rfl⟩
     have hz' : Slot.size (some (f, t)) = z := hz.symm
     rw [hz'] at hsb1 HN
     go_wp2_with fail
     refine (bytes_some b st f t L _ _ (by exact HP.out) (by rw [slotAt_nat, HS.out]; rfl)).mono ?_
     rintro e w1 ⟨rfl, n, rfl⟩
     rw [<- hz]
     clear hz hz'
     go_wp2
     go_roundw
     case rel => exact ⟨k + 1, by omega, by go_num, by rw [HN.out]; congr 1; omega, ⟨_, rfl⟩⟩
     case measure => simp [intOf]; omega
  ·obtain rfl : k = L.length := by omega
   have hfi := freeIdx_le L
   obtain ⟨fi, Hfi⟩ : ∃ fi, Hid (fi = freeIdx L) := ⟨_, rfl⟩
   obtain ⟨sp, Hsp⟩ : ∃ sp, Hid (sp = spent L) := ⟨_, rfl⟩
   rw [List.take_length, <- Hsp.out] at hsb
   rw [List.take_length, <- Hsp.out]
   have HR : Hid (roomOf L = max (478 - (sp : Int) - (if fi = L.length then 4 else 0)) (-1)) := by unfold roomOf; rw [Hsp.out, Hfi.out]; rfl
   go_wp2_with fail
   refine (page_free b st L _ (by exact HP.out)).mono ?_
   rintro e w1 ⟨rfl, n1, rfl⟩
   rw [<- Hfi.out] at hfi
   rw [<- Hfi.out]
   go_wp2_with fail
   refine (page_count b st L _ (by exact HP.out)).mono ?_
   rintro e w1 ⟨rfl, rfl⟩
   by_cases hfe : fi = L.length
   ·have hb : ((fi : Int) == L.length) = true := by simp [hfe]
    rw [if_pos hfe] at HR
    clear hfe
    go_wp2
    go_ret
    rw [HR.out]
    exact ⟨rfl, _, rfl⟩
   ·have hb : ((fi : Int) == L.length) = false := by simp; omega
    rw [if_neg hfe] at HR
    clear hfe
    go_wp2
    go_ret
    rw [HR.out]
    exact ⟨by simp, _, rfl⟩
theorem page_slots (b st : Nat) (L : List Slot) (w : World) (h : PageAt w b L st) :
  Calls Tryz.prog 112 #[.pointer (some ⟨b, 0, none⟩)] w fun e w' => e = .returned (.int .i64 L.length) /\ w = w' := by
 have HP := Lib.hid h
 clear h
 go_enter Tryz.func112, Tryz.ntmps112
 go_wp2_with fail
 refine (page_count b st L _ HP.out).mono ?_
 rintro e w1 ⟨rfl, rfl⟩
 go_wp2
 go_ret
 exact ⟨rfl, rfl⟩
set_option maxHeartbeats 400000 in
theorem page_used (b st : Nat) (L : List Slot) (w : World) (h : PageAt w b L st) :
  Calls Tryz.prog 81 #[.pointer (some ⟨b, 0, none⟩)] w fun e w' => e = .returned (.int .i64 (usedOf L)) /\ ∃ n, w' = w.drewN n := by
 have HP := Lib.hid h
 have hl := h.len
 clear h
 have heq := fun (w : World) (a : Option Addr) (n c : Nat) => run_neq_slice_nil_any (P := Tryz.prog) w 86 _ a n c 0 0 Tryz.underlying86
 go_enter Tryz.func81, Tryz.ntmps81
 go_wp2_with fail
 refine (page_slots b st L _ HP.out).mono ?_
 rintro e w1 ⟨rfl, rfl⟩
 go_wp2_with fail
 go_loopw [3, 7] (fun n v wr => ∃ k : Nat, k <= L.length /\ v = .int .i64 k /\ n = .int .i64 (usedOf (L.take k)) /\ usedOf (L.take k) <= k /\ (∃ n, wr = w.drewN n)) (fun _ v _ => L.length - (intOf v).toNat)
 case atStart => exact ⟨0, Nat.zero_le _, rfl, rfl, Nat.zero_le _, ⟨0, rfl⟩⟩
 case round =>
  obtain ⟨k, hk, rfl, rfl, hu, ⟨m, rfl⟩⟩ := hrel
  by_cases hlt : k < L.length
  ·rcases hs : L[k]? with _ | s
   ·rw [List.getElem?_eq_getElem hlt] at hs; cases hs
   ·have HN := Lib.hid (usedOf_take_succ L k s hs)
    have HS := Lib.hid hs
    clear hs
    rcases s with _ | ⟨f, t⟩
    ·go_wp2_with fail
     refine (bytes_none b st L _ _ (by exact HP.out) (by rw [slotAt_nat, HS.out]; rfl)).mono ?_
     rintro e w1 ⟨rfl, n, rfl⟩
     go_wp2
     go_roundw
     case rel => exact ⟨k + 1, by omega, by go_num, by rw [HN.out]; rfl, by rw [HN.out]; exact Nat.le_succ_of_le hu, ⟨_, rfl⟩⟩
     case measure => simp [intOf]; omega
    ·go_wp2_with fail
     refine (bytes_some b st f t L _ _ (by exact HP.out) (by rw [slotAt_nat, HS.out]; rfl)).mono ?_
     rintro e w1 ⟨rfl, n, rfl⟩
     go_wp2
     go_roundw
     case rel => exact ⟨k + 1, by omega, by go_num, by rw [HN.out]; rfl, by rw [HN.out]; exact Nat.succ_le_succ hu, ⟨_, rfl⟩⟩
     case measure => simp [intOf]; omega
  ·obtain rfl : k = L.length := by omega
   rw [List.take_length] at hu
   rw [List.take_length]
   go_wp2
   go_ret
   exact ⟨rfl, _, rfl⟩
theorem make30 (w : World) : (Instr.makeSlice 86 (.int .i64 30) (.int .i64 30)).run Tryz.prog w = .ok (.slice (some ⟨w.heap.size, 0, none⟩) 30 30) (w.alloc (.cells (tab 30 (byteF (fun _ => 0))) 5)) := by kernel_rfl
structure PackW (w W : World) (row xmin xmax : Nat) (pg sl : Int) (A : Option Addr) (n cap : Nat) (g : Nat -> Nat) : Prop where
 quiet : Quiet w W
 box : W.heap[w.heap.size]? = some (.cells #[.int .u64 row, .int .u64 xmin, .int .u64 xmax, .int .i64 pg, .int .i64 sl, .slice A n cap] 95 (0, 0))
 out : Bk W (w.heap.size + 1) 30 5 g
theorem PackW.drew {w W : World} {row xmin xmax : Nat} {pg sl : Int} {A : Option Addr} {n cap : Nat} {g : Nat -> Nat} (h : PackW w W row xmin xmax pg sl A n cap g) : PackW w W.drew row xmin xmax pg sl A n cap g := ⟨h.quiet.drew, h.box, h.out⟩
theorem PackW.put {w W W' : World} {row xmin xmax : Nat} {pg sl : Int} {A : Option Addr} {n cap : Nat} {g g' : Nat -> Nat} (h : PackW w W row xmin xmax pg sl A n cap g) (ho : Only (· = w.heap.size + 1) W W') (hb : Bk W' (w.heap.size + 1) 30 5 g') : PackW w W' row xmin xmax pg sl A n cap g' :=
 ⟨h.quiet.trans' ho (fun k hk e => by omega), ho.get h.box (fun e => by omega), hb⟩
theorem PackW.cell0 {w W : World} {row xmin xmax : Nat} {pg sl : Int} {A : Option Addr} {n cap : Nat} {g : Nat -> Nat} (h : PackW w W row xmin xmax pg sl A n cap g) : W.cell? ⟨w.heap.size, 0, none⟩ = some (.int .u64 row) := by rw [cell_of h.box]; rfl
theorem PackW.cell1 {w W : World} {row xmin xmax : Nat} {pg sl : Int} {A : Option Addr} {n cap : Nat} {g : Nat -> Nat} (h : PackW w W row xmin xmax pg sl A n cap g) : W.cell? ⟨w.heap.size, 1, none⟩ = some (.int .u64 xmin) := by rw [cell_of h.box]; rfl
theorem PackW.cell2 {w W : World} {row xmin xmax : Nat} {pg sl : Int} {A : Option Addr} {n cap : Nat} {g : Nat -> Nat} (h : PackW w W row xmin xmax pg sl A n cap g) : W.cell? ⟨w.heap.size, 2, none⟩ = some (.int .u64 xmax) := by rw [cell_of h.box]; rfl
theorem PackW.cell3 {w W : World} {row xmin xmax : Nat} {pg sl : Int} {A : Option Addr} {n cap : Nat} {g : Nat -> Nat} (h : PackW w W row xmin xmax pg sl A n cap g) : W.cell? ⟨w.heap.size, 3, none⟩ = some (.int .i64 pg) := by rw [cell_of h.box]; rfl
theorem PackW.cell4 {w W : World} {row xmin xmax : Nat} {pg sl : Int} {A : Option Addr} {n cap : Nat} {g : Nat -> Nat} (h : PackW w W row xmin xmax pg sl A n cap g) : W.cell? ⟨w.heap.size, 4, none⟩ = some (.int .i64 sl) := by rw [cell_of h.box]; rfl
theorem PackW.cell5 {w W : World} {row xmin xmax : Nat} {pg sl : Int} {A : Option Addr} {n cap : Nat} {g : Nat -> Nat} (h : PackW w W row xmin xmax pg sl A n cap g) : W.cell? ⟨w.heap.size, 5, none⟩ = some (.slice A n cap) := by rw [cell_of h.box]; rfl
def firstV (n : Nat) (g : Nat -> Nat) : List Value := ((List.range n).map g).map (fun x : Nat => Value.int .u8 x)
theorem PackW.owns {w W : World} {row xmin xmax : Nat} {pg sl : Int} {A : Option Addr} {n cap : Nat} {g : Nat -> Nat} (h : PackW w W row xmin xmax pg sl A n cap g) : W.ownsRow 0 5 1 (.slice (some ⟨w.heap.size + 1, 0, none⟩) 30 30) 30 (firstV 30 g) := by
 refine ⟨by simp [firstV], Or.inr ⟨_, 30, _, rfl, Nat.zero_le _, h.out, Nat.le_refl _, by decide, by simp [tab_size], ?_⟩⟩
 apply List.ext_getElem?
 intro i
 rw [List.getElem?_take]
 by_cases hi : i < 30
 ·rw [if_pos (by omega), Array.getElem?_toList, tab_get hi]
  simp [firstV, hi, byteF]
 ·rw [if_neg (by omega)]
  simp [firstV, hi]
theorem two_new (w : World) (a o : Obj) : ((w.alloc a).alloc o).heap[w.heap.size + 1]? = some o := by
 have h := alloc_new (w.alloc a) o
 have e : (w.alloc a).heap.size = w.heap.size + 1 := by simp
 rw [e] at h
 exact h
theorem put_eq (b N off n cap x : Nat) (y : Int) (t : TypeId) (g : Nat -> Nat) (w : World) (hb : Bk w b N t g) (hn : n <= 8) (hN : off + n <= N) (hm : N <= 1000) (hy : y = x) (hx : x < 18446744073709551616) :
  Calls Tryz.prog 116 #[.slice (some ⟨b, off, none⟩) n cap, .int .u64 y] w fun e w' => e = .returned (.tuple #[]) /\ Only (· = b) w w' /\ Bk w' b N t (putN g off n x) := by
 subst hy
 exact put_any b N off n cap x t g w hb hn hN hm hx
theorem wrap_next (x : Int) (h0 : -1 <= x) (h1 : x <= 65536) : IntKind.u64.wrap (IntKind.i64.wrap (x + 1)) = ((x + 1).toNat : Int) := by
 rw [IntKind.wrap_i64, IntKind.wrap_u64]
 omega
def PackPost (w : World) (t : Tup) (e : Ending) (w' : World) : Prop :=
 ∃ v, e = .returned v /\ Quiet w w' /\ (∀ k, v.ownBlock = some k -> w.heap.size <= k) /\ w'.ownsRow 0 5 1 v t.size (firstV t.size t.ver)
theorem pack_bytes (t : Tup) : firstV 30 t.hdr ++ bytesV t.data = firstV t.size t.ver := by
 unfold bytesV firstV
 rw [<- List.map_append]
 congr 1
 unfold Tup.size
 apply List.ext_getElem?
 intro i
 rw [List.getElem?_append, List.length_map, List.length_range]
 by_cases hi : i < 30
 ·simp [hi, Tup.ver, show i < 30 + t.data.length by omega]
 ·rw [if_neg hi]
  by_cases h2 : i < 30 + t.data.length
  ·simp [h2, Tup.ver, hi, List.getD_eq_getElem?_getD, show i - 30 < t.data.length by omega]
  ·simp [h2, show ¬ i - 30 < t.data.length by omega]
set_option maxHeartbeats 1000000 in
theorem pack_any (t : Tup) (A : Option Addr) (cap : Nat) (S : Nat -> Prop) (w : World) (ht : t.Ok) (hd : Rd w S 1 A t.data.length (bytesV t.data)) :
  Calls Tryz.prog 141 #[tupV t A cap] w (PackPost w t) := by
 have hmk := make30
 have hbd := ht.bounds
 have HD := Lib.hid hd
 have HPB := Lib.hid (pack_bytes t)
 obtain ⟨H, hH⟩ : ∃ H, H = t.hdr := ⟨_, rfl⟩
 have HH := Lib.hid (show H = putN (putN (putN (putN (putN (fun _ => 0) 0 8 t.row) 8 8 t.xmin) 16 8 t.xmax) 24 4 (t.pg + 1).toNat) 28 2 (t.sl + 1).toNat from hH)
 rw [<- hH] at HPB
 clear hd hH
 unfold tupV
 obtain ⟨row, xmin, xmax, pg, sl, data⟩ := t
 dsimp only at hbd HD HH HPB ⊢
 obtain ⟨b1, b2, b3, b4, b5, b6, b7, b8⟩ := hbd
 have hn : ∃ n, n = data.length := ⟨_, rfl⟩
 go_enter Tryz.func141, Tryz.ntmps141
 go_wp2_with fail
 have HW : Hid (PackW w ((w.alloc (.cells #[.int .u64 row, .int .u64 xmin, .int .u64 xmax, .int .i64 pg, .int .i64 sl, .slice A data.length cap] 95)).alloc (.cells (tab 30 (byteF (fun _ => 0))) 5)) row xmin xmax pg sl A data.length cap (fun _ => 0)) :=
  ⟨((Only.refl _ _).alloc _).alloc _, alloc_old (alloc_new _ _) _, two_new _ _ _⟩
 generalize (w.alloc (.cells #[.int .u64 row, .int .u64 xmin, .int .u64 xmax, .int .i64 pg, .int .i64 sl, .slice A data.length cap] 95)).alloc (.cells (tab 30 (byteF (fun _ => 0))) 5) = W at HW ⊢
 have c0 := HW.out.cell0
 go_region_held3 (fun w' => w'.cell? ⟨w.heap.size, 0, none⟩ = some (.int .u64 row)) (first | go_keep | exact H1.out.cell0 | fail)
  (first | (go_at_call 116; go_must (refine (put_any _ 30 0 8 _ row 5 _ _ HW.out.drew.out (by omega) (by omega) (by omega) (by omega)).mono ?_; rintro e w1 ⟨rfl, ho, hb⟩; have H1 := Lib.hid (HW.out.drew.put ho hb); clear ho hb)) | fail)
 clear c0 HW
 go_wp2_with fail
 have c1 := H1.out.cell1
 go_region_held3 (fun w' => w'.cell? ⟨w.heap.size, 1, none⟩ = some (.int .u64 xmin)) (first | go_keep | exact H2.out.cell1 | fail)
  (first | (go_at_call 116; go_must ((with_reducible refine (put_any _ 30 8 8 _ xmin 5 _ _ H1.out.drew.out (by omega) (by omega) (by omega) (by omega)).mono ?_); rintro e w2 ⟨rfl, ho, hb⟩; have H2 := Lib.hid (H1.out.drew.put ho hb); clear ho hb)) | fail)
 clear c1 H1
 go_wp2_with fail
 have c2 := H2.out.cell2
 go_region_held3 (fun w' => w'.cell? ⟨w.heap.size, 2, none⟩ = some (.int .u64 xmax)) (first | go_keep | exact H3.out.cell2 | fail)
  (first | (go_at_call 116; go_must ((with_reducible refine (put_any _ 30 16 8 _ xmax 5 _ _ H2.out.drew.out (by omega) (by omega) (by omega) (by omega)).mono ?_); rintro e w3 ⟨rfl, ho, hb⟩; have H3 := Lib.hid (H2.out.drew.put ho hb); clear ho hb)) | fail)
 clear c2 H2
 go_wp2_with fail
 have c3 := H3.out.cell3
 go_region_held3 (fun w' => w'.cell? ⟨w.heap.size, 3, none⟩ = some (.int .i64 pg)) (first | go_keep | exact H4.out.cell3 | fail)
  (first | (go_at_call 116; go_must ((with_reducible refine (put_eq _ 30 24 4 _ (pg + 1).toNat _ 5 _ _ H3.out.drew.out (by omega) (by omega) (by omega) (wrap_next pg b4 (by omega)) (by omega)).mono ?_); rintro e w4 ⟨rfl, ho, hb⟩; have H4 := Lib.hid (H3.out.drew.put ho hb); clear ho hb)) | fail)
 clear c3 H3
 go_wp2_with fail
 have c4 := H4.out.cell4
 go_region_held3 (fun w' => w'.cell? ⟨w.heap.size, 4, none⟩ = some (.int .i64 sl)) (first | go_keep | exact H5.out.cell4 | fail)
  (first | (go_at_call 116; go_must ((with_reducible refine (put_eq _ 30 28 2 _ (sl + 1).toNat _ 5 _ _ H4.out.drew.out (by omega) (by omega) (by omega) (wrap_next sl b6 (by omega)) (by omega)).mono ?_); rintro e w5 ⟨rfl, ho, hb⟩; have H5 := Lib.hid (H4.out.drew.put ho hb); clear ho hb)) | fail)
 clear c4 H4
 have c5 := H5.out.cell5
 have HF : Hid (PackW w w5 row xmin xmax pg sl A data.length cap H) := by
  have := H5.out
  rw [HH.out]
  exact this
 have HDD := Lib.hid (HD.out.kept HF.out.quiet (fun _ _ x => x))
 clear H5
 go_wp2_with (at_builtin; refine app elem_u8 rfl (.tmp 36) (.tmp 38) rfl rfl HF.out.owns rfl HDD.out (one_bytes _) (by unfold maxLen; omega) (by omega) ?_)
 intro v w6 hG
 have HG := Lib.hid hG
 clear hG
 go_wp2
 go_ret
 refine ⟨v, rfl, HF.out.quiet.trans' HG.out.only (fun k hk e => ?_), fun k e => ?_, ?_⟩
 ·simp [Value.ownBlock] at e; omega
 ·rcases HG.out.loc with x | x <;> rw [x] at e
  ·simp [Value.ownBlock] at e; omega
  ·injection e with e; have := HF.out.quiet.size; omega
 ·have := HG.out.own
  rw [HPB.out] at this
  exact this
def relaid (w : World) (b N : Nat) (g : Nat -> Nat) : World := w.setRow b (tab N (byteF g))
theorem relaid_bk {w : World} {b N : Nat} {t : TypeId} {g : Nat -> Nat} (h : Bk w b N t g) (g' : Nat -> Nat) : Bk (relaid w b N g') b N t g' := setRow_heap w b _ _ t _ h
theorem relaid_only (w : World) (b N : Nat) (g : Nat -> Nat) : Only (· = b) w (relaid w b N g) :=
 ⟨rfl, rfl, rfl, by simp [relaid, World.setRow], fun k _ hn => setRow_other w b k _ (fun e => hn (by first | exact e | exact e.symm))⟩
theorem lay_list (N off n : Nat) (g f : Nat -> Nat) (h : off + n <= N) : ((tab N (byteF g)).toList.take off ++ firstV n f ++ (tab N (byteF g)).toList.drop (off + n)).toArray = tab N (byteF (layF g off n f)) := by
 have hl : (tab N (byteF g)).toList.length = N := by simp [tab_size]
 have hf : (firstV n f).length = n := by simp [firstV]
 apply tab_of
 ·simp [hl, hf, tab_size]; omega
 ·intro i hi
  rw [List.getElem?_toArray, List.getElem?_append, List.getElem?_append, List.length_append, List.length_take, hl, hf]
  have hm : min off N = off := by omega
  rw [hm]
  by_cases h1 : i < off
  ·rw [if_pos (by omega), if_pos h1, List.getElem?_take, if_pos h1, Array.getElem?_toList, tab_get hi]
   unfold byteF
   rw [layF_out (by omega)]
  ·by_cases h2 : i < off + n
   ·rw [if_pos h2, if_neg h1]
    have e : i = off + (i - off) := by omega
    rw [show byteF (layF g off n f) i = .int .u8 (f (i - off)) by unfold byteF; rw [e, layF_in (by omega)]; simp]
    simp [firstV, show i - off < n by omega]
   ·rw [if_neg h2, List.getElem?_drop, Array.getElem?_toList, show off + n + (i - (off + n)) = i by omega, tab_get hi]
    unfold byteF
    rw [layF_out (by omega)]
theorem size_u8 : (Tryz.prog.info? 5).map (·.size) = some 1 := by kernel_rfl
theorem zero_u8 (w : World) : (zeroValue 5).run Tryz.prog w = .ok (.int .u8 0) w := by kernel_rfl
theorem firstV_get {n j : Nat} {f : Nat -> Nat} {v : Value} (h : (firstV n f)[j]? = some v) : j < n /\ v = .int .u8 (f j) := by
 unfold firstV at h
 rw [List.getElem?_map, List.getElem?_map] at h
 by_cases hj : j < n
 ·simp [hj] at h
  exact ⟨hj, h.symm⟩
 ·simp [hj] at h
theorem one_first (n : Nat) (f : Nat -> Nat) : ∀ v ∈ firstV n f, v.oneCell' = true := by
 intro u hu
 obtain ⟨x, _, rfl⟩ := List.mem_map.1 hu
 rfl
theorem copy_run (w : World) (b N off dl dc : Nat) (t : TypeId) (g : Nat -> Nat) (hb : Bk w b N t g) (sb so n sc : Nat) (f : Nat -> Nat) (hsrc : ∀ j, j < n -> w.cell? ⟨sb, so + j, none⟩ = some (.int .u8 (f j))) (hn : n <= dl) (hN : off + n <= N) (ty : TypeId) :
  (Builtin.copy_ #[86, 86] ty #[.slice (some ⟨b, off, none⟩) dl dc, .slice (some ⟨sb, so, none⟩) n sc]).run Tryz.prog w = .ok (.int .i64 n) (relaid w b N (layF g off n f)) := by
 have hl : (firstV n f).length = n := by simp [firstV]
 rw [run_copy_row _ w _ _ ty 5 b off dl dc ⟨sb, so, none⟩ n sc _ t (firstV n f) Tryz.underlying86 size_u8 hb (by rw [hl]; exact (Nat.min_eq_left hn).symm)
   (fun j v hv => by obtain ⟨hj, rfl⟩ := firstV_get hv; rw [add_none]; exact hsrc j hj) (by rw [hl, tab_size]; exact hN) (one_first n f)]
 rw [hl, lay_list N off n g f hN]
 rfl
theorem clear_run (w : World) (b N off n c : Nat) (t : TypeId) (g : Nat -> Nat) (hb : Bk w b N t g) (hN : off + n <= N) (ty : TypeId) :
  (Builtin.clear_ #[86] ty #[.slice (some ⟨b, off, none⟩) n c]).run Tryz.prog w = .ok (.tuple #[]) (relaid w b N (layF g off n (fun _ => 0))) := by
 have hl : (firstV n (fun _ => 0)).length = n := by simp [firstV]
 have hst := run_storeCells_at Tryz.prog b off t (firstV n (fun _ => 0)) 0 _ w hb (by rw [hl, tab_size]; omega) (one_first n _)
 rw [Nat.add_zero, hl, lay_list N off n g _ hN] at hst
 have hz : (Builtin.zeroCells (Value.cells (.int .u8 0)) n).toList = firstV n (fun _ => 0) := by
  simp [Builtin.zeroCells, Value.cells, firstV]
  intro a _
  simp [Nat.mod_one]
 unfold relaid
 rcases n with _ | m
 ·have e : w.setRow b (tab N (byteF (layF g off 0 (fun _ => 0)))) = w := by
   rw [tab_ext (g := byteF g) (fun i _ => by unfold byteF; rw [layF_out (by omega)])]
   exact setRow_self w b _ t (0, 0) hb
  rw [e]
  simp [Builtin.clear_, run_underlying Tryz.underlying86]
 ·simp [Builtin.clear_, run_underlying Tryz.underlying86, zero_u8, hz, hst]
end Go.Proofs.YthipgglplneijaaGreatDoor
namespace Go.Lap
open Go.RowKit
def trim (L : List Slot) : List Slot := (L.reverse.dropWhile (fun s => s.isNone)).reverse
theorem trim_none (L : List Slot) : trim (L ++ [none]) = trim L := by simp [trim]
theorem trim_some (L : List Slot) (x : Nat × Tup) : trim (L ++ [some x]) = L ++ [some x] := by simp [trim]
theorem trim_take : ∀ (L : List Slot) (k : Nat), k <= L.length -> (∀ j s, k <= j -> L[j]? = some s -> s = none) -> (0 < k -> ∃ x, L[k - 1]? = some (some x)) -> trim L = L.take k := by
 intro L
 induction hn : L.length generalizing L with
 | zero =>
  intro k hk _ _
  have : L = [] := List.eq_nil_of_length_eq_zero hn
  subst this
  simp [trim]
 | succ n ih =>
  intro k hk h1 h2
  have hne : L ≠ [] := fun e => by subst e; simp at hn
  obtain ⟨M, s, rfl⟩ : ∃ M s, L = M ++ [s] := ⟨L.dropLast, L.getLast hne, (List.dropLast_concat_getLast hne).symm⟩
  have hM : M.length = n := by simpa using hn
  rcases Nat.lt_or_ge k (n + 1) with hlt | hge
  ·have hs : s = none := h1 n s (by omega) (by rw [List.getElem?_append_right (by omega), hM]; simp)
   subst hs
   rw [trim_none, ih M hM k (by omega) (fun j s hj hs => h1 j s hj (by rw [List.getElem?_append_left (List.getElem?_eq_some_iff.1 hs).1]; exact hs)) (fun h0 => by
     obtain ⟨x, hx⟩ := h2 h0
     exact ⟨x, by rw [List.getElem?_append_left (by omega)] at hx; exact hx⟩)]
   rw [List.take_append_of_le_length (by omega)]
  ·obtain rfl : k = n + 1 := by omega
   obtain ⟨x, hx⟩ := h2 (by omega)
   rw [show n + 1 - 1 = n by omega, List.getElem?_append_right (by omega), hM] at hx
   simp at hx
   subst hx
   rw [trim_some, List.take_of_length_le (by simp; omega)]
end Go.Lap
namespace Go.Proofs.YthipgglplneijaaGreatDoor
open Go.RowKit Go.Lap
theorem wrap_ptr (k : Nat) (h : k <= 127) : IntKind.i64.wrap (4 + IntKind.i64.wrap (4 * (k : Int))) = ((4 + 4 * k : Nat) : Int) := by
 rw [IntKind.wrap_i64, IntKind.wrap_i64]
 omega
theorem free_down {M : List Slot} {m : Nat} (h : ∀ j s, m <= j -> M[j]? = some s -> s = none) (h0 : 0 < m) (hm : M[m - 1]? = some none) : ∀ j s, m - 1 <= j -> M[j]? = some s -> s = none := by
 intro j s hj hs
 by_cases e : j = m - 1
 ·subst e; rw [hm] at hs; injection hs with hs; exact hs.symm
 ·exact h j s (by omega) hs
theorem free_last {M : List Slot} {m st : Nat} {g2 : Nat -> Nat} (h : Pg g2 M st) (hm : m <= M.length) (ha : ∀ j s, m <= j -> M[j]? = some s -> s = none) (ht : trim M = M.take m) :
  Pg (putN (putN (layF g2 (4 + 4 * m) (4 + 4 * M.length - (4 + 4 * m)) (fun _ => 0)) 0 2 m) 2 2 st) (trim M) st := by
 have := h.trim hm ha
 unfold trimG at this
 rw [show 4 * (M.length - m) = 4 + 4 * M.length - (4 + 4 * m) by omega] at this
 rw [ht]
 exact this
theorem page_free_nil (i : Int) (w : World) :
  Calls Tryz.prog 163 #[.pointer none, .int .i64 i] w fun e w' => e = .returned (.int .i64 15) /\ Quiet w w' := by
 have heq := fun (w : World) (a : Option Addr) (n c : Nat) => Lib.run_eql_slice_nil (P := Tryz.prog) w 86 _ a n c 0 0 Tryz.underlying86
 go_enter Tryz.func163, Tryz.ntmps163
 go_wp2_with fail
 refine (bytes_nil i _).mono ?_
 rintro e w1 ⟨rfl, n, rfl⟩
 go_wp2
 go_ret
 exact ⟨rfl, (Only.refl _ _).drewN n⟩
theorem page_free_none (b st : Nat) (L : List Slot) (i : Int) (w : World) (h : PageAt w b L st) (hi : slotAt L i = none) :
  Calls Tryz.prog 163 #[.pointer (some ⟨b, 0, none⟩), .int .i64 i] w fun e w' => e = .returned (.int .i64 15) /\ Quiet w w' := by
 have heq := fun (w : World) (a : Option Addr) (n c : Nat) => Lib.run_eql_slice_nil (P := Tryz.prog) w 86 _ a n c 0 0 Tryz.underlying86
 have HI := Lib.hid hi
 have HP := Lib.hid h
 clear hi h
 go_enter Tryz.func163, Tryz.ntmps163
 go_wp2_with fail
 refine (bytes_none b st L i _ HP.out HI.out).mono ?_
 rintro e w1 ⟨rfl, n, rfl⟩
 go_wp2
 go_ret
 exact ⟨rfl, (Only.refl _ _).drewN n⟩
set_option maxHeartbeats 1000000 in
theorem page_free_some (b st f : Nat) (t : Tup) (L : List Slot) (i : Int) (w : World) (h : PageAt w b L st) (hi : slotAt L i = some (f, t)) :
  Calls Tryz.prog 163 #[.pointer (some ⟨b, 0, none⟩), .int .i64 i] w fun e w' => e = .returned (.int .i64 0) /\ Only (· = b) w w' /\ PageAt w' b (trim (L.set i.toNat none)) st := by
 have heq := fun (w : World) (a : Option Addr) (n c : Nat) => Lib.run_eql_slice_nil (P := Tryz.prog) w 86 _ a n c 0 0 Tryz.underlying86
 have HB := Lib.hid (bytes_some b st f t L i w h hi)
 obtain ⟨k, rfl, hk, hs⟩ := slotAt_some hi
 rw [Int.toNat_natCast]
 have hl := h.len
 obtain ⟨M, HM⟩ : ∃ M, Hid (M = L.set k none) := ⟨_, rfl⟩
 rw [<- HM.out]
 obtain ⟨g, h1, h2⟩ := h
 have hfit := h2.fit
 have hle := h2.le
 obtain ⟨v1, v2, v3, v4⟩ := h2.ver k f t hs
 have HF := Lib.hid (h2.free hs)
 have HG := Lib.hid h1
 have hts := Tup.size_pos t
 clear hi hs h1 h2 v3 v4
 go_enter Tryz.func163, Tryz.ntmps163
 go_wp2_with fail
 refine HB.out.mono ?_
 rintro e w1 ⟨rfl, n, rfl⟩
 have hclr := fun ty => clear_run (w.drewN n) b 512 f t.size (512 - f) pageT g HG.out v2 ty
 go_wp2_with fail
 refine (point_any b k 0 0 _ _ (relaid_bk (by exact HG.out) _) (by omega) (by omega) (by omega)).mono ?_
 rintro e w2 ⟨rfl, ho, hb⟩
 have HO := Lib.hid (((Only.refl (· = b) w).drewN n).trans ((relaid_only _ _ _ _).trans ho))
 have HP : Hid (PageAt w2 b (L.set k none) st) := ⟨_, hb, by have := HF.out; unfold freeG at this; rw [show 6 + 4 * k = 4 + 4 * k + 2 by omega] at this; exact this⟩
 clear ho hb hclr HB HF HG
 rw [<- HM.out] at HP
 clear HM
 have hl2 : M.length <= 127 := HP.out.len
 go_wp2_with fail
 refine (page_count b st M _ HP.out).mono ?_
 rintro e w3 ⟨rfl, rfl⟩
 go_wp2_with fail
 go_loopw [6] (fun v wr => ∃ m : Nat, m <= M.length /\ v = .int .i64 m /\ (∃ n, wr = w2.drewN n) /\ (∀ j s, m <= j -> M[j]? = some s -> s = none)) (fun v _ => (intOf v).toNat)
 case atStart => exact ⟨M.length, Nat.le_refl _, rfl, ⟨0, rfl⟩, fun j s hj hs => absurd (List.getElem?_eq_some_iff.1 hs).1 (by omega)⟩
 case round =>
  obtain ⟨m, hm, rfl, ⟨n1, rfl⟩, hall⟩ := hrel
  have HA := Lib.hid hall
  clear hall
  obtain ⟨g2, hg2, hp2⟩ := HP.out
  have hfit2 := hp2.fit
  have HG2 := Lib.hid hg2
  have HP2 := Lib.hid hp2
  clear hg2 hp2
  by_cases h0 : 0 < m
  ·have hb0 : decide ((0 : Int) < m) = true := by simp; omega
   rcases hs : M[m - 1]? with _ | s
   ·rw [List.getElem?_eq_getElem (by omega)] at hs; cases hs
   ·have HS := Lib.hid hs
    clear hs
    rcases s with _ | ⟨f', t'⟩
    ·go_wp2_with fail
     refine (bytes_none b st M _ _ (by exact HP.out) (by rw [show ((m : Int) - 1) = ((m - 1 : Nat) : Int) by omega, slotAt_nat, HS.out]; rfl)).mono ?_
     rintro e w4 ⟨rfl, n2, rfl⟩
     go_wp2
     go_roundw
     case rel => exact ⟨m - 1, by omega, by go_num, ⟨_, rfl⟩, free_down HA.out h0 HS.out⟩
     case measure => simp [intOf]; omega
    ·have HT := Lib.hid (trim_take M m hm HA.out (fun _ => ⟨_, HS.out⟩))
     have hm2 : 4 + 4 * m < 512 := by have := HP2.out.ver _ _ _ HS.out; have := Tup.size_pos t'; omega
     go_wp2_with fail
     refine (bytes_some b st f' t' M _ _ (by exact HP.out) (by rw [show ((m : Int) - 1) = ((m - 1 : Nat) : Int) by omega, slotAt_nat, HS.out]; rfl)).mono ?_
     rintro e w4 ⟨rfl, n2, rfl⟩
     go_wp2_with fail
     have hsl := fun W => page_range b (4 + 4 * m) (4 + 4 * M.length) _ _ (wrap_ptr m (by omega)) (wrap_ptr M.length (by omega)) (by omega) (by omega) (by omega) W
     have hclr := fun ty => clear_run (w2.drewN (n1 + n2 + 1)) b 512 (4 + 4 * m) (4 + 4 * M.length - (4 + 4 * m)) (512 - (4 + 4 * m)) pageT g2 HG2.out (by omega) ty
     go_region_held3 (fun _ => True) (trivial)
      (first | (go_at_call 142; go_must (refine (page_count b st M _ (by exact HP.out)).mono ?_; rintro e w4 ⟨rfl, rfl⟩)) | fail)
     clear hclr hsl
     have HG3 : Hid (Bk (relaid (w2.drewN (n1 + n2 + 1)) b 512 (layF g2 (4 + 4 * m) (4 + 4 * M.length - (4 + 4 * m)) (fun _ => 0))) b 512 pageT (layF g2 (4 + 4 * m) (4 + 4 * M.length - (4 + 4 * m)) (fun _ => 0))) := relaid_bk (by exact HG2.out) _
     have HO3 : Hid (Only (· = b) w (relaid (w2.drewN (n1 + n2 + 1)) b 512 (layF g2 (4 + 4 * m) (4 + 4 * M.length - (4 + 4 * m)) (fun _ => 0)))) := (HO.out.drewN _).trans (relaid_only _ _ _ _)
     have HF := Lib.hid (free_last HP2.out hm HA.out HT.out)
     generalize relaid (w2.drewN (n1 + n2 + 1)) b 512 (layF g2 (4 + 4 * m) (4 + 4 * M.length - (4 + 4 * m)) (fun _ => 0)) = w5 at HG3 HO3 ⊢
     have HL3 := Lib.hid (layF_lt HP2.out.lt (4 + 4 * m) (4 + 4 * M.length - (4 + 4 * m)) (f := fun _ => 0) (fun _ _ => by omega))
     have HS3 : Hid (leNum (layF g2 (4 + 4 * m) (4 + 4 * M.length - (4 + 4 * m)) (fun _ => 0)) 2 2 = st) := by rw [leNum_layF_out (by omega)]; exact HP2.out.st
     generalize layF g2 (4 + 4 * m) (4 + 4 * M.length - (4 + 4 * m)) (fun _ => 0) = g3 at HG3 HL3 HS3 HF
     go_wp2_with fail
     refine (start_any b g3 _ HG3.out HL3.out).mono ?_
     rintro e w6 ⟨rfl, rfl⟩
     rw [HS3.out]
     go_wp2_with fail
     refine (pset_any b m st g3 _ HG3.out (by omega) (by omega)).mono ?_
     rintro e w6 ⟨rfl, ho6, hb6⟩
     have HO6 := Lib.hid (HO3.out.trans ho6)
     have HB6 := Lib.hid hb6
     clear ho6 hb6
     go_wp2
     go_ret
     exact ⟨rfl, HO6.out, _, HB6.out, HF.out⟩
  ·have hm0 : m = 0 := by omega
   have HT := Lib.hid (trim_take M m hm HA.out (fun h => absurd h h0))
   have hb0 : decide ((0 : Int) < m) = false := by simp; omega
   have hm2 : 4 + 4 * m < 512 := by omega
   clear hm0
   go_wp2_with fail
   have hsl := fun W => page_range b (4 + 4 * m) (4 + 4 * M.length) _ _ (wrap_ptr m (by omega)) (wrap_ptr M.length (by omega)) (by omega) (by omega) (by omega) W
   have hclr := fun ty => clear_run (w2.drewN (n1 + 1)) b 512 (4 + 4 * m) (4 + 4 * M.length - (4 + 4 * m)) (512 - (4 + 4 * m)) pageT g2 HG2.out (by omega) ty
   go_region_held3 (fun _ => True) (trivial)
    (first | (go_at_call 142; go_must (refine (page_count b st M _ (by exact HP.out)).mono ?_; rintro e w4 ⟨rfl, rfl⟩)) | fail)
   clear hclr hsl
   have HG3 : Hid (Bk (relaid (w2.drewN (n1 + 1)) b 512 (layF g2 (4 + 4 * m) (4 + 4 * M.length - (4 + 4 * m)) (fun _ => 0))) b 512 pageT (layF g2 (4 + 4 * m) (4 + 4 * M.length - (4 + 4 * m)) (fun _ => 0))) := relaid_bk (by exact HG2.out) _
   have HO3 : Hid (Only (· = b) w (relaid (w2.drewN (n1 + 1)) b 512 (layF g2 (4 + 4 * m) (4 + 4 * M.length - (4 + 4 * m)) (fun _ => 0)))) := (HO.out.drewN _).trans (relaid_only _ _ _ _)
   have HF := Lib.hid (free_last HP2.out hm HA.out HT.out)
   generalize relaid (w2.drewN (n1 + 1)) b 512 (layF g2 (4 + 4 * m) (4 + 4 * M.length - (4 + 4 * m)) (fun _ => 0)) = w5 at HG3 HO3 ⊢
   have HL3 := Lib.hid (layF_lt HP2.out.lt (4 + 4 * m) (4 + 4 * M.length - (4 + 4 * m)) (f := fun _ => 0) (fun _ _ => by omega))
   have HS3 : Hid (leNum (layF g2 (4 + 4 * m) (4 + 4 * M.length - (4 + 4 * m)) (fun _ => 0)) 2 2 = st) := by rw [leNum_layF_out (by omega)]; exact HP2.out.st
   generalize layF g2 (4 + 4 * m) (4 + 4 * M.length - (4 + 4 * m)) (fun _ => 0) = g3 at HG3 HL3 HS3 HF
   go_wp2_with fail
   refine (start_any b g3 _ HG3.out HL3.out).mono ?_
   rintro e w6 ⟨rfl, rfl⟩
   rw [HS3.out]
   go_wp2_with fail
   refine (pset_any b m st g3 _ HG3.out (by omega) (by omega)).mono ?_
   rintro e w6 ⟨rfl, ho6, hb6⟩
   have HO6 := Lib.hid (HO3.out.trans ho6)
   have HB6 := Lib.hid hb6
   clear ho6 hb6
   go_wp2
   go_ret
   exact ⟨rfl, HO6.out, _, HB6.out, HF.out⟩
theorem info_page : (Tryz.prog.info? 230).map (·.size) = some 512 := by kernel_rfl
theorem one_tab (N : Nat) (g : Nat -> Nat) : (tab N (byteF g)).all (·.oneCell') = true := by
 rw [Array.all_eq_true_iff_forall_mem]
 intro x hx
 obtain ⟨i, hi, rfl⟩ := Array.mem_iff_getElem.1 hx
 simp [tab, byteF, Value.oneCell']
theorem load_page {w : World} {ops : Array Oper} {rest : List Oper} {o : Oper} {a : Act} {Q : Exit -> Act -> World -> Prop} (hgd : o.guard = none) (x : Operand) (ho : o.op = .load 230 x)
  (b : Nat) (hx : a.eval x = .pointer (some ⟨b, 0, none⟩)) (g : Nat -> Nat) (hb : Bk w b 512 pageT g)
  (h : wpList Tryz.prog ops Q rest (a.put o.dst (.agg (tab 512 (byteF g)))) w) : wpList Tryz.prog ops Q (o :: rest) a w :=
 wpList_load_row hgd 230 x ho b hx pageT _ (0, 0) _ hb Tryz.underlying230 rfl (by rw [tab_size]; exact info_page) h
theorem store_page {w : World} {ops : Array Oper} {rest : List Oper} {o : Oper} {a : Act} {Q : Exit -> Act -> World -> Prop} (hgd : o.guard = none) (x y : Operand) (ho : o.op = .store 230 x y)
  (b : Nat) (hx : a.eval x = .pointer (some ⟨b, 0, none⟩)) (g g0 : Nat -> Nat) (hy : a.eval y = .agg (tab 512 (byteF g))) (hb : Bk w b 512 pageT g0)
  (h : wpList Tryz.prog ops Q rest (a.put o.dst undef) (relaid w b 512 g)) : wpList Tryz.prog ops Q (o :: rest) a w :=
 wpList_store_row hgd 230 x y ho b _ hx hy pageT _ hb (by rw [tab_size]; exact info_page) (by simp [tab_size]) (one_tab _ _) h
structure MovW (w wr : World) (b n i : Nat) (g0 : Nat -> Nat) (L : List Slot) : Prop where
 only : Only (· = b) w wr
 old : Bk wr w.heap.size 512 pageT g0
 mv : ∃ g, Bk wr b 512 pageT g /\ Mv g g0 n i (movTo (L.take i)).1 (movTo (L.take i)).2
theorem MovW.drewN {w wr : World} {b n i : Nat} {g0 : Nat -> Nat} {L : List Slot} (h : MovW w wr b n i g0 L) (k : Nat) : MovW w (wr.drewN k) b n i g0 L := ⟨h.only.drewN k, h.old, h.mv⟩
theorem take_snoc {L : List Slot} {i : Nat} {s : Slot} (h : L[i]? = some s) : L.take (i + 1) = L.take i ++ [s] := by rw [List.take_add_one, h]; rfl
theorem mov_none {L : List Slot} {i : Nat} (h : L[i]? = some none) : (movTo (L.take (i + 1))).2 = (movTo (L.take i)).2 := by rw [take_snoc h, movTo_snoc]; rfl
theorem mov_some {L : List Slot} {i f : Nat} {t : Tup} (h : L[i]? = some (some (f, t))) : (movTo (L.take (i + 1))).2 = (movTo (L.take i)).2 - t.size := by rw [take_snoc h, movTo_snoc]; rfl
theorem movTo_at : ∀ (L : List Slot), (movTo L).2 = 512 - sumS L := by
 intro L
 induction hn : L.length generalizing L with
 | zero =>
  have : L = [] := List.eq_nil_of_length_eq_zero hn
  subst this
  rfl
 | succ n ih =>
  have hne : L ≠ [] := fun e => by subst e; simp at hn
  obtain ⟨M, s, rfl⟩ : ∃ M s, L = M ++ [s] := ⟨L.dropLast, L.getLast hne, (List.dropLast_concat_getLast hne).symm⟩
  have hM : M.length = n := by simpa using hn
  have := ih M hM
  rw [movTo_snoc, sumS_snoc]
  rcases s with _ | ⟨f, t⟩
  ·show (movTo M).2 = _
   rw [this]; rfl
  ·show (movTo M).2 - t.size = _
   rw [this]
   have : Slot.size (some (f, t)) = t.size := rfl
   omega
theorem sumS_take_le (L : List Slot) (i : Nat) : sumS (L.take i) <= sumS L := by
 conv => rhs; rw [<- List.take_append_drop i L]
 unfold sumS
 rw [List.map_append, List.sum_append]
 omega
theorem mov_at {L : List Slot} {i f : Nat} {t : Tup} (h : L[i]? = some (some (f, t))) (hr : 4 + 4 * L.length + sumS L <= 512) : 4 + 4 * L.length + t.size <= (movTo (L.take i)).2 /\ (movTo (L.take i)).2 <= 512 := by
 have h1 := sumS_take_le L (i + 1)
 rw [take_snoc h, sumS_snoc] at h1
 have : Slot.size (some (f, t)) = t.size := rfl
 rw [movTo_at]
 omega
theorem MovW.none {w wr : World} {b i st : Nat} {g0 : Nat -> Nat} {L : List Slot} (h : MovW w wr b L.length i g0 L) (hp : Pg g0 L st) (hi : L[i]? = some Option.none) : MovW w wr b L.length (i + 1) g0 L := by
 obtain ⟨h1, h2, g, h3, h4⟩ := h
 refine ⟨h1, h2, g, h3, ?_⟩
 rw [take_snoc hi, movTo_snoc]
 have := hp.ptr i _ hi
 exact h4.none (List.getElem?_eq_some_iff.1 hi).1 this
theorem MovW.some {w wr w2 w3 : World} {b i f at_ st : Nat} {t : Tup} {g0 gc : Nat -> Nat} {L : List Slot} (h : MovW w wr b L.length i g0 L) (hb : b < w.heap.size) (hp : Pg g0 L st) (hi : L[i]? = some (Option.some (f, t))) (ha : (movTo (L.take i)).2 = at_) (hr : 4 + 4 * L.length + sumS L <= 512)
  (hm : Mv gc g0 L.length i (movTo (L.take i)).1 (movTo (L.take i)).2) (o1 : Only (· = b) wr w2) (o2 : Only (· = b) w2 w3) (hb3 : Bk w3 b 512 pageT (putN (putN (layF gc (at_ - t.size) t.size t.ver) (4 + 4 * i) 2 (at_ - t.size)) (4 + 4 * i + 2) 2 t.size)) :
  MovW w w3 b L.length (i + 1) g0 L := by
 subst ha
 have hat := mov_at hi hr
 refine ⟨h.only.trans (o1.trans o2), (h.old.kept o1 (fun e => by omega)).kept o2 (fun e => by omega), _, hb3, ?_⟩
 rw [take_snoc hi, movTo_snoc]
 have := hm.some (List.getElem?_eq_some_iff.1 hi).1 (hp.ver i f t hi).2.2.1 hat.1
 unfold movG at this
 rw [show 6 + 4 * i = 4 + 4 * i + 2 by omega] at this
 exact this
set_option maxHeartbeats 1000000 in
theorem page_move (b st : Nat) (L : List Slot) (w : World) (h : PageAt w b L st) (hr : 4 + 4 * L.length + sumS L <= 512) (hl : L.length <= 126) :
  Calls Tryz.prog 144 #[.pointer (some ⟨b, 0, none⟩)] w fun e w' => e = .returned (.tuple #[]) /\ Only (· = b) w w' /\ PageAt w' b (movTo L).1 (movTo L).2 := by
 obtain ⟨g, hg, hp⟩ := h
 have heq := fun (w : World) (a : Option Addr) (n c : Nat) => Lib.run_eql_slice_nil (P := Tryz.prog) w 86 _ a n c 0 0 Tryz.underlying86
 have hbl := hg.lt
 have HG := Lib.hid hg
 have HP := Lib.hid hp
 clear hg hp
 go_enter Tryz.func144, Tryz.ntmps144
 go_wp2_with (first
   | (with_reducible refine load_page rfl (.tmp 7) rfl b rfl g HG.out ?_)
   | (with_reducible refine store_page rfl (.tmp 2) (.tmp 8) rfl w.heap.size rfl g (fun _ => 0) rfl (by unfold Bk; rw [alloc_new, zero_page]) ?_)
   | fail)
 have HW0 : Hid (Quiet w (relaid (w.alloc (.cells Tryz.zeroCells230 230)) w.heap.size 512 g) /\ Bk (relaid (w.alloc (.cells Tryz.zeroCells230 230)) w.heap.size 512 g) w.heap.size 512 pageT g /\ Bk (relaid (w.alloc (.cells Tryz.zeroCells230 230)) w.heap.size 512 g) b 512 pageT g) := by
  have o1 : Only (· = w.heap.size) (w.alloc (.cells Tryz.zeroCells230 230)) _ := relaid_only (w.alloc (.cells Tryz.zeroCells230 230)) w.heap.size 512 g
  exact ⟨((Only.refl _ _).alloc _).trans' o1 (fun k hk e => by omega), relaid_bk (g := fun _ => 0) (by unfold Bk; rw [alloc_new, zero_page]) _, Bk.kept (alloc_old HG.out _) o1 (fun e => by omega)⟩
 generalize relaid (w.alloc (.cells Tryz.zeroCells230 230)) w.heap.size 512 g = W0 at HW0 ⊢
 obtain ⟨hq0, hold0, hpg0⟩ := HW0.out
 have HQ0 := Lib.hid hq0
 have HOLD0 := Lib.hid hold0
 have HPG0 := Lib.hid hpg0
 clear hq0 hold0 hpg0 HW0
 have hsl := fun W => page_from b (4 + 4 * L.length) _ (wrap_ptr L.length (by omega)) (by omega) W
 have hclr := fun ty => clear_run W0.drew b 512 (4 + 4 * L.length) (512 - (4 + 4 * L.length)) (512 - (4 + 4 * L.length)) pageT g HPG0.out (by omega) ty
 go_region_held3 (fun _ => True) (trivial)
  (first | (go_at_call 142; go_must (refine (page_count b st L _ ⟨g, by exact HPG0.out, HP.out⟩).mono ?_; rintro e w4 ⟨rfl, rfl⟩)) | fail)
 have HS : Hid (MovW w (relaid W0.drew b 512 (layF g (4 + 4 * L.length) (512 - (4 + 4 * L.length)) (fun _ => 0))) b L.length 0 g L) := by
  have o1 := relaid_only W0.drew b 512 (layF g (4 + 4 * L.length) (512 - (4 + 4 * L.length)) (fun _ => 0))
  exact ⟨(HQ0.out.drew.mono (fun _ _ x => x.elim)).trans o1, Bk.kept (w := W0.drew) HOLD0.out o1 (fun e => by omega), _, relaid_bk (by exact HPG0.out) _, Mv.start HP.out.lt (by omega)⟩
 generalize relaid W0.drew b 512 (layF g (4 + 4 * L.length) (512 - (4 + 4 * L.length)) (fun _ => 0)) = W1 at HS ⊢
 clear hsl hclr HQ0 HOLD0 HPG0 HG
 go_wp2_with fail
 refine (page_count _ st L _ ⟨g, HS.out.old, HP.out⟩).mono ?_
 rintro e w4 ⟨rfl, rfl⟩
 go_wp2_with fail
 go_loopw [3, 18] (fun a v wr => ∃ i : Nat, i <= L.length /\ v = .int .i64 i /\ a = .int .i64 (movTo (L.take i)).2 /\ MovW w wr b L.length i g L) (fun _ v _ => L.length - (intOf v).toNat)
 case atStart => exact ⟨0, Nat.zero_le _, rfl, rfl, HS.out⟩
 case round =>
  obtain ⟨i, hi, rfl, rfl, hW⟩ := hrel
  have HW := Lib.hid hW
  clear hW HS
  by_cases hlt : i < L.length
  ·rcases hs : L[i]? with _ | s
   ·rw [List.getElem?_eq_getElem hlt] at hs; cases hs
   ·have HE := Lib.hid hs
    clear hs
    rcases s with _ | ⟨f, t⟩
    ·go_wp2_with fail
     refine (bytes_none _ st L _ _ ⟨g, HW.out.old, HP.out⟩ (by rw [slotAt_nat, HE.out]; rfl)).mono ?_
     rintro e w4 ⟨rfl, n2, rfl⟩
     go_wp2
     go_roundw
     case rel => exact ⟨i + 1, by omega, by go_num, by rw [mov_none HE.out], (HW.out.drewN _).none HP.out HE.out⟩
     case measure => simp [intOf]; omega
    ·obtain ⟨v1, v2, v3, v4⟩ := HP.out.ver i f t HE.out
     have ha := mov_at HE.out hr
     have HV := Lib.hid v4
     have HV3 := Lib.hid v3
     have hts := Tup.size_pos t
     obtain ⟨A, HA⟩ : ∃ A, Hid ((movTo (L.take i)).2 = A) := ⟨_, rfl⟩
     rw [HA.out] at ha ⊢
     have HN := Lib.hid (mov_some HE.out)
     rw [HA.out] at HN
     obtain ⟨z, Hz⟩ : ∃ z, Hid (t.size = z) := ⟨_, rfl⟩
     have h63 : A <= 512 := ha.2
     have hz1 : 4 + 4 * L.length + z <= A := by rw [<- Hz.out]; exact ha.1
     have hz2 : f + z <= 512 := by rw [<- Hz.out]; exact v2
     have hz3 : 30 <= z := by rw [<- Hz.out]; exact hts
     clear v3 v4 ha hts v2
     go_wp2_with fail
     refine (bytes_some _ st f t L _ _ ⟨g, HW.out.old, HP.out⟩ (by rw [slotAt_nat, HE.out]; rfl)).mono ?_
     rintro e w4 ⟨rfl, n2, rfl⟩
     rw [Hz.out]
     obtain ⟨gc, hgc, hmv⟩ := (HW.out.drewN n2).mv
     have HGC := Lib.hid hgc
     have HMV := Lib.hid hmv
     clear hgc hmv
     have hsl := fun W => page_from b (A - z) ((A : Int) - z) (by omega) (by omega) W
     have hcp := fun ty => copy_run (wr.drewN n2) b 512 (A - z) (512 - (A - z)) (512 - (A - z)) pageT gc HGC.out w.heap.size f z (512 - f) t.ver (fun j hj => by rw [(HW.out.drewN n2).old.cell (by omega)]; rw [HV.out j (by rw [Hz.out]; exact hj)]) (by omega) (by omega) ty
     go_wp2_with fail
     rw [show ((A : Int) - (z : Int)) = ((A - z : Nat) : Int) by omega]
     refine (point_any b i (A - z) z _ _ (relaid_bk (by exact HGC.out) _) (by omega) (by omega) (by omega)).mono ?_
     rintro e w5 ⟨rfl, ho, hb⟩
     have HX : Hid (MovW w w5 b L.length (i + 1) g L) := (HW.out.drewN n2).some hbl HP.out HE.out HA.out hr HMV.out (relaid_only _ _ _ _) ho (by rw [Hz.out]; exact hb)
     clear ho hb hcp hsl HGC HMV
     go_wp2
     go_roundw
     case rel => exact ⟨i + 1, by omega, by go_num, by rw [HN.out, Hz.out], HX.out⟩
     case measure => simp [intOf]; omega
  ·obtain rfl : i = L.length := by omega
   obtain ⟨gc, hgc, hmv⟩ := HW.out.mv
   rw [List.take_length] at hmv
   have hat := movTo_at L
   have HGC := Lib.hid hgc
   have HMV := Lib.hid hmv
   have HC : Hid (leNum gc 0 2 = L.length) := by rw [leNum_congr (g' := g) _ _ (fun x h1 h2 => hmv.same x (by omega))]; exact HP.out.cnt
   rw [List.take_length]
   obtain ⟨A, HA⟩ : ∃ A, Hid ((movTo L).2 = A) := ⟨_, rfl⟩
   have hA : A <= 512 := by rw [<- HA.out]; exact hmv.hi
   clear hgc hmv hat
   go_wp2_with fail
   refine (count_any b gc _ HGC.out HMV.out.lt).mono ?_
   rintro e w4 ⟨rfl, rfl⟩
   rw [HC.out, HA.out]
   go_wp2_with fail
   refine (pset_any b L.length A gc _ HGC.out (by omega) (by omega)).mono ?_
   rintro e w5 ⟨rfl, ho, hb⟩
   have HX : Hid (Only (· = b) w w5 /\ PageAt w5 b (movTo L).1 (movTo L).2) := ⟨HW.out.only.trans ho, _, hb, by have := HMV.out.done; rw [HA.out] at this ⊢; exact this⟩
   clear ho hb
   go_wp2
   go_end0
   exact ⟨rfl, HX.out⟩
end Go.Proofs.YthipgglplneijaaGreatDoor
namespace Go.Lap
open Go.RowKit
theorem spent_sum (L : List Slot) : spent L = 4 * L.length + sumS L := by
 induction L with
 | nil => rfl
 | cons s L ih =>
  have e1 : spent (s :: L) = 4 + Slot.size s + spent L := by simp [spent]
  have e2 : sumS (s :: L) = Slot.size s + sumS L := by simp [sumS]
  rw [e1, e2, ih, List.length_cons]
  omega
def insCount (L : List Slot) : Nat := max L.length (freeIdx L + 1)
def insTo (L : List Slot) (st : Nat) (t : Tup) : List Slot × Nat :=
 if st < t.size + (4 + 4 * insCount L) then (insL (movTo L).1 (freeIdx L) (some ((movTo L).2 - t.size, t)), (movTo L).2 - t.size)
 else (insL L (freeIdx L) (some (st - t.size, t)), st - t.size)
def pIns (L : List Slot) (st : Nat) (t : Tup) : Int × Int × List Slot × Nat :=
 if t.rightB = false then (0, 3, L, st) else if roomOf L < t.data.length then (0, 12, L, st) else (freeIdx L, 0, (insTo L st t).1, (insTo L st t).2)
theorem room_fit {L : List Slot} {n : Nat} (h : ¬ roomOf L < n) : 4 + 4 * insCount L + sumS L + (30 + n) <= 512 := by
 unfold roomOf at h
 have h1 := spent_sum L
 have h2 := freeIdx_le L
 unfold insCount
 by_cases e : freeIdx L = L.length
 ·rw [if_pos e] at h
  omega
 ·rw [if_neg e] at h
  omega
theorem movTo_shape (L : List Slot) : (movTo L).1.map (fun s => s.isNone) = L.map (fun s => s.isNone) := by
 induction hn : L.length generalizing L with
 | zero =>
  have : L = [] := List.eq_nil_of_length_eq_zero hn
  subst this
  rfl
 | succ n ih =>
  have hne : L ≠ [] := fun e => by subst e; simp at hn
  obtain ⟨M, s, rfl⟩ : ∃ M s, L = M ++ [s] := ⟨L.dropLast, L.getLast hne, (List.dropLast_concat_getLast hne).symm⟩
  have hM : M.length = n := by simpa using hn
  rw [movTo_snoc, List.map_append, <- ih M hM]
  rcases s with _ | ⟨f, t⟩ <;> simp [movStep]
theorem movTo_length (L : List Slot) : (movTo L).1.length = L.length := by
 have := congrArg List.length (movTo_shape L)
 simpa using this
theorem movTo_free (L : List Slot) : ∀ s, (movTo L).1[freeIdx L]? = some s -> s = none := by
 intro s hs
 have h1 : ((movTo L).1.map (fun s => s.isNone))[freeIdx L]? = some s.isNone := by rw [List.getElem?_map, hs]; rfl
 rw [movTo_shape, List.getElem?_map] at h1
 rcases hx : L[freeIdx L]? with _ | y
 ·rw [hx] at h1; cases h1
 ·have := freeIdx_free L y hx
  subst this
  rw [hx] at h1
  have h2 : some true = some s.isNone := h1
  injection h2 with h2
  cases s
  ·rfl
  ·cases h2
end Go.Lap
namespace Go.Proofs.YthipgglplneijaaGreatDoor
open Go.RowKit Go.Lap
theorem own_pos {w : World} {e : TypeId} {v : Value} {n : Nat} {xs : List Value} (h : w.ownsRow 0 e 1 v n xs) (hn : 0 < n) :
  ∃ g cap, v = .slice (some ⟨g, 0, none⟩) n cap /\ n <= cap /\ cap <= maxLen /\ g < w.heap.size /\ ∀ j u, xs[j]? = some u -> w.cell? ⟨g, j, none⟩ = some u := by
 rcases h.2 with ⟨_, rfl⟩ | ⟨g, cap, cur, rfl, _, hh, r1, r2, _⟩
 ·omega
 ·exact ⟨g, cap, rfl, r1, r2, lt_of_get hh, fun j u hu => by have := h.cells rfl j u hu; rw [add_none, Nat.zero_add] at this; exact this⟩
theorem ins_final {w : World} {b st S1 z c fi : Nat} {L L1 : List Slot} {g4 : Nat -> Nat} {t : Tup} (hp : Pg g4 L1 S1) (hl : L1.length = L.length) (ht : t.Ok) (hfi : freeIdx L = fi) (hfr : ∀ s, L1[freeIdx L]? = some s -> s = none) (hz : t.size = z) (hc : insCount L = c)
  (hto : insTo L st t = (insL L1 fi (some (S1 - z, t)), S1 - z)) (hS : z + (4 + 4 * c) <= S1) (hb : Bk w b 512 pageT (putN (putN (layF (putN (putN g4 0 2 c) 2 2 (S1 - z)) (S1 - z) z t.ver) (4 + 4 * fi) 2 (S1 - z)) (4 + 4 * fi + 2) 2 z)) :
  PageAt w b (insTo L st t).1 (insTo L st t).2 := by
 subst hz hfi
 have hle := freeIdx_le L
 have hcc : max L1.length (freeIdx L + 1) = c := by rw [hl]; exact hc
 have := hp.insert (slot := freeIdx L) (t := t) (by omega) hfr ht (by rw [hcc]; omega)
 rw [hcc] at this
 unfold insG at this
 rw [show 6 + 4 * freeIdx L = 4 + 4 * freeIdx L + 2 by omega] at this
 rw [hto]
 exact ⟨_, hb, this⟩
theorem box_cells {w : World} {k : Nat} {row xmin xmax : Nat} {pg sl : Int} {A : Option Addr} {n cap : Nat} {t : TypeId} {fr : Nat × Nat} (h : w.heap[k]? = some (.cells #[.int .u64 row, .int .u64 xmin, .int .u64 xmax, .int .i64 pg, .int .i64 sl, .slice A n cap] t fr)) :
  w.cell? ⟨k, 0, none⟩ = some (.int .u64 row) /\ w.cell? ⟨k, 1, none⟩ = some (.int .u64 xmin) /\ w.cell? ⟨k, 2, none⟩ = some (.int .u64 xmax) /\ w.cell? ⟨k, 3, none⟩ = some (.int .i64 pg) /\ w.cell? ⟨k, 4, none⟩ = some (.int .i64 sl) /\ w.cell? ⟨k, 5, none⟩ = some (.slice A n cap) :=
 ⟨by rw [cell_of h]; rfl, by rw [cell_of h]; rfl, by rw [cell_of h]; rfl, by rw [cell_of h]; rfl, by rw [cell_of h]; rfl, by rw [cell_of h]; rfl⟩
set_option maxHeartbeats 1000000 in
theorem page_insert_ok (b st : Nat) (L : List Slot) (t : Tup) (A : Option Addr) (cap : Nat) (S : Nat -> Prop) (w : World) (h : PageAt w b L st) (ht : t.Ok) (hd : Rd w S 1 A t.data.length (bytesV t.data)) (hroom : ¬ roomOf L < t.data.length) :
  Calls Tryz.prog 103 #[.pointer (some ⟨b, 0, none⟩), tupV t A cap] w fun e w' => e = .returned (.tuple #[.int .i64 (freeIdx L), .int .i64 0]) /\ Only (· = b) w w' /\ PageAt w' b (insTo L st t).1 (insTo L st t).2 := by
 have hbd := ht.bounds
 have hfit := room_fit hroom
 have hfi := freeIdx_le L
 have hl := h.len
 have hbl := h.lt
 have HD := Lib.hid hd
 have HP := Lib.hid h
 have HT := Lib.hid ht
 have HR := Lib.hid (right_any t A cap)
 rw [ht.right] at HR
 have HK : Hid (∀ W, Quiet w W -> Calls Tryz.prog 141 #[tupV t A cap] W (PackPost W t)) := fun W x => pack_any t A cap S W ht (hd.kept x (fun _ _ x => x))
 have hroom' : ((t.data.length : Int)) <= roomOf L := by omega
 clear hd h ht hroom
 unfold tupV at HR HK ⊢
 obtain ⟨R, HRM⟩ : ∃ R, Hid (roomOf L = R) := ⟨_, rfl⟩
 rw [HRM.out] at hroom'
 obtain ⟨fi, HFI⟩ : ∃ fi, Hid (freeIdx L = fi) := ⟨_, rfl⟩
 rw [HFI.out] at hfi ⊢
 go_enter Tryz.func103, Tryz.ntmps103
 go_wp2_with fail
 refine (HR.out _).mono ?_
 rintro e w1 ⟨rfl, hq1⟩
 have hbox : w1.heap[w.heap.size]? = _ := hq1.get (alloc_new w _) (fun x => x)
 obtain ⟨c0, c1, c2, c3, c4, c5⟩ := box_cells hbox
 have HBX := Lib.hid hbox
 have HQ1 : Hid (Quiet w w1) := ((Only.refl _ _).alloc _).trans hq1
 have hsz1 : w.heap.size < w1.heap.size := by have := hq1.size; simp at this; omega
 have HP1 : Hid (PageAt w1 b L st) := HP.out.kept HQ1.out (fun x => x)
 have HROM : Hid (∀ n : Nat, Calls Tryz.prog 139 #[.pointer (some ⟨b, 0, none⟩)] (w1.drewN n) fun e w' => e = .returned (.int .i64 R) /\ ∃ k, w' = (w1.drewN n).drewN k) := fun n => by have := page_room b st L (w1.drewN n) HP1.out; rw [HRM.out] at this; exact this
 have HFREE : Hid (∀ n : Nat, Calls Tryz.prog 140 #[.pointer (some ⟨b, 0, none⟩)] (w1.drewN n) fun e w' => e = .returned (.int .i64 fi) /\ ∃ k, w' = (w1.drewN n).drewN k) := fun n => by have := page_free b st L (w1.drewN n) HP1.out; rw [HFI.out] at this; exact this
 clear hq1 hbox
 go_wp2_with fail
 go_quiet ((go_at_call 139; exact Calls.quiet_of (HROM.out _)))
 go_wp2_with fail
 go_region_held3 (fun w' => w'.cell? ⟨w.heap.size, 0, none⟩ = some (.int .u64 t.row) /\ w'.cell? ⟨w.heap.size, 1, none⟩ = some (.int .u64 t.xmin) /\ w'.cell? ⟨w.heap.size, 2, none⟩ = some (.int .u64 t.xmax) /\ w'.cell? ⟨w.heap.size, 3, none⟩ = some (.int .i64 t.pg) /\ w'.cell? ⟨w.heap.size, 4, none⟩ = some (.int .i64 t.sl) /\ w'.cell? ⟨w.heap.size, 5, none⟩ = some (.slice A t.data.length cap))
  (first | go_keep | exact box_cells (HQ2.out.get HBX.out (fun x => x)) | fail)
  (first
    | (go_at_call 140; go_must ((with_reducible refine (HFREE.out _).mono ?_); rintro e w2 ⟨rfl, n3, rfl⟩))
    | (go_at_call 141; go_must ((with_reducible refine (HK.out _ (HQ1.out.drewN _)).mono ?_); rintro e w3 ⟨v, rfl, hq3, hv, hown⟩; have HQ2 := Lib.hid hq3; have HV := Lib.hid hv; have HOWN := Lib.hid hown; clear hq3 hv hown))
    | fail)
 obtain ⟨z, Hz⟩ : ∃ z, Hid (t.size = z) := ⟨_, rfl⟩
 have hz : z <= 30 + t.data.length /\ 30 + t.data.length <= z := by rw [<- Hz.out]; exact ⟨Nat.le_refl _, Nat.le_refl _⟩
 have hown := HOWN.out
 rw [Hz.out] at hown
 obtain ⟨gb, vc, hv, hvc, hvm, hvl, hvs⟩ := own_pos hown (by omega)
 have hgb : ¬ gb = b := by
  have := HV.out gb (by rw [hv]; rfl)
  have : w1.heap.size <= gb := this
  omega
 have HSRC : Hid (∀ j, j < z -> w3.cell? ⟨gb, 0 + j, none⟩ = some (.int .u8 (t.ver j))) := fun j hj => by rw [Nat.zero_add]; exact hvs j _ (by simp [firstV, hj])
 have HP3 : Hid (PageAt w3 b L st) := PageAt.kept (S := fun _ => False) (w := w1.drewN (nq + 1 + n3)) HP1.out HQ2.out (fun x => x)
 have HO3 : Hid (Only (· = b) w w3) := (((HQ1.out.drewN _).trans HQ2.out).mono (fun _ _ x => x.elim))
 unfold maxLen at hvm
 subst hv
 obtain ⟨c, Hc⟩ : ∃ c, Hid (insCount L = c) := ⟨_, rfl⟩
 rw [Hc.out] at hfit
 have hcm : max (L.length : Int) ((fi : Int) + 1) = c := by have := Hc.out; unfold insCount at this; rw [HFI.out] at this; omega
 have hlc : L.length <= c /\ fi < c := by omega
 have Hcm := Lib.hid hcm
 have hst := HP3.out
 obtain ⟨_, _, hpp⟩ := hst
 have hst1 := hpp.le
 clear hpp hcm hown hvs HOWN HV HQ2 HK HR HFREE HROM HBX c0 c1 c2 c3 c4 c5
 go_wp2_with fail
 refine (page_count b st L _ HP3.out).mono ?_
 rintro e w7 ⟨rfl, rfl⟩
 go_wp2_with fail
 rw [Hcm.out]
 refine (page_start b st L _ HP3.out).mono ?_
 rintro e w7 ⟨rfl, rfl⟩
 by_cases hmv : st < z + (4 + 4 * c)
 ·have HTO : Hid (insTo L st t = (insL (movTo L).1 fi (some ((movTo L).2 - z, t)), (movTo L).2 - z)) := by unfold insTo; rw [Hc.out, Hz.out, HFI.out, if_pos hmv]; rfl
  have hd : decide ((st : Int) - z < 4 + 4 * c) = true := by simp; omega
  go_wp2_with fail
  refine (page_move b st L _ HP3.out (by omega) (by omega)).mono ?_
  rintro e w4 ⟨rfl, ho4, hp4⟩
  have HO4 := Lib.hid (HO3.out.trans ho4)
  have HSRC4 : Hid (∀ j, j < z -> w4.cell? ⟨gb, 0 + j, none⟩ = some (.int .u8 (t.ver j))) := fun j hj => ho4.cell (HSRC.out j hj) hgb
  have HL1 := Lib.hid (movTo_length L)
  have HFR := Lib.hid (movTo_free L)
  have hat := movTo_at L
  obtain ⟨L1, HLL⟩ : ∃ L1, Hid ((movTo L).1 = L1) := ⟨_, rfl⟩
  obtain ⟨S1, HSS⟩ : ∃ S1, Hid ((movTo L).2 = S1) := ⟨_, rfl⟩
  rw [HLL.out, HSS.out] at hp4 HTO
  rw [HLL.out] at HL1 HFR
  rw [HSS.out] at hat
  have HP4 := Lib.hid hp4
  have hS : z + (4 + 4 * c) <= S1 := by omega
  clear hat ho4 hp4 HP3 HSRC HLL HSS
  go_wp2_with fail
  refine (page_start b S1 L1 _ HP4.out).mono ?_
  rintro e w8 ⟨rfl, rfl⟩
  obtain ⟨g4, hg4, hp4⟩ := HP4.out
  have HG4 := Lib.hid hg4
  have HPG4 := Lib.hid hp4
  have hst4 := hp4.le
  clear hg4 hp4
  have hsl := fun W => page_from b (S1 - z) ((S1 : Int) - z) (by omega) (by omega) W
  go_wp2_with fail
  rw [show ((S1 : Int) - (z : Int)) = ((S1 - z : Nat) : Int) by omega] at hsl ⊢
  refine (pset_any b c (S1 - z) g4 _ HG4.out (by omega) (by omega)).mono ?_
  rintro e w5 ⟨rfl, ho5, hb5⟩
  have HO5 := Lib.hid (HO4.out.trans ho5)
  have HB5 := Lib.hid hb5
  have HSRC5 : Hid (∀ j, j < z -> w5.cell? ⟨gb, 0 + j, none⟩ = some (.int .u8 (t.ver j))) := fun j hj => ho5.cell (HSRC4.out j hj) hgb
  clear ho5 hb5
  have hcp := fun ty => copy_run w5 b 512 (S1 - z) (512 - (S1 - z)) (512 - (S1 - z)) pageT _ HB5.out gb 0 z vc t.ver HSRC5.out (by omega) (by omega) ty
  go_wp2_with fail
  refine (point_any b fi (S1 - z) z _ _ (relaid_bk (by exact HB5.out) _) (by omega) (by omega) (by omega)).mono ?_
  rintro e w6 ⟨rfl, ho6, hb6⟩
  have HX : Hid (Only (· = b) w w6 /\ PageAt w6 b (insTo L st t).1 (insTo L st t).2) := ⟨HO5.out.trans ((relaid_only _ _ _ _).trans ho6), ins_final HPG4.out HL1.out HT.out HFI.out HFR.out Hz.out Hc.out HTO.out (by omega) hb6⟩
  clear ho6 hb6 hcp hsl
  go_wp2
  go_ret2
  exact ⟨rfl, HX.out⟩
 ·have HTO : Hid (insTo L st t = (insL L fi (some (st - z, t)), st - z)) := by unfold insTo; rw [Hc.out, Hz.out, HFI.out, if_neg hmv]; rfl
  have hd : decide ((st : Int) - z < 4 + 4 * c) = false := by simp; omega
  have HO4 := HO3
  have HSRC4 := HSRC
  have HFR := Lib.hid (freeIdx_free L)
  have HP4 := HP3
  have hS : z + (4 + 4 * c) <= st := by omega
  clear HP3 HSRC
  go_wp2_with fail
  refine (page_start b st L _ HP4.out).mono ?_
  rintro e w8 ⟨rfl, rfl⟩
  obtain ⟨g4, hg4, hp4⟩ := HP4.out
  have HG4 := Lib.hid hg4
  have HPG4 := Lib.hid hp4
  have hst4 := hp4.le
  clear hg4 hp4
  have hsl := fun W => page_from b (st - z) ((st : Int) - z) (by omega) (by omega) W
  go_wp2_with fail
  rw [show ((st : Int) - (z : Int)) = ((st - z : Nat) : Int) by omega] at hsl ⊢
  refine (pset_any b c (st - z) g4 _ HG4.out (by omega) (by omega)).mono ?_
  rintro e w5 ⟨rfl, ho5, hb5⟩
  have HO5 := Lib.hid (HO4.out.trans ho5)
  have HB5 := Lib.hid hb5
  have HSRC5 : Hid (∀ j, j < z -> w5.cell? ⟨gb, 0 + j, none⟩ = some (.int .u8 (t.ver j))) := fun j hj => ho5.cell (HSRC4.out j hj) hgb
  clear ho5 hb5
  have hcp := fun ty => copy_run w5 b 512 (st - z) (512 - (st - z)) (512 - (st - z)) pageT _ HB5.out gb 0 z vc t.ver HSRC5.out (by omega) (by omega) ty
  go_wp2_with fail
  refine (point_any b fi (st - z) z _ _ (relaid_bk (by exact HB5.out) _) (by omega) (by omega) (by omega)).mono ?_
  rintro e w6 ⟨rfl, ho6, hb6⟩
  have HX : Hid (Only (· = b) w w6 /\ PageAt w6 b (insTo L st t).1 (insTo L st t).2) := ⟨HO5.out.trans ((relaid_only _ _ _ _).trans ho6), ins_final HPG4.out rfl HT.out HFI.out HFR.out Hz.out Hc.out HTO.out (by omega) hb6⟩
  clear ho6 hb6 hcp hsl
  go_wp2
  go_ret2
  exact ⟨rfl, HX.out⟩
set_option maxHeartbeats 1000000 in
theorem page_insert_form (b : Nat) (t : Tup) (A : Option Addr) (cap : Nat) (w : World) (ht : t.rightB = false) :
  Calls Tryz.prog 103 #[.pointer (some ⟨b, 0, none⟩), tupV t A cap] w fun e w' => e = .returned (.tuple #[.int .i64 0, .int .i64 3]) /\ Quiet w w' := by
 have HR := Lib.hid (right_any t A cap)
 rw [ht] at HR
 unfold tupV at HR ⊢
 clear ht
 go_enter Tryz.func103, Tryz.ntmps103
 go_wp2_with fail
 refine (HR.out _).mono ?_
 rintro e w1 ⟨rfl, hq1⟩
 have HQ1 : Hid (Quiet w w1) := ((Only.refl _ _).alloc _).trans hq1
 clear hq1
 go_wp2
 go_ret2
 exact ⟨rfl, HQ1.out⟩
set_option maxHeartbeats 1000000 in
theorem page_insert_full (b st : Nat) (L : List Slot) (t : Tup) (A : Option Addr) (cap : Nat) (w : World) (h : PageAt w b L st) (ht : t.rightB = true) (hroom : roomOf L < t.data.length) :
  Calls Tryz.prog 103 #[.pointer (some ⟨b, 0, none⟩), tupV t A cap] w fun e w' => e = .returned (.tuple #[.int .i64 0, .int .i64 12]) /\ Quiet w w' := by
 have HR := Lib.hid (right_any t A cap)
 rw [ht] at HR
 have HP := Lib.hid h
 unfold tupV at HR ⊢
 clear ht h
 obtain ⟨R, HRM⟩ : ∃ R, Hid (roomOf L = R) := ⟨_, rfl⟩
 rw [HRM.out] at hroom
 go_enter Tryz.func103, Tryz.ntmps103
 go_wp2_with fail
 refine (HR.out _).mono ?_
 rintro e w1 ⟨rfl, hq1⟩
 have hbox : w1.heap[w.heap.size]? = _ := hq1.get (alloc_new w _) (fun x => x)
 obtain ⟨c0, c1, c2, c3, c4, c5⟩ := box_cells hbox
 have HQ1 : Hid (Quiet w w1) := ((Only.refl _ _).alloc _).trans hq1
 have HP1 : Hid (PageAt w1 b L st) := HP.out.kept HQ1.out (fun x => x)
 have HROM : Hid (∀ n : Nat, Calls Tryz.prog 139 #[.pointer (some ⟨b, 0, none⟩)] (w1.drewN n) fun e w' => e = .returned (.int .i64 R) /\ ∃ k, w' = (w1.drewN n).drewN k) := fun n => by have := page_room b st L (w1.drewN n) HP1.out; rw [HRM.out] at this; exact this
 clear hq1 hbox c0 c1 c2 c3 c4
 go_wp2_with fail
 go_quiet ((go_at_call 139; exact Calls.quiet_of (HROM.out _)))
 go_wp2
 go_ret2
 exact ⟨rfl, HQ1.out.drewN _⟩
theorem page_insert (b st : Nat) (L : List Slot) (t : Tup) (A : Option Addr) (cap : Nat) (S : Nat -> Prop) (w : World) (h : PageAt w b L st) (hby : ∀ x ∈ t.data, x < 256) (hd : Rd w S 1 A t.data.length (bytesV t.data)) :
  Calls Tryz.prog 103 #[.pointer (some ⟨b, 0, none⟩), tupV t A cap] w fun e w' => e = .returned (.tuple #[.int .i64 (pIns L st t).1, .int .i64 (pIns L st t).2.1]) /\ Only (· = b) w w' /\ PageAt w' b (pIns L st t).2.2.1 (pIns L st t).2.2.2 := by
 rcases ht : t.rightB with _ | _
 ·refine (page_insert_form b t A cap w ht).mono ?_
  rintro e w' ⟨rfl, hq⟩
  rw [show pIns L st t = (0, 3, L, st) from if_pos ht]
  exact ⟨rfl, hq.mono (fun _ _ x => x.elim), h.kept hq (fun x => x)⟩
 ·by_cases hr : roomOf L < t.data.length
  ·refine (page_insert_full b st L t A cap w h ht hr).mono ?_
   rintro e w' ⟨rfl, hq⟩
   rw [show pIns L st t = (0, 12, L, st) by unfold pIns; rw [if_neg (by simp [ht]), if_pos hr]]
   exact ⟨rfl, hq.mono (fun _ _ x => x.elim), h.kept hq (fun x => x)⟩
  ·refine (page_insert_ok b st L t A cap S w h ⟨ht, hby⟩ hd hr).mono ?_
   rintro e w' ⟨rfl, ho, hp⟩
   rw [show pIns L st t = ((freeIdx L : Int), 0, (insTo L st t).1, (insTo L st t).2) by unfold pIns; rw [if_neg (by simp [ht]), if_neg hr]]
   exact ⟨rfl, ho, hp⟩
end Go.Proofs.YthipgglplneijaaGreatDoor
namespace Go.Lap
open Go.RowKit
def tups (L : List Slot) : List (Option Tup) := L.map (Option.map Prod.snd)
def freeT (T : List (Option Tup)) : Nat := (T.findIdx? (fun s => s.isNone)).getD T.length
def sizeT : Option Tup -> Nat
 | none => 0
 | some t => t.size
def spentT (T : List (Option Tup)) : Nat := (T.map (fun s => 4 + sizeT s)).sum
def roomT (T : List (Option Tup)) : Int := max (478 - spentT T - (if freeT T = T.length then 4 else 0)) (-1)
def usedT (T : List (Option Tup)) : Nat := (T.filter (fun s => s.isSome)).length
def trimT (T : List (Option Tup)) : List (Option Tup) := (T.reverse.dropWhile (fun s => s.isNone)).reverse
def insT (T : List (Option Tup)) (t : Tup) : List (Option Tup) := if freeT T = T.length then T ++ [some t] else T.set (freeT T) (some t)
def pInsT (T : List (Option Tup)) (t : Tup) : Int × Int × List (Option Tup) :=
 if t.rightB = false then (0, 3, T) else if roomT T < t.data.length then (0, 12, T) else (freeT T, 0, insT T t)
def tupAt (T : List (Option Tup)) (i : Int) : Option Tup := if i < 0 then none else (T[i.toNat]?).join
theorem tups_length (L : List Slot) : (tups L).length = L.length := by simp [tups]
theorem none_map (s : Slot) : (Option.map Prod.snd s).isNone = s.isNone := by cases s <;> rfl
theorem some_map (s : Slot) : (Option.map Prod.snd s).isSome = s.isSome := by cases s <;> rfl
theorem free_tups (L : List Slot) : freeT (tups L) = freeIdx L := by
 unfold freeT freeIdx tups
 rw [List.findIdx?_map, List.length_map]
 congr 2
 funext s
 exact none_map s
theorem size_map (s : Slot) : sizeT (Option.map Prod.snd s) = Slot.size s := by rcases s with _ | ⟨f, t⟩ <;> rfl
theorem spent_tups (L : List Slot) : spentT (tups L) = spent L := by
 unfold spentT spent tups
 rw [List.map_map]
 congr 1
 apply List.map_congr_left
 intro s _
 show 4 + sizeT (Option.map Prod.snd s) = _
 rw [size_map]
theorem room_tups (L : List Slot) : roomT (tups L) = roomOf L := by
 unfold roomT roomOf
 rw [spent_tups, free_tups, tups_length]
theorem used_tups (L : List Slot) : usedT (tups L) = usedOf L := by
 unfold usedT usedOf tups
 rw [List.filter_map, List.length_map]
 congr 2
 funext s
 exact some_map s
theorem trim_tups (L : List Slot) : trimT (tups L) = tups (trim L) := by
 unfold trimT trim tups
 rw [<- List.map_reverse, List.dropWhile_map, <- List.map_reverse]
 congr 3
 funext s
 exact none_map s
theorem set_tups (L : List Slot) (i : Nat) : tups (L.set i none) = (tups L).set i none := by
 unfold tups
 rw [List.map_set]; rfl
theorem insL_tups (L : List Slot) (i : Nat) (f : Nat) (t : Tup) : tups (insL L i (some (f, t))) = if i = (tups L).length then tups L ++ [some t] else (tups L).set i (some t) := by
 unfold insL
 rw [tups_length]
 split
 ·simp [tups]
 ·unfold tups; rw [List.map_set]; rfl
theorem movTo_tups (L : List Slot) : tups (movTo L).1 = tups L := by
 induction hn : L.length generalizing L with
 | zero =>
  have : L = [] := List.eq_nil_of_length_eq_zero hn
  subst this
  rfl
 | succ n ih =>
  have hne : L ≠ [] := fun e => by subst e; simp at hn
  obtain ⟨M, s, rfl⟩ : ∃ M s, L = M ++ [s] := ⟨L.dropLast, L.getLast hne, (List.dropLast_concat_getLast hne).symm⟩
  have hM : M.length = n := by simpa using hn
  have := ih M hM
  rw [movTo_snoc]
  unfold tups at this ⊢
  rw [List.map_append, <- this]
  rcases s with _ | ⟨f, t⟩ <;> simp [movStep]
theorem insTo_tups (L : List Slot) (st : Nat) (t : Tup) : tups (insTo L st t).1 = insT (tups L) t := by
 unfold insTo insT
 rw [free_tups]
 split
 ·rw [insL_tups, movTo_tups]
 ·rw [insL_tups]
theorem slot_tups (L : List Slot) (i : Int) : tupAt (tups L) i = (slotAt L i).map Prod.snd := by
 unfold tupAt slotAt tups
 split
 ·rfl
 ·rw [List.getElem?_map]
  rcases L[i.toNat]? with _ | s
  ·rfl
  ·rfl
theorem room_iff (T : List (Option Tup)) (n : Nat) : (¬ roomT T < n) ↔ 4 + 4 * (max T.length (freeT T + 1)) + ((T.map sizeT).sum) + (30 + n) <= 512 := by
 have e : spentT T = 4 * T.length + (T.map sizeT).sum := by
  unfold spentT
  induction T with
  | nil => rfl
  | cons s T ih => rw [List.map_cons, List.sum_cons, ih, List.map_cons, List.sum_cons, List.length_cons]; omega
 have hf : freeT T <= T.length := by
  unfold freeT
  rcases h : T.findIdx? (fun s => s.isNone) with _ | i
  ·rw [h]; exact Nat.le_refl _
  ·rw [h]
   rw [List.findIdx?_eq_some_iff_getElem] at h
   obtain ⟨hi, _⟩ := h
   exact Nat.le_of_lt hi
 unfold roomT
 rw [e]
 by_cases hx : freeT T = T.length
 ·rw [if_pos hx]; omega
 ·rw [if_neg hx]; omega
end Go.Lap
namespace Go.Proofs.YthipgglplneijaaGreatDoor
open Go.RowKit Go.Lap
def PageT (w : World) (b : Nat) (T : List (Option Tup)) : Prop := ∃ L st, PageAt w b L st /\ tups L = T
theorem PageT.kept {S : Nat -> Prop} {w w' : World} {b : Nat} {T : List (Option Tup)} (h : PageT w b T) (ho : Only S w w') (hn : ¬ S b) : PageT w' b T := by
 obtain ⟨L, st, h1, h2⟩ := h
 exact ⟨L, st, h1.kept ho hn, h2⟩
theorem PageT.lt {w : World} {b : Nat} {T : List (Option Tup)} (h : PageT w b T) : b < w.heap.size := by
 obtain ⟨L, st, h1, h2⟩ := h
 exact h1.lt
theorem PageT.len {w : World} {b : Nat} {T : List (Option Tup)} (h : PageT w b T) : T.length <= 127 := by
 obtain ⟨L, st, h1, h2⟩ := h
 rw [<- h2, tups_length]; exact h1.len
theorem pageT_new (w : World) :
  Calls Tryz.prog 72 #[] w fun e w' => e = .returned (.pointer (some ⟨w.heap.size, 0, none⟩)) /\ Quiet w w' /\ w.heap.size < w'.heap.size /\ PageT w' w.heap.size [] :=
 (page_new w).mono fun _ _ ⟨a, b, c, d⟩ => ⟨a, b, c, [], 512, d, rfl⟩
theorem pageT_room (b : Nat) (T : List (Option Tup)) (w : World) (h : PageT w b T) :
  Calls Tryz.prog 139 #[.pointer (some ⟨b, 0, none⟩)] w fun e w' => e = .returned (.int .i64 (roomT T)) /\ ∃ n, w' = w.drewN n := by
 obtain ⟨L, st, h1, rfl⟩ := h
 rw [room_tups]
 exact page_room b st L w h1
theorem pageT_slots (b : Nat) (T : List (Option Tup)) (w : World) (h : PageT w b T) :
  Calls Tryz.prog 112 #[.pointer (some ⟨b, 0, none⟩)] w fun e w' => e = .returned (.int .i64 T.length) /\ w = w' := by
 obtain ⟨L, st, h1, rfl⟩ := h
 rw [tups_length]
 exact page_slots b st L w h1
theorem pageT_used (b : Nat) (T : List (Option Tup)) (w : World) (h : PageT w b T) :
  Calls Tryz.prog 81 #[.pointer (some ⟨b, 0, none⟩)] w fun e w' => e = .returned (.int .i64 (usedT T)) /\ ∃ n, w' = w.drewN n := by
 obtain ⟨L, st, h1, rfl⟩ := h
 rw [used_tups]
 exact page_used b st L w h1
theorem pageT_free_some (b : Nat) (t : Tup) (T : List (Option Tup)) (i : Int) (w : World) (h : PageT w b T) (hi : tupAt T i = some t) :
  Calls Tryz.prog 163 #[.pointer (some ⟨b, 0, none⟩), .int .i64 i] w fun e w' => e = .returned (.int .i64 0) /\ Only (· = b) w w' /\ PageT w' b (trimT (T.set i.toNat none)) := by
 obtain ⟨L, st, h1, rfl⟩ := h
 rw [slot_tups] at hi
 rcases hs : slotAt L i with _ | ⟨f, t'⟩
 ·rw [hs] at hi; cases hi
 ·refine (page_free_some b st f t' L i w h1 hs).mono ?_
  rintro e w' ⟨rfl, ho, hp⟩
  exact ⟨rfl, ho, _, _, hp, by rw [<- trim_tups, set_tups]⟩
theorem pageT_free_none (b : Nat) (T : List (Option Tup)) (i : Int) (w : World) (h : PageT w b T) (hi : tupAt T i = none) :
  Calls Tryz.prog 163 #[.pointer (some ⟨b, 0, none⟩), .int .i64 i] w fun e w' => e = .returned (.int .i64 15) /\ Quiet w w' := by
 obtain ⟨L, st, h1, rfl⟩ := h
 rw [slot_tups] at hi
 refine page_free_none b st L i w h1 ?_
 rcases hs : slotAt L i with _ | x
 ·rfl
 ·rw [hs] at hi; cases hi
theorem pageT_insert (b : Nat) (T : List (Option Tup)) (t : Tup) (A : Option Addr) (cap : Nat) (S : Nat -> Prop) (w : World) (h : PageT w b T) (hby : ∀ x ∈ t.data, x < 256) (hd : Rd w S 1 A t.data.length (bytesV t.data)) :
  Calls Tryz.prog 103 #[.pointer (some ⟨b, 0, none⟩), tupV t A cap] w fun e w' => e = .returned (.tuple #[.int .i64 (pInsT T t).1, .int .i64 (pInsT T t).2.1]) /\ Only (· = b) w w' /\ PageT w' b (pInsT T t).2.2 := by
 obtain ⟨L, st, h1, rfl⟩ := h
 refine (page_insert b st L t A cap S w h1 hby hd).mono ?_
 rintro e w' ⟨rfl, ho, hp⟩
 have e1 : (pInsT (tups L) t).1 = (pIns L st t).1 /\ (pInsT (tups L) t).2.1 = (pIns L st t).2.1 /\ tups (pIns L st t).2.2.1 = (pInsT (tups L) t).2.2 := by
  unfold pInsT pIns
  rw [room_tups, free_tups]
  split
  ·exact ⟨rfl, rfl, rfl⟩
  ·split
   ·exact ⟨rfl, rfl, rfl⟩
   ·exact ⟨rfl, rfl, insTo_tups L st t⟩
 rw [e1.1, e1.2.1]
 exact ⟨rfl, ho, _, _, hp, e1.2.2⟩
theorem qcell {W w : World} (h : Quiet W w) : (∀ b o, b < W.heap.size -> w.cell? ⟨b, o, none⟩ = W.cell? ⟨b, o, none⟩) /\ (∀ b o, b < W.heap.size -> w.frozen? ⟨b, o, none⟩ = W.frozen? ⟨b, o, none⟩) :=
 ⟨fun b o hb => World.cell?_of_block (h.block b hb (fun x => x)), fun b o hb => World.frozen?_of_block (h.block b hb (fun x => x))⟩
theorem Rd.one (w : World) (v : Value) (e : TypeId) (fr : Nat × Nat) {S : Nat -> Prop} (hS : S w.heap.size) : Rd (w.alloc (.cells #[v] e fr)) S 1 (some ⟨w.heap.size, 0, none⟩) 1 [v] := by
 refine ⟨rfl, fun _ => ⟨w.heap.size, 0, rfl, hS, fun j u hu => ?_⟩⟩
 rw [cell_of (alloc_new w _)]
 simpa using hu
end Go.Proofs.YthipgglplneijaaGreatDoor
namespace Go.Lap
open Go.RowKit
end Go.Lap
namespace Go.Proofs.YthipgglplneijaaGreatDoor
open Go.RowKit Go.Lap
abbrev sixSet (w : World) (b : Nat) (v0 v1 v2 v3 v4 v5 : Value) : World :=
 (((((w.setCell ⟨b, 0, none⟩ v0).setCell ⟨b, 1, none⟩ v1).setCell ⟨b, 2, none⟩ v2).setCell ⟨b, 3, none⟩ v3).setCell ⟨b, 4, none⟩ v4).setCell ⟨b, 5, none⟩ v5
theorem sixSet_same {w : World} {b : Nat} {c0 c1 c2 c3 c4 c5 : Value} {t : TypeId} (h : w.heap[b]? = some (.cells #[c0, c1, c2, c3, c4, c5] t (0, 0))) (v0 v1 v2 v3 v4 v5 : Value) :
  (sixSet w b v0 v1 v2 v3 v4 v5).heap[b]? = some (.cells #[v0, v1, v2, v3, v4, v5] t (0, 0)) := by
 unfold sixSet
 rw [set_same (set_same (set_same (set_same (set_same (set_same h _ _) _ _) _ _) _ _) _ _) _ _]
 rfl
theorem sixSet_only (w : World) (b : Nat) (v0 v1 v2 v3 v4 v5 : Value) : Only (· = b) w (sixSet w b v0 v1 v2 v3 v4 v5) :=
 ((((((Only.refl (· = b) w).setCell (p := ⟨b, 0, none⟩) (fun _ => rfl) v0).setCell (p := ⟨b, 1, none⟩) (fun _ => rfl) v1).setCell (p := ⟨b, 2, none⟩) (fun _ => rfl) v2).setCell (p := ⟨b, 3, none⟩) (fun _ => rfl) v3).setCell (p := ⟨b, 4, none⟩) (fun _ => rfl) v4).setCell (p := ⟨b, 5, none⟩) (fun _ => rfl) v5
section
variable {w1 w2 : World} {k : Nat} {v0 v1 v2 v3 v4 c0 c1 c2 c3 c4 c5 : Value}
end
def TupPost (w : World) (t : Tup) (e : Ending) (w' : World) : Prop :=
 ∃ A c, e = .returned (tupV t A c) /\ Fresh w w' (.slice A t.data.length c) t.data
theorem wrap_back (n : Nat) (x : Int) (h : n = (x + 1).toNat) (h0 : -1 <= x) (h1 : x <= 65536) : IntKind.i64.wrap (IntKind.i64.wrap (n : Int) - 1) = x := by
 rw [IntKind.wrap_i64, IntKind.wrap_i64]
 omega
theorem data_rd {w : World} {b f : Nat} {t : Tup} {g : Nat -> Nat} (hb : Bk w b 512 pageT g) (hv : ∀ j, j < t.size -> g (f + j) = t.ver j) (hf : f + t.size <= 512) : Rd w (· = b) 1 (some ⟨b, f + 30, none⟩) t.data.length (bytesV t.data) := by
 refine ⟨by simp [bytesV], fun _ => ⟨b, f + 30, rfl, rfl, fun j u hu => ?_⟩⟩
 unfold bytesV at hu
 rw [List.getElem?_map] at hu
 rcases hx : t.data[j]? with _ | x
 ·rw [hx] at hu; cases hu
 ·have hj : j < t.data.length := (List.getElem?_eq_some_iff.1 hx).1
  have hts : t.size = 30 + t.data.length := rfl
  rw [hx] at hu
  rw [hb.cell (by omega), show f + 30 + j = f + (30 + j) by omega, hv (30 + j) (by omega), Tup.ver, if_neg (by omega), Nat.add_sub_cancel_left, List.getD_eq_getElem?_getD, hx]
  exact hu
theorem fresh_after {w w5 W6 : World} {o : Obj} {v : Value} {l : List Nat} (h : Fresh (w.alloc o).drew w5 v l) (ho : Only (· = w.heap.size) w5 W6) : Fresh w W6 v l := by
 refine ⟨((((Only.refl _ _).alloc o).drew).trans h.quiet).trans' ho (fun k hk e => by omega), fun k e => ?_, owns_kept h.own ho (fun k e x => ?_)⟩
 ·have := h.new k e
  simp at this
  omega
 ·have := h.new k e
  simp at this
  omega
theorem tupPost_mk {w W : World} {t : Tup} {A : Option Addr} {c : Nat} (h : Fresh w W (.slice A t.data.length c) t.data) :
  TupPost w t (.returned (.agg #[.int .u64 t.row, .int .u64 t.xmin, .int .u64 t.xmax, .int .i64 t.pg, .int .i64 t.sl, .slice A t.data.length c])) W := ⟨A, c, rfl, h⟩
theorem info_tup : (Tryz.prog.info? 95).map (·.size) = some 6 := by kernel_rfl
theorem und_bytes : Tryz.prog.underlying 86 = some (.slice (Tryz.prog.elem 86)) := by kernel_rfl
theorem size_elem_bytes (w : World) : (sizeOf (Tryz.prog.elem 86)).run Tryz.prog w = .ok 1 w := by kernel_rfl
theorem slice30 (b f dl C : Nat) (hC : ¬ C = 30) (w : World) :
  (Instr.slice 86 (.slice (some ⟨b, f, none⟩) (30 + dl) C) (some (.int .i64 30)) none none).run Tryz.prog w = .ok (.slice (some ⟨b, f + 30, none⟩) dl (C - 30)) w := by
 rw [run_slice_l w _ _ _ _ und_bytes _ _ (by omega) (by omega), size_elem_bytes]
 simp [sliced, hC, add_none]
theorem slice30' (b f dl : Nat) (w : World) :
  (Instr.slice 86 (.slice (some ⟨b, f, none⟩) (30 + dl) 30) (some (.int .i64 30)) none none).run Tryz.prog w = .ok (.slice (some ⟨b, f, none⟩) dl 0) w := by
 rw [run_slice_l w _ _ _ _ und_bytes _ _ (by omega) (by omega), size_elem_bytes]
 simp [sliced]
set_option maxHeartbeats 1000000 in
theorem unpack_any (b f C : Nat) (t : Tup) (g : Nat -> Nat) (w : World) (hb : Bk w b 512 pageT g) (hg : ∀ i, g i < 256) (ht : t.Ok) (hv : ∀ j, j < t.size -> g (f + j) = t.ver j) (hf : f + t.size <= 512) (hC : 30 + t.data.length <= C) :
  Calls Tryz.prog 123 #[.slice (some ⟨b, f, none⟩) (30 + t.data.length) C] w (TupPost w t) := by
 have hbd := ht.bounds
 have hts : 30 + t.data.length + f <= 512 := by have : t.size = 30 + t.data.length := rfl; omega
 have HRD := Lib.hid (Tup.read ht hv)
 have HG := Lib.hid hg
 have HDT := Lib.hid (data_rd hb hv hf)
 have HB := Lib.hid hb
 clear hb hg hv hf ht
 have b1 : (8 : Int) <= C := by omega
 have b2 : (16 : Int) <= C := by omega
 have b3 : (24 : Int) <= C := by omega
 have b4 : (28 : Int) <= C := by omega
 have b5 : (30 : Int) <= C := by omega
 have n1 : ¬ C = 8 := by omega
 have n2 : ¬ C = 16 := by omega
 have n3 : ¬ C = 24 := by omega
 have n4 : ¬ C = 28 := by omega
 obtain ⟨fo, hs30, HDO⟩ : ∃ fo, (∀ W : World, (Instr.slice 86 (.slice (some ⟨b, f, none⟩) (30 + t.data.length) C) (some (.int .i64 30)) none none).run Tryz.prog W = .ok (.slice (some ⟨b, fo, none⟩) t.data.length (C - 30)) W) /\ Hid (Rd w (· = b) 1 (some ⟨b, fo, none⟩) t.data.length (bytesV t.data)) := by
  by_cases h30 : C = 30
  ·subst h30
   have hd0 : t.data = [] := List.eq_nil_of_length_eq_zero (by omega)
   exact ⟨f, fun W => slice30' b f _ W, by rw [hd0]; exact Rd.nil _ _ _ _⟩
  ·exact ⟨f + 30, fun W => slice30 b f _ C h30 W, HDT.out⟩
 clear HDT
 ·have hnum : ∀ (off n c : Nat) (W : World), Bk W b 512 pageT g -> n <= 8 -> off + n <= 512 -> Calls Tryz.prog 164 #[.slice (some ⟨b, off, none⟩) n c] W fun e w' => e = .returned (.int .u64 (leNum g off n)) /\ W = w' := fun off n c W h1 h2 h3 => num_any b 512 off n c pageT g W h1 HG.out h2 h3 (by omega)
  have HN := Lib.hid hnum
  clear hnum
  go_enter Tryz.func123, Tryz.ntmps123
  go_wp2_with fail
  go_region_held3 (fun _ => True) (trivial)
   (first
     | (go_at_call 164; go_must ((with_reducible refine (HN.out _ _ _ _ ?_ ?_ ?_).mono ?_); (exact alloc_old HB.out _); omega; omega; rintro e w4 ⟨rfl, rfl⟩))
     | (go_at_call 130; go_must ((with_reducible refine (clone_any _ _ t.data (· = b) _ ?_ ?_).mono ?_); (exact (HDO.out.kept (((Only.refl (fun _ => False) w).alloc _).drew) (fun _ _ x => x))); omega; rintro e w5 ⟨v, rfl, hfr⟩; obtain ⟨A', c', hv', _⟩ := own_form hfr.own; subst hv'; obtain ⟨hc2, hf2⟩ := qcell hfr.quiet; have HFR := Lib.hid hfr; clear hfr))
     | fail)
  rw [HRD.out.1, HRD.out.2.1, HRD.out.2.2.1, wrap_back _ t.pg HRD.out.2.2.2.1 (by omega) (by omega), wrap_back _ t.sl HRD.out.2.2.2.2 (by omega) (by omega)]
  have hres : w5.heap[w.heap.size]? = _ := HFR.out.quiet.get (alloc_new w _) (fun x => x)
  have HX := Lib.hid (sixSet_same hres (.int .u64 t.row) (.int .u64 t.xmin) (.int .u64 t.xmax) (.int .i64 t.pg) (.int .i64 t.sl) (.slice A' t.data.length c'))
  have HF6 := Lib.hid (fresh_after HFR.out (sixSet_only w5 w.heap.size (.int .u64 t.row) (.int .u64 t.xmin) (.int .u64 t.xmax) (.int .i64 t.pg) (.int .i64 t.sl) (.slice A' t.data.length c')))
  clear hc2 hf2 hres HFR
  unfold sixSet at HX HF6
  generalize (((((w5.setCell ⟨w.heap.size, 0, none⟩ (.int .u64 t.row)).setCell ⟨w.heap.size, 1, none⟩ (.int .u64 t.xmin)).setCell ⟨w.heap.size, 2, none⟩ (.int .u64 t.xmax)).setCell ⟨w.heap.size, 3, none⟩ (.int .i64 t.pg)).setCell ⟨w.heap.size, 4, none⟩ (.int .i64 t.sl)).setCell ⟨w.heap.size, 5, none⟩ (.slice A' t.data.length c') = W6 at HX HF6 ⊢
  go_wp2
  exact bodyPost_ret (results_cell_row Tryz.results123 _ _ w.heap.size _ _ (0, 0) _ (by rfl) HX.out Tryz.underlying95 rfl info_tup) (by rfl) (tupPost_mk HF6.out)
section
variable {P : Program}
theorem results_cell_tmp {fn : Func} {p q : Tmp} {ty : TypeId} (h : fn.results = #[.cell p ty, .tmp q]) (tmps : Array Value) (w : World) (g : Nat) (t : TypeId) (cs : Array Value) (fr : Nat × Nat) (d : TypeDesc)
  (hp : tmps.getD p undef = .pointer (some ⟨g, 0, none⟩)) (hg : w.heap[g]? = some (.cells cs t fr))
  (hu : P.underlying ty = some d) (hd : (match d with | .struct _ | .array _ _ => true | _ => false) = true) (hi : (P.info? ty).map (·.size) = some cs.size) :
  (results fn tmps).run P w = .ok (.tuple #[.agg cs, tmps.getD q undef]) w := by
 have hp' : tmps[p]?.getD undef = .pointer (some ⟨g, 0, none⟩) := by simpa using hp
 simp [results, h, hp', asAddr, run_loadVar_row w g t ty cs fr d hg hu hd hi]
end
theorem six_zero (w : World) (n : Nat) : ((((((((w.alloc (.cells #[.int .u64 0, .int .u64 0, .int .u64 0, .int .i64 0, .int .i64 0, .slice none 0 0] 95)).drewN n).setCell ⟨w.heap.size, 0, none⟩ (.int .u64 0)).setCell ⟨w.heap.size, 1, none⟩ (.int .u64 0)).setCell ⟨w.heap.size, 2, none⟩ (.int .u64 0)).setCell ⟨w.heap.size, 3, none⟩ (.int .i64 0)).setCell ⟨w.heap.size, 4, none⟩ (.int .i64 0)).setCell ⟨w.heap.size, 5, none⟩ (.slice none 0 0)).heap[w.heap.size]? = some (.cells #[.int .u64 0, .int .u64 0, .int .u64 0, .int .i64 0, .int .i64 0, .slice none 0 0] 95 (0, 0)) /\ Quiet w ((((((((w.alloc (.cells #[.int .u64 0, .int .u64 0, .int .u64 0, .int .i64 0, .int .i64 0, .slice none 0 0] 95)).drewN n).setCell ⟨w.heap.size, 0, none⟩ (.int .u64 0)).setCell ⟨w.heap.size, 1, none⟩ (.int .u64 0)).setCell ⟨w.heap.size, 2, none⟩ (.int .u64 0)).setCell ⟨w.heap.size, 3, none⟩ (.int .i64 0)).setCell ⟨w.heap.size, 4, none⟩ (.int .i64 0)).setCell ⟨w.heap.size, 5, none⟩ (.slice none 0 0)) :=
 ⟨sixSet_same (w := (w.alloc (.cells #[.int .u64 0, .int .u64 0, .int .u64 0, .int .i64 0, .int .i64 0, .slice none 0 0] 95)).drewN n) (alloc_new w _) _ _ _ _ _ _, (((Only.refl (fun _ => False) w).alloc (.cells #[.int .u64 0, .int .u64 0, .int .u64 0, .int .i64 0, .int .i64 0, .slice none 0 0] 95)).drewN n).trans' (sixSet_only ((w.alloc (.cells #[.int .u64 0, .int .u64 0, .int .u64 0, .int .i64 0, .int .i64 0, .slice none 0 0] 95)).drewN n) w.heap.size _ _ _ _ _ _) (fun k hk e => by omega)⟩
theorem fresh_on {w W1 w5 W6 : World} {v : Value} {l : List Nat} (hq : Quiet w W1) (hs : w.heap.size < W1.heap.size) (h : Fresh W1 w5 v l) (ho : Only (· = w.heap.size) w5 W6) : Fresh w W6 v l := by
 refine ⟨(hq.trans h.quiet).trans' ho (fun k hk e => by omega), fun k e => ?_, owns_kept h.own ho (fun k e x => ?_)⟩
 ·have := h.new k e
  omega
 ·have := h.new k e
  omega
def GetNone (w : World) (e : Ending) (w' : World) : Prop :=
 e = .returned (.tuple #[.agg #[.int .u64 0, .int .u64 0, .int .u64 0, .int .i64 0, .int .i64 0, .slice none 0 0], .bool false]) /\ Quiet w w'
def GetSome (w : World) (t : Tup) (e : Ending) (w' : World) : Prop :=
 ∃ A c, e = .returned (.tuple #[tupV t A c, .bool true]) /\ Fresh w w' (.slice A t.data.length c) t.data
theorem getSome_mk {w W : World} {t : Tup} {A : Option Addr} {c : Nat} (h : Fresh w W (.slice A t.data.length c) t.data) :
  GetSome w t (.returned (.tuple #[.agg #[.int .u64 t.row, .int .u64 t.xmin, .int .u64 t.xmax, .int .i64 t.pg, .int .i64 t.sl, .slice A t.data.length c], .bool true])) W := ⟨A, c, rfl, h⟩
theorem page_get_nil (i : Int) (w : World) : Calls Tryz.prog 89 #[.pointer none, .int .i64 i] w (GetNone w) := by
 have heq := fun (w : World) (a : Option Addr) (n c : Nat) => Lib.run_eql_slice_nil (P := Tryz.prog) w 86 _ a n c 0 0 Tryz.underlying86
 go_enter Tryz.func89, Tryz.ntmps89
 go_wp2_with fail
 refine (bytes_nil i _).mono ?_
 rintro e w1 ⟨rfl, n, rfl⟩
 go_wp2
 have HZ := Lib.hid (six_zero w n)
 generalize (((((((w.alloc (.cells #[.int .u64 0, .int .u64 0, .int .u64 0, .int .i64 0, .int .i64 0, .slice none 0 0] 95)).drewN n).setCell ⟨w.heap.size, 0, none⟩ (.int .u64 0)).setCell ⟨w.heap.size, 1, none⟩ (.int .u64 0)).setCell ⟨w.heap.size, 2, none⟩ (.int .u64 0)).setCell ⟨w.heap.size, 3, none⟩ (.int .i64 0)).setCell ⟨w.heap.size, 4, none⟩ (.int .i64 0)).setCell ⟨w.heap.size, 5, none⟩ (.slice none 0 0) = W6 at HZ ⊢
 exact bodyPost_ret (results_cell_tmp Tryz.results89 _ _ w.heap.size _ _ (0, 0) _ (by rfl) HZ.out.1 Tryz.underlying95 rfl info_tup) (by rfl) ⟨rfl, HZ.out.2⟩
theorem page_get_none (b st : Nat) (L : List Slot) (i : Int) (w : World) (h : PageAt w b L st) (hi : slotAt L i = none) : Calls Tryz.prog 89 #[.pointer (some ⟨b, 0, none⟩), .int .i64 i] w (GetNone w) := by
 have heq := fun (w : World) (a : Option Addr) (n c : Nat) => Lib.run_eql_slice_nil (P := Tryz.prog) w 86 _ a n c 0 0 Tryz.underlying86
 have HP := Lib.hid (h.kept ((Only.refl (fun _ => False) w).alloc (.cells #[.int .u64 0, .int .u64 0, .int .u64 0, .int .i64 0, .int .i64 0, .slice none 0 0] 95)) (fun x => x))
 have HI := Lib.hid hi
 clear h hi
 go_enter Tryz.func89, Tryz.ntmps89
 go_wp2_with fail
 refine (bytes_none b st L i _ HP.out HI.out).mono ?_
 rintro e w1 ⟨rfl, n, rfl⟩
 go_wp2
 have HZ := Lib.hid (six_zero w n)
 generalize (((((((w.alloc (.cells #[.int .u64 0, .int .u64 0, .int .u64 0, .int .i64 0, .int .i64 0, .slice none 0 0] 95)).drewN n).setCell ⟨w.heap.size, 0, none⟩ (.int .u64 0)).setCell ⟨w.heap.size, 1, none⟩ (.int .u64 0)).setCell ⟨w.heap.size, 2, none⟩ (.int .u64 0)).setCell ⟨w.heap.size, 3, none⟩ (.int .i64 0)).setCell ⟨w.heap.size, 4, none⟩ (.int .i64 0)).setCell ⟨w.heap.size, 5, none⟩ (.slice none 0 0) = W6 at HZ ⊢
 exact bodyPost_ret (results_cell_tmp Tryz.results89 _ _ w.heap.size _ _ (0, 0) _ (by rfl) HZ.out.1 Tryz.underlying95 rfl info_tup) (by rfl) ⟨rfl, HZ.out.2⟩
set_option maxHeartbeats 1000000 in
theorem page_get_some (b st f : Nat) (t : Tup) (L : List Slot) (i : Int) (w : World) (h : PageAt w b L st) (hi : slotAt L i = some (f, t)) : Calls Tryz.prog 89 #[.pointer (some ⟨b, 0, none⟩), .int .i64 i] w (GetSome w t) := by
 have heq := fun (w : World) (a : Option Addr) (n c : Nat) => Lib.run_eql_slice_nil (P := Tryz.prog) w 86 _ a n c 0 0 Tryz.underlying86
 have HP := Lib.hid (h.kept ((Only.refl (fun _ => False) w).alloc (.cells #[.int .u64 0, .int .u64 0, .int .u64 0, .int .i64 0, .int .i64 0, .slice none 0 0] 95)) (fun x => x))
 have HI := Lib.hid hi
 obtain ⟨k, rfl, hk, hs⟩ := slotAt_some hi
 obtain ⟨g, hg, hp⟩ := HP.out
 obtain ⟨v1, v2, v3, v4⟩ := hp.ver k f t hs
 have HU : Hid (∀ n, Calls Tryz.prog 123 #[.slice (some ⟨b, f, none⟩) (30 + t.data.length) (512 - f)] ((w.alloc (.cells #[.int .u64 0, .int .u64 0, .int .u64 0, .int .i64 0, .int .i64 0, .slice none 0 0] 95)).drewN n) (TupPost ((w.alloc (.cells #[.int .u64 0, .int .u64 0, .int .u64 0, .int .i64 0, .int .i64 0, .slice none 0 0] 95)).drewN n) t)) := fun n => unpack_any b f (512 - f) t g _ hg hp.lt v3 v4 v2 (by have : t.size = 30 + t.data.length := rfl; omega)
 clear h hi hs hg hp v1 v2 v3 v4 hk
 go_enter Tryz.func89, Tryz.ntmps89
 go_wp2_with fail
 refine (bytes_some b st f t L _ _ HP.out HI.out).mono ?_
 rintro e w1 ⟨rfl, n, rfl⟩
 go_wp2_with fail
 rw [show t.size = 30 + t.data.length from rfl]
 refine (HU.out n).mono ?_
 rintro e w2 ⟨A', c', rfl, hfr⟩
 have hres : w2.heap[w.heap.size]? = _ := hfr.quiet.get (alloc_new w _) (fun x => x)
 have HX := Lib.hid (sixSet_same hres (.int .u64 t.row) (.int .u64 t.xmin) (.int .u64 t.xmax) (.int .i64 t.pg) (.int .i64 t.sl) (.slice A' t.data.length c'))
 have HF6 := Lib.hid (fresh_on (((Only.refl (fun _ => False) w).alloc (.cells #[.int .u64 0, .int .u64 0, .int .u64 0, .int .i64 0, .int .i64 0, .slice none 0 0] 95)).drewN n) (by show w.heap.size < (w.alloc _).heap.size; simp) hfr (sixSet_only w2 w.heap.size (.int .u64 t.row) (.int .u64 t.xmin) (.int .u64 t.xmax) (.int .i64 t.pg) (.int .i64 t.sl) (.slice A' t.data.length c')))
 obtain ⟨hc2, hf2⟩ := qcell hfr.quiet
 clear hfr HU hres
 unfold tupV
 go_wp2
 clear hc2 hf2
 unfold sixSet at HX HF6
 generalize ((((((w2).setCell ⟨w.heap.size, 0, none⟩ (.int .u64 t.row)).setCell ⟨w.heap.size, 1, none⟩ (.int .u64 t.xmin)).setCell ⟨w.heap.size, 2, none⟩ (.int .u64 t.xmax)).setCell ⟨w.heap.size, 3, none⟩ (.int .i64 t.pg)).setCell ⟨w.heap.size, 4, none⟩ (.int .i64 t.sl)).setCell ⟨w.heap.size, 5, none⟩ (.slice A' t.data.length c') = W6 at HX HF6 ⊢
 exact bodyPost_ret (results_cell_tmp Tryz.results89 _ _ w.heap.size _ _ (0, 0) _ (by rfl) HX.out Tryz.underlying95 rfl info_tup) (by rfl) (getSome_mk HF6.out)
end Go.Proofs.YthipgglplneijaaGreatDoor
namespace Go.Lap
def pStampT (T : List (Option Tup)) (i : Int) (xmax : Nat) (pg sl : Int) : Int × List (Option Tup) :=
 if 1099511627776 < xmax ∨ farB pg sl = true then (3, T) else
  match tupAt T i with
  | none => (15, T)
  | some t => (0, T.set i.toNat (some (t.stamp xmax pg sl)))
end Go.Lap
namespace Go.Proofs.YthipgglplneijaaGreatDoor
open Go.RowKit Go.Lap
theorem page_stamp_nil (i : Int) (xmax : Nat) (pg sl : Int) (w : World) :
  Calls Tryz.prog 73 #[.pointer none, .int .i64 i, .int .u64 xmax, .agg #[.int .i64 pg, .int .i64 sl]] w fun e w' => e = .returned (.int .i64 15) /\ Quiet w w' := by
 go_enter Tryz.func73, Tryz.ntmps73
 go_wp2_with fail
 refine (bytes_nil i _).mono ?_
 rintro e w1 ⟨rfl, n, rfl⟩
 go_wp2
 go_ret
 exact ⟨rfl, ((Only.refl _ _).alloc _).drewN n⟩
theorem bytes_any (b st : Nat) (L : List Slot) (i : Int) (w : World) (h : PageAt w b L st) : ∃ A n c, (∀ m : Nat, Calls Tryz.prog 114 #[.pointer (some ⟨b, 0, none⟩), .int .i64 i] (w.drewN m) fun e w' => e = .returned (.slice A n c) /\ ∃ k, w' = (w.drewN m).drewN k) /\ (A.isNone = (slotAt L i).isNone) := by
 rcases hs : slotAt L i with _ | ⟨f, t⟩
 ·exact ⟨none, 0, 0, fun m => bytes_none b st L i _ h hs, rfl⟩
 ·exact ⟨_, _, _, fun m => bytes_some b st f t L i _ h hs, rfl⟩
set_option maxHeartbeats 400000 in
theorem page_stamp_form (b st : Nat) (L : List Slot) (i : Int) (xmax : Nat) (pg sl : Int) (w : World) (h : PageAt w b L st) (hx : 1099511627776 < xmax ∨ farB pg sl = true) :
  Calls Tryz.prog 73 #[.pointer (some ⟨b, 0, none⟩), .int .i64 i, .int .u64 xmax, .agg #[.int .i64 pg, .int .i64 sl]] w fun e w' => e = .returned (.int .i64 3) /\ Quiet w w' := by
 have HP := Lib.hid (h.kept ((Only.refl (fun _ => False) w).alloc (.cells #[.int .i64 pg, .int .i64 sl] 43)) (fun x => x))
 obtain ⟨A, n, c, hA, _⟩ := bytes_any b st L i _ HP.out
 have HA := Lib.hid (hA 0)
 have HF := Lib.hid (far_any pg sl)
 have hx' : 1099511627776 < xmax ∨ (¬ 1099511627776 < xmax /\ farB pg sl = true) := by
  by_cases h1 : 1099511627776 < xmax
  ·exact Or.inl h1
  ·exact Or.inr ⟨h1, hx.resolve_left h1⟩
 clear h hA hx
 rcases hx' with h1 | ⟨h1, h2⟩
 ·go_enter Tryz.func73, Tryz.ntmps73
  go_wp2_with fail
  refine HA.out.mono ?_
  rintro e w1 ⟨rfl, k, rfl⟩
  go_wp2
  go_ret
  exact ⟨rfl, ((Only.refl _ _).alloc _).drewN _⟩
 ·rw [h2] at HF
  have d1 : decide ((1099511627776 : Int) < xmax) = false := by simp; omega
  clear h2
  go_enter Tryz.func73, Tryz.ntmps73
  go_wp2_with fail
  refine HA.out.mono ?_
  rintro e w1 ⟨rfl, k, rfl⟩
  go_wp2_with fail
  refine (HF.out _).mono ?_
  rintro e w2 ⟨rfl, hq⟩
  have HQ : Hid (Quiet w w2) := (((Only.refl (fun _ => False) w).alloc _).drewN _).trans hq
  clear hq
  go_wp2
  go_ret
  exact ⟨rfl, HQ.out⟩
set_option maxHeartbeats 400000 in
theorem page_stamp_none (b st : Nat) (L : List Slot) (i : Int) (xmax : Nat) (pg sl : Int) (w : World) (h : PageAt w b L st) (hx : xmax <= 1099511627776) (hf : farB pg sl = false) (hi : slotAt L i = none) :
  Calls Tryz.prog 73 #[.pointer (some ⟨b, 0, none⟩), .int .i64 i, .int .u64 xmax, .agg #[.int .i64 pg, .int .i64 sl]] w fun e w' => e = .returned (.int .i64 15) /\ Quiet w w' := by
 have heq := fun (w : World) (a : Option Addr) (n c : Nat) => Lib.run_eql_slice_nil (P := Tryz.prog) w 86 _ a n c 0 0 Tryz.underlying86
 have HP := Lib.hid (h.kept ((Only.refl (fun _ => False) w).alloc (.cells #[.int .i64 pg, .int .i64 sl] 43)) (fun x => x))
 have HI := Lib.hid hi
 have HF := Lib.hid (far_any pg sl)
 rw [hf] at HF
 have d1 : decide ((1099511627776 : Int) < xmax) = false := by simp; omega
 clear h hi hf
 go_enter Tryz.func73, Tryz.ntmps73
 go_wp2_with fail
 refine (bytes_none b st L i _ HP.out HI.out).mono ?_
 rintro e w1 ⟨rfl, k, rfl⟩
 go_wp2_with fail
 refine (HF.out _).mono ?_
 rintro e w2 ⟨rfl, hq⟩
 have HQ : Hid (Quiet w w2) := (((Only.refl (fun _ => False) w).alloc _).drewN _).trans hq
 clear hq
 go_wp2
 go_ret
 exact ⟨rfl, HQ.out⟩
structure StampW (w W : World) (b : Nat) (pg sl : Int) (g : Nat -> Nat) : Prop where
 only : Only (· = b) w W
 box : W.heap[w.heap.size]? = some (.cells #[.int .i64 pg, .int .i64 sl] 43 (0, 0))
 bk : Bk W b 512 pageT g
theorem StampW.drew {w W : World} {b : Nat} {pg sl : Int} {g : Nat -> Nat} (h : StampW w W b pg sl g) : StampW w W.drew b pg sl g := ⟨h.only.drew, h.box, h.bk⟩
theorem StampW.put {w W W' : World} {b : Nat} {pg sl : Int} {g g' : Nat -> Nat} (h : StampW w W b pg sl g) (hb : b < w.heap.size) (ho : Only (· = b) W W') (hk : Bk W' b 512 pageT g') : StampW w W' b pg sl g' :=
 ⟨h.only.trans ho, ho.get h.box (fun e => by omega), hk⟩
theorem StampW.cell0 {w W : World} {b : Nat} {pg sl : Int} {g : Nat -> Nat} (h : StampW w W b pg sl g) : W.cell? ⟨w.heap.size, 0, none⟩ = some (.int .i64 pg) := by rw [cell_of h.box]; rfl
theorem StampW.cell1 {w W : World} {b : Nat} {pg sl : Int} {g : Nat -> Nat} (h : StampW w W b pg sl g) : W.cell? ⟨w.heap.size, 1, none⟩ = some (.int .i64 sl) := by rw [cell_of h.box]; rfl
set_option maxHeartbeats 1000000 in
theorem page_stamp_some (b st f : Nat) (t : Tup) (L : List Slot) (i : Int) (xmax : Nat) (pg sl : Int) (w : World) (h : PageAt w b L st) (hx : xmax <= 1099511627776) (hf : farB pg sl = false) (hi : slotAt L i = some (f, t)) :
  Calls Tryz.prog 73 #[.pointer (some ⟨b, 0, none⟩), .int .i64 i, .int .u64 xmax, .agg #[.int .i64 pg, .int .i64 sl]] w fun e w' => e = .returned (.int .i64 0) /\ Only (· = b) w w' /\ PageAt w' b (L.set i.toNat (some (f, t.stamp xmax pg sl))) st := by
 have heq := fun (w : World) (a : Option Addr) (n c : Nat) => Lib.run_eql_slice_nil (P := Tryz.prog) w 86 _ a n c 0 0 Tryz.underlying86
 have hq0 : Quiet w (w.alloc (.cells #[.int .i64 pg, .int .i64 sl] 43)) := (Only.refl (fun _ => False) w).alloc (.cells #[.int .i64 pg, .int .i64 sl] 43)
 have HP := Lib.hid (h.kept hq0 (fun x => x))
 have hbl := h.lt
 have HF := Lib.hid (far_any pg sl)
 rw [hf] at HF
 have hfb := Tup.far_bounds hf
 have d1 : decide ((1099511627776 : Int) < xmax) = false := by simp; omega
 obtain ⟨k, rfl, hk, hs⟩ := slotAt_some hi
 rw [Int.toNat_natCast]
 have HBY := Lib.hid (bytes_some b st f t L k _ HP.out hi)
 obtain ⟨g, hg, hp⟩ := HP.out
 have HST := Lib.hid (hp.stamp hs hx hf)
 obtain ⟨v1, v2, v3, v4⟩ := hp.ver k f t hs
 have hts := Tup.size_pos t
 obtain ⟨z, Hz⟩ : ∃ z, Hid (t.size = z) := ⟨_, rfl⟩
 rw [Hz.out] at v2 hts HBY
 obtain ⟨C, HC⟩ : ∃ C, Hid (512 - f = C) := ⟨_, rfl⟩
 have hC : z <= C := by rw [<- HC.out]; show z <= 512 - f; omega
 rw [HC.out] at HBY
 have b3 : (24 : Int) <= C := by omega
 have b4 : (28 : Int) <= C := by omega
 have b5 : (30 : Int) <= C := by omega
 have n2 : ¬ C = 16 := by omega
 have n3 : ¬ C = 24 := by omega
 have n4 : ¬ C = 28 := by omega
 have HG := Lib.hid hg
 clear h hi hf hg hp hs v3 v4 hq0 HP
 go_enter Tryz.func73, Tryz.ntmps73
 go_wp2_with fail
 refine HBY.out.mono ?_
 rintro e w1 ⟨rfl, n1, rfl⟩
 go_wp2_with fail
 refine (HF.out _).mono ?_
 rintro e w2 ⟨rfl, hq⟩
 have H2 : Hid (StampW w w2 b pg sl g) := ⟨((((Only.refl (fun _ => False) w).alloc _).drewN _).trans hq).mono (fun _ _ x => x.elim), hq.get (alloc_new w _) (fun x => x), Bk.kept (S := fun _ => False) (w := (w.alloc (.cells #[.int .i64 pg, .int .i64 sl] 43)).drewN n1) HG.out hq (fun x => x)⟩
 clear hq HF HBY
 go_wp2_with fail
 refine (put_any b 512 (f + 16) 8 _ xmax pageT g _ H2.out.bk (by omega) (by omega) (by omega) (by omega)).mono ?_
 rintro e w3 ⟨rfl, ho, hb⟩
 have H3 := Lib.hid (H2.out.put hbl ho hb)
 clear ho hb H2
 have c0 := H3.out.cell0
 go_wp2_with fail
 go_region_held3 (fun w' => w'.cell? ⟨w.heap.size, 0, none⟩ = some (.int .i64 pg)) (first | go_keep | exact H4.out.cell0 | fail)
  (first | (go_at_call 116; go_must ((with_reducible refine (put_eq b 512 (f + 24) 4 _ (pg + 1).toNat _ pageT _ _ H3.out.drew.bk (by omega) (by omega) (by omega) (wrap_next pg (by omega) (by omega)) (by omega)).mono ?_); rintro e w4 ⟨rfl, ho, hb⟩; have H4 := Lib.hid (H3.out.drew.put hbl ho hb); clear ho hb)) | fail)
 clear c0 H3
 go_wp2_with fail
 have c1 := H4.out.cell1
 go_region_held3 (fun w' => w'.cell? ⟨w.heap.size, 1, none⟩ = some (.int .i64 sl)) (first | go_keep | exact H5.out.cell1 | fail)
  (first | (go_at_call 116; go_must ((with_reducible refine (put_eq b 512 (f + 28) 2 _ (sl + 1).toNat _ pageT _ _ H4.out.drew.bk (by omega) (by omega) (by omega) (wrap_next sl (by omega) (by omega)) (by omega)).mono ?_); rintro e w5 ⟨rfl, ho, hb⟩; have H5 := Lib.hid (H4.out.drew.put hbl ho hb); clear ho hb)) | fail)
 go_wp2
 go_ret
 exact ⟨rfl, H5.out.only, _, H5.out.bk, HST.out⟩
theorem set_tups_some (L : List Slot) (i f : Nat) (t : Tup) : tups (L.set i (some (f, t))) = (tups L).set i (some t) := by
 unfold tups
 rw [List.map_set]; rfl
theorem pageT_stamp (b : Nat) (T : List (Option Tup)) (i : Int) (xmax : Nat) (pg sl : Int) (w : World) (h : PageT w b T) :
  Calls Tryz.prog 73 #[.pointer (some ⟨b, 0, none⟩), .int .i64 i, .int .u64 xmax, .agg #[.int .i64 pg, .int .i64 sl]] w fun e w' => e = .returned (.int .i64 (pStampT T i xmax pg sl).1) /\ Only (· = b) w w' /\ PageT w' b (pStampT T i xmax pg sl).2 := by
 obtain ⟨L, st, h1, rfl⟩ := h
 by_cases hx : 1099511627776 < xmax ∨ farB pg sl = true
 ·rw [show pStampT (tups L) i xmax pg sl = (3, tups L) from if_pos hx]
  refine (page_stamp_form b st L i xmax pg sl w h1 hx).mono ?_
  rintro e w' ⟨rfl, hq⟩
  exact ⟨rfl, hq.mono (fun _ _ x => x.elim), L, st, h1.kept hq (fun x => x), rfl⟩
 ·have hx1 : xmax <= 1099511627776 := by
   rcases Nat.lt_or_ge 1099511627776 xmax with x | x
   ·exact absurd (Or.inl x) hx
   ·exact x
  have hx2 : farB pg sl = false := by
   rcases hh : farB pg sl with _ | _
   ·rfl
   ·exact absurd (Or.inr hh) hx
  unfold pStampT
  rw [if_neg hx, slot_tups]
  rcases hs : slotAt L i with _ | ⟨f, t⟩
  ·refine (page_stamp_none b st L i xmax pg sl w h1 hx1 hx2 hs).mono ?_
   rintro e w' ⟨rfl, hq⟩
   exact ⟨rfl, hq.mono (fun _ _ x => x.elim), L, st, h1.kept hq (fun x => x), rfl⟩
  ·refine (page_stamp_some b st f t L i xmax pg sl w h1 hx1 hx2 hs).mono ?_
   rintro e w' ⟨rfl, ho, hp⟩
   exact ⟨rfl, ho, _, _, hp, set_tups_some _ _ _ _⟩
theorem pageT_get_none (b : Nat) (T : List (Option Tup)) (i : Int) (w : World) (h : PageT w b T) (hi : tupAt T i = none) : Calls Tryz.prog 89 #[.pointer (some ⟨b, 0, none⟩), .int .i64 i] w (GetNone w) := by
 obtain ⟨L, st, h1, rfl⟩ := h
 rw [slot_tups] at hi
 refine page_get_none b st L i w h1 ?_
 rcases hs : slotAt L i with _ | x
 ·rfl
 ·rw [hs] at hi; cases hi
theorem pageT_get_some (b : Nat) (t : Tup) (T : List (Option Tup)) (i : Int) (w : World) (h : PageT w b T) (hi : tupAt T i = some t) : Calls Tryz.prog 89 #[.pointer (some ⟨b, 0, none⟩), .int .i64 i] w (GetSome w t) := by
 obtain ⟨L, st, h1, rfl⟩ := h
 rw [slot_tups] at hi
 rcases hs : slotAt L i with _ | ⟨f, t'⟩
 ·rw [hs] at hi; cases hi
 ·rw [hs] at hi
  have : t' = t := by injection hi
  subst this
  exact page_get_some b st f t' L i w h1 hs
end Go.Proofs.YthipgglplneijaaGreatDoor
namespace Go.Lap
structure Tree (l t : Nat -> Int) : Prop where
 leaf : ∀ i, i < 256 -> t (256 + i) = l i
 node : ∀ j, 1 <= j -> j < 256 -> t j = max (t (2 * j)) (t (2 * j + 1))
structure TreeBut (l t : Nat -> Int) (i : Nat) : Prop where
 leaf : ∀ i, i < 256 -> t (256 + i) = l i
 node : ∀ j, 1 <= j -> j < 256 -> (∀ k, 1 <= k -> j ≠ i / 2 ^ k) -> t j = max (t (2 * j)) (t (2 * j + 1))
theorem TreeBut.start {l t : Nat -> Int} (h : Tree l t) {p : Nat} (hp : p < 256) (v : Int) : TreeBut (upd l p v) (upd t (256 + p) v) (256 + p) := by
 refine ⟨fun i hi => ?_, fun j h1 h2 hk => ?_⟩
 ·by_cases e : i = p
  ·subst e; rw [upd_same, upd_same]
  ·rw [upd_other _ _ (by omega), upd_other _ _ e]; exact h.leaf i hi
 ·have hj : j ≠ (256 + p) / 2 := by simpa using hk 1 (Nat.le_refl _)
  rw [upd_other _ _ (by omega), upd_other _ _ (by omega), upd_other _ _ (by omega)]
  exact h.node j h1 h2
theorem TreeBut.step {l t : Nat -> Int} {i : Nat} (h : TreeBut l t i) (hi : 1 < i) (hm : i < 512) :
  TreeBut l (upd t (i / 2) (max (t (2 * (i / 2))) (t (2 * (i / 2) + 1)))) (i / 2) := by
 refine ⟨fun k hk => ?_, fun j h1 h2 hk => ?_⟩
 ·rw [upd_other _ _ (by omega)]; exact h.leaf k hk
 ·have hj : j ≠ i / 2 / 2 := by simpa using hk 1 (Nat.le_refl _)
  by_cases e : j = i / 2
  ·subst e
   rw [upd_same, upd_other _ _ (by omega), upd_other _ _ (by omega)]
  ·rw [upd_other _ _ e, upd_other _ _ (by omega), upd_other _ _ (by omega)]
   refine h.node j h1 h2 (fun k hk1 => ?_)
   by_cases e1 : k = 1
   ·subst e1; simpa using e
   ·have := hk (k - 1) (by omega)
    rw [Nat.div_div_eq_div_mul] at this
    have e2 : 2 * 2 ^ (k - 1) = 2 ^ k := by
     rw [show k = (k - 1) + 1 by omega, Nat.pow_succ]; simp [Nat.mul_comm]
    rw [e2] at this; exact this
theorem TreeBut.done {l t : Nat -> Int} {i : Nat} (h : TreeBut l t i) (hi : i <= 1) : Tree l t := by
 refine ⟨h.leaf, fun j h1 h2 => h.node j h1 h2 (fun k hk e => ?_)⟩
 have : 2 <= 2 ^ k := by
  rw [show k = (k - 1) + 1 by omega, Nat.pow_succ]
  have := Nat.one_le_two_pow (n := k - 1)
  omega
 have := Nat.div_eq_of_lt (show i < 2 ^ k by omega)
 omega
theorem Tree.reach {l t : Nat -> Int} (T : Tree l t) (need : Int) : ∀ (h i : Nat), 1 <= i -> i * 2 ^ h < 512 -> 256 <= i * 2 ^ h -> (need <= t i ↔ ∃ p, i * 2 ^ h <= 256 + p /\ 256 + p < (i + 1) * 2 ^ h /\ p < 256 /\ need <= l p) := by
 intro h
 induction h with
 | zero =>
  intro i h1 h2 h3
  simp only [Nat.pow_zero, Nat.mul_one] at *
  constructor
  ·intro hn
   refine ⟨i - 256, by omega, by omega, by omega, ?_⟩
   rw [<- T.leaf _ (by omega), show 256 + (i - 256) = i by omega]; exact hn
  ·rintro ⟨p, a, b, c, d⟩
   rw [<- T.leaf _ c, show 256 + p = i by omega] at d; exact d
 | succ h ih =>
  intro i h1 h2 h3
  have hp : 1 <= 2 ^ h := Nat.one_le_two_pow
  have e1 : i * 2 ^ (h + 1) = (2 * i) * 2 ^ h := by rw [Nat.pow_succ, Nat.mul_comm (2 ^ h) 2, <- Nat.mul_assoc, Nat.mul_comm i 2]
  have e2 : (i + 1) * 2 ^ (h + 1) = (2 * i + 2) * 2 ^ h := by rw [Nat.pow_succ, Nat.mul_comm (2 ^ h) 2, <- Nat.mul_assoc]; congr 1; omega
  have e3 : (2 * i + 1) * 2 ^ h = (2 * i) * 2 ^ h + 2 ^ h := by rw [Nat.add_mul, Nat.one_mul]
  have e4 : (2 * i + 2) * 2 ^ h = (2 * i) * 2 ^ h + 2 ^ h + 2 ^ h := by rw [Nat.add_mul, Nat.two_mul (2 ^ h)]; omega
  have hi : i < 256 := by
   rcases Nat.lt_or_ge i 256 with x | x
   ·exact x
   ·have := Nat.mul_le_mul x (Nat.le_refl (2 ^ (h + 1)))
    rw [Nat.pow_succ] at this h2
    omega
  have hdvd : ∃ c, 256 = 2 ^ h * c := by
   have hh : h <= 8 := by
    rcases Nat.lt_or_ge 8 h with x | x
    ·have a1 : 2 ^ 9 <= 2 ^ h := Nat.pow_le_pow_right (by omega) x
     have a2 : 2 ^ (h + 1) <= i * 2 ^ (h + 1) := Nat.le_mul_of_pos_left _ h1
     rw [Nat.pow_succ] at a2 h2
     omega
    ·exact x
   exact ⟨2 ^ (8 - h), by rw [<- Nat.pow_add, show h + (8 - h) = 8 by omega]⟩
  have h5 : (2 * i + 1) * 2 ^ h < 512 := by
   obtain ⟨c, hc⟩ := hdvd
   rw [e1] at h2
   have a1 : 2 ^ h * (2 * i) < 2 ^ h * (2 * c) := by
    rw [Nat.mul_comm (2 ^ h) (2 * i), show 2 ^ h * (2 * c) = 2 * (2 ^ h * c) by rw [Nat.mul_left_comm], <- hc]; exact h2
   have a2 : 2 * i < 2 * c := Nat.lt_of_mul_lt_mul_left a1
   have a3 : (2 * i + 1) * 2 ^ h < (2 * c) * 2 ^ h := Nat.mul_lt_mul_of_pos_right (by omega) (by omega)
   rw [show (2 * c) * 2 ^ h = 2 * (2 ^ h * c) by rw [Nat.mul_assoc, Nat.mul_comm c], <- hc] at a3
   exact a3
  rw [T.node i h1 hi]
  have A := ih (2 * i) (by omega) (by omega) (by omega)
  have B := ih (2 * i + 1) (by omega) h5 (by omega)
  have M : need <= max (t (2 * i)) (t (2 * i + 1)) ↔ need <= t (2 * i) ∨ need <= t (2 * i + 1) := by omega
  rw [M, A, B, e1, e2]
  rw [show 2 * i + 1 + 1 = 2 * i + 2 by omega]
  constructor
  ·rintro (⟨p, a, b, c, d⟩ | ⟨p, a, b, c, d⟩)
   ·exact ⟨p, a, by omega, c, d⟩
   ·exact ⟨p, by omega, b, c, d⟩
  ·rintro ⟨p, a, b, c, d⟩
   rcases Nat.lt_or_ge (256 + p) ((2 * i + 1) * 2 ^ h) with x | x
   ·exact Or.inl ⟨p, a, x, c, d⟩
   ·exact Or.inr ⟨p, x, b, c, d⟩
def Down (l t : Nat -> Int) (need : Int) (k i h : Nat) : Prop :=
 1 <= i /\ i * 2 ^ h <= 256 + k /\ 256 + k < (i + 1) * 2 ^ h /\ 256 <= i * 2 ^ h /\ i * 2 ^ h < 512
theorem Down.left {l t : Nat -> Int} (T : Tree l t) {need : Int} {k i h : Nat} (D : Down l t need k i (h + 1)) (hk : k < 256) (hn : need <= l k) (hm : ∀ j, j < k -> l j < need)
  (hr : ¬ t (2 * i) < need) : Down l t need k (2 * i) h := by
 obtain ⟨a, b, c, d, e⟩ := D
 have hp : 1 <= 2 ^ h := Nat.one_le_two_pow
 have e1 : i * 2 ^ (h + 1) = (2 * i) * 2 ^ h := by rw [Nat.pow_succ, Nat.mul_comm (2 ^ h) 2, <- Nat.mul_assoc, Nat.mul_comm i 2]
 rw [e1] at b d e
 have R := (T.reach need h (2 * i) (by omega) e d).1 (by omega)
 obtain ⟨p, p1, p2, p3, p4⟩ := R
 have : ¬ p < k := fun x => by have := hm p x; omega
 exact ⟨by omega, b, by omega, d, e⟩
theorem Down.right {l t : Nat -> Int} (T : Tree l t) {need : Int} {k i h : Nat} (D : Down l t need k i (h + 1)) (hk : k < 256) (hn : need <= l k)
  (hr : t (2 * i) < need) : Down l t need k (2 * i + 1) h := by
 obtain ⟨a, b, c, d, e⟩ := D
 have hp : 1 <= 2 ^ h := Nat.one_le_two_pow
 have e1 : i * 2 ^ (h + 1) = (2 * i) * 2 ^ h := by rw [Nat.pow_succ, Nat.mul_comm (2 ^ h) 2, <- Nat.mul_assoc, Nat.mul_comm i 2]
 have e2 : (i + 1) * 2 ^ (h + 1) = (2 * i + 2) * 2 ^ h := by rw [Nat.pow_succ, Nat.mul_comm (2 ^ h) 2, <- Nat.mul_assoc]; congr 1; omega
 have e3 : (2 * i + 1) * 2 ^ h = (2 * i) * 2 ^ h + 2 ^ h := by rw [Nat.add_mul, Nat.one_mul]
 rw [e1] at b d e
 rw [e2] at c
 have R := T.reach need h (2 * i) (by omega) e d
 have nl : ¬ 256 + k < (2 * i + 1) * 2 ^ h := fun x => by
  have := R.2 ⟨k, b, x, hk, hn⟩
  omega
 exact ⟨by omega, by omega, by rw [show 2 * i + 1 + 1 = 2 * i + 2 by omega]; exact c, by omega, by omega⟩
theorem Down.top {l t : Nat -> Int} {need : Int} {k : Nat} (hk : k < 256) : Down l t need k 1 8 := ⟨by omega, by omega, by omega, by omega, by omega⟩
theorem Down.end_ {l t : Nat -> Int} {need : Int} {k i : Nat} (D : Down l t need k i 0) : i = 256 + k := by
 obtain ⟨a, b, c, d, e⟩ := D
 simp only [Nat.pow_zero, Nat.mul_one] at *
 omega
theorem Down.inner {l t : Nat -> Int} {need : Int} {k i h : Nat} (D : Down l t need k i (h + 1)) : i < 256 := by
 obtain ⟨a, b, c, d, e⟩ := D
 have hp : 1 <= 2 ^ h := Nat.one_le_two_pow
 have : i * 2 <= i * 2 ^ (h + 1) := Nat.mul_le_mul_left _ (by rw [Nat.pow_succ]; omega)
 omega
theorem Tree.none {l t : Nat -> Int} (T : Tree l t) {need : Int} (hn : ∀ j, j < 256 -> l j < need) : t 1 < need := by
 have R := T.reach need 8 1 (by omega) (by omega) (by omega)
 rcases Int.lt_or_le (t 1) need with x | x
 ·exact x
 ·obtain ⟨p, _, _, c, d⟩ := R.1 x
  have := hn p c
  omega
theorem Tree.some {l t : Nat -> Int} (T : Tree l t) {need : Int} {k : Nat} (hk : k < 256) (hn : need <= l k) : need <= t 1 :=
 (T.reach need 8 1 (by omega) (by omega) (by omega)).2 ⟨k, by omega, by omega, hk, hn⟩
theorem Tree.empty : Tree (fun _ => -1) (fun _ => -1) := ⟨fun _ _ => rfl, fun _ _ _ => by simp⟩
end Go.Lap
namespace Go.Proofs.YthipgglplneijaaGreatDoor
open Go.RowKit Go.Lap
def roomF (t : Nat -> Int) (n : Nat) (i : Nat) : Value := if i = 512 then .int .i64 n else .int .i64 (t i)
theorem roomF_t (t : Nat -> Int) (n i : Nat) (h : i < 512) : roomF t n i = .int .i64 (t i) := by
 unfold roomF; rw [if_neg (by omega)]
theorem roomF_n (t : Nat -> Int) (n : Nat) : roomF t n 512 = .int .i64 n := by simp [roomF]
structure RoomAt (w : World) (b : Nat) (l t : Nat -> Int) (n : Nat) : Prop where
 blk : w.heap[b]? = some (.cells (tab 513 (roomF t n)) 211 (0, 0))
 tree : Tree l t
 low : ∀ i, -1 <= l i
 high : ∀ i, l i <= 512
 out : ∀ i, n <= i -> l i = -1
 most : n <= 256
theorem RoomAt.cell {w : World} {b : Nat} {l t : Nat -> Int} {n : Nat} (h : RoomAt w b l t n) (i : Nat) (hi : i < 512) : w.cell? ⟨b, i, none⟩ = some (.int .i64 (t i)) := by
 rw [cell_of h.blk, tab_get (by omega), roomF_t _ _ _ hi]
theorem RoomAt.count {w : World} {b : Nat} {l t : Nat -> Int} {n : Nat} (h : RoomAt w b l t n) : w.cell? ⟨b, 512, none⟩ = some (.int .i64 n) := by
 rw [cell_of h.blk, tab_get (by omega), roomF_n]
set_option maxHeartbeats 400000 in
theorem find_none (b : Nat) (l t : Nat -> Int) (n : Nat) (w : World) (need : Int) (hr : RoomAt w b l t n) (hn : ∀ j, j < 256 -> l j < max need 0) :
  Calls Tryz.prog 104 #[.pointer (some ⟨b, 0, none⟩), .int .i64 need] w fun e w' => e = .returned (.tuple #[.int .i64 0, .bool false]) /\ w = w' := by
 have hc := hr.cell 1 (by omega)
 have h1 := hr.tree.none hn
 clear hr hn
 go_enter Tryz.func104, Tryz.ntmps104
 go_wp2
 all_goals
  go_ret2
  exact ⟨rfl, rfl⟩
set_option maxHeartbeats 400000 in
theorem find_some (b : Nat) (l t : Nat -> Int) (n : Nat) (w : World) (need : Int) (k : Nat) (hr : RoomAt w b l t n) (hk : k < 256) (hl : max need 0 <= l k) (hn : ∀ j, j < k -> l j < max need 0) :
  Calls Tryz.prog 104 #[.pointer (some ⟨b, 0, none⟩), .int .i64 need] w fun e w' => e = .returned (.tuple #[.int .i64 k, .bool true]) /\ w = w' := by
 have hc := hr.cell 1 (by omega)
 have h1 := hr.tree.some hk hl
 have HR := Lib.hid hr
 have HN := Lib.hid hn
 clear hr hn
 go_enter Tryz.func104, Tryz.ntmps104
 go_wp2
 go_loop [6] (fun v => ∃ i h : Nat, h <= 8 /\ Down l t (max need 0) k i h /\ v = .int .i64 i) (fun v => 512 - (intOf v).toNat)
 case atStart => exact ⟨1, 8, by omega, Down.top hk, rfl⟩
 case round =>
  obtain ⟨i, h, hh, hD, rfl⟩ := hrel
  cases h with
  | zero =>
   have hi := hD.end_
   have HI := Lib.hid hi
   have : 256 <= i := by omega
   have : i < 512 := by omega
   clear hi hD
   go_wp2
   go_ret2
   exact ⟨by rw [HI.out]; simp; omega, rfl⟩
  | succ h =>
   have hi := hD.inner
   have h1 : 1 <= i := hD.1
   have hcell := HR.out.cell (i * 2) (by omega)
   have HD := Lib.hid hD
   clear hD
   by_cases ht : t (i * 2) < max need 0
   ·have HDn := Lib.hid (HD.out.right HR.out.tree hk hl (by rw [Nat.mul_comm 2 i]; exact ht))
    go_wp2
    go_round
    case rel => exact ⟨2 * i + 1, h, by omega, HDn.out, by go_num⟩
    case measure => simp [intOf]; omega
   ·have HDn := Lib.hid (HD.out.left HR.out.tree hk hl HN.out (by rw [Nat.mul_comm 2 i]; exact ht))
    go_wp2
    go_round
    case rel => exact ⟨2 * i, h, by omega, HDn.out, by go_num⟩
    case measure => simp [intOf]; omega
structure RoomW (w wr : World) (b : Nat) (l : Nat -> Int) (n i : Nat) : Prop where
 lim : 1 <= i /\ i < 512
 only : Only (· = b) w wr
 blk : ∃ t, wr.heap[b]? = some (.cells (tab 513 (roomF t n)) 211 (0, 0)) /\ TreeBut l t i
structure RoomS (w wr : World) (b : Nat) (l t : Nat -> Int) (n i : Nat) : Prop where
 c1 : wr.cell? ⟨b, 2 * (i / 2), none⟩ = some (.int .i64 (t (2 * (i / 2))))
 c2 : wr.cell? ⟨b, 2 * (i / 2) + 1, none⟩ = some (.int .i64 (t (2 * (i / 2) + 1)))
 c3 : wr.cell? ⟨b, i / 2, none⟩ = some (.int .i64 (t (i / 2)))
 c4 : wr.frozen? ⟨b, i / 2, none⟩ = false
 next : RoomW w (wr.setCell ⟨b, i / 2, none⟩ (.int .i64 (max (t (2 * (i / 2))) (t (2 * (i / 2) + 1))))) b l n (i / 2)
theorem roomF_upd (t : Nat -> Int) (n i : Nat) (v : Int) (h : i < 512) : (fun j => if j = i then Value.int .i64 v else roomF t n j) = roomF (upd t i v) n := by
 funext j
 unfold roomF upd
 by_cases e : j = i
 ·subst e; simp [show ¬ j = 512 by omega]
 ·simp [e]
theorem RoomW.step {w wr : World} {b : Nat} {l : Nat -> Int} {n i : Nat} (h : RoomW w wr b l n i) (hi : 1 < i) : ∃ t, RoomS w wr b l t n i := by
 obtain ⟨hl, ho, t, hb, ht⟩ := h
 refine ⟨t, ?_, ?_, ?_, frozen_of hb _, ⟨by omega, ho.setCell (fun _ => rfl) _, upd t (i / 2) (max (t (2 * (i / 2))) (t (2 * (i / 2) + 1))), ?_, ht.step hi (by omega)⟩⟩
 ·rw [cell_of hb, tab_get (by omega), roomF_t _ _ _ (by omega)]
 ·rw [cell_of hb, tab_get (by omega), roomF_t _ _ _ (by omega)]
 ·rw [cell_of hb, tab_get (by omega), roomF_t _ _ _ (by omega)]
 ·rw [set_same hb, tab_set, roomF_upd _ _ _ _ (by omega)]
theorem RoomW.start {w : World} {b : Nat} {l t : Nat -> Int} {n p : Nat} (hr : RoomAt w b l t n) (hp : p <= n) (hp' : p < 256) (v m : Int) (hm : m = ((max n (p + 1) : Nat) : Int)) :
  RoomW w ((w.setCell ⟨b, 512, none⟩ (.int .i64 m)).setCell ⟨b, 256 + p, none⟩ (.int .i64 v)) b (upd l p v) (max n (p + 1)) (256 + p) := by
 have ho : Only (· = b) w w := Only.refl _ _
 refine ⟨by omega, (ho.setCell (p := ⟨b, 512, none⟩) (fun _ => rfl) _).setCell (p := ⟨b, 256 + p, none⟩) (fun _ => rfl) _, upd t (256 + p) v, ?_, TreeBut.start hr.tree hp' v⟩
 have e : (fun j => if j = 512 then Value.int .i64 m else roomF t n j) = roomF t (max n (p + 1)) := by
  funext j
  unfold roomF
  by_cases e : j = 512
  ·simp [e, hm]
  ·simp [e]
 rw [set_same (set_same hr.blk _ _), tab_set, e, tab_set, roomF_upd _ _ _ _ (by omega)]
theorem RoomW.drew {w wr : World} {b : Nat} {l : Nat -> Int} {n i : Nat} (h : RoomW w wr b l n i) : RoomW w wr.drew b l n i := ⟨h.lim, h.only.drew, h.blk⟩
theorem RoomW.done {w wr : World} {b : Nat} {l t : Nat -> Int} {n p i : Nat} {v : Int} (h : RoomW w wr b (upd l p v) (max n (p + 1)) i) (hi : ¬ 1 < i) (hr : RoomAt w b l t n) (hp' : p < 256)
  (h1 : -1 <= v) (h2 : v <= 512) : Only (· = b) w wr /\ ∃ t', RoomAt wr b (upd l p v) t' (max n (p + 1)) := by
 obtain ⟨hl, ho, t, hb, ht⟩ := h
 refine ⟨ho, t, hb, ht.done (by omega), fun j => ?_, fun j => ?_, fun j hj => ?_, ?_⟩
 ·by_cases e : j = p
  ·subst e; rw [upd_same]; exact h1
  ·rw [upd_other _ _ e]; exact hr.low j
 ·by_cases e : j = p
  ·subst e; rw [upd_same]; exact h2
  ·rw [upd_other _ _ e]; exact hr.high j
 ·rw [upd_other _ _ (by omega)]; exact hr.out j (by omega)
 ·have := hr.most; omega
set_option maxHeartbeats 400000 in
theorem set_in (b : Nat) (l t : Nat -> Int) (n : Nat) (w : World) (p : Nat) (r : Int) (hr : RoomAt w b l t n) (hp : p <= n) (hp' : p < 256) :
  Calls Tryz.prog 146 #[.pointer (some ⟨b, 0, none⟩), .int .i64 p, .int .i64 r] w fun e w' => e = .returned (.int .i64 0) /\ Only (· = b) w w' ∧
   ∃ t', RoomAt w' b (upd l p (min (max r (-1)) 512)) t' (max n (p + 1)) := by
 have hc := hr.count
 have hc' := hr.cell (256 + p) (by omega)
 have hf := frozen_of hr.blk 512
 have hf' := frozen_of hr.blk (256 + p)
 have hne : ¬ 256 + p = 512 := by omega
 have d1 : decide ((p : Int) < 0) = false := by simp
 have d2 : decide ((256 : Int) <= p) = false := by simp; omega
 have d3 : decide (n < p) = false := by simp; omega
 have HS := Lib.hid (RoomW.start hr hp hp' (min (max r (-1)) 512) (max (n : Int) (p + 1)) (by omega))
 have hb := lt_of_get hr.blk
 have HR := Lib.hid hr
 clear hr
 go_enter Tryz.func146, Tryz.ntmps146
 go_wp2
 go_loopw [7] (fun v wr => ∃ i : Nat, v = .int .i64 i /\ RoomW w wr b (upd l p (min (max r (-1)) 512)) (max n (p + 1)) i) (fun v _ => (intOf v).toNat)
 case atStart => exact ⟨256 + p, by go_num, HS.out⟩
 case round =>
  obtain ⟨i, rfl, hW⟩ := hrel
  have hi5 := hW.lim
  by_cases hi : 1 < i
  ·obtain ⟨t1, hT⟩ := hW.step hi
   have c1 := hT.c1
   have c2 := hT.c2
   have c3 := hT.c3
   have c4 := hT.c4
   have HW := Lib.hid hT.next
   clear hW hT
   go_wp2
   go_region
   go_roundw
   case rel => ((repeat apply Exists.intro); exact ⟨⟨i / 2, by go_num, HW.out.drew⟩, rfl⟩)
   case measure => simp [intOf]; omega
  ·have HW := Lib.hid hW
   clear hW
   go_wp2
   go_ret
   exact ⟨rfl, HW.out.done hi HR.out hp' (by omega) (by omega)⟩
set_option maxHeartbeats 400000 in
theorem set_arg (b : Nat) (w : World) (p r : Int) (hp : p < 0 ∨ 256 <= p) :
  Calls Tryz.prog 146 #[.pointer (some ⟨b, 0, none⟩), .int .i64 p, .int .i64 r] w fun e w' => e = .returned (.int .i64 1) /\ w = w' := by
 rcases hp with hi | hi
 ·go_enter Tryz.func146, Tryz.ntmps146
  go_wp2
  go_ret
  exact ⟨rfl, rfl⟩
 ·have h0 : ¬ p < 0 := by omega
  go_enter Tryz.func146, Tryz.ntmps146
  go_wp2
  go_ret
  exact ⟨rfl, rfl⟩
set_option maxHeartbeats 400000 in
theorem set_form (b : Nat) (l t : Nat -> Int) (n : Nat) (w : World) (p : Nat) (r : Int) (hr : RoomAt w b l t n) (hp : n < p) (hp' : p < 256) :
  Calls Tryz.prog 146 #[.pointer (some ⟨b, 0, none⟩), .int .i64 p, .int .i64 r] w fun e w' => e = .returned (.int .i64 3) /\ w = w' := by
 have hc := hr.count
 clear hr
 go_enter Tryz.func146, Tryz.ntmps146
 go_wp2
 go_ret
 exact ⟨rfl, rfl⟩
theorem zero_room : Tryz.zeroCells211 = tab 513 (fun _ => .int .i64 0) := by
 apply tab_of
 ·kernel_rfl
 ·have h : (List.range 513).all (fun i => match Tryz.zeroCells211[i]? with | some (.int .i64 0) => true | _ => false) = true := by kernel_rfl
  intro i hi
  have := List.all_eq_true.1 h i (List.mem_range.2 hi)
  revert this
  split
  ·rename_i e; intro _; exact e
  ·intro x; cases x
def newF (k : Nat) (i : Nat) : Value := if i < k then .int .i64 (-1) else .int .i64 0
theorem new_step {wr : World} {b i : Nat} (h : wr.heap[b]? = some (.cells (tab 513 (newF i)) 211 (0, 0))) :
  (wr.setCell ⟨b, i, none⟩ (.int .i64 (-1))).heap[b]? = some (.cells (tab 513 (newF (i + 1))) 211 (0, 0)) := by
 rw [set_same h, tab_set]
 have e : (fun j => if j = i then Value.int .i64 (-1) else newF i j) = newF (i + 1) := by
  funext j
  unfold newF
  by_cases e : j = i
  ·subst e; simp
  ·by_cases e' : j < i
   ·simp [e, e', show j < i + 1 by omega]
   ·simp [e, e', show ¬ j < i + 1 by omega]
 rw [e]
theorem new_done {wr : World} {b i : Nat} (h : wr.heap[b]? = some (.cells (tab 513 (newF i)) 211 (0, 0))) (hi : i = 512) :
  RoomAt wr b (fun _ => -1) (fun _ => -1) 0 := by
 refine ⟨?_, Tree.empty, fun _ => by simp, fun _ => by simp, fun _ _ => rfl, by omega⟩
 have e : tab 513 (newF i) = tab 513 (roomF (fun _ => -1) 0) := by
  apply tab_ext
  intro j hj
  unfold newF roomF
  by_cases e : j = 512
  ·simp [e, hi]
  ·simp [e, show j < i by omega]
 rw [<- e]; exact h
set_option maxHeartbeats 400000 in
theorem room_new (w : World) :
  Calls Tryz.prog 57 #[] w fun e w' => e = .returned (.pointer (some ⟨w.heap.size, 0, none⟩)) /\ Below w.heap.size w w' ∧
   w.heap.size < w'.heap.size /\ RoomAt w' w.heap.size (fun _ => -1) (fun _ => -1) 0 := by
 go_enter Tryz.func57, Tryz.ntmps57
 go_wp2
 go_loopw [5, 2] (fun v _ wr => ∃ i : Nat, v = .int .i64 i /\ i <= 512 /\ wr.heap[w.heap.size]? = some (.cells (tab 513 (newF i)) 211 (0, 0)) /\ Below w.heap.size w wr /\ w.heap.size < wr.heap.size) (fun v _ _ => 512 - (intOf v).toNat)
 case atStart => exact ⟨0, by go_num, by omega, by rw [alloc_new, zero_room]; rfl, (Below.refl _ _).alloc (Nat.le_refl _) _, by simp⟩
 case round =>
  obtain ⟨i, rfl, hi, hb, hB, hs⟩ := hrel
  have hc : i < 512 -> wr.cell? ⟨w.heap.size, i, none⟩ = some (.int .i64 0) := fun h => by rw [cell_of hb, tab_get (by omega)]; simp [newF]
  have hf := frozen_of hb i
  have HB := Lib.hid hb
  have HL := Lib.hid hB
  clear hb hB
  by_cases h : i < 512
  ·have hc := hc h
   go_wp2
   go_roundw
   case rel =>
    refine ⟨i + 1, by go_num, by omega, ?_, HL.out.setCell (Nat.le_refl _) _, by simpa [World.setCell] using hs⟩
    exact new_step HB.out
   case measure => simp [intOf]; omega
  ·go_wp2
   go_ret
   exact ⟨rfl, HL.out, hs, new_done HB.out (by omega)⟩
theorem RoomAt.kept {S : Nat -> Prop} {w w' : World} {b : Nat} {l t : Nat -> Int} {n : Nat} (h : RoomAt w b l t n) (ho : Only S w w') (hn : ¬ S b) : RoomAt w' b l t n :=
 ⟨ho.get h.blk hn, h.tree, h.low, h.high, h.out, h.most⟩
end Go.Proofs.YthipgglplneijaaGreatDoor
namespace Go.Lap
theorem getD_out {α : Type} (l : List α) (d : α) {i : Nat} (h : l.length <= i) : l.getD i d = d := by
 rw [List.getD_eq_getElem?_getD, List.getElem?_eq_none h]; rfl
def rooms (l : List Int) (i : Nat) : Int := l.getD i (-1)
def clampR (r : Int) : Int := min (max r (-1)) 512
def setL (l : List Int) (p : Nat) (c : Int) : List Int := if p = l.length then l ++ [c] else l.set p c
def rSet (l : List Int) (p r : Int) : Int × List Int :=
 if p < 0 ∨ 256 <= p then (1, l) else if (l.length : Int) < p then (3, l) else (0, setL l p.toNat (clampR r))
def rFind (l : List Int) (need : Int) : Int × Bool :=
 match l.findIdx? (fun r => decide (max need 0 <= r)) with
 | some i => (i, true)
 | none => (0, false)
theorem rSet_arg {l : List Int} {p r : Int} (h : p < 0 ∨ 256 <= p) : rSet l p r = (1, l) := if_pos h
theorem rSet_form {l : List Int} {p r : Int} (h : ¬ (p < 0 ∨ 256 <= p)) (h2 : (l.length : Int) < p) : rSet l p r = (3, l) := by rw [rSet, if_neg h, if_pos h2]
theorem rSet_in {l : List Int} {p r : Int} (h : ¬ (p < 0 ∨ 256 <= p)) (h2 : ¬ (l.length : Int) < p) : rSet l p r = (0, setL l p.toNat (clampR r)) := by rw [rSet, if_neg h, if_neg h2]
theorem upd_rooms (l : List Int) (p : Nat) (c : Int) (hp : p <= l.length) : upd (rooms l) p c = rooms (setL l p c) := by
 funext j
 unfold upd rooms setL
 by_cases e : p = l.length
 ·rw [if_pos e]
  subst e
  by_cases h : j = l.length
  ·subst h; simp
  ·rw [if_neg h]
   rcases Nat.lt_or_ge j l.length with x | x
   ·simp [List.getD_eq_getElem?_getD, List.getElem?_append, x]
   ·rw [getD_out _ _ x, getD_out _ _ (by simp; omega)]
 ·rw [if_neg e]
  simp only [List.getD_eq_getElem?_getD, List.getElem?_set]
  by_cases h : j = p
  ·subst h; simp [show j < l.length by omega]
  ·simp [h, show ¬ p = j by omega]
theorem setL_length (l : List Int) (p : Nat) (c : Int) (hp : p <= l.length) : (setL l p c).length = max l.length (p + 1) := by
 unfold setL
 by_cases e : p = l.length
 ·rw [if_pos e]; simp; omega
 ·rw [if_neg e]; simp; omega
end Go.Lap
namespace Go.Proofs.YthipgglplneijaaGreatDoor
open Go.RowKit Go.Lap
def RoomIs (w : World) (b : Nat) (l : List Int) : Prop := ∃ t, RoomAt w b (rooms l) t l.length
theorem RoomIs.kept {S : Nat -> Prop} {w w' : World} {b : Nat} {l : List Int} (h : RoomIs w b l) (ho : Only S w w') (hn : ¬ S b) : RoomIs w' b l := by
 obtain ⟨t, h⟩ := h
 exact ⟨t, h.kept ho hn⟩
theorem RoomIs.lt {w : World} {b : Nat} {l : List Int} (h : RoomIs w b l) : b < w.heap.size := by
 obtain ⟨t, h⟩ := h
 exact lt_of_get h.blk
theorem RoomIs.most {w : World} {b : Nat} {l : List Int} (h : RoomIs w b l) : l.length <= 256 := by
 obtain ⟨t, h⟩ := h
 exact h.most
theorem room_set (b : Nat) (l : List Int) (w : World) (p r : Int) (hr : RoomIs w b l) :
  Calls Tryz.prog 146 #[.pointer (some ⟨b, 0, none⟩), .int .i64 p, .int .i64 r] w fun e w' => e = .returned (.int .i64 (rSet l p r).1) /\ Only (· = b) w w' /\ RoomIs w' b (rSet l p r).2 := by
 have hr0 := hr
 obtain ⟨t, hr⟩ := hr
 by_cases h1 : p < 0 ∨ 256 <= p
 ·refine (set_arg b w p r h1).mono ?_
  rintro e w' ⟨rfl, rfl⟩
  rw [rSet_arg h1]
  exact ⟨rfl, Only.refl _ _, hr0⟩
 ·obtain ⟨k, rfl⟩ := Int.eq_ofNat_of_zero_le (show 0 <= p by omega)
  by_cases h2 : (l.length : Int) < k
  ·refine (set_form b _ t l.length w k r hr (by omega) (by omega)).mono ?_
   rintro e w' ⟨rfl, rfl⟩
   rw [rSet_form h1 h2]
   exact ⟨rfl, Only.refl _ _, hr0⟩
  ·refine (set_in b _ t l.length w k r hr (by omega) (by omega)).mono ?_
   rintro e w' ⟨rfl, ho, t', hx⟩
   rw [rSet_in h1 h2]
   refine ⟨rfl, ho, t', ?_⟩
   rw [upd_rooms _ _ _ (by omega)] at hx
   rw [Int.toNat_natCast, setL_length _ _ _ (by omega)]
   exact hx
theorem room_find (b : Nat) (l : List Int) (w : World) (need : Int) (hr : RoomIs w b l) :
  Calls Tryz.prog 104 #[.pointer (some ⟨b, 0, none⟩), .int .i64 need] w fun e w' => e = .returned (.tuple #[.int .i64 (rFind l need).1, .bool (rFind l need).2]) /\ w = w' := by
 obtain ⟨t, hr⟩ := hr
 rcases hf : l.findIdx? (fun r => decide (max need 0 <= r)) with _ | i
 ·rw [List.findIdx?_eq_none_iff] at hf
  refine (find_none b _ t l.length w need hr (fun j _ => ?_)).mono ?_
  ·rcases Nat.lt_or_ge j l.length with x | x
   ·have := hf l[j] (List.getElem_mem x)
    have e : rooms l j = l[j] := by simp [rooms, List.getD_eq_getElem?_getD, x]
    rw [e]
    have := of_decide_eq_false this
    omega
   ·have : rooms l j = -1 := getD_out _ _ x
    omega
  ·rintro e w' ⟨rfl, rfl⟩
   rw [<- List.findIdx?_eq_none_iff] at hf
   have e : rFind l need = (0, false) := by simp only [rFind, hf]
   rw [e]
   exact ⟨rfl, rfl⟩
 ·have hf' := hf
  rw [List.findIdx?_eq_some_iff_getElem] at hf
  obtain ⟨hi, h1, h2⟩ := hf
  have hm := hr.most
  refine (find_some b _ t l.length w need i hr (by omega) ?_ (fun j hj => ?_)).mono ?_
  ·have e : rooms l i = l[i] := by simp [rooms, List.getD_eq_getElem?_getD, hi]
   rw [e]; exact of_decide_eq_true h1
  ·have e : rooms l j = l[j] := by simp [rooms, List.getD_eq_getElem?_getD, show j < l.length by omega]
   rw [e]
   have := h2 j hj
   simpa using this
  ·rintro e w' ⟨rfl, rfl⟩
   have e : rFind l need = ((i : Int), true) := by simp only [rFind, hf']
   rw [e]
   exact ⟨rfl, rfl⟩
theorem room_make (w : World) :
  Calls Tryz.prog 57 #[] w fun e w' => e = .returned (.pointer (some ⟨w.heap.size, 0, none⟩)) /\ Below w.heap.size w w' /\ w.heap.size < w'.heap.size /\ RoomIs w' w.heap.size [] := by
 refine (room_new w).mono ?_
 rintro e w' ⟨rfl, h1, h2, h3⟩
 exact ⟨rfl, h1, h2, _, h3⟩
end Go.Proofs.YthipgglplneijaaGreatDoor
namespace Go.Lap
theorem roomT_low (T : List (Option Tup)) : -1 <= roomT T := by unfold roomT; omega
theorem roomT_high (T : List (Option Tup)) : roomT T <= 474 := by
 unfold roomT
 split
 ·omega
 ·rename_i h
  have hl : T ≠ [] := by
   intro e
   subst e
   exact h rfl
  have : 4 <= spentT T := by
   rcases T with _ | ⟨s, T⟩
   ·exact absurd rfl hl
   ·unfold spentT
    rw [List.map_cons, List.sum_cons]
    omega
  omega
theorem clamp_room (T : List (Option Tup)) : clampR (roomT T) = roomT T := by
 have := roomT_low T
 have := roomT_high T
 unfold clampR
 omega
end Go.Lap
namespace Go.Proofs.YthipgglplneijaaGreatDoor
open Go.RowKit Go.Lap
theorem RoomIs.blk {w : World} {b : Nat} {l : List Int} (h : RoomIs w b l) : ∃ c, w.heap[b]? = some (.cells c 211 (0, 0)) := by
 obtain ⟨t, h⟩ := h
 exact ⟨_, h.blk⟩
theorem RoomIs.drewN {w : World} {b : Nat} {l : List Int} (h : RoomIs w b l) (n : Nat) : RoomIs (w.drewN n) b l := h.kept ((Only.refl (fun _ => False) w).drewN n) (fun x => x)
theorem PageT.blk {w : World} {b : Nat} {T : List (Option Tup)} (h : PageT w b T) : ∃ c, w.heap[b]? = some (.cells c 230 (0, 0)) := by
 obtain ⟨L, st, ⟨g, h1, h2⟩, h3⟩ := h
 exact ⟨_, h1⟩
def PoolAt (w : World) (pb n : Nat) : Prop := w.heap[pb]? = some (.cells #[.int .i64 (n : Int)] 126 (0, 0))
theorem PoolAt.kept {S : Nat -> Prop} {w w' : World} {pb n : Nat} (h : PoolAt w pb n) (ho : Only S w w') (hn : ¬ S pb) : PoolAt w' pb n := ho.get h hn
theorem PoolAt.cell {w : World} {pb n : Nat} (h : PoolAt w pb n) : w.cell? ⟨pb, 0, none⟩ = some (.int .i64 (n : Int)) := by rw [cell_of h]; rfl
theorem PoolAt.lt {w : World} {pb n : Nat} (h : PoolAt w pb n) : pb < w.heap.size := lt_of_get h
theorem PoolAt.set {w : World} {pb n m : Nat} {z : Int} (h : PoolAt w pb n) (hz : z = m) : PoolAt (w.setCell ⟨pb, 0, none⟩ (.int .i64 z)) pb m := by
 subst hz
 unfold PoolAt
 rw [set_same h]
 rfl
structure HeapAt (w : World) (hb pb : Nat) (F : Nat -> Prop) (H : List (List (Option Tup))) (R : List Int) (v : Value) (ps : List Nat) (rb : Nat) : Prop where
 box : w.heap[hb]? = some (.cells #[.pointer (some ⟨pb, 0, none⟩), v, .pointer (some ⟨rb, 0, none⟩)] 149 (0, 0))
 row : w.ownsRow 0 164 1 v H.length (ps.map ptrV)
 room : RoomIs w rb R
 pg : ∀ (i : Nat) T, H[i]? = some T -> ∃ p, ps[i]? = some p /\ PageT w p T
 nd : ps.Nodup
 foot : F hb /\ F rb /\ (∀ p ∈ ps, F p) /\ (∀ k, v.ownBlock = some k -> F k)
section
variable {w w' : World} {hb pb : Nat} {F : Nat -> Prop} {H : List (List (Option Tup))} {R : List Int} {v : Value} {ps : List Nat} {rb : Nat}
theorem HeapAt.kept {S : Nat -> Prop} (h : HeapAt w hb pb F H R v ps rb) (ho : Only S w w') (hn : ∀ k, F k -> ¬ S k) : HeapAt w' hb pb F H R v ps rb :=
 ⟨ho.get h.box (hn _ h.foot.1), owns_kept h.row ho (fun k e => hn k (h.foot.2.2.2 k e)), h.room.kept ho (hn _ h.foot.2.1),
   fun i T hi => by obtain ⟨p, h1, h2⟩ := h.pg i T hi; exact ⟨p, h1, h2.kept ho (hn _ (h.foot.2.2.1 p (List.mem_of_getElem? h1)))⟩, h.nd, h.foot⟩
theorem HeapAt.drewN (h : HeapAt w hb pb F H R v ps rb) (n : Nat) : HeapAt (w.drewN n) hb pb F H R v ps rb := h.kept ((Only.refl (fun _ => False) w).drewN n) (fun _ _ x => x)
theorem HeapAt.mono {G : Nat -> Prop} (h : HeapAt w hb pb F H R v ps rb) (hg : ∀ k, F k -> G k) : HeapAt w hb pb G H R v ps rb :=
 ⟨h.box, h.row, h.room, h.pg, h.nd, hg _ h.foot.1, hg _ h.foot.2.1, fun p hp => hg _ (h.foot.2.2.1 p hp), fun k e => hg _ (h.foot.2.2.2 k e)⟩
theorem HeapAt.plen (h : HeapAt w hb pb F H R v ps rb) : ps.length = H.length := by
 have := h.row.1
 simpa using this
theorem HeapAt.page (h : HeapAt w hb pb F H R v ps rb) {i p : Nat} (hi : ps[i]? = some p) : ∃ T, H[i]? = some T /\ PageT w p T := by
 have hl : i < H.length := by rw [<- h.plen]; exact (List.getElem?_eq_some_iff.1 hi).1
 obtain ⟨p', h1, h2⟩ := h.pg i H[i] (List.getElem?_eq_getElem hl)
 rw [hi] at h1
 injection h1 with h1
 subst h1
 exact ⟨_, List.getElem?_eq_getElem hl, h2⟩
theorem HeapAt.pblk (h : HeapAt w hb pb F H R v ps rb) {p : Nat} (hp : p ∈ ps) : ∃ c, w.heap[p]? = some (.cells c 230 (0, 0)) := by
 obtain ⟨i, hi⟩ := List.mem_iff_getElem?.1 hp
 obtain ⟨T, _, h2⟩ := h.page hi
 exact h2.blk
theorem HeapAt.lim (h : HeapAt w hb pb F H R v ps rb) : HeapAt w hb pb (fun k => F k /\ k < w.heap.size) H R v ps rb :=
 ⟨h.box, h.row, h.room, h.pg, h.nd, ⟨h.foot.1, lt_of_get h.box⟩, ⟨h.foot.2.1, h.room.lt⟩, fun p hp => ⟨h.foot.2.2.1 p hp, by obtain ⟨c, hc⟩ := h.pblk hp; exact lt_of_get hc⟩, fun k e => ⟨h.foot.2.2.2 k e, (h.row.lt k e).2⟩⟩
structure Apart (hb : Nat) (v : Value) (ps : List Nat) (rb : Nat) : Prop where
 rh : rb ≠ hb
 ph : ∀ p ∈ ps, p ≠ hb
 pr : ∀ p ∈ ps, p ≠ rb
 vh : ∀ k, v.ownBlock = some k -> k ≠ hb
 vr : ∀ k, v.ownBlock = some k -> k ≠ rb
 vp : ∀ k, v.ownBlock = some k -> ∀ p ∈ ps, k ≠ p
theorem HeapAt.apart (h : HeapAt w hb pb F H R v ps rb) : Apart hb v ps rb := by
 obtain ⟨c, hr⟩ := h.room.blk
 exact ⟨ne_type hr h.box (by decide), fun p hp => by obtain ⟨c, hc⟩ := h.pblk hp; exact ne_type hc h.box (by decide), fun p hp => by obtain ⟨c, hc⟩ := h.pblk hp; exact ne_type hc hr (by decide),
   fun k e => by obtain ⟨c, hc⟩ := own_blk h.row e; exact ne_type hc h.box (by decide), fun k e => by obtain ⟨c, hc⟩ := own_blk h.row e; exact ne_type hc hr (by decide),
   fun k e p hp => by obtain ⟨c, hc⟩ := own_blk h.row e; obtain ⟨d, hd⟩ := h.pblk hp; exact ne_type hc hd (by decide)⟩
theorem HeapAt.pool (h : HeapAt w hb pb F H R v ps rb) {n q : Nat} (hq : PoolAt w q n) : q ≠ hb /\ q ≠ rb /\ (∀ p ∈ ps, q ≠ p) /\ (∀ k, v.ownBlock = some k -> q ≠ k) := by
 obtain ⟨c, hr⟩ := h.room.blk
 exact ⟨ne_type hq h.box (by decide), ne_type hq hr (by decide), fun p hp => by obtain ⟨c, hc⟩ := h.pblk hp; exact ne_type hq hc (by decide), fun k e => by obtain ⟨c, hc⟩ := own_blk h.row e; exact ne_type hq hc (by decide)⟩
theorem HeapAt.lim2 (h : HeapAt w hb pb F H R v ps rb) {n q : Nat} (hq : PoolAt w q n) : HeapAt w hb pb (fun k => F k /\ k < w.heap.size /\ k ≠ q) H R v ps rb := by
 have hp := h.pool hq
 have hl := h.lim.foot
 exact ⟨h.box, h.row, h.room, h.pg, h.nd, ⟨hl.1.1, hl.1.2, hp.1.symm⟩, ⟨hl.2.1.1, hl.2.1.2, hp.2.1.symm⟩, fun p hp' => ⟨(hl.2.2.1 p hp').1, (hl.2.2.1 p hp').2, (hp.2.2.1 p hp').symm⟩, fun k e => ⟨(hl.2.2.2 k e).1, (hl.2.2.2 k e).2, (hp.2.2.2 k e).symm⟩⟩
theorem HeapAt.turn {i p : Nat} {T' : List (Option Tup)} (h : HeapAt w hb pb F H R v ps rb) (hi : ps[i]? = some p) (ho : Only (· = p) w w') (hp : PageT w' p T') : HeapAt w' hb pb F (H.set i T') R v ps rb := by
 have ha := h.apart
 have hm : p ∈ ps := List.mem_of_getElem? hi
 refine ⟨ho.get h.box (fun e => ha.ph p hm e.symm), ?_, h.room.kept ho (fun e => ha.pr p hm e.symm), fun j T hj => ?_, h.nd, h.foot⟩
 ·rw [List.length_set]
  exact owns_kept h.row ho (fun k e x => ha.vp k e p hm x)
 ·have hil : i < H.length := by rw [<- h.plen]; exact (List.getElem?_eq_some_iff.1 hi).1
  rw [List.getElem?_set] at hj
  by_cases e : i = j
  ·subst e
   rw [if_pos rfl, if_pos hil] at hj
   injection hj with hj
   subst hj
   exact ⟨p, hi, hp⟩
  ·rw [if_neg e] at hj
   obtain ⟨q, h1, h2⟩ := h.pg j T hj
   refine ⟨q, h1, h2.kept ho (fun x => ?_)⟩
   subst x
   exact e ((List.getElem?_inj (List.getElem?_eq_some_iff.1 hi).1 h.nd).1 (hi.trans h1.symm))
theorem HeapAt.rooms {R' : List Int} (h : HeapAt w hb pb F H R v ps rb) (ho : Only (· = rb) w w') (hr : RoomIs w' rb R') : HeapAt w' hb pb F H R' v ps rb := by
 have ha := h.apart
 exact ⟨ho.get h.box (fun e => ha.rh e.symm), owns_kept h.row ho (fun k e x => ha.vr k e x), hr, fun i T hi => by obtain ⟨p, h1, h2⟩ := h.pg i T hi; exact ⟨p, h1, h2.kept ho (fun x => ha.pr p (List.mem_of_getElem? h1) x)⟩, h.nd, h.foot⟩
theorem HeapAt.grow {w1 w2 : World} {v' : Value} {q : Nat} (h : HeapAt w hb pb F H R v ps rb) (hq : Quiet w w1) (hp : PageT w1 q []) (hn : w.heap.size <= q)
  (hg : Grew (w1.alloc (.cells #[ptrV q] 164)) w2 164 1 v v' (H.length + 1) (ps.map ptrV ++ [ptrV q])) :
  HeapAt (w2.setCell ⟨hb, 1, none⟩ v') hb pb (fun k => F k ∨ w.heap.size <= k) (H ++ [[]]) R v' (ps ++ [q]) rb /\ Only (fun k => F k) w (w2.setCell ⟨hb, 1, none⟩ v') := by
 have ha := h.apart
 have hl := lt_of_get h.box
 have hqa : Quiet w (w1.alloc (.cells #[ptrV q] 164)) := hq.alloc _
 have hsz := hq.size
 have hql := hp.lt
 have hf := h.foot
 have hrl := h.room.lt
 have hvl : ∀ k, v.ownBlock = some k -> k < w.heap.size := fun k e => (h.row.lt k e).2
 have hnew : ∀ k, v'.ownBlock = some k -> k ≠ hb /\ k ≠ rb /\ k ≠ q /\ (∀ p ∈ ps, k ≠ p) := by
  intro k e
  have hpl : ∀ p ∈ ps, p < w.heap.size := fun p hp => by obtain ⟨c, hc⟩ := h.pblk hp; exact lt_of_get hc
  rcases hg.loc with x | x
  ·rw [x] at e
   have := hvl k e
   exact ⟨ha.vh k e, ha.vr k e, by omega, ha.vp k e⟩
  ·rw [x] at e
   injection e with e
   simp at e
   exact ⟨by omega, by omega, by omega, fun p hp => by have := hpl p hp; omega⟩
 have box2 := hg.only.get (hqa.get h.box (fun x => x)) (fun e => ha.vh hb e rfl)
 have ho3 : Only (· = hb) w2 (w2.setCell ⟨hb, 1, none⟩ v') := (Only.refl (· = hb) w2).setCell (p := ⟨hb, 1, none⟩) (fun _ => rfl) v'
 refine ⟨⟨?_, ?_, ?_, fun i T hi => ?_, ?_, Or.inl hf.1, Or.inl hf.2.1, fun p hp => ?_, fun k e => ?_⟩, ?_⟩
 ·rw [set_same box2]; rfl
 ·rw [List.length_append, List.map_append]
  exact owns_kept hg.own ho3 (fun k e x => (hnew k e).1 x)
 ·exact (RoomIs.kept (S := fun k => v.ownBlock = some k) (h.room.kept hqa (fun x => x)) hg.only (fun e => ha.vr rb e rfl)).kept ho3 ha.rh
 ·have hpl := h.plen
  rcases snoc_get hi with ⟨_, h1⟩ | ⟨h1, h2⟩
  ·obtain ⟨p, h3, h4⟩ := h.pg i T h1
   have hpm := List.mem_of_getElem? h3
   exact ⟨p, snoc_old h3, (PageT.kept (S := fun k => v.ownBlock = some k) (h4.kept hqa (fun x => x)) hg.only (fun e => ha.vp p e p hpm rfl)).kept ho3 (ha.ph p hpm)⟩
  ·subst h2
   refine ⟨q, by rw [h1, <- hpl]; simp, ?_⟩
   exact (PageT.kept (S := fun k => v.ownBlock = some k) (hp.kept ((Only.refl (fun _ => False) w1).alloc _) (fun x => x)) hg.only (fun e => by have := hvl q e; omega)).kept ho3 (by omega)
 ·rw [List.nodup_append]
  refine ⟨h.nd, by simp, fun a ha' b hb' => ?_⟩
  obtain ⟨c, hc⟩ := h.pblk ha'
  have := lt_of_get hc
  simp at hb'
  omega
 ·rcases List.mem_append.1 hp with x | x
  ·exact Or.inl (hf.2.2.1 p x)
  ·simp at x; subst x; exact Or.inr hn
 ·rcases hg.loc with x | x
  ·rw [x] at e; exact Or.inl (hf.2.2.2 k e)
  ·rw [x] at e; injection e with e; simp at e; exact Or.inr (by omega)
 ·exact (((hqa.mono (T := F) (fun _ _ x => x.elim)).trans' hg.only (fun k hk e => hf.2.2.2 k e)).trans' ho3 (fun k hk e => by subst e; exact hf.1))
end
def HeapIs (w : World) (hb pb : Nat) (F : Nat -> Prop) (H : List (List (Option Tup))) : Prop := ∃ v ps rb, HeapAt w hb pb F H (H.map roomT) v ps rb
section
variable {w w' : World} {hb pb : Nat} {F : Nat -> Prop} {H : List (List (Option Tup))}
theorem HeapIs.kept {S : Nat -> Prop} (h : HeapIs w hb pb F H) (ho : Only S w w') (hn : ∀ k, F k -> ¬ S k) : HeapIs w' hb pb F H := by
 obtain ⟨v, ps, rb, h⟩ := h
 exact ⟨v, ps, rb, h.kept ho hn⟩
theorem HeapIs.mono {G : Nat -> Prop} (h : HeapIs w hb pb F H) (hg : ∀ k, F k -> G k) : HeapIs w hb pb G H := by
 obtain ⟨v, ps, rb, h⟩ := h
 exact ⟨v, ps, rb, h.mono hg⟩
theorem HeapIs.lim (h : HeapIs w hb pb F H) : HeapIs w hb pb (fun k => F k /\ k < w.heap.size) H := by
 obtain ⟨v, ps, rb, h⟩ := h
 exact ⟨v, ps, rb, h.lim⟩
theorem HeapIs.most (h : HeapIs w hb pb F H) : H.length <= 256 := by
 obtain ⟨v, ps, rb, h⟩ := h
 simpa using h.room.most
end
set_option maxHeartbeats 400000 in
theorem pool_new (n : Nat) (hn : n <= 256) (w : World) :
  Calls Tryz.prog 19 #[.int .i64 (n : Int)] w fun e w' => e = .returned (.tuple #[.pointer (some ⟨w.heap.size, 0, none⟩), .int .i64 0]) /\ Quiet w w' /\ PoolAt w' w.heap.size n := by
 have d0 : decide ((n : Int) < 0) = false := by simp
 have d1 : decide ((256 : Int) < n) = false := by simp; omega
 go_enter Tryz.func19, Tryz.ntmps19
 go_wp2
 go_ret2
 exact ⟨rfl, (Only.refl _ _).alloc _, alloc_new _ _⟩
set_option maxHeartbeats 400000 in
theorem pool_left (pb n : Nat) (w : World) (h : PoolAt w pb n) :
  Calls Tryz.prog 105 #[.pointer (some ⟨pb, 0, none⟩)] w fun e w' => e = .returned (.int .i64 (n : Int)) /\ w = w' := by
 have hc := h.cell
 clear h
 go_enter Tryz.func105, Tryz.ntmps105
 go_wp2
 go_ret
 exact ⟨rfl, rfl⟩
theorem heapAt_new {w w1 : World} {pb : Nat} (hq : Below w.heap.size w w1) (hs : w.heap.size < w1.heap.size) (hr : RoomIs w1 w.heap.size []) :
  HeapIs (w1.alloc (.cells #[.pointer (some ⟨pb, 0, none⟩), .slice none 0 0, .pointer (some ⟨w.heap.size, 0, none⟩)] 149)) w1.heap.size pb (fun k => w.heap.size <= k) [] :=
 ⟨_, [], _, alloc_new _ _, World.ownsRow_nil _ _ _ _, hr.kept ((Only.refl (fun _ => False) w1).alloc _) (fun x => x), fun i T hi => by simp at hi, List.nodup_nil, Nat.le_of_lt hs, Nat.le_refl _, fun p hp => by simp at hp, fun k e => by cases e⟩
set_option maxHeartbeats 400000 in
theorem heap_new (pb : Nat) (w : World) :
  Calls Tryz.prog 26 #[.pointer (some ⟨pb, 0, none⟩)] w fun e w' => ∃ hb, e = .returned (.pointer (some ⟨hb, 0, none⟩)) /\ Quiet w w' /\ HeapIs w' hb pb (fun k => w.heap.size <= k) [] := by
 go_enter Tryz.func26, Tryz.ntmps26
 go_wp2_with fail
 refine (room_make w).mono ?_
 rintro e w1 ⟨rfl, hB, hs, hr⟩
 have HH := Lib.hid (heapAt_new (pb := pb) hB hs hr)
 have HQ : Hid (Quiet w w1) := Only.ofBelow' hB
 clear hB hs hr
 go_wp2
 go_ret
 exact ⟨_, rfl, HQ.out.alloc _, HH.out⟩
theorem HeapAt.cells {w : World} {hb pb : Nat} {F : Nat -> Prop} {H : List (List (Option Tup))} {R : List Int} {v : Value} {ps : List Nat} {rb : Nat} (h : HeapAt w hb pb F H R v ps rb) :
  w.cell? ⟨hb, 0, none⟩ = some (.pointer (some ⟨pb, 0, none⟩)) /\ w.cell? ⟨hb, 1, none⟩ = some v /\ w.cell? ⟨hb, 2, none⟩ = some (.pointer (some ⟨rb, 0, none⟩)) :=
 ⟨by rw [cell_of h.box]; rfl, by rw [cell_of h.box]; rfl, by rw [cell_of h.box]; rfl⟩
theorem HeapAt.rowForm {w : World} {hb pb : Nat} {F : Nat -> Prop} {H : List (List (Option Tup))} {R : List Int} {v : Value} {ps : List Nat} {rb : Nat} (h : HeapAt w hb pb F H R v ps rb) :
  ∃ A c, v = .slice A H.length c /\ H.length <= c /\ c <= maxLen /\ ∀ (i p : Nat), ps[i]? = some p -> ∃ g, A = some ⟨g, 0, none⟩ /\ w.cell? ⟨g, i, none⟩ = some (ptrV p) := by
 rcases h.row.2 with ⟨e1, e2⟩ | ⟨g, cap, cur, e1, _, hh, r1, r2, _⟩
 ·refine ⟨none, 0, by rw [e2]; exact e1, by omega, Nat.zero_le _, fun i p hi => ?_⟩
  have := h.plen
  have := (List.getElem?_eq_some_iff.1 hi).1
  omega
 ·refine ⟨_, cap, e1, r1, r2, fun i p hi => ⟨g, rfl, ?_⟩⟩
  have := h.row.cells (by rw [e1]; rfl) i (ptrV p) (by rw [List.getElem?_map, hi]; rfl)
  rw [add_none, Nat.zero_add] at this
  exact this
section
variable {w : World} {hb pb : Nat} {F : Nat -> Prop} {H : List (List (Option Tup))} {R : List Int} {v : Value} {ps : List Nat} {rb : Nat}
set_option maxHeartbeats 400000 in
theorem heap_page_none (n : Int) (h : HeapAt w hb pb F H R v ps rb) (hn : n < 0 ∨ (H.length : Int) <= n) :
  Calls Tryz.prog 71 #[.pointer (some ⟨hb, 0, none⟩), .int .i64 n] w fun e w' => e = .returned (.pointer none) /\ w = w' := by
 obtain ⟨A, c, rfl, _, _, _⟩ := h.rowForm
 obtain ⟨_, c1, _⟩ := h.cells
 clear h
 rcases hn with hn | hn
 ·go_enter Tryz.func71, Tryz.ntmps71
  go_wp2
  go_ret
  exact ⟨rfl, rfl⟩
 ·have h0 : ¬ n < 0 := by omega
  go_enter Tryz.func71, Tryz.ntmps71
  go_wp2
  go_ret
  exact ⟨rfl, rfl⟩
set_option maxHeartbeats 400000 in
theorem heap_page_some (n p : Nat) (h : HeapAt w hb pb F H R v ps rb) (hn : ps[n]? = some p) :
  Calls Tryz.prog 71 #[.pointer (some ⟨hb, 0, none⟩), .int .i64 (n : Int)] w fun e w' => e = .returned (.pointer (some ⟨p, 0, none⟩)) /\ w = w' := by
 obtain ⟨A, c, rfl, hc, hm, hr⟩ := h.rowForm
 obtain ⟨_, c1, _⟩ := h.cells
 have hl : n < H.length := by rw [<- h.plen]; exact (List.getElem?_eq_some_iff.1 hn).1
 obtain ⟨g, rfl, hg⟩ := hr n p hn
 have d0 : decide ((n : Int) < 0) = false := by simp
 have d1 : decide ((H.length : Int) <= n) = false := by simp; omega
 unfold maxLen at hm
 clear h hr hn
 go_enter Tryz.func71, Tryz.ntmps71
 go_wp2
 go_ret
 exact ⟨rfl, rfl⟩
set_option maxHeartbeats 400000 in
theorem heap_told (n p : Nat) (T : List (Option Tup)) (h : HeapAt w hb pb F H R v ps rb) (hn : ps[n]? = some p) (hT : H[n]? = some T) (hR : n <= R.length) (h256 : n < 256) :
  Calls Tryz.prog 106 #[.pointer (some ⟨hb, 0, none⟩), .int .i64 (n : Int)] w fun e w' => e = .returned (.tuple #[]) /\ Only (· = rb) w w' /\ HeapAt w' hb pb F H (setL R n (roomT T)) v ps rb := by
 have HH := Lib.hid h
 obtain ⟨A, c, rfl, hc, hm, hr⟩ := h.rowForm
 obtain ⟨_, c1, c2⟩ := h.cells
 have hl : n < H.length := by rw [<- h.plen]; exact (List.getElem?_eq_some_iff.1 hn).1
 obtain ⟨T', hT', hpt⟩ := h.page hn
 obtain rfl : T = T' := by rw [hT] at hT'; injection hT'
 obtain ⟨g, rfl, hg⟩ := hr n p hn
 have HPT := Lib.hid hpt
 have hset : rSet R (n : Int) (roomT T) = (0, setL R n (roomT T)) := by
  rw [rSet_in (by omega) (by omega), Int.toNat_natCast, clamp_room]
 have HSET := Lib.hid hset
 have HNE : Hid ((¬ hb = rb) /\ ¬ g = rb) := ⟨fun e => h.apart.rh e.symm, fun e => h.apart.vr g rfl e⟩
 have d0 : decide ((n : Int) < 0) = false := by simp
 have d1 : decide ((H.length : Int) <= n) = false := by simp; omega
 unfold maxLen at hm
 clear h hr hn hT hT' hset hpt
 go_enter Tryz.func106, Tryz.ntmps106
 go_wp2_with fail
 go_region_held3 (fun w' => w'.cell? ⟨hb, 1, none⟩ = some (.slice (some ⟨g, 0, none⟩) H.length c) /\ w'.cell? ⟨hb, 2, none⟩ = some (.pointer (some ⟨rb, 0, none⟩)) /\ w'.cell? ⟨g, n, none⟩ = some (ptrV p))
  (first | go_keep | exact ⟨ho3.cell (by exact c1) HNE.out.1, ho3.cell (by exact c2) HNE.out.1, ho3.cell (by exact hg) HNE.out.2⟩ | fail)
  (first
    | (go_at_call 139; go_must (refine (pageT_room p T _ (by exact HPT.out)).mono ?_; rintro e w2 ⟨rfl, n3, rfl⟩))
    | (go_at_call 146; go_must (refine (room_set rb R _ (n : Int) (roomT T) (HH.out.room.drewN _)).mono ?_; rintro e w3 ⟨rfl, ho3, hr3⟩))
    | fail)
 go_wp2
 go_end0
 rw [HSET.out] at hr3
 exact ⟨rfl, ((Only.refl _ _).drewN _).trans ho3, (HH.out.drewN _).rooms ho3 hr3⟩
set_option maxHeartbeats 400000 in
theorem heap_pages (h : HeapIs w hb pb F H) :
  Calls Tryz.prog 68 #[.pointer (some ⟨hb, 0, none⟩)] w fun e w' => e = .returned (.int .i64 (H.length : Int)) /\ w = w' := by
 obtain ⟨v, ps, rb, h⟩ := h
 obtain ⟨A, c, rfl, hc, hm, hr⟩ := h.rowForm
 obtain ⟨_, c1, _⟩ := h.cells
 clear h hr
 go_enter Tryz.func68, Tryz.ntmps68
 go_wp2
 go_ret
 exact ⟨rfl, rfl⟩
def usedH (H : List (List (Option Tup))) : Nat := (H.map usedT).sum
theorem usedT_le (T : List (Option Tup)) : usedT T <= T.length := List.length_filter_le _ _
theorem usedH_take {H : List (List (Option Tup))} {k : Nat} {T : List (Option Tup)} (h : H[k]? = some T) : usedH (H.take (k + 1)) = usedH (H.take k) + usedT T := by
 unfold usedH
 rw [List.take_add_one, h]
 simp
set_option maxHeartbeats 400000 in
theorem heap_used (h : HeapIs w hb pb F H) :
  Calls Tryz.prog 39 #[.pointer (some ⟨hb, 0, none⟩)] w fun e w' => e = .returned (.int .i64 (usedH H : Int)) /\ ∃ n, w' = w.drewN n := by
 have h256 := h.most
 obtain ⟨v, ps, rb, h⟩ := h
 have HH := Lib.hid h
 obtain ⟨A, c, rfl, hc, hm, hr⟩ := h.rowForm
 obtain ⟨_, c1, _⟩ := h.cells
 have HR := Lib.hid hr
 unfold maxLen at hm
 clear h hr
 go_enter Tryz.func39, Tryz.ntmps39
 go_wp2
 go_loopw [3, 13, 5] (fun n v _ wr => ∃ k : Nat, k <= H.length /\ v = .int .i64 (k : Int) /\ n = .int .i64 (usedH (H.take k) : Int) /\ usedH (H.take k) <= 127 * k /\ (∃ n, wr = w.drewN n)) (fun _ v _ _ => H.length - (intOf v).toNat)
 case atStart => exact ⟨0, Nat.zero_le _, rfl, rfl, Nat.zero_le _, ⟨0, rfl⟩⟩
 case round =>
  obtain ⟨k, hk, rfl, rfl, hu, ⟨m, rfl⟩⟩ := hrel
  by_cases hlt : k < H.length
  ·obtain ⟨p, hp, hpt⟩ := HH.out.pg k _ (List.getElem?_eq_getElem hlt)
   obtain ⟨g, rfl, hg⟩ := HR.out k p hp
   obtain ⟨T, hT⟩ : ∃ T, H[k] = T := ⟨_, rfl⟩
   rw [hT] at hpt
   have HN := Lib.hid (usedH_take (List.getElem?_eq_getElem hlt))
   rw [hT] at HN
   have HPT := Lib.hid hpt
   have hle := hpt.len
   have hle2 := usedT_le T
   clear hp hpt hT
   go_wp2_with fail
   refine (pageT_used p T _ (by exact HPT.out)).mono ?_
   rintro e w1 ⟨rfl, n, rfl⟩
   go_wp2
   go_roundw
   case rel => exact ⟨k + 1, by omega, by go_num, by rw [HN.out]; go_num, by rw [HN.out]; omega, ⟨_, rfl⟩⟩
   case measure => simp [intOf]; omega
  ·obtain rfl : k = H.length := by omega
   rw [List.take_length]
   clear hu
   go_wp2
   go_ret
   exact ⟨rfl, _, rfl⟩
end
end Go.Proofs.YthipgglplneijaaGreatDoor
