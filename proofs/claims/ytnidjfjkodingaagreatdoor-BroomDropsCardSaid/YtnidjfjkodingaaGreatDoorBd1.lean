/- Plain facts on worlds, blocks and frames that all walks of this seat share. A region that draws its order and whose last operation waits for all others: the others first, then the last one. The contracts on slices of bytes: bytes.Clone, and the references' Copy, Cut, Same. The plain facts on pages: numbers of bytes, versions, slots. The plain facts on pages, more: a version that is stamped, freed; all that are moved. The contracts of package page's inner functions on bytes: num, put, count, start, set, at, point, New. No condition. -/
import Derived.Test.YtnidjfjkodingaaGreatDoorProg
import Derived.WalkKit
import Derived.WalkSpells
import Derived.WalkLawsBesides
import Derived.Lib.Hide
import Derived.Lib.MinMax
import Derived.OwnWalk
import Derived.Laws.AppendOwnNone
import Derived.Maps.AppendAt
import Derived.RegionTactic
import Derived.Deep.RegionHeld3
import Derived.BigRegion
import Derived.BigQuiet
import Derived.Deep.QuietTactic
import Derived.Deep.LoopGhost
import Derived.Deep.RegionWith
import Derived.Deep.DeepCutAuto
import Derived.Outline
import Derived.Laws.CopyRow
import Derived.Lib.SliceRun
import Derived.Laws.Externs
import Derived.Laws.IdiomStrings
import Derived.Lib.BufferRead
import Derived.Lib.Strings
import Derived.Laws.BitsAllLaws
import Derived.Lib.SlBytesConst
import Derived.Deep.RegionLawGrows
import Derived.Deep.RegionHeld
set_option linter.unusedVariables false
set_option linter.unusedSimpArgs false
set_option maxRecDepth 100000
set_option maxHeartbeats 8000000
namespace Go.Lap
open Go.RowKit
structure Z0 (S : Nat -> Prop) (w w' : World) : Prop where
 os : w'.os = w.os
 tape : w'.tape = w.tape
 output : w'.output = w.output
 size : w.heap.size <= w'.heap.size
 block : ∀ k, k < w.heap.size -> ¬ S k -> w'.heap[k]? = w.heap[k]?
theorem Z0.refl (S : Nat -> Prop) (w : World) : Z0 S w w := ⟨rfl, rfl, rfl, Nat.le_refl _, fun _ _ _ => rfl⟩
theorem Z0.trans {S : Nat -> Prop} {a b c : World} (h : Z0 S a b) (k : Z0 S b c) : Z0 S a c :=
 ⟨k.os.trans h.os, k.tape.trans h.tape, k.output.trans h.output, Nat.le_trans h.size k.size, fun i hi hs => (k.block i (Nat.lt_of_lt_of_le hi h.size) hs).trans (h.block i hi hs)⟩
theorem Z0.mono {S T : Nat -> Prop} {a b : World} (h : Z0 S a b) (hs : ∀ k, k < a.heap.size -> S k -> T k) : Z0 T a b :=
 ⟨h.os, h.tape, h.output, h.size, fun i hi hn => h.block i hi (fun x => hn (hs i hi x))⟩
theorem Z0.trans' {S T : Nat -> Prop} {a b c : World} (h : Z0 S a b) (k : Z0 T b c) (hs : ∀ k, k < a.heap.size -> T k -> S k) : Z0 S a c :=
 ⟨k.os.trans h.os, k.tape.trans h.tape, k.output.trans h.output, Nat.le_trans h.size k.size, fun i hi hn => (k.block i (Nat.lt_of_lt_of_le hi h.size) (fun x => hn (hs i hi x))).trans (h.block i hi hn)⟩
theorem Z0.drew {S : Nat -> Prop} {a w : World} (h : Z0 S a w) : Z0 S a w.drew := ⟨h.os, h.tape, h.output, h.size, h.block⟩
theorem Z0.drewN {S : Nat -> Prop} {a w : World} (h : Z0 S a w) (n : Nat) : Z0 S a (w.drewN n) := ⟨h.os, h.tape, h.output, h.size, h.block⟩
theorem Z0.alloc {S : Nat -> Prop} {a w : World} (h : Z0 S a w) (o : Obj) : Z0 S a (w.alloc o) :=
 h.trans ⟨rfl, rfl, rfl, by simp, fun k hk _ => Below.heap_alloc _ _ _ hk⟩
theorem Z0.setCell {S : Nat -> Prop} {a w : World} (h : Z0 S a w) {p : Addr} (hp : p.block < a.heap.size -> S p.block) (u : Value) : Z0 S a (w.setCell p u) :=
 h.trans' (T := fun k => k = p.block) ⟨rfl, rfl, rfl, by simp [World.setCell], fun k _ hn => Below.heap_setCell _ _ _ _ hn⟩ (fun k hk e => by subst e; exact hp hk)
theorem Z0.grown {S : Nat -> Prop} {a w w' : World} {row : Option Nat} (h : Z0 S a w) (hg : w.grownBy w' row) (hr : ∀ k, row = some k -> k < a.heap.size -> S k) : Z0 S a w' :=
 h.trans' (T := fun k => row = some k) ⟨hg.os, hg.tape, hg.output, hg.size, fun k hk hn => hg.block k hk (fun e => hn e.symm)⟩ (fun k hk e => hr k e hk)
theorem Z0.byMap {S : Nat -> Prop} {a w w' : World} {b : Nat} (h : Z0 S a w) (hg : w.grownBy w' (some b)) (hb : b < a.heap.size -> S b) : Z0 S a w' :=
 h.grown hg (fun k e hk => by injection e with e; subst e; exact hb hk)
theorem Z0.ofBelow' {S : Nat -> Prop} {a w : World} (h : Below a.heap.size a w) : Z0 S a w :=
 ⟨h.os, h.tape, h.output, h.size, fun k hk _ => h.block k hk⟩
theorem Z0.get {S : Nat -> Prop} {a w : World} (h : Z0 S a w) {b : Nat} {o : Obj} (hb : a.heap[b]? = some o) (hn : ¬ S b) : w.heap[b]? = some o := by
 have hl : b < a.heap.size := by
  rcases Nat.lt_or_ge b a.heap.size with x | x
  ·exact x
  ·rw [Array.getElem?_eq_none x] at hb; cases hb
 rw [h.block b hl hn]; exact hb
theorem Z2 {w : World} {b : Nat} {o : Obj} (hb : w.heap[b]? = some o) : b < w.heap.size := by
 rcases Nat.lt_or_ge b w.heap.size with x | x
 ·exact x
 ·rw [Array.getElem?_eq_none x] at hb; cases hb
theorem Z1 {w : World} {b : Nat} {c : Array Value} {t : TypeId} {fr : Nat × Nat} (h : w.heap[b]? = some (.cells c t fr)) (o : Nat) : w.cell? ⟨b, o, none⟩ = c[o]? := by
 simp [World.cell?, h]
theorem Z7 {w : World} {b : Nat} {c : Array Value} {t : TypeId} (h : w.heap[b]? = some (.cells c t (0, 0))) (o : Nat) : w.frozen? ⟨b, o, none⟩ = false := by
 simp [World.frozen?, h]
theorem Zf {w : World} {b : Nat} {c : Array Value} {t : TypeId} {fr : Nat × Nat} (h : w.heap[b]? = some (.cells c t fr)) (o : Nat) (v : Value) :
  (w.setCell ⟨b, o, none⟩ v).heap[b]? = some (.cells (c.setIfInBounds o v) t fr) := by
 simp [World.setCell, Array.getElem?_modify, h]
theorem Z4M {w : World} {b b' : Nat} {x : Obj} (h : w.heap[b]? = some x) (o : Nat) (v : Value) (hn : b ≠ b') :
  (w.setCell ⟨b', o, none⟩ v).heap[b]? = some x := by
 rw [Below.heap_setCell _ _ _ _ hn]; exact h
theorem Zd {w : World} {b : Nat} {x : Obj} (h : w.heap[b]? = some x) (o : Obj) : (w.alloc o).heap[b]? = some x := by
 rw [Below.heap_alloc _ _ _ (Z2 h)]; exact h
theorem Z5 (w : World) (o : Obj) : (w.alloc o).heap[w.heap.size]? = some o := by
 show (w.heap.push o)[w.heap.size]? = _
 simp
def tab (k : Nat) (f : Nat -> Value) : Array Value := Array.ofFn (n := k) fun i => f i
theorem Z2d (k : Nat) (f : Nat -> Value) : (tab k f).size = k := by simp [tab]
theorem Z1Z {k : Nat} {f : Nat -> Value} {i : Nat} (h : i < k) : (tab k f)[i]? = some (f i) := by
 simp [tab, h]
theorem Z6O {k : Nat} {f g : Nat -> Value} (h : ∀ i, i < k -> f i = g i) : tab k f = tab k g := by
 unfold tab
 congr 1
 funext i
 exact h i i.isLt
theorem Z5h (k : Nat) (f : Nat -> Value) (i : Nat) (v : Value) : (tab k f).setIfInBounds i v = tab k (fun j => if j = i then v else f j) := by
 apply Array.ext
 ·simp [tab]
 ·intro j h1 h2
  simp only [tab, Array.size_setIfInBounds, Array.size_ofFn] at h1 h2 ⊢
  rw [Array.getElem_setIfInBounds (by simpa using h1)]
  by_cases e : i = j
  ·subst e; simp
  ·have e' : ¬ j = i := fun x => e x.symm
   simp [e, e']
theorem ZaR {c : Array Value} {k : Nat} {f : Nat -> Value} (hk : c.size = k) (h : ∀ i, i < k -> c[i]? = some (f i)) : c = tab k f := by
 apply Array.ext
 ·rw [hk, Z2d]
 ·intro j h1 h2
  have h3 := h j (by omega)
  have h4 := Z1Z (f := f) (show j < k by omega)
  rw [Array.getElem?_eq_getElem h1] at h3
  rw [Array.getElem?_eq_getElem h2] at h4
  have h5 := h3.trans h4.symm
  exact Option.some.inj h5
structure Z05 (P : Program) (t e : TypeId) (size bytes : Nat) : Prop where
 ex : ∃ i z, P.underlying t = some (.slice e) /\ P.info? e = some i /\ i.zero = some z /\ i.size = size /\ i.bytes = bytes /\ z.cells.size = size /\ 0 < size
theorem Z05.mk' {P : Program} {t e : TypeId} {size bytes : Nat} (z : Value) (ht : P.underlying t = some (.slice e)) (hi : (P.info? e).map (fun i => (i.zero, i.size, i.bytes)) = some (some z, size, bytes))
  (hz : z.cells.size = size) (hs : 0 < size) : Z05 P t e size bytes := by
 obtain ⟨i, hi, h0, h1, h2⟩ := info_parts hi
 exact ⟨i, z, ht, hi, h0, h1, h2, hz, hs⟩
structure Rd (w : World) (S : Nat -> Prop) (size : Nat) (A : Option Addr) (n : Nat) (xs : List Value) : Prop where
 len : xs.length = n * size
 cells : 0 < xs.length -> ∃ b off, A = some ⟨b, off, none⟩ /\ S b /\ ∀ j u, xs[j]? = some u -> w.cell? ⟨b, off + j, none⟩ = some u
theorem Zq (b off j : Nat) : (⟨b, off, none⟩ : Addr).add j = ⟨b, off + j, none⟩ := by
 unfold Addr.add
 split
 ·subst_vars; rfl
 ·rfl
theorem Ze {w : World} {p : Addr} {u : Value} (h : w.cell? p = some u) : p.block < w.heap.size := by
 rcases Nat.lt_or_ge p.block w.heap.size with x | x
 ·exact x
 ·simp [World.cell?, Array.getElem?_eq_none x] at h
theorem Z0.cell {S : Nat -> Prop} {a w : World} (h : Z0 S a w) {p : Addr} {u : Value} (hc : a.cell? p = some u) (hn : ¬ S p.block) : w.cell? p = some u := by
 rw [World.cell?_of_block (h.block p.block (Ze hc) hn)]; exact hc
theorem Rd.kept {w w' : World} {S T : Nat -> Prop} {size n : Nat} {A : Option Addr} {xs : List Value} (h : Rd w S size A n xs) (ho : Z0 T w w') (hs : ∀ k, S k -> ¬ T k) : Rd w' S size A n xs :=
 ⟨h.len, fun hn => by
   obtain ⟨b, off, e, hb, hc⟩ := h.cells hn
   exact ⟨b, off, e, hb, fun j u hu => ho.cell (hc j u hu) (hs _ hb)⟩⟩
theorem Rd.mono {w : World} {S T : Nat -> Prop} {size n : Nat} {A : Option Addr} {xs : List Value} (h : Rd w S size A n xs) (hs : ∀ k, S k -> T k) : Rd w T size A n xs :=
 ⟨h.len, fun hn => by
   obtain ⟨b, off, e, hb, hc⟩ := h.cells hn
   exact ⟨b, off, e, hs _ hb, hc⟩⟩
theorem Rd.nil (w : World) (S : Nat -> Prop) (size : Nat) (A : Option Addr) : Rd w S size A 0 [] := ⟨by simp, fun h => absurd h (by simp)⟩
theorem Rd.get {w : World} {S : Nat -> Prop} {n k : Nat} {A : Option Addr} {xs : List Value} (h : Rd w S 1 A n xs) (hk : k < n) : ∃ b off u, A = some ⟨b, off, none⟩ /\ S b /\ xs[k]? = some u /\ w.cell? ⟨b, off + k, none⟩ = some u := by
 have hl : k < xs.length := by have := h.len; omega
 obtain ⟨b, off, e, hb, hc⟩ := h.cells (by omega)
 exact ⟨b, off, xs[k], e, hb, List.getElem?_eq_getElem hl, hc k _ (List.getElem?_eq_getElem hl)⟩
theorem Rd.at_ {w : World} {S : Nat -> Prop} {size n k : Nat} {A : Option Addr} {xs : List Value} (h : Rd w S size A n xs) (hk : k < n) (hs : 0 < size) : ∃ b off, A = some ⟨b, off, none⟩ /\ S b /\ ∀ f, f < size -> ∃ u, xs[k * size + f]? = some u /\ w.cell? ⟨b, off + (k * size + f), none⟩ = some u := by
 have hm : (k + 1) * size <= n * size := Nat.mul_le_mul_right _ hk
 rw [Nat.add_mul, Nat.one_mul] at hm
 have hl := h.len
 obtain ⟨b, off, e, hb, hc⟩ := h.cells (by omega)
 refine ⟨b, off, e, hb, fun f hf => ?_⟩
 have hlt : k * size + f < xs.length := by omega
 exact ⟨xs[k * size + f], List.getElem?_eq_getElem hlt, hc _ _ (List.getElem?_eq_getElem hlt)⟩
theorem Z9 {w : World} {e : TypeId} {size : Nat} {v : Value} {n : Nat} {xs : List Value} (h : w.ownsRow 0 e size v n xs) :
  ∃ A c, v = .slice A n c /\ n <= c /\ c <= maxLen /\ Rd w (fun k => v.ownBlock = some k) size A n xs := by
 rcases h.2 with ⟨rfl, rfl⟩ | ⟨g, cap, cur, rfl, hg, hh, r1, r2, _⟩
 ·have hx : xs = [] := List.eq_nil_of_length_eq_zero (by simpa using h.1)
  subst hx
  exact ⟨none, 0, rfl, Nat.le_refl _, Nat.zero_le _, Rd.nil _ _ _ _⟩
 ·exact ⟨_, cap, rfl, r1, r2, h.1, fun _ => ⟨g, 0, rfl, rfl, fun j u hu => by rw [<- Zq]; exact h.cells rfl j u hu⟩⟩
theorem Zce {P : Program} (w : World) (t ty e : TypeId) (i : TypeInfo) (size : Nat) (ht : P.underlying t = some (.slice e)) (hi : P.info? e = some i)
  (v : Value) (n : Nat) (xs : List Value) (hown : w.ownsRow 0 e size v n xs) (c : Nat) : (Builtin.append_ #[t, t] ty #[v, .slice none 0 c]).run P w = .ok v w := by
 rcases hown.2 with ⟨rfl, rfl⟩ | ⟨g, cap, cur, rfl, _, _, hnc, _⟩
 ·simp [Builtin.append_, run_underlying ht, sizeOf, typeInfo, hi, Builtin.lenOf, Builtin.firstCells]
 ·simp [Builtin.append_, run_underlying ht, sizeOf, typeInfo, hi, Builtin.lenOf, Builtin.firstCells, hnc, storeCells]
structure ZW (w w' : World) (e : TypeId) (size : Nat) (v v' : Value) (n : Nat) (xs : List Value) : Prop where
 own : w'.ownsRow 0 e size v' n xs
 only : Z0 (fun k => v.ownBlock = some k) w w'
 loc : v'.ownBlock = v.ownBlock ∨ v'.ownBlock = some w.heap.size
theorem Zi4 {P : Program} (w : World) {t e : TypeId} {size bytes : Nat} (E : Z05 P t e size bytes) (ty : TypeId)
  {v : Value} {n : Nat} {xs : List Value} (hown : w.ownsRow 0 e size v n xs)
  {S : Nat -> Prop} {A : Option Addr} {m c : Nat} {news : List Value} (hr : Rd w S size A m news) (h1 : ∀ u ∈ news, u.oneCell' = true)
  (h63 : n + m <= maxLen) (hbytes : (n + m) * bytes <= 140737488355328) :
  ∃ v' w', (Builtin.append_ #[t, t] ty #[v, .slice A m c]).run P w = .ok v' w' /\ ZW w w' e size v v' (n + m) (xs ++ news) := by
 obtain ⟨i, z, ht, hi, h0, h1', h2, hz, hsz⟩ := E
 by_cases hne : 0 < news.length
 ·obtain ⟨b, off, rfl, _, hc⟩ := hr.cells hne
  obtain ⟨v', w', hrun, h2, h3, _, h5⟩ := run_append_own_at (P := P) w 0 t ty e i z size bytes ht hi h0 h1' h2 hz hsz v n xs hown ⟨b, off, none⟩ m c news hr.len (fun j u hu => by rw [Zq]; exact hc j u hu) h1 h63 hbytes (Nat.zero_le _)
  exact ⟨v', w', hrun, h2, (Z0.refl _ _).grown h3 (fun k e _ => e), h5⟩
 ·have hn : news = [] := List.eq_nil_of_length_eq_zero (by omega)
  subst hn
  have hm : m = 0 := by
   have := hr.len
   simp only [List.length_nil] at this
   rcases Nat.mul_eq_zero.1 this.symm with x | x
   ·exact x
   ·omega
  subst hm
  rcases A with _ | ad
  ·exact ⟨v, w, Zce w t ty e i size ht hi v n xs hown c, by simpa using hown, Z0.refl _ _, .inl rfl⟩
  ·obtain ⟨v', w', hrun, h2, h3, _, h5⟩ := run_append_own_at (P := P) w 0 t ty e i z size bytes ht hi h0 h1' h2 hz hsz v n xs hown ad 0 c [] (by simp) (fun j u hu => by simp at hu) h1 h63 hbytes (Nat.zero_le _)
   exact ⟨v', w', hrun, h2, (Z0.refl _ _).grown h3 (fun k e _ => e), h5⟩
theorem ZeW {P : Program} {w : World} {t e : TypeId} {size bytes : Nat} (E : Z05 P t e size bytes) {o : Oper} {a : Act} {K : Act -> World -> Prop} {Q : Exit -> Act -> World -> Prop} (s x : Operand)
  (ho : o.op = .call { callee := .builtin .append, args := #[s, x], argTypes := #[t, t] })
  {v : Value} {n : Nat} {xs : List Value} (hs : a.eval s = v) (hown : w.ownsRow 0 e size v n xs)
  {S : Nat -> Prop} {A : Option Addr} {m c : Nat} {news : List Value} (hx : a.eval x = .slice A m c) (hr : Rd w S size A m news) (h1 : ∀ u ∈ news, u.oneCell' = true)
  (h63 : n + m <= maxLen) (hbytes : (n + m) * bytes <= 140737488355328)
  (h : ∀ v' w', ZW w w' e size v v' (n + m) (xs ++ news) -> K (a.put o.dst v') w') : o.wp P a w K Q := by
 obtain ⟨v', w', hrun, h2⟩ := Zi4 (P := P) w E o.type hown hr (c := c) h1 h63 hbytes
 unfold Oper.wp execOp
 simp only [ho, resolve, invoke, builtin, Sem.run_bind, Sem.run_pure, Result.andThen_ok, List.map_toArray, List.map_cons, List.map_nil, hs, hx, hrun]
 exact h v' w' h2
theorem app {P : Program} {w : World} {t e : TypeId} {size bytes : Nat} (E : Z05 P t e size bytes) {ops : Array Oper} {rest : List Oper} {o : Oper} {a : Act} {Q : Exit -> Act -> World -> Prop} (hgd : o.guard = none) (s x : Operand)
  (ho : o.op = .call { callee := .builtin .append, args := #[s, x], argTypes := #[t, t] })
  {v : Value} {n : Nat} {xs : List Value} (hs : a.eval s = v) (hown : w.ownsRow 0 e size v n xs)
  {S : Nat -> Prop} {A : Option Addr} {m c : Nat} {news : List Value} (hx : a.eval x = .slice A m c) (hr : Rd w S size A m news) (h1 : ∀ u ∈ news, u.oneCell' = true)
  (h63 : n + m <= maxLen) (hbytes : (n + m) * bytes <= 140737488355328)
  (h : ∀ v' w', ZW w w' e size v v' (n + m) (xs ++ news) -> wpList P ops Q rest (a.put o.dst v') w') : wpList P ops Q (o :: rest) a w :=
 wpList_plain hgd fun _ hK => ZeW E s x ho hs hown hx hr h1 h63 hbytes fun v' w' h2 => hK _ _ (h v' w' h2)
theorem Z1T {P : Program} {w : World} {t e : TypeId} {size bytes : Nat} (E : Z05 P t e size bytes) {ops : Array Oper} {o : Oper} {a : Act} {K : Act -> World -> Prop} {Q : Exit -> Act -> World -> Prop} {F : Prop} (hgd : o.guard = none) (s x : Operand)
  (ho : o.op = .call { callee := .builtin .append, args := #[s, x], argTypes := #[t, t] })
  {v : Value} {n : Nat} {xs : List Value} (hs : a.eval s = v) (hown : w.ownsRow 0 e size v n xs)
  {S : Nat -> Prop} {A : Option Addr} {m c : Nat} {news : List Value} (hx : a.eval x = .slice A m c) (hr : Rd w S size A m news) (h1 : ∀ u ∈ news, u.oneCell' = true)
  (h63 : n + m <= maxLen) (hbytes : (n + m) * bytes <= 140737488355328)
  (h : ∀ v' w', ZW w w' e size v v' (n + m) (xs ++ news) -> K (a.put o.dst v') w') :
  if Region.wanted o (yielded ops a.tmps) = true then Oper.wp P o a w K Q else F := by
 have hw : Region.wanted o (yielded ops a.tmps) = true := by simp [Region.wanted, hgd]
 rw [if_pos hw]
 exact ZeW E s x ho hs hown hx hr h1 h63 hbytes h
theorem Rd.new (w : World) (size m : Nat) (xs : List Value) (e : TypeId) (S : Nat -> Prop) (hl : xs.length = m * size) (hS : S w.heap.size) : Rd (w.alloc (.cells xs.toArray e)) S size (some ⟨w.heap.size, 0, none⟩) m xs := by
 refine ⟨hl, fun _ => ⟨w.heap.size, 0, rfl, hS, fun j u hu => ?_⟩⟩
 rw [Z1 (Z5 w _)]
 simpa using hu
theorem Z4b (w : World) (e : TypeId) (size : Nat) : (w.alloc (.cells #[] e)).ownsRow 0 e size (.slice (some ⟨w.heap.size, 0, none⟩) 0 0) 0 [] :=
 World.ownsRow_made w #[] 0 (Nat.zero_le _) (Nat.zero_le _) (by simp)
theorem Z4 {S : Nat -> Prop} {w w' : World} {base : Nat} {e : TypeId} {size : Nat} {v : Value} {n : Nat} {xs : List Value} (h : w.ownsRow base e size v n xs) (ho : Z0 S w w')
  (hn : ∀ k, v.ownBlock = some k -> ¬ S k) : w'.ownsRow base e size v n xs := by
 obtain ⟨h1, h2⟩ := h
 refine ⟨h1, ?_⟩
 rcases h2 with h2 | ⟨g, cap, cur, hv, hg, hh, r⟩
 ·exact Or.inl h2
 ·exact Or.inr ⟨g, cap, cur, hv, hg, ho.get hh (hn g (by rw [hv]; rfl)), r⟩
theorem ZJ {w : World} {base : Nat} {e : TypeId} {size : Nat} {v : Value} {n : Nat} {xs : List Value} (h : w.ownsRow base e size v n xs) :
  (v = .slice none 0 0 /\ n = 0) ∨ ∃ g cap, v = .slice (some ⟨g, 0, none⟩) n cap /\ n <= cap /\ cap <= maxLen := by
 rcases h.2 with ⟨a, b⟩ | ⟨g, cap, cur, hv, hg, hh, r1, r2, _⟩
 ·exact Or.inl ⟨a, b⟩
 ·exact Or.inr ⟨g, cap, hv, r1, r2⟩
theorem Z4c {P : Program} {f : FuncId} {args : Array Value} {w : World} {n : Nat} {v : Value}
  (h : Calls P f args (w.drewN n) fun e w' => e = .returned v /\ w.drewN n = w') : Calls P f args (w.drewN n) fun e w'' => e = .returned v /\ ∃ m, w'' = w.drewN m :=
 h.mono fun _ _ ⟨he, hm⟩ => ⟨he, n, hm.symm⟩
def upd {α : Type} (f : Nat -> α) (i : Nat) (v : α) : Nat -> α := fun j => if j = i then v else f j
theorem Z1F {α : Type} (f : Nat -> α) (i : Nat) (v : α) : upd f i v i = v := by simp [upd]
theorem ZS {α : Type} (f : Nat -> α) {i j : Nat} (v : α) (h : j ≠ i) : upd f i v j = f j := by simp [upd, h]
end Go.Lap
namespace Go.Lap
theorem ZeX {α : Type} {p : α -> Bool} {xs : Array α} : xs.any p = true ↔ ∃ x ∈ xs, p x = true := by
 rw [Array.any_eq_true]
 constructor
 ·rintro ⟨i, hi, h⟩
  exact ⟨xs[i], Array.getElem_mem hi, h⟩
 ·rintro ⟨x, hx, h⟩
  obtain ⟨i, hi, rfl⟩ := Array.mem_iff_getElem.1 hx
  exact ⟨i, hi, h⟩
theorem ZiM {α : Type} {p : α -> Bool} {xs : Array α} : xs.all p = true ↔ ∀ x ∈ xs, p x = true := by
 rw [Array.all_eq_true]
 constructor
 ·intro h x hx
  obtain ⟨i, hi, rfl⟩ := Array.mem_iff_getElem.1 hx
  exact h i hi
 ·exact fun h i hi => h _ (Array.getElem_mem hi)
section
variable {P : Program} {Q : Exit -> Act -> World -> Prop}
def Z6P (P : Program) (ops : Array Oper) (Q : Exit -> Act -> World -> Prop) : Exit -> Act -> World -> Prop
 | .normal, a, w => wpOp P ops Q (ops.size - 1) (fun a' w' => Q .normal a' w') a w
 | .exit i, a, w => Q (.exit i) a w
 | .goto l, a, w => Q (.goto l) a w
 | .ret, a, w => Q .ret a w
 | .panic c, a, w => Q (.panic c) a w
 | .outgrown, a, w => Q .outgrown a w
def Z2q (ops : Array Oper) : Bool :=
 (List.range ops.size).all (fun j => (ops[j]?).any fun o => o.after.all (fun e => decide (e.on < j)) && (match o.guard with | none => true | some (g, _) => decide (g < j))) &&
 (List.range (ops.size - 1)).all (fun i => (ops[ops.size - 1]?).any fun o => o.after.any fun e => Region.binds .any e && (e.on == i || (ops[e.on]?).any fun o' => o'.after.any fun e' => Region.binds .any e' && e'.on == i))
theorem Z20 {ops : Array Oper} (h : Z2q ops = true) {j : Nat} {o : Oper} (ho : ops[j]? = some o) : (∀ e ∈ o.after, e.on < j) /\ ∀ g b, o.guard = some (g, b) -> g < j := by
 unfold Z2q at h
 rw [Bool.and_eq_true] at h
 have h1 := h.1
 rw [List.all_eq_true] at h1
 have hj : j < ops.size := (Array.getElem?_eq_some_iff.1 ho).1
 have h2 := h1 j (List.mem_range.2 hj)
 rw [ho] at h2
 simp only [Option.any_some, Bool.and_eq_true] at h2
 refine ⟨fun e he => ?_, fun g b hg => ?_⟩
 ·have := h2.1
  rw [ZiM] at this
  exact of_decide_eq_true (this e he)
 ·have := h2.2
  rw [hg] at this
  exact of_decide_eq_true this
theorem ZaS {ops : Array Oper} (h : Z2q ops = true) {i : Nat} (hi : i < ops.size - 1) {o : Oper} (ho : ops[ops.size - 1]? = some o) :
  ∃ e ∈ o.after, Region.binds .any e = true /\ (e.on = i ∨ ∃ o', ops[e.on]? = some o' /\ ∃ e' ∈ o'.after, Region.binds .any e' = true /\ e'.on = i) := by
 unfold Z2q at h
 rw [Bool.and_eq_true] at h
 have h1 := h.2
 rw [List.all_eq_true] at h1
 have h2 := h1 i (List.mem_range.2 hi)
 rw [ho] at h2
 simp only [Option.any_some] at h2
 rw [ZeX] at h2
 obtain ⟨e, he, h3⟩ := h2
 rw [Bool.and_eq_true, Bool.or_eq_true] at h3
 refine ⟨e, he, h3.1, ?_⟩
 rcases h3.2 with h4 | h4
 ·exact Or.inl (by simpa using h4)
 ·cases hq : ops[e.on]? with
  | none => rw [hq] at h4; simp at h4
  | some o' =>
   rw [hq] at h4
   simp only [Option.any_some] at h4
   rw [ZeX] at h4
   obtain ⟨e', he', h5⟩ := h4
   rw [Bool.and_eq_true] at h5
   exact Or.inr ⟨o', rfl, e', he', h5.1, by simpa using h5.2⟩
theorem Z5i {ops : Array Oper} {i : Nat} (h : i < ops.size - 1) : ops.pop[i]? = ops[i]? := by
 rw [Array.getElem?_pop, if_pos h]
theorem Z2r {listed : Array Bool} {i : Nat} (b d : Bool) (h : i < listed.size) : (listed.push b).getD i d = listed.getD i d := by
 simp [Array.getElem?_push, h, Nat.ne_of_lt h]
theorem Z8Z {listed : Array Bool} (b d : Bool) : (listed.push b).getD listed.size d = b := by
 simp
theorem Z5x {listed : Array Bool} {i : Nat} (d d' : Bool) (h : i < listed.size) : listed.getD i d = listed.getD i d' := by
 simp [h]
theorem Zgy {listed : Array Bool} {i : Nat} (b : Bool) (h : i < listed.size) : (listed.push b).setIfInBounds i true = (listed.setIfInBounds i true).push b := by
 apply Array.ext
 ·simp
 ·intro j h1 h2
  simp only [Array.size_setIfInBounds, Array.size_push] at h1
  rw [Array.getElem_setIfInBounds (by simpa using h1), Array.getElem_push, Array.getElem_push]
  by_cases hj : j < listed.size
  ·simp only [Array.size_setIfInBounds, hj, dite_true]
   rw [Array.getElem_setIfInBounds hj]
  ·simp only [Array.size_setIfInBounds, hj, dite_false]
   rw [if_neg (by omega)]
def Z5R (ops : Array Oper) (listed : Array Bool) : Prop := ∀ (j : Nat) (o : Oper), ops[j]? = some o -> listed.getD j false = true -> ∀ e ∈ o.after, Region.binds .any e = true -> listed.getD e.on false = true
theorem Z5R.start (ops : Array Oper) (n : Nat) : Z5R ops (Array.replicate n false) := by
 intro j o _ h
 by_cases hj : j < n
 ·simp [hj] at h
 ·simp [hj] at h
theorem Z5U {listed : Array Bool} {i j : Nat} (h : listed.getD j false = true) : (listed.setIfInBounds i true).getD j false = true := by
 by_cases e : i = j
 ·subst e
  have hl : i < listed.size := by
   rcases Nat.lt_or_ge i listed.size with x | x
   ·exact x
   ·simp [Array.getElem?_eq_none x] at h
  simp [hl]
 ·rw [getD_set_ne false e]; exact h
theorem Z5R.set {ops : Array Oper} {listed : Array Bool} {i : Nat} (h : Z5R ops listed) (hr : ∀ o, ops[i]? = some o -> ∀ e ∈ o.after, Region.binds .any e = true -> listed.getD e.on false = true) : Z5R ops (listed.setIfInBounds i true) := by
 intro j o ho hl e he hb
 by_cases hij : i = j
 ·subst hij
  exact Z5U (hr o ho e he hb)
 ·rw [getD_set_ne false hij] at hl
  exact Z5U (h j o ho hl e he hb)
variable {ops : Array Oper}
theorem Z60 {listed : Array Bool} (hok : Z2q ops = true) (hs : listed.size = ops.size - 1) {i : Nat} (hi : i < ops.size - 1) : i ∈ Region.ready .any ops (listed.push false) ↔ i ∈ Region.ready .any ops.pop listed := by
 rw [mem_ready, mem_ready, Z2r _ _ (by omega), Z5i hi]
 constructor
 ·rintro ⟨h1, o, ho, h2⟩
  refine ⟨h1, o, ho, fun e he hb => ?_⟩
  have := (Z20 hok ho).1 e he
  have h3 := h2 e he hb
  rw [Z2r _ _ (by omega)] at h3
  exact h3
 ·rintro ⟨h1, o, ho, h2⟩
  refine ⟨h1, o, ho, fun e he hb => ?_⟩
  have := (Z20 hok ho).1 e he
  rw [Z2r _ _ (by omega)]
  exact h2 e he hb
theorem Z3q {listed : Array Bool} {i : Nat} (h : i ∈ Region.ready .any ops listed) : i < ops.size := by
 obtain ⟨_, o, ho, _⟩ := mem_ready.1 h
 exact (Array.getElem?_eq_some_iff.1 ho).1
theorem Z7Y {listed : Array Bool} (hok : Z2q ops = true) (hs : listed.size = ops.size - 1) (hr : Region.ready .any ops.pop listed = []) : ∀ (k i : Nat), i < k -> i < ops.size - 1 -> listed.getD i false = true := by
 intro k
 induction k with
 | zero => intro i h; omega
 | succ k ih =>
  intro i _ hi
  cases hl : listed.getD i false with
  | true => rfl
  | false =>
   have hlt : i < ops.size := by omega
   have : i ∈ Region.ready .any ops.pop listed := by
    rw [mem_ready, Z5i hi]
    refine ⟨by rw [Z5x true false (by omega)]; exact hl, ops[i], Array.getElem?_eq_getElem hlt, fun e he _ => ?_⟩
    have := (Z20 hok (Array.getElem?_eq_getElem hlt)).1 e he
    exact ih e.on (by omega) (by omega)
   rw [hr] at this
   cases this
theorem Z7Z {listed : Array Bool} (hok : Z2q ops = true) (h0 : 0 < ops.size) (hs : listed.size = ops.size - 1) (hall : ∀ i, i < ops.size - 1 -> listed.getD i false = true) : ops.size - 1 ∈ Region.ready .any ops (listed.push false) := by
 rw [mem_ready]
 have hlt : ops.size - 1 < ops.size := by omega
 refine ⟨by rw [<- hs]; exact Z8Z _ _, ops[ops.size - 1], Array.getElem?_eq_getElem hlt, fun e he _ => ?_⟩
 have := (Z20 hok (Array.getElem?_eq_getElem hlt)).1 e he
 rw [Z2r _ _ (by omega)]
 exact hall e.on this
theorem Zdq (hok : Z2q ops = true) {i : Nat} {o : Oper} (hi : i < ops.size - 1) (ho : ops[i]? = some o) (tmps : Array Value) : Region.wanted o (yielded ops.pop tmps) = Region.wanted o (yielded ops tmps) := by
 unfold Region.wanted
 cases hg : o.guard with
 | none => rfl
 | some gb =>
  obtain ⟨g, b⟩ := gb
  have := (Z20 hok ho).2 g b hg
  simp only [yielded]
  rw [Z5i (by omega)]
theorem Zgz (hok : Z2q ops = true) {i : Nat} (hi : i < ops.size - 1) {K : Act -> World -> Prop} {a : Act} {w : World} (h : wpOp P ops.pop (Z6P P ops Q) i K a w) : wpOp P ops Q i K a w := by
 have hlt : i < ops.size := by omega
 have ho : ops[i]? = some ops[i] := Array.getElem?_eq_getElem hlt
 unfold wpOp at *
 rw [Z5i hi] at h
 simp only [ho] at h ⊢
 rw [Zdq hok hi ho] at h
 by_cases hw : Region.wanted ops[i] (yielded ops a.tmps) = true
 ·rw [if_pos hw] at h ⊢
  rcases h with h | ⟨h, hl⟩
  ·refine Or.inl ?_
   unfold Oper.wp at *
   generalize (execOp a.eval ops[i]).run P w = r at *
   cases r with
   | ok n w' =>
    cases n <;> simp only [Oper.upon] at h ⊢ <;>
     first
      | exact h
      | exact Calls.mono h (fun e w'' he => by cases e <;> exact he)
   | halt x w' => cases x <;> simp only [Oper.upon] at h ⊢ <;> exact h
  ·exact Or.inr ⟨h, hl⟩
 ·rw [if_neg hw] at h ⊢
  exact h
theorem Zdr (hok : Z2q ops = true) (h0 : 0 < ops.size) : ∀ (fuel : Nat) (listed : Array Bool) (a : Act) (w : World), listed.size = ops.size - 1 -> Z5R ops listed -> wpAny P .any ops.pop (Z6P P ops Q) fuel listed a w -> wpAny P .any ops Q (fuel + 1) (listed.push false) a w := by
 intro fuel
 induction fuel with
 | zero =>
  intro listed a w hs hc H
  have hall := fun i hi => Z7Y hok hs H.1 (i + 1) i (Nat.lt_succ_self i) hi
  refine ⟨fun hr => ?_, fun i hi => ?_⟩
  ·have := Z7Z hok h0 hs hall
   rw [hr] at this
   cases this
  ·have hlt := Z3q hi
   by_cases hn : i < ops.size - 1
   ·have := (Z60 hok hs hn).1 hi
    rw [H.1] at this
    cases this
   ·obtain rfl : i = ops.size - 1 := by omega
    refine wpOp_mono (fun a' w' hq => ?_) H.2
    exact ⟨(by
      rw [List.eq_nil_iff_forall_not_mem]
      intro j hj
      have h1 := Z3q hj
      have h2 := (mem_ready.1 hj).1
      by_cases hjn : j = ops.size - 1
      · subst hjn
        rw [<- hs] at h2
        simp at h2
      · rw [getD_set_ne true (by omega), Z2r _ _ (by omega), Z5x true false (by omega), hall j (by omega)] at h2
        cases h2), hq⟩
 | succ f ih =>
  intro listed a w hs hc H
  refine ⟨fun hr => ?_, fun i hi => ?_⟩
  ·have hr' : Region.ready .any ops.pop listed = [] := by
    rw [List.eq_nil_iff_forall_not_mem]
    intro j hj
    have h1 := Z3q hj
    rw [Array.size_pop] at h1
    have := (Z60 hok hs h1).2 hj
    rw [hr] at this
    cases this
   have hall := fun i hi => Z7Y hok hs hr' (i + 1) i (Nat.lt_succ_self i) hi
   have := Z7Z hok h0 hs hall
   rw [hr] at this
   cases this
  ·have hlt := Z3q hi
   by_cases hn : i < ops.size - 1
   ·have hi' := (Z60 hok hs hn).1 hi
    refine wpOp_mono (fun a' w' hq => ?_) (Zgz hok hn (H.2 i hi'))
    rw [Zgy _ (by omega)]
    refine ih _ a' w' (by simpa using hs) (hc.set (fun o ho e he hb => ?_)) hq
    obtain ⟨_, o', ho', h2⟩ := mem_ready.1 hi'
    rw [Z5i hn, ho] at ho'
    injection ho' with ho'
    subst ho'
    exact h2 e he hb
   ·obtain rfl : i = ops.size - 1 := by omega
    obtain ⟨_, o, ho, h2⟩ := mem_ready.1 hi
    have hall : ∀ j, j < ops.size - 1 -> listed.getD j false = true := by
     intro j hj
     obtain ⟨e, he, hb, h3⟩ := ZaS hok hj ho
     have h4 := h2 e he hb
     have h5 := (Z20 hok ho).1 e he
     rw [Z2r _ _ (by omega)] at h4
     rcases h3 with rfl | ⟨o', ho', e', he', hb', rfl⟩
     ·exact h4
     ·exact hc e.on o' ho' h4 e' he' hb'
    have hr' : Region.ready .any ops.pop listed = [] := by
     rw [List.eq_nil_iff_forall_not_mem]
     intro j hj
     have h1 := Z3q hj
     rw [Array.size_pop] at h1
     have h2 := (mem_ready.1 hj).1
     rw [Z5x true false (by omega), hall j h1] at h2
     cases h2
    refine wpOp_mono (fun a' w' hq => ?_) (H.1 hr')
    refine ⟨fun _ => hq, fun j hj => ?_⟩
    have h1 := Z3q hj
    have h2 := (mem_ready.1 hj).1
    by_cases hjn : j = ops.size - 1
    ·subst hjn
     rw [<- hs] at h2
     simp at h2
    ·rw [getD_set_ne true (by omega), Z2r _ _ (by omega), Z5x true false (by omega), hall j (by omega)] at h2
     cases h2
theorem Z0V {S : World -> Prop} {id : Nat} {a : Act} {w : World} (hm : P.follows .mixedOrders = true) (hok : Z2q ops = true) (h0 : 0 < ops.size) (hS : S w.drew)
  (h : S w.drew -> wpAnyH P .any ops.pop (Z6P P ops Q) S (ops.size - 1) (Array.replicate (ops.size - 1) false) a w.drew) : (Code.region id ops true).wp P Q a w := by
 refine wp_region_any hm ?_
 have h1 := Zdr hok h0 (ops.size - 1) (Array.replicate (ops.size - 1) false) a w.drew (by simp) (Z5R.start _ _) (wpAny_of_held _ _ _ _ (h hS))
 have e : (Array.replicate (ops.size - 1) false).push false = Array.replicate ops.size false := by
  rw [<- Array.replicate_succ]
  congr 1
  omega
 rw [e, show ops.size - 1 + 1 = ops.size by omega] at h1
 exact h1
theorem Z80 {c : List PanicEntry} {a a' : Act} {w : World} (hq : Q (.panic c) a' w -> Q (.panic c) a w) (h : Z6P P ops Q (.panic c) a' w) : Z6P P ops Q (.panic c) a w := hq h
theorem Z29 {o : Oper} {a : Act} {w : World} (ho : ops[ops.size - 1]? = some o)
  (h : ∀ K' : Act -> World -> Prop, Shut (∀ a w, Q .normal a w -> K' a w) -> if Region.wanted o (yielded ops a.tmps) = true then Oper.wp P o a w K' Q else K' (a.put o.dst undef) w) : Z6P P ops Q .normal a w := by
 have h1 := h (fun a' w' => Q .normal a' w') (fun _ _ x => x)
 show wpOp P ops Q (ops.size - 1) (fun a' w' => Q .normal a' w') a w
 unfold wpOp
 simp only [ho]
 by_cases hw : Region.wanted o (yielded ops a.tmps) = true
 ·rw [if_pos hw] at h1 ⊢; exact Or.inl h1
 ·rw [if_neg hw] at h1 ⊢; exact h1
end
end Go.Lap
namespace Go
open Go.Lap
theorem zGA {α : Type _} (l : List α) (i : Nat) : l.toArray[i]? = l[i]? := List.getElem?_toArray
theorem zGZ {α : Type _} (a : α) (l : List α) : (a :: l)[0]? = some a := rfl
theorem zGS {α : Type _} (a : α) (i : Nat) (l : List α) : (a :: l)[i + 1]? = l[i]? := rfl
theorem zPA {α : Type _} (l : List α) (i : Nat) (a : α) : l.toArray.setIfInBounds i a = (l.set i a).toArray := List.setIfInBounds_toArray l i a
theorem zPZ {α : Type _} (x a : α) (l : List α) : (x :: l).set 0 a = a :: l := rfl
theorem zPS {α : Type _} (x a : α) (l : List α) (i : Nat) : (x :: l).set (i + 1) a = x :: l.set i a := rfl
/-- One operation more, that only reads. -/
theorem zT {P : Program} {ops : Array Oper} {Q : Exit → Act → World → Prop} {md : Region.Mode} {S : World → Prop} (i : Nat) {oi : Oper} {v : Value} {fuel : Nat} {listed l' : Array Bool} {a a' : Act} {w : World} (h : wpAnyH P md ops Q S fuel l' a' w)
    (hi : ops[i]? = some oi := by simp only [zGA, zGZ, zGS] <;> rfl)
    (hg : Region.wanted oi (yielded ops a.tmps) = true := by rfl)
    (hv : ∀ w, S w → (execOp a.eval oi).run P w = .ok (.value v) w := by intro w hSw; (try dsimp only at hSw); go_simp; (try with_reducible rfl); done)
    (hQ : ∀ c a w, Q (.panic c) (a.put oi.dst v) w → Q (.panic c) a w := by first | exact fun _ _ _ h => h | exact fun _ _ _ => Z80 (fun h => h))
    (ha : a.put oi.dst v = a' := by (try simp only [Act.put, zPA, zPZ, zPS]); first | done | exact rfl)
    (hl : listed.setIfInBounds i true = l' := by (try simp only [zPA, zPZ, zPS]); first | done | exact rfl)
    (hs : Region.noSelect ops = true := by kernel_rfl) (hf : Region.free md ops listed i = true := by decide +kernel) (hr : (Region.ready md ops listed).contains i = true := by decide +kernel) (hS : S w := by first | assumption | exact trivial) : wpAnyH P md ops Q S (fuel + 1) listed a w :=
  wpAnyH_take hi hs hf hr hQ (Or.inl ⟨hg, hv⟩) hS (by rw [ha, hl]; exact h)
/-- One that is not wanted. -/
theorem zO {P : Program} {ops : Array Oper} {Q : Exit → Act → World → Prop} {md : Region.Mode} {S : World → Prop} (i : Nat) {oi : Oper} {fuel : Nat} {listed l' : Array Bool} {a a' : Act} {w : World} (h : wpAnyH P md ops Q S fuel l' a' w)
    (hi : ops[i]? = some oi := by simp only [zGA, zGZ, zGS] <;> rfl)
    (hg : Region.wanted oi (yielded ops a.tmps) = false := by rfl)
    (hQ : ∀ c a w, Q (.panic c) (a.put oi.dst undef) w → Q (.panic c) a w := by first | exact fun _ _ _ h => h | exact fun _ _ _ => Z80 (fun h => h))
    (ha : a.put oi.dst undef = a' := by (try simp only [Act.put, zPA, zPZ, zPS]); first | done | exact rfl)
    (hl : listed.setIfInBounds i true = l' := by (try simp only [zPA, zPZ, zPS]); first | done | exact rfl)
    (hs : Region.noSelect ops = true := by kernel_rfl) (hf : Region.free md ops listed i = true := by decide +kernel) (hr : (Region.ready md ops listed).contains i = true := by decide +kernel) (hS : S w := by first | assumption | exact trivial) : wpAnyH P md ops Q S (fuel + 1) listed a w :=
  wpAnyH_take hi hs hf hr hQ (Or.inr ⟨hg, rfl⟩) hS (by rw [ha, hl]; exact h)
/-- The one that is ready. -/
theorem zR {P : Program} {ops : Array Oper} {Q : Exit → Act → World → Prop} {md : Region.Mode} {S : World → Prop} (i : Nat) {o : Oper} {fuel : Nat} {listed : Array Bool} {a : Act} {w : World}
    (h : ∀ K' : Act → World → Prop, Shut (∀ a w, S w → (S w → wpAnyH P md ops Q S fuel (listed.setIfInBounds i true) a w) → K' a w) → if Region.wanted o (yielded ops a.tmps) = true then Oper.wp P o a w K' Q else K' (a.put o.dst undef) w)
    (hi : ops[i]? = some o := by simp only [zGA, zGZ, zGS] <;> rfl) (hr : Region.ready md ops listed = [i] := by kernel_rfl) : wpAnyH P md ops Q S (fuel + 1) listed a w :=
  wpAnyH_ready hr (by simp) (AllReadyH.cons hi h AllReadyH.nil)
/-- A region's beginning. -/
theorem zH {P : Program} {ops : Array Oper} {Q : Exit → Act → World → Prop} {S R : World → Prop} {id n : Nat} {a : Act} {w : World} (hS : RowKit.Hid (∀ W, R W → S W)) (hr : R w.drew)
    (h : S w.drew → wpAnyH P .any ops Q S n (Array.replicate n false) a w.drew) (hn : ops.size = n := by (try simp only [List.size_toArray, List.length_cons, List.length_nil, Nat.reduceAdd]); first | done | rfl) (hm : P.follows .mixedOrders = true := by kernel_rfl) : (Code.region id ops true).wp P Q a w := by
  subst hn
  exact wp_region_held_drew hm (hS.out _ hr) h
/-- All is done. -/
theorem zD {P : Program} {ops : Array Oper} {Q : Exit → Act → World → Prop} {md : Region.Mode} {S : World → Prop} {listed : Array Bool} {a : Act} {w : World} {fuel : Nat} (h : Q .normal a w) (hr : Region.ready md ops listed = [] := by kernel_rfl) : wpAnyH P md ops Q S fuel listed a w := wpAnyH_done hr h fuel
theorem zh {p : Prop} (h : p) : RowKit.Hid p := Lib.hid h
theorem zg {α : Type _} {l : List α} {i : Nat} (h : i < l.length) : l[i]? = some l[i] := List.getElem?_eq_getElem h
theorem zi {α : Type _} {l : List α} {i : Nat} {a : α} : l[i]? = some a ↔ ∃ h : i < l.length, l[i] = a := List.getElem?_eq_some_iff
theorem zC2 {w : World} {b : Nat} {l : List Value} {t : TypeId} {fr : Nat × Nat} {a0 a1 : Value} (h : w.heap[b]? = some (.cells (a0 :: a1 :: l).toArray t fr)) : w.cell? ⟨b, 0, none⟩ = some a0 ∧ w.cell? ⟨b, 1, none⟩ = some a1 := ⟨(Z1 h 0).trans rfl, (Z1 h 1).trans rfl⟩
theorem zC3 {w : World} {b : Nat} {l : List Value} {t : TypeId} {fr : Nat × Nat} {a0 a1 a2 : Value} (h : w.heap[b]? = some (.cells (a0 :: a1 :: a2 :: l).toArray t fr)) : w.cell? ⟨b, 0, none⟩ = some a0 ∧ w.cell? ⟨b, 1, none⟩ = some a1 ∧ w.cell? ⟨b, 2, none⟩ = some a2 := ⟨(Z1 h 0).trans rfl, (Z1 h 1).trans rfl, (Z1 h 2).trans rfl⟩
theorem zC4 {w : World} {b : Nat} {l : List Value} {t : TypeId} {fr : Nat × Nat} {a0 a1 a2 a3 : Value} (h : w.heap[b]? = some (.cells (a0 :: a1 :: a2 :: a3 :: l).toArray t fr)) : w.cell? ⟨b, 0, none⟩ = some a0 ∧ w.cell? ⟨b, 1, none⟩ = some a1 ∧ w.cell? ⟨b, 2, none⟩ = some a2 ∧ w.cell? ⟨b, 3, none⟩ = some a3 := ⟨(Z1 h 0).trans rfl, (Z1 h 1).trans rfl, (Z1 h 2).trans rfl, (Z1 h 3).trans rfl⟩
theorem zC5 {w : World} {b : Nat} {l : List Value} {t : TypeId} {fr : Nat × Nat} {a0 a1 a2 a3 a4 : Value} (h : w.heap[b]? = some (.cells (a0 :: a1 :: a2 :: a3 :: a4 :: l).toArray t fr)) : w.cell? ⟨b, 0, none⟩ = some a0 ∧ w.cell? ⟨b, 1, none⟩ = some a1 ∧ w.cell? ⟨b, 2, none⟩ = some a2 ∧ w.cell? ⟨b, 3, none⟩ = some a3 ∧ w.cell? ⟨b, 4, none⟩ = some a4 := ⟨(Z1 h 0).trans rfl, (Z1 h 1).trans rfl, (Z1 h 2).trans rfl, (Z1 h 3).trans rfl, (Z1 h 4).trans rfl⟩
theorem zC6 {w : World} {b : Nat} {l : List Value} {t : TypeId} {fr : Nat × Nat} {a0 a1 a2 a3 a4 a5 : Value} (h : w.heap[b]? = some (.cells (a0 :: a1 :: a2 :: a3 :: a4 :: a5 :: l).toArray t fr)) : w.cell? ⟨b, 0, none⟩ = some a0 ∧ w.cell? ⟨b, 1, none⟩ = some a1 ∧ w.cell? ⟨b, 2, none⟩ = some a2 ∧ w.cell? ⟨b, 3, none⟩ = some a3 ∧ w.cell? ⟨b, 4, none⟩ = some a4 ∧ w.cell? ⟨b, 5, none⟩ = some a5 := ⟨(Z1 h 0).trans rfl, (Z1 h 1).trans rfl, (Z1 h 2).trans rfl, (Z1 h 3).trans rfl, (Z1 h 4).trans rfl, (Z1 h 5).trans rfl⟩
theorem zC7 {w : World} {b : Nat} {l : List Value} {t : TypeId} {fr : Nat × Nat} {a0 a1 a2 a3 a4 a5 a6 : Value} (h : w.heap[b]? = some (.cells (a0 :: a1 :: a2 :: a3 :: a4 :: a5 :: a6 :: l).toArray t fr)) : w.cell? ⟨b, 0, none⟩ = some a0 ∧ w.cell? ⟨b, 1, none⟩ = some a1 ∧ w.cell? ⟨b, 2, none⟩ = some a2 ∧ w.cell? ⟨b, 3, none⟩ = some a3 ∧ w.cell? ⟨b, 4, none⟩ = some a4 ∧ w.cell? ⟨b, 5, none⟩ = some a5 ∧ w.cell? ⟨b, 6, none⟩ = some a6 := ⟨(Z1 h 0).trans rfl, (Z1 h 1).trans rfl, (Z1 h 2).trans rfl, (Z1 h 3).trans rfl, (Z1 h 4).trans rfl, (Z1 h 5).trans rfl, (Z1 h 6).trans rfl⟩
theorem zA {P : Program} {ops : Array Oper} {Q : Exit → Act → World → Prop} {md : Region.Mode} {S : World → Prop} {fuel : Nat} {listed : Array Bool} {a : Act} {w : World} {i : Nat} {o : Oper} {rs : List Nat}
    (h : ∀ K' : Act → World → Prop, Shut (∀ a w, S w → (S w → wpAnyH P md ops Q S fuel (listed.setIfInBounds i true) a w) → K' a w) → if Region.wanted o (yielded ops a.tmps) = true then Oper.wp P o a w K' Q else K' (a.put o.dst undef) w)
    (hs : AllReadyH P md ops Q S fuel listed a w rs) (ho : ops[i]? = some o := by simp only [zGA, zGZ, zGS] <;> rfl) : AllReadyH P md ops Q S fuel listed a w (i :: rs) := AllReadyH.cons ho h hs
end Go
namespace Go.Lap
section
open Go.RowKit
abbrev Quiet (w w' : World) : Prop := Z0 (fun _ => False) w w'
def Zg (l : List Nat) : List Value := l.map (fun x : Nat => Value.int .u8 x)
theorem Z31 (l : List Nat) : ∀ u ∈ Zg l, u.oneCell' = true := by
 intro u hu
 obtain ⟨n, _, rfl⟩ := List.mem_map.1 hu
 rfl
theorem Za {w : World} {a b : Nat} {c1 c2 : Array Value} {t1 t2 : TypeId} {f1 f2 : Nat × Nat} (h1 : w.heap[a]? = some (.cells c1 t1 f1)) (h2 : w.heap[b]? = some (.cells c2 t2 f2)) (h : t1 ≠ t2) : a ≠ b := by
 intro e
 subst e
 rw [h1] at h2
 injection h2 with h2
 injection h2 with _ h3 _
 exact h h3
theorem Z1U {α : Type} {M : List α} {s : α} {k : Nat} {x : α} (h : (M ++ [s])[k]? = some x) : (k < M.length /\ M[k]? = some x) ∨ (k = M.length /\ x = s) := by
 rw [List.getElem?_append] at h
 split at h
 ·exact Or.inl ⟨by assumption, h⟩
 ·rcases hk : k - M.length with _ | n
  ·rw [hk] at h
   simp at h
   exact Or.inr ⟨by omega, h.symm⟩
  ·rw [hk] at h
   simp at h
theorem Zj {w : World} {e : TypeId} {size : Nat} {v : Value} {n : Nat} {xs : List Value} (h : w.ownsRow 0 e size v n xs) {k : Nat} (hk : v.ownBlock = some k) : ∃ c, w.heap[k]? = some (.cells c e (0, 0)) := by
 rcases h.2 with ⟨rfl, _⟩ | ⟨g, cap, cur, rfl, _, hh, _⟩
 ·cases hk
 ·obtain rfl : g = k := by injection hk
  exact ⟨_, hh⟩
abbrev ptrV (p : Nat) : Value := .pointer (some ⟨p, 0, none⟩)
theorem Z32 (ps : List Nat) : ∀ u ∈ ps.map ptrV, u.oneCell' = true := by
 intro u hu
 obtain ⟨n, _, rfl⟩ := List.mem_map.1 hu
 rfl
theorem Z2H {x : Int} (h : -9223372036854775808 <= x /\ x < 9223372036854775808) : IntKind.i64.wrap x = x := by
 rw [IntKind.wrap_i64]
 omega
end
def Zu (g : Nat -> Nat) : Nat -> Nat -> Nat
 | _, 0 => 0
 | off, n + 1 => g off + 256 * Zu g (off + 1) n
theorem Z7v {g : Nat -> Nat} (hg : ∀ i, g i < 256) : ∀ n off, Zu g off n < 256 ^ n
 | 0, _ => by simp [Zu]
 | n + 1, off => by
  have := Z7v hg n (off + 1)
  have := hg off
  rw [Zu, Nat.pow_succ]
  omega
theorem ZD {g g' : Nat -> Nat} : ∀ n off, (∀ i, off <= i -> i < off + n -> g i = g' i) -> Zu g off n = Zu g' off n
 | 0, _, _ => rfl
 | n + 1, off, h => by
  rw [Zu, Zu, h off (Nat.le_refl _) (by omega), ZD n (off + 1) (fun i h1 h2 => h i (by omega) (by omega))]
def ZF (g : Nat -> Nat) (off n x : Nat) : Nat -> Nat := fun j => if off <= j /\ j < off + n then x / 256 ^ (j - off) % 256 else g j
theorem Z0l {g : Nat -> Nat} (hg : ∀ i, g i < 256) (off n x : Nat) : ∀ i, ZF g off n x i < 256 := by
 intro i
 unfold ZF
 split
 ·exact Nat.mod_lt _ (by omega)
 ·exact hg i
theorem Zs {g : Nat -> Nat} {off n x j : Nat} (h : j < off ∨ off + n <= j) : ZF g off n x j = g j := by
 unfold ZF
 rw [if_neg (by omega)]
theorem Z81 (f : Nat -> Nat) : ∀ n off x, (∀ i, i < n -> f (off + i) = x / 256 ^ i % 256) -> x < 256 ^ n -> Zu f off n = x
 | 0, _, x, _, h => by simp at h; simp [Zu, h]
 | n + 1, off, x, h, hx => by
  rw [Nat.pow_succ] at hx
  rw [Zu, Z81 f n (off + 1) (x / 256) (fun i hi => ?_) (by omega)]
  ·have := h 0 (by omega)
   simp at this
   omega
  ·have := h (i + 1) (by omega)
   rw [show off + 1 + i = off + (i + 1) by omega, this, Nat.pow_succ, Nat.mul_comm (256 ^ i) 256, <- Nat.div_div_eq_div_mul]
theorem ZV {g : Nat -> Nat} {off n x : Nat} (hx : x < 256 ^ n) : Zu (ZF g off n x) off n = x := by
 refine Z81 _ n off x (fun i hi => ?_) hx
 unfold ZF
 rw [if_pos (by omega), Nat.add_sub_cancel_left]
theorem Zr {g : Nat -> Nat} {off n x off' n' : Nat} (h : off' + n' <= off ∨ off + n <= off') : Zu (ZF g off n x) off' n' = Zu g off' n' :=
 ZD _ _ (fun i h1 h2 => Zs (by omega))
def Z0n (g : Nat -> Nat) (off n : Nat) (f : Nat -> Nat) : Nat -> Nat := fun j => if off <= j /\ j < off + n then f (j - off) else g j
theorem Z2e {g f : Nat -> Nat} {off n j : Nat} (h : j < off ∨ off + n <= j) : Z0n g off n f j = g j := by
 unfold Z0n
 rw [if_neg (by omega)]
theorem Z90 {g f : Nat -> Nat} {off n j : Nat} (h : j < n) : Z0n g off n f (off + j) = f j := by
 unfold Z0n
 rw [if_pos (by omega), Nat.add_sub_cancel_left]
theorem Z3r {g f : Nat -> Nat} (hg : ∀ i, g i < 256) (off n : Nat) (hf : ∀ i, i < n -> f i < 256) : ∀ i, Z0n g off n f i < 256 := by
 intro i
 unfold Z0n
 split
 ·exact hf _ (by omega)
 ·exact hg i
theorem Z2x {g f : Nat -> Nat} {off n off' n' : Nat} (h : off' + n' <= off ∨ off + n <= off') : Zu (Z0n g off n f) off' n' = Zu g off' n' :=
 ZD _ _ (fun i h1 h2 => Z2e (by omega))
structure Tup where
 row : Nat
 xmin : Nat
 xmax : Nat
 pg : Int
 sl : Int
 data : List Nat
def Z0R (pg sl : Int) : Bool := if pg = -1 ∨ sl = -1 then decide (pg ≠ sl) else decide (pg < 0 ∨ 65536 <= pg ∨ sl < 0 ∨ 65535 <= sl)
def Tup.rightB (t : Tup) : Bool := decide (t.row <= 1099511627776 /\ t.xmin <= 1099511627776 /\ t.xmax <= 1099511627776 /\ Z0R t.pg t.sl = false /\ t.data.length <= 200)
structure Tup.Ok (t : Tup) : Prop where
 right : t.rightB = true
 bytes : ∀ x ∈ t.data, x < 256
def Tup.size (t : Tup) : Nat := 30 + t.data.length
def Tup.hdr (t : Tup) : Nat -> Nat := ZF (ZF (ZF (ZF (ZF (fun _ => 0) 0 8 t.row) 8 8 t.xmin) 16 8 t.xmax) 24 4 (t.pg + 1).toNat) 28 2 (t.sl + 1).toNat
def Tup.ver (t : Tup) (j : Nat) : Nat := if j < 30 then t.hdr j else t.data.getD (j - 30) 0
theorem Tup.ver_lt {t : Tup} (h : ∀ x ∈ t.data, x < 256) : ∀ j, t.ver j < 256 := by
 intro j
 unfold Tup.ver
 split
 ·exact Z0l (Z0l (Z0l (Z0l (Z0l (fun _ => by omega) _ _ _) _ _ _) _ _ _) _ _ _) _ _ _ _
 ·rw [List.getD_eq_getElem?_getD]
  rcases hx : t.data[j - 30]? with _ | x
  ·simp
  ·exact h x (List.mem_of_getElem? hx)
theorem Tup.far_bounds {pg sl : Int} (h : Z0R pg sl = false) : -1 <= pg /\ pg <= 65535 /\ -1 <= sl /\ sl <= 65534 := by
 unfold Z0R at h
 split at h
 ·have := of_decide_eq_false h
  omega
 ·have := of_decide_eq_false h
  omega
theorem Tup.Ok.bounds {t : Tup} (h : t.Ok) : t.row <= 1099511627776 /\ t.xmin <= 1099511627776 /\ t.xmax <= 1099511627776 /\ -1 <= t.pg /\ t.pg <= 65535 /\ -1 <= t.sl /\ t.sl <= 65534 /\ t.data.length <= 200 := by
 obtain ⟨h1, h2, h3, h4, h5⟩ := of_decide_eq_true h.right
 have := Tup.far_bounds h4
 omega
theorem Tup.read {t : Tup} (h : t.Ok) {g : Nat -> Nat} {f : Nat} (hg : ∀ j, j < t.size -> g (f + j) = t.ver j) :
  Zu g f 8 = t.row /\ Zu g (f + 8) 8 = t.xmin /\ Zu g (f + 16) 8 = t.xmax /\ Zu g (f + 24) 4 = (t.pg + 1).toNat /\ Zu g (f + 28) 2 = (t.sl + 1).toNat := by
 have hb := h.bounds
 have hs : 30 <= t.size := by unfold Tup.size; omega
 have key : ∀ o n, o + n <= 30 -> Zu g (f + o) n = Zu t.hdr o n := by
  intro o n hon
  have e : ∀ n o, o + n <= 30 -> Zu g (f + o) n = Zu t.hdr o n := by
   intro n
   induction n with
   | zero => intro o _; rfl
   | succ n ih =>
    intro o ho
    have h1 := hg o (by omega)
    rw [Tup.ver, if_pos (by omega)] at h1
    rw [Zu, Zu, h1, show f + o + 1 = f + (o + 1) by omega, ih (o + 1) (by omega)]
  exact e n o hon
 have k0 := key 0 8 (by omega)
 rw [Nat.add_zero] at k0
 refine ⟨?_, ?_, ?_, ?_, ?_⟩
 ·rw [k0, Tup.hdr, Zr (by omega), Zr (by omega), Zr (by omega), Zr (by omega), ZV (by omega)]
 ·rw [key 8 8 (by omega), Tup.hdr, Zr (by omega), Zr (by omega), Zr (by omega), ZV (by omega)]
 ·rw [key 16 8 (by omega), Tup.hdr, Zr (by omega), Zr (by omega), ZV (by omega)]
 ·rw [key 24 4 (by omega), Tup.hdr, Zr (by omega), ZV (by omega)]
 ·rw [key 28 2 (by omega), Tup.hdr, ZV (by omega)]
abbrev Slot := Option (Nat × Tup)
def Slot.from_ : Slot -> Nat
 | none => 0
 | some (f, _) => f
def Slot.size : Slot -> Nat
 | none => 0
 | some (_, t) => t.size
theorem Tup.size_pos (t : Tup) : 30 <= t.size := by unfold Tup.size; omega
structure Pg (g : Nat -> Nat) (L : List Slot) (start : Nat) : Prop where
 lt : ∀ i, g i < 256
 cnt : Zu g 0 2 = L.length
 st : Zu g 2 2 = start
 fit : 4 + 4 * L.length <= start
 le : start <= 512
 ptr : ∀ i s, L[i]? = some s -> Zu g (4 + 4 * i) 2 = Slot.from_ s /\ Zu g (6 + 4 * i) 2 = Slot.size s
 ver : ∀ (i f : Nat) (t : Tup), L[i]? = some (some (f, t)) -> start <= f /\ f + t.size <= 512 /\ t.Ok /\ ∀ j, j < t.size -> g (f + j) = t.ver j
 sep : ∀ (i j f : Nat) (t : Tup) (f' : Nat) (t' : Tup), i ≠ j -> L[i]? = some (some (f, t)) -> L[j]? = some (some (f', t')) -> f + t.size <= f' ∨ f' + t'.size <= f
 zero : ∀ x, 4 + 4 * L.length <= x -> x < 512 -> (∀ (i f : Nat) (t : Tup), L[i]? = some (some (f, t)) -> x < f ∨ f + t.size <= x) -> g x = 0
theorem Pg.new : Pg (ZF (ZF (fun _ => 0) 0 2 0) 2 2 512) [] 512 := by
 refine ⟨Z0l (Z0l (fun _ => by omega) _ _ _) _ _ _, ?_, ZV (by omega), by simp, Nat.le_refl _, by simp, by simp, by simp, fun x h1 h2 _ => ?_⟩
 ·rw [Zr (by omega), ZV (by omega)]; rfl
 ·simp at h1
  rw [Zs (by omega), Zs (by omega)]
def Z5y (g : Nat -> Nat) (slot count from_ : Nat) (t : Tup) : Nat -> Nat :=
 ZF (ZF (Z0n (ZF (ZF g 0 2 count) 2 2 from_) from_ t.size t.ver) (4 + 4 * slot) 2 from_) (6 + 4 * slot) 2 t.size
def Z41 (L : List Slot) (slot : Nat) (s : Slot) : List Slot := if slot = L.length then L ++ [s] else L.set slot s
theorem Zcf (L : List Slot) (slot : Nat) (s : Slot) (h : slot <= L.length) : (Z41 L slot s).length = max L.length (slot + 1) := by
 unfold Z41
 split
 ·simp; omega
 ·simp; omega
theorem ZgA (L : List Slot) (slot : Nat) (s : Slot) (h : slot <= L.length) (i : Nat) : (Z41 L slot s)[i]? = if i = slot then some s else L[i]? := by
 unfold Z41
 split
 ·rename_i e
  subst e
  by_cases hi : i = L.length
  ·subst hi; simp
  ·rw [if_neg hi, List.getElem?_append]
   split
   ·rfl
   ·rw [List.getElem?_eq_none (by simp; omega), List.getElem?_eq_none (by omega)]
 ·rw [List.getElem?_set]
  by_cases hi : i = slot
  ·subst hi; simp [show i < L.length by omega]
  ·simp [hi, show ¬ slot = i by omega]
theorem Pg.insert {g : Nat -> Nat} {L : List Slot} {start slot : Nat} {t : Tup} (h : Pg g L start) (hs : slot <= L.length) (hfree : ∀ s, L[slot]? = some s -> s = none) (ht : t.Ok)
  (hroom : 4 + 4 * max L.length (slot + 1) + t.size <= start) :
  Pg (Z5y g slot (max L.length (slot + 1)) (start - t.size) t) (Z41 L slot (some (start - t.size, t))) (start - t.size) := by
 have hlen := Zcf L slot (some (start - t.size, t)) hs
 have hget := ZgA L slot (some (start - t.size, t)) hs
 have hb := ht.bounds
 have hts : t.size = 30 + t.data.length := rfl
 have hle := h.le
 have hfit := h.fit
 generalize hf : start - t.size = fr at *
 generalize hc : max L.length (slot + 1) = c at *
 have lt1 : ∀ i, Z5y g slot c fr t i < 256 := Z0l (Z0l (Z3r (Z0l (Z0l h.lt _ _ _) _ _ _) _ _ (fun i _ => Tup.ver_lt ht.bytes i)) _ _ _) _ _ _
 have out : ∀ x, 4 <= x -> (x < 4 + 4 * slot ∨ 8 + 4 * slot <= x) -> (x < fr ∨ fr + t.size <= x) -> Z5y g slot c fr t x = g x := by
  intro x h1 h2 h3
  unfold Z5y
  rw [Zs (by omega), Zs (by omega), Z2e h3, Zs (by omega), Zs (by omega)]
 refine ⟨lt1, ?_, ?_, by omega, by omega, ?_, ?_, ?_, ?_⟩
 ·unfold Z5y
  rw [Zr (by omega), Zr (by omega), Z2x (by omega), Zr (by omega), ZV (by omega), hlen]
 ·unfold Z5y
  rw [Zr (by omega), Zr (by omega), Z2x (by omega), ZV (by omega)]
 ·intro i s hi
  rw [hget] at hi
  by_cases e : i = slot
  ·subst e
   rw [if_pos rfl] at hi
   injection hi with hi
   subst hi
   unfold Z5y
   constructor
   ·rw [Zr (by omega), ZV (by omega)]; rfl
   ·rw [ZV (by omega)]; rfl
  ·rw [if_neg e] at hi
   have hil : i < L.length := (zi.1 hi).1
   have := h.ptr i s hi
   constructor
   ·rw [ZD (g' := g) _ _ (fun x h1 h2 => out x (by omega) (by omega) (by omega))]; exact this.1
   ·rw [ZD (g' := g) _ _ (fun x h1 h2 => out x (by omega) (by omega) (by omega))]; exact this.2
 ·intro i f t' hi
  rw [hget] at hi
  by_cases e : i = slot
  ·subst e
   rw [if_pos rfl] at hi
   injection hi with hi
   injection hi with hi
   injection hi with h1 h2
   subst h1 h2
   refine ⟨Nat.le_refl _, by omega, ht, fun j hj => ?_⟩
   unfold Z5y
   rw [Zs (by omega), Zs (by omega), Z90 hj]
  ·rw [if_neg e] at hi
   obtain ⟨a, b, c', d⟩ := h.ver i f t' hi
   refine ⟨by omega, b, c', fun j hj => ?_⟩
   rw [out _ (by omega) (by omega) (by omega)]
   exact d j hj
 ·intro i j f t1 f' t2 hij hi hj
  rw [hget] at hi hj
  by_cases e : i = slot
  ·by_cases e' : j = slot
   ·omega
   ·rw [if_pos e] at hi
    rw [if_neg e'] at hj
    injection hi with hi
    injection hi with hi
    injection hi with h1 h2
    subst h1 h2
    have := (h.ver j f' t2 hj).1
    omega
  ·rw [if_neg e] at hi
   by_cases e' : j = slot
   ·rw [if_pos e'] at hj
    injection hj with hj
    injection hj with hj
    injection hj with h1 h2
    subst h1 h2
    have := (h.ver i f t1 hi).1
    omega
   ·rw [if_neg e'] at hj
    exact h.sep i j f t1 f' t2 hij hi hj
 ·intro x h1 h2 h3
  rw [hlen] at h1
  have h4 := h3 slot fr t (by rw [hget, if_pos rfl])
  rw [out x (by omega) (by omega) h4]
  refine h.zero x (by omega) h2 (fun i f t' hi => h3 i f t' ?_)
  rw [hget, if_neg (fun e => ?_)]
  ·exact hi
  ·subst e
   cases hfree _ hi
def Tup.stamp (t : Tup) (xmax : Nat) (pg sl : Int) : Tup := { t with xmax := xmax, pg := pg, sl := sl }
theorem Slot.stamp_same (f : Nat) (t : Tup) (xmax : Nat) (pg sl : Int) : Slot.from_ (some (f, t.stamp xmax pg sl)) = Slot.from_ (some (f, t)) /\ Slot.size (some (f, t.stamp xmax pg sl)) = Slot.size (some (f, t)) := ⟨rfl, rfl⟩
theorem Tup.stamp_size (t : Tup) (xmax : Nat) (pg sl : Int) : (t.stamp xmax pg sl).size = t.size := rfl
theorem Tup.stamp_ok {t : Tup} (h : t.Ok) {xmax : Nat} {pg sl : Int} (hx : xmax <= 1099511627776) (hf : Z0R pg sl = false) : (t.stamp xmax pg sl).Ok := by
 obtain ⟨h1, h2, h3, h4, h5⟩ := of_decide_eq_true h.right
 exact ⟨decide_eq_true ⟨h1, h2, hx, hf, h5⟩, h.bytes⟩
def Z4s (g : Nat -> Nat) (f xmax : Nat) (pg sl : Int) : Nat -> Nat := ZF (ZF (ZF g (f + 16) 8 xmax) (f + 24) 4 (pg + 1).toNat) (f + 28) 2 (sl + 1).toNat
theorem Z2f {g : Nat -> Nat} {f xmax : Nat} {pg sl : Int} {x : Nat} (h : x < f + 16 ∨ f + 30 <= x) : Z4s g f xmax pg sl x = g x := by
 unfold Z4s
 rw [Zs (by omega), Zs (by omega), Zs (by omega)]
theorem ZeZ {g : Nat -> Nat} {f xmax : Nat} {pg sl : Int} {t : Tup} (hg : ∀ j, j < t.size -> g (f + j) = t.ver j) (j : Nat) (hj : j < t.size) : Z4s g f xmax pg sl (f + j) = (t.stamp xmax pg sl).ver j := by
 have h0 := hg j hj
 by_cases h1 : j < 16 ∨ 30 <= j
 ·rw [Z2f (by omega), h0]
  unfold Tup.ver
  rcases h1 with h1 | h1
  ·rw [if_pos (by omega), if_pos (by omega)]
   unfold Tup.hdr Tup.stamp
   dsimp only
   rw [Zs (g := ZF _ 24 4 (t.pg + 1).toNat) (by omega), Zs (g := ZF _ 16 8 t.xmax) (by omega), Zs (off := 16) (x := t.xmax) (by omega), Zs (x := (sl + 1).toNat) (by omega), Zs (x := (pg + 1).toNat) (by omega), Zs (x := xmax) (by omega)]
  ·rw [if_neg (by omega), if_neg (by omega)]; rfl
 ·rw [Tup.ver, if_pos (by omega)]
  unfold Z4s Tup.hdr Tup.stamp
  dsimp only
  by_cases h2 : 28 <= j
  ·unfold ZF
   rw [if_pos (by omega), if_pos (by omega), show f + j - (f + 28) = j - 28 by omega]
  ·rw [Zs (by omega), Zs (g := ZF _ 24 4 _) (by omega)]
   by_cases h3 : 24 <= j
   ·unfold ZF
    rw [if_pos (by omega), if_pos (by omega), show f + j - (f + 24) = j - 24 by omega]
   ·rw [Zs (by omega), Zs (g := ZF _ 16 8 _) (by omega)]
    unfold ZF
    rw [if_pos (by omega), if_pos (by omega), show f + j - (f + 16) = j - 16 by omega]
theorem Zd0 (L : List Slot) (i : Nat) (s : Slot) (hi : i < L.length) (k : Nat) : (L.set i s)[k]? = if k = i then some s else L[k]? := by
 rw [List.getElem?_set]
 by_cases hk : k = i
 ·subst hk; simp [hi]
 ·simp [hk, show ¬ i = k by omega]
theorem Pg.stamp {g : Nat -> Nat} {L : List Slot} {start i f : Nat} {t : Tup} (h : Pg g L start) (hi : L[i]? = some (some (f, t))) {xmax : Nat} {pg sl : Int} (hx : xmax <= 1099511627776) (hf : Z0R pg sl = false) :
  Pg (Z4s g f xmax pg sl) (L.set i (some (f, t.stamp xmax pg sl))) start := by
 have hil : i < L.length := (zi.1 hi).1
 have hget := Zd0 L i (some (f, t.stamp xmax pg sl)) hil
 obtain ⟨v1, v2, v3, v4⟩ := h.ver i f t hi
 have hfit := h.fit
 have hsz := Tup.size_pos t
 refine ⟨Z0l (Z0l (Z0l h.lt _ _ _) _ _ _) _ _ _, ?_, ?_, by rw [List.length_set]; exact hfit, h.le, ?_, ?_, ?_, ?_⟩
 ·rw [ZD (g' := g) _ _ (fun x h1 h2 => Z2f (by omega)), h.cnt, List.length_set]
 ·rw [ZD (g' := g) _ _ (fun x h1 h2 => Z2f (by omega)), h.st]
 ·intro k s hk
  have hkl : k < L.length := by simpa using (zi.1 hk).1
  rw [hget] at hk
  have hp : Zu (Z4s g f xmax pg sl) (4 + 4 * k) 2 = Zu g (4 + 4 * k) 2 /\ Zu (Z4s g f xmax pg sl) (6 + 4 * k) 2 = Zu g (6 + 4 * k) 2 :=
   ⟨ZD _ _ (fun x h1 h2 => Z2f (by omega)), ZD _ _ (fun x h1 h2 => Z2f (by omega))⟩
  rw [hp.1, hp.2]
  by_cases e : k = i
  ·subst e
   rw [if_pos rfl] at hk
   injection hk with hk
   subst hk
   have := h.ptr k _ hi
   rw [(Slot.stamp_same f t xmax pg sl).1, (Slot.stamp_same f t xmax pg sl).2]
   exact this
  ·rw [if_neg e] at hk
   exact h.ptr k s hk
 ·intro k f' t' hk
  rw [hget] at hk
  by_cases e : k = i
  ·subst e
   rw [if_pos rfl] at hk
   injection hk with hk
   injection hk with hk
   injection hk with h1 h2
   subst h1 h2
   exact ⟨v1, v2, Tup.stamp_ok v3 hx hf, fun j hj => ZeZ v4 j hj⟩
  ·rw [if_neg e] at hk
   obtain ⟨u1, u2, u3, u4⟩ := h.ver k f' t' hk
   refine ⟨u1, u2, u3, fun j hj => ?_⟩
   have := h.sep k i f' t' f t e hk hi
   rw [Z2f (by omega)]
   exact u4 j hj
 ·intro a b fa ta fb tb hab ha hb
  rw [hget] at ha hb
  by_cases e : a = i
  ·by_cases e' : b = i
   ·omega
   ·rw [if_pos e] at ha
    rw [if_neg e'] at hb
    injection ha with ha
    injection ha with ha
    injection ha with h1 h2
    subst h1 h2
    exact h.sep i b f t fb tb (by omega) hi hb
  ·rw [if_neg e] at ha
   by_cases e' : b = i
   ·rw [if_pos e'] at hb
    injection hb with hb
    injection hb with hb
    injection hb with h1 h2
    subst h1 h2
    exact h.sep a i fa ta f t (by omega) ha hi
   ·rw [if_neg e'] at hb
    exact h.sep a b fa ta fb tb hab ha hb
 ·intro x h1 h2 h3
  rw [List.length_set] at h1
  have h4 := h3 i f (t.stamp xmax pg sl) (by rw [hget, if_pos rfl])
  rw [Tup.stamp_size] at h4
  rw [Z2f (by omega)]
  refine h.zero x h1 h2 (fun k f' t' hk => ?_)
  by_cases e : k = i
  ·subst e
   rw [hi] at hk
   injection hk with hk
   injection hk with hk
   injection hk with e1 e2
   subst e1 e2
   exact h4
  ·exact h3 k f' t' (by rw [hget, if_neg e]; exact hk)
def Z6Q (g : Nat -> Nat) (i f size : Nat) : Nat -> Nat := ZF (ZF (Z0n g f size (fun _ => 0)) (4 + 4 * i) 2 0) (6 + 4 * i) 2 0
theorem Pg.free {g : Nat -> Nat} {L : List Slot} {start i f : Nat} {t : Tup} (h : Pg g L start) (hi : L[i]? = some (some (f, t))) : Pg (Z6Q g i f t.size) (L.set i none) start := by
 have hil : i < L.length := (zi.1 hi).1
 have hget := Zd0 L i none hil
 obtain ⟨v1, v2, v3, v4⟩ := h.ver i f t hi
 have hfit := h.fit
 have hle := h.le
 have out : ∀ x, (x < 4 + 4 * i ∨ 8 + 4 * i <= x) -> (x < f ∨ f + t.size <= x) -> Z6Q g i f t.size x = g x := by
  intro x h1 h2
  unfold Z6Q
  rw [Zs (by omega), Zs (by omega), Z2e h2]
 refine ⟨Z0l (Z0l (Z3r h.lt _ _ (fun _ _ => by omega)) _ _ _) _ _ _, ?_, ?_, by rw [List.length_set]; exact hfit, h.le, ?_, ?_, ?_, ?_⟩
 ·rw [ZD (g' := g) _ _ (fun x h1 h2 => out x (by omega) (by omega)), h.cnt, List.length_set]
 ·rw [ZD (g' := g) _ _ (fun x h1 h2 => out x (by omega) (by omega)), h.st]
 ·intro k s hk
  have hkl : k < L.length := by simpa using (zi.1 hk).1
  rw [hget] at hk
  by_cases e : k = i
  ·subst e
   rw [if_pos rfl] at hk
   injection hk with hk
   subst hk
   unfold Z6Q
   exact ⟨by rw [Zr (by omega), ZV (by omega)]; rfl, by rw [ZV (by omega)]; rfl⟩
  ·rw [if_neg e] at hk
   have := h.ptr k s hk
   exact ⟨by rw [ZD (g' := g) _ _ (fun x h1 h2 => out x (by omega) (by omega))]; exact this.1, by rw [ZD (g' := g) _ _ (fun x h1 h2 => out x (by omega) (by omega))]; exact this.2⟩
 ·intro k f' t' hk
  rw [hget] at hk
  by_cases e : k = i
  ·rw [if_pos e] at hk; cases hk
  ·rw [if_neg e] at hk
   obtain ⟨u1, u2, u3, u4⟩ := h.ver k f' t' hk
   refine ⟨u1, u2, u3, fun j hj => ?_⟩
   have := h.sep k i f' t' f t e hk hi
   rw [out _ (by omega) (by omega)]
   exact u4 j hj
 ·intro a b fa ta fb tb hab ha hb
  rw [hget] at ha hb
  by_cases e : a = i
  ·rw [if_pos e] at ha; cases ha
  ·by_cases e' : b = i
   ·rw [if_pos e'] at hb; cases hb
   ·rw [if_neg e] at ha
    rw [if_neg e'] at hb
    exact h.sep a b fa ta fb tb hab ha hb
 ·intro x h1 h2 h3
  rw [List.length_set] at h1
  by_cases hx : x < f ∨ f + t.size <= x
  ·rw [out x (by omega) hx]
   refine h.zero x h1 h2 (fun k f' t' hk => ?_)
   by_cases e : k = i
   ·subst e
    rw [hi] at hk
    injection hk with hk
    injection hk with hk
    injection hk with e1 e2
    subst e1 e2
    exact hx
   ·exact h3 k f' t' (by rw [hget, if_neg e]; exact hk)
  ·unfold Z6Q
   rw [Zs (by omega), Zs (by omega)]
   unfold Z0n
   rw [if_pos (by omega)]
def Z5z (g : Nat -> Nat) (m n start : Nat) : Nat -> Nat := ZF (ZF (Z0n g (4 + 4 * m) (4 * (n - m)) (fun _ => 0)) 0 2 m) 2 2 start
theorem Pg.trim {g : Nat -> Nat} {L : List Slot} {start m : Nat} (h : Pg g L start) (hm : m <= L.length) (hn : ∀ k s, m <= k -> L[k]? = some s -> s = none) : Pg (Z5z g m L.length start) (L.take m) start := by
 have hfit := h.fit
 have hle := h.le
 have hlen : (L.take m).length = m := by simp; omega
 have hget : ∀ k, (L.take m)[k]? = if k < m then L[k]? else none := by
  intro k
  rw [List.getElem?_take]
 have out : ∀ x, 4 <= x -> (x < 4 + 4 * m ∨ 4 + 4 * L.length <= x) -> Z5z g m L.length start x = g x := by
  intro x h0 h1
  unfold Z5z
  rw [Zs (by omega), Zs (by omega), Z2e (by omega)]
 refine ⟨Z0l (Z0l (Z3r h.lt _ _ (fun _ _ => by omega)) _ _ _) _ _ _, ?_, ?_, by rw [hlen]; omega, h.le, ?_, ?_, ?_, ?_⟩
 ·unfold Z5z
  rw [Zr (by omega), ZV (by omega), hlen]
 ·unfold Z5z
  rw [ZV (by omega)]
 ·intro k s hk
  rw [hget] at hk
  by_cases e : k < m
  ·rw [if_pos e] at hk
   have := h.ptr k s hk
   exact ⟨by rw [ZD (g' := g) _ _ (fun x h1 h2 => out x (by omega) (by omega))]; exact this.1, by rw [ZD (g' := g) _ _ (fun x h1 h2 => out x (by omega) (by omega))]; exact this.2⟩
  ·rw [if_neg e] at hk; cases hk
 ·intro k f t hk
  rw [hget] at hk
  by_cases e : k < m
  ·rw [if_pos e] at hk
   obtain ⟨u1, u2, u3, u4⟩ := h.ver k f t hk
   refine ⟨u1, u2, u3, fun j hj => ?_⟩
   rw [out _ (by omega) (by omega)]
   exact u4 j hj
  ·rw [if_neg e] at hk; cases hk
 ·intro a b fa ta fb tb hab ha hb
  rw [hget] at ha hb
  by_cases e : a < m
  ·by_cases e' : b < m
   ·rw [if_pos e] at ha
    rw [if_pos e'] at hb
    exact h.sep a b fa ta fb tb hab ha hb
   ·rw [if_neg e'] at hb; cases hb
  ·rw [if_neg e] at ha; cases ha
 ·intro x h1 h2 h3
  rw [hlen] at h1
  by_cases hx : 4 + 4 * L.length <= x
  ·rw [out x (by omega) (by omega)]
   refine h.zero x hx h2 (fun k f t hk => ?_)
   by_cases e : k < m
   ·exact h3 k f t (by rw [hget, if_pos e]; exact hk)
   ·have := hn k _ (by omega) hk
    cases this
  ·unfold Z5z
   rw [Zs (by omega), Zs (by omega)]
   unfold Z0n
   rw [if_pos (by omega)]
def Z6R (p : List Slot × Nat) (s : Slot) : List Slot × Nat :=
 match s with
 | none => (p.1 ++ [none], p.2)
 | some (_, t) => (p.1 ++ [some (p.2 - t.size, t)], p.2 - t.size)
def Z03 (L : List Slot) : List Slot × Nat := L.foldl Z6R ([], 512)
def Z2S (L : List Slot) : Nat := (L.map Slot.size).sum
theorem Z2g (L : List Slot) (s : Slot) : Z03 (L ++ [s]) = Z6R (Z03 L) s := by simp [Z03, List.foldl_append]
theorem Z9s (L : List Slot) (s : Slot) : Z2S (L ++ [s]) = Z2S L + Slot.size s := by simp [Z2S]
structure Mv (g g0 : Nat -> Nat) (n i : Nat) (M : List Slot) (at_ : Nat) : Prop where
 lt : ∀ x, g x < 256
 len : M.length = i
 same : ∀ x, x < 4 ∨ (4 + 4 * i <= x /\ x < 4 + 4 * n) -> g x = g0 x
 lo : 4 + 4 * n <= at_
 hi : at_ <= 512
 ptr : ∀ k s, M[k]? = some s -> Zu g (4 + 4 * k) 2 = Slot.from_ s /\ Zu g (6 + 4 * k) 2 = Slot.size s
 ver : ∀ (k f : Nat) (t : Tup), M[k]? = some (some (f, t)) -> at_ <= f /\ f + t.size <= 512 /\ t.Ok /\ ∀ j, j < t.size -> g (f + j) = t.ver j
 sep : ∀ (k j f : Nat) (t : Tup) (f' : Nat) (t' : Tup), k ≠ j -> M[k]? = some (some (f, t)) -> M[j]? = some (some (f', t')) -> f + t.size <= f' ∨ f' + t'.size <= f
 zero : ∀ x, 4 + 4 * n <= x -> x < 512 -> (∀ (k f : Nat) (t : Tup), M[k]? = some (some (f, t)) -> x < f ∨ f + t.size <= x) -> g x = 0
theorem Mv.start {g : Nat -> Nat} {n : Nat} (hg : ∀ x, g x < 256) (hn : 4 + 4 * n <= 512) : Mv (Z0n g (4 + 4 * n) (512 - (4 + 4 * n)) (fun _ => 0)) g n 0 [] 512 := by
 refine ⟨Z3r hg _ _ (fun _ _ => by omega), rfl, fun x hx => Z2e (by omega), hn, Nat.le_refl _, by simp, by simp, by simp, fun x h1 h2 _ => ?_⟩
 unfold Z0n
 rw [if_pos (by omega)]
theorem Z7w {α : Type} {M : List α} {s : α} {k : Nat} {x : α} (h : M[k]? = some x) : (M ++ [s])[k]? = some x := by
 rw [List.getElem?_append_left (zi.1 h).1]; exact h
theorem Mv.none {g g0 : Nat -> Nat} {n i at_ : Nat} {M : List Slot} (h : Mv g g0 n i M at_) (hi : i < n) (h0 : Zu g0 (4 + 4 * i) 2 = 0 /\ Zu g0 (6 + 4 * i) 2 = 0) : Mv g g0 n (i + 1) (M ++ [Option.none]) at_ := by
 refine ⟨h.lt, by simp [h.len], fun x hx => h.same x (by omega), h.lo, h.hi, fun k s hk => ?_, fun k f t hk => ?_, fun k j f t f' t' hkj hk hj => ?_, fun x h1 h2 h3 => h.zero x h1 h2 (fun k f t hk => h3 k f t (Z7w hk))⟩
 ·rcases Z1U hk with ⟨_, hk⟩ | ⟨rfl, rfl⟩
  ·exact h.ptr k s hk
  ·rw [h.len]
   exact ⟨by rw [ZD (g' := g0) _ _ (fun x h1 h2 => h.same x (by omega))]; exact h0.1, by rw [ZD (g' := g0) _ _ (fun x h1 h2 => h.same x (by omega))]; exact h0.2⟩
 ·rcases Z1U hk with ⟨_, hk⟩ | ⟨_, e⟩
  ·exact h.ver k f t hk
  ·cases e
 ·rcases Z1U hk with ⟨_, hk⟩ | ⟨_, e⟩
  ·rcases Z1U hj with ⟨_, hj⟩ | ⟨_, e⟩
   ·exact h.sep k j f t f' t' hkj hk hj
   ·cases e
  ·cases e
def Z91 (g : Nat -> Nat) (i at_ : Nat) (t : Tup) : Nat -> Nat := ZF (ZF (Z0n g at_ t.size t.ver) (4 + 4 * i) 2 at_) (6 + 4 * i) 2 t.size
theorem Mv.some {g g0 : Nat -> Nat} {n i at_ : Nat} {M : List Slot} {t : Tup} (h : Mv g g0 n i M at_) (hi : i < n) (ht : t.Ok) (hr : 4 + 4 * n + t.size <= at_) :
  Mv (Z91 g i (at_ - t.size) t) g0 n (i + 1) (M ++ [Option.some (at_ - t.size, t)]) (at_ - t.size) := by
 have hh := h.hi
 have hb := ht.bounds
 have hts : t.size = 30 + t.data.length := rfl
 have hl := h.len
 generalize hf : at_ - t.size = fr at *
 have out : ∀ x, (x < 4 + 4 * i ∨ 8 + 4 * i <= x) -> (x < fr ∨ fr + t.size <= x) -> Z91 g i fr t x = g x := by
  intro x h1 h2
  unfold Z91
  rw [Zs (by omega), Zs (by omega), Z2e h2]
 refine ⟨Z0l (Z0l (Z3r h.lt _ _ (fun j _ => Tup.ver_lt ht.bytes j)) _ _ _) _ _ _, by simp [hl], fun x hx => ?_, by omega, by omega, fun k s hk => ?_, fun k f t' hk => ?_, fun k j f t1 f' t2 hkj hk hj => ?_, fun x h1 h2 h3 => ?_⟩
 ·rw [out x (by omega) (by omega)]
  exact h.same x (by omega)
 ·rcases Z1U hk with ⟨hlt, hk⟩ | ⟨rfl, rfl⟩
  ·have := h.ptr k s hk
   exact ⟨by rw [ZD (g' := g) _ _ (fun x h1 h2 => out x (by omega) (by omega))]; exact this.1, by rw [ZD (g' := g) _ _ (fun x h1 h2 => out x (by omega) (by omega))]; exact this.2⟩
  ·rw [hl]
   unfold Z91
   exact ⟨by rw [Zr (by omega), ZV (by omega)]; rfl, by rw [ZV (by omega)]; rfl⟩
 ·rcases Z1U hk with ⟨hlt, hk⟩ | ⟨rfl, e⟩
  ·obtain ⟨u1, u2, u3, u4⟩ := h.ver k f t' hk
   refine ⟨by omega, u2, u3, fun j hj => ?_⟩
   rw [out _ (by omega) (by omega)]
   exact u4 j hj
  ·injection e with e
   injection e with e1 e2
   subst e1 e2
   refine ⟨Nat.le_refl _, by omega, ht, fun j hj => ?_⟩
   unfold Z91
   rw [Zs (by omega), Zs (by omega), Z90 hj]
 ·rcases Z1U hk with ⟨_, hk'⟩ | ⟨e0, e⟩
  ·rcases Z1U hj with ⟨_, hj'⟩ | ⟨_, e⟩
   ·exact h.sep k j f t1 f' t2 hkj hk' hj'
   ·have := (h.ver k f t1 hk').1
    injection e with e
    injection e with e1 e2
    subst e1 e2
    omega
  ·rcases Z1U hj with ⟨_, hj'⟩ | ⟨e1, _⟩
   ·have := (h.ver j f' t2 hj').1
    injection e with e
    injection e with e1 e2
    subst e1 e2
    omega
   ·omega
 ·have h4 := h3 M.length fr t (by simp)
  rw [out x (by omega) h4]
  exact h.zero x h1 h2 (fun k f t hk => h3 k f t (Z7w hk))
theorem Mv.done {g g0 : Nat -> Nat} {n at_ : Nat} {M : List Slot} (h : Mv g g0 n n M at_) : Pg (ZF (ZF g 0 2 n) 2 2 at_) M at_ := by
 have hl := h.len
 have hlo := h.lo
 have hhi := h.hi
 have out : ∀ x, 4 <= x -> ZF (ZF g 0 2 n) 2 2 at_ x = g x := by
  intro x hx
  rw [Zs (by omega), Zs (by omega)]
 refine ⟨Z0l (Z0l h.lt _ _ _) _ _ _, ?_, ZV (by omega), by omega, by omega, fun k s hk => ?_, fun k f t hk => ?_, h.sep, fun x h1 h2 h3 => ?_⟩
 ·rw [Zr (by omega), ZV (by omega), hl]
 ·have := h.ptr k s hk
  exact ⟨by rw [ZD (g' := g) _ _ (fun x h1 h2 => out x (by omega))]; exact this.1, by rw [ZD (g' := g) _ _ (fun x h1 h2 => out x (by omega))]; exact this.2⟩
 ·obtain ⟨u1, u2, u3, u4⟩ := h.ver k f t hk
  refine ⟨u1, u2, u3, fun j hj => ?_⟩
  rw [out _ (by omega)]
  exact u4 j hj
 ·rw [out x (by omega)]
  exact h.zero x (by omega) h2 h3
section
open Go.RowKit
def Z0Q (g : Nat -> Nat) (i : Nat) : Value := .int .u8 (g i)
def Bk (w : World) (b N : Nat) (t : TypeId) (g : Nat -> Nat) : Prop := w.heap[b]? = some (.cells (tab N (Z0Q g)) t (0, 0))
theorem Bk.cell {w : World} {b N : Nat} {t : TypeId} {g : Nat -> Nat} (h : Bk w b N t g) {i : Nat} (hi : i < N) : w.cell? ⟨b, i, none⟩ = some (.int .u8 (g i)) := by
 rw [Z1 h, Z1Z hi]; rfl
theorem Bk.frozen {w : World} {b N : Nat} {t : TypeId} {g : Nat -> Nat} (h : Bk w b N t g) (i : Nat) : w.frozen? ⟨b, i, none⟩ = false := Z7 h i
theorem Bk.kept {S : Nat -> Prop} {w w' : World} {b N : Nat} {t : TypeId} {g : Nat -> Nat} (h : Bk w b N t g) (ho : Z0 S w w') (hn : ¬ S b) : Bk w' b N t g := ho.get h hn
theorem Bk.lt {w : World} {b N : Nat} {t : TypeId} {g : Nat -> Nat} (h : Bk w b N t g) : b < w.heap.size := Z2 h
theorem Bk.ext {w : World} {b N : Nat} {t : TypeId} {g g' : Nat -> Nat} (h : Bk w b N t g) (he : ∀ i, i < N -> g i = g' i) : Bk w b N t g' := by
 unfold Bk at *
 rw [h, Z6O (g := Z0Q g') (fun i hi => by unfold Z0Q; rw [he i hi])]
theorem Bk.set {w : World} {b N : Nat} {t : TypeId} {g : Nat -> Nat} (h : Bk w b N t g) (i x : Nat) : Bk (w.setCell ⟨b, i, none⟩ (.int .u8 x)) b N t (fun j => if j = i then x else g j) := by
 unfold Bk at *
 rw [Zf h, Z5h]
 congr 2
 apply Z6O
 intro j _
 unfold Z0Q
 by_cases e : j = i <;> simp [e]
theorem ZiN (v c : Nat) (hv : v < 72057594037927936) (hc : c < 256) : bits .or .u64 ((v : Int) * 256) (c : Int) = ((c + 256 * v : Nat) : Int) := by
 have h := u64_or_nat (v * 256) c (by omega) (by omega)
 rw [show (((v * 256 : Nat)) : Int) = (v : Int) * 256 by omega] at h
 rw [h]
 have e := Nat.two_pow_add_eq_or_of_lt (i := 8) (b := c) (by simpa using hc) v
 rw [show v * 256 = 2 ^ 8 * v by omega, <- e]
 omega
theorem Zds (x k : Nat) : (x : Int) / 2 ^ (8 * k) % 256 = ((x / 256 ^ k % 256 : Nat) : Int) := by
 have e : (2 : Int) ^ (8 * k) = ((256 ^ k : Nat) : Int) := by
  rw [Int.pow_mul]
  norm_cast
 rw [e, <- Int.natCast_ediv]
 rfl
theorem Zdt {g : Nat -> Nat} {off n k : Nat} (h0 : 0 < k) (hk : k <= n) : Zu g (off + (k - 1)) (n - (k - 1)) = g (off + (k - 1)) + 256 * Zu g (off + k) (n - k) := by
 rw [show n - (k - 1) = (n - k) + 1 by omega, Zu, show off + (k - 1) + 1 = off + k by omega]
end
section
open Go.RowKit
def Z0M (L : List Slot) (i : Int) : Slot := if i < 0 then none else (L[i.toNat]?).join
theorem Z10 (L : List Slot) (i : Nat) : Z0M L i = (L[i]?).join := by
 unfold Z0M
 rw [if_neg (by omega), Int.toNat_natCast]
theorem Z3E {L : List Slot} {i : Int} {f : Nat} {t : Tup} (h : Z0M L i = some (f, t)) : ∃ k : Nat, i = k /\ k < L.length /\ L[k]? = some (some (f, t)) := by
 unfold Z0M at h
 split at h
 ·cases h
 ·rename_i h0
  obtain ⟨k, rfl⟩ := Int.eq_ofNat_of_zero_le (show 0 <= i by omega)
  rw [Int.toNat_natCast] at h
  rcases hk : L[k]? with _ | s
  ·rw [hk] at h; cases h
  ·rw [hk] at h
   have : s = some (f, t) := h
   subst this
   exact ⟨k, rfl, (zi.1 hk).1, hk⟩
def freeIdx (L : List Slot) : Nat := (L.findIdx? (fun s => s.isNone)).getD L.length
theorem Z4d (L : List Slot) : freeIdx L <= L.length := by
 unfold freeIdx
 rcases h : L.findIdx? (fun s => s.isNone) with _ | i
 ·rw [h]; exact Nat.le_refl _
 ·rw [h]
  rw [List.findIdx?_eq_some_iff_getElem] at h
  obtain ⟨hi, _⟩ := h
  exact Nat.le_of_lt hi
theorem Z62 (L : List Slot) : ∀ s, L[freeIdx L]? = some s -> s = none := by
 intro s hs
 unfold freeIdx at hs
 rcases h : L.findIdx? (fun s => s.isNone) with _ | i
 ·rw [h] at hs
  simp at hs
 ·rw [h] at hs
  rw [List.findIdx?_eq_some_iff_getElem] at h
  obtain ⟨hi, h1, _⟩ := h
  simp only [Option.getD_some] at hs
  rw [zg hi] at hs
  injection hs with hs
  subst hs
  simpa using h1
theorem Zdu {L : List Slot} {k : Nat} (hk : L[k]? = some none) (h : ∀ j, j < k -> ∀ s, L[j]? = some s -> s ≠ none) : freeIdx L = k := by
 have hkl : k < L.length := (zi.1 hk).1
 have : L.findIdx? (fun s => s.isNone) = some k := by
  rw [List.findIdx?_eq_some_iff_getElem]
  refine ⟨hkl, ?_, fun j hj => ?_⟩
  ·rw [zg hkl] at hk; injection hk with hk; rw [hk]; rfl
  ·have := h j hj _ (zg (by omega))
   simpa using this
 unfold freeIdx
 rw [this]; rfl
theorem ZaT {L : List Slot} (h : ∀ j, j < L.length -> ∀ s, L[j]? = some s -> s ≠ none) : freeIdx L = L.length := by
 have : L.findIdx? (fun s => s.isNone) = Option.none := by
  rw [List.findIdx?_eq_none_iff]
  intro s hs
  obtain ⟨j, hj, rfl⟩ := List.mem_iff_getElem.1 hs
  have := h j hj _ (zg hj)
  cases hx : L[j]
  ·exact absurd hx this
  ·rfl
 unfold freeIdx
 rw [this]; rfl
def Z1K (L : List Slot) : Nat := (L.map (fun s => 4 + Slot.size s)).sum
theorem Zdv (L : List Slot) (s : Slot) : Z1K (L ++ [s]) = Z1K L + (4 + Slot.size s) := by simp [Z1K]
theorem Z4O (L : List Slot) (k : Nat) (s : Slot) (h : L[k]? = some s) : Z1K (L.take (k + 1)) = Z1K (L.take k) + (4 + Slot.size s) := by
 rw [<- Zdv]
 congr 1
 rw [List.take_add_one, h]; rfl
def Z1N (L : List Slot) : Int := max (478 - Z1K L - (if freeIdx L = L.length then 4 else 0)) (-1)
def Z3L (L : List Slot) : Nat := (L.filter (fun s => s.isSome)).length
theorem Z7x (L : List Slot) (k : Nat) (s : Slot) (h : L[k]? = some s) : Z3L (L.take (k + 1)) = Z3L (L.take k) + (if s.isSome then 1 else 0) := by
 have e : L.take (k + 1) = L.take k ++ [s] := by rw [List.take_add_one, h]; rfl
 unfold Z3L
 rw [e, List.filter_append, List.length_append]
 cases s <;> rfl
end
section
open Go.RowKit
def trim (L : List Slot) : List Slot := (L.reverse.dropWhile (fun s => s.isNone)).reverse
theorem Zf4 (L : List Slot) : trim (L ++ [none]) = trim L := by simp [trim]
theorem Zf5 (L : List Slot) (x : Nat × Tup) : trim (L ++ [some x]) = L ++ [some x] := by simp [trim]
theorem Z9w : ∀ (L : List Slot) (k : Nat), k <= L.length -> (∀ j s, k <= j -> L[j]? = some s -> s = none) -> (0 < k -> ∃ x, L[k - 1]? = some (some x)) -> trim L = L.take k := by
 intro L
 induction hn : L.length generalizing L with
 | zero =>
  intro k hk _ _
  have : L = [] := List.eq_nil_of_length_eq_zero hn
  subst this
  simp [trim]
 | succ n ih =>
  intro k hk h1 h2
  have hne : L ≠ [] := fun e => by subst e; simp at hn
  obtain ⟨M, s, rfl⟩ : ∃ M s, L = M ++ [s] := ⟨L.dropLast, L.getLast hne, (List.dropLast_concat_getLast hne).symm⟩
  have hM : M.length = n := by simpa using hn
  rcases Nat.lt_or_ge k (n + 1) with hlt | hge
  ·have hs : s = none := h1 n s (by omega) (by rw [List.getElem?_append_right (by omega), hM]; simp)
   subst hs
   rw [Zf4, ih M hM k (by omega) (fun j s hj hs => h1 j s hj (by rw [List.getElem?_append_left (zi.1 hs).1]; exact hs)) (fun h0 => by
     obtain ⟨x, hx⟩ := h2 h0
     exact ⟨x, by rw [List.getElem?_append_left (by omega)] at hx; exact hx⟩)]
   rw [List.take_append_of_le_length (by omega)]
  ·obtain rfl : k = n + 1 := by omega
   obtain ⟨x, hx⟩ := h2 (by omega)
   rw [show n + 1 - 1 = n by omega, List.getElem?_append_right (by omega), hM] at hx
   simp at hx
   subst hx
   rw [Zf5, List.take_of_length_le (by simp; omega)]
end
section
open Go.RowKit
theorem Zfa (L : List Slot) : Z1K L = 4 * L.length + Z2S L := by
 induction L with
 | nil => rfl
 | cons s L ih =>
  have e1 : Z1K (s :: L) = 4 + Slot.size s + Z1K L := by simp [Z1K]
  have e2 : Z2S (s :: L) = Slot.size s + Z2S L := by simp [Z2S]
  rw [e1, e2, ih, List.length_cons]
  omega
def Z3t (L : List Slot) : Nat := max L.length (freeIdx L + 1)
def Z1s (L : List Slot) (st : Nat) (t : Tup) : List Slot × Nat :=
 if st < t.size + (4 + 4 * Z3t L) then (Z41 (Z03 L).1 (freeIdx L) (some ((Z03 L).2 - t.size, t)), (Z03 L).2 - t.size)
 else (Z41 L (freeIdx L) (some (st - t.size, t)), st - t.size)
def Z3u (L : List Slot) (st : Nat) (t : Tup) : Int × Int × List Slot × Nat :=
 if t.rightB = false then (0, 3, L, st) else if Z1N L < t.data.length then (0, 12, L, st) else (freeIdx L, 0, (Z1s L st t).1, (Z1s L st t).2)
theorem ZgG {L : List Slot} {n : Nat} (h : ¬ Z1N L < n) : 4 + 4 * Z3t L + Z2S L + (30 + n) <= 512 := by
 unfold Z1N at h
 have h1 := Zfa L
 have h2 := Z4d L
 unfold Z3t
 by_cases e : freeIdx L = L.length
 ·rw [if_pos e] at h
  omega
 ·rw [if_neg e] at h
  omega
theorem Z7a (L : List Slot) : (Z03 L).1.map (fun s => s.isNone) = L.map (fun s => s.isNone) := by
 induction hn : L.length generalizing L with
 | zero =>
  have : L = [] := List.eq_nil_of_length_eq_zero hn
  subst this
  rfl
 | succ n ih =>
  have hne : L ≠ [] := fun e => by subst e; simp at hn
  obtain ⟨M, s, rfl⟩ : ∃ M s, L = M ++ [s] := ⟨L.dropLast, L.getLast hne, (List.dropLast_concat_getLast hne).symm⟩
  have hM : M.length = n := by simpa using hn
  rw [Z2g, List.map_append, <- ih M hM]
  rcases s with _ | ⟨f, t⟩ <;> simp [Z6R]
theorem ZaX (L : List Slot) : (Z03 L).1.length = L.length := by
 have := congrArg List.length (Z7a L)
 simpa using this
theorem ZdA (L : List Slot) : ∀ s, (Z03 L).1[freeIdx L]? = some s -> s = none := by
 intro s hs
 have h1 : ((Z03 L).1.map (fun s => s.isNone))[freeIdx L]? = some s.isNone := by rw [List.getElem?_map, hs]; rfl
 rw [Z7a, List.getElem?_map] at h1
 rcases hx : L[freeIdx L]? with _ | y
 ·rw [hx] at h1; cases h1
 ·have := Z62 L y hx
  subst this
  rw [hx] at h1
  have h2 : some true = some s.isNone := h1
  injection h2 with h2
  cases s
  ·rfl
  ·cases h2
end
section
open Go.RowKit
def Z0o (L : List Slot) : List (Option Tup) := L.map (Option.map Prod.snd)
def freeT (T : List (Option Tup)) : Nat := (T.findIdx? (fun s => s.isNone)).getD T.length
def Z1p : Option Tup -> Nat
 | none => 0
 | some t => t.size
def Z2E (T : List (Option Tup)) : Nat := (T.map (fun s => 4 + Z1p s)).sum
def ZL (T : List (Option Tup)) : Int := max (478 - Z2E T - (if freeT T = T.length then 4 else 0)) (-1)
def Z0B (T : List (Option Tup)) : Nat := (T.filter (fun s => s.isSome)).length
def Z0f (T : List (Option Tup)) : List (Option Tup) := (T.reverse.dropWhile (fun s => s.isNone)).reverse
def Z1h (T : List (Option Tup)) (t : Tup) : List (Option Tup) := if freeT T = T.length then T ++ [some t] else T.set (freeT T) (some t)
def Z2n (T : List (Option Tup)) (t : Tup) : Int × Int × List (Option Tup) :=
 if t.rightB = false then (0, 3, T) else if ZL T < t.data.length then (0, 12, T) else (freeT T, 0, Z1h T t)
def ZY (T : List (Option Tup)) (i : Int) : Option Tup := if i < 0 then none else (T[i.toNat]?).join
theorem Z3F (L : List Slot) : (Z0o L).length = L.length := by simp [Z0o]
theorem ZaY (s : Slot) : (Option.map Prod.snd s).isNone = s.isNone := by cases s <;> rfl
theorem ZgH (s : Slot) : (Option.map Prod.snd s).isSome = s.isSome := by cases s <;> rfl
theorem Z67 (L : List Slot) : freeT (Z0o L) = freeIdx L := by
 unfold freeT freeIdx Z0o
 rw [List.findIdx?_map, List.length_map]
 congr 2
 funext s
 exact ZaY s
theorem ZgI (s : Slot) : Z1p (Option.map Prod.snd s) = Slot.size s := by rcases s with _ | ⟨f, t⟩ <;> rfl
theorem ZdB (L : List Slot) : Z2E (Z0o L) = Z1K L := by
 unfold Z2E Z1K Z0o
 rw [List.map_map]
 congr 1
 apply List.map_congr_left
 intro s _
 show 4 + Z1p (Option.map Prod.snd s) = _
 rw [ZgI]
theorem Z9A (L : List Slot) : ZL (Z0o L) = Z1N L := by
 unfold ZL Z1N
 rw [ZdB, Z67, Z3F]
theorem Zfb (L : List Slot) : Z0B (Z0o L) = Z3L L := by
 unfold Z0B Z3L Z0o
 rw [List.filter_map, List.length_map]
 congr 2
 funext s
 exact ZgH s
theorem Zfc (L : List Slot) : Z0f (Z0o L) = Z0o (trim L) := by
 unfold Z0f trim Z0o
 rw [<- List.map_reverse, List.dropWhile_map, <- List.map_reverse]
 congr 3
 funext s
 exact ZaY s
theorem ZgJ (L : List Slot) (i : Nat) : Z0o (L.set i none) = (Z0o L).set i none := by
 unfold Z0o
 rw [List.map_set]; rfl
theorem Z9B (L : List Slot) (i : Nat) (f : Nat) (t : Tup) : Z0o (Z41 L i (some (f, t))) = if i = (Z0o L).length then Z0o L ++ [some t] else (Z0o L).set i (some t) := by
 unfold Z41
 rw [Z3F]
 split
 ·simp [Z0o]
 ·unfold Z0o; rw [List.map_set]; rfl
theorem ZdC (L : List Slot) : Z0o (Z03 L).1 = Z0o L := by
 induction hn : L.length generalizing L with
 | zero =>
  have : L = [] := List.eq_nil_of_length_eq_zero hn
  subst this
  rfl
 | succ n ih =>
  have hne : L ≠ [] := fun e => by subst e; simp at hn
  obtain ⟨M, s, rfl⟩ : ∃ M s, L = M ++ [s] := ⟨L.dropLast, L.getLast hne, (List.dropLast_concat_getLast hne).symm⟩
  have hM : M.length = n := by simpa using hn
  have := ih M hM
  rw [Z2g]
  unfold Z0o at this ⊢
  rw [List.map_append, <- this]
  rcases s with _ | ⟨f, t⟩ <;> simp [Z6R]
theorem ZdD (L : List Slot) (st : Nat) (t : Tup) : Z0o (Z1s L st t).1 = Z1h (Z0o L) t := by
 unfold Z1s Z1h
 rw [Z67]
 split
 ·rw [Z9B, ZdC]
 ·rw [Z9B]
theorem Z3N (L : List Slot) (i : Int) : ZY (Z0o L) i = (Z0M L i).map Prod.snd := by
 unfold ZY Z0M Z0o
 split
 ·rfl
 ·rw [List.getElem?_map]
  rcases L[i.toNat]? with _ | s
  ·rfl
  ·rfl
theorem ZaZ (T : List (Option Tup)) (n : Nat) : (¬ ZL T < n) ↔ 4 + 4 * (max T.length (freeT T + 1)) + ((T.map Z1p).sum) + (30 + n) <= 512 := by
 have e : Z2E T = 4 * T.length + (T.map Z1p).sum := by
  unfold Z2E
  induction T with
  | nil => rfl
  | cons s T ih => rw [List.map_cons, List.sum_cons, ih, List.map_cons, List.sum_cons, List.length_cons]; omega
 have hf : freeT T <= T.length := by
  unfold freeT
  rcases h : T.findIdx? (fun s => s.isNone) with _ | i
  ·rw [h]; exact Nat.le_refl _
  ·rw [h]
   rw [List.findIdx?_eq_some_iff_getElem] at h
   obtain ⟨hi, _⟩ := h
   exact Nat.le_of_lt hi
 unfold ZL
 rw [e]
 by_cases hx : freeT T = T.length
 ·rw [if_pos hx]; omega
 ·rw [if_neg hx]; omega
end
section
open Go.RowKit
end
def Z0a (T : List (Option Tup)) (i : Int) (xmax : Nat) (pg sl : Int) : Int × List (Option Tup) :=
 if 1099511627776 < xmax ∨ Z0R pg sl = true then (3, T) else
  match ZY T i with
  | none => (15, T)
  | some t => (0, T.set i.toNat (some (t.stamp xmax pg sl)))
structure Z3l (l t : Nat -> Int) : Prop where
 leaf : ∀ i, i < 256 -> t (256 + i) = l i
 node : ∀ j, 1 <= j -> j < 256 -> t j = max (t (2 * j)) (t (2 * j + 1))
structure Z2C (l t : Nat -> Int) (i : Nat) : Prop where
 leaf : ∀ i, i < 256 -> t (256 + i) = l i
 node : ∀ j, 1 <= j -> j < 256 -> (∀ k, 1 <= k -> j ≠ i / 2 ^ k) -> t j = max (t (2 * j)) (t (2 * j + 1))
theorem Z2C.start {l t : Nat -> Int} (h : Z3l l t) {p : Nat} (hp : p < 256) (v : Int) : Z2C (upd l p v) (upd t (256 + p) v) (256 + p) := by
 refine ⟨fun i hi => ?_, fun j h1 h2 hk => ?_⟩
 ·by_cases e : i = p
  ·subst e; rw [Z1F, Z1F]
  ·rw [ZS _ _ (by omega), ZS _ _ e]; exact h.leaf i hi
 ·have hj : j ≠ (256 + p) / 2 := by simpa using hk 1 (Nat.le_refl _)
  rw [ZS _ _ (by omega), ZS _ _ (by omega), ZS _ _ (by omega)]
  exact h.node j h1 h2
theorem Z2C.step {l t : Nat -> Int} {i : Nat} (h : Z2C l t i) (hi : 1 < i) (hm : i < 512) :
  Z2C l (upd t (i / 2) (max (t (2 * (i / 2))) (t (2 * (i / 2) + 1)))) (i / 2) := by
 refine ⟨fun k hk => ?_, fun j h1 h2 hk => ?_⟩
 ·rw [ZS _ _ (by omega)]; exact h.leaf k hk
 ·have hj : j ≠ i / 2 / 2 := by simpa using hk 1 (Nat.le_refl _)
  by_cases e : j = i / 2
  ·subst e
   rw [Z1F, ZS _ _ (by omega), ZS _ _ (by omega)]
  ·rw [ZS _ _ e, ZS _ _ (by omega), ZS _ _ (by omega)]
   refine h.node j h1 h2 (fun k hk1 => ?_)
   by_cases e1 : k = 1
   ·subst e1; simpa using e
   ·have := hk (k - 1) (by omega)
    rw [Nat.div_div_eq_div_mul] at this
    have e2 : 2 * 2 ^ (k - 1) = 2 ^ k := by
     rw [show k = (k - 1) + 1 by omega, Nat.pow_succ]; simp [Nat.mul_comm]
    rw [e2] at this; exact this
theorem Z2C.done {l t : Nat -> Int} {i : Nat} (h : Z2C l t i) (hi : i <= 1) : Z3l l t := by
 refine ⟨h.leaf, fun j h1 h2 => h.node j h1 h2 (fun k hk e => ?_)⟩
 have : 2 <= 2 ^ k := by
  rw [show k = (k - 1) + 1 by omega, Nat.pow_succ]
  have := Nat.one_le_two_pow (n := k - 1)
  omega
 have := Nat.div_eq_of_lt (show i < 2 ^ k by omega)
 omega
theorem Z3l.reach {l t : Nat -> Int} (T : Z3l l t) (need : Int) : ∀ (h i : Nat), 1 <= i -> i * 2 ^ h < 512 -> 256 <= i * 2 ^ h -> (need <= t i ↔ ∃ p, i * 2 ^ h <= 256 + p /\ 256 + p < (i + 1) * 2 ^ h /\ p < 256 /\ need <= l p) := by
 intro h
 induction h with
 | zero =>
  intro i h1 h2 h3
  simp only [Nat.pow_zero, Nat.mul_one] at *
  constructor
  ·intro hn
   refine ⟨i - 256, by omega, by omega, by omega, ?_⟩
   rw [<- T.leaf _ (by omega), show 256 + (i - 256) = i by omega]; exact hn
  ·rintro ⟨p, a, b, c, d⟩
   rw [<- T.leaf _ c, show 256 + p = i by omega] at d; exact d
 | succ h ih =>
  intro i h1 h2 h3
  have hp : 1 <= 2 ^ h := Nat.one_le_two_pow
  have e1 : i * 2 ^ (h + 1) = (2 * i) * 2 ^ h := by rw [Nat.pow_succ, Nat.mul_comm (2 ^ h) 2, <- Nat.mul_assoc, Nat.mul_comm i 2]
  have e2 : (i + 1) * 2 ^ (h + 1) = (2 * i + 2) * 2 ^ h := by rw [Nat.pow_succ, Nat.mul_comm (2 ^ h) 2, <- Nat.mul_assoc]; congr 1; omega
  have e3 : (2 * i + 1) * 2 ^ h = (2 * i) * 2 ^ h + 2 ^ h := by rw [Nat.add_mul, Nat.one_mul]
  have e4 : (2 * i + 2) * 2 ^ h = (2 * i) * 2 ^ h + 2 ^ h + 2 ^ h := by rw [Nat.add_mul, Nat.two_mul (2 ^ h)]; omega
  have hi : i < 256 := by
   rcases Nat.lt_or_ge i 256 with x | x
   ·exact x
   ·have := Nat.mul_le_mul x (Nat.le_refl (2 ^ (h + 1)))
    rw [Nat.pow_succ] at this h2
    omega
  have hdvd : ∃ c, 256 = 2 ^ h * c := by
   have hh : h <= 8 := by
    rcases Nat.lt_or_ge 8 h with x | x
    ·have a1 : 2 ^ 9 <= 2 ^ h := Nat.pow_le_pow_right (by omega) x
     have a2 : 2 ^ (h + 1) <= i * 2 ^ (h + 1) := Nat.le_mul_of_pos_left _ h1
     rw [Nat.pow_succ] at a2 h2
     omega
    ·exact x
   exact ⟨2 ^ (8 - h), by rw [<- Nat.pow_add, show h + (8 - h) = 8 by omega]⟩
  have h5 : (2 * i + 1) * 2 ^ h < 512 := by
   obtain ⟨c, hc⟩ := hdvd
   rw [e1] at h2
   have a1 : 2 ^ h * (2 * i) < 2 ^ h * (2 * c) := by
    rw [Nat.mul_comm (2 ^ h) (2 * i), show 2 ^ h * (2 * c) = 2 * (2 ^ h * c) by rw [Nat.mul_left_comm], <- hc]; exact h2
   have a2 : 2 * i < 2 * c := Nat.lt_of_mul_lt_mul_left a1
   have a3 : (2 * i + 1) * 2 ^ h < (2 * c) * 2 ^ h := Nat.mul_lt_mul_of_pos_right (by omega) (by omega)
   rw [show (2 * c) * 2 ^ h = 2 * (2 ^ h * c) by rw [Nat.mul_assoc, Nat.mul_comm c], <- hc] at a3
   exact a3
  rw [T.node i h1 hi]
  have A := ih (2 * i) (by omega) (by omega) (by omega)
  have B := ih (2 * i + 1) (by omega) h5 (by omega)
  have M : need <= max (t (2 * i)) (t (2 * i + 1)) ↔ need <= t (2 * i) ∨ need <= t (2 * i + 1) := by omega
  rw [M, A, B, e1, e2]
  rw [show 2 * i + 1 + 1 = 2 * i + 2 by omega]
  constructor
  ·rintro (⟨p, a, b, c, d⟩ | ⟨p, a, b, c, d⟩)
   ·exact ⟨p, a, by omega, c, d⟩
   ·exact ⟨p, by omega, b, c, d⟩
  ·rintro ⟨p, a, b, c, d⟩
   rcases Nat.lt_or_ge (256 + p) ((2 * i + 1) * 2 ^ h) with x | x
   ·exact Or.inl ⟨p, a, x, c, d⟩
   ·exact Or.inr ⟨p, x, b, c, d⟩
def Z3m (l t : Nat -> Int) (need : Int) (k i h : Nat) : Prop :=
 1 <= i /\ i * 2 ^ h <= 256 + k /\ 256 + k < (i + 1) * 2 ^ h /\ 256 <= i * 2 ^ h /\ i * 2 ^ h < 512
theorem Z3m.left {l t : Nat -> Int} (T : Z3l l t) {need : Int} {k i h : Nat} (D : Z3m l t need k i (h + 1)) (hk : k < 256) (hn : need <= l k) (hm : ∀ j, j < k -> l j < need)
  (hr : ¬ t (2 * i) < need) : Z3m l t need k (2 * i) h := by
 obtain ⟨a, b, c, d, e⟩ := D
 have hp : 1 <= 2 ^ h := Nat.one_le_two_pow
 have e1 : i * 2 ^ (h + 1) = (2 * i) * 2 ^ h := by rw [Nat.pow_succ, Nat.mul_comm (2 ^ h) 2, <- Nat.mul_assoc, Nat.mul_comm i 2]
 rw [e1] at b d e
 have R := (T.reach need h (2 * i) (by omega) e d).1 (by omega)
 obtain ⟨p, p1, p2, p3, p4⟩ := R
 have : ¬ p < k := fun x => by have := hm p x; omega
 exact ⟨by omega, b, by omega, d, e⟩
theorem Z3m.right {l t : Nat -> Int} (T : Z3l l t) {need : Int} {k i h : Nat} (D : Z3m l t need k i (h + 1)) (hk : k < 256) (hn : need <= l k)
  (hr : t (2 * i) < need) : Z3m l t need k (2 * i + 1) h := by
 obtain ⟨a, b, c, d, e⟩ := D
 have hp : 1 <= 2 ^ h := Nat.one_le_two_pow
 have e1 : i * 2 ^ (h + 1) = (2 * i) * 2 ^ h := by rw [Nat.pow_succ, Nat.mul_comm (2 ^ h) 2, <- Nat.mul_assoc, Nat.mul_comm i 2]
 have e2 : (i + 1) * 2 ^ (h + 1) = (2 * i + 2) * 2 ^ h := by rw [Nat.pow_succ, Nat.mul_comm (2 ^ h) 2, <- Nat.mul_assoc]; congr 1; omega
 have e3 : (2 * i + 1) * 2 ^ h = (2 * i) * 2 ^ h + 2 ^ h := by rw [Nat.add_mul, Nat.one_mul]
 rw [e1] at b d e
 rw [e2] at c
 have R := T.reach need h (2 * i) (by omega) e d
 have nl : ¬ 256 + k < (2 * i + 1) * 2 ^ h := fun x => by
  have := R.2 ⟨k, b, x, hk, hn⟩
  omega
 exact ⟨by omega, by omega, by rw [show 2 * i + 1 + 1 = 2 * i + 2 by omega]; exact c, by omega, by omega⟩
theorem Z3m.top {l t : Nat -> Int} {need : Int} {k : Nat} (hk : k < 256) : Z3m l t need k 1 8 := ⟨by omega, by omega, by omega, by omega, by omega⟩
theorem Z3m.end_ {l t : Nat -> Int} {need : Int} {k i : Nat} (D : Z3m l t need k i 0) : i = 256 + k := by
 obtain ⟨a, b, c, d, e⟩ := D
 simp only [Nat.pow_zero, Nat.mul_one] at *
 omega
theorem Z3m.inner {l t : Nat -> Int} {need : Int} {k i h : Nat} (D : Z3m l t need k i (h + 1)) : i < 256 := by
 obtain ⟨a, b, c, d, e⟩ := D
 have hp : 1 <= 2 ^ h := Nat.one_le_two_pow
 have : i * 2 <= i * 2 ^ (h + 1) := Nat.mul_le_mul_left _ (by rw [Nat.pow_succ]; omega)
 omega
theorem Z3l.none {l t : Nat -> Int} (T : Z3l l t) {need : Int} (hn : ∀ j, j < 256 -> l j < need) : t 1 < need := by
 have R := T.reach need 8 1 (by omega) (by omega) (by omega)
 rcases Int.lt_or_le (t 1) need with x | x
 ·exact x
 ·obtain ⟨p, _, _, c, d⟩ := R.1 x
  have := hn p c
  omega
theorem Z3l.some {l t : Nat -> Int} (T : Z3l l t) {need : Int} {k : Nat} (hk : k < 256) (hn : need <= l k) : need <= t 1 :=
 (T.reach need 8 1 (by omega) (by omega) (by omega)).2 ⟨k, by omega, by omega, hk, hn⟩
theorem Z3l.empty : Z3l (fun _ => -1) (fun _ => -1) := ⟨fun _ _ => rfl, fun _ _ _ => by simp⟩
theorem Z7C {α : Type} (l : List α) (d : α) {i : Nat} (h : l.length <= i) : l.getD i d = d := by
 rw [List.getD_eq_getElem?_getD, List.getElem?_eq_none h]; rfl
def rooms (l : List Int) (i : Nat) : Int := l.getD i (-1)
def Z8b (r : Int) : Int := min (max r (-1)) 512
def Z42 (l : List Int) (p : Nat) (c : Int) : List Int := if p = l.length then l ++ [c] else l.set p c
def Z68 (l : List Int) (p r : Int) : Int × List Int :=
 if p < 0 ∨ 256 <= p then (1, l) else if (l.length : Int) < p then (3, l) else (0, Z42 l p.toNat (Z8b r))
def Z4S (l : List Int) (need : Int) : Int × Bool :=
 match l.findIdx? (fun r => decide (max need 0 <= r)) with
 | some i => (i, true)
 | none => (0, false)
theorem ZgQ {l : List Int} {p r : Int} (h : p < 0 ∨ 256 <= p) : Z68 l p r = (1, l) := if_pos h
theorem Zfh {l : List Int} {p r : Int} (h : ¬ (p < 0 ∨ 256 <= p)) (h2 : (l.length : Int) < p) : Z68 l p r = (3, l) := by rw [Z68, if_neg h, if_pos h2]
theorem Zd2 {l : List Int} {p r : Int} (h : ¬ (p < 0 ∨ 256 <= p)) (h2 : ¬ (l.length : Int) < p) : Z68 l p r = (0, Z42 l p.toNat (Z8b r)) := by rw [Z68, if_neg h, if_neg h2]
theorem Zfi (l : List Int) (p : Nat) (c : Int) (hp : p <= l.length) : upd (rooms l) p c = rooms (Z42 l p c) := by
 funext j
 unfold upd rooms Z42
 by_cases e : p = l.length
 ·rw [if_pos e]
  subst e
  by_cases h : j = l.length
  ·subst h; simp
  ·rw [if_neg h]
   rcases Nat.lt_or_ge j l.length with x | x
   ·simp [List.getD_eq_getElem?_getD, List.getElem?_append, x]
   ·rw [Z7C _ _ x, Z7C _ _ (by simp; omega)]
 ·rw [if_neg e]
  simp only [List.getD_eq_getElem?_getD, List.getElem?_set]
  by_cases h : j = p
  ·subst h; simp [show j < l.length by omega]
  ·simp [h, show ¬ p = j by omega]
theorem Zcj (l : List Int) (p : Nat) (c : Int) (hp : p <= l.length) : (Z42 l p c).length = max l.length (p + 1) := by
 unfold Z42
 by_cases e : p = l.length
 ·rw [if_pos e]; simp; omega
 ·rw [if_neg e]; simp; omega
theorem Zfj (T : List (Option Tup)) : -1 <= ZL T := by unfold ZL; omega
theorem ZdI (T : List (Option Tup)) : ZL T <= 474 := by
 unfold ZL
 split
 ·omega
 ·rename_i h
  have hl : T ≠ [] := by
   intro e
   subst e
   exact h rfl
  have : 4 <= Z2E T := by
   rcases T with _ | ⟨s, T⟩
   ·exact absurd rfl hl
   ·unfold Z2E
    rw [List.map_cons, List.sum_cons]
    omega
  omega
theorem ZdJ (T : List (Option Tup)) : Z8b (ZL T) = ZL T := by
 have := Zfj T
 have := ZdI T
 unfold Z8b
 omega
def Z1c (H : List (List (Option Tup))) (n : Nat) : Option Nat := H.findIdx? (fun T => decide ((n : Int) <= ZL T))
def Z12 (H : List (List (Option Tup))) (left : Nat) (t : Tup) : (Int × Int × Int) × List (List (Option Tup)) × Nat :=
 if t.rightB = false then ((0, 0, 3), H, left) else
  match Z1c H t.data.length with
  | some i => ((i, freeT (H.getD i []), 0), H.set i (Z1h (H.getD i []) t), left)
  | none => if left = 0 then ((0, 0, 12), H, left) else ((H.length, 0, 0), H ++ [[some t]], left - 1)
theorem Z5C (H : List (List (Option Tup))) (n : Nat) : Z4S (H.map ZL) (n : Int) = match Z1c H n with | some i => ((i : Int), true) | none => (0, false) := by
 unfold Z4S Z1c
 rw [List.findIdx?_map]
 rw [show max (n : Int) 0 = n by omega]
 rfl
theorem Z4e {H : List (List (Option Tup))} {n i : Nat} (h : Z1c H n = some i) : ∃ T, H[i]? = some T /\ (n : Int) <= ZL T := by
 unfold Z1c at h
 rw [List.findIdx?_eq_some_iff_getElem] at h
 obtain ⟨hi, h1, _⟩ := h
 exact ⟨H[i], zg hi, of_decide_eq_true h1⟩
end Go.Lap
namespace Go.Proofs.YtnidjfjkodingaaGreatDoor
open Go.RowKit Go.Lap
theorem Z4k : Z05 Tryz.prog 22 5 1 1 := Z05.mk' (.int .u8 0) Tryz.underlying22 (by kernel_rfl) rfl (by decide)
structure Z0K (w w' : World) (v : Value) (l : List Nat) : Prop where
 quiet : Quiet w w'
 new : ∀ k, v.ownBlock = some k -> w.heap.size <= k
 own : w'.ownsRow 0 5 1 v l.length (Zg l)
def Z33 (w : World) (l : List Nat) (e : Ending) (w' : World) : Prop := ∃ v, e = .returned v /\ Z0K w w' v l
theorem Z9q (l : List Nat) : (Zg l).length = l.length := by simp [Zg]
theorem ZeY {w w1 : World} {l : List Nat} {v : Value} (hg : ZW (w.alloc (.cells #[] 5)) w1 5 1 (.slice (some ⟨w.heap.size, 0, none⟩) 0 0) v l.length (Zg l)) : Z0K w w1 v l := by
 refine ⟨((Z0.refl _ _).alloc _).trans' hg.only (fun k hk e => by simp [Value.ownBlock] at e; omega), fun k e => ?_, hg.own⟩
 rcases hg.loc with x | x <;> rw [x] at e
 ·simp [Value.ownBlock] at e; omega
 ·injection e with e; simp at e; omega
theorem Z9r (A : Option Addr) (cap : Nat) (l : List Nat) (S : Nat -> Prop) (w : World) (hr : Rd w S 1 A l.length (Zg l)) (hl : l.length <= 100000) :
  Calls Tryz.prog 120 #[.slice A l.length cap] w (Z33 w l) := by
 have heq := fun (w : World) (a : Option Addr) (n c : Nat) => Lib.run_eql_slice_nil (P := Tryz.prog) w 22 _ a n c 0 0 Tryz.underlying22
 rcases A with _ | ad
 ·have hl0 : l = [] := by
   rcases l with _ | ⟨x, l⟩
   ·rfl
   ·obtain ⟨b, off, e, _⟩ := hr.cells (by simp [Zg]); cases e
  have HF : Hid (Z33 w l (.returned (.slice none 0 0)) w) := by
   subst hl0
   exact ⟨_, rfl, Z0.refl _ _, by simp [Value.ownBlock], World.ownsRow_nil _ _ _ _⟩
  clear hl0 hr
  go_enter Tryz.func120, Tryz.ntmps120
  go_wp2
  go_ret
  exact HF.out
 ·have HR := zh hr
  clear hr
  go_enter Tryz.func120, Tryz.ntmps120
  go_wp2_with (at_builtin; refine app Z4k rfl (.tmp 5) (.tmp 6) rfl rfl (Z4b w _ _) rfl (HR.out.kept ((Z0.refl (fun _ => False) w).alloc _) (fun _ _ x => x)) (Z31 l) (by unfold maxLen; omega) (by omega) ?_)
  intro v w1 hg
  have HF := zh (ZeY hg)
  clear hg
  go_wp2
  go_ret
  exact ⟨v, rfl, HF.out⟩
theorem Z6S (b N off n cap : Nat) (t : TypeId) (g : Nat -> Nat) (w : World) (hb : Bk w b N t g) (hg : ∀ i, g i < 256) (hn : n <= 8) (hN : off + n <= N) (hm : N <= 1000) :
  Calls Tryz.prog 144 #[.slice (some ⟨b, off, none⟩) n cap] w fun e w' => e = .returned (.int .u64 (Zu g off n)) /\ w = w' := by
 have HB := zh hb
 have HG := zh hg
 clear hb hg
 go_enter Tryz.func144, Tryz.ntmps144
 go_wp2
 go_loop [3, 4] (fun v i => ∃ k : Nat, k <= n /\ i = .int .i64 ((k : Int) - 1) /\ v = .int .u64 (Zu g (off + k) (n - k))) (fun _ i => ((intOf i) + 1).toNat)
 case atStart => exact ⟨n, Nat.le_refl _, by go_num, by simp [Zu]⟩
 case round =>
  obtain ⟨k, hk, rfl, rfl⟩ := hrel
  by_cases h0 : 0 < k
  ·have hc := HB.out.cell (i := off + (k - 1)) (by omega)
   have hlt := Z7v HG.out (n - k) (off + k)
   have h8 := HG.out (off + (k - 1))
   obtain ⟨v, hv⟩ : ∃ v, v = Zu g (off + k) (n - k) := ⟨_, rfl⟩
   obtain ⟨c, hcc⟩ : ∃ c, c = g (off + (k - 1)) := ⟨_, rfl⟩
   rw [<- hcc] at hc h8
   rw [<- hv] at hlt ⊢
   have HV := zh hv
   have HCC := zh hcc
   have h56 : v < 72057594037927936 := by
    have : 256 ^ (n - k) <= 256 ^ 7 := Nat.pow_le_pow_right (by omega) (by omega)
    omega
   clear hv hcc hlt
   go_wp2
   go_round
   case rel =>
    refine ⟨k - 1, by omega, by rw [show ((k : Int) - 1 - 1) = ((k - 1 : Nat) : Int) - 1 by omega], ?_⟩
    rw [ZiN v c h56 h8, Zdt h0 hk, <- HV.out, <- HCC.out]
   case measure => simp [intOf]; omega
  ·obtain rfl : k = 0 := by omega
   go_wp2
   go_ret
   exact ⟨by simp, rfl⟩
def Zca (w wr : World) (b N off k x : Nat) (t : TypeId) (g : Nat -> Nat) : Prop := Z0 (· = b) w wr /\ Bk wr b N t (ZF g off k x)
theorem Zca.next {w wr : World} {b N off k x : Nat} {t : TypeId} {g : Nat -> Nat} (h : Zca w wr b N off k x t g) {c : Int} (hc : c = ((x / 256 ^ k % 256 : Nat) : Int)) : Zca w (wr.setCell ⟨b, off + k, none⟩ (.int .u8 c)) b N off (k + 1) x t g := by
 subst hc
 refine ⟨h.1.setCell (fun _ => rfl) _, (h.2.set _ _).ext (fun i _ => ?_)⟩
 unfold ZF
 by_cases e : i = off + k
 ·subst e
  rw [if_pos rfl, if_pos (by omega), Nat.add_sub_cancel_left]
 ·rw [if_neg e]
  by_cases e2 : off <= i /\ i < off + k
  ·rw [if_pos e2, if_pos (by omega)]
  ·rw [if_neg e2, if_neg (by omega)]
theorem Z2y (b N off n cap x : Nat) (t : TypeId) (g : Nat -> Nat) (w : World) (hb : Bk w b N t g) (hn : n <= 8) (hN : off + n <= N) (hm : N <= 1000) (hx : x < 18446744073709551616) :
  Calls Tryz.prog 136 #[.slice (some ⟨b, off, none⟩) n cap, .int .u64 x] w fun e w' => e = .returned (.tuple #[]) /\ Z0 (· = b) w w' /\ Bk w' b N t (ZF g off n x) := by
 have HB : Hid (Zca w w b N off 0 x t g) := ⟨Z0.refl _ _, hb.ext (fun i _ => by unfold ZF; rw [if_neg (by omega)])⟩
 clear hb
 go_enter Tryz.func136, Tryz.ntmps136
 go_wp2
 go_loopw [7] (fun v wr => ∃ k : Nat, k <= n /\ v = .int .i64 k /\ Zca w wr b N off k x t g) (fun v _ => n - (intOf v).toNat)
 case atStart => exact ⟨0, Nat.zero_le _, rfl, HB.out⟩
 case round =>
  obtain ⟨k, hk, rfl, hW⟩ := hrel
  have HW := zh hW
  have hc := hW.2.cell (i := off + k)
  have hf := hW.2.frozen (off + k)
  clear hW HB
  by_cases hlt : k < n
  ·have hc := hc (by omega)
   go_wp2
   go_roundw
   case rel =>
    exact ⟨k + 1, by omega, by go_num, HW.out.next (Zds x k)⟩
   case measure => simp [intOf]; omega
  ·clear hc
   obtain rfl : k = n := by omega
   go_wp2
   go_end0
   exact ⟨rfl, HW.out⟩
abbrev pageT : TypeId := 247
theorem Z6T {g : Nat -> Nat} (hg : ∀ i, g i < 256) (off : Nat) : Zu g off 2 < 65536 := Z7v hg 2 off
theorem Z82 : Tryz.prog.arrayLen 245 = 512 := by kernel_rfl
theorem Zf0 : Tryz.prog.underlying 245 = some (.array (Tryz.prog.arrayLen 245) (Tryz.prog.elem 245)) := by kernel_rfl
theorem Zd1 (w : World) : (sizeOf (Tryz.prog.elem 245)).run Tryz.prog w = .ok 1 w := by kernel_rfl
theorem Z34 (b l : Nat) (L : Int) (hL : L = l) (hl : l < 512) (w : World) :
  (Instr.sliceAt 245 (.pointer (some ⟨b, 0, none⟩)) (some (.int .i64 L)) none none).run Tryz.prog w = .ok (.slice (some ⟨b, l, none⟩) (512 - l) (512 - l)) w := by
 subst hL
 rw [run_sliceAt_array_l w _ _ Zf0 _ _ (by omega) (by rw [Z82]; omega), Zd1]
 simp only [Result.andThen_ok, slicedAt, Z82, Int.toNat_natCast, if_neg (show ¬ 512 = l by omega), Nat.mul_one, Zq, Nat.zero_add]
theorem Z5A (b l h : Nat) (L H : Int) (hL : L = l) (hH : H = h) (hl : l < 512) (hlh : l <= h) (hh : h <= 512) (w : World) :
  (Instr.sliceAt 245 (.pointer (some ⟨b, 0, none⟩)) (some (.int .i64 L)) (some (.int .i64 H)) none).run Tryz.prog w = .ok (.slice (some ⟨b, l, none⟩) (h - l) (512 - l)) w := by
 subst hL hH
 rw [run_sliceAt_array_lh w _ _ Zf0 _ _ _ _ (by omega) (by omega) (by rw [Z82]; omega), Zd1]
 simp only [Result.andThen_ok, slicedAt, Z82, Int.toNat_natCast, if_neg (show ¬ 512 = l by omega), Nat.mul_one, Zq, Nat.zero_add]
theorem Z9t (b : Nat) (g : Nat -> Nat) (w : World) (hb : Bk w b 512 pageT g) (hg : ∀ i, g i < 256) :
  Calls Tryz.prog 142 #[.pointer (some ⟨b, 0, none⟩)] w fun e w' => e = .returned (.int .i64 (Zu g 0 2)) /\ w = w' := by
 have h16 := Z6T hg 0
 have HB := zh hb
 have HG := zh hg
 clear hb hg
 go_enter Tryz.func142, Tryz.ntmps142
 go_wp2_with fail
 refine (Z6S _ 512 _ _ _ pageT g _ HB.out HG.out (by omega) (by omega) (by omega)).mono ?_
 rintro e w' ⟨rfl, rfl⟩
 go_wp2
 go_ret
 exact ⟨rfl, rfl⟩
theorem Z61 (b : Nat) (g : Nat -> Nat) (w : World) (hb : Bk w b 512 pageT g) (hg : ∀ i, g i < 256) :
  Calls Tryz.prog 160 #[.pointer (some ⟨b, 0, none⟩)] w fun e w' => e = .returned (.int .i64 (Zu g 2 2)) /\ w = w' := by
 have h16 := Z6T hg 2
 have HB := zh hb
 have HG := zh hg
 clear hb hg
 go_enter Tryz.func160, Tryz.ntmps160
 go_wp2_with fail
 refine (Z6S _ 512 _ _ _ pageT g _ HB.out HG.out (by omega) (by omega) (by omega)).mono ?_
 rintro e w' ⟨rfl, rfl⟩
 go_wp2
 go_ret
 exact ⟨rfl, rfl⟩
theorem Z3s (b c s : Nat) (g : Nat -> Nat) (w : World) (hb : Bk w b 512 pageT g) (hc : c < 65536) (hs : s < 65536) :
  Calls Tryz.prog 134 #[.pointer (some ⟨b, 0, none⟩), .int .i64 c, .int .i64 s] w fun e w' => e = .returned (.tuple #[]) /\ Z0 (· = b) w w' /\ Bk w' b 512 pageT (ZF (ZF g 0 2 c) 2 2 s) := by
 have HB := zh hb
 clear hb
 go_enter Tryz.func134, Tryz.ntmps134
 go_wp2_with fail
 refine (Z2y _ 512 _ _ _ c pageT g _ HB.out (by omega) (by omega) (by omega) (by omega)).mono ?_
 rintro e w1 ⟨rfl, ho1, hb1⟩
 have HO1 := zh ho1
 have HB1 := zh hb1
 clear ho1 hb1
 go_wp2_with fail
 refine (Z2y _ 512 _ _ _ s pageT _ _ HB1.out (by omega) (by omega) (by omega) (by omega)).mono ?_
 rintro e w2 ⟨rfl, ho2, hb2⟩
 have HO2 := zh (HO1.out.trans ho2)
 have HB2 := zh hb2
 clear ho2 hb2
 go_wp2_with fail
 go_end0
 exact ⟨rfl, HO2.out, HB2.out⟩
theorem Zf1 (b i : Nat) (g : Nat -> Nat) (w : World) (hb : Bk w b 512 pageT g) (hg : ∀ i, g i < 256) (hi : 8 + 4 * i <= 512) :
  Calls Tryz.prog 143 #[.pointer (some ⟨b, 0, none⟩), .int .i64 i] w fun e w' => e = .returned (.tuple #[.int .i64 (Zu g (4 + 4 * i) 2), .int .i64 (Zu g (4 + 4 * i + 2) 2)]) /\ ∃ n, w' = w.drewN n := by
 have h1 := Z6T hg (4 + 4 * i)
 have h2 := Z6T hg (4 + 4 * i + 2)
 have HB := zh hb
 have HG := zh hg
 clear hb hg
 have hsl := fun w => Z34 b (4 + 4 * i) (4 + 4 * (i : Int)) (by omega) (by omega) w
 go_enter Tryz.func143, Tryz.ntmps143
 go_wp2_with fail
 go_quiet ((go_at_call 144; exact Z4c (Z6S _ 512 _ _ _ pageT g _ HB.out HG.out (by omega) (by omega) (by omega))))
 go_wp2
 go_ret2
 exact ⟨rfl, _, rfl⟩
theorem Z4N (b i f s : Nat) (g : Nat -> Nat) (w : World) (hb : Bk w b 512 pageT g) (hi : 8 + 4 * i <= 512) (hc : f < 65536) (hs : s < 65536) :
  Calls Tryz.prog 162 #[.pointer (some ⟨b, 0, none⟩), .int .i64 i, .int .i64 f, .int .i64 s] w fun e w' => e = .returned (.tuple #[]) /\ Z0 (· = b) w w' /\ Bk w' b 512 pageT (ZF (ZF g (4 + 4 * i) 2 f) (4 + 4 * i + 2) 2 s) := by
 have HB := zh hb
 clear hb
 have hsl := fun w => Z34 b (4 + 4 * i) (4 + 4 * (i : Int)) (by omega) (by omega) w
 go_enter Tryz.func162, Tryz.ntmps162
 go_wp2_with fail
 refine (Z2y _ 512 _ _ _ f pageT g _ HB.out (by omega) (by omega) (by omega) (by omega)).mono ?_
 rintro e w1 ⟨rfl, ho1, hb1⟩
 have HO1 := zh ho1
 have HB1 := zh hb1
 clear ho1 hb1
 go_wp2_with fail
 refine (Z2y _ 512 _ _ _ s pageT _ _ HB1.out (by omega) (by omega) (by omega) (by omega)).mono ?_
 rintro e w2 ⟨rfl, ho2, hb2⟩
 have HO2 := zh (HO1.out.trans ho2)
 have HB2 := zh hb2
 clear ho2 hb2
 go_wp2_with fail
 go_end0
 exact ⟨rfl, HO2.out, HB2.out⟩
def ZA (w : World) (b : Nat) (L : List Slot) (st : Nat) : Prop := ∃ g, Bk w b 512 pageT g /\ Pg g L st
theorem ZA.kept {S : Nat -> Prop} {w w' : World} {b st : Nat} {L : List Slot} (h : ZA w b L st) (ho : Z0 S w w') (hn : ¬ S b) : ZA w' b L st := by
 obtain ⟨g, h1, h2⟩ := h
 exact ⟨g, h1.kept ho hn, h2⟩
theorem ZA.lt {w : World} {b st : Nat} {L : List Slot} (h : ZA w b L st) : b < w.heap.size := by
 obtain ⟨g, h1, h2⟩ := h
 exact h1.lt
theorem ZA.len {w : World} {b st : Nat} {L : List Slot} (h : ZA w b L st) : L.length <= 127 := by
 obtain ⟨g, h1, h2⟩ := h
 have := h2.fit
 have := h2.le
 omega
theorem Z0t (b st : Nat) (L : List Slot) (w : World) (h : ZA w b L st) :
  Calls Tryz.prog 142 #[.pointer (some ⟨b, 0, none⟩)] w fun e w' => e = .returned (.int .i64 L.length) /\ w = w' := by
 obtain ⟨g, h1, h2⟩ := h
 have := Z9t b g w h1 h2.lt
 rw [h2.cnt] at this
 exact this
theorem Z5B (b st : Nat) (L : List Slot) (w : World) (h : ZA w b L st) :
  Calls Tryz.prog 160 #[.pointer (some ⟨b, 0, none⟩)] w fun e w' => e = .returned (.int .i64 st) /\ w = w' := by
 obtain ⟨g, h1, h2⟩ := h
 have := Z61 b g w h1 h2.lt
 rw [h2.st] at this
 exact this
theorem Z63 : Tryz.zeroCells247 = tab 512 (Z0Q (fun _ => 0)) := by
 apply ZaR
 ·kernel_rfl
 ·have h : (List.range 512).all (fun i => match Tryz.zeroCells247[i]? with | some (.int .u8 0) => true | _ => false) = true := by kernel_rfl
  intro i hi
  have := List.all_eq_true.1 h i (List.mem_range.2 hi)
  revert this
  split
  ·rename_i e; intro _; exact e
  ·intro x; cases x
theorem ZgB (w : World) :
  Calls Tryz.prog 95 #[] w fun e w' => e = .returned (.pointer (some ⟨w.heap.size, 0, none⟩)) /\ Quiet w w' /\ w.heap.size < w'.heap.size /\ ZA w' w.heap.size [] 512 := by
 go_enter Tryz.func95, Tryz.ntmps95
 go_wp2_with fail
 refine (Z3s _ 0 512 (fun _ => 0) _ (by unfold Bk; rw [Z5, Z63]) (by omega) (by omega)).mono ?_
 rintro e w1 ⟨rfl, ho, hb⟩
 have HO := zh ho
 have HB := zh hb
 clear ho hb
 go_wp2
 go_ret
 refine ⟨rfl, ((Z0.refl _ _).alloc _).trans' HO.out (fun k hk e => by omega), by have := HO.out.size; simp at this; omega, _, HB.out, Pg.new⟩
theorem Z6U (pg sl : Int) (w : World) :
  Calls Tryz.prog 135 #[.agg #[.int .i64 pg, .int .i64 sl]] w fun e w' => e = .returned (.bool (Z0R pg sl)) /\ Quiet w w' := by
 have hq : Hid (Quiet w (w.alloc (.cells #[.int .i64 pg, .int .i64 sl] 48))) := (Z0.refl _ _).alloc _
 by_cases h1 : pg = -1
 ·have hF : Z0R pg sl = (pg != sl) := by
   unfold Z0R; rw [if_pos (Or.inl h1)]; rw [Bool.eq_iff_iff]; simp
  rw [hF]
  have HF := zh hF
  clear hF
  have hb : (pg == -1) = true := by simp [h1]
  clear h1
  go_enter Tryz.func135, Tryz.ntmps135
  go_wp2
  go_ret
  exact ⟨rfl, hq.out⟩
 ·have hb : (pg == -1) = false := by simp [h1]
  by_cases h2 : sl = -1
  ·have hF : Z0R pg sl = (pg != sl) := by
    unfold Z0R; rw [if_pos (Or.inr h2)]; rw [Bool.eq_iff_iff]; simp
   rw [hF]
   clear hF
   have hb2 : (sl == -1) = true := by simp [h2]
   clear h1 h2
   go_enter Tryz.func135, Tryz.ntmps135
   go_wp2
   go_ret
   exact ⟨rfl, hq.out⟩
  ·have hF : Z0R pg sl = decide (pg < 0 ∨ 65536 <= pg ∨ sl < 0 ∨ 65535 <= sl) := by
    unfold Z0R; rw [if_neg (by omega)]
   have hb2 : (sl == -1) = false := by simp [h2]
   have HF := zh hF
   clear h1 h2 hF
   by_cases a1 : pg < 0
   ·have hT : Hid (Z0R pg sl = true) := by rw [HF.out]; exact decide_eq_true (by omega)
    go_enter Tryz.func135, Tryz.ntmps135
    go_wp2
    go_ret
    rw [hT.out]; exact ⟨rfl, hq.out⟩
   ·have d1 : decide (pg < 0) = false := decide_eq_false a1
    by_cases a2 : 65536 <= pg
    ·have hT : Hid (Z0R pg sl = true) := by rw [HF.out]; exact decide_eq_true (by omega)
     go_enter Tryz.func135, Tryz.ntmps135
     go_wp2
     go_ret
     rw [hT.out]; exact ⟨rfl, hq.out⟩
    ·have d2 : decide (65536 <= pg) = false := decide_eq_false a2
     by_cases a3 : sl < 0
     ·have hT : Hid (Z0R pg sl = true) := by rw [HF.out]; exact decide_eq_true (by omega)
      go_enter Tryz.func135, Tryz.ntmps135
      go_wp2
      go_ret
      rw [hT.out]; exact ⟨rfl, hq.out⟩
     ·have d3 : decide (sl < 0) = false := decide_eq_false a3
      have hT : Hid (Z0R pg sl = decide (65535 <= sl)) := by rw [HF.out]; simp only [decide_eq_decide]; exact ⟨fun h => by omega, fun h => by omega⟩
      go_enter Tryz.func135, Tryz.ntmps135
      go_wp2
      go_ret
      rw [hT.out]; exact ⟨rfl, hq.out⟩
def Zt (t : Tup) (A : Option Addr) (cap : Nat) : Value := .agg #[.int .u64 t.row, .int .u64 t.xmin, .int .u64 t.xmax, .int .i64 t.pg, .int .i64 t.sl, .slice A t.data.length cap]
def Z3c (row xmin xmax : Nat) (far : Bool) (n : Nat) : Bool := decide (max (max (row : Int) xmin) xmax <= 1099511627776) && (!far && decide ((n : Int) <= 200))
theorem Zf2 (t : Tup) : Z3c t.row t.xmin t.xmax (Z0R t.pg t.sl) t.data.length = t.rightB := by
 unfold Z3c Tup.rightB
 rw [Bool.eq_iff_iff]
 simp only [Bool.and_eq_true, decide_eq_true_eq, Bool.not_eq_true']
 constructor
 ·rintro ⟨h1, h2, h3⟩
  exact ⟨by omega, by omega, by omega, h2, by omega⟩
 ·rintro ⟨h1, h2, h3, h4, h5⟩
  exact ⟨by omega, h4, by omega⟩
theorem Zdw (row xmin xmax n cap : Nat) (pg sl : Int) (A : Option Addr) (w : World) :
  Calls Tryz.prog 156 #[.agg #[.int .u64 row, .int .u64 xmin, .int .u64 xmax, .int .i64 pg, .int .i64 sl, .slice A n cap]] w fun e w' => e = .returned (.bool (Z3c row xmin xmax (Z0R pg sl) n)) /\ Quiet w w' := by
 have HQ : Hid (Quiet w (w.alloc (.cells #[.int .u64 row, .int .u64 xmin, .int .u64 xmax, .int .i64 pg, .int .i64 sl, .slice A n cap] 104))) := (Z0.refl _ _).alloc _
 have hf := Z6U pg sl
 generalize Z0R pg sl = fb at hf ⊢
 have HF := zh hf
 clear hf
 by_cases h1 : max (max (row : Int) xmin) xmax <= 1099511627776
 ·have e1 : Hid (Z3c row xmin xmax fb n = (!fb && decide ((n : Int) <= 200))) := by unfold Z3c; rw [decide_eq_true h1]; rfl
  cases fb
  ·all_goals
    have e2 : Hid (Z3c row xmin xmax false n = decide ((n : Int) <= 200)) := e1.out
    go_enter Tryz.func156, Tryz.ntmps156
    go_wp2_with fail
    all_goals
     refine (HF.out _).mono ?_
     rintro e w1 ⟨rfl, hq1⟩
     have hblk : w1.heap[w.heap.size]? = _ := hq1.get (Z5 w _) (fun x => x)
     have hc5 : w1.cell? ⟨w.heap.size, 5, none⟩ = some (.slice A n cap) := by rw [Z1 hblk]; rfl
     have HQ1 := zh (HQ.out.trans hq1)
     clear hblk hq1
     go_wp2
     go_ret
     rw [e2.out]
     exact ⟨rfl, HQ1.out⟩
  ·have e2 : Hid (Z3c row xmin xmax true n = false) := e1.out
   go_enter Tryz.func156, Tryz.ntmps156
   go_wp2_with fail
   all_goals
    refine (HF.out _).mono ?_
    rintro e w1 ⟨rfl, hq1⟩
    have HQ1 := zh (HQ.out.trans hq1)
    clear hq1
    go_wp2
    go_ret
    rw [e2.out]
    exact ⟨rfl, HQ1.out⟩
 ·have e2 : Hid (Z3c row xmin xmax fb n = false) := by unfold Z3c; rw [decide_eq_false h1]; rfl
  have h3 : (1099511627776 : Int) < row ∨ (1099511627776 : Int) < xmin ∨ (1099511627776 : Int) < xmax := by omega
  clear h1
  go_enter Tryz.func156, Tryz.ntmps156
  rcases h3 with h3 | h3 | h3
  all_goals
   go_wp2_with fail
   all_goals
    go_ret
    rw [e2.out]
    exact ⟨rfl, HQ.out⟩
theorem Z64 (t : Tup) (A : Option Addr) (cap : Nat) (w : World) :
  Calls Tryz.prog 156 #[Zt t A cap] w fun e w' => e = .returned (.bool t.rightB) /\ Quiet w w' := by
 rw [<- Zf2]
 exact Zdw t.row t.xmin t.xmax t.data.length cap t.pg t.sl A w
theorem Z65 (i : Int) (w : World) :
  Calls Tryz.prog 112 #[.pointer none, .int .i64 i] w fun e w' => e = .returned (.slice none 0 0) /\ ∃ n, w' = w.drewN n := by
 go_enter Tryz.func112, Tryz.ntmps112
 go_wp2
 go_ret
 exact ⟨rfl, 0, rfl⟩
theorem Z1q (b st : Nat) (L : List Slot) (i : Int) (w : World) (h : ZA w b L st) (hi : Z0M L i = none) :
  Calls Tryz.prog 112 #[.pointer (some ⟨b, 0, none⟩), .int .i64 i] w fun e w' => e = .returned (.slice none 0 0) /\ ∃ n, w' = w.drewN n := by
 have HP := zh h
 by_cases h0 : i < 0
 ·clear hi h
  go_enter Tryz.func112, Tryz.ntmps112
  go_wp2
  go_ret
  exact ⟨rfl, 0, rfl⟩
 ·obtain ⟨k, rfl⟩ := Int.eq_ofNat_of_zero_le (show 0 <= i by omega)
  have d0 : decide ((k : Int) < 0) = false := by simp
  rw [Z10] at hi
  have hl := h.len
  by_cases hk : k < L.length
  ·have hs : L[k]? = some none := by
    rw [zg hk] at hi ⊢
    have : L[k] = none := hi
    rw [this]
   obtain ⟨g, h1, h2⟩ := h
   have HA := zh (Zf1 b k g w h1 h2.lt (by omega))
   have hp := h2.ptr k none hs
   rw [show 6 + 4 * k = 4 + 4 * k + 2 by omega] at hp
   have Hp := zh hp
   clear hi hs hp h1 h2
   go_enter Tryz.func112, Tryz.ntmps112
   go_wp2_with fail
   refine (Z0t b st L _ HP.out).mono ?_
   rintro e w1 ⟨rfl, rfl⟩
   go_wp2_with fail
   refine HA.out.mono ?_
   rintro e w1 ⟨rfl, n, rfl⟩
   rw [Hp.out.1, Hp.out.2]
   go_wp2
   go_ret
   exact ⟨rfl, n, rfl⟩
  ·clear hi h
   go_enter Tryz.func112, Tryz.ntmps112
   go_wp2_with fail
   refine (Z0t b st L _ HP.out).mono ?_
   rintro e w1 ⟨rfl, rfl⟩
   go_wp2
   go_ret
   exact ⟨rfl, 0, rfl⟩
theorem Z1r (b st f : Nat) (t : Tup) (L : List Slot) (i : Int) (w : World) (h : ZA w b L st) (hi : Z0M L i = some (f, t)) :
  Calls Tryz.prog 112 #[.pointer (some ⟨b, 0, none⟩), .int .i64 i] w fun e w' => e = .returned (.slice (some ⟨b, f, none⟩) t.size (512 - f)) /\ ∃ n, w' = w.drewN n := by
 have HP := zh h
 obtain ⟨k, rfl, hk, hs⟩ := Z3E hi
 have d0 : decide ((k : Int) < 0) = false := by simp
 have hl := h.len
 obtain ⟨g, h1, h2⟩ := h
 have HA := zh (Zf1 b k g w h1 h2.lt (by omega))
 have hp := h2.ptr k _ hs
 obtain ⟨v1, v2, v3, v4⟩ := h2.ver k f t hs
 rw [show 6 + 4 * k = 4 + 4 * k + 2 by omega] at hp
 have hp' : Zu g (4 + 4 * k) 2 = f /\ Zu g (4 + 4 * k + 2) 2 = t.size := hp
 have Hp := zh hp'
 have hsz := Tup.size_pos t
 obtain ⟨z, hz⟩ : ∃ z, z = t.size := ⟨_, rfl⟩
 rw [<- hz] at Hp hsz v2 ⊢
 have hsl := fun w => Z5A b f (f + z) (f : Int) ((f : Int) + z) rfl (by omega) (by omega) (by omega) (by omega) w
 rw [Nat.add_sub_cancel_left] at hsl
 have hz0 : ((z : Int) == 0) = false := by simp; omega
 clear hi hs hp hp' h1 h2 v4 v3 hz
 go_enter Tryz.func112, Tryz.ntmps112
 go_wp2_with fail
 refine (Z0t b st L _ HP.out).mono ?_
 rintro e w1 ⟨rfl, rfl⟩
 go_wp2_with fail
 refine HA.out.mono ?_
 rintro e w1 ⟨rfl, n, rfl⟩
 rw [Hp.out.1, Hp.out.2]
 go_wp2
 go_ret
 exact ⟨rfl, n, rfl⟩
theorem ZgC {L : List Slot} {k f : Nat} {t : Tup} (h : ∀ j, j < k -> ∀ s, L[j]? = some s -> s ≠ none) (hk : L[k]? = some (some (f, t))) : ∀ j, j < k + 1 -> ∀ s, L[j]? = some s -> s ≠ none := by
 intro j hj s hs
 by_cases e : j = k
 ·subst e; rw [hk] at hs; injection hs with hs; subst hs; simp
 ·exact h j (by omega) s hs
theorem Z9u (b st : Nat) (L : List Slot) (w : World) (h : ZA w b L st) :
  Calls Tryz.prog 158 #[.pointer (some ⟨b, 0, none⟩)] w fun e w' => e = .returned (.int .i64 (freeIdx L)) /\ ∃ n, w' = w.drewN n := by
 have HP := zh h
 have hl := h.len
 clear h
 have heq := fun (w : World) (a : Option Addr) (n c : Nat) => Lib.run_eql_slice_nil (P := Tryz.prog) w 22 _ a n c 0 0 Tryz.underlying22
 go_enter Tryz.func158, Tryz.ntmps158
 go_wp2_with fail
 refine (Z0t b st L _ (by exact HP.out)).mono ?_
 rintro e w1 ⟨rfl, rfl⟩
 go_wp2_with fail
 go_loopw [6] (fun v wr => ∃ k : Nat, k <= L.length /\ v = .int .i64 k /\ (∃ n, wr = w.drewN n) /\ (∀ j, j < k -> ∀ s, L[j]? = some s -> s ≠ none)) (fun v _ => L.length - (intOf v).toNat)
 case atStart => exact ⟨0, Nat.zero_le _, rfl, ⟨0, rfl⟩, fun j hj => absurd hj (by omega)⟩
 case round =>
  obtain ⟨k, hk, rfl, ⟨m, rfl⟩, hall⟩ := hrel
  have HA := zh hall
  clear hall
  by_cases hlt : k < L.length
  ·rcases hs : L[k]? with _ | s
   ·rw [zg hlt] at hs; cases hs
   ·have HS := zh hs
    clear hs
    rcases s with _ | ⟨f, t⟩
    ·have HE := zh (Zdu HS.out HA.out)
     go_wp2_with fail
     refine (Z1q b st L _ _ (by exact HP.out) (by rw [Z10, HS.out]; rfl)).mono ?_
     rintro e w1 ⟨rfl, n, rfl⟩
     go_wp2
     go_ret
     rw [HE.out]
     exact ⟨rfl, _, rfl⟩
    ·go_wp2_with fail
     refine (Z1r b st f t L _ _ (by exact HP.out) (by rw [Z10, HS.out]; rfl)).mono ?_
     rintro e w1 ⟨rfl, n, rfl⟩
     go_wp2
     go_roundw
     case rel => exact ⟨k + 1, by omega, by go_num, ⟨_, rfl⟩, ZgC HA.out HS.out⟩
     case measure => simp [intOf]; omega
  ·obtain rfl : k = L.length := by omega
   have HE := zh (ZaT HA.out)
   go_wp2_with fail
   refine (Z0t b st L _ (by exact HP.out)).mono ?_
   rintro e w1 ⟨rfl, rfl⟩
   go_wp2
   go_ret
   rw [HE.out]
   exact ⟨rfl, _, rfl⟩
theorem Z79 {g : Nat -> Nat} {L : List Slot} {st : Nat} (h : Pg g L st) : ∀ k, k <= L.length -> Z1K (L.take k) <= 1000 * k
 | 0, _ => by simp [Z1K]
 | k + 1, hk => by
  have ih := Z79 h k (by omega)
  have hs : L[k]? = some L[k] := zg (by omega)
  rw [Z4O L k _ hs]
  have : Slot.size L[k] <= 512 := by
   rcases hx : L[k] with _ | ⟨f, t⟩
   ·simp [Slot.size]
   ·rw [hx] at hs
    have := (h.ver k f t hs).2.1
    have : Slot.size (some (f, t)) = t.size := rfl
    omega
  omega
theorem Z66 (b st : Nat) (L : List Slot) (w : World) (h : ZA w b L st) :
  Calls Tryz.prog 157 #[.pointer (some ⟨b, 0, none⟩)] w fun e w' => e = .returned (.int .i64 (Z1N L)) /\ ∃ n, w' = w.drewN n := by
 have HP := zh h
 have hl := h.len
 have HSB : Hid (∀ k, k <= L.length -> Z1K (L.take k) <= 1000 * k) := by
  obtain ⟨g, _, h2⟩ := h
  exact Z79 h2
 clear h
 go_enter Tryz.func157, Tryz.ntmps157
 go_wp2_with fail
 refine (Z0t b st L _ HP.out).mono ?_
 rintro e w1 ⟨rfl, rfl⟩
 go_wp2_with fail
 go_loopw [3, 9] (fun n v wr => ∃ k : Nat, k <= L.length /\ v = .int .i64 k /\ n = .int .i64 (478 - (Z1K (L.take k) : Int)) /\ (∃ n, wr = w.drewN n)) (fun _ v _ => L.length - (intOf v).toNat)
 case atStart => exact ⟨0, Nat.zero_le _, rfl, by simp [Z1K], ⟨0, rfl⟩⟩
 case round =>
  obtain ⟨k, hk, rfl, rfl, ⟨m, rfl⟩⟩ := hrel
  have hsb := HSB.out k hk
  by_cases hlt : k < L.length
  ·have hsb1 := HSB.out (k + 1) hlt
   rcases hs : L[k]? with _ | s
   ·rw [zg hlt] at hs; cases hs
   ·have HN := zh (Z4O L k s hs)
    have HS := zh hs
    clear hs
    rw [HN.out] at hsb1
    rcases s with _ | ⟨f, t⟩
    ·go_wp2_with fail
     refine (Z1q b st L _ _ (by exact HP.out) (by rw [Z10, HS.out]; rfl)).mono ?_
     rintro e w1 ⟨rfl, n, rfl⟩
     go_wp2
     go_roundw
     case rel => exact ⟨k + 1, by omega, by go_num, by rw [HN.out]; simp only [Slot.size]; congr 1; omega, ⟨_, rfl⟩⟩
     case measure => simp [intOf]; omega
    ·obtain ⟨z, hz⟩ : ∃ z, z = t.size := ⟨_, rfl⟩
     have hz' : Slot.size (some (f, t)) = z := hz.symm
     rw [hz'] at hsb1 HN
     go_wp2_with fail
     refine (Z1r b st f t L _ _ (by exact HP.out) (by rw [Z10, HS.out]; rfl)).mono ?_
     rintro e w1 ⟨rfl, n, rfl⟩
     rw [<- hz]
     clear hz hz'
     go_wp2
     go_roundw
     case rel => exact ⟨k + 1, by omega, by go_num, by rw [HN.out]; congr 1; omega, ⟨_, rfl⟩⟩
     case measure => simp [intOf]; omega
  ·obtain rfl : k = L.length := by omega
   have hfi := Z4d L
   obtain ⟨fi, Hfi⟩ : ∃ fi, Hid (fi = freeIdx L) := ⟨_, rfl⟩
   obtain ⟨sp, Hsp⟩ : ∃ sp, Hid (sp = Z1K L) := ⟨_, rfl⟩
   rw [List.take_length, <- Hsp.out] at hsb
   rw [List.take_length, <- Hsp.out]
   have HR : Hid (Z1N L = max (478 - (sp : Int) - (if fi = L.length then 4 else 0)) (-1)) := by unfold Z1N; rw [Hsp.out, Hfi.out]; rfl
   go_wp2_with fail
   refine (Z9u b st L _ (by exact HP.out)).mono ?_
   rintro e w1 ⟨rfl, n1, rfl⟩
   rw [<- Hfi.out] at hfi
   rw [<- Hfi.out]
   go_wp2_with fail
   refine (Z0t b st L _ (by exact HP.out)).mono ?_
   rintro e w1 ⟨rfl, rfl⟩
   by_cases hfe : fi = L.length
   ·have hb : ((fi : Int) == L.length) = true := by simp [hfe]
    rw [if_pos hfe] at HR
    clear hfe
    go_wp2
    go_ret
    rw [HR.out]
    exact ⟨rfl, _, rfl⟩
   ·have hb : ((fi : Int) == L.length) = false := by simp; omega
    rw [if_neg hfe] at HR
    clear hfe
    go_wp2
    go_ret
    rw [HR.out]
    exact ⟨by simp, _, rfl⟩
theorem Z83 (b st : Nat) (L : List Slot) (w : World) (h : ZA w b L st) :
  Calls Tryz.prog 111 #[.pointer (some ⟨b, 0, none⟩)] w fun e w' => e = .returned (.int .i64 L.length) /\ w = w' := by
 have HP := zh h
 clear h
 go_enter Tryz.func111, Tryz.ntmps111
 go_wp2_with fail
 refine (Z0t b st L _ HP.out).mono ?_
 rintro e w1 ⟨rfl, rfl⟩
 go_wp2
 go_ret
 exact ⟨rfl, rfl⟩
theorem Zf3 (b st : Nat) (L : List Slot) (w : World) (h : ZA w b L st) :
  Calls Tryz.prog 103 #[.pointer (some ⟨b, 0, none⟩)] w fun e w' => e = .returned (.int .i64 (Z3L L)) /\ ∃ n, w' = w.drewN n := by
 have HP := zh h
 have hl := h.len
 clear h
 have heq := fun (w : World) (a : Option Addr) (n c : Nat) => run_neq_slice_nil_any (P := Tryz.prog) w 22 _ a n c 0 0 Tryz.underlying22
 go_enter Tryz.func103, Tryz.ntmps103
 go_wp2_with fail
 refine (Z83 b st L _ HP.out).mono ?_
 rintro e w1 ⟨rfl, rfl⟩
 go_wp2_with fail
 go_loopw [3, 7] (fun n v wr => ∃ k : Nat, k <= L.length /\ v = .int .i64 k /\ n = .int .i64 (Z3L (L.take k)) /\ Z3L (L.take k) <= k /\ (∃ n, wr = w.drewN n)) (fun _ v _ => L.length - (intOf v).toNat)
 case atStart => exact ⟨0, Nat.zero_le _, rfl, rfl, Nat.zero_le _, ⟨0, rfl⟩⟩
 case round =>
  obtain ⟨k, hk, rfl, rfl, hu, ⟨m, rfl⟩⟩ := hrel
  by_cases hlt : k < L.length
  ·rcases hs : L[k]? with _ | s
   ·rw [zg hlt] at hs; cases hs
   ·have HN := zh (Z7x L k s hs)
    have HS := zh hs
    clear hs
    rcases s with _ | ⟨f, t⟩
    ·go_wp2_with fail
     refine (Z1q b st L _ _ (by exact HP.out) (by rw [Z10, HS.out]; rfl)).mono ?_
     rintro e w1 ⟨rfl, n, rfl⟩
     go_wp2
     go_roundw
     case rel => exact ⟨k + 1, by omega, by go_num, by rw [HN.out]; rfl, by rw [HN.out]; exact Nat.le_succ_of_le hu, ⟨_, rfl⟩⟩
     case measure => simp [intOf]; omega
    ·go_wp2_with fail
     refine (Z1r b st f t L _ _ (by exact HP.out) (by rw [Z10, HS.out]; rfl)).mono ?_
     rintro e w1 ⟨rfl, n, rfl⟩
     go_wp2
     go_roundw
     case rel => exact ⟨k + 1, by omega, by go_num, by rw [HN.out]; rfl, by rw [HN.out]; exact Nat.succ_le_succ hu, ⟨_, rfl⟩⟩
     case measure => simp [intOf]; omega
  ·obtain rfl : k = L.length := by omega
   rw [List.take_length] at hu
   rw [List.take_length]
   go_wp2
   go_ret
   exact ⟨rfl, _, rfl⟩
theorem ZiO (w : World) : (Instr.makeSlice 22 (.int .i64 30) (.int .i64 30)).run Tryz.prog w = .ok (.slice (some ⟨w.heap.size, 0, none⟩) 30 30) (w.alloc (.cells (tab 30 (Z0Q (fun _ => 0))) 5)) := by kernel_rfl
structure Z1d (w W : World) (row xmin xmax : Nat) (pg sl : Int) (A : Option Addr) (n cap : Nat) (g : Nat -> Nat) : Prop where
 quiet : Quiet w W
 box : W.heap[w.heap.size]? = some (.cells #[.int .u64 row, .int .u64 xmin, .int .u64 xmax, .int .i64 pg, .int .i64 sl, .slice A n cap] 104 (0, 0))
 out : Bk W (w.heap.size + 1) 30 5 g
theorem Z1d.drew {w W : World} {row xmin xmax : Nat} {pg sl : Int} {A : Option Addr} {n cap : Nat} {g : Nat -> Nat} (h : Z1d w W row xmin xmax pg sl A n cap g) : Z1d w W.drew row xmin xmax pg sl A n cap g := ⟨h.quiet.drew, h.box, h.out⟩
theorem Z1d.put {w W W' : World} {row xmin xmax : Nat} {pg sl : Int} {A : Option Addr} {n cap : Nat} {g g' : Nat -> Nat} (h : Z1d w W row xmin xmax pg sl A n cap g) (ho : Z0 (· = w.heap.size + 1) W W') (hb : Bk W' (w.heap.size + 1) 30 5 g') : Z1d w W' row xmin xmax pg sl A n cap g' :=
 ⟨h.quiet.trans' ho (fun k hk e => by omega), ho.get h.box (fun e => by omega), hb⟩
theorem Z1d.cell0 {w W : World} {row xmin xmax : Nat} {pg sl : Int} {A : Option Addr} {n cap : Nat} {g : Nat -> Nat} (h : Z1d w W row xmin xmax pg sl A n cap g) : W.cell? ⟨w.heap.size, 0, none⟩ = some (.int .u64 row) := by rw [Z1 h.box]; rfl
theorem Z1d.cell1 {w W : World} {row xmin xmax : Nat} {pg sl : Int} {A : Option Addr} {n cap : Nat} {g : Nat -> Nat} (h : Z1d w W row xmin xmax pg sl A n cap g) : W.cell? ⟨w.heap.size, 1, none⟩ = some (.int .u64 xmin) := by rw [Z1 h.box]; rfl
theorem Z1d.cell2 {w W : World} {row xmin xmax : Nat} {pg sl : Int} {A : Option Addr} {n cap : Nat} {g : Nat -> Nat} (h : Z1d w W row xmin xmax pg sl A n cap g) : W.cell? ⟨w.heap.size, 2, none⟩ = some (.int .u64 xmax) := by rw [Z1 h.box]; rfl
theorem Z1d.cell3 {w W : World} {row xmin xmax : Nat} {pg sl : Int} {A : Option Addr} {n cap : Nat} {g : Nat -> Nat} (h : Z1d w W row xmin xmax pg sl A n cap g) : W.cell? ⟨w.heap.size, 3, none⟩ = some (.int .i64 pg) := by rw [Z1 h.box]; rfl
theorem Z1d.cell4 {w W : World} {row xmin xmax : Nat} {pg sl : Int} {A : Option Addr} {n cap : Nat} {g : Nat -> Nat} (h : Z1d w W row xmin xmax pg sl A n cap g) : W.cell? ⟨w.heap.size, 4, none⟩ = some (.int .i64 sl) := by rw [Z1 h.box]; rfl
theorem Z1d.cell5 {w W : World} {row xmin xmax : Nat} {pg sl : Int} {A : Option Addr} {n cap : Nat} {g : Nat -> Nat} (h : Z1d w W row xmin xmax pg sl A n cap g) : W.cell? ⟨w.heap.size, 5, none⟩ = some (.slice A n cap) := by rw [Z1 h.box]; rfl
def Z0u (n : Nat) (g : Nat -> Nat) : List Value := ((List.range n).map g).map (fun x : Nat => Value.int .u8 x)
theorem Z1d.owns {w W : World} {row xmin xmax : Nat} {pg sl : Int} {A : Option Addr} {n cap : Nat} {g : Nat -> Nat} (h : Z1d w W row xmin xmax pg sl A n cap g) : W.ownsRow 0 5 1 (.slice (some ⟨w.heap.size + 1, 0, none⟩) 30 30) 30 (Z0u 30 g) := by
 refine ⟨by simp [Z0u], Or.inr ⟨_, 30, _, rfl, Nat.zero_le _, h.out, Nat.le_refl _, by decide, by simp [Z2d], ?_⟩⟩
 apply List.ext_getElem?
 intro i
 rw [List.getElem?_take]
 by_cases hi : i < 30
 ·rw [if_pos (by omega), Array.getElem?_toList, Z1Z hi]
  simp [Z0u, hi, Z0Q]
 ·rw [if_neg (by omega)]
  simp [Z0u, hi]
theorem Z0r (w : World) (a o : Obj) : ((w.alloc a).alloc o).heap[w.heap.size + 1]? = some o := by
 have h := Z5 (w.alloc a) o
 have e : (w.alloc a).heap.size = w.heap.size + 1 := by simp
 rw [e] at h
 exact h
theorem Z84 (b N off n cap x : Nat) (y : Int) (t : TypeId) (g : Nat -> Nat) (w : World) (hb : Bk w b N t g) (hn : n <= 8) (hN : off + n <= N) (hm : N <= 1000) (hy : y = x) (hx : x < 18446744073709551616) :
  Calls Tryz.prog 136 #[.slice (some ⟨b, off, none⟩) n cap, .int .u64 y] w fun e w' => e = .returned (.tuple #[]) /\ Z0 (· = b) w w' /\ Bk w' b N t (ZF g off n x) := by
 subst hy
 exact Z2y b N off n cap x t g w hb hn hN hm hx
theorem Z4P (x : Int) (h0 : -1 <= x) (h1 : x <= 65536) : IntKind.u64.wrap (IntKind.i64.wrap (x + 1)) = ((x + 1).toNat : Int) := by
 rw [IntKind.wrap_i64, IntKind.wrap_u64]
 omega
def ZaU (w : World) (t : Tup) (e : Ending) (w' : World) : Prop :=
 ∃ v, e = .returned v /\ Quiet w w' /\ (∀ k, v.ownBlock = some k -> w.heap.size <= k) /\ w'.ownsRow 0 5 1 v t.size (Z0u t.size t.ver)
theorem Zdx (t : Tup) : Z0u 30 t.hdr ++ Zg t.data = Z0u t.size t.ver := by
 unfold Zg Z0u
 rw [<- List.map_append]
 congr 1
 unfold Tup.size
 apply List.ext_getElem?
 intro i
 rw [List.getElem?_append, List.length_map, List.length_range]
 by_cases hi : i < 30
 ·simp [hi, Tup.ver, show i < 30 + t.data.length by omega]
 ·rw [if_neg hi]
  by_cases h2 : i < 30 + t.data.length
  ·simp [h2, Tup.ver, hi, List.getD_eq_getElem?_getD, show i - 30 < t.data.length by omega]
  ·simp [h2, show ¬ i - 30 < t.data.length by omega]
theorem ZgD (t : Tup) (A : Option Addr) (cap : Nat) (S : Nat -> Prop) (w : World) (ht : t.Ok) (hd : Rd w S 1 A t.data.length (Zg t.data)) :
  Calls Tryz.prog 159 #[Zt t A cap] w (ZaU w t) := by
 have hmk := ZiO
 have hbd := ht.bounds
 have HD := zh hd
 have HPB := zh (Zdx t)
 obtain ⟨H, hH⟩ : ∃ H, H = t.hdr := ⟨_, rfl⟩
 have HH := zh (show H = ZF (ZF (ZF (ZF (ZF (fun _ => 0) 0 8 t.row) 8 8 t.xmin) 16 8 t.xmax) 24 4 (t.pg + 1).toNat) 28 2 (t.sl + 1).toNat from hH)
 rw [<- hH] at HPB
 clear hd hH
 unfold Zt
 obtain ⟨row, xmin, xmax, pg, sl, data⟩ := t
 dsimp only at hbd HD HH HPB ⊢
 obtain ⟨b1, b2, b3, b4, b5, b6, b7, b8⟩ := hbd
 have hn : ∃ n, n = data.length := ⟨_, rfl⟩
 go_enter Tryz.func159, Tryz.ntmps159
 go_wp2_with fail
 have HW : Hid (Z1d w ((w.alloc (.cells #[.int .u64 row, .int .u64 xmin, .int .u64 xmax, .int .i64 pg, .int .i64 sl, .slice A data.length cap] 104)).alloc (.cells (tab 30 (Z0Q (fun _ => 0))) 5)) row xmin xmax pg sl A data.length cap (fun _ => 0)) :=
  ⟨((Z0.refl _ _).alloc _).alloc _, Zd (Z5 _ _) _, Z0r _ _ _⟩
 generalize (w.alloc (.cells #[.int .u64 row, .int .u64 xmin, .int .u64 xmax, .int .i64 pg, .int .i64 sl, .slice A data.length cap] 104)).alloc (.cells (tab 30 (Z0Q (fun _ => 0))) 5) = W at HW ⊢
 have c0 := HW.out.cell0
 go_region_held3 (fun w' => w'.cell? ⟨w.heap.size, 0, none⟩ = some (.int .u64 row)) (first | go_keep | exact H1.out.cell0 | fail)
  (first | (go_at_call 136; go_must (refine (Z2y _ 30 0 8 _ row 5 _ _ HW.out.drew.out (by omega) (by omega) (by omega) (by omega)).mono ?_; rintro e w1 ⟨rfl, ho, hb⟩; have H1 := zh (HW.out.drew.put ho hb); clear ho hb)) | fail)
 clear c0 HW
 go_wp2_with fail
 have c1 := H1.out.cell1
 go_region_held3 (fun w' => w'.cell? ⟨w.heap.size, 1, none⟩ = some (.int .u64 xmin)) (first | go_keep | exact H2.out.cell1 | fail)
  (first | (go_at_call 136; go_must ((with_reducible refine (Z2y _ 30 8 8 _ xmin 5 _ _ H1.out.drew.out (by omega) (by omega) (by omega) (by omega)).mono ?_); rintro e w2 ⟨rfl, ho, hb⟩; have H2 := zh (H1.out.drew.put ho hb); clear ho hb)) | fail)
 clear c1 H1
 go_wp2_with fail
 have c2 := H2.out.cell2
 go_region_held3 (fun w' => w'.cell? ⟨w.heap.size, 2, none⟩ = some (.int .u64 xmax)) (first | go_keep | exact H3.out.cell2 | fail)
  (first | (go_at_call 136; go_must ((with_reducible refine (Z2y _ 30 16 8 _ xmax 5 _ _ H2.out.drew.out (by omega) (by omega) (by omega) (by omega)).mono ?_); rintro e w3 ⟨rfl, ho, hb⟩; have H3 := zh (H2.out.drew.put ho hb); clear ho hb)) | fail)
 clear c2 H2
 go_wp2_with fail
 have c3 := H3.out.cell3
 go_region_held3 (fun w' => w'.cell? ⟨w.heap.size, 3, none⟩ = some (.int .i64 pg)) (first | go_keep | exact H4.out.cell3 | fail)
  (first | (go_at_call 136; go_must ((with_reducible refine (Z84 _ 30 24 4 _ (pg + 1).toNat _ 5 _ _ H3.out.drew.out (by omega) (by omega) (by omega) (Z4P pg b4 (by omega)) (by omega)).mono ?_); rintro e w4 ⟨rfl, ho, hb⟩; have H4 := zh (H3.out.drew.put ho hb); clear ho hb)) | fail)
 clear c3 H3
 go_wp2_with fail
 have c4 := H4.out.cell4
 go_region_held3 (fun w' => w'.cell? ⟨w.heap.size, 4, none⟩ = some (.int .i64 sl)) (first | go_keep | exact H5.out.cell4 | fail)
  (first | (go_at_call 136; go_must ((with_reducible refine (Z84 _ 30 28 2 _ (sl + 1).toNat _ 5 _ _ H4.out.drew.out (by omega) (by omega) (by omega) (Z4P sl b6 (by omega)) (by omega)).mono ?_); rintro e w5 ⟨rfl, ho, hb⟩; have H5 := zh (H4.out.drew.put ho hb); clear ho hb)) | fail)
 clear c4 H4
 have c5 := H5.out.cell5
 have HF : Hid (Z1d w w5 row xmin xmax pg sl A data.length cap H) := by
  have := H5.out
  rw [HH.out]
  exact this
 have HDD := zh (HD.out.kept HF.out.quiet (fun _ _ x => x))
 clear H5
 go_wp2_with (at_builtin; refine app Z4k rfl (.tmp 36) (.tmp 38) rfl rfl HF.out.owns rfl HDD.out (Z31 _) (by unfold maxLen; omega) (by omega) ?_)
 intro v w6 hG
 have HG := zh hG
 clear hG
 go_wp2
 go_ret
 refine ⟨v, rfl, HF.out.quiet.trans' HG.out.only (fun k hk e => ?_), fun k e => ?_, ?_⟩
 ·simp [Value.ownBlock] at e; omega
 ·rcases HG.out.loc with x | x <;> rw [x] at e
  ·simp [Value.ownBlock] at e; omega
  ·injection e with e; have := HF.out.quiet.size; omega
 ·have := HG.out.own
  rw [HPB.out] at this
  exact this
def Z11 (w : World) (b N : Nat) (g : Nat -> Nat) : World := w.setRow b (tab N (Z0Q g))
theorem Z2a {w : World} {b N : Nat} {t : TypeId} {g : Nat -> Nat} (h : Bk w b N t g) (g' : Nat -> Nat) : Bk (Z11 w b N g') b N t g' := setRow_heap w b _ _ t _ h
theorem Z1A (w : World) (b N : Nat) (g : Nat -> Nat) : Z0 (· = b) w (Z11 w b N g) :=
 ⟨rfl, rfl, rfl, by simp [Z11, World.setRow], fun k _ hn => setRow_other w b k _ (fun e => hn (by first | exact e | exact e.symm))⟩
theorem ZaV (N off n : Nat) (g f : Nat -> Nat) (h : off + n <= N) : ((tab N (Z0Q g)).toList.take off ++ Z0u n f ++ (tab N (Z0Q g)).toList.drop (off + n)).toArray = tab N (Z0Q (Z0n g off n f)) := by
 have hl : (tab N (Z0Q g)).toList.length = N := by simp [Z2d]
 have hf : (Z0u n f).length = n := by simp [Z0u]
 apply ZaR
 ·simp [hl, hf, Z2d]; omega
 ·intro i hi
  rw [List.getElem?_toArray, List.getElem?_append, List.getElem?_append, List.length_append, List.length_take, hl, hf]
  have hm : min off N = off := by omega
  rw [hm]
  by_cases h1 : i < off
  ·rw [if_pos (by omega), if_pos h1, List.getElem?_take, if_pos h1, Array.getElem?_toList, Z1Z hi]
   unfold Z0Q
   rw [Z2e (by omega)]
  ·by_cases h2 : i < off + n
   ·rw [if_pos h2, if_neg h1]
    have e : i = off + (i - off) := by omega
    rw [show Z0Q (Z0n g off n f) i = .int .u8 (f (i - off)) by unfold Z0Q; rw [e, Z90 (by omega)]; simp]
    simp [Z0u, show i - off < n by omega]
   ·rw [if_neg h2, List.getElem?_drop, Array.getElem?_toList, show off + n + (i - (off + n)) = i by omega, Z1Z hi]
    unfold Z0Q
    rw [Z2e (by omega)]
theorem Zi5 : (Tryz.prog.info? 5).map (·.size) = some 1 := by kernel_rfl
theorem Zi6 (w : World) : (zeroValue 5).run Tryz.prog w = .ok (.int .u8 0) w := by kernel_rfl
theorem Zdy {n j : Nat} {f : Nat -> Nat} {v : Value} (h : (Z0u n f)[j]? = some v) : j < n /\ v = .int .u8 (f j) := by
 unfold Z0u at h
 rw [List.getElem?_map, List.getElem?_map] at h
 by_cases hj : j < n
 ·simp [hj] at h
  exact ⟨hj, h.symm⟩
 ·simp [hj] at h
theorem Z9v (n : Nat) (f : Nat -> Nat) : ∀ v ∈ Z0u n f, v.oneCell' = true := by
 intro u hu
 obtain ⟨x, _, rfl⟩ := List.mem_map.1 hu
 rfl
theorem Z7y (w : World) (b N off dl dc : Nat) (t : TypeId) (g : Nat -> Nat) (hb : Bk w b N t g) (sb so n sc : Nat) (f : Nat -> Nat) (hsrc : ∀ j, j < n -> w.cell? ⟨sb, so + j, none⟩ = some (.int .u8 (f j))) (hn : n <= dl) (hN : off + n <= N) (ty : TypeId) :
  (Builtin.copy_ #[22, 22] ty #[.slice (some ⟨b, off, none⟩) dl dc, .slice (some ⟨sb, so, none⟩) n sc]).run Tryz.prog w = .ok (.int .i64 n) (Z11 w b N (Z0n g off n f)) := by
 have hl : (Z0u n f).length = n := by simp [Z0u]
 rw [run_copy_row _ w _ _ ty 5 b off dl dc ⟨sb, so, none⟩ n sc _ t (Z0u n f) Tryz.underlying22 Zi5 hb (by rw [hl]; exact (Nat.min_eq_left hn).symm)
   (fun j v hv => by obtain ⟨hj, rfl⟩ := Zdy hv; rw [Zq]; exact hsrc j hj) (by rw [hl, Z2d]; exact hN) (Z9v n f)]
 rw [hl, ZaV N off n g f hN]
 rfl
theorem Z4Q (w : World) (b N off n c : Nat) (t : TypeId) (g : Nat -> Nat) (hb : Bk w b N t g) (hN : off + n <= N) (ty : TypeId) :
  (Builtin.clear_ #[22] ty #[.slice (some ⟨b, off, none⟩) n c]).run Tryz.prog w = .ok (.tuple #[]) (Z11 w b N (Z0n g off n (fun _ => 0))) := by
 have hl : (Z0u n (fun _ => 0)).length = n := by simp [Z0u]
 have hst := run_storeCells_at Tryz.prog b off t (Z0u n (fun _ => 0)) 0 _ w hb (by rw [hl, Z2d]; omega) (Z9v n _)
 rw [Nat.add_zero, hl, ZaV N off n g _ hN] at hst
 have hz : (Builtin.zeroCells (Value.cells (.int .u8 0)) n).toList = Z0u n (fun _ => 0) := by
  simp [Builtin.zeroCells, Value.cells, Z0u]
  intro a _
  simp [Nat.mod_one]
 unfold Z11
 rcases n with _ | m
 ·have e : w.setRow b (tab N (Z0Q (Z0n g off 0 (fun _ => 0)))) = w := by
   rw [Z6O (g := Z0Q g) (fun i _ => by unfold Z0Q; rw [Z2e (by omega)])]
   exact setRow_self w b _ t (0, 0) hb
  rw [e]
  simp [Builtin.clear_, run_underlying Tryz.underlying22]
 ·simp [Builtin.clear_, run_underlying Tryz.underlying22, Zi6, hz, hst]
theorem Z4t (k : Nat) (h : k <= 127) : IntKind.i64.wrap (4 + IntKind.i64.wrap (4 * (k : Int))) = ((4 + 4 * k : Nat) : Int) := by
 rw [IntKind.wrap_i64, IntKind.wrap_i64]
 omega
theorem Zf6 {M : List Slot} {m : Nat} (h : ∀ j s, m <= j -> M[j]? = some s -> s = none) (h0 : 0 < m) (hm : M[m - 1]? = some none) : ∀ j s, m - 1 <= j -> M[j]? = some s -> s = none := by
 intro j s hj hs
 by_cases e : j = m - 1
 ·subst e; rw [hm] at hs; injection hs with hs; exact hs.symm
 ·exact h j s (by omega) hs
theorem Z9x {M : List Slot} {m st : Nat} {g2 : Nat -> Nat} (h : Pg g2 M st) (hm : m <= M.length) (ha : ∀ j s, m <= j -> M[j]? = some s -> s = none) (ht : trim M = M.take m) :
  Pg (ZF (ZF (Z0n g2 (4 + 4 * m) (4 + 4 * M.length - (4 + 4 * m)) (fun _ => 0)) 0 2 m) 2 2 st) (trim M) st := by
 have := h.trim hm ha
 unfold Z5z at this
 rw [show 4 * (M.length - m) = 4 + 4 * M.length - (4 + 4 * m) by omega] at this
 rw [ht]
 exact this
theorem Zap (i : Int) (w : World) :
  Calls Tryz.prog 179 #[.pointer none, .int .i64 i] w fun e w' => e = .returned (.int .i64 15) /\ Quiet w w' := by
 have heq := fun (w : World) (a : Option Addr) (n c : Nat) => Lib.run_eql_slice_nil (P := Tryz.prog) w 22 _ a n c 0 0 Tryz.underlying22
 go_enter Tryz.func179, Tryz.ntmps179
 go_wp2_with fail
 refine (Z65 i _).mono ?_
 rintro e w1 ⟨rfl, n, rfl⟩
 go_wp2
 go_ret
 exact ⟨rfl, (Z0.refl _ _).drewN n⟩
theorem Z92 (b st : Nat) (L : List Slot) (i : Int) (w : World) (h : ZA w b L st) (hi : Z0M L i = none) :
  Calls Tryz.prog 179 #[.pointer (some ⟨b, 0, none⟩), .int .i64 i] w fun e w' => e = .returned (.int .i64 15) /\ Quiet w w' := by
 have heq := fun (w : World) (a : Option Addr) (n c : Nat) => Lib.run_eql_slice_nil (P := Tryz.prog) w 22 _ a n c 0 0 Tryz.underlying22
 have HI := zh hi
 have HP := zh h
 clear hi h
 go_enter Tryz.func179, Tryz.ntmps179
 go_wp2_with fail
 refine (Z1q b st L i _ HP.out HI.out).mono ?_
 rintro e w1 ⟨rfl, n, rfl⟩
 go_wp2
 go_ret
 exact ⟨rfl, (Z0.refl _ _).drewN n⟩
theorem Z93 (b st f : Nat) (t : Tup) (L : List Slot) (i : Int) (w : World) (h : ZA w b L st) (hi : Z0M L i = some (f, t)) :
  Calls Tryz.prog 179 #[.pointer (some ⟨b, 0, none⟩), .int .i64 i] w fun e w' => e = .returned (.int .i64 0) /\ Z0 (· = b) w w' /\ ZA w' b (trim (L.set i.toNat none)) st := by
 have heq := fun (w : World) (a : Option Addr) (n c : Nat) => Lib.run_eql_slice_nil (P := Tryz.prog) w 22 _ a n c 0 0 Tryz.underlying22
 have HB := zh (Z1r b st f t L i w h hi)
 obtain ⟨k, rfl, hk, hs⟩ := Z3E hi
 rw [Int.toNat_natCast]
 have hl := h.len
 obtain ⟨M, HM⟩ : ∃ M, Hid (M = L.set k none) := ⟨_, rfl⟩
 rw [<- HM.out]
 obtain ⟨g, h1, h2⟩ := h
 have hfit := h2.fit
 have hle := h2.le
 obtain ⟨v1, v2, v3, v4⟩ := h2.ver k f t hs
 have HF := zh (h2.free hs)
 have HG := zh h1
 have hts := Tup.size_pos t
 clear hi hs h1 h2 v3 v4
 go_enter Tryz.func179, Tryz.ntmps179
 go_wp2_with fail
 refine HB.out.mono ?_
 rintro e w1 ⟨rfl, n, rfl⟩
 have hclr := fun ty => Z4Q (w.drewN n) b 512 f t.size (512 - f) pageT g HG.out v2 ty
 go_wp2_with fail
 refine (Z4N b k 0 0 _ _ (Z2a (by exact HG.out) _) (by omega) (by omega) (by omega)).mono ?_
 rintro e w2 ⟨rfl, ho, hb⟩
 have HO := zh (((Z0.refl (· = b) w).drewN n).trans ((Z1A _ _ _ _).trans ho))
 have HP : Hid (ZA w2 b (L.set k none) st) := ⟨_, hb, by have := HF.out; unfold Z6Q at this; rw [show 6 + 4 * k = 4 + 4 * k + 2 by omega] at this; exact this⟩
 clear ho hb hclr HB HF HG
 rw [<- HM.out] at HP
 clear HM
 have hl2 : M.length <= 127 := HP.out.len
 go_wp2_with fail
 refine (Z0t b st M _ HP.out).mono ?_
 rintro e w3 ⟨rfl, rfl⟩
 go_wp2_with fail
 go_loopw [6] (fun v wr => ∃ m : Nat, m <= M.length /\ v = .int .i64 m /\ (∃ n, wr = w2.drewN n) /\ (∀ j s, m <= j -> M[j]? = some s -> s = none)) (fun v _ => (intOf v).toNat)
 case atStart => exact ⟨M.length, Nat.le_refl _, rfl, ⟨0, rfl⟩, fun j s hj hs => absurd (zi.1 hs).1 (by omega)⟩
 case round =>
  obtain ⟨m, hm, rfl, ⟨n1, rfl⟩, hall⟩ := hrel
  have HA := zh hall
  clear hall
  obtain ⟨g2, hg2, hp2⟩ := HP.out
  have hfit2 := hp2.fit
  have HG2 := zh hg2
  have HP2 := zh hp2
  clear hg2 hp2
  by_cases h0 : 0 < m
  ·have hb0 : decide ((0 : Int) < m) = true := by simp; omega
   rcases hs : M[m - 1]? with _ | s
   ·rw [zg (by omega)] at hs; cases hs
   ·have HS := zh hs
    clear hs
    rcases s with _ | ⟨f', t'⟩
    ·go_wp2_with fail
     refine (Z1q b st M _ _ (by exact HP.out) (by rw [show ((m : Int) - 1) = ((m - 1 : Nat) : Int) by omega, Z10, HS.out]; rfl)).mono ?_
     rintro e w4 ⟨rfl, n2, rfl⟩
     go_wp2
     go_roundw
     case rel => exact ⟨m - 1, by omega, by go_num, ⟨_, rfl⟩, Zf6 HA.out h0 HS.out⟩
     case measure => simp [intOf]; omega
    ·have HT := zh (Z9w M m hm HA.out (fun _ => ⟨_, HS.out⟩))
     have hm2 : 4 + 4 * m < 512 := by have := HP2.out.ver _ _ _ HS.out; have := Tup.size_pos t'; omega
     go_wp2_with fail
     refine (Z1r b st f' t' M _ _ (by exact HP.out) (by rw [show ((m : Int) - 1) = ((m - 1 : Nat) : Int) by omega, Z10, HS.out]; rfl)).mono ?_
     rintro e w4 ⟨rfl, n2, rfl⟩
     go_wp2_with fail
     have hsl := fun W => Z5A b (4 + 4 * m) (4 + 4 * M.length) _ _ (Z4t m (by omega)) (Z4t M.length (by omega)) (by omega) (by omega) (by omega) W
     have hclr := fun ty => Z4Q (w2.drewN (n1 + n2 + 1)) b 512 (4 + 4 * m) (4 + 4 * M.length - (4 + 4 * m)) (512 - (4 + 4 * m)) pageT g2 HG2.out (by omega) ty
     go_region_held3 (fun _ => True) (trivial)
      (first | (go_at_call 142; go_must (refine (Z0t b st M _ (by exact HP.out)).mono ?_; rintro e w4 ⟨rfl, rfl⟩)) | fail)
     clear hclr hsl
     have HG3 : Hid (Bk (Z11 (w2.drewN (n1 + n2 + 1)) b 512 (Z0n g2 (4 + 4 * m) (4 + 4 * M.length - (4 + 4 * m)) (fun _ => 0))) b 512 pageT (Z0n g2 (4 + 4 * m) (4 + 4 * M.length - (4 + 4 * m)) (fun _ => 0))) := Z2a (by exact HG2.out) _
     have HO3 : Hid (Z0 (· = b) w (Z11 (w2.drewN (n1 + n2 + 1)) b 512 (Z0n g2 (4 + 4 * m) (4 + 4 * M.length - (4 + 4 * m)) (fun _ => 0)))) := (HO.out.drewN _).trans (Z1A _ _ _ _)
     have HF := zh (Z9x HP2.out hm HA.out HT.out)
     generalize Z11 (w2.drewN (n1 + n2 + 1)) b 512 (Z0n g2 (4 + 4 * m) (4 + 4 * M.length - (4 + 4 * m)) (fun _ => 0)) = w5 at HG3 HO3 ⊢
     have HL3 := zh (Z3r HP2.out.lt (4 + 4 * m) (4 + 4 * M.length - (4 + 4 * m)) (f := fun _ => 0) (fun _ _ => by omega))
     have HS3 : Hid (Zu (Z0n g2 (4 + 4 * m) (4 + 4 * M.length - (4 + 4 * m)) (fun _ => 0)) 2 2 = st) := by rw [Z2x (by omega)]; exact HP2.out.st
     generalize Z0n g2 (4 + 4 * m) (4 + 4 * M.length - (4 + 4 * m)) (fun _ => 0) = g3 at HG3 HL3 HS3 HF
     go_wp2_with fail
     refine (Z61 b g3 _ HG3.out HL3.out).mono ?_
     rintro e w6 ⟨rfl, rfl⟩
     rw [HS3.out]
     go_wp2_with fail
     refine (Z3s b m st g3 _ HG3.out (by omega) (by omega)).mono ?_
     rintro e w6 ⟨rfl, ho6, hb6⟩
     have HO6 := zh (HO3.out.trans ho6)
     have HB6 := zh hb6
     clear ho6 hb6
     go_wp2
     go_ret
     exact ⟨rfl, HO6.out, _, HB6.out, HF.out⟩
  ·have hm0 : m = 0 := by omega
   have HT := zh (Z9w M m hm HA.out (fun h => absurd h h0))
   have hb0 : decide ((0 : Int) < m) = false := by simp; omega
   have hm2 : 4 + 4 * m < 512 := by omega
   clear hm0
   go_wp2_with fail
   have hsl := fun W => Z5A b (4 + 4 * m) (4 + 4 * M.length) _ _ (Z4t m (by omega)) (Z4t M.length (by omega)) (by omega) (by omega) (by omega) W
   have hclr := fun ty => Z4Q (w2.drewN (n1 + 1)) b 512 (4 + 4 * m) (4 + 4 * M.length - (4 + 4 * m)) (512 - (4 + 4 * m)) pageT g2 HG2.out (by omega) ty
   go_region_held3 (fun _ => True) (trivial)
    (first | (go_at_call 142; go_must (refine (Z0t b st M _ (by exact HP.out)).mono ?_; rintro e w4 ⟨rfl, rfl⟩)) | fail)
   clear hclr hsl
   have HG3 : Hid (Bk (Z11 (w2.drewN (n1 + 1)) b 512 (Z0n g2 (4 + 4 * m) (4 + 4 * M.length - (4 + 4 * m)) (fun _ => 0))) b 512 pageT (Z0n g2 (4 + 4 * m) (4 + 4 * M.length - (4 + 4 * m)) (fun _ => 0))) := Z2a (by exact HG2.out) _
   have HO3 : Hid (Z0 (· = b) w (Z11 (w2.drewN (n1 + 1)) b 512 (Z0n g2 (4 + 4 * m) (4 + 4 * M.length - (4 + 4 * m)) (fun _ => 0)))) := (HO.out.drewN _).trans (Z1A _ _ _ _)
   have HF := zh (Z9x HP2.out hm HA.out HT.out)
   generalize Z11 (w2.drewN (n1 + 1)) b 512 (Z0n g2 (4 + 4 * m) (4 + 4 * M.length - (4 + 4 * m)) (fun _ => 0)) = w5 at HG3 HO3 ⊢
   have HL3 := zh (Z3r HP2.out.lt (4 + 4 * m) (4 + 4 * M.length - (4 + 4 * m)) (f := fun _ => 0) (fun _ _ => by omega))
   have HS3 : Hid (Zu (Z0n g2 (4 + 4 * m) (4 + 4 * M.length - (4 + 4 * m)) (fun _ => 0)) 2 2 = st) := by rw [Z2x (by omega)]; exact HP2.out.st
   generalize Z0n g2 (4 + 4 * m) (4 + 4 * M.length - (4 + 4 * m)) (fun _ => 0) = g3 at HG3 HL3 HS3 HF
   go_wp2_with fail
   refine (Z61 b g3 _ HG3.out HL3.out).mono ?_
   rintro e w6 ⟨rfl, rfl⟩
   rw [HS3.out]
   go_wp2_with fail
   refine (Z3s b m st g3 _ HG3.out (by omega) (by omega)).mono ?_
   rintro e w6 ⟨rfl, ho6, hb6⟩
   have HO6 := zh (HO3.out.trans ho6)
   have HB6 := zh hb6
   clear ho6 hb6
   go_wp2
   go_ret
   exact ⟨rfl, HO6.out, _, HB6.out, HF.out⟩
theorem Z9y : (Tryz.prog.info? 247).map (·.size) = some 512 := by kernel_rfl
theorem Zi7 (N : Nat) (g : Nat -> Nat) : (tab N (Z0Q g)).all (·.oneCell') = true := by
 rw [Array.all_eq_true_iff_forall_mem]
 intro x hx
 obtain ⟨i, hi, rfl⟩ := Array.mem_iff_getElem.1 hx
 simp [tab, Z0Q, Value.oneCell']
theorem Zf7 {w : World} {ops : Array Oper} {rest : List Oper} {o : Oper} {a : Act} {Q : Exit -> Act -> World -> Prop} (hgd : o.guard = none) (x : Operand) (ho : o.op = .load 247 x)
  (b : Nat) (hx : a.eval x = .pointer (some ⟨b, 0, none⟩)) (g : Nat -> Nat) (hb : Bk w b 512 pageT g)
  (h : wpList Tryz.prog ops Q rest (a.put o.dst (.agg (tab 512 (Z0Q g)))) w) : wpList Tryz.prog ops Q (o :: rest) a w :=
 wpList_load_row hgd 247 x ho b hx pageT _ (0, 0) _ hb Tryz.underlying247 rfl (by rw [Z2d]; exact Z9y) h
theorem Zdz {w : World} {ops : Array Oper} {rest : List Oper} {o : Oper} {a : Act} {Q : Exit -> Act -> World -> Prop} (hgd : o.guard = none) (x y : Operand) (ho : o.op = .store 247 x y)
  (b : Nat) (hx : a.eval x = .pointer (some ⟨b, 0, none⟩)) (g g0 : Nat -> Nat) (hy : a.eval y = .agg (tab 512 (Z0Q g))) (hb : Bk w b 512 pageT g0)
  (h : wpList Tryz.prog ops Q rest (a.put o.dst undef) (Z11 w b 512 g)) : wpList Tryz.prog ops Q (o :: rest) a w :=
 wpList_store_row hgd 247 x y ho b _ hx hy pageT _ hb (by rw [Z2d]; exact Z9y) (by simp [Z2d]) (Zi7 _ _) h
structure Z49 (w wr : World) (b n i : Nat) (g0 : Nat -> Nat) (L : List Slot) : Prop where
 only : Z0 (· = b) w wr
 old : Bk wr w.heap.size 512 pageT g0
 mv : ∃ g, Bk wr b 512 pageT g /\ Mv g g0 n i (Z03 (L.take i)).1 (Z03 (L.take i)).2
theorem Z49.drewN {w wr : World} {b n i : Nat} {g0 : Nat -> Nat} {L : List Slot} (h : Z49 w wr b n i g0 L) (k : Nat) : Z49 w (wr.drewN k) b n i g0 L := ⟨h.only.drewN k, h.old, h.mv⟩
theorem Z3M {L : List Slot} {i : Nat} {s : Slot} (h : L[i]? = some s) : L.take (i + 1) = L.take i ++ [s] := by rw [List.take_add_one, h]; rfl
theorem ZgE {L : List Slot} {i : Nat} (h : L[i]? = some none) : (Z03 (L.take (i + 1))).2 = (Z03 (L.take i)).2 := by rw [Z3M h, Z2g]; rfl
theorem ZgF {L : List Slot} {i f : Nat} {t : Tup} (h : L[i]? = some (some (f, t))) : (Z03 (L.take (i + 1))).2 = (Z03 (L.take i)).2 - t.size := by rw [Z3M h, Z2g]; rfl
theorem Z7z : ∀ (L : List Slot), (Z03 L).2 = 512 - Z2S L := by
 intro L
 induction hn : L.length generalizing L with
 | zero =>
  have : L = [] := List.eq_nil_of_length_eq_zero hn
  subst this
  rfl
 | succ n ih =>
  have hne : L ≠ [] := fun e => by subst e; simp at hn
  obtain ⟨M, s, rfl⟩ : ∃ M s, L = M ++ [s] := ⟨L.dropLast, L.getLast hne, (List.dropLast_concat_getLast hne).symm⟩
  have hM : M.length = n := by simpa using hn
  have := ih M hM
  rw [Z2g, Z9s]
  rcases s with _ | ⟨f, t⟩
  ·show (Z03 M).2 = _
   rw [this]; rfl
  ·show (Z03 M).2 - t.size = _
   rw [this]
   have : Slot.size (some (f, t)) = t.size := rfl
   omega
theorem ZaW (L : List Slot) (i : Nat) : Z2S (L.take i) <= Z2S L := by
 conv => rhs; rw [<- List.take_append_drop i L]
 unfold Z2S
 rw [List.map_append, List.sum_append]
 omega
theorem Zf8 {L : List Slot} {i f : Nat} {t : Tup} (h : L[i]? = some (some (f, t))) (hr : 4 + 4 * L.length + Z2S L <= 512) : 4 + 4 * L.length + t.size <= (Z03 (L.take i)).2 /\ (Z03 (L.take i)).2 <= 512 := by
 have h1 := ZaW L (i + 1)
 rw [Z3M h, Z9s] at h1
 have : Slot.size (some (f, t)) = t.size := rfl
 rw [Z7z]
 omega
theorem Z49.none {w wr : World} {b i st : Nat} {g0 : Nat -> Nat} {L : List Slot} (h : Z49 w wr b L.length i g0 L) (hp : Pg g0 L st) (hi : L[i]? = some Option.none) : Z49 w wr b L.length (i + 1) g0 L := by
 obtain ⟨h1, h2, g, h3, h4⟩ := h
 refine ⟨h1, h2, g, h3, ?_⟩
 rw [Z3M hi, Z2g]
 have := hp.ptr i _ hi
 exact h4.none (zi.1 hi).1 this
theorem Z49.some {w wr w2 w3 : World} {b i f at_ st : Nat} {t : Tup} {g0 gc : Nat -> Nat} {L : List Slot} (h : Z49 w wr b L.length i g0 L) (hb : b < w.heap.size) (hp : Pg g0 L st) (hi : L[i]? = some (Option.some (f, t))) (ha : (Z03 (L.take i)).2 = at_) (hr : 4 + 4 * L.length + Z2S L <= 512)
  (hm : Mv gc g0 L.length i (Z03 (L.take i)).1 (Z03 (L.take i)).2) (o1 : Z0 (· = b) wr w2) (o2 : Z0 (· = b) w2 w3) (hb3 : Bk w3 b 512 pageT (ZF (ZF (Z0n gc (at_ - t.size) t.size t.ver) (4 + 4 * i) 2 (at_ - t.size)) (4 + 4 * i + 2) 2 t.size)) :
  Z49 w w3 b L.length (i + 1) g0 L := by
 subst ha
 have hat := Zf8 hi hr
 refine ⟨h.only.trans (o1.trans o2), (h.old.kept o1 (fun e => by omega)).kept o2 (fun e => by omega), _, hb3, ?_⟩
 rw [Z3M hi, Z2g]
 have := hm.some (zi.1 hi).1 (hp.ver i f t hi).2.2.1 hat.1
 unfold Z91 at this
 rw [show 6 + 4 * i = 4 + 4 * i + 2 by omega] at this
 exact this
theorem Zf9 (b st : Nat) (L : List Slot) (w : World) (h : ZA w b L st) (hr : 4 + 4 * L.length + Z2S L <= 512) (hl : L.length <= 126) :
  Calls Tryz.prog 161 #[.pointer (some ⟨b, 0, none⟩)] w fun e w' => e = .returned (.tuple #[]) /\ Z0 (· = b) w w' /\ ZA w' b (Z03 L).1 (Z03 L).2 := by
 obtain ⟨g, hg, hp⟩ := h
 have heq := fun (w : World) (a : Option Addr) (n c : Nat) => Lib.run_eql_slice_nil (P := Tryz.prog) w 22 _ a n c 0 0 Tryz.underlying22
 have hbl := hg.lt
 have HG := zh hg
 have HP := zh hp
 clear hg hp
 go_enter Tryz.func161, Tryz.ntmps161
 go_wp2_with (first
   | (with_reducible refine Zf7 rfl (.tmp 7) rfl b rfl g HG.out ?_)
   | (with_reducible refine Zdz rfl (.tmp 2) (.tmp 8) rfl w.heap.size rfl g (fun _ => 0) rfl (by unfold Bk; rw [Z5, Z63]) ?_)
   | fail)
 have HW0 : Hid (Quiet w (Z11 (w.alloc (.cells Tryz.zeroCells247 247)) w.heap.size 512 g) /\ Bk (Z11 (w.alloc (.cells Tryz.zeroCells247 247)) w.heap.size 512 g) w.heap.size 512 pageT g /\ Bk (Z11 (w.alloc (.cells Tryz.zeroCells247 247)) w.heap.size 512 g) b 512 pageT g) := by
  have o1 : Z0 (· = w.heap.size) (w.alloc (.cells Tryz.zeroCells247 247)) _ := Z1A (w.alloc (.cells Tryz.zeroCells247 247)) w.heap.size 512 g
  exact ⟨((Z0.refl _ _).alloc _).trans' o1 (fun k hk e => by omega), Z2a (g := fun _ => 0) (by unfold Bk; rw [Z5, Z63]) _, Bk.kept (Zd HG.out _) o1 (fun e => by omega)⟩
 generalize Z11 (w.alloc (.cells Tryz.zeroCells247 247)) w.heap.size 512 g = W0 at HW0 ⊢
 obtain ⟨hq0, hold0, hpg0⟩ := HW0.out
 have HQ0 := zh hq0
 have HOLD0 := zh hold0
 have HPG0 := zh hpg0
 clear hq0 hold0 hpg0 HW0
 have hsl := fun W => Z34 b (4 + 4 * L.length) _ (Z4t L.length (by omega)) (by omega) W
 have hclr := fun ty => Z4Q W0.drew b 512 (4 + 4 * L.length) (512 - (4 + 4 * L.length)) (512 - (4 + 4 * L.length)) pageT g HPG0.out (by omega) ty
 go_region_held3 (fun _ => True) (trivial)
  (first | (go_at_call 142; go_must (refine (Z0t b st L _ ⟨g, by exact HPG0.out, HP.out⟩).mono ?_; rintro e w4 ⟨rfl, rfl⟩)) | fail)
 have HS : Hid (Z49 w (Z11 W0.drew b 512 (Z0n g (4 + 4 * L.length) (512 - (4 + 4 * L.length)) (fun _ => 0))) b L.length 0 g L) := by
  have o1 := Z1A W0.drew b 512 (Z0n g (4 + 4 * L.length) (512 - (4 + 4 * L.length)) (fun _ => 0))
  exact ⟨(HQ0.out.drew.mono (fun _ _ x => x.elim)).trans o1, Bk.kept (w := W0.drew) HOLD0.out o1 (fun e => by omega), _, Z2a (by exact HPG0.out) _, Mv.start HP.out.lt (by omega)⟩
 generalize Z11 W0.drew b 512 (Z0n g (4 + 4 * L.length) (512 - (4 + 4 * L.length)) (fun _ => 0)) = W1 at HS ⊢
 clear hsl hclr HQ0 HOLD0 HPG0 HG
 go_wp2_with fail
 refine (Z0t _ st L _ ⟨g, HS.out.old, HP.out⟩).mono ?_
 rintro e w4 ⟨rfl, rfl⟩
 go_wp2_with fail
 go_loopw [3, 18] (fun a v wr => ∃ i : Nat, i <= L.length /\ v = .int .i64 i /\ a = .int .i64 (Z03 (L.take i)).2 /\ Z49 w wr b L.length i g L) (fun _ v _ => L.length - (intOf v).toNat)
 case atStart => exact ⟨0, Nat.zero_le _, rfl, rfl, HS.out⟩
 case round =>
  obtain ⟨i, hi, rfl, rfl, hW⟩ := hrel
  have HW := zh hW
  clear hW HS
  by_cases hlt : i < L.length
  ·rcases hs : L[i]? with _ | s
   ·rw [zg hlt] at hs; cases hs
   ·have HE := zh hs
    clear hs
    rcases s with _ | ⟨f, t⟩
    ·go_wp2_with fail
     refine (Z1q _ st L _ _ ⟨g, HW.out.old, HP.out⟩ (by rw [Z10, HE.out]; rfl)).mono ?_
     rintro e w4 ⟨rfl, n2, rfl⟩
     go_wp2
     go_roundw
     case rel => exact ⟨i + 1, by omega, by go_num, by rw [ZgE HE.out], (HW.out.drewN _).none HP.out HE.out⟩
     case measure => simp [intOf]; omega
    ·obtain ⟨v1, v2, v3, v4⟩ := HP.out.ver i f t HE.out
     have ha := Zf8 HE.out hr
     have HV := zh v4
     have HV3 := zh v3
     have hts := Tup.size_pos t
     obtain ⟨A, HA⟩ : ∃ A, Hid ((Z03 (L.take i)).2 = A) := ⟨_, rfl⟩
     rw [HA.out] at ha ⊢
     have HN := zh (ZgF HE.out)
     rw [HA.out] at HN
     obtain ⟨z, Hz⟩ : ∃ z, Hid (t.size = z) := ⟨_, rfl⟩
     have h63 : A <= 512 := ha.2
     have hz1 : 4 + 4 * L.length + z <= A := by rw [<- Hz.out]; exact ha.1
     have hz2 : f + z <= 512 := by rw [<- Hz.out]; exact v2
     have hz3 : 30 <= z := by rw [<- Hz.out]; exact hts
     clear v3 v4 ha hts v2
     go_wp2_with fail
     refine (Z1r _ st f t L _ _ ⟨g, HW.out.old, HP.out⟩ (by rw [Z10, HE.out]; rfl)).mono ?_
     rintro e w4 ⟨rfl, n2, rfl⟩
     rw [Hz.out]
     obtain ⟨gc, hgc, hmv⟩ := (HW.out.drewN n2).mv
     have HGC := zh hgc
     have HMV := zh hmv
     clear hgc hmv
     have hsl := fun W => Z34 b (A - z) ((A : Int) - z) (by omega) (by omega) W
     have hcp := fun ty => Z7y (wr.drewN n2) b 512 (A - z) (512 - (A - z)) (512 - (A - z)) pageT gc HGC.out w.heap.size f z (512 - f) t.ver (fun j hj => by rw [(HW.out.drewN n2).old.cell (by omega)]; rw [HV.out j (by rw [Hz.out]; exact hj)]) (by omega) (by omega) ty
     go_wp2_with fail
     rw [show ((A : Int) - (z : Int)) = ((A - z : Nat) : Int) by omega]
     refine (Z4N b i (A - z) z _ _ (Z2a (by exact HGC.out) _) (by omega) (by omega) (by omega)).mono ?_
     rintro e w5 ⟨rfl, ho, hb⟩
     have HX : Hid (Z49 w w5 b L.length (i + 1) g L) := (HW.out.drewN n2).some hbl HP.out HE.out HA.out hr HMV.out (Z1A _ _ _ _) ho (by rw [Hz.out]; exact hb)
     clear ho hb hcp hsl HGC HMV
     go_wp2
     go_roundw
     case rel => exact ⟨i + 1, by omega, by go_num, by rw [HN.out, Hz.out], HX.out⟩
     case measure => simp [intOf]; omega
  ·obtain rfl : i = L.length := by omega
   obtain ⟨gc, hgc, hmv⟩ := HW.out.mv
   rw [List.take_length] at hmv
   have hat := Z7z L
   have HGC := zh hgc
   have HMV := zh hmv
   have HC : Hid (Zu gc 0 2 = L.length) := by rw [ZD (g' := g) _ _ (fun x h1 h2 => hmv.same x (by omega))]; exact HP.out.cnt
   rw [List.take_length]
   obtain ⟨A, HA⟩ : ∃ A, Hid ((Z03 L).2 = A) := ⟨_, rfl⟩
   have hA : A <= 512 := by rw [<- HA.out]; exact hmv.hi
   clear hgc hmv hat
   go_wp2_with fail
   refine (Z9t b gc _ HGC.out HMV.out.lt).mono ?_
   rintro e w4 ⟨rfl, rfl⟩
   rw [HC.out, HA.out]
   go_wp2_with fail
   refine (Z3s b L.length A gc _ HGC.out (by omega) (by omega)).mono ?_
   rintro e w5 ⟨rfl, ho, hb⟩
   have HX : Hid (Z0 (· = b) w w5 /\ ZA w5 b (Z03 L).1 (Z03 L).2) := ⟨HW.out.only.trans ho, _, hb, by have := HMV.out.done; rw [HA.out] at this ⊢; exact this⟩
   clear ho hb
   go_wp2
   go_end0
   exact ⟨rfl, HX.out⟩
theorem Zi8 {w : World} {e : TypeId} {v : Value} {n : Nat} {xs : List Value} (h : w.ownsRow 0 e 1 v n xs) (hn : 0 < n) :
  ∃ g cap, v = .slice (some ⟨g, 0, none⟩) n cap /\ n <= cap /\ cap <= maxLen /\ g < w.heap.size /\ ∀ j u, xs[j]? = some u -> w.cell? ⟨g, j, none⟩ = some u := by
 rcases h.2 with ⟨_, rfl⟩ | ⟨g, cap, cur, rfl, _, hh, r1, r2, _⟩
 ·omega
 ·exact ⟨g, cap, rfl, r1, r2, Z2 hh, fun j u hu => by have := h.cells rfl j u hu; rw [Zq, Nat.zero_add] at this; exact this⟩
theorem Z9z {w : World} {b st S1 z c fi : Nat} {L L1 : List Slot} {g4 : Nat -> Nat} {t : Tup} (hp : Pg g4 L1 S1) (hl : L1.length = L.length) (ht : t.Ok) (hfi : freeIdx L = fi) (hfr : ∀ s, L1[freeIdx L]? = some s -> s = none) (hz : t.size = z) (hc : Z3t L = c)
  (hto : Z1s L st t = (Z41 L1 fi (some (S1 - z, t)), S1 - z)) (hS : z + (4 + 4 * c) <= S1) (hb : Bk w b 512 pageT (ZF (ZF (Z0n (ZF (ZF g4 0 2 c) 2 2 (S1 - z)) (S1 - z) z t.ver) (4 + 4 * fi) 2 (S1 - z)) (4 + 4 * fi + 2) 2 z)) :
  ZA w b (Z1s L st t).1 (Z1s L st t).2 := by
 subst hz hfi
 have hle := Z4d L
 have hcc : max L1.length (freeIdx L + 1) = c := by rw [hl]; exact hc
 have := hp.insert (slot := freeIdx L) (t := t) (by omega) hfr ht (by rw [hcc]; omega)
 rw [hcc] at this
 unfold Z5y at this
 rw [show 6 + 4 * freeIdx L = 4 + 4 * freeIdx L + 2 by omega] at this
 rw [hto]
 exact ⟨_, hb, this⟩
theorem Z0k {w : World} {k : Nat} {row xmin xmax : Nat} {pg sl : Int} {A : Option Addr} {n cap : Nat} {t : TypeId} {fr : Nat × Nat} (h : w.heap[k]? = some (.cells #[.int .u64 row, .int .u64 xmin, .int .u64 xmax, .int .i64 pg, .int .i64 sl, .slice A n cap] t fr)) :
  w.cell? ⟨k, 0, none⟩ = some (.int .u64 row) /\ w.cell? ⟨k, 1, none⟩ = some (.int .u64 xmin) /\ w.cell? ⟨k, 2, none⟩ = some (.int .u64 xmax) /\ w.cell? ⟨k, 3, none⟩ = some (.int .i64 pg) /\ w.cell? ⟨k, 4, none⟩ = some (.int .i64 sl) /\ w.cell? ⟨k, 5, none⟩ = some (.slice A n cap) :=
 ⟨by rw [Z1 h]; rfl, by rw [Z1 h]; rfl, by rw [Z1 h]; rfl, by rw [Z1 h]; rfl, by rw [Z1 h]; rfl, by rw [Z1 h]; rfl⟩
theorem Z94 (b st : Nat) (L : List Slot) (t : Tup) (A : Option Addr) (cap : Nat) (S : Nat -> Prop) (w : World) (h : ZA w b L st) (ht : t.Ok) (hd : Rd w S 1 A t.data.length (Zg t.data)) (hroom : ¬ Z1N L < t.data.length) :
  Calls Tryz.prog 127 #[.pointer (some ⟨b, 0, none⟩), Zt t A cap] w fun e w' => e = .returned (.tuple #[.int .i64 (freeIdx L), .int .i64 0]) /\ Z0 (· = b) w w' /\ ZA w' b (Z1s L st t).1 (Z1s L st t).2 := by
 have hbd := ht.bounds
 have hfit := ZgG hroom
 have hfi := Z4d L
 have hl := h.len
 have hbl := h.lt
 have HD := zh hd
 have HP := zh h
 have HT := zh ht
 have HR := zh (Z64 t A cap)
 rw [ht.right] at HR
 have HK : Hid (∀ W, Quiet w W -> Calls Tryz.prog 159 #[Zt t A cap] W (ZaU W t)) := fun W x => ZgD t A cap S W ht (hd.kept x (fun _ _ x => x))
 have hroom' : ((t.data.length : Int)) <= Z1N L := by omega
 clear hd h ht hroom
 unfold Zt at HR HK ⊢
 obtain ⟨R, HRM⟩ : ∃ R, Hid (Z1N L = R) := ⟨_, rfl⟩
 rw [HRM.out] at hroom'
 obtain ⟨fi, HFI⟩ : ∃ fi, Hid (freeIdx L = fi) := ⟨_, rfl⟩
 rw [HFI.out] at hfi ⊢
 go_enter Tryz.func127, Tryz.ntmps127
 go_wp2_with fail
 refine (HR.out _).mono ?_
 rintro e w1 ⟨rfl, hq1⟩
 have hbox : w1.heap[w.heap.size]? = _ := hq1.get (Z5 w _) (fun x => x)
 obtain ⟨c0, c1, c2, c3, c4, c5⟩ := Z0k hbox
 have HBX := zh hbox
 have HQ1 : Hid (Quiet w w1) := ((Z0.refl _ _).alloc _).trans hq1
 have hsz1 : w.heap.size < w1.heap.size := by have := hq1.size; simp at this; omega
 have HP1 : Hid (ZA w1 b L st) := HP.out.kept HQ1.out (fun x => x)
 have HROM : Hid (∀ n : Nat, Calls Tryz.prog 157 #[.pointer (some ⟨b, 0, none⟩)] (w1.drewN n) fun e w' => e = .returned (.int .i64 R) /\ ∃ k, w' = (w1.drewN n).drewN k) := fun n => by have := Z66 b st L (w1.drewN n) HP1.out; rw [HRM.out] at this; exact this
 have HFREE : Hid (∀ n : Nat, Calls Tryz.prog 158 #[.pointer (some ⟨b, 0, none⟩)] (w1.drewN n) fun e w' => e = .returned (.int .i64 fi) /\ ∃ k, w' = (w1.drewN n).drewN k) := fun n => by have := Z9u b st L (w1.drewN n) HP1.out; rw [HFI.out] at this; exact this
 clear hq1 hbox
 go_wp2_with fail
 go_quiet ((go_at_call 157; exact Calls.quiet_of (HROM.out _)))
 go_wp2_with fail
 go_region_held3 (fun w' => w'.cell? ⟨w.heap.size, 0, none⟩ = some (.int .u64 t.row) /\ w'.cell? ⟨w.heap.size, 1, none⟩ = some (.int .u64 t.xmin) /\ w'.cell? ⟨w.heap.size, 2, none⟩ = some (.int .u64 t.xmax) /\ w'.cell? ⟨w.heap.size, 3, none⟩ = some (.int .i64 t.pg) /\ w'.cell? ⟨w.heap.size, 4, none⟩ = some (.int .i64 t.sl) /\ w'.cell? ⟨w.heap.size, 5, none⟩ = some (.slice A t.data.length cap))
  (first | go_keep | exact Z0k (HQ2.out.get HBX.out (fun x => x)) | fail)
  (first
    | (go_at_call 158; go_must ((with_reducible refine (HFREE.out _).mono ?_); rintro e w2 ⟨rfl, n3, rfl⟩))
    | (go_at_call 159; go_must ((with_reducible refine (HK.out _ (HQ1.out.drewN _)).mono ?_); rintro e w3 ⟨v, rfl, hq3, hv, hown⟩; have HQ2 := zh hq3; have HV := zh hv; have HOWN := zh hown; clear hq3 hv hown))
    | fail)
 obtain ⟨z, Hz⟩ : ∃ z, Hid (t.size = z) := ⟨_, rfl⟩
 have hz : z <= 30 + t.data.length /\ 30 + t.data.length <= z := by rw [<- Hz.out]; exact ⟨Nat.le_refl _, Nat.le_refl _⟩
 have hown := HOWN.out
 rw [Hz.out] at hown
 obtain ⟨gb, vc, hv, hvc, hvm, hvl, hvs⟩ := Zi8 hown (by omega)
 have hgb : ¬ gb = b := by
  have := HV.out gb (by rw [hv]; rfl)
  have : w1.heap.size <= gb := this
  omega
 have HSRC : Hid (∀ j, j < z -> w3.cell? ⟨gb, 0 + j, none⟩ = some (.int .u8 (t.ver j))) := fun j hj => by rw [Nat.zero_add]; exact hvs j _ (by simp [Z0u, hj])
 have HP3 : Hid (ZA w3 b L st) := ZA.kept (S := fun _ => False) (w := w1.drewN (nq + 1 + n3)) HP1.out HQ2.out (fun x => x)
 have HO3 : Hid (Z0 (· = b) w w3) := (((HQ1.out.drewN _).trans HQ2.out).mono (fun _ _ x => x.elim))
 unfold maxLen at hvm
 subst hv
 obtain ⟨c, Hc⟩ : ∃ c, Hid (Z3t L = c) := ⟨_, rfl⟩
 rw [Hc.out] at hfit
 have hcm : max (L.length : Int) ((fi : Int) + 1) = c := by have := Hc.out; unfold Z3t at this; rw [HFI.out] at this; omega
 have hlc : L.length <= c /\ fi < c := by omega
 have Hcm := zh hcm
 have hst := HP3.out
 obtain ⟨_, _, hpp⟩ := hst
 have hst1 := hpp.le
 clear hpp hcm hown hvs HOWN HV HQ2 HK HR HFREE HROM HBX c0 c1 c2 c3 c4 c5
 go_wp2_with fail
 refine (Z0t b st L _ HP3.out).mono ?_
 rintro e w7 ⟨rfl, rfl⟩
 go_wp2_with fail
 rw [Hcm.out]
 refine (Z5B b st L _ HP3.out).mono ?_
 rintro e w7 ⟨rfl, rfl⟩
 by_cases hmv : st < z + (4 + 4 * c)
 ·have HTO : Hid (Z1s L st t = (Z41 (Z03 L).1 fi (some ((Z03 L).2 - z, t)), (Z03 L).2 - z)) := by unfold Z1s; rw [Hc.out, Hz.out, HFI.out, if_pos hmv]; rfl
  have hd : decide ((st : Int) - z < 4 + 4 * c) = true := by simp; omega
  go_wp2_with fail
  refine (Zf9 b st L _ HP3.out (by omega) (by omega)).mono ?_
  rintro e w4 ⟨rfl, ho4, hp4⟩
  have HO4 := zh (HO3.out.trans ho4)
  have HSRC4 : Hid (∀ j, j < z -> w4.cell? ⟨gb, 0 + j, none⟩ = some (.int .u8 (t.ver j))) := fun j hj => ho4.cell (HSRC.out j hj) hgb
  have HL1 := zh (ZaX L)
  have HFR := zh (ZdA L)
  have hat := Z7z L
  obtain ⟨L1, HLL⟩ : ∃ L1, Hid ((Z03 L).1 = L1) := ⟨_, rfl⟩
  obtain ⟨S1, HSS⟩ : ∃ S1, Hid ((Z03 L).2 = S1) := ⟨_, rfl⟩
  rw [HLL.out, HSS.out] at hp4 HTO
  rw [HLL.out] at HL1 HFR
  rw [HSS.out] at hat
  have HP4 := zh hp4
  have hS : z + (4 + 4 * c) <= S1 := by omega
  clear hat ho4 hp4 HP3 HSRC HLL HSS
  go_wp2_with fail
  refine (Z5B b S1 L1 _ HP4.out).mono ?_
  rintro e w8 ⟨rfl, rfl⟩
  obtain ⟨g4, hg4, hp4⟩ := HP4.out
  have HG4 := zh hg4
  have HPG4 := zh hp4
  have hst4 := hp4.le
  clear hg4 hp4
  have hsl := fun W => Z34 b (S1 - z) ((S1 : Int) - z) (by omega) (by omega) W
  go_wp2_with fail
  rw [show ((S1 : Int) - (z : Int)) = ((S1 - z : Nat) : Int) by omega] at hsl ⊢
  refine (Z3s b c (S1 - z) g4 _ HG4.out (by omega) (by omega)).mono ?_
  rintro e w5 ⟨rfl, ho5, hb5⟩
  have HO5 := zh (HO4.out.trans ho5)
  have HB5 := zh hb5
  have HSRC5 : Hid (∀ j, j < z -> w5.cell? ⟨gb, 0 + j, none⟩ = some (.int .u8 (t.ver j))) := fun j hj => ho5.cell (HSRC4.out j hj) hgb
  clear ho5 hb5
  have hcp := fun ty => Z7y w5 b 512 (S1 - z) (512 - (S1 - z)) (512 - (S1 - z)) pageT _ HB5.out gb 0 z vc t.ver HSRC5.out (by omega) (by omega) ty
  go_wp2_with fail
  refine (Z4N b fi (S1 - z) z _ _ (Z2a (by exact HB5.out) _) (by omega) (by omega) (by omega)).mono ?_
  rintro e w6 ⟨rfl, ho6, hb6⟩
  have HX : Hid (Z0 (· = b) w w6 /\ ZA w6 b (Z1s L st t).1 (Z1s L st t).2) := ⟨HO5.out.trans ((Z1A _ _ _ _).trans ho6), Z9z HPG4.out HL1.out HT.out HFI.out HFR.out Hz.out Hc.out HTO.out (by omega) hb6⟩
  clear ho6 hb6 hcp hsl
  go_wp2
  go_ret2
  exact ⟨rfl, HX.out⟩
 ·have HTO : Hid (Z1s L st t = (Z41 L fi (some (st - z, t)), st - z)) := by unfold Z1s; rw [Hc.out, Hz.out, HFI.out, if_neg hmv]; rfl
  have hd : decide ((st : Int) - z < 4 + 4 * c) = false := by simp; omega
  have HO4 := HO3
  have HSRC4 := HSRC
  have HFR := zh (Z62 L)
  have HP4 := HP3
  have hS : z + (4 + 4 * c) <= st := by omega
  clear HP3 HSRC
  go_wp2_with fail
  refine (Z5B b st L _ HP4.out).mono ?_
  rintro e w8 ⟨rfl, rfl⟩
  obtain ⟨g4, hg4, hp4⟩ := HP4.out
  have HG4 := zh hg4
  have HPG4 := zh hp4
  have hst4 := hp4.le
  clear hg4 hp4
  have hsl := fun W => Z34 b (st - z) ((st : Int) - z) (by omega) (by omega) W
  go_wp2_with fail
  rw [show ((st : Int) - (z : Int)) = ((st - z : Nat) : Int) by omega] at hsl ⊢
  refine (Z3s b c (st - z) g4 _ HG4.out (by omega) (by omega)).mono ?_
  rintro e w5 ⟨rfl, ho5, hb5⟩
  have HO5 := zh (HO4.out.trans ho5)
  have HB5 := zh hb5
  have HSRC5 : Hid (∀ j, j < z -> w5.cell? ⟨gb, 0 + j, none⟩ = some (.int .u8 (t.ver j))) := fun j hj => ho5.cell (HSRC4.out j hj) hgb
  clear ho5 hb5
  have hcp := fun ty => Z7y w5 b 512 (st - z) (512 - (st - z)) (512 - (st - z)) pageT _ HB5.out gb 0 z vc t.ver HSRC5.out (by omega) (by omega) ty
  go_wp2_with fail
  refine (Z4N b fi (st - z) z _ _ (Z2a (by exact HB5.out) _) (by omega) (by omega) (by omega)).mono ?_
  rintro e w6 ⟨rfl, ho6, hb6⟩
  have HX : Hid (Z0 (· = b) w w6 /\ ZA w6 b (Z1s L st t).1 (Z1s L st t).2) := ⟨HO5.out.trans ((Z1A _ _ _ _).trans ho6), Z9z HPG4.out rfl HT.out HFI.out HFR.out Hz.out Hc.out HTO.out (by omega) hb6⟩
  clear ho6 hb6 hcp hsl
  go_wp2
  go_ret2
  exact ⟨rfl, HX.out⟩
theorem Z7A (b : Nat) (t : Tup) (A : Option Addr) (cap : Nat) (w : World) (ht : t.rightB = false) :
  Calls Tryz.prog 127 #[.pointer (some ⟨b, 0, none⟩), Zt t A cap] w fun e w' => e = .returned (.tuple #[.int .i64 0, .int .i64 3]) /\ Quiet w w' := by
 have HR := zh (Z64 t A cap)
 rw [ht] at HR
 unfold Zt at HR ⊢
 clear ht
 go_enter Tryz.func127, Tryz.ntmps127
 go_wp2_with fail
 refine (HR.out _).mono ?_
 rintro e w1 ⟨rfl, hq1⟩
 have HQ1 : Hid (Quiet w w1) := ((Z0.refl _ _).alloc _).trans hq1
 clear hq1
 go_wp2
 go_ret2
 exact ⟨rfl, HQ1.out⟩
theorem Z7B (b st : Nat) (L : List Slot) (t : Tup) (A : Option Addr) (cap : Nat) (w : World) (h : ZA w b L st) (ht : t.rightB = true) (hroom : Z1N L < t.data.length) :
  Calls Tryz.prog 127 #[.pointer (some ⟨b, 0, none⟩), Zt t A cap] w fun e w' => e = .returned (.tuple #[.int .i64 0, .int .i64 12]) /\ Quiet w w' := by
 have HR := zh (Z64 t A cap)
 rw [ht] at HR
 have HP := zh h
 unfold Zt at HR ⊢
 clear ht h
 obtain ⟨R, HRM⟩ : ∃ R, Hid (Z1N L = R) := ⟨_, rfl⟩
 rw [HRM.out] at hroom
 go_enter Tryz.func127, Tryz.ntmps127
 go_wp2_with fail
 refine (HR.out _).mono ?_
 rintro e w1 ⟨rfl, hq1⟩
 have hbox : w1.heap[w.heap.size]? = _ := hq1.get (Z5 w _) (fun x => x)
 obtain ⟨c0, c1, c2, c3, c4, c5⟩ := Z0k hbox
 have HQ1 : Hid (Quiet w w1) := ((Z0.refl _ _).alloc _).trans hq1
 have HP1 : Hid (ZA w1 b L st) := HP.out.kept HQ1.out (fun x => x)
 have HROM : Hid (∀ n : Nat, Calls Tryz.prog 157 #[.pointer (some ⟨b, 0, none⟩)] (w1.drewN n) fun e w' => e = .returned (.int .i64 R) /\ ∃ k, w' = (w1.drewN n).drewN k) := fun n => by have := Z66 b st L (w1.drewN n) HP1.out; rw [HRM.out] at this; exact this
 clear hq1 hbox c0 c1 c2 c3 c4
 go_wp2_with fail
 go_quiet ((go_at_call 157; exact Calls.quiet_of (HROM.out _)))
 go_wp2
 go_ret2
 exact ⟨rfl, HQ1.out.drewN _⟩
theorem Zcg (b st : Nat) (L : List Slot) (t : Tup) (A : Option Addr) (cap : Nat) (S : Nat -> Prop) (w : World) (h : ZA w b L st) (hby : ∀ x ∈ t.data, x < 256) (hd : Rd w S 1 A t.data.length (Zg t.data)) :
  Calls Tryz.prog 127 #[.pointer (some ⟨b, 0, none⟩), Zt t A cap] w fun e w' => e = .returned (.tuple #[.int .i64 (Z3u L st t).1, .int .i64 (Z3u L st t).2.1]) /\ Z0 (· = b) w w' /\ ZA w' b (Z3u L st t).2.2.1 (Z3u L st t).2.2.2 := by
 rcases ht : t.rightB with _ | _
 ·refine (Z7A b t A cap w ht).mono ?_
  rintro e w' ⟨rfl, hq⟩
  rw [show Z3u L st t = (0, 3, L, st) from if_pos ht]
  exact ⟨rfl, hq.mono (fun _ _ x => x.elim), h.kept hq (fun x => x)⟩
 ·by_cases hr : Z1N L < t.data.length
  ·refine (Z7B b st L t A cap w h ht hr).mono ?_
   rintro e w' ⟨rfl, hq⟩
   rw [show Z3u L st t = (0, 12, L, st) by unfold Z3u; rw [if_neg (by simp [ht]), if_pos hr]]
   exact ⟨rfl, hq.mono (fun _ _ x => x.elim), h.kept hq (fun x => x)⟩
  ·refine (Z94 b st L t A cap S w h ⟨ht, hby⟩ hd hr).mono ?_
   rintro e w' ⟨rfl, ho, hp⟩
   rw [show Z3u L st t = ((freeIdx L : Int), 0, (Z1s L st t).1, (Z1s L st t).2) by unfold Z3u; rw [if_neg (by simp [ht]), if_neg hr]]
   exact ⟨rfl, ho, hp⟩
def Z0m (w : World) (b : Nat) (T : List (Option Tup)) : Prop := ∃ L st, ZA w b L st /\ Z0o L = T
theorem Z0m.kept {S : Nat -> Prop} {w w' : World} {b : Nat} {T : List (Option Tup)} (h : Z0m w b T) (ho : Z0 S w w') (hn : ¬ S b) : Z0m w' b T := by
 obtain ⟨L, st, h1, h2⟩ := h
 exact ⟨L, st, h1.kept ho hn, h2⟩
theorem Z0m.lt {w : World} {b : Nat} {T : List (Option Tup)} (h : Z0m w b T) : b < w.heap.size := by
 obtain ⟨L, st, h1, h2⟩ := h
 exact h1.lt
theorem Z0m.len {w : World} {b : Nat} {T : List (Option Tup)} (h : Z0m w b T) : T.length <= 127 := by
 obtain ⟨L, st, h1, h2⟩ := h
 rw [<- h2, Z3F]; exact h1.len
theorem Z35 (w : World) :
  Calls Tryz.prog 95 #[] w fun e w' => e = .returned (.pointer (some ⟨w.heap.size, 0, none⟩)) /\ Quiet w w' /\ w.heap.size < w'.heap.size /\ Z0m w' w.heap.size [] :=
 (ZgB w).mono fun _ _ ⟨a, b, c, d⟩ => ⟨a, b, c, [], 512, d, rfl⟩
theorem ZdE (b : Nat) (T : List (Option Tup)) (w : World) (h : Z0m w b T) :
  Calls Tryz.prog 157 #[.pointer (some ⟨b, 0, none⟩)] w fun e w' => e = .returned (.int .i64 (ZL T)) /\ ∃ n, w' = w.drewN n := by
 obtain ⟨L, st, h1, rfl⟩ := h
 rw [Z9A]
 exact Z66 b st L w h1
theorem Zch (b : Nat) (T : List (Option Tup)) (w : World) (h : Z0m w b T) :
  Calls Tryz.prog 111 #[.pointer (some ⟨b, 0, none⟩)] w fun e w' => e = .returned (.int .i64 T.length) /\ w = w' := by
 obtain ⟨L, st, h1, rfl⟩ := h
 rw [Z3F]
 exact Z83 b st L w h1
theorem ZdF (b : Nat) (T : List (Option Tup)) (w : World) (h : Z0m w b T) :
  Calls Tryz.prog 103 #[.pointer (some ⟨b, 0, none⟩)] w fun e w' => e = .returned (.int .i64 (Z0B T)) /\ ∃ n, w' = w.drewN n := by
 obtain ⟨L, st, h1, rfl⟩ := h
 rw [Zfb]
 exact Zf3 b st L w h1
theorem Z85 (b : Nat) (t : Tup) (T : List (Option Tup)) (i : Int) (w : World) (h : Z0m w b T) (hi : ZY T i = some t) :
  Calls Tryz.prog 179 #[.pointer (some ⟨b, 0, none⟩), .int .i64 i] w fun e w' => e = .returned (.int .i64 0) /\ Z0 (· = b) w w' /\ Z0m w' b (Z0f (T.set i.toNat none)) := by
 obtain ⟨L, st, h1, rfl⟩ := h
 rw [Z3N] at hi
 rcases hs : Z0M L i with _ | ⟨f, t'⟩
 ·rw [hs] at hi; cases hi
 ·refine (Z93 b st f t' L i w h1 hs).mono ?_
  rintro e w' ⟨rfl, ho, hp⟩
  exact ⟨rfl, ho, _, _, hp, by rw [<- Zfc, ZgJ]⟩
theorem Z86 (b : Nat) (T : List (Option Tup)) (i : Int) (w : World) (h : Z0m w b T) (hi : ZY T i = none) :
  Calls Tryz.prog 179 #[.pointer (some ⟨b, 0, none⟩), .int .i64 i] w fun e w' => e = .returned (.int .i64 15) /\ Quiet w w' := by
 obtain ⟨L, st, h1, rfl⟩ := h
 rw [Z3N] at hi
 refine Z92 b st L i w h1 ?_
 rcases hs : Z0M L i with _ | x
 ·rfl
 ·rw [hs] at hi; cases hi
theorem Z4u (b : Nat) (T : List (Option Tup)) (t : Tup) (A : Option Addr) (cap : Nat) (S : Nat -> Prop) (w : World) (h : Z0m w b T) (hby : ∀ x ∈ t.data, x < 256) (hd : Rd w S 1 A t.data.length (Zg t.data)) :
  Calls Tryz.prog 127 #[.pointer (some ⟨b, 0, none⟩), Zt t A cap] w fun e w' => e = .returned (.tuple #[.int .i64 (Z2n T t).1, .int .i64 (Z2n T t).2.1]) /\ Z0 (· = b) w w' /\ Z0m w' b (Z2n T t).2.2 := by
 obtain ⟨L, st, h1, rfl⟩ := h
 refine (Zcg b st L t A cap S w h1 hby hd).mono ?_
 rintro e w' ⟨rfl, ho, hp⟩
 have e1 : (Z2n (Z0o L) t).1 = (Z3u L st t).1 /\ (Z2n (Z0o L) t).2.1 = (Z3u L st t).2.1 /\ Z0o (Z3u L st t).2.2.1 = (Z2n (Z0o L) t).2.2 := by
  unfold Z2n Z3u
  rw [Z9A, Z67]
  split
  ·exact ⟨rfl, rfl, rfl⟩
  ·split
   ·exact ⟨rfl, rfl, rfl⟩
   ·exact ⟨rfl, rfl, ZdD L st t⟩
 rw [e1.1, e1.2.1]
 exact ⟨rfl, ho, _, _, hp, e1.2.2⟩
theorem ZhY {W w : World} (h : Quiet W w) : (∀ b o, b < W.heap.size -> w.cell? ⟨b, o, none⟩ = W.cell? ⟨b, o, none⟩) /\ (∀ b o, b < W.heap.size -> w.frozen? ⟨b, o, none⟩ = W.frozen? ⟨b, o, none⟩) :=
 ⟨fun b o hb => World.cell?_of_block (h.block b hb (fun x => x)), fun b o hb => World.frozen?_of_block (h.block b hb (fun x => x))⟩
theorem Rd.one (w : World) (v : Value) (e : TypeId) (fr : Nat × Nat) {S : Nat -> Prop} (hS : S w.heap.size) : Rd (w.alloc (.cells #[v] e fr)) S 1 (some ⟨w.heap.size, 0, none⟩) 1 [v] := by
 refine ⟨rfl, fun _ => ⟨w.heap.size, 0, rfl, hS, fun j u hu => ?_⟩⟩
 rw [Z1 (Z5 w _)]
 simpa using hu
abbrev sixSet (w : World) (b : Nat) (v0 v1 v2 v3 v4 v5 : Value) : World :=
 (((((w.setCell ⟨b, 0, none⟩ v0).setCell ⟨b, 1, none⟩ v1).setCell ⟨b, 2, none⟩ v2).setCell ⟨b, 3, none⟩ v3).setCell ⟨b, 4, none⟩ v4).setCell ⟨b, 5, none⟩ v5
theorem Z0Z {w : World} {b : Nat} {c0 c1 c2 c3 c4 c5 : Value} {t : TypeId} (h : w.heap[b]? = some (.cells #[c0, c1, c2, c3, c4, c5] t (0, 0))) (v0 v1 v2 v3 v4 v5 : Value) :
  (sixSet w b v0 v1 v2 v3 v4 v5).heap[b]? = some (.cells #[v0, v1, v2, v3, v4, v5] t (0, 0)) := by
 unfold sixSet
 rw [Zf (Zf (Zf (Zf (Zf (Zf h _ _) _ _) _ _) _ _) _ _) _ _]
 rfl
theorem Z0A (w : World) (b : Nat) (v0 v1 v2 v3 v4 v5 : Value) : Z0 (· = b) w (sixSet w b v0 v1 v2 v3 v4 v5) :=
 ((((((Z0.refl (· = b) w).setCell (p := ⟨b, 0, none⟩) (fun _ => rfl) v0).setCell (p := ⟨b, 1, none⟩) (fun _ => rfl) v1).setCell (p := ⟨b, 2, none⟩) (fun _ => rfl) v2).setCell (p := ⟨b, 3, none⟩) (fun _ => rfl) v3).setCell (p := ⟨b, 4, none⟩) (fun _ => rfl) v4).setCell (p := ⟨b, 5, none⟩) (fun _ => rfl) v5
section
variable {w1 w2 : World} {k : Nat} {v0 v1 v2 v3 v4 c0 c1 c2 c3 c4 c5 : Value}
end
def Z95 (w : World) (t : Tup) (e : Ending) (w' : World) : Prop :=
 ∃ A c, e = .returned (Zt t A c) /\ Z0K w w' (.slice A t.data.length c) t.data
theorem Z9C (n : Nat) (x : Int) (h : n = (x + 1).toNat) (h0 : -1 <= x) (h1 : x <= 65536) : IntKind.i64.wrap (IntKind.i64.wrap (n : Int) - 1) = x := by
 rw [IntKind.wrap_i64, IntKind.wrap_i64]
 omega
theorem Zi9 {w : World} {b f : Nat} {t : Tup} {g : Nat -> Nat} (hb : Bk w b 512 pageT g) (hv : ∀ j, j < t.size -> g (f + j) = t.ver j) (hf : f + t.size <= 512) : Rd w (· = b) 1 (some ⟨b, f + 30, none⟩) t.data.length (Zg t.data) := by
 refine ⟨by simp [Zg], fun _ => ⟨b, f + 30, rfl, rfl, fun j u hu => ?_⟩⟩
 unfold Zg at hu
 rw [List.getElem?_map] at hu
 rcases hx : t.data[j]? with _ | x
 ·rw [hx] at hu; cases hu
 ·have hj : j < t.data.length := (zi.1 hx).1
  have hts : t.size = 30 + t.data.length := rfl
  rw [hx] at hu
  rw [hb.cell (by omega), show f + 30 + j = f + (30 + j) by omega, hv (30 + j) (by omega), Tup.ver, if_neg (by omega), Nat.add_sub_cancel_left, List.getD_eq_getElem?_getD, hx]
  exact hu
theorem Zci {w w5 W6 : World} {o : Obj} {v : Value} {l : List Nat} (h : Z0K (w.alloc o).drew w5 v l) (ho : Z0 (· = w.heap.size) w5 W6) : Z0K w W6 v l := by
 refine ⟨((((Z0.refl _ _).alloc o).drew).trans h.quiet).trans' ho (fun k hk e => by omega), fun k e => ?_, Z4 h.own ho (fun k e x => ?_)⟩
 ·have := h.new k e
  simp at this
  omega
 ·have := h.new k e
  simp at this
  omega
theorem ZdG {w W : World} {t : Tup} {A : Option Addr} {c : Nat} (h : Z0K w W (.slice A t.data.length c) t.data) :
  Z95 w t (.returned (.agg #[.int .u64 t.row, .int .u64 t.xmin, .int .u64 t.xmax, .int .i64 t.pg, .int .i64 t.sl, .slice A t.data.length c])) W := ⟨A, c, rfl, h⟩
theorem Z2T : (Tryz.prog.info? 104).map (·.size) = some 6 := by kernel_rfl
theorem Z9D : Tryz.prog.underlying 22 = some (.slice (Tryz.prog.elem 22)) := by kernel_rfl
theorem Z4R (w : World) : (sizeOf (Tryz.prog.elem 22)).run Tryz.prog w = .ok 1 w := by kernel_rfl
theorem Zia (b f dl C : Nat) (hC : ¬ C = 30) (w : World) :
  (Instr.slice 22 (.slice (some ⟨b, f, none⟩) (30 + dl) C) (some (.int .i64 30)) none none).run Tryz.prog w = .ok (.slice (some ⟨b, f + 30, none⟩) dl (C - 30)) w := by
 rw [run_slice_l w _ _ _ _ Z9D _ _ (by omega) (by omega), Z4R]
 simp [sliced, hC, Zq]
theorem ZgK (b f dl : Nat) (w : World) :
  (Instr.slice 22 (.slice (some ⟨b, f, none⟩) (30 + dl) 30) (some (.int .i64 30)) none none).run Tryz.prog w = .ok (.slice (some ⟨b, f, none⟩) dl 0) w := by
 rw [run_slice_l w _ _ _ _ Z9D _ _ (by omega) (by omega), Z4R]
 simp [sliced]
theorem ZdH (b f C : Nat) (t : Tup) (g : Nat -> Nat) (w : World) (hb : Bk w b 512 pageT g) (hg : ∀ i, g i < 256) (ht : t.Ok) (hv : ∀ j, j < t.size -> g (f + j) = t.ver j) (hf : f + t.size <= 512) (hC : 30 + t.data.length <= C) :
  Calls Tryz.prog 113 #[.slice (some ⟨b, f, none⟩) (30 + t.data.length) C] w (Z95 w t) := by
 have hbd := ht.bounds
 have hts : 30 + t.data.length + f <= 512 := by have : t.size = 30 + t.data.length := rfl; omega
 have HRD := zh (Tup.read ht hv)
 have HG := zh hg
 have HDT := zh (Zi9 hb hv hf)
 have HB := zh hb
 clear hb hg hv hf ht
 have b1 : (8 : Int) <= C := by omega
 have b2 : (16 : Int) <= C := by omega
 have b3 : (24 : Int) <= C := by omega
 have b4 : (28 : Int) <= C := by omega
 have b5 : (30 : Int) <= C := by omega
 have n1 : ¬ C = 8 := by omega
 have n2 : ¬ C = 16 := by omega
 have n3 : ¬ C = 24 := by omega
 have n4 : ¬ C = 28 := by omega
 obtain ⟨fo, hs30, HDO⟩ : ∃ fo, (∀ W : World, (Instr.slice 22 (.slice (some ⟨b, f, none⟩) (30 + t.data.length) C) (some (.int .i64 30)) none none).run Tryz.prog W = .ok (.slice (some ⟨b, fo, none⟩) t.data.length (C - 30)) W) /\ Hid (Rd w (· = b) 1 (some ⟨b, fo, none⟩) t.data.length (Zg t.data)) := by
  by_cases h30 : C = 30
  ·subst h30
   have hd0 : t.data = [] := List.eq_nil_of_length_eq_zero (by omega)
   exact ⟨f, fun W => ZgK b f _ W, by rw [hd0]; exact Rd.nil _ _ _ _⟩
  ·exact ⟨f + 30, fun W => Zia b f _ C h30 W, HDT.out⟩
 clear HDT
 ·have hnum : ∀ (off n c : Nat) (W : World), Bk W b 512 pageT g -> n <= 8 -> off + n <= 512 -> Calls Tryz.prog 144 #[.slice (some ⟨b, off, none⟩) n c] W fun e w' => e = .returned (.int .u64 (Zu g off n)) /\ W = w' := fun off n c W h1 h2 h3 => Z6S b 512 off n c pageT g W h1 HG.out h2 h3 (by omega)
  have HN := zh hnum
  clear hnum
  go_enter Tryz.func113, Tryz.ntmps113
  go_wp2_with fail
  go_region_held3 (fun _ => True) (trivial)
   (first
     | (go_at_call 144; go_must ((with_reducible refine (HN.out _ _ _ _ ?_ ?_ ?_).mono ?_); (exact Zd HB.out _); omega; omega; rintro e w4 ⟨rfl, rfl⟩))
     | (go_at_call 120; go_must ((with_reducible refine (Z9r _ _ t.data (· = b) _ ?_ ?_).mono ?_); (exact (HDO.out.kept (((Z0.refl (fun _ => False) w).alloc _).drew) (fun _ _ x => x))); omega; rintro e w5 ⟨v, rfl, hfr⟩; obtain ⟨A', c', hv', _⟩ := Z9 hfr.own; subst hv'; obtain ⟨hc2, hf2⟩ := ZhY hfr.quiet; have HFR := zh hfr; clear hfr))
     | fail)
  rw [HRD.out.1, HRD.out.2.1, HRD.out.2.2.1, Z9C _ t.pg HRD.out.2.2.2.1 (by omega) (by omega), Z9C _ t.sl HRD.out.2.2.2.2 (by omega) (by omega)]
  have hres : w5.heap[w.heap.size]? = _ := HFR.out.quiet.get (Z5 w _) (fun x => x)
  have HX := zh (Z0Z hres (.int .u64 t.row) (.int .u64 t.xmin) (.int .u64 t.xmax) (.int .i64 t.pg) (.int .i64 t.sl) (.slice A' t.data.length c'))
  have HF6 := zh (Zci HFR.out (Z0A w5 w.heap.size (.int .u64 t.row) (.int .u64 t.xmin) (.int .u64 t.xmax) (.int .i64 t.pg) (.int .i64 t.sl) (.slice A' t.data.length c')))
  clear hc2 hf2 hres HFR
  unfold sixSet at HX HF6
  generalize (((((w5.setCell ⟨w.heap.size, 0, none⟩ (.int .u64 t.row)).setCell ⟨w.heap.size, 1, none⟩ (.int .u64 t.xmin)).setCell ⟨w.heap.size, 2, none⟩ (.int .u64 t.xmax)).setCell ⟨w.heap.size, 3, none⟩ (.int .i64 t.pg)).setCell ⟨w.heap.size, 4, none⟩ (.int .i64 t.sl)).setCell ⟨w.heap.size, 5, none⟩ (.slice A' t.data.length c') = W6 at HX HF6 ⊢
  go_wp2
  exact bodyPost_ret (results_cell_row Tryz.results113 _ _ w.heap.size _ _ (0, 0) _ (by rfl) HX.out Tryz.underlying104 rfl Z2T) (by rfl) (ZdG HF6.out)
section
variable {P : Program}
theorem ZC {fn : Func} {p q : Tmp} {ty : TypeId} (h : fn.results = #[.cell p ty, .tmp q]) (tmps : Array Value) (w : World) (g : Nat) (t : TypeId) (cs : Array Value) (fr : Nat × Nat) (d : TypeDesc)
  (hp : tmps.getD p undef = .pointer (some ⟨g, 0, none⟩)) (hg : w.heap[g]? = some (.cells cs t fr))
  (hu : P.underlying ty = some d) (hd : (match d with | .struct _ | .array _ _ => true | _ => false) = true) (hi : (P.info? ty).map (·.size) = some cs.size) :
  (results fn tmps).run P w = .ok (.tuple #[.agg cs, tmps.getD q undef]) w := by
 have hp' : tmps[p]?.getD undef = .pointer (some ⟨g, 0, none⟩) := by simpa using hp
 simp [results, h, hp', asAddr, run_loadVar_row w g t ty cs fr d hg hu hd hi]
end
theorem Zb0 (w : World) (n : Nat) : ((((((((w.alloc (.cells #[.int .u64 0, .int .u64 0, .int .u64 0, .int .i64 0, .int .i64 0, .slice none 0 0] 104)).drewN n).setCell ⟨w.heap.size, 0, none⟩ (.int .u64 0)).setCell ⟨w.heap.size, 1, none⟩ (.int .u64 0)).setCell ⟨w.heap.size, 2, none⟩ (.int .u64 0)).setCell ⟨w.heap.size, 3, none⟩ (.int .i64 0)).setCell ⟨w.heap.size, 4, none⟩ (.int .i64 0)).setCell ⟨w.heap.size, 5, none⟩ (.slice none 0 0)).heap[w.heap.size]? = some (.cells #[.int .u64 0, .int .u64 0, .int .u64 0, .int .i64 0, .int .i64 0, .slice none 0 0] 104 (0, 0)) /\ Quiet w ((((((((w.alloc (.cells #[.int .u64 0, .int .u64 0, .int .u64 0, .int .i64 0, .int .i64 0, .slice none 0 0] 104)).drewN n).setCell ⟨w.heap.size, 0, none⟩ (.int .u64 0)).setCell ⟨w.heap.size, 1, none⟩ (.int .u64 0)).setCell ⟨w.heap.size, 2, none⟩ (.int .u64 0)).setCell ⟨w.heap.size, 3, none⟩ (.int .i64 0)).setCell ⟨w.heap.size, 4, none⟩ (.int .i64 0)).setCell ⟨w.heap.size, 5, none⟩ (.slice none 0 0)) :=
 ⟨Z0Z (w := (w.alloc (.cells #[.int .u64 0, .int .u64 0, .int .u64 0, .int .i64 0, .int .i64 0, .slice none 0 0] 104)).drewN n) (Z5 w _) _ _ _ _ _ _, (((Z0.refl (fun _ => False) w).alloc (.cells #[.int .u64 0, .int .u64 0, .int .u64 0, .int .i64 0, .int .i64 0, .slice none 0 0] 104)).drewN n).trans' (Z0A ((w.alloc (.cells #[.int .u64 0, .int .u64 0, .int .u64 0, .int .i64 0, .int .i64 0, .slice none 0 0] 104)).drewN n) w.heap.size _ _ _ _ _ _) (fun k hk e => by omega)⟩
theorem ZgL {w W1 w5 W6 : World} {v : Value} {l : List Nat} (hq : Quiet w W1) (hs : w.heap.size < W1.heap.size) (h : Z0K W1 w5 v l) (ho : Z0 (· = w.heap.size) w5 W6) : Z0K w W6 v l := by
 refine ⟨(hq.trans h.quiet).trans' ho (fun k hk e => by omega), fun k e => ?_, Z4 h.own ho (fun k e x => ?_)⟩
 ·have := h.new k e
  omega
 ·have := h.new k e
  omega
def Z3v (w : World) (e : Ending) (w' : World) : Prop :=
 e = .returned (.tuple #[.agg #[.int .u64 0, .int .u64 0, .int .u64 0, .int .i64 0, .int .i64 0, .slice none 0 0], .bool false]) /\ Quiet w w'
def Z21 (w : World) (t : Tup) (e : Ending) (w' : World) : Prop :=
 ∃ A c, e = .returned (.tuple #[Zt t A c, .bool true]) /\ Z0K w w' (.slice A t.data.length c) t.data
theorem Z87 {w W : World} {t : Tup} {A : Option Addr} {c : Nat} (h : Z0K w W (.slice A t.data.length c) t.data) :
  Z21 w t (.returned (.tuple #[.agg #[.int .u64 t.row, .int .u64 t.xmin, .int .u64 t.xmax, .int .i64 t.pg, .int .i64 t.sl, .slice A t.data.length c], .bool true])) W := ⟨A, c, rfl, h⟩
theorem Zb1 (i : Int) (w : World) : Calls Tryz.prog 78 #[.pointer none, .int .i64 i] w (Z3v w) := by
 have heq := fun (w : World) (a : Option Addr) (n c : Nat) => Lib.run_eql_slice_nil (P := Tryz.prog) w 22 _ a n c 0 0 Tryz.underlying22
 go_enter Tryz.func78, Tryz.ntmps78
 go_wp2_with fail
 refine (Z65 i _).mono ?_
 rintro e w1 ⟨rfl, n, rfl⟩
 go_wp2
 have HZ := zh (Zb0 w n)
 generalize (((((((w.alloc (.cells #[.int .u64 0, .int .u64 0, .int .u64 0, .int .i64 0, .int .i64 0, .slice none 0 0] 104)).drewN n).setCell ⟨w.heap.size, 0, none⟩ (.int .u64 0)).setCell ⟨w.heap.size, 1, none⟩ (.int .u64 0)).setCell ⟨w.heap.size, 2, none⟩ (.int .u64 0)).setCell ⟨w.heap.size, 3, none⟩ (.int .i64 0)).setCell ⟨w.heap.size, 4, none⟩ (.int .i64 0)).setCell ⟨w.heap.size, 5, none⟩ (.slice none 0 0) = W6 at HZ ⊢
 exact bodyPost_ret (ZC Tryz.results78 _ _ w.heap.size _ _ (0, 0) _ (by rfl) HZ.out.1 Tryz.underlying104 rfl Z2T) (by rfl) ⟨rfl, HZ.out.2⟩
theorem Zaq (b st : Nat) (L : List Slot) (i : Int) (w : World) (h : ZA w b L st) (hi : Z0M L i = none) : Calls Tryz.prog 78 #[.pointer (some ⟨b, 0, none⟩), .int .i64 i] w (Z3v w) := by
 have heq := fun (w : World) (a : Option Addr) (n c : Nat) => Lib.run_eql_slice_nil (P := Tryz.prog) w 22 _ a n c 0 0 Tryz.underlying22
 have HP := zh (h.kept ((Z0.refl (fun _ => False) w).alloc (.cells #[.int .u64 0, .int .u64 0, .int .u64 0, .int .i64 0, .int .i64 0, .slice none 0 0] 104)) (fun x => x))
 have HI := zh hi
 clear h hi
 go_enter Tryz.func78, Tryz.ntmps78
 go_wp2_with fail
 refine (Z1q b st L i _ HP.out HI.out).mono ?_
 rintro e w1 ⟨rfl, n, rfl⟩
 go_wp2
 have HZ := zh (Zb0 w n)
 generalize (((((((w.alloc (.cells #[.int .u64 0, .int .u64 0, .int .u64 0, .int .i64 0, .int .i64 0, .slice none 0 0] 104)).drewN n).setCell ⟨w.heap.size, 0, none⟩ (.int .u64 0)).setCell ⟨w.heap.size, 1, none⟩ (.int .u64 0)).setCell ⟨w.heap.size, 2, none⟩ (.int .u64 0)).setCell ⟨w.heap.size, 3, none⟩ (.int .i64 0)).setCell ⟨w.heap.size, 4, none⟩ (.int .i64 0)).setCell ⟨w.heap.size, 5, none⟩ (.slice none 0 0) = W6 at HZ ⊢
 exact bodyPost_ret (ZC Tryz.results78 _ _ w.heap.size _ _ (0, 0) _ (by rfl) HZ.out.1 Tryz.underlying104 rfl Z2T) (by rfl) ⟨rfl, HZ.out.2⟩
theorem Zar (b st f : Nat) (t : Tup) (L : List Slot) (i : Int) (w : World) (h : ZA w b L st) (hi : Z0M L i = some (f, t)) : Calls Tryz.prog 78 #[.pointer (some ⟨b, 0, none⟩), .int .i64 i] w (Z21 w t) := by
 have heq := fun (w : World) (a : Option Addr) (n c : Nat) => Lib.run_eql_slice_nil (P := Tryz.prog) w 22 _ a n c 0 0 Tryz.underlying22
 have HP := zh (h.kept ((Z0.refl (fun _ => False) w).alloc (.cells #[.int .u64 0, .int .u64 0, .int .u64 0, .int .i64 0, .int .i64 0, .slice none 0 0] 104)) (fun x => x))
 have HI := zh hi
 obtain ⟨k, rfl, hk, hs⟩ := Z3E hi
 obtain ⟨g, hg, hp⟩ := HP.out
 obtain ⟨v1, v2, v3, v4⟩ := hp.ver k f t hs
 have HU : Hid (∀ n, Calls Tryz.prog 113 #[.slice (some ⟨b, f, none⟩) (30 + t.data.length) (512 - f)] ((w.alloc (.cells #[.int .u64 0, .int .u64 0, .int .u64 0, .int .i64 0, .int .i64 0, .slice none 0 0] 104)).drewN n) (Z95 ((w.alloc (.cells #[.int .u64 0, .int .u64 0, .int .u64 0, .int .i64 0, .int .i64 0, .slice none 0 0] 104)).drewN n) t)) := fun n => ZdH b f (512 - f) t g _ hg hp.lt v3 v4 v2 (by have : t.size = 30 + t.data.length := rfl; omega)
 clear h hi hs hg hp v1 v2 v3 v4 hk
 go_enter Tryz.func78, Tryz.ntmps78
 go_wp2_with fail
 refine (Z1r b st f t L _ _ HP.out HI.out).mono ?_
 rintro e w1 ⟨rfl, n, rfl⟩
 go_wp2_with fail
 rw [show t.size = 30 + t.data.length from rfl]
 refine (HU.out n).mono ?_
 rintro e w2 ⟨A', c', rfl, hfr⟩
 have hres : w2.heap[w.heap.size]? = _ := hfr.quiet.get (Z5 w _) (fun x => x)
 have HX := zh (Z0Z hres (.int .u64 t.row) (.int .u64 t.xmin) (.int .u64 t.xmax) (.int .i64 t.pg) (.int .i64 t.sl) (.slice A' t.data.length c'))
 have HF6 := zh (ZgL (((Z0.refl (fun _ => False) w).alloc (.cells #[.int .u64 0, .int .u64 0, .int .u64 0, .int .i64 0, .int .i64 0, .slice none 0 0] 104)).drewN n) (by show w.heap.size < (w.alloc _).heap.size; simp) hfr (Z0A w2 w.heap.size (.int .u64 t.row) (.int .u64 t.xmin) (.int .u64 t.xmax) (.int .i64 t.pg) (.int .i64 t.sl) (.slice A' t.data.length c')))
 obtain ⟨hc2, hf2⟩ := ZhY hfr.quiet
 clear hfr HU hres
 unfold Zt
 go_wp2
 clear hc2 hf2
 unfold sixSet at HX HF6
 generalize ((((((w2).setCell ⟨w.heap.size, 0, none⟩ (.int .u64 t.row)).setCell ⟨w.heap.size, 1, none⟩ (.int .u64 t.xmin)).setCell ⟨w.heap.size, 2, none⟩ (.int .u64 t.xmax)).setCell ⟨w.heap.size, 3, none⟩ (.int .i64 t.pg)).setCell ⟨w.heap.size, 4, none⟩ (.int .i64 t.sl)).setCell ⟨w.heap.size, 5, none⟩ (.slice A' t.data.length c') = W6 at HX HF6 ⊢
 exact bodyPost_ret (ZC Tryz.results78 _ _ w.heap.size _ _ (0, 0) _ (by rfl) HX.out Tryz.underlying104 rfl Z2T) (by rfl) (Z87 HF6.out)
theorem Zib (i : Int) (xmax : Nat) (pg sl : Int) (w : World) :
  Calls Tryz.prog 96 #[.pointer none, .int .i64 i, .int .u64 xmax, .agg #[.int .i64 pg, .int .i64 sl]] w fun e w' => e = .returned (.int .i64 15) /\ Quiet w w' := by
 go_enter Tryz.func96, Tryz.ntmps96
 go_wp2_with fail
 refine (Z65 i _).mono ?_
 rintro e w1 ⟨rfl, n, rfl⟩
 go_wp2
 go_ret
 exact ⟨rfl, ((Z0.refl _ _).alloc _).drewN n⟩
theorem Zfd (b st : Nat) (L : List Slot) (i : Int) (w : World) (h : ZA w b L st) : ∃ A n c, (∀ m : Nat, Calls Tryz.prog 112 #[.pointer (some ⟨b, 0, none⟩), .int .i64 i] (w.drewN m) fun e w' => e = .returned (.slice A n c) /\ ∃ k, w' = (w.drewN m).drewN k) /\ (A.isNone = (Z0M L i).isNone) := by
 rcases hs : Z0M L i with _ | ⟨f, t⟩
 ·exact ⟨none, 0, 0, fun m => Z1q b st L i _ h hs, rfl⟩
 ·exact ⟨_, _, _, fun m => Z1r b st f t L i _ h hs, rfl⟩
theorem Z88 (b st : Nat) (L : List Slot) (i : Int) (xmax : Nat) (pg sl : Int) (w : World) (h : ZA w b L st) (hx : 1099511627776 < xmax ∨ Z0R pg sl = true) :
  Calls Tryz.prog 96 #[.pointer (some ⟨b, 0, none⟩), .int .i64 i, .int .u64 xmax, .agg #[.int .i64 pg, .int .i64 sl]] w fun e w' => e = .returned (.int .i64 3) /\ Quiet w w' := by
 have HP := zh (h.kept ((Z0.refl (fun _ => False) w).alloc (.cells #[.int .i64 pg, .int .i64 sl] 48)) (fun x => x))
 obtain ⟨A, n, c, hA, _⟩ := Zfd b st L i _ HP.out
 have HA := zh (hA 0)
 have HF := zh (Z6U pg sl)
 have hx' : 1099511627776 < xmax ∨ (¬ 1099511627776 < xmax /\ Z0R pg sl = true) := by
  by_cases h1 : 1099511627776 < xmax
  ·exact Or.inl h1
  ·exact Or.inr ⟨h1, hx.resolve_left h1⟩
 clear h hA hx
 rcases hx' with h1 | ⟨h1, h2⟩
 ·go_enter Tryz.func96, Tryz.ntmps96
  go_wp2_with fail
  refine HA.out.mono ?_
  rintro e w1 ⟨rfl, k, rfl⟩
  go_wp2
  go_ret
  exact ⟨rfl, ((Z0.refl _ _).alloc _).drewN _⟩
 ·rw [h2] at HF
  have d1 : decide ((1099511627776 : Int) < xmax) = false := by simp; omega
  clear h2
  go_enter Tryz.func96, Tryz.ntmps96
  go_wp2_with fail
  refine HA.out.mono ?_
  rintro e w1 ⟨rfl, k, rfl⟩
  go_wp2_with fail
  refine (HF.out _).mono ?_
  rintro e w2 ⟨rfl, hq⟩
  have HQ : Hid (Quiet w w2) := (((Z0.refl (fun _ => False) w).alloc _).drewN _).trans hq
  clear hq
  go_wp2
  go_ret
  exact ⟨rfl, HQ.out⟩
theorem Z89 (b st : Nat) (L : List Slot) (i : Int) (xmax : Nat) (pg sl : Int) (w : World) (h : ZA w b L st) (hx : xmax <= 1099511627776) (hf : Z0R pg sl = false) (hi : Z0M L i = none) :
  Calls Tryz.prog 96 #[.pointer (some ⟨b, 0, none⟩), .int .i64 i, .int .u64 xmax, .agg #[.int .i64 pg, .int .i64 sl]] w fun e w' => e = .returned (.int .i64 15) /\ Quiet w w' := by
 have heq := fun (w : World) (a : Option Addr) (n c : Nat) => Lib.run_eql_slice_nil (P := Tryz.prog) w 22 _ a n c 0 0 Tryz.underlying22
 have HP := zh (h.kept ((Z0.refl (fun _ => False) w).alloc (.cells #[.int .i64 pg, .int .i64 sl] 48)) (fun x => x))
 have HI := zh hi
 have HF := zh (Z6U pg sl)
 rw [hf] at HF
 have d1 : decide ((1099511627776 : Int) < xmax) = false := by simp; omega
 clear h hi hf
 go_enter Tryz.func96, Tryz.ntmps96
 go_wp2_with fail
 refine (Z1q b st L i _ HP.out HI.out).mono ?_
 rintro e w1 ⟨rfl, k, rfl⟩
 go_wp2_with fail
 refine (HF.out _).mono ?_
 rintro e w2 ⟨rfl, hq⟩
 have HQ : Hid (Quiet w w2) := (((Z0.refl (fun _ => False) w).alloc _).drewN _).trans hq
 clear hq
 go_wp2
 go_ret
 exact ⟨rfl, HQ.out⟩
structure Z2w (w W : World) (b : Nat) (pg sl : Int) (g : Nat -> Nat) : Prop where
 only : Z0 (· = b) w W
 box : W.heap[w.heap.size]? = some (.cells #[.int .i64 pg, .int .i64 sl] 48 (0, 0))
 bk : Bk W b 512 pageT g
theorem Z2w.drew {w W : World} {b : Nat} {pg sl : Int} {g : Nat -> Nat} (h : Z2w w W b pg sl g) : Z2w w W.drew b pg sl g := ⟨h.only.drew, h.box, h.bk⟩
theorem Z2w.put {w W W' : World} {b : Nat} {pg sl : Int} {g g' : Nat -> Nat} (h : Z2w w W b pg sl g) (hb : b < w.heap.size) (ho : Z0 (· = b) W W') (hk : Bk W' b 512 pageT g') : Z2w w W' b pg sl g' :=
 ⟨h.only.trans ho, ho.get h.box (fun e => by omega), hk⟩
theorem Z2w.cell0 {w W : World} {b : Nat} {pg sl : Int} {g : Nat -> Nat} (h : Z2w w W b pg sl g) : W.cell? ⟨w.heap.size, 0, none⟩ = some (.int .i64 pg) := by rw [Z1 h.box]; rfl
theorem Z2w.cell1 {w W : World} {b : Nat} {pg sl : Int} {g : Nat -> Nat} (h : Z2w w W b pg sl g) : W.cell? ⟨w.heap.size, 1, none⟩ = some (.int .i64 sl) := by rw [Z1 h.box]; rfl
theorem Z8a (b st f : Nat) (t : Tup) (L : List Slot) (i : Int) (xmax : Nat) (pg sl : Int) (w : World) (h : ZA w b L st) (hx : xmax <= 1099511627776) (hf : Z0R pg sl = false) (hi : Z0M L i = some (f, t)) :
  Calls Tryz.prog 96 #[.pointer (some ⟨b, 0, none⟩), .int .i64 i, .int .u64 xmax, .agg #[.int .i64 pg, .int .i64 sl]] w fun e w' => e = .returned (.int .i64 0) /\ Z0 (· = b) w w' /\ ZA w' b (L.set i.toNat (some (f, t.stamp xmax pg sl))) st := by
 have heq := fun (w : World) (a : Option Addr) (n c : Nat) => Lib.run_eql_slice_nil (P := Tryz.prog) w 22 _ a n c 0 0 Tryz.underlying22
 have hq0 : Quiet w (w.alloc (.cells #[.int .i64 pg, .int .i64 sl] 48)) := (Z0.refl (fun _ => False) w).alloc (.cells #[.int .i64 pg, .int .i64 sl] 48)
 have HP := zh (h.kept hq0 (fun x => x))
 have hbl := h.lt
 have HF := zh (Z6U pg sl)
 rw [hf] at HF
 have hfb := Tup.far_bounds hf
 have d1 : decide ((1099511627776 : Int) < xmax) = false := by simp; omega
 obtain ⟨k, rfl, hk, hs⟩ := Z3E hi
 rw [Int.toNat_natCast]
 have HBY := zh (Z1r b st f t L k _ HP.out hi)
 obtain ⟨g, hg, hp⟩ := HP.out
 have HST := zh (hp.stamp hs hx hf)
 obtain ⟨v1, v2, v3, v4⟩ := hp.ver k f t hs
 have hts := Tup.size_pos t
 obtain ⟨z, Hz⟩ : ∃ z, Hid (t.size = z) := ⟨_, rfl⟩
 rw [Hz.out] at v2 hts HBY
 obtain ⟨C, HC⟩ : ∃ C, Hid (512 - f = C) := ⟨_, rfl⟩
 have hC : z <= C := by rw [<- HC.out]; show z <= 512 - f; omega
 rw [HC.out] at HBY
 have b3 : (24 : Int) <= C := by omega
 have b4 : (28 : Int) <= C := by omega
 have b5 : (30 : Int) <= C := by omega
 have n2 : ¬ C = 16 := by omega
 have n3 : ¬ C = 24 := by omega
 have n4 : ¬ C = 28 := by omega
 have HG := zh hg
 clear h hi hf hg hp hs v3 v4 hq0 HP
 go_enter Tryz.func96, Tryz.ntmps96
 go_wp2_with fail
 refine HBY.out.mono ?_
 rintro e w1 ⟨rfl, n1, rfl⟩
 go_wp2_with fail
 refine (HF.out _).mono ?_
 rintro e w2 ⟨rfl, hq⟩
 have H2 : Hid (Z2w w w2 b pg sl g) := ⟨((((Z0.refl (fun _ => False) w).alloc _).drewN _).trans hq).mono (fun _ _ x => x.elim), hq.get (Z5 w _) (fun x => x), Bk.kept (S := fun _ => False) (w := (w.alloc (.cells #[.int .i64 pg, .int .i64 sl] 48)).drewN n1) HG.out hq (fun x => x)⟩
 clear hq HF HBY
 go_wp2_with fail
 refine (Z2y b 512 (f + 16) 8 _ xmax pageT g _ H2.out.bk (by omega) (by omega) (by omega) (by omega)).mono ?_
 rintro e w3 ⟨rfl, ho, hb⟩
 have H3 := zh (H2.out.put hbl ho hb)
 clear ho hb H2
 have c0 := H3.out.cell0
 go_wp2_with fail
 go_region_held3 (fun w' => w'.cell? ⟨w.heap.size, 0, none⟩ = some (.int .i64 pg)) (first | go_keep | exact H4.out.cell0 | fail)
  (first | (go_at_call 136; go_must ((with_reducible refine (Z84 b 512 (f + 24) 4 _ (pg + 1).toNat _ pageT _ _ H3.out.drew.bk (by omega) (by omega) (by omega) (Z4P pg (by omega) (by omega)) (by omega)).mono ?_); rintro e w4 ⟨rfl, ho, hb⟩; have H4 := zh (H3.out.drew.put hbl ho hb); clear ho hb)) | fail)
 clear c0 H3
 go_wp2_with fail
 have c1 := H4.out.cell1
 go_region_held3 (fun w' => w'.cell? ⟨w.heap.size, 1, none⟩ = some (.int .i64 sl)) (first | go_keep | exact H5.out.cell1 | fail)
  (first | (go_at_call 136; go_must ((with_reducible refine (Z84 b 512 (f + 28) 2 _ (sl + 1).toNat _ pageT _ _ H4.out.drew.bk (by omega) (by omega) (by omega) (Z4P sl (by omega) (by omega)) (by omega)).mono ?_); rintro e w5 ⟨rfl, ho, hb⟩; have H5 := zh (H4.out.drew.put hbl ho hb); clear ho hb)) | fail)
 go_wp2
 go_ret
 exact ⟨rfl, H5.out.only, _, H5.out.bk, HST.out⟩
theorem Zas (L : List Slot) (i f : Nat) (t : Tup) : Z0o (L.set i (some (f, t))) = (Z0o L).set i (some t) := by
 unfold Z0o
 rw [List.map_set]; rfl
theorem Z7b (b : Nat) (T : List (Option Tup)) (i : Int) (xmax : Nat) (pg sl : Int) (w : World) (h : Z0m w b T) :
  Calls Tryz.prog 96 #[.pointer (some ⟨b, 0, none⟩), .int .i64 i, .int .u64 xmax, .agg #[.int .i64 pg, .int .i64 sl]] w fun e w' => e = .returned (.int .i64 (Z0a T i xmax pg sl).1) /\ Z0 (· = b) w w' /\ Z0m w' b (Z0a T i xmax pg sl).2 := by
 obtain ⟨L, st, h1, rfl⟩ := h
 by_cases hx : 1099511627776 < xmax ∨ Z0R pg sl = true
 ·rw [show Z0a (Z0o L) i xmax pg sl = (3, Z0o L) from if_pos hx]
  refine (Z88 b st L i xmax pg sl w h1 hx).mono ?_
  rintro e w' ⟨rfl, hq⟩
  exact ⟨rfl, hq.mono (fun _ _ x => x.elim), L, st, h1.kept hq (fun x => x), rfl⟩
 ·have hx1 : xmax <= 1099511627776 := by
   rcases Nat.lt_or_ge 1099511627776 xmax with x | x
   ·exact absurd (Or.inl x) hx
   ·exact x
  have hx2 : Z0R pg sl = false := by
   rcases hh : Z0R pg sl with _ | _
   ·rfl
   ·exact absurd (Or.inr hh) hx
  unfold Z0a
  rw [if_neg hx, Z3N]
  rcases hs : Z0M L i with _ | ⟨f, t⟩
  ·refine (Z89 b st L i xmax pg sl w h1 hx1 hx2 hs).mono ?_
   rintro e w' ⟨rfl, hq⟩
   exact ⟨rfl, hq.mono (fun _ _ x => x.elim), L, st, h1.kept hq (fun x => x), rfl⟩
  ·refine (Z8a b st f t L i xmax pg sl w h1 hx1 hx2 hs).mono ?_
   rintro e w' ⟨rfl, ho, hp⟩
   exact ⟨rfl, ho, _, _, hp, Zas _ _ _ _⟩
theorem Z5j (b : Nat) (T : List (Option Tup)) (i : Int) (w : World) (h : Z0m w b T) (hi : ZY T i = none) : Calls Tryz.prog 78 #[.pointer (some ⟨b, 0, none⟩), .int .i64 i] w (Z3v w) := by
 obtain ⟨L, st, h1, rfl⟩ := h
 rw [Z3N] at hi
 refine Zaq b st L i w h1 ?_
 rcases hs : Z0M L i with _ | x
 ·rfl
 ·rw [hs] at hi; cases hi
theorem Z5k (b : Nat) (t : Tup) (T : List (Option Tup)) (i : Int) (w : World) (h : Z0m w b T) (hi : ZY T i = some t) : Calls Tryz.prog 78 #[.pointer (some ⟨b, 0, none⟩), .int .i64 i] w (Z21 w t) := by
 obtain ⟨L, st, h1, rfl⟩ := h
 rw [Z3N] at hi
 rcases hs : Z0M L i with _ | ⟨f, t'⟩
 ·rw [hs] at hi; cases hi
 ·rw [hs] at hi
  have : t' = t := by injection hi
  subst this
  exact Zar b st f t' L i w h1 hs
def Z2o (t : Nat -> Int) (n : Nat) (i : Nat) : Value := if i = 512 then .int .i64 n else .int .i64 (t i)
theorem Z6V (t : Nat -> Int) (n i : Nat) (h : i < 512) : Z2o t n i = .int .i64 (t i) := by
 unfold Z2o; rw [if_neg (by omega)]
theorem Zic (t : Nat -> Int) (n : Nat) : Z2o t n 512 = .int .i64 n := by simp [Z2o]
structure Z1f (w : World) (b : Nat) (l t : Nat -> Int) (n : Nat) : Prop where
 blk : w.heap[b]? = some (.cells (tab 513 (Z2o t n)) 217 (0, 0))
 tree : Z3l l t
 low : ∀ i, -1 <= l i
 high : ∀ i, l i <= 512
 out : ∀ i, n <= i -> l i = -1
 most : n <= 256
theorem Z1f.cell {w : World} {b : Nat} {l t : Nat -> Int} {n : Nat} (h : Z1f w b l t n) (i : Nat) (hi : i < 512) : w.cell? ⟨b, i, none⟩ = some (.int .i64 (t i)) := by
 rw [Z1 h.blk, Z1Z (by omega), Z6V _ _ _ hi]
theorem Z1f.count {w : World} {b : Nat} {l t : Nat -> Int} {n : Nat} (h : Z1f w b l t n) : w.cell? ⟨b, 512, none⟩ = some (.int .i64 n) := by
 rw [Z1 h.blk, Z1Z (by omega), Zic]
theorem Zfe (b : Nat) (l t : Nat -> Int) (n : Nat) (w : World) (need : Int) (hr : Z1f w b l t n) (hn : ∀ j, j < 256 -> l j < max need 0) :
  Calls Tryz.prog 128 #[.pointer (some ⟨b, 0, none⟩), .int .i64 need] w fun e w' => e = .returned (.tuple #[.int .i64 0, .bool false]) /\ w = w' := by
 have hc := hr.cell 1 (by omega)
 have h1 := hr.tree.none hn
 clear hr hn
 go_enter Tryz.func128, Tryz.ntmps128
 go_wp2
 all_goals
  go_ret2
  exact ⟨rfl, rfl⟩
theorem Zff (b : Nat) (l t : Nat -> Int) (n : Nat) (w : World) (need : Int) (k : Nat) (hr : Z1f w b l t n) (hk : k < 256) (hl : max need 0 <= l k) (hn : ∀ j, j < k -> l j < max need 0) :
  Calls Tryz.prog 128 #[.pointer (some ⟨b, 0, none⟩), .int .i64 need] w fun e w' => e = .returned (.tuple #[.int .i64 k, .bool true]) /\ w = w' := by
 have hc := hr.cell 1 (by omega)
 have h1 := hr.tree.some hk hl
 have HR := zh hr
 have HN := zh hn
 clear hr hn
 go_enter Tryz.func128, Tryz.ntmps128
 go_wp2
 go_loop [6] (fun v => ∃ i h : Nat, h <= 8 /\ Z3m l t (max need 0) k i h /\ v = .int .i64 i) (fun v => 512 - (intOf v).toNat)
 case atStart => exact ⟨1, 8, by omega, Z3m.top hk, rfl⟩
 case round =>
  obtain ⟨i, h, hh, hD, rfl⟩ := hrel
  cases h with
  | zero =>
   have hi := hD.end_
   have HI := zh hi
   have : 256 <= i := by omega
   have : i < 512 := by omega
   clear hi hD
   go_wp2
   go_ret2
   exact ⟨by rw [HI.out]; simp; omega, rfl⟩
  | succ h =>
   have hi := hD.inner
   have h1 : 1 <= i := hD.1
   have hcell := HR.out.cell (i * 2) (by omega)
   have HD := zh hD
   clear hD
   by_cases ht : t (i * 2) < max need 0
   ·have HDn := zh (HD.out.right HR.out.tree hk hl (by rw [Nat.mul_comm 2 i]; exact ht))
    go_wp2
    go_round
    case rel => exact ⟨2 * i + 1, h, by omega, HDn.out, by go_num⟩
    case measure => simp [intOf]; omega
   ·have HDn := zh (HD.out.left HR.out.tree hk hl HN.out (by rw [Nat.mul_comm 2 i]; exact ht))
    go_wp2
    go_round
    case rel => exact ⟨2 * i, h, by omega, HDn.out, by go_num⟩
    case measure => simp [intOf]; omega
structure Z2R (w wr : World) (b : Nat) (l : Nat -> Int) (n i : Nat) : Prop where
 lim : 1 <= i /\ i < 512
 only : Z0 (· = b) w wr
 blk : ∃ t, wr.heap[b]? = some (.cells (tab 513 (Z2o t n)) 217 (0, 0)) /\ Z2C l t i
structure Zj9 (w wr : World) (b : Nat) (l t : Nat -> Int) (n i : Nat) : Prop where
 c1 : wr.cell? ⟨b, 2 * (i / 2), none⟩ = some (.int .i64 (t (2 * (i / 2))))
 c2 : wr.cell? ⟨b, 2 * (i / 2) + 1, none⟩ = some (.int .i64 (t (2 * (i / 2) + 1)))
 c3 : wr.cell? ⟨b, i / 2, none⟩ = some (.int .i64 (t (i / 2)))
 c4 : wr.frozen? ⟨b, i / 2, none⟩ = false
 next : Z2R w (wr.setCell ⟨b, i / 2, none⟩ (.int .i64 (max (t (2 * (i / 2))) (t (2 * (i / 2) + 1))))) b l n (i / 2)
theorem Z9E (t : Nat -> Int) (n i : Nat) (v : Int) (h : i < 512) : (fun j => if j = i then Value.int .i64 v else Z2o t n j) = Z2o (upd t i v) n := by
 funext j
 unfold Z2o upd
 by_cases e : j = i
 ·subst e; simp [show ¬ j = 512 by omega]
 ·simp [e]
theorem Z2R.step {w wr : World} {b : Nat} {l : Nat -> Int} {n i : Nat} (h : Z2R w wr b l n i) (hi : 1 < i) : ∃ t, Zj9 w wr b l t n i := by
 obtain ⟨hl, ho, t, hb, ht⟩ := h
 refine ⟨t, ?_, ?_, ?_, Z7 hb _, ⟨by omega, ho.setCell (fun _ => rfl) _, upd t (i / 2) (max (t (2 * (i / 2))) (t (2 * (i / 2) + 1))), ?_, ht.step hi (by omega)⟩⟩
 ·rw [Z1 hb, Z1Z (by omega), Z6V _ _ _ (by omega)]
 ·rw [Z1 hb, Z1Z (by omega), Z6V _ _ _ (by omega)]
 ·rw [Z1 hb, Z1Z (by omega), Z6V _ _ _ (by omega)]
 ·rw [Zf hb, Z5h, Z9E _ _ _ _ (by omega)]
theorem Z2R.start {w : World} {b : Nat} {l t : Nat -> Int} {n p : Nat} (hr : Z1f w b l t n) (hp : p <= n) (hp' : p < 256) (v m : Int) (hm : m = ((max n (p + 1) : Nat) : Int)) :
  Z2R w ((w.setCell ⟨b, 512, none⟩ (.int .i64 m)).setCell ⟨b, 256 + p, none⟩ (.int .i64 v)) b (upd l p v) (max n (p + 1)) (256 + p) := by
 have ho : Z0 (· = b) w w := Z0.refl _ _
 refine ⟨by omega, (ho.setCell (p := ⟨b, 512, none⟩) (fun _ => rfl) _).setCell (p := ⟨b, 256 + p, none⟩) (fun _ => rfl) _, upd t (256 + p) v, ?_, Z2C.start hr.tree hp' v⟩
 have e : (fun j => if j = 512 then Value.int .i64 m else Z2o t n j) = Z2o t (max n (p + 1)) := by
  funext j
  unfold Z2o
  by_cases e : j = 512
  ·simp [e, hm]
  ·simp [e]
 rw [Zf (Zf hr.blk _ _), Z5h, e, Z5h, Z9E _ _ _ _ (by omega)]
theorem Z2R.drew {w wr : World} {b : Nat} {l : Nat -> Int} {n i : Nat} (h : Z2R w wr b l n i) : Z2R w wr.drew b l n i := ⟨h.lim, h.only.drew, h.blk⟩
theorem Z2R.done {w wr : World} {b : Nat} {l t : Nat -> Int} {n p i : Nat} {v : Int} (h : Z2R w wr b (upd l p v) (max n (p + 1)) i) (hi : ¬ 1 < i) (hr : Z1f w b l t n) (hp' : p < 256)
  (h1 : -1 <= v) (h2 : v <= 512) : Z0 (· = b) w wr /\ ∃ t', Z1f wr b (upd l p v) t' (max n (p + 1)) := by
 obtain ⟨hl, ho, t, hb, ht⟩ := h
 refine ⟨ho, t, hb, ht.done (by omega), fun j => ?_, fun j => ?_, fun j hj => ?_, ?_⟩
 ·by_cases e : j = p
  ·subst e; rw [Z1F]; exact h1
  ·rw [ZS _ _ e]; exact hr.low j
 ·by_cases e : j = p
  ·subst e; rw [Z1F]; exact h2
  ·rw [ZS _ _ e]; exact hr.high j
 ·rw [ZS _ _ (by omega)]; exact hr.out j (by omega)
 ·have := hr.most; omega
theorem ZiP (b : Nat) (l t : Nat -> Int) (n : Nat) (w : World) (p : Nat) (r : Int) (hr : Z1f w b l t n) (hp : p <= n) (hp' : p < 256) :
  Calls Tryz.prog 163 #[.pointer (some ⟨b, 0, none⟩), .int .i64 p, .int .i64 r] w fun e w' => e = .returned (.int .i64 0) /\ Z0 (· = b) w w' ∧
   ∃ t', Z1f w' b (upd l p (min (max r (-1)) 512)) t' (max n (p + 1)) := by
 have hc := hr.count
 have hc' := hr.cell (256 + p) (by omega)
 have hf := Z7 hr.blk 512
 have hf' := Z7 hr.blk (256 + p)
 have hne : ¬ 256 + p = 512 := by omega
 have d1 : decide ((p : Int) < 0) = false := by simp
 have d2 : decide ((256 : Int) <= p) = false := by simp; omega
 have d3 : decide (n < p) = false := by simp; omega
 have HS := zh (Z2R.start hr hp hp' (min (max r (-1)) 512) (max (n : Int) (p + 1)) (by omega))
 have hb := Z2 hr.blk
 have HR := zh hr
 clear hr
 go_enter Tryz.func163, Tryz.ntmps163
 go_wp2
 go_loopw [7] (fun v wr => ∃ i : Nat, v = .int .i64 i /\ Z2R w wr b (upd l p (min (max r (-1)) 512)) (max n (p + 1)) i) (fun v _ => (intOf v).toNat)
 case atStart => exact ⟨256 + p, by go_num, HS.out⟩
 case round =>
  obtain ⟨i, rfl, hW⟩ := hrel
  have hi5 := hW.lim
  by_cases hi : 1 < i
  ·obtain ⟨t1, hT⟩ := hW.step hi
   have c1 := hT.c1
   have c2 := hT.c2
   have c3 := hT.c3
   have c4 := hT.c4
   have HW := zh hT.next
   clear hW hT
   go_wp2
   go_region
   go_roundw
   case rel => ((repeat apply Exists.intro); exact ⟨⟨i / 2, by go_num, HW.out.drew⟩, rfl⟩)
   case measure => simp [intOf]; omega
  ·have HW := zh hW
   clear hW
   go_wp2
   go_ret
   exact ⟨rfl, HW.out.done hi HR.out hp' (by omega) (by omega)⟩
theorem Zid (b : Nat) (w : World) (p r : Int) (hp : p < 0 ∨ 256 <= p) :
  Calls Tryz.prog 163 #[.pointer (some ⟨b, 0, none⟩), .int .i64 p, .int .i64 r] w fun e w' => e = .returned (.int .i64 1) /\ w = w' := by
 rcases hp with hi | hi
 ·go_enter Tryz.func163, Tryz.ntmps163
  go_wp2
  go_ret
  exact ⟨rfl, rfl⟩
 ·have h0 : ¬ p < 0 := by omega
  go_enter Tryz.func163, Tryz.ntmps163
  go_wp2
  go_ret
  exact ⟨rfl, rfl⟩
theorem ZgM (b : Nat) (l t : Nat -> Int) (n : Nat) (w : World) (p : Nat) (r : Int) (hr : Z1f w b l t n) (hp : n < p) (hp' : p < 256) :
  Calls Tryz.prog 163 #[.pointer (some ⟨b, 0, none⟩), .int .i64 p, .int .i64 r] w fun e w' => e = .returned (.int .i64 3) /\ w = w' := by
 have hc := hr.count
 clear hr
 go_enter Tryz.func163, Tryz.ntmps163
 go_wp2
 go_ret
 exact ⟨rfl, rfl⟩
theorem Zfg : Tryz.zeroCells217 = tab 513 (fun _ => .int .i64 0) := by
 apply ZaR
 ·kernel_rfl
 ·have h : (List.range 513).all (fun i => match Tryz.zeroCells217[i]? with | some (.int .i64 0) => true | _ => false) = true := by kernel_rfl
  intro i hi
  have := List.all_eq_true.1 h i (List.mem_range.2 hi)
  revert this
  split
  ·rename_i e; intro _; exact e
  ·intro x; cases x
def Z57 (k : Nat) (i : Nat) : Value := if i < k then .int .i64 (-1) else .int .i64 0
theorem ZgN {wr : World} {b i : Nat} (h : wr.heap[b]? = some (.cells (tab 513 (Z57 i)) 217 (0, 0))) :
  (wr.setCell ⟨b, i, none⟩ (.int .i64 (-1))).heap[b]? = some (.cells (tab 513 (Z57 (i + 1))) 217 (0, 0)) := by
 rw [Zf h, Z5h]
 have e : (fun j => if j = i then Value.int .i64 (-1) else Z57 i j) = Z57 (i + 1) := by
  funext j
  unfold Z57
  by_cases e : j = i
  ·subst e; simp
  ·by_cases e' : j < i
   ·simp [e, e', show j < i + 1 by omega]
   ·simp [e, e', show ¬ j < i + 1 by omega]
 rw [e]
theorem ZgO {wr : World} {b i : Nat} (h : wr.heap[b]? = some (.cells (tab 513 (Z57 i)) 217 (0, 0))) (hi : i = 512) :
  Z1f wr b (fun _ => -1) (fun _ => -1) 0 := by
 refine ⟨?_, Z3l.empty, fun _ => by simp, fun _ => by simp, fun _ _ => rfl, by omega⟩
 have e : tab 513 (Z57 i) = tab 513 (Z2o (fun _ => -1) 0) := by
  apply Z6O
  intro j hj
  unfold Z57 Z2o
  by_cases e : j = 512
  ·simp [e, hi]
  ·simp [e, show j < i by omega]
 rw [<- e]; exact h
theorem ZgP (w : World) :
  Calls Tryz.prog 67 #[] w fun e w' => e = .returned (.pointer (some ⟨w.heap.size, 0, none⟩)) /\ Below w.heap.size w w' ∧
   w.heap.size < w'.heap.size /\ Z1f w' w.heap.size (fun _ => -1) (fun _ => -1) 0 := by
 go_enter Tryz.func67, Tryz.ntmps67
 go_wp2
 go_loopw [5, 2] (fun v _ wr => ∃ i : Nat, v = .int .i64 i /\ i <= 512 /\ wr.heap[w.heap.size]? = some (.cells (tab 513 (Z57 i)) 217 (0, 0)) /\ Below w.heap.size w wr /\ w.heap.size < wr.heap.size) (fun v _ _ => 512 - (intOf v).toNat)
 case atStart => exact ⟨0, by go_num, by omega, by rw [Z5, Zfg]; rfl, (Below.refl _ _).alloc (Nat.le_refl _) _, by simp⟩
 case round =>
  obtain ⟨i, rfl, hi, hb, hB, hs⟩ := hrel
  have hc : i < 512 -> wr.cell? ⟨w.heap.size, i, none⟩ = some (.int .i64 0) := fun h => by rw [Z1 hb, Z1Z (by omega)]; simp [Z57]
  have hf := Z7 hb i
  have HB := zh hb
  have HL := zh hB
  clear hb hB
  by_cases h : i < 512
  ·have hc := hc h
   go_wp2
   go_roundw
   case rel =>
    refine ⟨i + 1, by go_num, by omega, ?_, HL.out.setCell (Nat.le_refl _) _, by simpa [World.setCell] using hs⟩
    exact ZgN HB.out
   case measure => simp [intOf]; omega
  ·go_wp2
   go_ret
   exact ⟨rfl, HL.out, hs, ZgO HB.out (by omega)⟩
theorem Z1f.kept {S : Nat -> Prop} {w w' : World} {b : Nat} {l t : Nat -> Int} {n : Nat} (h : Z1f w b l t n) (ho : Z0 S w w') (hn : ¬ S b) : Z1f w' b l t n :=
 ⟨ho.get h.blk hn, h.tree, h.low, h.high, h.out, h.most⟩
def Z0O (w : World) (b : Nat) (l : List Int) : Prop := ∃ t, Z1f w b (rooms l) t l.length
theorem Z0O.kept {S : Nat -> Prop} {w w' : World} {b : Nat} {l : List Int} (h : Z0O w b l) (ho : Z0 S w w') (hn : ¬ S b) : Z0O w' b l := by
 obtain ⟨t, h⟩ := h
 exact ⟨t, h.kept ho hn⟩
theorem Z0O.lt {w : World} {b : Nat} {l : List Int} (h : Z0O w b l) : b < w.heap.size := by
 obtain ⟨t, h⟩ := h
 exact Z2 h.blk
theorem Z0O.most {w : World} {b : Nat} {l : List Int} (h : Z0O w b l) : l.length <= 256 := by
 obtain ⟨t, h⟩ := h
 exact h.most
theorem ZgR (b : Nat) (l : List Int) (w : World) (p r : Int) (hr : Z0O w b l) :
  Calls Tryz.prog 163 #[.pointer (some ⟨b, 0, none⟩), .int .i64 p, .int .i64 r] w fun e w' => e = .returned (.int .i64 (Z68 l p r).1) /\ Z0 (· = b) w w' /\ Z0O w' b (Z68 l p r).2 := by
 have hr0 := hr
 obtain ⟨t, hr⟩ := hr
 by_cases h1 : p < 0 ∨ 256 <= p
 ·refine (Zid b w p r h1).mono ?_
  rintro e w' ⟨rfl, rfl⟩
  rw [ZgQ h1]
  exact ⟨rfl, Z0.refl _ _, hr0⟩
 ·obtain ⟨k, rfl⟩ := Int.eq_ofNat_of_zero_le (show 0 <= p by omega)
  by_cases h2 : (l.length : Int) < k
  ·refine (ZgM b _ t l.length w k r hr (by omega) (by omega)).mono ?_
   rintro e w' ⟨rfl, rfl⟩
   rw [Zfh h1 h2]
   exact ⟨rfl, Z0.refl _ _, hr0⟩
  ·refine (ZiP b _ t l.length w k r hr (by omega) (by omega)).mono ?_
   rintro e w' ⟨rfl, ho, t', hx⟩
   rw [Zd2 h1 h2]
   refine ⟨rfl, ho, t', ?_⟩
   rw [Zfi _ _ _ (by omega)] at hx
   rw [Int.toNat_natCast, Zcj _ _ _ (by omega)]
   exact hx
theorem Z69 (b : Nat) (l : List Int) (w : World) (need : Int) (hr : Z0O w b l) :
  Calls Tryz.prog 128 #[.pointer (some ⟨b, 0, none⟩), .int .i64 need] w fun e w' => e = .returned (.tuple #[.int .i64 (Z4S l need).1, .bool (Z4S l need).2]) /\ w = w' := by
 obtain ⟨t, hr⟩ := hr
 rcases hf : l.findIdx? (fun r => decide (max need 0 <= r)) with _ | i
 ·rw [List.findIdx?_eq_none_iff] at hf
  refine (Zfe b _ t l.length w need hr (fun j _ => ?_)).mono ?_
  ·rcases Nat.lt_or_ge j l.length with x | x
   ·have := hf l[j] (List.getElem_mem x)
    have e : rooms l j = l[j] := by simp [rooms, List.getD_eq_getElem?_getD, x]
    rw [e]
    have := of_decide_eq_false this
    omega
   ·have : rooms l j = -1 := Z7C _ _ x
    omega
  ·rintro e w' ⟨rfl, rfl⟩
   rw [<- List.findIdx?_eq_none_iff] at hf
   have e : Z4S l need = (0, false) := by simp only [Z4S, hf]
   rw [e]
   exact ⟨rfl, rfl⟩
 ·have hf' := hf
  rw [List.findIdx?_eq_some_iff_getElem] at hf
  obtain ⟨hi, h1, h2⟩ := hf
  have hm := hr.most
  refine (Zff b _ t l.length w need i hr (by omega) ?_ (fun j hj => ?_)).mono ?_
  ·have e : rooms l i = l[i] := by simp [rooms, List.getD_eq_getElem?_getD, hi]
   rw [e]; exact of_decide_eq_true h1
  ·have e : rooms l j = l[j] := by simp [rooms, List.getD_eq_getElem?_getD, show j < l.length by omega]
   rw [e]
   have := h2 j hj
   simpa using this
  ·rintro e w' ⟨rfl, rfl⟩
   have e : Z4S l need = ((i : Int), true) := by simp only [Z4S, hf']
   rw [e]
   exact ⟨rfl, rfl⟩
theorem Z9F (w : World) :
  Calls Tryz.prog 67 #[] w fun e w' => e = .returned (.pointer (some ⟨w.heap.size, 0, none⟩)) /\ Below w.heap.size w w' /\ w.heap.size < w'.heap.size /\ Z0O w' w.heap.size [] := by
 refine (ZgP w).mono ?_
 rintro e w' ⟨rfl, h1, h2, h3⟩
 exact ⟨rfl, h1, h2, _, h3⟩
theorem Z0O.blk {w : World} {b : Nat} {l : List Int} (h : Z0O w b l) : ∃ c, w.heap[b]? = some (.cells c 217 (0, 0)) := by
 obtain ⟨t, h⟩ := h
 exact ⟨_, h.blk⟩
theorem Z0O.drewN {w : World} {b : Nat} {l : List Int} (h : Z0O w b l) (n : Nat) : Z0O (w.drewN n) b l := h.kept ((Z0.refl (fun _ => False) w).drewN n) (fun x => x)
theorem Z0m.blk {w : World} {b : Nat} {T : List (Option Tup)} (h : Z0m w b T) : ∃ c, w.heap[b]? = some (.cells c 247 (0, 0)) := by
 obtain ⟨L, st, ⟨g, h1, h2⟩, h3⟩ := h
 exact ⟨_, h1⟩
def ZI (w : World) (pb n : Nat) : Prop := w.heap[pb]? = some (.cells #[.int .i64 (n : Int)] 132 (0, 0))
theorem ZI.kept {S : Nat -> Prop} {w w' : World} {pb n : Nat} (h : ZI w pb n) (ho : Z0 S w w') (hn : ¬ S pb) : ZI w' pb n := ho.get h hn
theorem ZI.cell {w : World} {pb n : Nat} (h : ZI w pb n) : w.cell? ⟨pb, 0, none⟩ = some (.int .i64 (n : Int)) := by rw [Z1 h]; rfl
theorem ZI.lt {w : World} {pb n : Nat} (h : ZI w pb n) : pb < w.heap.size := Z2 h
theorem ZI.set {w : World} {pb n m : Nat} {z : Int} (h : ZI w pb n) (hz : z = m) : ZI (w.setCell ⟨pb, 0, none⟩ (.int .i64 z)) pb m := by
 subst hz
 unfold ZI
 rw [Zf h]
 rfl
structure Zx (w : World) (hb pb : Nat) (F : Nat -> Prop) (H : List (List (Option Tup))) (R : List Int) (v : Value) (ps : List Nat) (rb : Nat) : Prop where
 box : w.heap[hb]? = some (.cells #[.pointer (some ⟨pb, 0, none⟩), v, .pointer (some ⟨rb, 0, none⟩)] 155 (0, 0))
 row : w.ownsRow 0 177 1 v H.length (ps.map ptrV)
 room : Z0O w rb R
 pg : ∀ (i : Nat) T, H[i]? = some T -> ∃ p, ps[i]? = some p /\ Z0m w p T
 nd : ps.Nodup
 foot : F hb /\ F rb /\ (∀ p ∈ ps, F p) /\ (∀ k, v.ownBlock = some k -> F k)
section
variable {w w' : World} {hb pb : Nat} {F : Nat -> Prop} {H : List (List (Option Tup))} {R : List Int} {v : Value} {ps : List Nat} {rb : Nat}
theorem Zx.kept {S : Nat -> Prop} (h : Zx w hb pb F H R v ps rb) (ho : Z0 S w w') (hn : ∀ k, F k -> ¬ S k) : Zx w' hb pb F H R v ps rb :=
 ⟨ho.get h.box (hn _ h.foot.1), Z4 h.row ho (fun k e => hn k (h.foot.2.2.2 k e)), h.room.kept ho (hn _ h.foot.2.1),
   fun i T hi => by obtain ⟨p, h1, h2⟩ := h.pg i T hi; exact ⟨p, h1, h2.kept ho (hn _ (h.foot.2.2.1 p (List.mem_of_getElem? h1)))⟩, h.nd, h.foot⟩
theorem Zx.drewN (h : Zx w hb pb F H R v ps rb) (n : Nat) : Zx (w.drewN n) hb pb F H R v ps rb := h.kept ((Z0.refl (fun _ => False) w).drewN n) (fun _ _ x => x)
theorem Zx.mono {G : Nat -> Prop} (h : Zx w hb pb F H R v ps rb) (hg : ∀ k, F k -> G k) : Zx w hb pb G H R v ps rb :=
 ⟨h.box, h.row, h.room, h.pg, h.nd, hg _ h.foot.1, hg _ h.foot.2.1, fun p hp => hg _ (h.foot.2.2.1 p hp), fun k e => hg _ (h.foot.2.2.2 k e)⟩
theorem Zx.plen (h : Zx w hb pb F H R v ps rb) : ps.length = H.length := by
 have := h.row.1
 simpa using this
theorem Zx.page (h : Zx w hb pb F H R v ps rb) {i p : Nat} (hi : ps[i]? = some p) : ∃ T, H[i]? = some T /\ Z0m w p T := by
 have hl : i < H.length := by rw [<- h.plen]; exact (zi.1 hi).1
 obtain ⟨p', h1, h2⟩ := h.pg i H[i] (zg hl)
 rw [hi] at h1
 injection h1 with h1
 subst h1
 exact ⟨_, zg hl, h2⟩
theorem Zx.pblk (h : Zx w hb pb F H R v ps rb) {p : Nat} (hp : p ∈ ps) : ∃ c, w.heap[p]? = some (.cells c 247 (0, 0)) := by
 obtain ⟨i, hi⟩ := List.mem_iff_getElem?.1 hp
 obtain ⟨T, _, h2⟩ := h.page hi
 exact h2.blk
theorem Zx.lim (h : Zx w hb pb F H R v ps rb) : Zx w hb pb (fun k => F k /\ k < w.heap.size) H R v ps rb :=
 ⟨h.box, h.row, h.room, h.pg, h.nd, ⟨h.foot.1, Z2 h.box⟩, ⟨h.foot.2.1, h.room.lt⟩, fun p hp => ⟨h.foot.2.2.1 p hp, by obtain ⟨c, hc⟩ := h.pblk hp; exact Z2 hc⟩, fun k e => ⟨h.foot.2.2.2 k e, (h.row.lt k e).2⟩⟩
structure Zja (hb : Nat) (v : Value) (ps : List Nat) (rb : Nat) : Prop where
 rh : rb ≠ hb
 ph : ∀ p ∈ ps, p ≠ hb
 pr : ∀ p ∈ ps, p ≠ rb
 vh : ∀ k, v.ownBlock = some k -> k ≠ hb
 vr : ∀ k, v.ownBlock = some k -> k ≠ rb
 vp : ∀ k, v.ownBlock = some k -> ∀ p ∈ ps, k ≠ p
theorem Zx.apart (h : Zx w hb pb F H R v ps rb) : Zja hb v ps rb := by
 obtain ⟨c, hr⟩ := h.room.blk
 exact ⟨Za hr h.box (by decide), fun p hp => by obtain ⟨c, hc⟩ := h.pblk hp; exact Za hc h.box (by decide), fun p hp => by obtain ⟨c, hc⟩ := h.pblk hp; exact Za hc hr (by decide),
   fun k e => by obtain ⟨c, hc⟩ := Zj h.row e; exact Za hc h.box (by decide), fun k e => by obtain ⟨c, hc⟩ := Zj h.row e; exact Za hc hr (by decide),
   fun k e p hp => by obtain ⟨c, hc⟩ := Zj h.row e; obtain ⟨d, hd⟩ := h.pblk hp; exact Za hc hd (by decide)⟩
theorem Zx.pool (h : Zx w hb pb F H R v ps rb) {n q : Nat} (hq : ZI w q n) : q ≠ hb /\ q ≠ rb /\ (∀ p ∈ ps, q ≠ p) /\ (∀ k, v.ownBlock = some k -> q ≠ k) := by
 obtain ⟨c, hr⟩ := h.room.blk
 exact ⟨Za hq h.box (by decide), Za hq hr (by decide), fun p hp => by obtain ⟨c, hc⟩ := h.pblk hp; exact Za hq hc (by decide), fun k e => by obtain ⟨c, hc⟩ := Zj h.row e; exact Za hq hc (by decide)⟩
theorem Zx.lim2 (h : Zx w hb pb F H R v ps rb) {n q : Nat} (hq : ZI w q n) : Zx w hb pb (fun k => F k /\ k < w.heap.size /\ k ≠ q) H R v ps rb := by
 have hp := h.pool hq
 have hl := h.lim.foot
 exact ⟨h.box, h.row, h.room, h.pg, h.nd, ⟨hl.1.1, hl.1.2, hp.1.symm⟩, ⟨hl.2.1.1, hl.2.1.2, hp.2.1.symm⟩, fun p hp' => ⟨(hl.2.2.1 p hp').1, (hl.2.2.1 p hp').2, (hp.2.2.1 p hp').symm⟩, fun k e => ⟨(hl.2.2.2 k e).1, (hl.2.2.2 k e).2, (hp.2.2.2 k e).symm⟩⟩
theorem Zx.turn {i p : Nat} {T' : List (Option Tup)} (h : Zx w hb pb F H R v ps rb) (hi : ps[i]? = some p) (ho : Z0 (· = p) w w') (hp : Z0m w' p T') : Zx w' hb pb F (H.set i T') R v ps rb := by
 have ha := h.apart
 have hm : p ∈ ps := List.mem_of_getElem? hi
 refine ⟨ho.get h.box (fun e => ha.ph p hm e.symm), ?_, h.room.kept ho (fun e => ha.pr p hm e.symm), fun j T hj => ?_, h.nd, h.foot⟩
 ·rw [List.length_set]
  exact Z4 h.row ho (fun k e x => ha.vp k e p hm x)
 ·have hil : i < H.length := by rw [<- h.plen]; exact (zi.1 hi).1
  rw [List.getElem?_set] at hj
  by_cases e : i = j
  ·subst e
   rw [if_pos rfl, if_pos hil] at hj
   injection hj with hj
   subst hj
   exact ⟨p, hi, hp⟩
  ·rw [if_neg e] at hj
   obtain ⟨q, h1, h2⟩ := h.pg j T hj
   refine ⟨q, h1, h2.kept ho (fun x => ?_)⟩
   subst x
   exact e ((List.getElem?_inj (zi.1 hi).1 h.nd).1 (hi.trans h1.symm))
theorem Zx.rooms {R' : List Int} (h : Zx w hb pb F H R v ps rb) (ho : Z0 (· = rb) w w') (hr : Z0O w' rb R') : Zx w' hb pb F H R' v ps rb := by
 have ha := h.apart
 exact ⟨ho.get h.box (fun e => ha.rh e.symm), Z4 h.row ho (fun k e x => ha.vr k e x), hr, fun i T hi => by obtain ⟨p, h1, h2⟩ := h.pg i T hi; exact ⟨p, h1, h2.kept ho (fun x => ha.pr p (List.mem_of_getElem? h1) x)⟩, h.nd, h.foot⟩
theorem Zx.grow {w1 w2 : World} {v' : Value} {q : Nat} (h : Zx w hb pb F H R v ps rb) (hq : Quiet w w1) (hp : Z0m w1 q []) (hn : w.heap.size <= q)
  (hg : ZW (w1.alloc (.cells #[ptrV q] 177)) w2 177 1 v v' (H.length + 1) (ps.map ptrV ++ [ptrV q])) :
  Zx (w2.setCell ⟨hb, 1, none⟩ v') hb pb (fun k => F k ∨ w.heap.size <= k) (H ++ [[]]) R v' (ps ++ [q]) rb /\ Z0 (fun k => F k) w (w2.setCell ⟨hb, 1, none⟩ v') := by
 have ha := h.apart
 have hl := Z2 h.box
 have hqa : Quiet w (w1.alloc (.cells #[ptrV q] 177)) := hq.alloc _
 have hsz := hq.size
 have hql := hp.lt
 have hf := h.foot
 have hrl := h.room.lt
 have hvl : ∀ k, v.ownBlock = some k -> k < w.heap.size := fun k e => (h.row.lt k e).2
 have hnew : ∀ k, v'.ownBlock = some k -> k ≠ hb /\ k ≠ rb /\ k ≠ q /\ (∀ p ∈ ps, k ≠ p) := by
  intro k e
  have hpl : ∀ p ∈ ps, p < w.heap.size := fun p hp => by obtain ⟨c, hc⟩ := h.pblk hp; exact Z2 hc
  rcases hg.loc with x | x
  ·rw [x] at e
   have := hvl k e
   exact ⟨ha.vh k e, ha.vr k e, by omega, ha.vp k e⟩
  ·rw [x] at e
   injection e with e
   simp at e
   exact ⟨by omega, by omega, by omega, fun p hp => by have := hpl p hp; omega⟩
 have box2 := hg.only.get (hqa.get h.box (fun x => x)) (fun e => ha.vh hb e rfl)
 have ho3 : Z0 (· = hb) w2 (w2.setCell ⟨hb, 1, none⟩ v') := (Z0.refl (· = hb) w2).setCell (p := ⟨hb, 1, none⟩) (fun _ => rfl) v'
 refine ⟨⟨?_, ?_, ?_, fun i T hi => ?_, ?_, Or.inl hf.1, Or.inl hf.2.1, fun p hp => ?_, fun k e => ?_⟩, ?_⟩
 ·rw [Zf box2]; rfl
 ·rw [List.length_append, List.map_append]
  exact Z4 hg.own ho3 (fun k e x => (hnew k e).1 x)
 ·exact (Z0O.kept (S := fun k => v.ownBlock = some k) (h.room.kept hqa (fun x => x)) hg.only (fun e => ha.vr rb e rfl)).kept ho3 ha.rh
 ·have hpl := h.plen
  rcases Z1U hi with ⟨_, h1⟩ | ⟨h1, h2⟩
  ·obtain ⟨p, h3, h4⟩ := h.pg i T h1
   have hpm := List.mem_of_getElem? h3
   exact ⟨p, Z7w h3, (Z0m.kept (S := fun k => v.ownBlock = some k) (h4.kept hqa (fun x => x)) hg.only (fun e => ha.vp p e p hpm rfl)).kept ho3 (ha.ph p hpm)⟩
  ·subst h2
   refine ⟨q, by rw [h1, <- hpl]; simp, ?_⟩
   exact (Z0m.kept (S := fun k => v.ownBlock = some k) (hp.kept ((Z0.refl (fun _ => False) w1).alloc _) (fun x => x)) hg.only (fun e => by have := hvl q e; omega)).kept ho3 (by omega)
 ·rw [List.nodup_append]
  refine ⟨h.nd, by simp, fun a ha' b hb' => ?_⟩
  obtain ⟨c, hc⟩ := h.pblk ha'
  have := Z2 hc
  simp at hb'
  omega
 ·rcases List.mem_append.1 hp with x | x
  ·exact Or.inl (hf.2.2.1 p x)
  ·simp at x; subst x; exact Or.inr hn
 ·rcases hg.loc with x | x
  ·rw [x] at e; exact Or.inl (hf.2.2.2 k e)
  ·rw [x] at e; injection e with e; simp at e; exact Or.inr (by omega)
 ·exact (((hqa.mono (T := F) (fun _ _ x => x.elim)).trans' hg.only (fun k hk e => hf.2.2.2 k e)).trans' ho3 (fun k hk e => by subst e; exact hf.1))
end
def Zp (w : World) (hb pb : Nat) (F : Nat -> Prop) (H : List (List (Option Tup))) : Prop := ∃ v ps rb, Zx w hb pb F H (H.map ZL) v ps rb
section
variable {w w' : World} {hb pb : Nat} {F : Nat -> Prop} {H : List (List (Option Tup))}
theorem Zp.kept {S : Nat -> Prop} (h : Zp w hb pb F H) (ho : Z0 S w w') (hn : ∀ k, F k -> ¬ S k) : Zp w' hb pb F H := by
 obtain ⟨v, ps, rb, h⟩ := h
 exact ⟨v, ps, rb, h.kept ho hn⟩
theorem Zp.mono {G : Nat -> Prop} (h : Zp w hb pb F H) (hg : ∀ k, F k -> G k) : Zp w hb pb G H := by
 obtain ⟨v, ps, rb, h⟩ := h
 exact ⟨v, ps, rb, h.mono hg⟩
theorem Zp.lim (h : Zp w hb pb F H) : Zp w hb pb (fun k => F k /\ k < w.heap.size) H := by
 obtain ⟨v, ps, rb, h⟩ := h
 exact ⟨v, ps, rb, h.lim⟩
theorem Zp.most (h : Zp w hb pb F H) : H.length <= 256 := by
 obtain ⟨v, ps, rb, h⟩ := h
 simpa using h.room.most
end
theorem ZgS (n : Nat) (hn : n <= 256) (w : World) :
  Calls Tryz.prog 25 #[.int .i64 (n : Int)] w fun e w' => e = .returned (.tuple #[.pointer (some ⟨w.heap.size, 0, none⟩), .int .i64 0]) /\ Quiet w w' /\ ZI w' w.heap.size n := by
 have d0 : decide ((n : Int) < 0) = false := by simp
 have d1 : decide ((256 : Int) < n) = false := by simp; omega
 go_enter Tryz.func25, Tryz.ntmps25
 go_wp2
 go_ret2
 exact ⟨rfl, (Z0.refl _ _).alloc _, Z5 _ _⟩
theorem Z6a (pb n : Nat) (w : World) (h : ZI w pb n) :
  Calls Tryz.prog 55 #[.pointer (some ⟨pb, 0, none⟩)] w fun e w' => e = .returned (.int .i64 (n : Int)) /\ w = w' := by
 have hc := h.cell
 clear h
 go_enter Tryz.func55, Tryz.ntmps55
 go_wp2
 go_ret
 exact ⟨rfl, rfl⟩
theorem ZdK {w w1 : World} {pb : Nat} (hq : Below w.heap.size w w1) (hs : w.heap.size < w1.heap.size) (hr : Z0O w1 w.heap.size []) :
  Zp (w1.alloc (.cells #[.pointer (some ⟨pb, 0, none⟩), .slice none 0 0, .pointer (some ⟨w.heap.size, 0, none⟩)] 155)) w1.heap.size pb (fun k => w.heap.size <= k) [] :=
 ⟨_, [], _, Z5 _ _, World.ownsRow_nil _ _ _ _, hr.kept ((Z0.refl (fun _ => False) w1).alloc _) (fun x => x), fun i T hi => by simp at hi, List.nodup_nil, Nat.le_of_lt hs, Nat.le_refl _, fun p hp => by simp at hp, fun k e => by cases e⟩
theorem ZgT (pb : Nat) (w : World) :
  Calls Tryz.prog 32 #[.pointer (some ⟨pb, 0, none⟩)] w fun e w' => ∃ hb, e = .returned (.pointer (some ⟨hb, 0, none⟩)) /\ Quiet w w' /\ Zp w' hb pb (fun k => w.heap.size <= k) [] := by
 go_enter Tryz.func32, Tryz.ntmps32
 go_wp2_with fail
 refine (Z9F w).mono ?_
 rintro e w1 ⟨rfl, hB, hs, hr⟩
 have HH := zh (ZdK (pb := pb) hB hs hr)
 have HQ : Hid (Quiet w w1) := Z0.ofBelow' hB
 clear hB hs hr
 go_wp2
 go_ret
 exact ⟨_, rfl, HQ.out.alloc _, HH.out⟩
theorem Zx.cells {w : World} {hb pb : Nat} {F : Nat -> Prop} {H : List (List (Option Tup))} {R : List Int} {v : Value} {ps : List Nat} {rb : Nat} (h : Zx w hb pb F H R v ps rb) :
  w.cell? ⟨hb, 0, none⟩ = some (.pointer (some ⟨pb, 0, none⟩)) /\ w.cell? ⟨hb, 1, none⟩ = some v /\ w.cell? ⟨hb, 2, none⟩ = some (.pointer (some ⟨rb, 0, none⟩)) :=
 ⟨by rw [Z1 h.box]; rfl, by rw [Z1 h.box]; rfl, by rw [Z1 h.box]; rfl⟩
theorem Zx.rowForm {w : World} {hb pb : Nat} {F : Nat -> Prop} {H : List (List (Option Tup))} {R : List Int} {v : Value} {ps : List Nat} {rb : Nat} (h : Zx w hb pb F H R v ps rb) :
  ∃ A c, v = .slice A H.length c /\ H.length <= c /\ c <= maxLen /\ ∀ (i p : Nat), ps[i]? = some p -> ∃ g, A = some ⟨g, 0, none⟩ /\ w.cell? ⟨g, i, none⟩ = some (ptrV p) := by
 rcases h.row.2 with ⟨e1, e2⟩ | ⟨g, cap, cur, e1, _, hh, r1, r2, _⟩
 ·refine ⟨none, 0, by rw [e2]; exact e1, by omega, Nat.zero_le _, fun i p hi => ?_⟩
  have := h.plen
  have := (zi.1 hi).1
  omega
 ·refine ⟨_, cap, e1, r1, r2, fun i p hi => ⟨g, rfl, ?_⟩⟩
  have := h.row.cells (by rw [e1]; rfl) i (ptrV p) (by rw [List.getElem?_map, hi]; rfl)
  rw [Zq, Nat.zero_add] at this
  exact this
section
variable {w : World} {hb pb : Nat} {F : Nat -> Prop} {H : List (List (Option Tup))} {R : List Int} {v : Value} {ps : List Nat} {rb : Nat}
theorem Z3w (n : Int) (h : Zx w hb pb F H R v ps rb) (hn : n < 0 ∨ (H.length : Int) <= n) :
  Calls Tryz.prog 77 #[.pointer (some ⟨hb, 0, none⟩), .int .i64 n] w fun e w' => e = .returned (.pointer none) /\ w = w' := by
 obtain ⟨A, c, rfl, _, _, _⟩ := h.rowForm
 obtain ⟨_, c1, _⟩ := h.cells
 clear h
 rcases hn with hn | hn
 ·go_enter Tryz.func77, Tryz.ntmps77
  go_wp2
  go_ret
  exact ⟨rfl, rfl⟩
 ·have h0 : ¬ n < 0 := by omega
  go_enter Tryz.func77, Tryz.ntmps77
  go_wp2
  go_ret
  exact ⟨rfl, rfl⟩
theorem Z1E (n p : Nat) (h : Zx w hb pb F H R v ps rb) (hn : ps[n]? = some p) :
  Calls Tryz.prog 77 #[.pointer (some ⟨hb, 0, none⟩), .int .i64 (n : Int)] w fun e w' => e = .returned (.pointer (some ⟨p, 0, none⟩)) /\ w = w' := by
 obtain ⟨A, c, rfl, hc, hm, hr⟩ := h.rowForm
 obtain ⟨_, c1, _⟩ := h.cells
 have hl : n < H.length := by rw [<- h.plen]; exact (zi.1 hn).1
 obtain ⟨g, rfl, hg⟩ := hr n p hn
 have d0 : decide ((n : Int) < 0) = false := by simp
 have d1 : decide ((H.length : Int) <= n) = false := by simp; omega
 unfold maxLen at hm
 clear h hr hn
 go_enter Tryz.func77, Tryz.ntmps77
 go_wp2
 go_ret
 exact ⟨rfl, rfl⟩
theorem Z6b (n p : Nat) (T : List (Option Tup)) (h : Zx w hb pb F H R v ps rb) (hn : ps[n]? = some p) (hT : H[n]? = some T) (hR : n <= R.length) (h256 : n < 256) :
  Calls Tryz.prog 129 #[.pointer (some ⟨hb, 0, none⟩), .int .i64 (n : Int)] w fun e w' => e = .returned (.tuple #[]) /\ Z0 (· = rb) w w' /\ Zx w' hb pb F H (Z42 R n (ZL T)) v ps rb := by
 have HH := zh h
 obtain ⟨A, c, rfl, hc, hm, hr⟩ := h.rowForm
 obtain ⟨_, c1, c2⟩ := h.cells
 have hl : n < H.length := by rw [<- h.plen]; exact (zi.1 hn).1
 obtain ⟨T', hT', hpt⟩ := h.page hn
 obtain rfl : T = T' := by rw [hT] at hT'; injection hT'
 obtain ⟨g, rfl, hg⟩ := hr n p hn
 have HPT := zh hpt
 have hset : Z68 R (n : Int) (ZL T) = (0, Z42 R n (ZL T)) := by
  rw [Zd2 (by omega) (by omega), Int.toNat_natCast, ZdJ]
 have HSET := zh hset
 have HNE : Hid ((¬ hb = rb) /\ ¬ g = rb) := ⟨fun e => h.apart.rh e.symm, fun e => h.apart.vr g rfl e⟩
 have d0 : decide ((n : Int) < 0) = false := by simp
 have d1 : decide ((H.length : Int) <= n) = false := by simp; omega
 unfold maxLen at hm
 clear h hr hn hT hT' hset hpt
 go_enter Tryz.func129, Tryz.ntmps129
 go_wp2_with fail
 go_region_held3 (fun w' => w'.cell? ⟨hb, 1, none⟩ = some (.slice (some ⟨g, 0, none⟩) H.length c) /\ w'.cell? ⟨hb, 2, none⟩ = some (.pointer (some ⟨rb, 0, none⟩)) /\ w'.cell? ⟨g, n, none⟩ = some (ptrV p))
  (first | go_keep | exact ⟨ho3.cell (by exact c1) HNE.out.1, ho3.cell (by exact c2) HNE.out.1, ho3.cell (by exact hg) HNE.out.2⟩ | fail)
  (first
    | (go_at_call 157; go_must (refine (ZdE p T _ (by exact HPT.out)).mono ?_; rintro e w2 ⟨rfl, n3, rfl⟩))
    | (go_at_call 163; go_must (refine (ZgR rb R _ (n : Int) (ZL T) (HH.out.room.drewN _)).mono ?_; rintro e w3 ⟨rfl, ho3, hr3⟩))
    | fail)
 go_wp2
 go_end0
 rw [HSET.out] at hr3
 exact ⟨rfl, ((Z0.refl _ _).drewN _).trans ho3, (HH.out.drewN _).rooms ho3 hr3⟩
theorem Z8c (h : Zp w hb pb F H) :
  Calls Tryz.prog 75 #[.pointer (some ⟨hb, 0, none⟩)] w fun e w' => e = .returned (.int .i64 (H.length : Int)) /\ w = w' := by
 obtain ⟨v, ps, rb, h⟩ := h
 obtain ⟨A, c, rfl, hc, hm, hr⟩ := h.rowForm
 obtain ⟨_, c1, _⟩ := h.cells
 clear h hr
 go_enter Tryz.func75, Tryz.ntmps75
 go_wp2
 go_ret
 exact ⟨rfl, rfl⟩
def usedH (H : List (List (Option Tup))) : Nat := (H.map Z0B).sum
theorem ZgU (T : List (Option Tup)) : Z0B T <= T.length := List.length_filter_le _ _
theorem ZdL {H : List (List (Option Tup))} {k : Nat} {T : List (Option Tup)} (h : H[k]? = some T) : usedH (H.take (k + 1)) = usedH (H.take k) + Z0B T := by
 unfold usedH
 rw [List.take_add_one, h]
 simp
theorem Zfk (h : Zp w hb pb F H) :
  Calls Tryz.prog 52 #[.pointer (some ⟨hb, 0, none⟩)] w fun e w' => e = .returned (.int .i64 (usedH H : Int)) /\ ∃ n, w' = w.drewN n := by
 have h256 := h.most
 obtain ⟨v, ps, rb, h⟩ := h
 have HH := zh h
 obtain ⟨A, c, rfl, hc, hm, hr⟩ := h.rowForm
 obtain ⟨_, c1, _⟩ := h.cells
 have HR := zh hr
 unfold maxLen at hm
 clear h hr
 go_enter Tryz.func52, Tryz.ntmps52
 go_wp2
 go_loopw [3, 13, 5] (fun n v _ wr => ∃ k : Nat, k <= H.length /\ v = .int .i64 (k : Int) /\ n = .int .i64 (usedH (H.take k) : Int) /\ usedH (H.take k) <= 127 * k /\ (∃ n, wr = w.drewN n)) (fun _ v _ _ => H.length - (intOf v).toNat)
 case atStart => exact ⟨0, Nat.zero_le _, rfl, rfl, Nat.zero_le _, ⟨0, rfl⟩⟩
 case round =>
  obtain ⟨k, hk, rfl, rfl, hu, ⟨m, rfl⟩⟩ := hrel
  by_cases hlt : k < H.length
  ·obtain ⟨p, hp, hpt⟩ := HH.out.pg k _ (zg hlt)
   obtain ⟨g, rfl, hg⟩ := HR.out k p hp
   obtain ⟨T, hT⟩ : ∃ T, H[k] = T := ⟨_, rfl⟩
   rw [hT] at hpt
   have HN := zh (ZdL (zg hlt))
   rw [hT] at HN
   have HPT := zh hpt
   have hle := hpt.len
   have hle2 := ZgU T
   clear hp hpt hT
   go_wp2_with fail
   refine (ZdF p T _ (by exact HPT.out)).mono ?_
   rintro e w1 ⟨rfl, n, rfl⟩
   go_wp2
   go_roundw
   case rel => exact ⟨k + 1, by omega, by go_num, by rw [HN.out]; go_num, by rw [HN.out]; omega, ⟨_, rfl⟩⟩
   case measure => simp [intOf]; omega
  ·obtain rfl : k = H.length := by omega
   rw [List.take_length]
   clear hu
   go_wp2
   go_ret
   exact ⟨rfl, _, rfl⟩
theorem ZdM {w1 : World} {n k : Nat} {z : Int} (h : Zx w hb pb F H R v ps rb) (hp : ZI w pb n) (hz : z = ((n + k : Nat) : Int))
  (hB : Below (w.setCell ⟨pb, 0, none⟩ (.int .i64 z)).heap.size (w.setCell ⟨pb, 0, none⟩ (.int .i64 z)) w1) (hr : Z0O w1 (w.setCell ⟨pb, 0, none⟩ (.int .i64 z)).heap.size []) :
  Z0 (fun k => F k ∨ k = pb) w ((w1.setCell ⟨hb, 1, none⟩ (.slice none 0 0)).setCell ⟨hb, 2, none⟩ (.pointer (some ⟨w.heap.size, 0, none⟩))) ∧
  ZI ((w1.setCell ⟨hb, 1, none⟩ (.slice none 0 0)).setCell ⟨hb, 2, none⟩ (.pointer (some ⟨w.heap.size, 0, none⟩))) pb (n + k) ∧
  Zp ((w1.setCell ⟨hb, 1, none⟩ (.slice none 0 0)).setCell ⟨hb, 2, none⟩ (.pointer (some ⟨w.heap.size, 0, none⟩))) hb pb (fun k => F k ∨ w.heap.size <= k) [] := by
 have hsz : (w.setCell ⟨pb, 0, none⟩ (.int .i64 z)).heap.size = w.heap.size := by simp [World.setCell]
 have hpool := h.pool hp
 have hl := Z2 h.box
 have hpl := hp.lt
 have o1 : Z0 (fun k => F k ∨ k = pb) w (w.setCell ⟨pb, 0, none⟩ (.int .i64 z)) := (Z0.refl _ w).setCell (p := ⟨pb, 0, none⟩) (fun _ => Or.inr rfl) _
 have q1 : Quiet (w.setCell ⟨pb, 0, none⟩ (.int .i64 z)) w1 := Z0.ofBelow' hB
 have hp1 : ZI w1 pb (n + k) := (hp.set hz).kept q1 (fun x => x)
 have b0 := Z4M h.box 0 (.int .i64 z) (fun e => hpool.1 e.symm)
 have b1 := q1.get b0 (fun x => x)
 have hrl := hr.lt
 rw [hsz] at hr hrl
 have o3 : Z0 (· = hb) w1 ((w1.setCell ⟨hb, 1, none⟩ (.slice none 0 0)).setCell ⟨hb, 2, none⟩ (.pointer (some ⟨w.heap.size, 0, none⟩))) :=
  ((Z0.refl (· = hb) w1).setCell (p := ⟨hb, 1, none⟩) (fun _ => rfl) _).setCell (p := ⟨hb, 2, none⟩) (fun _ => rfl) _
 refine ⟨(o1.trans' q1 (fun _ _ x => x.elim)).trans' o3 (fun k _ e => by subst e; exact Or.inl h.foot.1), hp1.kept o3 hpool.1, _, [], w.heap.size, ?_, World.ownsRow_nil _ _ _ _, hr.kept o3 (by omega), fun i T hi => by simp at hi, List.nodup_nil, Or.inl h.foot.1, Or.inr (Nat.le_refl _), fun p hp => by simp at hp, fun k e => by cases e⟩
 rw [Zf (Zf b1 _ _)]
 rfl
theorem Zfl (n : Nat) (h : Zp w hb pb F H) (hp : ZI w pb n) (hn : n <= 256) :
  Calls Tryz.prog 176 #[.pointer (some ⟨hb, 0, none⟩)] w fun e w' => e = .returned (.int .i64 (H.length : Int)) /\ Z0 (fun k => F k ∨ k = pb) w w' /\ ZI w' pb (n + H.length) /\ Zp w' hb pb (fun k => F k ∨ w.heap.size <= k) [] := by
 have h256 := h.most
 obtain ⟨v, ps, rb, h⟩ := h
 have HH := zh h
 have HP := zh hp
 obtain ⟨A, c, rfl, hc, hm, hr⟩ := h.rowForm
 obtain ⟨c0, c1, _⟩ := h.cells
 have hpc := hp.cell
 have hpf := Z7 hp 0
 have hne : ¬ hb = pb := fun e => (h.pool hp).1 e.symm
 have hne' : ¬ pb = hb := fun e => hne e.symm
 clear h hr hp
 go_enter Tryz.func176, Tryz.ntmps176
 go_wp2_with fail
 refine (Z9F _).mono ?_
 rintro e w1 ⟨rfl, hB, hs, hr⟩
 have HF := zh (ZdM (k := H.length) HH.out HP.out (by omega) hB hr)
 have hb1 : w1.heap[hb]? = _ := (Z0.ofBelow' (S := fun _ => False) hB).get (Z4M HH.out.box 0 _ hne) (fun x => x)
 obtain ⟨k1, k2⟩ : (∃ x, w1.cell? ⟨hb, 1, none⟩ = some x) /\ ∃ x, w1.cell? ⟨hb, 2, none⟩ = some x := ⟨⟨_, by rw [Z1 hb1]; rfl⟩, ⟨_, by rw [Z1 hb1]; rfl⟩⟩
 obtain ⟨x1, k1⟩ := k1
 obtain ⟨x2, k2⟩ := k2
 have hf1 := fun o => Z7 hb1 o
 clear hB hs hr hb1
 go_wp2
 go_ret
 exact ⟨rfl, HF.out⟩
end
theorem Zfm : Z05 Tryz.prog 153 177 1 8 := Z05.mk' (.pointer none) Tryz.underlying153 (by kernel_rfl) rfl (by decide)
theorem Z4v : (Tryz.prog.info? 48).map (·.size) = some 2 := by kernel_rfl
theorem Z3x {W : World} {b : Nat} {c0 c1 : Value} {t : TypeId} (h : W.heap[b]? = some (.cells #[c0, c1] t (0, 0))) (x y : Value) : ((W.setCell ⟨b, 0, none⟩ x).setCell ⟨b, 1, none⟩ y).heap[b]? = some (.cells #[x, y] t (0, 0)) := by
 rw [Zf (Zf h _ _)]
 rfl
theorem Z2U (W : World) (b : Nat) (x y : Value) : Z0 (· = b) W ((W.setCell ⟨b, 0, none⟩ x).setCell ⟨b, 1, none⟩ y) :=
 ((Z0.refl (· = b) W).setCell (p := ⟨b, 0, none⟩) (fun _ => rfl) x).setCell (p := ⟨b, 1, none⟩) (fun _ => rfl) y
structure Z0U (G : Nat -> Prop) (w W : World) (t : Tup) (A : Option Addr) (cap : Nat) : Prop where
 only : Z0 G w W
 box : W.heap[w.heap.size]? = some (.cells #[.int .u64 t.row, .int .u64 t.xmin, .int .u64 t.xmax, .int .i64 t.pg, .int .i64 t.sl, .slice A t.data.length cap] 104 (0, 0))
 tid : W.heap[w.heap.size + 1]? = some (.cells #[.int .i64 0, .int .i64 0] 48 (0, 0))
section
variable {G : Nat -> Prop} {w W W' : World} {t : Tup} {A : Option Addr} {cap : Nat}
theorem Z0U.start (w : World) (t : Tup) (A : Option Addr) (cap : Nat) : Z0U (fun _ => False) w ((w.alloc (.cells #[.int .u64 t.row, .int .u64 t.xmin, .int .u64 t.xmax, .int .i64 t.pg, .int .i64 t.sl, .slice A t.data.length cap] 104)).alloc (.cells #[.int .i64 0, .int .i64 0] 48)) t A cap :=
 ⟨((Z0.refl _ _).alloc _).alloc _, Zd (Z5 _ _) _, Z0r _ _ _⟩
theorem Z0U.on {S : Nat -> Prop} (h : Z0U G w W t A cap) (ho : Z0 S W W') (h1 : ∀ k, k < w.heap.size -> S k -> G k) (h2 : ∀ k, w.heap.size <= k -> k < w.heap.size + 2 -> ¬ S k) : Z0U G w W' t A cap :=
 ⟨h.only.trans' ho h1, ho.get h.box (h2 _ (by omega) (by omega)), ho.get h.tid (h2 _ (by omega) (by omega))⟩
theorem Z0U.mono {G' : Nat -> Prop} (h : Z0U G w W t A cap) (hg : ∀ k, G k -> G' k) : Z0U G' w W t A cap := ⟨h.only.mono (fun k _ x => hg k x), h.box, h.tid⟩
theorem Z0U.quietly (h : Z0U G w W t A cap) (hq : Quiet W W') : Z0U G w W' t A cap := h.on hq (fun _ _ x => x.elim) (fun _ _ _ x => x)
theorem Z0U.drew (h : Z0U G w W t A cap) : Z0U G w W.drew t A cap := ⟨h.only.drew, h.box, h.tid⟩
theorem Z0U.drewN (h : Z0U G w W t A cap) (n : Nat) : Z0U G w (W.drewN n) t A cap := ⟨h.only.drewN n, h.box, h.tid⟩
theorem Z0U.lt (h : Z0U G w W t A cap) : w.heap.size + 1 < W.heap.size := Z2 h.tid
theorem Z0U.cells (h : Z0U G w W t A cap) : W.cell? ⟨w.heap.size + 1, 0, none⟩ = some (.int .i64 0) /\ W.cell? ⟨w.heap.size + 1, 1, none⟩ = some (.int .i64 0) /\ ∀ o, W.frozen? ⟨w.heap.size + 1, o, none⟩ = false :=
 ⟨by rw [Z1 h.tid]; rfl, by rw [Z1 h.tid]; rfl, fun o => Z7 h.tid o⟩
theorem Z0U.end_ (h : Z0U G w W t A cap) (x y : Value) : Z0 G w ((W.setCell ⟨w.heap.size + 1, 0, none⟩ x).setCell ⟨w.heap.size + 1, 1, none⟩ y) :=
 h.only.trans' (Z2U W _ x y) (fun k hk e => by omega)
theorem Z5D (t : Tup) (A : Option Addr) (cap : Nat) (S : Nat -> Prop) (hby : ∀ x ∈ t.data, x < 256) (hd : Rd w S 1 A t.data.length (Zg t.data)) (W w1 : World) (q : Nat) (h : Z0U (fun _ => False) w W t A cap) (hq : Quiet W.drew w1) (hp : Z0m w1 q []) (hq' : w.heap.size + 2 <= q) :
  Calls Tryz.prog 127 #[.pointer (some ⟨q, 0, none⟩), Zt t A cap] w1 fun e w' => e = .returned (.tuple #[.int .i64 0, .int .i64 (if t.rightB then 0 else 3)]) /\ Z0U (fun _ => False) w w' t A cap := by
 have h1 := h.drew.quietly hq
 have := Z4u q [] t A cap _ w1 hp hby (hd.kept h1.only (fun _ _ x => x))
 have hr : (Z2n [] t).1 = 0 /\ (Z2n [] t).2.1 = if t.rightB then 0 else 3 := by
  unfold Z2n
  rcases e : t.rightB with _ | _
  ·exact ⟨rfl, rfl⟩
  ·rw [if_neg (by simp), if_neg (by
      have : t.data.length <= 200 := (of_decide_eq_true e).2.2.2.2
      have : ZL [] = 474 := by decide
      omega)]
   exact ⟨rfl, rfl⟩
 rw [hr.1, hr.2] at this
 exact this.mono fun e w' ⟨a, b, c⟩ => ⟨a, h1.on b (fun k hk e => by omega) (fun k h1 h2 e => by omega)⟩
end
theorem Z7D (hb : Nat) (t : Tup) (A : Option Addr) (cap : Nat) (S : Nat -> Prop) (w : World) (ht : t.rightB = false) (hby : ∀ x ∈ t.data, x < 256) (hd : Rd w S 1 A t.data.length (Zg t.data)) :
  Calls Tryz.prog 88 #[.pointer (some ⟨hb, 0, none⟩), Zt t A cap] w fun e w' => e = .returned (.tuple #[.agg #[.int .i64 0, .int .i64 0], .int .i64 3]) /\ Quiet w w' := by
 have HI := zh (Z5D t A cap S hby hd)
 have H0 := zh (Z0U.start w t A cap)
 simp only [ht, Bool.false_eq_true, if_false, if_true] at HI
 unfold Zt at HI ⊢
 clear ht hby hd
 go_enter Tryz.func88, Tryz.ntmps88
 go_wp2_with fail
 go_region_held3 (fun w' => w'.cell? ⟨w.heap.size, 0, none⟩ = some (.int .u64 t.row) /\ w'.cell? ⟨w.heap.size, 1, none⟩ = some (.int .u64 t.xmin) /\ w'.cell? ⟨w.heap.size, 2, none⟩ = some (.int .u64 t.xmax) /\ w'.cell? ⟨w.heap.size, 3, none⟩ = some (.int .i64 t.pg) /\ w'.cell? ⟨w.heap.size, 4, none⟩ = some (.int .i64 t.sl) /\ w'.cell? ⟨w.heap.size, 5, none⟩ = some (.slice A t.data.length cap))
  (first | go_keep | exact Z0k H2.out.box | exact Z0k H1.out.box | fail)
  (first
    | (go_at_call 95; go_must (refine (Z35 _).mono ?_; rintro e w1 ⟨rfl, hq1, hs1, hp1⟩; have H1 := zh (H0.out.drew.quietly hq1); have HQ1 := zh hq1; simp only [World.size_drew, World.size_alloc] at hp1; have HP1 := zh hp1; clear hq1 hp1 hs1))
    | (go_at_call 127; go_must (refine (HI.out _ _ _ H0.out HQ1.out HP1.out (by omega)).mono ?_; rintro e w2 ⟨rfl, h2⟩; have H2 := zh h2; clear h2))
    | fail)
 clear HI H0 HQ1 HP1 H1
 obtain ⟨t0, t1, tf⟩ := H2.out.cells
 go_wp2_with fail
 exact bodyPost_ret (ZC Tryz.results88 _ _ (w.heap.size + 1) _ _ (0, 0) _ (by rfl) (Z3x H2.out.tid _ _) Tryz.underlying48 rfl Z4v) (by rfl) ⟨rfl, H2.out.end_ _ _⟩
theorem Z9G (H : List (List (Option Tup))) (i : Nat) (T : List (Option Tup)) (hi : i < H.length) : Z42 (H.map ZL) i (ZL T) = (H.set i T).map ZL := by
 unfold Z42
 rw [if_neg (by simp; omega), List.map_set]
theorem Zie (t : Tup) (ht : t.rightB = true) : Z2n [] t = (0, 0, [some t]) := by
 unfold Z2n
 rw [if_neg (by simp [ht]), if_neg (by
   have : t.data.length <= 200 := (of_decide_eq_true ht).2.2.2.2
   have : ZL [] = 474 := by decide
   omega)]
 rfl
theorem ZgV {T : List (Option Tup)} {t : Tup} (ht : t.rightB = true) (hr : (t.data.length : Int) <= ZL T) : Z2n T t = ((freeT T : Int), 0, Z1h T t) := by
 unfold Z2n
 rw [if_neg (by simp [ht]), if_neg (by omega)]
theorem Z77 (hb pb : Nat) (F : Nat -> Prop) (H : List (List (Option Tup))) (T : List (Option Tup)) (i : Nat) (t : Tup) (A : Option Addr) (cap : Nat) (S : Nat -> Prop) (w : World) (h : Zp w hb pb F H) (ht : t.rightB = true) (hf : Z1c H t.data.length = some i) (hT : H[i]? = some T)
  (hby : ∀ x ∈ t.data, x < 256) (hd : Rd w S 1 A t.data.length (Zg t.data)) :
  Calls Tryz.prog 88 #[.pointer (some ⟨hb, 0, none⟩), Zt t A cap] w fun e w' => e = .returned (.tuple #[.agg #[.int .i64 (i : Int), .int .i64 (freeT T : Int)], .int .i64 0]) /\ Z0 F w w' /\ Zp w' hb pb F (H.set i (Z1h T t)) := by
 have HI := zh (Z5D t A cap S hby hd)
 have H0 := zh (Z0U.start w t A cap)
 simp only [ht, Bool.false_eq_true, if_false, if_true] at HI
 have h256 := h.most
 obtain ⟨v, ps, rb, h⟩ := h.lim
 have hfr := Z5C H t.data.length
 rw [hf] at hfr
 have hil : i < H.length := (zi.1 hT).1
 obtain ⟨p, hp, hpt⟩ := h.pg i T hT
 obtain ⟨T', hT', hrm⟩ := Z4e hf
 obtain rfl : T = T' := by rw [hT] at hT'; injection hT'
 have HIN : Hid (∀ w1, Quiet w w1 -> Calls Tryz.prog 127 #[.pointer (some ⟨p, 0, none⟩), Zt t A cap] w1 fun e w' => e = .returned (.tuple #[.int .i64 (freeT T : Int), .int .i64 0]) /\ Z0 (· = p) w1 w' /\ Z0m w' p (Z1h T t)) := fun w1 hq => by
  have := Z4u p T t A cap _ w1 (hpt.kept hq (fun x => x)) hby (hd.kept hq (fun _ _ x => x))
  rw [ZgV ht hrm] at this
  exact this
 obtain ⟨B, c, hv, hc, hm, hr⟩ := h.rowForm
 obtain ⟨g, rfl, hg⟩ := hr i p hp
 have hall := h.cells
 rw [hv] at hall
 obtain ⟨c0, c1, c2⟩ := hall
 have hl1 := Z2 h.box
 have hl2 := Ze hg
 have HH := zh h
 have HFR := zh hfr
 have HHP := zh hp
 have HV := zh hv
 unfold maxLen at hm
 unfold Zt at HI HIN ⊢
 clear ht hby hd hf h hfr hr hpt hT' hrm hp hv
 go_enter Tryz.func88, Tryz.ntmps88
 go_wp2_with fail
 go_region_held3 (fun w' => w'.cell? ⟨w.heap.size, 0, none⟩ = some (.int .u64 t.row) /\ w'.cell? ⟨w.heap.size, 1, none⟩ = some (.int .u64 t.xmin) /\ w'.cell? ⟨w.heap.size, 2, none⟩ = some (.int .u64 t.xmax) /\ w'.cell? ⟨w.heap.size, 3, none⟩ = some (.int .i64 t.pg) /\ w'.cell? ⟨w.heap.size, 4, none⟩ = some (.int .i64 t.sl) /\ w'.cell? ⟨w.heap.size, 5, none⟩ = some (.slice A t.data.length cap))
  (first | go_keep | exact Z0k H2.out.box | exact Z0k H1.out.box | fail)
  (first
    | (go_at_call 95; go_must (refine (Z35 _).mono ?_; rintro e w1 ⟨rfl, hq1, hs1, hp1⟩; have H1 := zh (H0.out.drew.quietly hq1); have HQ1 := zh hq1; simp only [World.size_drew, World.size_alloc] at hp1; have HP1 := zh hp1; clear hq1 hp1 hs1))
    | (go_at_call 127; go_must (refine (HI.out _ _ _ H0.out HQ1.out HP1.out (by omega)).mono ?_; rintro e w2 ⟨rfl, h2⟩; have H2 := zh h2; clear h2))
    | fail)
 clear HI H0 HQ1 HP1 H1
 have HH2 := zh (HH.out.kept H2.out.only (fun _ _ x => x))
 obtain ⟨b0, b1, b2, b3, b4, b5⟩ := Z0k H2.out.box
 have k1 := H2.out.only.cell c1 (fun x => x)
 have k2 := H2.out.only.cell c2 (fun x => x)
 have kg := H2.out.only.cell hg (fun x => x)
 have d0 : decide ((i : Int) < 0) = false := by simp
 have d1 : decide ((H.length : Int) <= i) = false := by simp; omega
 clear c0 c1 c2 hg
 go_wp2_with fail
 go_quiet ((go_at_call 128; exact Z4c (Z69 rb _ _ _ (HH2.out.room.drewN _))))
 rw [HFR.out]
 go_wp2_with fail
 have HNE : Hid ((¬ hb = p) /\ (¬ g = p) /\ p < w.heap.size) := ⟨fun e => HH.out.apart.ph p (List.mem_of_getElem? HHP.out) e.symm, fun e => HH.out.apart.vp g (by rw [HV.out]; rfl) p (List.mem_of_getElem? HHP.out) e, by obtain ⟨d, hd⟩ := HH.out.pblk (List.mem_of_getElem? HHP.out); exact Z2 hd⟩
 go_region_held3 (fun w' => w'.cell? ⟨hb, 1, none⟩ = some (.slice (some ⟨g, 0, none⟩) H.length c) /\ w'.cell? ⟨g, i, none⟩ = some (ptrV p) /\ w'.cell? ⟨w.heap.size, 0, none⟩ = some (.int .u64 t.row) /\ w'.cell? ⟨w.heap.size, 1, none⟩ = some (.int .u64 t.xmin) /\ w'.cell? ⟨w.heap.size, 2, none⟩ = some (.int .u64 t.xmax) /\ w'.cell? ⟨w.heap.size, 3, none⟩ = some (.int .i64 t.pg) /\ w'.cell? ⟨w.heap.size, 4, none⟩ = some (.int .i64 t.sl) /\ w'.cell? ⟨w.heap.size, 5, none⟩ = some (.slice A t.data.length cap))
  (first | go_keep | exact ⟨ho4.cell (by exact k1) HNE.out.1, ho4.cell (by exact kg) HNE.out.2.1, Z0k (ho4.get (by exact H2.out.box) (by have := HNE.out.2.2; omega))⟩ | fail)
  (first
    | (go_at_call 127; go_must (refine (HIN.out _ (H2.out.only.drewN _)).mono ?_; rintro e w4 ⟨rfl, ho4, hp4⟩))
    | fail)
 have HH4 := zh ((HH2.out.drewN _).turn HHP.out ho4 hp4)
 have H4 : Hid (Z0U F w w4 t A cap) := ((H2.out.drewN _).mono (fun _ x => x.elim)).on ho4 (fun k _ e => by subst e; exact (HH.out.foot.2.2.1 k (List.mem_of_getElem? HHP.out)).1) (fun k h1 h2 e => by have := HNE.out.2.2; omega)
 clear ho4 hp4 HH2 H2 HIN HFR k1 k2 kg b0 b1 b2 b3 b4 b5
 go_wp2_with fail
 refine (Z6b i p (Z1h T t) HH4.out HHP.out (by rw [List.getElem?_set_self hil]) (by simp; omega) (by omega)).mono ?_
 rintro e w5 ⟨rfl, ho5, hh5⟩
 rw [Z9G H i _ hil] at hh5
 have HH5 := zh hh5
 have H5 := zh (H4.out.on ho5 (fun k _ e => by subst e; exact HH.out.foot.2.1.1) (fun k h1 h2 e => by have := HH.out.room.lt; omega))
 clear ho5 hh5 HH4 H4
 obtain ⟨t0, t1, tf⟩ := H5.out.cells
 go_wp2_with fail
 exact bodyPost_ret (ZC Tryz.results88 _ _ (w.heap.size + 1) _ _ (0, 0) _ (by rfl) (Z3x H5.out.tid _ _) Tryz.underlying48 rfl Z4v) (by rfl) ⟨rfl, H5.out.end_ _ _, _, _, _, (HH5.out.kept (Z2U _ _ _ _) (fun k hk e => by have := hk.2; omega)).mono (fun _ x => x.1)⟩
theorem Z7E (hb pb : Nat) (F : Nat -> Prop) (H : List (List (Option Tup))) (t : Tup) (A : Option Addr) (cap : Nat) (S : Nat -> Prop) (w : World) (h : Zp w hb pb F H) (hpo : ZI w pb 0) (ht : t.rightB = true) (hf : Z1c H t.data.length = none)
  (hby : ∀ x ∈ t.data, x < 256) (hd : Rd w S 1 A t.data.length (Zg t.data)) :
  Calls Tryz.prog 88 #[.pointer (some ⟨hb, 0, none⟩), Zt t A cap] w fun e w' => e = .returned (.tuple #[.agg #[.int .i64 0, .int .i64 0], .int .i64 12]) /\ Quiet w w' := by
 have HI := zh (Z5D t A cap S hby hd)
 have H0 := zh (Z0U.start w t A cap)
 simp only [ht, Bool.false_eq_true, if_false, if_true] at HI
 have h256 := h.most
 obtain ⟨v, ps, rb, h⟩ := h.lim
 have hfr := Z5C H t.data.length
 rw [hf] at hfr
 obtain ⟨B, c, hv, hc, hm, hr⟩ := h.rowForm
 have hall := h.cells
 rw [hv] at hall
 obtain ⟨c0, c1, c2⟩ := hall
 have hl1 := Z2 h.box
 have HH := zh h
 have HFR := zh hfr
 have HV := zh hv
 have HPO := zh hpo
 unfold maxLen at hm
 unfold Zt at HI ⊢
 clear ht hf h hfr hr hv
 clear hby hd hpo
 go_enter Tryz.func88, Tryz.ntmps88
 go_wp2_with fail
 go_region_held3 (fun w' => w'.cell? ⟨w.heap.size, 0, none⟩ = some (.int .u64 t.row) /\ w'.cell? ⟨w.heap.size, 1, none⟩ = some (.int .u64 t.xmin) /\ w'.cell? ⟨w.heap.size, 2, none⟩ = some (.int .u64 t.xmax) /\ w'.cell? ⟨w.heap.size, 3, none⟩ = some (.int .i64 t.pg) /\ w'.cell? ⟨w.heap.size, 4, none⟩ = some (.int .i64 t.sl) /\ w'.cell? ⟨w.heap.size, 5, none⟩ = some (.slice A t.data.length cap))
  (first | go_keep | exact Z0k H2.out.box | exact Z0k H1.out.box | fail)
  (first
    | (go_at_call 95; go_must (refine (Z35 _).mono ?_; rintro e w1 ⟨rfl, hq1, hs1, hp1⟩; have H1 := zh (H0.out.drew.quietly hq1); have HQ1 := zh hq1; simp only [World.size_drew, World.size_alloc] at hp1; have HP1 := zh hp1; clear hq1 hp1 hs1))
    | (go_at_call 127; go_must (refine (HI.out _ _ _ H0.out HQ1.out HP1.out (by omega)).mono ?_; rintro e w2 ⟨rfl, h2⟩; have H2 := zh h2; clear h2))
    | fail)
 clear HI H0 HQ1 HP1 H1
 have HH2 := zh (HH.out.kept H2.out.only (fun _ _ x => x))
 have HPO2 := zh (HPO.out.kept H2.out.only (fun x => x))
 obtain ⟨b0, b1, b2, b3, b4, b5⟩ := Z0k H2.out.box
 have k0 := H2.out.only.cell c0 (fun x => x)
 have k1 := H2.out.only.cell c1 (fun x => x)
 have k2 := H2.out.only.cell c2 (fun x => x)
 clear c0 c1 c2
 go_wp2_with fail
 go_quiet ((go_at_call 128; exact Z4c (Z69 rb _ _ _ (HH2.out.room.drewN _))))
 rw [HFR.out]
 go_wp2_with fail
 refine (Z6a pb 0 _ (by exact HPO2.out)).mono ?_
 rintro e w3 ⟨rfl, rfl⟩
 obtain ⟨t0, t1, tf⟩ := H2.out.cells
 go_wp2_with fail
 exact bodyPost_ret (ZC Tryz.results88 _ _ (w.heap.size + 1) _ _ (0, 0) _ (by rfl) (Z3x (H2.out.drewN _).tid _ _) Tryz.underlying48 rfl Z4v) (by rfl) ⟨rfl, (H2.out.drewN _).end_ _ _⟩
theorem Z7F (hb pb left : Nat) (F : Nat -> Prop) (H : List (List (Option Tup))) (t : Tup) (A : Option Addr) (cap : Nat) (S : Nat -> Prop) (w : World) (h : Zp w hb pb F H) (hpo : ZI w pb (left + 1)) (ht : t.rightB = true) (hf : Z1c H t.data.length = none) (hle : H.length + (left + 1) <= 256)
  (hby : ∀ x ∈ t.data, x < 256) (hd : Rd w S 1 A t.data.length (Zg t.data)) (hS : ∀ k, S k -> ¬ F k /\ k ≠ pb) :
  Calls Tryz.prog 88 #[.pointer (some ⟨hb, 0, none⟩), Zt t A cap] w fun e w' => e = .returned (.tuple #[.agg #[.int .i64 (H.length : Int), .int .i64 0], .int .i64 0]) /\ Z0 (fun k => F k ∨ k = pb) w w' /\ ZI w' pb left /\ Zp w' hb pb (fun k => F k ∨ w.heap.size <= k) (H ++ [[some t]]) := by
 have HI := zh (Z5D t A cap S hby hd)
 have H0 := zh (Z0U.start w t A cap)
 simp only [ht, Bool.false_eq_true, if_false, if_true] at HI
 have h256 := h.most
 obtain ⟨v, ps, rb, h⟩ := h
 replace h := h.lim2 hpo
 have hfr := Z5C H t.data.length
 rw [hf] at hfr
 obtain ⟨B, c, hv, hc, hm, hr⟩ := h.rowForm
 have hall := h.cells
 rw [hv] at hall
 obtain ⟨c0, c1, c2⟩ := hall
 have hl1 := Z2 h.box
 have HH := zh h
 have HFR := zh hfr
 have HV := zh hv
 have HPO := zh hpo
 have HT := zh ht
 unfold maxLen at hm
 unfold Zt at HI ⊢
 clear ht hf h hfr hr hv
 have hne : ¬ hb = pb := fun e => (HH.out.pool hpo).1 e.symm
 have hne' : ¬ pb = hb := fun e => hne e.symm
 have hl0 : ¬ ((left : Int) + 1 = 0) := by omega
 have HD := zh hd
 have HBY := zh hby
 have HS := zh hS
 clear hby hd hpo hS
 go_enter Tryz.func88, Tryz.ntmps88
 go_wp2_with fail
 go_region_held3 (fun w' => w'.cell? ⟨w.heap.size, 0, none⟩ = some (.int .u64 t.row) /\ w'.cell? ⟨w.heap.size, 1, none⟩ = some (.int .u64 t.xmin) /\ w'.cell? ⟨w.heap.size, 2, none⟩ = some (.int .u64 t.xmax) /\ w'.cell? ⟨w.heap.size, 3, none⟩ = some (.int .i64 t.pg) /\ w'.cell? ⟨w.heap.size, 4, none⟩ = some (.int .i64 t.sl) /\ w'.cell? ⟨w.heap.size, 5, none⟩ = some (.slice A t.data.length cap))
  (first | go_keep | exact Z0k H2.out.box | exact Z0k H1.out.box | fail)
  (first
    | (go_at_call 95; go_must (refine (Z35 _).mono ?_; rintro e w1 ⟨rfl, hq1, hs1, hp1⟩; have H1 := zh (H0.out.drew.quietly hq1); have HQ1 := zh hq1; simp only [World.size_drew, World.size_alloc] at hp1; have HP1 := zh hp1; clear hq1 hp1 hs1))
    | (go_at_call 127; go_must (refine (HI.out _ _ _ H0.out HQ1.out HP1.out (by omega)).mono ?_; rintro e w2 ⟨rfl, h2⟩; have H2 := zh h2; clear h2))
    | fail)
 clear HI H0 HQ1 HP1 H1
 have HH2 := zh (HH.out.kept H2.out.only (fun _ _ x => x))
 have HPO2 := zh (HPO.out.kept H2.out.only (fun x => x))
 obtain ⟨b0, b1, b2, b3, b4, b5⟩ := Z0k H2.out.box
 have k0 := H2.out.only.cell c0 (fun x => x)
 have k1 := H2.out.only.cell c1 (fun x => x)
 have k2 := H2.out.only.cell c2 (fun x => x)
 clear c0 c1 c2
 go_wp2_with fail
 go_quiet ((go_at_call 128; exact Z4c (Z69 rb _ _ _ (HH2.out.room.drewN _))))
 rw [HFR.out]
 go_wp2_with fail
 refine (Z6a pb _ _ (by exact HPO2.out)).mono ?_
 rintro e w3 ⟨rfl, rfl⟩
 have hpc := HPO2.out.cell
 have hpf := Z7 HPO2.out 0
 go_upto_region 12 with fail
 have HO3 : Hid (Z0 (· = pb) w2 ((w2.drewN nq).setCell ⟨pb, 0, none⟩ (.int .i64 (left : Int)))) := ((Z0.refl (· = pb) w2).drewN nq).setCell (p := ⟨pb, 0, none⟩) (fun _ => rfl) _
 have HH3 := zh (HH2.out.kept HO3.out (fun k hk e => hk.2.2 e))
 have H3 := zh ((H2.out.mono (G' := fun k => k = pb) (fun _ x => x.elim)).on HO3.out (fun _ _ e => e) (fun k h1 h2 e => by have := HPO.out.lt; omega))
 have HPO3 : Hid (ZI ((w2.drewN nq).setCell ⟨pb, 0, none⟩ (.int .i64 (left : Int))) pb left) := ZI.set (w := w2.drewN nq) HPO2.out rfl
 clear HPO2 HH2 H2 HO3 HFR b0 b1 b2 b3 b4 b5 k0 k1 k2 hpc hpf
 generalize (w2.drewN nq).setCell ⟨pb, 0, none⟩ (.int .i64 (left : Int)) = w3 at HH3 H3 HPO3 ⊢
 have k1 : w3.cell? ⟨hb, 1, none⟩ = some (.slice B H.length c) := by rw [<- HV.out]; exact HH3.out.cells.2.1
 go_cut [] (fun wx => ∃ q v', w3.heap.size <= q /\ Zx wx hb pb (fun k => (F k /\ k < w.heap.size /\ k ≠ pb) ∨ w3.heap.size <= k) (H ++ [[]]) (H.map ZL) v' (ps ++ [q]) rb /\ Z0 (fun k => F k /\ k < w.heap.size /\ k ≠ pb) w3 wx)
 case first =>
  have HROW : Hid (w3.ownsRow 0 177 1 (.slice B H.length c) H.length (ps.map ptrV)) := by rw [<- HV.out]; exact HH3.out.row
  have HNB : Hid (∀ k, (Value.slice B H.length c).ownBlock = some k -> k ≠ hb) := by rw [<- HV.out]; exact HH3.out.apart.vh
  go_region_law (first
    | (go_simp; go_at_call 95; refine (Z35 _).mono ?_; rintro e w4 ⟨rfl, hq4, hs4, hp4⟩; have k4 : w4.cell? ⟨hb, 1, none⟩ = some (.slice B H.length c) := hq4.cell (by exact k1) (fun x => x); have hl4 : hb < w4.heap.size := Ze k4; have hn4 : ¬ hb = w4.heap.size := by omega)
    | (refine Z1T Zfm rfl (.tmp 63) (.tmp 65) rfl rfl (Z4 (Z4 (by exact HROW.out) hq4 (fun _ _ x => x)) ((Z0.refl (fun _ => False) w4).alloc _) (fun _ _ x => x)) rfl (Rd.one w4 (ptrV w3.heap.size) 177 (0, 0) (S := fun _ => True) trivial) (Z32 [w3.heap.size]) (by unfold maxLen; omega) (by omega) ?_; intro v5 w5 hg5; have hb5 := hg5.only.get (Zd (hq4.get (by exact HH3.out.box) (fun x => x)) _) (fun e => HNB.out hb e rfl); obtain ⟨A5, c5, hv5, _, _, _⟩ := Z9 hg5.own; subst hv5; have s1 := Z1 hb5 1; have s2 := fun o => Z7 hb5 o; simp only [zGA, zGS, zGZ] at s1)
    | fail)
  all_goals
   go_wp2_with fail
   go_meet
   have hq : Quiet w3 w4 := ((Z0.refl _ _).drew).trans hq4
   have hgr := HH3.out.grow hq hp4 (Nat.le_refl _) (by rw [HV.out]; exact hg5)
   exact ⟨_, _, Nat.le_refl _, hgr.1, hgr.2⟩
 case rest =>
  obtain ⟨q, v', hq3, hh4, ho4⟩ := hcut
  have hpl : ps.length = H.length := HH.out.plen
  have hw3 := H3.out.lt
  have HHP : Hid ((ps ++ [q])[H.length]? = some q) := by show (ps ++ [q])[H.length]? = some q; rw [<- hpl]; simp
  have H4 : Hid (Z0U (fun k => F k ∨ k = pb) w wc t A cap) := (H3.out.mono (fun _ x => Or.inr x)).on ho4 (fun _ _ x => Or.inl x.1) (fun k h1 h2 x => by have := x.2.1; omega)
  have HPO4 : Hid (ZI wc pb left) := HPO3.out.kept ho4 (fun x => x.2.2 rfl)
  have HD4 : Hid (Rd wc S 1 A t.data.length (Zg t.data)) := HD.out.kept H4.out.only (fun k hk x => by rcases x with x | x; exact (HS.out k hk).1 x; exact (HS.out k hk).2 x)
  obtain ⟨B4, c4, hv4, hc4, hm4, hr4⟩ := hh4.rowForm
  obtain ⟨g, rfl, hg⟩ := hr4 H.length q HHP.out
  obtain ⟨T', hT', hpt⟩ := hh4.page HHP.out
  have hT0 : T' = [] := by simp at hT'; exact hT'
  subst hT0
  have hk1 := hh4.cells.2.1
  rw [hv4] at hk1
  obtain ⟨b0, b1, b2, b3, b4, b5⟩ := Z0k H4.out.box
  have HIN := zh (fun n => Z4u q [] t A cap S (wc.drewN n) (by exact hpt) HBY.out (HD4.out.kept ((Z0.refl (fun _ => False) wc).drewN n) (fun _ _ x => x)))
  rw [Zie t HT.out] at HIN
  unfold Zt at HIN
  rw [List.length_append, List.length_singleton] at hv4 hk1 hc4
  have HH4 := zh hh4
  have HV4 := zh hv4
  have HNE : Hid ((¬ hb = q) /\ (¬ g = q) /\ (¬ w.heap.size = q) /\ (¬ w.heap.size + 1 = q) /\ ¬ pb = q) := by
   have ha := hh4.apart
   have hm : q ∈ ps ++ [q] := by simp
   obtain ⟨d, hd⟩ := hh4.pblk hm
   refine ⟨fun e => ha.ph q hm e.symm, fun e => ha.vp g (by rw [hv4]; rfl) q hm e, Za H4.out.box hd (by decide), Za H4.out.tid hd (by decide), Za HPO4.out hd (by decide)⟩
  have d0 : decide ((H.length : Int) < 0) = false := by simp
  have d1 : decide ((H.length : Int) + 1 <= H.length) = false := decide_eq_false (by omega)
  have d2 : ¬ (H.length : Int) + 1 <= H.length := by omega
  have d3 : (H.length : Int) < H.length + 1 := by omega
  unfold maxLen at hm4
  clear hh4 ho4 hr4 hT' hpt hv4 HD4 HD HS HBY H3 HH3 HPO3 k1
  go_wp2_with fail
  go_region_held3 (fun w' => w'.cell? ⟨hb, 1, none⟩ = some (.slice (some ⟨g, 0, none⟩) (H.length + 1) c4) /\ w'.cell? ⟨g, H.length, none⟩ = some (ptrV q) /\ w'.cell? ⟨w.heap.size, 0, none⟩ = some (.int .u64 t.row) /\ w'.cell? ⟨w.heap.size, 1, none⟩ = some (.int .u64 t.xmin) /\ w'.cell? ⟨w.heap.size, 2, none⟩ = some (.int .u64 t.xmax) /\ w'.cell? ⟨w.heap.size, 3, none⟩ = some (.int .i64 t.pg) /\ w'.cell? ⟨w.heap.size, 4, none⟩ = some (.int .i64 t.sl) /\ w'.cell? ⟨w.heap.size, 5, none⟩ = some (.slice A t.data.length cap))
   (first | go_keep | exact ⟨ho5.cell (by exact hk1) HNE.out.1, ho5.cell (by exact hg) HNE.out.2.1, Z0k (ho5.get (by exact H4.out.box) HNE.out.2.2.1)⟩ | fail)
   (first
     | (go_at_call 127; go_must (refine (HIN.out 1).mono ?_; rintro e w5 ⟨rfl, ho5, hp5⟩))
     | fail)
  have hh5 := (HH4.out.drewN 1).turn HHP.out ho5 hp5
  rw [show (H ++ [([] : List (Option Tup))]).set H.length [some t] = H ++ [[some t]] by simp] at hh5
  have HH5 := zh hh5
  have hw4 : w.heap.size <= wc.heap.size := H4.out.only.size
  have hql : w.heap.size <= q := by omega
  have H5 := zh ((H4.out.drewN 1).on ho5 (fun k h1 e => by omega) (fun k h1 h2 e => by have := HNE.out; omega))
  have HPO5 : Hid (ZI w5 pb left) := ZI.kept (w := wc.drewN 1) HPO4.out ho5 HNE.out.2.2.2.2
  clear ho5 hp5 hh5 HH4 H4 HIN HPO4 hk1 hg b0 b1 b2 b3 b4 b5
  go_wp2_with fail
  refine (Z6b H.length q [some t] HH5.out HHP.out (by simp) (by simp) (by omega)).mono ?_
  rintro e w6 ⟨rfl, ho6, hh6⟩
  rw [show Z42 (H.map ZL) H.length (ZL [some t]) = (H ++ [[some t]]).map ZL by unfold Z42; rw [if_pos (by simp)]; simp] at hh6
  have HH6 := zh hh6
  have hrl := HH.out.room.lt
  have H6 := zh (H5.out.on ho6 (fun k _ e => by subst e; exact Or.inl HH.out.foot.2.1.1) (fun k h1 h2 e => by omega))
  have HPO6 : Hid (ZI w6 pb left) := HPO5.out.kept ho6 (fun e => (HH.out.pool HPO.out).2.1 e)
  clear ho6 hh6 HH5 H5 HPO5
  obtain ⟨t0, t1, tf⟩ := H6.out.cells
  go_wp2_with fail
  exact bodyPost_ret (ZC Tryz.results88 _ _ (w.heap.size + 1) _ _ (0, 0) _ (by rfl) (Z3x H6.out.tid _ _) Tryz.underlying48 rfl Z4v) (by rfl) ⟨rfl, H6.out.end_ _ _, HPO6.out.kept (Z2U _ _ _ _) (by have := HPO.out.lt; omega), _, _, _, (HH6.out.kept (Z2U _ _ _ _) (fun k hk e => by rcases hk with x | x; have := x.2.1; omega; omega)).mono (fun k x => by rcases x with x | x; exact Or.inl x.1; exact Or.inr (by omega))⟩
end Go.Proofs.YtnidjfjkodingaaGreatDoor
