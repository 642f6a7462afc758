/- Nodes of a tree in memory, told by their entries; how they are kept. The contracts of the tree's small functions: leaf, least, below, copyOf, New. The contract of a node's split. The contract of a node's split, at a node over others; at every node. The contract of the tree's copyOf; three cells written. The contract of a node's insert, at a leaf. A node over others in the midst of an insert: how its parts turn. The contract of a node's insert, at a node over others; at every node. A tree in memory: its root, how many entries there are; how it turns. The contract of the tree's Insert. The contract of a node's scan. The contract of a node's scan, at a node over others; at every node. What the laws on trees share: Scan, Len, entry, awake; a tree in a law's world. A store in memory. store.Horizon: of all that run. slices.SortFunc on a row that the call owns, of structs of k cells: a permutation, sorted. The library's sort of rows laid at this program (printed by the kit's lay-plain, numbers turned to names). store.New. store.Commit, Abort. store.runs. store.Begin. What store.open leaves: the plain part. store.open. store.kinds of a table of one column. store.places. A version that is got and put into a variable: what is left; rows as they are told. The rows that store.rows tells, by their IDs: the order, and the sort. store.rows. store.version of a version that is there. store.put where there is no index. store.Insert of a row of one small number. No condition. -/
import Derived.Test.YtaijnpgoiagboaaGreatDoorSn2
import Derived.Laws.Rows
import Derived.Deep.RegionLawGrows
import Derived.Shelf.SlSortCmp.NoneTotal
import Derived.Ground.SlsfProg
import Derived.Test.YtaijnpgoiagboaaGreatDoorProg
namespace Go.Lap
open Go.RowKit

/-- Entries alone. -/
abbrev ents (xs : List EV) : List Ent := xs.map (·.e)

def noEV : EV := ⟨⟨[], 0, 0⟩, none, 0⟩

/-- The first one. -/
def hd (xs : List EV) : EV := xs.headD noEV

theorem hd_append {xs : List EV} (h : xs ≠ []) (ys : List EV) : hd (xs ++ ys) = hd xs := by
  rcases xs with _ | ⟨x, xs⟩
  · exact absurd rfl h
  · rfl
/-- A node below another one: its block, its own blocks, its entries. -/
structure Kid where
  b : Nat
  F : Nat → Prop
  xs : List EV

abbrev heads (ks : List Kid) : List EV := ks.map (fun x => hd x.xs)
abbrev flat (ks : List Kid) : List EV := ks.flatMap (·.xs)
abbrev kptrs (ks : List Kid) : List Value := ks.map (fun x => ptrV x.b)

end Go.Lap
namespace Go.Proofs.YtaijnpgoiagboaaGreatDoor
open Go.RowKit Go.Lap

/-- A leaf. -/
structure Leaf (K : Nat → Prop) (w : World) (b : Nat) (F : Nat → Prop) (xs : List EV) (v : Value) : Prop where
  box : w.heap[b]? = some (.cells #[v, .slice none 0 0] 200 (0, 0))
  row : RowAt w v xs
  key : ∀ x ∈ xs, Keyd w K x
  foot : F b ∧ (∀ k, v.ownBlock = some k → F k)

/-- A node over others. -/
structure Inner (N : World → Nat → (Nat → Prop) → List EV → Prop) (w : World) (b : Nat) (F : Nat → Prop) (v u : Value) (ks : List Kid) : Prop where
  box : w.heap[b]? = some (.cells #[v, u] 200 (0, 0))
  row : RowAt w v (heads ks)
  kids : w.ownsRow 0 171 1 u ks.length (kptrs ks)
  some_ : ∃ g, u.ownBlock = some g
  two : 2 ≤ ks.length
  kid : ∀ x ∈ ks, x.xs ≠ [] ∧ N w x.b x.F x.xs
  sub : ∀ x ∈ ks, ∀ k, x.F k → F k ∧ k ≠ b ∧ v.ownBlock ≠ some k ∧ u.ownBlock ≠ some k
  apart : ks.Pairwise (fun x y => ∀ k, x.F k → ¬ y.F k)
  foot : F b ∧ (∀ k, v.ownBlock = some k → F k) ∧ (∀ k, u.ownBlock = some k → F k)

/-- Block b is a node of so many rows, with these entries; F: its own blocks; K: where keys lie. -/
def NodeAt (K : Nat → Prop) : Nat → World → Nat → (Nat → Prop) → List EV → Prop
  | 0, w, b, F, xs => ∃ v, Leaf K w b F xs v
  | h + 1, w, b, F, xs => ∃ v u ks, Inner (NodeAt K h) w b F v u ks ∧ xs = flat ks

theorem NodeAt.own {K : Nat → Prop} {h : Nat} {w : World} {b : Nat} {F : Nat → Prop} {xs : List EV} (hn : NodeAt K h w b F xs) : F b ∧ b < w.heap.size := by
  cases h with
  | zero => obtain ⟨v, h⟩ := hn; exact ⟨h.foot.1, lt_of_get h.box⟩
  | succ h => obtain ⟨v, u, ks, h, _⟩ := hn; exact ⟨h.foot.1, lt_of_get h.box⟩

theorem NodeAt.kept {K S : Nat → Prop} {w w' : World} (ho : Only S w w') (hK : ∀ k, K k → ¬ S k) {h : Nat} : ∀ {b : Nat} {F : Nat → Prop} {xs : List EV}, NodeAt K h w b F xs → (∀ k, F k → ¬ S k) → NodeAt K h w' b F xs := by
  induction h with
  | zero =>
    intro b F xs ⟨v, h⟩ hF
    exact ⟨v, ho.get h.box (hF _ h.foot.1), owns_kept h.row ho (fun k e => hF k (h.foot.2 k e)), fun x hx => (h.key x hx).kept ho hK, h.foot⟩
  | succ h ih =>
    intro b F xs ⟨v, u, ks, h, e⟩ hF
    exact ⟨v, u, ks, ⟨ho.get h.box (hF _ h.foot.1), owns_kept h.row ho (fun k e => hF k (h.foot.2.1 k e)), owns_kept h.kids ho (fun k e => hF k (h.foot.2.2 k e)), h.some_, h.two, fun x hx => ⟨(h.kid x hx).1, ih (h.kid x hx).2 (fun k hk => hF k (h.sub x hx k hk).1)⟩, h.sub, h.apart, h.foot⟩, e⟩

theorem NodeAt.mono {K : Nat → Prop} {h : Nat} {w : World} {b : Nat} {F G : Nat → Prop} {xs : List EV} (hn : NodeAt K h w b F xs) (hg : ∀ k, F k → G k) : NodeAt K h w b G xs := by
  cases h with
  | zero => obtain ⟨v, h⟩ := hn; exact ⟨v, h.box, h.row, h.key, hg _ h.foot.1, fun k e => hg _ (h.foot.2 k e)⟩
  | succ h =>
    obtain ⟨v, u, ks, h, e⟩ := hn
    exact ⟨v, u, ks, ⟨h.box, h.row, h.kids, h.some_, h.two, h.kid, fun x hx k hk => ⟨hg _ (h.sub x hx k hk).1, (h.sub x hx k hk).2⟩, h.apart, hg _ h.foot.1, fun k e => hg _ (h.foot.2.1 k e), fun k e => hg _ (h.foot.2.2 k e)⟩, e⟩

theorem NodeAt.key {K : Nat → Prop} {w : World} {h : Nat} : ∀ {b : Nat} {F : Nat → Prop} {xs : List EV}, NodeAt K h w b F xs → ∀ x ∈ xs, Keyd w K x := by
  induction h with
  | zero => intro b F xs ⟨v, h⟩; exact h.key
  | succ h ih =>
    intro b F xs ⟨v, u, ks, h, e⟩ x hx
    rw [e] at hx
    obtain ⟨y, hy, hxy⟩ := List.mem_flatMap.1 hx
    exact ih (h.kid y hy).2 x hxy

/-- Its own blocks are in memory. -/
theorem NodeAt.lim {K : Nat → Prop} {w : World} {h : Nat} : ∀ {b : Nat} {F : Nat → Prop} {xs : List EV}, NodeAt K h w b F xs → NodeAt K h w b (fun k => F k ∧ k < w.heap.size) xs := by
  induction h with
  | zero =>
    intro b F xs ⟨v, h⟩
    exact ⟨v, h.box, h.row, h.key, ⟨h.foot.1, lt_of_get h.box⟩, fun k e => ⟨h.foot.2 k e, (h.row.lt k e).2⟩⟩
  | succ h ih =>
    intro b F xs ⟨v, u, ks, h, e⟩
    refine ⟨v, u, ks.map (fun x => ⟨x.b, fun k => x.F k ∧ k < w.heap.size, x.xs⟩), ⟨h.box, ?_, ?_, h.some_, by simpa using h.two, fun x hx => ?_, fun x hx k hk => ?_, ?_, ⟨h.foot.1, lt_of_get h.box⟩, fun k e => ⟨h.foot.2.1 k e, (h.row.lt k e).2⟩, fun k e => ⟨h.foot.2.2 k e, (h.kids.lt k e).2⟩⟩, ?_⟩
    · rw [heads, List.map_map]; exact h.row
    · rw [kptrs, List.map_map, List.length_map]; exact h.kids
    · obtain ⟨y, hy, rfl⟩ := List.mem_map.1 hx
      exact ⟨(h.kid y hy).1, ih (h.kid y hy).2⟩
    · obtain ⟨y, hy, rfl⟩ := List.mem_map.1 hx
      exact ⟨⟨(h.sub y hy k hk.1).1, hk.2⟩, (h.sub y hy k hk.1).2⟩
    · rw [List.pairwise_map]
      exact h.apart.imp (fun hxy k hk hk' => hxy k hk.1 hk'.1)
    · rw [flat, List.flatMap_map]; exact e

end Go.Proofs.YtaijnpgoiagboaaGreatDoor

namespace Go.Proofs.YtaijnpgoiagboaaGreatDoor
open Go.RowKit Go.Lap

section
variable {P : Program}
end

set_option maxRecDepth 100000 in
theorem leaf_any (b : Nat) (v : Value) (A : Option Addr) (n c : Nat) (w : World) (h : w.heap[b]? = some (.cells #[v, .slice A n c] 200 (0, 0))) :
    Calls Tryz.prog 139 #[ptrV b] w fun e w' => e = .returned (.bool A.isNone) ∧ w = w' := by
  have heq := fun (w : World) (a : Option Addr) (n c : Nat) => Lib.run_eql_slice_nil (P := Tryz.prog) w 198 _ a n c 0 0 Tryz.underlying198
  have c1 : w.cell? ⟨b, 1, none⟩ = some (.slice A n c) := by rw [cell_of h]; rfl
  clear h
  go_enter Tryz.func139, Tryz.ntmps139
  go_wp2
  go_ret
  exact ⟨rfl, rfl⟩

theorem Leaf.leaf {K F : Nat → Prop} {w : World} {b : Nat} {xs : List EV} {v : Value} (h : Leaf K w b F xs v) : Calls Tryz.prog 139 #[ptrV b] w fun e w' => e = .returned (.bool true) ∧ w = w' := leaf_any b v none 0 0 w h.box

/-- The row of kids, written out. -/
theorem Inner.form {N : World → Nat → (Nat → Prop) → List EV → Prop} {w : World} {b : Nat} {F : Nat → Prop} {v u : Value} {ks : List Kid} (h : Inner N w b F v u ks) : ∃ g c, u = .slice (some ⟨g, 0, none⟩) ks.length c ∧ ks.length ≤ c ∧ c ≤ maxLen := by
  obtain ⟨g, hg⟩ := h.some_
  rcases owns_cases h.kids with ⟨e, _⟩ | ⟨g', c, e, h1, h2⟩
  · rw [e] at hg; cases hg
  · exact ⟨g', c, e, h1, h2⟩

theorem Inner.leaf {N : World → Nat → (Nat → Prop) → List EV → Prop} {w : World} {b : Nat} {F : Nat → Prop} {v u : Value} {ks : List Kid} (h : Inner N w b F v u ks) : Calls Tryz.prog 139 #[ptrV b] w fun e w' => e = .returned (.bool false) ∧ w = w' := by
  obtain ⟨g, c, e, _⟩ := h.form
  have := h.box
  rw [e] at this
  exact leaf_any b v _ _ _ w this

/-- The row of a node's entries, or of its kids' first ones. -/
theorem NodeAt.row {K F : Nat → Prop} {h : Nat} {w : World} {b : Nat} {xs : List EV} (hn : NodeAt K h w b F xs) (hx : xs ≠ []) : ∃ v u ys, w.heap[b]? = some (.cells #[v, u] 200 (0, 0)) ∧ RowAt w v ys ∧ ys ≠ [] ∧ hd ys = hd xs := by
  cases h with
  | zero => obtain ⟨v, h⟩ := hn; exact ⟨v, _, xs, h.box, h.row, hx, rfl⟩
  | succ h =>
    obtain ⟨v, u, ks, h, e⟩ := hn
    have h2 := h.two
    rcases ks with _ | ⟨x, ks⟩
    · simp at h2
    · refine ⟨v, u, _, h.box, h.row, by simp, ?_⟩
      rw [e, flat, List.flatMap_cons, hd_append (h.kid x (by simp)).1]
      rfl

end Go.Proofs.YtaijnpgoiagboaaGreatDoor

namespace Go.Proofs.YtaijnpgoiagboaaGreatDoor
open Go.RowKit Go.Lap

end Go.Proofs.YtaijnpgoiagboaaGreatDoor

namespace Go.Proofs.YtaijnpgoiagboaaGreatDoor
open Go.RowKit Go.Lap

end Go.Proofs.YtaijnpgoiagboaaGreatDoor

namespace Go.Lap
open Go.RowKit

end Go.Lap
namespace Go.Proofs.YtaijnpgoiagboaaGreatDoor
open Go.RowKit Go.Lap

end Go.Proofs.YtaijnpgoiagboaaGreatDoor

namespace Go.Proofs.YtaijnpgoiagboaaGreatDoor
open Go.RowKit Go.Lap

end Go.Proofs.YtaijnpgoiagboaaGreatDoor

namespace Go.Proofs.YtaijnpgoiagboaaGreatDoor
open Go.RowKit Go.Lap

section
variable {K F : Nat → Prop} {h : Nat} {w0 w w' : World} {b : Nat} {v u : Value} {ys : List EV} {ps : List Nat} {ks : List Kid}

end
end Go.Proofs.YtaijnpgoiagboaaGreatDoor

namespace Go.Lap
end Go.Lap
namespace Go.Proofs.YtaijnpgoiagboaaGreatDoor
open Go.RowKit Go.Lap

end Go.Proofs.YtaijnpgoiagboaaGreatDoor

namespace Go.Proofs.YtaijnpgoiagboaaGreatDoor
open Go.RowKit Go.Lap

/-- From w0 on only blocks of D, and new ones, turned: block tb is a tree whose root is the node rb; it says cnt. -/
structure TreeMid (w0 w : World) (D : Nat → Prop) (tb rb h : Nat) (F K : Nat → Prop) (xs : List EV) (cnt : Int) : Prop where
  only : Only D w0 w
  box : w.heap[tb]? = some (.cells #[ptrV rb, .int .i64 cnt] 173 (0, 0))
  node : NodeAt K h w rb F xs
  subF : ∀ k, F k → (D k ∨ w0.heap.size ≤ k) ∧ k ≠ tb ∧ k < w.heap.size
  subK : ∀ k, K k → (D k ∨ w0.heap.size ≤ k) ∧ ¬ F k ∧ k ≠ tb ∧ k < w.heap.size
  own : D tb ∧ tb < w0.heap.size

/-- A tree with these entries; D: all its blocks. -/
def TreeIs (w : World) (D : Nat → Prop) (tb : Nat) (es : List Ent) : Prop := ∃ rb h F K xs, TreeMid w w D tb rb h F K xs (xs.length : Int) ∧ ents xs = es ∧ Rising es

section
variable {w0 w w' : World} {D : Nat → Prop} {tb rb h : Nat} {F K : Nat → Prop} {xs : List EV} {cnt : Int}

theorem TreeMid.quietly (hm : TreeMid w0 w D tb rb h F K xs cnt) (hq : Quiet w w') : TreeMid w0 w' D tb rb h F K xs cnt := by
  have hz := hq.size
  exact ⟨hm.only.trans' hq (fun _ _ x => x.elim), hq.get hm.box (fun x => x), NodeAt.kept hq (fun _ _ x => x) hm.node (fun _ _ x => x), fun k hk => by have := hm.subF k hk; exact ⟨this.1, this.2.1, by omega⟩, fun k hk => by have := hm.subK k hk; exact ⟨this.1, this.2.1, this.2.2.1, by omega⟩, hm.own⟩

/-- Its nodes turn. -/
theorem TreeMid.turn {rb' h' : Nat} {F' : Nat → Prop} {xs' : List EV} (hm : TreeMid w0 w D tb rb h F K xs cnt) (ho : Only F w w') (hn : NodeAt K h' w' rb' F' xs') (hF : ∀ k, F' k → F k ∨ w.heap.size ≤ k) (hrb : rb' = rb) : TreeMid w0 w' D tb rb' h' (fun k => F' k ∧ k < w'.heap.size) K xs' cnt := by
  subst hrb
  have hz := ho.size
  have hz0 := hm.only.size
  have htb := lt_of_get hm.box
  refine ⟨hm.only.trans' ho (fun k hk x => ?_), ho.get hm.box (fun x => (hm.subF tb x).2.1 rfl), hn.lim, fun k x => ?_, fun k x => ?_, hm.own⟩
  · rcases (hm.subF k x).1 with y | y
    · exact y
    · omega
  · rcases hF k x.1 with y | y
    · exact ⟨(hm.subF k y).1, (hm.subF k y).2.1, x.2⟩
    · exact ⟨Or.inr (by omega), by omega, x.2⟩
  · have := hm.subK k x
    refine ⟨this.1, fun y => ?_, this.2.2.1, by omega⟩
    rcases hF k y.1 with z | z
    · exact this.2.1 z
    · omega

/-- It says another number. -/
theorem TreeMid.count (hm : TreeMid w0 w D tb rb h F K xs cnt) (c : Int) : TreeMid w0 (w.setCell ⟨tb, 1, none⟩ (.int .i64 c)) D tb rb h F K xs c := by
  have ho : Only (· = tb) w (w.setCell ⟨tb, 1, none⟩ (.int .i64 c)) := (Only.refl (· = tb) w).setCell (p := ⟨tb, 1, none⟩) (fun _ => rfl) _
  have hz := ho.size
  exact ⟨hm.only.trans' ho (fun k _ e => by rw [e]; exact hm.own.1), by rw [set_same hm.box]; rfl, NodeAt.kept ho (fun k hk e => (hm.subK k hk).2.2.1 e) hm.node (fun k hk e => (hm.subF k hk).2.1 e), fun k hk => by have := hm.subF k hk; exact ⟨this.1, this.2.1, by omega⟩, fun k hk => by have := hm.subK k hk; exact ⟨this.1, this.2.1, this.2.2.1, by omega⟩, hm.own⟩

theorem TreeMid.cells (hm : TreeMid w0 w D tb rb h F K xs cnt) : w.cell? ⟨tb, 0, none⟩ = some (ptrV rb) ∧ w.cell? ⟨tb, 1, none⟩ = some (.int .i64 cnt) ∧ ∀ o, w.frozen? ⟨tb, o, none⟩ = false :=
  ⟨by rw [cell_of hm.box]; rfl, by rw [cell_of hm.box]; rfl, fun o => frozen_of hm.box o⟩

end
end Go.Proofs.YtaijnpgoiagboaaGreatDoor

namespace Go.Proofs.YtaijnpgoiagboaaGreatDoor
open Go.RowKit Go.Lap

theorem Quiet.alloc {w w' : World} (h : Quiet w w') (o : Obj) : Quiet w (w'.alloc o) := Only.alloc h o
theorem Quiet.drew {w w' : World} (h : Quiet w w') : Quiet w w'.drew := Only.drew h

end Go.Proofs.YtaijnpgoiagboaaGreatDoor

namespace Go.Lap

end Go.Lap
namespace Go.Proofs.YtaijnpgoiagboaaGreatDoor
open Go.RowKit Go.Lap

section
variable {w0 w w' : World} {v0 v : Value} {ys zs : List EV}

end

end Go.Proofs.YtaijnpgoiagboaaGreatDoor

namespace Go.Lap
end Go.Lap
namespace Go.Proofs.YtaijnpgoiagboaaGreatDoor
open Go.RowKit Go.Lap

end Go.Proofs.YtaijnpgoiagboaaGreatDoor

namespace Go.Lap
/-- With one more, if it isn't there. -/
def putE (e : Ent) (es : List Ent) : List Ent := if e ∈ es then es else insE e es

theorem Rising.put {e : Ent} {es : List Ent} (h : Rising es) : Rising (putE e es) := by
  unfold putE
  split
  · exact h
  · exact h.ins (by assumption)

end Go.Lap
namespace Go.Proofs.YtaijnpgoiagboaaGreatDoor
open Go.RowKit Go.Lap

theorem TreeIs.kept {w w' : World} {D S : Nat → Prop} {tb : Nat} {es : List Ent} (h : TreeIs w D tb es) (ho : Only S w w') (hn : ∀ k, D k → ¬ S k) : TreeIs w' D tb es := by
  obtain ⟨rb, hh, F, K, xs, hm, e, hr⟩ := h
  have hz := ho.size
  have hlt := hm.own.2
  have hF : ∀ k, F k → ¬ S k := fun k x y => by
    rcases (hm.subF k x).1 with z | z
    · exact hn k z y
    · have := (hm.subF k x).2.2; omega
  have hK : ∀ k, K k → ¬ S k := fun k x y => by
    rcases (hm.subK k x).1 with z | z
    · exact hn k z y
    · have := (hm.subK k x).2.2.2; omega
  refine ⟨rb, hh, F, K, xs, ⟨Only.refl _ _, ho.get hm.box (hn tb hm.own.1), NodeAt.kept ho hK hm.node hF, fun k x => ?_, fun k x => ?_, hm.own.1, by omega⟩, e, hr⟩
  · have := hm.subF k x
    refine ⟨?_, this.2.1, by omega⟩
    rcases this.1 with z | z
    · exact Or.inl z
    · have := this.2.2; omega
  · have := hm.subK k x
    refine ⟨?_, this.2.1, this.2.2.1, by omega⟩
    rcases this.1 with z | z
    · exact Or.inl z
    · have := this.2.2.2; omega

theorem TreeIs.mono {w : World} {D D' : Nat → Prop} {tb : Nat} {es : List Ent} (h : TreeIs w D tb es) (hd : ∀ k, D k → k < w.heap.size → D' k) : TreeIs w D' tb es := by
  obtain ⟨rb, hh, F, K, xs, hm, e, hr⟩ := h
  have hlt := hm.own.2
  refine ⟨rb, hh, F, K, xs, ⟨Only.refl _ _, hm.box, hm.node, fun k x => ?_, fun k x => ?_, hd tb hm.own.1 hlt, hlt⟩, e, hr⟩
  · have := hm.subF k x
    refine ⟨?_, this.2⟩
    rcases this.1 with z | z
    · exact Or.inl (hd k z this.2.2)
    · have := this.2.2; omega
  · have := hm.subK k x
    refine ⟨?_, this.2⟩
    rcases this.1 with z | z
    · exact Or.inl (hd k z this.2.2.2)
    · have := this.2.2.2; omega

section
variable {w W W' : World} {J J' : Nat → Prop} {tb : Nat} {es : List Ent}

end

end Go.Proofs.YtaijnpgoiagboaaGreatDoor

namespace Go.Proofs.YtaijnpgoiagboaaGreatDoor
open Go.RowKit Go.Lap

theorem rd_limS {w : World} {S : Nat → Prop} {size n : Nat} {A : Option Addr} {xs : List Value} (h : Rd w S size A n xs) : Rd w (fun k => S k ∧ k < w.heap.size) size A n xs :=
  ⟨h.len, fun h0 => by
    obtain ⟨b, off, e, hb, hc⟩ := h.cells h0
    exact ⟨b, off, e, ⟨hb, by have := cell_lt (hc 0 _ (List.getElem?_eq_getElem h0)); exact this⟩, hc⟩⟩

section
variable {w w' : World} {F G : Nat → Prop}
theorem LogAt.lim {lb : Nat} {L : List Nat} (h : LogAt w F lb L) : LogAt w (fun k => F k ∧ k < w.heap.size) lb L := by
  obtain ⟨v, h⟩ := h
  exact ⟨v, h.box, h.row, ⟨⟨h.foot.1, lt_of_get h.box⟩, fun k e => ⟨h.foot.2 k e, (h.row.lt k e).2⟩⟩, h.st, h.most⟩
theorem TblAt.lim {tb : Nat} {e : TE} (h : TblAt w F tb e) : TblAt w (fun k => F k ∧ k < w.heap.size) tb e := by
  obtain ⟨A, c, h1, h2, h3⟩ := h.ex
  obtain ⟨A', c', t1, t2⟩ := h.typ
  exact ⟨⟨A, c, h1, rd_limS h2, h3⟩, ⟨h.own, lt_of_get h1⟩, h.pos, h.num, A', c', t1, fun g e => ⟨⟨(t2 g e).1, by obtain ⟨cur, hh⟩ := (t2 g e).2; exact lt_of_get hh⟩, (t2 g e).2⟩⟩
theorem IdxAt.lim {xb : Nat} {e : IE} (h : IdxAt w F xb e) : IdxAt w (fun k => F k ∧ k < w.heap.size) xb e := ⟨h.box, ⟨h.own, lt_of_get h.box⟩, h.num⟩
theorem BookIs.lim {bb last : Nat} {T : List TE} {I : List IE} (h : BookIs w F bb T I last) : BookIs w (fun k => F k ∧ k < w.heap.size) bb T I last := by
  obtain ⟨vT, tps, vI, ips, h1, h2, h3⟩ := h
  exact ⟨vT, tps, vI, ips, ⟨h1.box, h1.rowT, h1.rowI, fun i e hi => by obtain ⟨p, a, b⟩ := h1.tbl i e hi; exact ⟨p, a, b.lim⟩, ⟨⟨h1.foot.1, lt_of_get h1.box⟩, fun k e => ⟨h1.foot.2.1 k e, (h1.rowT.lt k e).2⟩, fun k e => ⟨h1.foot.2.2 k e, (h1.rowI.lt k e).2⟩⟩, h1.num⟩, h2, fun i e hi => by obtain ⟨p, a, b⟩ := h3 i e hi; exact ⟨p, a, b.lim⟩⟩
theorem SnapV.lim {A : Option Addr} {c : Nat} {s : Snap} (h : SnapV w F A c s) : SnapV w (fun k => F k ∧ k < w.heap.size) A c s := ⟨rd_limS h.row, h.cap, h.num⟩
end

/-- What a store holds. -/
structure St where
  L : List Nat
  T : List TE
  I : List IE
  blast : Nat
  left : Nat
  hs : Nat → Option (List (List (Option Tup)))
  ts : Nat → Option (List Ent)
  sn : Nat → Option Snap
  last : Nat

def HeapsIn (w : World) (pb : Nat) (o : Nat → Nat) (hs : Nat → Option (List (List (Option Tup)))) (fh : Nat → Option Value) : Prop :=
  (∀ id, hs id = none → fh id = none) ∧ ∀ id H, hs id = some H → ∃ hb, fh id = some (ptrV hb) ∧ HeapIs w hb pb (fun k => o k = 10 + 2 * id) H

def TreesIn (w : World) (o : Nat → Nat) (ts : Nat → Option (List Ent)) (ft : Nat → Option Value) : Prop :=
  (∀ id, ts id = none → ft id = none) ∧ ∀ id es, ts id = some es → ∃ tb, ft id = some (ptrV tb) ∧ TreeIs w (fun k => o k = 11 + 2 * id) tb es

def SnapsIn (w : World) (o : Nat → Nat) (sn : Nat → Option Snap) (fs : Nat → Option Value) : Prop :=
  (∀ id, sn id = none → fs id = none) ∧ ∀ id x, sn id = some x → ∃ A c, fs id = some (snapV x A c) ∧ SnapV w (fun k => o k = 5) A c x

/-- Block sb is a store; o tells whose a block is: 1 the store's, 2 the log's, 3 the book's, 4 the pool, 5 the snapshots', 6 to 8 the maps, 10 and more the heaps' and the trees'; 0 nobody's. -/
structure StoreRow (w : World) (sb : Nat) (o : Nat → Nat) (s : St) (lb bb pb mh mt ms : Nat) (fh ft fs : Nat → Option Value) : Prop where
  box : w.heap[sb]? = some (.cells #[ptrV lb, ptrV bb, ptrV pb, .map (some mh), .map (some mt), .map (some ms), .int .u64 (s.last : Int)] 86 (0, 0))
  log : LogAt w (fun k => o k = 2) lb s.L
  book : BookIs w (fun k => o k = 3) bb s.T s.I s.blast
  pool : PoolAt w pb s.left
  mH : MapF w mh fh
  mT : MapF w mt ft
  mS : MapF w ms fs
  tags : o sb = 1 ∧ o pb = 4 ∧ o mh = 6 ∧ o mt = 7 ∧ o ms = 8
  big : ∀ k, w.heap.size ≤ k → o k = 0
  heaps : HeapsIn w pb o s.hs fh
  trees : TreesIn w o s.ts ft
  snaps : SnapsIn w o s.sn fs
  num : U64 s.last

def StoreAt (w : World) (sb : Nat) (o : Nat → Nat) (s : St) : Prop := ∃ lb bb pb mh mt ms fh ft fs, StoreRow w sb o s lb bb pb mh mt ms fh ft fs

/-- The owner of what is new. -/
def grow (o : Nat → Nat) (n m t : Nat) (k : Nat) : Nat := if n ≤ k ∧ k < m then t else o k

theorem grow_old {o : Nat → Nat} {n m t k : Nat} (h : k < n) : grow o n m t k = o k := if_neg (by omega)
theorem grow_new {o : Nat → Nat} {n m t k : Nat} (h : n ≤ k) (h2 : k < m) : grow o n m t k = t := if_pos ⟨h, h2⟩
theorem grow_big {o : Nat → Nat} {n m t k : Nat} (hb : ∀ k, n ≤ k → o k = 0) (hm : n ≤ m) (h : m ≤ k) : grow o n m t k = 0 := by
  unfold grow
  rw [if_neg (by omega)]
  exact hb k (by omega)

/-- What was somebody's still is. -/
def OwnOn (o o' : Nat → Nat) : Prop := ∀ k, o k ≠ 0 → o' k = o k

section
variable {w w' : World} {S : Nat → Prop} {o o' : Nat → Nat}
theorem OwnOn.grow {n m t : Nat} (hb : ∀ k, n ≤ k → o k = 0) : OwnOn o (grow o n m t) := fun k hk => grow_old (by
  rcases Nat.lt_or_ge k n with x | x
  · exact x
  · exact absurd (hb k x) hk)
theorem OwnOn.refl : OwnOn o o := fun _ _ => rfl

theorem logK {lb t : Nat} {L : List Nat} (h : LogAt w (fun k => o k = t) lb L) (ho : Only S w w') (hg : OwnOn o o') (ht : t ≠ 0) (hn : ∀ k, S k → o k ≠ t) : LogAt w' (fun k => o' k = t) lb L :=
  (h.kept ho (fun k hk x => hn k x hk)).mono (fun k hk _ => by rw [hg k (by rw [hk]; exact ht)]; exact hk)
theorem bookK {bb t last : Nat} {T : List TE} {I : List IE} (h : BookIs w (fun k => o k = t) bb T I last) (ho : Only S w w') (hg : OwnOn o o') (ht : t ≠ 0) (hn : ∀ k, S k → o k ≠ t) : BookIs w' (fun k => o' k = t) bb T I last :=
  (h.kept ho (fun k hk x => hn k x hk)).mono (fun k hk => by rw [hg k (by rw [hk]; exact ht)]; exact hk)
theorem heapK {hb pb t : Nat} {H : List (List (Option Tup))} (h : HeapIs w hb pb (fun k => o k = t) H) (ho : Only S w w') (hg : OwnOn o o') (ht : t ≠ 0) (hn : ∀ k, S k → o k ≠ t) : HeapIs w' hb pb (fun k => o' k = t) H :=
  (h.kept ho (fun k hk x => hn k x hk)).mono (fun k hk => by rw [hg k (by rw [hk]; exact ht)]; exact hk)
theorem snapK {A : Option Addr} {c t : Nat} {s : Snap} (h : SnapV w (fun k => o k = t) A c s) (ho : Only S w w') (hg : OwnOn o o') (ht : t ≠ 0) (hn : ∀ k, S k → o k ≠ t) : SnapV w' (fun k => o' k = t) A c s :=
  (h.kept ho (fun k hk x => hn k x hk)).mono (fun k hk => by rw [hg k (by rw [hk]; exact ht)]; exact hk)
theorem treeK {tb t : Nat} {es : List Ent} (h : TreeIs w (fun k => o k = t) tb es) (ho : Only S w w') (hg : OwnOn o o') (ht : t ≠ 0) (hn : ∀ k, S k → o k ≠ t) : TreeIs w' (fun k => o' k = t) tb es :=
  (h.kept ho (fun k hk x => hn k x hk)).mono (fun k hk _ => by rw [hg k (by rw [hk]; exact ht)]; exact hk)
theorem heapsK {pb : Nat} {hs : Nat → Option (List (List (Option Tup)))} {fh : Nat → Option Value} (h : HeapsIn w pb o hs fh) (ho : Only S w w') (hg : OwnOn o o') (hn : ∀ k, S k → ∀ id H, hs id = some H → o k ≠ 10 + 2 * id) : HeapsIn w' pb o' hs fh :=
  ⟨h.1, fun id H hi => by obtain ⟨hb, e, h1⟩ := h.2 id H hi; exact ⟨hb, e, heapK h1 ho hg (by omega) (fun k hk => hn k hk id H hi)⟩⟩
theorem treesK {ts : Nat → Option (List Ent)} {ft : Nat → Option Value} (h : TreesIn w o ts ft) (ho : Only S w w') (hg : OwnOn o o') (hn : ∀ k, S k → ∀ id es, ts id = some es → o k ≠ 11 + 2 * id) : TreesIn w' o' ts ft :=
  ⟨h.1, fun id es hi => by obtain ⟨tb, e, h1⟩ := h.2 id es hi; exact ⟨tb, e, treeK h1 ho hg (by omega) (fun k hk => hn k hk id es hi)⟩⟩
theorem snapsK {sn : Nat → Option Snap} {fs : Nat → Option Value} (h : SnapsIn w o sn fs) (ho : Only S w w') (hg : OwnOn o o') (hn : ∀ k, S k → o k ≠ 5) : SnapsIn w' o' sn fs :=
  ⟨h.1, fun id x hi => by obtain ⟨A, c, e, h1⟩ := h.2 id x hi; exact ⟨A, c, e, snapK h1 ho hg (by omega) hn⟩⟩
end

section
variable {w w' : World} {sb : Nat} {o : Nat → Nat} {s : St} {lb bb pb mh mt ms : Nat} {fh ft fs : Nat → Option Value}
theorem StoreRow.cells (h : StoreRow w sb o s lb bb pb mh mt ms fh ft fs) : w.cell? ⟨sb, 0, none⟩ = some (ptrV lb) ∧ w.cell? ⟨sb, 1, none⟩ = some (ptrV bb) ∧ w.cell? ⟨sb, 2, none⟩ = some (ptrV pb) ∧ w.cell? ⟨sb, 3, none⟩ = some (.map (some mh)) ∧ w.cell? ⟨sb, 4, none⟩ = some (.map (some mt)) ∧ w.cell? ⟨sb, 5, none⟩ = some (.map (some ms)) ∧ w.cell? ⟨sb, 6, none⟩ = some (.int .u64 (s.last : Int)) :=
  ⟨by rw [cell_of h.box]; rfl, by rw [cell_of h.box]; rfl, by rw [cell_of h.box]; rfl, by rw [cell_of h.box]; rfl, by rw [cell_of h.box]; rfl, by rw [cell_of h.box]; rfl, by rw [cell_of h.box]; rfl⟩

theorem StoreRow.kept {S : Nat → Prop} (h : StoreRow w sb o s lb bb pb mh mt ms fh ft fs) (ho : Only S w w') (hn : ∀ k, S k → o k = 0) : StoreRow w' sb o s lb bb pb mh mt ms fh ft fs := by
  obtain ⟨t1, t2, t3, t4, t5⟩ := h.tags
  exact ⟨ho.get h.box (fun x => by have := hn _ x; omega), logK h.log ho .refl (by omega) (fun k x => by have := hn _ x; omega), bookK h.book ho .refl (by omega) (fun k x => by have := hn _ x; omega), h.pool.kept ho (fun x => by have := hn _ x; omega),
    h.mH.kept ho (fun x => by have := hn _ x; omega), h.mT.kept ho (fun x => by have := hn _ x; omega), h.mS.kept ho (fun x => by have := hn _ x; omega), h.tags, fun k hk => h.big k (Nat.le_trans ho.size hk),
    heapsK h.heaps ho .refl (fun k x id H _ => by have := hn _ x; omega), treesK h.trees ho .refl (fun k x id es _ => by have := hn _ x; omega), snapsK h.snaps ho .refl (fun k x => by have := hn _ x; omega), h.num⟩

theorem StoreRow.quietly (h : StoreRow w sb o s lb bb pb mh mt ms fh ft fs) (hq : Quiet w w') : StoreRow w' sb o s lb bb pb mh mt ms fh ft fs := h.kept hq (fun _ x => x.elim)
theorem StoreAt.quietly (h : StoreAt w sb o s) (hq : Quiet w w') : StoreAt w' sb o s := by
  obtain ⟨lb, bb, pb, mh, mt, ms, fh, ft, fs, h⟩ := h
  exact ⟨lb, bb, pb, mh, mt, ms, fh, ft, fs, h.quietly hq⟩
theorem StoreAt.kept {S : Nat → Prop} (h : StoreAt w sb o s) (ho : Only S w w') (hn : ∀ k, S k → o k = 0) : StoreAt w' sb o s := by
  obtain ⟨lb, bb, pb, mh, mt, ms, fh, ft, fs, h⟩ := h
  exact ⟨lb, bb, pb, mh, mt, ms, fh, ft, fs, h.kept ho hn⟩

/-- Another log. -/
theorem StoreRow.setLog {L' : List Nat} (h : StoreRow w sb o s lb bb pb mh mt ms fh ft fs) (ho : Only (fun k => o k = 2) w w') (hl : LogAt w' (fun k => o k = 2 ∨ w.heap.size ≤ k) lb L') : StoreRow w' sb (grow o w.heap.size w'.heap.size 2) { s with L := L' } lb bb pb mh mt ms fh ft fs := by
  obtain ⟨t1, t2, t3, t4, t5⟩ := h.tags
  have hg : OwnOn o (grow o w.heap.size w'.heap.size 2) := OwnOn.grow h.big
  exact ⟨ho.get h.box (fun x => by omega), hl.mono (fun k hk hl => by rcases hk with x | x; rw [hg k (by omega)]; exact x; exact grow_new x hl), bookK h.book ho hg (by omega) (fun k x => by omega), h.pool.kept ho (fun x => by omega),
    h.mH.kept ho (fun x => by omega), h.mT.kept ho (fun x => by omega), h.mS.kept ho (fun x => by omega), ⟨by rw [hg _ (by omega)]; exact t1, by rw [hg _ (by omega)]; exact t2, by rw [hg _ (by omega)]; exact t3, by rw [hg _ (by omega)]; exact t4, by rw [hg _ (by omega)]; exact t5⟩, fun k hk => grow_big h.big ho.size hk,
    heapsK h.heaps ho hg (fun k x id H _ => by omega), treesK h.trees ho hg (fun k x id es _ => by omega), snapsK h.snaps ho hg (fun k x => by omega), h.num⟩

/-- Another book. -/
theorem StoreRow.setBook {T' : List TE} {I' : List IE} {last' : Nat} (h : StoreRow w sb o s lb bb pb mh mt ms fh ft fs) (ho : Only (fun k => o k = 3) w w') (hl : BookIs w' (fun k => o k = 3 ∨ w.heap.size ≤ k) bb T' I' last') : StoreRow w' sb (grow o w.heap.size w'.heap.size 3) { s with T := T', I := I', blast := last' } lb bb pb mh mt ms fh ft fs := by
  obtain ⟨t1, t2, t3, t4, t5⟩ := h.tags
  have hg : OwnOn o (grow o w.heap.size w'.heap.size 3) := OwnOn.grow h.big
  exact ⟨ho.get h.box (fun x => by omega), logK h.log ho hg (by omega) (fun k x => by omega), hl.lim.mono (fun k hk => by rcases hk.1 with x | x; rw [hg k (by omega)]; exact x; exact grow_new x hk.2), h.pool.kept ho (fun x => by omega),
    h.mH.kept ho (fun x => by omega), h.mT.kept ho (fun x => by omega), h.mS.kept ho (fun x => by omega), ⟨by rw [hg _ (by omega)]; exact t1, by rw [hg _ (by omega)]; exact t2, by rw [hg _ (by omega)]; exact t3, by rw [hg _ (by omega)]; exact t4, by rw [hg _ (by omega)]; exact t5⟩, fun k hk => grow_big h.big ho.size hk,
    heapsK h.heaps ho hg (fun k x id H _ => by omega), treesK h.trees ho hg (fun k x id es _ => by omega), snapsK h.snaps ho hg (fun k x => by omega), h.num⟩

/-- Another heap's pages. -/
theorem StoreRow.setHeap {id hb left' : Nat} {H' : List (List (Option Tup))} (h : StoreRow w sb o s lb bb pb mh mt ms fh ft fs) (hid : fh id = some (ptrV hb)) (ho : Only (fun k => o k = 10 + 2 * id ∨ k = pb) w w') (hp : PoolAt w' pb left') (hl : HeapIs w' hb pb (fun k => o k = 10 + 2 * id ∨ w.heap.size ≤ k) H') :
    StoreRow w' sb (grow o w.heap.size w'.heap.size (10 + 2 * id)) { s with left := left', hs := upd s.hs id (some H') } lb bb pb mh mt ms fh ft fs := by
  obtain ⟨t1, t2, t3, t4, t5⟩ := h.tags
  have hg : OwnOn o (grow o w.heap.size w'.heap.size (10 + 2 * id)) := OwnOn.grow h.big
  have hn : ∀ k, (o k = 10 + 2 * id ∨ k = pb) → o k = 10 + 2 * id ∨ o k = 4 := fun k x => by rcases x with x | x; exact Or.inl x; rw [x]; exact Or.inr t2
  refine ⟨ho.get h.box (fun x => by have := hn _ x; omega), logK h.log ho hg (by omega) (fun k x => by have := hn _ x; omega), bookK h.book ho hg (by omega) (fun k x => by have := hn _ x; omega), hp,
    h.mH.kept ho (fun x => by have := hn _ x; omega), h.mT.kept ho (fun x => by have := hn _ x; omega), h.mS.kept ho (fun x => by have := hn _ x; omega), ⟨by rw [hg _ (by omega)]; exact t1, by rw [hg _ (by omega)]; exact t2, by rw [hg _ (by omega)]; exact t3, by rw [hg _ (by omega)]; exact t4, by rw [hg _ (by omega)]; exact t5⟩, fun k hk => grow_big h.big ho.size hk,
    ⟨fun i hi => ?_, fun i H hi => ?_⟩, treesK h.trees ho hg (fun k x i es _ => by have := hn _ x; omega), snapsK h.snaps ho hg (fun k x => by have := hn _ x; omega), h.num⟩
  · by_cases e : i = id
    · subst e; simp [upd] at hi
    · exact h.heaps.1 i (by simpa [upd, e] using hi)
  · by_cases e : i = id
    · subst e
      have : H' = H := by simpa [upd] using hi
      subst this
      exact ⟨hb, hid, hl.lim.mono (fun k hk => by rcases hk.1 with x | x; rw [hg k (by omega)]; exact x; exact grow_new x hk.2)⟩
    · obtain ⟨hb2, e2, h2⟩ := h.heaps.2 i H (by simpa [upd, e] using hi)
      exact ⟨hb2, e2, heapK h2 ho hg (by omega) (fun k x => by have := hn _ x; omega)⟩

/-- A heap more. -/
theorem StoreRow.newHeap {id hb B : Nat} {H' : List (List (Option Tup))} (h : StoreRow w sb o s lb bb pb mh mt ms fh ft fs) (hB : ∀ k, B ≤ k → o k = 0) (hBw : B ≤ w.heap.size) (hid : s.hs id = none) (ho : Only (fun k => k = mh) w w') (hm : MapF w' mh (upd fh id (some (ptrV hb)))) (hl : HeapIs w' hb pb (fun k => B ≤ k) H') :
    StoreRow w' sb (grow o B w'.heap.size (10 + 2 * id)) { s with hs := upd s.hs id (some H') } lb bb pb mh mt ms (upd fh id (some (ptrV hb))) ft fs := by
  obtain ⟨t1, t2, t3, t4, t5⟩ := h.tags
  have hg : OwnOn o (grow o B w'.heap.size (10 + 2 * id)) := OwnOn.grow hB
  have hn : ∀ k, k = mh → o k = 6 := fun k x => by rw [x]; exact t3
  refine ⟨ho.get h.box (fun x => by have := hn _ x; omega), logK h.log ho hg (by omega) (fun k x => by have := hn _ x; omega), bookK h.book ho hg (by omega) (fun k x => by have := hn _ x; omega), h.pool.kept ho (fun x => by have := hn _ x; omega),
    hm, h.mT.kept ho (fun x => by have := hn _ x; omega), h.mS.kept ho (fun x => by have := hn _ x; omega), ⟨by rw [hg _ (by omega)]; exact t1, by rw [hg _ (by omega)]; exact t2, by rw [hg _ (by omega)]; exact t3, by rw [hg _ (by omega)]; exact t4, by rw [hg _ (by omega)]; exact t5⟩, fun k hk => grow_big hB (Nat.le_trans hBw ho.size) hk,
    ⟨fun i hi => ?_, fun i H hi => ?_⟩, treesK h.trees ho hg (fun k x i es _ => by have := hn _ x; omega), snapsK h.snaps ho hg (fun k x => by have := hn _ x; omega), h.num⟩
  · by_cases e : i = id
    · subst e; simp [upd] at hi
    · have := h.heaps.1 i (by simpa [upd, e] using hi)
      simpa [upd, e] using this
  · by_cases e : i = id
    · subst e
      have : H' = H := by simpa [upd] using hi
      subst this
      exact ⟨hb, by simp [upd], hl.lim.mono (fun k hk => grow_new hk.1 hk.2)⟩
    · obtain ⟨hb2, e2, h2⟩ := h.heaps.2 i H (by simpa [upd, e] using hi)
      exact ⟨hb2, by simpa [upd, e] using e2, heapK h2 ho hg (by omega) (fun k x => by have := hn _ x; omega)⟩

/-- A snapshot more. -/
theorem StoreRow.putSnap {id B c : Nat} {A : Option Addr} {x : Snap} (h : StoreRow w sb o s lb bb pb mh mt ms fh ft fs) (hB : ∀ k, B ≤ k → o k = 0) (hBw : B ≤ w.heap.size) (ho : Only (fun k => k = ms) w w') (hm : MapF w' ms (upd fs id (some (snapV x A c)))) (hl : SnapV w' (fun k => B ≤ k) A c x) :
    StoreRow w' sb (grow o B w'.heap.size 5) { s with sn := upd s.sn id (some x) } lb bb pb mh mt ms fh ft (upd fs id (some (snapV x A c))) := by
  obtain ⟨t1, t2, t3, t4, t5⟩ := h.tags
  have hg : OwnOn o (grow o B w'.heap.size 5) := OwnOn.grow hB
  have hn : ∀ k, k = ms → o k = 8 := fun k x => by rw [x]; exact t5
  refine ⟨ho.get h.box (fun x => by have := hn _ x; omega), logK h.log ho hg (by omega) (fun k x => by have := hn _ x; omega), bookK h.book ho hg (by omega) (fun k x => by have := hn _ x; omega), h.pool.kept ho (fun x => by have := hn _ x; omega),
    h.mH.kept ho (fun x => by have := hn _ x; omega), h.mT.kept ho (fun x => by have := hn _ x; omega), hm, ⟨by rw [hg _ (by omega)]; exact t1, by rw [hg _ (by omega)]; exact t2, by rw [hg _ (by omega)]; exact t3, by rw [hg _ (by omega)]; exact t4, by rw [hg _ (by omega)]; exact t5⟩, fun k hk => grow_big hB (Nat.le_trans hBw ho.size) hk,
    heapsK h.heaps ho hg (fun k x i H _ => by have := hn _ x; omega), treesK h.trees ho hg (fun k x i es _ => by have := hn _ x; omega), ⟨fun i hi => ?_, fun i y hi => ?_⟩, h.num⟩
  · by_cases e : i = id
    · subst e; simp [upd] at hi
    · have := h.snaps.1 i (by simpa [upd, e] using hi)
      simpa [upd, e] using this
  · by_cases e : i = id
    · subst e
      have : x = y := by simpa [upd] using hi
      subst this
      exact ⟨A, c, by simp [upd], hl.lim.mono (fun k hk => grow_new hk.1 hk.2)⟩
    · obtain ⟨A2, c2, e2, h2⟩ := h.snaps.2 i y (by simpa [upd, e] using hi)
      exact ⟨A2, c2, by simpa [upd, e] using e2, snapK h2 ho hg (by omega) (fun k x => by have := hn _ x; omega)⟩

/-- A snapshot less. -/
theorem StoreRow.delSnap {id : Nat} (h : StoreRow w sb o s lb bb pb mh mt ms fh ft fs) (ho : Only (fun k => k = ms) w w') (hm : MapF w' ms (upd fs id none)) :
    StoreRow w' sb o { s with sn := upd s.sn id none } lb bb pb mh mt ms fh ft (upd fs id none) := by
  obtain ⟨t1, t2, t3, t4, t5⟩ := h.tags
  have hn : ∀ k, k = ms → o k = 8 := fun k x => by rw [x]; exact t5
  refine ⟨ho.get h.box (fun x => by have := hn _ x; omega), logK h.log ho .refl (by omega) (fun k x => by have := hn _ x; omega), bookK h.book ho .refl (by omega) (fun k x => by have := hn _ x; omega), h.pool.kept ho (fun x => by have := hn _ x; omega),
    h.mH.kept ho (fun x => by have := hn _ x; omega), h.mT.kept ho (fun x => by have := hn _ x; omega), hm, h.tags, fun k hk => h.big k (Nat.le_trans ho.size hk),
    heapsK h.heaps ho .refl (fun k x i H _ => by have := hn _ x; omega), treesK h.trees ho .refl (fun k x i es _ => by have := hn _ x; omega), ⟨fun i hi => ?_, fun i y hi => ?_⟩, h.num⟩
  · by_cases e : i = id
    · subst e; simp [upd]
    · have := h.snaps.1 i (by simpa [upd, e] using hi)
      simpa [upd, e] using this
  · by_cases e : i = id
    · subst e; simp [upd] at hi
    · obtain ⟨A2, c2, e2, h2⟩ := h.snaps.2 i y (by simpa [upd, e] using hi)
      exact ⟨A2, c2, by simpa [upd, e] using e2, snapK h2 ho .refl (by omega) (fun k x => by have := hn _ x; omega)⟩

/-- Another last row. -/
theorem StoreRow.setLast {z : Int} {n : Nat} (h : StoreRow w sb o s lb bb pb mh mt ms fh ft fs) (hz : z = n) (hn : U64 n) : StoreRow (w.setCell ⟨sb, 6, none⟩ (.int .u64 z)) sb o { s with last := n } lb bb pb mh mt ms fh ft fs := by
  subst hz
  obtain ⟨t1, t2, t3, t4, t5⟩ := h.tags
  have ho : Only (fun k => k = sb) w (w.setCell ⟨sb, 6, none⟩ (.int .u64 (n : Int))) := (Only.refl (fun k => k = sb) w).setCell (p := ⟨sb, 6, none⟩) (fun _ => rfl) _
  have hn' : ∀ k, k = sb → o k = 1 := fun k x => by rw [x]; exact t1
  exact ⟨set_same h.box 6 _, logK h.log ho .refl (by omega) (fun k x => by have := hn' _ x; omega), bookK h.book ho .refl (by omega) (fun k x => by have := hn' _ x; omega), h.pool.kept ho (fun x => by have := hn' _ x; omega),
    h.mH.kept ho (fun x => by have := hn' _ x; omega), h.mT.kept ho (fun x => by have := hn' _ x; omega), h.mS.kept ho (fun x => by have := hn' _ x; omega), h.tags, fun k hk => h.big k (Nat.le_trans ho.size hk),
    heapsK h.heaps ho .refl (fun k x i H _ => by have := hn' _ x; omega), treesK h.trees ho .refl (fun k x i es _ => by have := hn' _ x; omega), snapsK h.snaps ho .refl (fun k x => by have := hn' _ x; omega), hn⟩
end

end Go.Proofs.YtaijnpgoiagboaaGreatDoor

namespace Go.Proofs.YtaijnpgoiagboaaGreatDoor
open Go.RowKit Go.Lap Go.Maps

/-- What the store's Horizon tells. -/
structure HorSt (s : St) (hz : Nat) : Prop where
  none_ : (∀ x, s.sn x = none) → hz = s.L.length + 1
  some_ : (∃ x y, s.sn x = some y) → ∃ x y, s.sn x = some y ∧ hz = y.xmin
  least : ∀ x y, s.sn x = some y → hz ≤ y.xmin
  num : U64 hz

def StoreHorPost (w : World) (s : St) (e : Ending) (w' : World) : Prop := ∃ hz : Nat, e = .returned (.int .u64 (hz : Int)) ∧ HorSt s hz ∧ Quiet w w'

theorem encP_inj {p : SnapP} {y : Snap} {A : Option Addr} {c : Nat} (h : encP p = snapV y A c) : p.1.xmin = y.xmin := by
  have h' : (#[Value.int .u64 (p.1.own : Int), .int .u64 (p.1.xmin : Int), .int .u64 (p.1.xmax : Int), .slice p.2.1 p.1.run.length p.2.2] : Array Value) = #[.int .u64 (y.own : Int), .int .u64 (y.xmin : Int), .int .u64 (y.xmax : Int), .slice A y.run.length c] := by injection h
  have h2 := congrArg (fun a : Array Value => a[1]?) h'
  simp at h2
  omega

/-- All that the iterator gives are the store's snapshots. -/
theorem hor_done {w : World} {o : Nat → Nat} {s : St} {fs : Nat → Option Value} {ps : List SnapP} {hz : Nat} (h : SnapsIn w o s.sn fs) (hv : ValsOf fs (ps.map encP)) (hh : HorOf (s.L.length + 1) ps hz) (hu : U64 hz) : HorSt s hz := by
  have back : ∀ p ∈ ps, ∃ x y, s.sn x = some y ∧ p.1.xmin = y.xmin := fun p hp => by
    obtain ⟨x, hx⟩ := hv.each (encP p) (List.mem_map_of_mem hp)
    cases hs : s.sn x with
    | none => rw [h.1 x hs] at hx; cases hx
    | some y =>
      obtain ⟨A, c, e, _⟩ := h.2 x y hs
      rw [e] at hx
      injection hx with hx
      exact ⟨x, y, hs, encP_inj hx.symm⟩
  have forth : ∀ x y, s.sn x = some y → ∃ p ∈ ps, p.1.xmin = y.xmin := fun x y hs => by
    obtain ⟨A, c, e, _⟩ := h.2 x y hs
    obtain ⟨p, hp, hpe⟩ := List.mem_map.1 (hv.all x _ e)
    exact ⟨p, hp, encP_inj hpe⟩
  refine ⟨fun hn => hh.none_ ?_, fun ⟨x, y, hs⟩ => ?_, fun x y hs => ?_, hu⟩
  · rcases ps with _ | ⟨p, ps⟩
    · rfl
    · obtain ⟨x, y, hs, _⟩ := back p (List.mem_cons_self ..)
      rw [hn x] at hs
      cases hs
  · obtain ⟨p, hp, _⟩ := forth x y hs
    obtain ⟨q, hq, e⟩ := hh.some_ (fun e => by rw [e] at hp; cases hp)
    obtain ⟨x', y', h1, h2⟩ := back q hq
    exact ⟨x', y', h1, e.trans h2⟩
  · obtain ⟨p, hp, e⟩ := forth x y hs
    rw [← e]
    exact hh.least p hp

set_option maxHeartbeats 400000 in
set_option maxRecDepth 100000 in
theorem maps_vals (ms : Nat) (w : World) : Calls Tryz.prog 74 #[.map (some ms)] w fun e w' => e = .returned (.func (.func 119) #[] #[.pointer (some ⟨w.heap.size, 0, none⟩)]) ∧ Quiet w w' ∧ w'.heap[w.heap.size]? = some (.cells #[.map (some ms)] 84 (0, 0)) := by
  go_enter Tryz.func74, Tryz.ntmps74
  go_wp2
  go_ret
  exact ⟨rfl, (Only.refl _ _).alloc _, alloc_new _ _⟩

theorem vals_gives {w : World} {o : Nat → Nat} {sn : Nat → Option Snap} {ms Bm N : Nat} {fs : Nat → Option Value} (hm : MapF w ms fs) (hs : SnapsIn w o sn fs) (hN : ∀ x y, sn x = some y → x ≤ N) (hN2 : N ≤ 2000000) (hB : w.heap[Bm]? = some (.cells #[.map (some ms)] 84 (0, 0))) :
    ∃ M, M ≤ N + 1 ∧ SeqGives Fence.wide 4 Tryz.prog 119 #[.pointer (some ⟨Bm, 0, none⟩)] encP (fun ps => ValsOf fs (ps.map encP) ∧ ps.length ≤ M) M w := by
  have hx : ∀ x v, fs x = some v → ∃ y A c, sn x = some y ∧ v = snapV y A c := fun x v h => by
    cases e : sn x with
    | none => rw [hs.1 x e] at h; cases h
    | some y =>
      obtain ⟨A, c, e2, _⟩ := hs.2 x y e
      rw [e2] at h
      injection h with h
      exact ⟨y, A, c, rfl, h.symm⟩
  obtain ⟨D, h1, h2, h3, h4⟩ := hm.owns Tryz.underlying22 (N := N) (fun x v h => by obtain ⟨y, A, c, e, _⟩ := hx x v h; exact hN x y e) (by unfold maxLen; omega)
  refine ⟨Maps.size D, h2, fun l J W hW hJ hY h0 => ?_⟩
  have hown' : W.ownsMap Tryz.prog 22 heldR ms (N + 1) D := by
    have hbl := h1.lt
    obtain ⟨es, clock, hb, Ft, hs', hD⟩ := h1
    exact ⟨es, clock, (hW.block ms hbl).trans hb, Ft, hs', hD⟩
  have hb2 : W.heap[Bm]? = some (.cells #[.map (some ms)] 84 (0, 0)) := (hW.block Bm (lt_of_get hB)).trans hB
  exact vals_in Fence.wide 4 trivial rfl (by omega) l Bm ms (N + 1) D fs h3 h4 (fun x v h => by obtain ⟨y, A, c, _, e⟩ := hx x v h; exact ⟨(y, A, c), e⟩) J hY W hJ (by rw [cell_of hb2]; rfl) hown' h0

def CollPost (w : World) (fs : Nat → Option Value) (N : Nat) (e : Ending) (w' : World) : Prop :=
  ∃ A c, ∃ ps : List SnapP, e = .returned (.slice A ps.length c) ∧ ValsOf fs (ps.map encP) ∧ ps.length ≤ N ∧ Quiet w w' ∧ Rd w' (fun _ => True) 4 A ps.length (ps.flatMap cellsP)

set_option maxRecDepth 100000 in
theorem collect_vals {w : World} {o : Nat → Nat} {sn : Nat → Option Snap} {ms Bm N : Nat} {fs : Nat → Option Value} (hm : MapF w ms fs) (hs : SnapsIn w o sn fs) (hN : ∀ x y, sn x = some y → x ≤ N) (hN2 : N ≤ 2000000) (hB : w.heap[Bm]? = some (.cells #[.map (some ms)] 84 (0, 0))) :
    Calls Tryz.prog 73 #[.func (.func 119) #[] #[.pointer (some ⟨Bm, 0, none⟩)]] w (CollPost w fs (N + 1)) := by
  obtain ⟨M, hM, hg⟩ := vals_gives hm hs hN hN2 hB
  have eg : ∀ args w, (callFunc 119 args).run Tryz.prog w = .ok (.enter 119 args) w := enters_of Tryz.func119 (by kernel_rfl) rfl
  refine (callsIn_wide.1 (collect_in Fence.wide 6 trivial trivial rfl (by omega) 119 #[.pointer (some ⟨Bm, 0, none⟩)] trivial eg _ M (by unfold maxLen; omega) (by omega) w hg)).mono ?_
  rintro e w' ⟨v, ps, rfl, ⟨hv, hl⟩, hrow, _, hb⟩
  obtain ⟨A, c, rfl, _, _, hrd⟩ := own_form (ownsRow_base_a hrow (Nat.zero_le _))
  exact ⟨A, c, ps, rfl, hv, by omega, ⟨hb.os, hb.tape, hb.output, hb.size, fun k hk _ => hb.block k hk⟩, hrd.mono (fun _ _ => trivial)⟩

set_option maxHeartbeats 1000000 in
set_option maxRecDepth 100000 in
theorem store_horizon {w : World} {sb N : Nat} {o : Nat → Nat} {s : St} (h : StoreAt w sb o s) (hL : s.L.length < 1000000000) (hN : ∀ x y, s.sn x = some y → x ≤ N) (hN2 : N ≤ 2000000) :
    Calls Tryz.prog 27 #[ptrV sb] w (StoreHorPost w s) := by
  obtain ⟨lb, bb, pb, mh, mt, ms, fh, ft, fs, h⟩ := h
  have HH := Lib.hid h
  have HN := Lib.hid (And.intro hN (And.intro hN2 hL))
  have HS3 : Hid (∀ W, Quiet w W → (fun w' => w'.cell? ⟨sb, 0, none⟩ = some (ptrV lb) ∧ w'.cell? ⟨sb, 5, none⟩ = some (.map (some ms))) W) := fun W hq => by
    have c := (HH.out.quietly hq).cells
    exact ⟨c.1, c.2.2.2.2.2.1⟩
  obtain ⟨POST, hPOST⟩ : ∃ POST, StoreHorPost w s = POST := ⟨_, rfl⟩
  rw [hPOST]
  have HPOST := Lib.hid hPOST
  clear h hL hN hN2 hPOST
  go_enter Tryz.func27, Tryz.ntmps27
  go_wp2_with fail
  refine wp_region_held_drew (S := (fun w' => w'.cell? ⟨sb, 0, none⟩ = some (ptrV lb) ∧ w'.cell? ⟨sb, 5, none⟩ = some (.map (some ms)))) (by kernel_rfl) (HS3.out _ ((Only.refl _ _).drew)) (fun hHeld => ?_)
  simp only [List.size_toArray, List.length_cons, List.length_nil, Nat.reduceAdd]
  have q0 : Quiet w w.drew := (Only.refl _ _).drew
  generalize w.drew = d0 at q0 hHeld ⊢
  (refine zTK 0 (oi := ?_) (v := ?_) ?_ ?_ (Or.inl ⟨?_, ?_⟩) ?_; rotate_left 2; (focus (simp only [zGA, zGZ, zGS] <;> rfl)); (focus (exact fun _ _ _ h => h)); (focus rfl); (focus (intro w hSw; (try dsimp only at hSw); go_simp; (try with_reducible rfl); done)); (try simp only [Act.put, zPA, zPZ, zPS]))
  (refine zTK 1 (oi := ?_) (v := ?_) ?_ ?_ (Or.inl ⟨?_, ?_⟩) ?_; rotate_left 2; (focus (simp only [zGA, zGZ, zGS] <;> rfl)); (focus (exact fun _ _ _ h => h)); (focus rfl); (focus (intro w hSw; (try dsimp only at hSw); go_simp; (try with_reducible rfl); done)); (try simp only [Act.put, zPA, zPZ, zPS]))
  (refine zTK 2 (oi := ?_) (v := ?_) ?_ ?_ (Or.inl ⟨?_, ?_⟩) ?_; rotate_left 2; (focus (simp only [zGA, zGZ, zGS] <;> rfl)); (focus (exact fun _ _ _ h => h)); (focus rfl); (focus (intro w hSw; (try dsimp only at hSw); go_simp; (try with_reducible rfl); done)); (try simp only [Act.put, zPA, zPZ, zPS]))
  (refine zTK 3 (oi := ?_) (v := ?_) ?_ ?_ (Or.inl ⟨?_, ?_⟩) ?_; rotate_left 2; (focus (simp only [zGA, zGZ, zGS] <;> rfl)); (focus (exact fun _ _ _ h => h)); (focus rfl); (focus (intro w hSw; (try dsimp only at hSw); go_simp; (try with_reducible rfl); done)); (try simp only [Act.put, zPA, zPZ, zPS]))
  (refine zTK 4 (oi := ?_) (v := ?_) ?_ ?_ (Or.inl ⟨?_, ?_⟩) ?_; rotate_left 2; (focus (simp only [zGA, zGZ, zGS] <;> rfl)); (focus (exact fun _ _ _ h => h)); (focus rfl); (focus (intro w hSw; (try dsimp only at hSw); go_simp; (try with_reducible rfl); done)); (try simp only [Act.put, zPA, zPZ, zPS]))
  (refine zTK 5 (oi := ?_) (v := ?_) ?_ ?_ (Or.inl ⟨?_, ?_⟩) ?_; rotate_left 2; (focus (simp only [zGA, zGZ, zGS] <;> rfl)); (focus (exact fun _ _ _ h => h)); (focus rfl); (focus (intro w hSw; (try dsimp only at hSw); go_simp; (try with_reducible rfl); done)); (try simp only [Act.put, zPA, zPZ, zPS]))
  (refine zTK 6 (oi := ?_) (v := ?_) ?_ ?_ (Or.inl ⟨?_, ?_⟩) ?_; rotate_left 2; (focus (simp only [zGA, zGZ, zGS] <;> rfl)); (focus (exact fun _ _ _ h => h)); (focus rfl); (focus (intro w hSw; (try dsimp only at hSw); go_simp; (try with_reducible rfl); done)); (try simp only [Act.put, zPA, zPZ, zPS]))
  (refine zTK 7 (oi := ?_) (v := ?_) ?_ ?_ (Or.inl ⟨?_, ?_⟩) ?_; rotate_left 2; (focus (simp only [zGA, zGZ, zGS] <;> rfl)); (focus (exact fun _ _ _ h => h)); (focus rfl); (focus (intro w hSw; (try dsimp only at hSw); go_simp; (try with_reducible rfl); done)); (try simp only [Act.put, zPA, zPZ, zPS]))
  refine wpAnyH_ready (rs := [8]) (by kernel_rfl) (by simp) ?_
  refine AllReadyH.cons (o := ?_) ?_ ?_ AllReadyH.nil
  rotate_left 1
  (focus (simp only [zGA, zGZ, zGS] <;> rfl))
  intro K hK
  go_simp
  go_at_call 74
  refine (maps_vals ms _).mono ?_
  rintro e d1 ⟨rfl, hq1, hb1⟩
  have q1 := q0.trans hq1
  dsimp only
  refine hK.out _ _ ?_ (fun hHeld => ?_)
  · exact HS3.out _ q1
  clear hK K
  (try simp only [Act.put, zPA, zPZ, zPS])
  obtain ⟨Bm, hBm⟩ : ∃ Bm, d0.heap.size = Bm := ⟨_, rfl⟩
  rw [hBm] at hb1
  (try rw [hBm])
  refine wpAnyH_ready (rs := [9]) (by kernel_rfl) (by simp) ?_
  refine AllReadyH.cons (o := ?_) ?_ ?_ AllReadyH.nil
  rotate_left 1
  (focus (simp only [zGA, zGZ, zGS] <;> rfl))
  intro K hK
  go_simp
  go_at_call 73
  refine (collect_vals (Bm := Bm) (HH.out.quietly q1).mS (HH.out.quietly q1).snaps HN.out.1 HN.out.2.1 hb1).mono ?_
  rintro e d2 ⟨A2, c2, ps, rfl, hv2, hl2, hq2, hr2⟩
  have q2 := q1.trans hq2
  dsimp only
  refine hK.out _ _ ?_ (fun hHeld => ?_)
  · exact HS3.out _ q2
  clear hK K
  (try simp only [Act.put, zPA, zPZ, zPS])
  refine wpAnyH_ready (rs := [10]) (by kernel_rfl) (by simp) ?_
  refine AllReadyH.cons (o := ?_) ?_ ?_ AllReadyH.nil
  rotate_left 1
  (focus (simp only [zGA, zGZ, zGS] <;> rfl))
  intro K hK
  go_simp
  go_at_call 72
  refine (snap_horizon (HH.out.quietly q2).log HN.out.2.2 hr2 (by have := HN.out.2.1; omega) (fun p hp => by
      obtain ⟨x, hx⟩ := hv2.each (encP p) (List.mem_map_of_mem hp)
      cases hs : s.sn x with
      | none => rw [HH.out.snaps.1 x hs] at hx; cases hx
      | some y =>
        obtain ⟨A, c, e, hsv⟩ := HH.out.snaps.2 x y hs
        rw [e] at hx
        injection hx with hx
        rw [encP_inj hx.symm]
        exact hsv.num.2.1)).mono ?_
  rintro e d3 ⟨hz, rfl, hh3, hu3, hq3⟩
  have q3 := q2.trans hq3
  dsimp only
  refine hK.out _ _ ?_ (fun hHeld => ?_)
  · exact HS3.out _ q3
  clear hK K
  (try simp only [Act.put, zPA, zPZ, zPS])
  (refine zTK 11 (oi := ?_) (v := ?_) ?_ ?_ (Or.inl ⟨?_, ?_⟩) ?_; rotate_left 2; (focus (simp only [zGA, zGZ, zGS] <;> rfl)); (focus (exact fun _ _ _ h => h)); (focus rfl); (focus (intro w hSw; (try dsimp only at hSw); go_simp; (try with_reducible rfl); done)); (try simp only [Act.put, zPA, zPZ, zPS]))
  refine wpAnyH_done (by kernel_rfl) ?_ _
  have HEND : Hid (POST (.returned (.int .u64 (hz : Int))) d3) := by
    rw [← HPOST.out]
    exact ⟨hz, rfl, hor_done HH.out.snaps hv2 hh3 hu3, q3⟩
  clear hHeld q0 q1 q2 q3 hq1 hq2 hq3 hb1 hv2 hl2 hr2 hh3 hu3 HS3
  go_wp2
  exact HEND.out

end Go.Proofs.YtaijnpgoiagboaaGreatDoor

namespace Go.Lap
open Go.Sort Go.Proofs Go.Shelf Go.RowKit

/-- A row of rows of one length, cell by cell. -/
theorem flat_get {α : Type} {k : Nat} {rows : List (List α)} (h : ∀ r ∈ rows, r.length = k) {i j : Nat} {r : List α} (hi : rows[i]? = some r) (hj : j < k) : rows.flatten[i * k + j]? = r[j]? := by
  induction rows generalizing i with
  | nil => simp at hi
  | cons x rows ih =>
    have hx : x.length = k := h x (by simp)
    rw [List.flatten_cons]
    rcases i with _ | i
    · simp at hi
      subst hi
      rw [Nat.zero_mul, Nat.zero_add, List.getElem?_append_left (by omega)]
    · rw [List.getElem?_cons_succ] at hi
      rw [List.getElem?_append_right (by rw [hx, Nat.add_mul]; omega), hx, show (i + 1) * k + j - k = i * k + j by rw [Nat.add_mul]; omega]
      exact ih (fun r hr => h r (by simp [hr])) hi

theorem flat_length {α : Type} {k : Nat} {rows : List (List α)} (h : ∀ r ∈ rows, r.length = k) : rows.flatten.length = rows.length * k := by
  induction rows with
  | nil => simp
  | cons x rows ih =>
    rw [List.flatten_cons, List.length_append, h x (by simp), ih (fun r hr => h r (by simp [hr])), List.length_cons, Nat.add_mul]
    omega

theorem flatK_toList {α : Type} [Inhabited α] (enc : α → List Value) (k : Nat) (hk : ∀ x, (enc x).length = k) (l : List α) : (flatK enc k l.toArray).toList = l.flatMap enc := by
  apply List.ext_getElem?
  intro t
  have hrows : ∀ r ∈ l.map enc, r.length = k := fun r hr => by
    obtain ⟨x, _, rfl⟩ := List.mem_map.1 hr
    exact hk x
  have hfl : (l.flatMap enc).length = l.length * k := by
    rw [List.flatMap_def, flat_length hrows, List.length_map]
  by_cases ht : t < l.length * k
  · have k0 : 0 < k := by
      rcases Nat.eq_zero_or_pos k with h | h
      · subst h; simp at ht
      · exact h
    have hd : t / k < l.length := by rw [Nat.div_lt_iff_lt_mul k0]; exact ht
    have hm : t % k < k := Nat.mod_lt _ k0
    have e : t / k * k + t % k = t := by rw [Nat.mul_comm]; exact Nat.div_add_mod t k
    have h1 := flat_get hrows (i := t / k) (j := t % k) (r := enc l[t / k]) (by rw [List.getElem?_map, List.getElem?_eq_getElem hd]; rfl) hm
    rw [e, ← List.flatMap_def] at h1
    rw [h1, Array.getElem?_toList, Array.getElem?_eq_getElem (by simpa using ht)]
    have hg := get_flatK enc k l.toArray t (by simpa using ht)
    rw [getElem!_pos _ _ (by simpa using ht)] at hg
    rw [hg]
    have hh : l.toArray[t / k]! = l[t / k] := by
      rw [getElem!_pos _ _ (by simpa using hd)]
      simp
    rw [hh, getElem!_pos _ _ (by rw [hk]; exact hm), List.getElem?_eq_getElem (by rw [hk]; exact hm)]
  · rw [List.getElem?_eq_none (by simp; omega), List.getElem?_eq_none (by rw [hfl]; omega)]

theorem flatMap_len {α : Type} {enc : α → List Value} {k : Nat} (hk : ∀ x, (enc x).length = k) (l : List α) : (l.flatMap enc).length = l.length * k := by
  rw [List.flatMap_def, flat_length (fun r hr => by obtain ⟨x, _, rfl⟩ := List.mem_map.1 hr; exact hk x), List.length_map]

theorem putCells_take {cur F : Array Value} (h : F.size ≤ cur.size) : (putCells id 0 F cur).toList.take F.size = F.toList := by
  apply List.ext_getElem?
  intro j
  by_cases hj : j < F.size
  · rw [List.getElem?_take_of_lt hj, Array.getElem?_toList, Array.getElem?_toList]
    simp [putCells, hj, show j < cur.size by omega]
  · rw [List.getElem?_take_eq_none (by omega), List.getElem?_eq_none (by simp; omega)]

section
variable {P : Program} {ρ : Ren} {α : Type} [Inhabited α]

/-- A row of structs sorted. -/
theorem sort_own (L : SlLaysF0.n6 P ρ) (k : Nat) (aE : ∀ w, (isAgg (ρ.t 24)).run P w = .ok true w) (zE : ∀ w, (Go.sizeOf (ρ.t 24)).run P w = .ok k w) (enc : α → List Value) (hk : ∀ x, (enc x).length = k)
    (h1 : ∀ x, ∀ v ∈ enc x, v.oneCell' = true) (cf : α → α → Int) (hO : SWO (ltOf cf)) (g : Nat) (eg : ∀ args w, (callFunc g args).run P w = .ok (.enter g args) w)
    (hcl : ∀ x y W, Calls P g #[.agg (enc x).toArray, .agg (enc y).toArray] W fun e w' => e = .returned (.int .i64 (cf x y)) ∧ ∃ q os', w' = grow (W.drewN q) os')
    (e : TypeId) (v : Value) (l : List α) (w : World) (hown : w.ownsRow 0 e k v l.length (l.flatMap enc)) (hl : l.length < 4611686018427387904) :
    Calls P (ρ.f 6) #[v, .func (.func g) #[] #[]] w fun e' w' => e' = .returned (.tuple #[]) ∧ ∃ l' : List α, l'.Perm l ∧ l'.Pairwise (fun a b => ltOf cf b a = false) ∧ w'.ownsRow 0 e k v l.length (l'.flatMap enc) ∧ Only (fun k => v.ownBlock = some k) w w' := by
  rcases hown.2 with ⟨rfl, h0⟩ | ⟨b, cap, cur, rfl, _, hb, hc1, hc2, hc3, hc4⟩
  · have hl0 : l = [] := List.eq_nil_of_length_eq_zero h0
    subst hl0
    refine (AnyF.slices_SortFunc_none L none 0 (.func (.func g) #[] #[]) w).mono ?_
    rintro e' w' ⟨rfl, rfl⟩
    exact ⟨rfl, [], List.Perm.refl _, List.Pairwise.nil, hown, Only.refl _ _⟩
  · have hblk := lt_of_get hb
    have hH : HoldsK enc k w b 0 l.toArray := by
      intro j hj
      have hj' : j < l.length * k := by simpa using hj
      refine ⟨?_, frozen_of hb _⟩
      rw [Nat.zero_add, cell_of hb]
      have h2 : (l.flatMap enc)[j]? = cur[j]? := by rw [← hc4, List.getElem?_take_of_lt hj', Array.getElem?_toList]
      rw [← h2, ← flatK_toList enc k hk, Array.getElem?_toList, Array.getElem?_eq_getElem hj, getElem!_pos (flatK enc k l.toArray) j hj]
      rfl
    have hs : l.toArray.size = l.length := rfl
    have hcall := AnyQ.slices_SortFunc L k aE zE enc hk h1 cf hO g #[] b 0 cap l.toArray w eg (fun _ _ _ _ x y => hcl x y _) hH hblk (by rw [hs]; exact hl)
    rw [hs] at hcall
    refine hcall.mono ?_
    rintro e' w' ⟨rfl, d', n, os, hp, hsd, rfl⟩
    obtain ⟨p1, _, p3⟩ := hp
    have hd' : d'.size = l.length := p1
    have hperm : d'.toList.Perm l := by
      rw [show l.length = d'.size from hd'.symm] at p3
      have h5 : (d'.extract 0 d'.size).toList = d'.toList := by simp
      have h6 : (l.toArray.extract 0 d'.size).toList = l := by rw [hd']; simp
      rw [h5, h6] at p3
      exact p3
    have hg : (sortWorldK enc k w b 0 n d' os).heap[b]? = some (.cells (putCells id 0 (flatK enc k d') cur) e (0, 0)) := by
      unfold sortWorldK
      rw [heap_grow_old _ _ (by simpa [putRowK, Sort.ahead] using hblk)]
      simp [putRowK, putRow, mapBlock, Sort.ahead, Array.getElem?_modify, hb, onCells]
    refine ⟨rfl, d'.toList, hperm, ?_, ?_, ⟨rfl, rfl, rfl, ?_, fun i hi hn => ?_⟩⟩
    · rw [List.pairwise_iff_getElem]
      intro i j hi hj hij
      have := hsd i j (Nat.zero_le _) hij (by rw [← hd']; simpa using hj)
      rw [getElem!_pos d' j (by simpa using hj), getElem!_pos d' i (by simpa using hi)] at this
      simpa using this
    · have hfl : (flatK enc k d').toList = d'.toList.flatMap enc := by
        have := flatK_toList enc k hk d'.toList
        simpa using this
      refine ⟨by rw [flatMap_len hk]; simp [hd'], .inr ⟨b, cap, _, rfl, Nat.zero_le _, hg, hc1, hc2, by simp [putCells, hc3], ?_⟩⟩
      have hsz : (flatK enc k d').size = l.length * k := by rw [size_flatK, hd']
      have := putCells_take (cur := cur) (F := flatK enc k d') (by rw [hsz, hc3]; exact Nat.mul_le_mul_right _ hc1)
      rw [hsz, hfl] at this
      exact this
    · show w.heap.size ≤ ((mapBlock _ _ _).heap ++ os).size
      simp [mapBlock, Sort.ahead]
    · have hne : ¬ b = i := fun x => hn (by rw [← x]; rfl)
      unfold sortWorldK
      rw [heap_grow_old _ _ (by simpa [putRowK, Sort.ahead] using hi)]
      simp [putRowK, putRow, mapBlock, Sort.ahead, Array.getElem?_modify, hne]
end
end Go.Lap

namespace Go.Proofs
open Go.Shelf
def Tryz.sortRows_ren : Go.Shelf.Ren := ⟨fun | 6 => 84 | 15 => 135 | 14 => 134 | 28 => 178 | 29 => 179 | 20 => 170 | 21 => 171 | 22 => 172 | 23 => 173 | 24 => 174 | 25 => 175 | 26 => 176 | 27 => 177 | 46 => 196 | 47 => 197 | 48 => 198 | 49 => 199 | 50 => 200 | 57 => 206 | n => n, fun | 22 => 31 | 24 => 52 | 25 => 161 | 3 => 3 | 39 => 230 | 0 => 0 | 53 => 280 | 55 => 22 | 4 => 4 | 46 => 274 | 45 => 273 | 50 => 243 | 5 => 5 | 9 => 9 | 66 => 294 | 70 => 297 | 76 => 305 | 77 => 281 | n => n, fun | n => n⟩
theorem Tryz.sortRows : Go.Proofs.SlLaysF0.n6 Tryz.prog Tryz.sortRows_ren := {
  mixed := by kernel_rfl
  f6 := ⟨Tryz.f84.name, by decide, Tryz.func84.trans (congrArg some (by kernel_rfl))⟩
  f14 := ⟨Tryz.f134.name, by decide, Tryz.func134.trans (congrArg some (by kernel_rfl))⟩
  f15 := Tryz.func135.trans (congrArg some (by kernel_rfl))
  f20 := ⟨Tryz.f170.name, by decide, Tryz.func170.trans (congrArg some (by kernel_rfl))⟩
  f21 := ⟨Tryz.f171.name, by decide, Tryz.func171.trans (congrArg some (by kernel_rfl))⟩
  f22 := ⟨Tryz.f172.name, by decide, Tryz.func172.trans (congrArg some (by kernel_rfl))⟩
  f23 := ⟨Tryz.f173.name, by decide, Tryz.func173.trans (congrArg some (by kernel_rfl))⟩
  f24 := ⟨Tryz.f174.name, by decide, Tryz.func174.trans (congrArg some (by kernel_rfl))⟩
  f25 := ⟨Tryz.f175.name, by decide, Tryz.func175.trans (congrArg some (by kernel_rfl))⟩
  f26 := ⟨Tryz.f176.name, by decide, Tryz.func176.trans (congrArg some (by kernel_rfl))⟩
  f27 := ⟨Tryz.f177.name, by decide, Tryz.func177.trans (congrArg some (by kernel_rfl))⟩
  f28 := Tryz.func178.trans (congrArg some (by kernel_rfl))
  f29 := Tryz.func179.trans (congrArg some (by kernel_rfl))
  f46 := ⟨Tryz.f196.name, by decide, Tryz.func196.trans (congrArg some (by kernel_rfl))⟩
  f47 := Tryz.func197.trans (congrArg some (by kernel_rfl))
  f48 := Tryz.func198.trans (congrArg some (by kernel_rfl))
  f49 := ⟨Tryz.f199.name, by decide, Tryz.func199.trans (congrArg some (by kernel_rfl))⟩
  f50 := ⟨Tryz.f200.name, by decide, Tryz.func200.trans (congrArg some (by kernel_rfl))⟩
  f57 := ⟨Tryz.f206.name, by decide, Tryz.func206.trans (congrArg some (by kernel_rfl))⟩
  t0 := Tryz.underlying0
  a0 := Tryz.isAgg0
  z0 := Tryz.sizeOf0
  v0 := Tryz.zeroValue0
  t3 := Tryz.underlying3
  a3 := Tryz.isAgg3
  z3 := Tryz.sizeOf3
  v3 := Tryz.zeroValue3
  t4 := Tryz.underlying4
  a4 := Tryz.isAgg4
  z4 := Tryz.sizeOf4
  v4 := Tryz.zeroValue4
  t5 := Tryz.underlying5
  a5 := Tryz.isAgg5
  z5 := Tryz.sizeOf5
  v5 := Tryz.zeroValue5
  t9 := Tryz.underlying9
  a9 := Tryz.isAgg9
  z9 := Tryz.sizeOf9
  v9 := Tryz.zeroValue9
  t22 := Tryz.underlying31
  a22 := Tryz.isAgg31
  z22 := Tryz.sizeOf31
  v22 := Tryz.zeroValue31
  t25 := Tryz.underlying161
  a25 := Tryz.isAgg161
  z25 := Tryz.sizeOf161
  v25 := Tryz.zeroValue161
  t39 := Tryz.underlying230
  a39 := Tryz.isAgg230
  z39 := Tryz.sizeOf230
  v39 := Tryz.zeroValue230
  t45 := Tryz.underlying273
  a45 := Tryz.isAgg273
  z45 := Tryz.sizeOf273
  v45 := Tryz.zeroValue273
  t46 := Tryz.underlying274
  a46 := Tryz.isAgg274
  z46 := Tryz.sizeOf274
  v46 := Tryz.zeroValue274
  t50 := Tryz.underlying243
  a50 := Tryz.isAgg243
  z50 := Tryz.sizeOf243
  v50 := Tryz.zeroValue243
  t53 := Tryz.underlying280
  a53 := Tryz.isAgg280
  z53 := Tryz.sizeOf280
  v53 := Tryz.zeroValue280
  t55 := Tryz.underlying22
  a55 := Tryz.isAgg22
  z55 := Tryz.sizeOf22
  v55 := Tryz.zeroValue22
  t66 := Tryz.underlying294
  a66 := Tryz.isAgg294
  z66 := Tryz.sizeOf294
  v66 := Tryz.zeroValue294
  t70 := Tryz.underlying297
  a70 := Tryz.isAgg297
  z70 := Tryz.sizeOf297
  v70 := Tryz.zeroValue297
  t76 := Tryz.underlying305
  a76 := Tryz.isAgg305
  z76 := Tryz.sizeOf305
  v76 := Tryz.zeroValue305
  t77 := Tryz.underlying281
  a77 := Tryz.isAgg281
  z77 := Tryz.sizeOf281
  v77 := Tryz.zeroValue281 }
end Go.Proofs

namespace Go.Proofs.YtaijnpgoiagboaaGreatDoor
open Go.RowKit Go.Lap

/-- An empty store. -/
def st0 (n : Nat) : St := ⟨[], [], [], 0, n, fun _ => none, fun _ => none, fun _ => none, 0⟩

def ownNew (pb n1 n2 n3 : Nat) (k : Nat) : Nat :=
  if k = pb then 4 else if n1 ≤ k ∧ k < n2 then 2 else if n2 ≤ k ∧ k < n3 then 3 else if k = n3 then 6 else if k = n3 + 1 then 7 else if k = n3 + 2 then 8 else if k = n3 + 3 then 1 else 0

/-- What New leaves. -/
def StoreNewPost (w : World) (n : Nat) (e : Ending) (w' : World) : Prop := ∃ sb o, e = .returned (.tuple #[ptrV sb, .int .i64 0]) ∧ Quiet w w' ∧ (∀ k, k < w.heap.size → o k = 0) ∧ StoreAt w' sb o (st0 n)

theorem storeNew_done {w w1 w2 w3 : World} {n : Nat} (hq1 : Quiet w w1) (hp : PoolAt w1 w.heap.size n) (hq2 : Quiet w1 w2) (hl : LogAt w2 (fun k => w1.heap.size ≤ k) w1.heap.size []) (hq3 : Quiet w2 w3) (hb : BookIs w3 (fun k => w2.heap.size ≤ k) w2.heap.size [] [] 0)
    (W : World) (hW : W = (((w3.alloc (.map #[] 0)).alloc (.map #[] 0)).alloc (.map #[] 0)).alloc (.cells #[ptrV w1.heap.size, ptrV w2.heap.size, ptrV w.heap.size, .map (some w3.heap.size), .map (some (w3.heap.size + 1)), .map (some (w3.heap.size + 2)), .int .u64 0] 86)) :
    StoreNewPost w n (.returned (.tuple #[ptrV (w3.heap.size + 3), .int .i64 0])) W := by
  subst hW
  have s1 : w.heap.size < w1.heap.size := hp.lt
  have s2 : w1.heap.size < w2.heap.size := hl.lt.1
  have s3 : w2.heap.size < w3.heap.size := hb.lt.2
  have q : Quiet w3 ((((w3.alloc (.map #[] 0)).alloc (.map #[] 0)).alloc (.map #[] 0)).alloc (.cells #[ptrV w1.heap.size, ptrV w2.heap.size, ptrV w.heap.size, .map (some w3.heap.size), .map (some (w3.heap.size + 1)), .map (some (w3.heap.size + 2)), .int .u64 0] 86)) := ((((Only.refl _ _).alloc _).alloc _).alloc _).alloc _
  have m1 := mapF_made w3
  have m2 := mapF_made (w3.alloc (.map #[] 0))
  have m3 := mapF_made ((w3.alloc (.map #[] 0)).alloc (.map #[] 0))
  have b4 := alloc_new (((w3.alloc (.map #[] 0)).alloc (.map #[] 0)).alloc (.map #[] 0)) (.cells #[ptrV w1.heap.size, ptrV w2.heap.size, ptrV w.heap.size, .map (some w3.heap.size), .map (some (w3.heap.size + 1)), .map (some (w3.heap.size + 2)), .int .u64 0] 86)
  simp only [World.size_alloc] at m2 m3 b4
  refine ⟨w3.heap.size + 3, ownNew w.heap.size w1.heap.size w2.heap.size w3.heap.size, rfl, hq1.trans (hq2.trans (hq3.trans q)), fun k hk => ?_, w1.heap.size, w2.heap.size, w.heap.size, w3.heap.size, w3.heap.size + 1, w3.heap.size + 2, fun _ => none, fun _ => none, fun _ => none, ?_⟩
  · unfold ownNew
    repeat rw [if_neg (by omega)]
  · have big : ∀ k, w3.heap.size + 4 ≤ k → ownNew w.heap.size w1.heap.size w2.heap.size w3.heap.size k = 0 := fun k hk => by
      unfold ownNew
      repeat rw [if_neg (by omega)]
    refine ⟨b4, ?_, ?_, hp.kept (hq2.trans (hq3.trans q)) (fun x => x), m1.kept ((((Only.refl (fun _ => False) _).alloc _).alloc _).alloc _) (fun x => x), m2.kept (((Only.refl (fun _ => False) _).alloc _).alloc _) (fun x => x), m3.kept ((Only.refl (fun _ => False) _).alloc _) (fun x => x), ?_, fun k hk => big k (by simpa using hk), ⟨fun _ _ => rfl, fun _ _ x => by cases x⟩, ⟨fun _ _ => rfl, fun _ _ x => by cases x⟩, ⟨fun _ _ => rfl, fun _ _ x => by cases x⟩, by show 0 < _; decide⟩
    · exact (hl.lim.kept (hq3.trans q) (fun _ _ x => x)).mono (fun k hk _ => by show ownNew _ _ _ _ k = 2; unfold ownNew; rw [if_neg (by omega), if_pos (by omega)])
    · exact (hb.lim.kept q (fun _ _ x => x)).mono (fun k hk => by show ownNew _ _ _ _ k = 3; unfold ownNew; rw [if_neg (by omega), if_neg (by omega), if_pos (by omega)])
    · unfold ownNew
      refine ⟨?_, if_pos rfl, ?_, ?_, ?_⟩
      · rw [if_neg (by omega), if_neg (by omega), if_neg (by omega), if_neg (by omega), if_neg (by omega), if_neg (by omega), if_pos rfl]
      · rw [if_neg (by omega), if_neg (by omega), if_neg (by omega), if_pos rfl]
      · rw [if_neg (by omega), if_neg (by omega), if_neg (by omega), if_neg (by omega), if_pos rfl]
      · rw [if_neg (by omega), if_neg (by omega), if_neg (by omega), if_neg (by omega), if_neg (by omega), if_pos rfl]

set_option maxHeartbeats 1000000 in
set_option maxRecDepth 100000 in
theorem store_new (n : Nat) (hn : n ≤ 256) (w : World) :
    Calls Tryz.prog 6 #[.int .i64 (n : Int)] w (StoreNewPost w n) := by
  have hmm := @run_makeMap Tryz.prog
  go_enter Tryz.func6, Tryz.ntmps6
  go_wp2_with fail
  refine (pool_new n hn w).mono ?_
  rintro e w1 ⟨rfl, hq1, hp⟩
  go_wp2_with fail
  refine (log_new w1).mono ?_
  rintro e w2 ⟨rfl, hq2, hl⟩
  go_wp2_with fail
  refine (book_new w2).mono ?_
  rintro e w3 ⟨rfl, hq3, hb⟩
  have HD := Lib.hid (@storeNew_done w w1 w2 w3 n hq1 hp hq2 hl hq3 hb)
  clear hq1 hp hq2 hl hq3 hb
  go_wp2
  go_ret2
  exact HD.out _ rfl

end Go.Proofs.YtaijnpgoiagboaaGreatDoor

namespace Go.Proofs.YtaijnpgoiagboaaGreatDoor
open Go.RowKit Go.Lap

/-- What a call leaves of a store. -/
def StepTo (w : World) (sb : Nat) (o : Nat → Nat) (s' : St) (w' : World) : Prop := ∃ o', (∀ k, k < w.heap.size → o' k = o k) ∧ Only (fun k => o k ≠ 0) w w' ∧ StoreAt w' sb o' s'

/-- A transaction is over. -/
def endSt (s : St) (x v : Nat) : St := { s with L := (endL s.L x v).2, sn := upd s.sn x none }

def StoreEndPost (w : World) (sb : Nat) (o : Nat → Nat) (s : St) (x v : Nat) (e : Ending) (w' : World) : Prop :=
  e = .returned (.int .i64 ((endL s.L x v).1 : Int)) ∧ StepTo w sb o (endSt s x v) w'

theorem storeEnd_done {w w1 w2 : World} {sb lb bb pb mh mt ms x v : Nat} {o : Nat → Nat} {s : St} {fh ft fs : Nat → Option Value} (h : StoreRow w sb o s lb bb pb mh mt ms fh ft fs) (ho : Only (fun k => k = ms) w w1) (hm : MapF w1 ms (upd fs x none))
    (ho2 : Only (fun k => o k = 2) w1 w2) (hl : LogAt w2 (fun k => o k = 2) lb (endL s.L x v).2) : StepTo w sb o (endSt s x v) w2 := by
  have h1 := h.delSnap ho hm
  have h2 := h1.setLog (L' := (endL s.L x v).2) ho2 (hl.mono (fun k hk _ => Or.inl hk))
  have s1 := ho.size
  obtain ⟨t1, t2, t3, t4, t5⟩ := h.tags
  refine ⟨_, fun k hk => grow_old (by omega), (ho.mono (T := fun k => o k ≠ 0) (fun k _ e => by rw [e, t5]; omega)).trans' ho2 (fun k _ e => by omega), _, _, _, _, _, _, _, _, _, h2⟩

set_option maxHeartbeats 1000000 in
set_option maxRecDepth 100000 in
theorem store_commit {w : World} {sb x : Nat} {o : Nat → Nat} {s : St} (h : StoreAt w sb o s) (hx : U64 x) :
    Calls Tryz.prog 11 #[ptrV sb, .int .u64 (x : Int)] w (StoreEndPost w sb o s x 2) := by
  obtain ⟨lb, bb, pb, mh, mt, ms, fh, ft, fs, h⟩ := h
  obtain ⟨c0, c1, c2, c3, c4, c5, c6⟩ := h.cells
  obtain ⟨t1, t2, t3, t4, t5⟩ := h.tags
  have HH := Lib.hid h
  have HM := Lib.hid h.mS
  have HLOG : Hid (∀ W, Only (fun k => k = ms) w W → Calls Tryz.prog 48 #[ptrV lb, .int .u64 (x : Int)] W (EndPost W (fun k => o k = 2) lb (endL s.L x 2))) := fun W hq => log_commit (h.log.kept hq (fun k hk e => by rw [e, t5] at hk; omega)) hx
  have hsm : sb ≠ ms := fun e => by rw [e, t5] at t1; omega
  obtain ⟨w1, hrun, hm1, ho1⟩ := HM.out.delete Tryz.underlying84 Tryz.underlying22 0 hx
  have HM1 := Lib.hid hm1
  have HO1 : Hid (Only (fun k => k = ms) w w1) := ho1
  have d0 : w1.cell? ⟨sb, 0, none⟩ = some (ptrV lb) := HO1.out.cell c0 hsm
  have lsb := cell_lt d0
  dsimp only at lsb
  clear h t1 t2 t3 t4 t5 hx HM hm1 ho1 c1 c2 c3 c4 c6
  go_enter Tryz.func11, Tryz.ntmps11
  go_wp2_with fail
  refine (HLOG.out _ HO1.out).mono ?_
  rintro e w2 ⟨rfl, ho2, hl2⟩
  have HD := Lib.hid (storeEnd_done HH.out HO1.out HM1.out ho2 hl2)
  clear ho2 hl2 HLOG HO1 HM1 d0 lsb HH hrun c0 c5
  go_wp2
  go_ret
  exact ⟨rfl, HD.out⟩

set_option maxHeartbeats 1000000 in
set_option maxRecDepth 100000 in
theorem store_abort {w : World} {sb x : Nat} {o : Nat → Nat} {s : St} (h : StoreAt w sb o s) (hx : U64 x) :
    Calls Tryz.prog 12 #[ptrV sb, .int .u64 (x : Int)] w (StoreEndPost w sb o s x 3) := by
  obtain ⟨lb, bb, pb, mh, mt, ms, fh, ft, fs, h⟩ := h
  obtain ⟨c0, c1, c2, c3, c4, c5, c6⟩ := h.cells
  obtain ⟨t1, t2, t3, t4, t5⟩ := h.tags
  have HH := Lib.hid h
  have HM := Lib.hid h.mS
  have HLOG : Hid (∀ W, Only (fun k => k = ms) w W → Calls Tryz.prog 49 #[ptrV lb, .int .u64 (x : Int)] W (EndPost W (fun k => o k = 2) lb (endL s.L x 3))) := fun W hq => log_abort (h.log.kept hq (fun k hk e => by rw [e, t5] at hk; omega)) hx
  have hsm : sb ≠ ms := fun e => by rw [e, t5] at t1; omega
  obtain ⟨w1, hrun, hm1, ho1⟩ := HM.out.delete Tryz.underlying84 Tryz.underlying22 0 hx
  have HM1 := Lib.hid hm1
  have HO1 : Hid (Only (fun k => k = ms) w w1) := ho1
  have d0 : w1.cell? ⟨sb, 0, none⟩ = some (ptrV lb) := HO1.out.cell c0 hsm
  have lsb := cell_lt d0
  dsimp only at lsb
  clear h t1 t2 t3 t4 t5 hx HM hm1 ho1 c1 c2 c3 c4 c6
  go_enter Tryz.func12, Tryz.ntmps12
  go_wp2_with fail
  refine (HLOG.out _ HO1.out).mono ?_
  rintro e w2 ⟨rfl, ho2, hl2⟩
  have HD := Lib.hid (storeEnd_done HH.out HO1.out HM1.out ho2 hl2)
  clear ho2 hl2 HLOG HO1 HM1 d0 lsb HH hrun c0 c5
  go_wp2
  go_ret
  exact ⟨rfl, HD.out⟩

end Go.Proofs.YtaijnpgoiagboaaGreatDoor

namespace Go.Proofs.YtaijnpgoiagboaaGreatDoor
open Go.RowKit Go.Lap

theorem zero_snap (w : World) : (zeroValue 88).run Tryz.prog w = .ok (.agg #[.int .u64 0, .int .u64 0, .int .u64 0, .slice none 0 0]) w := by kernel_rfl

abbrev noSnap : Snap := ⟨0, 0, 0, []⟩

/-- What runs tells. -/
def RunsPost (w : World) (s : St) (o : Nat → Nat) (x : Nat) (e : Ending) (w' : World) : Prop :=
  Quiet w w' ∧ match s.sn x with
  | none => e = .returned (.tuple #[snapV noSnap none 0, .bool false])
  | some y => ∃ A c, e = .returned (.tuple #[snapV y A c, .bool true]) ∧ SnapV w' (fun k => o k = 5) A c y

set_option maxHeartbeats 1000000 in
set_option maxRecDepth 100000 in
theorem store_runs {w : World} {sb x : Nat} {o : Nat → Nat} {s : St} (h : StoreAt w sb o s) (hx : U64 x) :
    Calls Tryz.prog 40 #[ptrV sb, .int .u64 (x : Int)] w (RunsPost w s o x) := by
  obtain ⟨lb, bb, pb, mh, mt, ms, fh, ft, fs, h⟩ := h
  obtain ⟨_, _, _, _, _, c5, _⟩ := h.cells
  have lsb := cell_lt c5
  dsimp only at lsb
  have hq0 : Quiet w (w.alloc (.cells #[.int .u64 0, .int .u64 0, .int .u64 0, .slice none 0 0] 88)) := (Only.refl _ _).alloc _
  have hlk := (h.mS.kept hq0 (fun x => x)).lookup Tryz.underlying84 Tryz.underlying22 true (zero_snap _) hx
  rcases hy : s.sn x with _ | y
  · rw [h.snaps.1 x hy] at hlk
    simp only [if_true, Option.getD_none, Option.isSome_none] at hlk
    have HQ : Hid (Quiet w ((w.alloc (.cells #[.int .u64 0, .int .u64 0, .int .u64 0, .slice none 0 0] 88)).alloc (.cells #[.int .u64 0, .int .u64 0, .int .u64 0, .slice none 0 0] 88))) := hq0.alloc _
    have HX := Lib.hid (alloc_old (alloc_new w (.cells #[.int .u64 0, .int .u64 0, .int .u64 0, .slice none 0 0] 88)) (.cells #[.int .u64 0, .int .u64 0, .int .u64 0, .slice none 0 0] 88))
    have HP : Hid (∀ W, Quiet w W → RunsPost w s o x (.returned (.tuple #[snapV noSnap none 0, .bool false])) W) := fun W hq => ⟨hq, by rw [hy]⟩
    clear h hx hq0 hy
    go_enter Tryz.func40, Tryz.ntmps40
    go_wp2_with fail
    exact bodyPost_ret (results_cell_tmp Tryz.results40 _ _ w.heap.size _ _ (0, 0) _ (by rfl) HX.out Tryz.underlying88 rfl info_snap) (by rfl) (HP.out _ HQ.out)
  · obtain ⟨A, c, hfs, hs⟩ := h.snaps.2 x y hy
    rw [hfs] at hlk
    simp only [if_true, Option.getD_some, Option.isSome_some] at hlk
    have HQ : Hid (Quiet w ((w.alloc (.cells (snapCells y A c) 88)).alloc (.cells (snapCells y A c) 88))) := ((Only.refl _ _).alloc _).alloc _
    have HX := Lib.hid (alloc_old (alloc_new w (.cells (snapCells y A c) 88)) (.cells (snapCells y A c) 88))
    have HP : Hid (∀ W, Quiet w W → RunsPost w s o x (.returned (.tuple #[snapV y A c, .bool true])) W) := fun W hq => ⟨hq, by rw [hy]; exact ⟨A, c, rfl, hs.kept hq (fun _ _ x => x)⟩⟩
    unfold snapV at HP hlk
    clear h hx hq0 hy hs hfs
    go_enter Tryz.func40, Tryz.ntmps40
    go_wp2_with fail
    exact bodyPost_ret (results_cell_tmp Tryz.results40 _ _ w.heap.size _ _ (0, 0) _ (by rfl) HX.out Tryz.underlying88 rfl info_snap) (by rfl) (HP.out _ HQ.out)

end Go.Proofs.YtaijnpgoiagboaaGreatDoor

namespace Go.Proofs.YtaijnpgoiagboaaGreatDoor
open Go.RowKit Go.Lap

/-- One more transaction. -/
def begSt (s : St) : St := { s with L := s.L ++ [1], sn := upd s.sn (s.L.length + 1) (some (takeS (s.L ++ [1]) (s.L.length + 1))) }

def StoreBegPost (w : World) (sb : Nat) (o : Nat → Nat) (s : St) (e : Ending) (w' : World) : Prop :=
  e = .returned (.tuple #[.int .u64 ((s.L.length : Int) + 1), .int .i64 0]) ∧ StepTo w sb o (begSt s) w'

theorem storeBeg_done {w w1 w3 w4 : World} {sb lb bb pb mh mt ms c : Nat} {o : Nat → Nat} {s : St} {fh ft fs : Nat → Option Value} {A : Option Addr} {L' : List Nat} {x : Nat} {y : Snap} (h : StoreRow w sb o s lb bb pb mh mt ms fh ft fs) (ho : Only (fun k => o k = 2) w w1) (hl : LogAt w1 (fun k => o k = 2 ∨ w.heap.size ≤ k) lb L')
    (hq : Quiet w1 w3) (hs : SnapV w3 (fun k => w1.heap.size ≤ k ∧ k < w3.heap.size) A c y) (ho4 : Only (fun k => k = ms) w3 w4) (hm : MapF w4 ms (upd fs x (some (snapV y A c)))) : StepTo w sb o { s with L := L', sn := upd s.sn x (some y) } w4 := by
  have h1 := h.setLog ho hl
  have hbig := h1.big
  have h3 := h1.quietly hq
  have hms := h3.mS.lt
  have tm : grow o w.heap.size w1.heap.size 2 ms = 8 := h1.tags.2.2.2.2
  have hnm : ¬ w1.heap.size ≤ ms := fun x => by have := hbig ms x; omega
  have h4 := h3.putSnap (B := w1.heap.size) (id := x) (x := y) (A := A) (c := c) hbig hq.size ho4 hm ((hs.kept ho4 (fun k hk e => by omega)).mono (fun k hk => hk.1))
  have s1 := ho.size
  have s2 := hq.size
  have e8 : o ms = 8 := h.tags.2.2.2.2
  refine ⟨_, fun k hk => ?_, ((ho.mono (T := fun k => o k ≠ 0) (fun k _ e => by omega)).trans' hq (fun k _ e => e.elim)).trans' ho4 (fun k _ e => by rw [e, e8]; omega), _, _, _, _, _, _, _, _, _, h4⟩
  rw [grow_old (by omega), grow_old (by omega)]

set_option maxHeartbeats 2000000 in
set_option maxRecDepth 100000 in
theorem store_begin {w : World} {sb : Nat} {o : Nat → Nat} {s : St} (h : StoreAt w sb o s) (hl : s.L.length < 1000000) :
    Calls Tryz.prog 25 #[ptrV sb] w (StoreBegPost w sb o s) := by
  obtain ⟨lb, bb, pb, mh, mt, ms, fh, ft, fs, h⟩ := h
  obtain ⟨c0, _, _, _, _, c5, _⟩ := h.cells
  have lsb := cell_lt c0
  dsimp only at lsb
  obtain ⟨t1, t2, t3, t4, t5⟩ := h.tags
  have HB := Lib.hid (log_begin h.log (by omega))
  have HH := Lib.hid h
  obtain ⟨n, hn⟩ : ∃ n, s.L.length = n := ⟨_, rfl⟩
  have HP : Hid (StoreBegPost w sb o s = fun e w' => e = .returned (.tuple #[.int .u64 ((n : Int) + 1), .int .i64 0]) ∧ StepTo w sb o (begSt s) w') := by rw [← hn]; rfl
  have HN := Lib.hid hn
  have hsl : o sb ≠ 2 := by omega
  have hml : o ms ≠ 2 := by omega
  clear h t1 t2 t3 t4 t5 hn
  go_enter Tryz.func25, Tryz.ntmps25
  go_wp2_with fail
  refine HB.out.mono ?_
  rintro e w1 ⟨rfl, ho1, hl1⟩
  rw [HN.out]
  have HO1 := Lib.hid ho1
  have HL1 := Lib.hid hl1
  have d0 := ho1.cell c0 hsl
  have d5 := ho1.cell c5 hsl
  have lsb1 := cell_lt d0
  dsimp only at lsb1
  have HM := Lib.hid (HH.out.mS.kept ho1 hml)
  have HX : Hid (U64 (n + 1)) := by have := HN.out; unfold Hid U64; omega
  have HTK : Hid (∀ W, Quiet w1 W → Calls Tryz.prog 70 #[ptrV lb, .int .u64 ((n + 1 : Nat) : Int)] W (SnapPost W (takeS (s.L ++ [1]) (n + 1)))) := fun W hq => snap_take (hl1.kept hq (fun _ _ x => x)) (by rw [List.length_append]; simp; omega) HX.out
  clear ho1 hl1 c0 c5 lsb HB
  have en : ((n : Int) + 1) = ((n + 1 : Nat) : Int) := by omega
  rw [en] at *
  have c0 := d0
  have c5 := d5
  clear d0 d5
  go_wp2_with fail
  refine wp_region_last (S := fun w' => w'.cell? ⟨sb, 5, none⟩ = some (.map (some ms)) ∧ w'.cell? ⟨sb, 0, none⟩ = some (ptrV lb) ∧ Quiet w1 w') (by kernel_rfl) (by kernel_rfl) (by simp) (⟨c5, c0, (Only.refl _ _).drew⟩) (fun hHeld => ?_)
  simp only [List.pop_toArray, List.dropLast, List.size_toArray, List.length_cons, List.length_nil, Nat.reduceAdd, Nat.reduceSub]
  (refine zTK 0 (oi := ?_) (v := ?_) ?_ ?_ (Or.inl ⟨?_, ?_⟩) ?_; rotate_left 2; (focus (simp only [zGA, zGZ, zGS] <;> rfl)); (focus (exact fun _ _ _ => last_panic (fun h => h))); (focus rfl); (focus (intro w hSw; (try dsimp only at hSw); go_simp; (try with_reducible rfl); done)); (try simp only [Act.put, zPA, zPZ, zPS]))
  (refine zTK 1 (oi := ?_) (v := ?_) ?_ ?_ (Or.inl ⟨?_, ?_⟩) ?_; rotate_left 2; (focus (simp only [zGA, zGZ, zGS] <;> rfl)); (focus (exact fun _ _ _ => last_panic (fun h => h))); (focus rfl); (focus (intro w hSw; (try dsimp only at hSw); go_simp; (try with_reducible rfl); done)); (try simp only [Act.put, zPA, zPZ, zPS]))
  (refine zTK 2 (oi := ?_) (v := ?_) ?_ ?_ (Or.inl ⟨?_, ?_⟩) ?_; rotate_left 2; (focus (simp only [zGA, zGZ, zGS] <;> rfl)); (focus (exact fun _ _ _ => last_panic (fun h => h))); (focus rfl); (focus (intro w hSw; (try dsimp only at hSw); go_simp; (try with_reducible rfl); done)); (try simp only [Act.put, zPA, zPZ, zPS]))
  (refine zTK 3 (oi := ?_) (v := ?_) ?_ ?_ (Or.inl ⟨?_, ?_⟩) ?_; rotate_left 2; (focus (simp only [zGA, zGZ, zGS] <;> rfl)); (focus (exact fun _ _ _ => last_panic (fun h => h))); (focus rfl); (focus (intro w hSw; (try dsimp only at hSw); go_simp; (try with_reducible rfl); done)); (try simp only [Act.put, zPA, zPZ, zPS]))
  (refine zTK 4 (oi := ?_) (v := ?_) ?_ ?_ (Or.inl ⟨?_, ?_⟩) ?_; rotate_left 2; (focus (simp only [zGA, zGZ, zGS] <;> rfl)); (focus (exact fun _ _ _ => last_panic (fun h => h))); (focus rfl); (focus (intro w hSw; (try dsimp only at hSw); go_simp; (try with_reducible rfl); done)); (try simp only [Act.put, zPA, zPZ, zPS]))
  (refine zTK 5 (oi := ?_) (v := ?_) ?_ ?_ (Or.inl ⟨?_, ?_⟩) ?_; rotate_left 2; (focus (simp only [zGA, zGZ, zGS] <;> rfl)); (focus (exact fun _ _ _ => last_panic (fun h => h))); (focus rfl); (focus (intro w hSw; (try dsimp only at hSw); go_simp; (try with_reducible rfl); done)); (try simp only [Act.put, zPA, zPZ, zPS]))
  (refine zTK 6 (oi := ?_) (v := ?_) ?_ ?_ (Or.inl ⟨?_, ?_⟩) ?_; rotate_left 2; (focus (simp only [zGA, zGZ, zGS] <;> rfl)); (focus (exact fun _ _ _ => last_panic (fun h => h))); (focus rfl); (focus (intro w hSw; (try dsimp only at hSw); go_simp; (try with_reducible rfl); done)); (try simp only [Act.put, zPA, zPZ, zPS]))
  (refine zTK 7 (oi := ?_) (v := ?_) ?_ ?_ (Or.inl ⟨?_, ?_⟩) ?_; rotate_left 2; (focus (simp only [zGA, zGZ, zGS] <;> rfl)); (focus (exact fun _ _ _ => last_panic (fun h => h))); (focus rfl); (focus (intro w hSw; (try dsimp only at hSw); go_simp; (try with_reducible rfl); done)); (try simp only [Act.put, zPA, zPZ, zPS]))
  (refine zTK 8 (oi := ?_) (v := ?_) ?_ ?_ (Or.inl ⟨?_, ?_⟩) ?_; rotate_left 2; (focus (simp only [zGA, zGZ, zGS] <;> rfl)); (focus (exact fun _ _ _ => last_panic (fun h => h))); (focus rfl); (focus (intro w hSw; (try dsimp only at hSw); go_simp; (try with_reducible rfl); done)); (try simp only [Act.put, zPA, zPZ, zPS]))
  (refine zTK 9 (oi := ?_) (v := ?_) ?_ ?_ (Or.inl ⟨?_, ?_⟩) ?_; rotate_left 2; (focus (simp only [zGA, zGZ, zGS] <;> rfl)); (focus (exact fun _ _ _ => last_panic (fun h => h))); (focus rfl); (focus (intro w hSw; (try dsimp only at hSw); go_simp; (try with_reducible rfl); done)); (try simp only [Act.put, zPA, zPZ, zPS]))
  refine wpAnyH_ready (rs := [10]) (by kernel_rfl) (by simp) ?_
  refine AllReadyH.cons (o := ?_) ?_ ?_ ?_
  rotate_left 1
  (focus (simp only [zGA, zGZ, zGS] <;> rfl))
  · intro K hK
    go_simp
    go_at_call 70
    refine (HTK.out _ hHeld.2.2).mono ?_
    rintro e w3 ⟨A, c, rfl, hq3, hs3⟩
    dsimp only
    refine hK.out _ _ ?_ (fun hHeld => ?_)
    · exact ⟨hq3.cell hHeld.1 (fun x => x), hq3.cell hHeld.2.1 (fun x => x), hHeld.2.2.trans hq3⟩
    clear hK K
    (try simp only [Act.put, zPA, zPZ, zPS])
    refine wpAnyH_done (by kernel_rfl) ?_ _
    refine last_step (o := ?_) ?_ ?_
    rotate_left 1
    (focus (simp only [zGA, zGZ, zGS] <;> rfl))
    intro K hK
    refine wp_put (.tmp 22) (.tmp 23) (.tmp 29) rfl (HM.out.kept hHeld.2.2 (fun x => x)) Tryz.underlying84 Tryz.underlying22 rfl rfl rfl HX.out ?_
    intro w4 hm4 ho4
    refine hK.out _ _ ?_
    clear hK K
    have hm5 : MapF w4 ms (upd fs (n + 1) (some (snapV (takeS (s.L ++ [1]) (n + 1)) A c))) := hm4
    have HD : Hid (StepTo w sb o (begSt s) w4) := by
      have := storeBeg_done HH.out HO1.out HL1.out hHeld.2.2 hs3 ho4 hm5
      unfold begSt
      rw [HN.out]
      exact this
    clear hm4 hm5 ho4 hHeld hs3 hq3 HH HO1 HL1 HM HTK
    dsimp only [Act.put]
    go_wp2
    go_ret2
    rw [HP.out]
    exact ⟨rfl, HD.out⟩
  exact AllReadyH.nil

end Go.Proofs.YtaijnpgoiagboaaGreatDoor

namespace Go.Proofs.YtaijnpgoiagboaaGreatDoor
open Go.RowKit Go.Lap

/-- What open tells of a transaction that runs and a table that it sees. -/
def OpenPost (w : World) (o : Nat → Nat) (y : Snap) (t : TE) (e : Ending) (w' : World) : Prop :=
  ∃ A c A2 c2, e = .returned (.tuple #[snapV y A c, tabV t A2 c2, .int .i64 0]) ∧ Quiet w w' ∧ SnapV w' (fun k => o k = 5) A c y ∧ FreshC w w' (.slice A2 t.cols.length c2) t.cols ∧ t.cols.length ≤ c2 ∧ c2 ≤ maxLen

/-- The world that open leaves. -/
abbrev openEnd (W : World) (r6 r7 : Nat) (v0 v1 v2 v3 u0 u1 u2 u3 u4 : Value) : World := fiveSet (fourSet W r6 v0 v1 v2 v3) r7 u0 u1 u2 u3 u4

theorem openEnd_facts {W : World} {r6 r7 : Nat} {a0 a1 a2 a3 d0 d1 d2 d3 d4 : Value} {t6 t7 : TypeId} (b6 : W.heap[r6]? = some (.cells #[a0, a1, a2, a3] t6 (0, 0))) (b7 : W.heap[r7]? = some (.cells #[d0, d1, d2, d3, d4] t7 (0, 0))) (hne : r6 ≠ r7) (v0 v1 v2 v3 u0 u1 u2 u3 u4 : Value) :
    (openEnd W r6 r7 v0 v1 v2 v3 u0 u1 u2 u3 u4).heap[r6]? = some (.cells #[v0, v1, v2, v3] t6 (0, 0)) ∧ (openEnd W r6 r7 v0 v1 v2 v3 u0 u1 u2 u3 u4).heap[r7]? = some (.cells #[u0, u1, u2, u3, u4] t7 (0, 0)) ∧ Only (fun k => k = r6 ∨ k = r7) W (openEnd W r6 r7 v0 v1 v2 v3 u0 u1 u2 u3 u4) := by
  unfold openEnd
  have h1 := fourSet_same b6 v0 v1 v2 v3
  have o1 := fourSet_only W r6 v0 v1 v2 v3
  have h2 := o1.get b7 (fun e => hne e.symm)
  generalize fourSet W r6 v0 v1 v2 v3 = W1 at *
  have h3 := fiveSet_same h2 u0 u1 u2 u3 u4
  have o2 := fiveSet_only W1 r7 u0 u1 u2 u3 u4
  have h4 := o2.get h1 hne
  exact ⟨h4, h3, (o1.mono (fun k _ e => Or.inl e)).trans' o2 (fun k _ e => Or.inr e)⟩

theorem open_done {w W F : World} {r6 r7 c A5c : Nat} {o : Nat → Nat} {y : Snap} {t : TE} {A A5 : Option Addr} (hr6 : w.heap.size = r6) (hr7 : r6 + 1 = r7) (hq : Quiet w W) (ho : Only (fun k => k = r6 ∨ k = r7) W F) (hs : SnapV W (fun k => o k = 5) A c y) (hbig : ∀ k, w.heap.size ≤ k → o k = 0)
    (hfr : W.ownsRow 0 116 2 (.slice A5 t.cols.length A5c) t.cols.length (colsV t.cols)) (hfn : ∀ k, (Value.slice A5 t.cols.length A5c).ownBlock = some k → r7 < k) (hc5 : t.cols.length ≤ A5c) (hm5 : A5c ≤ maxLen) :
    OpenPost w o y t (.returned (.tuple #[snapV y A c, tabV t A5 A5c, .int .i64 0])) F.drew := by
  have hqF : Quiet w F.drew := (hq.trans' ho (fun k hk e => by rcases e with e | e <;> omega)).drew
  refine ⟨A, c, A5, A5c, rfl, hqF, (hs.kept ho (fun k hk e => ?_)).kept ((Only.refl (fun _ => False) F).drew) (fun _ _ x => x), ⟨hqF, fun k e => by have := hfn k e; omega, owns_kept (owns_kept hfr ho (fun k e1 e2 => ?_)) ((Only.refl (fun _ => False) F).drew) (fun _ _ x => x)⟩, hc5, hm5⟩
  · have := hbig k (by rcases e with e | e <;> omega)
    omega
  · have := hfn k e1
    rcases e2 with e | e <;> omega

theorem results_two_tmp {P : Program} {fn : Func} {p q r : Tmp} {ty ty2 : TypeId} (h : fn.results = #[.cell p ty, .cell q ty2, .tmp r]) (tmps : Array Value) (w : World) (g g2 : Nat) (t t2 : TypeId) (cs cs2 : Array Value) (fr fr2 : Nat × Nat) (d d2 : TypeDesc)
    (hp : tmps.getD p undef = .pointer (some ⟨g, 0, none⟩)) (hg : w.heap[g]? = some (.cells cs t fr)) (hp2 : tmps.getD q undef = .pointer (some ⟨g2, 0, none⟩)) (hg2 : w.heap[g2]? = some (.cells cs2 t2 fr2))
    (hu : P.underlying ty = some d) (hd : (match d with | .struct _ | .array _ _ => true | _ => false) = true) (hi : (P.info? ty).map (·.size) = some cs.size)
    (hu2 : P.underlying ty2 = some d2) (hd2 : (match d2 with | .struct _ | .array _ _ => true | _ => false) = true) (hi2 : (P.info? ty2).map (·.size) = some cs2.size) :
    (results fn tmps).run P w = .ok (.tuple #[.agg cs, .agg cs2, tmps.getD r undef]) w := by
  have hp' : tmps[p]?.getD undef = .pointer (some ⟨g, 0, none⟩) := by simpa using hp
  have hp2' : tmps[q]?.getD undef = .pointer (some ⟨g2, 0, none⟩) := by simpa using hp2
  simp [results, h, hp', hp2', asAddr, run_loadVar_row w g t ty cs fr d hg hu hd hi, run_loadVar_row w g2 t2 ty2 cs2 fr2 d2 hg2 hu2 hd2 hi2]

end Go.Proofs.YtaijnpgoiagboaaGreatDoor

namespace Go.Proofs.YtaijnpgoiagboaaGreatDoor
open Go.RowKit Go.Lap

theorem drew_get6 {w : World} {b : Nat} {x : Option Obj} (h : w.heap[b]? = x) : w.drew.heap[b]? = x := h

set_option maxHeartbeats 1000000 in
set_option maxRecDepth 100000 in
theorem store_open {w : World} {sb x i : Nat} {o : Nat → Nat} {s : St} {y : Snap} {t : TE} {name : ByteArray} (h : StoreAt w sb o s) (hx : U64 x) (hy : s.sn x = some y) (hf : findT s.L y name s.T = some i) (ht : s.T[i]? = some t) :
    Calls Tryz.prog 37 #[ptrV sb, .int .u64 (x : Int), .string name] w (OpenPost w o y t) := by
  have hq0 : Quiet w ((w.alloc (.cells #[.int .u64 0, .int .u64 0, .int .u64 0, .slice none 0 0] 88)).alloc (.cells #[.int .u64 0, .string ⟨#[]⟩, .slice none 0 0, .int .u64 0, .int .u64 0] 37)) := ((Only.refl _ _).alloc _).alloc _
  have HRU := Lib.hid (store_runs (h.quietly hq0) hx)
  have HQ0 := Lib.hid hq0
  have HR := Lib.hid (two_new w (.cells #[.int .u64 0, .int .u64 0, .int .u64 0, .slice none 0 0] 88) (.cells #[.int .u64 0, .string ⟨#[]⟩, .slice none 0 0, .int .u64 0, .int .u64 0] 37))
  have HN := Lib.hid (alloc_old (alloc_new w (.cells #[.int .u64 0, .int .u64 0, .int .u64 0, .slice none 0 0] 88)) (.cells #[.int .u64 0, .string ⟨#[]⟩, .slice none 0 0, .int .u64 0, .int .u64 0] 37))
  obtain ⟨lb, bb, pb, mh, mt, ms, fh, ft, fs, h⟩ := h
  have HH := Lib.hid h
  unfold RunsPost at HRU
  rw [hy] at HRU
  obtain ⟨r6, hr6⟩ : ∃ r6, w.heap.size = r6 := ⟨_, rfl⟩
  obtain ⟨r7, hr7⟩ : ∃ r7, r6 + 1 = r7 := ⟨_, rfl⟩
  rw [hr6] at HN HR
  rw [hr7] at HR
  clear hq0 h
  go_enter Tryz.func37, Tryz.ntmps37
  go_wp2_with fail
  refine HRU.out.mono ?_
  rintro e w1 ⟨hq1, A, c, rfl, hs1⟩
  clear HRU
  have hq01 : Quiet w w1 := HQ0.out.trans hq1
  have b6 := hq1.get HN.out (fun x => x)
  have b7 := hq1.get HR.out (fun x => x)
  have hq2 : Quiet w1 (w1.alloc (.cells (snapCells y A c) 88)) := (Only.refl _ _).alloc _
  have hpb := alloc_new w1 (.cells (snapCells y A c) 88)
  have l7 := lt_of_get b7
  obtain ⟨pv, hpv⟩ : ∃ pv, w1.heap.size = pv := ⟨_, rfl⟩
  have hz1 := hq01.size
  unfold snapV
  go_wp2_with fail
  rw [hpv] at hpb l7
  have hs2 := hs1.kept hq2 (fun _ _ x => x)
  have b6' := hq2.get b6 (fun x => x)
  have b7' := hq2.get b7 (fun x => x)
  have hq02 := hq01.trans hq2
  generalize w1.alloc (.cells (snapCells y A c) 88) = w2 at *
  obtain ⟨c0, c1, _⟩ := (HH.out.quietly hq02).cells
  obtain ⟨p0, p1, p2, p3⟩ : w2.cell? ⟨pv, 0, none⟩ = some (.int .u64 (y.own : Int)) ∧ w2.cell? ⟨pv, 1, none⟩ = some (.int .u64 (y.xmin : Int)) ∧ w2.cell? ⟨pv, 2, none⟩ = some (.int .u64 (y.xmax : Int)) ∧ w2.cell? ⟨pv, 3, none⟩ = some (.slice A y.run.length c) :=
    ⟨by rw [cell_of hpb]; rfl, by rw [cell_of hpb]; rfl, by rw [cell_of hpb]; rfl, by rw [cell_of hpb]; rfl⟩
  have HTB : Hid (∀ W, Quiet w2 W → Calls Tryz.prog 47 #[ptrV bb, ptrV lb, snapV y A c, .string name] W (TablePost W t)) := fun W hq => by
    have h2 := (HH.out.quietly hq02).quietly hq
    obtain ⟨vT, tps, vI, ips, hb1, _, _⟩ := h2.book
    exact book_Table name hb1 h2.log (hs2.kept hq (fun _ _ x => x)) hf ht
  have HSQ : Hid (∀ W, Quiet w2 W → (fun w' => w'.cell? ⟨sb, 1, none⟩ = some (ptrV bb) ∧ w'.cell? ⟨sb, 0, none⟩ = some (ptrV lb) ∧ w'.cell? ⟨pv, 0, none⟩ = some (.int .u64 (y.own : Int)) ∧ w'.cell? ⟨pv, 1, none⟩ = some (.int .u64 (y.xmin : Int)) ∧ w'.cell? ⟨pv, 2, none⟩ = some (.int .u64 (y.xmax : Int)) ∧ w'.cell? ⟨pv, 3, none⟩ = some (.slice A y.run.length c)) W) := fun W hq => ⟨hq.cell c1 (fun x => x), hq.cell c0 (fun x => x), hq.cell p0 (fun x => x), hq.cell p1 (fun x => x), hq.cell p2 (fun x => x), hq.cell p3 (fun x => x)⟩
  have lsb := cell_lt c0
  have lpv := cell_lt p0
  dsimp only at lsb lpv
  have HB6 := Lib.hid b6'
  have HB7 := Lib.hid b7'
  have HPV := Lib.hid hpb
  have HQ2 := Lib.hid hq02
  have HS2 := Lib.hid hs2
  unfold snapV at HTB
  clear hq1 hs1 b6 b7 hq2 hpb hq01 hs2 b6' b7' hq02 HN HR c0 c1 p0 p1 p2 p3
  refine wp_region_held_drew (S := (fun w' => w'.cell? ⟨sb, 1, none⟩ = some (ptrV bb) ∧ w'.cell? ⟨sb, 0, none⟩ = some (ptrV lb) ∧ w'.cell? ⟨pv, 0, none⟩ = some (.int .u64 (y.own : Int)) ∧ w'.cell? ⟨pv, 1, none⟩ = some (.int .u64 (y.xmin : Int)) ∧ w'.cell? ⟨pv, 2, none⟩ = some (.int .u64 (y.xmax : Int)) ∧ w'.cell? ⟨pv, 3, none⟩ = some (.slice A y.run.length c))) (by kernel_rfl) (HSQ.out _ ((Only.refl _ _).drew)) (fun hHeld => ?_)
  simp only [List.size_toArray, List.length_cons, List.length_nil, Nat.reduceAdd]
  (refine zTK 0 (oi := ?_) (v := ?_) ?_ ?_ (Or.inl ⟨?_, ?_⟩) ?_; rotate_left 2; (focus (simp only [zGA, zGZ, zGS] <;> rfl)); (focus (exact fun _ _ _ h => h)); (focus rfl); (focus (intro w hSw; (try dsimp only at hSw); go_simp; (try with_reducible rfl); done)); (try simp only [Act.put, zPA, zPZ, zPS]))
  (refine zTK 1 (oi := ?_) (v := ?_) ?_ ?_ (Or.inl ⟨?_, ?_⟩) ?_; rotate_left 2; (focus (simp only [zGA, zGZ, zGS] <;> rfl)); (focus (exact fun _ _ _ h => h)); (focus rfl); (focus (intro w hSw; (try dsimp only at hSw); go_simp; (try with_reducible rfl); done)); (try simp only [Act.put, zPA, zPZ, zPS]))
  (refine zTK 2 (oi := ?_) (v := ?_) ?_ ?_ (Or.inl ⟨?_, ?_⟩) ?_; rotate_left 2; (focus (simp only [zGA, zGZ, zGS] <;> rfl)); (focus (exact fun _ _ _ h => h)); (focus rfl); (focus (intro w hSw; (try dsimp only at hSw); go_simp; (try with_reducible rfl); done)); (try simp only [Act.put, zPA, zPZ, zPS]))
  (refine zTK 3 (oi := ?_) (v := ?_) ?_ ?_ (Or.inl ⟨?_, ?_⟩) ?_; rotate_left 2; (focus (simp only [zGA, zGZ, zGS] <;> rfl)); (focus (exact fun _ _ _ h => h)); (focus rfl); (focus (intro w hSw; (try dsimp only at hSw); go_simp; (try with_reducible rfl); done)); (try simp only [Act.put, zPA, zPZ, zPS]))
  (refine zTK 4 (oi := ?_) (v := ?_) ?_ ?_ (Or.inl ⟨?_, ?_⟩) ?_; rotate_left 2; (focus (simp only [zGA, zGZ, zGS] <;> rfl)); (focus (exact fun _ _ _ h => h)); (focus rfl); (focus (intro w hSw; (try dsimp only at hSw); go_simp; (try with_reducible rfl); done)); (try simp only [Act.put, zPA, zPZ, zPS]))
  (refine zTK 5 (oi := ?_) (v := ?_) ?_ ?_ (Or.inl ⟨?_, ?_⟩) ?_; rotate_left 2; (focus (simp only [zGA, zGZ, zGS] <;> rfl)); (focus (exact fun _ _ _ h => h)); (focus rfl); (focus (intro w hSw; (try dsimp only at hSw); go_simp; (try with_reducible rfl); done)); (try simp only [Act.put, zPA, zPZ, zPS]))
  (refine zTK 6 (oi := ?_) (v := ?_) ?_ ?_ (Or.inl ⟨?_, ?_⟩) ?_; rotate_left 2; (focus (simp only [zGA, zGZ, zGS] <;> rfl)); (focus (exact fun _ _ _ h => h)); (focus rfl); (focus (intro w hSw; (try dsimp only at hSw); go_simp; (try with_reducible rfl); done)); (try simp only [Act.put, zPA, zPZ, zPS]))
  (refine zTK 7 (oi := ?_) (v := ?_) ?_ ?_ (Or.inl ⟨?_, ?_⟩) ?_; rotate_left 2; (focus (simp only [zGA, zGZ, zGS] <;> rfl)); (focus (exact fun _ _ _ h => h)); (focus rfl); (focus (intro w hSw; (try dsimp only at hSw); go_simp; (try with_reducible rfl); done)); (try simp only [Act.put, zPA, zPZ, zPS]))
  (refine zTK 8 (oi := ?_) (v := ?_) ?_ ?_ (Or.inl ⟨?_, ?_⟩) ?_; rotate_left 2; (focus (simp only [zGA, zGZ, zGS] <;> rfl)); (focus (exact fun _ _ _ h => h)); (focus rfl); (focus (intro w hSw; (try dsimp only at hSw); go_simp; (try with_reducible rfl); done)); (try simp only [Act.put, zPA, zPZ, zPS]))
  (refine zTK 9 (oi := ?_) (v := ?_) ?_ ?_ (Or.inl ⟨?_, ?_⟩) ?_; rotate_left 2; (focus (simp only [zGA, zGZ, zGS] <;> rfl)); (focus (exact fun _ _ _ h => h)); (focus rfl); (focus (intro w hSw; (try dsimp only at hSw); go_simp; (try with_reducible rfl); done)); (try simp only [Act.put, zPA, zPZ, zPS]))
  refine wpAnyH_ready (rs := [10, 14]) (by kernel_rfl) (by simp) ?_
  refine AllReadyH.cons (o := ?_) ?_ ?_ ?_
  rotate_left 1
  (focus (simp only [zGA, zGZ, zGS] <;> rfl))
  · intro K hK
    go_simp
    go_at_call 47
    refine (HTB.out _ ((Only.refl (fun _ => False) w2).drew)).mono ?_
    rintro e w4 ⟨A5, c5, rfl, hf5, hc5, hm5⟩
    have hq4 : Quiet w2 w4 := ((Only.refl (fun _ => False) w2).drew).trans hf5.quiet
    unfold tabV
    dsimp only
    refine hK.out _ _ ?_ (fun hHeld => ?_)
    · exact HSQ.out _ hq4
    clear hK K
    (try simp only [Act.put, zPA, zPZ, zPS])
    (refine zTK 11 (oi := ?_) (v := ?_) ?_ ?_ (Or.inl ⟨?_, ?_⟩) ?_; rotate_left 2; (focus (simp only [zGA, zGZ, zGS] <;> rfl)); (focus (exact fun _ _ _ h => h)); (focus rfl); (focus (intro w hSw; (try dsimp only at hSw); go_simp; (try with_reducible rfl); done)); (try simp only [Act.put, zPA, zPZ, zPS]))
    (refine zTK 12 (oi := ?_) (v := ?_) ?_ ?_ (Or.inl ⟨?_, ?_⟩) ?_; rotate_left 2; (focus (simp only [zGA, zGZ, zGS] <;> rfl)); (focus (exact fun _ _ _ h => h)); (focus rfl); (focus (intro w hSw; (try dsimp only at hSw); go_simp; (try with_reducible rfl); done)); (try simp only [Act.put, zPA, zPZ, zPS]))
    (refine zTK 13 (oi := ?_) (v := ?_) ?_ ?_ (Or.inl ⟨?_, ?_⟩) ?_; rotate_left 2; (focus (simp only [zGA, zGZ, zGS] <;> rfl)); (focus (exact fun _ _ _ h => h)); (focus rfl); (focus (intro w hSw; (try dsimp only at hSw); go_simp; (try with_reducible rfl); done)); (try simp only [Act.put, zPA, zPZ, zPS]))
    refine wpAnyH_ready (rs := [14]) (by kernel_rfl) (by simp) ?_
    refine AllReadyH.cons (o := ?_) ?_ ?_ AllReadyH.nil
    rotate_left 1
    (focus (simp only [zGA, zGZ, zGS] <;> rfl))
    intro K hK
    go_simp
    refine hK.out _ _ ?_ (fun hHeld => ?_)
    · exact HSQ.out _ (hq4.alloc _)
    clear hK K
    (try simp only [Act.put, zPA, zPZ, zPS])
    refine wpAnyH_ready (rs := [15]) (by kernel_rfl) (by simp) ?_
    refine AllReadyH.cons (o := ?_) ?_ ?_ AllReadyH.nil
    rotate_left 1
    (focus (simp only [zGA, zGZ, zGS] <;> rfl))
    intro K hK
    go_simp
    refine hK.out _ _ ?_ (fun hHeld => ?_)
    · exact HSQ.out _ ((hq4.alloc _))
    clear hK K
    (try simp only [Act.put, zPA, zPZ, zPS])
    (refine zTK 16 (oi := ?_) (v := ?_) ?_ ?_ (Or.inl ⟨?_, ?_⟩) ?_; rotate_left 2; (focus (simp only [zGA, zGZ, zGS] <;> rfl)); (focus (exact fun _ _ _ h => h)); (focus rfl); (focus (intro w hSw; (try dsimp only at hSw); go_simp; (try with_reducible rfl); done)); (try simp only [Act.put, zPA, zPZ, zPS]))
    refine wpAnyH_done (by kernel_rfl) ?_ _
    have hW : Quiet w2 (w4.alloc (.cells #[.int .u64 (t.id : Int), .string t.name, .slice A5 t.cols.length c5, .int .u64 (t.xmin : Int), .int .u64 (t.xmax : Int)] 37)) := hq4.alloc _
    have hbt := alloc_new w4 (.cells #[.int .u64 (t.id : Int), .string t.name, .slice A5 t.cols.length c5, .int .u64 (t.xmin : Int), .int .u64 (t.xmax : Int)] 37)
    have hfn : ∀ k, (Value.slice A5 t.cols.length c5).ownBlock = some k → w2.heap.size ≤ k := hf5.new
    have hown := owns_kept hf5.own ((Only.refl (fun _ => False) w4).alloc (.cells #[.int .u64 (t.id : Int), .string t.name, .slice A5 t.cols.length c5, .int .u64 (t.xmin : Int), .int .u64 (t.xmax : Int)] 37)) (fun _ _ x => x)
    have hpt : w2.heap.size ≤ w4.heap.size := hq4.size
    obtain ⟨pt, hpt2⟩ : ∃ pt, w4.heap.size = pt := ⟨_, rfl⟩
    rw [hpt2] at hbt hpt ⊢
    clear hf5
    generalize w4.alloc (.cells #[.int .u64 (t.id : Int), .string t.name, .slice A5 t.cols.length c5, .int .u64 (t.xmin : Int), .int .u64 (t.xmax : Int)] 37) = W at *
    have b6 := hW.get HB6.out (fun x => x)
    have b7 := hW.get HB7.out (fun x => x)
    have bp := hW.get HPV.out (fun x => x)
    have x0 := cell_of b6 0
    have x1 := cell_of b6 1
    have x2 := cell_of b6 2
    have x3 := cell_of b6 3
    have y0 := cell_of b7 0
    have y1 := cell_of b7 1
    have y2 := cell_of b7 2
    have y3 := cell_of b7 3
    have y4 := cell_of b7 4
    have u0 := cell_of bp 0
    have u1 := cell_of bp 1
    have u2 := cell_of bp 2
    have u3 := cell_of bp 3
    have z0 := cell_of hbt 0
    have z1 := cell_of hbt 1
    have z2 := cell_of hbt 2
    have z3 := cell_of hbt 3
    have z4 := cell_of hbt 4
    have fx := fun o => frozen_of b6 o
    have fy := fun o => frozen_of b7 o
    simp only [zGA, zGS, zGZ] at x0 x1 x2 x3 y0 y1 y2 y3 y4 u0 u1 u2 u3 z0 z1 z2 z3 z4
    have hne : r6 ≠ r7 := by omega
    have hn6 : r6 ≠ pt := by omega
    have hn7 : r7 ≠ pt := by omega
    have hn8 : r6 ≠ pv := by omega
    have hn9 : r7 ≠ pv := by omega
    obtain ⟨X6, X7, hO⟩ := openEnd_facts b6 b7 hne (.int .u64 (y.own : Int)) (.int .u64 (y.xmin : Int)) (.int .u64 (y.xmax : Int)) (.slice A y.run.length c) (.int .u64 (t.id : Int)) (.string t.name) (.slice A5 t.cols.length c5) (.int .u64 (t.xmin : Int)) (.int .u64 (t.xmax : Int))
    have HOUT := Lib.hid (open_done hr6 hr7 (HQ2.out.trans hW) hO (HS2.out.kept hW (fun _ _ x => x)) HH.out.big hown (fun k e => by have := hfn k e; omega) hc5 hm5)
    have HX6 : Hid ((openEnd W r6 r7 (.int .u64 (y.own : Int)) (.int .u64 (y.xmin : Int)) (.int .u64 (y.xmax : Int)) (.slice A y.run.length c) (.int .u64 (t.id : Int)) (.string t.name) (.slice A5 t.cols.length c5) (.int .u64 (t.xmin : Int)) (.int .u64 (t.xmax : Int))).drew.heap[r6]? = some (.cells (snapCells y A c) 88 (0, 0))) := drew_get6 X6
    have HX7 : Hid ((openEnd W r6 r7 (.int .u64 (y.own : Int)) (.int .u64 (y.xmin : Int)) (.int .u64 (y.xmax : Int)) (.slice A y.run.length c) (.int .u64 (t.id : Int)) (.string t.name) (.slice A5 t.cols.length c5) (.int .u64 (t.xmin : Int)) (.int .u64 (t.xmax : Int))).drew.heap[r7]? = some (.cells #[.int .u64 (t.id : Int), .string t.name, .slice A5 t.cols.length c5, .int .u64 (t.xmin : Int), .int .u64 (t.xmax : Int)] 37 (0, 0))) := drew_get6 X7
    unfold openEnd fiveSet fourSet at HX6 HX7 HOUT
    clear X6 X7 hO b6 b7 bp hbt hown hW HB6 HB7 HPV HQ2 HS2 HSQ HTB hHeld hr6 hr7 HH
    go_wp2_with fail
    go_region
    go_wp2
    generalize (((((((((W.setCell ⟨r6, 0, none⟩ (.int .u64 (y.own : Int))).setCell ⟨r6, 1, none⟩ (.int .u64 (y.xmin : Int))).setCell ⟨r6, 2, none⟩ (.int .u64 (y.xmax : Int))).setCell ⟨r6, 3, none⟩ (.slice A y.run.length c)).setCell ⟨r7, 0, none⟩ (.int .u64 (t.id : Int))).setCell ⟨r7, 1, none⟩ (.string t.name)).setCell ⟨r7, 2, none⟩ (.slice A5 t.cols.length c5)).setCell ⟨r7, 3, none⟩ (.int .u64 (t.xmin : Int))).setCell ⟨r7, 4, none⟩ (.int .u64 (t.xmax : Int))).drew = WF at HX6 HX7 HOUT ⊢
    exact bodyPost_ret (results_two_tmp Tryz.results37 _ _ r6 r7 _ _ _ _ (0, 0) (0, 0) _ _ (by rfl) HX6.out (by rfl) HX7.out Tryz.underlying88 rfl info_snap Tryz.underlying37 rfl info_tab) (by rfl) HOUT.out
  refine AllReadyH.cons (o := ?_) ?_ ?_ ?_
  rotate_left 1
  (focus (simp only [zGA, zGZ, zGS] <;> rfl))
  · intro K hK
    go_simp
    refine hK.out _ _ ?_ (fun hHeld => ?_)
    · exact HSQ.out _ ((Only.refl (fun _ => False) w2).drew.alloc _)
    clear hK K
    (try simp only [Act.put, zPA, zPZ, zPS])
    refine wpAnyH_ready (rs := [10]) (by kernel_rfl) (by simp) ?_
    refine AllReadyH.cons (o := ?_) ?_ ?_ AllReadyH.nil
    rotate_left 1
    (focus (simp only [zGA, zGZ, zGS] <;> rfl))
    intro K hK
    go_simp
    go_at_call 47
    refine (HTB.out _ ((Only.refl (fun _ => False) w2).drew.alloc _)).mono ?_
    rintro e w4 ⟨A5, c5, rfl, hf5, hc5, hm5⟩
    have hq4 : Quiet w2 w4 := ((Only.refl (fun _ => False) w2).drew.alloc _).trans hf5.quiet
    have hb4 : w4.heap[w2.heap.size]? = some (.cells #[.int .u64 0, .string ⟨#[]⟩, .slice none 0 0, .int .u64 0, .int .u64 0] 37 (0, 0)) := hf5.quiet.get (alloc_new w2.drew (.cells #[.int .u64 0, .string ⟨#[]⟩, .slice none 0 0, .int .u64 0, .int .u64 0] 37)) (fun x => x)
    have z0 := cell_of hb4 0
    have z1 := cell_of hb4 1
    have z2 := cell_of hb4 2
    have z3 := cell_of hb4 3
    have z4 := cell_of hb4 4
    have zf := fun o => frozen_of hb4 o
    simp only [zGA, zGS, zGZ] at z0 z1 z2 z3 z4
    unfold tabV
    dsimp only
    refine hK.out _ _ ?_ (fun hHeld => ?_)
    · exact HSQ.out _ hq4
    clear hK K
    (try simp only [Act.put, zPA, zPZ, zPS])
    (refine zTK 11 (oi := ?_) (v := ?_) ?_ ?_ (Or.inl ⟨?_, ?_⟩) ?_; rotate_left 2; (focus (simp only [zGA, zGZ, zGS] <;> rfl)); (focus (exact fun _ _ _ h => h)); (focus rfl); (focus (intro w hSw; (try dsimp only at hSw); go_simp; (try with_reducible rfl); done)); (try simp only [Act.put, zPA, zPZ, zPS]))
    (refine zTK 12 (oi := ?_) (v := ?_) ?_ ?_ (Or.inl ⟨?_, ?_⟩) ?_; rotate_left 2; (focus (simp only [zGA, zGZ, zGS] <;> rfl)); (focus (exact fun _ _ _ h => h)); (focus rfl); (focus (intro w hSw; (try dsimp only at hSw); go_simp; (try with_reducible rfl); done)); (try simp only [Act.put, zPA, zPZ, zPS]))
    (refine zTK 13 (oi := ?_) (v := ?_) ?_ ?_ (Or.inl ⟨?_, ?_⟩) ?_; rotate_left 2; (focus (simp only [zGA, zGZ, zGS] <;> rfl)); (focus (exact fun _ _ _ h => h)); (focus rfl); (focus (intro w hSw; (try dsimp only at hSw); go_simp; (try with_reducible rfl); done)); (try simp only [Act.put, zPA, zPZ, zPS]))
    refine wpAnyH_ready (rs := [15]) (by kernel_rfl) (by simp) ?_
    refine AllReadyH.cons (o := ?_) ?_ ?_ AllReadyH.nil
    rotate_left 1
    (focus (simp only [zGA, zGZ, zGS] <;> rfl))
    intro K hK
    go_simp
    refine hK.out _ _ ?_ (fun hHeld => ?_)
    · exact HSQ.out _ (hq4.trans' (fiveSet_only w4 w2.heap.size (.int .u64 (t.id : Int)) (.string t.name) (.slice A5 t.cols.length c5) (.int .u64 (t.xmin : Int)) (.int .u64 (t.xmax : Int))) (fun k hk e => by omega))
    clear hK K
    (try simp only [Act.put, zPA, zPZ, zPS])
    (refine zTK 16 (oi := ?_) (v := ?_) ?_ ?_ (Or.inl ⟨?_, ?_⟩) ?_; rotate_left 2; (focus (simp only [zGA, zGZ, zGS] <;> rfl)); (focus (exact fun _ _ _ h => h)); (focus rfl); (focus (intro w hSw; (try dsimp only at hSw); go_simp; (try with_reducible rfl); done)); (try simp only [Act.put, zPA, zPZ, zPS]))
    refine wpAnyH_done (by kernel_rfl) ?_ _
    have hO4 := fiveSet_only w4 w2.heap.size (.int .u64 (t.id : Int)) (.string t.name) (.slice A5 t.cols.length c5) (.int .u64 (t.xmin : Int)) (.int .u64 (t.xmax : Int))
    have hW : Quiet w2 (fiveSet w4 w2.heap.size (.int .u64 (t.id : Int)) (.string t.name) (.slice A5 t.cols.length c5) (.int .u64 (t.xmin : Int)) (.int .u64 (t.xmax : Int))) := hq4.trans' hO4 (fun k hk e => by omega)
    have hbt := fiveSet_same hb4 (.int .u64 (t.id : Int)) (.string t.name) (.slice A5 t.cols.length c5) (.int .u64 (t.xmin : Int)) (.int .u64 (t.xmax : Int))
    have hfn' : ∀ k, (Value.slice A5 t.cols.length c5).ownBlock = some k → w2.heap.size < k := fun k e => by have := hf5.new k e; rw [World.size_alloc] at this; exact this
    have hfn : ∀ k, (Value.slice A5 t.cols.length c5).ownBlock = some k → w2.heap.size ≤ k := fun k e => Nat.le_of_lt (hfn' k e)
    have hown := owns_kept hf5.own hO4 (fun k e1 e2 => by have := hfn' k e1; omega)
    unfold fiveSet at hW hbt hown hO4
    clear hf5 hfn' hb4 hO4 z0 z1 z2 z3 z4 zf
    have hpt : w2.heap.size ≤ w2.heap.size := Nat.le_refl _
    obtain ⟨pt, hpt2⟩ : ∃ pt, w2.heap.size = pt := ⟨_, rfl⟩
    generalize ((((w4.setCell ⟨w2.heap.size, 0, none⟩ (.int .u64 (t.id : Int))).setCell ⟨w2.heap.size, 1, none⟩ (.string t.name)).setCell ⟨w2.heap.size, 2, none⟩ (.slice A5 t.cols.length c5)).setCell ⟨w2.heap.size, 3, none⟩ (.int .u64 (t.xmin : Int))).setCell ⟨w2.heap.size, 4, none⟩ (.int .u64 (t.xmax : Int)) = W at *
    rw [hpt2] at hbt ⊢
    have b6 := hW.get HB6.out (fun x => x)
    have b7 := hW.get HB7.out (fun x => x)
    have bp := hW.get HPV.out (fun x => x)
    have x0 := cell_of b6 0
    have x1 := cell_of b6 1
    have x2 := cell_of b6 2
    have x3 := cell_of b6 3
    have y0 := cell_of b7 0
    have y1 := cell_of b7 1
    have y2 := cell_of b7 2
    have y3 := cell_of b7 3
    have y4 := cell_of b7 4
    have u0 := cell_of bp 0
    have u1 := cell_of bp 1
    have u2 := cell_of bp 2
    have u3 := cell_of bp 3
    have z0 := cell_of hbt 0
    have z1 := cell_of hbt 1
    have z2 := cell_of hbt 2
    have z3 := cell_of hbt 3
    have z4 := cell_of hbt 4
    have fx := fun o => frozen_of b6 o
    have fy := fun o => frozen_of b7 o
    simp only [zGA, zGS, zGZ] at x0 x1 x2 x3 y0 y1 y2 y3 y4 u0 u1 u2 u3 z0 z1 z2 z3 z4
    have hne : r6 ≠ r7 := by omega
    have hn6 : r6 ≠ pt := by omega
    have hn7 : r7 ≠ pt := by omega
    have hn8 : r6 ≠ pv := by omega
    have hn9 : r7 ≠ pv := by omega
    obtain ⟨X6, X7, hO⟩ := openEnd_facts b6 b7 hne (.int .u64 (y.own : Int)) (.int .u64 (y.xmin : Int)) (.int .u64 (y.xmax : Int)) (.slice A y.run.length c) (.int .u64 (t.id : Int)) (.string t.name) (.slice A5 t.cols.length c5) (.int .u64 (t.xmin : Int)) (.int .u64 (t.xmax : Int))
    have HOUT := Lib.hid (open_done hr6 hr7 (HQ2.out.trans hW) hO (HS2.out.kept hW (fun _ _ x => x)) HH.out.big hown (fun k e => by have := hfn k e; omega) hc5 hm5)
    have HX6 : Hid ((openEnd W r6 r7 (.int .u64 (y.own : Int)) (.int .u64 (y.xmin : Int)) (.int .u64 (y.xmax : Int)) (.slice A y.run.length c) (.int .u64 (t.id : Int)) (.string t.name) (.slice A5 t.cols.length c5) (.int .u64 (t.xmin : Int)) (.int .u64 (t.xmax : Int))).drew.heap[r6]? = some (.cells (snapCells y A c) 88 (0, 0))) := drew_get6 X6
    have HX7 : Hid ((openEnd W r6 r7 (.int .u64 (y.own : Int)) (.int .u64 (y.xmin : Int)) (.int .u64 (y.xmax : Int)) (.slice A y.run.length c) (.int .u64 (t.id : Int)) (.string t.name) (.slice A5 t.cols.length c5) (.int .u64 (t.xmin : Int)) (.int .u64 (t.xmax : Int))).drew.heap[r7]? = some (.cells #[.int .u64 (t.id : Int), .string t.name, .slice A5 t.cols.length c5, .int .u64 (t.xmin : Int), .int .u64 (t.xmax : Int)] 37 (0, 0))) := drew_get6 X7
    unfold openEnd fiveSet fourSet at HX6 HX7 HOUT
    clear X6 X7 hO b6 b7 bp hbt hown hW HB6 HB7 HPV HQ2 HS2 HSQ HTB hHeld hr6 hr7 HH
    go_wp2_with fail
    go_region
    go_wp2
    generalize (((((((((W.setCell ⟨r6, 0, none⟩ (.int .u64 (y.own : Int))).setCell ⟨r6, 1, none⟩ (.int .u64 (y.xmin : Int))).setCell ⟨r6, 2, none⟩ (.int .u64 (y.xmax : Int))).setCell ⟨r6, 3, none⟩ (.slice A y.run.length c)).setCell ⟨r7, 0, none⟩ (.int .u64 (t.id : Int))).setCell ⟨r7, 1, none⟩ (.string t.name)).setCell ⟨r7, 2, none⟩ (.slice A5 t.cols.length c5)).setCell ⟨r7, 3, none⟩ (.int .u64 (t.xmin : Int))).setCell ⟨r7, 4, none⟩ (.int .u64 (t.xmax : Int))).drew = WF at HX6 HX7 HOUT ⊢
    exact bodyPost_ret (results_two_tmp Tryz.results37 _ _ r6 r7 _ _ _ _ (0, 0) (0, 0) _ _ (by rfl) HX6.out (by rfl) HX7.out Tryz.underlying88 rfl info_snap Tryz.underlying37 rfl info_tab) (by rfl) HOUT.out
  exact AllReadyH.nil

end Go.Proofs.YtaijnpgoiagboaaGreatDoor

namespace Go.Proofs.YtaijnpgoiagboaaGreatDoor
open Go.RowKit Go.Lap

theorem elem_kind : Elem Tryz.prog 126 71 1 1 := Elem.mk' (.int .u8 0) Tryz.underlying126 (by kernel_rfl) rfl (by decide)

/-- New kinds. -/
structure FreshK (w w' : World) (v : Value) (k : Nat) : Prop where
  quiet : Quiet w w'
  new : ∀ j, v.ownBlock = some j → w.heap.size ≤ j
  own : w'.ownsRow 0 71 1 v 1 [.int .u8 (k : Int)]

def KindsPost (w : World) (k : Nat) (e : Ending) (w' : World) : Prop := ∃ v, e = .returned v ∧ FreshK w w' v k

set_option maxHeartbeats 1000000 in
set_option maxRecDepth 100000 in
theorem store_kinds {w : World} {S : Nat → Prop} {t : TE} {nm : ByteArray} {kd c : Nat} {A : Option Addr} (ht : t.cols = [(nm, kd)]) (hr : Rd w S 2 A 1 (colsV [(nm, kd)])) (hc : 1 ≤ c) (hm : c ≤ maxLen) :
    Calls Tryz.prog 60 #[tabV t A c] w (KindsPost w kd) := by
  obtain ⟨b, off, rfl, _, hcs⟩ := hr.at_ (k := 0) (by omega) (by omega)
  obtain ⟨u0, h0, c0⟩ := hcs 0 (by omega)
  obtain ⟨u1, h1, c1⟩ := hcs 1 (by omega)
  obtain rfl : Value.string nm = u0 := Option.some.inj h0
  obtain rfl : Value.int .u8 (kd : Int) = u1 := Option.some.inj h1
  simp only [Nat.zero_mul, Nat.add_zero, Nat.zero_add] at c0 c1
  have l0 := cell_lt c0
  dsimp only at l0
  unfold maxLen at hm
  unfold tabV
  rw [ht]
  show Calls Tryz.prog 60 #[.agg #[.int .u64 (t.id : Int), .string t.name, .slice (some ⟨b, off, none⟩) 1 c, .int .u64 (t.xmin : Int), .int .u64 (t.xmax : Int)]] w (KindsPost w kd)
  have HRD : Hid (∀ W : World, Rd (W.alloc (.cells #[.int .u8 (kd : Int)] 71)) (fun _ => True) 1 (some ⟨W.heap.size, 0, none⟩) 1 [.int .u8 (kd : Int)]) := fun W => Rd.new W 1 1 [.int .u8 (kd : Int)] _ _ rfl trivial
  have HONE : Hid (∀ u ∈ [Value.int .u8 (kd : Int)], u.oneCell' = true) := fun u hu => by simp only [List.mem_singleton] at hu; subst hu; rfl
  have HQ : Hid (Quiet w ((w.alloc (.cells #[.int .u64 (t.id : Int), .string t.name, .slice (some ⟨b, off, none⟩) 1 c, .int .u64 (t.xmin : Int), .int .u64 (t.xmax : Int)] 37)).alloc (.cells #[.string nm, .int .u8 (kd : Int)] 116))) := ((Only.refl _ _).alloc _).alloc _
  have HRD2 := Lib.hid (HRD.out ((w.alloc (.cells #[.int .u64 (t.id : Int), .string t.name, .slice (some ⟨b, off, none⟩) 1 c, .int .u64 (t.xmin : Int), .int .u64 (t.xmax : Int)] 37)).alloc (.cells #[.string nm, .int .u8 (kd : Int)] 116)))
  simp only [World.size_alloc] at HRD2
  clear hr hcs h0 h1 HRD ht
  go_enter Tryz.func60, Tryz.ntmps60
  go_wp2
  refine wp_loop_rounds 2 ?_
  rw [rounds_succ]
  go_wp2_with (at_builtin; refine app elem_kind rfl (.tmp 13) (.tmp 16) rfl rfl (World.ownsRow_nil _ _ _ _) rfl HRD2.out HONE.out (by unfold maxLen; omega) (by omega) ?_)
  intro v4 w4 hg4
  have HF : Hid (FreshK w w4 v4 kd) := by
    refine ⟨(HQ.out.alloc _).trans' hg4.only (fun k hk e => by cases e), fun k e => ?_, hg4.own⟩
    rcases hg4.loc with y | y
    · rw [y] at e; cases e
    · rw [y] at e; injection e with e; simp only [World.size_alloc] at e; omega
  clear hg4 HRD2 HONE HQ c0 c1 l0
  go_wp2
  rw [rounds_succ]
  go_wp2
  go_ret
  exact ⟨v4, rfl, HF.out⟩

end Go.Proofs.YtaijnpgoiagboaaGreatDoor

namespace Go.Proofs.YtaijnpgoiagboaaGreatDoor
open Go.RowKit Go.Lap

/-- The places of the first k pages. -/
def placesH (H : List (List (Option Tup))) : Nat → List (Int × Int)
  | 0 => []
  | k + 1 => placesH H k ++ placesTo (k : Int) (H.getD k []) (H.getD k []).length

theorem TidsW.join {w wr w4 : World} {v v' : Value} {l m : List (Int × Int)} (h : TidsW w wr v l) (hg : Grew wr w4 50 2 v v' (l.length + m.length) (tidsV l ++ tidsV m)) : TidsW w w4 v' (l ++ m) := by
  have hsz := h.quiet.size
  refine ⟨h.quiet.trans' hg.only (fun k hk e => by have := h.own k e; omega), ?_, fun k e => ?_⟩
  · unfold TidsAt
    rw [List.length_append, tidsV_append]
    exact hg.own
  · rcases hg.loc with x | x
    · rw [x] at e; exact h.own k e
    · rw [x] at e; injection e with e; omega

theorem zero_heapP (w : World) : (zeroValue 108).run Tryz.prog w = .ok (.pointer none) w := by kernel_rfl

set_option maxHeartbeats 1000000 in
set_option maxRecDepth 100000 in
theorem store_places {w : World} {sb id : Nat} {o : Nat → Nat} {s : St} {H : List (List (Option Tup))} (h : StoreAt w sb o s) (hid : U64 id) (hH : s.hs id = some H) (hN : ∀ k, k ≤ H.length → (placesH H k).length ≤ 1000000) :
    Calls Tryz.prog 39 #[ptrV sb, .int .u64 (id : Int)] w (ChainPost w (placesH H H.length)) := by
  obtain ⟨lb, bb, pb, mh, mt, ms, fh, ft, fs, h⟩ := h
  obtain ⟨_, _, _, c3, _⟩ := h.cells
  have lsb := cell_lt c3
  dsimp only at lsb
  obtain ⟨hb, hf, hp⟩ := h.heaps.2 id H hH
  have hlk := h.mH.lookup Tryz.underlying82 Tryz.underlying22 false (zero_heapP _) hid
  rw [hf] at hlk
  simp only [Bool.false_eq_true, if_false, Option.getD_some] at hlk
  have HP := Lib.hid hp
  have HPG := Lib.hid (heap_pages hp)
  have HNN := Lib.hid hN
  have hm : H.length ≤ 1000000 := by have := hp.most; omega
  obtain ⟨n, hn⟩ : ∃ n, H.length = n := ⟨_, rfl⟩
  have HLN := Lib.hid hn
  rw [hn] at HPG hm
  clear h hp hf hN hn
  go_enter Tryz.func39, Tryz.ntmps39
  go_wp2_with fail
  refine HPG.out.mono ?_
  rintro e w1 ⟨rfl, rfl⟩
  rw [HLN.out]
  go_wp2_with fail
  go_loopw [16, 5, 7] (fun i v _ wr => ∃ (k : Nat) (v' : Value), k ≤ n ∧ i = .int .i64 (k : Int) ∧ v = v' ∧ TidsW w wr v' (placesH H k)) (fun i _ _ _ => n - (intOf i).toNat)
  case atStart => exact ⟨0, _, Nat.zero_le _, rfl, rfl, TidsW.start (Only.refl _ _)⟩
  case round =>
    obtain ⟨k, v', hk, rfl, rfl, hW⟩ := hrel
    have HW := Lib.hid hW
    by_cases hlt : k < n
    · have hT : H[k]? = some (H.getD k []) := by rw [List.getD_eq_getElem?_getD, List.getElem?_eq_getElem (by rw [HLN.out]; exact hlt)]; rfl
      have HPL := Lib.hid (heap_plist k _ (HP.out.kept hW.quiet (fun _ _ x => x)) hT)
      have HS : Hid (placesH H (k + 1) = placesH H k ++ placesTo (k : Int) (H.getD k []) (H.getD k []).length) := rfl
      have hl1 := HNN.out (k + 1) (by rw [HLN.out]; omega)
      rw [HS.out, List.length_append] at hl1
      generalize placesTo (k : Int) (H.getD k []) (H.getD k []).length = m at HPL HS hl1
      clear hW hT
      go_wp2_with fail
      refine HPL.out.mono ?_
      rintro e w2 ⟨v2, rfl, hq2, hn2, ht2⟩
      obtain ⟨A2, c2, rfl, _, _, hrd⟩ := own_form ht2
      have HW2 := Lib.hid (HW.out.quietly hq2)
      have HRD := Lib.hid hrd
      clear hq2 hn2 ht2 hrd HW HPL
      go_wp2_with (at_builtin; refine app elem_tid rfl (.tmp 19) (.tmp 22) rfl rfl HW2.out.row rfl HRD.out (one_tids m) (by unfold maxLen; omega) (by omega) ?_)
      intro v4 w4 hg4
      have HST := Lib.hid (HW2.out.join hg4)
      rw [← HS.out] at HST
      clear hg4 HW2 HRD HS
      go_wp2
      go_roundw
      case rel => exact ⟨k + 1, _, by omega, by go_num, rfl, HST.out⟩
      case measure => simp [intOf]; omega
    · obtain rfl : k = n := by omega
      have HC : Hid (ChainPost w (placesH H H.length) (.returned u5) wr) := ⟨u5, rfl, hW.quiet, hW.own, by rw [HLN.out]; exact hW.row⟩
      clear hW HW
      go_wp2
      go_ret
      exact HC.out

end Go.Proofs.YtaijnpgoiagboaaGreatDoor

namespace Go.Lap

/-- A row as it is told: its ID, its place, its values (of one number, in a row of their own). -/
structure RowM where
  id : Nat
  pg : Int
  sl : Int
  n : Nat
  A : Option Addr
  c : Nat
instance : Inhabited RowM := ⟨⟨0, 0, 0, 0, none, 0⟩⟩
def rowE (x : RowM) : List Value := [.int .u64 (x.id : Int), .int .i64 x.pg, .int .i64 x.sl, .slice x.A 1 x.c]
def rowC (x y : RowM) : Int := if x.id < y.id then -1 else if y.id < x.id then 1 else 0
abbrev rowsV (l : List RowM) : List Value := l.flatMap rowE
/-- A row, told. -/
abbrev RowR := Nat × Int × Int × Nat
def RowM.told (x : RowM) : RowR := (x.id, x.pg, x.sl, x.n)

theorem rowE_len (x : RowM) : (rowE x).length = 4 := rfl
theorem rowE_one (x : RowM) : ∀ v ∈ rowE x, v.oneCell' = true := by
  intro v hv
  simp [rowE] at hv
  rcases hv with rfl | rfl | rfl | rfl <;> rfl

theorem rowsV_append (l m : List RowM) : rowsV (l ++ m) = rowsV l ++ rowsV m := List.flatMap_append

end Go.Lap
namespace Go.Proofs.YtaijnpgoiagboaaGreatDoor
open Go.RowKit Go.Lap

/-- The number of a row of one number. -/
def numOf (d : List Nat) : Nat := d.getD 1 0
theorem numOf_row (n : Nat) : numOf (rowI n) = n := by simp [numOf, rowI, smallN, List.range_succ]
theorem rowI_length (n : Nat) : (rowI n).length = 9 := by simp [rowI, smallN_length]

/-- What a snapshot sees of a version at a place. -/
def seenAt (H : List (List (Option Tup))) (L : List Nat) (y : Snap) (a : Int × Int) : Option RowR :=
  match hGet H a.1 a.2 with
  | some t => if visS L y t.xmin t.xmax then some (t.row, a.1, a.2, numOf t.data) else none
  | none => none
def seenR (H : List (List (Option Tup))) (L : List Nat) (y : Snap) (l : List (Int × Int)) : List RowR := l.filterMap (seenAt H L y)

theorem seenR_snoc (H : List (List (Option Tup))) (L : List Nat) (y : Snap) (l : List (Int × Int)) (a : Int × Int) : seenR H L y (l ++ [a]) = seenR H L y l ++ (seenAt H L y a).toList := by
  unfold seenR
  rw [List.filterMap_append]
  cases h : seenAt H L y a <;> simp [h]

structure GotLeaf (wb W : World) (pt : Nat) (A : Option Addr) (c : Nat) (t : Tup) : Prop where
  quiet : Quiet wb W
  box : W.heap[pt]? = some (.cells (tupCells t A c) 106 (0, 0))
  new : wb.heap.size ≤ pt
  own : W.ownsRow 0 5 1 (.slice A t.data.length c) t.data.length (bytesV t.data)
  fresh : ∀ k, (Value.slice A t.data.length c).ownBlock = some k → wb.heap.size ≤ k

theorem GotLeaf.cells {wb W : World} {pt : Nat} {A : Option Addr} {c : Nat} {t : Tup} (h : GotLeaf wb W pt A c t) : W.cell? ⟨pt, 0, none⟩ = some (.int .u64 t.row) ∧ W.cell? ⟨pt, 1, none⟩ = some (.int .u64 t.xmin) ∧ W.cell? ⟨pt, 2, none⟩ = some (.int .u64 t.xmax) ∧ W.cell? ⟨pt, 3, none⟩ = some (.int .i64 t.pg) ∧ W.cell? ⟨pt, 4, none⟩ = some (.int .i64 t.sl) ∧ W.cell? ⟨pt, 5, none⟩ = some (.slice A t.data.length c) :=
  ⟨by rw [cell_of h.box]; rfl, by rw [cell_of h.box]; rfl, by rw [cell_of h.box]; rfl, by rw [cell_of h.box]; rfl, by rw [cell_of h.box]; rfl, by rw [cell_of h.box]; rfl⟩

/-- One proof for both orders: what is left there (G) is found at the first of them. -/
theorem got_key {goal : Prop} {wb : World} {t : Tup} {G : Option Addr → Nat → Nat → World → Prop} (main : (∀ A c pt W, GotLeaf wb W pt A c t → G A c pt W) → goal) (key : ∀ A c pt W, GotLeaf wb W pt A c t → G A c pt W) : goal := main key

/-- The variable's block is stored into: the version lies there. -/
theorem got_leaf {wb w1 : World} {pt c : Nat} {A : Option Addr} {t : Tup} {c0 c1 c2 c3 c4 c5 : Value} (hq : Quiet wb w1) (hb : w1.heap[pt]? = some (.cells #[c0, c1, c2, c3, c4, c5] 106 (0, 0))) (hn : wb.heap.size ≤ pt)
    (ho : w1.ownsRow 0 5 1 (.slice A t.data.length c) t.data.length (bytesV t.data)) (hf : ∀ k, (Value.slice A t.data.length c).ownBlock = some k → wb.heap.size ≤ k) :
    GotLeaf wb (sixSet w1 pt (.int .u64 t.row) (.int .u64 t.xmin) (.int .u64 t.xmax) (.int .i64 t.pg) (.int .i64 t.sl) (.slice A t.data.length c)) pt A c t := by
  have h1 := sixSet_only w1 pt (.int .u64 t.row) (.int .u64 t.xmin) (.int .u64 t.xmax) (.int .i64 t.pg) (.int .i64 t.sl) (.slice A t.data.length c)
  refine ⟨hq.trans' h1 (fun k hk e => by omega), sixSet_same hb _ _ _ _ _ _, hn, owns_kept ho h1 (fun k e x => ?_), hf⟩
  obtain ⟨cs, hcs⟩ := own_blk ho e
  exact ne_type hcs hb (by decide) x

/-- The rows that are told, on their way. -/
structure RowsW (w wr : World) (v : Value) (M : List RowM) : Prop where
  quiet : Quiet w wr
  new : ∀ k, v.ownBlock = some k → w.heap.size ≤ k
  own : wr.ownsRow 0 52 4 v M.length (rowsV M)
  vals : ∀ m ∈ M, (∀ k, (Value.slice m.A 1 m.c).ownBlock = some k → w.heap.size ≤ k) ∧ wr.ownsRow 0 73 4 (.slice m.A 1 m.c) 1 (intRow m.n)

section
variable {w wr w' w3 w4 : World} {v v' : Value} {M : List RowM} {m : RowM}

theorem RowsW.start (h : Quiet w wr) : RowsW w wr (.slice none 0 0) [] := ⟨h, (fun k e => by cases e), World.ownsRow_nil _ _ _ _, (fun m hm => by cases hm)⟩

theorem RowsW.quietly (h : RowsW w wr v M) (hq : Quiet wr w') : RowsW w w' v M :=
  ⟨h.quiet.trans hq, h.new, owns_kept h.own hq (fun _ _ x => x), fun m hm => ⟨(h.vals m hm).1, owns_kept (h.vals m hm).2 hq (fun _ _ x => x)⟩⟩

theorem RowsW.from (h : RowsW w wr v M) {w0 : World} (hq : Quiet w0 w) : RowsW w0 wr v M :=
  ⟨hq.trans h.quiet, fun k e => Nat.le_trans hq.size (h.new k e), h.own, fun m hm => ⟨fun k e => Nat.le_trans hq.size ((h.vals m hm).1 k e), (h.vals m hm).2⟩⟩

/-- Where only the rows' own block turns the values stay. -/
theorem RowsW.valsOn (h : RowsW w wr v M) (ho : Only (fun k => v.ownBlock = some k) wr w') : ∀ m ∈ M, (∀ k, (Value.slice m.A 1 m.c).ownBlock = some k → w.heap.size ≤ k) ∧ w'.ownsRow 0 73 4 (.slice m.A 1 m.c) 1 (intRow m.n) := fun m hm =>
  ⟨(h.vals m hm).1, owns_kept (h.vals m hm).2 ho (fun k e x => by
    obtain ⟨c1, h1⟩ := own_blk (h.vals m hm).2 e
    obtain ⟨c2, h2⟩ := own_blk h.own x
    exact ne_type h1 h2 (by decide) rfl)⟩

theorem RowsW.push (h : RowsW w w3 v M) (hm : (∀ k, (Value.slice m.A 1 m.c).ownBlock = some k → w.heap.size ≤ k) ∧ w3.ownsRow 0 73 4 (.slice m.A 1 m.c) 1 (intRow m.n))
    (hg : Grew w3 w4 52 4 v v' (M.length + 1) (rowsV M ++ rowE m)) : RowsW w w4 v' (M ++ [m]) := by
  have hsz := h.quiet.size
  refine ⟨h.quiet.trans' hg.only (fun k hk e => by have := h.new k e; omega), fun k e => ?_, ?_, fun x hx => ?_⟩
  · rcases hg.loc with y | y
    · rw [y] at e; exact h.new k e
    · rw [y] at e; injection e with e; omega
  · have := hg.own
    rw [List.length_append, rowsV_append]
    have e1 : rowsV [m] = rowE m := by simp [rowsV]
    rw [e1]
    exact this
  · rcases List.mem_append.1 hx with y | y
    · exact h.valsOn hg.only x y
    · simp at y
      subst y
      exact ⟨hm.1, owns_kept hm.2 hg.only (fun k e z => by
        obtain ⟨c1, h1⟩ := own_blk hm.2 e
        obtain ⟨c2, h2⟩ := own_blk h.own z
        exact ne_type h1 h2 (by decide) rfl)⟩

theorem RowsW.sorted {M' : List RowM} (h : RowsW w wr v M) (hp : M'.Perm M) (ho : Only (fun k => v.ownBlock = some k) wr w') (hw : w'.ownsRow 0 52 4 v M.length (rowsV M')) : RowsW w w' v M' := by
  have hsz := h.quiet.size
  refine ⟨h.quiet.trans' ho (fun k hk e => by have := h.new k e; omega), h.new, ?_, fun m hm => h.valsOn ho m (hp.mem_iff.1 hm)⟩
  rw [hp.length_eq]
  exact hw
end

/-- What rows tells. -/
def RowsPost (w : World) (R : List RowR) (e : Ending) (w' : World) : Prop :=
  ∃ v M, e = .returned v ∧ RowsW w w' v M ∧ (M.map RowM.told).Perm R ∧ M.Pairwise (fun a b => a.id ≤ b.id)

theorem elem_row : Elem Tryz.prog 31 52 4 48 := Elem.mk' (.agg #[.int .u64 0, .int .i64 0, .int .i64 0, .slice none 0 0]) Tryz.underlying31 (by kernel_rfl) rfl (by decide)

end Go.Proofs.YtaijnpgoiagboaaGreatDoor

namespace Go.Lap

theorem rowLt (x y : RowM) : Go.Proofs.ltOf rowC x y = decide (x.id < y.id) := by
  unfold Go.Proofs.ltOf rowC
  rw [decide_eq_decide]
  split
  · omega
  · split <;> omega

theorem rowSwo : Go.Sort.SWO (Go.Proofs.ltOf rowC) where
  irrefl x := by rw [rowLt]; simp
  trans x y z h1 h2 := by rw [rowLt] at *; simp at *; omega
  ntrans x y z h1 h2 := by rw [rowLt] at *; simp at *; omega

end Go.Lap
namespace Go.Proofs.YtaijnpgoiagboaaGreatDoor
open Go.RowKit Go.Lap Go.Sort Go.Shelf

set_option maxRecDepth 100000 in
theorem nan_u64 (x : Nat) (w : World) : Calls Tryz.prog 136 #[.int .u64 (x : Int)] w fun e w' => e = .returned (.bool false) ∧ w = w' := by
  go_enter Tryz.func136, Tryz.ntmps136
  go_wp2
  go_ret
  exact ⟨by simp, rfl⟩

set_option maxRecDepth 100000 in
theorem compare_u64 (x y : Nat) (w : World) : Calls Tryz.prog 86 #[.int .u64 (x : Int), .int .u64 (y : Int)] w fun e w' => e = .returned (.int .i64 (if x < y then -1 else if y < x then 1 else 0)) ∧ w = w' := by
  by_cases h1 : x < y
  · rw [if_pos h1]
    go_enter Tryz.func86, Tryz.ntmps86
    go_wp2_with fail
    refine (nan_u64 _ _).mono ?_
    rintro e w1 ⟨rfl, rfl⟩
    go_wp2_with fail
    refine (nan_u64 _ _).mono ?_
    rintro e w1 ⟨rfl, rfl⟩
    go_wp2
    go_ret
    exact ⟨rfl, rfl⟩
  · rw [if_neg h1]
    by_cases h2 : y < x
    · rw [if_pos h2]
      go_enter Tryz.func86, Tryz.ntmps86
      go_wp2_with fail
      refine (nan_u64 _ _).mono ?_
      rintro e w1 ⟨rfl, rfl⟩
      go_wp2_with fail
      refine (nan_u64 _ _).mono ?_
      rintro e w1 ⟨rfl, rfl⟩
      go_wp2
      go_ret
      exact ⟨rfl, rfl⟩
    · rw [if_neg h2]
      obtain rfl : x = y := by omega
      go_enter Tryz.func86, Tryz.ntmps86
      go_wp2_with fail
      refine (nan_u64 _ _).mono ?_
      rintro e w1 ⟨rfl, rfl⟩
      go_wp2_with fail
      refine (nan_u64 _ _).mono ?_
      rintro e w1 ⟨rfl, rfl⟩
      go_wp2
      go_ret
      exact ⟨rfl, rfl⟩

set_option maxHeartbeats 1000000 in
set_option maxRecDepth 100000 in
/-- What the sort asks of two rows. -/
theorem row_cmp (x y : RowM) (W : World) : Calls Tryz.prog 85 #[.agg (rowE x).toArray, .agg (rowE y).toArray] W fun e w' => e = .returned (.int .i64 (rowC x y)) ∧ ∃ q os', w' = Go.Sort.grow (W.drewN q) os' := by
  show Calls Tryz.prog 85 #[.agg #[.int .u64 (x.id : Int), .int .i64 x.pg, .int .i64 x.sl, .slice x.A 1 x.c], .agg #[.int .u64 (y.id : Int), .int .i64 y.pg, .int .i64 y.sl, .slice y.A 1 y.c]] W fun e w' => e = .returned (.int .i64 (rowC x y)) ∧ ∃ q os', w' = Go.Sort.grow (W.drewN q) os'
  obtain ⟨z, hz⟩ : ∃ z, rowC x y = z := ⟨_, rfl⟩
  rw [hz]
  have HC : Hid (z = if x.id < y.id then -1 else if y.id < x.id then 1 else 0) := hz.symm
  clear hz
  go_enter Tryz.func85, Tryz.ntmps85
  go_wp2_with fail
  refine (compare_u64 _ _ _).mono ?_
  rintro e w1 ⟨rfl, rfl⟩
  rw [← HC.out]
  go_wp2
  go_ret
  exact ⟨rfl, 0, _, by rw [alloc_eq_grow, alloc_eq_grow, grow_grow]; rfl⟩

/-- The rows sorted. -/
theorem sort_rows (v : Value) (l : List RowM) (w : World) (hown : w.ownsRow 0 52 4 v l.length (rowsV l)) (hl : l.length < 4611686018427387904) :
    Calls Tryz.prog 84 #[v, .func (.func 85) #[] #[]] w fun e w' => e = .returned (.tuple #[]) ∧ ∃ l' : List RowM, l'.Perm l ∧ l'.Pairwise (fun a b => a.id ≤ b.id) ∧ w'.ownsRow 0 52 4 v l.length (rowsV l') ∧ Only (fun k => v.ownBlock = some k) w w' := by
  have eg : ∀ args w, (callFunc 85 args).run Tryz.prog w = .ok (.enter 85 args) w := enters_of Tryz.func85 (by kernel_rfl) rfl
  have h := sort_own Tryz.sortRows 4 Tryz.isAgg52 Tryz.sizeOf52 rowE rowE_len rowE_one rowC rowSwo 85 eg row_cmp 52 v l w hown hl
  change Calls Tryz.prog 84 _ _ _ at h
  refine h.mono ?_
  rintro e w' ⟨rfl, l', hp, hs, ho, hon⟩
  refine ⟨rfl, l', hp, hs.imp ?_, ho, hon⟩
  intro a b hab
  rw [rowLt] at hab
  have := of_decide_eq_false hab
  omega
end Go.Proofs.YtaijnpgoiagboaaGreatDoor

namespace Go.Proofs.YtaijnpgoiagboaaGreatDoor
open Go.RowKit Go.Lap

/-- The cells of a place of a row that reads. -/
theorem place_cells {w : World} {S : Nat → Prop} {A : Option Addr} {n i : Nat} {ps : List (Int × Int)} {p : Int × Int} (h : Rd w S 2 A n (tidsV ps)) (hi : ps[i]? = some p) :
    ∃ b off, A = some ⟨b, off, none⟩ ∧ S b ∧ w.cell? ⟨b, off + i * 2, none⟩ = some (.int .i64 p.1) ∧ w.cell? ⟨b, off + i * 2 + 1, none⟩ = some (.int .i64 p.2) := by
  obtain ⟨h1, h2⟩ := tidsV_get hi
  have hl := (List.getElem?_eq_some_iff.1 h1).1
  obtain ⟨b, off, e, hs, hc⟩ := h.cells (by omega)
  exact ⟨b, off, e, hs, hc _ _ h1, by have := hc _ _ h2; rw [← Nat.add_assoc] at this; exact this⟩

theorem FreshV.from9 {W w9 w10 : World} {v : Value} {n : Nat} (hq : Quiet W w9) (hf : FreshV w9 w10 v n) : FreshV W w10 v n := ⟨hq.trans hf.quiet, fun k e => Nat.le_trans hq.size (hf.new k e), hf.own⟩

theorem look_heap {W : World} {mh hb id : Nat} {fh : Nat → Option Value} (h : MapF W mh fh) (hf : fh id = some (ptrV hb)) (hid : U64 id) : (Instr.lookup 82 (.map (some mh)) (.int .u64 (id : Int)) false).run Tryz.prog W = .ok (ptrV hb) W := by
  have := h.lookup Tryz.underlying82 Tryz.underlying22 false (zero_heapP _) hid
  rw [hf] at this
  simpa using this

theorem tabBox_cells {w : World} {b c : Nat} {t : TE} {A : Option Addr} (h : w.heap[b]? = some (.cells #[.int .u64 (t.id : Int), .string t.name, .slice A t.cols.length c, .int .u64 (t.xmin : Int), .int .u64 (t.xmax : Int)] 37 (0, 0))) :
    w.cell? ⟨b, 0, none⟩ = some (.int .u64 (t.id : Int)) ∧ w.cell? ⟨b, 1, none⟩ = some (.string t.name) ∧ w.cell? ⟨b, 2, none⟩ = some (.slice A t.cols.length c) ∧ w.cell? ⟨b, 3, none⟩ = some (.int .u64 (t.xmin : Int)) ∧ w.cell? ⟨b, 4, none⟩ = some (.int .u64 (t.xmax : Int)) :=
  ⟨by rw [cell_of h]; rfl, by rw [cell_of h]; rfl, by rw [cell_of h]; rfl, by rw [cell_of h]; rfl, by rw [cell_of h]; rfl⟩

theorem seen_take {H : List (List (Option Tup))} {L : List Nat} {y : Snap} {l : List (Int × Int)} {k : Nat} {a : Int × Int} (h : l[k]? = some a) : seenR H L y (l.take (k + 1)) = seenR H L y (l.take k) ++ (seenAt H L y a).toList := by
  rw [List.take_add_one, h]
  exact seenR_snoc H L y (l.take k) a

set_option maxHeartbeats 4000000 in
set_option maxRecDepth 100000 in
theorem store_rows {w : World} {sb cy c2 c3 : Nat} {o : Nat → Nat} {s : St} {y : Snap} {t : TE} {nm : ByteArray} {Sy Sc Sl : Nat → Prop} {A A2 A3 : Option Addr} {H : List (List (Option Tup))} {l : List (Int × Int)} (h : StoreAt w sb o s) (hs : SnapV w Sy A cy y) (ht : t.cols = [(nm, 1)]) (hid : U64 t.id)
    (hr : Rd w Sc 2 A2 t.cols.length (colsV t.cols)) (hc2 : t.cols.length ≤ c2) (hm2 : c2 ≤ maxLen) (hH : s.hs t.id = some H) (hl : Rd w Sl 2 A3 l.length (tidsV l)) (hlm : l.length ≤ 1000000)
    (hg : ∀ a ∈ l, ∃ v, hGet H a.1 a.2 = some v ∧ U64 v.xmin ∧ U64 v.xmax ∧ (visS s.L y v.xmin v.xmax = true → ∃ n, n < 256 ∧ v.data = rowI n)) :
    Calls Tryz.prog 38 #[ptrV sb, snapV y A cy, tabV t A2 c2, .slice A3 l.length c3] w (RowsPost w (seenR H s.L y l)) := by
  obtain ⟨lb, bb, pb, mh, mt, ms, fh, ft, fs, h⟩ := h
  obtain ⟨hb, hf, hp⟩ := h.heaps.2 t.id H hH
  have HH := Lib.hid h
  have HP := Lib.hid hp
  have HF := Lib.hid hf
  have HS := Lib.hid hs
  have HR := Lib.hid hr
  have HLD := Lib.hid hl
  have HG := Lib.hid hg
  have HID := Lib.hid hid
  have HC2 := Lib.hid (And.intro hc2 hm2)
  have HT := Lib.hid ht
  have HQ0 : Hid (Quiet w ((w.alloc (.cells (snapCells y A cy) 88)).alloc (.cells #[.int .u64 (t.id : Int), .string t.name, .slice A2 t.cols.length c2, .int .u64 (t.xmin : Int), .int .u64 (t.xmax : Int)] 37))) := ((Only.refl _ _).alloc _).alloc _
  have HB5 := Lib.hid (alloc_old (alloc_new w (.cells (snapCells y A cy) 88)) (.cells #[.int .u64 (t.id : Int), .string t.name, .slice A2 t.cols.length c2, .int .u64 (t.xmin : Int), .int .u64 (t.xmax : Int)] 37))
  have HB6 := Lib.hid (two_new w (.cells (snapCells y A cy) 88) (.cells #[.int .u64 (t.id : Int), .string t.name, .slice A2 t.cols.length c2, .int .u64 (t.xmin : Int), .int .u64 (t.xmax : Int)] 37))
  have hsz : ((w.alloc (.cells (snapCells y A cy) 88)).alloc (.cells #[.int .u64 (t.id : Int), .string t.name, .slice A2 t.cols.length c2, .int .u64 (t.xmin : Int), .int .u64 (t.xmax : Int)] 37)).heap.size = w.heap.size + 1 + 1 := by simp
  obtain ⟨r5, hr5⟩ : ∃ r5, w.heap.size = r5 := ⟨_, rfl⟩
  obtain ⟨r6, hr6⟩ : ∃ r6, r5 + 1 = r6 := ⟨_, rfl⟩
  rw [hr5] at HB5 HB6 hsz
  rw [hr6] at HB6 hsz
  obtain ⟨n, hn⟩ : ∃ n, l.length = n := ⟨_, rfl⟩
  have HN := Lib.hid hn
  obtain ⟨POST, hPOST⟩ : ∃ POST, RowsPost w (seenR H s.L y l) = POST := ⟨_, rfl⟩
  rw [hPOST, hn]
  have HPOST := Lib.hid hPOST
  have hnm : n ≤ 1000000 := by omega
  clear h hs hr hl hg hp hf hH hc2 hm2 ht hid hlm hn hPOST
  unfold snapV tabV
  go_enter Tryz.func38, Tryz.ntmps38
  go_wp2_with fail
  (try simp only [World.size_alloc] at *)
  (try rw [hr5]); (try rw [hr6])
  generalize (w.alloc (.cells #[.int .u64 (y.own : Int), .int .u64 (y.xmin : Int), .int .u64 (y.xmax : Int), .slice A y.run.length cy] 88)).alloc (.cells #[.int .u64 (t.id : Int), .string t.name, .slice A2 t.cols.length c2, .int .u64 (t.xmin : Int), .int .u64 (t.xmax : Int)] 37) = W0 at *
  go_loopw [18, 9, 11, 12, 13, 14, 15] (fun i v _ _ _ _ _ wr => ∃ (k : Nat) (v' : Value) (M : List RowM), k ≤ n ∧ i = .int .i64 (k : Int) ∧ v = v' ∧ RowsW W0 wr v' M ∧ M.map RowM.told = seenR H s.L y (l.take k)) (fun i _ _ _ _ _ _ _ => n - (intOf i).toNat)
  case atStart => exact ⟨0, _, [], Nat.zero_le _, rfl, rfl, RowsW.start (Only.refl _ _), rfl⟩
  case round =>
    obtain ⟨k, v', M, hk, rfl, rfl, hW, hM⟩ := hrel
    have HW := Lib.hid hW
    have HM := Lib.hid hM
    clear hW hM
    by_cases hlt : k < n
    · obtain ⟨⟨pg, sl⟩, ha⟩ : ∃ a, l[k]? = some a := ⟨_, List.getElem?_eq_getElem (by have := HN.out; omega)⟩
      obtain ⟨v, hgv, hx1, hx2, hvis⟩ := HG.out (pg, sl) (List.mem_of_getElem? ha)
      have HQr : Hid (Quiet w wr) := HQ0.out.trans HW.out.quiet
      obtain ⟨bl, ofl, rfl, _, la, lb2⟩ := place_cells (HLD.out.kept HQr.out (fun _ _ x => x)) ha
      have HV1 := Lib.hid (And.intro hx1 hx2)
      have HVIS0 := Lib.hid hvis
      have HGV := Lib.hid hgv
      have HA := Lib.hid ha
      have hqb : Quiet wr (wr.alloc (.cells #[.int .i64 pg, .int .i64 sl] 50)) := (Only.refl _ _).alloc _
      have hat := alloc_new wr (.cells #[.int .i64 pg, .int .i64 sl] 50)
      obtain ⟨at_, hat_⟩ : ∃ at_, wr.heap.size = at_ := ⟨_, rfl⟩
      dsimp only at la lb2
      clear ha hgv hx1 hx2 hvis
      go_wp2_with fail
      (try rw [hat_] at hat)
      (try rw [hat_])
      generalize wr.alloc (.cells #[.int .i64 pg, .int .i64 sl] 50) = wb at *
      have HQb : Hid (Quiet w wb) := HQr.out.trans hqb
      have HWb := Lib.hid (HW.out.quietly hqb)
      have HAT := Lib.hid hat
      clear la lb2 hat hqb hat_
      have HS5 : Hid (∀ W, Quiet wb W → (fun w' => w'.cell? ⟨sb, 3, none⟩ = some (.map (some mh)) ∧ w'.cell? ⟨r6, 0, none⟩ = some (.int .u64 (t.id : Int)) ∧ w'.cell? ⟨at_, 0, none⟩ = some (.int .i64 pg) ∧ w'.cell? ⟨at_, 1, none⟩ = some (.int .i64 sl) ∧ (Instr.lookup 82 (.map (some mh)) (.int .u64 (t.id : Int)) false).run Tryz.prog w' = .ok (ptrV hb) w') W) := fun W hq => by
        have hq2 := HQb.out.trans hq
        have h2 := HH.out.quietly hq2
        have b6 := hq.get (HWb.out.quiet.get HB6.out (fun x => x)) (fun x => x)
        have b7 := hq.get HAT.out (fun x => x)
        exact ⟨h2.cells.2.2.2.1, (tabBox_cells b6).1, by rw [cell_of b7]; rfl, by rw [cell_of b7]; rfl, look_heap h2.mH HF.out HID.out⟩
      have HGET : Hid (∀ W, Quiet wb W → Calls Tryz.prog 44 #[ptrV hb, .agg #[.int .i64 pg, .int .i64 sl]] W (GetSome W v)) := fun W hq => heap_get_some pg sl v (HP.out.kept (HQb.out.trans hq) (fun _ _ x => x)) HGV.out
      apply got_key (wb := wb) (t := v)
      case main =>
            intro KEY
            refine wp_region_held_drew (S := (fun w' => w'.cell? ⟨sb, 3, none⟩ = some (.map (some mh)) ∧ w'.cell? ⟨r6, 0, none⟩ = some (.int .u64 (t.id : Int)) ∧ w'.cell? ⟨at_, 0, none⟩ = some (.int .i64 pg) ∧ w'.cell? ⟨at_, 1, none⟩ = some (.int .i64 sl) ∧ (Instr.lookup 82 (.map (some mh)) (.int .u64 (t.id : Int)) false).run Tryz.prog w' = .ok (ptrV hb) w')) (by kernel_rfl) (HS5.out _ (Only.refl _ _).drew) (fun hHeld => ?_)
            simp only [List.size_toArray, List.length_cons, List.length_nil, Nat.reduceAdd]
            have q0 : Quiet wb wb.drew := (Only.refl _ _).drew
            generalize wb.drew = d0 at q0 hHeld ⊢
            (refine zTK 0 (oi := ?_) (v := ?_) ?_ ?_ (Or.inl ⟨?_, ?_⟩) ?_; rotate_left 2; (focus (simp only [zGA, zGZ, zGS] <;> rfl)); (focus (exact fun _ _ _ h => h)); (focus rfl); (focus (intro w hSw; (try dsimp only at hSw); go_simp; (try with_reducible rfl); done)); (try simp only [Act.put, zPA, zPZ, zPS]))
            (refine zTK 1 (oi := ?_) (v := ?_) ?_ ?_ (Or.inl ⟨?_, ?_⟩) ?_; rotate_left 2; (focus (simp only [zGA, zGZ, zGS] <;> rfl)); (focus (exact fun _ _ _ h => h)); (focus rfl); (focus (intro w hSw; (try dsimp only at hSw); go_simp; (try with_reducible rfl); done)); (try simp only [Act.put, zPA, zPZ, zPS]))
            (refine zTK 2 (oi := ?_) (v := ?_) ?_ ?_ (Or.inl ⟨?_, ?_⟩) ?_; rotate_left 2; (focus (simp only [zGA, zGZ, zGS] <;> rfl)); (focus (exact fun _ _ _ h => h)); (focus rfl); (focus (intro w hSw; (try dsimp only at hSw); go_simp; (try with_reducible rfl); done)); (try simp only [Act.put, zPA, zPZ, zPS]))
            (refine zTK 3 (oi := ?_) (v := ?_) ?_ ?_ (Or.inl ⟨?_, ?_⟩) ?_; rotate_left 2; (focus (simp only [zGA, zGZ, zGS] <;> rfl)); (focus (exact fun _ _ _ h => h)); (focus rfl); (focus (intro w hSw; (try dsimp only at hSw); go_simp; (try with_reducible rfl); done)); (try simp only [Act.put, zPA, zPZ, zPS]))
            (refine zTK 4 (oi := ?_) (v := ?_) ?_ ?_ (Or.inl ⟨?_, ?_⟩) ?_; rotate_left 2; (focus (simp only [zGA, zGZ, zGS] <;> rfl)); (focus (exact fun _ _ _ h => h)); (focus rfl); (focus (intro w hSw; (try dsimp only at hSw); go_simp; (try with_reducible rfl); done)); (try simp only [Act.put, zPA, zPZ, zPS]))
            (refine zTK 5 (oi := ?_) (v := ?_) ?_ ?_ (Or.inl ⟨?_, ?_⟩) ?_; rotate_left 2; (focus (simp only [zGA, zGZ, zGS] <;> rfl)); (focus (exact fun _ _ _ h => h)); (focus rfl); (focus (intro w hSw; (try dsimp only at hSw); go_simp; (try with_reducible rfl); done)); (try simp only [Act.put, zPA, zPZ, zPS]))
            (refine zTK 6 (oi := ?_) (v := ?_) ?_ ?_ (Or.inl ⟨?_, ?_⟩) ?_; rotate_left 2; (focus (simp only [zGA, zGZ, zGS] <;> rfl)); (focus (exact fun _ _ _ h => h)); (focus rfl); (focus (intro w hSw; (try dsimp only at hSw); go_simp; (try with_reducible rfl); done)); (try simp only [Act.put, zPA, zPZ, zPS]))
            (refine zTK 7 (oi := ?_) (v := ?_) ?_ ?_ (Or.inl ⟨?_, ?_⟩) ?_; rotate_left 2; (focus (simp only [zGA, zGZ, zGS] <;> rfl)); (focus (exact fun _ _ _ h => h)); (focus rfl); (focus (intro w hSw; (try dsimp only at hSw); go_simp; (try with_reducible rfl); done)); (try simp only [Act.put, zPA, zPZ, zPS]))
            refine wpAnyH_ready (rs := [8, 12]) (by kernel_rfl) (by simp) ?_
            refine AllReadyH.cons (o := ?_) ?_ ?_ ?_
            rotate_left 1
            (focus (simp only [zGA, zGZ, zGS] <;> rfl))
            · intro K hK
              go_simp
              go_at_call 44
              refine (HGET.out _ q0).mono ?_
              rintro e d2 ⟨A4, c4, rfl, hf4⟩
              have q2 := q0.trans hf4.quiet
              have hown := hf4.own
              have hfn : ∀ k, (Value.slice A4 v.data.length c4).ownBlock = some k → wb.heap.size ≤ k := fun k e => Nat.le_trans (q0).size (hf4.new k e)
              clear hf4
              unfold tupV
              dsimp only
              refine hK.out _ _ ?_ (fun hHeld => ?_)
              · exact HS5.out _ q2
              clear hK K
              (try simp only [Act.put, zPA, zPZ, zPS])
              (refine zTK 9 (oi := ?_) (v := ?_) ?_ ?_ (Or.inl ⟨?_, ?_⟩) ?_; rotate_left 2; (focus (simp only [zGA, zGZ, zGS] <;> rfl)); (focus (exact fun _ _ _ h => h)); (focus rfl); (focus (intro w hSw; (try dsimp only at hSw); go_simp; (try with_reducible rfl); done)); (try simp only [Act.put, zPA, zPZ, zPS]))
              (refine zTK 10 (oi := ?_) (v := ?_) ?_ ?_ (Or.inl ⟨?_, ?_⟩) ?_; rotate_left 2; (focus (simp only [zGA, zGZ, zGS] <;> rfl)); (focus (exact fun _ _ _ h => h)); (focus rfl); (focus (intro w hSw; (try dsimp only at hSw); go_simp; (try with_reducible rfl); done)); (try simp only [Act.put, zPA, zPZ, zPS]))
              (refine zTK 11 (oi := ?_) (v := ?_) ?_ ?_ (Or.inl ⟨?_, ?_⟩) ?_; rotate_left 2; (focus (simp only [zGA, zGZ, zGS] <;> rfl)); (focus (exact fun _ _ _ h => h)); (focus rfl); (focus (intro w hSw; (try dsimp only at hSw); go_simp; (try with_reducible rfl); done)); (try simp only [Act.put, zPA, zPZ, zPS]))
              refine wpAnyH_ready (rs := [12]) (by kernel_rfl) (by simp) ?_
              refine AllReadyH.cons (o := ?_) ?_ ?_ AllReadyH.nil
              rotate_left 1
              (focus (simp only [zGA, zGZ, zGS] <;> rfl))
              intro K hK
              go_simp
              refine hK.out _ _ ?_ (fun hHeld => ?_)
              · exact HS5.out _ (q2.alloc _)
              clear hK K
              (try simp only [Act.put, zPA, zPZ, zPS])
              have qd3 : Quiet wb (d2.alloc (.cells #[.int .u64 0, .int .u64 0, .int .u64 0, .int .i64 0, .int .i64 0, .slice none 0 0] 106)) := q2.alloc _
              have hb1 := alloc_new d2 (.cells #[.int .u64 0, .int .u64 0, .int .u64 0, .int .i64 0, .int .i64 0, .slice none 0 0] 106)
              have hnp : wb.heap.size ≤ d2.heap.size := q2.size
              have hown := owns_kept hown ((Only.refl (fun _ => False) d2).alloc (.cells #[.int .u64 0, .int .u64 0, .int .u64 0, .int .i64 0, .int .i64 0, .slice none 0 0] 106)) (fun _ _ x => x)
              obtain ⟨pt, hpt⟩ : ∃ pt, d2.heap.size = pt := ⟨_, rfl⟩
              rw [hpt] at hb1 hnp ⊢
              generalize d2.alloc (.cells #[.int .u64 0, .int .u64 0, .int .u64 0, .int .i64 0, .int .i64 0, .slice none 0 0] 106) = d3 at *
              clear hpt
              have z0 := cell_of hb1 0
              have z1 := cell_of hb1 1
              have z2 := cell_of hb1 2
              have z3 := cell_of hb1 3
              have z4 := cell_of hb1 4
              have z5 := cell_of hb1 5
              have zf := fun o => frozen_of hb1 o
              simp only [zGA, zGS, zGZ] at z0 z1 z2 z3 z4 z5
              refine wpAnyH_ready (rs := [13]) (by kernel_rfl) (by simp) ?_
              refine AllReadyH.cons (o := ?_) ?_ ?_ AllReadyH.nil
              rotate_left 1
              (focus (simp only [zGA, zGZ, zGS] <;> rfl))
              intro K hK
              go_simp
              refine hK.out _ _ ?_ (fun hHeld => ?_)
              · exact HS5.out _ (got_leaf qd3 hb1 hnp hown hfn).quiet
              clear hK K
              (try simp only [Act.put, zPA, zPZ, zPS])
              have HG := got_leaf qd3 hb1 hnp hown hfn
              unfold sixSet at HG
              (refine zTK 14 (oi := ?_) (v := ?_) ?_ ?_ (Or.inl ⟨?_, ?_⟩) ?_; rotate_left 2; (focus (simp only [zGA, zGZ, zGS] <;> rfl)); (focus (exact fun _ _ _ h => h)); (focus rfl); (focus (intro w hSw; (try dsimp only at hSw); go_simp; (try with_reducible rfl); done)); (try simp only [Act.put, zPA, zPZ, zPS]))
              refine wpAnyH_done (by kernel_rfl) ?_ _
              generalize ((((((d3.setCell ⟨pt, 0, none⟩ (.int .u64 v.row)).setCell ⟨pt, 1, none⟩ (.int .u64 v.xmin)).setCell ⟨pt, 2, none⟩ (.int .u64 v.xmax)).setCell ⟨pt, 3, none⟩ (.int .i64 v.pg)).setCell ⟨pt, 4, none⟩ (.int .i64 v.sl)).setCell ⟨pt, 5, none⟩ (.slice A4 v.data.length c4)) = WF at HG ⊢
              exact KEY _ _ _ _ HG
            refine AllReadyH.cons (o := ?_) ?_ ?_ AllReadyH.nil
            rotate_left 1
            (focus (simp only [zGA, zGZ, zGS] <;> rfl))
            intro K hK
            go_simp
            refine hK.out _ _ ?_ (fun hHeld => ?_)
            · exact HS5.out _ (q0.alloc _)
            clear hK K
            (try simp only [Act.put, zPA, zPZ, zPS])
            have qd1 : Quiet wb (d0.alloc (.cells #[.int .u64 0, .int .u64 0, .int .u64 0, .int .i64 0, .int .i64 0, .slice none 0 0] 106)) := q0.alloc _
            have hb1 := alloc_new d0 (.cells #[.int .u64 0, .int .u64 0, .int .u64 0, .int .i64 0, .int .i64 0, .slice none 0 0] 106)
            have hnp : wb.heap.size ≤ d0.heap.size := q0.size
            obtain ⟨pt, hpt⟩ : ∃ pt, d0.heap.size = pt := ⟨_, rfl⟩
            rw [hpt] at hb1 hnp ⊢
            generalize d0.alloc (.cells #[.int .u64 0, .int .u64 0, .int .u64 0, .int .i64 0, .int .i64 0, .slice none 0 0] 106) = d1 at *
            clear hpt
            refine wpAnyH_ready (rs := [8]) (by kernel_rfl) (by simp) ?_
            refine AllReadyH.cons (o := ?_) ?_ ?_ AllReadyH.nil
            rotate_left 1
            (focus (simp only [zGA, zGZ, zGS] <;> rfl))
            intro K hK
            go_simp
            go_at_call 44
            refine (HGET.out _ qd1).mono ?_
            rintro e d2 ⟨A4, c4, rfl, hf4⟩
            have q2 := qd1.trans hf4.quiet
            have hb2 := hf4.quiet.get hb1 (fun x => x)
            have hown := hf4.own
            have hfn : ∀ k, (Value.slice A4 v.data.length c4).ownBlock = some k → wb.heap.size ≤ k := fun k e => Nat.le_trans (qd1).size (hf4.new k e)
            clear hf4
            unfold tupV
            dsimp only
            refine hK.out _ _ ?_ (fun hHeld => ?_)
            · exact HS5.out _ q2
            clear hK K
            (try simp only [Act.put, zPA, zPZ, zPS])
            have z0 := cell_of hb2 0
            have z1 := cell_of hb2 1
            have z2 := cell_of hb2 2
            have z3 := cell_of hb2 3
            have z4 := cell_of hb2 4
            have z5 := cell_of hb2 5
            have zf := fun o => frozen_of hb2 o
            simp only [zGA, zGS, zGZ] at z0 z1 z2 z3 z4 z5
            (refine zTK 9 (oi := ?_) (v := ?_) ?_ ?_ (Or.inl ⟨?_, ?_⟩) ?_; rotate_left 2; (focus (simp only [zGA, zGZ, zGS] <;> rfl)); (focus (exact fun _ _ _ h => h)); (focus rfl); (focus (intro w hSw; (try dsimp only at hSw); go_simp; (try with_reducible rfl); done)); (try simp only [Act.put, zPA, zPZ, zPS]))
            (refine zTK 10 (oi := ?_) (v := ?_) ?_ ?_ (Or.inl ⟨?_, ?_⟩) ?_; rotate_left 2; (focus (simp only [zGA, zGZ, zGS] <;> rfl)); (focus (exact fun _ _ _ h => h)); (focus rfl); (focus (intro w hSw; (try dsimp only at hSw); go_simp; (try with_reducible rfl); done)); (try simp only [Act.put, zPA, zPZ, zPS]))
            (refine zTK 11 (oi := ?_) (v := ?_) ?_ ?_ (Or.inl ⟨?_, ?_⟩) ?_; rotate_left 2; (focus (simp only [zGA, zGZ, zGS] <;> rfl)); (focus (exact fun _ _ _ h => h)); (focus rfl); (focus (intro w hSw; (try dsimp only at hSw); go_simp; (try with_reducible rfl); done)); (try simp only [Act.put, zPA, zPZ, zPS]))
            refine wpAnyH_ready (rs := [13]) (by kernel_rfl) (by simp) ?_
            refine AllReadyH.cons (o := ?_) ?_ ?_ AllReadyH.nil
            rotate_left 1
            (focus (simp only [zGA, zGZ, zGS] <;> rfl))
            intro K hK
            go_simp
            refine hK.out _ _ ?_ (fun hHeld => ?_)
            · exact HS5.out _ (got_leaf q2 hb2 hnp hown hfn).quiet
            clear hK K
            (try simp only [Act.put, zPA, zPZ, zPS])
            have HG := got_leaf q2 hb2 hnp hown hfn
            unfold sixSet at HG
            (refine zTK 14 (oi := ?_) (v := ?_) ?_ ?_ (Or.inl ⟨?_, ?_⟩) ?_; rotate_left 2; (focus (simp only [zGA, zGZ, zGS] <;> rfl)); (focus (exact fun _ _ _ h => h)); (focus rfl); (focus (intro w hSw; (try dsimp only at hSw); go_simp; (try with_reducible rfl); done)); (try simp only [Act.put, zPA, zPZ, zPS]))
            refine wpAnyH_done (by kernel_rfl) ?_ _
            generalize ((((((d2.setCell ⟨pt, 0, none⟩ (.int .u64 v.row)).setCell ⟨pt, 1, none⟩ (.int .u64 v.xmin)).setCell ⟨pt, 2, none⟩ (.int .u64 v.xmax)).setCell ⟨pt, 3, none⟩ (.int .i64 v.pg)).setCell ⟨pt, 4, none⟩ (.int .i64 v.sl)).setCell ⟨pt, 5, none⟩ (.slice A4 v.data.length c4)) = WF at HG ⊢
            exact KEY _ _ _ _ HG
      case key =>
        intro A4 c4 pt W HL0
        have HL := Lib.hid HL0
        clear HL0 HS5 HGET
        have HQW : Hid (Quiet w W) := HQb.out.trans HL.out.quiet
        have HWW := Lib.hid (HWb.out.quietly HL.out.quiet)
        have HS6 : Hid (∀ W', Quiet W W' → (fun w' => w'.cell? ⟨sb, 0, none⟩ = some (ptrV lb) ∧ w'.cell? ⟨r5, 0, none⟩ = some (.int .u64 (y.own : Int)) ∧ w'.cell? ⟨r5, 1, none⟩ = some (.int .u64 (y.xmin : Int)) ∧ w'.cell? ⟨r5, 2, none⟩ = some (.int .u64 (y.xmax : Int)) ∧ w'.cell? ⟨r5, 3, none⟩ = some (.slice A y.run.length cy) ∧ w'.cell? ⟨pt, 0, none⟩ = some (.int .u64 v.row) ∧ w'.cell? ⟨pt, 1, none⟩ = some (.int .u64 v.xmin) ∧ w'.cell? ⟨pt, 2, none⟩ = some (.int .u64 v.xmax) ∧ w'.cell? ⟨pt, 3, none⟩ = some (.int .i64 v.pg) ∧ w'.cell? ⟨pt, 4, none⟩ = some (.int .i64 v.sl) ∧ w'.cell? ⟨pt, 5, none⟩ = some (.slice A4 v.data.length c4)) W') := fun W' hq => by
          have b5 := hq.get (HWW.out.quiet.get HB5.out (fun x => x)) (fun x => x)
          have bt := hq.get HL.out.box (fun x => x)
          have hsn := snapBox_cells b5
          refine ⟨((HH.out.quietly HQW.out).quietly hq).cells.1, hsn.1, hsn.2.1, hsn.2.2.1, hsn.2.2.2, ?_, ?_, ?_, ?_, ?_, ?_⟩ <;> (rw [cell_of bt]; rfl)
        obtain ⟨r, hrv⟩ : ∃ r, visS s.L y v.xmin v.xmax = r := ⟨_, rfl⟩
        have HRV := Lib.hid hrv
        have HVIS : Hid (∀ W', Quiet W W' → Calls Tryz.prog 82 #[ptrV lb, snapV y A cy, tupV v A4 c4] W' (BoolQ W' r)) := fun W' hq => by
          rw [← HRV.out]
          have hq2 := HQW.out.trans hq
          exact snap_visible v A4 c4 (HH.out.quietly hq2).log (HS.out.kept hq2 (fun _ _ x => x)) HV1.out.1 HV1.out.2
        unfold snapV tupV at HVIS
        clear hrv
        go_wp2_with fail
        refine wp_region_held_drew (S := (fun w' => w'.cell? ⟨sb, 0, none⟩ = some (ptrV lb) ∧ w'.cell? ⟨r5, 0, none⟩ = some (.int .u64 (y.own : Int)) ∧ w'.cell? ⟨r5, 1, none⟩ = some (.int .u64 (y.xmin : Int)) ∧ w'.cell? ⟨r5, 2, none⟩ = some (.int .u64 (y.xmax : Int)) ∧ w'.cell? ⟨r5, 3, none⟩ = some (.slice A y.run.length cy) ∧ w'.cell? ⟨pt, 0, none⟩ = some (.int .u64 v.row) ∧ w'.cell? ⟨pt, 1, none⟩ = some (.int .u64 v.xmin) ∧ w'.cell? ⟨pt, 2, none⟩ = some (.int .u64 v.xmax) ∧ w'.cell? ⟨pt, 3, none⟩ = some (.int .i64 v.pg) ∧ w'.cell? ⟨pt, 4, none⟩ = some (.int .i64 v.sl) ∧ w'.cell? ⟨pt, 5, none⟩ = some (.slice A4 v.data.length c4))) (by kernel_rfl) (HS6.out _ (Only.refl _ _).drew) (fun hHeld => ?_)
        simp only [List.size_toArray, List.length_cons, List.length_nil, Nat.reduceAdd]
        have q6 : Quiet W W.drew := (Only.refl _ _).drew
        generalize W.drew = d6 at q6 hHeld ⊢
        (refine zTK 0 (oi := ?_) (v := ?_) ?_ ?_ (Or.inl ⟨?_, ?_⟩) ?_; rotate_left 2; (focus (simp only [zGA, zGZ, zGS] <;> rfl)); (focus (exact fun _ _ _ h => h)); (focus rfl); (focus (intro w hSw; (try dsimp only at hSw); go_simp; (try with_reducible rfl); done)); (try simp only [Act.put, zPA, zPZ, zPS]))
        (refine zTK 1 (oi := ?_) (v := ?_) ?_ ?_ (Or.inl ⟨?_, ?_⟩) ?_; rotate_left 2; (focus (simp only [zGA, zGZ, zGS] <;> rfl)); (focus (exact fun _ _ _ h => h)); (focus rfl); (focus (intro w hSw; (try dsimp only at hSw); go_simp; (try with_reducible rfl); done)); (try simp only [Act.put, zPA, zPZ, zPS]))
        (refine zTK 2 (oi := ?_) (v := ?_) ?_ ?_ (Or.inl ⟨?_, ?_⟩) ?_; rotate_left 2; (focus (simp only [zGA, zGZ, zGS] <;> rfl)); (focus (exact fun _ _ _ h => h)); (focus rfl); (focus (intro w hSw; (try dsimp only at hSw); go_simp; (try with_reducible rfl); done)); (try simp only [Act.put, zPA, zPZ, zPS]))
        (refine zTK 3 (oi := ?_) (v := ?_) ?_ ?_ (Or.inl ⟨?_, ?_⟩) ?_; rotate_left 2; (focus (simp only [zGA, zGZ, zGS] <;> rfl)); (focus (exact fun _ _ _ h => h)); (focus rfl); (focus (intro w hSw; (try dsimp only at hSw); go_simp; (try with_reducible rfl); done)); (try simp only [Act.put, zPA, zPZ, zPS]))
        (refine zTK 4 (oi := ?_) (v := ?_) ?_ ?_ (Or.inl ⟨?_, ?_⟩) ?_; rotate_left 2; (focus (simp only [zGA, zGZ, zGS] <;> rfl)); (focus (exact fun _ _ _ h => h)); (focus rfl); (focus (intro w hSw; (try dsimp only at hSw); go_simp; (try with_reducible rfl); done)); (try simp only [Act.put, zPA, zPZ, zPS]))
        (refine zTK 5 (oi := ?_) (v := ?_) ?_ ?_ (Or.inl ⟨?_, ?_⟩) ?_; rotate_left 2; (focus (simp only [zGA, zGZ, zGS] <;> rfl)); (focus (exact fun _ _ _ h => h)); (focus rfl); (focus (intro w hSw; (try dsimp only at hSw); go_simp; (try with_reducible rfl); done)); (try simp only [Act.put, zPA, zPZ, zPS]))
        (refine zTK 6 (oi := ?_) (v := ?_) ?_ ?_ (Or.inl ⟨?_, ?_⟩) ?_; rotate_left 2; (focus (simp only [zGA, zGZ, zGS] <;> rfl)); (focus (exact fun _ _ _ h => h)); (focus rfl); (focus (intro w hSw; (try dsimp only at hSw); go_simp; (try with_reducible rfl); done)); (try simp only [Act.put, zPA, zPZ, zPS]))
        (refine zTK 7 (oi := ?_) (v := ?_) ?_ ?_ (Or.inl ⟨?_, ?_⟩) ?_; rotate_left 2; (focus (simp only [zGA, zGZ, zGS] <;> rfl)); (focus (exact fun _ _ _ h => h)); (focus rfl); (focus (intro w hSw; (try dsimp only at hSw); go_simp; (try with_reducible rfl); done)); (try simp only [Act.put, zPA, zPZ, zPS]))
        refine wpAnyH_ready (rs := [8]) (by kernel_rfl) (by simp) ?_
        refine AllReadyH.cons (o := ?_) ?_ ?_ AllReadyH.nil
        rotate_left 1
        (focus (simp only [zGA, zGZ, zGS] <;> rfl))
        intro K hK
        go_simp
        go_at_call 82
        refine (HVIS.out _ q6).mono ?_
        rintro e d7 ⟨rfl, hq7⟩
        have q7 := q6.trans hq7
        clear hq7
        dsimp only
        refine hK.out _ _ ?_ (fun hHeld => ?_)
        · exact HS6.out _ q7
        clear hK K
        (try simp only [Act.put, zPA, zPZ, zPS])
        (refine zTK 9 (oi := ?_) (v := ?_) ?_ ?_ (Or.inl ⟨?_, ?_⟩) ?_; rotate_left 2; (focus (simp only [zGA, zGZ, zGS] <;> rfl)); (focus (exact fun _ _ _ h => h)); (focus rfl); (focus (intro w hSw; (try dsimp only at hSw); go_simp; (try with_reducible rfl); done)); (try simp only [Act.put, zPA, zPZ, zPS]))
        refine wpAnyH_done (by kernel_rfl) ?_ _
        clear hHeld
        rcases r with _ | _
        · have HTK : Hid (M.map RowM.told = seenR H s.L y (l.take (k + 1))) := by
            show _ = _
            rw [seen_take HA.out, HM.out]
            have : seenAt H s.L y (pg, sl) = none := by
              unfold seenAt
              rw [HGV.out]
              simp [HRV.out]
            rw [this]
            simp
          have HEND := Lib.hid (HWW.out.quietly q7)
          clear q7 q6
          go_wp2
          go_roundw
          case rel => exact ⟨k + 1, _, M, by omega, by go_num, rfl, HEND.out, HTK.out⟩
          case measure => simp [intOf]; omega
        · obtain ⟨x, hx, hdat⟩ := HVIS0.out HRV.out
          have hd9 : v.data.length = 9 := by rw [hdat]; exact rowI_length x
          have HTK : Hid (seenAt H s.L y (pg, sl) = some (v.row, pg, sl, x)) := by
            unfold Hid seenAt
            rw [HGV.out]
            simp only [HRV.out, if_true]
            rw [hdat, numOf_row]
          have HW7 := Lib.hid (HWW.out.quietly q7)
          have HQ7 : Hid (Quiet w d7) := HQW.out.trans q7
          have HBT := Lib.hid (q7.get HL.out.box (fun x => x))
          have HAT7 := Lib.hid (q7.get (HL.out.quiet.get HAT.out (fun x => x)) (fun x => x))
          obtain ⟨A', c', e', hc4, hm4, hrd4⟩ := own_form HL.out.own
          injection e' with e1 _ e2
          subst e1 e2
          rw [hd9] at hc4
          have HDC := Lib.hid (And.intro hc4 hm4)
          have HDAT : Hid (∀ W', Quiet d7 W' → Rd W' (fun _ => True) 1 A4 9 (bytesV (rowI x))) := fun W' hq => by
            have := (hrd4.kept (q7.trans hq) (fun _ _ x => x)).mono (T := fun _ => True) (fun _ _ => trivial)
            rw [hd9, hdat] at this
            exact this
          have HKND : Hid (∀ W', Quiet d7 W' → Calls Tryz.prog 60 #[tabV t A2 c2] W' (KindsPost W' 1)) := fun W' hq => by
            have h2 := HR.out.kept (HQ7.out.trans hq) (fun _ _ x => x)
            have h3 := HC2.out
            rw [HT.out] at h2 h3
            exact store_kinds HT.out h2 h3.1 h3.2
          have HS7 : Hid (∀ W', Quiet d7 W' → (fun w' => w'.cell? ⟨r6, 0, none⟩ = some (.int .u64 (t.id : Int)) ∧ w'.cell? ⟨r6, 1, none⟩ = some (.string t.name) ∧ w'.cell? ⟨r6, 2, none⟩ = some (.slice A2 t.cols.length c2) ∧ w'.cell? ⟨r6, 3, none⟩ = some (.int .u64 (t.xmin : Int)) ∧ w'.cell? ⟨r6, 4, none⟩ = some (.int .u64 (t.xmax : Int)) ∧ w'.cell? ⟨pt, 5, none⟩ = some (.slice A4 v.data.length c4)) W') := fun W' hq => by
            have b6 := tabBox_cells (hq.get (HW7.out.quiet.get HB6.out (fun x => x)) (fun x => x))
            have bt := hq.get HBT.out (fun x => x)
            exact ⟨b6.1, b6.2.1, b6.2.2.1, b6.2.2.2.1, b6.2.2.2.2, by rw [cell_of bt]; rfl⟩
          unfold tabV at HKND
          have HX := Lib.hid hx
          have HD9 := Lib.hid hd9
          clear hc4 hm4 hrd4 hdat q7 q6 hx HS6 HVIS
          go_wp2_with fail
          refine wp_region_held_drew (S := (fun w' => w'.cell? ⟨r6, 0, none⟩ = some (.int .u64 (t.id : Int)) ∧ w'.cell? ⟨r6, 1, none⟩ = some (.string t.name) ∧ w'.cell? ⟨r6, 2, none⟩ = some (.slice A2 t.cols.length c2) ∧ w'.cell? ⟨r6, 3, none⟩ = some (.int .u64 (t.xmin : Int)) ∧ w'.cell? ⟨r6, 4, none⟩ = some (.int .u64 (t.xmax : Int)) ∧ w'.cell? ⟨pt, 5, none⟩ = some (.slice A4 v.data.length c4))) (by kernel_rfl) (HS7.out _ (Only.refl _ _).drew) (fun hHeld => ?_)
          simp only [List.size_toArray, List.length_cons, List.length_nil, Nat.reduceAdd]
          have q8 : Quiet d7 d7.drew := (Only.refl _ _).drew
          generalize d7.drew = d8 at q8 hHeld ⊢
          (refine zTK 0 (oi := ?_) (v := ?_) ?_ ?_ (Or.inl ⟨?_, ?_⟩) ?_; rotate_left 2; (focus (simp only [zGA, zGZ, zGS] <;> rfl)); (focus (exact fun _ _ _ h => h)); (focus rfl); (focus (intro w hSw; (try dsimp only at hSw); go_simp; (try with_reducible rfl); done)); (try simp only [Act.put, zPA, zPZ, zPS]))
          (refine zTK 2 (oi := ?_) (v := ?_) ?_ ?_ (Or.inl ⟨?_, ?_⟩) ?_; rotate_left 2; (focus (simp only [zGA, zGZ, zGS] <;> rfl)); (focus (exact fun _ _ _ h => h)); (focus rfl); (focus (intro w hSw; (try dsimp only at hSw); go_simp; (try with_reducible rfl); done)); (try simp only [Act.put, zPA, zPZ, zPS]))
          (refine zTK 3 (oi := ?_) (v := ?_) ?_ ?_ (Or.inl ⟨?_, ?_⟩) ?_; rotate_left 2; (focus (simp only [zGA, zGZ, zGS] <;> rfl)); (focus (exact fun _ _ _ h => h)); (focus rfl); (focus (intro w hSw; (try dsimp only at hSw); go_simp; (try with_reducible rfl); done)); (try simp only [Act.put, zPA, zPZ, zPS]))
          refine wpAnyH_ready (rs := [1]) (by kernel_rfl) (by simp) ?_
          refine AllReadyH.cons (o := ?_) ?_ ?_ AllReadyH.nil
          rotate_left 1
          (focus (simp only [zGA, zGZ, zGS] <;> rfl))
          intro K hK
          go_simp
          go_at_call 60
          refine (HKND.out _ q8).mono ?_
          rintro e d9 ⟨v9, rfl, hf9⟩
          have q9 := q8.trans hf9.quiet
          obtain ⟨A9, c9, rfl, hc9, hm9, hrd9⟩ := own_form hf9.own
          clear hf9
          dsimp only
          refine hK.out _ _ ?_ (fun hHeld => ?_)
          · exact HS7.out _ q9
          clear hK K
          (try simp only [Act.put, zPA, zPZ, zPS])
          refine wpAnyH_ready (rs := [4]) (by kernel_rfl) (by simp) ?_
          refine AllReadyH.cons (o := ?_) ?_ ?_ AllReadyH.nil
          rotate_left 1
          (focus (simp only [zGA, zGZ, zGS] <;> rfl))
          intro K hK
          go_simp
          go_at_call 83
          (try rw [HD9.out])
          refine (row_read_int HX.out (by exact hrd9) (HDAT.out _ q9) hc9 hm9 HDC.out.1 HDC.out.2).mono ?_
          rintro e d10 ⟨v10, rfl, hf10⟩
          have q10 := q9.trans hf10.quiet
          have hfv := FreshV.from9 q9 hf10
          clear hf10
          dsimp only
          refine hK.out _ _ ?_ (fun hHeld => ?_)
          · exact HS7.out _ q10
          clear hK K
          (try simp only [Act.put, zPA, zPZ, zPS])
          (refine zTK 5 (oi := ?_) (v := ?_) ?_ ?_ (Or.inl ⟨?_, ?_⟩) ?_; rotate_left 2; (focus (simp only [zGA, zGZ, zGS] <;> rfl)); (focus (exact fun _ _ _ h => h)); (focus rfl); (focus (intro w hSw; (try dsimp only at hSw); go_simp; (try with_reducible rfl); done)); (try simp only [Act.put, zPA, zPZ, zPS]))
          (refine zTK 6 (oi := ?_) (v := ?_) ?_ ?_ (Or.inl ⟨?_, ?_⟩) ?_; rotate_left 2; (focus (simp only [zGA, zGZ, zGS] <;> rfl)); (focus (exact fun _ _ _ h => h)); (focus rfl); (focus (intro w hSw; (try dsimp only at hSw); go_simp; (try with_reducible rfl); done)); (try simp only [Act.put, zPA, zPZ, zPS]))
          (refine zTK 7 (oi := ?_) (v := ?_) ?_ ?_ (Or.inl ⟨?_, ?_⟩) ?_; rotate_left 2; (focus (simp only [zGA, zGZ, zGS] <;> rfl)); (focus (exact fun _ _ _ h => h)); (focus rfl); (focus (intro w hSw; (try dsimp only at hSw); go_simp; (try with_reducible rfl); done)); (try simp only [Act.put, zPA, zPZ, zPS]))
          (refine zTK 8 (oi := ?_) (v := ?_) ?_ ?_ (Or.inl ⟨?_, ?_⟩) ?_; rotate_left 2; (focus (simp only [zGA, zGZ, zGS] <;> rfl)); (focus (exact fun _ _ _ h => h)); (focus rfl); (focus (intro w hSw; (try dsimp only at hSw); go_simp; (try with_reducible rfl); done)); (try simp only [Act.put, zPA, zPZ, zPS]))
          (refine zTK 9 (oi := ?_) (v := ?_) ?_ ?_ (Or.inl ⟨?_, ?_⟩) ?_; rotate_left 2; (focus (simp only [zGA, zGZ, zGS] <;> rfl)); (focus (exact fun _ _ _ h => h)); (focus rfl); (focus (intro w hSw; (try dsimp only at hSw); go_simp; (try with_reducible rfl); done)); (try simp only [Act.put, zPA, zPZ, zPS]))
          refine wpAnyH_done (by kernel_rfl) ?_ _
          clear hHeld q8 q9 q10 hrd9 hc9 hm9
          obtain ⟨A10, c10, rfl, hc10, hm10, _⟩ := own_form hfv.own
          have HW10 := Lib.hid (HW7.out.quietly hfv.quiet)
          have HRD := Lib.hid (Rd.new d10 4 1 (rowE ⟨v.row, pg, sl, x, A10, c10⟩) 52 (fun _ => True) rfl trivial)
          have HW11 := Lib.hid (HW10.out.quietly ((Only.refl (fun _ => False) d10).alloc (.cells (rowE ⟨v.row, pg, sl, x, A10, c10⟩).toArray 52)))
          have HVAL : Hid ((∀ k, (Value.slice A10 1 c10).ownBlock = some k → W0.heap.size ≤ k) ∧ (d10.alloc (.cells (rowE ⟨v.row, pg, sl, x, A10, c10⟩).toArray 52)).ownsRow 0 73 4 (.slice A10 1 c10) 1 (intRow x)) :=
            ⟨fun k e => Nat.le_trans HW7.out.quiet.size (hfv.new k e), owns_kept hfv.own ((Only.refl (fun _ => False) d10).alloc _) (fun _ _ x => x)⟩
          have hml : M.length ≤ n := by
            have e1 : (M.map RowM.told).length ≤ (l.take k).length := by rw [HM.out]; exact List.length_filterMap_le _ _
            rw [List.length_map, List.length_take] at e1
            omega
          have x0 : d10.cell? ⟨pt, 0, none⟩ = some (.int .u64 v.row) := by rw [cell_of (hfv.quiet.get HBT.out (fun x => x))]; rfl
          have x1 : d10.cell? ⟨at_, 0, none⟩ = some (.int .i64 pg) := by rw [cell_of (hfv.quiet.get HAT7.out (fun x => x))]; rfl
          have x2 : d10.cell? ⟨at_, 1, none⟩ = some (.int .i64 sl) := by rw [cell_of (hfv.quiet.get HAT7.out (fun x => x))]; rfl
          obtain ⟨ml, hml2⟩ : ∃ ml, M.length = ml := ⟨_, rfl⟩
          have HML := Lib.hid hml2
          rw [hml2] at hml
          have hown := HW11.out.own
          rw [hml2] at hown
          have HOWN := Lib.hid hown
          clear hfv hc10 hm10 hml2 hown HDAT HKND HS7 HBT
          go_wp2_with (at_builtin; refine app elem_row rfl (.tmp 52) (.tmp 58) rfl rfl HOWN.out rfl HRD.out (rowE_one ⟨v.row, pg, sl, x, A10, c10⟩) (by unfold maxLen; omega) (by omega) ?_)
          intro v11 w11 hg11
          rw [← HML.out] at hg11
          have HPU := Lib.hid (RowsW.push (m := ⟨v.row, pg, sl, x, A10, c10⟩) HW11.out HVAL.out hg11)
          have HTK2 : Hid ((M ++ [(⟨v.row, pg, sl, x, A10, c10⟩ : RowM)]).map RowM.told = seenR H s.L y (l.take (k + 1))) := by
            show _ = _
            rw [List.map_append, HM.out, seen_take HA.out, HTK.out]
            rfl
          clear hg11 HW11 HVAL HRD HOWN HW10 x0 x1 x2
          go_wp2
          go_roundw
          case rel => exact ⟨k + 1, _, _, by omega, by go_num, rfl, HPU.out, HTK2.out⟩
          case measure => simp [intOf]; omega
    · obtain rfl : k = n := by omega
      have hml : M.length ≤ k := by
        have e1 : (M.map RowM.told).length ≤ (l.take k).length := by rw [HM.out]; exact List.length_filterMap_le _ _
        rw [List.length_map, List.length_take] at e1
        omega
      have HSO := Lib.hid (sort_rows u9 M wr HW.out.own (by omega))
      clear hml
      go_wp2_with fail
      refine HSO.out.mono ?_
      rintro e w9 ⟨rfl, M', hp, hsd, ho, hon⟩
      have HEND : Hid (POST (.returned u9) w9) := by
        rw [← HPOST.out]
        refine ⟨u9, M', rfl, (HW.out.sorted hp hon ho).from HQ0.out, ?_, hsd⟩
        have := hp.map RowM.told
        rw [HM.out, List.take_of_length_le (by have := HN.out; omega)] at this
        exact this
      clear hp hsd ho hon HSO
      go_wp2
      exact HEND.out

end Go.Proofs.YtaijnpgoiagboaaGreatDoor

namespace Go.Proofs.YtaijnpgoiagboaaGreatDoor
open Go.RowKit Go.Lap

/-- What version tells of a version that is there. -/
def VersPost (w : World) (v : Tup) (code : Nat) (e : Ending) (w' : World) : Prop := ∃ A c, e = .returned (.tuple #[tupV v A c, .int .i64 (code : Int)]) ∧ Quiet w w'

theorem four_new (w : World) (a b c d : Obj) : Quiet w ((((w.alloc a).alloc b).alloc c).alloc d) ∧ ((((w.alloc a).alloc b).alloc c).alloc d).heap[w.heap.size]? = some a ∧ ((((w.alloc a).alloc b).alloc c).alloc d).heap[w.heap.size + 1]? = some b ∧ ((((w.alloc a).alloc b).alloc c).alloc d).heap[w.heap.size + 1 + 1]? = some c ∧ ((((w.alloc a).alloc b).alloc c).alloc d).heap[w.heap.size + 1 + 1 + 1]? = some d := by
  refine ⟨((((Only.refl _ _).alloc _).alloc _).alloc _).alloc _, alloc_old (alloc_old (alloc_old (alloc_new w a) b) c) d, alloc_old (alloc_old (two_new w a b) c) d, ?_, ?_⟩
  · have := alloc_new ((w.alloc a).alloc b) c
    simp only [World.size_alloc] at this
    exact alloc_old this d
  · have := alloc_new (((w.alloc a).alloc b).alloc c) d
    simp only [World.size_alloc] at this
    exact this

set_option maxHeartbeats 4000000 in
set_option maxRecDepth 100000 in
theorem store_version {w : World} {sb cy c2 n3 c3 : Nat} {o : Nat → Nat} {s : St} {y : Snap} {t : TE} {Sy : Nat → Prop} {A A2 A3 : Option Addr} {H : List (List (Option Tup))} {pg sl : Int} {v : Tup} (h : StoreAt w sb o s) (hs : SnapV w Sy A cy y) (hid : U64 t.id)
    (hH : s.hs t.id = some H) (hg : hGet H pg sl = some v) (hx1 : U64 v.xmin) (hx2 : U64 v.xmax) :
    Calls Tryz.prog 63 #[ptrV sb, snapV y A cy, tabV t A2 c2, .agg #[.int .u64 v.row, .int .i64 pg, .int .i64 sl, .slice A3 n3 c3]] w (VersPost w v (freeS s.L y v.xmin v.xmax)) := by
  obtain ⟨lb, bb, pb, mh, mt, ms, fh, ft, fs, h⟩ := h
  obtain ⟨hb, hf, hp⟩ := h.heaps.2 t.id H hH
  have HH := Lib.hid h
  have HP := Lib.hid hp
  have HF := Lib.hid hf
  have HS := Lib.hid hs
  have HID := Lib.hid hid
  have HGV := Lib.hid hg
  have HV1 := Lib.hid (And.intro hx1 hx2)
  obtain ⟨q0, b5, b6, b7, b8⟩ := four_new w (.cells (snapCells y A cy) 88) (.cells #[.int .u64 (t.id : Int), .string t.name, .slice A2 t.cols.length c2, .int .u64 (t.xmin : Int), .int .u64 (t.xmax : Int)] 37) (.cells #[.int .u64 v.row, .int .i64 pg, .int .i64 sl, .slice A3 n3 c3] 52) (.cells #[.int .u64 0, .int .u64 0, .int .u64 0, .int .i64 0, .int .i64 0, .slice none 0 0] 106)
  have HQ0 := Lib.hid q0
  have HB5 := Lib.hid b5
  have HB6 := Lib.hid b6
  have HB7 := Lib.hid b7
  have HB8 := Lib.hid b8
  obtain ⟨r5, hr5⟩ : ∃ r5, w.heap.size = r5 := ⟨_, rfl⟩
  obtain ⟨r6, hr6⟩ : ∃ r6, r5 + 1 = r6 := ⟨_, rfl⟩
  obtain ⟨r7, hr7⟩ : ∃ r7, r6 + 1 = r7 := ⟨_, rfl⟩
  obtain ⟨r8, hr8⟩ : ∃ r8, r7 + 1 = r8 := ⟨_, rfl⟩
  rw [hr5] at HB5 HB6 HB7 HB8
  rw [hr6] at HB6 HB7 HB8
  rw [hr7] at HB7 HB8
  rw [hr8] at HB8
  obtain ⟨code, hcode⟩ : ∃ code, freeS s.L y v.xmin v.xmax = code := ⟨_, rfl⟩
  rw [hcode]
  have HCODE := Lib.hid hcode
  have HNE : Hid (r5 ≠ r8 ∧ w.heap.size ≤ r8) := ⟨by omega, by omega⟩
  clear h hs hp hf hH hid hg hx1 hx2 q0 b5 b6 b7 b8 hcode
  unfold snapV tabV
  go_enter Tryz.func63, Tryz.ntmps63
  go_wp2_with fail
  (try simp only [World.size_alloc] at *)
  (try rw [hr5]); (try rw [hr6]); (try rw [hr7]); (try rw [hr8])
  generalize (((w.alloc (.cells #[.int .u64 (y.own : Int), .int .u64 (y.xmin : Int), .int .u64 (y.xmax : Int), .slice A y.run.length cy] 88)).alloc (.cells #[.int .u64 (t.id : Int), .string t.name, .slice A2 t.cols.length c2, .int .u64 (t.xmin : Int), .int .u64 (t.xmax : Int)] 37)).alloc (.cells #[.int .u64 v.row, .int .i64 pg, .int .i64 sl, .slice A3 n3 c3] 52)).alloc (.cells #[.int .u64 0, .int .u64 0, .int .u64 0, .int .i64 0, .int .i64 0, .slice none 0 0] 106) = wb at *
  have HS5 : Hid (∀ W, Quiet wb W → (fun w' => w'.cell? ⟨sb, 3, none⟩ = some (.map (some mh)) ∧ w'.cell? ⟨r6, 0, none⟩ = some (.int .u64 (t.id : Int)) ∧ w'.cell? ⟨r7, 1, none⟩ = some (.int .i64 pg) ∧ w'.cell? ⟨r7, 2, none⟩ = some (.int .i64 sl) ∧ (Instr.lookup 82 (.map (some mh)) (.int .u64 (t.id : Int)) false).run Tryz.prog w' = .ok (ptrV hb) w') W) := fun W hq => by
    have h2 := HH.out.quietly (HQ0.out.trans hq)
    have b6 := hq.get HB6.out (fun x => x)
    have b7 := hq.get HB7.out (fun x => x)
    exact ⟨h2.cells.2.2.2.1, (tabBox_cells b6).1, by rw [cell_of b7]; rfl, by rw [cell_of b7]; rfl, look_heap h2.mH HF.out HID.out⟩
  have HGET : Hid (∀ W, Quiet wb W → Calls Tryz.prog 44 #[ptrV hb, .agg #[.int .i64 pg, .int .i64 sl]] W (GetSome W v)) := fun W hq => heap_get_some pg sl v (HP.out.kept (HQ0.out.trans hq) (fun _ _ x => x)) HGV.out
  clear hr5 hr6 hr7 hr8
  apply got_key (wb := wb) (t := v)
  case main =>
      intro KEY
      refine wp_region_held_drew (S := (fun w' => w'.cell? ⟨sb, 3, none⟩ = some (.map (some mh)) ∧ w'.cell? ⟨r6, 0, none⟩ = some (.int .u64 (t.id : Int)) ∧ w'.cell? ⟨r7, 1, none⟩ = some (.int .i64 pg) ∧ w'.cell? ⟨r7, 2, none⟩ = some (.int .i64 sl) ∧ (Instr.lookup 82 (.map (some mh)) (.int .u64 (t.id : Int)) false).run Tryz.prog w' = .ok (ptrV hb) w')) (by kernel_rfl) (HS5.out _ (Only.refl _ _).drew) (fun hHeld => ?_)
      simp only [List.size_toArray, List.length_cons, List.length_nil, Nat.reduceAdd]
      have q0 : Quiet wb wb.drew := (Only.refl _ _).drew
      generalize wb.drew = d0 at q0 hHeld ⊢
      (refine zTK 0 (oi := ?_) (v := ?_) ?_ ?_ (Or.inl ⟨?_, ?_⟩) ?_; rotate_left 2; (focus (simp only [zGA, zGZ, zGS] <;> rfl)); (focus (exact fun _ _ _ h => h)); (focus rfl); (focus (intro w hSw; (try dsimp only at hSw); go_simp; (try with_reducible rfl); done)); (try simp only [Act.put, zPA, zPZ, zPS]))
      (refine zTK 1 (oi := ?_) (v := ?_) ?_ ?_ (Or.inl ⟨?_, ?_⟩) ?_; rotate_left 2; (focus (simp only [zGA, zGZ, zGS] <;> rfl)); (focus (exact fun _ _ _ h => h)); (focus rfl); (focus (intro w hSw; (try dsimp only at hSw); go_simp; (try with_reducible rfl); done)); (try simp only [Act.put, zPA, zPZ, zPS]))
      (refine zTK 2 (oi := ?_) (v := ?_) ?_ ?_ (Or.inl ⟨?_, ?_⟩) ?_; rotate_left 2; (focus (simp only [zGA, zGZ, zGS] <;> rfl)); (focus (exact fun _ _ _ h => h)); (focus rfl); (focus (intro w hSw; (try dsimp only at hSw); go_simp; (try with_reducible rfl); done)); (try simp only [Act.put, zPA, zPZ, zPS]))
      (refine zTK 3 (oi := ?_) (v := ?_) ?_ ?_ (Or.inl ⟨?_, ?_⟩) ?_; rotate_left 2; (focus (simp only [zGA, zGZ, zGS] <;> rfl)); (focus (exact fun _ _ _ h => h)); (focus rfl); (focus (intro w hSw; (try dsimp only at hSw); go_simp; (try with_reducible rfl); done)); (try simp only [Act.put, zPA, zPZ, zPS]))
      (refine zTK 4 (oi := ?_) (v := ?_) ?_ ?_ (Or.inl ⟨?_, ?_⟩) ?_; rotate_left 2; (focus (simp only [zGA, zGZ, zGS] <;> rfl)); (focus (exact fun _ _ _ h => h)); (focus rfl); (focus (intro w hSw; (try dsimp only at hSw); go_simp; (try with_reducible rfl); done)); (try simp only [Act.put, zPA, zPZ, zPS]))
      (refine zTK 5 (oi := ?_) (v := ?_) ?_ ?_ (Or.inl ⟨?_, ?_⟩) ?_; rotate_left 2; (focus (simp only [zGA, zGZ, zGS] <;> rfl)); (focus (exact fun _ _ _ h => h)); (focus rfl); (focus (intro w hSw; (try dsimp only at hSw); go_simp; (try with_reducible rfl); done)); (try simp only [Act.put, zPA, zPZ, zPS]))
      (refine zTK 6 (oi := ?_) (v := ?_) ?_ ?_ (Or.inl ⟨?_, ?_⟩) ?_; rotate_left 2; (focus (simp only [zGA, zGZ, zGS] <;> rfl)); (focus (exact fun _ _ _ h => h)); (focus rfl); (focus (intro w hSw; (try dsimp only at hSw); go_simp; (try with_reducible rfl); done)); (try simp only [Act.put, zPA, zPZ, zPS]))
      (refine zTK 7 (oi := ?_) (v := ?_) ?_ ?_ (Or.inl ⟨?_, ?_⟩) ?_; rotate_left 2; (focus (simp only [zGA, zGZ, zGS] <;> rfl)); (focus (exact fun _ _ _ h => h)); (focus rfl); (focus (intro w hSw; (try dsimp only at hSw); go_simp; (try with_reducible rfl); done)); (try simp only [Act.put, zPA, zPZ, zPS]))
      (refine zTK 8 (oi := ?_) (v := ?_) ?_ ?_ (Or.inl ⟨?_, ?_⟩) ?_; rotate_left 2; (focus (simp only [zGA, zGZ, zGS] <;> rfl)); (focus (exact fun _ _ _ h => h)); (focus rfl); (focus (intro w hSw; (try dsimp only at hSw); go_simp; (try with_reducible rfl); done)); (try simp only [Act.put, zPA, zPZ, zPS]))
      refine wpAnyH_ready (rs := [9, 13]) (by kernel_rfl) (by simp) ?_
      refine AllReadyH.cons (o := ?_) ?_ ?_ ?_
      rotate_left 1
      (focus (simp only [zGA, zGZ, zGS] <;> rfl))
      · intro K hK
        go_simp
        go_at_call 44
        refine (HGET.out _ q0).mono ?_
        rintro e d2 ⟨A4, c4, rfl, hf4⟩
        have q2 := q0.trans hf4.quiet
        have hown := hf4.own
        have hfn : ∀ k, (Value.slice A4 v.data.length c4).ownBlock = some k → wb.heap.size ≤ k := fun k e => Nat.le_trans (q0).size (hf4.new k e)
        clear hf4
        unfold tupV
        dsimp only
        refine hK.out _ _ ?_ (fun hHeld => ?_)
        · exact HS5.out _ q2
        clear hK K
        (try simp only [Act.put, zPA, zPZ, zPS])
        (refine zTK 10 (oi := ?_) (v := ?_) ?_ ?_ (Or.inl ⟨?_, ?_⟩) ?_; rotate_left 2; (focus (simp only [zGA, zGZ, zGS] <;> rfl)); (focus (exact fun _ _ _ h => h)); (focus rfl); (focus (intro w hSw; (try dsimp only at hSw); go_simp; (try with_reducible rfl); done)); (try simp only [Act.put, zPA, zPZ, zPS]))
        (refine zTK 11 (oi := ?_) (v := ?_) ?_ ?_ (Or.inl ⟨?_, ?_⟩) ?_; rotate_left 2; (focus (simp only [zGA, zGZ, zGS] <;> rfl)); (focus (exact fun _ _ _ h => h)); (focus rfl); (focus (intro w hSw; (try dsimp only at hSw); go_simp; (try with_reducible rfl); done)); (try simp only [Act.put, zPA, zPZ, zPS]))
        (refine zTK 12 (oi := ?_) (v := ?_) ?_ ?_ (Or.inl ⟨?_, ?_⟩) ?_; rotate_left 2; (focus (simp only [zGA, zGZ, zGS] <;> rfl)); (focus (exact fun _ _ _ h => h)); (focus rfl); (focus (intro w hSw; (try dsimp only at hSw); go_simp; (try with_reducible rfl); done)); (try simp only [Act.put, zPA, zPZ, zPS]))
        refine wpAnyH_ready (rs := [13]) (by kernel_rfl) (by simp) ?_
        refine AllReadyH.cons (o := ?_) ?_ ?_ AllReadyH.nil
        rotate_left 1
        (focus (simp only [zGA, zGZ, zGS] <;> rfl))
        intro K hK
        go_simp
        refine hK.out _ _ ?_ (fun hHeld => ?_)
        · exact HS5.out _ (q2.alloc _)
        clear hK K
        (try simp only [Act.put, zPA, zPZ, zPS])
        have qd3 : Quiet wb (d2.alloc (.cells #[.int .u64 0, .int .u64 0, .int .u64 0, .int .i64 0, .int .i64 0, .slice none 0 0] 106)) := q2.alloc _
        have hb1 := alloc_new d2 (.cells #[.int .u64 0, .int .u64 0, .int .u64 0, .int .i64 0, .int .i64 0, .slice none 0 0] 106)
        have hnp : wb.heap.size ≤ d2.heap.size := q2.size
        have hown := owns_kept hown ((Only.refl (fun _ => False) d2).alloc (.cells #[.int .u64 0, .int .u64 0, .int .u64 0, .int .i64 0, .int .i64 0, .slice none 0 0] 106)) (fun _ _ x => x)
        obtain ⟨pt, hpt⟩ : ∃ pt, d2.heap.size = pt := ⟨_, rfl⟩
        rw [hpt] at hb1 hnp ⊢
        generalize d2.alloc (.cells #[.int .u64 0, .int .u64 0, .int .u64 0, .int .i64 0, .int .i64 0, .slice none 0 0] 106) = d3 at *
        clear hpt
        have z0 := cell_of hb1 0
        have z1 := cell_of hb1 1
        have z2 := cell_of hb1 2
        have z3 := cell_of hb1 3
        have z4 := cell_of hb1 4
        have z5 := cell_of hb1 5
        have zf := fun o => frozen_of hb1 o
        simp only [zGA, zGS, zGZ] at z0 z1 z2 z3 z4 z5
        refine wpAnyH_ready (rs := [14]) (by kernel_rfl) (by simp) ?_
        refine AllReadyH.cons (o := ?_) ?_ ?_ AllReadyH.nil
        rotate_left 1
        (focus (simp only [zGA, zGZ, zGS] <;> rfl))
        intro K hK
        go_simp
        refine hK.out _ _ ?_ (fun hHeld => ?_)
        · exact HS5.out _ (got_leaf qd3 hb1 hnp hown hfn).quiet
        clear hK K
        (try simp only [Act.put, zPA, zPZ, zPS])
        have HG := got_leaf qd3 hb1 hnp hown hfn
        unfold sixSet at HG
        (refine zTK 15 (oi := ?_) (v := ?_) ?_ ?_ (Or.inl ⟨?_, ?_⟩) ?_; rotate_left 2; (focus (simp only [zGA, zGZ, zGS] <;> rfl)); (focus (exact fun _ _ _ h => h)); (focus rfl); (focus (intro w hSw; (try dsimp only at hSw); go_simp; (try with_reducible rfl); done)); (try simp only [Act.put, zPA, zPZ, zPS]))
        refine wpAnyH_done (by kernel_rfl) ?_ _
        generalize ((((((d3.setCell ⟨pt, 0, none⟩ (.int .u64 v.row)).setCell ⟨pt, 1, none⟩ (.int .u64 v.xmin)).setCell ⟨pt, 2, none⟩ (.int .u64 v.xmax)).setCell ⟨pt, 3, none⟩ (.int .i64 v.pg)).setCell ⟨pt, 4, none⟩ (.int .i64 v.sl)).setCell ⟨pt, 5, none⟩ (.slice A4 v.data.length c4)) = WF at HG ⊢
        exact KEY _ _ _ _ HG
      refine AllReadyH.cons (o := ?_) ?_ ?_ AllReadyH.nil
      rotate_left 1
      (focus (simp only [zGA, zGZ, zGS] <;> rfl))
      intro K hK
      go_simp
      refine hK.out _ _ ?_ (fun hHeld => ?_)
      · exact HS5.out _ (q0.alloc _)
      clear hK K
      (try simp only [Act.put, zPA, zPZ, zPS])
      have qd1 : Quiet wb (d0.alloc (.cells #[.int .u64 0, .int .u64 0, .int .u64 0, .int .i64 0, .int .i64 0, .slice none 0 0] 106)) := q0.alloc _
      have hb1 := alloc_new d0 (.cells #[.int .u64 0, .int .u64 0, .int .u64 0, .int .i64 0, .int .i64 0, .slice none 0 0] 106)
      have hnp : wb.heap.size ≤ d0.heap.size := q0.size
      obtain ⟨pt, hpt⟩ : ∃ pt, d0.heap.size = pt := ⟨_, rfl⟩
      rw [hpt] at hb1 hnp ⊢
      generalize d0.alloc (.cells #[.int .u64 0, .int .u64 0, .int .u64 0, .int .i64 0, .int .i64 0, .slice none 0 0] 106) = d1 at *
      clear hpt
      refine wpAnyH_ready (rs := [9]) (by kernel_rfl) (by simp) ?_
      refine AllReadyH.cons (o := ?_) ?_ ?_ AllReadyH.nil
      rotate_left 1
      (focus (simp only [zGA, zGZ, zGS] <;> rfl))
      intro K hK
      go_simp
      go_at_call 44
      refine (HGET.out _ qd1).mono ?_
      rintro e d2 ⟨A4, c4, rfl, hf4⟩
      have q2 := qd1.trans hf4.quiet
      have hb2 := hf4.quiet.get hb1 (fun x => x)
      have hown := hf4.own
      have hfn : ∀ k, (Value.slice A4 v.data.length c4).ownBlock = some k → wb.heap.size ≤ k := fun k e => Nat.le_trans (qd1).size (hf4.new k e)
      clear hf4
      unfold tupV
      dsimp only
      refine hK.out _ _ ?_ (fun hHeld => ?_)
      · exact HS5.out _ q2
      clear hK K
      (try simp only [Act.put, zPA, zPZ, zPS])
      have z0 := cell_of hb2 0
      have z1 := cell_of hb2 1
      have z2 := cell_of hb2 2
      have z3 := cell_of hb2 3
      have z4 := cell_of hb2 4
      have z5 := cell_of hb2 5
      have zf := fun o => frozen_of hb2 o
      simp only [zGA, zGS, zGZ] at z0 z1 z2 z3 z4 z5
      (refine zTK 10 (oi := ?_) (v := ?_) ?_ ?_ (Or.inl ⟨?_, ?_⟩) ?_; rotate_left 2; (focus (simp only [zGA, zGZ, zGS] <;> rfl)); (focus (exact fun _ _ _ h => h)); (focus rfl); (focus (intro w hSw; (try dsimp only at hSw); go_simp; (try with_reducible rfl); done)); (try simp only [Act.put, zPA, zPZ, zPS]))
      (refine zTK 11 (oi := ?_) (v := ?_) ?_ ?_ (Or.inl ⟨?_, ?_⟩) ?_; rotate_left 2; (focus (simp only [zGA, zGZ, zGS] <;> rfl)); (focus (exact fun _ _ _ h => h)); (focus rfl); (focus (intro w hSw; (try dsimp only at hSw); go_simp; (try with_reducible rfl); done)); (try simp only [Act.put, zPA, zPZ, zPS]))
      (refine zTK 12 (oi := ?_) (v := ?_) ?_ ?_ (Or.inl ⟨?_, ?_⟩) ?_; rotate_left 2; (focus (simp only [zGA, zGZ, zGS] <;> rfl)); (focus (exact fun _ _ _ h => h)); (focus rfl); (focus (intro w hSw; (try dsimp only at hSw); go_simp; (try with_reducible rfl); done)); (try simp only [Act.put, zPA, zPZ, zPS]))
      refine wpAnyH_ready (rs := [14]) (by kernel_rfl) (by simp) ?_
      refine AllReadyH.cons (o := ?_) ?_ ?_ AllReadyH.nil
      rotate_left 1
      (focus (simp only [zGA, zGZ, zGS] <;> rfl))
      intro K hK
      go_simp
      refine hK.out _ _ ?_ (fun hHeld => ?_)
      · exact HS5.out _ (got_leaf q2 hb2 hnp hown hfn).quiet
      clear hK K
      (try simp only [Act.put, zPA, zPZ, zPS])
      have HG := got_leaf q2 hb2 hnp hown hfn
      unfold sixSet at HG
      (refine zTK 15 (oi := ?_) (v := ?_) ?_ ?_ (Or.inl ⟨?_, ?_⟩) ?_; rotate_left 2; (focus (simp only [zGA, zGZ, zGS] <;> rfl)); (focus (exact fun _ _ _ h => h)); (focus rfl); (focus (intro w hSw; (try dsimp only at hSw); go_simp; (try with_reducible rfl); done)); (try simp only [Act.put, zPA, zPZ, zPS]))
      refine wpAnyH_done (by kernel_rfl) ?_ _
      generalize ((((((d2.setCell ⟨pt, 0, none⟩ (.int .u64 v.row)).setCell ⟨pt, 1, none⟩ (.int .u64 v.xmin)).setCell ⟨pt, 2, none⟩ (.int .u64 v.xmax)).setCell ⟨pt, 3, none⟩ (.int .i64 v.pg)).setCell ⟨pt, 4, none⟩ (.int .i64 v.sl)).setCell ⟨pt, 5, none⟩ (.slice A4 v.data.length c4)) = WF at HG ⊢
      exact KEY _ _ _ _ HG
  case key =>
    intro A4 c4 pt W HL0
    have HL := Lib.hid HL0
    clear HL0 HS5 HGET
    have HQW : Hid (Quiet w W) := HQ0.out.trans HL.out.quiet
    have HNP : Hid (pt ≠ r8) := fun e => by have := HL.out.new; have := lt_of_get HB8.out; omega
    have HS4 : Hid (∀ W', Only (fun k => k = r8) W W' → (fun w' => w'.cell? ⟨sb, 0, none⟩ = some (ptrV lb) ∧ w'.cell? ⟨r5, 0, none⟩ = some (.int .u64 (y.own : Int)) ∧ w'.cell? ⟨r5, 1, none⟩ = some (.int .u64 (y.xmin : Int)) ∧ w'.cell? ⟨r5, 2, none⟩ = some (.int .u64 (y.xmax : Int)) ∧ w'.cell? ⟨r5, 3, none⟩ = some (.slice A y.run.length cy) ∧ w'.cell? ⟨pt, 0, none⟩ = some (.int .u64 v.row) ∧ w'.cell? ⟨pt, 1, none⟩ = some (.int .u64 v.xmin) ∧ w'.cell? ⟨pt, 2, none⟩ = some (.int .u64 v.xmax) ∧ w'.cell? ⟨pt, 3, none⟩ = some (.int .i64 v.pg) ∧ w'.cell? ⟨pt, 4, none⟩ = some (.int .i64 v.sl) ∧ w'.cell? ⟨pt, 5, none⟩ = some (.slice A4 v.data.length c4)) W') := fun W' hq => by
      have b5 := hq.get (HL.out.quiet.get HB5.out (fun x => x)) (fun x => HNE.out.1 x)
      have bt := hq.get HL.out.box (fun x => HNP.out x)
      have hsn := snapBox_cells b5
      have c0 := hq.cell ((HH.out.quietly HQW.out).cells.1) (fun x => by have := lt_of_get HH.out.box; have := HNE.out.2; simp only at x; omega)
      refine ⟨c0, hsn.1, hsn.2.1, hsn.2.2.1, hsn.2.2.2, ?_, ?_, ?_, ?_, ?_, ?_⟩ <;> (rw [cell_of bt]; rfl)
    have HFREE : Hid (∀ W', Quiet W W' → Calls Tryz.prog 112 #[ptrV lb, snapV y A cy, tupV v A4 c4] W' (fun e w' => e = .returned (.int .i64 (code : Int)) ∧ Quiet W' w')) := fun W' hq => by
      rw [← HCODE.out]
      have hq2 := HQW.out.trans hq
      exact snap_free v A4 c4 (HH.out.quietly hq2).log (HS.out.kept hq2 (fun _ _ x => x)) HV1.out.1 HV1.out.2
    unfold snapV tupV at HFREE
    have HB8' := Lib.hid (HL.out.quiet.get HB8.out (fun x => x))
    have t0 := HL.out.cells.1
    have r0 : W.cell? ⟨r7, 0, none⟩ = some (.int .u64 v.row) := by rw [cell_of (HL.out.quiet.get HB7.out (fun x => x))]; rfl
    clear HB8
    have HB8 := HB8'
    clear HB8'
    go_wp2_with fail
    clear t0 r0
    refine wp_region_held_drew (S := (fun w' => w'.cell? ⟨sb, 0, none⟩ = some (ptrV lb) ∧ w'.cell? ⟨r5, 0, none⟩ = some (.int .u64 (y.own : Int)) ∧ w'.cell? ⟨r5, 1, none⟩ = some (.int .u64 (y.xmin : Int)) ∧ w'.cell? ⟨r5, 2, none⟩ = some (.int .u64 (y.xmax : Int)) ∧ w'.cell? ⟨r5, 3, none⟩ = some (.slice A y.run.length cy) ∧ w'.cell? ⟨pt, 0, none⟩ = some (.int .u64 v.row) ∧ w'.cell? ⟨pt, 1, none⟩ = some (.int .u64 v.xmin) ∧ w'.cell? ⟨pt, 2, none⟩ = some (.int .u64 v.xmax) ∧ w'.cell? ⟨pt, 3, none⟩ = some (.int .i64 v.pg) ∧ w'.cell? ⟨pt, 4, none⟩ = some (.int .i64 v.sl) ∧ w'.cell? ⟨pt, 5, none⟩ = some (.slice A4 v.data.length c4))) (by kernel_rfl) (HS4.out _ (Only.refl _ _).drew) (fun hHeld => ?_)
    simp only [List.size_toArray, List.length_cons, List.length_nil, Nat.reduceAdd]
    have q6 : Quiet W W.drew := (Only.refl _ _).drew
    generalize W.drew = d6 at q6 hHeld ⊢
    (refine zTK 0 (oi := ?_) (v := ?_) ?_ ?_ (Or.inl ⟨?_, ?_⟩) ?_; rotate_left 2; (focus (simp only [zGA, zGZ, zGS] <;> rfl)); (focus (exact fun _ _ _ h => h)); (focus rfl); (focus (intro w hSw; (try dsimp only at hSw); go_simp; (try with_reducible rfl); done)); (try simp only [Act.put, zPA, zPZ, zPS]))
    (refine zTK 1 (oi := ?_) (v := ?_) ?_ ?_ (Or.inl ⟨?_, ?_⟩) ?_; rotate_left 2; (focus (simp only [zGA, zGZ, zGS] <;> rfl)); (focus (exact fun _ _ _ h => h)); (focus rfl); (focus (intro w hSw; (try dsimp only at hSw); go_simp; (try with_reducible rfl); done)); (try simp only [Act.put, zPA, zPZ, zPS]))
    (refine zTK 2 (oi := ?_) (v := ?_) ?_ ?_ (Or.inl ⟨?_, ?_⟩) ?_; rotate_left 2; (focus (simp only [zGA, zGZ, zGS] <;> rfl)); (focus (exact fun _ _ _ h => h)); (focus rfl); (focus (intro w hSw; (try dsimp only at hSw); go_simp; (try with_reducible rfl); done)); (try simp only [Act.put, zPA, zPZ, zPS]))
    (refine zTK 3 (oi := ?_) (v := ?_) ?_ ?_ (Or.inl ⟨?_, ?_⟩) ?_; rotate_left 2; (focus (simp only [zGA, zGZ, zGS] <;> rfl)); (focus (exact fun _ _ _ h => h)); (focus rfl); (focus (intro w hSw; (try dsimp only at hSw); go_simp; (try with_reducible rfl); done)); (try simp only [Act.put, zPA, zPZ, zPS]))
    (refine zTK 4 (oi := ?_) (v := ?_) ?_ ?_ (Or.inl ⟨?_, ?_⟩) ?_; rotate_left 2; (focus (simp only [zGA, zGZ, zGS] <;> rfl)); (focus (exact fun _ _ _ h => h)); (focus rfl); (focus (intro w hSw; (try dsimp only at hSw); go_simp; (try with_reducible rfl); done)); (try simp only [Act.put, zPA, zPZ, zPS]))
    (refine zTK 5 (oi := ?_) (v := ?_) ?_ ?_ (Or.inl ⟨?_, ?_⟩) ?_; rotate_left 2; (focus (simp only [zGA, zGZ, zGS] <;> rfl)); (focus (exact fun _ _ _ h => h)); (focus rfl); (focus (intro w hSw; (try dsimp only at hSw); go_simp; (try with_reducible rfl); done)); (try simp only [Act.put, zPA, zPZ, zPS]))
    (refine zTK 6 (oi := ?_) (v := ?_) ?_ ?_ (Or.inl ⟨?_, ?_⟩) ?_; rotate_left 2; (focus (simp only [zGA, zGZ, zGS] <;> rfl)); (focus (exact fun _ _ _ h => h)); (focus rfl); (focus (intro w hSw; (try dsimp only at hSw); go_simp; (try with_reducible rfl); done)); (try simp only [Act.put, zPA, zPZ, zPS]))
    refine wpAnyH_ready (rs := [7]) (by kernel_rfl) (by simp) ?_
    refine AllReadyH.cons (o := ?_) ?_ ?_ AllReadyH.nil
    rotate_left 1
    (focus (simp only [zGA, zGZ, zGS] <;> rfl))
    intro K hK
    go_simp
    go_at_call 112
    refine (HFREE.out _ q6).mono ?_
    rintro e d7 ⟨rfl, hq7⟩
    have q7 := q6.trans hq7
    clear hq7
    have h8 := q7.get HB8.out (fun x => x)
    have e0 := cell_of h8 0
    have e1 := cell_of h8 1
    have e2 := cell_of h8 2
    have e3 := cell_of h8 3
    have e4 := cell_of h8 4
    have e5 := cell_of h8 5
    have ef := fun o => frozen_of h8 o
    simp only [zGA, zGS, zGZ] at e0 e1 e2 e3 e4 e5
    dsimp only
    refine hK.out _ _ ?_ (fun hHeld => ?_)
    · exact HS4.out _ (q7.mono (fun _ _ x => x.elim))
    clear hK K
    (try simp only [Act.put, zPA, zPZ, zPS])
    refine wpAnyH_ready (rs := [8]) (by kernel_rfl) (by simp) ?_
    refine AllReadyH.cons (o := ?_) ?_ ?_ AllReadyH.nil
    rotate_left 1
    (focus (simp only [zGA, zGZ, zGS] <;> rfl))
    intro K hK
    go_simp
    refine hK.out _ _ ?_ (fun hHeld => ?_)
    · exact HS4.out _ ((q7.mono (T := fun k => k = r8) (fun _ _ x => x.elim)).trans' (sixSet_only d7 r8 (.int .u64 v.row) (.int .u64 v.xmin) (.int .u64 v.xmax) (.int .i64 v.pg) (.int .i64 v.sl) (.slice A4 v.data.length c4)) (fun k _ e => e))
    clear hK K
    (try simp only [Act.put, zPA, zPZ, zPS])
    (refine zTK 9 (oi := ?_) (v := ?_) ?_ ?_ (Or.inl ⟨?_, ?_⟩) ?_; rotate_left 2; (focus (simp only [zGA, zGZ, zGS] <;> rfl)); (focus (exact fun _ _ _ h => h)); (focus rfl); (focus (intro w hSw; (try dsimp only at hSw); go_simp; (try with_reducible rfl); done)); (try simp only [Act.put, zPA, zPZ, zPS]))
    refine wpAnyH_done (by kernel_rfl) ?_ _
    have HX : Hid ((sixSet d7 r8 (.int .u64 v.row) (.int .u64 v.xmin) (.int .u64 v.xmax) (.int .i64 v.pg) (.int .i64 v.sl) (.slice A4 v.data.length c4)).heap[r8]? = some (.cells #[.int .u64 v.row, .int .u64 v.xmin, .int .u64 v.xmax, .int .i64 v.pg, .int .i64 v.sl, .slice A4 v.data.length c4] 106 (0, 0))) := sixSet_same h8 _ _ _ _ _ _
    have HP : Hid (VersPost w v code (.returned (.tuple #[tupV v A4 c4, .int .i64 (code : Int)])) (sixSet d7 r8 (.int .u64 v.row) (.int .u64 v.xmin) (.int .u64 v.xmax) (.int .i64 v.pg) (.int .i64 v.sl) (.slice A4 v.data.length c4))) := ⟨A4, c4, rfl, (HQW.out.trans q7).trans' (sixSet_only d7 r8 (.int .u64 v.row) (.int .u64 v.xmin) (.int .u64 v.xmax) (.int .i64 v.pg) (.int .i64 v.sl) (.slice A4 v.data.length c4)) (fun k hk e => by have := HNE.out.2; omega)⟩
    unfold sixSet at HX HP
    clear hHeld q6 q7 h8 e0 e1 e2 e3 e4 e5 ef
    unfold tupV at HP
    go_wp2
    exact bodyPost_ret (results_cell_tmp Tryz.results63 _ _ r8 _ _ (0, 0) _ (by rfl) HX.out Tryz.underlying106 rfl info_tup) (by rfl) HP.out

end Go.Proofs.YtaijnpgoiagboaaGreatDoor

namespace Go.Proofs.YtaijnpgoiagboaaGreatDoor
open Go.RowKit Go.Lap

/-- A heap turned. -/
def putSt (s : St) (id : Nat) (H' : List (List (Option Tup))) (left' : Nat) : St := { s with left := left', hs := upd s.hs id (some H') }

/-- What put tells. -/
def PutPost (w : World) (sb : Nat) (o : Nat → Nat) (s' : St) (p q : Int) (e : Ending) (w' : World) : Prop := e = .returned (.tuple #[.agg #[.int .i64 p, .int .i64 q], .int .i64 0]) ∧ StepTo w sb o s' w'

structure PutLeaf (wb W : World) (pt hb pb left' : Nat) (p q : Int) (G : Nat → Prop) (H' : List (List (Option Tup))) : Prop where
  only : Only (fun k => G k ∨ k = pb) wb W
  box : W.heap[pt]? = some (.cells #[.int .i64 p, .int .i64 q] 50 (0, 0))
  new : wb.heap.size ≤ pt
  pool : PoolAt W pb left'
  heap : HeapIs W hb pb (fun k => G k ∨ (wb.heap.size ≤ k ∧ k ≠ pt)) H'

theorem put_leaf {wb w1 : World} {pt hb pb left' : Nat} {p q : Int} {G : Nat → Prop} {H' : List (List (Option Tup))} {c0 c1 : Value} (hq : Only (fun k => G k ∨ k = pb) wb w1) (h1 : w1.heap[pt]? = some (.cells #[c0, c1] 50 (0, 0))) (hn : wb.heap.size ≤ pt)
    (hp : PoolAt w1 pb left') (hh : HeapIs w1 hb pb (fun k => G k ∨ (wb.heap.size ≤ k ∧ k ≠ pt)) H') (hG : ∀ k, wb.heap.size ≤ k → ¬ (G k ∨ k = pb)) :
    PutLeaf wb ((w1.setCell ⟨pt, 0, none⟩ (.int .i64 p)).setCell ⟨pt, 1, none⟩ (.int .i64 q)) pt hb pb left' p q G H' := by
  have ho := two_only w1 pt (.int .i64 p) (.int .i64 q)
  refine ⟨hq.trans' ho (fun k hk e => by omega), two_set h1 _ _, hn, hp.kept ho (fun e => hG _ hn (Or.inr e.symm)), hh.kept ho (fun k x e => ?_)⟩
  rcases x with x | x
  · exact hG k (by omega) (Or.inl x)
  · exact x.2 e

theorem put_key {goal : Prop} {wb : World} {hb pb left' : Nat} {p q : Int} {Gw : Nat → Prop} {H' : List (List (Option Tup))} {G : Nat → World → Prop} (main : (∀ pt W, PutLeaf wb W pt hb pb left' p q Gw H' → G pt W) → goal) (key : ∀ pt W, PutLeaf wb W pt hb pb left' p q Gw H' → G pt W) : goal := main key

theorem put_new3 (w : World) (a b c : Obj) : Quiet w (((w.alloc a).alloc b).alloc c) ∧ (((w.alloc a).alloc b).alloc c).heap[w.heap.size]? = some a ∧ (((w.alloc a).alloc b).alloc c).heap[w.heap.size + 1]? = some b ∧ (((w.alloc a).alloc b).alloc c).heap[w.heap.size + 1 + 1]? = some c := by
  refine ⟨(((Only.refl _ _).alloc _).alloc _).alloc _, alloc_old (alloc_old (alloc_new w a) b) c, alloc_old (two_new w a b) c, ?_⟩
  have := alloc_new ((w.alloc a).alloc b) c
  simp only [World.size_alloc] at this
  exact this

set_option maxHeartbeats 4000000 in
set_option maxRecDepth 100000 in
theorem store_put0 {w : World} {sb c2 cd left' : Nat} {o : Nat → Nat} {s : St} {t : TE} {Sd : Nat → Prop} {A A2 : Option Addr} {H H' : List (List (Option Tup))} {p q : Int} {v : Tup} (h : StoreAt w sb o s) (hI : s.I = []) (hid : U64 t.id) (hH : s.hs t.id = some H) (hle : H.length + s.left ≤ 256)
    (hby : ∀ x ∈ v.data, x < 256) (hd : Rd w Sd 1 A v.data.length (bytesV v.data)) (hS : ∀ k, Sd k → o k = 0) (hins : hIns H s.left v = ((p, q, 0), H', left')) :
    Calls Tryz.prog 61 #[ptrV sb, tabV t A2 c2, tupV v A cd] w (PutPost w sb o (putSt s t.id H' left') p q) := by
  obtain ⟨lb, bb, pb, mh, mt, ms, fh, ft, fs, h⟩ := h
  obtain ⟨hb, hf, hp⟩ := h.heaps.2 t.id H hH
  have HH := Lib.hid h
  have HP := Lib.hid hp
  have HF := Lib.hid hf
  have HID := Lib.hid hid
  have HD := Lib.hid hd
  have HI := Lib.hid hI
  have HIN := Lib.hid hins
  have HBY := Lib.hid hby
  have HSD := Lib.hid hS
  have HLE := Lib.hid hle
  obtain ⟨q0, b4, b5, b6⟩ := put_new3 w (.cells #[.int .u64 (t.id : Int), .string t.name, .slice A2 t.cols.length c2, .int .u64 (t.xmin : Int), .int .u64 (t.xmax : Int)] 37) (.cells #[.int .u64 v.row, .int .u64 v.xmin, .int .u64 v.xmax, .int .i64 v.pg, .int .i64 v.sl, .slice A v.data.length cd] 106) (.cells #[.int .i64 0, .int .i64 0] 50)
  have HQ0 := Lib.hid q0
  have HB4 := Lib.hid b4
  have HB5 := Lib.hid b5
  have HB6 := Lib.hid b6
  obtain ⟨r4, hr4⟩ : ∃ r4, w.heap.size = r4 := ⟨_, rfl⟩
  obtain ⟨r5, hr5⟩ : ∃ r5, r4 + 1 = r5 := ⟨_, rfl⟩
  obtain ⟨r6, hr6⟩ : ∃ r6, r5 + 1 = r6 := ⟨_, rfl⟩
  rw [hr4] at HB4 HB5 HB6
  rw [hr5] at HB5 HB6
  rw [hr6] at HB6
  have HR6 : Hid (w.heap.size ≤ r6 ∧ w.heap.size ≤ r4 ∧ w.heap.size ≤ r5) := ⟨by omega, by omega, by omega⟩
  clear h hp hf hid hd hI hins hby hS hH q0 b4 b5 b6 hle
  unfold tabV tupV
  go_enter Tryz.func61, Tryz.ntmps61
  go_wp2_with fail
  (try simp only [World.size_alloc] at *)
  (try rw [hr4]); (try rw [hr5]); (try rw [hr6])
  generalize ((w.alloc (.cells #[.int .u64 (t.id : Int), .string t.name, .slice A2 t.cols.length c2, .int .u64 (t.xmin : Int), .int .u64 (t.xmax : Int)] 37)).alloc (.cells #[.int .u64 v.row, .int .u64 v.xmin, .int .u64 v.xmax, .int .i64 v.pg, .int .i64 v.sl, .slice A v.data.length cd] 106)).alloc (.cells #[.int .i64 0, .int .i64 0] 50) = wb at *
  have HBIG : Hid (∀ k, w.heap.size ≤ k → o k = 0) := HH.out.big
  have HPB : Hid (pb < w.heap.size) := HH.out.pool.lt
  have HGN : Hid (∀ k, wb.heap.size ≤ k → ¬ (o k = 10 + 2 * t.id ∨ k = pb)) := fun k hk x => by
    have := HBIG.out k (by have := HQ0.out.size; omega)
    have := HPB.out
    have := HQ0.out.size
    rcases x with x | x <;> omega
  have HS5 : Hid (∀ W, Only (fun k => o k = 10 + 2 * t.id ∨ k = pb) wb W → (fun w' => w'.cell? ⟨sb, 3, none⟩ = some (.map (some mh)) ∧ w'.cell? ⟨r4, 0, none⟩ = some (.int .u64 (t.id : Int)) ∧ w'.cell? ⟨r5, 0, none⟩ = some (.int .u64 v.row) ∧ w'.cell? ⟨r5, 1, none⟩ = some (.int .u64 v.xmin) ∧ w'.cell? ⟨r5, 2, none⟩ = some (.int .u64 v.xmax) ∧ w'.cell? ⟨r5, 3, none⟩ = some (.int .i64 v.pg) ∧ w'.cell? ⟨r5, 4, none⟩ = some (.int .i64 v.sl) ∧ w'.cell? ⟨r5, 5, none⟩ = some (.slice A v.data.length cd) ∧ (Instr.lookup 82 (.map (some mh)) (.int .u64 (t.id : Int)) false).run Tryz.prog w' = .ok (ptrV hb) w') W) := fun W hq => by
    have h2 := HH.out.quietly HQ0.out
    obtain ⟨t1, t2, t3, t4, t5⟩ := h2.tags
    have b4 := hq.get HB4.out (fun x => by have := HBIG.out r4 HR6.out.2.1; have := HPB.out; have := HR6.out; rcases x with x | x <;> omega)
    have b5 := hq.get HB5.out (fun x => by have := HBIG.out r5 HR6.out.2.2; have := HPB.out; have := HR6.out; rcases x with x | x <;> omega)
    have c3 := hq.cell h2.cells.2.2.2.1 (fun x => by dsimp only at x; rcases x with x | x; omega; rw [x] at t1; omega)
    have hm := h2.mH.kept hq (fun x => by rcases x with x | x; omega; rw [x] at t3; omega)
    refine ⟨c3, (tabBox_cells b4).1, ?_, ?_, ?_, ?_, ?_, ?_, look_heap hm HF.out HID.out⟩ <;> (rw [cell_of b5]; rfl)
  have HINS : Hid (∀ W, Quiet wb W → Calls Tryz.prog 111 #[ptrV hb, .agg #[.int .u64 v.row, .int .u64 v.xmin, .int .u64 v.xmax, .int .i64 v.pg, .int .i64 v.sl, .slice A v.data.length cd]] W (fun e w' => e = .returned (.tuple #[.agg #[.int .i64 p, .int .i64 q], .int .i64 0]) ∧ Only (fun k => o k = 10 + 2 * t.id ∨ k = pb) W w' ∧ PoolAt w' pb left' ∧ HeapIs w' hb pb (fun k => o k = 10 + 2 * t.id ∨ W.heap.size ≤ k) H')) := fun W hq => by
    have hq2 := HQ0.out.trans hq
    have := heap_insert s.left v A cd Sd (HP.out.kept hq2 (fun _ _ x => x)) (HH.out.pool.kept hq2 (fun x => x)) HLE.out HBY.out (HD.out.kept hq2 (fun _ _ x => x)) (fun k hk => ⟨fun x => by have := HSD.out k hk; omega, fun x => by have := HSD.out k hk; have := HH.out.tags.2.1; rw [x] at *; omega⟩)
    rw [HIN.out] at this
    exact this
  clear hr4 hr5 hr6
  apply put_key (wb := wb) (hb := hb) (pb := pb) (left' := left') (p := p) (q := q) (Gw := fun k => o k = 10 + 2 * t.id) (H' := H')
  case main =>
      intro KEY
      refine wp_region_held_drew (S := (fun w' => w'.cell? ⟨sb, 3, none⟩ = some (.map (some mh)) ∧ w'.cell? ⟨r4, 0, none⟩ = some (.int .u64 (t.id : Int)) ∧ w'.cell? ⟨r5, 0, none⟩ = some (.int .u64 v.row) ∧ w'.cell? ⟨r5, 1, none⟩ = some (.int .u64 v.xmin) ∧ w'.cell? ⟨r5, 2, none⟩ = some (.int .u64 v.xmax) ∧ w'.cell? ⟨r5, 3, none⟩ = some (.int .i64 v.pg) ∧ w'.cell? ⟨r5, 4, none⟩ = some (.int .i64 v.sl) ∧ w'.cell? ⟨r5, 5, none⟩ = some (.slice A v.data.length cd) ∧ (Instr.lookup 82 (.map (some mh)) (.int .u64 (t.id : Int)) false).run Tryz.prog w' = .ok (ptrV hb) w')) (by kernel_rfl) (HS5.out _ ((Only.refl _ _).drew)) (fun hHeld => ?_)
      simp only [List.size_toArray, List.length_cons, List.length_nil, Nat.reduceAdd]
      have q0 : Quiet wb wb.drew := (Only.refl _ _).drew
      generalize wb.drew = d0 at q0 hHeld ⊢
      (refine zTK 0 (oi := ?_) (v := ?_) ?_ ?_ (Or.inl ⟨?_, ?_⟩) ?_; rotate_left 2; (focus (simp only [zGA, zGZ, zGS] <;> rfl)); (focus (exact fun _ _ _ h => h)); (focus rfl); (focus (intro w hSw; (try dsimp only at hSw); go_simp; (try with_reducible rfl); done)); (try simp only [Act.put, zPA, zPZ, zPS]))
      (refine zTK 1 (oi := ?_) (v := ?_) ?_ ?_ (Or.inl ⟨?_, ?_⟩) ?_; rotate_left 2; (focus (simp only [zGA, zGZ, zGS] <;> rfl)); (focus (exact fun _ _ _ h => h)); (focus rfl); (focus (intro w hSw; (try dsimp only at hSw); go_simp; (try with_reducible rfl); done)); (try simp only [Act.put, zPA, zPZ, zPS]))
      (refine zTK 2 (oi := ?_) (v := ?_) ?_ ?_ (Or.inl ⟨?_, ?_⟩) ?_; rotate_left 2; (focus (simp only [zGA, zGZ, zGS] <;> rfl)); (focus (exact fun _ _ _ h => h)); (focus rfl); (focus (intro w hSw; (try dsimp only at hSw); go_simp; (try with_reducible rfl); done)); (try simp only [Act.put, zPA, zPZ, zPS]))
      (refine zTK 3 (oi := ?_) (v := ?_) ?_ ?_ (Or.inl ⟨?_, ?_⟩) ?_; rotate_left 2; (focus (simp only [zGA, zGZ, zGS] <;> rfl)); (focus (exact fun _ _ _ h => h)); (focus rfl); (focus (intro w hSw; (try dsimp only at hSw); go_simp; (try with_reducible rfl); done)); (try simp only [Act.put, zPA, zPZ, zPS]))
      (refine zTK 4 (oi := ?_) (v := ?_) ?_ ?_ (Or.inl ⟨?_, ?_⟩) ?_; rotate_left 2; (focus (simp only [zGA, zGZ, zGS] <;> rfl)); (focus (exact fun _ _ _ h => h)); (focus rfl); (focus (intro w hSw; (try dsimp only at hSw); go_simp; (try with_reducible rfl); done)); (try simp only [Act.put, zPA, zPZ, zPS]))
      (refine zTK 5 (oi := ?_) (v := ?_) ?_ ?_ (Or.inl ⟨?_, ?_⟩) ?_; rotate_left 2; (focus (simp only [zGA, zGZ, zGS] <;> rfl)); (focus (exact fun _ _ _ h => h)); (focus rfl); (focus (intro w hSw; (try dsimp only at hSw); go_simp; (try with_reducible rfl); done)); (try simp only [Act.put, zPA, zPZ, zPS]))
      (refine zTK 6 (oi := ?_) (v := ?_) ?_ ?_ (Or.inl ⟨?_, ?_⟩) ?_; rotate_left 2; (focus (simp only [zGA, zGZ, zGS] <;> rfl)); (focus (exact fun _ _ _ h => h)); (focus rfl); (focus (intro w hSw; (try dsimp only at hSw); go_simp; (try with_reducible rfl); done)); (try simp only [Act.put, zPA, zPZ, zPS]))
      (refine zTK 7 (oi := ?_) (v := ?_) ?_ ?_ (Or.inl ⟨?_, ?_⟩) ?_; rotate_left 2; (focus (simp only [zGA, zGZ, zGS] <;> rfl)); (focus (exact fun _ _ _ h => h)); (focus rfl); (focus (intro w hSw; (try dsimp only at hSw); go_simp; (try with_reducible rfl); done)); (try simp only [Act.put, zPA, zPZ, zPS]))
      refine wpAnyH_ready (rs := [8, 12]) (by kernel_rfl) (by simp) ?_
      refine AllReadyH.cons (o := ?_) ?_ ?_ ?_
      rotate_left 1
      (focus (simp only [zGA, zGZ, zGS] <;> rfl))
      · intro K hK
        go_simp
        go_at_call 111
        refine (HINS.out _ q0).mono ?_
        rintro e d2 ⟨rfl, hi1, hi2, hi3⟩
        have q2 := (q0.mono (T := (fun k => o k = 10 + 2 * t.id ∨ k = pb)) (fun _ _ x => x.elim)).trans hi1
        have hheap := hi3.lim
        have hpool := hi2
        clear hi1 hi2 hi3
        dsimp only
        refine hK.out _ _ ?_ (fun hHeld => ?_)
        · exact HS5.out _ q2
        clear hK K
        (try simp only [Act.put, zPA, zPZ, zPS])
        (refine zTK 9 (oi := ?_) (v := ?_) ?_ ?_ (Or.inl ⟨?_, ?_⟩) ?_; rotate_left 2; (focus (simp only [zGA, zGZ, zGS] <;> rfl)); (focus (exact fun _ _ _ h => h)); (focus rfl); (focus (intro w hSw; (try dsimp only at hSw); go_simp; (try with_reducible rfl); done)); (try simp only [Act.put, zPA, zPZ, zPS]))
        (refine zTK 10 (oi := ?_) (v := ?_) ?_ ?_ (Or.inl ⟨?_, ?_⟩) ?_; rotate_left 2; (focus (simp only [zGA, zGZ, zGS] <;> rfl)); (focus (exact fun _ _ _ h => h)); (focus rfl); (focus (intro w hSw; (try dsimp only at hSw); go_simp; (try with_reducible rfl); done)); (try simp only [Act.put, zPA, zPZ, zPS]))
        (refine zTK 11 (oi := ?_) (v := ?_) ?_ ?_ (Or.inl ⟨?_, ?_⟩) ?_; rotate_left 2; (focus (simp only [zGA, zGZ, zGS] <;> rfl)); (focus (exact fun _ _ _ h => h)); (focus rfl); (focus (intro w hSw; (try dsimp only at hSw); go_simp; (try with_reducible rfl); done)); (try simp only [Act.put, zPA, zPZ, zPS]))
        refine wpAnyH_ready (rs := [12]) (by kernel_rfl) (by simp) ?_
        refine AllReadyH.cons (o := ?_) ?_ ?_ AllReadyH.nil
        rotate_left 1
        (focus (simp only [zGA, zGZ, zGS] <;> rfl))
        intro K hK
        go_simp
        refine hK.out _ _ ?_ (fun hHeld => ?_)
        · exact HS5.out _ (q2.alloc _)
        clear hK K
        (try simp only [Act.put, zPA, zPZ, zPS])
        have qd3 := q2.alloc (.cells #[.int .i64 0, .int .i64 0] 50)
        have hb1 := alloc_new d2 (.cells #[.int .i64 0, .int .i64 0] 50)
        have hnp : wb.heap.size ≤ d2.heap.size := q2.size
        have hpool := hpool.kept ((Only.refl (fun _ => False) d2).alloc (.cells #[.int .i64 0, .int .i64 0] 50)) (fun x => x)
        have hheap := hheap.kept ((Only.refl (fun _ => False) d2).alloc (.cells #[.int .i64 0, .int .i64 0] 50)) (fun _ _ x => x)
        obtain ⟨pt, hpt⟩ : ∃ pt, d2.heap.size = pt := ⟨_, rfl⟩
        (try rw [hpt] at hb1)
        (try rw [hpt] at hnp)
        (try rw [hpt])
        (try rw [hpt] at hheap)
        have hheap : HeapIs (d2.alloc (.cells #[.int .i64 0, .int .i64 0] 50)) hb pb (fun k => o k = 10 + 2 * t.id ∨ (wb.heap.size ≤ k ∧ k ≠ pt)) H' := hheap.mono (fun k x => by rcases x.1 with y | y; exact Or.inl y; exact Or.inr ⟨by have := q0.size; omega, by omega⟩)
        generalize d2.alloc (.cells #[.int .i64 0, .int .i64 0] 50) = d3 at *
        clear hpt
        have z0 := cell_of hb1 0
        have z1 := cell_of hb1 1
        have zf := fun o => frozen_of hb1 o
        simp only [zGA, zGS, zGZ] at z0 z1
        refine wpAnyH_ready (rs := [13]) (by kernel_rfl) (by simp) ?_
        refine AllReadyH.cons (o := ?_) ?_ ?_ AllReadyH.nil
        rotate_left 1
        (focus (simp only [zGA, zGZ, zGS] <;> rfl))
        intro K hK
        go_simp
        refine hK.out _ _ ?_ (fun hHeld => ?_)
        · exact HS5.out _ (put_leaf qd3 hb1 hnp hpool hheap HGN.out (p := p) (q := q)).only
        clear hK K
        (try simp only [Act.put, zPA, zPZ, zPS])
        have HG := (put_leaf qd3 hb1 hnp hpool hheap HGN.out (p := p) (q := q))
        (refine zTK 14 (oi := ?_) (v := ?_) ?_ ?_ (Or.inl ⟨?_, ?_⟩) ?_; rotate_left 2; (focus (simp only [zGA, zGZ, zGS] <;> rfl)); (focus (exact fun _ _ _ h => h)); (focus rfl); (focus (intro w hSw; (try dsimp only at hSw); go_simp; (try with_reducible rfl); done)); (try simp only [Act.put, zPA, zPZ, zPS]))
        refine wpAnyH_done (by kernel_rfl) ?_ _
        generalize (d3.setCell ⟨pt, 0, none⟩ (.int .i64 p)).setCell ⟨pt, 1, none⟩ (.int .i64 q) = WF at HG ⊢
        exact KEY _ _ HG
      refine AllReadyH.cons (o := ?_) ?_ ?_ AllReadyH.nil
      rotate_left 1
      (focus (simp only [zGA, zGZ, zGS] <;> rfl))
      intro K hK
      go_simp
      refine hK.out _ _ ?_ (fun hHeld => ?_)
      · exact HS5.out _ ((q0.alloc _).mono (fun _ _ x => x.elim))
      clear hK K
      (try simp only [Act.put, zPA, zPZ, zPS])
      have qd1 := q0.alloc (.cells #[.int .i64 0, .int .i64 0] 50)
      have hb1 := alloc_new d0 (.cells #[.int .i64 0, .int .i64 0] 50)
      have hnp : wb.heap.size ≤ d0.heap.size := q0.size
      have hnz : (d0.alloc (.cells #[.int .i64 0, .int .i64 0] 50)).heap.size = d0.heap.size + 1 := by simp
      obtain ⟨pt, hpt⟩ : ∃ pt, d0.heap.size = pt := ⟨_, rfl⟩
      (try rw [hpt] at hb1)
      (try rw [hpt] at hnp)
      (try rw [hpt])
      (try rw [hpt] at hnz)
      generalize d0.alloc (.cells #[.int .i64 0, .int .i64 0] 50) = d1 at *
      clear hpt
      refine wpAnyH_ready (rs := [8]) (by kernel_rfl) (by simp) ?_
      refine AllReadyH.cons (o := ?_) ?_ ?_ AllReadyH.nil
      rotate_left 1
      (focus (simp only [zGA, zGZ, zGS] <;> rfl))
      intro K hK
      go_simp
      go_at_call 111
      refine (HINS.out _ qd1).mono ?_
      rintro e d2 ⟨rfl, hi1, hi2, hi3⟩
      have q2 := (qd1.mono (T := (fun k => o k = 10 + 2 * t.id ∨ k = pb)) (fun _ _ x => x.elim)).trans hi1
      have hb2 := hi1.get hb1 (fun x => HGN.out _ hnp x)
      have hheap : HeapIs d2 hb pb (fun k => o k = 10 + 2 * t.id ∨ (wb.heap.size ≤ k ∧ k ≠ pt)) H' := hi3.mono (fun k x => by rcases x with x | x; exact Or.inl x; exact Or.inr ⟨by omega, by omega⟩)
      have hpool := hi2
      clear hi1 hi2 hi3
      dsimp only
      refine hK.out _ _ ?_ (fun hHeld => ?_)
      · exact HS5.out _ q2
      clear hK K
      (try simp only [Act.put, zPA, zPZ, zPS])
      have z0 := cell_of hb2 0
      have z1 := cell_of hb2 1
      have zf := fun o => frozen_of hb2 o
      simp only [zGA, zGS, zGZ] at z0 z1
      (refine zTK 9 (oi := ?_) (v := ?_) ?_ ?_ (Or.inl ⟨?_, ?_⟩) ?_; rotate_left 2; (focus (simp only [zGA, zGZ, zGS] <;> rfl)); (focus (exact fun _ _ _ h => h)); (focus rfl); (focus (intro w hSw; (try dsimp only at hSw); go_simp; (try with_reducible rfl); done)); (try simp only [Act.put, zPA, zPZ, zPS]))
      (refine zTK 10 (oi := ?_) (v := ?_) ?_ ?_ (Or.inl ⟨?_, ?_⟩) ?_; rotate_left 2; (focus (simp only [zGA, zGZ, zGS] <;> rfl)); (focus (exact fun _ _ _ h => h)); (focus rfl); (focus (intro w hSw; (try dsimp only at hSw); go_simp; (try with_reducible rfl); done)); (try simp only [Act.put, zPA, zPZ, zPS]))
      (refine zTK 11 (oi := ?_) (v := ?_) ?_ ?_ (Or.inl ⟨?_, ?_⟩) ?_; rotate_left 2; (focus (simp only [zGA, zGZ, zGS] <;> rfl)); (focus (exact fun _ _ _ h => h)); (focus rfl); (focus (intro w hSw; (try dsimp only at hSw); go_simp; (try with_reducible rfl); done)); (try simp only [Act.put, zPA, zPZ, zPS]))
      refine wpAnyH_ready (rs := [13]) (by kernel_rfl) (by simp) ?_
      refine AllReadyH.cons (o := ?_) ?_ ?_ AllReadyH.nil
      rotate_left 1
      (focus (simp only [zGA, zGZ, zGS] <;> rfl))
      intro K hK
      go_simp
      refine hK.out _ _ ?_ (fun hHeld => ?_)
      · exact HS5.out _ (put_leaf q2 hb2 hnp hpool hheap HGN.out (p := p) (q := q)).only
      clear hK K
      (try simp only [Act.put, zPA, zPZ, zPS])
      have HG := (put_leaf q2 hb2 hnp hpool hheap HGN.out (p := p) (q := q))
      (refine zTK 14 (oi := ?_) (v := ?_) ?_ ?_ (Or.inl ⟨?_, ?_⟩) ?_; rotate_left 2; (focus (simp only [zGA, zGZ, zGS] <;> rfl)); (focus (exact fun _ _ _ h => h)); (focus rfl); (focus (intro w hSw; (try dsimp only at hSw); go_simp; (try with_reducible rfl); done)); (try simp only [Act.put, zPA, zPZ, zPS]))
      refine wpAnyH_done (by kernel_rfl) ?_ _
      generalize (d2.setCell ⟨pt, 0, none⟩ (.int .i64 p)).setCell ⟨pt, 1, none⟩ (.int .i64 q) = WF at HG ⊢
      exact KEY _ _ HG
  case key =>
    intro pt W HL0
    have HL := Lib.hid HL0
    clear HL0 HS5 HINS
    have HOW : Hid (Only (fun k => o k = 10 + 2 * t.id ∨ k = pb) w W) := (HQ0.out.mono (fun _ _ x => x.elim)).trans' HL.out.only (fun k _ x => x)
    have HBW : Hid (∀ k, (o k = 10 + 2 * t.id ∨ k = pb) → o k = 10 + 2 * t.id ∨ o k = 4) := fun k x => by rcases x with x | x; exact Or.inl x; rw [x]; exact Or.inr HH.out.tags.2.1
    have HS4 : Hid (∀ W', Quiet W W' → (fun w' => w'.cell? ⟨sb, 1, none⟩ = some (ptrV bb) ∧ w'.cell? ⟨sb, 0, none⟩ = some (ptrV lb) ∧ w'.cell? ⟨r4, 0, none⟩ = some (.int .u64 (t.id : Int))) W') := fun W' hq => by
      have ho := HOW.out.trans' hq (fun k _ x => x.elim)
      have b4 := hq.get (HL.out.only.get HB4.out (fun x => by have := HBIG.out r4 HR6.out.2.1; have := HPB.out; have := HR6.out; rcases x with x | x <;> omega)) (fun x => x)
      have t1 := HH.out.tags.1
      have c := HH.out.cells
      exact ⟨ho.cell c.2.1 (fun x => by have := HBW.out _ x; dsimp only at this; omega), ho.cell c.1 (fun x => by have := HBW.out _ x; dsimp only at this; omega), (tabBox_cells b4).1⟩
    have HKEEP : Hid (∀ W', Quiet W W' → Calls Tryz.prog 68 #[ptrV bb, ptrV lb, .int .u64 (t.id : Int)] W' (NilPost W')) := fun W' hq => by
      have ho := HOW.out.trans' hq (fun k _ x => x.elim)
      have hbk := bookK HH.out.book ho (OwnOn.refl) (by omega) (fun k x => by have := HBW.out _ x; omega)
      rw [HI.out] at hbk
      exact keep_none hbk
    have z0 := cell_of HL.out.box 0
    have z1 := cell_of HL.out.box 1
    have z6 := cell_of (HL.out.only.get HB6.out (fun x => by have := HBIG.out r6 HR6.out.1; have := HPB.out; have := HR6.out; rcases x with x | x <;> omega))
    have y0 := z6 0
    have y1 := z6 1
    have HB6W := Lib.hid (HL.out.only.get HB6.out (fun x => by have := HBIG.out r6 HR6.out.1; have := HPB.out; have := HR6.out; rcases x with x | x <;> omega))
    have yf := fun o => frozen_of HB6W.out o
    simp only [zGA, zGS, zGZ] at z0 z1 y0 y1
    have hlp := lt_of_get HL.out.box
    have hlr := lt_of_get HB6W.out
    have hnr : pt ≠ r6 := fun e => by have := HL.out.new; have := lt_of_get HB6.out; omega
    clear z6
    go_wp2_with fail
    refine wp_region_held_drew (S := (fun w' => w'.cell? ⟨sb, 1, none⟩ = some (ptrV bb) ∧ w'.cell? ⟨sb, 0, none⟩ = some (ptrV lb) ∧ w'.cell? ⟨r4, 0, none⟩ = some (.int .u64 (t.id : Int)))) (by kernel_rfl) (HS4.out _ ((Only.refl _ _).drew)) (fun hHeld => ?_)
    simp only [List.size_toArray, List.length_cons, List.length_nil, Nat.reduceAdd]
    have q6 : Quiet W W.drew := (Only.refl _ _).drew
    generalize W.drew = d6 at q6 hHeld ⊢
    (refine zTK 0 (oi := ?_) (v := ?_) ?_ ?_ (Or.inl ⟨?_, ?_⟩) ?_; rotate_left 2; (focus (simp only [zGA, zGZ, zGS] <;> rfl)); (focus (exact fun _ _ _ h => h)); (focus rfl); (focus (intro w hSw; (try dsimp only at hSw); go_simp; (try with_reducible rfl); done)); (try simp only [Act.put, zPA, zPZ, zPS]))
    (refine zTK 1 (oi := ?_) (v := ?_) ?_ ?_ (Or.inl ⟨?_, ?_⟩) ?_; rotate_left 2; (focus (simp only [zGA, zGZ, zGS] <;> rfl)); (focus (exact fun _ _ _ h => h)); (focus rfl); (focus (intro w hSw; (try dsimp only at hSw); go_simp; (try with_reducible rfl); done)); (try simp only [Act.put, zPA, zPZ, zPS]))
    (refine zTK 2 (oi := ?_) (v := ?_) ?_ ?_ (Or.inl ⟨?_, ?_⟩) ?_; rotate_left 2; (focus (simp only [zGA, zGZ, zGS] <;> rfl)); (focus (exact fun _ _ _ h => h)); (focus rfl); (focus (intro w hSw; (try dsimp only at hSw); go_simp; (try with_reducible rfl); done)); (try simp only [Act.put, zPA, zPZ, zPS]))
    (refine zTK 3 (oi := ?_) (v := ?_) ?_ ?_ (Or.inl ⟨?_, ?_⟩) ?_; rotate_left 2; (focus (simp only [zGA, zGZ, zGS] <;> rfl)); (focus (exact fun _ _ _ h => h)); (focus rfl); (focus (intro w hSw; (try dsimp only at hSw); go_simp; (try with_reducible rfl); done)); (try simp only [Act.put, zPA, zPZ, zPS]))
    (refine zTK 4 (oi := ?_) (v := ?_) ?_ ?_ (Or.inl ⟨?_, ?_⟩) ?_; rotate_left 2; (focus (simp only [zGA, zGZ, zGS] <;> rfl)); (focus (exact fun _ _ _ h => h)); (focus rfl); (focus (intro w hSw; (try dsimp only at hSw); go_simp; (try with_reducible rfl); done)); (try simp only [Act.put, zPA, zPZ, zPS]))
    (refine zTK 5 (oi := ?_) (v := ?_) ?_ ?_ (Or.inl ⟨?_, ?_⟩) ?_; rotate_left 2; (focus (simp only [zGA, zGZ, zGS] <;> rfl)); (focus (exact fun _ _ _ h => h)); (focus rfl); (focus (intro w hSw; (try dsimp only at hSw); go_simp; (try with_reducible rfl); done)); (try simp only [Act.put, zPA, zPZ, zPS]))
    (refine zTK 6 (oi := ?_) (v := ?_) ?_ ?_ (Or.inl ⟨?_, ?_⟩) ?_; rotate_left 2; (focus (simp only [zGA, zGZ, zGS] <;> rfl)); (focus (exact fun _ _ _ h => h)); (focus rfl); (focus (intro w hSw; (try dsimp only at hSw); go_simp; (try with_reducible rfl); done)); (try simp only [Act.put, zPA, zPZ, zPS]))
    (refine zTK 7 (oi := ?_) (v := ?_) ?_ ?_ (Or.inl ⟨?_, ?_⟩) ?_; rotate_left 2; (focus (simp only [zGA, zGZ, zGS] <;> rfl)); (focus (exact fun _ _ _ h => h)); (focus rfl); (focus (intro w hSw; (try dsimp only at hSw); go_simp; (try with_reducible rfl); done)); (try simp only [Act.put, zPA, zPZ, zPS]))
    (refine zTK 8 (oi := ?_) (v := ?_) ?_ ?_ (Or.inl ⟨?_, ?_⟩) ?_; rotate_left 2; (focus (simp only [zGA, zGZ, zGS] <;> rfl)); (focus (exact fun _ _ _ h => h)); (focus rfl); (focus (intro w hSw; (try dsimp only at hSw); go_simp; (try with_reducible rfl); done)); (try simp only [Act.put, zPA, zPZ, zPS]))
    (refine zTK 9 (oi := ?_) (v := ?_) ?_ ?_ (Or.inl ⟨?_, ?_⟩) ?_; rotate_left 2; (focus (simp only [zGA, zGZ, zGS] <;> rfl)); (focus (exact fun _ _ _ h => h)); (focus rfl); (focus (intro w hSw; (try dsimp only at hSw); go_simp; (try with_reducible rfl); done)); (try simp only [Act.put, zPA, zPZ, zPS]))
    (refine zTK 12 (oi := ?_) (v := ?_) ?_ ?_ (Or.inl ⟨?_, ?_⟩) ?_; rotate_left 2; (focus (simp only [zGA, zGZ, zGS] <;> rfl)); (focus (exact fun _ _ _ h => h)); (focus rfl); (focus (intro w hSw; (try dsimp only at hSw); go_simp; (try with_reducible rfl); done)); (try simp only [Act.put, zPA, zPZ, zPS]))
    refine wpAnyH_ready (rs := [10]) (by kernel_rfl) (by simp) ?_
    refine AllReadyH.cons (o := ?_) ?_ ?_ AllReadyH.nil
    rotate_left 1
    (focus (simp only [zGA, zGZ, zGS] <;> rfl))
    intro K hK
    go_simp
    go_at_call 68
    refine (HKEEP.out _ q6).mono ?_
    rintro e d7 ⟨rfl, rfl⟩
    dsimp only
    refine hK.out _ _ ?_ (fun hHeld => ?_)
    · exact HS4.out _ q6
    clear hK K
    (try simp only [Act.put, zPA, zPZ, zPS])
    (refine zTK 11 (oi := ?_) (v := ?_) ?_ ?_ (Or.inl ⟨?_, ?_⟩) ?_; rotate_left 2; (focus (simp only [zGA, zGZ, zGS] <;> rfl)); (focus (exact fun _ _ _ h => h)); (focus rfl); (focus (intro w hSw; (try dsimp only at hSw); go_simp; (try with_reducible rfl); done)); (try simp only [Act.put, zPA, zPZ, zPS]))
    refine wpAnyH_done (by kernel_rfl) ?_ _
    have HD6 : Hid (Quiet W d6) := q6
    have y0' := q6.cell y0 (fun x => x)
    have y1' := q6.cell y1 (fun x => x)
    have z0' := q6.cell z0 (fun x => x)
    have z1' := q6.cell z1 (fun x => x)
    have yf' := fun o => frozen_of (q6.get HB6W.out (fun x => x)) o
    have HX : Hid (((d6.setCell ⟨r6, 0, none⟩ (.int .i64 p)).setCell ⟨r6, 1, none⟩ (.int .i64 q)).heap[r6]? = some (.cells #[.int .i64 p, .int .i64 q] 50 (0, 0))) := two_set (q6.get HB6W.out (fun x => x)) _ _
    have HPO : Hid (PutPost w sb o (putSt s t.id H' left') p q (.returned (.tuple #[.agg #[.int .i64 p, .int .i64 q], .int .i64 0])) ((d6.setCell ⟨r6, 0, none⟩ (.int .i64 p)).setCell ⟨r6, 1, none⟩ (.int .i64 q))) := by
      have h2 := two_only d6 r6 (.int .i64 p) (.int .i64 q)
      have ho := (HOW.out.trans' q6 (fun k _ x => x.elim)).trans' h2 (fun k hk x => by have := HR6.out.1; omega)
      have hpo := (HL.out.pool.kept q6 (fun x => x)).kept h2 (fun x => by have := HPB.out; have := HR6.out.1; omega)
      have hhe := (HL.out.heap.kept q6 (fun _ _ x => x)).kept h2 (fun k x e => by
        have := HBIG.out r6 HR6.out.1
        have := lt_of_get HB6.out
        rcases x with x | x
        · rw [e] at x; omega
        · have := x.1; omega)
      have h3 := HH.out.setHeap (id := t.id) HF.out ho hpo (hhe.mono (fun k x => by
        rcases x with x | x
        · exact Or.inl x
        · exact Or.inr (by have := HQ0.out.size; omega)))
      exact ⟨rfl, _, fun k hk => grow_old hk, ho.mono (fun k _ x => by have := HBW.out k x; omega), _, _, _, _, _, _, _, _, _, h3⟩
    clear hHeld q6 y0 y1 z0 z1 yf HKEEP HS4
    go_wp2_with fail
    refine wp_loop_rounds 1 ?_
    rw [rounds_succ]
    go_wp2
    exact bodyPost_ret (results_cell_tmp Tryz.results61 _ _ r6 _ _ (0, 0) _ (by rfl) HX.out Tryz.underlying50 rfl info_tid) (by rfl) HPO.out

end Go.Proofs.YtaijnpgoiagboaaGreatDoor

namespace Go.Proofs.YtaijnpgoiagboaaGreatDoor
open Go.RowKit Go.Lap

theorem StoreAt.big {w : World} {sb : Nat} {o : Nat → Nat} {s : St} (h : StoreAt w sb o s) : ∀ k, w.heap.size ≤ k → o k = 0 := by
  obtain ⟨lb, bb, pb, mh, mt, ms, fh, ft, fs, h⟩ := h
  exact h.big

theorem StoreAt.cell6 {w : World} {sb : Nat} {o : Nat → Nat} {s : St} (h : StoreAt w sb o s) : w.cell? ⟨sb, 6, none⟩ = some (.int .u64 (s.last : Int)) ∧ o sb = 1 := by
  obtain ⟨lb, bb, pb, mh, mt, ms, fh, ft, fs, h⟩ := h
  exact ⟨h.cells.2.2.2.2.2.2, h.tags.1⟩

set_option maxRecDepth 100000 in
theorem store_nowhere (w : World) : Calls Tryz.prog 62 #[] w fun e w' => e = .returned (.agg #[.int .i64 (-1), .int .i64 (-1)]) ∧ Quiet w w' := by
  go_enter Tryz.func62, Tryz.ntmps62
  go_wp2
  exact bodyPost_ret (v := .agg #[.int .i64 (-1), .int .i64 (-1)]) (by simp [results, Tryz.results62, go_sem]) rfl ⟨rfl, (Only.refl _ _).alloc _⟩

theorem wrapU_of (n : Nat) (h : n < 18446744073709551616) : IntKind.u64.wrap (n : Int) = (n : Int) := by
  simp [IntKind.wrap, IntKind.bits, IntKind.signed]
  omega

theorem rowI_bytes {n : Nat} (hn : n < 256) : ∀ x ∈ rowI n, x < 256 := by
  intro x hx
  unfold rowI smallN at hx
  rcases List.mem_cons.1 hx with e | e
  · omega
  · obtain ⟨i, _, e⟩ := List.mem_map.1 e
    split at e <;> omega

structure InsLeaf (wb W : World) (sb pt : Nat) (p q : Int) (o : Nat → Nat) (s' : St) : Prop where
  only : Only (fun k => o k ≠ 0) wb W
  st : ∃ o', (∀ k, k < wb.heap.size → o' k = o k) ∧ StoreAt W sb o' s' ∧ o' pt = 0
  new : wb.heap.size ≤ pt
  box : W.heap[pt]? = some (.cells #[.int .i64 p, .int .i64 q] 50 (0, 0))

theorem ins_leaf {wb w1 : World} {pt sb : Nat} {p q : Int} {c0 c1 : Value} {o o2 : Nat → Nat} {s' : St} (hq : Only (fun k => o k ≠ 0) wb w1) (hn : wb.heap.size ≤ pt) (h1 : w1.heap[pt]? = some (.cells #[c0, c1] 50 (0, 0))) (hst : StoreAt w1 sb o2 s') (hop : o2 pt = 0) (ho : ∀ k, k < wb.heap.size → o2 k = o k) :
    InsLeaf wb ((w1.setCell ⟨pt, 0, none⟩ (.int .i64 p)).setCell ⟨pt, 1, none⟩ (.int .i64 q)) sb pt p q o s' := by
  have h2 := two_only w1 pt (.int .i64 p) (.int .i64 q)
  exact ⟨hq.trans' h2 (fun k hk e => by omega), ⟨o2, ho, hst.kept h2 (fun k e => by rw [e]; exact hop), hop⟩, hn, two_set h1 _ _⟩

theorem last_cell {W : World} {sb a b : Nat} (h : a = b) (x : W.cell? ⟨sb, 6, none⟩ = some (.int .u64 (a : Int))) : W.cell? ⟨sb, 6, none⟩ = some (.int .u64 (b : Int)) := by rw [← h]; exact x

theorem InsLeaf.cell6 {wb W : World} {sb pt : Nat} {p q : Int} {o : Nat → Nat} {s' : St} (h : InsLeaf wb W sb pt p q o s') : W.cell? ⟨sb, 6, none⟩ = some (.int .u64 (s'.last : Int)) := by
  obtain ⟨o', _, h1, _⟩ := h.st
  exact h1.cell6.1

theorem ins_key {goal : Prop} {wb : World} {sb : Nat} {p q : Int} {o : Nat → Nat} {s' : St} {G : Nat → World → Prop} (main : (∀ pt W, InsLeaf wb W sb pt p q o s' → G pt W) → goal) (key : ∀ pt W, InsLeaf wb W sb pt p q o s' → G pt W) : goal := main key

/-- A row more. -/
def insSt (s : St) (id : Nat) (H' : List (List (Option Tup))) (left' : Nat) : St := { s with left := left', hs := upd s.hs id (some H'), last := s.last + 1 }

def StoreInsPost (w : World) (sb : Nat) (o : Nat → Nat) (s' : St) (e : Ending) (w' : World) : Prop := e = .returned (.int .i64 0) ∧ StepTo w sb o s' w'

set_option maxHeartbeats 4000000 in
set_option maxRecDepth 100000 in
theorem store_insert_of {w : World} {sb x i c3 n : Nat} {o : Nat → Nat} {s s1 : St} {y : Snap} {t : TE} {name nm : ByteArray} {Sv : Nat → Prop} {A3 : Option Addr} {p q : Int} (h : StoreAt w sb o s) (hx : U64 x) (hy : s.sn x = some y) (hf : findT s.L y name s.T = some i) (ht : s.T[i]? = some t) (hc : t.cols = [(nm, 1)])
    (hn : n < 256) (hv : Rd w Sv 4 A3 1 (intRow n)) (hc3 : 1 ≤ c3) (hm3 : c3 ≤ maxLen) (hlast : s.last + 1 < 18446744073709551616) (hl1 : s1.last = s.last)
    (hput : ∀ (W : World) (A2 : Option Addr) (c2 : Nat) (A5 : Option Addr) (c5 : Nat), Quiet w W → Rd W (fun k => w.heap.size ≤ k) 2 A2 t.cols.length (colsV t.cols) → t.cols.length ≤ c2 → c2 ≤ maxLen → Rd W (fun k => w.heap.size ≤ k) 1 A5 9 (bytesV (rowI n)) → 9 ≤ c5 → c5 ≤ maxLen →
      Calls Tryz.prog 61 #[ptrV sb, tabV t A2 c2, tupV ⟨s.last + 1, x, 0, -1, -1, rowI n⟩ A5 c5] W (PutPost W sb o s1 p q)) :
    Calls Tryz.prog 18 #[ptrV sb, .int .u64 (x : Int), .string name, .slice A3 1 c3] w (StoreInsPost w sb o { s1 with last := s.last + 1 }) := by
  have HO := Lib.hid (store_open h hx hy hf ht)
  have HH := Lib.hid h
  have HC := Lib.hid hc
  have HL1 := Lib.hid hl1
  have HPU := Lib.hid hput
  have HN := Lib.hid hn
  have HV := Lib.hid hv
  have HC3 := Lib.hid (And.intro hc3 hm3)
  obtain ⟨ln, hln⟩ : ∃ ln, s.last + 1 = ln := ⟨_, rfl⟩
  rw [hln] at hlast
  have HLN := Lib.hid hln
  have HLA := Lib.hid hlast
  have en : ((s.last : Int) + 1) = (ln : Int) := by rw [← hln]; omega
  have hw : IntKind.u64.wrap (ln : Int) = (ln : Int) := wrapU_of ln hlast
  have HW := Lib.hid hw
  have HEN := Lib.hid en
  clear h hx hy hf ht hc hn hv hc3 hm3 hlast hln hw en hl1 hput
  go_enter Tryz.func18, Tryz.ntmps18
  go_wp2_with fail
  refine HO.out.mono ?_
  rintro e w1 ⟨A, c, A2, c2, rfl, hq1, hs1, hf1, hc2, hm2⟩
  clear HO
  have HQ1 := Lib.hid hq1
  have HF1 := Lib.hid hf1
  have HC2 := Lib.hid (And.intro hc2 hm2)
  have q2 : Quiet w1 ((w1.alloc (.cells (snapCells y A c) 88)).alloc (.cells #[.int .u64 (t.id : Int), .string t.name, .slice A2 t.cols.length c2, .int .u64 (t.xmin : Int), .int .u64 (t.xmax : Int)] 37)) := ((Only.refl _ _).alloc _).alloc _
  have b10 := two_new w1 (.cells (snapCells y A c) 88) (.cells #[.int .u64 (t.id : Int), .string t.name, .slice A2 t.cols.length c2, .int .u64 (t.xmin : Int), .int .u64 (t.xmax : Int)] 37)
  have HQ2 := Lib.hid q2
  have HB10 := Lib.hid b10
  obtain ⟨r9, hr9⟩ : ∃ r9, w1.heap.size = r9 := ⟨_, rfl⟩
  obtain ⟨r10, hr10⟩ : ∃ r10, r9 + 1 = r10 := ⟨_, rfl⟩
  rw [hr9] at HB10
  rw [hr10] at HB10
  have HR10 : Hid (w1.heap.size ≤ r10) := by show _ ≤ _; omega
  have HE9 := Lib.hid hr9
  have HE10 := Lib.hid hr10
  clear hq1 hs1 hf1 hc2 hm2 q2 b10 hr9 hr10
  unfold snapV tabV
  go_wp2_with fail
  (try simp only [World.size_alloc])
  rw [HE9.out, HE10.out]
  generalize (w1.alloc (.cells #[.int .u64 (y.own : Int), .int .u64 (y.xmin : Int), .int .u64 (y.xmax : Int), .slice A y.run.length c] 88)).alloc (.cells #[.int .u64 (t.id : Int), .string t.name, .slice A2 t.cols.length c2, .int .u64 (t.xmin : Int), .int .u64 (t.xmax : Int)] 37) = w2 at *
  have HKND : Hid (Calls Tryz.prog 60 #[tabV t A2 c2] w2 (KindsPost w2 1)) := by
    obtain ⟨A', c', e', h1, h2, h3⟩ := own_form HF1.out.own
    injection e' with e1 _ e2
    subst e1 e2
    have h4 := h3.kept HQ2.out (fun _ _ x => x)
    have h5 := HC2.out
    rw [HC.out] at h4 h5
    exact store_kinds HC.out h4 h5.1 h5.2
  unfold tabV at HKND
  refine HKND.out.mono ?_
  rintro e w3 ⟨v3, rfl, hf3⟩
  obtain ⟨A9, c9, rfl, hc9, hm9, hrd9⟩ := own_form hf3.own
  have HQ3 : Hid (Quiet w2 w3) := hf3.quiet
  have HQV : Hid (Quiet w w3) := (HQ1.out.trans HQ2.out).trans HQ3.out
  have HRB := Lib.hid (row_bytes_int HN.out (by exact hrd9) (HV.out.kept HQV.out (fun _ _ x => x)) hc9 hm9 HC3.out.1 HC3.out.2)
  clear hf3 hc9 hm9 hrd9 HKND
  go_wp2_with fail
  refine HRB.out.mono ?_
  rintro e wb ⟨v5, rfl, hf5⟩
  obtain ⟨A5, c5, rfl, hc5, hm5, hrd5⟩ := own_form hf5.own
  have h9 : (rowI n).length = 9 := rowI_length n
  have HQB : Hid (Quiet w wb) := HQV.out.trans hf5.quiet
  have HQ35 : Hid (Quiet w3 wb) := hf5.quiet
  have HB10b := Lib.hid (hf5.quiet.get (HQ3.out.get HB10.out (fun x => x)) (fun x => x))
  have HRD5 := Lib.hid hrd5
  have HNEW5 : Hid (∀ k, (Value.slice A5 (rowI n).length c5).ownBlock = some k → w.heap.size ≤ k) := fun k e => Nat.le_trans HQV.out.size (hf5.new k e)
  have HHB := Lib.hid (HH.out.quietly HQB.out)
  have HBZ : Hid (∀ k, wb.heap.size ≤ k → o k = 0) := HHB.out.big
  have HBG : Hid (∀ k, wb.heap.size ≤ k → ¬ o k ≠ 0) := fun k hk e => e (HBZ.out k hk)
  have hx10 : o r10 = 0 := HH.out.big r10 (by have := HQ1.out.size; have := HR10.out; omega)
  have HX10 : Hid (¬ o r10 ≠ 0) := fun e => e hx10
  have HS7 : Hid (∀ W, Only (fun k => o k ≠ 0) wb W → W.cell? ⟨sb, 6, none⟩ = some (.int .u64 (s.last : Int)) → (fun w' => w'.cell? ⟨sb, 6, none⟩ = some (.int .u64 (s.last : Int)) ∧ w'.cell? ⟨r10, 0, none⟩ = some (.int .u64 (t.id : Int)) ∧ w'.cell? ⟨r10, 1, none⟩ = some (.string t.name) ∧ w'.cell? ⟨r10, 2, none⟩ = some (.slice A2 t.cols.length c2) ∧ w'.cell? ⟨r10, 3, none⟩ = some (.int .u64 (t.xmin : Int)) ∧ w'.cell? ⟨r10, 4, none⟩ = some (.int .u64 (t.xmax : Int))) W) := fun W hq h6 => by
    have b := tabBox_cells (hq.get HB10b.out HX10.out)
    exact ⟨h6, b⟩
  have HC6 := Lib.hid HHB.out.cell6.1
  have HPUT : Hid (∀ W, Quiet wb W → Calls Tryz.prog 61 #[ptrV sb, .agg #[.int .u64 (t.id : Int), .string t.name, .slice A2 t.cols.length c2, .int .u64 (t.xmin : Int), .int .u64 (t.xmax : Int)], .agg #[.int .u64 (ln : Int), .int .u64 (x : Int), .int .u64 0, .int .i64 (-1), .int .i64 (-1), .slice A5 9 c5]] W (PutPost W sb o s1 p q)) := fun W hq => by
    obtain ⟨A', c', e', h1, h2, h3⟩ := own_form HF1.out.own
    injection e' with e1 _ e2
    subst e1 e2
    have hp := HPU.out W A2 c2 A5 c5 (HQB.out.trans hq) ((((h3.kept HQ2.out (fun _ _ x => x)).kept (HQ3.out.trans HQ35.out) (fun _ _ x => x)).kept hq (fun _ _ x => x)).mono (fun k e => HF1.out.new k e)) HC2.out.1 HC2.out.2 (by have := (HRD5.out.kept hq (fun _ _ x => x)).mono (T := fun k => w.heap.size ≤ k) (fun k e => HNEW5.out k e); rw [rowI_length] at this; exact this) (by have := hc5; rw [rowI_length] at this; exact this) hm5
    rw [HLN.out] at hp
    unfold tabV tupV at hp
    dsimp only at hp
    rw [rowI_length] at hp
    exact hp
  clear hf5 hrd5 hc5 hm5 hx10 HRB
  go_wp2_with fail
  apply ins_key (wb := wb) (sb := sb) (p := p) (q := q) (o := o) (s' := s1)
  case main =>
      intro KEY
      have hw := HW.out
      have en := HEN.out
      refine wp_region_held_drew (S := (fun w' => w'.cell? ⟨sb, 6, none⟩ = some (.int .u64 (s.last : Int)) ∧ w'.cell? ⟨r10, 0, none⟩ = some (.int .u64 (t.id : Int)) ∧ w'.cell? ⟨r10, 1, none⟩ = some (.string t.name) ∧ w'.cell? ⟨r10, 2, none⟩ = some (.slice A2 t.cols.length c2) ∧ w'.cell? ⟨r10, 3, none⟩ = some (.int .u64 (t.xmin : Int)) ∧ w'.cell? ⟨r10, 4, none⟩ = some (.int .u64 (t.xmax : Int)))) (by kernel_rfl) (HS7.out _ ((Only.refl _ _).drew) (((Only.refl (fun _ => False) wb).drew).cell HC6.out (fun x => x))) (fun hHeld => ?_)
      simp only [List.size_toArray, List.length_cons, List.length_nil, Nat.reduceAdd]
      have q0 : Quiet wb wb.drew := (Only.refl _ _).drew
      generalize wb.drew = d0 at q0 hHeld ⊢
      (refine zTK 0 (oi := ?_) (v := ?_) ?_ ?_ (Or.inl ⟨?_, ?_⟩) ?_; rotate_left 2; (focus (simp only [zGA, zGZ, zGS] <;> rfl)); (focus (exact fun _ _ _ h => h)); (focus rfl); (focus (intro w hSw; (try dsimp only at hSw); go_simp; (try with_reducible rfl); done)); (try simp only [Act.put, zPA, zPZ, zPS]))
      (refine zTK 1 (oi := ?_) (v := ?_) ?_ ?_ (Or.inl ⟨?_, ?_⟩) ?_; rotate_left 2; (focus (simp only [zGA, zGZ, zGS] <;> rfl)); (focus (exact fun _ _ _ h => h)); (focus rfl); (focus (intro w hSw; (try dsimp only at hSw); go_simp; (try with_reducible rfl); done)); (try simp only [Act.put, zPA, zPZ, zPS]))
      (refine zTK 2 (oi := ?_) (v := ?_) ?_ ?_ (Or.inl ⟨?_, ?_⟩) ?_; rotate_left 2; (focus (simp only [zGA, zGZ, zGS] <;> rfl)); (focus (exact fun _ _ _ h => h)); (focus rfl); (focus (intro w hSw; (try dsimp only at hSw); go_simp; (try with_reducible rfl); done)); (try simp only [Act.put, zPA, zPZ, zPS]))
      (refine zTK 3 (oi := ?_) (v := ?_) ?_ ?_ (Or.inl ⟨?_, ?_⟩) ?_; rotate_left 2; (focus (simp only [zGA, zGZ, zGS] <;> rfl)); (focus (exact fun _ _ _ h => h)); (focus rfl); (focus (intro w hSw; (try dsimp only at hSw); go_simp; (try with_reducible rfl); done)); (try simp only [Act.put, zPA, zPZ, zPS]))
      (refine zTK 4 (oi := ?_) (v := ?_) ?_ ?_ (Or.inl ⟨?_, ?_⟩) ?_; rotate_left 2; (focus (simp only [zGA, zGZ, zGS] <;> rfl)); (focus (exact fun _ _ _ h => h)); (focus rfl); (focus (intro w hSw; (try dsimp only at hSw); go_simp; (try with_reducible rfl); done)); (try simp only [Act.put, zPA, zPZ, zPS]))
      (refine zTK 5 (oi := ?_) (v := ?_) ?_ ?_ (Or.inl ⟨?_, ?_⟩) ?_; rotate_left 2; (focus (simp only [zGA, zGZ, zGS] <;> rfl)); (focus (exact fun _ _ _ h => h)); (focus rfl); (focus (intro w hSw; (try dsimp only at hSw); go_simp; (try with_reducible rfl); done)); (try simp only [Act.put, zPA, zPZ, zPS]))
      (refine zTK 6 (oi := ?_) (v := ?_) ?_ ?_ (Or.inl ⟨?_, ?_⟩) ?_; rotate_left 2; (focus (simp only [zGA, zGZ, zGS] <;> rfl)); (focus (exact fun _ _ _ h => h)); (focus rfl); (focus (intro w hSw; (try dsimp only at hSw); go_simp; (try with_reducible rfl); done)); (try simp only [Act.put, zPA, zPZ, zPS]))
      (refine zTK 7 (oi := ?_) (v := ?_) ?_ ?_ (Or.inl ⟨?_, ?_⟩) ?_; rotate_left 2; (focus (simp only [zGA, zGZ, zGS] <;> rfl)); (focus (exact fun _ _ _ h => h)); (focus rfl); (focus (intro w hSw; (try dsimp only at hSw); go_simp; (try with_reducible rfl); done)); (try simp only [Act.put, zPA, zPZ, zPS]))
      (refine zTK 9 (oi := ?_) (v := ?_) ?_ ?_ (Or.inl ⟨?_, ?_⟩) ?_; rotate_left 2; (focus (simp only [zGA, zGZ, zGS] <;> rfl)); (focus (exact fun _ _ _ h => h)); (focus rfl); (focus (intro w hSw; (try dsimp only at hSw); go_simp; (try with_reducible rfl); done)); (try simp only [Act.put, zPA, zPZ, zPS]))
      refine wpAnyH_ready (rs := [8, 15]) (by kernel_rfl) (by simp) ?_
      refine AllReadyH.cons (o := ?_) ?_ ?_ ?_
      rotate_left 1
      (focus (simp only [zGA, zGZ, zGS] <;> rfl))
      · intro K hK
        go_simp
        go_at_call 62
        refine (store_nowhere _).mono ?_
        rintro e d1 ⟨rfl, hqn⟩
        have q1 := q0.trans hqn
        clear hqn
        dsimp only
        refine hK.out _ _ ?_ (fun hHeld => ?_)
        · exact HS7.out _ (q1.mono (fun _ _ x => x.elim)) (q1.cell HC6.out (fun x => x))
        clear hK K
        (try simp only [Act.put, zPA, zPZ, zPS])
        (refine zTK 10 (oi := ?_) (v := ?_) ?_ ?_ (Or.inl ⟨?_, ?_⟩) ?_; rotate_left 2; (focus (simp only [zGA, zGZ, zGS] <;> rfl)); (focus (exact fun _ _ _ h => h)); (focus rfl); (focus (intro w hSw; (try dsimp only at hSw); go_simp; (try with_reducible rfl); done)); (try simp only [Act.put, zPA, zPZ, zPS]))
        refine wpAnyH_ready (rs := [11, 15]) (by kernel_rfl) (by simp) ?_
        refine AllReadyH.cons (o := ?_) ?_ ?_ ?_
        rotate_left 1
        (focus (simp only [zGA, zGZ, zGS] <;> rfl))
        · intro K hK
          go_simp
          go_at_call 61
          refine (HPUT.out _ q1).mono ?_
          rintro e d2 ⟨rfl, o2, ho2, hw2, hst2⟩
          have q2 := (q1.mono (T := (fun k => o k ≠ 0)) (fun _ _ x => x.elim)).trans hw2
          have hz2 := q1.size
          have ho3 : ∀ k, k < wb.heap.size → o2 k = o k := fun k hk => ho2 k (by omega)
          clear ho2 hw2 hz2
          dsimp only
          refine hK.out _ _ ?_ (fun hHeld => ?_)
          · exact HS7.out _ q2 (last_cell HL1.out hst2.cell6.1)
          clear hK K
          (try simp only [Act.put, zPA, zPZ, zPS])
          (refine zTK 12 (oi := ?_) (v := ?_) ?_ ?_ (Or.inl ⟨?_, ?_⟩) ?_; rotate_left 2; (focus (simp only [zGA, zGZ, zGS] <;> rfl)); (focus (exact fun _ _ _ h => h)); (focus rfl); (focus (intro w hSw; (try dsimp only at hSw); go_simp; (try with_reducible rfl); done)); (try simp only [Act.put, zPA, zPZ, zPS]))
          (refine zTK 13 (oi := ?_) (v := ?_) ?_ ?_ (Or.inl ⟨?_, ?_⟩) ?_; rotate_left 2; (focus (simp only [zGA, zGZ, zGS] <;> rfl)); (focus (exact fun _ _ _ h => h)); (focus rfl); (focus (intro w hSw; (try dsimp only at hSw); go_simp; (try with_reducible rfl); done)); (try simp only [Act.put, zPA, zPZ, zPS]))
          (refine zTK 14 (oi := ?_) (v := ?_) ?_ ?_ (Or.inl ⟨?_, ?_⟩) ?_; rotate_left 2; (focus (simp only [zGA, zGZ, zGS] <;> rfl)); (focus (exact fun _ _ _ h => h)); (focus rfl); (focus (intro w hSw; (try dsimp only at hSw); go_simp; (try with_reducible rfl); done)); (try simp only [Act.put, zPA, zPZ, zPS]))
          refine wpAnyH_ready (rs := [15]) (by kernel_rfl) (by simp) ?_
          refine AllReadyH.cons (o := ?_) ?_ ?_ AllReadyH.nil
          rotate_left 1
          (focus (simp only [zGA, zGZ, zGS] <;> rfl))
          intro K hK
          go_simp
          refine hK.out _ _ ?_ (fun hHeld => ?_)
          · exact HS7.out _ (q2.alloc _) (((Only.refl (fun _ => False) d2).alloc _).cell (last_cell HL1.out hst2.cell6.1) (fun x => x))
          clear hK K
          (try simp only [Act.put, zPA, zPZ, zPS])
          have hbig2 := StoreAt.big hst2
          have qe2 := q2.alloc (.cells #[.int .i64 0, .int .i64 0] 50)
          have hb1 := alloc_new d2 (.cells #[.int .i64 0, .int .i64 0] 50)
          have hnp : wb.heap.size ≤ d2.heap.size := q2.size
          have hst2 := hst2.quietly ((Only.refl (fun _ => False) d2).alloc (.cells #[.int .i64 0, .int .i64 0] 50))
          have hop : o2 d2.heap.size = 0 := hbig2 _ (Nat.le_refl _)
          obtain ⟨pt, hpt⟩ : ∃ pt, d2.heap.size = pt := ⟨_, rfl⟩
          (try rw [hpt] at hb1)
          (try rw [hpt] at hnp)
          (try rw [hpt])
          (try rw [hpt] at hop)
          generalize d2.alloc (.cells #[.int .i64 0, .int .i64 0] 50) = e2 at *
          clear hpt
          have z0 := cell_of hb1 0
          have z1 := cell_of hb1 1
          have zf := fun o => frozen_of hb1 o
          simp only [zGA, zGS, zGZ] at z0 z1
          refine wpAnyH_ready (rs := [16]) (by kernel_rfl) (by simp) ?_
          refine AllReadyH.cons (o := ?_) ?_ ?_ AllReadyH.nil
          rotate_left 1
          (focus (simp only [zGA, zGZ, zGS] <;> rfl))
          intro K hK
          go_simp
          refine hK.out _ _ ?_ (fun hHeld => ?_)
          · exact HS7.out _ (ins_leaf qe2 hnp hb1 hst2 hop ho3 (p := p) (q := q)).only (last_cell HL1.out (ins_leaf qe2 hnp hb1 hst2 hop ho3 (p := p) (q := q)).cell6)
          clear hK K
          (try simp only [Act.put, zPA, zPZ, zPS])
          have HG := (ins_leaf qe2 hnp hb1 hst2 hop ho3 (p := p) (q := q))
          (refine zTK 17 (oi := ?_) (v := ?_) ?_ ?_ (Or.inl ⟨?_, ?_⟩) ?_; rotate_left 2; (focus (simp only [zGA, zGZ, zGS] <;> rfl)); (focus (exact fun _ _ _ h => h)); (focus rfl); (focus (intro w hSw; (try dsimp only at hSw); go_simp; (try with_reducible rfl); done)); (try simp only [Act.put, zPA, zPZ, zPS]))
          refine wpAnyH_done (by kernel_rfl) ?_ _
          generalize (e2.setCell ⟨pt, 0, none⟩ (.int .i64 p)).setCell ⟨pt, 1, none⟩ (.int .i64 q) = WF at HG ⊢
          exact KEY _ _ HG
        refine AllReadyH.cons (o := ?_) ?_ ?_ AllReadyH.nil
        rotate_left 1
        (focus (simp only [zGA, zGZ, zGS] <;> rfl))
        intro K hK
        go_simp
        refine hK.out _ _ ?_ (fun hHeld => ?_)
        · exact HS7.out _ ((q1.alloc _).mono (fun _ _ x => x.elim)) ((q1.alloc _).cell HC6.out (fun x => x))
        clear hK K
        (try simp only [Act.put, zPA, zPZ, zPS])
        have qe1 := q1.alloc (.cells #[.int .i64 0, .int .i64 0] 50)
        have hb1 := alloc_new d1 (.cells #[.int .i64 0, .int .i64 0] 50)
        have hnp : wb.heap.size ≤ d1.heap.size := q1.size
        obtain ⟨pt, hpt⟩ : ∃ pt, d1.heap.size = pt := ⟨_, rfl⟩
        (try rw [hpt] at hb1)
        (try rw [hpt] at hnp)
        (try rw [hpt])
        generalize d1.alloc (.cells #[.int .i64 0, .int .i64 0] 50) = e1 at *
        clear hpt
        refine wpAnyH_ready (rs := [11]) (by kernel_rfl) (by simp) ?_
        refine AllReadyH.cons (o := ?_) ?_ ?_ AllReadyH.nil
        rotate_left 1
        (focus (simp only [zGA, zGZ, zGS] <;> rfl))
        intro K hK
        go_simp
        go_at_call 61
        refine (HPUT.out _ qe1).mono ?_
        rintro e d2 ⟨rfl, o2, ho2, hw2, hst2⟩
        have q2 := (qe1.mono (T := (fun k => o k ≠ 0)) (fun _ _ x => x.elim)).trans hw2
        have hz2 := qe1.size
        have hb2 := hw2.get hb1 (HBG.out _ hnp)
        have hop : o2 pt = 0 := by rw [ho2 pt (lt_of_get hb1)]; exact HBZ.out _ hnp
        have ho3 : ∀ k, k < wb.heap.size → o2 k = o k := fun k hk => ho2 k (by omega)
        clear ho2 hw2 hz2
        dsimp only
        refine hK.out _ _ ?_ (fun hHeld => ?_)
        · exact HS7.out _ q2 (last_cell HL1.out hst2.cell6.1)
        clear hK K
        (try simp only [Act.put, zPA, zPZ, zPS])
        have z0 := cell_of hb2 0
        have z1 := cell_of hb2 1
        have zf := fun o => frozen_of hb2 o
        simp only [zGA, zGS, zGZ] at z0 z1
        (refine zTK 12 (oi := ?_) (v := ?_) ?_ ?_ (Or.inl ⟨?_, ?_⟩) ?_; rotate_left 2; (focus (simp only [zGA, zGZ, zGS] <;> rfl)); (focus (exact fun _ _ _ h => h)); (focus rfl); (focus (intro w hSw; (try dsimp only at hSw); go_simp; (try with_reducible rfl); done)); (try simp only [Act.put, zPA, zPZ, zPS]))
        (refine zTK 13 (oi := ?_) (v := ?_) ?_ ?_ (Or.inl ⟨?_, ?_⟩) ?_; rotate_left 2; (focus (simp only [zGA, zGZ, zGS] <;> rfl)); (focus (exact fun _ _ _ h => h)); (focus rfl); (focus (intro w hSw; (try dsimp only at hSw); go_simp; (try with_reducible rfl); done)); (try simp only [Act.put, zPA, zPZ, zPS]))
        (refine zTK 14 (oi := ?_) (v := ?_) ?_ ?_ (Or.inl ⟨?_, ?_⟩) ?_; rotate_left 2; (focus (simp only [zGA, zGZ, zGS] <;> rfl)); (focus (exact fun _ _ _ h => h)); (focus rfl); (focus (intro w hSw; (try dsimp only at hSw); go_simp; (try with_reducible rfl); done)); (try simp only [Act.put, zPA, zPZ, zPS]))
        refine wpAnyH_ready (rs := [16]) (by kernel_rfl) (by simp) ?_
        refine AllReadyH.cons (o := ?_) ?_ ?_ AllReadyH.nil
        rotate_left 1
        (focus (simp only [zGA, zGZ, zGS] <;> rfl))
        intro K hK
        go_simp
        refine hK.out _ _ ?_ (fun hHeld => ?_)
        · exact HS7.out _ (ins_leaf q2 hnp hb2 hst2 hop ho3 (p := p) (q := q)).only (last_cell HL1.out (ins_leaf q2 hnp hb2 hst2 hop ho3 (p := p) (q := q)).cell6)
        clear hK K
        (try simp only [Act.put, zPA, zPZ, zPS])
        have HG := (ins_leaf q2 hnp hb2 hst2 hop ho3 (p := p) (q := q))
        (refine zTK 17 (oi := ?_) (v := ?_) ?_ ?_ (Or.inl ⟨?_, ?_⟩) ?_; rotate_left 2; (focus (simp only [zGA, zGZ, zGS] <;> rfl)); (focus (exact fun _ _ _ h => h)); (focus rfl); (focus (intro w hSw; (try dsimp only at hSw); go_simp; (try with_reducible rfl); done)); (try simp only [Act.put, zPA, zPZ, zPS]))
        refine wpAnyH_done (by kernel_rfl) ?_ _
        generalize (d2.setCell ⟨pt, 0, none⟩ (.int .i64 p)).setCell ⟨pt, 1, none⟩ (.int .i64 q) = WF at HG ⊢
        exact KEY _ _ HG
      refine AllReadyH.cons (o := ?_) ?_ ?_ AllReadyH.nil
      rotate_left 1
      (focus (simp only [zGA, zGZ, zGS] <;> rfl))
      intro K hK
      go_simp
      refine hK.out _ _ ?_ (fun hHeld => ?_)
      · exact HS7.out _ ((q0.alloc _).mono (fun _ _ x => x.elim)) ((q0.alloc _).cell HC6.out (fun x => x))
      clear hK K
      (try simp only [Act.put, zPA, zPZ, zPS])
      have qe0 := q0.alloc (.cells #[.int .i64 0, .int .i64 0] 50)
      have hb1 := alloc_new d0 (.cells #[.int .i64 0, .int .i64 0] 50)
      have hnp : wb.heap.size ≤ d0.heap.size := q0.size
      obtain ⟨pt, hpt⟩ : ∃ pt, d0.heap.size = pt := ⟨_, rfl⟩
      (try rw [hpt] at hb1)
      (try rw [hpt] at hnp)
      (try rw [hpt])
      generalize d0.alloc (.cells #[.int .i64 0, .int .i64 0] 50) = e0 at *
      clear hpt
      refine wpAnyH_ready (rs := [8]) (by kernel_rfl) (by simp) ?_
      refine AllReadyH.cons (o := ?_) ?_ ?_ AllReadyH.nil
      rotate_left 1
      (focus (simp only [zGA, zGZ, zGS] <;> rfl))
      intro K hK
      go_simp
      go_at_call 62
      refine (store_nowhere _).mono ?_
      rintro e d1 ⟨rfl, hqn⟩
      have q1 := qe0.trans hqn
      have hbq := hqn.get hb1 (fun x => x)
      clear hb1
      have hb1 := hbq
      clear hbq
      clear hqn
      dsimp only
      refine hK.out _ _ ?_ (fun hHeld => ?_)
      · exact HS7.out _ (q1.mono (fun _ _ x => x.elim)) (q1.cell HC6.out (fun x => x))
      clear hK K
      (try simp only [Act.put, zPA, zPZ, zPS])
      (refine zTK 10 (oi := ?_) (v := ?_) ?_ ?_ (Or.inl ⟨?_, ?_⟩) ?_; rotate_left 2; (focus (simp only [zGA, zGZ, zGS] <;> rfl)); (focus (exact fun _ _ _ h => h)); (focus rfl); (focus (intro w hSw; (try dsimp only at hSw); go_simp; (try with_reducible rfl); done)); (try simp only [Act.put, zPA, zPZ, zPS]))
      refine wpAnyH_ready (rs := [11]) (by kernel_rfl) (by simp) ?_
      refine AllReadyH.cons (o := ?_) ?_ ?_ AllReadyH.nil
      rotate_left 1
      (focus (simp only [zGA, zGZ, zGS] <;> rfl))
      intro K hK
      go_simp
      go_at_call 61
      refine (HPUT.out _ q1).mono ?_
      rintro e d2 ⟨rfl, o2, ho2, hw2, hst2⟩
      have q2 := (q1.mono (T := (fun k => o k ≠ 0)) (fun _ _ x => x.elim)).trans hw2
      have hz2 := q1.size
      have hb2 := hw2.get hb1 (HBG.out _ hnp)
      have hop : o2 pt = 0 := by rw [ho2 pt (lt_of_get hb1)]; exact HBZ.out _ hnp
      have ho3 : ∀ k, k < wb.heap.size → o2 k = o k := fun k hk => ho2 k (by omega)
      clear ho2 hw2 hz2
      dsimp only
      refine hK.out _ _ ?_ (fun hHeld => ?_)
      · exact HS7.out _ q2 (last_cell HL1.out hst2.cell6.1)
      clear hK K
      (try simp only [Act.put, zPA, zPZ, zPS])
      have z0 := cell_of hb2 0
      have z1 := cell_of hb2 1
      have zf := fun o => frozen_of hb2 o
      simp only [zGA, zGS, zGZ] at z0 z1
      (refine zTK 12 (oi := ?_) (v := ?_) ?_ ?_ (Or.inl ⟨?_, ?_⟩) ?_; rotate_left 2; (focus (simp only [zGA, zGZ, zGS] <;> rfl)); (focus (exact fun _ _ _ h => h)); (focus rfl); (focus (intro w hSw; (try dsimp only at hSw); go_simp; (try with_reducible rfl); done)); (try simp only [Act.put, zPA, zPZ, zPS]))
      (refine zTK 13 (oi := ?_) (v := ?_) ?_ ?_ (Or.inl ⟨?_, ?_⟩) ?_; rotate_left 2; (focus (simp only [zGA, zGZ, zGS] <;> rfl)); (focus (exact fun _ _ _ h => h)); (focus rfl); (focus (intro w hSw; (try dsimp only at hSw); go_simp; (try with_reducible rfl); done)); (try simp only [Act.put, zPA, zPZ, zPS]))
      (refine zTK 14 (oi := ?_) (v := ?_) ?_ ?_ (Or.inl ⟨?_, ?_⟩) ?_; rotate_left 2; (focus (simp only [zGA, zGZ, zGS] <;> rfl)); (focus (exact fun _ _ _ h => h)); (focus rfl); (focus (intro w hSw; (try dsimp only at hSw); go_simp; (try with_reducible rfl); done)); (try simp only [Act.put, zPA, zPZ, zPS]))
      refine wpAnyH_ready (rs := [16]) (by kernel_rfl) (by simp) ?_
      refine AllReadyH.cons (o := ?_) ?_ ?_ AllReadyH.nil
      rotate_left 1
      (focus (simp only [zGA, zGZ, zGS] <;> rfl))
      intro K hK
      go_simp
      refine hK.out _ _ ?_ (fun hHeld => ?_)
      · exact HS7.out _ (ins_leaf q2 hnp hb2 hst2 hop ho3 (p := p) (q := q)).only (last_cell HL1.out (ins_leaf q2 hnp hb2 hst2 hop ho3 (p := p) (q := q)).cell6)
      clear hK K
      (try simp only [Act.put, zPA, zPZ, zPS])
      have HG := (ins_leaf q2 hnp hb2 hst2 hop ho3 (p := p) (q := q))
      (refine zTK 17 (oi := ?_) (v := ?_) ?_ ?_ (Or.inl ⟨?_, ?_⟩) ?_; rotate_left 2; (focus (simp only [zGA, zGZ, zGS] <;> rfl)); (focus (exact fun _ _ _ h => h)); (focus rfl); (focus (intro w hSw; (try dsimp only at hSw); go_simp; (try with_reducible rfl); done)); (try simp only [Act.put, zPA, zPZ, zPS]))
      refine wpAnyH_done (by kernel_rfl) ?_ _
      generalize (d2.setCell ⟨pt, 0, none⟩ (.int .i64 p)).setCell ⟨pt, 1, none⟩ (.int .i64 q) = WF at HG ⊢
      exact KEY _ _ HG
  case key =>
    intro pt W HL0
    have HL := Lib.hid HL0
    obtain ⟨o', ho', hst, hop⟩ := HL0.st
    have hq := HL0.only
    clear HL0 HS7 HPUT HC6
    have HPO : Hid (StoreInsPost w sb o { s1 with last := s.last + 1 } (.returned (.int .i64 0)) (W.setCell ⟨sb, 6, none⟩ (.int .u64 (ln : Int)))) := by
      obtain ⟨lb, bb, pb, mh, mt, ms, fh, ft, fs, h⟩ := hst
      have h2 := h.setLast (z := (ln : Int)) rfl HLA.out
      have hs1 := HHB.out.cell6.2
      have h3 : StoreRow (W.setCell ⟨sb, 6, none⟩ (.int .u64 (ln : Int))) sb o' { s1 with last := s.last + 1 } lb bb pb mh mt ms fh ft fs := by
        rw [HLN.out]
        exact h2
      refine ⟨rfl, o', fun k hk => ho' k (Nat.lt_of_lt_of_le hk HQB.out.size), ?_, _, _, _, _, _, _, _, _, _, h3⟩
      exact ((HQB.out.mono (fun _ _ x => x.elim)).trans' hq (fun k _ x => x)).setCell (fun _ => by show o sb ≠ 0; omega) _
    have c6 : W.cell? ⟨sb, 6, none⟩ = some (.int .u64 (s.last : Int)) := last_cell HL1.out hst.cell6.1
    have f6 : W.frozen? ⟨sb, 6, none⟩ = false := by
      obtain ⟨lb, bb, pb, mh, mt, ms, fh, ft, fs, h⟩ := hst
      exact frozen_of h.box 6
    have hw := HW.out
    have en := HEN.out
    clear hst hop hq
    go_wp2
    go_ret
    exact HPO.out

/-- Where there is no index. -/
theorem store_insert {w : World} {sb x i c3 n left' : Nat} {o : Nat → Nat} {s : St} {y : Snap} {t : TE} {name nm : ByteArray} {Sv : Nat → Prop} {A3 : Option Addr} {H H' : List (List (Option Tup))} {p q : Int} (h : StoreAt w sb o s) (hx : U64 x) (hy : s.sn x = some y) (hf : findT s.L y name s.T = some i) (ht : s.T[i]? = some t) (hc : t.cols = [(nm, 1)]) (hid : U64 t.id)
    (hI : s.I = []) (hH : s.hs t.id = some H) (hle : H.length + s.left ≤ 256) (hn : n < 256) (hv : Rd w Sv 4 A3 1 (intRow n)) (hc3 : 1 ≤ c3) (hm3 : c3 ≤ maxLen) (hlast : s.last + 1 < 18446744073709551616) (hins : hIns H s.left ⟨s.last + 1, x, 0, -1, -1, rowI n⟩ = ((p, q, 0), H', left')) :
    Calls Tryz.prog 18 #[ptrV sb, .int .u64 (x : Int), .string name, .slice A3 1 c3] w (StoreInsPost w sb o (insSt s t.id H' left')) :=
  store_insert_of (s1 := putSt s t.id H' left') h hx hy hf ht hc hn hv hc3 hm3 hlast rfl (fun W A2 c2 A5 c5 hq _ _ _ hd h9 _ => store_put0 (v := ⟨s.last + 1, x, 0, -1, -1, rowI n⟩) (cd := c5) (A2 := A2) (c2 := c2) (h.quietly hq) hI hid hH hle (rowI_bytes hn) (by show Rd W _ 1 A5 (rowI n).length _; rw [rowI_length]; exact hd) (fun k hk => h.big k hk) hins)

end Go.Proofs.YtaijnpgoiagboaaGreatDoor
