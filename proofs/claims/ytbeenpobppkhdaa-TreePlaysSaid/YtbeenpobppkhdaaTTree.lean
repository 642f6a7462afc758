/- A tree in memory: its root, how many entries there are; how it turns. No condition. -/
import Derived.Test.YtbeenpobppkhdaaTIns2
namespace Go.Proofs.Ytbeenpobppkhdaa
open Go.RowKit Go.Lap

/-- From w0 on only blocks of D, and new ones, turned: block tb is a tree whose root is the node rb; it says cnt. -/
structure TreeMid (w0 w : World) (D : Nat → Prop) (tb rb h : Nat) (F K : Nat → Prop) (xs : List EV) (cnt : Int) : Prop where
  only : Only D w0 w
  box : w.heap[tb]? = some (.cells #[ptrV rb, .int .i64 cnt] 64 (0, 0))
  node : NodeAt K h w rb F xs
  subF : ∀ k, F k → (D k ∨ w0.heap.size ≤ k) ∧ k ≠ tb ∧ k < w.heap.size
  subK : ∀ k, K k → (D k ∨ w0.heap.size ≤ k) ∧ ¬ F k ∧ k ≠ tb ∧ k < w.heap.size
  own : D tb ∧ tb < w0.heap.size

/-- A tree with these entries; D: all its blocks. -/
def TreeIs (w : World) (D : Nat → Prop) (tb : Nat) (es : List Ent) : Prop := ∃ rb h F K xs, TreeMid w w D tb rb h F K xs (xs.length : Int) ∧ ents xs = es ∧ Rising es

section
variable {w0 w w' : World} {D : Nat → Prop} {tb rb h : Nat} {F K : Nat → Prop} {xs : List EV} {cnt : Int}

theorem TreeMid.quietly (hm : TreeMid w0 w D tb rb h F K xs cnt) (hq : Quiet w w') : TreeMid w0 w' D tb rb h F K xs cnt := by
  have hz := hq.size
  exact ⟨hm.only.trans' hq (fun _ _ x => x.elim), hq.get hm.box (fun x => x), NodeAt.kept hq (fun _ _ x => x) hm.node (fun _ _ x => x), fun k hk => by have := hm.subF k hk; exact ⟨this.1, this.2.1, by omega⟩, fun k hk => by have := hm.subK k hk; exact ⟨this.1, this.2.1, this.2.2.1, by omega⟩, hm.own⟩

/-- More keys. -/
theorem TreeMid.keys {K' : Nat → Prop} (hm : TreeMid w0 w D tb rb h F K xs cnt) (hk : ∀ k, K k → K' k) (hn : ∀ k, K' k → K k ∨ (w0.heap.size ≤ k ∧ k < w.heap.size ∧ ¬ F k)) : TreeMid w0 w D tb rb h F K' xs cnt := by
  refine ⟨hm.only, hm.box, NodeAt.keys hk hm.node, hm.subF, fun k x => ?_, hm.own⟩
  rcases hn k x with y | ⟨y, z, u⟩
  · exact hm.subK k y
  · exact ⟨Or.inr y, u, by have := hm.own.2; omega, z⟩

/-- Its nodes turn. -/
theorem TreeMid.turn {rb' h' : Nat} {F' : Nat → Prop} {xs' : List EV} (hm : TreeMid w0 w D tb rb h F K xs cnt) (ho : Only F w w') (hn : NodeAt K h' w' rb' F' xs') (hF : ∀ k, F' k → F k ∨ w.heap.size ≤ k) (hrb : rb' = rb) : TreeMid w0 w' D tb rb' h' (fun k => F' k ∧ k < w'.heap.size) K xs' cnt := by
  subst hrb
  have hz := ho.size
  have hz0 := hm.only.size
  have htb := lt_of_get hm.box
  refine ⟨hm.only.trans' ho (fun k hk x => ?_), ho.get hm.box (fun x => (hm.subF tb x).2.1 rfl), hn.lim, fun k x => ?_, fun k x => ?_, hm.own⟩
  · rcases (hm.subF k x).1 with y | y
    · exact y
    · omega
  · rcases hF k x.1 with y | y
    · exact ⟨(hm.subF k y).1, (hm.subF k y).2.1, x.2⟩
    · exact ⟨Or.inr (by omega), by omega, x.2⟩
  · have := hm.subK k x
    refine ⟨this.1, fun y => ?_, this.2.2.1, by omega⟩
    rcases hF k y.1 with z | z
    · exact this.2.1 z
    · omega

/-- It says another number. -/
theorem TreeMid.count (hm : TreeMid w0 w D tb rb h F K xs cnt) (c : Int) : TreeMid w0 (w.setCell ⟨tb, 1, none⟩ (.int .i64 c)) D tb rb h F K xs c := by
  have ho : Only (· = tb) w (w.setCell ⟨tb, 1, none⟩ (.int .i64 c)) := (Only.refl (· = tb) w).setCell (p := ⟨tb, 1, none⟩) (fun _ => rfl) _
  have hz := ho.size
  exact ⟨hm.only.trans' ho (fun k _ e => by rw [e]; exact hm.own.1), by rw [set_same hm.box]; rfl, NodeAt.kept ho (fun k hk e => (hm.subK k hk).2.2.1 e) hm.node (fun k hk e => (hm.subF k hk).2.1 e), fun k hk => by have := hm.subF k hk; exact ⟨this.1, this.2.1, by omega⟩, fun k hk => by have := hm.subK k hk; exact ⟨this.1, this.2.1, this.2.2.1, by omega⟩, hm.own⟩

theorem TreeMid.cells (hm : TreeMid w0 w D tb rb h F K xs cnt) : w.cell? ⟨tb, 0, none⟩ = some (ptrV rb) ∧ w.cell? ⟨tb, 1, none⟩ = some (.int .i64 cnt) ∧ ∀ o, w.frozen? ⟨tb, o, none⟩ = false :=
  ⟨by rw [cell_of hm.box]; rfl, by rw [cell_of hm.box]; rfl, fun o => frozen_of hm.box o⟩

/-- The root is cleft; a new root over both. -/
theorem TreeMid.root {X : World} {r gl gk nb : Nat} {F1 F2 : Nat → Prop} {x1 x2 : List EV} (hm : TreeMid w0 w D tb rb h F K xs cnt) (hc : Cleft K h w w' rb F xs r F1 F2 x1 x2) (hq : Quiet w' X)
    (hl : X.heap[gl]? = some (.cells #[.slice (hd x1).A (hd x1).e.key.length (hd x1).c, .int .i64 (hd x1).e.pg, .int .i64 (hd x1).e.sl, .slice (hd x2).A (hd x2).e.key.length (hd x2).c, .int .i64 (hd x2).e.pg, .int .i64 (hd x2).e.sl] 34 (0, 0)))
    (hk : X.heap[gk]? = some (.cells #[ptrV rb, ptrV r] 59 (0, 0)))
    (hn : X.heap[nb]? = some (.cells #[.slice (some ⟨gl, 0, none⟩) 2 2, .slice (some ⟨gk, 0, none⟩) 2 2] 62 (0, 0))) (hgl : w'.heap.size ≤ gl) (hgk : w'.heap.size ≤ gk) (hnb : w'.heap.size ≤ nb) :
    ∃ F', TreeMid w0 (X.setCell ⟨tb, 0, none⟩ (ptrV nb)) D tb nb (h + 1) F' K xs cnt := by
  have hz := hc.only.size
  have hzq := hq.size
  have hz0 := hm.only.size
  have htb := lt_of_get hm.box
  have ltl := lt_of_get hl
  have ltk := lt_of_get hk
  have ltn := lt_of_get hn
  have h0 : TreeMid w0 w' D tb rb h (fun k => F1 k ∧ k < w'.heap.size) K x1 cnt := hm.turn hc.only hc.n1 hc.sub1 rfl
  have hs : Only (· = tb) X (X.setCell ⟨tb, 0, none⟩ (ptrV nb)) := (Only.refl (· = tb) X).setCell (p := ⟨tb, 0, none⟩) (fun _ => rfl) _
  have hzs := hs.size
  have htF : ∀ k, (F1 k ∧ k < w'.heap.size) ∨ (F2 k ∧ k < w'.heap.size) → (D k ∨ w0.heap.size ≤ k) ∧ k ≠ tb ∧ k < w'.heap.size ∧ ¬ K k := by
    intro k x
    have key : (F k ∨ w.heap.size ≤ k) → (D k ∨ w0.heap.size ≤ k) ∧ k ≠ tb ∧ ¬ K k := fun y => by
      rcases y with y | y
      · exact ⟨(hm.subF k y).1, (hm.subF k y).2.1, fun z => (hm.subK k z).2.1 y⟩
      · exact ⟨Or.inr (by omega), by omega, fun z => by have := (hm.subK k z).2.2.2; omega⟩
    rcases x with x | x
    · have := key (hc.sub1 k x.1); exact ⟨this.1, this.2.1, x.2, this.2.2⟩
    · have := key (hc.sub2 k x.1); exact ⟨this.1, this.2.1, x.2, this.2.2⟩
  have hold : ∀ k, K k → k < w'.heap.size ∧ k ≠ tb := fun k x => ⟨by have := (hm.subK k x).2.2.2; omega, (hm.subK k x).2.2.1⟩
  have keepN : ∀ {b : Nat} {G : Nat → Prop} {ys : List EV}, NodeAt K h w' b G ys → (∀ k, G k → k ≠ tb) → NodeAt K h (X.setCell ⟨tb, 0, none⟩ (ptrV nb)) b G ys := fun hnn hg =>
    NodeAt.kept hs (fun k x e => (hold k x).2 e) (NodeAt.kept hq (fun _ _ x => x) hnn (fun _ _ x => x)) (fun k x e => hg k x e)
  refine ⟨fun k => k = nb ∨ k = gl ∨ k = gk ∨ (F1 k ∧ k < w'.heap.size) ∨ (F2 k ∧ k < w'.heap.size), ⟨?_, ?_, ⟨.slice (some ⟨gl, 0, none⟩) 2 2, .slice (some ⟨gk, 0, none⟩) 2 2, [⟨rb, fun k => F1 k ∧ k < w'.heap.size, x1⟩, ⟨r, fun k => F2 k ∧ k < w'.heap.size, x2⟩], ⟨hs.get hn (by show ¬ nb = tb; omega), ?_, ?_, ⟨gk, rfl⟩, by simp, ?_, ?_, ?_, Or.inl rfl, fun k e => ?_, fun k e => ?_⟩, ?_⟩, fun k x => ?_, fun k x => ?_, hm.own⟩⟩
  · exact ((h0.only.trans' hq (fun _ _ x => x.elim)).trans' hs (fun k _ e => by rw [e]; exact hm.own.1))
  · rw [set_same (hq.get h0.box (fun x => x))]; rfl
  · refine ⟨rfl, Or.inr ⟨gl, 2, _, rfl, Nat.zero_le _, hs.get hl (by show ¬ gl = tb; omega), by simp, by simp [maxLen], rfl, rfl⟩⟩
  · refine ⟨rfl, Or.inr ⟨gk, 2, _, rfl, Nat.zero_le _, hs.get hk (by show ¬ gk = tb; omega), by simp, by simp [maxLen], rfl, rfl⟩⟩
  · intro x hx
    simp at hx
    rcases hx with rfl | rfl
    · exact ⟨hc.ne1, keepN hc.n1.lim (fun k y => (htF k (Or.inl y)).2.1)⟩
    · exact ⟨hc.ne2, keepN hc.n2.lim (fun k y => (htF k (Or.inr y)).2.1)⟩
  · intro x hx k y
    simp at hx
    have ne : k < w'.heap.size → k ≠ nb ∧ Value.ownBlock (.slice (some ⟨gl, 0, none⟩) 2 2) ≠ some k ∧ Value.ownBlock (.slice (some ⟨gk, 0, none⟩) 2 2) ≠ some k := fun z =>
      ⟨by omega, fun e => by have e2 : gl = k := Option.some.inj e; omega, fun e => by have e2 : gk = k := Option.some.inj e; omega⟩
    rcases hx with rfl | rfl
    · exact ⟨Or.inr (Or.inr (Or.inr (Or.inl y))), ne y.2⟩
    · exact ⟨Or.inr (Or.inr (Or.inr (Or.inr y))), ne y.2⟩
  · rw [List.pairwise_cons]
    refine ⟨fun y hy k hk hyk => ?_, by simp⟩
    simp at hy
    subst hy
    exact hc.apart k hk.1 hyk.1
  · have e2 : gl = k := Option.some.inj e
    exact Or.inr (Or.inl e2.symm)
  · have e2 : gk = k := Option.some.inj e
    exact Or.inr (Or.inr (Or.inl e2.symm))
  · rw [hc.all]; simp [flat]
  · rcases x with x | x | x | x | x
    · exact ⟨Or.inr (by omega), by omega, by omega⟩
    · exact ⟨Or.inr (by omega), by omega, by omega⟩
    · exact ⟨Or.inr (by omega), by omega, by omega⟩
    · have := htF k (Or.inl x); exact ⟨this.1, this.2.1, by omega⟩
    · have := htF k (Or.inr x); exact ⟨this.1, this.2.1, by omega⟩
  · have h1 := hold k x
    refine ⟨(hm.subK k x).1, fun y => ?_, h1.2, by omega⟩
    rcases y with y | y | y | y | y
    · omega
    · omega
    · omega
    · exact (htF k (Or.inl y)).2.2.2 x
    · exact (htF k (Or.inr y)).2.2.2 x

end
end Go.Proofs.Ytbeenpobppkhdaa
