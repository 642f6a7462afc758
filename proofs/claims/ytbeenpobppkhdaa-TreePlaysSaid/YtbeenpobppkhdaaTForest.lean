/- A row of nodes that grows: what build keeps. No condition. -/
import Derived.Test.YtbeenpobppkhdaaTAll
import Derived.Test.YtbeenpobppkhdaaTParts
namespace Go.Lap
theorem flat_snoc (ks : List Kid) (x : Kid) : flat (ks ++ [x]) = flat ks ++ x.xs := by simp [flat]

theorem take_part {α : Type} (xs : List α) {a b : Nat} (h : a ≤ b) : xs.take a ++ (xs.drop a).take (b - a) = xs.take b := by
  have e : b = a + (b - a) := by omega
  conv => rhs; rw [e]
  rw [List.take_add]
end Go.Lap
namespace Go.Proofs.Ytbeenpobppkhdaa
open Go.RowKit Go.Lap

/-- A row of nodes of one height, all of them new. -/
structure Forest (K : Nat → Prop) (h : Nat) (w0 w : World) (v : Value) (ks : List Kid) : Prop where
  quiet : Quiet w0 w
  row : w.ownsRow 0 59 1 v ks.length (kptrs ks)
  new : ∀ k, v.ownBlock = some k → w0.heap.size ≤ k
  kid : ∀ x ∈ ks, x.xs ≠ [] ∧ NodeAt K h w x.b x.F x.xs
  sub : ∀ x ∈ ks, ∀ k, x.F k → w0.heap.size ≤ k ∧ k < w.heap.size ∧ v.ownBlock ≠ some k
  apart : ks.Pairwise (fun x y => ∀ k, x.F k → ¬ y.F k)

theorem Forest.start {K : Nat → Prop} {h : Nat} {w0 w : World} (hq : Quiet w0 w) : Forest K h w0 w (.slice none 0 0) [] :=
  ⟨hq, World.ownsRow_nil _ _ _ _, (fun _ e => by cases e), (fun x hx => by cases hx), (fun x hx => by cases hx), List.Pairwise.nil⟩

theorem Forest.push {K : Nat → Prop} {h : Nat} {w0 w w2 w5 : World} {v v5 : Value} {ks : List Kid} {x : Kid} (hK : ∀ k, K k → k < w0.heap.size) (hF : Forest K h w0 w v ks) (hq : Quiet w w2) (hx : x.xs ≠ [] ∧ NodeAt K h w2 x.b x.F x.xs) (hs : ∀ k, x.F k → w0.heap.size ≤ k ∧ k < w2.heap.size ∧ v.ownBlock ≠ some k) (ha : ∀ y ∈ ks, ∀ k, y.F k → ¬ x.F k) (hg : Grew w2 w5 59 1 v v5 (ks.length + 1) (kptrs ks ++ [ptrV x.b])) : Forest K h w0 w5 v5 (ks ++ [x]) := by
  have hz0 := hF.quiet.size
  have hz := hq.size
  have hz5 := hg.only.size
  have hKv : ∀ k, K k → ¬ v.ownBlock = some k := fun k x e => by have := hK k x; have := hF.new k e; omega
  refine ⟨(hF.quiet.trans hq).trans' hg.only (fun k hk e => by have := hF.new k e; omega), ?_, fun k e => ?_, fun y hy => ?_, fun y hy k hk => ?_, ?_⟩
  · rw [List.length_append, kptrs, List.map_append]
    exact hg.own
  · rcases hg.loc with y | y
    · rw [y] at e; exact hF.new k e
    · rw [y] at e; injection e with e; omega
  · rcases List.mem_append.1 hy with z | z
    · exact ⟨(hF.kid y z).1, NodeAt.kept hg.only hKv (NodeAt.kept hq (fun _ _ x => x) (hF.kid y z).2 (fun _ _ x => x)) (fun k u e => (hF.sub y z k u).2.2 e)⟩
    · simp at z
      subst z
      exact ⟨hx.1, NodeAt.kept hg.only hKv hx.2 (fun k u e => (hs k u).2.2 e)⟩
  · have key : w0.heap.size ≤ k ∧ k < w2.heap.size ∧ v.ownBlock ≠ some k := by
      rcases List.mem_append.1 hy with z | z
      · have := hF.sub y z k hk
        exact ⟨this.1, by omega, this.2.2⟩
      · simp at z
        subst z
        exact hs k hk
    refine ⟨key.1, by omega, fun e => ?_⟩
    rcases hg.loc with u | u
    · rw [u] at e; exact key.2.2 e
    · rw [u] at e; injection e with e; omega
  · rw [List.pairwise_append]
    refine ⟨hF.apart, List.pairwise_singleton _ _, fun y hy z hz k u => ?_⟩
    simp at hz
    subst hz
    exact ha y hy k u

/-- A new leaf. -/
theorem leaf_new {K : Nat → Prop} {w w2 : World} {xs : List EV} {v : Value} (hn : NewRow w w2 34 3 v xs.length (rowV xs)) (hk : ∀ x ∈ xs, Keyd w K x) : NodeAt K 0 (w2.alloc (.cells #[v, .slice none 0 0] 62)) w2.heap.size (fun k => k = w2.heap.size ∨ v.ownBlock = some k) xs :=
  ⟨v, alloc_new w2 _, owns_kept hn.own ((Only.refl (fun _ => False) w2).alloc _) (fun _ _ x => x), fun x hx => ((hk x hx).quietly hn.quiet).quietly ((Only.refl (fun _ => False) w2).alloc _), Or.inl rfl, fun k e => Or.inr e⟩

/-- A row of nodes over others: m of these have gone into it. -/
structure Up (K : Nat → Prop) (h : Nat) (w1 w3 w : World) (vu : Value) (ks us : List Kid) (m : Nat) : Prop where
  up : Forest K (h + 1) w1 w vu us
  nu : ∀ k, vu.ownBlock = some k → w3.heap.size ≤ k
  old : Quiet w3 w
  sep : ∀ x ∈ ks.drop m, ∀ u ∈ us, ∀ k, x.F k → ¬ u.F k
  flt : flat us = flat (ks.take m)

theorem Up.start {K : Nat → Prop} {h : Nat} {w1 w3 : World} {vr : Value} {ks : List Kid} (hb : Forest K h w1 w3 vr ks) : Up K h w1 w3 w3 (.slice none 0 0) ks [] 0 :=
  ⟨Forest.start hb.quiet, (fun _ e => by cases e), Only.refl _ _, (fun x _ u hu => by cases hu), rfl⟩

theorem flat_ne {ks : List Kid} (h : ks ≠ []) (hx : ∀ x ∈ ks, x.xs ≠ []) : flat ks ≠ [] := by
  rcases ks with _ | ⟨x, ks⟩
  · exact absurd rfl h
  · intro e
    unfold flat at e
    rw [List.flatMap_cons, List.append_eq_nil_iff] at e
    exact hx x (by simp) e.1

theorem Forest.quietly {K : Nat → Prop} {h : Nat} {w0 w w' : World} {v : Value} {ks : List Kid} (hF : Forest K h w0 w v ks) (hq : Quiet w w') : Forest K h w0 w' v ks := by
  have hz := hq.size
  exact ⟨hF.quiet.trans hq, owns_kept hF.row hq (fun _ _ x => x), hF.new, fun x hx => ⟨(hF.kid x hx).1, NodeAt.kept hq (fun _ _ x => x) (hF.kid x hx).2 (fun _ _ x => x)⟩, fun x hx k hk => by have := hF.sub x hx k hk; exact ⟨this.1, by omega, this.2.2⟩, hF.apart⟩

theorem Up.push {K : Nat → Prop} {h : Nat} {w1 w3 wr wa w4 w5 w7 : World} {vr vu u vl v7 : Value} {ks us grp : List Kid} {a b : Nat} (hK : ∀ k, K k → k < w1.heap.size) (hb : Forest K h w1 w3 vr ks) (hU : Up K h w1 w3 wr vu ks us a) (hab : a + 2 ≤ b) (hbn : b ≤ ks.length) (hgrp : (ks.drop a).take (b - a) = grp)
    (hqa : Quiet wr wa) (hu : NewRow wa w4 59 1 u grp.length (kptrs grp)) (hq : Quiet w4 w5) (hbox : w5.heap[w4.heap.size]? = some (.cells #[vl, u] 62 (0, 0))) (hrow : RowAt w5 vl (heads grp)) (hvl : ∀ k, vl.ownBlock = some k → w4.heap.size < k)
    (hg : Grew (w5.alloc (.cells #[ptrV w4.heap.size] 59)) w7 59 1 vu v7 (us.length + 1) (kptrs us ++ [ptrV w4.heap.size])) : ∃ F, Up K h w1 w3 w7 v7 ks (us ++ [⟨w4.heap.size, F, flat grp⟩]) b := by
  have z1 := hU.up.quiet.size
  have z2 := hU.old.size
  have z3 := hqa.size
  have z4 := hu.quiet.size
  have z5 := hq.size
  have z0 := hb.quiet.size
  have hgl : grp.length = b - a := by rw [← hgrp, List.length_take, List.length_drop]; omega
  have hgs : ∀ x ∈ grp, x ∈ ks.drop a := fun x hx => by rw [← hgrp] at hx; exact List.mem_of_mem_take hx
  have hgk : ∀ x ∈ grp, x ∈ ks := fun x hx => List.mem_of_mem_drop (hgs x hx)
  have hq35 : Quiet w3 w5 := ((hU.old.trans hqa).trans hu.quiet).trans hq
  have hlb := lt_of_get hbox
  obtain ⟨ju, eu1, eu2⟩ := hu.loc
  have eu3 := (hu.own.lt ju eu1).2
  have hold : ∀ x ∈ ks, ∀ k, x.F k → w1.heap.size ≤ k ∧ k < w3.heap.size := fun x hx k hk => ⟨(hb.sub x hx k hk).1, (hb.sub x hx k hk).2.1⟩
  have hnode : NodeAt K (h + 1) w5 w4.heap.size (fun k => (k = w4.heap.size ∨ vl.ownBlock = some k ∨ u.ownBlock = some k) ∨ ∃ x ∈ grp, x.F k) (flat grp) := by
    refine ⟨vl, u, grp, ⟨hbox, hrow, owns_kept hu.own hq (fun _ _ x => x), ⟨ju, eu1⟩, by omega, fun x hx => ⟨(hb.kid x (hgk x hx)).1, NodeAt.kept hq35 (fun _ _ x => x) (hb.kid x (hgk x hx)).2 (fun _ _ x => x)⟩, fun x hx k hk => ⟨Or.inr ⟨x, hx, hk⟩, ?_, ?_, ?_⟩, ?_, Or.inl (Or.inl rfl), fun k e => Or.inl (Or.inr (Or.inl e)), fun k e => Or.inl (Or.inr (Or.inr e))⟩, rfl⟩
    · have := (hold x (hgk x hx) k hk).2; omega
    · intro e; have := (hold x (hgk x hx) k hk).2; have := hvl k e; omega
    · intro e; have := (hold x (hgk x hx) k hk).2; rw [eu1] at e; injection e with e; omega
    · rw [← hgrp]
      exact hb.apart.sublist ((List.take_sublist _ _).trans (List.drop_sublist _ _))
  have hne : flat grp ≠ [] := flat_ne (fun e => by rw [e] at hgl; simp at hgl; omega) (fun x hx => (hb.kid x (hgk x hx)).1)
  have hvu : ∀ k, vu.ownBlock = some k → k < wr.heap.size := fun k e => (hU.up.row.lt k e).2
  have hq6 : Quiet wr (w5.alloc (.cells #[ptrV w4.heap.size] 59)) := (((hqa.trans hu.quiet).trans hq).alloc _)
  have hF7 := hU.up.push (x := ⟨w4.heap.size, _, flat grp⟩) hK hq6 ⟨hne, NodeAt.kept ((Only.refl (fun _ => False) w5).alloc (.cells #[ptrV w4.heap.size] 59)) (fun _ _ x => x) hnode (fun _ _ x => x)⟩ (fun k x => by
      rw [World.size_alloc]
      rcases x with (x | x | x) | ⟨y, hy, x⟩
      · exact ⟨by omega, by omega, fun e => by have := hvu k e; omega⟩
      · have h1 := hvl k x
        have h2 := (hrow.lt k x).2
        exact ⟨by omega, by omega, fun e => by have := hvu k e; omega⟩
      · rw [eu1] at x
        injection x with x
        exact ⟨by omega, by omega, fun e => by have := hvu k e; omega⟩
      · have := hold y (hgk y hy) k x
        exact ⟨this.1, by omega, fun e => by have := hU.nu k e; omega⟩) (fun y hy k hk x => by
      have h1 := (hU.up.sub y hy k hk).2.1
      rcases x with (x | x | x) | ⟨z, hz, x⟩
      · omega
      · have := hvl k x; omega
      · rw [eu1] at x; injection x with x; omega
      · exact hU.sep z (hgs z hz) y hy k x hk) hg
  refine ⟨_, hF7, fun k e => ?_, ((hU.old.trans hqa).trans hu.quiet |>.trans hq |>.alloc _).trans' hg.only (fun k hk e => by have := hU.nu k e; omega), fun x hx y hy k hk hk' => ?_, ?_⟩
  · rcases hg.loc with x | x
    · rw [x] at e; exact hU.nu k e
    · rw [x] at e; injection e with e; rw [World.size_alloc] at e; omega
  · have hxa : x ∈ ks.drop a := by
      have e : ks.drop b = (ks.drop a).drop (b - a) := by rw [List.drop_drop]; congr 1; omega
      rw [e] at hx
      exact List.mem_of_mem_drop hx
    rcases List.mem_append.1 hy with z | z
    · exact hU.sep x hxa y z k hk hk'
    · simp at z
      subst z
      have h1 := hold x (List.mem_of_mem_drop hxa) k hk
      rcases hk' with (u1 | u1 | u1) | ⟨z, hz, u1⟩
      · omega
      · have := hvl k u1; omega
      · rw [eu1] at u1; injection u1 with u1; omega
      · have hap : (ks.take b ++ ks.drop b).Pairwise (fun x y => ∀ k, x.F k → ¬ y.F k) := by rw [List.take_append_drop]; exact hb.apart
        rw [List.pairwise_append] at hap
        refine hap.2.2 z ?_ x hx k u1 hk
        rw [← take_part ks (show a ≤ b by omega), hgrp]
        exact List.mem_append_right _ hz
  · rw [flat_snoc, hU.flt, ← take_part ks (show a ≤ b by omega), hgrp]
    unfold flat
    rw [List.flatMap_append]

/-- A node over others on its way: so many of its kids' first entries. -/
structure Heads (w4 w : World) (u vl : Value) (grp : List Kid) (t : Nat) : Prop where
  quiet : Quiet w4 w
  box : w.heap[w4.heap.size]? = some (.cells #[vl, u] 62 (0, 0))
  row : RowAt w vl (heads (grp.take t))
  new : ∀ k, vl.ownBlock = some k → w4.heap.size < k

theorem Heads.start (w4 : World) (u : Value) (grp : List Kid) : Heads w4 (w4.alloc (.cells #[.slice none 0 0, u] 62)) u (.slice none 0 0) grp 0 :=
  ⟨(Only.refl _ _).alloc _, alloc_new w4 _, World.ownsRow_nil _ _ _ _, (fun _ e => by cases e)⟩

theorem Heads.push {w4 w W w5 : World} {u vl v5 : Value} {grp : List Kid} {t : Nat} {x : Kid} (h : Heads w4 w u vl grp t) (hx : grp[t]? = some x) (hq : Quiet w W) (hg : Grew W w5 34 3 vl v5 (t + 1) (rowV (heads (grp.take t)) ++ (hd x.xs).cells)) : Heads w4 (w5.setCell ⟨w4.heap.size, 0, none⟩ v5) u v5 grp (t + 1) := by
  have hset : Only (· = w4.heap.size) w5 (w5.setCell ⟨w4.heap.size, 0, none⟩ v5) := (Only.refl (· = w4.heap.size) w5).setCell (p := ⟨w4.heap.size, 0, none⟩) (fun _ => rfl) _
  have hb := lt_of_get h.box
  have hz := hq.size
  have hv5 : ∀ k, v5.ownBlock = some k → w4.heap.size < k := fun k e => by
    rcases hg.loc with y | y
    · rw [y] at e; exact h.new k e
    · rw [y] at e; injection e with e; omega
  have hl := (List.getElem?_eq_some_iff.1 hx).1
  refine ⟨((h.quiet.trans hq).trans' hg.only (fun k hk e => by have := h.new k e; omega)).trans' hset (fun k hk e => by omega), by rw [set_same (hg.only.get (hq.get h.box (fun x => x)) (fun e => by have := h.new _ e; omega))]; rfl, ?_, hv5⟩
  have e1 : heads (grp.take (t + 1)) = heads (grp.take t) ++ [hd x.xs] := by rw [take_succ_get hx]; simp [heads]
  unfold RowAt
  rw [e1, rowV_append, rowV_one, List.length_append, heads, List.length_map, List.length_take, Nat.min_eq_left (by omega)]
  exact owns_kept hg.own hset (fun k e y => by have := hv5 k e; omega)

def BuildPost (K : Nat → Prop) (w : World) (xs : List EV) (e : Ending) (w' : World) : Prop := ∃ b h F, e = .returned (ptrV b) ∧ Quiet w w' ∧ NodeAt K h w' b F xs ∧ ∀ k, F k → w.heap.size ≤ k ∧ k < w'.heap.size

end Go.Proofs.Ytbeenpobppkhdaa
