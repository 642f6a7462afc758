/- A node over others in the midst of an insert: how its parts turn. No condition. -/
import Derived.Test.YtbeenpobppkhdaaTIns
namespace Go.Proofs.Ytbeenpobppkhdaa
open Go.RowKit Go.Lap

/-- From w0 on the node b's own blocks F turned, and new ones; its row has ys, its kids' row ps, its kids are ks. -/
structure Mid (K : Nat → Prop) (h : Nat) (w0 w : World) (b : Nat) (F : Nat → Prop) (v u : Value) (ys : List EV) (ps : List Nat) (ks : List Kid) : Prop where
  only : Only F w0 w
  box : w.heap[b]? = some (.cells #[v, u] 62 (0, 0))
  row : RowAt w v ys
  kids : w.ownsRow 0 59 1 u ps.length (ps.map ptrV)
  some_ : ∃ g, u.ownBlock = some g
  kid : ∀ x ∈ ks, x.xs ≠ [] ∧ NodeAt K h w x.b x.F x.xs
  sub : ∀ x ∈ ks, ∀ k, x.F k → (F k ∨ w0.heap.size ≤ k) ∧ k < w.heap.size ∧ k ≠ b ∧ v.ownBlock ≠ some k ∧ u.ownBlock ≠ some k
  apart : ks.Pairwise (fun x y => ∀ k, x.F k → ¬ y.F k)
  foot : F b ∧ b < w0.heap.size ∧ (∀ k, v.ownBlock = some k → F k ∨ w0.heap.size ≤ k) ∧ (∀ k, u.ownBlock = some k → F k ∨ w0.heap.size ≤ k)
  keys : ∀ k, K k → ¬ F k ∧ k < w0.heap.size

section
variable {K F : Nat → Prop} {h : Nat} {w0 w w' : World} {b : Nat} {v u : Value} {ys : List EV} {ps : List Nat} {ks : List Kid}

theorem Mid.start (hi : Inner (NodeAt K h) w0 b F v u ks) (hlim : ∀ k, F k → k < w0.heap.size) (hK : ∀ k, K k → ¬ F k ∧ k < w0.heap.size) : Mid K h w0 w0 b F v u (heads ks) (ks.map (·.b)) ks := by
  refine ⟨Only.refl _ _, hi.box, hi.row, ?_, hi.some_, hi.kid, fun x hx k hk => ⟨Or.inl (hi.sub x hx k hk).1, hlim k (hi.sub x hx k hk).1, (hi.sub x hx k hk).2⟩, hi.apart, ⟨hi.foot.1, lt_of_get hi.box, fun k e => Or.inl (hi.foot.2.1 k e), fun k e => Or.inl (hi.foot.2.2 k e)⟩, hK⟩
  have := hi.kids
  rw [List.length_map, List.map_map]
  exact this

theorem Mid.done (hm : Mid K h w0 w b F v u (heads ks) (ks.map (·.b)) ks) (h2 : 2 ≤ ks.length) : NodeAt K (h + 1) w b (fun k => F k ∨ w0.heap.size ≤ k) (flat ks) := by
  refine ⟨v, u, ks, ⟨hm.box, hm.row, ?_, hm.some_, h2, hm.kid, fun x hx k hk => ⟨(hm.sub x hx k hk).1, (hm.sub x hx k hk).2.2⟩, hm.apart, Or.inl hm.foot.1, hm.foot.2.2.1, hm.foot.2.2.2⟩, rfl⟩
  have := hm.kids
  rw [List.length_map, List.map_map] at this
  exact this

/-- A key is never written. -/
theorem Mid.nokey (hm : Mid K h w0 w b F v u ys ps ks) {k : Nat} (hk : K k) : ¬ (F k ∨ w0.heap.size ≤ k) := fun x => by
  have := hm.keys k hk
  rcases x with x | x
  · exact this.1 x
  · omega

theorem Mid.bn (hm : Mid K h w0 w b F v u ys ps ks) : (∀ k, v.ownBlock = some k → k ≠ b) ∧ (∀ k, u.ownBlock = some k → k ≠ b) ∧ (∀ k, v.ownBlock = some k → u.ownBlock ≠ some k) := by
  refine ⟨fun k e => ?_, fun k e => ?_, fun k e e' => ?_⟩
  · obtain ⟨c, hc⟩ := own_blk hm.row e; exact ne_type hc hm.box (by decide)
  · obtain ⟨c, hc⟩ := own_blk hm.kids e; exact ne_type hc hm.box (by decide)
  · obtain ⟨c, hc⟩ := own_blk hm.row e
    obtain ⟨d, hd⟩ := own_blk hm.kids e'
    exact ne_type hc hd (by decide) rfl

theorem Mid.quietly (hm : Mid K h w0 w b F v u ys ps ks) (hq : Quiet w w') : Mid K h w0 w' b F v u ys ps ks := by
  have hz := hq.size
  exact ⟨hm.only.trans' hq (fun _ _ x => x.elim), hq.get hm.box (fun x => x), owns_kept hm.row hq (fun _ _ x => x), owns_kept hm.kids hq (fun _ _ x => x), hm.some_, fun x hx => ⟨(hm.kid x hx).1, NodeAt.kept hq (fun _ _ x => x) (hm.kid x hx).2 (fun _ _ x => x)⟩, fun x hx k hk => ⟨(hm.sub x hx k hk).1, by have := (hm.sub x hx k hk).2.1; omega, (hm.sub x hx k hk).2.2⟩, hm.apart, hm.foot, hm.keys⟩

/-- What stands ahead of one of its kids, and behind it, is apart from it. -/
theorem apart_mid {A B : List Kid} {x : Kid} (h : (A ++ x :: B).Pairwise (fun x y => ∀ k, x.F k → ¬ y.F k)) : ∀ y, y ∈ A ∨ y ∈ B → ∀ k, x.F k → ¬ y.F k := by
  rw [List.pairwise_append, List.pairwise_cons] at h
  intro y hy k hx hyk
  rcases hy with hy | hy
  · exact h.2.2 y hy x (by simp) k hyk hx
  · exact h.2.1.1 y hy k hx hyk

theorem apart_put {A B M : List Kid} {x : Kid} (h : (A ++ x :: B).Pairwise (fun x y => ∀ k, x.F k → ¬ y.F k)) (hM : M.Pairwise (fun x y => ∀ k, x.F k → ¬ y.F k)) (hn : ∀ m ∈ M, ∀ y, y ∈ A ∨ y ∈ B → ∀ k, m.F k → ¬ y.F k) :
    (A ++ M ++ B).Pairwise (fun x y => ∀ k, x.F k → ¬ y.F k) := by
  rw [List.pairwise_append, List.pairwise_cons] at h
  rw [List.pairwise_append, List.pairwise_append]
  refine ⟨⟨h.1, hM, fun a ha m hm k hk hmk => hn m hm a (Or.inl ha) k hmk hk⟩, h.2.1.2, fun a ha y hy => ?_⟩
  rcases List.mem_append.1 ha with ha | ha
  · exact h.2.2 a ha y (by simp [hy])
  · exact hn a ha y (Or.inr hy)

/-- One of its kids turns into others. -/
theorem Mid.turn {A B M : List Kid} {x : Kid} (hm : Mid K h w0 w b F v u ys ps (A ++ x :: B)) (ho : Only x.F w w') (hM : ∀ m ∈ M, m.xs ≠ [] ∧ NodeAt K h w' m.b m.F m.xs ∧ ∀ k, m.F k → (x.F k ∨ w.heap.size ≤ k) ∧ k < w'.heap.size) (hMp : M.Pairwise (fun x y => ∀ k, x.F k → ¬ y.F k)) :
    Mid K h w0 w' b F v u ys ps (A ++ M ++ B) := by
  have hz := ho.size
  have hz0 := hm.only.size
  have hxm : x ∈ A ++ x :: B := by simp
  have hxs := hm.sub x hxm
  have hbw := lt_of_get hm.box
  have hap := apart_mid hm.apart
  have hkK : ∀ k, K k → ¬ x.F k := fun k hk hx => hm.nokey hk (hxs k hx).1
  have old : ∀ y, y ∈ A ∨ y ∈ B → y ∈ A ++ x :: B := fun y hy => by rcases hy with hy | hy <;> simp [hy]
  refine ⟨hm.only.trans' ho (fun k hk hx => ?_), ho.get hm.box (fun hx => (hxs b hx).2.2.1 rfl), owns_kept hm.row ho (fun k e hx => (hxs k hx).2.2.2.1 e), owns_kept hm.kids ho (fun k e hx => (hxs k hx).2.2.2.2 e), hm.some_, fun y hy => ?_, fun y hy k hk => ?_, apart_put hm.apart hMp (fun m hmm y hy k hk hyk => ?_), hm.foot, hm.keys⟩
  · rcases (hxs k hx).1 with e | e
    · exact e
    · omega
  · rw [List.append_assoc, List.mem_append, List.mem_append] at hy
    have key : ∀ y, y ∈ A ∨ y ∈ B → y.xs ≠ [] ∧ NodeAt K h w' y.b y.F y.xs := fun y hy => ⟨(hm.kid y (old y hy)).1, NodeAt.kept ho hkK (hm.kid y (old y hy)).2 (fun k hk hx => hap y hy k hx hk)⟩
    rcases hy with hy | hy | hy
    · exact key y (Or.inl hy)
    · exact ⟨(hM y hy).1, (hM y hy).2.1⟩
    · exact key y (Or.inr hy)
  · rw [List.append_assoc, List.mem_append, List.mem_append] at hy
    have key : ∀ y, y ∈ A ∨ y ∈ B → y.F k → (F k ∨ w0.heap.size ≤ k) ∧ k < w'.heap.size ∧ k ≠ b ∧ v.ownBlock ≠ some k ∧ u.ownBlock ≠ some k := fun y hy hk => by
      have := hm.sub y (old y hy) k hk
      exact ⟨this.1, by omega, this.2.2⟩
    rcases hy with hy | hy | hy
    · exact key y (Or.inl hy) hk
    · obtain ⟨h1, h2⟩ := (hM y hy).2.2 k hk
      rcases h1 with h1 | h1
      · have := hxs k h1
        exact ⟨this.1, h2, this.2.2⟩
      · exact ⟨Or.inr (by omega), h2, by omega, fun e => by have := (hm.row.lt k e).2; omega, fun e => by have := (hm.kids.lt k e).2; omega⟩
    · exact key y (Or.inr hy) hk
  · rcases ((hM m hmm).2.2 k hk).1 with h1 | h1
    · exact hap y hy k h1 hyk
    · have := (hm.sub y (old y hy) k hyk).2.1
      omega

/-- One of its kids has one more entry. -/
theorem Mid.put {A B : List Kid} {x : Kid} {xs' : List EV} (hm : Mid K h w0 w b F v u ys ps (A ++ x :: B)) (ho : Only x.F w w') (hn : NodeAt K h w' x.b (fun k => x.F k ∨ w.heap.size ≤ k) xs') (hne : xs' ≠ []) :
    Mid K h w0 w' b F v u ys ps (A ++ ⟨x.b, fun k => (x.F k ∨ w.heap.size ≤ k) ∧ k < w'.heap.size, xs'⟩ :: B) := by
  have := hm.turn (M := [⟨x.b, fun k => (x.F k ∨ w.heap.size ≤ k) ∧ k < w'.heap.size, xs'⟩]) ho (fun m hmm => by
    simp at hmm
    subst hmm
    exact ⟨hne, hn.lim, fun k hk => hk⟩) (by simp)
  rw [List.append_assoc] at this
  exact this

/-- One of its kids is cleft. -/
theorem Mid.cleave {A B : List Kid} {x : Kid} {r : Nat} {F1 F2 : Nat → Prop} {x1 x2 : List EV} (hm : Mid K h w0 w b F v u ys ps (A ++ x :: B)) (hc : Cleft K h w w' x.b x.F x.xs r F1 F2 x1 x2) :
    ∃ G1 G2, Mid K h w0 w' b F v u ys ps (A ++ ⟨x.b, G1, x1⟩ :: ⟨r, G2, x2⟩ :: B) := by
  refine ⟨fun k => F1 k ∧ k < w'.heap.size, fun k => F2 k ∧ k < w'.heap.size, ?_⟩
  have := hm.turn (M := [⟨x.b, fun k => F1 k ∧ k < w'.heap.size, x1⟩, ⟨r, fun k => F2 k ∧ k < w'.heap.size, x2⟩]) hc.only (fun m hmm => by
    simp at hmm
    rcases hmm with rfl | rfl
    · exact ⟨hc.ne1, hc.n1.lim, fun k hk => ⟨hc.sub1 k hk.1, hk.2⟩⟩
    · exact ⟨hc.ne2, hc.n2.lim, fun k hk => ⟨hc.sub2 k hk.1, hk.2⟩⟩) (by
    rw [List.pairwise_cons]
    refine ⟨fun y hy k hk hyk => ?_, by simp⟩
    simp at hy
    subst hy
    exact hc.apart k hk.1 hyk.1)
  rw [List.append_assoc] at this
  exact this

/-- A place of its row is another one. -/
theorem Mid.lay {g n c j : Nat} (hm : Mid K h w0 w b F (.slice (some ⟨g, 0, none⟩) n c) u ys ps ks) (hn : ys.length = n) (x : EV) :
    Mid K h w0 (((w.setCell ⟨g, j * 3, none⟩ (.slice x.A x.e.key.length x.c)).setCell ⟨g, j * 3 + 1, none⟩ (.int .i64 x.e.pg)).setCell ⟨g, j * 3 + 2, none⟩ (.int .i64 x.e.sl)) b F (.slice (some ⟨g, 0, none⟩) n c) u (ys.set j x) ps ks := by
  subst hn
  have ho : Only (· = g) w (((w.setCell ⟨g, j * 3, none⟩ (.slice x.A x.e.key.length x.c)).setCell ⟨g, j * 3 + 1, none⟩ (.int .i64 x.e.pg)).setCell ⟨g, j * 3 + 2, none⟩ (.int .i64 x.e.sl)) := (((Only.refl (· = g) w).setCell (p := ⟨g, j * 3, none⟩) (fun _ => rfl) _).setCell (p := ⟨g, j * 3 + 1, none⟩) (fun _ => rfl) _).setCell (p := ⟨g, j * 3 + 2, none⟩) (fun _ => rfl) _
  have hz := ho.size
  obtain ⟨hb1, hb2, hb3⟩ := hm.bn
  have hg : F g ∨ w0.heap.size ≤ g := hm.foot.2.2.1 g rfl
  refine ⟨hm.only.trans' ho (fun k hk e => ?_), ho.get hm.box (fun e => hb1 g rfl e.symm), ?_, owns_kept hm.kids ho (fun k e e' => hb3 g rfl (by rw [← e']; exact e)), hm.some_, fun y hy => ⟨(hm.kid y hy).1, NodeAt.kept ho (fun k hk e => hm.nokey hk (by rw [e]; exact hg)) (hm.kid y hy).2 (fun k hk e => (hm.sub y hy k hk).2.2.2.1 (by rw [e]; rfl))⟩, fun y hy k hk => ⟨(hm.sub y hy k hk).1, by have := (hm.sub y hy k hk).2.1; omega, (hm.sub y hy k hk).2.2⟩, hm.apart, hm.foot, hm.keys⟩
  · subst e
    rcases hg with x | x
    · exact x
    · omega
  · have h1 := (hm.row.stored (j * 3) (.slice x.A x.e.key.length x.c)).1
    have h2 := (World.ownsRow.stored h1 (j * 3 + 1) (.int .i64 x.e.pg)).1
    have h3 := (World.ownsRow.stored h2 (j * 3 + 2) (.int .i64 x.e.sl)).1
    rw [rowV_set] at h3
    unfold RowAt
    rw [List.length_set]
    exact h3

/-- Its row is another one. -/
theorem Mid.grow {W w5 : World} {v5 : Value} {ys' : List EV} (hm : Mid K h w0 w b F v u ys ps ks) (hq : Quiet w W) (hg : Grew W w5 34 3 v v5 ys'.length (rowV ys')) : Mid K h w0 (w5.setCell ⟨b, 0, none⟩ v5) b F v5 u ys' ps ks := by
  have hset : Only (· = b) w5 (w5.setCell ⟨b, 0, none⟩ v5) := (Only.refl (· = b) w5).setCell (p := ⟨b, 0, none⟩) (fun _ => rfl) _
  have hmq := hm.quietly hq
  obtain ⟨hb1, hb2, hb3⟩ := hmq.bn
  have hbw := lt_of_get hmq.box
  have hz := hg.only.size
  have hz5 := hset.size
  have hz0 := hmq.only.size
  have hv5 : ∀ k, v5.ownBlock = some k → v.ownBlock = some k ∨ k = W.heap.size := fun k e => by
    rcases hg.loc with x | x
    · rw [x] at e; exact Or.inl e
    · rw [x] at e; injection e with e; exact Or.inr e.symm
  have hv5b : ∀ k, v5.ownBlock = some k → k ≠ b := fun k e => by
    rcases hv5 k e with x | x
    · exact hb1 k x
    · omega
  refine ⟨(hmq.only.trans' hg.only (fun k hk e => ?_)).trans' hset (fun k hk e => by rw [e]; exact hm.foot.1), by rw [set_same (hg.only.get hmq.box (fun e => hb1 b e rfl))]; rfl, owns_kept hg.own hset (fun k e x => hv5b k e x), owns_kept (owns_kept hmq.kids hg.only (fun k e e' => hb3 k e' e)) hset (fun k e => hb2 k e), hm.some_, fun y hy => ⟨(hm.kid y hy).1, NodeAt.kept hset (fun k hk e => hm.nokey hk (by rw [e]; exact Or.inl hm.foot.1)) (NodeAt.kept hg.only (fun k hk e => hm.nokey hk (hm.foot.2.2.1 k e)) (hmq.kid y hy).2 (fun k hk e => (hmq.sub y hy k hk).2.2.2.1 e)) (fun k hk e => (hmq.sub y hy k hk).2.2.1 e)⟩, fun y hy k hk => ?_, hm.apart, ⟨hm.foot.1, hm.foot.2.1, fun k e => ?_, hm.foot.2.2.2⟩, hm.keys⟩
  · rcases hm.foot.2.2.1 k e with x | x
    · exact x
    · omega
  · have := hmq.sub y hy k hk
    refine ⟨this.1, by omega, this.2.2.1, fun e => ?_, this.2.2.2.2⟩
    rcases hv5 k e with x | x
    · exact this.2.2.2.1 x
    · omega
  · rcases hv5 k e with x | x
    · exact hm.foot.2.2.1 k x
    · exact Or.inr (by omega)

/-- Its kids' row is another one. -/
theorem Mid.growKids {W w5 : World} {u5 : Value} {ps' : List Nat} (hm : Mid K h w0 w b F v u ys ps ks) (hq : Quiet w W) (hg : Grew W w5 59 1 u u5 ps'.length (ps'.map ptrV)) : Mid K h w0 (w5.setCell ⟨b, 1, none⟩ u5) b F v u5 ys ps' ks := by
  have hset : Only (· = b) w5 (w5.setCell ⟨b, 1, none⟩ u5) := (Only.refl (· = b) w5).setCell (p := ⟨b, 1, none⟩) (fun _ => rfl) _
  have hmq := hm.quietly hq
  obtain ⟨hb1, hb2, hb3⟩ := hmq.bn
  have hbw := lt_of_get hmq.box
  have hz := hg.only.size
  have hz5 := hset.size
  have hz0 := hmq.only.size
  have hu5 : ∀ k, u5.ownBlock = some k → u.ownBlock = some k ∨ k = W.heap.size := fun k e => by
    rcases hg.loc with x | x
    · rw [x] at e; exact Or.inl e
    · rw [x] at e; injection e with e; exact Or.inr e.symm
  have hu5b : ∀ k, u5.ownBlock = some k → k ≠ b := fun k e => by
    rcases hu5 k e with x | x
    · exact hb2 k x
    · omega
  refine ⟨(hmq.only.trans' hg.only (fun k hk e => ?_)).trans' hset (fun k hk e => by rw [e]; exact hm.foot.1), by rw [set_same (hg.only.get hmq.box (fun e => hb2 b e rfl))]; rfl, owns_kept (owns_kept hmq.row hg.only (fun k e e' => hb3 k e e')) hset (fun k e => hb1 k e), owns_kept hg.own hset (fun k e x => hu5b k e x), ?_, fun y hy => ⟨(hm.kid y hy).1, NodeAt.kept hset (fun k hk e => hm.nokey hk (by rw [e]; exact Or.inl hm.foot.1)) (NodeAt.kept hg.only (fun k hk e => hm.nokey hk (hm.foot.2.2.2 k e)) (hmq.kid y hy).2 (fun k hk e => (hmq.sub y hy k hk).2.2.2.2 e)) (fun k hk e => (hmq.sub y hy k hk).2.2.1 e)⟩, fun y hy k hk => ?_, hm.apart, ⟨hm.foot.1, hm.foot.2.1, hm.foot.2.2.1, fun k e => ?_⟩, hm.keys⟩
  · rcases hm.foot.2.2.2 k e with x | x
    · exact x
    · omega
  · rcases hg.loc with x | x
    · obtain ⟨g, hg'⟩ := hm.some_; exact ⟨g, by rw [x]; exact hg'⟩
    · exact ⟨_, x⟩
  · have := hmq.sub y hy k hk
    refine ⟨this.1, by omega, this.2.2.1, this.2.2.2.1, fun e => ?_⟩
    rcases hu5 k e with x | x
    · exact this.2.2.2.2 x
    · omega
  · rcases hu5 k e with x | x
    · exact hm.foot.2.2.2 k x
    · exact Or.inr (by omega)

end
end Go.Proofs.Ytbeenpobppkhdaa
