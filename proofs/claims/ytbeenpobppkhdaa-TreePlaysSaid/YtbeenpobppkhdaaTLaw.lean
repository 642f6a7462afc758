/- What the laws on trees share: Scan, Len, entry, awake; a tree in a law's world. No condition. -/
import Derived.Test.YtbeenpobppkhdaaTTree2
import Derived.Test.YtbeenpobppkhdaaTScan2
namespace Go.Lap
/-- With one more, if it isn't there. -/
def putE (e : Ent) (es : List Ent) : List Ent := if e ∈ es then es else insE e es

theorem mem_putE {e x : Ent} {es : List Ent} : x ∈ putE e es ↔ x = e ∨ x ∈ es := by
  unfold putE
  split
  · constructor
    · exact Or.inr
    · rintro (h | h)
      · rw [h]; assumption
      · exact h
  · exact mem_insE

theorem Rising.put {e : Ent} {es : List Ent} (h : Rising es) : Rising (putE e es) := by
  unfold putE
  split
  · exact h
  · exact h.ins (by assumption)

theorem putE_length (e : Ent) (es : List Ent) : (putE e es).length ≤ es.length + 1 := by
  unfold putE
  split
  · omega
  · rw [insE_length]; omega
end Go.Lap
namespace Go.Proofs.Ytbeenpobppkhdaa
open Go.RowKit Go.Lap

theorem TreeIs.kept {w w' : World} {D S : Nat → Prop} {tb : Nat} {es : List Ent} (h : TreeIs w D tb es) (ho : Only S w w') (hn : ∀ k, D k → ¬ S k) : TreeIs w' D tb es := by
  obtain ⟨rb, hh, F, K, xs, hm, e, hr⟩ := h
  have hz := ho.size
  have hlt := hm.own.2
  have hF : ∀ k, F k → ¬ S k := fun k x y => by
    rcases (hm.subF k x).1 with z | z
    · exact hn k z y
    · have := (hm.subF k x).2.2; omega
  have hK : ∀ k, K k → ¬ S k := fun k x y => by
    rcases (hm.subK k x).1 with z | z
    · exact hn k z y
    · have := (hm.subK k x).2.2.2; omega
  refine ⟨rb, hh, F, K, xs, ⟨Only.refl _ _, ho.get hm.box (hn tb hm.own.1), NodeAt.kept ho hK hm.node hF, fun k x => ?_, fun k x => ?_, hm.own.1, by omega⟩, e, hr⟩
  · have := hm.subF k x
    refine ⟨?_, this.2.1, by omega⟩
    rcases this.1 with z | z
    · exact Or.inl z
    · have := this.2.2; omega
  · have := hm.subK k x
    refine ⟨?_, this.2.1, this.2.2.1, by omega⟩
    rcases this.1 with z | z
    · exact Or.inl z
    · have := this.2.2.2; omega

theorem TreeIs.mono {w : World} {D D' : Nat → Prop} {tb : Nat} {es : List Ent} (h : TreeIs w D tb es) (hd : ∀ k, D k → k < w.heap.size → D' k) : TreeIs w D' tb es := by
  obtain ⟨rb, hh, F, K, xs, hm, e, hr⟩ := h
  have hlt := hm.own.2
  refine ⟨rb, hh, F, K, xs, ⟨Only.refl _ _, hm.box, hm.node, fun k x => ?_, fun k x => ?_, hd tb hm.own.1 hlt, hlt⟩, e, hr⟩
  · have := hm.subF k x
    refine ⟨?_, this.2⟩
    rcases this.1 with z | z
    · exact Or.inl (hd k z this.2.2)
    · have := this.2.2; omega
  · have := hm.subK k x
    refine ⟨?_, this.2⟩
    rcases this.1 with z | z
    · exact Or.inl (hd k z this.2.2.2)
    · have := this.2.2.2; omega

theorem TreeIs.rising {w : World} {D : Nat → Prop} {tb : Nat} {es : List Ent} (h : TreeIs w D tb es) : Rising es := by
  obtain ⟨rb, hh, F, K, xs, hm, e, hr⟩ := h
  exact hr

/-- A new row of entries, whose keys are new. -/
structure GotW (w w' : World) (v : Value) (zs : List EV) : Prop where
  quiet : Quiet w w'
  row : RowAt w' v zs
  new : ∀ k, v.ownBlock = some k → w.heap.size ≤ k
  key : ∀ z ∈ zs, Keyd w' (fun k => w.heap.size ≤ k ∧ k < w'.heap.size ∧ v.ownBlock ≠ some k) z

def GotPost (w : World) (l : List Ent) (e : Ending) (w' : World) : Prop := ∃ v zs, e = .returned v ∧ ents zs = l ∧ GotW w w' v zs

theorem outw_got {w w' : World} {v : Value} {zs : List EV} (h : OutW w w' (.slice none 0 0) v [] zs) : GotW w w' v zs :=
  ⟨h.only.mono (fun k _ e => by cases e), by have := h.row; rw [List.nil_append] at this; exact this, fun k e => by
    rcases h.loc with x | ⟨j, x, y⟩
    · rw [x] at e; cases e
    · rw [x] at e; injection e with e; omega, h.key⟩

set_option maxHeartbeats 400000 in
set_option maxRecDepth 100000 in
theorem tree_scan {w : World} {D : Nat → Prop} {tb : Nat} {es : List Ent} (lo hi : List Nat) (Al Ah : Option Addr) (cl ch : Nat) (Sl Sh : Nat → Prop) (ht : TreeIs w D tb es) (hl : Rd w Sl 1 Al lo.length (bytesV lo)) (hh : Rd w Sh 1 Ah hi.length (bytesV hi)) (bl : ∀ x ∈ lo, x < 256) (bh : ∀ x ∈ hi, x < 256) (sl : ∀ k, Sl k → k < w.heap.size) (sh : ∀ k, Sh k → k < w.heap.size) (hn : es.length ≤ 20000) :
    Calls Try.prog 14 #[ptrV tb, .slice Al lo.length cl, .slice Ah hi.length ch] w (GotPost w (scanE lo hi es)) := by
  obtain ⟨rb, h, F, K, xs, hm, e, hr⟩ := ht
  obtain ⟨c0, _, _⟩ := hm.cells
  have hxl : xs.length ≤ 20000 := by rw [← e] at hn; simpa using hn
  have HSC := Lib.hid (scan_ih K h F Sl Sh lo hi Al Ah cl ch w rb xs [] (.slice none 0 0) hm.node ⟨hl, hh, bl, bh, fun k x => ⟨by
    rcases x with x | x | x | x
    · exact (hm.subF k x).2.2
    · exact (hm.subK k x).2.2.2
    · exact sl k x
    · exact sh k x, fun z => by cases z⟩⟩ (by rw [e]; exact hr) (World.ownsRow_nil _ _ _ _) (by simp; omega))
  rw [e] at HSC
  clear hm hl hh bl bh sl sh hr e hn hxl
  go_enter Try.func14, Try.ntmps14
  go_wp2_with fail
  refine HSC.out.mono ?_
  rintro r w2 ⟨v2, zs, rfl, hz, ho⟩
  have HR : Hid (GotPost w (scanE lo hi es) (.returned v2) w2) := ⟨v2, zs, rfl, hz, outw_got ho⟩
  clear hz ho HSC c0
  go_wp2
  go_ret
  exact HR.out

set_option maxRecDepth 100000 in
theorem tree_len {w : World} {D : Nat → Prop} {tb : Nat} {es : List Ent} (ht : TreeIs w D tb es) :
    Calls Try.prog 16 #[ptrV tb] w fun e w' => e = .returned (.int .i64 (es.length : Int)) ∧ w = w' := by
  obtain ⟨rb, h, F, K, xs, hm, e, hr⟩ := ht
  obtain ⟨_, c1, _⟩ := hm.cells
  have hl : es.length = xs.length := by rw [← e]; simp
  rw [hl]
  clear hm hr e hl
  go_enter Try.func16, Try.ntmps16
  go_wp2
  go_ret
  exact ⟨rfl, rfl⟩

theorem tree_new {w w' : World} (hq : Quiet w w') (h0 : w'.heap[w.heap.size]? = some (.cells #[.slice none 0 0, .slice none 0 0] 62 (0, 0))) (h1 : w'.heap[w.heap.size + 1]? = some (.cells #[ptrV w.heap.size, .int .i64 0] 64 (0, 0))) : TreeIs w' (fun k => w.heap.size ≤ k) (w.heap.size + 1) [] := by
  have l1 := lt_of_get h1
  refine ⟨w.heap.size, 0, fun k => k = w.heap.size, fun _ => False, [], ⟨Only.refl _ _, h1, ⟨_, h0, World.ownsRow_nil _ _ _ _, fun x hx => by simp at hx, rfl, fun k e => by cases e⟩, fun k e => ⟨Or.inl (by omega), by omega, by omega⟩, fun k e => e.elim, by omega, l1⟩, rfl, Rising.nil⟩

/-- A tree in a law's world; the blocks of J are the law's own. -/
structure TreeW (w W : World) (J : Nat → Prop) (tb : Nat) (es : List Ent) : Prop where
  quiet : Quiet w W
  ex : ∃ D, TreeIs W D tb es ∧ (∀ k, D k → w.heap.size ≤ k ∧ k < W.heap.size ∧ ¬ J k)
  jl : ∀ k, J k → k < W.heap.size

section
variable {w W W' : World} {J J' : Nat → Prop} {tb : Nat} {es : List Ent}

theorem TreeW.fresh (h : TreeW w W J tb es) (hq : Quiet W W') (hj : ∀ k, J' k → (J k ∨ W.heap.size ≤ k) ∧ k < W'.heap.size) : TreeW w W' J' tb es := by
  obtain ⟨D, ht, hD⟩ := h.ex
  have hz := hq.size
  refine ⟨h.quiet.trans hq, ⟨D, ht.kept hq (fun _ _ x => x), fun k x => ?_⟩, fun k x => (hj k x).2⟩
  obtain ⟨a, b, c⟩ := hD k x
  refine ⟨a, by omega, fun y => ?_⟩
  rcases (hj k y).1 with z | z
  · exact c z
  · omega

theorem TreeW.quietly (h : TreeW w W J tb es) (hq : Quiet W W') : TreeW w W' J tb es := h.fresh hq (fun k x => ⟨Or.inl x, by have := h.jl k x; have := hq.size; omega⟩)

/-- The law's own blocks turn. -/
theorem TreeW.mine {S : Nat → Prop} (h : TreeW w W J tb es) (ho : Only S W W') (hS : ∀ k, S k → J k ∧ w.heap.size ≤ k) (hj : ∀ k, J' k → (J k ∨ W.heap.size ≤ k) ∧ k < W'.heap.size) : TreeW w W' J' tb es := by
  obtain ⟨D, ht, hD⟩ := h.ex
  have hz := ho.size
  refine ⟨h.quiet.trans' ho (fun k hk x => by have := hS k x; omega), ⟨D, ht.kept ho (fun k x y => (hD k x).2.2 (hS k y).1), fun k x => ?_⟩, fun k x => (hj k x).2⟩
  obtain ⟨a, b, c⟩ := hD k x
  refine ⟨a, by omega, fun y => ?_⟩
  rcases (hj k y).1 with z | z
  · exact c z
  · omega

theorem TreeW.start (hw : Quiet w W) (hq : Quiet W W') (h0 : W'.heap[W.heap.size]? = some (.cells #[.slice none 0 0, .slice none 0 0] 62 (0, 0))) (h1 : W'.heap[W.heap.size + 1]? = some (.cells #[ptrV W.heap.size, .int .i64 0] 64 (0, 0))) (hJ : ∀ k, J k → k < W.heap.size) : TreeW w W' J (W.heap.size + 1) [] := by
  have hz := hw.size
  have hz' := hq.size
  refine ⟨hw.trans hq, ⟨_, (tree_new hq h0 h1).mono (D' := fun k => W.heap.size ≤ k ∧ k < W'.heap.size) (fun k x y => ⟨x, y⟩), fun k x => ⟨by omega, x.2, fun y => by have := hJ k y; omega⟩⟩, fun k x => by have := hJ k x; omega⟩

/-- How a law's world turns. -/
abbrev TurnT (w W W' : World) (J : Nat → Prop) : Prop := Only (fun k => ¬ J k ∧ w.heap.size ≤ k) W W'

theorem TreeW.insert (e : Ent) (A : Option Addr) (c : Nat) (S : Nat → Prop) (h : TreeW w W J tb es) (hr : Rd W S 1 A e.key.length (bytesV e.key)) (hby : ∀ x ∈ e.key, x < 256) (hl : e.key.length ≤ 600) (hn : es.length ≤ 10000) :
    Calls Try.prog 12 #[ptrV tb, entV e A c] W fun r w' => r = .returned (.int .i64 (if e ∈ es then 7 else 0)) ∧ TurnT w W w' J ∧ TreeW w w' J tb (putE e es) := by
  obtain ⟨D, ht, hD⟩ := h.ex
  have hzw := h.quiet.size
  refine (tree_insert W D tb es e A c S ht hr hby hl hn).mono ?_
  have key : ∀ (w' : World) (es' : List Ent), Only D W w' → TreeIs w' (fun k => D k ∨ W.heap.size ≤ k) tb es' → TurnT w W w' J ∧ TreeW w w' J tb es' := by
    intro w' es' ho hti
    have hz := ho.size
    refine ⟨ho.mono (fun k _ x => ⟨(hD k x).2.2, (hD k x).1⟩), h.quiet.trans' ho (fun k hk x => by have := hD k x; omega), ⟨_, hti.mono (D' := fun k => (D k ∨ W.heap.size ≤ k) ∧ k < w'.heap.size) (fun k x y => ⟨x, y⟩), fun k x => ?_⟩, fun k x => by have := h.jl k x; omega⟩
    rcases x.1 with y | y
    · exact ⟨(hD k y).1, x.2, (hD k y).2.2⟩
    · exact ⟨by omega, x.2, fun z => by have := h.jl k z; omega⟩
  rintro r w' (⟨hm, rfl, ho, hti⟩ | ⟨hm, rfl, ho, hti⟩)
  · have := key w' _ ho hti
    rw [if_pos hm]
    unfold putE
    rw [if_pos hm]
    exact ⟨rfl, this⟩
  · have := key w' _ ho hti
    rw [if_neg hm]
    unfold putE
    rw [if_neg hm]
    exact ⟨rfl, this⟩

theorem TreeW.scan (lo hi : List Nat) (Al Ah : Option Addr) (cl ch : Nat) (Sl Sh : Nat → Prop) (h : TreeW w W J tb es) (hl : Rd W Sl 1 Al lo.length (bytesV lo)) (hh : Rd W Sh 1 Ah hi.length (bytesV hi)) (bl : ∀ x ∈ lo, x < 256) (bh : ∀ x ∈ hi, x < 256) (sl : ∀ k, Sl k → k < W.heap.size) (sh : ∀ k, Sh k → k < W.heap.size) (hn : es.length ≤ 20000) :
    Calls Try.prog 14 #[ptrV tb, .slice Al lo.length cl, .slice Ah hi.length ch] W (GotPost W (scanE lo hi es)) := by
  obtain ⟨D, ht, hD⟩ := h.ex
  exact tree_scan lo hi Al Ah cl ch Sl Sh ht hl hh bl bh sl sh hn

theorem TreeW.len (h : TreeW w W J tb es) : Calls Try.prog 16 #[ptrV tb] W fun e w' => e = .returned (.int .i64 (es.length : Int)) ∧ W = w' := by
  obtain ⟨D, ht, hD⟩ := h.ex
  exact tree_len ht

theorem TreeW.rising (h : TreeW w W J tb es) : Rising es := by
  obtain ⟨D, ht, hD⟩ := h.ex
  exact ht.rising
end

end Go.Proofs.Ytbeenpobppkhdaa
