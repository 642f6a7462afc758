/- TreeOrder: in whatever order entries come, the tree is gone through alike, in order, no two the same. For every input. -/
import Derived.Test.YtbeenpobppkhdaaTreeParts
import Derived.Test.YtbeenpobppkhdaaTLess
namespace Go.Lap

/-- An entry that came in. -/
structure RE where
  key : List Nat
  pg : Int
  sl : Int
  A : Option Addr
  cap : Nat

/-- As the laws put it. -/
def RE.cut (r : RE) : Ent := ⟨r.key.take 100, r.pg, r.sl⟩

/-- Those from i up to j. -/
def Those (G : Nat → RE) (i j : Nat) (es : List Ent) : Prop := ∀ e, e ∈ es ↔ ∃ k, i ≤ k ∧ k < j ∧ (G k).cut = e

theorem Those.nil {G : Nat → RE} {i : Nat} : Those G i i [] := fun e => by
  constructor
  · intro h; cases h
  · rintro ⟨k, h1, h2, _⟩; omega

theorem Those.up {G : Nat → RE} {j : Nat} {es : List Ent} (h : Those G 0 j es) : Those G 0 (j + 1) (putE (G j).cut es) := fun e => by
  rw [mem_putE, h e]
  constructor
  · rintro (rfl | ⟨k, h1, h2, h3⟩)
    · exact ⟨j, Nat.zero_le _, by omega, rfl⟩
    · exact ⟨k, h1, by omega, h3⟩
  · rintro ⟨k, h1, h2, h3⟩
    by_cases x : k = j
    · subst x; exact Or.inl h3.symm
    · exact Or.inr ⟨k, h1, by omega, h3⟩

theorem Those.down {G : Nat → RE} {i j q : Nat} {es : List Ent} (h : Those G i j es) (hq : q + 1 = i) (hj : q < j) : Those G q j (putE (G q).cut es) := fun e => by
  rw [mem_putE, h e]
  constructor
  · rintro (rfl | ⟨k, h1, h2, h3⟩)
    · exact ⟨q, Nat.le_refl _, hj, rfl⟩
    · exact ⟨k, by omega, h2, h3⟩
  · rintro ⟨k, h1, h2, h3⟩
    by_cases x : k = q
    · subst x; exact Or.inl h3.symm
    · exact Or.inr ⟨k, by omega, h2, h3⟩

theorem Those.same {G : Nat → RE} {i j : Nat} {es fs : List Ent} (h : Those G i j es) (h' : Those G i j fs) (r : Rising es) (r' : Rising fs) : es = fs :=
  rising_ext r r' (fun e => by rw [h e, h' e])
end Go.Lap
namespace Go.Proofs.Ytbeenpobppkhdaa
open Go.RowKit Go.Lap

/-- An entry that came in lies at a place. -/
def EntAt (w : World) (B : Nat) (A : Option Addr) (k : Nat) (r : RE) : Prop :=
  ∃ (b off : Nat), A = some ⟨b, off, none⟩ ∧ b < B ∧ r.key.length ≤ r.cap ∧ r.cap ≤ maxLen ∧ (∀ x ∈ r.key, x < 256) ∧ Rd w (· < B) 1 r.A r.key.length (bytesV r.key) ∧
    w.cell? ⟨b, off + k * 3, none⟩ = some (.slice r.A r.key.length r.cap) ∧ w.cell? ⟨b, off + k * 3 + 1, none⟩ = some (.int .i64 r.pg) ∧ w.cell? ⟨b, off + k * 3 + 2, none⟩ = some (.int .i64 r.sl)

theorem EntAt.kept {w w' : World} {B : Nat} {A : Option Addr} {k : Nat} {r : RE} (h : EntAt w B A k r) (hb : Below B w w') : EntAt w' B A k r := by
  obtain ⟨b, off, e, h1, h2, h3, h4, h5, c0, c1, c2⟩ := h
  exact ⟨b, off, e, h1, h2, h3, h4, h5.kept (Only.ofBelow hb) (fun k x y => by omega), by rw [hb.cell (p := ⟨b, _, none⟩) h1]; exact c0, by rw [hb.cell (p := ⟨b, _, none⟩) h1]; exact c1, by rw [hb.cell (p := ⟨b, _, none⟩) h1]; exact c2⟩

theorem ents_tell {w : World} {B : Nat} {A : Option Addr} {n : Nat} (h : EntsIn w B A n) : ∃ G : Nat → RE, ∀ k, k < n → EntAt w B A k (G k) := by
  have h' : ∀ k, ∃ r : RE, k < n → EntAt w B A k r := by
    intro k
    by_cases hk : k < n
    · obtain ⟨b, off, key, pg, sl, A', cap', e, h1, h2, h3, h4, h5, _, c⟩ := h k hk
      exact ⟨⟨key, pg, sl, A', cap'⟩, fun _ => ⟨b, off, e, h1, h2, h3, h4, h5, c⟩⟩
    · exact ⟨⟨[], 0, 0, none, 0⟩, fun x => absurd x hk⟩
  exact Classical.axiomOfChoice h'

/-- Two trees in a law's world; the blocks of J are the law's own. -/
structure TwoW (w W : World) (J : Nat → Prop) (ta tb : Nat) (ea eb : List Ent) : Prop where
  quiet : Quiet w W
  ex : ∃ Da Db, TreeIs W Da ta ea ∧ TreeIs W Db tb eb ∧ (∀ k, Da k → w.heap.size ≤ k ∧ k < W.heap.size ∧ ¬ J k ∧ ¬ Db k) ∧ (∀ k, Db k → w.heap.size ≤ k ∧ k < W.heap.size ∧ ¬ J k)
  jl : ∀ k, J k → k < W.heap.size

section
variable {w W W' : World} {J J' : Nat → Prop} {ta tb : Nat} {ea eb : List Ent}

theorem TwoW.swap (h : TwoW w W J ta tb ea eb) : TwoW w W J tb ta eb ea := by
  obtain ⟨Da, Db, h1, h2, h3, h4⟩ := h.ex
  exact ⟨h.quiet, ⟨Db, Da, h2, h1, fun k x => ⟨(h4 k x).1, (h4 k x).2.1, (h4 k x).2.2, fun y => (h3 k y).2.2.2 x⟩, fun k x => ⟨(h3 k x).1, (h3 k x).2.1, (h3 k x).2.2.1⟩⟩, h.jl⟩

theorem TwoW.fresh (h : TwoW w W J ta tb ea eb) (hq : Quiet W W') (hj : ∀ k, J' k → (J k ∨ W.heap.size ≤ k) ∧ k < W'.heap.size) : TwoW w W' J' ta tb ea eb := by
  obtain ⟨Da, Db, h1, h2, h3, h4⟩ := h.ex
  have hz := hq.size
  refine ⟨h.quiet.trans hq, ⟨Da, Db, h1.kept hq (fun _ _ x => x), h2.kept hq (fun _ _ x => x), fun k x => ⟨(h3 k x).1, by have := (h3 k x).2.1; omega, fun y => ?_, (h3 k x).2.2.2⟩, fun k x => ⟨(h4 k x).1, by have := (h4 k x).2.1; omega, fun y => ?_⟩⟩, fun k x => (hj k x).2⟩
  · rcases (hj k y).1 with z | z
    · exact (h3 k x).2.2.1 z
    · have := (h3 k x).2.1; omega
  · rcases (hj k y).1 with z | z
    · exact (h4 k x).2.2 z
    · have := (h4 k x).2.1; omega

theorem TwoW.quietly (h : TwoW w W J ta tb ea eb) (hq : Quiet W W') : TwoW w W' J ta tb ea eb := h.fresh hq (fun k x => ⟨Or.inl x, by have := h.jl k x; have := hq.size; omega⟩)

theorem TwoW.putA (h : TwoW w W J ta tb ea eb) (e : Ent) {A : Option Addr} {c : Nat} (S : Nat → Prop) (hr : Rd W S 1 A e.key.length (bytesV e.key)) (hby : ∀ x ∈ e.key, x < 256) (hl : e.key.length ≤ 600) (hn : ea.length ≤ 10000) :
    Calls Try.prog 12 #[ptrV ta, entV e A c] W fun r w' => (∃ z, r = .returned (.int .i64 z)) ∧ TwoW w w' J ta tb (putE e ea) eb ∧ Only (fun k => ¬ J k) W w' := by
  obtain ⟨Da, Db, h1, h2, h3, h4⟩ := h.ex
  have hz0 := h.quiet.size
  refine (tree_insert W Da ta ea e A c S h1 hr hby hl hn).mono ?_
  have key : ∀ (w' : World) (es' : List Ent), Only Da W w' → TreeIs w' (fun k => Da k ∨ W.heap.size ≤ k) ta es' → TwoW w w' J ta tb es' eb ∧ Only (fun k => ¬ J k) W w' := by
    intro w' es' ho hti
    have hz' := ho.size
    refine ⟨⟨h.quiet.trans' ho (fun k hk x => by have := h3 k x; omega), ⟨fun k => (Da k ∨ W.heap.size ≤ k) ∧ k < w'.heap.size, Db, hti.mono (fun k x y => ⟨x, y⟩), h2.kept ho (fun k x y => (h3 k y).2.2.2 x), fun k x => ?_, fun k x => ⟨(h4 k x).1, by have := (h4 k x).2.1; omega, (h4 k x).2.2⟩⟩, fun k x => by have := h.jl k x; omega⟩, ho.mono (fun k _ x => (h3 k x).2.2.1)⟩
    rcases x.1 with y | y
    · exact ⟨(h3 k y).1, x.2, (h3 k y).2.2⟩
    · exact ⟨by omega, x.2, fun z => by have := h.jl k z; omega, fun z => by have := (h4 k z).2.1; omega⟩
  rintro r w' (⟨hm, rfl, ho, hti⟩ | ⟨hm, rfl, ho, hti⟩)
  · unfold putE
    rw [if_pos hm]
    exact ⟨⟨_, rfl⟩, key w' _ ho hti⟩
  · unfold putE
    rw [if_neg hm]
    exact ⟨⟨_, rfl⟩, key w' _ ho hti⟩

theorem TwoW.putB (h : TwoW w W J ta tb ea eb) (e : Ent) {A : Option Addr} {c : Nat} (S : Nat → Prop) (hr : Rd W S 1 A e.key.length (bytesV e.key)) (hby : ∀ x ∈ e.key, x < 256) (hl : e.key.length ≤ 600) (hn : eb.length ≤ 10000) :
    Calls Try.prog 12 #[ptrV tb, entV e A c] W fun r w' => (∃ z, r = .returned (.int .i64 z)) ∧ TwoW w w' J ta tb ea (putE e eb) ∧ Only (fun k => ¬ J k) W w' := by
  refine (h.swap.putA e S hr hby hl hn).mono ?_
  rintro r w' ⟨h1, h2, h3⟩
  exact ⟨h1, h2.swap, h3⟩

theorem TwoW.scanA (h : TwoW w W J ta tb ea eb) (hn : ea.length ≤ 20000) : Calls Try.prog 14 #[ptrV ta, .slice none 0 0, .slice none 0 0] W (GotPost W ea) := by
  obtain ⟨Da, Db, h1, h2, h3, h4⟩ := h.ex
  have := tree_scan [] [] none none 0 0 (fun _ => False) (fun _ => False) h1 (Rd.nil _ _ _ _) (Rd.nil _ _ _ _) (by simp) (by simp) (fun _ x => x.elim) (fun _ x => x.elim) hn
  rw [scan_all] at this
  exact this

theorem TwoW.lenA (h : TwoW w W J ta tb ea eb) : Calls Try.prog 16 #[ptrV ta] W fun e w' => e = .returned (.int .i64 (ea.length : Int)) ∧ W = w' := by
  obtain ⟨Da, Db, h1, h2, h3, h4⟩ := h.ex
  exact tree_len h1

theorem TwoW.risingA (h : TwoW w W J ta tb ea eb) : Rising ea := by
  obtain ⟨Da, Db, h1, h2, h3, h4⟩ := h.ex
  exact h1.rising
end

theorem TwoW.start {w W W1 W2 : World} (hw : Quiet w W) (hq : Quiet W W1) (h0 : W1.heap[W.heap.size]? = some (.cells #[.slice none 0 0, .slice none 0 0] 62 (0, 0))) (h1 : W1.heap[W.heap.size + 1]? = some (.cells #[ptrV W.heap.size, .int .i64 0] 64 (0, 0)))
    (hq2 : Quiet W1 W2) (g0 : W2.heap[W1.heap.size]? = some (.cells #[.slice none 0 0, .slice none 0 0] 62 (0, 0))) (g1 : W2.heap[W1.heap.size + 1]? = some (.cells #[ptrV W1.heap.size, .int .i64 0] 64 (0, 0))) : TwoW w W2 (fun _ => False) (W.heap.size + 1) (W1.heap.size + 1) [] [] := by
  have z := hw.size
  have z1 := hq.size
  have z2 := hq2.size
  have a := (tree_new hq h0 h1).mono (D' := fun k => W.heap.size ≤ k ∧ k < W1.heap.size) (fun k x y => ⟨x, y⟩)
  have b := (tree_new hq2 g0 g1).mono (D' := fun k => W1.heap.size ≤ k ∧ k < W2.heap.size) (fun k x y => ⟨x, y⟩)
  exact ⟨(hw.trans hq).trans hq2, ⟨_, _, a.kept hq2 (fun _ _ x => x), b, fun k x => ⟨by omega, by omega, fun y => y, fun y => by omega⟩, fun k x => ⟨by omega, x.2, fun y => y⟩⟩, fun k x => x.elim⟩

/-- Two new blocks. -/
structure TwoBox (w wx : World) (bx by_ : Nat) (X Y : Array Value) (t : TypeId) : Prop where
  quiet : Quiet w wx
  x : wx.heap[bx]? = some (.cells X t (0, 0))
  y : wx.heap[by_]? = some (.cells Y t (0, 0))
  newx : w.heap.size ≤ bx
  newy : w.heap.size ≤ by_

theorem TwoBox.a (w : World) (X Y : Array Value) (t : TypeId) : TwoBox w ((w.alloc (.cells X t)).alloc (.cells Y t)) w.heap.size (w.heap.size + 1) X Y t :=
  ⟨((Only.refl _ _).alloc _).alloc _, alloc_old (alloc_new w _) _, by have := alloc_new (w.alloc (.cells X t)) (.cells Y t); rw [World.size_alloc] at this; exact this, Nat.le_refl _, by omega⟩

theorem TwoBox.b (w : World) (X Y : Array Value) (t : TypeId) : TwoBox w ((w.alloc (.cells Y t)).alloc (.cells X t)) (w.heap.size + 1) w.heap.size X Y t :=
  ⟨((Only.refl _ _).alloc _).alloc _, by have := alloc_new (w.alloc (.cells Y t)) (.cells X t); rw [World.size_alloc] at this; exact this, alloc_old (alloc_new w _) _, by omega, Nat.le_refl _⟩

theorem TwoBox.drew {w wx : World} {bx by_ : Nat} {X Y : Array Value} {t : TypeId} (h : TwoBox w wx bx by_ X Y t) : TwoBox w wx.drew bx by_ X Y t := ⟨h.quiet.drew, h.x, h.y, h.newx, h.newy⟩

set_option maxHeartbeats 4000000 in
set_option maxRecDepth 100000 in
theorem treeOrder_any (A : Option Addr) (n cap : Nat) (w : World) (h : EntsIn w w.heap.size A n) (hn : n ≤ cap) (hcap : cap ≤ maxLen) :
    Calls Try.prog 4 #[.slice A n cap] w fun e w' => e = .returned (.bool true) ∧ Below w.heap.size w w' := by
  unfold maxLen at hcap
  obtain ⟨G, hG⟩ := ents_tell h
  have HG := Lib.hid hG
  clear h hG
  obtain ⟨m, hm⟩ : ∃ m, min n 100 = m := ⟨_, rfl⟩
  have hm1 : m ≤ n := by omega
  have hm2 : m ≤ 100 := by omega
  have HM := Lib.hid hm
  have em : min (n : Int) 100 = (m : Int) := by omega
  have dm0 : (0 : Int) ≤ (m : Int) := by omega
  have dm1 : (m : Int) ≤ (cap : Int) := by omega
  go_enter Try.func4, Try.ntmps4
  go_wp2_with fail
  refine (awake8 _).mono ?_
  rintro e w1 ⟨rfl, hq1⟩
  have HQ1 := Lib.hid hq1
  clear hq1 hm
  go_wp2_with fail
  refine (new_any w1).mono ?_
  rintro e w2 ⟨rfl, hq2, h20, h21⟩
  have HN2 := Lib.hid (And.intro hq2 (And.intro h20 h21))
  clear hq2 h20 h21
  go_wp2_with fail
  refine (new_any w2).mono ?_
  rintro e w3 ⟨rfl, hq3, h30, h31⟩
  have HS3 := Lib.hid (TwoW.start HQ1.out HN2.out.1 HN2.out.2.1 HN2.out.2.2 hq3 h30 h31)
  clear hq3 h30 h31 HN2 HQ1 em dm0 dm1
  generalize w1.heap.size + 1 = ta at HS3 ⊢
  generalize w2.heap.size + 1 = tb at HS3 ⊢
  go_wp2_with fail
  go_loopw [25, 5, 6, 7] (fun c _ _ _ wr => ∃ (i : Nat) (ea eb : List Ent), i ≤ m ∧ c = .int .i64 (i : Int) ∧ ea.length ≤ i ∧ eb.length ≤ i ∧ Those G 0 i ea ∧ Those G (m - i) m eb ∧ TwoW w wr (fun _ => False) ta tb ea eb) (fun c _ _ _ _ => m - (intOf c).toNat)
  case atStart => exact ⟨0, [], [], Nat.zero_le _, rfl, Nat.le_refl _, Nat.le_refl _, Those.nil, Those.nil, HS3.out⟩
  case round =>
    obtain ⟨i, ea, eb, hi, rfl, hela, helb, hta, htb, hS⟩ := hrel
    clear HS3
    have HS := Lib.hid hS
    have HTA := Lib.hid hta
    have HTB := Lib.hid htb
    clear hta htb
    by_cases hlt : i < m
    · obtain ⟨q, hq⟩ : ∃ q, q + 1 + i = m := ⟨m - 1 - i, by omega⟩
      have hbel : Below w.heap.size w wr := onward (Below.refl _ _) (Nat.le_refl _) hS.quiet (fun _ x => x.elim)
      have hkr : Rd w (· < w.heap.size) 1 (G i).A (G i).key.length (bytesV (G i).key) := by obtain ⟨_, _, _, _, _, _, _, z, _⟩ := HG.out i (by omega); exact z
      have hkr2 : Rd w (· < w.heap.size) 1 (G q).A (G q).key.length (bytesV (G q).key) := by obtain ⟨_, _, _, _, _, _, _, z, _⟩ := HG.out q (by omega); exact z
      obtain ⟨b, off, rfl, hb', hkc, hkm, hkb, _, c0, c1, c2⟩ := (HG.out i (by omega)).kept hbel
      obtain ⟨b2, off2, e2, hb2', hkc2, hkm2, hkb2, _, d0, d1, d2⟩ := (HG.out q (by omega)).kept hbel
      simp only [Option.some.injEq, Addr.mk.injEq, and_true] at e2
      obtain ⟨rfl, rfl⟩ := e2
      clear hS hbel
      have HEA : Hid ((G i).cut = ⟨(G i).key.take 100, (G i).pg, (G i).sl⟩) := rfl
      have HEB : Hid ((G q).cut = ⟨(G q).key.take 100, (G q).pg, (G q).sl⟩) := rfl
      have HTA' := Lib.hid HTA.out.up
      have HTB' := Lib.hid (HTB.out.down (q := q) (by omega) (by omega))
      generalize (G i).cut = ca at HEA HTA'
      generalize (G q).cut = cb at HEB HTB'
      generalize G i = X at *
      generalize G q = Y at *
      obtain ⟨key, pg, sl, A', cap'⟩ := X
      obtain ⟨key2, pg2, sl2, A2, cap2⟩ := Y
      simp only at hkc hkm hkb hkr c0 c1 c2 hkc2 hkm2 hkb2 hkr2 d0 d1 d2 HEA HEB
      have HCU : Hid (∀ W, Quiet w W → Calls Try.prog 10 #[.slice A' key.length cap', .int .i64 100] W (FreshPost W (key.take 100))) := fun W hW => cut_any A' key.length cap' 100 key (· < w.heap.size) _ (hkr.kept hW (fun _ _ x => x)) rfl hkc hkm (by omega)
      have HCU2 : Hid (∀ W, Quiet w W → Calls Try.prog 10 #[.slice A2 key2.length cap2, .int .i64 100] W (FreshPost W (key2.take 100))) := fun W hW => cut_any A2 key2.length cap2 100 key2 (· < w.heap.size) _ (hkr2.kept hW (fun _ _ x => x)) rfl hkc2 hkm2 (by omega)
      have HKY : Hid (∀ x ∈ key, x < 256) := hkb
      have HKY2 : Hid (∀ x ∈ key2, x < 256) := hkb2
      clear hkb hkr hkc hkm hkb2 hkr2 hkc2 hkm2
      go_upto_region 8 with fail
      have i0 : (0 : Int) ≤ (i : Int) := by omega
      have i1 : (i : Int) < (m : Int) := by omega
      have j0 : (0 : Int) ≤ (q : Int) := by omega
      have j1 : (q : Int) < (m : Int) := by omega
      have dw1 : IntKind.i64.wrap ((m : Int) - 1) = (m : Int) - 1 := wrapI (by omega)
      have dw2 : IntKind.i64.wrap ((m : Int) - 1 - (i : Int)) = (q : Int) := by rw [wrapI (by omega)]; omega
      go_cut [6, 7] (fun s6 s7 wx => ∃ bx by_, s6 = ptrV bx ∧ s7 = ptrV by_ ∧ TwoBox wr wx bx by_ #[.slice A' key.length cap', .int .i64 pg, .int .i64 sl] #[.slice A2 key2.length cap2, .int .i64 pg2, .int .i64 sl2] 31)
      case first =>
        have old : ∀ o {p : Addr} {u : Value}, wr.cell? p = some u → (wr.alloc o).cell? p = some u := fun o p u hc => ((Only.refl (fun _ => False) wr).alloc o).cell hc (fun x => x)
        have old2 : ∀ o o' {p : Addr} {u : Value}, wr.cell? p = some u → ((wr.alloc o).alloc o').cell? p = some u := fun o o' p u hc => (((Only.refl (fun _ => False) wr).alloc o).alloc o').cell hc (fun x => x)
        have a0 := fun o => old o c0
        have a1 := fun o => old o c1
        have a2 := fun o => old o c2
        have a3 := fun o => old o d0
        have a4 := fun o => old o d1
        have a5 := fun o => old o d2
        have g0 := fun o o' => old2 o o' c0
        have g1 := fun o o' => old2 o o' c1
        have g2 := fun o o' => old2 o o' c2
        have g3 := fun o o' => old2 o o' d0
        have g4 := fun o o' => old2 o o' d1
        have g5 := fun o o' => old2 o o' d2
        clear old old2
        go_region
        all_goals
          go_wp2_with fail
          go_meet
          first
            | exact ⟨_, _, rfl, rfl, (TwoBox.a _ _ _ _).drew⟩
            | exact ⟨_, _, rfl, rfl, (TwoBox.b _ _ _ _).drew⟩
            | fail
      case rest =>
        obtain ⟨bx, by_, rfl, rfl, hbx⟩ := hcut
        have HQA := Lib.hid hbx.quiet
        have HSX := Lib.hid (HS.out.fresh (J' := fun k => k = bx ∨ k = by_) hbx.quiet (fun k x => by
          rcases x with x | x
          · rw [x]; exact ⟨Or.inr hbx.newx, lt_of_get hbx.x⟩
          · rw [x]; exact ⟨Or.inr hbx.newy, lt_of_get hbx.y⟩))
        obtain ⟨x0, x1, x2⟩ := ent_cells hbx.x
        obtain ⟨u0, u1, u2⟩ := ent_cells hbx.y
        have HU := Lib.hid (And.intro u0 (And.intro u1 u2))
        clear hbx c0 c1 c2 d0 d1 d2 i0 i1 j0 j1 dw1 dw2 u0 u1 u2
        go_wp2_with fail
        go_region_held3 (fun w' => w'.cell? ⟨bx, 0, none⟩ = some (.slice A' key.length cap') ∧ w'.cell? ⟨bx, 1, none⟩ = some (.int .i64 pg) ∧ w'.cell? ⟨bx, 2, none⟩ = some (.int .i64 sl))
          (first | go_keep | exact ⟨z0, z1, z2⟩ | exact ⟨y0, y1, y2⟩ | fail)
          (first
            | (go_at_call 10; go_must (refine (HCU.out _ (HS.out.quiet.trans HQA.out.drew)).mono ?_; rintro e w5 ⟨v5, rfl, hf5⟩; obtain ⟨k5, hk5⟩ : ∃ k5, key.take 100 = k5 := ⟨_, rfl⟩; rw [hk5] at hf5; have HC5 := Lib.hid (HEA.out.trans (by rw [hk5])); have hk5l : k5.length ≤ 100 := (by rw [← hk5, List.length_take]; omega); have HK5B : Hid (∀ x ∈ k5, x < 256) := (fun x hx => HKY.out x (by rw [← hk5] at hx; exact List.mem_of_mem_take hx)); obtain ⟨A5, c5, hv5, _, _, hr5⟩ := own_form hf5.own; subst hv5; have HU5 := Lib.hid (And.intro (hf5.quiet.cell HU.out.1 (fun x => x)) (And.intro (hf5.quiet.cell HU.out.2.1 (fun x => x)) (hf5.quiet.cell HU.out.2.2 (fun x => x)))); have y0 := hf5.quiet.cell x0 (fun x => x); have y1 := hf5.quiet.cell x1 (fun x => x); have y2 := hf5.quiet.cell x2 (fun x => x); have HPUT := Lib.hid ((HSX.out.quietly ((Only.refl (fun _ => False) wc).drew.trans hf5.quiet)).putA ⟨k5, pg, sl⟩ (A := A5) (c := c5) _ hr5 HK5B.out (by show k5.length ≤ 600; omega) (by omega)); clear hf5 hr5 hk5))
            | (go_at_call 12; go_must (refine HPUT.out.mono ?_; rintro e w6 ⟨⟨z6, rfl⟩, hs6, ho6⟩; have HS6 := Lib.hid hs6; have HU6 := Lib.hid (And.intro (ho6.cell HU5.out.1 (fun x => x (Or.inr rfl))) (And.intro (ho6.cell HU5.out.2.1 (fun x => x (Or.inr rfl))) (ho6.cell HU5.out.2.2 (fun x => x (Or.inr rfl))))); have z0 := ho6.cell y0 (fun x => x (Or.inl rfl)); have z1 := ho6.cell y1 (fun x => x (Or.inl rfl)); have z2 := ho6.cell y2 (fun x => x (Or.inl rfl)); clear hs6 ho6))
            | fail)
        rw [← HC5.out] at HS6
        have hpa := putE_length ca ea
        obtain ⟨v0, v1, v2⟩ := HU6.out
        clear HPUT y0 y1 y2 z0 z1 z2 x0 x1 x2 HU HU5 HU6 HS HSX HQA HK5B HC5 hk5l
        go_wp2_with fail
        go_region_held3 (fun w' => w'.cell? ⟨by_, 0, none⟩ = some (.slice A2 key2.length cap2) ∧ w'.cell? ⟨by_, 1, none⟩ = some (.int .i64 pg2) ∧ w'.cell? ⟨by_, 2, none⟩ = some (.int .i64 sl2))
          (first | go_keep | exact ⟨z0, z1, z2⟩ | exact ⟨y0, y1, y2⟩ | fail)
          (first
            | (go_at_call 10; go_must (refine (HCU2.out _ HS6.out.quiet.drew).mono ?_; rintro e w7 ⟨v7, rfl, hf7⟩; obtain ⟨k7, hk7⟩ : ∃ k7, key2.take 100 = k7 := ⟨_, rfl⟩; rw [hk7] at hf7; have HC7 := Lib.hid (HEB.out.trans (by rw [hk7])); have hk7l : k7.length ≤ 100 := (by rw [← hk7, List.length_take]; omega); have HK7B : Hid (∀ x ∈ k7, x < 256) := (fun x hx => HKY2.out x (by rw [← hk7] at hx; exact List.mem_of_mem_take hx)); obtain ⟨A7, c7, hv7, _, _, hr7⟩ := own_form hf7.own; subst hv7; have y0 := hf7.quiet.cell v0 (fun x => x); have y1 := hf7.quiet.cell v1 (fun x => x); have y2 := hf7.quiet.cell v2 (fun x => x); have HPUT := Lib.hid ((HS6.out.quietly ((Only.refl (fun _ => False) w6).drew.trans hf7.quiet)).putB ⟨k7, pg2, sl2⟩ (A := A7) (c := c7) _ hr7 HK7B.out (by show k7.length ≤ 600; omega) (by omega)); clear hf7 hr7 hk7))
            | (go_at_call 12; go_must (refine HPUT.out.mono ?_; rintro e w8 ⟨⟨z8, rfl⟩, hs8, ho8⟩; have HS8 := Lib.hid hs8; have z0 := ho8.cell y0 (fun x => x (Or.inr rfl)); have z1 := ho8.cell y1 (fun x => x (Or.inr rfl)); have z2 := ho8.cell y2 (fun x => x (Or.inr rfl)); clear hs8 ho8))
            | fail)
        rw [← HC7.out] at HS8
        have hpb := putE_length cb eb
        have HSF := Lib.hid (HS8.out.fresh (J' := fun _ => False) (Only.refl _ _) (fun k x => x.elim))
        clear HPUT y0 y1 y2 z0 z1 z2 v0 v1 v2 HS6 HS8 HK7B HC7 hk7l HCU HCU2
        go_wp2
        go_roundw
        case rel => exact ⟨i + 1, _, _, by omega, by go_num, by omega, by omega, HTA'.out, by rw [show m - (i + 1) = q by omega]; exact HTB'.out, HSF.out⟩
        case measure => simp [intOf]; omega
    · obtain rfl : i = m := by omega
      have hab : ea = eb := HTA.out.same (by have := HTB.out; rw [Nat.sub_self] at this; exact this) hS.risingA hS.swap.risingA
      have HRI := Lib.hid hS.risingA
      have HSA := Lib.hid (hS.scanA (by omega))
      subst hab
      clear hS HTA HTB
      go_wp2_with fail
      refine HSA.out.mono ?_
      rintro r wg ⟨vg, zs, rfl, hzs, hg⟩
      have HGG := Lib.hid hg
      have HSG := Lib.hid (HS.out.quietly hg.quiet)
      have HSB := Lib.hid (HSG.out.swap.scanA (by omega))
      clear hg HSA HS
      go_wp2_with fail
      refine HSB.out.mono ?_
      rintro r wh ⟨vh, ys, rfl, hys, hh⟩
      have HSH := Lib.hid (HSG.out.quietly hh.quiet)
      have hlz : zs.length = ea.length := by have := congrArg List.length hzs; simpa using this
      have hly : ys.length = ea.length := by have := congrArg List.length hys; simpa using this
      obtain ⟨Ag, cg, hvg, hcg, hcgm, hrg⟩ := own_form HGG.out.row
      obtain ⟨Ah, ch, hvh, hch, hchm, hrh⟩ := own_form hh.row
      have HLEN := Lib.hid HSH.out.lenA
      obtain ⟨le, hle⟩ : ∃ m, ea.length = m := ⟨_, rfl⟩
      rw [hle] at HLEN hlz hly
      rw [hlz] at hvg hcg
      rw [hly] at hvh hch
      have HRG : Hid (Rd wh (fun _ => True) 3 Ag zs.length (rowV zs)) := (hrg.kept hh.quiet (fun _ _ x => x)).mono (fun _ _ => trivial)
      have HRH : Hid (Rd wh (fun _ => True) 3 Ah ys.length (rowV ys)) := hrh.mono (fun _ _ => trivial)
      have HKG : Hid (∀ z ∈ zs, Keyd wh (fun _ => True) z) := fun z hz => ((HGG.out.key z hz).quietly hh.quiet).mono (fun _ _ => trivial)
      have HKH : Hid (∀ z ∈ ys, Keyd wh (fun _ => True) z) := fun z hz => (hh.key z hz).mono (fun _ _ => trivial)
      have HZS := Lib.hid hzs
      have HYS := Lib.hid hys
      have HLL := Lib.hid (And.intro hlz hly)
      have HQH := Lib.hid HSH.out.quiet
      have hle1 : le ≤ 100 := by omega
      subst hvg hvh
      clear hh hrg hrh hzs hys hlz hly HSB HSG HGG HSH hle
      go_wp2_with fail
      refine HLEN.out.mono ?_
      rintro r wj ⟨rfl, rfl⟩
      clear HLEN
      go_wp2_with fail
      go_loopw [75, 10, 11, 12, 13] (fun c' _ _ _ _ wr' => ∃ j : Nat, j ≤ le ∧ c' = .int .i64 (j : Int) ∧ Quiet wh wr') (fun c' _ _ _ _ _ => le - (intOf c').toNat)
      case atStart => exact ⟨0, Nat.zero_le _, rfl, Only.refl _ _⟩
      case round =>
        obtain ⟨j, hj, rfl, hqj⟩ := hrel
        have HQJ := Lib.hid hqj
        clear hqj
        by_cases hjm : j < le
        · obtain ⟨z, hz⟩ : ∃ z, zs[j]? = some z := ⟨_, List.getElem?_eq_getElem (by have := HLL.out; omega)⟩
          obtain ⟨y, hy⟩ : ∃ y, ys[j]? = some y := ⟨_, List.getElem?_eq_getElem (by have := HLL.out; omega)⟩
          have hzy : z.e = y.e := by
            have := congrArg (fun l => l[j]?) (HZS.out.trans HYS.out.symm)
            simp only [ents, List.getElem?_map, hz, hy, Option.map_some, Option.some.injEq] at this
            exact this
          obtain ⟨gg, off, hAg, r0, r1, r2⟩ := row_cells (HRG.out.kept HQJ.out (fun _ _ x => x)) hz
          subst hAg
          obtain ⟨gi, ofi, hAi, s0, s1, s2⟩ := row_cells (HRH.out.kept HQJ.out (fun _ _ x => x)) hy
          subst hAi
          rw [← hzy] at s0 s1 s2
          have hk1 := (HKG.out z (List.mem_of_getElem? hz)).quietly HQJ.out
          have hk2 := (HKH.out y (List.mem_of_getElem? hy)).quietly HQJ.out
          rw [show y = ⟨z.e, y.A, y.c⟩ by rw [hzy]] at hk2
          have HSM : Hid (∀ m, Calls Try.prog 13 #[.slice z.A z.e.key.length z.c, .slice y.A z.e.key.length y.c] (wr.drewN m) fun e w' => e = .returned (.bool true) ∧ wr.drewN m = w') := fun m => by
            have := same_any z.A y.A z.c y.c z.e.key z.e.key _ _ _ (hk1.quietly ((Only.refl (fun _ => False) _).drewN m)).rd (hk2.quietly ((Only.refl (fun _ => False) _).drewN m)).rd hk1.by_ hk1.by_
            rw [decide_eq_true rfl] at this
            exact this
          have HK1 := Lib.hid hk1
          have HZ := Lib.hid hz
          have d0 : (0 : Int) ≤ (j : Int) := by omega
          have d1 : (j : Int) < (le : Int) := by omega
          clear hz hy hzy hk1 hk2
          go_upto_region 18 with fail
          go_quiet ((go_at_call 13; exact quiet_left (HSM.out _)))
          by_cases hj0 : 0 < j
          · obtain ⟨p, hp⟩ : ∃ p, p + 1 = j := ⟨j - 1, by omega⟩
            obtain ⟨x, hx⟩ : ∃ x, zs[p]? = some x := ⟨_, List.getElem?_eq_getElem (by have := HLL.out; omega)⟩
            have hlt : cmpE x.e z.e < 0 := HRI.out.get (i := p) (j := j) (by omega) (by rw [← HZS.out, ents, List.getElem?_map, hx]; rfl) (by rw [← HZS.out, ents, List.getElem?_map, HZ.out]; rfl)
            have HLT := Lib.hid hlt
            obtain ⟨gg2, off2, hA2, t0, t1, t2⟩ := row_cells (HRG.out.kept HQJ.out (fun _ _ x => x)) hx
            simp only [Option.some.injEq, Addr.mk.injEq, and_true] at hA2
            obtain ⟨rfl, rfl⟩ := hA2
            have HKX := Lib.hid ((HKG.out x (List.mem_of_getElem? hx)).quietly HQJ.out)
            clear hx hlt HSM s0 s1 s2
            go_upto_region 21 with fail
            have HQN := Lib.hid (HQJ.out.drewN nq)
            have hqn : Quiet wr (wr.drewN nq) := (Only.refl (fun _ => False) wr).drewN nq
            have HKZN := Lib.hid (HK1.out.quietly hqn)
            have HKXN := Lib.hid (HKX.out.quietly hqn)
            replace r0 := hqn.cell r0 (fun x => x)
            replace r1 := hqn.cell r1 (fun x => x)
            replace r2 := hqn.cell r2 (fun x => x)
            replace t0 := hqn.cell t0 (fun x => x)
            replace t1 := hqn.cell t1 (fun x => x)
            replace t2 := hqn.cell t2 (fun x => x)
            clear hqn HQJ HK1 HKX
            generalize wr.drewN nq = wn at *
            have p0 : (0 : Int) ≤ (p : Int) := by omega
            have p1 : (p : Int) < (le : Int) := by omega
            have dw : IntKind.i64.wrap ((j : Int) - 1) = (p : Int) := by rw [wrapI (by omega)]; omega
            go_cut [11, 12] (fun s11 s12 wx => ∃ bx by_, s11 = ptrV bx ∧ s12 = ptrV by_ ∧ TwoBox wn wx bx by_ #[.slice x.A x.e.key.length x.c, .int .i64 x.e.pg, .int .i64 x.e.sl] #[.slice z.A z.e.key.length z.c, .int .i64 z.e.pg, .int .i64 z.e.sl] 34)
            case first =>
              have old : ∀ o {p : Addr} {u : Value}, wn.cell? p = some u → (wn.alloc o).cell? p = some u := fun o p u hc => ((Only.refl (fun _ => False) wn).alloc o).cell hc (fun x => x)
              have old2 : ∀ o o' {p : Addr} {u : Value}, wn.cell? p = some u → ((wn.alloc o).alloc o').cell? p = some u := fun o o' p u hc => (((Only.refl (fun _ => False) wn).alloc o).alloc o').cell hc (fun x => x)
              have a0 := fun o => old o r0
              have a1 := fun o => old o r1
              have a2 := fun o => old o r2
              have a3 := fun o => old o t0
              have a4 := fun o => old o t1
              have a5 := fun o => old o t2
              have g0 := fun o o' => old2 o o' r0
              have g1 := fun o o' => old2 o o' r1
              have g2 := fun o o' => old2 o o' r2
              have g3 := fun o o' => old2 o o' t0
              have g4 := fun o o' => old2 o o' t1
              have g5 := fun o o' => old2 o o' t2
              clear old old2
              go_region
              all_goals
                go_wp2_with fail
                go_meet
                first
                  | exact ⟨_, _, rfl, rfl, (TwoBox.a _ _ _ _).drew⟩
                  | exact ⟨_, _, rfl, rfl, (TwoBox.b _ _ _ _).drew⟩
                  | fail
            case rest =>
              obtain ⟨bx, by_, rfl, rfl, hbx⟩ := hcut
              have HQC := Lib.hid (HQN.out.trans hbx.quiet)
              have hkx := HKXN.out.quietly hbx.quiet
              have hkz := HKZN.out.quietly hbx.quiet
              obtain ⟨x0, x1, x2⟩ := ent_cells hbx.x
              obtain ⟨y0, y1, y2⟩ := ent_cells hbx.y
              have HLS := Lib.hid (less_any x.A z.A x.c z.c x.e.key z.e.key _ _ wc hkx.rd hkz.rd hkx.by_ hkz.by_)
              have HSM := Lib.hid (same_any x.A z.A x.c z.c x.e.key z.e.key _ _ wc hkx.rd hkz.rd hkx.by_ hkz.by_)
              clear hbx hkx hkz r0 r1 r2 t0 t1 t2 p0 p1 dw HKXN HKZN
              rcases (cmpE_lt x.e z.e).1 HLT.out with hc | ⟨hc, hpg | ⟨hpg, hsl⟩⟩
              · rw [decide_eq_true hc] at HLS
                clear hc
                go_wp2_with fail
                refine HLS.out.mono ?_
                rintro r wl ⟨rfl, rfl⟩
                go_wp2
                go_roundw
                case rel => exact ⟨j + 1, by omega, by go_num, HQC.out⟩
                case measure => simp [intOf]; omega
              · rw [decide_eq_false (show ¬ cmpB x.e.key z.e.key < 0 by rw [hc, cmpB_self]; omega)] at HLS
                rw [decide_eq_true hc] at HSM
                clear hc
                go_wp2_with fail
                refine HLS.out.mono ?_
                rintro r wl ⟨rfl, rfl⟩
                go_wp2_with fail
                refine HSM.out.mono ?_
                rintro r wl ⟨rfl, rfl⟩
                clear HLS HSM
                go_wp2
                go_roundw
                case rel => exact ⟨j + 1, by omega, by go_num, HQC.out⟩
                case measure => simp [intOf]; omega
              · rw [decide_eq_false (show ¬ cmpB x.e.key z.e.key < 0 by rw [hc, cmpB_self]; omega)] at HLS
                rw [decide_eq_true hc] at HSM
                rw [← hpg] at y1
                clear hc hpg
                go_wp2_with fail
                refine HLS.out.mono ?_
                rintro r wl ⟨rfl, rfl⟩
                go_wp2_with fail
                refine HSM.out.mono ?_
                rintro r wl ⟨rfl, rfl⟩
                clear HLS HSM
                go_wp2
                go_roundw
                case rel => exact ⟨j + 1, by omega, by go_num, HQC.out⟩
                case measure => simp [intOf]; omega
          · have hj1 : ¬ (0 : Int) < (j : Int) := by omega
            clear HSM r0 r1 r2 s0 s1 s2
            go_wp2
            go_roundw
            case rel => exact ⟨j + 1, by omega, by go_num, HQJ.out.drewN _⟩
            case measure => simp [intOf]; omega
        · go_wp2
          go_ret
          exact ⟨by simp, onward (Below.refl _ _) (Nat.le_refl _) (HQH.out.trans HQJ.out) (fun _ x => x.elim)⟩

open Go.ChangeShapes Go.WideShapes in
set_option maxRecDepth 100000 in
theorem treeOrder_walk {H : Type} {enc : TypeId × Value → H} {r : Reach} {base : Nat} {d0 : DataW H} {p0 : List MemPlace} (v0 : Value) (W : World)
    (o0 : Value.okWide Try.prog W r base 22 v0) (h0 : DataW.Trod enc Try.prog W 0 (fun _ => true) true 22 v0 d0 p0) :
    Calls Try.prog 4 #[v0] W fun e w' => e = .returned (.bool true) ∧ Below W.heap.size W w' := by
  obtain ⟨A, n, cap, rfl, a1, a2, a3⟩ := open_ents o0 h0
  exact treeOrder_any A n cap W a3 a1 a2

end Go.Proofs.Ytbeenpobppkhdaa
