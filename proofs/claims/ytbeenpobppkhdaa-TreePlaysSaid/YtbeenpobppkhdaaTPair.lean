/- A tree and the document's tree in a law's world; places that came in. No condition. -/
import Derived.Test.YtbeenpobppkhdaaTRef5
import Derived.Test.YtbeenpobppkhdaaTAwake
import Derived.Test.YtbeenpobppkhdaaTOpen
namespace Go.Proofs.Ytbeenpobppkhdaa
open Go.RowKit Go.Lap

/-- A tree, and the document's; the blocks of J are the law's own. -/
structure PairW (w W : World) (J : Nat → Prop) (tb xb : Nat) (ea eb : List Ent) : Prop where
  quiet : Quiet w W
  ex : ∃ D F, TreeIs W D tb ea ∧ RefIs W F xb eb ∧ (∀ k, D k → w.heap.size ≤ k ∧ k < W.heap.size ∧ ¬ J k ∧ ¬ F k) ∧ (∀ k, F k → w.heap.size ≤ k ∧ k < W.heap.size ∧ ¬ J k)
  jl : ∀ k, J k → k < W.heap.size

section
variable {w W W' : World} {J J' : Nat → Prop} {tb xb : Nat} {ea eb : List Ent}

theorem PairW.fresh (h : PairW w W J tb xb ea eb) (hq : Quiet W W') (hj : ∀ k, J' k → (J k ∨ W.heap.size ≤ k) ∧ k < W'.heap.size) : PairW w W' J' tb xb ea eb := by
  obtain ⟨D, F, h1, h2, h3, h4⟩ := h.ex
  have hz := hq.size
  refine ⟨h.quiet.trans hq, ⟨D, F, h1.kept hq (fun _ _ x => x), h2.kept hq (fun _ _ x => x), fun k x => ⟨(h3 k x).1, by have := (h3 k x).2.1; omega, fun y => ?_, (h3 k x).2.2.2⟩, fun k x => ⟨(h4 k x).1, by have := (h4 k x).2.1; omega, fun y => ?_⟩⟩, fun k x => (hj k x).2⟩
  · rcases (hj k y).1 with z | z
    · exact (h3 k x).2.2.1 z
    · have := (h3 k x).2.1; omega
  · rcases (hj k y).1 with z | z
    · exact (h4 k x).2.2 z
    · have := (h4 k x).2.1; omega

theorem PairW.quietly (h : PairW w W J tb xb ea eb) (hq : Quiet W W') : PairW w W' J tb xb ea eb := h.fresh hq (fun k x => ⟨Or.inl x, by have := h.jl k x; have := hq.size; omega⟩)

/-- The law's own blocks turn. -/
theorem PairW.mine {S : Nat → Prop} (h : PairW w W J tb xb ea eb) (ho : Only S W W') (hS : ∀ k, S k → J k ∧ w.heap.size ≤ k) (hj : ∀ k, J' k → (J k ∨ W.heap.size ≤ k) ∧ k < W'.heap.size) : PairW w W' J' tb xb ea eb := by
  obtain ⟨D, F, h1, h2, h3, h4⟩ := h.ex
  have hz := ho.size
  refine ⟨h.quiet.trans' ho (fun k hk x => by have := hS k x; omega), ⟨D, F, h1.kept ho (fun k x y => (h3 k x).2.2.1 (hS k y).1), h2.kept ho (fun k x y => (h4 k x).2.2 (hS k y).1), fun k x => ⟨(h3 k x).1, by have := (h3 k x).2.1; omega, fun y => ?_, (h3 k x).2.2.2⟩, fun k x => ⟨(h4 k x).1, by have := (h4 k x).2.1; omega, fun y => ?_⟩⟩, fun k x => (hj k x).2⟩
  · rcases (hj k y).1 with z | z
    · exact (h3 k x).2.2.1 z
    · have := (h3 k x).2.1; omega
  · rcases (hj k y).1 with z | z
    · exact (h4 k x).2.2 z
    · have := (h4 k x).2.1; omega

/-- A call on the tree. -/
theorem PairW.doA {f : FuncId} {args : Array Value} {R : Ending → List Ent → Prop} (h : PairW w W J tb xb ea eb)
    (hc : ∀ D, TreeIs W D tb ea → Calls Try.prog f args W (fun r w' => ∃ ea', R r ea' ∧ Only D W w' ∧ TreeIs w' (fun k => D k ∨ W.heap.size ≤ k) tb ea')) :
    Calls Try.prog f args W (fun r w' => ∃ ea', R r ea' ∧ PairW w w' J tb xb ea' eb ∧ TurnT w W w' J) := by
  obtain ⟨D, F, h1, h2, h3, h4⟩ := h.ex
  have hzw := h.quiet.size
  refine (hc D h1).mono ?_
  rintro r w' ⟨ea', hr, ho, hti⟩
  have hz := ho.size
  refine ⟨ea', hr, ⟨h.quiet.trans' ho (fun k hk x => by have := h3 k x; omega), ⟨fun k => (D k ∨ W.heap.size ≤ k) ∧ k < w'.heap.size, F, hti.mono (fun k x y => ⟨x, y⟩), h2.kept ho (fun k x y => (h3 k y).2.2.2 x), fun k x => ?_, fun k x => ⟨(h4 k x).1, by have := (h4 k x).2.1; omega, (h4 k x).2.2⟩⟩, fun k x => by have := h.jl k x; omega⟩, ho.mono (fun k _ x => ⟨(h3 k x).2.2.1, (h3 k x).1⟩)⟩
  rcases x.1 with y | y
  · exact ⟨(h3 k y).1, x.2, (h3 k y).2.2⟩
  · exact ⟨by omega, x.2, fun z => by have := h.jl k z; omega, fun z => by have := (h4 k z).2.1; omega⟩

/-- A call on the document's tree. -/
theorem PairW.doB {f : FuncId} {args : Array Value} {R : Ending → List Ent → Prop} (h : PairW w W J tb xb ea eb)
    (hc : ∀ F, RefIs W F xb eb → Calls Try.prog f args W (fun r w' => ∃ eb', R r eb' ∧ Only (· = xb) W w' ∧ RefIs w' (fun k => F k ∨ W.heap.size ≤ k) xb eb')) :
    Calls Try.prog f args W (fun r w' => ∃ eb', R r eb' ∧ PairW w w' J tb xb ea eb' ∧ TurnT w W w' J) := by
  obtain ⟨D, F, h1, h2, h3, h4⟩ := h.ex
  have hzw := h.quiet.size
  have hxF : F xb := by obtain ⟨v, xs, hm, _⟩ := h2; exact hm.sub.1
  have hxb := h4 xb hxF
  refine (hc F h2).mono ?_
  rintro r w' ⟨eb', hr, ho, hti⟩
  have hz := ho.size
  refine ⟨eb', hr, ⟨h.quiet.trans' ho (fun k hk x => by omega), ⟨D, fun k => (F k ∨ W.heap.size ≤ k) ∧ k < w'.heap.size, h1.kept ho (fun k x y => by subst y; exact (h3 k x).2.2.2 hxF), hti.mono (fun k x y => ⟨x, y⟩), fun k x => ⟨(h3 k x).1, by have := (h3 k x).2.1; omega, (h3 k x).2.2.1, fun y => ?_⟩, fun k x => ?_⟩, fun k x => by have := h.jl k x; omega⟩, ho.mono (fun k _ x => by subst x; exact ⟨hxb.2.2, hxb.1⟩)⟩
  · rcases y.1 with z | z
    · exact (h3 k x).2.2.2 z
    · have := (h3 k x).2.1; omega
  · rcases x.1 with y | y
    · exact ⟨(h4 k y).1, x.2, (h4 k y).2.2⟩
    · exact ⟨by omega, x.2, fun z => by have := h.jl k z; omega⟩

theorem PairW.insA (h : PairW w W J tb xb ea eb) (e : Ent) {A : Option Addr} {c : Nat} (S : Nat → Prop) (hr : Rd W S 1 A e.key.length (bytesV e.key)) (hby : ∀ x ∈ e.key, x < 256) (hl : e.key.length ≤ 600) (hn : ea.length ≤ 9999) :
    Calls Try.prog 12 #[ptrV tb, entV e A c] W fun r w' => r = .returned (.int .i64 (if e ∈ ea then 7 else 0)) ∧ PairW w w' J tb xb (putE e ea) eb ∧ TurnT w W w' J := by
  refine (h.doA (R := fun r l => r = .returned (.int .i64 (if e ∈ ea then 7 else 0)) ∧ l = putE e ea) (fun D ht => (tree_insert W D tb ea e A c S ht hr hby hl (by omega)).mono ?_)).mono ?_
  · rintro r w' (⟨hm, rfl, ho, hti⟩ | ⟨hm, rfl, ho, hti⟩)
    · exact ⟨_, ⟨by rw [if_pos hm], by unfold putE; rw [if_pos hm]⟩, ho, hti⟩
    · exact ⟨_, ⟨by rw [if_neg hm], by unfold putE; rw [if_neg hm]⟩, ho, hti⟩
  · rintro r w' ⟨l, ⟨h1, rfl⟩, h2, h3⟩
    exact ⟨h1, h2, h3⟩

theorem PairW.insB (h : PairW w W J tb xb ea eb) (e : Ent) {A : Option Addr} {c : Nat} (S : Nat → Prop) (hr : Rd W S 1 A e.key.length (bytesV e.key)) (hby : ∀ x ∈ e.key, x < 256) (hl : e.key.length ≤ 600) (hn : eb.length ≤ 9999) :
    Calls Try.prog 18 #[ptrV xb, entV e A c] W fun r w' => r = .returned (.int .i64 (if e ∈ eb then 7 else 0)) ∧ PairW w w' J tb xb ea (putE e eb) ∧ TurnT w W w' J := by
  refine (h.doB (R := fun r l => r = .returned (.int .i64 (if e ∈ eb then 7 else 0)) ∧ l = putE e eb) (fun F ht => (ref_insert W F xb eb e A c S ht hr hby hl hn).mono ?_)).mono ?_
  · rintro r w' (⟨hm, rfl, ho⟩ | ⟨hm, rfl, ho, hti⟩)
    · exact ⟨eb, ⟨by rw [if_pos hm], by unfold putE; rw [if_pos hm]⟩, ho.mono (fun _ _ x => x.elim), (ht.kept ho (fun _ _ x => x)).mono (fun k x _ => Or.inl x)⟩
    · exact ⟨_, ⟨by rw [if_neg hm], by unfold putE; rw [if_neg hm]⟩, ho, hti⟩
  · rintro r w' ⟨l, ⟨h1, rfl⟩, h2, h3⟩
    exact ⟨h1, h2, h3⟩

theorem PairW.delA (h : PairW w W J tb xb ea eb) (e : Ent) {A : Option Addr} {c : Nat} (S : Nat → Prop) (hr : Rd W S 1 A e.key.length (bytesV e.key)) (hby : ∀ x ∈ e.key, x < 256) (hl : e.key.length ≤ 1000) (hn : ea.length ≤ 10000) :
    Calls Try.prog 23 #[ptrV tb, entV e A c] W fun r w' => r = .returned (.int .i64 (if e ∈ ea then 0 else 15)) ∧ PairW w w' J tb xb (if e ∈ ea then delE e ea else ea) eb ∧ TurnT w W w' J := by
  refine (h.doA (R := fun r l => r = .returned (.int .i64 (if e ∈ ea then 0 else 15)) ∧ l = if e ∈ ea then delE e ea else ea) (fun D ht => (tree_delete W D tb ea e A c S ht hr hby hl hn).mono ?_)).mono ?_
  · rintro r w' (⟨hm, rfl, ho, hti⟩ | ⟨hm, rfl, ho, hti⟩)
    · exact ⟨_, ⟨by rw [if_neg hm], by rw [if_neg hm]⟩, ho, hti⟩
    · exact ⟨_, ⟨by rw [if_pos hm], by rw [if_pos hm]⟩, ho, hti⟩
  · rintro r w' ⟨l, ⟨h1, rfl⟩, h2, h3⟩
    exact ⟨h1, h2, h3⟩

theorem PairW.delB (h : PairW w W J tb xb ea eb) (e : Ent) {A : Option Addr} {c : Nat} (S : Nat → Prop) (hr : Rd W S 1 A e.key.length (bytesV e.key)) (hby : ∀ x ∈ e.key, x < 256) (hl : e.key.length ≤ 1000) (hn : eb.length ≤ 10000) :
    Calls Try.prog 24 #[ptrV xb, entV e A c] W fun r w' => r = .returned (.int .i64 (if e ∈ eb then 0 else 15)) ∧ PairW w w' J tb xb ea (if e ∈ eb then delE e eb else eb) ∧ TurnT w W w' J := by
  refine (h.doB (R := fun r l => r = .returned (.int .i64 (if e ∈ eb then 0 else 15)) ∧ l = if e ∈ eb then delE e eb else eb) (fun F ht => (ref_delete W F xb eb e A c S ht hr hby hl hn).mono ?_)).mono ?_
  · rintro r w' (⟨hm, rfl, ho⟩ | ⟨hm, rfl, ho, hti⟩)
    · exact ⟨eb, ⟨by rw [if_neg hm], by rw [if_neg hm]⟩, ho.mono (fun _ _ x => x.elim), (ht.kept ho (fun _ _ x => x)).mono (fun k x _ => Or.inl x)⟩
    · exact ⟨_, ⟨by rw [if_pos hm], by rw [if_pos hm]⟩, ho, hti⟩
  · rintro r w' ⟨l, ⟨h1, rfl⟩, h2, h3⟩
    exact ⟨h1, h2, h3⟩

theorem PairW.pruA (h : PairW w W J tb xb ea eb) (ps : List (Int × Int)) {A : Option Addr} {m c : Nat} (S : Nat → Prop) (hr : Rd W S 2 A m (tidsV ps)) (hpl : ps.length = m) (hwp : ∀ p ∈ ps, Wf p) (hwe : ∀ e ∈ ea, Wf (e.pg, e.sl)) (hm : m ≤ 10000) (hn : ea.length ≤ 10000) :
    Calls Try.prog 19 #[ptrV tb, .slice A m c] W fun r w' => r = .returned (.int .i64 ((ea.length : Int) - ((prunE ps ea).length : Int))) ∧ PairW w w' J tb xb (prunE ps ea) eb ∧ TurnT w W w' J := by
  refine (h.doA (R := fun r l => r = .returned (.int .i64 ((ea.length : Int) - ((prunE ps ea).length : Int))) ∧ l = prunE ps ea) (fun D ht => (tree_prune W D tb ea ps A m c S ht hr hpl hwp hwe hm hn).mono ?_)).mono ?_
  · rintro r w' ⟨rfl, ho, hti⟩
    exact ⟨_, ⟨rfl, rfl⟩, ho, hti⟩
  · rintro r w' ⟨l, ⟨h1, rfl⟩, h2, h3⟩
    exact ⟨h1, h2, h3⟩

theorem PairW.pruB (h : PairW w W J tb xb ea eb) (ps : List (Int × Int)) {A : Option Addr} {m c : Nat} (S : Nat → Prop) (hr : Rd W S 2 A m (tidsV ps)) (hpl : ps.length = m) (hm : m ≤ 10000) (hn : eb.length ≤ 10000) :
    Calls Try.prog 20 #[ptrV xb, .slice A m c] W fun r w' => r = .returned (.int .i64 ((eb.length : Int) - ((prunE ps eb).length : Int))) ∧ PairW w w' J tb xb ea (prunE ps eb) ∧ TurnT w W w' J := by
  refine (h.doB (R := fun r l => r = .returned (.int .i64 ((eb.length : Int) - ((prunE ps eb).length : Int))) ∧ l = prunE ps eb) (fun F ht => (ref_prune W F xb eb ps A m c S ht hr hpl hm hn).mono ?_)).mono ?_
  · rintro r w' ⟨rfl, ho, hti⟩
    exact ⟨_, ⟨rfl, rfl⟩, ho, hti⟩
  · rintro r w' ⟨l, ⟨h1, rfl⟩, h2, h3⟩
    exact ⟨h1, h2, h3⟩

theorem PairW.lenA (h : PairW w W J tb xb ea eb) : Calls Try.prog 16 #[ptrV tb] W fun e w' => e = .returned (.int .i64 (ea.length : Int)) ∧ W = w' := by
  obtain ⟨D, F, h1, _⟩ := h.ex
  exact tree_len h1

theorem PairW.scanA (lo hi : List Nat) (Al Ah : Option Addr) (cl ch : Nat) (Sl Sh : Nat → Prop) (h : PairW w W J tb xb ea eb) (hl : Rd W Sl 1 Al lo.length (bytesV lo)) (hh : Rd W Sh 1 Ah hi.length (bytesV hi)) (bl : ∀ x ∈ lo, x < 256) (bh : ∀ x ∈ hi, x < 256) (sl : ∀ k, Sl k → k < W.heap.size) (sh : ∀ k, Sh k → k < W.heap.size) (hn : ea.length ≤ 20000) :
    Calls Try.prog 14 #[ptrV tb, .slice Al lo.length cl, .slice Ah hi.length ch] W (GotPost W (scanE lo hi ea)) := by
  obtain ⟨D, F, h1, _⟩ := h.ex
  exact tree_scan lo hi Al Ah cl ch Sl Sh h1 hl hh bl bh sl sh hn

/-- What the document tells. -/
def RGotPost (w : World) (l : List Ent) (e : Ending) (w' : World) : Prop := ∃ v zs, e = .returned v ∧ ents zs = l ∧ StayR w w' v zs ∧ ∀ z ∈ zs, Keyd w' (fun _ => True) z

theorem PairW.scanB (lo hi : List Nat) (Al Ah : Option Addr) (cl ch : Nat) (Sl Sh : Nat → Prop) (h : PairW w W J tb xb ea eb) (hl : Rd W Sl 1 Al lo.length (bytesV lo)) (hh : Rd W Sh 1 Ah hi.length (bytesV hi)) (bl : ∀ x ∈ lo, x < 256) (bh : ∀ x ∈ hi, x < 256) (hn : eb.length ≤ 10000) :
    Calls Try.prog 22 #[ptrV xb, .slice Al lo.length cl, .slice Ah hi.length ch] W (RGotPost W (scanE lo hi eb)) := by
  obtain ⟨D, F, _, h2, _⟩ := h.ex
  refine (ref_scan lo hi Al Ah cl ch Sl Sh h2 hl hh bl bh hn).mono ?_
  rintro r w' ⟨v, zs, rfl, hz, hs, hk⟩
  exact ⟨v, zs, rfl, hz, hs, fun z hz => (hk z hz).mono (fun _ _ => trivial)⟩

theorem PairW.rising (h : PairW w W J tb xb ea eb) : Rising ea ∧ Rising eb := by
  obtain ⟨D, F, h1, h2, _⟩ := h.ex
  obtain ⟨v, xs, _, _, hr⟩ := h2
  exact ⟨h1.rising, hr⟩
end

/-- What both tell is alike. -/
theorem same_got {w w1 w2 : World} {A B : Option Addr} {n m ca cb : Nat} {l : List Ent} {zs ys : List EV} (hg : GotW w w1 (.slice A n ca) zs) (hz : ents zs = l) (hs : StayR w1 w2 (.slice B m cb) ys) (hy : ents ys = l) (hk : ∀ y ∈ ys, Keyd w2 (fun _ => True) y) (hl : l.length ≤ 10000) :
    Calls Try.prog 21 #[.slice A n ca, .slice B m cb] w2 fun e w' => e = .returned (.bool true) ∧ Quiet w2 w' := by
  obtain ⟨A1, c1, e1, _, _, hr1⟩ := own_form (owns_kept hg.row hs.quiet (fun _ _ x => x))
  obtain ⟨A2, c2, e2, _, _, hr2⟩ := own_form hs.row
  injection e1 with e1 e3 _
  injection e2 with e2 e4 _
  subst e1 e2 e3 e4
  have h1 : zs.length = l.length := by rw [← hz, List.length_map]
  have h2 : ys.length = l.length := by rw [← hy, List.length_map]
  rw [show ys.length = zs.length by omega]
  exact same_rows A B zs.length ca cb zs ys _ _ _ _ hr1 (by exact hr2) (fun x hx => (hg.key x hx).quietly hs.quiet) hk (hz.trans hy.symm) rfl (by omega)

/-- Places that came in, as one list. -/
theorem reads_tids {W : World} {A : Option Addr} {n : Nat} (h : ∀ i, i < n → ∃ b off p q, A = some ⟨b, off, none⟩ ∧ b < W.heap.size ∧ W.cell? ⟨b, off + i * 2, none⟩ = some (.int .i64 p) ∧ W.cell? ⟨b, off + i * 2 + 1, none⟩ = some (.int .i64 q) ∧ Wf (p, q)) :
    ∃ ps : List (Int × Int), ps.length = n ∧ (∀ p ∈ ps, Wf p) ∧ Rd W (· < W.heap.size) 2 A n (tidsV ps) := by
  rcases n with _ | n
  · exact ⟨[], rfl, fun x hx => (List.not_mem_nil hx).elim, Rd.nil _ _ _ _⟩
  obtain ⟨b, off, _, _, rfl, hb, _⟩ := h 0 (by omega)
  have h' : ∀ i, ∃ p : Int × Int, i < n + 1 → W.cell? ⟨b, off + i * 2, none⟩ = some (.int .i64 p.1) ∧ W.cell? ⟨b, off + i * 2 + 1, none⟩ = some (.int .i64 p.2) ∧ Wf p := by
    intro i
    by_cases hi : i < n + 1
    · obtain ⟨b', off', p, q, e, _, h1, h2, h3⟩ := h i hi
      simp only [Option.some.injEq, Addr.mk.injEq] at e
      obtain ⟨rfl, rfl, _⟩ := e
      exact ⟨(p, q), fun _ => ⟨h1, h2, h3⟩⟩
    · exact ⟨(0, 0), fun x => absurd x hi⟩
  obtain ⟨g, hg⟩ := Classical.axiomOfChoice h'
  refine ⟨(List.range (n + 1)).map g, by simp, fun x hx => ?_, ⟨by rw [tidsV_length]; simp, fun _ => ⟨b, off, rfl, hb, fun j u hj => ?_⟩⟩⟩
  · obtain ⟨i, hi, rfl⟩ := List.mem_map.1 hx
    exact (hg i (List.mem_range.1 hi)).2.2
  · have hjl := (List.getElem?_eq_some_iff.1 hj).1
    rw [tidsV_length] at hjl
    simp only [List.length_map, List.length_range] at hjl
    have hq : j / 2 < n + 1 := by omega
    obtain ⟨k1, k2⟩ := tidsV_get (ps := (List.range (n + 1)).map g) (j := j / 2) (p := g (j / 2)) (by simp [hq])
    obtain ⟨c1, c2, _⟩ := hg (j / 2) hq
    rcases Nat.mod_two_eq_zero_or_one j with z | z
    · rw [show j / 2 * 2 = j by omega] at k1 c1
      rw [k1] at hj
      injection hj with hj
      rw [← hj]; exact c1
    · rw [show j / 2 * 2 + 1 = j by omega] at k2
      rw [show off + j / 2 * 2 + 1 = off + j by omega] at c2
      rw [k2] at hj
      injection hj with hj
      rw [← hj]; exact c2

open Go.ChangeShapes Go.WideShapes in
set_option maxRecDepth 100000 in
theorem open_tids {H : Type} {enc : TypeId × Value → H} {W : World} {r : Reach} {base : Nat} {v : Value} {d : DataW H} {p : List MemPlace} (hv : Value.okWide Try.prog W r base 42 v) (h : DataW.Trod enc Try.prog W 0 (fun _ => true) true 42 v d p) :
    ∃ A n cap ps, v = .slice A n cap ∧ n ≤ cap ∧ cap ≤ maxLen ∧ ps.length = n ∧ (∀ p ∈ ps, Wf p) ∧ Rd W (· < W.heap.size) 2 A n (tidsV ps) := by
  obtain ⟨A, n, cap, hvv, h1, h2, h3⟩ := open_slice_of Try.underlying42 cells_tid (by omega) hv h
  obtain ⟨ps, h4, h5, h6⟩ := reads_tids (W := W) (A := A) (n := n) (fun i hi => by
    obtain ⟨b, off, hA, hb, cs, m, x, hl, hc, htr⟩ := h3 i hi
    obtain ⟨pg, sl, p0, p1, g0, g1⟩ := tid_in htr
    have hc0 := hc 0 (by omega)
    have hc1 := hc 1 (by omega)
    exact ⟨b, off, pg, sl, hA, hb, by rw [p0] at hc0; exact hc0, by rw [p1] at hc1; exact hc1, g0, g1⟩)
  exact ⟨A, n, cap, ps, hvv, h1, h2, h4, h5, h6⟩

end Go.Proofs.Ytbeenpobppkhdaa
