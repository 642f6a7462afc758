/- The document's heap: what it is in memory; page, Used, Get. No condition. -/
import Derived.Test.YtbibmgcklilpmaaRefPage5
import Derived.Test.YtbibmgcklilpmaaHeapWalk4
import Derived.Test.YtbibmgcklilpmaaHeapPlain
namespace Go.Proofs.Ytbibmgcklilpmaa
open Go.RowKit Go.Lap

/-- Block b is the document's page of versions T; all blocks that are its own are S's. -/
def RpT (w : World) (b : Nat) (S : Nat → Prop) (T : List (Option Tup)) : Prop := ∃ L st, RefPg w b S L st ∧ tups L = T

section
variable {w w' : World} {b : Nat} {S U : Nat → Prop} {T : List (Option Tup)}
theorem RpT.kept (h : RpT w b S T) (ho : Only U w w') (hn : ∀ k, S k → ¬ U k) : RpT w' b S T := by
  obtain ⟨L, st, h, e⟩ := h
  exact ⟨L, st, h.kept ho hn, e⟩
theorem RpT.mono (h : RpT w b S T) (hn : ∀ k, S k → U k) : RpT w b U T := by
  obtain ⟨L, st, h, e⟩ := h
  exact ⟨L, st, h.mono hn, e⟩
theorem RpT.limS (h : RpT w b S T) : RpT w b (fun k => S k ∧ k < w.heap.size) T := by
  obtain ⟨L, st, h, e⟩ := h
  exact ⟨L, st, h.limS, e⟩
theorem RpT.len (h : RpT w b S T) : T.length ≤ 127 := by
  obtain ⟨L, st, ⟨v, rows, h⟩, e⟩ := h
  have := h.lim.1
  rw [← e, tups_length]
  omega
theorem RpT.own (h : RpT w b S T) : S b ∧ b < w.heap.size := by
  obtain ⟨L, st, ⟨v, rows, h⟩, e⟩ := h
  exact ⟨h.foot.1, lt_of_get h.blk⟩
end

/-- A pool's cell. -/
def RPoolAt (w : World) (qb n : Nat) : Prop := w.heap[qb]? = some (.cells #[.int .i64 (n : Int)] 93 (0, 0))

theorem RPoolAt.kept {S : Nat → Prop} {w w' : World} {qb n : Nat} (h : RPoolAt w qb n) (ho : Only S w w') (hn : ¬ S qb) : RPoolAt w' qb n := ho.get h hn
theorem RPoolAt.cell {w : World} {qb n : Nat} (h : RPoolAt w qb n) : w.cell? ⟨qb, 0, none⟩ = some (.int .i64 (n : Int)) := by rw [cell_of h]; rfl
theorem RPoolAt.lt {w : World} {qb n : Nat} (h : RPoolAt w qb n) : qb < w.heap.size := lt_of_get h
theorem RPoolAt.set {w : World} {qb n m : Nat} {z : Int} (h : RPoolAt w qb n) (hz : z = m) : RPoolAt (w.setCell ⟨qb, 0, none⟩ (.int .i64 z)) qb m := by
  subst hz
  unfold RPoolAt
  rw [set_same h]
  rfl

/-- Block xb is the document's heap of the pool in block qb: pages H; its row v, its pages' blocks ps. All blocks that are its own are F's; o tells whose a block is: page i's (i + 1), or the heap's (0). -/
structure RHeapAt (w : World) (xb qb : Nat) (F : Nat → Prop) (o : Nat → Nat) (H : List (List (Option Tup))) (v : Value) (ps : List Nat) : Prop where
  box : w.heap[xb]? = some (.cells #[.pointer (some ⟨qb, 0, none⟩), v] 97 (0, 0))
  row : w.ownsRow 0 111 1 v H.length (ps.map ptrV)
  pg : ∀ (i : Nat) T, H[i]? = some T → ∃ p, ps[i]? = some p ∧ RpT w p (fun k => F k ∧ o k = i + 1) T
  foot : (F xb ∧ o xb = 0) ∧ ∀ k, v.ownBlock = some k → F k ∧ o k = 0

section
variable {w w' : World} {xb qb : Nat} {F : Nat → Prop} {o : Nat → Nat} {H : List (List (Option Tup))} {v : Value} {ps : List Nat}

theorem RHeapAt.kept {S : Nat → Prop} (h : RHeapAt w xb qb F o H v ps) (ho : Only S w w') (hn : ∀ k, F k → ¬ S k) : RHeapAt w' xb qb F o H v ps :=
  ⟨ho.get h.box (hn _ h.foot.1.1), owns_kept h.row ho (fun k e => hn k (h.foot.2 k e).1), fun i T hi => by
    obtain ⟨p, h1, h2⟩ := h.pg i T hi
    exact ⟨p, h1, h2.kept ho (fun k x => hn k x.1)⟩, h.foot⟩

theorem RHeapAt.mono {G : Nat → Prop} (h : RHeapAt w xb qb F o H v ps) (hg : ∀ k, F k → G k) : RHeapAt w xb qb G o H v ps :=
  ⟨h.box, h.row, fun i T hi => by
    obtain ⟨p, h1, h2⟩ := h.pg i T hi
    exact ⟨p, h1, h2.mono (fun k x => ⟨hg k x.1, x.2⟩)⟩, ⟨hg _ h.foot.1.1, h.foot.1.2⟩, fun k e => ⟨hg k (h.foot.2 k e).1, (h.foot.2 k e).2⟩⟩

theorem RHeapAt.plen (h : RHeapAt w xb qb F o H v ps) : ps.length = H.length := by
  have := h.row.1
  simpa using this

theorem RHeapAt.lim (h : RHeapAt w xb qb F o H v ps) : RHeapAt w xb qb (fun k => F k ∧ k < w.heap.size) o H v ps :=
  ⟨h.box, h.row, fun i T hi => by
    obtain ⟨p, h1, h2⟩ := h.pg i T hi
    exact ⟨p, h1, h2.limS.mono (fun k x => ⟨⟨x.1.1, x.2⟩, x.1.2⟩)⟩, ⟨⟨h.foot.1.1, lt_of_get h.box⟩, h.foot.1.2⟩, fun k e => ⟨⟨(h.foot.2 k e).1, (h.row.lt k e).2⟩, (h.foot.2 k e).2⟩⟩

theorem RHeapAt.cells (h : RHeapAt w xb qb F o H v ps) : w.cell? ⟨xb, 0, none⟩ = some (.pointer (some ⟨qb, 0, none⟩)) ∧ w.cell? ⟨xb, 1, none⟩ = some v :=
  ⟨by rw [cell_of h.box]; rfl, by rw [cell_of h.box]; rfl⟩

/-- The row of a heap reads. -/
theorem RHeapAt.rowForm (h : RHeapAt w xb qb F o H v ps) :
    ∃ A c, v = .slice A H.length c ∧ H.length ≤ c ∧ c ≤ maxLen ∧ ∀ (i p : Nat), ps[i]? = some p → ∃ g, A = some ⟨g, 0, none⟩ ∧ w.cell? ⟨g, i, none⟩ = some (ptrV p) := by
  rcases h.row.2 with ⟨e1, e2⟩ | ⟨g, cap, cur, e1, _, hh, r1, r2, _⟩
  · refine ⟨none, 0, by rw [e2]; exact e1, by omega, Nat.zero_le _, fun i p hi => ?_⟩
    have := h.plen
    have := (List.getElem?_eq_some_iff.1 hi).1
    omega
  · refine ⟨_, cap, e1, r1, r2, fun i p hi => ⟨g, rfl, ?_⟩⟩
    have := h.row.cells (by rw [e1]; rfl) i (ptrV p) (by rw [List.getElem?_map, hi]; rfl)
    rw [add_none, Nat.zero_add] at this
    exact this

/-- One of its pages turns. -/
theorem RHeapAt.turn {i p : Nat} {T' : List (Option Tup)} (h : RHeapAt w xb qb F o H v ps) (hi : ps[i]? = some p) (ho : Only (fun k => F k ∧ o k = i + 1) w w') (hp : RpT w' p (fun k => (F k ∧ o k = i + 1) ∨ w.heap.size ≤ k) T') :
    ∃ o', RHeapAt w' xb qb (fun k => F k ∨ w.heap.size ≤ k) o' (H.set i T') v ps := by
  have h' := h.lim
  have hil : i < H.length := by rw [← h.plen]; exact (List.getElem?_eq_some_iff.1 hi).1
  refine ⟨fun k => if k < w.heap.size then o k else i + 1, ho.get h.box (fun e => by have := h.foot.1.2; omega), ?_, fun j T hj => ?_, ⟨Or.inl h.foot.1.1, by rw [if_pos (lt_of_get h.box)]; exact h.foot.1.2⟩, fun k e => ⟨Or.inl (h.foot.2 k e).1, by rw [if_pos (h'.foot.2 k e).1.2]; exact (h.foot.2 k e).2⟩⟩
  · rw [List.length_set]
    exact owns_kept h.row ho (fun k e x => by have := (h.foot.2 k e).2; omega)
  · rw [List.getElem?_set] at hj
    by_cases e : i = j
    · subst e
      rw [if_pos rfl, if_pos hil] at hj
      injection hj with hj
      subst hj
      refine ⟨p, hi, hp.mono (fun k x => ?_)⟩
      rcases Nat.lt_or_ge k w.heap.size with y | y
      · rw [if_pos y]
        rcases x with x | x
        · exact ⟨Or.inl x.1, x.2⟩
        · omega
      · rw [if_neg (by omega)]
        exact ⟨Or.inr y, rfl⟩
    · rw [if_neg e] at hj
      obtain ⟨q, h1, h2⟩ := h'.pg j T hj
      refine ⟨q, h1, (h2.kept ho (fun k x y => ?_)).mono (fun k x => ?_)⟩
      · have := x.2; have := y.2; omega
      · rw [if_pos x.1.2]
        exact ⟨Or.inl x.1.1, x.2⟩
end

/-- The document's heap, told by its pages alone. -/
def RHeapIs (w : World) (xb qb : Nat) (F : Nat → Prop) (H : List (List (Option Tup))) : Prop := ∃ o v ps, RHeapAt w xb qb F o H v ps

section
variable {w w' : World} {xb qb : Nat} {F : Nat → Prop} {H : List (List (Option Tup))}
theorem RHeapIs.kept {S : Nat → Prop} (h : RHeapIs w xb qb F H) (ho : Only S w w') (hn : ∀ k, F k → ¬ S k) : RHeapIs w' xb qb F H := by
  obtain ⟨o, v, ps, h⟩ := h
  exact ⟨o, v, ps, h.kept ho hn⟩
theorem RHeapIs.mono {G : Nat → Prop} (h : RHeapIs w xb qb F H) (hg : ∀ k, F k → G k) : RHeapIs w xb qb G H := by
  obtain ⟨o, v, ps, h⟩ := h
  exact ⟨o, v, ps, h.mono hg⟩
theorem RHeapIs.lim (h : RHeapIs w xb qb F H) : RHeapIs w xb qb (fun k => F k ∧ k < w.heap.size) H := by
  obtain ⟨o, v, ps, h⟩ := h
  exact ⟨o, v, ps, h.lim⟩
theorem RHeapIs.own (h : RHeapIs w xb qb F H) : F xb ∧ xb < w.heap.size := by
  obtain ⟨o, v, ps, h⟩ := h
  exact ⟨h.foot.1.1, lt_of_get h.box⟩
end

set_option maxHeartbeats 400000 in
set_option maxRecDepth 100000 in
theorem rpage_nil (n : Int) (w : World) :
    Calls Try.prog 89 #[.pointer none, .int .i64 n] w fun e w' => e = .returned (.pointer none) ∧ w = w' := by
  go_enter Try.func89, Try.ntmps89
  go_wp2
  go_ret
  exact ⟨rfl, rfl⟩

section
variable {w : World} {xb qb : Nat} {F : Nat → Prop} {o : Nat → Nat} {H : List (List (Option Tup))} {v : Value} {ps : List Nat}

set_option maxHeartbeats 400000 in
set_option maxRecDepth 100000 in
theorem rpage_none (n : Int) (h : RHeapAt w xb qb F o H v ps) (hn : n < 0 ∨ (H.length : Int) ≤ n) :
    Calls Try.prog 89 #[.pointer (some ⟨xb, 0, none⟩), .int .i64 n] w fun e w' => e = .returned (.pointer none) ∧ w = w' := by
  obtain ⟨A, c, rfl, _, _, _⟩ := h.rowForm
  obtain ⟨_, c1⟩ := h.cells
  clear h
  rcases hn with hn | hn
  · go_enter Try.func89, Try.ntmps89
    go_wp2
    go_ret
    exact ⟨rfl, rfl⟩
  · have h0 : ¬ n < 0 := by omega
    go_enter Try.func89, Try.ntmps89
    go_wp2
    go_ret
    exact ⟨rfl, rfl⟩

set_option maxHeartbeats 400000 in
set_option maxRecDepth 100000 in
theorem rpage_some (n p : Nat) (h : RHeapAt w xb qb F o H v ps) (hn : ps[n]? = some p) :
    Calls Try.prog 89 #[.pointer (some ⟨xb, 0, none⟩), .int .i64 (n : Int)] w fun e w' => e = .returned (.pointer (some ⟨p, 0, none⟩)) ∧ w = w' := by
  obtain ⟨A, c, rfl, hc, hm, hr⟩ := h.rowForm
  obtain ⟨_, c1⟩ := h.cells
  have hl : n < H.length := by rw [← h.plen]; exact (List.getElem?_eq_some_iff.1 hn).1
  obtain ⟨g, rfl, hg⟩ := hr n p hn
  have d0 : decide ((n : Int) < 0) = false := by simp
  have d1 : decide ((H.length : Int) ≤ n) = false := by simp; omega
  unfold maxLen at hm
  clear h hr hn
  go_enter Try.func89, Try.ntmps89
  go_wp2
  go_ret
  exact ⟨rfl, rfl⟩
end

set_option maxHeartbeats 400000 in
set_option maxRecDepth 100000 in
theorem rused_nil (w : World) :
    Calls Try.prog 92 #[.pointer none] w fun e w' => e = .returned (.int .i64 0) ∧ Quiet w w' := by
  go_enter Try.func92, Try.ntmps92
  go_wp2
  go_ret
  exact ⟨rfl, Only.refl _ _⟩

section
variable {w : World} {xb qb : Nat} {F : Nat → Prop} {H : List (List (Option Tup))}

set_option maxHeartbeats 400000 in
set_option maxRecDepth 100000 in
theorem rused_any (h : RHeapIs w xb qb F H) (h256 : H.length ≤ 256) :
    Calls Try.prog 92 #[.pointer (some ⟨xb, 0, none⟩)] w fun e w' => e = .returned (.int .i64 (usedH H : Int)) ∧ Quiet w w' := by
  obtain ⟨o, v, ps, h⟩ := h
  have HH := Lib.hid h
  obtain ⟨A, c, rfl, hc, hm, hr⟩ := h.rowForm
  obtain ⟨_, c1⟩ := h.cells
  have HR := Lib.hid hr
  unfold maxLen at hm
  clear h hr
  go_enter Try.func92, Try.ntmps92
  go_wp2
  go_loopw [3, 13, 5] (fun n v _ wr => ∃ k : Nat, k ≤ H.length ∧ v = .int .i64 (k : Int) ∧ n = .int .i64 (usedH (H.take k) : Int) ∧ usedH (H.take k) ≤ 127 * k ∧ Quiet w wr) (fun _ v _ _ => H.length - (intOf v).toNat)
  case atStart => exact ⟨0, Nat.zero_le _, rfl, rfl, Nat.zero_le _, Only.refl _ _⟩
  case round =>
    obtain ⟨k, hk, rfl, rfl, hu, hq⟩ := hrel
    have HQ := Lib.hid hq
    by_cases hlt : k < H.length
    · obtain ⟨p, hp, hpt⟩ := HH.out.pg k _ (List.getElem?_eq_getElem hlt)
      obtain ⟨g, rfl, hg⟩ := HR.out k p hp
      obtain ⟨T, hT⟩ : ∃ T, H[k] = T := ⟨_, rfl⟩
      rw [hT] at hpt
      have HN := Lib.hid (usedH_take (List.getElem?_eq_getElem hlt))
      rw [hT] at HN
      have HPT := Lib.hid (hpt.kept HQ.out (fun _ _ x => x))
      have hle := hpt.len
      have hle2 := usedT_le T
      have hg' := hq.cell hg (fun x => x)
      clear hp hpt hT hg hq
      obtain ⟨L, st, hL, hTL⟩ := HPT.out
      have HU := Lib.hid (rp_used hL)
      rw [← used_tups, hTL] at HU
      clear hL hTL
      go_wp2_with fail
      refine HU.out.mono ?_
      rintro e w1 ⟨rfl, hq1⟩
      have HQ1 := Lib.hid (HQ.out.trans hq1)
      clear hq1
      go_wp2
      go_roundw
      case rel => exact ⟨k + 1, by omega, by go_num, by rw [HN.out]; go_num, by rw [HN.out]; omega, HQ1.out⟩
      case measure => simp [intOf]; omega
    · obtain rfl : k = H.length := by omega
      rw [List.take_length]
      clear hu hq
      go_wp2
      go_ret
      exact ⟨rfl, HQ.out⟩
end

set_option maxHeartbeats 1000000 in
set_option maxRecDepth 100000 in
theorem rget_no (h0 pp : Option Addr) (pg sl : Int) (w : World) (hpg : ∀ W : World, Quiet w W → Calls Try.prog 89 #[.pointer h0, .int .i64 pg] W fun e w' => e = .returned (.pointer pp) ∧ W = w')
    (hgt : ∀ W : World, Quiet w W → Calls Try.prog 73 #[.pointer pp, .int .i64 sl] W (GetNone W)) :
    Calls Try.prog 94 #[.pointer h0, .agg #[.int .i64 pg, .int .i64 sl]] w (GetNone w) := by
  have HPG := Lib.hid hpg
  have HGT := Lib.hid hgt
  have H0 := Lib.hid (get_start w pg sl)
  clear hpg hgt
  go_enter Try.func94, Try.ntmps94
  go_wp2_with fail
  go_region_held3 (fun w' => w'.cell? ⟨w.heap.size, 0, none⟩ = some (.int .i64 pg) ∧ w'.cell? ⟨w.heap.size, 1, none⟩ = some (.int .i64 sl))
    (first | go_keep | exact tid_on (by exact H0.out.2.1) hq3 (fun x => x) | fail)
    (first
      | (go_at_call 89; go_must (refine (HPG.out _ (H0.out.1.drew)).mono ?_; rintro e w2 ⟨rfl, rfl⟩))
      | (go_at_call 73; go_must (refine (HGT.out _ (H0.out.1.drew)).mono ?_; rintro e w3 ⟨rfl, hq3⟩; have hr3 := hq3.get (by exact H0.out.2.2) (fun x => x); obtain ⟨z0, z1, z2, z3, z4, z5⟩ := zero_cells hr3; have zf := fun o => frozen_of hr3 o))
      | fail)
  have HX := Lib.hid (sixSet_same hr3 (.int .u64 0) (.int .u64 0) (.int .u64 0) (.int .i64 0) (.int .i64 0) (.slice none 0 0))
  have HQ : Hid (Quiet w (sixSet w3 (w.heap.size + 1) (.int .u64 0) (.int .u64 0) (.int .u64 0) (.int .i64 0) (.int .i64 0) (.slice none 0 0))) := (H0.out.1.drew.trans hq3).trans' (sixSet_only _ _ _ _ _ _ _ _) (fun k hk e => by omega)
  clear hq3 hr3 HPG HGT H0 z0 z1 z2 z3 z4 z5 zf
  unfold sixSet at HX HQ
  go_wp2
  generalize ((((((w3.setCell ⟨w.heap.size + 1, 0, none⟩ (.int .u64 0)).setCell ⟨w.heap.size + 1, 1, none⟩ (.int .u64 0)).setCell ⟨w.heap.size + 1, 2, none⟩ (.int .u64 0)).setCell ⟨w.heap.size + 1, 3, none⟩ (.int .i64 0)).setCell ⟨w.heap.size + 1, 4, none⟩ (.int .i64 0)).setCell ⟨w.heap.size + 1, 5, none⟩ (.slice none 0 0)) = W6 at HX HQ ⊢
  exact bodyPost_ret (results_cell_tmp Try.results94 _ _ (w.heap.size + 1) _ _ (0, 0) _ (by rfl) HX.out Try.underlying54 rfl info_tup) (by rfl) ⟨rfl, HQ.out⟩

/-- What Get tells where there is one: bytes of the heap's own. -/
def RGot (w : World) (S : Nat → Prop) (t : Tup) (e : Ending) (w' : World) : Prop :=
  ∃ A c, e = .returned (.tuple #[tupV t A c, .bool true]) ∧ Quiet w w' ∧ DatAt w' S t (.slice A t.data.length c)

theorem rGot_mk {w W : World} {S : Nat → Prop} {t : Tup} {A : Option Addr} {c : Nat} (hq : Quiet w W) (h : DatAt W S t (.slice A t.data.length c)) :
    RGot w S t (.returned (.tuple #[.agg #[.int .u64 t.row, .int .u64 t.xmin, .int .u64 t.xmax, .int .i64 t.pg, .int .i64 t.sl, .slice A t.data.length c], .bool true])) W := ⟨A, c, rfl, hq, h⟩

set_option maxHeartbeats 1000000 in
set_option maxRecDepth 100000 in
theorem rget_yes (h0 pp : Option Addr) (pg sl : Int) (t : Tup) (S : Nat → Prop) (w : World) (hpg : ∀ W : World, Quiet w W → Calls Try.prog 89 #[.pointer h0, .int .i64 pg] W fun e w' => e = .returned (.pointer pp) ∧ W = w')
    (hgt : ∀ W : World, Quiet w W → Calls Try.prog 73 #[.pointer pp, .int .i64 sl] W (RefGot W S t)) (hS : ∀ k, S k → k < w.heap.size) :
    Calls Try.prog 94 #[.pointer h0, .agg #[.int .i64 pg, .int .i64 sl]] w (RGot w S t) := by
  have HPG := Lib.hid hpg
  have HGT := Lib.hid hgt
  have H0 := Lib.hid (get_start w pg sl)
  clear hpg hgt
  go_enter Try.func94, Try.ntmps94
  go_wp2_with fail
  go_region_held3 (fun w' => w'.cell? ⟨w.heap.size, 0, none⟩ = some (.int .i64 pg) ∧ w'.cell? ⟨w.heap.size, 1, none⟩ = some (.int .i64 sl))
    (first | go_keep | exact tid_on (by exact H0.out.2.1) hq3 (fun x => x) | fail)
    (first
      | (go_at_call 89; go_must (refine (HPG.out _ (H0.out.1.drew)).mono ?_; rintro e w2 ⟨rfl, rfl⟩))
      | (go_at_call 73; go_must (refine (HGT.out _ (H0.out.1.drew)).mono ?_; rintro e w3 ⟨A3, c3, rfl, hq3, hd3⟩; unfold tupV; have hr3 := hq3.get (by exact H0.out.2.2) (fun x => x); obtain ⟨z0, z1, z2, z3, z4, z5⟩ := zero_cells hr3; have zf := fun o => frozen_of hr3 o))
      | fail)
  have HX := Lib.hid (sixSet_same hr3 (.int .u64 t.row) (.int .u64 t.xmin) (.int .u64 t.xmax) (.int .i64 t.pg) (.int .i64 t.sl) (.slice A3 t.data.length c3))
  have HQ : Hid (Quiet w (sixSet w3 (w.heap.size + 1) (.int .u64 t.row) (.int .u64 t.xmin) (.int .u64 t.xmax) (.int .i64 t.pg) (.int .i64 t.sl) (.slice A3 t.data.length c3))) := (H0.out.1.drew.trans hq3).trans' (sixSet_only _ _ _ _ _ _ _ _) (fun k hk e => by omega)
  have HD := Lib.hid ((hd3.kept hq3 (fun _ _ x => x)).kept (sixSet_only w3 (w.heap.size + 1) (.int .u64 t.row) (.int .u64 t.xmin) (.int .u64 t.xmax) (.int .i64 t.pg) (.int .i64 t.sl) (.slice A3 t.data.length c3)) (fun k x e => by have := hS k x; omega))
  clear hq3 hr3 HPG HGT H0 z0 z1 z2 z3 z4 z5 zf hd3
  unfold sixSet at HX HQ HD
  go_wp2
  generalize ((((((w3.setCell ⟨w.heap.size + 1, 0, none⟩ (.int .u64 t.row)).setCell ⟨w.heap.size + 1, 1, none⟩ (.int .u64 t.xmin)).setCell ⟨w.heap.size + 1, 2, none⟩ (.int .u64 t.xmax)).setCell ⟨w.heap.size + 1, 3, none⟩ (.int .i64 t.pg)).setCell ⟨w.heap.size + 1, 4, none⟩ (.int .i64 t.sl)).setCell ⟨w.heap.size + 1, 5, none⟩ (.slice A3 t.data.length c3)) = W6 at HX HQ HD ⊢
  exact bodyPost_ret (results_cell_tmp Try.results94 _ _ (w.heap.size + 1) _ _ (0, 0) _ (by rfl) HX.out Try.underlying54 rfl info_tup) (by rfl) (rGot_mk HQ.out HD.out)

theorem rget_nil (pg sl : Int) (w : World) : Calls Try.prog 94 #[.pointer none, .agg #[.int .i64 pg, .int .i64 sl]] w (GetNone w) :=
  rget_no none none pg sl w (fun W _ => rpage_nil pg W) (fun W _ => rp_get_nil sl W)

section
variable {w : World} {xb qb : Nat} {F : Nat → Prop} {H : List (List (Option Tup))}

theorem rget_none (pg sl : Int) (h : RHeapIs w xb qb F H) (hg : hGet H pg sl = none) : Calls Try.prog 94 #[.pointer (some ⟨xb, 0, none⟩), .agg #[.int .i64 pg, .int .i64 sl]] w (GetNone w) := by
  obtain ⟨o, v, ps, h⟩ := h
  by_cases hn : pg < 0 ∨ (H.length : Int) ≤ pg
  · exact rget_no _ none pg sl w (fun W hq => rpage_none pg (h.kept hq (fun _ _ x => x)) hn) (fun W _ => rp_get_nil sl W)
  · obtain ⟨k, rfl⟩ := Int.eq_ofNat_of_zero_le (show 0 ≤ pg by omega)
    obtain ⟨T, hT⟩ : ∃ T, H[k]? = some T := ⟨_, List.getElem?_eq_getElem (show k < H.length by omega)⟩
    obtain ⟨p, hp, L, st, hL, hTL⟩ := h.pg k T hT
    rw [hGet_in sl hT, ← hTL, slot_tups] at hg
    have hg' : slotAt L sl = none := by cases hs : slotAt L sl with | none => rfl | some x => rw [hs] at hg; cases hg
    exact rget_no _ (some ⟨p, 0, none⟩) k sl w (fun W hq => rpage_some k p (h.kept hq (fun _ _ x => x)) hp) (fun W hq => rp_get_none sl (hL.kept hq (fun _ _ x => x)) hg')

theorem rget_some (pg sl : Int) (t : Tup) (h : RHeapIs w xb qb F H) (hg : hGet H pg sl = some t) : Calls Try.prog 94 #[.pointer (some ⟨xb, 0, none⟩), .agg #[.int .i64 pg, .int .i64 sl]] w (RGot w F t) := by
  obtain ⟨o, v, ps, h⟩ := h.lim
  have hn : ¬ (pg < 0 ∨ (H.length : Int) ≤ pg) := fun x => by rw [hGet_out x] at hg; cases hg
  obtain ⟨k, rfl⟩ := Int.eq_ofNat_of_zero_le (show 0 ≤ pg by omega)
  obtain ⟨T, hT⟩ : ∃ T, H[k]? = some T := ⟨_, List.getElem?_eq_getElem (show k < H.length by omega)⟩
  obtain ⟨p, hp, L, st, hL, hTL⟩ := h.pg k T hT
  rw [hGet_in sl hT, ← hTL, slot_tups] at hg
  obtain ⟨f, hg'⟩ : ∃ f, slotAt L sl = some (f, t) := by
    cases hs : slotAt L sl with
    | none => rw [hs] at hg; cases hg
    | some x =>
      rw [hs] at hg
      injection hg with hg
      exact ⟨x.1, by rw [← hg]⟩
  refine (rget_yes _ (some ⟨p, 0, none⟩) k sl t (fun j => (F j ∧ j < w.heap.size) ∧ o j = k + 1) w (fun W hq => rpage_some k p (h.kept hq (fun _ _ x => x)) hp) (fun W hq => rp_get_some sl f t (hL.kept hq (fun _ _ x => x)) hg') (fun j x => x.1.2)).mono ?_
  rintro e w' ⟨A, c, rfl, hq', hd⟩
  exact ⟨A, c, rfl, hq', hd.mono (fun j x => x.1.1)⟩
end
end Go.Proofs.Ytbibmgcklilpmaa
