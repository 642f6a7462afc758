/- The book: a fresh entry; the first table. Rows of one number: right, Fits, Bytes. Rows of one number: Fits. Rows of one number: Bytes. Rows of one number: take. Rows of one number: Read. Plain laws of entries in order: a key's bytes and a place, compared; what insertion, deletion and a scan leave. The contracts of bytes.Compare, cmp.Compare, cmp.Or and of the tree's order. Rows in memory: copy at elements of several cells; rows of entries; slices.Clone. The contract of slices.BinarySearchFunc at entries, by the tree's order. Laws on append of so many zero values, and on copy, for slices.Insert. The contract of slices.Insert of one element, at entries. The contract of slices.Insert of one element, at nodes. Nodes of a tree in memory, told by their entries; how they are kept. The contracts of the tree's small functions: leaf, least, below, copyOf, New. The contract of a node's split. The contract of a node's split, at a node over others; at every node. The contract of the tree's copyOf; three cells written. The contract of a node's insert, at a leaf. A node over others in the midst of an insert: how its parts turn. The contract of a node's insert, at a node over others; at every node. A tree in memory: its root, how many entries there are; how it turns. The contract of the tree's Insert. The contract of a node's scan. The contract of a node's scan, at a node over others; at every node. No condition. -/
import Derived.Test.YtdeekopdhgjanaaGreatDoorSf2
import Derived.Lib.Bytealg
import Derived.BigQuiet
import Derived.Lib.AppendZerosOnto
import Derived.Lib.Overlaps
import Derived.Laws.IdiomCopy
import Derived.Deep.RegionLawGrows
import Derived.Laws.Rows
namespace Go.Proofs.YtdeekopdhgjanaaGreatDoor
open Go.RowKit Go.Lap

theorem info_entry : (Tryz.prog.info? 109).map (·.size) = some 4 := by kernel_rfl

theorem BookRow.count {w : World} {F : Nat → Prop} {bb last : Nat} {T : List TE} {vT vI : Value} {tps ips : List Nat} (h : BookRow w F bb T vT tps vI ips last) (hl : last < 1000000) (z : Int) (hz : z = (last : Int) + 1) :
    BookRow (w.setCell ⟨bb, 2, none⟩ (.int .u64 z)) F bb T vT tps vI ips (last + 1) ∧ Only (· = bb) w (w.setCell ⟨bb, 2, none⟩ (.int .u64 z)) := by
  subst hz
  have ho : Only (· = bb) w (w.setCell ⟨bb, 2, none⟩ (.int .u64 ((last : Int) + 1))) := (Only.refl (· = bb) w).setCell (p := ⟨bb, 2, none⟩) (fun _ => rfl) _
  have ht : ∀ k, vT.ownBlock = some k → k ≠ bb := fun k e => by
    obtain ⟨c, hh⟩ := own_blk h.rowT e
    exact (ne_type h.box hh (by decide)).symm
  have hi : ∀ k, vI.ownBlock = some k → k ≠ bb := fun k e => by
    obtain ⟨c, hh⟩ := own_blk h.rowI e
    exact (ne_type h.box hh (by decide)).symm
  refine ⟨⟨?_, owns_kept h.rowT ho (fun k e x => ht k e x), owns_kept h.rowI ho (fun k e x => hi k e x), fun i e hie => ?_, h.foot, by unfold U64; omega⟩, ho⟩
  · rw [set_same h.box]; rfl
  · obtain ⟨p, h1, h2⟩ := h.tbl i e hie
    obtain ⟨A, c, hb, hr, hc⟩ := h2.ex
    refine ⟨p, h1, ⟨A, c, ho.get hb (ne_type hb h.box (by decide)), ?_, hc⟩, h2.own, h2.pos, h2.num⟩
    refine ⟨hr.len, fun hn => ?_⟩
    obtain ⟨b, off, e1, hb1, hcell⟩ := hr.cells hn
    refine ⟨b, off, e1, hb1, fun j u hu => ho.cell (hcell j u hu) (fun x => ?_)⟩
    have x' : b = bb := x
    subst x'
    have hlen : 0 < (colsV e.cols).length := hn
    have h0 := hcell 0 (colsV e.cols)[0] (List.getElem?_eq_getElem hlen)
    obtain ⟨q, hq⟩ : ∃ q, e.cols[0]? = some q := ⟨_, List.getElem?_eq_getElem h2.pos.1⟩
    have hv := (colsV_get hq).1
    rw [Nat.zero_mul, List.getElem?_eq_getElem hlen] at hv
    injection hv with hv
    rw [hv, cell_of h.box] at h0
    rcases hoff : off + 0 with _ | _ | _ | n
    · rw [hoff] at h0
      simp at h0
      rcases owns_cases h.rowT with ⟨e1, _⟩ | ⟨g, cap, e1, _⟩ <;> rw [e1] at h0 <;> cases h0
    · rw [hoff] at h0
      simp at h0
      rcases owns_cases h.rowI with ⟨e1, _⟩ | ⟨g, cap, e1, _⟩ <;> rw [e1] at h0 <;> cases h0
    · rw [hoff] at h0
      simp at h0
    · rw [hoff] at h0
      simp at h0

/-- What fresh leaves. -/
def FreshEPost (w : World) (F : Nat → Prop) (bb : Nat) (T : List TE) (vT : Value) (tps : List Nat) (vI : Value) (ips : List Nat) (last own : Nat) (name : ByteArray) (e : Ending) (w' : World) : Prop :=
  e = .returned (.agg #[.int .u64 ((last : Int) + 1), .string name, .int .u64 (own : Int), .int .u64 0]) ∧ Only (· = bb) w w' ∧ BookRow w' F bb T vT tps vI ips (last + 1)

set_option maxHeartbeats 1000000 in
set_option maxRecDepth 100000 in
theorem book_fresh {w : World} {F : Nat → Prop} {bb last c : Nat} {T : List TE} {vT vI : Value} {tps ips : List Nat} {A : Option Addr} {s : Snap} {name : ByteArray} (h : BookRow w F bb T vT tps vI ips last) (hl : last < 1000000) :
    Calls Tryz.prog 40 #[.pointer (some ⟨bb, 0, none⟩), snapV s A c, .string name] w (FreshEPost w F bb T vT tps vI ips last s.own name) := by
  obtain ⟨_, _, c2⟩ := h.cells
  have hf : ∀ o, w.frozen? ⟨bb, o, none⟩ = false := fun o => frozen_of h.box o
  have hbl := lt_of_get h.box
  have e1 : IntKind.u64.wrap ((last : Int) + 1) = (last : Int) + 1 := by rw [IntKind.wrap_u64]; omega
  have hb1 : ¬ bb = w.heap.size := by omega
  have hb2 : ¬ bb = w.heap.size + 1 := by omega
  have HC := Lib.hid (h.count hl _ rfl)
  unfold snapV
  clear h
  go_enter Tryz.func40, Tryz.ntmps40
  go_wp2_with fail
  go_region
  all_goals
    go_wp2
    have HQ : Quiet (w.setCell ⟨bb, 2, none⟩ (.int .u64 ((last : Int) + 1))) ((((w.setCell ⟨bb, 2, none⟩ (.int .u64 ((last : Int) + 1))).alloc (.cells (snapCells s A c) 65)).alloc (.cells #[.int .u64 ((last : Int) + 1), .string name, .int .u64 (s.own : Int), .int .u64 0] 109)).drew) := (((Only.refl _ _).alloc _).alloc _).drew
    exact bodyPost_ret (v := .agg #[.int .u64 ((last : Int) + 1), .string name, .int .u64 (s.own : Int), .int .u64 0]) (by simp [results, Tryz.results40, go_sem]) rfl
      ⟨rfl, HC.out.2.trans' HQ (fun _ _ x => x.elim), HC.out.1.kept HQ (fun _ _ x => x)⟩

/-- The first table's row. -/
theorem BookRow.first {w4 w5 w7 : World} {F : Nat → Prop} {bb last : Nat} {vT vI v7 : Value} {t : TE} {A5 : Option Addr} {c5 : Nat} (h : BookRow w4 F bb [] vT [] vI [] last) (hf5 : FreshC w4 w5 (.slice A5 t.cols.length c5) t.cols) (hc5 : t.cols.length ≤ c5 ∧ c5 ≤ maxLen)
    (hp : 0 < t.cols.length ∧ t.cols.length ≤ 8) (hn : U64 t.id ∧ U64 t.xmin ∧ U64 t.xmax)
    (hg : Grew ((w5.alloc (.cells #[.int .u64 (t.id : Int), .string t.name, .int .u64 (t.xmin : Int), .int .u64 (t.xmax : Int), .slice A5 t.cols.length c5] 113)).alloc (.cells #[ptrV w5.heap.size] 107)) w7 107 1 vT v7 1 [ptrV w5.heap.size]) :
    BookIs (w7.setCell ⟨bb, 0, none⟩ v7) (fun k => F k ∨ w4.heap.size ≤ k) bb [t] [] last ∧ Only F w4 (w7.setCell ⟨bb, 0, none⟩ v7) ∧ (w7.setCell ⟨bb, 0, none⟩ v7).cell? ⟨w5.heap.size, 0, none⟩ = some (.int .u64 (t.id : Int)) := by
  have hvt : ∀ k, vT.ownBlock = some k → F k ∧ k < w4.heap.size ∧ k ≠ bb := fun k e => by
    obtain ⟨c, hh⟩ := own_blk h.rowT e
    exact ⟨h.foot.2.1 k e, lt_of_get hh, (ne_type h.box hh (by decide)).symm⟩
  have hvi : ∀ k, vI.ownBlock = some k → k < w4.heap.size ∧ k ≠ bb ∧ vT.ownBlock ≠ some k := fun k e => by
    obtain ⟨c, hh⟩ := own_blk h.rowI e
    refine ⟨lt_of_get hh, (ne_type h.box hh (by decide)).symm, fun x => ?_⟩
    obtain ⟨c', hh'⟩ := own_blk h.rowT x
    exact absurd rfl (ne_type hh hh' (by decide))
  have hl := lt_of_get h.box
  have hz5 := hf5.quiet.size
  have hq2 : Quiet w5 ((w5.alloc (.cells #[.int .u64 (t.id : Int), .string t.name, .int .u64 (t.xmin : Int), .int .u64 (t.xmax : Int), .slice A5 t.cols.length c5] 113)).alloc (.cells #[ptrV w5.heap.size] 107)) := ((Only.refl _ _).alloc _).alloc _
  have hq := hf5.quiet.trans hq2
  have b4 := hg.only.get (hq.get h.box (fun x => x)) (fun e => (hvt bb e).2.2 rfl)
  have ht7 := hg.only.get (alloc_old (alloc_new w5 (.cells #[.int .u64 (t.id : Int), .string t.name, .int .u64 (t.xmin : Int), .int .u64 (t.xmax : Int), .slice A5 t.cols.length c5] 113)) (.cells #[ptrV w5.heap.size] 107)) (fun e => by have := (hvt _ e).2.1; omega)
  have ho : Only (· = bb) w7 (w7.setCell ⟨bb, 0, none⟩ v7) := (Only.refl (· = bb) w7).setCell (p := ⟨bb, 0, none⟩) (fun _ => rfl) v7
  have hne : ¬ w5.heap.size = bb := by omega
  have hv7 : ∀ k, v7.ownBlock = some k → (F k ∨ w4.heap.size ≤ k) ∧ k ≠ bb := fun k e => by
    rcases hg.loc with x | x
    · rw [x] at e; exact ⟨Or.inl (hvt k e).1, (hvt k e).2.2⟩
    · rw [x] at e; injection e with e; simp only [World.size_alloc] at e; exact ⟨Or.inr (by omega), by omega⟩
  have hrow5 := hf5.own
  have hnew5 : ∀ k, (Value.slice A5 t.cols.length c5).ownBlock = some k → w4.heap.size ≤ k ∧ k < w5.heap.size := fun k e => ⟨hf5.new k e, (hrow5.lt k e).2⟩
  obtain ⟨A6, c6, e6, _, _, hrd⟩ := own_form hrow5
  injection e6 with e6 _ e7
  subst e6 e7
  have hrd7 := ((hrd.kept hq2 (fun _ _ x => x)).kept hg.only (fun k e x => by have := hnew5 k e; have := (hvt k x).2.1; omega)).kept ho (fun k e x => by have := hnew5 k e; omega)
  have tb := ho.get ht7 hne
  refine ⟨⟨v7, [w5.heap.size], vI, [], ⟨?_, ?_, ?_, ?_, ⟨Or.inl h.foot.1, fun k e => (hv7 k e).1, fun k e => Or.inl (h.foot.2.2 k e)⟩, h.num⟩, rfl, fun i e hi => by simp at hi⟩, ?_, ?_⟩
  · rw [set_same b4]; rfl
  · exact owns_kept hg.own ho (fun k e x => (hv7 k e).2 x)
  · exact owns_kept (owns_kept (owns_kept h.rowI hq (fun _ _ x => x)) hg.only (fun k e x => (hvi k e).2.2 x)) ho (fun k e x => (hvi k e).2.1 x)
  · intro i e hi
    rcases i with _ | i
    · simp at hi
      subst hi
      exact ⟨w5.heap.size, rfl, ⟨_, _, tb, hrd7.mono (fun k e => Or.inr (hnew5 k e).1), hc5⟩, Or.inr hz5, hp, hn⟩
    · simp at hi
  · exact ((hq.mono (T := F) (fun _ _ x => x.elim)).trans' hg.only (fun k _ e => (hvt k e).1)).trans' ho (fun k _ e => by subst e; exact h.foot.1)
  · rw [cell_of tb]; rfl

theorem elem_tbl : Elem Tryz.prog 97 107 1 8 := Elem.mk' (.pointer none) Tryz.underlying97 (by kernel_rfl) rfl (by decide)

/-- What CreateTable leaves of an empty book. -/
def FirstPost (w : World) (F : Nat → Prop) (bb last : Nat) (t : TE) (e : Ending) (w' : World) : Prop :=
  e = .returned (.tuple #[.int .u64 ((last : Int) + 1), .int .i64 0]) ∧ Only F w w' ∧ BookIs w' (fun k => F k ∨ w.heap.size ≤ k) bb [t] [] (last + 1)

set_option maxHeartbeats 2000000 in
set_option maxRecDepth 100000 in
theorem book_first {w : World} {F S S2 : Nat → Prop} {bb lb last c c2 kd : Nat} {A A2 : Option Addr} {s : Snap} {name nm : ByteArray} (h : BookIs w F bb [] [] last) (hl : last < 1000000) (hnm : Small name) (hcn : Small nm) (hk : 1 ≤ kd ∧ kd ≤ 3) (hu : U64 s.own)
    (hr : Rd w S2 2 A2 1 (colsV [(nm, kd)])) (hS : ∀ k, S2 k → ¬ F k) (hc2 : 1 ≤ c2) (hm2 : c2 ≤ maxLen) :
    Calls Tryz.prog 21 #[.pointer (some ⟨bb, 0, none⟩), .pointer (some ⟨lb, 0, none⟩), snapV s A c, .string name, .slice A2 1 c2] w (FirstPost w F bb last ⟨last + 1, name, [(nm, kd)], s.own, 0⟩) := by
  have HQ0 : Hid (Quiet w (w.alloc (.cells (snapCells s A c) 65))) := (Only.refl _ _).alloc _
  have HNM : Hid (∀ W, Calls Tryz.prog 37 #[.string name] W (BoolQ W true)) := fun W => book_name name hnm W
  have HRI : Hid (∀ W, Quiet w W → Calls Tryz.prog 38 #[.slice A2 1 c2] W (BoolQ W true)) := fun W hq => right_one (hr.kept hq (fun _ _ x => x)) hcn hk hc2 hm2
  have HTK : Hid (∀ W, Quiet w W → Calls Tryz.prog 39 #[.pointer (some ⟨bb, 0, none⟩), .pointer (some ⟨lb, 0, none⟩), snapV s A c, .string name] W fun e w' => e = .returned (.int .i64 0) ∧ Quiet W w') := fun W hq => taken_none (h.kept hq (fun _ _ x => x))
  have HB := Lib.hid (alloc_new w (.cells (snapCells s A c) 65))
  have HH := Lib.hid h
  have HR := Lib.hid hr
  have HS := Lib.hid hS
  unfold snapV at *
  clear h hr hS hnm hcn
  go_enter Tryz.func21, Tryz.ntmps21
  go_wp2_with fail
  refine (HNM.out _).mono ?_
  rintro e w1 ⟨rfl, hq1⟩
  have HQ1 := Lib.hid (HQ0.out.trans hq1)
  have HB1 := Lib.hid (hq1.get (by exact HB.out) (fun x => x))
  clear hq1 HB HQ0
  go_wp2_with fail
  refine (HRI.out _ HQ1.out).mono ?_
  rintro e w2 ⟨rfl, hq2⟩
  have HQ2 := Lib.hid (HQ1.out.trans hq2)
  have HB2 := Lib.hid (hq2.get HB1.out (fun x => x))
  obtain ⟨b0, b1, b2, b3⟩ := snapBox_cells HB2.out
  clear hq2 HB1 HQ1
  go_wp2_with fail
  refine (HTK.out _ HQ2.out).mono ?_
  rintro e w3 ⟨rfl, hq3⟩
  have HQ3 := Lib.hid (HQ2.out.trans hq3)
  have HB3 := Lib.hid (hq3.get HB2.out (fun x => x))
  clear b0 b1 b2 b3 hq3 HB2 HQ2 HTK HRI HNM
  obtain ⟨b0, b1, b2, b3⟩ := snapBox_cells HB3.out
  obtain ⟨vT, tps, vI, ips, hrow, hi0, _⟩ := HH.out.kept HQ3.out (fun _ _ x => x)
  have hips : ips = [] := List.eq_nil_of_length_eq_zero hi0
  have htps : tps = [] := List.eq_nil_of_length_eq_zero hrow.tlen
  subst hips htps
  obtain ⟨c0, _, _⟩ := hrow.cells
  obtain ⟨AT, cT, hvT, hcT, hmT, _⟩ := ptr_form hrow.rowT
  subst hvT
  rw [List.length_nil] at c0
  unfold maxLen at hmT
  have HFR : Hid (Calls Tryz.prog 40 #[.pointer (some ⟨bb, 0, none⟩), snapV s A c, .string name] w3 (FreshEPost w3 F bb [] (.slice AT 0 cT) [] vI [] last s.own name)) := book_fresh hrow hl
  unfold snapV at HFR
  clear hcT hrow hi0
  go_wp2_with fail
  refine HFR.out.mono ?_
  rintro e w4 ⟨rfl, ho4, hr4⟩
  have HO4 := Lib.hid ho4
  have HR4 := Lib.hid hr4
  have HRD4 : Hid (Rd w4 S2 2 A2 1 (colsV [(nm, kd)])) := (HR.out.kept HQ3.out (fun _ _ x => x)).kept ho4 (fun k x e => by subst e; exact HS.out _ x hr4.foot.1)
  clear ho4 hr4 HFR c0 b0 b1 b2 b3
  go_wp2_with fail
  refine (clone_cols A2 c2 [(nm, kd)] S2 w4 HRD4.out (by simp) (by simp)).mono ?_
  rintro e w5 ⟨v5, rfl, hf5⟩
  obtain ⟨A5, c5, hv5, hc5, hm5, _⟩ := own_form hf5.own
  subst hv5
  have HF5 := Lib.hid hf5
  have HC5 := Lib.hid (And.intro hc5 hm5)
  have hb5 := hf5.quiet.get HR4.out.box (fun x => x)
  have k0 := cell_of hb5 0
  have kf := fun o => frozen_of hb5 o
  simp only [List.getElem?_toArray, List.getElem?_cons_succ, List.getElem?_cons_zero] at k0
  have hbl5 : bb < w5.heap.size := lt_of_get hb5
  have hne5 : ¬ bb = w5.heap.size := by omega
  have hne6 : ¬ bb = w5.heap.size + 1 := by omega
  clear hf5 hc5 hm5 HRD4 hb5
  have HROW : Hid (World.ownsRow ((w5.alloc (.cells #[.int .u64 ((last : Int) + 1), .string name, .int .u64 (s.own : Int), .int .u64 0, .slice A5 1 c5] 113)).alloc (.cells #[ptrV w5.heap.size] 107)) 0 107 1 (.slice AT 0 cT) 0 []) :=
    owns_kept (owns_kept HR4.out.rowT HF5.out.quiet (fun _ _ x => x)) (((Only.refl (fun _ => False) w5).alloc _).alloc _) (fun _ _ x => x)
  have HRD : Hid (Rd ((w5.alloc (.cells #[.int .u64 ((last : Int) + 1), .string name, .int .u64 (s.own : Int), .int .u64 0, .slice A5 1 c5] 113)).alloc (.cells #[ptrV w5.heap.size] 107)) (fun _ => True) 1 (some ⟨w5.heap.size + 1, 0, none⟩) 1 [ptrV w5.heap.size]) := by
    have := Rd.one (w5.alloc (.cells #[.int .u64 ((last : Int) + 1), .string name, .int .u64 (s.own : Int), .int .u64 0, .slice A5 1 c5] 113)) (ptrV w5.heap.size) 107 (0, 0) (S := fun _ => True) trivial
    rw [World.size_alloc] at this
    exact this
  go_wp2_with (at_builtin; refine app elem_tbl rfl (.tmp 52) (.tmp 54) rfl rfl HROW.out rfl HRD.out (one_ptr [w5.heap.size]) (by unfold maxLen; omega) (by omega) ?_)
  intro v7 w7 hg7
  obtain ⟨A7, c7, hv7, _, _, _⟩ := own_form hg7.own
  subst hv7
  have HFI := Lib.hid (HR4.out.first (t := ⟨last + 1, name, [(nm, kd)], s.own, 0⟩) HF5.out HC5.out ⟨by simp, by simp⟩ ⟨by show last + 1 < 18446744073709551616; omega, hu, by show 0 < 18446744073709551616; omega⟩ hg7)
  have b7 := hg7.only.get ((((HF5.out.quiet.alloc (.cells #[.int .u64 ((last : Int) + 1), .string name, .int .u64 (s.own : Int), .int .u64 0, .slice A5 1 c5] 113)).alloc (.cells #[ptrV w5.heap.size] 107)).get HR4.out.box (fun x => x))) (fun e => by
    obtain ⟨c, hh⟩ := own_blk HR4.out.rowT e
    exact absurd rfl (ne_type HR4.out.box hh (by decide)))
  have s0 := cell_of b7 0
  have sf := fun o => frozen_of b7 o
  simp only [List.getElem?_toArray, List.getElem?_cons_succ, List.getElem?_cons_zero] at s0
  have hid : (w7.setCell ⟨bb, 0, none⟩ (.slice A7 (0 + 1) c7)).cell? ⟨w5.heap.size, 0, none⟩ = some (.int .u64 ((last : Int) + 1)) := HFI.out.2.2
  have HEND : Hid (FirstPost w F bb last ⟨last + 1, name, [(nm, kd)], s.own, 0⟩ (.returned (.tuple #[.int .u64 ((last : Int) + 1), .int .i64 0])) (w7.setCell ⟨bb, 0, none⟩ (.slice A7 (0 + 1) c7))) := by
    have hz3 := HQ3.out.size
    have hz4 := HO4.out.size
    refine ⟨rfl, (((HQ3.out.mono (T := F) (fun _ _ x => x.elim)).trans' HO4.out (fun k _ e => by subst e; exact HR4.out.foot.1)).trans HFI.out.2.1), HFI.out.1.mono (fun k x => ?_)⟩
    rcases x with x | x
    · exact Or.inl x
    · exact Or.inr (by omega)
  clear hg7 b7 HROW HRD HFI k0 kf
  simp only [Nat.zero_add] at hid HEND
  go_wp2
  go_ret2
  exact HEND.out

end Go.Proofs.YtdeekopdhgjanaaGreatDoor

namespace Go.Proofs.YtdeekopdhgjanaaGreatDoor
open Go.RowKit Go.Lap

set_option maxHeartbeats 400000 in
set_option maxRecDepth 100000 in
theorem valid_empty (w : World) :
    Calls Tryz.prog 95 #[.string ⟨#[]⟩] w fun e w' => e = .returned (.bool true) ∧ w = w' := by
  go_enter Tryz.func95, Tryz.ntmps95
  go_wp2
  refine wp_loop_rounds 1 ?_
  rw [rounds_succ]
  go_wp2
  go_ret
  exact ⟨rfl, rfl⟩

set_option maxHeartbeats 400000 in
set_option maxRecDepth 100000 in
theorem index_empty (w : World) :
    Calls Tryz.prog 96 #[.string ⟨#[]⟩, .int .u8 0] w fun e w' => e = .returned (.int .i64 (-1)) ∧ w = w' := by
  go_enter Tryz.func96, Tryz.ntmps96
  go_wp2
  rw [run_callFunc_extern Tryz.func145 (by kernel_rfl) (by kernel_rfl) (by kernel_rfl) (e := Extern.BytealgIndexByte.indexByte) (by kernel_rfl), Lib.run_indexByteString]
  simp only [Result.andThen]
  rw [Oper.upon_value]
  go_wp2
  go_ret
  exact ⟨rfl, rfl⟩

/-- A number as a value. -/
abbrev intCells (n : Int) : Array Value := #[.int .u8 1, .int .i64 n, .string ⟨#[]⟩, .bool false]

set_option maxHeartbeats 1000000 in
set_option maxRecDepth 100000 in
theorem cell_right_int (n : Int) (w : World) :
    Calls Tryz.prog 69 #[.agg (intCells n)] w (BoolQ w true) := by
  have hqq : Hid (Quiet w ((w.alloc (.cells (intCells n) 49)).alloc (.cells (intCells 0) 49))) := ((Only.refl _ _).alloc _).alloc _
  go_enter Tryz.func69, Tryz.ntmps69
  go_wp2_with fail
  refine (valid_empty _).mono ?_
  rintro e w1 ⟨rfl, rfl⟩
  go_wp2_with fail
  refine (index_empty _).mono ?_
  rintro e w1 ⟨rfl, rfl⟩
  go_wp2
  go_ret
  exact ⟨rfl, hqq.out⟩

set_option maxHeartbeats 400000 in
set_option maxRecDepth 100000 in
theorem right_kind (k : Nat) (hk : 1 ≤ k ∧ k ≤ 3) (w : World) :
    Calls Tryz.prog 94 #[.int .u8 (k : Int)] w fun e w' => e = .returned (.bool false) ∧ w = w' := by
  have d0 : ((k : Int) == 0) = false := by simp; omega
  have d1 : decide (3 < (k : Int)) = false := decide_eq_false (by omega)
  go_enter Tryz.func94, Tryz.ntmps94
  go_wp2
  go_ret
  exact ⟨rfl, rfl⟩

set_option maxHeartbeats 400000 in
set_option maxRecDepth 100000 in
theorem index_kind {w : World} {S : Nat → Prop} {A : Option Addr} {c k : Nat} (hr : Rd w S 1 A 1 [.int .u8 (k : Int)]) (hk : 1 ≤ k ∧ k ≤ 3) (hc : 1 ≤ c) (hm : c ≤ maxLen) :
    Calls Tryz.prog 128 #[.slice A 1 c, .func (.func 94) #[] #[]] w fun e w' => e = .returned (.int .i64 (-1)) ∧ w = w' := by
  obtain ⟨b, off, u, rfl, _, hu, hcell⟩ := hr.get (k := 0) (by omega)
  obtain rfl : Value.int .u8 (k : Int) = u := Option.some.inj hu
  rw [Nat.add_zero] at hcell
  unfold maxLen at hm
  clear hr hu
  go_enter Tryz.func128, Tryz.ntmps128
  go_wp2
  refine wp_loop_rounds 2 ?_
  rw [rounds_succ]
  go_wp2_with fail
  refine (right_kind k hk _).mono ?_
  rintro e w1 ⟨rfl, rfl⟩
  go_wp2
  rw [rounds_succ]
  go_wp2
  go_ret
  exact ⟨rfl, rfl⟩

set_option maxHeartbeats 400000 in
set_option maxRecDepth 100000 in
theorem has_kind {w : World} {S : Nat → Prop} {A : Option Addr} {c k : Nat} (hr : Rd w S 1 A 1 [.int .u8 (k : Int)]) (hk : 1 ≤ k ∧ k ≤ 3) (hc : 1 ≤ c) (hm : c ≤ maxLen) :
    Calls Tryz.prog 93 #[.slice A 1 c, .func (.func 94) #[] #[]] w fun e w' => e = .returned (.bool false) ∧ w = w' := by
  have HI := Lib.hid (index_kind hr hk hc hm)
  go_enter Tryz.func93, Tryz.ntmps93
  go_wp2_with fail
  refine HI.out.mono ?_
  rintro e w1 ⟨rfl, rfl⟩
  go_wp2
  go_ret
  exact ⟨rfl, rfl⟩

set_option maxHeartbeats 1000000 in
set_option maxRecDepth 100000 in
theorem row_right {w : World} {S : Nat → Prop} {A : Option Addr} {c k : Nat} (hr : Rd w S 1 A 1 [.int .u8 (k : Int)]) (hk : 1 ≤ k ∧ k ≤ 3) (hc : 1 ≤ c) (hm : c ≤ maxLen) :
    Calls Tryz.prog 68 #[.slice A 1 c] w fun e w' => e = .returned (.bool true) ∧ w = w' := by
  have HI := Lib.hid (has_kind hr hk hc hm)
  go_enter Tryz.func68, Tryz.ntmps68
  go_wp2_with fail
  refine HI.out.mono ?_
  rintro e w1 ⟨rfl, rfl⟩
  go_wp2
  go_ret
  exact ⟨rfl, rfl⟩

set_option maxHeartbeats 400000 in
set_option maxRecDepth 100000 in
theorem row_size_int (n : Int) (w : World) :
    Calls Tryz.prog 70 #[.agg (intCells n)] w fun e w' => e = .returned (.int .i64 8) ∧ Quiet w w' := by
  have hqq : Hid (Quiet w (w.alloc (.cells (intCells n) 49))) := (Only.refl _ _).alloc _
  go_enter Tryz.func70, Tryz.ntmps70
  go_wp2
  go_ret
  exact ⟨rfl, hqq.out⟩

end Go.Proofs.YtdeekopdhgjanaaGreatDoor

namespace Go.Proofs.YtdeekopdhgjanaaGreatDoor
open Go.RowKit Go.Lap

/-- A number's cells, one behind the other. -/
abbrev intRow (n : Int) : List Value := [.int .u8 1, .int .i64 n, .string ⟨#[]⟩, .bool false]

theorem intRow.get {w : World} {S : Nat → Prop} {A : Option Addr} {n : Int} (h : Rd w S 4 A 1 (intRow n)) : ∃ b off, A = some ⟨b, off, none⟩ ∧ S b ∧ w.cell? ⟨b, off, none⟩ = some (.int .u8 1) ∧ w.cell? ⟨b, off + 1, none⟩ = some (.int .i64 n) ∧ w.cell? ⟨b, off + 2, none⟩ = some (.string ⟨#[]⟩) ∧ w.cell? ⟨b, off + 3, none⟩ = some (.bool false) := by
  obtain ⟨b, off, rfl, hb, hc⟩ := h.cells (by show 0 < 4; decide)
  exact ⟨b, off, rfl, hb, hc 0 _ rfl, hc 1 _ rfl, hc 2 _ rfl, hc 3 _ rfl⟩

set_option maxHeartbeats 2000000 in
set_option maxRecDepth 100000 in
theorem row_fits_int {w : World} {S S2 : Nat → Prop} {A A2 : Option Addr} {c c2 : Nat} {n : Int} (hk : Rd w S 1 A 1 [.int .u8 1]) (hv : Rd w S2 4 A2 1 (intRow n)) (hc : 1 ≤ c) (hm : c ≤ maxLen) (hc2 : 1 ≤ c2) (hm2 : c2 ≤ maxLen) :
    Calls Tryz.prog 44 #[.slice A 1 c, .slice A2 1 c2] w fun e w' => e = .returned (.int .i64 0) ∧ Quiet w w' := by
  have HR : Hid (∀ W, Quiet w W → Calls Tryz.prog 68 #[.slice A 1 c] W fun e w' => e = .returned (.bool true) ∧ W = w') := fun W hq => row_right (k := 1) (hk.kept hq (fun _ _ x => x)) (by omega) hc hm
  obtain ⟨b, off, u, rfl, _, hu, hcell⟩ := hk.get (k := 0) (by omega)
  obtain rfl : Value.int .u8 1 = u := Option.some.inj hu
  rw [Nat.add_zero] at hcell
  obtain ⟨b2, off2, rfl, _, v0, v1, v2, v3⟩ := intRow.get hv
  have l1 := cell_lt hcell
  have l2 := cell_lt v0
  dsimp only at l1 l2
  unfold maxLen at hm hm2
  clear hk hv hu
  go_enter Tryz.func44, Tryz.ntmps44
  go_wp2_with fail
  refine (HR.out _ (Only.refl _ _)).mono ?_
  rintro e w1 ⟨rfl, rfl⟩
  go_wp2_with fail
  refine wp_loop_rounds 2 ?_
  rw [rounds_succ]
  go_wp2_with fail
  refine (cell_right_int n _).mono ?_
  rintro e w1 ⟨rfl, hq1⟩
  have hq0 : Quiet w w1 := ((Only.refl _ _).alloc _).trans hq1
  have HS := Lib.hid (row_size_int n)
  have v0' := hq0.cell v0 (fun x => x)
  have v1' := hq0.cell v1 (fun x => x)
  have v2' := hq0.cell v2 (fun x => x)
  have v3' := hq0.cell v3 (fun x => x)
  have hcell' := hq0.cell hcell (fun x => x)
  have HQ0 := Lib.hid hq0
  have l1' := cell_lt hcell'
  have l2' := cell_lt v0'
  dsimp only at l1' l2'
  clear v0 v1 v2 v3 hcell l1 l2 hq1 hq0
  go_wp2_with fail
  rw [rounds_succ]
  go_wp2_with fail
  refine wp_loop_rounds 2 ?_
  rw [rounds_succ]
  go_wp2_with fail
  go_quiet (fail)
  go_wp2_with fail
  refine (HS.out _).mono ?_
  rintro e w2 ⟨rfl, hq2⟩
  have hq3 : Quiet w w2 := ((HQ0.out.alloc _).drewN _).trans hq2
  clear hq2 v0' v1' v2' v3' hcell' HQ0 l1' l2'
  go_wp2_with fail
  rw [rounds_succ]
  go_wp2_with fail
  go_ret
  exact ⟨rfl, hq3⟩

end Go.Proofs.YtdeekopdhgjanaaGreatDoor

namespace Go.Proofs.YtdeekopdhgjanaaGreatDoor
open Go.RowKit Go.Lap

/-- The bytes of a small number: so many of them. -/
def smallN (n k : Nat) : List Nat := (List.range k).map (fun i => if i = 0 then n else 0)

/-- A row of one small number. -/
def rowI (n : Nat) : List Nat := 0 :: smallN n 8

theorem smallN_succ (n k : Nat) : smallN n (k + 1) = smallN n k ++ [if k = 0 then n else 0] := by simp [smallN, List.range_succ]
theorem smallN_length (n k : Nat) : (smallN n k).length = k := by simp [smallN]

theorem small_byte {n k : Nat} (hn : n < 256) (hk : k < 8) : (n : Int) / 2 ^ (8 * k) = ((if k = 0 then n else 0 : Nat) : Int) := by
  rcases Nat.eq_zero_or_pos k with rfl | h
  · simp
  · rw [if_neg (by omega)]
    have h1 : 256 ≤ 2 ^ (8 * k) := by
      have : 2 ^ 8 ≤ 2 ^ (8 * k) := Nat.pow_le_pow_right (by omega) (by omega)
      simpa using this
    have h2 : n / 2 ^ (8 * k) = 0 := Nat.div_eq_of_lt (by omega)
    have h3 : (n : Int) / 2 ^ (8 * k) = ((n / 2 ^ (8 * k) : Nat) : Int) := by push_cast; rfl
    rw [h3, h2]

theorem owns_one (w : World) (e : TypeId) (u : Value) : (w.alloc (.cells #[u] e)).ownsRow 0 e 1 (.slice (some ⟨w.heap.size, 0, none⟩) 1 1) 1 [u] :=
  ⟨by simp, .inr ⟨w.heap.size, 1, #[u], rfl, Nat.zero_le _, heap_alloc_new w _, Nat.le_refl _, by unfold maxLen; omega, rfl, by simp⟩⟩

section
variable {w wr w' : World} {v : Value} {l : List Nat}
theorem Fresh.quietly (h : Fresh w wr v l) (hq : Quiet wr w') : Fresh w w' v l := ⟨h.quiet.trans hq, h.new, owns_kept h.own hq (fun _ _ x => x)⟩
theorem Fresh.step {w4 : World} {v' : Value} {o : Obj} {x : Nat} (h : Fresh w wr v l) (hg : Grew (wr.alloc o) w4 5 1 v v' (l.length + 1) (bytesV l ++ bytesV [x])) : Fresh w w4 v' (l ++ [x]) := by
  have hsz := h.quiet.size
  refine ⟨(h.quiet.alloc _).trans' hg.only (fun k hk e => by have := h.new k e; omega), fun k e => ?_, ?_⟩
  · rcases hg.loc with y | y
    · rw [y] at e; exact h.new k e
    · rw [y] at e; injection e with e; simp only [World.size_alloc] at e; omega
  · rw [List.length_append, show bytesV (l ++ [x]) = bytesV l ++ bytesV [x] by simp [bytesV]]
    exact hg.own
end

/-- What Bytes leaves. -/
def RowPost (w : World) (l : List Nat) (e : Ending) (w' : World) : Prop := ∃ v, e = .returned (.tuple #[v, .int .i64 0]) ∧ Fresh w w' v l

set_option maxHeartbeats 2000000 in
set_option maxRecDepth 100000 in
theorem row_bytes_int {w : World} {S S2 : Nat → Prop} {A A2 : Option Addr} {c c2 : Nat} {n : Nat} (hn : n < 256) (hk : Rd w S 1 A 1 [.int .u8 1]) (hv : Rd w S2 4 A2 1 (intRow n)) (hc : 1 ≤ c) (hm : c ≤ maxLen) (hc2 : 1 ≤ c2) (hm2 : c2 ≤ maxLen) :
    Calls Tryz.prog 24 #[.slice A 1 c, .slice A2 1 c2] w (RowPost w (rowI n)) := by
  have HF := Lib.hid (row_fits_int hk hv hc hm hc2 hm2)
  have HV := Lib.hid hv
  unfold maxLen at hm hm2
  clear hk hv
  go_enter Tryz.func24, Tryz.ntmps24
  go_wp2_with fail
  refine HF.out.mono ?_
  rintro e w1 ⟨rfl, hq1⟩
  obtain ⟨b2, off2, rfl, _, v0, v1, v2, v3⟩ := intRow.get (HV.out.kept hq1 (fun _ _ x => x))
  have l2 := cell_lt v0
  dsimp only at l2
  have HQ1 := Lib.hid hq1
  clear hq1 HF HV
  have HFR : Hid (Fresh w (w1.alloc (.cells #[.int .u8 0] 5)) (.slice (some ⟨w1.heap.size, 0, none⟩) 1 1) [0]) := ⟨HQ1.out.alloc _, fun k e => by injection e with e; simp only at e; have := HQ1.out.size; omega, owns_one _ _ _⟩
  go_wp2_with fail
  refine wp_loop_rounds 2 ?_
  rw [rounds_succ]
  go_wp2_with fail
  have hF0 : Fresh w ((w1.alloc (.cells #[.int .u8 0] 5)).alloc (.cells (intCells n) 49)) (.slice (some ⟨w1.heap.size, 0, none⟩) 1 1) [0] := HFR.out.quietly ((Only.refl _ _).alloc _)
  have hN0 : ((w1.alloc (.cells #[.int .u8 0] 5)).alloc (.cells (intCells n) 49)).cell? ⟨w1.heap.size + 1, 1, none⟩ = some (.int .i64 (n : Int)) := by
    have h := alloc_new (w1.alloc (.cells #[.int .u8 0] 5)) (.cells (intCells n) 49)
    rw [World.size_alloc] at h
    rw [cell_of h]; rfl
  have HF0 := Lib.hid hF0
  have HN0 := Lib.hid hN0
  clear hF0 hN0 HFR v0 v1 v2 v3 l2 HQ1
  have hbx : w1.heap.size + 1 ≠ w1.heap.size := by omega
  generalize hbb : w1.heap.size + 1 = bx at *
  have hbs : w1.heap.size ≠ bx := by omega
  go_loopw [45, 7, 10] (fun i o _ wr => ∃ (k : Nat) (v' : Value), k ≤ 8 ∧ i = .int .i64 (k : Int) ∧ o = v' ∧ Fresh w wr v' (0 :: smallN n k) ∧ wr.cell? ⟨bx, 1, none⟩ = some (.int .i64 (n : Int)) ∧ (∀ j, v'.ownBlock = some j → j ≠ bx)) (fun i _ _ _ => 8 - (intOf i).toNat)
  case atStart => exact ⟨0, _, Nat.zero_le _, rfl, rfl, HF0.out, HN0.out, fun j e => by injection e with e; simp only at e; omega⟩
  case round =>
    obtain ⟨k, v', hk, rfl, rfl, hW, hN, hb⟩ := hrel
    by_cases hlt : k < 8
    · obtain ⟨x, hx⟩ : ∃ x : Nat, (if k = 0 then n else 0) = x := ⟨_, rfl⟩
      have hx256 : x < 256 := by rw [← hx]; split <;> omega
      have e1 : (n : Int) / 2 ^ (8 * k) % 256 = (x : Int) := by rw [small_byte hn hlt, hx]; omega
      have HS := Lib.hid (smallN_succ n k)
      rw [hx] at HS
      have hl : (0 :: smallN n k).length = k + 1 := by rw [List.length_cons, smallN_length]
      have HRD : Hid (Rd (wr.alloc (.cells #[.int .u8 (x : Int)] 5)) (fun _ => True) 1 (some ⟨wr.heap.size, 0, none⟩) 1 (bytesV [x])) := Rd.new wr 1 1 (bytesV [x]) _ _ rfl trivial
      have HR1 := Lib.hid (owns_kept hW.own ((Only.refl (fun _ => False) wr).alloc (.cells #[.int .u8 (x : Int)] 5)) (fun _ _ x => x))
      have HW := Lib.hid hW
      have HB := Lib.hid hb
      have HL := Lib.hid hl
      have hbw := cell_lt hN
      dsimp only at hbw
      clear hW hb hl hx
      go_wp2_with (at_builtin; refine app elem_u8 rfl (.tmp 48) (.tmp 55) rfl rfl HR1.out rfl HRD.out (one_bytes [x]) (by rw [HL.out]; unfold maxLen; omega) (by rw [HL.out]; omega) ?_)
      intro v4 w4 hg4
      have HST := Lib.hid (HW.out.step hg4)
      have hN4 : w4.cell? ⟨bx, 1, none⟩ = some (.int .i64 (n : Int)) := hg4.only.cell (((Only.refl (fun _ => False) wr).alloc (.cells #[.int .u8 (x : Int)] 5)).cell hN (fun x => x)) (fun e => HB.out _ e rfl)
      have HB4 : Hid (∀ j, v4.ownBlock = some j → j ≠ bx) := fun j e => by
        rcases hg4.loc with y | y
        · rw [y] at e; exact HB.out j e
        · rw [y] at e; injection e with e; simp only [World.size_alloc] at e; omega
      rw [List.cons_append, ← HS.out] at HST
      clear hg4 HR1 HRD HW HB HS e1 hN
      go_wp2
      go_roundw
      case rel => exact ⟨k + 1, _, by omega, by go_num, rfl, HST.out, hN4, HB4.out⟩
      case measure => simp [intOf]; omega
    · obtain rfl : k = 8 := by omega
      have hFR : Fresh w wr u7 (rowI n) := hW
      clear hW hN hb
      go_wp2_with fail
      rw [rounds_succ]
      go_wp2_with fail
      go_ret2
      exact ⟨u7, rfl, hFR⟩

end Go.Proofs.YtdeekopdhgjanaaGreatDoor

namespace Go.Proofs.YtdeekopdhgjanaaGreatDoor
open Go.RowKit Go.Lap

/-- The number that is known after so many bytes. -/
def soFar (n k : Nat) : Nat := if k = 0 then 0 else n

/-- What take leaves. -/
def TakePost (w : World) (n : Nat) (e : Ending) (w' : World) : Prop :=
  ∃ A c, e = .returned (.tuple #[.agg (intCells n), .slice A 0 c, .bool true]) ∧ Quiet w w'

theorem results_cell_two {P : Program} {fn : Func} {p q r : Tmp} {ty : TypeId} (h : fn.results = #[.cell p ty, .tmp q, .tmp r]) (tmps : Array Value) (w : World) (g : Nat) (t : TypeId) (cs : Array Value) (fr : Nat × Nat) (d : TypeDesc)
    (hp : tmps.getD p undef = .pointer (some ⟨g, 0, none⟩)) (hg : w.heap[g]? = some (.cells cs t fr))
    (hu : P.underlying ty = some d) (hd : (match d with | .struct _ | .array _ _ => true | _ => false) = true) (hi : (P.info? ty).map (·.size) = some cs.size) :
    (results fn tmps).run P w = .ok (.tuple #[.agg cs, tmps.getD q undef, tmps.getD r undef]) w := by
  have hp' : tmps[p]?.getD undef = .pointer (some ⟨g, 0, none⟩) := by simpa using hp
  simp [results, h, hp', asAddr, run_loadVar_row w g t ty cs fr d hg hu hd hi]

theorem info_value : (Tryz.prog.info? 49).map (·.size) = some 4 := by kernel_rfl

theorem or_zero {n : Nat} (hn : n < 256) : bits BinOp.or IntKind.i64 ((0 : Nat) : Int) (n : Int) = (n : Int) ∧ bits BinOp.or IntKind.i64 (n : Int) ((0 : Nat) : Int) = (n : Int) := by
  have key : ∀ m : Fin 256, bits BinOp.or IntKind.i64 ((0 : Nat) : Int) ((m.val : Nat) : Int) = (m.val : Int) ∧ bits BinOp.or IntKind.i64 ((m.val : Nat) : Int) ((0 : Nat) : Int) = (m.val : Int) := by decide +kernel
  exact key ⟨n, hn⟩

theorem wrap_i64_of (x : Int) (h1 : -9223372036854775808 ≤ x) (h2 : x ≤ 9223372036854775807) : IntKind.i64.wrap x = x := by rw [IntKind.wrap_i64]; omega

set_option maxHeartbeats 2000000 in
set_option maxRecDepth 100000 in
theorem row_take_int {w : World} {S : Nat → Prop} {b off c : Nat} {n : Nat} (hn : n < 256) (hr : Rd w S 1 (some ⟨b, off, none⟩) 8 (bytesV (smallN n 8))) (hc : 8 ≤ c) (hm : c ≤ maxLen) :
    Calls Tryz.prog 83 #[.int .u8 1, .slice (some ⟨b, off, none⟩) 8 c] w (TakePost w n) := by
  have hcell : ∀ k, k < 8 → w.cell? ⟨b, off + k, none⟩ = some (.int .u8 ((if k = 0 then n else 0 : Nat) : Int)) := fun k hk => by
    obtain ⟨b', off', u, e, _, hu, hcl⟩ := hr.get (k := k) hk
    injection e with e
    injection e with e1 e2
    subst e1 e2
    rw [hcl, ← hu]
    simp only [bytesV, smallN, List.getElem?_map, List.getElem?_range hk, Option.map_some]
  have HC := Lib.hid hcell
  have hb0 := cell_lt (hcell 0 (by omega))
  dsimp only at hb0
  unfold maxLen at hm
  have hq0 : Quiet w ((w.alloc (.cells #[.int .u8 0, .int .i64 0, .string ⟨#[]⟩, .bool false] 49)).alloc (.cells #[.int .u8 1, .int .i64 0, .string ⟨#[]⟩, .bool false] 49)) := ((Only.refl _ _).alloc _).alloc _
  have hB1 : ((w.alloc (.cells #[.int .u8 0, .int .i64 0, .string ⟨#[]⟩, .bool false] 49)).alloc (.cells #[.int .u8 1, .int .i64 0, .string ⟨#[]⟩, .bool false] 49)).heap[w.heap.size]? = some (.cells #[.int .u8 0, .int .i64 0, .string ⟨#[]⟩, .bool false] 49 (0, 0)) := by
    exact alloc_old (alloc_new w _) _
  have hB2 : ((w.alloc (.cells #[.int .u8 0, .int .i64 0, .string ⟨#[]⟩, .bool false] 49)).alloc (.cells #[.int .u8 1, .int .i64 0, .string ⟨#[]⟩, .bool false] 49)).heap[w.heap.size + 1]? = some (.cells #[.int .u8 1, .int .i64 0, .string ⟨#[]⟩, .bool false] 49 (0, 0)) := by
    have h := alloc_new (w.alloc (.cells #[.int .u8 0, .int .i64 0, .string ⟨#[]⟩, .bool false] 49)) (.cells #[.int .u8 1, .int .i64 0, .string ⟨#[]⟩, .bool false] 49)
    rw [World.size_alloc] at h
    exact h
  have HQ0 := Lib.hid hq0
  have HB1 := Lib.hid hB1
  have HB2 := Lib.hid hB2
  clear hr hcell hq0 hB1 hB2
  obtain ⟨p1, hp1⟩ : ∃ p1, w.heap.size = p1 := ⟨_, rfl⟩
  obtain ⟨p2, hp2⟩ : ∃ p2, w.heap.size + 1 = p2 := ⟨_, rfl⟩
  rw [hp1] at HB1
  rw [hp2] at HB2
  rw [hp1] at hp2
  go_enter Tryz.func83, Tryz.ntmps83
  go_wp2_with fail
  go_loopw [18, 8] (fun i _ wr => ∃ k : Nat, k ≤ 8 ∧ i = .int .i64 (k : Int) ∧ Quiet w wr ∧ wr.heap[p1]? = some (.cells #[.int .u8 0, .int .i64 0, .string ⟨#[]⟩, .bool false] 49 (0, 0)) ∧ wr.heap[p2]? = some (.cells #[.int .u8 1, .int .i64 (soFar n k : Int), .string ⟨#[]⟩, .bool false] 49 (0, 0))) (fun i _ _ => 8 - (intOf i).toNat)
  case atStart => exact ⟨0, Nat.zero_le _, rfl, HQ0.out, HB1.out, HB2.out⟩
  case round =>
    obtain ⟨k, hk, rfl, hQ, hB1, hB2⟩ := hrel
    have HQ := Lib.hid hQ
    have HB1' := Lib.hid hB1
    have HB2' := Lib.hid hB2
    have c1 : wr.cell? ⟨p2, 1, none⟩ = some (.int .i64 (soFar n k : Int)) := cell_of hB2 1
    have lp2 := cell_lt c1
    dsimp only at lp2
    by_cases hlt : k < 8
    · obtain ⟨x, hx⟩ : ∃ x : Nat, (if k = 0 then n else 0) = x := ⟨_, rfl⟩
      have q1 : wr.cell? ⟨b, off + k, none⟩ = some (.int .u8 (x : Int)) := by
        have := HC.out k hlt
        rw [hx] at this
        exact HQ.out.cell this (fun x => x)
      have hx256 : x < 256 := by rw [← hx]; split <;> omega
      have esh : Op.shift BinOp.shl IntKind.i64 (IntKind.i64.wrap (x : Int)) IntKind.i64 (IntKind.i64.wrap (8 * (k : Int))) = (pure (.int .i64 (x : Int)) : Sem Value) := by
        rw [wrap_i64_of (x : Int) (by omega) (by omega), wrap_i64_of (8 * (k : Int)) (by omega) (by omega), shift_shl_any _ _ _ _ (by omega)]
        congr 2
        rcases Nat.eq_zero_or_pos k with h | h
        · subst h
          simp
          exact wrap_i64_of (x : Int) (by omega) (by omega)
        · have h0 : x = 0 := by rw [← hx, if_neg (by omega)]
          subst h0
          simp
          rfl
      have eor : bits BinOp.or IntKind.i64 (soFar n k : Int) (x : Int) = (soFar n (k + 1) : Int) := by
        unfold soFar
        rw [if_neg (show ¬ k + 1 = 0 by omega)]
        rcases Nat.eq_zero_or_pos k with h | h
        · subst h
          have h0 : n = x := hx
          rw [if_pos rfl, ← h0]
          exact (or_zero hn).1
        · have h0 : x = 0 := by rw [← hx, if_neg (by omega)]
          rw [if_neg (by omega), h0]
          exact (or_zero hn).2
      have f1 : wr.frozen? ⟨p2, 1, none⟩ = false := frozen_of hB2 1
      clear hQ hB1 hB2 HB1 HB2 HQ0
      go_wp2_with fail
      refine wp_region_last (S := fun w' => w'.cell? ⟨p2, 1, none⟩ = some (.int .i64 (soFar n k : Int)) ∧ w'.cell? ⟨b, off + k, none⟩ = some (.int .u8 (x : Int))) (by kernel_rfl) (by kernel_rfl) (by simp) (⟨c1, q1⟩) (fun hHeld => ?_)
      simp only [List.pop_toArray, List.dropLast, List.size_toArray, List.length_cons, List.length_nil, Nat.reduceAdd, Nat.reduceSub]
      (refine wpAnyH_take (i := 0) (oi := ?_) (v := ?_) ?_ (by kernel_rfl) (by decide +kernel) (by decide +kernel) ?_ (Or.inl ⟨?_, ?_⟩) (by assumption) ?_; rotate_left 2; (focus (simp only [List.getElem?_toArray, List.getElem?_cons_zero, List.getElem?_cons_succ] <;> rfl)); (focus (exact fun _ _ _ => last_panic (fun h => h))); (focus rfl); (focus (intro w hSw; (try dsimp only at hSw); go_simp; (try with_reducible rfl); done)); (try simp only [Act.put, List.setIfInBounds_toArray, List.set_cons_zero, List.set_cons_succ]))
      (refine wpAnyH_take (i := 1) (oi := ?_) (v := ?_) ?_ (by kernel_rfl) (by decide +kernel) (by decide +kernel) ?_ (Or.inl ⟨?_, ?_⟩) (by assumption) ?_; rotate_left 2; (focus (simp only [List.getElem?_toArray, List.getElem?_cons_zero, List.getElem?_cons_succ] <;> rfl)); (focus (exact fun _ _ _ => last_panic (fun h => h))); (focus rfl); (focus (intro w hSw; (try dsimp only at hSw); go_simp; (try with_reducible rfl); done)); (try simp only [Act.put, List.setIfInBounds_toArray, List.set_cons_zero, List.set_cons_succ]))
      (refine wpAnyH_take (i := 2) (oi := ?_) (v := ?_) ?_ (by kernel_rfl) (by decide +kernel) (by decide +kernel) ?_ (Or.inl ⟨?_, ?_⟩) (by assumption) ?_; rotate_left 2; (focus (simp only [List.getElem?_toArray, List.getElem?_cons_zero, List.getElem?_cons_succ] <;> rfl)); (focus (exact fun _ _ _ => last_panic (fun h => h))); (focus rfl); (focus (intro w hSw; (try dsimp only at hSw); go_simp; (try with_reducible rfl); done)); (try simp only [Act.put, List.setIfInBounds_toArray, List.set_cons_zero, List.set_cons_succ]))
      (refine wpAnyH_take (i := 3) (oi := ?_) (v := ?_) ?_ (by kernel_rfl) (by decide +kernel) (by decide +kernel) ?_ (Or.inl ⟨?_, ?_⟩) (by assumption) ?_; rotate_left 2; (focus (simp only [List.getElem?_toArray, List.getElem?_cons_zero, List.getElem?_cons_succ] <;> rfl)); (focus (exact fun _ _ _ => last_panic (fun h => h))); (focus rfl); (focus (intro w hSw; (try dsimp only at hSw); go_simp; (try with_reducible rfl); done)); (try simp only [Act.put, List.setIfInBounds_toArray, List.set_cons_zero, List.set_cons_succ]))
      (refine wpAnyH_take (i := 4) (oi := ?_) (v := ?_) ?_ (by kernel_rfl) (by decide +kernel) (by decide +kernel) ?_ (Or.inl ⟨?_, ?_⟩) (by assumption) ?_; rotate_left 2; (focus (simp only [List.getElem?_toArray, List.getElem?_cons_zero, List.getElem?_cons_succ] <;> rfl)); (focus (exact fun _ _ _ => last_panic (fun h => h))); (focus rfl); (focus (intro w hSw; (try dsimp only at hSw); go_simp; (try with_reducible rfl); done)); (try simp only [Act.put, List.setIfInBounds_toArray, List.set_cons_zero, List.set_cons_succ]))
      (refine wpAnyH_take (i := 5) (oi := ?_) (v := ?_) ?_ (by kernel_rfl) (by decide +kernel) (by decide +kernel) ?_ (Or.inl ⟨?_, ?_⟩) (by assumption) ?_; rotate_left 2; (focus (simp only [List.getElem?_toArray, List.getElem?_cons_zero, List.getElem?_cons_succ] <;> rfl)); (focus (exact fun _ _ _ => last_panic (fun h => h))); (focus rfl); (focus (intro w hSw; (try dsimp only at hSw); go_simp; (try with_reducible rfl); done)); (try simp only [Act.put, List.setIfInBounds_toArray, List.set_cons_zero, List.set_cons_succ]))
      (refine wpAnyH_take (i := 6) (oi := ?_) (v := ?_) ?_ (by kernel_rfl) (by decide +kernel) (by decide +kernel) ?_ (Or.inl ⟨?_, ?_⟩) (by assumption) ?_; rotate_left 2; (focus (simp only [List.getElem?_toArray, List.getElem?_cons_zero, List.getElem?_cons_succ] <;> rfl)); (focus (exact fun _ _ _ => last_panic (fun h => h))); (focus rfl); (focus (intro w hSw; (try dsimp only at hSw); go_simp; (try with_reducible rfl); done)); (try simp only [Act.put, List.setIfInBounds_toArray, List.set_cons_zero, List.set_cons_succ]))
      (refine wpAnyH_take (i := 7) (oi := ?_) (v := ?_) ?_ (by kernel_rfl) (by decide +kernel) (by decide +kernel) ?_ (Or.inl ⟨?_, ?_⟩) (by assumption) ?_; rotate_left 2; (focus (simp only [List.getElem?_toArray, List.getElem?_cons_zero, List.getElem?_cons_succ] <;> rfl)); (focus (exact fun _ _ _ => last_panic (fun h => h))); (focus rfl); (focus (intro w hSw; (try dsimp only at hSw); go_simp; (try with_reducible rfl); done)); (try simp only [Act.put, List.setIfInBounds_toArray, List.set_cons_zero, List.set_cons_succ]))
      (refine wpAnyH_take (i := 8) (oi := ?_) (v := ?_) ?_ (by kernel_rfl) (by decide +kernel) (by decide +kernel) ?_ (Or.inl ⟨?_, ?_⟩) (by assumption) ?_; rotate_left 2; (focus (simp only [List.getElem?_toArray, List.getElem?_cons_zero, List.getElem?_cons_succ] <;> rfl)); (focus (exact fun _ _ _ => last_panic (fun h => h))); (focus rfl); (focus (intro w hSw; (try dsimp only at hSw); go_simp; (try with_reducible rfl); done)); (try simp only [Act.put, List.setIfInBounds_toArray, List.set_cons_zero, List.set_cons_succ]))
      (refine wpAnyH_take (i := 9) (oi := ?_) (v := ?_) ?_ (by kernel_rfl) (by decide +kernel) (by decide +kernel) ?_ (Or.inl ⟨?_, ?_⟩) (by assumption) ?_; rotate_left 2; (focus (simp only [List.getElem?_toArray, List.getElem?_cons_zero, List.getElem?_cons_succ] <;> rfl)); (focus (exact fun _ _ _ => last_panic (fun h => h))); (focus rfl); (focus (intro w hSw; (try dsimp only at hSw); go_simp; (try with_reducible rfl); done)); (try simp only [Act.put, List.setIfInBounds_toArray, List.set_cons_zero, List.set_cons_succ]))
      (refine wpAnyH_take (i := 10) (oi := ?_) (v := ?_) ?_ (by kernel_rfl) (by decide +kernel) (by decide +kernel) ?_ (Or.inl ⟨?_, ?_⟩) (by assumption) ?_; rotate_left 2; (focus (simp only [List.getElem?_toArray, List.getElem?_cons_zero, List.getElem?_cons_succ] <;> rfl)); (focus (exact fun _ _ _ => last_panic (fun h => h))); (focus rfl); (focus (intro w hSw; (try dsimp only at hSw); go_simp; (try with_reducible rfl); done)); (try simp only [Act.put, List.setIfInBounds_toArray, List.set_cons_zero, List.set_cons_succ]))
      (refine wpAnyH_take (i := 11) (oi := ?_) (v := ?_) ?_ (by kernel_rfl) (by decide +kernel) (by decide +kernel) ?_ (Or.inl ⟨?_, ?_⟩) (by assumption) ?_; rotate_left 2; (focus (simp only [List.getElem?_toArray, List.getElem?_cons_zero, List.getElem?_cons_succ] <;> rfl)); (focus (exact fun _ _ _ => last_panic (fun h => h))); (focus rfl); (focus (intro w hSw; (try dsimp only at hSw); go_simp; (try with_reducible rfl); done)); (try simp only [Act.put, List.setIfInBounds_toArray, List.set_cons_zero, List.set_cons_succ]))
      refine wpAnyH_done (by kernel_rfl) ?_ _
      refine last_step (o := ?_) ?_ ?_
      rotate_left 1
      (focus (simp only [List.getElem?_toArray, List.getElem?_cons_zero, List.getElem?_cons_succ] <;> rfl))
      intro K hK
      go_simp
      refine hK.out _ _ ?_
      clear hK K
      have hQ' : Quiet w (wr.setCell ⟨p2, 1, none⟩ (.int .i64 (soFar n (k + 1) : Int))).drew := (HQ.out.setCell (fun h => absurd h (by show ¬ p2 < w.heap.size; omega)) _).drew
      have hB1' : (wr.setCell ⟨p2, 1, none⟩ (.int .i64 (soFar n (k + 1) : Int))).drew.heap[p1]? = some (.cells #[.int .u8 0, .int .i64 0, .string ⟨#[]⟩, .bool false] 49 (0, 0)) := by
        exact set_other HB1'.out _ _ (by omega)
      have hB2' : (wr.setCell ⟨p2, 1, none⟩ (.int .i64 (soFar n (k + 1) : Int))).drew.heap[p2]? = some (.cells #[.int .u8 1, .int .i64 (soFar n (k + 1) : Int), .string ⟨#[]⟩, .bool false] 49 (0, 0)) := by
        exact set_same HB2'.out _ _
      generalize (wr.setCell ⟨p2, 1, none⟩ (.int .i64 (soFar n (k + 1) : Int))).drew = wn at *
      clear hHeld esh eor f1 q1 c1 lp2
      go_wp2_with fail
      go_roundw
      case rel => exact ⟨k + 1, by omega, by go_num, hQ', hB1', hB2'⟩
      case measure => simp [intOf]; omega
    · obtain rfl : k = 8 := by omega
      have f0 : wr.frozen? ⟨p1, 0, none⟩ = false := frozen_of hB1 0
      have f1 : wr.frozen? ⟨p1, 1, none⟩ = false := frozen_of hB1 1
      have f2 : wr.frozen? ⟨p1, 2, none⟩ = false := frozen_of hB1 2
      have f3 : wr.frozen? ⟨p1, 3, none⟩ = false := frozen_of hB1 3
      have r0 : wr.cell? ⟨p1, 0, none⟩ = some (.int .u8 0) := cell_of hB1 0
      have r1 : wr.cell? ⟨p1, 1, none⟩ = some (.int .i64 0) := cell_of hB1 1
      have r2 : wr.cell? ⟨p1, 2, none⟩ = some (.string ⟨#[]⟩) := cell_of hB1 2
      have r3 : wr.cell? ⟨p1, 3, none⟩ = some (.bool false) := cell_of hB1 3
      have c0 : wr.cell? ⟨p2, 0, none⟩ = some (.int .u8 1) := cell_of hB2 0
      have c2 : wr.cell? ⟨p2, 2, none⟩ = some (.string ⟨#[]⟩) := cell_of hB2 2
      have c3 : wr.cell? ⟨p2, 3, none⟩ = some (.bool false) := cell_of hB2 3
      have hne : p1 ≠ p2 := by omega
      clear hQ HB1 HB2 HQ0 hB1 hB2
      go_wp2_with fail
      go_region
      have HQ4 : Hid (Quiet w (fourSet wr p1 (.int .u8 1) (.int .i64 (soFar n 8 : Int)) (.string ⟨#[]⟩) (.bool false)).drew) := (HQ.out.trans' (fourSet_only wr p1 _ _ _ _) (fun k hk e => by omega)).drew
      have HX : Hid ((fourSet wr p1 (.int .u8 1) (.int .i64 (soFar n 8 : Int)) (.string ⟨#[]⟩) (.bool false)).drew.heap[p1]? = some (.cells #[.int .u8 1, .int .i64 (soFar n 8 : Int), .string ⟨#[]⟩, .bool false] 49 (0, 0))) := fourSet_same HB1'.out _ _ _ _
      unfold fourSet at HQ4 HX
      clear HQ HB1' HB2' f0 f1 f2 f3 r0 r1 r2 r3 c0 c2 c3 c1
      go_wp2
      all_goals exact bodyPost_ret (results_cell_two Tryz.results83 _ _ p1 _ _ (0, 0) _ (by rfl) HX.out Tryz.underlying49 rfl info_value) (by rfl) ⟨_, _, rfl, HQ4.out⟩

end Go.Proofs.YtdeekopdhgjanaaGreatDoor

namespace Go.Proofs.YtdeekopdhgjanaaGreatDoor
open Go.RowKit Go.Lap

theorem elem_val : Elem Tryz.prog 35 49 4 40 := Elem.mk' (.agg #[.int .u8 0, .int .i64 0, .string ⟨#[]⟩, .bool false]) Tryz.underlying35 (by kernel_rfl) rfl (by decide)

/-- What Read leaves. -/
structure FreshV (w w' : World) (v : Value) (n : Nat) : Prop where
  quiet : Quiet w w'
  new : ∀ k, v.ownBlock = some k → w.heap.size ≤ k
  own : w'.ownsRow 0 49 4 v 1 (intRow n)

def ReadPost (w : World) (n : Nat) (e : Ending) (w' : World) : Prop := ∃ v, e = .returned (.tuple #[v, .int .i64 0]) ∧ FreshV w w' v n

set_option maxHeartbeats 2000000 in
set_option maxRecDepth 100000 in
theorem row_read_int {w : World} {S S2 : Nat → Prop} {A A2 : Option Addr} {c c2 : Nat} {n : Nat} (hn : n < 256) (hk : Rd w S 1 A 1 [.int .u8 1]) (hv : Rd w S2 1 A2 9 (bytesV (rowI n))) (hc : 1 ≤ c) (hm : c ≤ maxLen) (hc2 : 9 ≤ c2) (hm2 : c2 ≤ maxLen) :
    Calls Tryz.prog 52 #[.slice A 1 c, .slice A2 9 c2] w (ReadPost w n) := by
  have HR := Lib.hid (row_right (k := 1) hk (by omega) hc hm)
  obtain ⟨b, off, u, rfl, _, hu, hcell⟩ := hk.get (k := 0) (by omega)
  obtain rfl : Value.int .u8 1 = u := Option.some.inj hu
  rw [Nat.add_zero] at hcell
  obtain ⟨b2, off2, rfl, _, hcs⟩ := hv.cells (by rw [bytes_len]; simp [rowI])
  have q0 : w.cell? ⟨b2, off2, none⟩ = some (.int .u8 0) := hcs 0 _ rfl
  have HT : Hid (Rd w (fun _ => True) 1 (some ⟨b2, off2 + 1, none⟩) 8 (bytesV (smallN n 8))) := by
    refine ⟨by rw [bytes_len, smallN_length], fun _ => ⟨b2, off2 + 1, rfl, trivial, fun j u hj => ?_⟩⟩
    have := hcs (j + 1) u (by unfold rowI bytesV at *; rw [List.map_cons, List.getElem?_cons_succ]; exact hj)
    rw [Nat.add_assoc, Nat.add_comm 1 j]
    exact this
  have l1 := cell_lt hcell
  have l2 := cell_lt q0
  dsimp only at l1 l2
  unfold maxLen at hm hm2
  clear hk hv hu hcs
  go_enter Tryz.func52, Tryz.ntmps52
  go_wp2_with fail
  refine HR.out.mono ?_
  rintro e w1 ⟨rfl, rfl⟩
  clear HR
  go_wp2_with fail
  go_quiet (fail)
  have hq0 : Quiet w (w.drewN nq) := (Only.refl _ _).drewN _
  have HT' := Lib.hid (HT.out.kept hq0 (fun _ _ x => x))
  have hcell' := hq0.cell hcell (fun x => x)
  have hsz : (w.drewN nq).heap.size = w.heap.size := rfl
  rw [← hsz] at l1 l2
  have HQ0 := Lib.hid hq0
  clear HT hcell q0 hsz hq0
  generalize w.drewN nq = wd at *
  go_wp2_with fail
  refine wp_loop_rounds 2 ?_
  rw [rounds_succ]
  go_wp2_with fail
  have hq1 : Quiet wd (wd.alloc (.cells (#[.int .u8 0, .int .i64 0, .string ⟨#[]⟩, .bool false] : Array Value) 49)) := (Only.refl _ _).alloc _
  refine (row_take_int hn (HT'.out.kept hq1 (fun _ _ x => x)) (by omega) (by unfold maxLen; omega)).mono ?_
  rintro e w2 ⟨A3, c3, rfl, hq2⟩
  have hB : w2.heap[wd.heap.size]? = some (.cells #[.int .u8 0, .int .i64 0, .string ⟨#[]⟩, .bool false] 49 (0, 0)) := hq2.get (alloc_new wd _) (fun x => x)
  have hq3 := HQ0.out.trans (hq1.trans hq2)
  have hs3 : w.heap.size ≤ wd.heap.size := HQ0.out.size
  obtain ⟨pv, hpv⟩ : ∃ pv, wd.heap.size = pv := ⟨_, rfl⟩
  rw [hpv] at hB hs3
  have f0 : w2.frozen? ⟨pv, 0, none⟩ = false := frozen_of hB 0
  have f1 : w2.frozen? ⟨pv, 1, none⟩ = false := frozen_of hB 1
  have f2 : w2.frozen? ⟨pv, 2, none⟩ = false := frozen_of hB 2
  have f3 : w2.frozen? ⟨pv, 3, none⟩ = false := frozen_of hB 3
  have r0 : w2.cell? ⟨pv, 0, none⟩ = some (.int .u8 0) := cell_of hB 0
  have r1 : w2.cell? ⟨pv, 1, none⟩ = some (.int .i64 0) := cell_of hB 1
  have r2 : w2.cell? ⟨pv, 2, none⟩ = some (.string ⟨#[]⟩) := cell_of hB 2
  have r3 : w2.cell? ⟨pv, 3, none⟩ = some (.bool false) := cell_of hB 3
  have HQ3 : Hid (Quiet w (fourSet w2 pv (.int .u8 1) (.int .i64 (n : Int)) (.string ⟨#[]⟩) (.bool false))) := hq3.trans' (fourSet_only w2 pv _ _ _ _) (fun k hk e => by omega)
  unfold fourSet at HQ3
  clear HT' hcell' HQ0 hq1 hq2 hq3 hB l1 l2
  have HS5 : Hid (w2.heap.size = ((((w2.setCell ⟨pv, 0, none⟩ (.int .u8 1)).setCell ⟨pv, 1, none⟩ (.int .i64 (n : Int))).setCell ⟨pv, 2, none⟩ (.string ⟨#[]⟩)).setCell ⟨pv, 3, none⟩ (.bool false)).heap.size) := by simp [Hid, World.setCell]
  have HRD : ∀ W : World, Hid (Rd (W.alloc (.cells #[.int .u8 1, .int .i64 (n : Int), .string ⟨#[]⟩, .bool false] 49)) (fun _ => True) 4 (some ⟨W.heap.size, 0, none⟩) 1 (intRow n)) := fun W => Rd.new W 4 1 (intRow n) _ _ rfl trivial
  have HRD2 := Lib.hid (HRD ((((w2.setCell ⟨pv, 0, none⟩ (.int .u8 1)).setCell ⟨pv, 1, none⟩ (.int .i64 (n : Int))).setCell ⟨pv, 2, none⟩ (.string ⟨#[]⟩)).setCell ⟨pv, 3, none⟩ (.bool false))).out
  rw [← HS5.out] at HRD2
  have HONE : Hid (∀ u ∈ intRow n, u.oneCell' = true) := fun u hu => by
    simp only [intRow, List.mem_cons, List.not_mem_nil, or_false] at hu
    rcases hu with rfl | rfl | rfl | rfl <;> rfl
  clear HRD
  go_wp2_with (at_builtin; refine app elem_val rfl (.tmp 61) (.tmp 63) rfl rfl (World.ownsRow_nil _ _ _ _) rfl HRD2.out HONE.out (by unfold maxLen; omega) (by omega) ?_)
  intro v4 w4 hg4
  have HF : Hid (FreshV w w4 v4 n) := by
    refine ⟨(HQ3.out.alloc _).trans' hg4.only (fun k hk e => by cases e), fun k e => ?_, hg4.own⟩
    rcases hg4.loc with y | y
    · rw [y] at e; cases e
    · rw [y] at e; injection e with e; simp only [World.size_alloc] at e; have := HQ3.out.size; omega
  clear hg4 HRD2 HONE HS5 HQ3 f0 f1 f2 f3 r0 r1 r2 r3
  go_wp2_with fail
  rw [rounds_succ]
  go_wp2_with fail
  go_ret2
  exact ⟨v4, rfl, HF.out⟩

end Go.Proofs.YtdeekopdhgjanaaGreatDoor

namespace Go.Lap

/-- Texts of bytes, compared. -/
def cmpB : List Nat → List Nat → Int
  | [], [] => 0
  | [], _ :: _ => -1
  | _ :: _, [] => 1
  | a :: xs, b :: ys => if a < b then -1 else if b < a then 1 else cmpB xs ys

theorem cmpB_swap : ∀ a b, cmpB b a = - cmpB a b
  | [], [] => rfl
  | [], _ :: _ => rfl
  | _ :: _, [] => rfl
  | a :: xs, b :: ys => by
    have ih := cmpB_swap xs ys
    unfold cmpB
    by_cases x : a < b
    · rw [if_pos x, if_neg (by omega), if_pos x]; rfl
    · by_cases y : b < a
      · rw [if_pos y, if_neg x, if_pos y]
      · rw [if_neg y, if_neg x, if_neg x, if_neg y, ih]

theorem cmpB_zero : ∀ a b, cmpB a b = 0 ↔ a = b
  | [], [] => by simp [cmpB]
  | [], _ :: _ => by simp [cmpB]
  | _ :: _, [] => by simp [cmpB]
  | a :: xs, b :: ys => by
    have ih := cmpB_zero xs ys
    unfold cmpB
    rw [List.cons.injEq]
    split
    · constructor
      · intro h; omega
      · rintro ⟨h, _⟩; omega
    · split
      · constructor
        · intro h; omega
        · rintro ⟨h, _⟩; omega
      · rw [ih]
        constructor
        · intro h; exact ⟨by omega, h⟩
        · exact fun h => h.2

theorem cmpB_self (a : List Nat) : cmpB a a = 0 := (cmpB_zero a a).2 rfl

theorem cmpB_trans : ∀ a b c, cmpB a b < 0 → cmpB b c < 0 → cmpB a c < 0
  | [], [], _, h, _ => by simp [cmpB] at h
  | [], _ :: _, [], _, h => by simp [cmpB] at h
  | [], _ :: _, _ :: _, _, _ => by simp [cmpB]
  | _ :: _, [], _, h, _ => by simp [cmpB] at h
  | _ :: _, _ :: _, [], _, h => by simp [cmpB] at h
  | a :: xs, b :: ys, c :: zs, h1, h2 => by
    have ih := cmpB_trans xs ys zs
    unfold cmpB at h1 h2 ⊢
    by_cases x : a < b
    · by_cases y : b < c
      · rw [if_pos (by omega)]; omega
      · rw [if_neg y] at h2
        split at h2
        · omega
        · rw [if_pos (by omega)]; omega
    · rw [if_neg x] at h1
      split at h1
      · omega
      · by_cases y : b < c
        · rw [if_pos (by omega)]; omega
        · rw [if_neg y] at h2
          split at h2
          · omega
          · rw [if_neg (by omega), if_neg (by omega)]
            exact ih h1 h2

theorem cmpB_dom : ∀ a b, cmpB a b = -1 ∨ cmpB a b = 0 ∨ cmpB a b = 1
  | [], [] => by simp [cmpB]
  | [], _ :: _ => by simp [cmpB]
  | _ :: _, [] => by simp [cmpB]
  | a :: xs, b :: ys => by
    have ih := cmpB_dom xs ys
    unfold cmpB
    split
    · simp
    · split
      · simp
      · exact ih

/-- The model's comparison is this one. -/
theorem cmpB_model : ∀ (a b : List Nat), (∀ x ∈ a, x < 256) → (∀ x ∈ b, x < 256) → Lib.compareBytes (a.map UInt8.ofNat) (b.map UInt8.ofNat) = cmpB a b
  | [], [], _, _ => rfl
  | [], _ :: _, _, _ => rfl
  | _ :: _, [], _, _ => rfl
  | x :: a, y :: b, ha, hb => by
    have ih := cmpB_model a b (fun z hz => ha z (by simp [hz])) (fun z hz => hb z (by simp [hz]))
    have hx := ha x (by simp)
    have hy := hb y (by simp)
    have key : ∀ u v : Nat, u < 256 → v < 256 → (UInt8.ofNat u < UInt8.ofNat v ↔ u < v) := by
      intro u v hu hv
      rw [UInt8.lt_iff_toNat_lt]
      simp [Nat.mod_eq_of_lt hu, Nat.mod_eq_of_lt hv]
    simp only [List.map_cons]
    unfold Lib.compareBytes cmpB
    rw [ih]
    simp only [key x y hx hy, key y x hy hx]

/-- Whole numbers, compared. -/
def cmpI (x y : Int) : Int := if x < y then -1 else if y < x then 1 else 0

/-- A key, and a place. -/
structure Ent where
  key : List Nat
  pg : Int
  sl : Int

theorem Ent.ext' {a b : Ent} (h1 : a.key = b.key) (h2 : a.pg = b.pg) (h3 : a.sl = b.sl) : a = b := by
  obtain ⟨_, _, _⟩ := a
  obtain ⟨_, _, _⟩ := b
  simp_all

instance : DecidableEq Ent := fun a b =>
  if h1 : a.key = b.key then
    if h2 : a.pg = b.pg then
      if h3 : a.sl = b.sl then isTrue (Ent.ext' h1 h2 h3) else isFalse (fun e => h3 (by rw [e]))
    else isFalse (fun e => h2 (by rw [e]))
  else isFalse (fun e => h1 (by rw [e]))

/-- The order of entries. -/
def cmpE (a b : Ent) : Int := if cmpB a.key b.key ≠ 0 then cmpB a.key b.key else if cmpI a.pg b.pg ≠ 0 then cmpI a.pg b.pg else cmpI a.sl b.sl

theorem cmpE_zero (a b : Ent) : cmpE a b = 0 ↔ a = b := by
  unfold cmpE
  by_cases h1 : cmpB a.key b.key = 0
  · rw [if_neg (by simp [h1])]
    by_cases h2 : cmpI a.pg b.pg = 0
    · rw [if_neg (by simp [h2])]
      constructor
      · intro h3
        refine Ent.ext' ((cmpB_zero _ _).1 h1) ?_ ?_
        · unfold cmpI at h2; split at h2; omega; split at h2 <;> omega
        · unfold cmpI at h3; split at h3; omega; split at h3 <;> omega
      · rintro rfl; simp [cmpI]
    · rw [if_pos h2]
      constructor
      · exact fun h => absurd h h2
      · rintro rfl; simp [cmpI]
  · rw [if_pos h1]
    constructor
    · exact fun h => absurd h h1
    · rintro rfl; exact cmpB_self _

theorem cmpE_self (a : Ent) : cmpE a a = 0 := (cmpE_zero a a).2 rfl

theorem cmpI_swap (x y : Int) : cmpI y x = - cmpI x y := by
  unfold cmpI
  split <;> split <;> first | omega | (split <;> omega)

theorem cmpE_swap (a b : Ent) : cmpE b a = - cmpE a b := by
  unfold cmpE
  have k1 := cmpB_swap a.key b.key
  have k2 := cmpI_swap a.pg b.pg
  have k3 := cmpI_swap a.sl b.sl
  by_cases h1 : cmpB a.key b.key = 0
  · rw [if_neg (show ¬ cmpB b.key a.key ≠ 0 by omega), if_neg (show ¬ cmpB a.key b.key ≠ 0 by omega)]
    by_cases h2 : cmpI a.pg b.pg = 0
    · rw [if_neg (show ¬ cmpI b.pg a.pg ≠ 0 by omega), if_neg (show ¬ cmpI a.pg b.pg ≠ 0 by omega)]
      exact k3
    · rw [if_pos (show cmpI b.pg a.pg ≠ 0 by omega), if_pos h2]
      exact k2
  · rw [if_pos (show cmpB b.key a.key ≠ 0 by omega), if_pos h1]
    exact k1

theorem cmpI_lt {x y : Int} : cmpI x y < 0 ↔ x < y := by
  unfold cmpI
  split
  · constructor <;> intro <;> omega
  · split <;> constructor <;> intro <;> omega

theorem cmpI_zero {x y : Int} : cmpI x y = 0 ↔ x = y := by
  unfold cmpI
  split
  · constructor <;> intro <;> omega
  · split <;> constructor <;> intro <;> omega

theorem cmpE_lt (a b : Ent) : cmpE a b < 0 ↔ cmpB a.key b.key < 0 ∨ (a.key = b.key ∧ (a.pg < b.pg ∨ (a.pg = b.pg ∧ a.sl < b.sl))) := by
  unfold cmpE
  by_cases h1 : cmpB a.key b.key = 0
  · rw [if_neg (by simp [h1]), h1]
    have e := (cmpB_zero _ _).1 h1
    by_cases h2 : cmpI a.pg b.pg = 0
    · rw [if_neg (by simp [h2]), cmpI_lt]
      have e2 := cmpI_zero.1 h2
      simp [e, e2]
    · rw [if_pos h2, cmpI_lt]
      have e2 : ¬ a.pg = b.pg := fun h => h2 (cmpI_zero.2 h)
      simp [e, e2]
  · rw [if_pos h1]
    have e : ¬ a.key = b.key := fun h => h1 ((cmpB_zero _ _).2 h)
    simp [e]

theorem cmpE_trans {a b c : Ent} (h1 : cmpE a b < 0) (h2 : cmpE b c < 0) : cmpE a c < 0 := by
  rw [cmpE_lt] at *
  rcases h1 with h1 | ⟨e1, h1⟩
  · rcases h2 with h2 | ⟨e2, h2⟩
    · exact Or.inl (cmpB_trans _ _ _ h1 h2)
    · rw [← e2]; exact Or.inl h1
  · rcases h2 with h2 | ⟨e2, h2⟩
    · rw [e1]; exact Or.inl h2
    · exact Or.inr ⟨e1.trans e2, by omega⟩

/-- Of two keys in order neither is less. -/
theorem cmpE_key {a b : Ent} (h : cmpE a b < 0) : cmpB a.key b.key ≤ 0 := by
  rw [cmpE_lt] at h
  rcases h with h | ⟨h, _⟩
  · omega
  · rw [(cmpB_zero _ _).2 h]; omega

theorem cmpB_le_lt {a b c : List Nat} (h1 : cmpB a b ≤ 0) (h2 : cmpB b c < 0) : cmpB a c < 0 := by
  by_cases h : cmpB a b = 0
  · rw [(cmpB_zero _ _).1 h]; exact h2
  · exact cmpB_trans _ _ _ (by omega) h2

theorem cmpB_lt_le {a b c : List Nat} (h1 : cmpB a b < 0) (h2 : cmpB b c ≤ 0) : cmpB a c < 0 := by
  by_cases h : cmpB b c = 0
  · rw [← (cmpB_zero _ _).1 h]; exact h1
  · exact cmpB_trans _ _ _ h1 (by omega)

/-- In order, no two the same. -/
def Rising (l : List Ent) : Prop := l.Pairwise (fun a b => cmpE a b < 0)

/-- How many stand ahead of an entry. -/
def posE (e : Ent) : List Ent → Nat
  | [] => 0
  | x :: l => if cmpE x e < 0 then posE e l + 1 else 0

/-- With one more. -/
def insE (e : Ent) : List Ent → List Ent
  | [] => [e]
  | x :: l => if cmpE x e < 0 then x :: insE e l else e :: x :: l

theorem posE_cons (e x : Ent) (l : List Ent) : posE e (x :: l) = if cmpE x e < 0 then posE e l + 1 else 0 := rfl
theorem insE_cons (e x : Ent) (l : List Ent) : insE e (x :: l) = if cmpE x e < 0 then x :: insE e l else e :: x :: l := rfl

theorem posE_le (e : Ent) (l : List Ent) : posE e l ≤ l.length := by
  induction l with
  | nil => exact Nat.le_refl _
  | cons x l ih =>
    unfold posE
    split
    · simp; omega
    · exact Nat.zero_le _

theorem posE_char {e : Ent} : ∀ {l : List Ent} {i : Nat}, i ≤ l.length → (∀ j x, j < i → l[j]? = some x → cmpE x e < 0) → (∀ x, l[i]? = some x → ¬ cmpE x e < 0) → i = posE e l
  | [], i, h, _, _ => by simp at h; subst h; rfl
  | x :: l, 0, _, _, h2 => by
    unfold posE
    rw [if_neg (h2 x rfl)]
  | x :: l, i + 1, h0, h1, h2 => by
    unfold posE
    rw [if_pos (h1 0 x (by omega) rfl)]
    have := posE_char (e := e) (l := l) (i := i) (by simpa using h0) (fun j y hj hy => h1 (j + 1) y (by omega) (by simpa using hy)) (fun y hy => h2 y (by simpa using hy))
    omega

theorem posE_before {e : Ent} : ∀ {l : List Ent} {j : Nat} {x : Ent}, j < posE e l → l[j]? = some x → cmpE x e < 0
  | [], _, _, h, _ => by simp [posE] at h
  | y :: l, j, x, h, hx => by
    rw [posE_cons] at h
    by_cases hy : cmpE y e < 0
    · rw [if_pos hy] at h
      rcases j with _ | j
      · simp at hx; subst hx; exact hy
      · exact posE_before (l := l) (j := j) (by omega) (by simpa using hx)
    · rw [if_neg hy] at h; omega

theorem posE_at {e : Ent} : ∀ {l : List Ent} {x : Ent}, l[posE e l]? = some x → ¬ cmpE x e < 0
  | [], _, h => by simp at h
  | y :: l, x, h => by
    unfold posE at h
    split at h
    · exact posE_at (l := l) (by simpa using h)
    · simp at h; subst h; assumption

theorem insE_eq (e : Ent) (l : List Ent) : insE e l = l.take (posE e l) ++ e :: l.drop (posE e l) := by
  induction l with
  | nil => rfl
  | cons x l ih =>
    unfold insE posE
    split
    · rw [ih]; rfl
    · rfl

theorem Rising.nil : Rising [] := List.Pairwise.nil

theorem Rising.get {l : List Ent} (h : Rising l) {i j : Nat} {x y : Ent} (hij : i < j) (hi : l[i]? = some x) (hj : l[j]? = some y) : cmpE x y < 0 := by
  obtain ⟨h1, rfl⟩ := List.getElem?_eq_some_iff.1 hi
  obtain ⟨h2, rfl⟩ := List.getElem?_eq_some_iff.1 hj
  exact List.pairwise_iff_getElem.1 h i j h1 h2 hij

/-- Behind where it would stand all are greater. -/
theorem posE_behind {e : Ent} {l : List Ent} (h : Rising l) (hn : e ∉ l) {j : Nat} {x : Ent} (hj : posE e l ≤ j) (hx : l[j]? = some x) : cmpE e x < 0 := by
  have hjl := (List.getElem?_eq_some_iff.1 hx).1
  obtain ⟨y, hy⟩ : ∃ y, l[posE e l]? = some y := ⟨_, List.getElem?_eq_getElem (by omega)⟩
  have h1 := posE_at hy
  have h2 : cmpE y e ≠ 0 := fun z => hn ((cmpE_zero _ _).1 z ▸ List.mem_of_getElem? hy)
  have h3 : cmpE e y < 0 := by rw [cmpE_swap y e]; omega
  rcases Nat.lt_or_ge (posE e l) j with z | z
  · exact cmpE_trans h3 (h.get z hy hx)
  · have : posE e l = j := by omega
    subst this
    rw [hy] at hx
    injection hx with hx
    subst hx
    exact h3

/-- It is there, or it isn't. -/
theorem posE_mem {e : Ent} {l : List Ent} (h : Rising l) : e ∈ l ↔ l[posE e l]? = some e := by
  constructor
  · intro hm
    obtain ⟨j, hj⟩ := List.mem_iff_getElem?.1 hm
    have hjl := (List.getElem?_eq_some_iff.1 hj).1
    have h1 : ¬ j < posE e l := fun z => by have := posE_before z hj; rw [cmpE_self] at this; omega
    rcases Nat.lt_or_ge (posE e l) j with z | z
    · obtain ⟨y, hy⟩ : ∃ y, l[posE e l]? = some y := ⟨_, List.getElem?_eq_getElem (by omega)⟩
      exact absurd (h.get z hy hj) (posE_at hy)
    · have : posE e l = j := by omega
      rw [this]; exact hj
  · exact List.mem_of_getElem?

theorem mem_insE {e x : Ent} {l : List Ent} : x ∈ insE e l ↔ x = e ∨ x ∈ l := by
  rw [insE_eq, List.mem_append, List.mem_cons]
  constructor
  · rintro (h | h | h)
    · exact Or.inr (List.mem_of_mem_take h)
    · exact Or.inl h
    · exact Or.inr (List.mem_of_mem_drop h)
  · rintro (h | h)
    · exact Or.inr (Or.inl h)
    · rw [← List.take_append_drop (posE e l) l, List.mem_append] at h
      rcases h with h | h
      · exact Or.inl h
      · exact Or.inr (Or.inr h)

theorem insE_length (e : Ent) (l : List Ent) : (insE e l).length = l.length + 1 := by
  have := posE_le e l
  rw [insE_eq]
  simp
  omega

theorem Rising.ins {e : Ent} {l : List Ent} (h : Rising l) (hn : e ∉ l) : Rising (insE e l) := by
  rw [insE_eq]
  unfold Rising
  rw [List.pairwise_append, List.pairwise_cons]
  have ht : ∀ a ∈ l.take (posE e l), cmpE a e < 0 := by
    intro a ha
    obtain ⟨i, hi⟩ := List.mem_iff_getElem?.1 ha
    rw [List.getElem?_take] at hi
    split at hi
    · exact posE_before (by assumption) hi
    · cases hi
  have hd : ∀ a ∈ l.drop (posE e l), cmpE e a < 0 := by
    intro a ha
    obtain ⟨i, hi⟩ := List.mem_iff_getElem?.1 ha
    rw [List.getElem?_drop] at hi
    exact posE_behind h hn (by omega) hi
  refine ⟨h.sublist (List.take_sublist _ _), ⟨hd, h.sublist (List.drop_sublist _ _)⟩, fun a ha b hb => ?_⟩
  rcases List.mem_cons.1 hb with rfl | hb
  · exact ht a ha
  · exact cmpE_trans (ht a ha) (hd b hb)

/-- In the midst of others. -/
theorem insE_mid {e : Ent} {A P B : List Ent} (hA : ∀ a ∈ A, cmpE a e < 0) (hB : ∀ b ∈ B, ¬ cmpE b e < 0) : insE e (A ++ P ++ B) = A ++ insE e P ++ B := by
  induction A with
  | nil =>
    simp only [List.nil_append]
    induction P with
    | nil =>
      rcases B with _ | ⟨b, B⟩
      · rfl
      · show insE e (b :: B) = e :: b :: B
        unfold insE
        rw [if_neg (hB b (by simp))]
    | cons p P ih =>
      show insE e (p :: (P ++ B)) = _
      rw [insE_cons, insE_cons]
      split
      · rw [ih]; rfl
      · rfl
  | cons a A ih =>
    show insE e (a :: (A ++ P ++ B)) = _
    rw [insE_cons, if_pos (hA a (by simp)), ih (fun x hx => hA x (by simp [hx]))]
    rfl

/-- Two rising lists of the same entries are one. -/
theorem rising_ext : ∀ {l m : List Ent}, Rising l → Rising m → (∀ e, e ∈ l ↔ e ∈ m) → l = m
  | [], [], _, _, _ => rfl
  | [], y :: m, _, _, h => absurd ((h y).2 (by simp)) (by simp)
  | x :: l, [], _, _, h => absurd ((h x).1 (by simp)) (by simp)
  | x :: l, y :: m, hl, hm, h => by
    obtain ⟨l1, l2⟩ := List.pairwise_cons.1 hl
    obtain ⟨m1, m2⟩ := List.pairwise_cons.1 hm
    have e : x = y := by
      rcases List.mem_cons.1 ((h x).1 (by simp)) with e | e
      · exact e
      · rcases List.mem_cons.1 ((h y).2 (by simp)) with e' | e'
        · exact e'.symm
        · have a := m1 x e
          have b := l1 y e'
          rw [cmpE_swap] at b
          omega
    subst e
    congr 1
    refine rising_ext l2 m2 (fun e => ?_)
    have nl : x ∉ l := fun z => by have := l1 x z; rw [cmpE_self] at this; omega
    have nm : x ∉ m := fun z => by have := m1 x z; rw [cmpE_self] at this; omega
    have := h e
    simp only [List.mem_cons] at this
    constructor
    · intro z
      rcases this.1 (Or.inr z) with e' | e'
      · subst e'; exact absurd z nl
      · exact e'
    · intro z
      rcases this.2 (Or.inr z) with e' | e'
      · subst e'; exact absurd z nm
      · exact e'

/-- What a scan tells of. -/
def within (lo hi : List Nat) (e : Ent) : Bool := decide (0 ≤ cmpB e.key lo) && (decide (hi = []) || decide (cmpB e.key hi < 0))

def scanE (lo hi : List Nat) (l : List Ent) : List Ent := l.filter (within lo hi)

end Go.Lap

namespace Go.Proofs.YtdeekopdhgjanaaGreatDoor
open Go.RowKit Go.Lap

theorem load_bytes (w : World) (b : Nat) : ∀ (l : List Nat), (∀ x ∈ l, x < 256) → ∀ (off : Nat) (acc : ByteArray), (∀ j u, (bytesV l)[j]? = some u → w.cell? ⟨b, off + j, none⟩ = some u) →
    (Extern.Bytes.loadBytes ⟨b, off, none⟩ l.length acc).run Tryz.prog w = .ok ⟨acc.data ++ (l.map UInt8.ofNat).toArray⟩ w
  | [], _, off, acc, _ => by simp [Extern.Bytes.loadBytes]
  | x :: l, hb, off, acc, h => by
    have h0 : w.cell? ⟨b, off, none⟩ = some (.int .u8 (x : Int)) := h 0 (.int .u8 x) rfl
    have hx := hb x (by simp)
    have ih := load_bytes w b l (fun y hy => hb y (by simp [hy])) (off + 1) (acc.push (UInt8.ofNat x)) (fun j u hu => by
      have := h (j + 1) u (by simpa [bytesV] using hu)
      rw [show off + 1 + j = off + (j + 1) by omega]
      exact this)
    have e : ((x : Int).toNat).toUInt8 = UInt8.ofNat x := by simp
    simp only [List.length_cons, Extern.Bytes.loadBytes, Sem.run_bind, run_load, h0, Result.andThen, add_none, e]
    rw [ih]
    congr 1
    apply ByteArray.ext
    simp [ByteArray.push]

theorem bytes_of (A : Option Addr) (cap : Nat) (l : List Nat) (S : Nat → Prop) (w : World) (hr : Rd w S 1 A l.length (bytesV l)) (hb : ∀ x ∈ l, x < 256) :
    (Extern.Bytes.bytesOf (.slice A l.length cap)).run Tryz.prog w = .ok ⟨(l.map UInt8.ofNat).toArray⟩ w := by
  rcases A with _ | ⟨b, off, sp⟩
  · have hl0 : l = [] := by
      rcases l with _ | ⟨x, l⟩
      · rfl
      · obtain ⟨b, off, e, _⟩ := hr.cells (by simp [bytesV]); cases e
    subst hl0
    rfl
  · rcases l with _ | ⟨x, l⟩
    · rfl
    · obtain ⟨b', off', e, _, hc⟩ := hr.cells (by simp [bytesV])
      injection e with e
      rw [e]
      have := load_bytes w b' (x :: l) hb off' .empty hc
      show (Extern.Bytes.loadBytes ⟨b', off', none⟩ (x :: l).length .empty).run Tryz.prog w = _
      rw [this]
      congr 1
      apply ByteArray.ext
      show (#[] : Array UInt8) ++ _ = _
      simp

theorem run_cmpB (A B : Option Addr) (ca cb : Nat) (l m : List Nat) (S S' : Nat → Prop) (w : World) (hr : Rd w S 1 A l.length (bytesV l)) (hr' : Rd w S' 1 B m.length (bytesV m)) (hb : ∀ x ∈ l, x < 256) (hb' : ∀ x ∈ m, x < 256) :
    (Extern.BytealgCompare.compare #[.slice A l.length ca, .slice B m.length cb]).run Tryz.prog w = .ok (.int .i64 (cmpB l m)) w := by
  change Sem.run Tryz.prog (do pure (goInt (Extern.BytealgCompare.cmp (← Extern.Bytes.bytesOf (.slice A l.length ca)) (← Extern.Bytes.bytesOf (.slice B m.length cb))))) w = _
  simp only [Sem.run_bind, Sem.run_pure, bytes_of A ca l S w hr hb, bytes_of B cb m S' w hr' hb', Result.andThen]
  rw [Lib.cmp_eq]
  simp only [List.toList_toArray]
  rw [cmpB_model l m hb hb']
  rfl

set_option maxRecDepth 100000 in
theorem compare_any (A B : Option Addr) (ca cb : Nat) (l m : List Nat) (S S' : Nat → Prop) (w : World) (hr : Rd w S 1 A l.length (bytesV l)) (hr' : Rd w S' 1 B m.length (bytesV m)) (hb : ∀ x ∈ l, x < 256) (hb' : ∀ x ∈ m, x < 256) :
    Calls Tryz.prog 133 #[.slice A l.length ca, .slice B m.length cb] w fun e w' => e = .returned (.int .i64 (cmpB l m)) ∧ w = w' := by
  have h := Lib.hid (run_cmpB A B ca cb l m S S' w hr hr' hb hb')
  clear hr hr' hb hb'
  go_enter Tryz.func133, Tryz.ntmps133
  go_wp2
  rw [run_callFunc_extern Tryz.func146 (by kernel_rfl) (by kernel_rfl) (by kernel_rfl) (e := Extern.BytealgCompare.compare) (by kernel_rfl), h.out]
  simp only [Result.andThen]
  rw [Oper.upon_value]
  go_wp2
  go_ret
  exact ⟨rfl, rfl⟩

set_option maxRecDepth 100000 in
theorem isNaN_any (x : Int) (w : World) : Calls Tryz.prog 147 #[.int .i64 x] w fun e w' => e = .returned (.bool false) ∧ w = w' := by
  go_enter Tryz.func147, Tryz.ntmps147
  go_wp2
  go_ret
  exact ⟨by simp, rfl⟩

set_option maxRecDepth 100000 in
theorem compareI_any (x y : Int) (w : World) : Calls Tryz.prog 134 #[.int .i64 x, .int .i64 y] w fun e w' => e = .returned (.int .i64 (cmpI x y)) ∧ w = w' := by
  have hR : cmpI x y = if x < y then -1 else if y < x then 1 else 0 := rfl
  by_cases h1 : x < y
  · rw [if_pos h1] at hR
    have HR := Lib.hid hR
    clear hR
    go_enter Tryz.func134, Tryz.ntmps134
    go_wp2_with fail
    refine (isNaN_any _ _).mono ?_
    rintro e w1 ⟨rfl, rfl⟩
    go_wp2_with fail
    refine (isNaN_any _ _).mono ?_
    rintro e w1 ⟨rfl, rfl⟩
    go_wp2
    go_ret
    rw [HR.out]
    exact ⟨rfl, rfl⟩
  · rw [if_neg h1] at hR
    by_cases h2 : y < x
    · rw [if_pos h2] at hR
      have HR := Lib.hid hR
      clear hR
      go_enter Tryz.func134, Tryz.ntmps134
      go_wp2_with fail
      refine (isNaN_any _ _).mono ?_
      rintro e w1 ⟨rfl, rfl⟩
      go_wp2_with fail
      refine (isNaN_any _ _).mono ?_
      rintro e w1 ⟨rfl, rfl⟩
      go_wp2
      go_ret
      rw [HR.out]
      exact ⟨rfl, rfl⟩
    · rw [if_neg h2] at hR
      have HR := Lib.hid hR
      clear hR
      have h3 : x = y := by omega
      subst h3
      go_enter Tryz.func134, Tryz.ntmps134
      go_wp2_with fail
      refine (isNaN_any _ _).mono ?_
      rintro e w1 ⟨rfl, rfl⟩
      go_wp2_with fail
      refine (isNaN_any _ _).mono ?_
      rintro e w1 ⟨rfl, rfl⟩
      go_wp2
      go_ret
      rw [HR.out]
      exact ⟨rfl, rfl⟩

def orV (x y z : Int) : Int := if x ≠ 0 then x else if y ≠ 0 then y else z

set_option maxHeartbeats 400000 in
set_option maxRecDepth 100000 in
theorem or_any (b : Nat) (x y z : Int) (t : TypeId) (w : World) (h : w.heap[b]? = some (.cells #[.int .i64 x, .int .i64 y, .int .i64 z] t (0, 0))) :
    Calls Tryz.prog 132 #[.slice (some ⟨b, 0, none⟩) 3 3] w fun e w' => e = .returned (.int .i64 (orV x y z)) ∧ w = w' := by
  obtain ⟨c0, c1, c2⟩ : w.cell? ⟨b, 0, none⟩ = some (.int .i64 x) ∧ w.cell? ⟨b, 1, none⟩ = some (.int .i64 y) ∧ w.cell? ⟨b, 2, none⟩ = some (.int .i64 z) := ⟨by rw [cell_of h]; rfl, by rw [cell_of h]; rfl, by rw [cell_of h]; rfl⟩
  have hR := Lib.hid (show orV x y z = if x ≠ 0 then x else if y ≠ 0 then y else z from rfl)
  clear h
  go_enter Tryz.func132, Tryz.ntmps132
  go_wp2_with fail
  go_loopw [8, 5] (fun c _ wr => wr = w ∧ ∃ k : Nat, k ≤ 3 ∧ c = .int .i64 (k : Int) ∧ (0 < k → x = 0) ∧ (1 < k → y = 0) ∧ (2 < k → z = 0)) (fun c _ _ => 3 - (intOf c).toNat)
  case atStart => exact ⟨rfl, 0, Nat.zero_le _, rfl, fun h => by omega, fun h => by omega, fun h => by omega⟩
  case round =>
    obtain ⟨rfl, k, hk, rfl, k0, k1, k2⟩ := hrel
    rcases (show k = 0 ∨ k = 1 ∨ k = 2 ∨ k = 3 by omega) with rfl | rfl | rfl | rfl
    · clear k0 k1 k2 hk
      by_cases e : x = 0
      · have d : (x != 0) = false := by simp [e]
        go_wp2
        go_roundw
        case rel => exact ⟨trivial, 1, by omega, by go_num, fun _ => e, fun h => by omega, fun h => by omega⟩
        case measure => simp [intOf]
      · have d : (x != 0) = true := by simp [e]
        go_wp2
        go_ret
        rw [hR.out, if_pos e]
        exact ⟨rfl, rfl⟩
    · have e0 := k0 (by omega)
      clear k0 k1 k2 hk
      have H0 := Lib.hid e0
      clear e0
      by_cases e : y = 0
      · have d : (y != 0) = false := by simp [e]
        have HE := Lib.hid e
        clear e
        go_wp2
        go_roundw
        case rel => exact ⟨trivial, 2, by omega, by go_num, fun _ => H0.out, fun _ => HE.out, fun h => by omega⟩
        case measure => simp [intOf]
      · have d : (y != 0) = true := by simp [e]
        go_wp2
        go_ret
        rw [hR.out, if_neg (by simp [H0.out]), if_pos e]
        exact ⟨rfl, rfl⟩
    · have e0 := k0 (by omega)
      have e1 := k1 (by omega)
      clear k0 k1 k2 hk
      have H0 := Lib.hid e0
      have H1 := Lib.hid e1
      clear e0 e1
      by_cases e : z = 0
      · have d : (z != 0) = false := by simp [e]
        have HE := Lib.hid e
        clear e
        go_wp2
        go_roundw
        case rel => exact ⟨trivial, 3, by omega, by go_num, fun _ => H0.out, fun _ => H1.out, fun _ => HE.out⟩
        case measure => simp [intOf]
      · have d : (z != 0) = true := by simp [e]
        go_wp2
        go_ret
        rw [hR.out, if_neg (by simp [H0.out]), if_neg (by simp [H1.out])]
        exact ⟨rfl, rfl⟩
    · have e0 := k0 (by omega)
      have e1 := k1 (by omega)
      have e2 := k2 (by omega)
      clear k0 k1 k2 hk c0 c1 c2
      have H0 := Lib.hid e0
      have H1 := Lib.hid e1
      have H2 := Lib.hid e2
      clear e0 e1 e2
      go_wp2
      go_ret
      rw [hR.out, if_neg (by simp [H0.out]), if_neg (by simp [H1.out]), H2.out]
      exact ⟨rfl, rfl⟩

/-- An entry's value. -/
abbrev entV (e : Ent) (A : Option Addr) (c : Nat) : Value := .agg #[.slice A e.key.length c, .int .i64 e.pg, .int .i64 e.sl]

theorem or_cmp (a b : Ent) : orV (cmpB a.key b.key) (cmpI a.pg b.pg) (cmpI a.sl b.sl) = cmpE a b := rfl

theorem three_new (w : World) (o o' o'' : Obj) : (((w.alloc o).alloc o').alloc o'').heap[w.heap.size + 1 + 1]? = some o'' := by
  have := two_new (w.alloc o) o' o''
  rw [World.size_alloc] at this
  exact this

/-- The three cells of an entry in a box. -/
theorem ent_cells {w : World} {b : Nat} {t : TypeId} {fr : Nat × Nat} {x y z : Value} (h : w.heap[b]? = some (.cells #[x, y, z] t fr)) : w.cell? ⟨b, 0, none⟩ = some x ∧ w.cell? ⟨b, 1, none⟩ = some y ∧ w.cell? ⟨b, 2, none⟩ = some z :=
  ⟨by rw [cell_of h]; rfl, by rw [cell_of h]; rfl, by rw [cell_of h]; rfl⟩

set_option maxHeartbeats 1000000 in
set_option maxRecDepth 100000 in
theorem order_any (a b : Ent) (A B : Option Addr) (ca cb : Nat) (S S' : Nat → Prop) (w : World) (hr : Rd w S 1 A a.key.length (bytesV a.key)) (hr' : Rd w S' 1 B b.key.length (bytesV b.key)) (hb : ∀ x ∈ a.key, x < 256) (hb' : ∀ x ∈ b.key, x < 256) :
    Calls Tryz.prog 108 #[entV a A ca, entV b B cb] w fun e w' => e = .returned (.int .i64 (cmpE a b)) ∧ Quiet w w' := by
  rw [← or_cmp]
  have hq0 : Quiet w ((w.alloc (.cells #[.slice A a.key.length ca, .int .i64 a.pg, .int .i64 a.sl] 131)).alloc (.cells #[.slice B b.key.length cb, .int .i64 b.pg, .int .i64 b.sl] 131)) := ((Only.refl _ _).alloc _).alloc _
  have HQ := Lib.hid hq0
  have HC := Lib.hid (fun (W : World) (hq : Quiet w W) => compare_any A B ca cb a.key b.key S S' W (hr.kept hq (fun _ _ x => x)) (hr'.kept hq (fun _ _ x => x)) hb hb')
  clear hr hr' hb hb' hq0
  go_enter Tryz.func108, Tryz.ntmps108
  go_wp2_with fail
  go_region_held3 (fun w' => w'.cell? ⟨w.heap.size, 0, none⟩ = some (.slice A a.key.length ca) ∧ w'.cell? ⟨w.heap.size, 1, none⟩ = some (.int .i64 a.pg) ∧ w'.cell? ⟨w.heap.size, 2, none⟩ = some (.int .i64 a.sl) ∧ w'.cell? ⟨w.heap.size + 1, 0, none⟩ = some (.slice B b.key.length cb) ∧ w'.cell? ⟨w.heap.size + 1, 1, none⟩ = some (.int .i64 b.pg) ∧ w'.cell? ⟨w.heap.size + 1, 2, none⟩ = some (.int .i64 b.sl))
    (first | go_keep | fail)
    (first
      | (go_at_call 133; go_must (refine (HC.out _ (HQ.out.drew)).mono ?_; rintro e w2 ⟨rfl, rfl⟩))
      | (go_at_call 134; go_must (refine (compareI_any _ _ _).mono ?_; rintro e w2 ⟨rfl, rfl⟩))
      | (go_at_call 132; go_must (refine (or_any (w.heap.size + 1 + 1) _ _ _ 3 _ (by exact three_new _ _ _ _)).mono ?_; rintro e w2 ⟨rfl, rfl⟩))
      | fail)
  go_wp2
  go_ret
  exact ⟨rfl, (HQ.out.alloc _).drew⟩

end Go.Proofs.YtdeekopdhgjanaaGreatDoor

namespace Go.Lap
open Go.RowKit

theorem run_copy_rowK {P : Program} (w : World) (dT sT ty elem : TypeId) (k g o dLen dCap : Nat) (a : Addr) (sLen sCap : Nat) (cur : Array Value) (t : TypeId) (cs : List Value)
    (hu : P.underlying dT = some (.slice elem)) (hs : (P.info? elem).map (·.size) = some k)
    (hg : w.heap[g]? = some (.cells cur t (0, 0))) (hn : cs.length = Nat.min sLen dLen * k)
    (hsrc : ∀ j v, cs[j]? = some v → w.cell? (a.add j) = some v) (hfit : o + cs.length ≤ cur.size) (h1 : ∀ v ∈ cs, v.oneCell' = true) :
    (Builtin.copy_ #[dT, sT] ty #[.slice (some ⟨g, o, none⟩) dLen dCap, .slice (some a) sLen sCap]).run P w =
      .ok (goInt (Nat.min sLen dLen)) (w.setRow g (cur.toList.take o ++ cs ++ cur.toList.drop (o + cs.length)).toArray) := by
  have hl := run_loadCells_list (P := P) w a cs hsrc
  have hst := run_storeCells_at P g o t cs 0 cur w hg (by simpa using hfit) h1
  cases hq : P.info? elem with
  | none => simp [hq] at hs
  | some i =>
    have hi : i.size = k := by simpa [hq] using hs
    simp [Builtin.copy_, run_underlying hu, Builtin.lenOf, Builtin.firstCells, sizeOf, typeInfo, hq, hi, ← hn, hl, hst]

theorem Only.setRow {S : Nat → Prop} {a w : World} (h : Only S a w) (g : Nat) (cs : Array Value) (hg : g < a.heap.size → S g) : Only S a (w.setRow g cs) :=
  h.trans' (T := (· = g)) ⟨rfl, rfl, rfl, by simp [World.setRow], fun k _ hn => setRow_other w g k cs hn⟩ (fun k hk e => by subst e; exact hg hk)

theorem Grew.refl' {w : World} {e : TypeId} {size n : Nat} {v : Value} {xs : List Value} (h : w.ownsRow 0 e size v n xs) : Grew w w e size v v n xs := ⟨h, Only.refl _ _, Or.inl rfl⟩

/-- An entry, and where its key lies. -/
structure EV where
  e : Ent
  A : Option Addr
  c : Nat

def EV.cells (x : EV) : List Value := [.slice x.A x.e.key.length x.c, .int .i64 x.e.pg, .int .i64 x.e.sl]

/-- The cells of a row of entries. -/
def rowV (xs : List EV) : List Value := xs.flatMap EV.cells

theorem rowV_cons (x : EV) (xs : List EV) : rowV (x :: xs) = .slice x.A x.e.key.length x.c :: .int .i64 x.e.pg :: .int .i64 x.e.sl :: rowV xs := rfl
theorem rowV_append (xs ys : List EV) : rowV (xs ++ ys) = rowV xs ++ rowV ys := by simp [rowV]
theorem rowV_one (x : EV) : rowV [x] = x.cells := by simp [rowV]
theorem rowV_length (xs : List EV) : (rowV xs).length = xs.length * 3 := by
  induction xs with
  | nil => rfl
  | cons x xs ih => rw [rowV_cons]; simp only [List.length_cons, ih]; omega

theorem rowV_get {xs : List EV} {j : Nat} {x : EV} (h : xs[j]? = some x) : (rowV xs)[j * 3]? = some (.slice x.A x.e.key.length x.c) ∧ (rowV xs)[j * 3 + 1]? = some (.int .i64 x.e.pg) ∧ (rowV xs)[j * 3 + 2]? = some (.int .i64 x.e.sl) := by
  induction xs generalizing j with
  | nil => simp at h
  | cons y xs ih =>
    rcases j with _ | j
    · simp at h
      subst h
      exact ⟨rfl, rfl, rfl⟩
    · rw [List.getElem?_cons_succ] at h
      rw [rowV_cons, show (j + 1) * 3 = j * 3 + 1 + 1 + 1 by omega]
      exact ih h

theorem rowV_take (xs : List EV) (k : Nat) : rowV (xs.take k) = (rowV xs).take (k * 3) := by
  induction xs generalizing k with
  | nil => simp [rowV]
  | cons x xs ih =>
    rcases k with _ | k
    · rfl
    · rw [List.take_succ_cons, rowV_cons, rowV_cons, ih, show (k + 1) * 3 = k * 3 + 1 + 1 + 1 by omega]; rfl

theorem rowV_drop (xs : List EV) (k : Nat) : rowV (xs.drop k) = (rowV xs).drop (k * 3) := by
  induction xs generalizing k with
  | nil => simp [rowV]
  | cons x xs ih =>
    rcases k with _ | k
    · rfl
    · rw [List.drop_succ_cons, rowV_cons, ih, show (k + 1) * 3 = k * 3 + 1 + 1 + 1 by omega]; rfl

theorem rowV_set (xs : List EV) (j : Nat) (x : EV) : (((rowV xs).set (j * 3) (.slice x.A x.e.key.length x.c)).set (j * 3 + 1) (.int .i64 x.e.pg)).set (j * 3 + 2) (.int .i64 x.e.sl) = rowV (xs.set j x) := by
  induction xs generalizing j with
  | nil => rfl
  | cons y xs ih =>
    rcases j with _ | j
    · rfl
    · rw [rowV_cons, show (j + 1) * 3 = j * 3 + 1 + 1 + 1 by omega]
      simp only [show j * 3 + 1 + 1 + 1 + 1 = (j * 3 + 1) + 1 + 1 + 1 by omega, show j * 3 + 1 + 1 + 1 + 2 = (j * 3 + 2) + 1 + 1 + 1 by omega, List.set_cons_succ]
      rw [ih, rowV_cons]

theorem one_row (xs : List EV) : ∀ u ∈ rowV xs, u.oneCell' = true := by
  intro u hu
  unfold rowV at hu
  rw [List.mem_flatMap] at hu
  obtain ⟨x, _, hx⟩ := hu
  simp [EV.cells] at hx
  rcases hx with rfl | rfl | rfl <;> rfl

/-- A part of a slice that reads. -/
theorem Rd.drop {w : World} {S : Nat → Prop} {size n b off k : Nat} {xs : List Value} (h : Rd w S size (some ⟨b, off, none⟩) n xs) (hk : k ≤ n) : Rd w S size (some ⟨b, off + k * size, none⟩) (n - k) (xs.drop (k * size)) := by
  have hl := h.len
  refine ⟨by rw [List.length_drop, hl, Nat.sub_mul], fun h0 => ?_⟩
  rw [List.length_drop] at h0
  obtain ⟨b', off', e, hb, hc⟩ := h.cells (by omega)
  injection e with e
  injection e with e1 e2 _
  subst e1 e2
  exact ⟨b, off + k * size, rfl, hb, fun j u hu => by
    rw [List.getElem?_drop] at hu
    rw [Nat.add_assoc]
    exact hc _ u hu⟩

theorem Rd.takeK {w : World} {S : Nat → Prop} {size n k : Nat} {A : Option Addr} {xs : List Value} (h : Rd w S size A n xs) (hk : k ≤ n) : Rd w S size A k (xs.take (k * size)) := by
  have hl := h.len
  have hm : k * size ≤ n * size := Nat.mul_le_mul_right _ hk
  refine ⟨by rw [List.length_take, hl]; omega, fun h0 => ?_⟩
  rw [List.length_take] at h0
  obtain ⟨b, off, e, hb, hc⟩ := h.cells (by omega)
  exact ⟨b, off, e, hb, fun j u hu => hc j u (by rw [List.getElem?_take] at hu; split at hu <;> first | exact hu | cases hu)⟩

end Go.Lap
namespace Go.Proofs.YtdeekopdhgjanaaGreatDoor
open Go.RowKit Go.Lap

theorem elem_ent : Elem Tryz.prog 180 131 3 40 := Elem.mk' (.agg #[.slice none 0 0, .int .i64 0, .int .i64 0]) Tryz.underlying180 (by kernel_rfl) rfl (by decide)
theorem elem_node : Elem Tryz.prog 181 173 1 8 := Elem.mk' (.pointer none) Tryz.underlying181 (by kernel_rfl) rfl (by decide)

/-- A row of entries. -/
abbrev RowAt (w : World) (v : Value) (xs : List EV) : Prop := w.ownsRow 0 131 3 v xs.length (rowV xs)

/-- A new row. -/
structure NewRow (w w' : World) (e : TypeId) (size : Nat) (v : Value) (n : Nat) (xs : List Value) : Prop where
  quiet : Quiet w w'
  own : w'.ownsRow 0 e size v n xs
  loc : ∃ k, v.ownBlock = some k ∧ w.heap.size ≤ k

def NewRowPost (w : World) (e : TypeId) (size n : Nat) (xs : List Value) (en : Ending) (w' : World) : Prop := ∃ v, en = .returned v ∧ NewRow w w' e size v n xs

theorem newRow_app {w w1 : World} {e : TypeId} {size n : Nat} {v : Value} {xs : List Value} (hg : Grew (w.alloc (.cells #[] e)) w1 e size (.slice (some ⟨w.heap.size, 0, none⟩) 0 0) v n xs) : NewRow w w1 e size v n xs := by
  refine ⟨((Only.refl _ _).alloc _).trans' hg.only (fun k hk e => by simp [Value.ownBlock] at e; omega), hg.own, ?_⟩
  rcases hg.loc with x | x
  · exact ⟨w.heap.size, by rw [x]; rfl, Nat.le_refl _⟩
  · exact ⟨_, x, by simp⟩

set_option maxHeartbeats 400000 in
set_option maxRecDepth 100000 in
theorem clone_ent (ad : Addr) (n cap : Nat) (xs : List Value) (S : Nat → Prop) (w : World) (hr : Rd w S 3 (some ad) n xs) (h1 : ∀ u ∈ xs, u.oneCell' = true) (hl : n ≤ 100000) :
    Calls Tryz.prog 113 #[.slice (some ad) n cap] w (NewRowPost w 131 3 n xs) := by
  have heq := fun (w : World) (a : Option Addr) (n c : Nat) => Lib.run_eql_slice_nil (P := Tryz.prog) w 180 _ a n c 0 0 Tryz.underlying180
  have HR := Lib.hid hr
  have H1 := Lib.hid h1
  clear hr h1
  go_enter Tryz.func113, Tryz.ntmps113
  go_wp2_with (at_builtin; refine app elem_ent rfl (.tmp 5) (.tmp 6) rfl rfl (owns_empty w _ _) rfl (HR.out.kept ((Only.refl (fun _ => False) w).alloc _) (fun _ _ x => x)) H1.out (by unfold maxLen; omega) (by omega) ?_)
  intro v w1 hg
  have HF := Lib.hid (newRow_app hg)
  clear hg
  go_wp2
  go_ret
  exact ⟨v, rfl, HF.out⟩

set_option maxHeartbeats 400000 in
set_option maxRecDepth 100000 in
theorem clone_node (ad : Addr) (n cap : Nat) (xs : List Value) (S : Nat → Prop) (w : World) (hr : Rd w S 1 (some ad) n xs) (h1 : ∀ u ∈ xs, u.oneCell' = true) (hl : n ≤ 100000) :
    Calls Tryz.prog 114 #[.slice (some ad) n cap] w (NewRowPost w 173 1 n xs) := by
  have heq := fun (w : World) (a : Option Addr) (n c : Nat) => Lib.run_eql_slice_nil (P := Tryz.prog) w 181 _ a n c 0 0 Tryz.underlying181
  have HR := Lib.hid hr
  have H1 := Lib.hid h1
  clear hr h1
  go_enter Tryz.func114, Tryz.ntmps114
  go_wp2_with (at_builtin; refine app elem_node rfl (.tmp 5) (.tmp 6) rfl rfl (owns_empty w _ _) rfl (HR.out.kept ((Only.refl (fun _ => False) w).alloc _) (fun _ _ x => x)) H1.out (by unfold maxLen; omega) (by omega) ?_)
  intro v w1 hg
  have HF := Lib.hid (newRow_app hg)
  clear hg
  go_wp2
  go_ret
  exact ⟨v, rfl, HF.out⟩

end Go.Proofs.YtdeekopdhgjanaaGreatDoor

namespace Go.Proofs.YtdeekopdhgjanaaGreatDoor
open Go.RowKit Go.Lap

/-- A key that reads. -/
structure Keyd (w : World) (K : Nat → Prop) (x : EV) : Prop where
  rd : Rd w K 1 x.A x.e.key.length (bytesV x.e.key)
  by_ : ∀ b ∈ x.e.key, b < 256
  len : x.e.key.length ≤ 1000

theorem Keyd.kept {w w' : World} {K S : Nat → Prop} {x : EV} (h : Keyd w K x) (ho : Only S w w') (hn : ∀ k, K k → ¬ S k) : Keyd w' K x := ⟨h.rd.kept ho hn, h.by_, h.len⟩
theorem Keyd.quietly {w w' : World} {K : Nat → Prop} {x : EV} (h : Keyd w K x) (ho : Quiet w w') : Keyd w' K x := h.kept ho (fun _ _ x => x)
theorem Keyd.mono {w : World} {K K' : Nat → Prop} {x : EV} (h : Keyd w K x) (hn : ∀ k, K k → K' k) : Keyd w K' x := ⟨h.rd.mono hn, h.by_, h.len⟩

theorem order_ev {w : World} {K K' : Nat → Prop} {x y : EV} (hx : Keyd w K x) (hy : Keyd w K' y) :
    Calls Tryz.prog 108 #[entV x.e x.A x.c, entV y.e y.A y.c] w fun e w' => e = .returned (.int .i64 (cmpE x.e y.e)) ∧ Quiet w w' :=
  order_any x.e y.e x.A y.A x.c y.c K K' w hx.rd hy.rd hx.by_ hy.by_

/-- The cells of the j-th entry of a row that reads. -/
theorem row_cells {w : World} {S : Nat → Prop} {A : Option Addr} {xs : List EV} {j : Nat} {x : EV} (h : Rd w S 3 A xs.length (rowV xs)) (hj : xs[j]? = some x) :
    ∃ b off, A = some ⟨b, off, none⟩ ∧ w.cell? ⟨b, off + j * 3, none⟩ = some (.slice x.A x.e.key.length x.c) ∧ w.cell? ⟨b, off + j * 3 + 1, none⟩ = some (.int .i64 x.e.pg) ∧ w.cell? ⟨b, off + j * 3 + 2, none⟩ = some (.int .i64 x.e.sl) := by
  have hl := (List.getElem?_eq_some_iff.1 hj).1
  obtain ⟨b, off, e, _, hc⟩ := h.cells (by rw [rowV_length]; omega)
  obtain ⟨h1, h2, h3⟩ := rowV_get hj
  exact ⟨b, off, e, hc _ _ h1, by rw [Nat.add_assoc]; exact hc _ _ h2, by rw [Nat.add_assoc]; exact hc _ _ h3⟩

theorem bs_split {es : List Ent} {t : Ent} (hs : Rising es) {h k : Nat} {x : Ent} (hx : es[h]? = some x) (hlt : cmpE x t < 0) (hk : k ≤ h) {y : Ent} (hy : es[k]? = some y) : cmpE y t < 0 := by
  rcases Nat.lt_or_ge k h with z | z
  · exact cmpE_trans (hs.get z hy hx) hlt
  · have : k = h := by omega
    subst this
    rw [hx] at hy
    injection hy with hy
    subst hy
    exact hlt

theorem bs_right {es : List Ent} {t : Ent} (hs : Rising es) {h k : Nat} {x : Ent} (hx : es[h]? = some x) (hlt : ¬ cmpE x t < 0) (hk : h ≤ k) {y : Ent} (hy : es[k]? = some y) : ¬ cmpE y t < 0 := by
  rcases Nat.lt_or_ge h k with z | z
  · intro hy2
    exact hlt (cmpE_trans (hs.get z hx hy) hy2)
  · have : k = h := by omega
    subst this
    rw [hx] at hy
    injection hy with hy
    subst hy
    exact hlt

set_option maxHeartbeats 1000000 in
set_option maxRecDepth 100000 in
theorem search_any (xs : List EV) (t : EV) (A : Option Addr) (cap : Nat) (S K K' : Nat → Prop) (w : World) (hr : Rd w S 3 A xs.length (rowV xs)) (hk : ∀ x ∈ xs, Keyd w K x) (ht : Keyd w K' t) (hs : Rising (xs.map (·.e))) (hl : xs.length ≤ 100000) :
    Calls Tryz.prog 107 #[.slice A xs.length cap, entV t.e t.A t.c, .func (.func 108) #[] #[]] w fun e w' => e = .returned (.tuple #[.int .i64 (posE t.e (xs.map (·.e)) : Int), .bool (decide (t.e ∈ xs.map (·.e)))]) ∧ Quiet w w' := by
  obtain ⟨n, hn⟩ : ∃ n, xs.length = n := ⟨_, rfl⟩
  have HN := Lib.hid hn
  have HR := Lib.hid hr
  have HK := Lib.hid hk
  have HT := Lib.hid ht
  have HS := Lib.hid hs
  rw [hn] at hl ⊢
  obtain ⟨es, hes⟩ : ∃ es, xs.map (·.e) = es := ⟨_, rfl⟩
  have HES := Lib.hid hes
  rw [hes] at HS ⊢
  have hel : es.length = n := by rw [← hes, List.length_map, hn]
  clear hr hk ht hs hn hes
  go_enter Tryz.func107, Tryz.ntmps107
  go_wp2_with fail
  go_loopw [9, 10, 11] (fun ci cj _ wr => ∃ (i j : Nat), i ≤ j ∧ j ≤ n ∧ ci = .int .i64 (i : Int) ∧ cj = .int .i64 (j : Int) ∧ Quiet w wr ∧ wr.heap[w.heap.size]? = some (.cells #[.slice t.A t.e.key.length t.c, .int .i64 t.e.pg, .int .i64 t.e.sl] 131 (0, 0)) ∧ (∀ k y, k < i → es[k]? = some y → cmpE y t.e < 0) ∧ (∀ k y, j ≤ k → es[k]? = some y → 0 ≤ cmpE y t.e)) (fun ci cj _ _ => (intOf cj).toNat - (intOf ci).toNat)
  case atStart => exact ⟨0, n, Nat.zero_le _, Nat.le_refl _, rfl, rfl, (Only.refl _ _).alloc _, alloc_new _ _, fun k y hk => by omega, fun k y hk hy => by have := (List.getElem?_eq_some_iff.1 hy).1; omega⟩
  case round =>
    obtain ⟨i, j, hij, hjn, rfl, rfl, hq, hb, hlo, hhi⟩ := hrel
    have HQ := Lib.hid hq
    have HB := Lib.hid hb
    have HLO := Lib.hid hlo
    have HHI := Lib.hid hhi
    clear hq hb hlo hhi
    by_cases hlt : i < j
    · obtain ⟨h, hh⟩ : ∃ h : Nat, (i + j) / 2 = h := ⟨_, rfl⟩
      have HH := Lib.hid hh
      have hih : i ≤ h ∧ h < j := by omega
      clear hh
      go_wp2_with fail
      rw [show ((i : Int) + (j : Int)) / 2 = (h : Int) by have := HH.out; omega]
      clear HH
      obtain ⟨x, hx⟩ : ∃ x, xs[h]? = some x := ⟨_, List.getElem?_eq_getElem (by have := HN.out; omega)⟩
      have hxe : es[h]? = some x.e := by rw [← HES.out, List.getElem?_map, hx]; rfl
      obtain ⟨b, off, rfl, r0, r1, r2⟩ := row_cells (HR.out.kept HQ.out (fun _ _ x => x)) hx
      have HORD := Lib.hid (order_ev ((HK.out x (List.mem_of_getElem? hx)).quietly HQ.out.drew) (HT.out.quietly HQ.out.drew))
      obtain ⟨t0, t1, t2⟩ := ent_cells HB.out
      have HX := Lib.hid hxe
      have d0 : (0 : Int) ≤ (h : Int) := by omega
      have d1 : (h : Int) < (n : Int) := by omega
      clear hx hxe
      by_cases hc : cmpE x.e t.e < 0
      · have HC := Lib.hid hc
        have hcd : decide (cmpE x.e t.e < 0) = true := decide_eq_true hc
        go_region_held3 (fun w' => w'.cell? ⟨b, off + h * 3, none⟩ = some (.slice x.A x.e.key.length x.c) ∧ w'.cell? ⟨b, off + h * 3 + 1, none⟩ = some (.int .i64 x.e.pg) ∧ w'.cell? ⟨b, off + h * 3 + 2, none⟩ = some (.int .i64 x.e.sl) ∧ w'.cell? ⟨w.heap.size, 0, none⟩ = some (.slice t.A t.e.key.length t.c) ∧ w'.cell? ⟨w.heap.size, 1, none⟩ = some (.int .i64 t.e.pg) ∧ w'.cell? ⟨w.heap.size, 2, none⟩ = some (.int .i64 t.e.sl))
          (first | go_keep | fail)
          (first
            | (go_at_call 108; go_must (refine HORD.out.mono ?_; rintro e w2 ⟨rfl, hq2⟩; have k0 := hq2.cell r0 (fun x => x); have k1 := hq2.cell r1 (fun x => x); have k2 := hq2.cell r2 (fun x => x); have k3 := hq2.cell t0 (fun x => x); have k4 := hq2.cell t1 (fun x => x); have k5 := hq2.cell t2 (fun x => x)))
            | fail)
        have HQ2 := Lib.hid (HQ.out.drew.trans hq2)
        have HB2 := Lib.hid (hq2.get HB.out (fun x => x))
        clear hq2 k0 k1 k2 k3 k4 k5 r0 r1 r2 t0 t1 t2 HORD HB HQ
        go_wp2
        go_roundw
        case rel => exact ⟨h + 1, j, by omega, by omega, by go_num, rfl, HQ2.out, HB2.out, fun k y hk hy => bs_split HS.out HX.out HC.out (by omega) hy, HHI.out⟩
        case measure => simp [intOf]; omega
      · have HC := Lib.hid hc
        have hcd : decide (cmpE x.e t.e < 0) = false := decide_eq_false hc
        go_region_held3 (fun w' => w'.cell? ⟨b, off + h * 3, none⟩ = some (.slice x.A x.e.key.length x.c) ∧ w'.cell? ⟨b, off + h * 3 + 1, none⟩ = some (.int .i64 x.e.pg) ∧ w'.cell? ⟨b, off + h * 3 + 2, none⟩ = some (.int .i64 x.e.sl) ∧ w'.cell? ⟨w.heap.size, 0, none⟩ = some (.slice t.A t.e.key.length t.c) ∧ w'.cell? ⟨w.heap.size, 1, none⟩ = some (.int .i64 t.e.pg) ∧ w'.cell? ⟨w.heap.size, 2, none⟩ = some (.int .i64 t.e.sl))
          (first | go_keep | fail)
          (first
            | (go_at_call 108; go_must (refine HORD.out.mono ?_; rintro e w2 ⟨rfl, hq2⟩; have k0 := hq2.cell r0 (fun x => x); have k1 := hq2.cell r1 (fun x => x); have k2 := hq2.cell r2 (fun x => x); have k3 := hq2.cell t0 (fun x => x); have k4 := hq2.cell t1 (fun x => x); have k5 := hq2.cell t2 (fun x => x)))
            | fail)
        have HQ2 := Lib.hid (HQ.out.drew.trans hq2)
        have HB2 := Lib.hid (hq2.get HB.out (fun x => x))
        clear hq2 k0 k1 k2 k3 k4 k5 r0 r1 r2 t0 t1 t2 HORD HB HQ
        go_wp2
        go_roundw
        case rel => exact ⟨i, h, by omega, by omega, rfl, rfl, HQ2.out, HB2.out, HLO.out, fun k y hk hy => by have := bs_right HS.out HX.out (show ¬ cmpE x.e t.e < 0 by have := HC.out; omega) hk hy; omega⟩
        case measure => simp [intOf]; omega
    · obtain rfl : i = j := by omega
      have hpos : i = posE t.e es := posE_char (by omega) HLO.out (fun y hy => by have := HHI.out i y (Nat.le_refl _) hy; omega)
      by_cases hin : i < n
      · obtain ⟨x, hx⟩ : ∃ x, xs[i]? = some x := ⟨_, List.getElem?_eq_getElem (by have := HN.out; omega)⟩
        have hxe : es[i]? = some x.e := by rw [← HES.out, List.getElem?_map, hx]; rfl
        obtain ⟨b, off, rfl, r0, r1, r2⟩ := row_cells (HR.out.kept HQ.out (fun _ _ x => x)) hx
        have HORD := Lib.hid (order_ev ((HK.out x (List.mem_of_getElem? hx)).quietly HQ.out.drew) (HT.out.quietly HQ.out.drew))
        obtain ⟨t0, t1, t2⟩ := ent_cells HB.out
        have HRES : Hid (decide (t.e ∈ es) = (cmpE x.e t.e == 0)) := by
          have h1 := posE_mem HS.out (e := t.e)
          rw [← hpos, hxe] at h1
          have h2 := cmpE_zero x.e t.e
          by_cases e : x.e = t.e
          · rw [decide_eq_true (h1.2 (by rw [e])), h2.2 e]; rfl
          · rw [decide_eq_false (fun z => e (by injection h1.1 z))]
            exact (beq_false_of_ne (fun z => e (h2.1 z))).symm
        have HPOS := Lib.hid hpos
        have d0 : (0 : Int) ≤ (i : Int) := by omega
        have d1 : (i : Int) < (n : Int) := by omega
        clear hx hxe hpos
        go_wp2_with fail
        go_region_held3 (fun w' => w'.cell? ⟨b, off + i * 3, none⟩ = some (.slice x.A x.e.key.length x.c) ∧ w'.cell? ⟨b, off + i * 3 + 1, none⟩ = some (.int .i64 x.e.pg) ∧ w'.cell? ⟨b, off + i * 3 + 2, none⟩ = some (.int .i64 x.e.sl) ∧ w'.cell? ⟨w.heap.size, 0, none⟩ = some (.slice t.A t.e.key.length t.c) ∧ w'.cell? ⟨w.heap.size, 1, none⟩ = some (.int .i64 t.e.pg) ∧ w'.cell? ⟨w.heap.size, 2, none⟩ = some (.int .i64 t.e.sl))
          (first | go_keep | fail)
          (first
            | (go_at_call 108; go_must (refine HORD.out.mono ?_; rintro e w2 ⟨rfl, hq2⟩; have k0 := hq2.cell r0 (fun x => x); have k1 := hq2.cell r1 (fun x => x); have k2 := hq2.cell r2 (fun x => x); have k3 := hq2.cell t0 (fun x => x); have k4 := hq2.cell t1 (fun x => x); have k5 := hq2.cell t2 (fun x => x)))
            | fail)
        have HQ2 := Lib.hid (HQ.out.drew.trans hq2)
        have HB2 := Lib.hid (hq2.get HB.out (fun x => x))
        clear hq2 k0 k1 k2 k3 k4 k5 r0 r1 r2 t0 t1 t2 HORD HB HQ
        go_wp2
        go_ret2
        rw [HRES.out, ← HPOS.out]
        exact ⟨rfl, HQ2.out⟩
      · obtain rfl : i = n := by omega
        have HRES : Hid (decide (t.e ∈ es) = false) := decide_eq_false (fun z => by
          have := (posE_mem HS.out).1 z
          rw [← hpos] at this
          have := (List.getElem?_eq_some_iff.1 this).1
          omega)
        have HPOS := Lib.hid hpos
        clear hpos
        go_wp2_with fail
        go_quiet (fail)
        go_wp2
        go_ret2
        rw [HRES.out, ← HPOS.out]
        exact ⟨rfl, HQ.out.drewN _⟩

end Go.Proofs.YtdeekopdhgjanaaGreatDoor

namespace Go.Lap
open Go.RowKit

section
variable {P : Program} {w : World} {ops : Array Oper} {rest : List Oper} {o : Oper} {a : Act} {K : Act → World → Prop} {Q : Exit → Act → World → Prop}

/-- What a copy leaves in the block that is written. -/
def laid (cur : Array Value) (at_ : Nat) (cs : List Value) : Array Value := (cur.toList.take at_ ++ cs ++ cur.toList.drop (at_ + cs.length)).toArray

theorem laid_size {cur : Array Value} {at_ : Nat} {cs : List Value} (h : at_ + cs.length ≤ cur.size) : (laid cur at_ cs).size = cur.size := by
  unfold laid
  simp
  omega

theorem laid_list (cur : Array Value) (at_ : Nat) (cs : List Value) : (laid cur at_ cs).toList = cur.toList.take at_ ++ cs ++ cur.toList.drop (at_ + cs.length) := by simp [laid]

theorem wp_copyK (d s : Operand) (dT sT elem : TypeId) (ho : o.op = .call { callee := .builtin .copy, args := #[d, s], argTypes := #[dT, sT] }) {k g at_ dLen dCap sLen sCap : Nat} {src : Addr} {cur : Array Value} {t : TypeId} {cs : List Value}
    (hd : a.eval d = .slice (some ⟨g, at_, none⟩) dLen dCap) (hs : a.eval s = .slice (some src) sLen sCap) (hu : P.underlying dT = some (.slice elem)) (hk : (P.info? elem).map (·.size) = some k)
    (hg : w.heap[g]? = some (.cells cur t (0, 0))) (hn : cs.length = Nat.min sLen dLen * k) (hsrc : ∀ j v, cs[j]? = some v → w.cell? (src.add j) = some v) (hfit : at_ + cs.length ≤ cur.size) (h1 : ∀ v ∈ cs, v.oneCell' = true)
    (h : ∀ w', w'.heap[g]? = some (.cells (laid cur at_ cs) t (0, 0)) → Only (· = g) w w' → K (a.put o.dst (goInt (Nat.min sLen dLen))) w') : o.wp P a w K Q := by
  have hrun := run_copy_rowK (P := P) w dT sT o.type elem k g at_ dLen dCap src sLen sCap cur t cs hu hk hg hn hsrc hfit h1
  unfold Oper.wp execOp
  simp only [ho, resolve, invoke, builtin, Sem.run_bind, Sem.run_pure, Result.andThen_ok, List.map_toArray, List.map_cons, List.map_nil, hd, hs, hrun]
  exact h _ (setRow_heap w g cur _ t (0, 0) hg) ((Only.refl _ _).setRow g _ (fun _ => rfl))

theorem run_copy_ex (w : World) (dT sT elem : TypeId) {k g at_ dLen dCap sLen sCap : Nat} {src : Addr} {cur : Array Value} {t : TypeId} {cs : List Value} {m : Nat}
    (hu : P.underlying dT = some (.slice elem)) (hk : (P.info? elem).map (·.size) = some k) (hm : Nat.min sLen dLen = m)
    (hg : w.heap[g]? = some (.cells cur t (0, 0))) (hn : cs.length = m * k) (hsrc : ∀ j v, cs[j]? = some v → w.cell? (src.add j) = some v) (hfit : at_ + cs.length ≤ cur.size) (h1 : ∀ v ∈ cs, v.oneCell' = true) :
    ∃ w', (∀ ty, (Builtin.copy_ #[dT, sT] ty #[.slice (some ⟨g, at_, none⟩) dLen dCap, .slice (some src) sLen sCap]).run P w = .ok (.int .i64 (m : Int)) w') ∧ w'.heap[g]? = some (.cells (laid cur at_ cs) t (0, 0)) ∧ Only (· = g) w w' := by
  subst hm
  exact ⟨_, fun ty => run_copy_rowK (P := P) w dT sT ty elem k g at_ dLen dCap src sLen sCap cur t cs hu hk hg hn hsrc hfit h1, setRow_heap w g cur _ t (0, 0) hg, (Only.refl _ _).setRow g _ (fun _ => rfl)⟩

theorem copyK (hgd : o.guard = none) (d s : Operand) (dT sT elem : TypeId) (ho : o.op = .call { callee := .builtin .copy, args := #[d, s], argTypes := #[dT, sT] }) {k g at_ dLen dCap sLen sCap : Nat} {src : Addr} {cur : Array Value} {t : TypeId} {cs : List Value}
    (hd : a.eval d = .slice (some ⟨g, at_, none⟩) dLen dCap) (hs : a.eval s = .slice (some src) sLen sCap) (hu : P.underlying dT = some (.slice elem)) (hk : (P.info? elem).map (·.size) = some k)
    (hg : w.heap[g]? = some (.cells cur t (0, 0))) (hn : cs.length = Nat.min sLen dLen * k) (hsrc : ∀ j v, cs[j]? = some v → w.cell? (src.add j) = some v) (hfit : at_ + cs.length ≤ cur.size) (h1 : ∀ v ∈ cs, v.oneCell' = true)
    (h : ∀ w', w'.heap[g]? = some (.cells (laid cur at_ cs) t (0, 0)) → Only (· = g) w w' → wpList P ops Q rest (a.put o.dst (goInt (Nat.min sLen dLen))) w') : wpList P ops Q (o :: rest) a w :=
  wpList_plain hgd fun _ hK => wp_copyK d s dT sT elem ho hd hs hu hk hg hn hsrc hfit h1 fun w' h2 h3 => hK _ _ (h w' h2 h3)

theorem copyK_step {F : Prop} (hgd : o.guard = none) (d s : Operand) (dT sT elem : TypeId) (ho : o.op = .call { callee := .builtin .copy, args := #[d, s], argTypes := #[dT, sT] }) {k g at_ dLen dCap sLen sCap : Nat} {src : Addr} {cur : Array Value} {t : TypeId} {cs : List Value}
    (hd : a.eval d = .slice (some ⟨g, at_, none⟩) dLen dCap) (hs : a.eval s = .slice (some src) sLen sCap) (hu : P.underlying dT = some (.slice elem)) (hk : (P.info? elem).map (·.size) = some k)
    (hg : w.heap[g]? = some (.cells cur t (0, 0))) (hn : cs.length = Nat.min sLen dLen * k) (hsrc : ∀ j v, cs[j]? = some v → w.cell? (src.add j) = some v) (hfit : at_ + cs.length ≤ cur.size) (h1 : ∀ v ∈ cs, v.oneCell' = true)
    (h : ∀ w', w'.heap[g]? = some (.cells (laid cur at_ cs) t (0, 0)) → Only (· = g) w w' → K (a.put o.dst (goInt (Nat.min sLen dLen))) w') :
    if Region.wanted o (yielded ops a.tmps) = true then Oper.wp P o a w K Q else F := by
  have hw : Region.wanted o (yielded ops a.tmps) = true := by simp [Region.wanted, hgd]
  rw [if_pos hw]
  exact wp_copyK d s dT sT elem ho hd hs hu hk hg hn hsrc hfit h1 h

/-- 'append(s[:i], make(S, m)...)' where there is no room: a new row. -/
theorem zerosK {t tn e : TypeId} {size bytes : Nat} (E : Elem P t e size bytes) (htn : P.underlying tn = some (.int .i64)) (hgd : o.guard = none) (s x : Operand) (ho : o.op = .call { callee := .builtin .append, args := #[s, x], argTypes := #[t, tn] })
    {g off i cap m : Nat} {z : Int} {olds : List Value} (hs : a.eval s = .slice (some ⟨g, off, none⟩) i cap) (hx : a.eval x = .int .i64 z) (hz : z = (m : Int)) (hm : 0 < m) (hcap : cap < i + m) (hl : olds.length = i * size) (hold : ∀ j v, olds[j]? = some v → w.cell? ⟨g, off + j, none⟩ = some v)
    (hbig : (i + m) * bytes ≤ 140737488355328) (h63 : i + m ≤ 1000000)
    (h : ∀ w' G ROW, i + m ≤ G → G ≤ maxLen → w'.heap[w.heap.size]? = some (.cells ROW e (0, 0)) → ROW.size = G * size → ROW.toList.take (i * size) = olds → Only (fun _ => False) w w' → wpList P ops Q rest (a.put o.dst (.slice (some ⟨w.heap.size, 0, none⟩) (i + m) G)) w') : wpList P ops Q (o :: rest) a w := by
  obtain ⟨inf, zv, ht, hi, h0, h1', h2, hzc, hsz⟩ := E
  subst hz
  have hfc : (Builtin.firstCells inf.size i (.slice (some ⟨g, off, none⟩) i cap)).run P w.drew = .ok olds.toArray w.drew := by
    have := run_loadCells_list (P := P) w.drew ⟨g, off, none⟩ olds (fun j v hj => by rw [add_none]; exact hold j v hj)
    rw [hl] at this
    unfold Builtin.firstCells
    rw [h1']
    exact this
  have hbb : m * inf.bytes ≤ 281474976710656 := by
    rw [h2]
    have : m * bytes ≤ (i + m) * bytes := Nat.mul_le_mul_right _ (by omega)
    omega
  have hrun := Lib.run_append_grow_zeros (P := P) w t tn o.type e inf zv .i64 .i64 ht htn hi h0 (some ⟨g, off, none⟩) i cap olds hfc m hm (by omega) hcap (by omega) hbb (by rw [h2]; exact growslice_fits hcap hbig)
  refine Lib.wpList_append_run w hgd s x t tn ho _ _ hs hx _ _ hrun ?_
  have hG := grownCap_ge w (i + m) cap e
  refine h _ (grownCap w (i + m) cap e) (olds.toArray ++ Builtin.zeroCells zv.cells m ++ Builtin.zeroCells zv.cells (grownCap w (i + m) cap e - (i + m))) hG (grownCap_le_maxLen w (i + m) cap e (by unfold maxLen; omega)) (alloc_new w.drew _) ?_ ?_ ((Only.refl _ w).drew.alloc _)
  · simp only [Array.size_append, List.size_toArray, size_zeroCells, hzc, hl]
    rw [← Nat.add_mul, ← Nat.add_mul]
    congr 1
    omega
  · simp only [Array.toList_append, List.append_assoc]
    rw [← hl]
    simp
end

/-- What stands behind both copies. -/
theorem laid_two {cur : Array Value} {xs news : List Value} {i n size : Nat} (hx : xs.length = n * size) (hn : news.length = size) (hi : i ≤ n) (hc : cur.toList.take (i * size) = xs.take (i * size)) (hs : (n + 1) * size ≤ cur.size) :
    (laid (laid cur (i * size) news) ((i + 1) * size) (xs.drop (i * size))).toList.take ((n + 1) * size) = xs.take (i * size) ++ news ++ xs.drop (i * size) := by
  have him : i * size ≤ n * size := Nat.mul_le_mul_right _ hi
  have e1 : (n + 1) * size = n * size + size := by rw [Nat.add_mul]; omega
  have e2 : (i + 1) * size = i * size + size := by rw [Nat.add_mul]; omega
  have hlc : cur.toList.length = cur.size := by simp
  rw [laid_list, laid_list, hc]
  have htl : (xs.take (i * size)).length = i * size := by rw [List.length_take]; omega
  have h1 : (xs.take (i * size) ++ news ++ cur.toList.drop (i * size + news.length)).take ((i + 1) * size) = xs.take (i * size) ++ news := by
    rw [List.take_append_of_le_length (by rw [List.length_append, htl]; omega), List.take_of_length_le (by rw [List.length_append, htl]; omega)]
  rw [h1]
  rw [List.take_append_of_le_length (by rw [List.length_append, List.length_append, htl, List.length_drop]; omega), List.take_of_length_le (by rw [List.length_append, List.length_append, htl, List.length_drop]; omega)]

theorem laid_back {cur : Array Value} {xs news : List Value} {i n size : Nat} (hx : xs.length = n * size) (hn : news.length = size) (hi : i ≤ n) (hc : cur.toList.take (n * size) = xs) (hs : (n + 1) * size ≤ cur.size) :
    (laid (laid cur ((i + 1) * size) (xs.drop (i * size))) (i * size) news).toList.take ((n + 1) * size) = xs.take (i * size) ++ news ++ xs.drop (i * size) := by
  have him : i * size ≤ n * size := Nat.mul_le_mul_right _ hi
  have e1 : (n + 1) * size = n * size + size := by rw [Nat.add_mul]; omega
  have e2 : (i + 1) * size = i * size + size := by rw [Nat.add_mul]; omega
  have hlc : cur.toList.length = cur.size := by simp
  rw [laid_list, laid_list]
  have ht : (cur.toList.take ((i + 1) * size)).length = (i + 1) * size := by rw [List.length_take]; omega
  have hd : (xs.drop (i * size)).length = n * size - i * size := by rw [List.length_drop, hx]
  have h1 : (cur.toList.take ((i + 1) * size) ++ xs.drop (i * size) ++ cur.toList.drop ((i + 1) * size + (xs.drop (i * size)).length)).take (i * size) = xs.take (i * size) := by
    rw [List.append_assoc, List.take_append_of_le_length (by rw [ht]; omega), List.take_take, Nat.min_eq_left (by omega), ← hc, List.take_take, Nat.min_eq_left him]
  have h2 : (cur.toList.take ((i + 1) * size) ++ xs.drop (i * size) ++ cur.toList.drop ((i + 1) * size + (xs.drop (i * size)).length)).drop (i * size + news.length) = xs.drop (i * size) ++ cur.toList.drop ((i + 1) * size + (xs.drop (i * size)).length) := by
    rw [List.append_assoc, List.drop_append_of_le_length (by rw [ht]; omega), List.drop_of_length_le (by rw [ht]; omega)]
    rfl
  rw [h1, h2, ← List.append_assoc]
  have htl : (xs.take (i * size)).length = i * size := by rw [List.length_take]; omega
  rw [List.take_append_of_le_length (by rw [List.length_append, List.length_append, htl, hd]; omega), List.take_of_length_le (by rw [List.length_append, List.length_append, htl, hd]; omega)]

theorem laid_two1 {cur : Array Value} {xs news : List Value} {i n : Nat} (hx : xs.length = n) (hn : news.length = 1) (hi : i ≤ n) (hc : cur.toList.take i = xs.take i) (hs : n + 1 ≤ cur.size) :
    (laid (laid cur i news) (i + 1) (xs.drop i)).toList.take ((n + 1) * 1) = xs.take i ++ news ++ xs.drop i := by
  have := laid_two (size := 1) (cur := cur) (xs := xs) (news := news) (i := i) (n := n) (by omega) hn hi (by simpa using hc) (by omega)
  simpa using this

theorem laid_back1 {cur : Array Value} {xs news : List Value} {i n : Nat} (hx : xs.length = n) (hn : news.length = 1) (hi : i ≤ n) (hc : cur.toList.take n = xs) (hs : n + 1 ≤ cur.size) :
    (laid (laid cur (i + 1) (xs.drop i)) i news).toList.take ((n + 1) * 1) = xs.take i ++ news ++ xs.drop i := by
  have := laid_back (size := 1) (cur := cur) (xs := xs) (news := news) (i := i) (n := n) (by omega) hn hi (by simpa using hc) (by omega)
  simpa using this

end Go.Lap

namespace Go.Proofs.YtdeekopdhgjanaaGreatDoor
open Go.RowKit Go.Lap

theorem insertE_size : (Tryz.prog.info? 131).map (·.size) = some 3 := by kernel_rfl

set_option maxHeartbeats 1000000 in
set_option maxRecDepth 100000 in
/-- At the end. -/
theorem insertE_end (v : Value) (n vb : Nat) (xs news : List Value) (w : World) (hown : w.ownsRow 0 131 3 v n xs) (hnl : news.length = 3) (hnew : w.heap[vb]? = some (.cells news.toArray 131 (0, 0))) (h1 : ∀ u ∈ news, u.oneCell' = true) (hn : n ≤ 100000) :
    Calls Tryz.prog 109 #[v, .int .i64 (n : Int), .slice (some ⟨vb, 0, none⟩) 1 1] w fun e w' => ∃ v', e = .returned v' ∧ Grew w w' 131 3 v v' (n + 1) (xs ++ news) := by
  obtain ⟨A, cap, hv, hnc, hcm, _⟩ := own_form hown
  subst hv
  unfold maxLen at hcm
  have HO := Lib.hid hown
  have HR : Hid (Rd w (fun _ => True) 3 (some ⟨vb, 0, none⟩) 1 news) := ⟨by omega, fun _ => ⟨vb, 0, rfl, trivial, fun j u hu => by rw [cell_of hnew]; simpa using hu⟩⟩
  have H1 := Lib.hid h1
  clear hown hnew h1
  by_cases hc : cap = n
  · subst hc
    go_enter Tryz.func109, Tryz.ntmps109
    go_wp2_with (at_builtin; refine app elem_ent rfl (.tmp 23) (.tmp 24) rfl rfl HO.out rfl HR.out H1.out (by unfold maxLen; omega) (by omega) ?_)
    intro v' w1 hg
    have HG := Lib.hid hg
    clear hg
    go_wp2
    go_ret
    exact ⟨v', rfl, HG.out⟩
  · go_enter Tryz.func109, Tryz.ntmps109
    go_wp2_with (at_builtin; refine app elem_ent rfl (.tmp 23) (.tmp 24) rfl rfl HO.out rfl HR.out H1.out (by unfold maxLen; omega) (by omega) ?_)
    intro v' w1 hg
    have HG := Lib.hid hg
    clear hg
    go_wp2
    go_ret
    exact ⟨v', rfl, HG.out⟩

set_option maxHeartbeats 2000000 in
set_option maxRecDepth 100000 in
/-- In the midst, where there is no room. -/
theorem insertE_grow (g n i vb : Nat) (xs news : List Value) (w : World) (hown : w.ownsRow 0 131 3 (.slice (some ⟨g, 0, none⟩) n n) n xs) (hnl : news.length = 3) (hnew : w.heap[vb]? = some (.cells news.toArray 131 (0, 0))) (h1 : ∀ u ∈ news, u.oneCell' = true) (hx1 : ∀ u ∈ xs, u.oneCell' = true) (hn : n ≤ 100000) (hi : i < n) :
    Calls Tryz.prog 109 #[.slice (some ⟨g, 0, none⟩) n n, .int .i64 (i : Int), .slice (some ⟨vb, 0, none⟩) 1 1] w fun e w' => ∃ v', e = .returned v' ∧ Grew w w' 131 3 (.slice (some ⟨g, 0, none⟩) n n) v' (n + 1) (xs.take (i * 3) ++ news ++ xs.drop (i * 3)) := by
  have hxl := hown.1
  have hcell : ∀ j v, xs[j]? = some v → w.cell? ⟨g, j, none⟩ = some v := fun j v hj => by have := hown.cells rfl j v hj; rw [add_none, Nat.zero_add] at this; exact this
  have hgl : g < w.heap.size := (hown.lt g rfl).2
  have HC := Lib.hid hcell
  have HN := Lib.hid hnew
  have H1 := Lib.hid h1
  have HX := Lib.hid hx1
  have hin : ¬ ((i : Int) = (n : Int)) := by omega
  have hin2 : ¬ n = i := by omega
  have d0 : (0 : Int) ≤ (i : Int) := by omega
  have d1 : (i : Int) ≤ (n : Int) := by omega
  have d2 : (i : Int) ≤ (n : Int) + 1 := by omega
  clear hown hcell hnew h1 hx1
  go_enter Tryz.func109, Tryz.ntmps109
  go_wp2_with (at_builtin; refine zerosK elem_ent Tryz.underlying3 rfl (.tmp 34) (.tmp 39) rfl (g := g) (off := 0) (i := i) (cap := n) (m := n + 1 - i) (olds := xs.take (i * 3)) rfl rfl (by omega) (by omega) (by omega) (by rw [List.length_take]; omega) (fun j v hj => by
    rw [Nat.zero_add]
    rw [List.getElem?_take] at hj
    split at hj
    · exact HC.out j v hj
    · cases hj) (by omega) (by omega) ?_)
  intro w1 G ROW hG hGm hh1 hRs hRt hq1
  rw [show i + (n + 1 - i) = n + 1 by omega] at hG ⊢
  have HH1 := Lib.hid hh1
  have HQ1 := Lib.hid hq1
  have HRT := Lib.hid hRt
  have hvb1 : w1.heap[vb]? = _ := hq1.get HN.out (fun x => x)
  have HV1 := Lib.hid hvb1
  have hGi : ¬ G = i := by omega
  have hGi1 : ¬ G = i + 1 := by omega
  unfold maxLen at hGm
  clear hh1 hq1 hRt hvb1
  obtain ⟨w2, hcp1, hh2, ho2⟩ := run_copy_ex (P := Tryz.prog) w1 180 180 131 (k := 3) (g := w.heap.size) (at_ := i * 3) (dLen := n + 1 - i) (dCap := G - i) (sLen := 1) (sCap := 1) (src := ⟨vb, 0, none⟩) (cs := news) (m := 1) Tryz.underlying180 insertE_size (Nat.min_eq_left (by omega)) HH1.out (by rw [hnl]) (fun j v hj => by rw [add_none, cell_of HV1.out, Nat.zero_add]; simpa using hj) (by rw [hnl, hRs]; omega) H1.out
  have HH2 := Lib.hid hh2
  have HO2 : Hid (Only (fun k => k = w.heap.size) w w2) := (HQ1.out.mono (T := fun k => k = w.heap.size) (fun _ _ x => x.elim)).trans' ho2 (fun k _ e => e)
  clear hh2 ho2 HH1 HV1
  obtain ⟨w3, hcp2, hh3, ho3⟩ := run_copy_ex (P := Tryz.prog) w2.drew 180 180 131 (k := 3) (g := w.heap.size) (at_ := (i + 1) * 3) (dLen := n - i) (dCap := G - (i + 1)) (sLen := n - i) (sCap := n - i) (src := ⟨g, i * 3, none⟩) (cs := xs.drop (i * 3)) (m := n - i) Tryz.underlying180 insertE_size (Nat.min_self _) HH2.out (by rw [List.length_drop]; omega) (fun j v hj => by
    rw [add_none]
    rw [List.getElem?_drop] at hj
    exact HO2.out.cell (HC.out _ v hj) (by show ¬ g = w.heap.size; omega)) (by rw [laid_size (by rw [hnl, hRs]; omega), List.length_drop, hRs]; omega) (fun v hv => HX.out v (List.mem_of_mem_drop hv))
  have HH3 := Lib.hid hh3
  have HO3 : Hid (Only (fun k => k = w.heap.size) w w3) := HO2.out.drew.trans ho3
  clear hh3 ho3 HH2 HO2
  have dw : IntKind.i64.wrap ((i : Int) + 1) = (i : Int) + 1 := wrapI (by omega)
  have dt : ((i : Int) + 1).toNat = i + 1 := by omega
  have d3 : (0 : Int) ≤ (i : Int) + 1 := by omega
  have d4 : (i : Int) + 1 ≤ (n : Int) + 1 := by omega
  go_wp2_with fail
  go_region_held3 (fun _ => True) (first | trivial | fail) (fail)
  have HF : Hid (Grew w w3 131 3 (.slice (some ⟨g, 0, none⟩) n n) (.slice (some ⟨w.heap.size, 0, none⟩) (n + 1) G) (n + 1) (xs.take (i * 3) ++ news ++ xs.drop (i * 3))) := by
    refine ⟨⟨?_, Or.inr ⟨w.heap.size, G, _, rfl, Nat.zero_le _, HH3.out, hG, by unfold maxLen; omega, ?_, ?_⟩⟩, HO3.out.mono (fun k hk e => by omega), Or.inr rfl⟩
    · simp only [List.length_append, List.length_take, List.length_drop, hnl]; omega
    · rw [laid_size (by rw [laid_size (by rw [hnl, hRs]; omega), List.length_drop, hRs]; omega), laid_size (by rw [hnl, hRs]; omega), hRs]
    · exact laid_two hxl hnl (by omega) HRT.out (by rw [hRs]; omega)
  clear hcp1 hcp2 HH3 HO3
  go_wp2
  go_ret
  exact ⟨_, rfl, HF.out⟩

set_option maxHeartbeats 2000000 in
set_option maxRecDepth 100000 in
/-- In the midst, where there is room. -/
theorem insertE_shift (g n cap i vb : Nat) (xs news : List Value) (w : World) (hown : w.ownsRow 0 131 3 (.slice (some ⟨g, 0, none⟩) n cap) n xs) (hnl : news.length = 3) (hnew : w.heap[vb]? = some (.cells news.toArray 131 (0, 0))) (h1 : ∀ u ∈ news, u.oneCell' = true) (hx1 : ∀ u ∈ xs, u.oneCell' = true) (hn : n ≤ 100000) (hi : i < n) (hcap : n + 1 ≤ cap) (hvg : vb ≠ g) :
    Calls Tryz.prog 109 #[.slice (some ⟨g, 0, none⟩) n cap, .int .i64 (i : Int), .slice (some ⟨vb, 0, none⟩) 1 1] w fun e w' => ∃ v', e = .returned v' ∧ Grew w w' 131 3 (.slice (some ⟨g, 0, none⟩) n cap) v' (n + 1) (xs.take (i * 3) ++ news ++ xs.drop (i * 3)) := by
  have hxl := hown.1
  have hcell : ∀ j v, xs[j]? = some v → w.cell? ⟨g, j, none⟩ = some v := fun j v hj => by have := hown.cells rfl j v hj; rw [add_none, Nat.zero_add] at this; exact this
  obtain ⟨cur, hcur, hcs, hct, hcm⟩ : ∃ cur : Array Value, w.heap[g]? = some (.cells cur 131 (0, 0)) ∧ cur.size = cap * 3 ∧ cur.toList.take (n * 3) = xs ∧ cap ≤ maxLen := by
    rcases hown.2 with ⟨e1, _⟩ | ⟨g', cap', cur, e1, _, hh, _, hm, h1, h2⟩
    · cases e1
    · injection e1 with e1 _ e3
      injection e1 with e1
      injection e1 with e1 _ _
      subst e1 e3
      exact ⟨cur, hh, h1, h2, hm⟩
  unfold maxLen at hcm
  have hov : ∀ lb cb, (callFunc 135 #[.slice (some ⟨vb, 0, none⟩) 1 1, .slice (some ⟨g, (i + 1) * 3, none⟩) lb cb]).run Tryz.prog w = .ok (.value (.bool false)) w := fun lb cb => by
    rw [run_callFunc_extern Tryz.func135 (by kernel_rfl) (by kernel_rfl) (by kernel_rfl) (e := Extern.SlicesOverlaps.overlaps #[180, 180] #[4]) (by kernel_rfl),
      Lib.run_overlaps_apart w 180 4 131 Tryz.underlying180 3 (fun w => by kernel_rfl) ⟨vb, 0, none⟩ ⟨g, (i + 1) * 3, none⟩ 1 1 lb cb hvg 131 131 news.toArray.size cur.size (by simp [World.shape?, hnew]) (by simp [World.shape?, hcur]) (by rw [hcs]; omega) (frozen_of hnew 0) (frozen_of hnew _)]
    rfl
  have hin : ¬ ((i : Int) = (n : Int)) := by omega
  have d0 : (0 : Int) ≤ (i : Int) := by omega
  have d1 : (i : Int) ≤ (n : Int) := by omega
  have d2 : (i : Int) ≤ (n : Int) + 1 := by omega
  have dw : IntKind.i64.wrap ((i : Int) + 1) = (i : Int) + 1 := wrapI (by omega)
  have dt : ((i : Int) + 1).toNat = i + 1 := by omega
  have d3 : (0 : Int) ≤ (i : Int) + 1 := by omega
  have d4 : (i : Int) + 1 ≤ (n : Int) + 1 := by omega
  have hci : ¬ cap = i := by omega
  have hci1 : ¬ cap = i + 1 := by omega
  obtain ⟨w2, hcp1, hh2, ho2⟩ := run_copy_ex (P := Tryz.prog) w.drew 180 180 131 (k := 3) (g := g) (at_ := (i + 1) * 3) (dLen := n - i) (dCap := cap - (i + 1)) (sLen := n + 1 - i) (sCap := cap - i) (src := ⟨g, i * 3, none⟩) (cs := xs.drop (i * 3)) (m := n - i) Tryz.underlying180 insertE_size (Nat.min_eq_right (by omega)) (show w.drew.heap[g]? = _ from hcur) (by rw [List.length_drop]; omega) (fun j v hj => by
    rw [add_none]
    rw [List.getElem?_drop] at hj
    exact hcell _ v hj) (by rw [List.length_drop, hcs]; omega) (fun v hv => hx1 v (List.mem_of_mem_drop hv))
  have HO2 : Hid (Only (fun k => k = g) w w2) := ((Only.refl (fun k => k = g) w).drew).trans ho2
  obtain ⟨w3, hcp2, hh3, ho3⟩ := run_copy_ex (P := Tryz.prog) w2 180 180 131 (k := 3) (g := g) (at_ := i * 3) (dLen := n + 1 - i) (dCap := cap - i) (sLen := 1) (sCap := 1) (src := ⟨vb, 0, none⟩) (cs := news) (m := 1) Tryz.underlying180 insertE_size (Nat.min_eq_left (by omega)) hh2 (by rw [hnl]) (fun j v hj => by rw [add_none, cell_of (HO2.out.get hnew hvg), Nat.zero_add]; simpa using hj) (by rw [hnl, laid_size (by rw [List.length_drop, hcs]; omega), hcs]; omega) h1
  have HF : Hid (Grew w w3 131 3 (.slice (some ⟨g, 0, none⟩) n cap) (.slice (some ⟨g, 0, none⟩) (n + 1) cap) (n + 1) (xs.take (i * 3) ++ news ++ xs.drop (i * 3))) := by
    refine ⟨⟨?_, Or.inr ⟨g, cap, _, rfl, Nat.zero_le _, hh3, hcap, by unfold maxLen; omega, ?_, ?_⟩⟩, (HO2.out.trans ho3).mono (fun k hk e => by rw [e]; rfl), Or.inl rfl⟩
    · simp only [List.length_append, List.length_take, List.length_drop, hnl]; omega
    · rw [laid_size (by rw [hnl, laid_size (by rw [List.length_drop, hcs]; omega), hcs]; omega), laid_size (by rw [List.length_drop, hcs]; omega), hcs]
    · exact laid_back hxl hnl (by omega) hct (by rw [hcs]; omega)
  clear hown hcell hcur hct hnew h1 hx1 hh2 ho2 hh3 ho3 HO2
  go_enter Tryz.func109, Tryz.ntmps109
  go_wp2_with fail
  go_region_held3 (fun _ => True) (first | trivial | fail) (fail)
  go_wp2
  go_ret
  exact ⟨_, rfl, HF.out⟩

/-- All ways. -/
theorem insertE_any (v : Value) (n i vb : Nat) (xs news : List Value) (w : World) (hown : w.ownsRow 0 131 3 v n xs) (hnl : news.length = 3) (hnew : w.heap[vb]? = some (.cells news.toArray 131 (0, 0))) (h1 : ∀ u ∈ news, u.oneCell' = true) (hx1 : ∀ u ∈ xs, u.oneCell' = true) (hn : n ≤ 100000) (hi : i ≤ n) (hvb : v.ownBlock ≠ some vb) :
    Calls Tryz.prog 109 #[v, .int .i64 (i : Int), .slice (some ⟨vb, 0, none⟩) 1 1] w fun e w' => ∃ v', e = .returned v' ∧ Grew w w' 131 3 v v' (n + 1) (xs.take (i * 3) ++ news ++ xs.drop (i * 3)) := by
  have hxl := hown.1
  by_cases hin : i = n
  · subst hin
    have := insertE_end v i vb xs news w hown hnl hnew h1 hn
    rw [List.take_of_length_le (by omega), List.drop_of_length_le (by omega), List.append_nil]
    exact this
  · rcases owns_cases hown with ⟨_, h0⟩ | ⟨g, cap, rfl, hnc, _⟩
    · omega
    · by_cases hc : cap = n
      · subst hc
        exact insertE_grow g cap i vb xs news w hown hnl hnew h1 hx1 hn (by omega)
      · exact insertE_shift g n cap i vb xs news w hown hnl hnew h1 hx1 hn (by omega) (by omega) (fun e => hvb (by rw [e]; rfl))

end Go.Proofs.YtdeekopdhgjanaaGreatDoor

namespace Go.Proofs.YtdeekopdhgjanaaGreatDoor
open Go.RowKit Go.Lap

theorem insertN_size : (Tryz.prog.info? 173).map (·.size) = some 1 := by kernel_rfl

set_option maxHeartbeats 1000000 in
set_option maxRecDepth 100000 in
/-- At the end. -/
theorem insertN_end (v : Value) (n vb : Nat) (xs news : List Value) (w : World) (hown : w.ownsRow 0 173 1 v n xs) (hnl : news.length = 1) (hnew : w.heap[vb]? = some (.cells news.toArray 173 (0, 0))) (h1 : ∀ u ∈ news, u.oneCell' = true) (hn : n ≤ 100000) :
    Calls Tryz.prog 111 #[v, .int .i64 (n : Int), .slice (some ⟨vb, 0, none⟩) 1 1] w fun e w' => ∃ v', e = .returned v' ∧ Grew w w' 173 1 v v' (n + 1) (xs ++ news) := by
  obtain ⟨A, cap, hv, hnc, hcm, _⟩ := own_form hown
  subst hv
  unfold maxLen at hcm
  have HO := Lib.hid hown
  have HR : Hid (Rd w (fun _ => True) 1 (some ⟨vb, 0, none⟩) 1 news) := ⟨by omega, fun _ => ⟨vb, 0, rfl, trivial, fun j u hu => by rw [cell_of hnew]; simpa using hu⟩⟩
  have H1 := Lib.hid h1
  clear hown hnew h1
  by_cases hc : cap = n
  · subst hc
    go_enter Tryz.func111, Tryz.ntmps111
    go_wp2_with (at_builtin; refine app elem_node rfl (.tmp 23) (.tmp 24) rfl rfl HO.out rfl HR.out H1.out (by unfold maxLen; omega) (by omega) ?_)
    intro v' w1 hg
    have HG := Lib.hid hg
    clear hg
    go_wp2
    go_ret
    exact ⟨v', rfl, HG.out⟩
  · go_enter Tryz.func111, Tryz.ntmps111
    go_wp2_with (at_builtin; refine app elem_node rfl (.tmp 23) (.tmp 24) rfl rfl HO.out rfl HR.out H1.out (by unfold maxLen; omega) (by omega) ?_)
    intro v' w1 hg
    have HG := Lib.hid hg
    clear hg
    go_wp2
    go_ret
    exact ⟨v', rfl, HG.out⟩

set_option maxHeartbeats 2000000 in
set_option maxRecDepth 100000 in
/-- In the midst, where there is no room. -/
theorem insertN_grow (g n i vb : Nat) (xs news : List Value) (w : World) (hown : w.ownsRow 0 173 1 (.slice (some ⟨g, 0, none⟩) n n) n xs) (hnl : news.length = 1) (hnew : w.heap[vb]? = some (.cells news.toArray 173 (0, 0))) (h1 : ∀ u ∈ news, u.oneCell' = true) (hx1 : ∀ u ∈ xs, u.oneCell' = true) (hn : n ≤ 100000) (hi : i < n) :
    Calls Tryz.prog 111 #[.slice (some ⟨g, 0, none⟩) n n, .int .i64 (i : Int), .slice (some ⟨vb, 0, none⟩) 1 1] w fun e w' => ∃ v', e = .returned v' ∧ Grew w w' 173 1 (.slice (some ⟨g, 0, none⟩) n n) v' (n + 1) (xs.take i ++ news ++ xs.drop i) := by
  have hxl := hown.1
  have hcell : ∀ j v, xs[j]? = some v → w.cell? ⟨g, j, none⟩ = some v := fun j v hj => by have := hown.cells rfl j v hj; rw [add_none, Nat.zero_add] at this; exact this
  have hgl : g < w.heap.size := (hown.lt g rfl).2
  have HC := Lib.hid hcell
  have HN := Lib.hid hnew
  have H1 := Lib.hid h1
  have HX := Lib.hid hx1
  have hin : ¬ ((i : Int) = (n : Int)) := by omega
  have hin2 : ¬ n = i := by omega
  have d0 : (0 : Int) ≤ (i : Int) := by omega
  have d1 : (i : Int) ≤ (n : Int) := by omega
  have d2 : (i : Int) ≤ (n : Int) + 1 := by omega
  clear hown hcell hnew h1 hx1
  go_enter Tryz.func111, Tryz.ntmps111
  go_wp2_with (at_builtin; refine zerosK elem_node Tryz.underlying3 rfl (.tmp 34) (.tmp 39) rfl (g := g) (off := 0) (i := i) (cap := n) (m := n + 1 - i) (olds := xs.take i) rfl rfl (by omega) (by omega) (by omega) (by rw [List.length_take]; omega) (fun j v hj => by
    rw [Nat.zero_add]
    rw [List.getElem?_take] at hj
    split at hj
    · exact HC.out j v hj
    · cases hj) (by omega) (by omega) ?_)
  intro w1 G ROW hG hGm hh1 hRs hRt hq1
  rw [show i + (n + 1 - i) = n + 1 by omega] at hG ⊢
  have HH1 := Lib.hid hh1
  have HQ1 := Lib.hid hq1
  have HRT := Lib.hid hRt
  have hvb1 : w1.heap[vb]? = _ := hq1.get HN.out (fun x => x)
  have HV1 := Lib.hid hvb1
  have hGi : ¬ G = i := by omega
  have hGi1 : ¬ G = i + 1 := by omega
  unfold maxLen at hGm
  clear hh1 hq1 hRt hvb1
  obtain ⟨w2, hcp1, hh2, ho2⟩ := run_copy_ex (P := Tryz.prog) w1 181 181 173 (k := 1) (g := w.heap.size) (at_ := i) (dLen := n + 1 - i) (dCap := G - i) (sLen := 1) (sCap := 1) (src := ⟨vb, 0, none⟩) (cs := news) (m := 1) Tryz.underlying181 insertN_size (Nat.min_eq_left (by omega)) HH1.out (by rw [hnl]) (fun j v hj => by rw [add_none, cell_of HV1.out, Nat.zero_add]; simpa using hj) (by rw [hnl, hRs]; omega) H1.out
  have HH2 := Lib.hid hh2
  have HO2 : Hid (Only (fun k => k = w.heap.size) w w2) := (HQ1.out.mono (T := fun k => k = w.heap.size) (fun _ _ x => x.elim)).trans' ho2 (fun k _ e => e)
  clear hh2 ho2 HH1 HV1
  obtain ⟨w3, hcp2, hh3, ho3⟩ := run_copy_ex (P := Tryz.prog) w2.drew 181 181 173 (k := 1) (g := w.heap.size) (at_ := (i + 1)) (dLen := n - i) (dCap := G - (i + 1)) (sLen := n - i) (sCap := n - i) (src := ⟨g, i, none⟩) (cs := xs.drop i) (m := n - i) Tryz.underlying181 insertN_size (Nat.min_self _) HH2.out (by rw [List.length_drop]; omega) (fun j v hj => by
    rw [add_none]
    rw [List.getElem?_drop] at hj
    exact HO2.out.cell (HC.out _ v hj) (by show ¬ g = w.heap.size; omega)) (by rw [laid_size (by rw [hnl, hRs]; omega), List.length_drop, hRs]; omega) (fun v hv => HX.out v (List.mem_of_mem_drop hv))
  have HH3 := Lib.hid hh3
  have HO3 : Hid (Only (fun k => k = w.heap.size) w w3) := HO2.out.drew.trans ho3
  clear hh3 ho3 HH2 HO2
  have dw : IntKind.i64.wrap ((i : Int) + 1) = (i : Int) + 1 := wrapI (by omega)
  have dt : ((i : Int) + 1).toNat = i + 1 := by omega
  have d3 : (0 : Int) ≤ (i : Int) + 1 := by omega
  have d4 : (i : Int) + 1 ≤ (n : Int) + 1 := by omega
  go_wp2_with fail
  go_region_held3 (fun _ => True) (first | trivial | fail) (fail)
  have HF : Hid (Grew w w3 173 1 (.slice (some ⟨g, 0, none⟩) n n) (.slice (some ⟨w.heap.size, 0, none⟩) (n + 1) G) (n + 1) (xs.take i ++ news ++ xs.drop i)) := by
    refine ⟨⟨?_, Or.inr ⟨w.heap.size, G, _, rfl, Nat.zero_le _, HH3.out, hG, by unfold maxLen; omega, ?_, ?_⟩⟩, HO3.out.mono (fun k hk e => by omega), Or.inr rfl⟩
    · simp only [List.length_append, List.length_take, List.length_drop, hnl]; omega
    · rw [laid_size (by rw [laid_size (by rw [hnl, hRs]; omega), List.length_drop, hRs]; omega), laid_size (by rw [hnl, hRs]; omega), hRs]; omega
    · exact laid_two1 (by omega) hnl (by omega) HRT.out (by rw [hRs]; omega)
  clear hcp1 hcp2 HH3 HO3
  go_wp2
  go_ret
  exact ⟨_, rfl, HF.out⟩

set_option maxHeartbeats 2000000 in
set_option maxRecDepth 100000 in
/-- In the midst, where there is room. -/
theorem insertN_shift (g n cap i vb : Nat) (xs news : List Value) (w : World) (hown : w.ownsRow 0 173 1 (.slice (some ⟨g, 0, none⟩) n cap) n xs) (hnl : news.length = 1) (hnew : w.heap[vb]? = some (.cells news.toArray 173 (0, 0))) (h1 : ∀ u ∈ news, u.oneCell' = true) (hx1 : ∀ u ∈ xs, u.oneCell' = true) (hn : n ≤ 100000) (hi : i < n) (hcap : n + 1 ≤ cap) (hvg : vb ≠ g) :
    Calls Tryz.prog 111 #[.slice (some ⟨g, 0, none⟩) n cap, .int .i64 (i : Int), .slice (some ⟨vb, 0, none⟩) 1 1] w fun e w' => ∃ v', e = .returned v' ∧ Grew w w' 173 1 (.slice (some ⟨g, 0, none⟩) n cap) v' (n + 1) (xs.take i ++ news ++ xs.drop i) := by
  have hxl := hown.1
  have hcell : ∀ j v, xs[j]? = some v → w.cell? ⟨g, j, none⟩ = some v := fun j v hj => by have := hown.cells rfl j v hj; rw [add_none, Nat.zero_add] at this; exact this
  obtain ⟨cur, hcur, hcs, hct, hcm⟩ : ∃ cur : Array Value, w.heap[g]? = some (.cells cur 173 (0, 0)) ∧ cur.size = cap ∧ cur.toList.take (n) = xs ∧ cap ≤ maxLen := by
    rcases hown.2 with ⟨e1, _⟩ | ⟨g', cap', cur, e1, _, hh, _, hm, h1, h2⟩
    · cases e1
    · injection e1 with e1 _ e3
      injection e1 with e1
      injection e1 with e1 _ _
      subst e1 e3
      exact ⟨cur, hh, by simpa using h1, by simpa using h2, hm⟩
  unfold maxLen at hcm
  have hov : ∀ lb cb, (callFunc 137 #[.slice (some ⟨vb, 0, none⟩) 1 1, .slice (some ⟨g, (i + 1), none⟩) lb cb]).run Tryz.prog w = .ok (.value (.bool false)) w := fun lb cb => by
    rw [run_callFunc_extern Tryz.func137 (by kernel_rfl) (by kernel_rfl) (by kernel_rfl) (e := Extern.SlicesOverlaps.overlaps #[181, 181] #[4]) (by kernel_rfl),
      Lib.run_overlaps_apart w 181 4 173 Tryz.underlying181 1 (fun w => by kernel_rfl) ⟨vb, 0, none⟩ ⟨g, (i + 1), none⟩ 1 1 lb cb hvg 173 173 news.toArray.size cur.size (by simp [World.shape?, hnew]) (by simp [World.shape?, hcur]) (by rw [hcs]; omega) (frozen_of hnew 0) (frozen_of hnew _)]
    rfl
  have hin : ¬ ((i : Int) = (n : Int)) := by omega
  have d0 : (0 : Int) ≤ (i : Int) := by omega
  have d1 : (i : Int) ≤ (n : Int) := by omega
  have d2 : (i : Int) ≤ (n : Int) + 1 := by omega
  have dw : IntKind.i64.wrap ((i : Int) + 1) = (i : Int) + 1 := wrapI (by omega)
  have dt : ((i : Int) + 1).toNat = i + 1 := by omega
  have d3 : (0 : Int) ≤ (i : Int) + 1 := by omega
  have d4 : (i : Int) + 1 ≤ (n : Int) + 1 := by omega
  have hci : ¬ cap = i := by omega
  have hci1 : ¬ cap = i + 1 := by omega
  obtain ⟨w2, hcp1, hh2, ho2⟩ := run_copy_ex (P := Tryz.prog) w.drew 181 181 173 (k := 1) (g := g) (at_ := (i + 1)) (dLen := n - i) (dCap := cap - (i + 1)) (sLen := n + 1 - i) (sCap := cap - i) (src := ⟨g, i, none⟩) (cs := xs.drop i) (m := n - i) Tryz.underlying181 insertN_size (Nat.min_eq_right (by omega)) (show w.drew.heap[g]? = _ from hcur) (by rw [List.length_drop]; omega) (fun j v hj => by
    rw [add_none]
    rw [List.getElem?_drop] at hj
    exact hcell _ v hj) (by rw [List.length_drop, hcs]; omega) (fun v hv => hx1 v (List.mem_of_mem_drop hv))
  have HO2 : Hid (Only (fun k => k = g) w w2) := ((Only.refl (fun k => k = g) w).drew).trans ho2
  obtain ⟨w3, hcp2, hh3, ho3⟩ := run_copy_ex (P := Tryz.prog) w2 181 181 173 (k := 1) (g := g) (at_ := i) (dLen := n + 1 - i) (dCap := cap - i) (sLen := 1) (sCap := 1) (src := ⟨vb, 0, none⟩) (cs := news) (m := 1) Tryz.underlying181 insertN_size (Nat.min_eq_left (by omega)) hh2 (by rw [hnl]) (fun j v hj => by rw [add_none, cell_of (HO2.out.get hnew hvg), Nat.zero_add]; simpa using hj) (by rw [hnl, laid_size (by rw [List.length_drop, hcs]; omega), hcs]; omega) h1
  have HF : Hid (Grew w w3 173 1 (.slice (some ⟨g, 0, none⟩) n cap) (.slice (some ⟨g, 0, none⟩) (n + 1) cap) (n + 1) (xs.take i ++ news ++ xs.drop i)) := by
    refine ⟨⟨?_, Or.inr ⟨g, cap, _, rfl, Nat.zero_le _, hh3, hcap, by unfold maxLen; omega, ?_, ?_⟩⟩, (HO2.out.trans ho3).mono (fun k hk e => by rw [e]; rfl), Or.inl rfl⟩
    · simp only [List.length_append, List.length_take, List.length_drop, hnl]; omega
    · rw [laid_size (by rw [hnl, laid_size (by rw [List.length_drop, hcs]; omega), hcs]; omega), laid_size (by rw [List.length_drop, hcs]; omega), hcs]; omega
    · exact laid_back1 (by omega) hnl (by omega) hct (by rw [hcs]; omega)
  clear hown hcell hcur hct hnew h1 hx1 hh2 ho2 hh3 ho3 HO2
  go_enter Tryz.func111, Tryz.ntmps111
  go_wp2_with fail
  go_region_held3 (fun _ => True) (first | trivial | fail) (fail)
  go_wp2
  go_ret
  exact ⟨_, rfl, HF.out⟩

/-- All ways. -/
theorem insertN_any (v : Value) (n i vb : Nat) (xs news : List Value) (w : World) (hown : w.ownsRow 0 173 1 v n xs) (hnl : news.length = 1) (hnew : w.heap[vb]? = some (.cells news.toArray 173 (0, 0))) (h1 : ∀ u ∈ news, u.oneCell' = true) (hx1 : ∀ u ∈ xs, u.oneCell' = true) (hn : n ≤ 100000) (hi : i ≤ n) (hvb : v.ownBlock ≠ some vb) :
    Calls Tryz.prog 111 #[v, .int .i64 (i : Int), .slice (some ⟨vb, 0, none⟩) 1 1] w fun e w' => ∃ v', e = .returned v' ∧ Grew w w' 173 1 v v' (n + 1) (xs.take i ++ news ++ xs.drop i) := by
  have hxl := hown.1
  by_cases hin : i = n
  · subst hin
    have := insertN_end v i vb xs news w hown hnl hnew h1 hn
    rw [List.take_of_length_le (by omega), List.drop_of_length_le (by omega), List.append_nil]
    exact this
  · rcases owns_cases hown with ⟨_, h0⟩ | ⟨g, cap, rfl, hnc, _⟩
    · omega
    · by_cases hc : cap = n
      · subst hc
        exact insertN_grow g cap i vb xs news w hown hnl hnew h1 hx1 hn (by omega)
      · exact insertN_shift g n cap i vb xs news w hown hnl hnew h1 hx1 hn (by omega) (by omega) (fun e => hvb (by rw [e]; rfl))

end Go.Proofs.YtdeekopdhgjanaaGreatDoor

namespace Go.Lap
open Go.RowKit

/-- Entries alone. -/
abbrev ents (xs : List EV) : List Ent := xs.map (·.e)

def noEV : EV := ⟨⟨[], 0, 0⟩, none, 0⟩

/-- The first one. -/
def hd (xs : List EV) : EV := xs.headD noEV

theorem hd_cons (x : EV) (xs : List EV) : hd (x :: xs) = x := rfl
theorem hd_append {xs : List EV} (h : xs ≠ []) (ys : List EV) : hd (xs ++ ys) = hd xs := by
  rcases xs with _ | ⟨x, xs⟩
  · exact absurd rfl h
  · rfl
theorem hd_get {xs : List EV} (h : xs ≠ []) : xs[0]? = some (hd xs) := by
  rcases xs with _ | ⟨x, xs⟩
  · exact absurd rfl h
  · rfl
theorem hd_mem {xs : List EV} (h : xs ≠ []) : hd xs ∈ xs := List.mem_of_getElem? (hd_get h)

/-- One more entry, where it belongs. -/
def insX (e : EV) (xs : List EV) : List EV := xs.take (posE e.e (ents xs)) ++ e :: xs.drop (posE e.e (ents xs))

theorem ents_insX (e : EV) (xs : List EV) : ents (insX e xs) = insE e.e (ents xs) := by
  rw [insE_eq]
  unfold insX ents
  simp [List.map_take, List.map_drop]

theorem insX_length (e : EV) (xs : List EV) : (insX e xs).length = xs.length + 1 := by
  have := posE_le e.e (ents xs)
  unfold insX
  simp at this ⊢
  omega

theorem insX_ne (e : EV) (xs : List EV) : insX e xs ≠ [] := by
  intro h
  have := insX_length e xs
  rw [h] at this
  simp at this

theorem mem_insX {e x : EV} {xs : List EV} (h : x ∈ insX e xs) : x = e ∨ x ∈ xs := by
  unfold insX at h
  rw [List.mem_append, List.mem_cons] at h
  rcases h with h | h | h
  · exact Or.inr (List.mem_of_mem_take h)
  · exact Or.inl h
  · exact Or.inr (List.mem_of_mem_drop h)

theorem posE_mid {e : Ent} {A P B : List Ent} (hA : ∀ a ∈ A, cmpE a e < 0) (hB : ∀ b ∈ B, ¬ cmpE b e < 0) : posE e (A ++ P ++ B) = A.length + posE e P := by
  induction A with
  | nil =>
    simp only [List.nil_append, List.length_nil, Nat.zero_add]
    induction P with
    | nil =>
      rcases B with _ | ⟨b, B⟩
      · rfl
      · show posE e (b :: B) = 0
        rw [posE_cons, if_neg (hB b (by simp))]
    | cons p P ih =>
      show posE e (p :: (P ++ B)) = _
      rw [posE_cons, posE_cons, ih]
  | cons a A ih =>
    show posE e (a :: (A ++ P ++ B)) = _
    rw [posE_cons, if_pos (hA a (by simp)), ih (fun x hx => hA x (by simp [hx])), List.length_cons]
    omega

theorem insX_mid {e : EV} {A P B : List EV} (hA : ∀ a ∈ A, cmpE a.e e.e < 0) (hB : ∀ b ∈ B, ¬ cmpE b.e e.e < 0) : insX e (A ++ P ++ B) = A ++ insX e P ++ B := by
  have hp : posE e.e (ents (A ++ P ++ B)) = A.length + posE e.e (ents P) := by
    unfold ents
    rw [List.map_append, List.map_append, posE_mid, List.length_map]
    · intro a ha
      obtain ⟨x, hx, rfl⟩ := List.mem_map.1 ha
      exact hA x hx
    · intro b hb
      obtain ⟨x, hx, rfl⟩ := List.mem_map.1 hb
      exact hB x hx
  have hle : posE e.e (ents P) ≤ P.length := by have := posE_le e.e (ents P); simpa using this
  unfold insX
  rw [hp]
  have ht : (A ++ P ++ B).take (A.length + posE e.e (ents P)) = A ++ P.take (posE e.e (ents P)) := by
    rw [List.append_assoc, List.take_length_add_append, List.take_append_of_le_length hle]
  have hd : (A ++ P ++ B).drop (A.length + posE e.e (ents P)) = P.drop (posE e.e (ents P)) ++ B := by
    rw [List.append_assoc, List.drop_length_add_append, List.drop_append_of_le_length hle]
  rw [ht, hd]
  simp

/-- A node below another one: its block, its own blocks, its entries. -/
structure Kid where
  b : Nat
  F : Nat → Prop
  xs : List EV

abbrev heads (ks : List Kid) : List EV := ks.map (fun x => hd x.xs)
abbrev flat (ks : List Kid) : List EV := ks.flatMap (·.xs)
abbrev kptrs (ks : List Kid) : List Value := ks.map (fun x => ptrV x.b)

theorem one_kptrs (ks : List Kid) : ∀ u ∈ kptrs ks, u.oneCell' = true := by
  intro u hu
  obtain ⟨n, _, rfl⟩ := List.mem_map.1 hu
  rfl

end Go.Lap
namespace Go.Proofs.YtdeekopdhgjanaaGreatDoor
open Go.RowKit Go.Lap

/-- A leaf. -/
structure Leaf (K : Nat → Prop) (w : World) (b : Nat) (F : Nat → Prop) (xs : List EV) (v : Value) : Prop where
  box : w.heap[b]? = some (.cells #[v, .slice none 0 0] 183 (0, 0))
  row : RowAt w v xs
  key : ∀ x ∈ xs, Keyd w K x
  foot : F b ∧ (∀ k, v.ownBlock = some k → F k)

/-- A node over others. -/
structure Inner (N : World → Nat → (Nat → Prop) → List EV → Prop) (w : World) (b : Nat) (F : Nat → Prop) (v u : Value) (ks : List Kid) : Prop where
  box : w.heap[b]? = some (.cells #[v, u] 183 (0, 0))
  row : RowAt w v (heads ks)
  kids : w.ownsRow 0 173 1 u ks.length (kptrs ks)
  some_ : ∃ g, u.ownBlock = some g
  two : 2 ≤ ks.length
  kid : ∀ x ∈ ks, x.xs ≠ [] ∧ N w x.b x.F x.xs
  sub : ∀ x ∈ ks, ∀ k, x.F k → F k ∧ k ≠ b ∧ v.ownBlock ≠ some k ∧ u.ownBlock ≠ some k
  apart : ks.Pairwise (fun x y => ∀ k, x.F k → ¬ y.F k)
  foot : F b ∧ (∀ k, v.ownBlock = some k → F k) ∧ (∀ k, u.ownBlock = some k → F k)

/-- Block b is a node of so many rows, with these entries; F: its own blocks; K: where keys lie. -/
def NodeAt (K : Nat → Prop) : Nat → World → Nat → (Nat → Prop) → List EV → Prop
  | 0, w, b, F, xs => ∃ v, Leaf K w b F xs v
  | h + 1, w, b, F, xs => ∃ v u ks, Inner (NodeAt K h) w b F v u ks ∧ xs = flat ks

theorem NodeAt.own {K : Nat → Prop} {h : Nat} {w : World} {b : Nat} {F : Nat → Prop} {xs : List EV} (hn : NodeAt K h w b F xs) : F b ∧ b < w.heap.size := by
  cases h with
  | zero => obtain ⟨v, h⟩ := hn; exact ⟨h.foot.1, lt_of_get h.box⟩
  | succ h => obtain ⟨v, u, ks, h, _⟩ := hn; exact ⟨h.foot.1, lt_of_get h.box⟩

theorem NodeAt.kept {K S : Nat → Prop} {w w' : World} (ho : Only S w w') (hK : ∀ k, K k → ¬ S k) {h : Nat} : ∀ {b : Nat} {F : Nat → Prop} {xs : List EV}, NodeAt K h w b F xs → (∀ k, F k → ¬ S k) → NodeAt K h w' b F xs := by
  induction h with
  | zero =>
    intro b F xs ⟨v, h⟩ hF
    exact ⟨v, ho.get h.box (hF _ h.foot.1), owns_kept h.row ho (fun k e => hF k (h.foot.2 k e)), fun x hx => (h.key x hx).kept ho hK, h.foot⟩
  | succ h ih =>
    intro b F xs ⟨v, u, ks, h, e⟩ hF
    exact ⟨v, u, ks, ⟨ho.get h.box (hF _ h.foot.1), owns_kept h.row ho (fun k e => hF k (h.foot.2.1 k e)), owns_kept h.kids ho (fun k e => hF k (h.foot.2.2 k e)), h.some_, h.two, fun x hx => ⟨(h.kid x hx).1, ih (h.kid x hx).2 (fun k hk => hF k (h.sub x hx k hk).1)⟩, h.sub, h.apart, h.foot⟩, e⟩

theorem NodeAt.mono {K : Nat → Prop} {h : Nat} {w : World} {b : Nat} {F G : Nat → Prop} {xs : List EV} (hn : NodeAt K h w b F xs) (hg : ∀ k, F k → G k) : NodeAt K h w b G xs := by
  cases h with
  | zero => obtain ⟨v, h⟩ := hn; exact ⟨v, h.box, h.row, h.key, hg _ h.foot.1, fun k e => hg _ (h.foot.2 k e)⟩
  | succ h =>
    obtain ⟨v, u, ks, h, e⟩ := hn
    exact ⟨v, u, ks, ⟨h.box, h.row, h.kids, h.some_, h.two, h.kid, fun x hx k hk => ⟨hg _ (h.sub x hx k hk).1, (h.sub x hx k hk).2⟩, h.apart, hg _ h.foot.1, fun k e => hg _ (h.foot.2.1 k e), fun k e => hg _ (h.foot.2.2 k e)⟩, e⟩

theorem NodeAt.keys {K K' : Nat → Prop} {w : World} (hk : ∀ k, K k → K' k) {h : Nat} : ∀ {b : Nat} {F : Nat → Prop} {xs : List EV}, NodeAt K h w b F xs → NodeAt K' h w b F xs := by
  induction h with
  | zero =>
    intro b F xs ⟨v, h⟩
    exact ⟨v, h.box, h.row, fun x hx => (h.key x hx).mono hk, h.foot⟩
  | succ h ih =>
    intro b F xs ⟨v, u, ks, h, e⟩
    exact ⟨v, u, ks, ⟨h.box, h.row, h.kids, h.some_, h.two, fun x hx => ⟨(h.kid x hx).1, ih (h.kid x hx).2⟩, h.sub, h.apart, h.foot⟩, e⟩

theorem NodeAt.key {K : Nat → Prop} {w : World} {h : Nat} : ∀ {b : Nat} {F : Nat → Prop} {xs : List EV}, NodeAt K h w b F xs → ∀ x ∈ xs, Keyd w K x := by
  induction h with
  | zero => intro b F xs ⟨v, h⟩; exact h.key
  | succ h ih =>
    intro b F xs ⟨v, u, ks, h, e⟩ x hx
    rw [e] at hx
    obtain ⟨y, hy, hxy⟩ := List.mem_flatMap.1 hx
    exact ih (h.kid y hy).2 x hxy

/-- Its own blocks are in memory. -/
theorem NodeAt.lim {K : Nat → Prop} {w : World} {h : Nat} : ∀ {b : Nat} {F : Nat → Prop} {xs : List EV}, NodeAt K h w b F xs → NodeAt K h w b (fun k => F k ∧ k < w.heap.size) xs := by
  induction h with
  | zero =>
    intro b F xs ⟨v, h⟩
    exact ⟨v, h.box, h.row, h.key, ⟨h.foot.1, lt_of_get h.box⟩, fun k e => ⟨h.foot.2 k e, (h.row.lt k e).2⟩⟩
  | succ h ih =>
    intro b F xs ⟨v, u, ks, h, e⟩
    refine ⟨v, u, ks.map (fun x => ⟨x.b, fun k => x.F k ∧ k < w.heap.size, x.xs⟩), ⟨h.box, ?_, ?_, h.some_, by simpa using h.two, fun x hx => ?_, fun x hx k hk => ?_, ?_, ⟨h.foot.1, lt_of_get h.box⟩, fun k e => ⟨h.foot.2.1 k e, (h.row.lt k e).2⟩, fun k e => ⟨h.foot.2.2 k e, (h.kids.lt k e).2⟩⟩, ?_⟩
    · rw [heads, List.map_map]; exact h.row
    · rw [kptrs, List.map_map, List.length_map]; exact h.kids
    · obtain ⟨y, hy, rfl⟩ := List.mem_map.1 hx
      exact ⟨(h.kid y hy).1, ih (h.kid y hy).2⟩
    · obtain ⟨y, hy, rfl⟩ := List.mem_map.1 hx
      exact ⟨⟨(h.sub y hy k hk.1).1, hk.2⟩, (h.sub y hy k hk.1).2⟩
    · rw [List.pairwise_map]
      exact h.apart.imp (fun hxy k hk hk' => hxy k hk.1 hk'.1)
    · rw [flat, List.flatMap_map]; exact e

/-- No node over others is without entries; of each row there are two kids at least. -/
theorem NodeAt.many {K : Nat → Prop} {w : World} {h : Nat} : ∀ {b : Nat} {F : Nat → Prop} {xs : List EV}, NodeAt K h w b F xs → (h = 0 → xs ≠ []) → 2 ^ h ≤ xs.length := by
  induction h with
  | zero =>
    intro b F xs _ hx
    have := List.length_pos_iff.2 (hx rfl)
    rw [Nat.pow_zero]
    exact this
  | succ m ih =>
    intro b F xs ⟨v, u, ks, h, e⟩ _
    rw [e]
    have h2 := h.two
    have key : ∀ l : List Kid, (∀ x ∈ l, x.xs ≠ [] ∧ NodeAt K m w x.b x.F x.xs) → l.length * 2 ^ m ≤ (flat l).length := by
      intro l hl
      induction l with
      | nil => simp
      | cons x l ihl =>
        have h1 := ih (hl x (by simp)).2 (fun _ => (hl x (by simp)).1)
        have h2 := ihl (fun y hy => hl y (by simp [hy]))
        rw [List.length_cons, Nat.add_mul, flat, List.flatMap_cons, List.length_append]
        unfold flat at h2
        omega
    have h3 := key ks h.kid
    have : 2 * 2 ^ m ≤ ks.length * 2 ^ m := Nat.mul_le_mul_right _ h2
    rw [Nat.pow_succ]
    omega

end Go.Proofs.YtdeekopdhgjanaaGreatDoor

namespace Go.Proofs.YtdeekopdhgjanaaGreatDoor
open Go.RowKit Go.Lap

section
variable {P : Program}
theorem results_cell1 {fn : Func} {p : Tmp} {ty : TypeId} (h : fn.results = #[.cell p ty]) (tmps : Array Value) (w : World) (g : Nat) (t : TypeId) (cs : Array Value) (fr : Nat × Nat) (d : TypeDesc)
    (hp : tmps.getD p undef = .pointer (some ⟨g, 0, none⟩)) (hg : w.heap[g]? = some (.cells cs t fr))
    (hu : P.underlying ty = some d) (hd : (match d with | .struct _ | .array _ _ => true | _ => false) = true) (hi : (P.info? ty).map (·.size) = some cs.size) :
    (results fn tmps).run P w = .ok (.agg cs) w := by
  have hp' : tmps[p]?.getD undef = .pointer (some ⟨g, 0, none⟩) := by simpa using hp
  simp [results, h, hp', asAddr, run_loadVar_row w g t ty cs fr d hg hu hd hi]
end

theorem info_ent : (Tryz.prog.info? 131).map (·.size) = some 3 := by kernel_rfl

set_option maxRecDepth 100000 in
theorem leaf_any (b : Nat) (v : Value) (A : Option Addr) (n c : Nat) (w : World) (h : w.heap[b]? = some (.cells #[v, .slice A n c] 183 (0, 0))) :
    Calls Tryz.prog 106 #[ptrV b] w fun e w' => e = .returned (.bool A.isNone) ∧ w = w' := by
  have heq := fun (w : World) (a : Option Addr) (n c : Nat) => Lib.run_eql_slice_nil (P := Tryz.prog) w 181 _ a n c 0 0 Tryz.underlying181
  have c1 : w.cell? ⟨b, 1, none⟩ = some (.slice A n c) := by rw [cell_of h]; rfl
  clear h
  go_enter Tryz.func106, Tryz.ntmps106
  go_wp2
  go_ret
  exact ⟨rfl, rfl⟩

theorem Leaf.leaf {K F : Nat → Prop} {w : World} {b : Nat} {xs : List EV} {v : Value} (h : Leaf K w b F xs v) : Calls Tryz.prog 106 #[ptrV b] w fun e w' => e = .returned (.bool true) ∧ w = w' := leaf_any b v none 0 0 w h.box

/-- The row of kids, written out. -/
theorem Inner.form {N : World → Nat → (Nat → Prop) → List EV → Prop} {w : World} {b : Nat} {F : Nat → Prop} {v u : Value} {ks : List Kid} (h : Inner N w b F v u ks) : ∃ g c, u = .slice (some ⟨g, 0, none⟩) ks.length c ∧ ks.length ≤ c ∧ c ≤ maxLen := by
  obtain ⟨g, hg⟩ := h.some_
  rcases owns_cases h.kids with ⟨e, _⟩ | ⟨g', c, e, h1, h2⟩
  · rw [e] at hg; cases hg
  · exact ⟨g', c, e, h1, h2⟩

theorem Inner.leaf {N : World → Nat → (Nat → Prop) → List EV → Prop} {w : World} {b : Nat} {F : Nat → Prop} {v u : Value} {ks : List Kid} (h : Inner N w b F v u ks) : Calls Tryz.prog 106 #[ptrV b] w fun e w' => e = .returned (.bool false) ∧ w = w' := by
  obtain ⟨g, c, e, _⟩ := h.form
  have := h.box
  rw [e] at this
  exact leaf_any b v _ _ _ w this

/-- The row of a node's entries, or of its kids' first ones. -/
theorem NodeAt.row {K F : Nat → Prop} {h : Nat} {w : World} {b : Nat} {xs : List EV} (hn : NodeAt K h w b F xs) (hx : xs ≠ []) : ∃ v u ys, w.heap[b]? = some (.cells #[v, u] 183 (0, 0)) ∧ RowAt w v ys ∧ ys ≠ [] ∧ hd ys = hd xs := by
  cases h with
  | zero => obtain ⟨v, h⟩ := hn; exact ⟨v, _, xs, h.box, h.row, hx, rfl⟩
  | succ h =>
    obtain ⟨v, u, ks, h, e⟩ := hn
    have h2 := h.two
    rcases ks with _ | ⟨x, ks⟩
    · simp at h2
    · refine ⟨v, u, _, h.box, h.row, by simp, ?_⟩
      rw [e, flat, List.flatMap_cons, hd_append (h.kid x (by simp)).1]
      rfl

/-- The cells of an entry of an owned row, at a later world. -/
theorem row_at {w w' : World} {g n c : Nat} {xs : List EV} {j : Nat} {x : EV} (h : RowAt w (.slice (some ⟨g, 0, none⟩) n c) xs) (hj : xs[j]? = some x) (hq : Quiet w w') :
    w'.cell? ⟨g, j * 3, none⟩ = some (.slice x.A x.e.key.length x.c) ∧ w'.cell? ⟨g, j * 3 + 1, none⟩ = some (.int .i64 x.e.pg) ∧ w'.cell? ⟨g, j * 3 + 2, none⟩ = some (.int .i64 x.e.sl) := by
  obtain ⟨h1, h2, h3⟩ := rowV_get hj
  have key : ∀ k u, (rowV xs)[k]? = some u → w'.cell? ⟨g, k, none⟩ = some u := fun k u hu => by
    have := h.cells rfl k u hu
    rw [add_none, Nat.zero_add] at this
    exact hq.cell this (fun x => x)
  exact ⟨key _ _ h1, key _ _ h2, key _ _ h3⟩

set_option maxHeartbeats 400000 in
set_option maxRecDepth 100000 in
theorem least_exact {K F : Nat → Prop} {h : Nat} {w : World} {b : Nat} {xs : List EV} (hn : NodeAt K h w b F xs) (hx : xs ≠ []) :
    Calls Tryz.prog 79 #[ptrV b] w fun e w' => e = .returned (entV (hd xs).e (hd xs).A (hd xs).c) ∧ w' = w.alloc (.cells #[.slice (hd xs).A (hd xs).e.key.length (hd xs).c, .int .i64 (hd xs).e.pg, .int .i64 (hd xs).e.sl] 131) := by
  obtain ⟨v, u, ys, hbox, hrow, hys, he⟩ := hn.row hx
  rw [← he]
  have hl : 0 < ys.length := List.length_pos_iff.2 hys
  obtain ⟨g, c, rfl, hc, hcm⟩ : ∃ g c, v = .slice (some ⟨g, 0, none⟩) ys.length c ∧ ys.length ≤ c ∧ c ≤ maxLen := by
    rcases owns_cases hrow with ⟨_, e⟩ | ⟨g, c, e, h1, h2⟩
    · omega
    · exact ⟨g, c, e, h1, h2⟩
  obtain ⟨c0, c1, c2⟩ := row_at hrow (hd_get hys) (w' := w.alloc (.cells #[.slice none 0 0, .int .i64 0, .int .i64 0] 131)) ((Only.refl (fun _ => False) w).alloc _)
  rw [Nat.zero_mul] at c0 c1 c2
  rw [Nat.zero_add] at c1 c2
  have d0 : (0 : Int) < (ys.length : Int) := by omega
  have hb1 := alloc_old hbox (.cells #[.slice none 0 0, .int .i64 0, .int .i64 0] 131)
  have b0 : (w.alloc (.cells #[.slice none 0 0, .int .i64 0, .int .i64 0] 131)).cell? ⟨b, 0, none⟩ = some (.slice (some ⟨g, 0, none⟩) ys.length c) := by rw [cell_of hb1]; rfl
  generalize hd ys = y at *
  clear hn hx hbox hb1 hrow he hys
  go_enter Tryz.func79, Tryz.ntmps79
  go_wp2
  exact bodyPost_ret (results_cell1 Tryz.results79 _ _ w.heap.size _ _ (0, 0) _ (by rfl) (alloc_new w _) Tryz.underlying131 rfl info_ent) (by rfl) ⟨rfl, rfl⟩

theorem least_any {K F : Nat → Prop} {h : Nat} {w : World} {b : Nat} {xs : List EV} (hn : NodeAt K h w b F xs) (hx : xs ≠ []) :
    Calls Tryz.prog 79 #[ptrV b] w fun e w' => e = .returned (entV (hd xs).e (hd xs).A (hd xs).c) ∧ Quiet w w' :=
  (least_exact hn hx).mono fun _ _ ⟨he, hw⟩ => ⟨he, by rw [hw]; exact (Only.refl _ _).alloc _⟩

/-- The kid below which an entry stands. -/
def belowE (t : Ent) (es : List Ent) : Nat := if t ∈ es then posE t es else posE t es - 1

structure Below1 (t : Ent) (es : List Ent) (i : Nat) : Prop where
  lt : i < es.length
  left : i = 0 ∨ ∀ y, es[i]? = some y → ¬ cmpE t y < 0
  right : ∀ j y, i < j → es[j]? = some y → cmpE t y < 0

theorem below_spec {t : Ent} {es : List Ent} (hs : Rising es) (h0 : es ≠ []) : Below1 t es (belowE t es) := by
  have hl := List.length_pos_iff.2 h0
  have hp := posE_le t es
  unfold belowE
  by_cases hm : t ∈ es
  · rw [if_pos hm]
    have ht := (posE_mem hs).1 hm
    have hlt := (List.getElem?_eq_some_iff.1 ht).1
    refine ⟨hlt, Or.inr (fun y hy => ?_), fun j y hj hy => hs.get hj ht hy⟩
    rw [ht] at hy
    injection hy with hy
    rw [← hy, cmpE_self]
    omega
  · rw [if_neg hm]
    refine ⟨by omega, ?_, fun j y hj hy => posE_behind hs hm (j := j) (by omega) hy⟩
    · by_cases h1 : posE t es = 0
      · exact Or.inl (by omega)
      · right
        intro y hy h
        have := posE_before (e := t) (l := es) (j := posE t es - 1) (by omega) hy
        have := cmpE_trans h this
        rw [cmpE_self] at this
        omega

set_option maxHeartbeats 1000000 in
set_option maxRecDepth 100000 in
theorem below_any (b : Nat) (v u : Value) (ys : List EV) (t : EV) (K K' : Nat → Prop) (w : World) (hbox : w.heap[b]? = some (.cells #[v, u] 183 (0, 0))) (hrow : RowAt w v ys) (hk : ∀ x ∈ ys, Keyd w K x) (ht : Keyd w K' t) (hs : Rising (ents ys)) (hl : ys.length ≤ 100000) :
    Calls Tryz.prog 110 #[ptrV b, entV t.e t.A t.c] w fun e w' => e = .returned (.int .i64 (belowE t.e (ents ys) : Int)) ∧ Quiet w w' := by
  obtain ⟨A, c, rfl, hc, hcm, hrd⟩ := own_form hrow
  have hq0 : Quiet w (w.alloc (.cells #[.slice t.A t.e.key.length t.c, .int .i64 t.e.pg, .int .i64 t.e.sl] 131)) := (Only.refl _ _).alloc _
  have HQ0 := Lib.hid hq0
  have b0 : (w.alloc (.cells #[.slice t.A t.e.key.length t.c, .int .i64 t.e.pg, .int .i64 t.e.sl] 131)).cell? ⟨b, 0, none⟩ = some (.slice A ys.length c) := by rw [cell_of (hq0.get hbox (fun x => x))]; rfl
  obtain ⟨t0, t1, t2⟩ := ent_cells (alloc_new w (.cells #[.slice t.A t.e.key.length t.c, .int .i64 t.e.pg, .int .i64 t.e.sl] 131))
  have HSR := Lib.hid (search_any ys t A c _ K K' _ (hrd.kept hq0.drew (fun _ _ x => x)) (fun x hx => (hk x hx).quietly hq0.drew) (ht.quietly hq0.drew) hs hl)
  have hpl : posE t.e (ents ys) ≤ ys.length := by have := posE_le t.e (ents ys); simpa using this
  have HR : Hid (belowE t.e (ents ys) = if t.e ∈ ents ys then posE t.e (ents ys) else posE t.e (ents ys) - 1) := rfl
  generalize posE t.e (ents ys) = p at *
  generalize belowE t.e (ents ys) = r at *
  by_cases hm : t.e ∈ ents ys
  · rw [if_pos hm] at HR
    have HSR' := HSR.out
    rw [decide_eq_true hm] at HSR'
    have HS := Lib.hid HSR'
    clear hbox hrow hrd hk ht hs hq0 HSR HSR' hm
    go_enter Tryz.func110, Tryz.ntmps110
    go_wp2_with fail
    go_region_held3 (fun w' => w'.cell? ⟨b, 0, none⟩ = some (.slice A ys.length c) ∧ w'.cell? ⟨w.heap.size, 0, none⟩ = some (.slice t.A t.e.key.length t.c) ∧ w'.cell? ⟨w.heap.size, 1, none⟩ = some (.int .i64 t.e.pg) ∧ w'.cell? ⟨w.heap.size, 2, none⟩ = some (.int .i64 t.e.sl))
      (first | go_keep | fail)
      (first
        | (go_at_call 107; go_must (refine HS.out.mono ?_; rintro e w2 ⟨rfl, hq2⟩; have k0 := hq2.cell b0 (fun x => x); have k1 := hq2.cell t0 (fun x => x); have k2 := hq2.cell t1 (fun x => x); have k3 := hq2.cell t2 (fun x => x)))
        | fail)
    have HQ2 := Lib.hid (HQ0.out.drew.trans hq2)
    clear hq2 k0 k1 k2 k3 b0 t0 t1 t2 HS HQ0
    go_wp2
    go_ret
    rw [HR.out]
    exact ⟨rfl, HQ2.out⟩
  · rw [if_neg hm] at HR
    have HSR' := HSR.out
    rw [decide_eq_false hm] at HSR'
    have HS := Lib.hid HSR'
    clear hbox hrow hrd hk ht hs hq0 HSR HSR' hm
    go_enter Tryz.func110, Tryz.ntmps110
    go_wp2_with fail
    go_region_held3 (fun w' => w'.cell? ⟨b, 0, none⟩ = some (.slice A ys.length c) ∧ w'.cell? ⟨w.heap.size, 0, none⟩ = some (.slice t.A t.e.key.length t.c) ∧ w'.cell? ⟨w.heap.size, 1, none⟩ = some (.int .i64 t.e.pg) ∧ w'.cell? ⟨w.heap.size, 2, none⟩ = some (.int .i64 t.e.sl))
      (first | go_keep | fail)
      (first
        | (go_at_call 107; go_must (refine HS.out.mono ?_; rintro e w2 ⟨rfl, hq2⟩; have k0 := hq2.cell b0 (fun x => x); have k1 := hq2.cell t0 (fun x => x); have k2 := hq2.cell t1 (fun x => x); have k3 := hq2.cell t2 (fun x => x)))
        | fail)
    have HQ2 := Lib.hid (HQ0.out.drew.trans hq2)
    clear hq2 k0 k1 k2 k3 b0 t0 t1 t2 HS HQ0
    go_wp2
    go_ret
    rw [HR.out, show ((p - 1 : Nat) : Int) = max ((p : Int) - 1) 0 by omega]
    exact ⟨rfl, HQ2.out⟩

/-- A new entry, whose key is new. -/
def CopyPost (w : World) (e0 : Ent) (e : Ending) (w' : World) : Prop :=
  ∃ A c, e = .returned (entV e0 A c) ∧ Quiet w w' ∧ Rd w' (fun k => w.heap.size ≤ k ∧ k < w'.heap.size) 1 A e0.key.length (bytesV e0.key)

end Go.Proofs.YtdeekopdhgjanaaGreatDoor

namespace Go.Proofs.YtdeekopdhgjanaaGreatDoor
open Go.RowKit Go.Lap

/-- What split leaves. -/
structure Cleft (K : Nat → Prop) (h : Nat) (w w' : World) (b : Nat) (F : Nat → Prop) (xs : List EV) (r : Nat) (F1 F2 : Nat → Prop) (x1 x2 : List EV) : Prop where
  all : xs = x1 ++ x2
  ne1 : x1 ≠ []
  ne2 : x2 ≠ []
  n1 : NodeAt K h w' b F1 x1
  n2 : NodeAt K h w' r F2 x2
  apart : ∀ k, F1 k → ¬ F2 k
  sub1 : ∀ k, F1 k → F k ∨ w.heap.size ≤ k
  sub2 : ∀ k, F2 k → F k ∨ w.heap.size ≤ k
  only : Only F w w'

def SplitPost (K : Nat → Prop) (h : Nat) (w : World) (b : Nat) (F : Nat → Prop) (xs : List EV) (e : Ending) (w' : World) : Prop :=
  (e = .returned (.pointer none) ∧ w = w') ∨ ∃ r F1 F2 x1 x2, e = .returned (ptrV r) ∧ Cleft K h w w' b F xs r F1 F2 x1 x2

set_option maxRecDepth 100000 in
theorem split_none (b : Nat) (v u : Value) (ys : List EV) (w : World) (hbox : w.heap[b]? = some (.cells #[v, u] 183 (0, 0))) (hrow : RowAt w v ys) (hl : ys.length ≤ 8) :
    Calls Tryz.prog 78 #[ptrV b] w fun e w' => e = .returned (.pointer none) ∧ w = w' := by
  obtain ⟨A, c, rfl, hc, hcm, _⟩ := own_form hrow
  have b0 : w.cell? ⟨b, 0, none⟩ = some (.slice A ys.length c) := by rw [cell_of hbox]; rfl
  have d : decide ((ys.length : Int) ≤ 8) = true := decide_eq_true (by omega)
  clear hbox hrow
  go_enter Tryz.func78, Tryz.ntmps78
  go_wp2
  go_ret
  exact ⟨rfl, rfl⟩

theorem row_rd {w : World} {v : Value} {g n c : Nat} {ys : List EV} (h : RowAt w v ys) (e : v = .slice (some ⟨g, 0, none⟩) n c) : Rd w (· = g) 3 (some ⟨g, 0, none⟩) ys.length (rowV ys) := by
  subst e
  refine ⟨by rw [rowV_length], fun _ => ⟨g, 0, rfl, rfl, fun j u hu => ?_⟩⟩
  have := h.cells rfl j u hu
  rw [add_none] at this
  exact this

/-- The worlds of a split: the new row of the second half, the new node, the new row of the first. -/
structure CleftW (w w3 : World) (b r : Nat) (v1 v2 u : Value) (ys : List EV) (k : Nat) : Prop where
  only : Only (· = b) w (w3.setCell ⟨b, 0, none⟩ v1)
  box : (w3.setCell ⟨b, 0, none⟩ v1).heap[b]? = some (.cells #[v1, u] 183 (0, 0))
  new : (w3.setCell ⟨b, 0, none⟩ v1).heap[r]? = some (.cells #[v2, .slice none 0 0] 183 (0, 0))
  row1 : RowAt (w3.setCell ⟨b, 0, none⟩ v1) v1 (ys.take k)
  row2 : RowAt (w3.setCell ⟨b, 0, none⟩ v1) v2 (ys.drop k)
  fresh : w.heap.size ≤ r ∧ (∀ j, v1.ownBlock = some j → w.heap.size ≤ j ∧ j ≠ r ∧ v2.ownBlock ≠ some j) ∧ (∀ j, v2.ownBlock = some j → w.heap.size ≤ j ∧ j ≠ r)

theorem cleftW_mk {w w1 w3 : World} {b k : Nat} {v v1 v2 u : Value} {ys : List EV} (hbox : w.heap[b]? = some (.cells #[v, u] 183 (0, 0))) (hk : k ≤ ys.length)
    (h1 : NewRow w w1 131 3 v2 (ys.length - k) (rowV (ys.drop k))) (h3 : NewRow (w1.alloc (.cells #[v2, .slice none 0 0] 183)) w3 131 3 v1 k (rowV (ys.take k))) : CleftW w w3 b w1.heap.size v1 v2 u ys k := by
  have hb := lt_of_get hbox
  have hz1 := h1.quiet.size
  have hz3 := h3.quiet.size
  rw [World.size_alloc] at hz3
  obtain ⟨j1, e1, l1⟩ := h3.loc
  obtain ⟨j2, e2, l2⟩ := h1.loc
  rw [World.size_alloc] at l1
  have hj2 := (h1.own.lt j2 e2).2
  have hq : Quiet w w3 := (h1.quiet.alloc _).trans h3.quiet
  have hset : Only (· = b) w3 (w3.setCell ⟨b, 0, none⟩ v1) := (Only.refl (· = b) w3).setCell (p := ⟨b, 0, none⟩) (fun _ => rfl) _
  refine ⟨(hq.mono (T := (· = b)) (fun _ _ x => x.elim)).trans hset, ?_, ?_, ?_, ?_, hz1, fun j e => ?_, fun j e => ?_⟩
  · rw [set_same (hq.get hbox (fun x => x)) 0 v1]; rfl
  · exact hset.get (h3.quiet.get (alloc_new w1 _) (fun x => x)) (by show ¬ w1.heap.size = b; omega)
  · have hl : (ys.take k).length = k := by rw [List.length_take]; omega
    unfold RowAt
    rw [hl]
    exact owns_kept h3.own hset (fun j e x => by rw [e1] at e; injection e with e; omega)
  · have hl : (ys.drop k).length = ys.length - k := List.length_drop
    unfold RowAt
    rw [hl]
    exact owns_kept (owns_kept (owns_kept h1.own ((Only.refl (fun _ => False) w1).alloc _) (fun _ _ x => x)) h3.quiet (fun _ _ x => x)) hset (fun j e x => by rw [e2] at e; injection e with e; omega)
  · rw [e1] at e
    injection e with e
    exact ⟨by omega, by omega, fun x => by rw [e2] at x; injection x with x; omega⟩
  · rw [e2] at e
    injection e with e
    exact ⟨by omega, by omega⟩

theorem CleftW.leaf {K F : Nat → Prop} {w w3 : World} {b r k : Nat} {v v1 v2 : Value} {xs : List EV} (h : CleftW w w3 b r v1 v2 (.slice none 0 0) xs k) (hl : Leaf K w b F xs v) (hK : ∀ j, K j → ¬ F j) (hk0 : 0 < k) (hk : k < xs.length) :
    Cleft K 0 w (w3.setCell ⟨b, 0, none⟩ v1) b F xs r (fun j => j = b ∨ v1.ownBlock = some j) (fun j => j = r ∨ v2.ownBlock = some j) (xs.take k) (xs.drop k) := by
  have hb := lt_of_get hl.box
  have hkey : ∀ x ∈ xs, Keyd (w3.setCell ⟨b, 0, none⟩ v1) K x := fun x hx => (hl.key x hx).kept h.only (fun j hj e => hK j hj (by rw [e]; exact hl.foot.1))
  refine ⟨(List.take_append_drop k xs).symm, fun e => ?_, fun e => ?_, ⟨v1, h.box, h.row1, fun x hx => hkey x (List.mem_of_mem_take hx), Or.inl rfl, fun j e => Or.inr e⟩, ⟨v2, h.new, h.row2, fun x hx => hkey x (List.mem_of_mem_drop hx), Or.inl rfl, fun j e => Or.inr e⟩, fun j x y => ?_, fun j x => ?_, fun j x => ?_, h.only.mono (fun j _ e => by rw [e]; exact hl.foot.1)⟩
  · have := congrArg List.length e; rw [List.length_take, List.length_nil] at this; omega
  · have := congrArg List.length e; rw [List.length_drop, List.length_nil] at this; omega
  · have hf := h.fresh
    rcases x with x | x <;> rcases y with y | y
    · omega
    · have := (hf.2.2 j y).1; omega
    · exact (hf.2.1 j x).2.1 y
    · exact (hf.2.1 j x).2.2 y
  · rcases x with x | x
    · exact Or.inl (by rw [x]; exact hl.foot.1)
    · exact Or.inr (h.fresh.2.1 j x).1
  · rcases x with x | x
    · exact Or.inr (by rw [x]; exact h.fresh.1)
    · exact Or.inr (h.fresh.2.2 j x).1

set_option maxHeartbeats 1000000 in
set_option maxRecDepth 100000 in
theorem split_leaf {K F : Nat → Prop} {w : World} {b : Nat} {xs : List EV} {v : Value} (hl : Leaf K w b F xs v) (hK : ∀ j, K j → ¬ F j) (hn : xs.length ≤ 100000) :
    Calls Tryz.prog 78 #[ptrV b] w (SplitPost K 0 w b F xs) := by
  by_cases h8 : xs.length ≤ 8
  · exact (split_none b v _ xs w hl.box hl.row h8).mono (fun e w' h => Or.inl h)
  · obtain ⟨g, c, hv, hc, hcm⟩ : ∃ g c, v = .slice (some ⟨g, 0, none⟩) xs.length c ∧ xs.length ≤ c ∧ c ≤ maxLen := by
      rcases owns_cases hl.row with ⟨_, e⟩ | ⟨g, c, e, h1, h2⟩
      · omega
      · exact ⟨g, c, e, h1, h2⟩
    obtain ⟨k, hk⟩ : ∃ k, xs.length / 2 = k := ⟨_, rfl⟩
    have hrd := row_rd hl.row hv
    have b0 : w.cell? ⟨b, 0, none⟩ = some (.slice (some ⟨g, 0, none⟩) xs.length c) := by rw [cell_of hl.box, ← hv]; rfl
    have HL := Lib.hid hl
    have HV := Lib.hid hv
    have HK := Lib.hid hK
    have HRD := Lib.hid hrd
    have HD1 := Lib.hid (hrd.drop (k := k) (by omega))
    have hb := lt_of_get hl.box
    have hkk : 4 ≤ k ∧ k < xs.length := by omega
    have q0 : (0 : Int) ≤ (xs.length : Int) / 2 := by omega
    have q1 : (xs.length : Int) / 2 ≤ (xs.length : Int) := by omega
    have q2 : ((xs.length : Int) / 2).toNat = k := by omega
    have q3 : ¬ c = k := by omega
    have d8 : decide ((xs.length : Int) ≤ 8) = false := decide_eq_false (by omega)
    have hcm' : c ≤ 9223372036854775807 := by unfold maxLen at hcm; omega
    have HC1 := Lib.hid (clone_ent ⟨g, 0 + k * 3, none⟩ (xs.length - k) (c - k) _ (· = g) w HD1.out (fun u hu => one_row xs u (List.mem_of_mem_drop hu)) (by omega))
    rw [Nat.zero_add] at HC1
    clear hrd hK hl hk hcm hv
    go_enter Tryz.func78, Tryz.ntmps78
    have HBX : Hid (w.heap[b]? = some (.cells #[.slice (some ⟨g, 0, none⟩) xs.length c, .slice none 0 0] 183 (0, 0))) := by rw [← HV.out]; exact HL.out.box
    go_wp2_with fail
    refine HC1.out.mono ?_
    rintro e w1 ⟨v2, rfl, h1⟩
    rw [← rowV_drop] at h1
    obtain ⟨A2, c2, hv2, _, _, _⟩ := own_form h1.own
    subst hv2
    have HN1 := Lib.hid h1
    have hq2 : Quiet w (w1.alloc (.cells #[.slice A2 (xs.length - k) c2, .slice none 0 0] 183)) := h1.quiet.alloc _
    have hb2 := hq2.get HBX.out (fun x => x)
    have HB2 := Lib.hid hb2
    have HC2 := Lib.hid (clone_ent ⟨g, 0, none⟩ k c _ (· = g) _ ((HRD.out.takeK (k := k) (by omega)).kept hq2 (fun _ _ x => x)) (fun u hu => one_row xs u (List.mem_of_mem_take hu)) (by omega))
    have b0' : (w1.alloc (.cells #[.slice A2 (xs.length - k) c2, .slice none 0 0] 183)).cell? ⟨b, 0, none⟩ = some (.slice (some ⟨g, 0, none⟩) xs.length c) := hq2.cell b0 (fun x => x)
    clear h1 HC1 HD1 b0 hb2 hq2
    go_wp2_with fail
    refine HC2.out.mono ?_
    rintro e w3 ⟨v1, rfl, h3⟩
    rw [← rowV_take] at h3
    obtain ⟨A1, c1, hv1, _, _, _⟩ := own_form h3.own
    subst hv1
    have hb3 := h3.quiet.get HB2.out (fun x => x)
    have HCW := Lib.hid (cleftW_mk HBX.out (by omega) HN1.out h3)
    have b3 : w3.cell? ⟨b, 0, none⟩ = some (.slice (some ⟨g, 0, none⟩) xs.length c) := h3.quiet.cell b0' (fun x => x)
    have f3 := fun o => frozen_of hb3 o
    clear h3 HC2 b0' hb3 HN1 HRD HB2
    have HLF := Lib.hid (leaf_any b _ _ _ _ _ HCW.out.box)
    go_wp2_with fail
    refine HLF.out.mono ?_
    rintro e w4 ⟨rfl, rfl⟩
    have HR := Lib.hid (HCW.out.leaf HL.out HK.out (by omega) (by omega))
    clear HLF HCW b3 f3
    go_wp2
    go_ret
    exact Or.inr ⟨_, _, _, _, _, rfl, HR.out⟩

/-- The worlds of a split of a node over others. -/
structure CleftI (w w8 : World) (b r : Nat) (v1 v2 u1 u2 : Value) (ys : List EV) (ps : List Value) (k : Nat) : Prop where
  only : Only (· = b) w w8
  box1 : w8.heap[b]? = some (.cells #[v1, u1] 183 (0, 0))
  box2 : w8.heap[r]? = some (.cells #[v2, u2] 183 (0, 0))
  row1 : RowAt w8 v1 (ys.take k)
  row2 : RowAt w8 v2 (ys.drop k)
  kid1 : w8.ownsRow 0 173 1 u1 k (ps.take k)
  kid2 : w8.ownsRow 0 173 1 u2 (ps.length - k) (ps.drop k)
  some1 : ∃ g, u1.ownBlock = some g
  some2 : ∃ g, u2.ownBlock = some g
  fresh : w.heap.size ≤ r ∧ (∀ j, v1.ownBlock = some j → w.heap.size ≤ j ∧ j ≠ r ∧ v2.ownBlock ≠ some j ∧ u2.ownBlock ≠ some j) ∧ (∀ j, v2.ownBlock = some j → w.heap.size ≤ j ∧ j ≠ r) ∧ (∀ j, u1.ownBlock = some j → w.heap.size ≤ j ∧ j ≠ r ∧ v2.ownBlock ≠ some j ∧ u2.ownBlock ≠ some j) ∧ (∀ j, u2.ownBlock = some j → w.heap.size ≤ j ∧ j ≠ r)

theorem cleftI_mk {w w3 w5 w7 : World} {b r k : Nat} {v1 v2 u u1 u2 : Value} {ys : List EV} {ps : List Value} (hb : b < w.heap.size) (h : CleftW w w3 b r v1 v2 u ys k)
    (h5 : NewRow (w3.setCell ⟨b, 0, none⟩ v1) w5 173 1 u2 (ps.length - k) (ps.drop k)) (h7 : NewRow (w5.setCell ⟨r, 1, none⟩ u2) w7 173 1 u1 k (ps.take k)) :
    CleftI w (w7.setCell ⟨b, 1, none⟩ u1) b r v1 v2 u1 u2 ys ps k := by
  obtain ⟨hr, hf1, hf2⟩ := h.fresh
  have hz4 := h.only.size
  have hz5 := h5.quiet.size
  have hz7 := h7.quiet.size
  have hs6 : Only (· = r) w5 (w5.setCell ⟨r, 1, none⟩ u2) := (Only.refl (· = r) w5).setCell (p := ⟨r, 1, none⟩) (fun _ => rfl) _
  have hz6 := hs6.size
  have hs8 : Only (· = b) w7 (w7.setCell ⟨b, 1, none⟩ u1) := (Only.refl (· = b) w7).setCell (p := ⟨b, 1, none⟩) (fun _ => rfl) _
  obtain ⟨j1, e1, l1⟩ := h7.loc
  obtain ⟨j2, e2, l2⟩ := h5.loc
  have hj2 := (h5.own.lt j2 e2).2
  have hrl := lt_of_get h.new
  have hr5 := h5.quiet.get h.new (fun x => x)
  have hb5 := h5.quiet.get h.box (fun x => x)
  have hr6 := set_same hr5 1 u2
  have hb6 := hs6.get hb5 (show ¬ b = r by omega)
  have hr7 := h7.quiet.get hr6 (fun x => x)
  have hb7 := h7.quiet.get hb6 (fun x => x)
  have v1l : ∀ j, v1.ownBlock = some j → j < (w3.setCell ⟨b, 0, none⟩ v1).heap.size := fun j e => (h.row1.lt j e).2
  have v2l : ∀ j, v2.ownBlock = some j → j < (w3.setCell ⟨b, 0, none⟩ v1).heap.size := fun j e => (h.row2.lt j e).2
  have keep : ∀ {e : TypeId} {sz n : Nat} {v : Value} {xs : List Value}, (w3.setCell ⟨b, 0, none⟩ v1).ownsRow 0 e sz v n xs → (∀ j, v.ownBlock = some j → j ≠ r ∧ j ≠ b) → (w7.setCell ⟨b, 1, none⟩ u1).ownsRow 0 e sz v n xs := fun ho hn =>
    owns_kept (owns_kept (owns_kept (owns_kept ho h5.quiet (fun _ _ x => x)) hs6 (fun j e => (hn j e).1)) h7.quiet (fun _ _ x => x)) hs8 (fun j e => (hn j e).2)
  refine ⟨?_, ?_, ?_, keep h.row1 (fun j e => ⟨(hf1 j e).2.1, by have := (hf1 j e).1; omega⟩), keep h.row2 (fun j e => ⟨(hf2 j e).2, by have := (hf2 j e).1; omega⟩), ?_, ?_, ⟨j1, e1⟩, ⟨j2, e2⟩, hr, fun j e => ⟨(hf1 j e).1, (hf1 j e).2.1, (hf1 j e).2.2, fun x => ?_⟩, hf2, fun j e => ?_, fun j e => ?_⟩
  · exact (((h.only.trans' h5.quiet (fun _ _ x => x.elim)).trans' hs6 (fun k hk e => by omega)).trans' h7.quiet (fun _ _ x => x.elim)).trans hs8
  · rw [set_same hb7 1 u1]; rfl
  · have := hs8.get hr7 (show ¬ r = b by omega)
    rw [this]; rfl
  · exact owns_kept h7.own hs8 (fun j e x => by rw [e1] at e; injection e with e; omega)
  · exact owns_kept (owns_kept (owns_kept h5.own hs6 (fun j e x => by rw [e2] at e; injection e with e; omega)) h7.quiet (fun _ _ x => x)) hs8 (fun j e x => by rw [e2] at e; injection e with e; omega)
  · rw [e2] at x
    injection x with x
    have := v1l j e
    omega
  · rw [e1] at e
    injection e with e
    refine ⟨by omega, by omega, fun x => ?_, fun x => ?_⟩
    · have := v2l j x; omega
    · rw [e2] at x; injection x with x; omega
  · rw [e2] at e
    injection e with e
    exact ⟨by omega, by omega⟩

theorem CleftI.inner {K F : Nat → Prop} {h : Nat} {w w8 : World} {b r k : Nat} {v u v1 v2 u1 u2 : Value} {ks : List Kid} (hc : CleftI w w8 b r v1 v2 u1 u2 (heads ks) (kptrs ks) k) (hi : Inner (NodeAt K h) w b F v u ks) (hK : ∀ j, K j → ¬ F j) (hlim : ∀ x ∈ ks, ∀ j, x.F j → j < w.heap.size) (hk0 : 2 ≤ k) (hk : k + 2 ≤ ks.length) :
    Cleft K (h + 1) w w8 b F (flat ks) r (fun j => j = b ∨ v1.ownBlock = some j ∨ u1.ownBlock = some j ∨ ∃ x ∈ ks.take k, x.F j) (fun j => j = r ∨ v2.ownBlock = some j ∨ u2.ownBlock = some j ∨ ∃ x ∈ ks.drop k, x.F j) (flat (ks.take k)) (flat (ks.drop k)) := by
  obtain ⟨hr, hf1, hf2, hf3, hf4⟩ := hc.fresh
  have hb := lt_of_get hi.box
  have hkid : ∀ x ∈ ks, x.xs ≠ [] ∧ NodeAt K h w8 x.b x.F x.xs := fun x hx => ⟨(hi.kid x hx).1, NodeAt.kept hc.only (fun j hj e => hK j hj (by rw [e]; exact hi.foot.1)) (hi.kid x hx).2 (fun j hj e => (hi.sub x hx j hj).2.1 e)⟩
  have hkl : (kptrs ks).length = ks.length := by simp
  have hne : ∀ l : List Kid, (∀ x ∈ l, x ∈ ks) → l ≠ [] → flat l ≠ [] := fun l hl h0 e => by
    rcases l with _ | ⟨x, l⟩
    · exact h0 rfl
    · rw [flat, List.flatMap_cons] at e
      exact (hi.kid x (hl x (by simp))).1 (List.append_eq_nil_iff.1 e).1
  have hcross : ∀ x ∈ ks.take k, ∀ y ∈ ks.drop k, ∀ j, x.F j → ¬ y.F j := by
    have := hi.apart
    rw [← List.take_append_drop k ks, List.pairwise_append] at this
    exact this.2.2
  refine ⟨?_, hne _ (fun x hx => List.mem_of_mem_take hx) (fun e => ?_), hne _ (fun x hx => List.mem_of_mem_drop hx) (fun e => ?_), ⟨v1, u1, ks.take k, ⟨hc.box1, ?_, ?_, hc.some1, ?_, fun x hx => hkid x (List.mem_of_mem_take hx), fun x hx j hj => ?_, hi.apart.sublist (List.take_sublist _ _), Or.inl rfl, fun j e => Or.inr (Or.inl e), fun j e => Or.inr (Or.inr (Or.inl e))⟩, rfl⟩, ⟨v2, u2, ks.drop k, ⟨hc.box2, ?_, ?_, hc.some2, ?_, fun x hx => hkid x (List.mem_of_mem_drop hx), fun x hx j hj => ?_, hi.apart.sublist (List.drop_sublist _ _), Or.inl rfl, fun j e => Or.inr (Or.inl e), fun j e => Or.inr (Or.inr (Or.inl e))⟩, rfl⟩, fun j x y => ?_, fun j x => ?_, fun j x => ?_, hc.only.mono (fun j _ e => by rw [e]; exact hi.foot.1)⟩
  · rw [← List.flatMap_append, List.take_append_drop]
  · have := congrArg List.length e; rw [List.length_take, List.length_nil] at this; omega
  · have := congrArg List.length e; rw [List.length_drop, List.length_nil] at this; omega
  · rw [heads, List.map_take]; exact hc.row1
  · rw [kptrs, List.map_take, List.length_take, Nat.min_eq_left (by omega)]; exact hc.kid1
  · rw [List.length_take]; omega
  · have hx' := List.mem_of_mem_take hx
    have hl := hlim x hx' j hj
    exact ⟨Or.inr (Or.inr (Or.inr ⟨x, hx, hj⟩)), (hi.sub x hx' j hj).2.1, fun e => by have := (hf1 j e).1; omega, fun e => by have := (hf3 j e).1; omega⟩
  · rw [heads, List.map_drop]; exact hc.row2
  · rw [kptrs, List.map_drop, List.length_drop]; have := hc.kid2; rw [hkl] at this; exact this
  · rw [List.length_drop]; omega
  · have hx' := List.mem_of_mem_drop hx
    have hl := hlim x hx' j hj
    exact ⟨Or.inr (Or.inr (Or.inr ⟨x, hx, hj⟩)), by omega, fun e => by have := (hf2 j e).1; omega, fun e => by have := (hf4 j e).1; omega⟩
  · rcases x with x | x | x | ⟨x, hx, hxj⟩
    · rcases y with y | y | y | ⟨y, hy, hyj⟩
      · omega
      · have := (hf2 j y).1; omega
      · have := (hf4 j y).1; omega
      · exact (hi.sub y (List.mem_of_mem_drop hy) j hyj).2.1 x
    · rcases y with y | y | y | ⟨y, hy, hyj⟩
      · exact (hf1 j x).2.1 y
      · exact (hf1 j x).2.2.1 y
      · exact (hf1 j x).2.2.2 y
      · have := hlim y (List.mem_of_mem_drop hy) j hyj; have := (hf1 j x).1; omega
    · rcases y with y | y | y | ⟨y, hy, hyj⟩
      · exact (hf3 j x).2.1 y
      · exact (hf3 j x).2.2.1 y
      · exact (hf3 j x).2.2.2 y
      · have := hlim y (List.mem_of_mem_drop hy) j hyj; have := (hf3 j x).1; omega
    · have hl := hlim x (List.mem_of_mem_take hx) j hxj
      rcases y with y | y | y | ⟨y, hy, hyj⟩
      · omega
      · have := (hf2 j y).1; omega
      · have := (hf4 j y).1; omega
      · exact hcross x hx y hy j hxj hyj
  · rcases x with x | x | x | ⟨x, hx, hxj⟩
    · exact Or.inl (by rw [x]; exact hi.foot.1)
    · exact Or.inr (hf1 j x).1
    · exact Or.inr (hf3 j x).1
    · exact Or.inl (hi.sub x (List.mem_of_mem_take hx) j hxj).1
  · rcases x with x | x | x | ⟨x, hx, hxj⟩
    · exact Or.inr (by rw [x]; exact hr)
    · exact Or.inr (hf2 j x).1
    · exact Or.inr (hf4 j x).1
    · exact Or.inl (hi.sub x (List.mem_of_mem_drop hx) j hxj).1

end Go.Proofs.YtdeekopdhgjanaaGreatDoor

namespace Go.Proofs.YtdeekopdhgjanaaGreatDoor
open Go.RowKit Go.Lap

theorem ptr_rd {w : World} {u : Value} {g n c m : Nat} {ps : List Value} (h : w.ownsRow 0 173 1 u m ps) (e : u = .slice (some ⟨g, 0, none⟩) n c) : Rd w (· = g) 1 (some ⟨g, 0, none⟩) m ps := by
  subst e
  refine ⟨h.1, fun _ => ⟨g, 0, rfl, rfl, fun j u hu => ?_⟩⟩
  have := h.cells rfl j u hu
  rw [add_none] at this
  exact this

set_option maxHeartbeats 2000000 in
set_option maxRecDepth 100000 in
theorem split_inner {K F : Nat → Prop} {h : Nat} {w : World} {b : Nat} {v u : Value} {ks : List Kid} (hi : Inner (NodeAt K h) w b F v u ks) (hK : ∀ j, K j → ¬ F j) (hlim : ∀ x ∈ ks, ∀ j, x.F j → j < w.heap.size) (hn : ks.length ≤ 100000) :
    Calls Tryz.prog 78 #[ptrV b] w (SplitPost K (h + 1) w b F (flat ks)) := by
  have hhl : (heads ks).length = ks.length := by simp
  by_cases h8 : ks.length ≤ 8
  · exact (split_none b v u (heads ks) w hi.box hi.row (by omega)).mono (fun e w' h => Or.inl h)
  · obtain ⟨g, c, hv, hc, hcm⟩ : ∃ g c, v = .slice (some ⟨g, 0, none⟩) ks.length c ∧ ks.length ≤ c ∧ c ≤ maxLen := by
      rcases owns_cases hi.row with ⟨_, e⟩ | ⟨g, c, e, h1, h2⟩
      · omega
      · rw [hhl] at e h1
        exact ⟨g, c, e, h1, h2⟩
    obtain ⟨gu, cu, hu, hcu, hcum⟩ := hi.form
    obtain ⟨k, hk⟩ : ∃ k, ks.length / 2 = k := ⟨_, rfl⟩
    obtain ⟨n, hnn⟩ : ∃ n, ks.length = n := ⟨_, rfl⟩
    have hrd := row_rd hi.row hv
    rw [hhl, hnn] at hrd
    have hru := ptr_rd hi.kids hu
    rw [hnn] at hru hv hu hc hcu hk h8 hn
    have HHL := Lib.hid (hhl.trans hnn)
    have HPL : Hid ((kptrs ks).length = n) := by show _ = _; simp [hnn]
    have b0 : w.cell? ⟨b, 0, none⟩ = some (.slice (some ⟨g, 0, none⟩) n c) := by rw [cell_of hi.box, ← hv]; rfl
    have HI := Lib.hid hi
    have HV := Lib.hid hv
    have HK := Lib.hid hK
    have HLIM := Lib.hid hlim
    have HRD := Lib.hid hrd
    have HRU := Lib.hid hru
    have HD1 := Lib.hid (hrd.drop (k := k) (by omega))
    have hb := lt_of_get hi.box
    have hkk : 4 ≤ k ∧ k + 4 ≤ n := by omega
    have q0 : (0 : Int) ≤ (n : Int) / 2 := by omega
    have q1 : (n : Int) / 2 ≤ (n : Int) := by omega
    have q2 : ((n : Int) / 2).toNat = k := by omega
    have q3 : ¬ c = k := by omega
    have q4 : ¬ cu = k := by omega
    have d8 : decide ((n : Int) ≤ 8) = false := decide_eq_false (by omega)
    have hcm' : c ≤ 9223372036854775807 := by unfold maxLen at hcm; omega
    have hcum' : cu ≤ 9223372036854775807 := by unfold maxLen at hcum; omega
    have HC1 := Lib.hid (clone_ent ⟨g, 0 + k * 3, none⟩ (n - k) (c - k) _ (· = g) w HD1.out (fun u hu => one_row (heads ks) u (List.mem_of_mem_drop hu)) (by omega))
    rw [Nat.zero_add] at HC1
    have HBX : Hid (w.heap[b]? = some (.cells #[.slice (some ⟨g, 0, none⟩) n c, .slice (some ⟨gu, 0, none⟩) n cu] 183 (0, 0))) := by rw [← HV.out, ← hu]; exact hi.box
    have HNN := Lib.hid hnn
    have HUG : Hid (∀ j, u.ownBlock = some j → j = gu) := fun j e => by rw [hu] at e; injection e with e; exact e.symm
    have hgub : gu ≠ b := fun e => by
      obtain ⟨cc, hcc⟩ := own_blk hi.kids (k := gu) (by rw [hu]; rfl)
      exact ne_type hcc hi.box (by decide) e
    have hgul : gu < w.heap.size := (hi.kids.lt gu (by rw [hu]; rfl)).2
    clear hrd hru hK hlim hi hk hcm hcum hv hu hnn hhl
    go_enter Tryz.func78, Tryz.ntmps78
    go_wp2_with fail
    refine HC1.out.mono ?_
    rintro e w1 ⟨v2, rfl, h1⟩
    rw [← rowV_drop] at h1
    obtain ⟨A2, c2, hv2, _, _, _⟩ := own_form h1.own
    subst hv2
    have HN1 := Lib.hid h1
    have hq2 : Quiet w (w1.alloc (.cells #[.slice A2 (n - k) c2, .slice none 0 0] 183)) := h1.quiet.alloc _
    have hb2 := hq2.get HBX.out (fun x => x)
    have HB2 := Lib.hid hb2
    have HC2 := Lib.hid (clone_ent ⟨g, 0, none⟩ k c _ (· = g) _ ((HRD.out.takeK (k := k) (by omega)).kept hq2 (fun _ _ x => x)) (fun u hu => one_row (heads ks) u (List.mem_of_mem_take hu)) (by omega))
    have b0' : (w1.alloc (.cells #[.slice A2 (n - k) c2, .slice none 0 0] 183)).cell? ⟨b, 0, none⟩ = some (.slice (some ⟨g, 0, none⟩) n c) := hq2.cell b0 (fun x => x)
    clear h1 HC1 HD1 b0 hb2 hq2
    go_wp2_with fail
    refine HC2.out.mono ?_
    rintro e w3 ⟨v1, rfl, h3⟩
    rw [← rowV_take] at h3
    obtain ⟨A1, c1, hv1, _, _, _⟩ := own_form h3.own
    subst hv1
    have hb3 := h3.quiet.get HB2.out (fun x => x)
    have HCW := Lib.hid (cleftW_mk (ys := heads ks) HBX.out (by rw [HHL.out]; omega) (by rw [HHL.out]; exact HN1.out) h3)
    have b3 : w3.cell? ⟨b, 0, none⟩ = some (.slice (some ⟨g, 0, none⟩) n c) := h3.quiet.cell b0' (fun x => x)
    have f3 := fun o => frozen_of hb3 o
    clear h3 HC2 b0' hb3 HN1 HRD HB2
    have HLF := Lib.hid (leaf_any b _ _ _ _ _ HCW.out.box)
    go_wp2_with fail
    refine HLF.out.mono ?_
    rintro e w4 ⟨rfl, rfl⟩
    have hru4 := HRU.out.kept HCW.out.only (fun j e e' => hgub (e.symm.trans e'))
    have HRU4 := Lib.hid hru4
    have HC3 := Lib.hid (clone_node ⟨gu, 0 + k * 1, none⟩ (n - k) (cu - k) _ (· = gu) _ (hru4.drop (k := k) (by omega)) (fun u hu => one_kptrs ks u (List.mem_of_mem_drop hu)) (by omega))
    rw [Nat.zero_add, Nat.mul_one] at HC3
    have b1 : (w3.setCell ⟨b, 0, none⟩ (.slice A1 k c1)).cell? ⟨b, 1, none⟩ = some (.slice (some ⟨gu, 0, none⟩) n cu) := by rw [cell_of HCW.out.box]; rfl
    have hrn := HCW.out.new
    clear HLF b3 f3 hru4
    go_wp2_with fail
    refine HC3.out.mono ?_
    rintro e w5 ⟨u2, rfl, h5⟩
    obtain ⟨A5, c5, hu2, _, _, _⟩ := own_form h5.own
    subst hu2
    have hr5 := h5.quiet.get hrn (fun x => x)
    have z5 : w5.cell? ⟨w1.heap.size, 1, none⟩ = some (.slice none 0 0) := by rw [cell_of hr5]; rfl
    have f5 := fun o => frozen_of hr5 o
    have hb5 := h5.quiet.get HCW.out.box (fun x => x)
    have hs6 : Only (· = w1.heap.size) w5 (w5.setCell ⟨w1.heap.size, 1, none⟩ (.slice A5 (n - k) c5)) := (Only.refl (· = w1.heap.size) w5).setCell (p := ⟨w1.heap.size, 1, none⟩) (fun _ => rfl) _
    have hfr := HCW.out.fresh.1
    have hb6 := hs6.get hb5 (show ¬ b = w1.heap.size by omega)
    have b6 : (w5.setCell ⟨w1.heap.size, 1, none⟩ (.slice A5 (n - k) c5)).cell? ⟨b, 1, none⟩ = some (.slice (some ⟨gu, 0, none⟩) n cu) := by rw [cell_of hb6]; rfl
    have HB6 := Lib.hid hb6
    have HN5 : Hid (NewRow (w3.setCell ⟨b, 0, none⟩ (.slice A1 k c1)) w5 173 1 (.slice A5 (n - k) c5) ((kptrs ks).length - k) ((kptrs ks).drop k)) := by show NewRow _ _ _ _ _ _ _; rw [HPL.out]; exact h5
    have HC4 := Lib.hid (clone_node ⟨gu, 0, none⟩ k cu _ (· = gu) _ (((HRU4.out.takeK (k := k) (by omega)).kept h5.quiet (fun _ _ x => x)).kept hs6 (fun j e e' => by omega)) (fun u hu => one_kptrs ks u (List.mem_of_mem_take hu)) (by omega))
    rw [Nat.mul_one] at HC4
    clear h5 hr5 hb5 hs6 hb6 HC3 b1 hrn HRU4
    go_wp2_with fail
    refine HC4.out.mono ?_
    rintro e w7 ⟨u1, rfl, h7⟩
    obtain ⟨A7, c7, hu1, _, _, _⟩ := own_form h7.own
    subst hu1
    have hb7 := h7.quiet.get HB6.out (fun x => x)
    have z7 : w7.cell? ⟨b, 1, none⟩ = some (.slice (some ⟨gu, 0, none⟩) n cu) := by rw [cell_of hb7]; rfl
    have f7 := fun o => frozen_of hb7 o
    have HCI := Lib.hid (cleftI_mk (ps := kptrs ks) hb HCW.out HN5.out h7)
    have HR := Lib.hid (HCI.out.inner HI.out HK.out HLIM.out (by omega) (by have := HNN.out; omega))
    clear h7 hb7 HC4 HN5 HCW HCI b6 z5 f5 HB6
    go_wp2
    go_ret
    exact Or.inr ⟨_, _, _, _, _, rfl, HR.out⟩

theorem split_any {K F : Nat → Prop} {h : Nat} {w : World} {b : Nat} {xs : List EV} (hn : NodeAt K h w b F xs) (hK : ∀ j, K j → ¬ F j) (hl : xs.length ≤ 100000) :
    Calls Tryz.prog 78 #[ptrV b] w (SplitPost K h w b F xs) := by
  cases h with
  | zero => obtain ⟨v, hv⟩ := hn; exact split_leaf hv hK hl
  | succ h =>
    obtain ⟨v, u, ks, hi, e⟩ := hn.lim
    subst e
    have hkl : ks.length ≤ (flat ks).length := by
      have hk := hi.kid
      clear hi hl hn
      induction ks with
      | nil => simp
      | cons x ks ih =>
        have h1 := List.length_pos_iff.2 (hk x (by simp)).1
        have h2 := ih (fun y hy => hk y (by simp [hy]))
        rw [flat, List.flatMap_cons, List.length_append, List.length_cons]
        unfold flat at h2
        omega
    refine (split_inner hi (fun j hj x => hK j hj x.1) (fun x hx j hj => (hi.sub x hx j hj).1.2) (by omega)).mono ?_
    rintro e w' (x | ⟨r, F1, F2, x1, x2, rfl, hc⟩)
    · exact Or.inl x
    · exact Or.inr ⟨r, F1, F2, x1, x2, rfl, hc.all, hc.ne1, hc.ne2, hc.n1, hc.n2, hc.apart, fun j hj => (hc.sub1 j hj).imp (fun x => x.1) id, fun j hj => (hc.sub2 j hj).imp (fun x => x.1) id, hc.only.mono (fun j _ x => x.1)⟩

end Go.Proofs.YtdeekopdhgjanaaGreatDoor

namespace Go.Lap
open Go.RowKit

def triSet (w : World) (b : Nat) (x y z : Value) : World := ((w.setCell ⟨b, 0, none⟩ x).setCell ⟨b, 1, none⟩ y).setCell ⟨b, 2, none⟩ z

theorem triSet_same {w : World} {b : Nat} {t : TypeId} {fr : Nat × Nat} {a c d : Value} (h : w.heap[b]? = some (.cells #[a, c, d] t fr)) (x y z : Value) : (triSet w b x y z).heap[b]? = some (.cells #[x, y, z] t fr) := by
  unfold triSet
  rw [set_same (set_same (set_same h 0 x) 1 y) 2 z]
  rfl

theorem triSet_only (w : World) (b : Nat) (x y z : Value) : Only (· = b) w (triSet w b x y z) :=
  (((Only.refl (· = b) w).setCell (p := ⟨b, 0, none⟩) (fun _ => rfl) _).setCell (p := ⟨b, 1, none⟩) (fun _ => rfl) _).setCell (p := ⟨b, 2, none⟩) (fun _ => rfl) _

end Go.Lap
namespace Go.Proofs.YtdeekopdhgjanaaGreatDoor
open Go.RowKit Go.Lap

set_option maxHeartbeats 1000000 in
set_option maxRecDepth 100000 in
theorem copyOf_any (e0 : Ent) (A : Option Addr) (c : Nat) (S : Nat → Prop) (w : World) (hr : Rd w S 1 A e0.key.length (bytesV e0.key)) (hl : e0.key.length ≤ 100000) :
    Calls Tryz.prog 77 #[entV e0 A c] w (CopyPost w e0) := by
  have hq0 : Quiet w ((w.alloc (.cells #[.slice A e0.key.length c, .int .i64 e0.pg, .int .i64 e0.sl] 131)).alloc (.cells #[.slice none 0 0, .int .i64 0, .int .i64 0] 131)) := ((Only.refl _ _).alloc _).alloc _
  have H0 := Lib.hid hq0
  obtain ⟨t0, t1, t2⟩ := ent_cells (alloc_old (alloc_new w (.cells #[.slice A e0.key.length c, .int .i64 e0.pg, .int .i64 e0.sl] 131)) (.cells #[.slice none 0 0, .int .i64 0, .int .i64 0] 131))
  have HN := Lib.hid (two_new w (.cells #[.slice A e0.key.length c, .int .i64 e0.pg, .int .i64 e0.sl] 131) (.cells #[.slice none 0 0, .int .i64 0, .int .i64 0] 131))
  have HC := Lib.hid (clone_any A c e0.key S _ (hr.kept hq0.drew (fun _ _ x => x)) hl)
  clear hr hq0
  go_enter Tryz.func77, Tryz.ntmps77
  go_wp2_with fail
  go_region_held3 (fun w' => w'.cell? ⟨w.heap.size, 0, none⟩ = some (.slice A e0.key.length c) ∧ w'.cell? ⟨w.heap.size, 1, none⟩ = some (.int .i64 e0.pg) ∧ w'.cell? ⟨w.heap.size, 2, none⟩ = some (.int .i64 e0.sl))
    (first | go_keep | fail)
    (first
      | (go_at_call 112; go_must (refine HC.out.mono ?_; rintro e w2 ⟨v2, rfl, hf2⟩; obtain ⟨A2, c2, hv2, _, _, hrd2⟩ := own_form hf2.own; subst hv2; have k0 := hf2.quiet.cell t0 (fun x => x); have k1 := hf2.quiet.cell t1 (fun x => x); have k2 := hf2.quiet.cell t2 (fun x => x); have hr2 := hf2.quiet.get HN.out (fun x => x); obtain ⟨z0, z1, z2⟩ := ent_cells hr2; have zf := fun o => frozen_of hr2 o))
      | fail)
  have HX := Lib.hid (triSet_same hr2 (.slice A2 e0.key.length c2) (.int .i64 e0.pg) (.int .i64 e0.sl))
  have hz2 := hf2.quiet.size
  have hsz : ((w.alloc (.cells #[.slice A e0.key.length c, .int .i64 e0.pg, .int .i64 e0.sl] 131)).alloc (.cells #[.slice none 0 0, .int .i64 0, .int .i64 0] 131)).drew.heap.size = w.heap.size + 2 := by show (World.alloc _ _).heap.size = _; simp
  have HP : Hid (CopyPost w e0 (.returned (entV e0 A2 c2)) (triSet w2 (w.heap.size + 1) (.slice A2 e0.key.length c2) (.int .i64 e0.pg) (.int .i64 e0.sl))) := by
    have ho := triSet_only w2 (w.heap.size + 1) (.slice A2 e0.key.length c2) (.int .i64 e0.pg) (.int .i64 e0.sl)
    have hlz : ∀ k, Value.ownBlock (.slice A2 e0.key.length c2) = some k → w.heap.size + 2 ≤ k ∧ k < w2.heap.size := fun k e => ⟨by have := hf2.new k e; omega, (hf2.own.lt k e).2⟩
    refine ⟨A2, c2, rfl, (H0.out.drew.trans hf2.quiet).trans' ho (fun k hk e => by omega), ?_⟩
    exact (Rd.kept (hrd2.mono (T := fun k => w.heap.size + 2 ≤ k ∧ k < w2.heap.size) hlz) ho (fun k hk e => by omega)).mono (fun k hk => ⟨by omega, by have := ho.size; omega⟩)
  clear hf2 hr2 hrd2 hz2 hsz HC H0 HN k0 k1 k2 z0 z1 z2 zf t0 t1 t2
  unfold triSet at HX HP
  go_wp2
  generalize (((w2.setCell ⟨w.heap.size + 1, 0, none⟩ (.slice A2 e0.key.length c2)).setCell ⟨w.heap.size + 1, 1, none⟩ (.int .i64 e0.pg)).setCell ⟨w.heap.size + 1, 2, none⟩ (.int .i64 e0.sl)) = W6 at HX HP ⊢
  exact bodyPost_ret (results_cell1 Tryz.results77 _ _ (w.heap.size + 1) _ _ (0, 0) _ (by rfl) HX.out Tryz.underlying131 rfl info_ent) (by rfl) HP.out

end Go.Proofs.YtdeekopdhgjanaaGreatDoor

namespace Go.Proofs.YtdeekopdhgjanaaGreatDoor
open Go.RowKit Go.Lap

theorem rowV_ins (e : EV) (xs : List EV) : rowV (insX e xs) = (rowV xs).take (posE e.e (ents xs) * 3) ++ e.cells ++ (rowV xs).drop (posE e.e (ents xs) * 3) := by
  unfold insX
  rw [show ∀ l : List EV, e :: l = [e] ++ l from fun _ => rfl, rowV_append, rowV_append, rowV_one, rowV_take, rowV_drop, List.append_assoc]

/-- What insert leaves at a leaf. -/
theorem leaf_ins {K F : Nat → Prop} {w W w5 : World} {b : Nat} {xs : List EV} {v v5 : Value} {e : EV} (hl : Leaf K w b F xs v) (hK : ∀ k, K k → ¬ F k ∧ k < w.heap.size) (he : Keyd w K e) (hq : Quiet w W)
    (hg : Grew W w5 131 3 v v5 (xs.length + 1) ((rowV xs).take (posE e.e (ents xs) * 3) ++ e.cells ++ (rowV xs).drop (posE e.e (ents xs) * 3))) :
    Only F w (w5.setCell ⟨b, 0, none⟩ v5) ∧ Leaf K (w5.setCell ⟨b, 0, none⟩ v5) b (fun k => F k ∨ w.heap.size ≤ k) (insX e xs) v5 := by
  have hbw := lt_of_get hl.box
  have hset : Only (· = b) w5 (w5.setCell ⟨b, 0, none⟩ v5) := (Only.refl (· = b) w5).setCell (p := ⟨b, 0, none⟩) (fun _ => rfl) _
  have hvb : ∀ j, v.ownBlock = some j → j ≠ b := fun j e => by
    obtain ⟨c, hc⟩ := own_blk hl.row e
    exact ne_type hc hl.box (by decide)
  have hz := hq.size
  have hbox5 := hg.only.get (hq.get hl.box (fun x => x)) (fun e => hvb b e rfl)
  have ho : Only F w (w5.setCell ⟨b, 0, none⟩ v5) := ((hq.mono (T := F) (fun _ _ x => x.elim)).trans' hg.only (fun k hk e => hl.foot.2 k e)).trans' hset (fun k hk e => by rw [e]; exact hl.foot.1)
  have hv5b : ∀ j, v5.ownBlock = some j → j ≠ b := fun j e => by
    rcases hg.loc with x | x
    · rw [x] at e; exact hvb j e
    · rw [x] at e; injection e with e; omega
  refine ⟨ho, ⟨by rw [set_same hbox5]; rfl, ?_, fun x hx => ?_, Or.inl hl.foot.1, fun j e => ?_⟩⟩
  · unfold RowAt
    rw [insX_length, rowV_ins]
    exact owns_kept hg.own hset (fun j e x => hv5b j e x)
  · have : Keyd w K x := by
      rcases mem_insX hx with rfl | hx
      · exact he
      · exact hl.key x hx
    exact this.kept ho (fun k hk => (hK k hk).1)
  · rcases hg.loc with x | x
    · rw [x] at e; exact Or.inl (hl.foot.2 j e)
    · rw [x] at e; injection e with e; exact Or.inr (by omega)

/-- What insert tells, and leaves. -/
def InsPost (K : Nat → Prop) (h : Nat) (w : World) (b : Nat) (F : Nat → Prop) (xs : List EV) (e : EV) (r : Ending) (w' : World) : Prop :=
  (e.e ∈ ents xs ∧ r = .returned (.bool false) ∧ Only F w w' ∧ NodeAt K h w' b (fun k => F k ∨ w.heap.size ≤ k) xs) ∨
  (e.e ∉ ents xs ∧ r = .returned (.bool true) ∧ Only F w w' ∧ NodeAt K h w' b (fun k => F k ∨ w.heap.size ≤ k) (insX e xs))

set_option maxHeartbeats 2000000 in
set_option maxRecDepth 100000 in
theorem insert_leaf {K F : Nat → Prop} {w : World} {b : Nat} {xs : List EV} {v : Value} {e : EV} (hl : Leaf K w b F xs v) (hK : ∀ k, K k → ¬ F k ∧ k < w.heap.size) (he : Keyd w K e) (hs : Rising (ents xs)) (hn : xs.length ≤ 50000) :
    Calls Tryz.prog 76 #[ptrV b, entV e.e e.A e.c] w (InsPost K 0 w b F xs e) := by
  obtain ⟨A, c, hv, hc, hcm, hrd⟩ := own_form hl.row
  have hq0 : Quiet w (w.alloc (.cells #[.slice e.A e.e.key.length e.c, .int .i64 e.e.pg, .int .i64 e.e.sl] 131)) := (Only.refl _ _).alloc _
  have HQ0 := Lib.hid hq0
  have hbox1 := hq0.get hl.box (fun x => x)
  have HLF := Lib.hid (leaf_any b v none 0 0 _ hbox1)
  have b0 : (w.alloc (.cells #[.slice e.A e.e.key.length e.c, .int .i64 e.e.pg, .int .i64 e.e.sl] 131)).cell? ⟨b, 0, none⟩ = some (.slice A xs.length c) := by rw [cell_of hbox1, ← hv]; rfl
  obtain ⟨t0, t1, t2⟩ := ent_cells (alloc_new w (.cells #[.slice e.A e.e.key.length e.c, .int .i64 e.e.pg, .int .i64 e.e.sl] 131))
  have HS := Lib.hid (search_any xs e A c _ K K _ (hrd.kept hq0.drew (fun _ _ x => x)) (fun x hx => (hl.key x hx).quietly hq0.drew) (he.quietly hq0.drew) hs (by omega))
  have hpl : posE e.e (ents xs) ≤ xs.length := by have := posE_le e.e (ents xs); simpa using this
  have HL := Lib.hid hl
  have HK := Lib.hid hK
  have HE := Lib.hid he
  have HV := Lib.hid hv
  have HBX := Lib.hid hbox1
  clear hl hK he hs hrd hq0 hbox1 hv
  by_cases hm : e.e ∈ ents xs
  · rw [decide_eq_true hm] at HS
    have HM := Lib.hid hm
    clear hm
    generalize posE e.e (ents xs) = p at HS hpl
    go_enter Tryz.func76, Tryz.ntmps76
    go_wp2_with fail
    refine HLF.out.mono ?_
    rintro r w1 ⟨rfl, rfl⟩
    go_wp2_with fail
    go_region_held3 (fun w' => w'.cell? ⟨b, 0, none⟩ = some (.slice A xs.length c) ∧ w'.cell? ⟨w.heap.size, 0, none⟩ = some (.slice e.A e.e.key.length e.c) ∧ w'.cell? ⟨w.heap.size, 1, none⟩ = some (.int .i64 e.e.pg) ∧ w'.cell? ⟨w.heap.size, 2, none⟩ = some (.int .i64 e.e.sl))
      (first | go_keep | fail)
      (first
        | (go_at_call 107; go_must (refine HS.out.mono ?_; rintro r w2 ⟨rfl, hq2⟩; have k0 := hq2.cell b0 (fun x => x); have k1 := hq2.cell t0 (fun x => x); have k2 := hq2.cell t1 (fun x => x); have k3 := hq2.cell t2 (fun x => x)))
        | fail)
    have HQ2 := Lib.hid (HQ0.out.drew.trans hq2)
    clear hq2 k0 k1 k2 k3 b0 t0 t1 t2 HS HQ0 HLF
    go_wp2
    go_ret
    refine Or.inl ⟨HM.out, rfl, HQ2.out.mono (fun _ _ x => x.elim), ?_⟩
    exact (NodeAt.kept (K := K) (h := 0) HQ2.out (fun _ _ x => x) ⟨v, HL.out⟩ (fun _ _ x => x)).mono (fun _ x => Or.inl x)
  · rw [decide_eq_false hm] at HS
    have HM := Lib.hid hm
    clear hm
    obtain ⟨p, hp⟩ : ∃ p, posE e.e (ents xs) = p := ⟨_, rfl⟩
    have HP := Lib.hid hp
    rw [hp] at HS hpl
    clear hp
    go_enter Tryz.func76, Tryz.ntmps76
    go_wp2_with fail
    refine HLF.out.mono ?_
    rintro r w1 ⟨rfl, rfl⟩
    go_wp2_with fail
    go_region_held3 (fun w' => w'.cell? ⟨b, 0, none⟩ = some (.slice A xs.length c) ∧ w'.cell? ⟨w.heap.size, 0, none⟩ = some (.slice e.A e.e.key.length e.c) ∧ w'.cell? ⟨w.heap.size, 1, none⟩ = some (.int .i64 e.e.pg) ∧ w'.cell? ⟨w.heap.size, 2, none⟩ = some (.int .i64 e.e.sl))
      (first | go_keep | fail)
      (first
        | (go_at_call 107; go_must (refine HS.out.mono ?_; rintro r w2 ⟨rfl, hq2⟩; have k0 := hq2.cell b0 (fun x => x); have k1 := hq2.cell t0 (fun x => x); have k2 := hq2.cell t1 (fun x => x); have k3 := hq2.cell t2 (fun x => x)))
        | fail)
    have HQ2 := Lib.hid (HQ0.out.drew.trans hq2)
    have HB2 := Lib.hid (hq2.get HBX.out (fun x => x))
    clear hq2 b0 t0 t1 t2 HS HQ0 HLF HBX
    go_upto_region 5 with fail
    have hw2 : w.heap.size < w2.heap.size := cell_lt k1
    have hvb : Hid (∀ j, v.ownBlock = some j → j ≠ b) := fun j e => by
      obtain ⟨c, hc⟩ := own_blk HL.out.row e
      exact ne_type hc HL.out.box (by decide)
    have hvl : Hid (∀ j, v.ownBlock = some j → j < w.heap.size) := fun j e => (HL.out.row.lt j e).2
    go_cut [] (fun wx => ∃ v5, Only F w wx ∧ Leaf K wx b (fun k => F k ∨ w.heap.size ≤ k) (insX e xs) v5)
    case first =>
      have k0a : (w2.alloc (.cells #[.slice e.A e.e.key.length e.c, .int .i64 e.e.pg, .int .i64 e.e.sl] 131)).cell? ⟨b, 0, none⟩ = some (.slice A xs.length c) := ((Only.refl (fun _ => False) w2).alloc _).cell k0 (fun x => x)
      go_region_law (first
        | (go_simp; go_at_call 109; refine (insertE_any _ xs.length p w2.heap.size (rowV xs) e.cells _ (by rw [← HV.out]; exact owns_kept (owns_kept HL.out.row HQ2.out (fun _ _ x => x)) (((Only.refl (fun _ => False) w2).alloc _).drew) (fun _ _ x => x)) rfl (by exact alloc_new w2 _) (one_row [e]) (one_row xs) (by omega) hpl (by rw [← HV.out]; exact fun x => by have := hvl.out _ x; omega)).mono ?_; rintro r w5 ⟨v5, rfl, hg5⟩; have hb5 : w5.heap[b]? = some (.cells #[v, .slice none 0 0] 183 (0, 0)) := hg5.only.get (by exact alloc_old HB2.out _) (fun x => hvb.out b (by rw [HV.out]; exact x) rfl); obtain ⟨A5, c5, hv5, _, _, _⟩ := own_form hg5.own; subst hv5; have s1 : w5.cell? ⟨b, 0, none⟩ = some v := (by rw [cell_of hb5]; rfl); have s2 := fun o => frozen_of hb5 o)
        | fail)
      all_goals
        go_wp2_with fail
        go_meet
        have hr := leaf_ins (e := e) HL.out HK.out HE.out (HQ2.out.alloc (.cells #[.slice e.A e.e.key.length e.c, .int .i64 e.e.pg, .int .i64 e.e.sl] 131)).drew (by rw [HP.out, HV.out]; exact hg5)
        exact ⟨_, hr.1, hr.2⟩
    case rest =>
      obtain ⟨v5, ho5, hl5⟩ := hcut
      have HR : Hid (InsPost K 0 w b F xs e (.returned (.bool true)) wc) := Or.inr ⟨HM.out, rfl, ho5, v5, hl5⟩
      clear ho5 hl5
      go_wp2
      go_ret
      exact HR.out

end Go.Proofs.YtdeekopdhgjanaaGreatDoor

namespace Go.Proofs.YtdeekopdhgjanaaGreatDoor
open Go.RowKit Go.Lap

/-- From w0 on the node b's own blocks F turned, and new ones; its row has ys, its kids' row ps, its kids are ks. -/
structure Mid (K : Nat → Prop) (h : Nat) (w0 w : World) (b : Nat) (F : Nat → Prop) (v u : Value) (ys : List EV) (ps : List Nat) (ks : List Kid) : Prop where
  only : Only F w0 w
  box : w.heap[b]? = some (.cells #[v, u] 183 (0, 0))
  row : RowAt w v ys
  kids : w.ownsRow 0 173 1 u ps.length (ps.map ptrV)
  some_ : ∃ g, u.ownBlock = some g
  kid : ∀ x ∈ ks, x.xs ≠ [] ∧ NodeAt K h w x.b x.F x.xs
  sub : ∀ x ∈ ks, ∀ k, x.F k → (F k ∨ w0.heap.size ≤ k) ∧ k < w.heap.size ∧ k ≠ b ∧ v.ownBlock ≠ some k ∧ u.ownBlock ≠ some k
  apart : ks.Pairwise (fun x y => ∀ k, x.F k → ¬ y.F k)
  foot : F b ∧ b < w0.heap.size ∧ (∀ k, v.ownBlock = some k → F k ∨ w0.heap.size ≤ k) ∧ (∀ k, u.ownBlock = some k → F k ∨ w0.heap.size ≤ k)
  keys : ∀ k, K k → ¬ F k ∧ k < w0.heap.size

section
variable {K F : Nat → Prop} {h : Nat} {w0 w w' : World} {b : Nat} {v u : Value} {ys : List EV} {ps : List Nat} {ks : List Kid}

theorem Mid.start (hi : Inner (NodeAt K h) w0 b F v u ks) (hlim : ∀ k, F k → k < w0.heap.size) (hK : ∀ k, K k → ¬ F k ∧ k < w0.heap.size) : Mid K h w0 w0 b F v u (heads ks) (ks.map (·.b)) ks := by
  refine ⟨Only.refl _ _, hi.box, hi.row, ?_, hi.some_, hi.kid, fun x hx k hk => ⟨Or.inl (hi.sub x hx k hk).1, hlim k (hi.sub x hx k hk).1, (hi.sub x hx k hk).2⟩, hi.apart, ⟨hi.foot.1, lt_of_get hi.box, fun k e => Or.inl (hi.foot.2.1 k e), fun k e => Or.inl (hi.foot.2.2 k e)⟩, hK⟩
  have := hi.kids
  rw [List.length_map, List.map_map]
  exact this

theorem Mid.done (hm : Mid K h w0 w b F v u (heads ks) (ks.map (·.b)) ks) (h2 : 2 ≤ ks.length) : NodeAt K (h + 1) w b (fun k => F k ∨ w0.heap.size ≤ k) (flat ks) := by
  refine ⟨v, u, ks, ⟨hm.box, hm.row, ?_, hm.some_, h2, hm.kid, fun x hx k hk => ⟨(hm.sub x hx k hk).1, (hm.sub x hx k hk).2.2⟩, hm.apart, Or.inl hm.foot.1, hm.foot.2.2.1, hm.foot.2.2.2⟩, rfl⟩
  have := hm.kids
  rw [List.length_map, List.map_map] at this
  exact this

/-- A key is never written. -/
theorem Mid.nokey (hm : Mid K h w0 w b F v u ys ps ks) {k : Nat} (hk : K k) : ¬ (F k ∨ w0.heap.size ≤ k) := fun x => by
  have := hm.keys k hk
  rcases x with x | x
  · exact this.1 x
  · omega

theorem Mid.bn (hm : Mid K h w0 w b F v u ys ps ks) : (∀ k, v.ownBlock = some k → k ≠ b) ∧ (∀ k, u.ownBlock = some k → k ≠ b) ∧ (∀ k, v.ownBlock = some k → u.ownBlock ≠ some k) := by
  refine ⟨fun k e => ?_, fun k e => ?_, fun k e e' => ?_⟩
  · obtain ⟨c, hc⟩ := own_blk hm.row e; exact ne_type hc hm.box (by decide)
  · obtain ⟨c, hc⟩ := own_blk hm.kids e; exact ne_type hc hm.box (by decide)
  · obtain ⟨c, hc⟩ := own_blk hm.row e
    obtain ⟨d, hd⟩ := own_blk hm.kids e'
    exact ne_type hc hd (by decide) rfl

theorem Mid.quietly (hm : Mid K h w0 w b F v u ys ps ks) (hq : Quiet w w') : Mid K h w0 w' b F v u ys ps ks := by
  have hz := hq.size
  exact ⟨hm.only.trans' hq (fun _ _ x => x.elim), hq.get hm.box (fun x => x), owns_kept hm.row hq (fun _ _ x => x), owns_kept hm.kids hq (fun _ _ x => x), hm.some_, fun x hx => ⟨(hm.kid x hx).1, NodeAt.kept hq (fun _ _ x => x) (hm.kid x hx).2 (fun _ _ x => x)⟩, fun x hx k hk => ⟨(hm.sub x hx k hk).1, by have := (hm.sub x hx k hk).2.1; omega, (hm.sub x hx k hk).2.2⟩, hm.apart, hm.foot, hm.keys⟩

/-- What stands ahead of one of its kids, and behind it, is apart from it. -/
theorem apart_mid {A B : List Kid} {x : Kid} (h : (A ++ x :: B).Pairwise (fun x y => ∀ k, x.F k → ¬ y.F k)) : ∀ y, y ∈ A ∨ y ∈ B → ∀ k, x.F k → ¬ y.F k := by
  rw [List.pairwise_append, List.pairwise_cons] at h
  intro y hy k hx hyk
  rcases hy with hy | hy
  · exact h.2.2 y hy x (by simp) k hyk hx
  · exact h.2.1.1 y hy k hx hyk

theorem apart_put {A B M : List Kid} {x : Kid} (h : (A ++ x :: B).Pairwise (fun x y => ∀ k, x.F k → ¬ y.F k)) (hM : M.Pairwise (fun x y => ∀ k, x.F k → ¬ y.F k)) (hn : ∀ m ∈ M, ∀ y, y ∈ A ∨ y ∈ B → ∀ k, m.F k → ¬ y.F k) :
    (A ++ M ++ B).Pairwise (fun x y => ∀ k, x.F k → ¬ y.F k) := by
  rw [List.pairwise_append, List.pairwise_cons] at h
  rw [List.pairwise_append, List.pairwise_append]
  refine ⟨⟨h.1, hM, fun a ha m hm k hk hmk => hn m hm a (Or.inl ha) k hmk hk⟩, h.2.1.2, fun a ha y hy => ?_⟩
  rcases List.mem_append.1 ha with ha | ha
  · exact h.2.2 a ha y (by simp [hy])
  · exact hn a ha y (Or.inr hy)

/-- One of its kids turns into others. -/
theorem Mid.turn {A B M : List Kid} {x : Kid} (hm : Mid K h w0 w b F v u ys ps (A ++ x :: B)) (ho : Only x.F w w') (hM : ∀ m ∈ M, m.xs ≠ [] ∧ NodeAt K h w' m.b m.F m.xs ∧ ∀ k, m.F k → (x.F k ∨ w.heap.size ≤ k) ∧ k < w'.heap.size) (hMp : M.Pairwise (fun x y => ∀ k, x.F k → ¬ y.F k)) :
    Mid K h w0 w' b F v u ys ps (A ++ M ++ B) := by
  have hz := ho.size
  have hz0 := hm.only.size
  have hxm : x ∈ A ++ x :: B := by simp
  have hxs := hm.sub x hxm
  have hbw := lt_of_get hm.box
  have hap := apart_mid hm.apart
  have hkK : ∀ k, K k → ¬ x.F k := fun k hk hx => hm.nokey hk (hxs k hx).1
  have old : ∀ y, y ∈ A ∨ y ∈ B → y ∈ A ++ x :: B := fun y hy => by rcases hy with hy | hy <;> simp [hy]
  refine ⟨hm.only.trans' ho (fun k hk hx => ?_), ho.get hm.box (fun hx => (hxs b hx).2.2.1 rfl), owns_kept hm.row ho (fun k e hx => (hxs k hx).2.2.2.1 e), owns_kept hm.kids ho (fun k e hx => (hxs k hx).2.2.2.2 e), hm.some_, fun y hy => ?_, fun y hy k hk => ?_, apart_put hm.apart hMp (fun m hmm y hy k hk hyk => ?_), hm.foot, hm.keys⟩
  · rcases (hxs k hx).1 with e | e
    · exact e
    · omega
  · rw [List.append_assoc, List.mem_append, List.mem_append] at hy
    have key : ∀ y, y ∈ A ∨ y ∈ B → y.xs ≠ [] ∧ NodeAt K h w' y.b y.F y.xs := fun y hy => ⟨(hm.kid y (old y hy)).1, NodeAt.kept ho hkK (hm.kid y (old y hy)).2 (fun k hk hx => hap y hy k hx hk)⟩
    rcases hy with hy | hy | hy
    · exact key y (Or.inl hy)
    · exact ⟨(hM y hy).1, (hM y hy).2.1⟩
    · exact key y (Or.inr hy)
  · rw [List.append_assoc, List.mem_append, List.mem_append] at hy
    have key : ∀ y, y ∈ A ∨ y ∈ B → y.F k → (F k ∨ w0.heap.size ≤ k) ∧ k < w'.heap.size ∧ k ≠ b ∧ v.ownBlock ≠ some k ∧ u.ownBlock ≠ some k := fun y hy hk => by
      have := hm.sub y (old y hy) k hk
      exact ⟨this.1, by omega, this.2.2⟩
    rcases hy with hy | hy | hy
    · exact key y (Or.inl hy) hk
    · obtain ⟨h1, h2⟩ := (hM y hy).2.2 k hk
      rcases h1 with h1 | h1
      · have := hxs k h1
        exact ⟨this.1, h2, this.2.2⟩
      · exact ⟨Or.inr (by omega), h2, by omega, fun e => by have := (hm.row.lt k e).2; omega, fun e => by have := (hm.kids.lt k e).2; omega⟩
    · exact key y (Or.inr hy) hk
  · rcases ((hM m hmm).2.2 k hk).1 with h1 | h1
    · exact hap y hy k h1 hyk
    · have := (hm.sub y (old y hy) k hyk).2.1
      omega

/-- One of its kids has one more entry. -/
theorem Mid.put {A B : List Kid} {x : Kid} {xs' : List EV} (hm : Mid K h w0 w b F v u ys ps (A ++ x :: B)) (ho : Only x.F w w') (hn : NodeAt K h w' x.b (fun k => x.F k ∨ w.heap.size ≤ k) xs') (hne : xs' ≠ []) :
    Mid K h w0 w' b F v u ys ps (A ++ ⟨x.b, fun k => (x.F k ∨ w.heap.size ≤ k) ∧ k < w'.heap.size, xs'⟩ :: B) := by
  have := hm.turn (M := [⟨x.b, fun k => (x.F k ∨ w.heap.size ≤ k) ∧ k < w'.heap.size, xs'⟩]) ho (fun m hmm => by
    simp at hmm
    subst hmm
    exact ⟨hne, hn.lim, fun k hk => hk⟩) (by simp)
  rw [List.append_assoc] at this
  exact this

/-- One of its kids is cleft. -/
theorem Mid.cleave {A B : List Kid} {x : Kid} {r : Nat} {F1 F2 : Nat → Prop} {x1 x2 : List EV} (hm : Mid K h w0 w b F v u ys ps (A ++ x :: B)) (hc : Cleft K h w w' x.b x.F x.xs r F1 F2 x1 x2) :
    ∃ G1 G2, Mid K h w0 w' b F v u ys ps (A ++ ⟨x.b, G1, x1⟩ :: ⟨r, G2, x2⟩ :: B) := by
  refine ⟨fun k => F1 k ∧ k < w'.heap.size, fun k => F2 k ∧ k < w'.heap.size, ?_⟩
  have := hm.turn (M := [⟨x.b, fun k => F1 k ∧ k < w'.heap.size, x1⟩, ⟨r, fun k => F2 k ∧ k < w'.heap.size, x2⟩]) hc.only (fun m hmm => by
    simp at hmm
    rcases hmm with rfl | rfl
    · exact ⟨hc.ne1, hc.n1.lim, fun k hk => ⟨hc.sub1 k hk.1, hk.2⟩⟩
    · exact ⟨hc.ne2, hc.n2.lim, fun k hk => ⟨hc.sub2 k hk.1, hk.2⟩⟩) (by
    rw [List.pairwise_cons]
    refine ⟨fun y hy k hk hyk => ?_, by simp⟩
    simp at hy
    subst hy
    exact hc.apart k hk.1 hyk.1)
  rw [List.append_assoc] at this
  exact this

/-- A place of its row is another one. -/
theorem Mid.lay {g n c j : Nat} (hm : Mid K h w0 w b F (.slice (some ⟨g, 0, none⟩) n c) u ys ps ks) (hn : ys.length = n) (x : EV) :
    Mid K h w0 (((w.setCell ⟨g, j * 3, none⟩ (.slice x.A x.e.key.length x.c)).setCell ⟨g, j * 3 + 1, none⟩ (.int .i64 x.e.pg)).setCell ⟨g, j * 3 + 2, none⟩ (.int .i64 x.e.sl)) b F (.slice (some ⟨g, 0, none⟩) n c) u (ys.set j x) ps ks := by
  subst hn
  have ho : Only (· = g) w (((w.setCell ⟨g, j * 3, none⟩ (.slice x.A x.e.key.length x.c)).setCell ⟨g, j * 3 + 1, none⟩ (.int .i64 x.e.pg)).setCell ⟨g, j * 3 + 2, none⟩ (.int .i64 x.e.sl)) := (((Only.refl (· = g) w).setCell (p := ⟨g, j * 3, none⟩) (fun _ => rfl) _).setCell (p := ⟨g, j * 3 + 1, none⟩) (fun _ => rfl) _).setCell (p := ⟨g, j * 3 + 2, none⟩) (fun _ => rfl) _
  have hz := ho.size
  obtain ⟨hb1, hb2, hb3⟩ := hm.bn
  have hg : F g ∨ w0.heap.size ≤ g := hm.foot.2.2.1 g rfl
  refine ⟨hm.only.trans' ho (fun k hk e => ?_), ho.get hm.box (fun e => hb1 g rfl e.symm), ?_, owns_kept hm.kids ho (fun k e e' => hb3 g rfl (by rw [← e']; exact e)), hm.some_, fun y hy => ⟨(hm.kid y hy).1, NodeAt.kept ho (fun k hk e => hm.nokey hk (by rw [e]; exact hg)) (hm.kid y hy).2 (fun k hk e => (hm.sub y hy k hk).2.2.2.1 (by rw [e]; rfl))⟩, fun y hy k hk => ⟨(hm.sub y hy k hk).1, by have := (hm.sub y hy k hk).2.1; omega, (hm.sub y hy k hk).2.2⟩, hm.apart, hm.foot, hm.keys⟩
  · subst e
    rcases hg with x | x
    · exact x
    · omega
  · have h1 := (hm.row.stored (j * 3) (.slice x.A x.e.key.length x.c)).1
    have h2 := (World.ownsRow.stored h1 (j * 3 + 1) (.int .i64 x.e.pg)).1
    have h3 := (World.ownsRow.stored h2 (j * 3 + 2) (.int .i64 x.e.sl)).1
    rw [rowV_set] at h3
    unfold RowAt
    rw [List.length_set]
    exact h3

/-- Its row is another one. -/
theorem Mid.grow {W w5 : World} {v5 : Value} {ys' : List EV} (hm : Mid K h w0 w b F v u ys ps ks) (hq : Quiet w W) (hg : Grew W w5 131 3 v v5 ys'.length (rowV ys')) : Mid K h w0 (w5.setCell ⟨b, 0, none⟩ v5) b F v5 u ys' ps ks := by
  have hset : Only (· = b) w5 (w5.setCell ⟨b, 0, none⟩ v5) := (Only.refl (· = b) w5).setCell (p := ⟨b, 0, none⟩) (fun _ => rfl) _
  have hmq := hm.quietly hq
  obtain ⟨hb1, hb2, hb3⟩ := hmq.bn
  have hbw := lt_of_get hmq.box
  have hz := hg.only.size
  have hz5 := hset.size
  have hz0 := hmq.only.size
  have hv5 : ∀ k, v5.ownBlock = some k → v.ownBlock = some k ∨ k = W.heap.size := fun k e => by
    rcases hg.loc with x | x
    · rw [x] at e; exact Or.inl e
    · rw [x] at e; injection e with e; exact Or.inr e.symm
  have hv5b : ∀ k, v5.ownBlock = some k → k ≠ b := fun k e => by
    rcases hv5 k e with x | x
    · exact hb1 k x
    · omega
  refine ⟨(hmq.only.trans' hg.only (fun k hk e => ?_)).trans' hset (fun k hk e => by rw [e]; exact hm.foot.1), by rw [set_same (hg.only.get hmq.box (fun e => hb1 b e rfl))]; rfl, owns_kept hg.own hset (fun k e x => hv5b k e x), owns_kept (owns_kept hmq.kids hg.only (fun k e e' => hb3 k e' e)) hset (fun k e => hb2 k e), hm.some_, fun y hy => ⟨(hm.kid y hy).1, NodeAt.kept hset (fun k hk e => hm.nokey hk (by rw [e]; exact Or.inl hm.foot.1)) (NodeAt.kept hg.only (fun k hk e => hm.nokey hk (hm.foot.2.2.1 k e)) (hmq.kid y hy).2 (fun k hk e => (hmq.sub y hy k hk).2.2.2.1 e)) (fun k hk e => (hmq.sub y hy k hk).2.2.1 e)⟩, fun y hy k hk => ?_, hm.apart, ⟨hm.foot.1, hm.foot.2.1, fun k e => ?_, hm.foot.2.2.2⟩, hm.keys⟩
  · rcases hm.foot.2.2.1 k e with x | x
    · exact x
    · omega
  · have := hmq.sub y hy k hk
    refine ⟨this.1, by omega, this.2.2.1, fun e => ?_, this.2.2.2.2⟩
    rcases hv5 k e with x | x
    · exact this.2.2.2.1 x
    · omega
  · rcases hv5 k e with x | x
    · exact hm.foot.2.2.1 k x
    · exact Or.inr (by omega)

/-- Its kids' row is another one. -/
theorem Mid.growKids {W w5 : World} {u5 : Value} {ps' : List Nat} (hm : Mid K h w0 w b F v u ys ps ks) (hq : Quiet w W) (hg : Grew W w5 173 1 u u5 ps'.length (ps'.map ptrV)) : Mid K h w0 (w5.setCell ⟨b, 1, none⟩ u5) b F v u5 ys ps' ks := by
  have hset : Only (· = b) w5 (w5.setCell ⟨b, 1, none⟩ u5) := (Only.refl (· = b) w5).setCell (p := ⟨b, 1, none⟩) (fun _ => rfl) _
  have hmq := hm.quietly hq
  obtain ⟨hb1, hb2, hb3⟩ := hmq.bn
  have hbw := lt_of_get hmq.box
  have hz := hg.only.size
  have hz5 := hset.size
  have hz0 := hmq.only.size
  have hu5 : ∀ k, u5.ownBlock = some k → u.ownBlock = some k ∨ k = W.heap.size := fun k e => by
    rcases hg.loc with x | x
    · rw [x] at e; exact Or.inl e
    · rw [x] at e; injection e with e; exact Or.inr e.symm
  have hu5b : ∀ k, u5.ownBlock = some k → k ≠ b := fun k e => by
    rcases hu5 k e with x | x
    · exact hb2 k x
    · omega
  refine ⟨(hmq.only.trans' hg.only (fun k hk e => ?_)).trans' hset (fun k hk e => by rw [e]; exact hm.foot.1), by rw [set_same (hg.only.get hmq.box (fun e => hb2 b e rfl))]; rfl, owns_kept (owns_kept hmq.row hg.only (fun k e e' => hb3 k e e')) hset (fun k e => hb1 k e), owns_kept hg.own hset (fun k e x => hu5b k e x), ?_, fun y hy => ⟨(hm.kid y hy).1, NodeAt.kept hset (fun k hk e => hm.nokey hk (by rw [e]; exact Or.inl hm.foot.1)) (NodeAt.kept hg.only (fun k hk e => hm.nokey hk (hm.foot.2.2.2 k e)) (hmq.kid y hy).2 (fun k hk e => (hmq.sub y hy k hk).2.2.2.2 e)) (fun k hk e => (hmq.sub y hy k hk).2.2.1 e)⟩, fun y hy k hk => ?_, hm.apart, ⟨hm.foot.1, hm.foot.2.1, hm.foot.2.2.1, fun k e => ?_⟩, hm.keys⟩
  · rcases hm.foot.2.2.2 k e with x | x
    · exact x
    · omega
  · rcases hg.loc with x | x
    · obtain ⟨g, hg'⟩ := hm.some_; exact ⟨g, by rw [x]; exact hg'⟩
    · exact ⟨_, x⟩
  · have := hmq.sub y hy k hk
    refine ⟨this.1, by omega, this.2.2.1, this.2.2.2.1, fun e => ?_⟩
    rcases hu5 k e with x | x
    · exact this.2.2.2.2 x
    · omega
  · rcases hu5 k e with x | x
    · exact hm.foot.2.2.2 k x
    · exact Or.inr (by omega)

end
end Go.Proofs.YtdeekopdhgjanaaGreatDoor

namespace Go.Lap
theorem heads_sub {ks : List Kid} (hne : ∀ x ∈ ks, x.xs ≠ []) : ∀ y ∈ heads ks, y ∈ flat ks := by
  intro y hy
  obtain ⟨x, hx, rfl⟩ := List.mem_map.1 hy
  exact List.mem_flatMap.2 ⟨x, hx, hd_mem (hne x hx)⟩

theorem flat_cons (x : Kid) (ks : List Kid) : flat (x :: ks) = x.xs ++ flat ks := by rw [flat, List.flatMap_cons]
theorem flat_mid (A : List Kid) (x : Kid) (B : List Kid) : flat (A ++ x :: B) = flat A ++ x.xs ++ flat B := by
  rw [flat, List.flatMap_append, List.flatMap_cons, List.append_assoc]

theorem heads_mid (A : List Kid) (x : Kid) (B : List Kid) : heads (A ++ x :: B) = heads A ++ hd x.xs :: heads B := by simp [heads]
theorem bs_mid (A : List Kid) (x : Kid) (B : List Kid) : (A ++ x :: B).map (·.b) = A.map (·.b) ++ x.b :: B.map (·.b) := by simp

theorem rising_heads {ks : List Kid} (hne : ∀ x ∈ ks, x.xs ≠ []) (hs : Rising (ents (flat ks))) : Rising (ents (heads ks)) := by
  induction ks with
  | nil => exact Rising.nil
  | cons x ks ih =>
    rw [flat_cons] at hs
    unfold ents Rising at hs
    rw [List.map_append, List.pairwise_append] at hs
    refine List.pairwise_cons.2 ⟨fun y hy => ?_, ih (fun z hz => hne z (by simp [hz])) hs.2.1⟩
    obtain ⟨z, hz, rfl⟩ := List.mem_map.1 hy
    exact hs.2.2 _ (List.mem_map.2 ⟨_, hd_mem (hne x (by simp)), rfl⟩) _ (List.mem_map.2 ⟨z, heads_sub (fun z hz => hne z (by simp [hz])) z hz, rfl⟩)

/-- First ones are least. -/
theorem hd_least {xs : List EV} (hs : Rising (ents xs)) {y : EV} (hy : y ∈ xs) : (hd xs).e = y.e ∨ cmpE (hd xs).e y.e < 0 := by
  rcases xs with _ | ⟨x, xs⟩
  · simp at hy
  · rcases List.mem_cons.1 hy with rfl | hy
    · exact Or.inl rfl
    · exact Or.inr ((List.pairwise_cons.1 hs).1 _ (List.mem_map.2 ⟨y, hy, rfl⟩))
end Go.Lap
namespace Go.Proofs.YtdeekopdhgjanaaGreatDoor
open Go.RowKit Go.Lap

/-- Where an entry goes below a node. -/
structure Goes (t : Ent) (A : List Kid) (x : Kid) (B : List Kid) : Prop where
  left : ∀ a ∈ flat A, cmpE a.e t < 0
  right : ∀ b ∈ flat B, cmpE t b.e < 0
  mem : t ∈ ents (flat (A ++ x :: B)) ↔ t ∈ ents x.xs
  rise : Rising (ents x.xs)

theorem goes_of {t : Ent} {A B : List Kid} {x : Kid} (hne : ∀ y ∈ A ++ x :: B, y.xs ≠ []) (hs : Rising (ents (flat (A ++ x :: B)))) (hb : Below1 t (ents (heads (A ++ x :: B))) A.length) : Goes t A x B := by
  have hs' := hs
  rw [flat_mid] at hs
  unfold ents Rising at hs
  rw [List.map_append, List.map_append, List.pairwise_append, List.pairwise_append] at hs
  obtain ⟨⟨_, hx, hAx⟩, hB, _⟩ := hs
  have hL : ∀ a ∈ flat A, cmpE a.e t < 0 := by
    intro a ha
    rcases hb.left with h0 | h0
    · have : A = [] := List.eq_nil_of_length_eq_zero h0
      subst this
      simp [flat] at ha
    · have h1 := h0 (hd x.xs).e (by unfold ents heads; simp)
      have h2 := hAx _ (List.mem_map.2 ⟨a, ha, rfl⟩) _ (List.mem_map.2 ⟨_, hd_mem (hne x (by simp)), rfl⟩)
      by_cases h3 : cmpE t (hd x.xs).e = 0
      · rw [(cmpE_zero _ _).1 h3]; exact h2
      · exact cmpE_trans h2 (by rw [cmpE_swap t]; omega)
  have hR : ∀ b ∈ flat B, cmpE t b.e < 0 := by
    intro c hc
    obtain ⟨y, hy, hcy⟩ := List.mem_flatMap.1 hc
    obtain ⟨j, hj⟩ := List.mem_iff_getElem?.1 hy
    have h1 : (ents (heads (A ++ x :: B)))[A.length + 1 + j]? = some (hd y.xs).e := by
      unfold ents heads
      rw [List.getElem?_map, List.getElem?_map, List.getElem?_append_right (by omega), show A.length + 1 + j - A.length = j + 1 by omega, List.getElem?_cons_succ, hj]
      rfl
    have h2 := hb.right _ _ (by omega) h1
    have hyr : Rising (ents y.xs) := by
      have hmem : ∀ l : List Kid, y ∈ l → Rising (ents (flat l)) → Rising (ents y.xs) := by
        intro l hl hr
        induction l with
        | nil => simp at hl
        | cons z l ih =>
          rw [flat_cons] at hr
          unfold ents Rising at hr
          rw [List.map_append, List.pairwise_append] at hr
          rcases List.mem_cons.1 hl with rfl | hl
          · exact hr.1
          · exact ih hl hr.2.1
      exact hmem _ (by simp [hy]) hs'
    rcases hd_least hyr hcy with e | e
    · rw [← e]; exact h2
    · exact cmpE_trans h2 e
  refine ⟨hL, hR, ?_, hx⟩
  rw [flat_mid]
  unfold ents
  rw [List.map_append, List.map_append, List.mem_append, List.mem_append]
  constructor
  · rintro ((h | h) | h)
    · obtain ⟨a, ha, e⟩ := List.mem_map.1 h
      have := hL a ha
      rw [e, cmpE_self] at this
      omega
    · exact h
    · obtain ⟨a, ha, e⟩ := List.mem_map.1 h
      have := hR a ha
      rw [e, cmpE_self] at this
      omega
  · exact fun h => Or.inl (Or.inr h)

theorem Goes.ins {e : EV} {A B : List Kid} {x : Kid} (h : Goes e.e A x B) : insX e (flat (A ++ x :: B)) = flat A ++ insX e x.xs ++ flat B := by
  rw [flat_mid]
  refine insX_mid h.left (fun b hb x => ?_)
  have := cmpE_trans (h.right b hb) x
  rw [cmpE_self] at this
  omega

/-- The kids, parted at a place. -/
theorem parted {α : Type} {ks : List α} {i : Nat} (h : i < ks.length) : ∃ A x B, ks = A ++ x :: B ∧ A.length = i ∧ ks[i]? = some x := by
  refine ⟨ks.take i, ks[i], ks.drop (i + 1), ?_, by rw [List.length_take]; omega, List.getElem?_eq_getElem h⟩
  rw [List.getElem_cons_drop, List.take_append_drop]

theorem set_mid {α : Type} (A : List α) (x y : α) (B : List α) : (A ++ x :: B).set A.length y = A ++ y :: B := by simp

theorem row_two (P Q : List EV) (y z : EV) : (rowV (P ++ y :: Q)).take ((P.length + 1) * 3) ++ z.cells ++ (rowV (P ++ y :: Q)).drop ((P.length + 1) * 3) = rowV (P ++ y :: z :: Q) := by
  rw [← rowV_take, ← rowV_drop, show P ++ y :: Q = (P ++ [y]) ++ Q by simp, List.take_left' (by simp), List.drop_left' (by simp), show P ++ y :: z :: Q = (P ++ [y]) ++ ([z] ++ Q) by simp, rowV_append (P ++ [y]) ([z] ++ Q), rowV_append [z] Q, rowV_one, List.append_assoc]

theorem ptr_two (P Q : List Nat) (y z : Nat) : ((P ++ y :: Q).map ptrV).take (P.length + 1) ++ [ptrV z] ++ ((P ++ y :: Q).map ptrV).drop (P.length + 1) = (P ++ y :: z :: Q).map ptrV := by
  rw [← List.map_take, ← List.map_drop, show P ++ y :: Q = (P ++ [y]) ++ Q by simp, List.take_left' (by simp), List.drop_left' (by simp)]
  simp

theorem insertE_z {z : Int} (v : Value) (n i vb : Nat) (xs news : List Value) (w : World) (hz : z = (i : Int)) (hown : w.ownsRow 0 131 3 v n xs) (hnl : news.length = 3) (hnew : w.heap[vb]? = some (.cells news.toArray 131 (0, 0))) (h1 : ∀ u ∈ news, u.oneCell' = true) (hx1 : ∀ u ∈ xs, u.oneCell' = true) (hn : n ≤ 100000) (hi : i ≤ n) (hvb : v.ownBlock ≠ some vb) :
    Calls Tryz.prog 109 #[v, .int .i64 z, .slice (some ⟨vb, 0, none⟩) 1 1] w fun e w' => ∃ v', e = .returned v' ∧ Grew w w' 131 3 v v' (n + 1) (xs.take (i * 3) ++ news ++ xs.drop (i * 3)) := by
  subst hz
  exact insertE_any v n i vb xs news w hown hnl hnew h1 hx1 hn hi hvb

theorem insertN_z {z : Int} (v : Value) (n i vb : Nat) (xs news : List Value) (w : World) (hz : z = (i : Int)) (hown : w.ownsRow 0 173 1 v n xs) (hnl : news.length = 1) (hnew : w.heap[vb]? = some (.cells news.toArray 173 (0, 0))) (h1 : ∀ u ∈ news, u.oneCell' = true) (hx1 : ∀ u ∈ xs, u.oneCell' = true) (hn : n ≤ 100000) (hi : i ≤ n) (hvb : v.ownBlock ≠ some vb) :
    Calls Tryz.prog 111 #[v, .int .i64 z, .slice (some ⟨vb, 0, none⟩) 1 1] w fun e w' => ∃ v', e = .returned v' ∧ Grew w w' 173 1 v v' (n + 1) (xs.take i ++ news ++ xs.drop i) := by
  subst hz
  exact insertN_any v n i vb xs news w hown hnl hnew h1 hx1 hn hi hvb

/-- One more in its row. -/
theorem Mid.insE {K F : Nat → Prop} {h : Nat} {w0 w : World} {b g n c i : Nat} {u : Value} {P Q : List EV} {y x : EV} {ps : List Nat} {ks : List Kid} {z : Int} (hm : Mid K h w0 w b F (.slice (some ⟨g, 0, none⟩) n c) u (P ++ y :: Q) ps ks) (hz : z = (i : Int) + 1) (hP : P.length = i) (hn : n ≤ 50000) :
    Calls Tryz.prog 109 #[.slice (some ⟨g, 0, none⟩) n c, .int .i64 z, .slice (some ⟨w.heap.size, 0, none⟩) 1 1] (w.alloc (.cells #[.slice x.A x.e.key.length x.c, .int .i64 x.e.pg, .int .i64 x.e.sl] 131)) fun e w8 =>
      ∃ A8 c8, e = .returned (.slice A8 (n + 1) c8) ∧ w8.cell? ⟨b, 0, none⟩ = some (.slice (some ⟨g, 0, none⟩) n c) ∧ (∀ o, w8.frozen? ⟨b, o, none⟩ = false) ∧ Mid K h w0 (w8.setCell ⟨b, 0, none⟩ (.slice A8 (n + 1) c8)) b F (.slice A8 (n + 1) c8) u (P ++ y :: x :: Q) ps ks := by
  obtain ⟨A', c', he, _, _, _⟩ := own_form hm.row
  have hlen : (P ++ y :: Q).length = n := by injection he with _ he _; exact he.symm
  have hil : i + 1 ≤ n := by rw [← hlen, ← hP]; simp
  have hgl : g < w.heap.size := (hm.row.lt g rfl).2
  have hrow := owns_kept hm.row ((Only.refl (fun _ => False) w).alloc (.cells #[.slice x.A x.e.key.length x.c, .int .i64 x.e.pg, .int .i64 x.e.sl] 131)) (fun _ _ x => x)
  rw [hlen] at hrow
  refine (insertE_z (z := z) _ n (i + 1) w.heap.size (rowV (P ++ y :: Q)) x.cells _ (by omega) hrow rfl (alloc_new w _) (fun u hu => one_row [x] u (by rw [rowV_one]; exact hu)) (one_row _) (by omega) hil (fun e => by have e2 : g = w.heap.size := Option.some.inj e; omega)).mono ?_
  rintro e w8 ⟨v8, rfl, hg⟩
  obtain ⟨A8, c8, hv8, _, _, _⟩ := own_form hg.own
  subst hv8
  have hb8 := hg.only.get (alloc_old hm.box _) (fun e => hm.bn.1 b e rfl)
  rw [← hP, row_two] at hg
  have hl2 : (P ++ y :: x :: Q).length = n + 1 := by rw [← hlen]; simp; omega
  refine ⟨A8, c8, rfl, by rw [cell_of hb8]; rfl, fun o => frozen_of hb8 o, hm.grow ((Only.refl _ _).alloc _) (by rw [hl2]; exact hg)⟩

/-- One more in its kids' row. -/
theorem Mid.insN {K F : Nat → Prop} {h : Nat} {w0 w : World} {b g n c i r : Nat} {v : Value} {ys : List EV} {P Q : List Nat} {y : Nat} {ks : List Kid} {z : Int} (hm : Mid K h w0 w b F v (.slice (some ⟨g, 0, none⟩) n c) ys (P ++ y :: Q) ks) (hz : z = (i : Int) + 1) (hP : P.length = i) (hn : n ≤ 50000) :
    Calls Tryz.prog 111 #[.slice (some ⟨g, 0, none⟩) n c, .int .i64 z, .slice (some ⟨w.heap.size, 0, none⟩) 1 1] (w.alloc (.cells #[ptrV r] 173)) fun e w8 =>
      ∃ A8 c8, e = .returned (.slice A8 (n + 1) c8) ∧ w8.cell? ⟨b, 1, none⟩ = some (.slice (some ⟨g, 0, none⟩) n c) ∧ (∀ o, w8.frozen? ⟨b, o, none⟩ = false) ∧ Mid K h w0 (w8.setCell ⟨b, 1, none⟩ (.slice A8 (n + 1) c8)) b F v (.slice A8 (n + 1) c8) ys (P ++ y :: r :: Q) ks := by
  obtain ⟨A', c', he, _, _, _⟩ := own_form hm.kids
  have hlen : (P ++ y :: Q).length = n := by injection he with _ he _; exact he.symm
  have hil : i + 1 ≤ n := by rw [← hlen, ← hP]; simp
  have hgl : g < w.heap.size := (hm.kids.lt g rfl).2
  have hrow := owns_kept hm.kids ((Only.refl (fun _ => False) w).alloc (.cells #[ptrV r] 173)) (fun _ _ x => x)
  rw [hlen] at hrow
  refine (insertN_z (z := z) _ n (i + 1) w.heap.size ((P ++ y :: Q).map ptrV) [ptrV r] _ (by omega) hrow rfl (alloc_new w _) (one_ptr [r]) (one_ptr _) (by omega) hil (fun e => by have e2 : g = w.heap.size := Option.some.inj e; omega)).mono ?_
  rintro e w8 ⟨v8, rfl, hg⟩
  obtain ⟨A8, c8, hv8, _, _, _⟩ := own_form hg.own
  subst hv8
  have hb8 := hg.only.get (alloc_old hm.box _) (fun e => hm.bn.2.1 b e rfl)
  rw [← hP, ptr_two] at hg
  have hl2 : (P ++ y :: r :: Q).length = n + 1 := by rw [← hlen]; simp; omega
  refine ⟨A8, c8, rfl, by rw [cell_of hb8]; rfl, fun o => frozen_of hb8 o, hm.growKids ((Only.refl _ _).alloc _) (by rw [hl2]; exact hg)⟩

def InsIH (K : Nat → Prop) (h : Nat) : Prop := ∀ (w : World) (b : Nat) (F : Nat → Prop) (xs : List EV) (e : EV), NodeAt K h w b F xs → (∀ k, K k → ¬ F k ∧ k < w.heap.size) → Keyd w K e → Rising (ents xs) → xs.length ≤ 50000 →
  Calls Tryz.prog 76 #[ptrV b, entV e.e e.A e.c] w (InsPost K h w b F xs e)

set_option maxHeartbeats 4000000 in
set_option maxRecDepth 100000 in
theorem insert_inner {K F : Nat → Prop} {h : Nat} {w : World} {b : Nat} {v u : Value} {ks : List Kid} {e : EV} (hih : InsIH K h) (hi : Inner (NodeAt K h) w b F v u ks) (hlim : ∀ k, F k → k < w.heap.size) (hK : ∀ k, K k → ¬ F k ∧ k < w.heap.size) (he : Keyd w K e) (hs : Rising (ents (flat ks))) (hn : (flat ks).length ≤ 50000) (hkl : ks.length ≤ (flat ks).length) :
    Calls Tryz.prog 76 #[ptrV b, entV e.e e.A e.c] w (InsPost K (h + 1) w b F (flat ks) e) := by
  have hhl : (heads ks).length = ks.length := by simp
  have hne : ∀ x ∈ ks, x.xs ≠ [] := fun x hx => (hi.kid x hx).1
  have hrh := rising_heads hne hs
  have h2 := hi.two
  have hb1 := below_spec (t := e.e) hrh (by intro x; have := congrArg List.length x; simp at this; rw [this] at h2; simp at h2)
  obtain ⟨i, hie⟩ : ∃ i, belowE e.e (ents (heads ks)) = i := ⟨_, rfl⟩
  rw [hie] at hb1
  have hil : i < ks.length := by have := hb1.lt; simpa using this
  obtain ⟨A, x, B, hks, hAi, _⟩ := parted hil
  subst hks
  rw [← hAi] at hb1
  have HGO := Lib.hid (goes_of hne hs hb1)
  obtain ⟨gu, cu, hu, hcu, hcum⟩ := hi.form
  obtain ⟨g, c, hv, hc, hcm⟩ : ∃ g c, v = .slice (some ⟨g, 0, none⟩) (A ++ x :: B).length c ∧ (A ++ x :: B).length ≤ c ∧ c ≤ maxLen := by
    rcases owns_cases hi.row with ⟨_, e⟩ | ⟨g, c, e, h1, h2'⟩
    · omega
    · rw [hhl] at e h1
      exact ⟨g, c, e, h1, h2'⟩
  have hm0 := Mid.start hi hlim hK
  obtain ⟨n, hnn⟩ : ∃ n, (A ++ x :: B).length = n := ⟨_, rfl⟩
  rw [hnn] at hv hu hc hcu hil h2
  rw [hv, hu] at hm0
  have hq0 : Quiet w (w.alloc (.cells #[.slice e.A e.e.key.length e.c, .int .i64 e.e.pg, .int .i64 e.e.sl] 131)) := (Only.refl _ _).alloc _
  have hm1 := hm0.quietly hq0
  have HM1 := Lib.hid hm1
  have HE1 := Lib.hid (he.quietly hq0)
  have HBX1 := Lib.hid (alloc_new w (.cells #[.slice e.A e.e.key.length e.c, .int .i64 e.e.pg, .int .i64 e.e.sl] 131))
  have HLF := Lib.hid (leaf_any b _ _ _ _ _ hm1.box)
  have hkey1 : ∀ y ∈ heads (A ++ x :: B), Keyd (w.alloc (.cells #[.slice e.A e.e.key.length e.c, .int .i64 e.e.pg, .int .i64 e.e.sl] 131)) K y := fun y hy => by
    obtain ⟨z, hz, rfl⟩ := List.mem_map.1 hy
    exact (hm1.kid z hz).2.key _ (hd_mem (hne z hz))
  have HBE := Lib.hid (below_any b _ _ (heads (A ++ x :: B)) e K K _ hm1.box hm1.row hkey1 HE1.out hrh (by rw [hhl]; omega))
  rw [hie] at HBE
  obtain ⟨t0, t1, t2⟩ := ent_cells HBX1.out
  have HIH := Lib.hid hih
  have HNN := Lib.hid hnn
  have HAI := Lib.hid hAi
  have hxl : Hid (x.xs.length ≤ 50000) := by show _ ≤ _; rw [flat_mid] at hn; simp at hn; omega
  have hn5 : n ≤ 50000 := by omega
  obtain ⟨POST, hPOST⟩ : ∃ POST, InsPost K (h + 1) w b F (flat (A ++ x :: B)) e = POST := ⟨_, rfl⟩
  rw [hPOST]
  have HPOST := Lib.hid hPOST
  have hcm' : c ≤ 9223372036854775807 := by unfold maxLen at hcm; omega
  have hcum' : cu ≤ 9223372036854775807 := by unfold maxLen at hcum; omega
  clear hih hi hlim hK he hs hn hkl hhl hne hrh hb1 hie hu hv hm0 hq0 hm1 hkey1 hnn hAi hcm hcum hPOST
  go_enter Tryz.func76, Tryz.ntmps76
  go_wp2_with fail
  refine HLF.out.mono ?_
  rintro r w1 ⟨rfl, rfl⟩
  go_wp2_with fail
  refine HBE.out.mono ?_
  rintro r w2 ⟨rfl, hq2⟩
  have hm2 := HM1.out.quietly hq2
  have HM2 := Lib.hid hm2
  have HE2 := Lib.hid (HE1.out.quietly hq2)
  have HBX2 := Lib.hid (hq2.get HBX1.out (fun x => x))
  have b1 : w2.cell? ⟨b, 1, none⟩ = some (.slice (some ⟨gu, 0, none⟩) n cu) := by rw [cell_of hm2.box]; rfl
  have p1 : w2.cell? ⟨gu, i, none⟩ = some (ptrV x.b) := by
    have := hm2.kids.cells rfl i (ptrV x.b) (by rw [List.getElem?_map, List.getElem?_map, ← HAI.out]; simp)
    rw [add_none, Nat.zero_add] at this
    exact this
  obtain ⟨t0, t1, t2⟩ := ent_cells HBX2.out
  have d0 : (0 : Int) ≤ (i : Int) := by omega
  have d1 : (i : Int) < (n : Int) := by omega
  have HIN := Lib.hid (HIH.out w2 x.b x.F x.xs e (hm2.kid x (by simp)).2 (fun k hk => ⟨fun y => hm2.nokey hk (hm2.sub x (by simp) k y).1, by have := (hm2.keys k hk).2; have := hm2.only.size; omega⟩) HE2.out HGO.out.rise hxl.out)
  clear hq2 hm2 HM1 HE1 HBX1 HLF HBE HIH
  go_wp2_with fail
  refine HIN.out.mono ?_
  rintro r w3 (⟨hmem, rfl, ho3, hn3⟩ | ⟨hmem, rfl, ho3, hn3⟩)
  · have hm3 := HM2.out.put ho3 hn3 (HM2.out.kid x (by simp)).1
    rw [heads_mid, bs_mid] at hm3
    have HR : Hid (POST (.returned (.bool false)) w3) := by
      rw [← HPOST.out]
      refine Or.inl ⟨HGO.out.mem.2 hmem, rfl, hm3.only, ?_⟩
      have := Mid.done (ks := A ++ ⟨x.b, fun k => (x.F k ∨ w2.heap.size ≤ k) ∧ k < w3.heap.size, x.xs⟩ :: B) (by rw [heads_mid, bs_mid]; exact hm3) (by have := HNN.out; simp at this ⊢; omega)
      rw [flat_mid] at this ⊢
      exact this
    clear hm3 hmem ho3 hn3 HIN HM2 HE2 HBX2 b1 p1 t0 t1 t2
    go_wp2
    exact HR.out
  · have hm3 := HM2.out.put ho3 hn3 (insX_ne e x.xs)
    rw [heads_mid, bs_mid] at hm3
    have HM3 := Lib.hid hm3
    have HMEM := Lib.hid hmem
    have hq3d : Quiet w3 w3.drew := (Only.refl _ _).drew
    have HLE := Lib.hid (least_any ((hm3.quietly hq3d).kid _ (List.mem_append_right A List.mem_cons_self)).2 (insX_ne e x.xs))
    have b3 : w3.cell? ⟨b, 0, none⟩ = some (.slice (some ⟨g, 0, none⟩) n c) := by rw [cell_of hm3.box]; rfl
    have hgb : g ≠ b := hm3.bn.1 g rfl
    have hgl : g < w3.heap.size := (hm3.row.lt g rfl).2
    have hys : Hid ((heads A ++ hd x.xs :: heads B)[i]? = some (hd x.xs)) := by show _ = _; rw [← HAI.out]; simp [heads]
    clear hm3 hmem ho3 hn3 HIN HM2 HE2 HBX2 b1 p1 t0 t1 t2 hq3d
    go_wp2_with fail
    go_region_held3 (fun w' => w'.cell? ⟨b, 0, none⟩ = some (.slice (some ⟨g, 0, none⟩) n c))
      (first | go_keep | fail)
      (first
        | (go_at_call 79; go_must (refine HLE.out.mono ?_; rintro r w4 ⟨rfl, hq4⟩; have k0 := hq4.cell b3 (fun x => x); have hm4 := (HM3.out.quietly ((Only.refl (fun _ => False) w3).drew)).quietly hq4; obtain ⟨s0, s1, s2⟩ := row_at hm4.row hys.out (Only.refl _ _); obtain ⟨rc, hrc⟩ := own_blk hm4.row (k := g) rfl; have sf := fun o => frozen_of hrc o))
        | fail)
    have hlen : (heads A ++ hd x.xs :: heads B).length = n := by have := HNN.out; simp [heads] at this ⊢; omega
    have hm5 := hm4.lay (j := i) hlen (hd (insX e x.xs))
    rw [show (heads A ++ hd x.xs :: heads B).set i (hd (insX e x.xs)) = heads A ++ hd (insX e x.xs) :: heads B by rw [show i = (heads A).length by rw [← HAI.out]; simp [heads]]; exact set_mid _ _ _ _] at hm5
    have HM5 := Lib.hid hm5
    clear hm5 hm4 hq4 k0 s0 s1 s2 rc hrc sf HLE b3 HM3 hgb hgl hys hlen
    generalize (((w4.setCell ⟨g, i * 3, none⟩ (.slice (hd (insX e x.xs)).A (hd (insX e x.xs)).e.key.length (hd (insX e x.xs)).c)).setCell ⟨g, i * 3 + 1, none⟩ (.int .i64 (hd (insX e x.xs)).e.pg)).setCell ⟨g, i * 3 + 2, none⟩ (.int .i64 (hd (insX e x.xs)).e.sl)) = w5 at HM5 ⊢
    obtain ⟨x5, HX5⟩ : ∃ x5 : Kid, Hid (x5.b = x.b ∧ x5.xs = insX e x.xs ∧ Mid K h w w5 b F (.slice (some ⟨g, 0, none⟩) n c) (.slice (some ⟨gu, 0, none⟩) n cu) (heads A ++ hd (insX e x.xs) :: heads B) (A.map (·.b) ++ x.b :: B.map (·.b)) (A ++ x5 :: B)) := ⟨⟨x.b, fun k => (x.F k ∨ w2.heap.size ≤ k) ∧ k < w3.heap.size, insX e x.xs⟩, rfl, rfl, HM5.out⟩
    have hsp := split_any (HX5.out.2.2.kid x5 (by simp)).2 (fun j hj hx => HX5.out.2.2.nokey hj (HX5.out.2.2.sub x5 (by simp) j hx).1) (by rw [HX5.out.2.1, insX_length]; have := hxl.out; omega)
    rw [HX5.out.1] at hsp
    have HSP := Lib.hid hsp
    have HLEN : Hid ((A ++ x5 :: B).length = n) := by have := HNN.out; show _ = _; simp at this ⊢; omega
    clear hsp HM5
    go_wp2_with fail
    refine HSP.out.mono ?_
    rintro r w6 (⟨rfl, rfl⟩ | ⟨r, F1, F2, x1, x2, rfl, hc6⟩)
    · have HR : Hid (POST (.returned (.bool true)) w5) := by
        rw [← HPOST.out]
        refine Or.inr ⟨fun z => HMEM.out (HGO.out.mem.1 z), rfl, HX5.out.2.2.only, ?_⟩
        have := Mid.done (ks := A ++ x5 :: B) (by rw [heads_mid, bs_mid, HX5.out.1, HX5.out.2.1]; exact HX5.out.2.2) (by rw [HLEN.out]; exact h2)
        rw [flat_mid, HX5.out.2.1] at this
        rw [HGO.out.ins]
        exact this
      clear HSP HX5
      go_wp2
      exact HR.out
    · rw [← HX5.out.1] at hc6
      obtain ⟨G1, G2, hm6⟩ := HX5.out.2.2.cleave hc6
      have hall := hc6.all
      rw [HX5.out.2.1] at hall
      have hh1 : hd (insX e x.xs) = hd x1 := by rw [hall]; exact hd_append hc6.ne1 _
      rw [hh1, HX5.out.1] at hm6
      have HALL := Lib.hid hall
      have HM6 := Lib.hid hm6
      have HLR := Lib.hid (least_any (xs := x2) ((hm6.quietly ((Only.refl (fun _ => False) w6).drew)).kid ⟨r, G2, x2⟩ (by simp)).2 hc6.ne2)
      have k6 : w6.cell? ⟨b, 0, none⟩ = some (.slice (some ⟨g, 0, none⟩) n c) := by rw [cell_of hm6.box]; rfl
      have hlen : Hid ((heads A ++ hd x1 :: heads B).length = n) := by have := HNN.out; show _ = _; simp [heads] at this ⊢; omega
      have hhA : Hid ((heads A).length = i) := by show _ = _; rw [← HAI.out]; simp [heads]
      have dw : IntKind.i64.wrap ((i : Int) + 1) = (i : Int) + 1 := wrapI (by omega)
      have hgl : g < w6.heap.size := (hm6.row.lt g rfl).2
      have hgb : Hid (g ≠ b) := hm6.bn.1 g rfl
      clear hm6 hall hh1 hc6 HSP HX5
      go_upto_region 14 with fail
      go_cut [] (fun wx => ∃ v7, Mid K h w wx b F v7 (.slice (some ⟨gu, 0, none⟩) n cu) (heads A ++ hd x1 :: hd x2 :: heads B) (A.map (·.b) ++ x.b :: B.map (·.b)) (A ++ ⟨x.b, G1, x1⟩ :: ⟨r, G2, x2⟩ :: B))
      case first =>
        go_region_law (first
          | (go_simp; go_at_call 79; refine HLR.out.mono ?_; rintro r' w7 ⟨rfl, hq7⟩; have k7 := hq7.cell k6 (fun x => x); have k7a : (w7.alloc (.cells #[.slice (hd x2).A (hd x2).e.key.length (hd x2).c, .int .i64 (hd x2).e.pg, .int .i64 (hd x2).e.sl] 131)).cell? ⟨b, 0, none⟩ = some (.slice (some ⟨g, 0, none⟩) n c) := ((Only.refl (fun _ => False) w7).alloc _).cell k7 (fun x => x); have hm7 := (HM6.out.quietly ((Only.refl (fun _ => False) w6).drew)).quietly hq7; have hz7 := hq7.size)
          | (go_simp; go_at_call 109; refine (hm7.insE (x := hd x2) rfl hhA.out hn5).mono ?_; rintro r' w8 ⟨A8, c8, rfl, s1, s2, hm8⟩)
          | fail)
        all_goals
          go_wp2_with fail
          go_meet
          exact ⟨_, hm8⟩
      case rest =>
        obtain ⟨v7, hm7⟩ := hcut
        have HM7 := Lib.hid hm7
        have b7 : wc.cell? ⟨b, 1, none⟩ = some (.slice (some ⟨gu, 0, none⟩) n cu) := by rw [cell_of hm7.box]; rfl
        have HIN7 := Lib.hid (hm7.insN (r := r) (z := (i : Int) + 1) rfl (show (A.map (·.b)).length = i by rw [← HAI.out]; simp) hn5)
        clear hm7 HLR k6 HM6 dw
        go_wp2_with fail
        refine HIN7.out.mono ?_
        rintro r' w9 ⟨A9, c9, rfl, s1, s2, hm9⟩
        have HR : Hid (POST (.returned (.bool true)) (w9.setCell ⟨b, 1, none⟩ (.slice A9 (n + 1) c9))) := by
          rw [← HPOST.out]
          refine Or.inr ⟨fun z => HMEM.out (HGO.out.mem.1 z), rfl, hm9.only, ?_⟩
          have := Mid.done (ks := A ++ ⟨x.b, G1, x1⟩ :: ⟨r, G2, x2⟩ :: B) (by
            rw [heads_mid, bs_mid]
            exact hm9) (by simp; omega)
          rw [flat_mid, flat_cons] at this
          rw [HGO.out.ins, HALL.out]
          simp only [List.append_assoc] at this ⊢
          exact this
        clear hm9 HIN7 HM7 b7
        go_wp2
        exact HR.out

theorem flat_le {ks : List Kid} (hk : ∀ x ∈ ks, x.xs ≠ []) : ks.length ≤ (flat ks).length := by
  induction ks with
  | nil => simp
  | cons x ks ih =>
    have h1 := List.length_pos_iff.2 (hk x (by simp))
    have h2 := ih (fun y hy => hk y (by simp [hy]))
    rw [flat_cons, List.length_append, List.length_cons]
    omega

theorem insert_ih (K : Nat → Prop) (h : Nat) : InsIH K h := by
  induction h with
  | zero =>
    intro w b F xs e ⟨v, hl⟩ hK he hs hn
    exact insert_leaf hl hK he hs hn
  | succ h ih =>
    intro w b F xs e hn hK he hs hl
    obtain ⟨v, u, ks, hi, rfl⟩ := hn.lim
    refine (insert_inner ih hi (fun k hk => hk.2) (fun k hk => ⟨fun x => (hK k hk).1 x.1, (hK k hk).2⟩) he hs hl (flat_le (fun x hx => (hi.kid x hx).1))).mono ?_
    rintro r w' (⟨h1, h2, h3, h4⟩ | ⟨h1, h2, h3, h4⟩)
    · exact Or.inl ⟨h1, h2, h3.mono (fun _ _ x => x.1), h4.mono (fun k x => x.imp (fun y => y.1) id)⟩
    · exact Or.inr ⟨h1, h2, h3.mono (fun _ _ x => x.1), h4.mono (fun k x => x.imp (fun y => y.1) id)⟩

end Go.Proofs.YtdeekopdhgjanaaGreatDoor

namespace Go.Proofs.YtdeekopdhgjanaaGreatDoor
open Go.RowKit Go.Lap

/-- From w0 on only blocks of D, and new ones, turned: block tb is a tree whose root is the node rb; it says cnt. -/
structure TreeMid (w0 w : World) (D : Nat → Prop) (tb rb h : Nat) (F K : Nat → Prop) (xs : List EV) (cnt : Int) : Prop where
  only : Only D w0 w
  box : w.heap[tb]? = some (.cells #[ptrV rb, .int .i64 cnt] 175 (0, 0))
  node : NodeAt K h w rb F xs
  subF : ∀ k, F k → (D k ∨ w0.heap.size ≤ k) ∧ k ≠ tb ∧ k < w.heap.size
  subK : ∀ k, K k → (D k ∨ w0.heap.size ≤ k) ∧ ¬ F k ∧ k ≠ tb ∧ k < w.heap.size
  own : D tb ∧ tb < w0.heap.size

/-- A tree with these entries; D: all its blocks. -/
def TreeIs (w : World) (D : Nat → Prop) (tb : Nat) (es : List Ent) : Prop := ∃ rb h F K xs, TreeMid w w D tb rb h F K xs (xs.length : Int) ∧ ents xs = es ∧ Rising es

section
variable {w0 w w' : World} {D : Nat → Prop} {tb rb h : Nat} {F K : Nat → Prop} {xs : List EV} {cnt : Int}

theorem TreeMid.quietly (hm : TreeMid w0 w D tb rb h F K xs cnt) (hq : Quiet w w') : TreeMid w0 w' D tb rb h F K xs cnt := by
  have hz := hq.size
  exact ⟨hm.only.trans' hq (fun _ _ x => x.elim), hq.get hm.box (fun x => x), NodeAt.kept hq (fun _ _ x => x) hm.node (fun _ _ x => x), fun k hk => by have := hm.subF k hk; exact ⟨this.1, this.2.1, by omega⟩, fun k hk => by have := hm.subK k hk; exact ⟨this.1, this.2.1, this.2.2.1, by omega⟩, hm.own⟩

/-- More keys. -/
theorem TreeMid.keys {K' : Nat → Prop} (hm : TreeMid w0 w D tb rb h F K xs cnt) (hk : ∀ k, K k → K' k) (hn : ∀ k, K' k → K k ∨ (w0.heap.size ≤ k ∧ k < w.heap.size ∧ ¬ F k)) : TreeMid w0 w D tb rb h F K' xs cnt := by
  refine ⟨hm.only, hm.box, NodeAt.keys hk hm.node, hm.subF, fun k x => ?_, hm.own⟩
  rcases hn k x with y | ⟨y, z, u⟩
  · exact hm.subK k y
  · exact ⟨Or.inr y, u, by have := hm.own.2; omega, z⟩

/-- Its nodes turn. -/
theorem TreeMid.turn {rb' h' : Nat} {F' : Nat → Prop} {xs' : List EV} (hm : TreeMid w0 w D tb rb h F K xs cnt) (ho : Only F w w') (hn : NodeAt K h' w' rb' F' xs') (hF : ∀ k, F' k → F k ∨ w.heap.size ≤ k) (hrb : rb' = rb) : TreeMid w0 w' D tb rb' h' (fun k => F' k ∧ k < w'.heap.size) K xs' cnt := by
  subst hrb
  have hz := ho.size
  have hz0 := hm.only.size
  have htb := lt_of_get hm.box
  refine ⟨hm.only.trans' ho (fun k hk x => ?_), ho.get hm.box (fun x => (hm.subF tb x).2.1 rfl), hn.lim, fun k x => ?_, fun k x => ?_, hm.own⟩
  · rcases (hm.subF k x).1 with y | y
    · exact y
    · omega
  · rcases hF k x.1 with y | y
    · exact ⟨(hm.subF k y).1, (hm.subF k y).2.1, x.2⟩
    · exact ⟨Or.inr (by omega), by omega, x.2⟩
  · have := hm.subK k x
    refine ⟨this.1, fun y => ?_, this.2.2.1, by omega⟩
    rcases hF k y.1 with z | z
    · exact this.2.1 z
    · omega

/-- It says another number. -/
theorem TreeMid.count (hm : TreeMid w0 w D tb rb h F K xs cnt) (c : Int) : TreeMid w0 (w.setCell ⟨tb, 1, none⟩ (.int .i64 c)) D tb rb h F K xs c := by
  have ho : Only (· = tb) w (w.setCell ⟨tb, 1, none⟩ (.int .i64 c)) := (Only.refl (· = tb) w).setCell (p := ⟨tb, 1, none⟩) (fun _ => rfl) _
  have hz := ho.size
  exact ⟨hm.only.trans' ho (fun k _ e => by rw [e]; exact hm.own.1), by rw [set_same hm.box]; rfl, NodeAt.kept ho (fun k hk e => (hm.subK k hk).2.2.1 e) hm.node (fun k hk e => (hm.subF k hk).2.1 e), fun k hk => by have := hm.subF k hk; exact ⟨this.1, this.2.1, by omega⟩, fun k hk => by have := hm.subK k hk; exact ⟨this.1, this.2.1, this.2.2.1, by omega⟩, hm.own⟩

theorem TreeMid.cells (hm : TreeMid w0 w D tb rb h F K xs cnt) : w.cell? ⟨tb, 0, none⟩ = some (ptrV rb) ∧ w.cell? ⟨tb, 1, none⟩ = some (.int .i64 cnt) ∧ ∀ o, w.frozen? ⟨tb, o, none⟩ = false :=
  ⟨by rw [cell_of hm.box]; rfl, by rw [cell_of hm.box]; rfl, fun o => frozen_of hm.box o⟩

/-- The root is cleft; a new root over both. -/
theorem TreeMid.root {X : World} {r gl gk nb : Nat} {F1 F2 : Nat → Prop} {x1 x2 : List EV} (hm : TreeMid w0 w D tb rb h F K xs cnt) (hc : Cleft K h w w' rb F xs r F1 F2 x1 x2) (hq : Quiet w' X)
    (hl : X.heap[gl]? = some (.cells #[.slice (hd x1).A (hd x1).e.key.length (hd x1).c, .int .i64 (hd x1).e.pg, .int .i64 (hd x1).e.sl, .slice (hd x2).A (hd x2).e.key.length (hd x2).c, .int .i64 (hd x2).e.pg, .int .i64 (hd x2).e.sl] 131 (0, 0)))
    (hk : X.heap[gk]? = some (.cells #[ptrV rb, ptrV r] 173 (0, 0)))
    (hn : X.heap[nb]? = some (.cells #[.slice (some ⟨gl, 0, none⟩) 2 2, .slice (some ⟨gk, 0, none⟩) 2 2] 183 (0, 0))) (hgl : w'.heap.size ≤ gl) (hgk : w'.heap.size ≤ gk) (hnb : w'.heap.size ≤ nb) :
    ∃ F', TreeMid w0 (X.setCell ⟨tb, 0, none⟩ (ptrV nb)) D tb nb (h + 1) F' K xs cnt := by
  have hz := hc.only.size
  have hzq := hq.size
  have hz0 := hm.only.size
  have htb := lt_of_get hm.box
  have ltl := lt_of_get hl
  have ltk := lt_of_get hk
  have ltn := lt_of_get hn
  have h0 : TreeMid w0 w' D tb rb h (fun k => F1 k ∧ k < w'.heap.size) K x1 cnt := hm.turn hc.only hc.n1 hc.sub1 rfl
  have hs : Only (· = tb) X (X.setCell ⟨tb, 0, none⟩ (ptrV nb)) := (Only.refl (· = tb) X).setCell (p := ⟨tb, 0, none⟩) (fun _ => rfl) _
  have hzs := hs.size
  have htF : ∀ k, (F1 k ∧ k < w'.heap.size) ∨ (F2 k ∧ k < w'.heap.size) → (D k ∨ w0.heap.size ≤ k) ∧ k ≠ tb ∧ k < w'.heap.size ∧ ¬ K k := by
    intro k x
    have key : (F k ∨ w.heap.size ≤ k) → (D k ∨ w0.heap.size ≤ k) ∧ k ≠ tb ∧ ¬ K k := fun y => by
      rcases y with y | y
      · exact ⟨(hm.subF k y).1, (hm.subF k y).2.1, fun z => (hm.subK k z).2.1 y⟩
      · exact ⟨Or.inr (by omega), by omega, fun z => by have := (hm.subK k z).2.2.2; omega⟩
    rcases x with x | x
    · have := key (hc.sub1 k x.1); exact ⟨this.1, this.2.1, x.2, this.2.2⟩
    · have := key (hc.sub2 k x.1); exact ⟨this.1, this.2.1, x.2, this.2.2⟩
  have hold : ∀ k, K k → k < w'.heap.size ∧ k ≠ tb := fun k x => ⟨by have := (hm.subK k x).2.2.2; omega, (hm.subK k x).2.2.1⟩
  have keepN : ∀ {b : Nat} {G : Nat → Prop} {ys : List EV}, NodeAt K h w' b G ys → (∀ k, G k → k ≠ tb) → NodeAt K h (X.setCell ⟨tb, 0, none⟩ (ptrV nb)) b G ys := fun hnn hg =>
    NodeAt.kept hs (fun k x e => (hold k x).2 e) (NodeAt.kept hq (fun _ _ x => x) hnn (fun _ _ x => x)) (fun k x e => hg k x e)
  refine ⟨fun k => k = nb ∨ k = gl ∨ k = gk ∨ (F1 k ∧ k < w'.heap.size) ∨ (F2 k ∧ k < w'.heap.size), ⟨?_, ?_, ⟨.slice (some ⟨gl, 0, none⟩) 2 2, .slice (some ⟨gk, 0, none⟩) 2 2, [⟨rb, fun k => F1 k ∧ k < w'.heap.size, x1⟩, ⟨r, fun k => F2 k ∧ k < w'.heap.size, x2⟩], ⟨hs.get hn (by show ¬ nb = tb; omega), ?_, ?_, ⟨gk, rfl⟩, by simp, ?_, ?_, ?_, Or.inl rfl, fun k e => ?_, fun k e => ?_⟩, ?_⟩, fun k x => ?_, fun k x => ?_, hm.own⟩⟩
  · exact ((h0.only.trans' hq (fun _ _ x => x.elim)).trans' hs (fun k _ e => by rw [e]; exact hm.own.1))
  · rw [set_same (hq.get h0.box (fun x => x))]; rfl
  · refine ⟨rfl, Or.inr ⟨gl, 2, _, rfl, Nat.zero_le _, hs.get hl (by show ¬ gl = tb; omega), by simp, by simp [maxLen], rfl, rfl⟩⟩
  · refine ⟨rfl, Or.inr ⟨gk, 2, _, rfl, Nat.zero_le _, hs.get hk (by show ¬ gk = tb; omega), by simp, by simp [maxLen], rfl, rfl⟩⟩
  · intro x hx
    simp at hx
    rcases hx with rfl | rfl
    · exact ⟨hc.ne1, keepN hc.n1.lim (fun k y => (htF k (Or.inl y)).2.1)⟩
    · exact ⟨hc.ne2, keepN hc.n2.lim (fun k y => (htF k (Or.inr y)).2.1)⟩
  · intro x hx k y
    simp at hx
    have ne : k < w'.heap.size → k ≠ nb ∧ Value.ownBlock (.slice (some ⟨gl, 0, none⟩) 2 2) ≠ some k ∧ Value.ownBlock (.slice (some ⟨gk, 0, none⟩) 2 2) ≠ some k := fun z =>
      ⟨by omega, fun e => by have e2 : gl = k := Option.some.inj e; omega, fun e => by have e2 : gk = k := Option.some.inj e; omega⟩
    rcases hx with rfl | rfl
    · exact ⟨Or.inr (Or.inr (Or.inr (Or.inl y))), ne y.2⟩
    · exact ⟨Or.inr (Or.inr (Or.inr (Or.inr y))), ne y.2⟩
  · rw [List.pairwise_cons]
    refine ⟨fun y hy k hk hyk => ?_, by simp⟩
    simp at hy
    subst hy
    exact hc.apart k hk.1 hyk.1
  · have e2 : gl = k := Option.some.inj e
    exact Or.inr (Or.inl e2.symm)
  · have e2 : gk = k := Option.some.inj e
    exact Or.inr (Or.inr (Or.inl e2.symm))
  · rw [hc.all]; simp [flat]
  · rcases x with x | x | x | x | x
    · exact ⟨Or.inr (by omega), by omega, by omega⟩
    · exact ⟨Or.inr (by omega), by omega, by omega⟩
    · exact ⟨Or.inr (by omega), by omega, by omega⟩
    · have := htF k (Or.inl x); exact ⟨this.1, this.2.1, by omega⟩
    · have := htF k (Or.inr x); exact ⟨this.1, this.2.1, by omega⟩
  · have h1 := hold k x
    refine ⟨(hm.subK k x).1, fun y => ?_, h1.2, by omega⟩
    rcases y with y | y | y | y | y
    · omega
    · omega
    · omega
    · exact (htF k (Or.inl y)).2.2.2 x
    · exact (htF k (Or.inr y)).2.2.2 x

end
end Go.Proofs.YtdeekopdhgjanaaGreatDoor

namespace Go.Proofs.YtdeekopdhgjanaaGreatDoor
open Go.RowKit Go.Lap

theorem Quiet.alloc {w w' : World} (h : Quiet w w') (o : Obj) : Quiet w (w'.alloc o) := Only.alloc h o
theorem Quiet.drew {w w' : World} (h : Quiet w w') : Quiet w w'.drew := Only.drew h

def insPostT (w : World) (D : Nat → Prop) (tb : Nat) (es : List Ent) (e : Ent) (r : Ending) (w' : World) : Prop :=
  (e ∈ es ∧ r = .returned (.int .i64 7) ∧ Only D w w' ∧ TreeIs w' (fun k => D k ∨ w.heap.size ≤ k) tb es) ∨
  (e ∉ es ∧ r = .returned (.int .i64 0) ∧ Only D w w' ∧ TreeIs w' (fun k => D k ∨ w.heap.size ≤ k) tb (insE e es))

theorem TreeMid.is {w0 w : World} {D : Nat → Prop} {tb rb h : Nat} {F K : Nat → Prop} {xs : List EV} {cnt : Int} (hm : TreeMid w0 w D tb rb h F K xs cnt) (hc : cnt = (xs.length : Int)) (hr : Rising (ents xs)) : TreeIs w (fun k => D k ∨ w0.heap.size ≤ k) tb (ents xs) := by
  subst hc
  have hz := hm.only.size
  have := hm.own
  exact ⟨rb, h, F, K, xs, ⟨Only.refl _ _, hm.box, hm.node, fun k x => ⟨Or.inl (hm.subF k x).1, (hm.subF k x).2⟩, fun k x => ⟨Or.inl (hm.subK k x).1, (hm.subK k x).2⟩, Or.inl this.1, by omega⟩, rfl, hr⟩

theorem five (w : World) (a b c d e : Obj) : ((((((w.alloc a).alloc b).alloc c).alloc d).alloc e).heap[w.heap.size]? = some a) ∧ ((((((w.alloc a).alloc b).alloc c).alloc d).alloc e).heap[w.heap.size + 1]? = some b) ∧ ((((((w.alloc a).alloc b).alloc c).alloc d).alloc e).heap[w.heap.size + 1 + 1]? = some c) ∧ ((((((w.alloc a).alloc b).alloc c).alloc d).alloc e).heap[w.heap.size + 1 + 1 + 1]? = some d) ∧ ((((((w.alloc a).alloc b).alloc c).alloc d).alloc e).heap[w.heap.size + 1 + 1 + 1 + 1]? = some e) := by
  have h1 := alloc_new w a
  have h2 := two_new w a b
  have h3 := three_new w a b c
  have h4 := three_new (w.alloc a) b c d
  rw [World.size_alloc] at h4
  have h5 := three_new ((w.alloc a).alloc b) c d e
  rw [World.size_alloc, World.size_alloc] at h5
  exact ⟨alloc_old (alloc_old (alloc_old (alloc_old h1 _) _) _) _, alloc_old (alloc_old (alloc_old h2 _) _) _, alloc_old (alloc_old h3 _) _, alloc_old h4 _, h5⟩

set_option maxHeartbeats 8000000 in
set_option maxRecDepth 100000 in
theorem tree_insert (w : World) (D : Nat → Prop) (tb : Nat) (es : List Ent) (e : Ent) (A : Option Addr) (c : Nat) (S : Nat → Prop) (ht : TreeIs w D tb es) (hr : Rd w S 1 A e.key.length (bytesV e.key)) (hby : ∀ x ∈ e.key, x < 256) (hl : e.key.length ≤ 600) (hn : es.length ≤ 10000) :
    Calls Tryz.prog 47 #[ptrV tb, entV e A c] w (insPostT w D tb es e) := by
  obtain ⟨rb, h, F, K, xs, hm, hes, hris⟩ := ht
  subst hes
  have hxl : xs.length ≤ 10000 := by simpa using hn
  have hq0 : Quiet w (w.alloc (.cells #[.slice A e.key.length c, .int .i64 e.pg, .int .i64 e.sl] 131)) := (Only.refl _ _).alloc _
  have hm1 := hm.quietly hq0
  obtain ⟨c0, _, _⟩ := hm1.cells
  obtain ⟨t0, t1, t2⟩ := ent_cells (alloc_new w (.cells #[.slice A e.key.length c, .int .i64 e.pg, .int .i64 e.sl] 131))
  have HCO := Lib.hid (copyOf_any e A c S _ (hr.kept hq0.drew (fun _ _ x => x)) (by omega))
  have HBX := Lib.hid (alloc_new w (.cells #[.slice A e.key.length c, .int .i64 e.pg, .int .i64 e.sl] 131))
  have hzl : ∀ k, F k → k < w.heap.size := fun k x => (hm.subF k x).2.2
  have HINS : Hid (∀ (w2 : World) (A2 : Option Addr) (c2 : Nat), Quiet w w2 → Rd w2 (fun k => w.heap.size ≤ k ∧ k < w2.heap.size) 1 A2 e.key.length (bytesV e.key) →
      ∃ K', TreeMid w w2 D tb rb h F K' xs (xs.length : Int) ∧ Calls Tryz.prog 76 #[ptrV rb, entV e A2 c2] w2 (InsPost K' h w2 rb F xs ⟨e, A2, c2⟩)) := by
    intro w2 A2 c2 hq hrd
    have hz := hq.size
    have hm2 := (hm.quietly hq).keys (K' := fun k => K k ∨ (w.heap.size ≤ k ∧ k < w2.heap.size)) (fun k x => Or.inl x) (fun k x => by
      rcases x with x | x
      · exact Or.inl x
      · exact Or.inr ⟨x.1, x.2, fun y => by have := hzl k y; omega⟩)
    refine ⟨_, hm2, insert_ih _ h w2 rb F xs ⟨e, A2, c2⟩ hm2.node (fun k x => ⟨(hm2.subK k x).2.1, (hm2.subK k x).2.2.2⟩) ⟨hrd.mono (fun k x => Or.inr x), hby, by show e.key.length ≤ 1000; omega⟩ hris (by omega)⟩
  have HRI := Lib.hid hris
  have HQ0 := Lib.hid hq0
  obtain ⟨POST, hPOST⟩ : ∃ POST, insPostT w D tb (ents xs) e = POST := ⟨_, rfl⟩
  rw [hPOST]
  have HPOST := Lib.hid hPOST
  have hzt : Hid (∀ k, F k → k < w.heap.size ∧ k ≠ tb) := fun k x => ⟨(hm.subF k x).2.2, (hm.subF k x).2.1⟩
  have d6 : decide ((600 : Int) < (e.key.length : Int)) = false := decide_eq_false (by omega)
  have htl : tb < w.heap.size := hm.own.2
  clear hm hm1 hr hby hris hq0 hPOST hzl hn hl
  go_enter Tryz.func47, Tryz.ntmps47
  go_wp2_with fail
  go_region_held3 (fun w' => w'.cell? ⟨tb, 0, none⟩ = some (ptrV rb) ∧ w'.cell? ⟨w.heap.size, 0, none⟩ = some (.slice A e.key.length c) ∧ w'.cell? ⟨w.heap.size, 1, none⟩ = some (.int .i64 e.pg) ∧ w'.cell? ⟨w.heap.size, 2, none⟩ = some (.int .i64 e.sl))
    (first | go_keep | fail)
    (first
      | (go_at_call 77; go_must (refine HCO.out.mono ?_; rintro r w2 ⟨A2, c2, rfl, hq2, hrd2⟩; have k0 := hq2.cell c0 (fun x => x); have k1 := hq2.cell t0 (fun x => x); have k2 := hq2.cell t1 (fun x => x); have k3 := hq2.cell t2 (fun x => x); obtain ⟨K', hm2, hin2⟩ := HINS.out w2 A2 c2 (HQ0.out.drew.trans hq2) (hrd2.mono (fun k x => ⟨by have := HQ0.out.drew.size; omega, x.2⟩))))
      | (go_at_call 76; go_must (refine hin2.mono ?_; intro r w3 hp3; obtain ⟨ok, rfl, hp3⟩ : ∃ ok, r = .returned (.bool ok) ∧ InsPost K' h w2 rb F xs ⟨e, A2, c2⟩ (.returned (.bool ok)) w3 := (by rcases hp3 with ⟨a, rfl, b⟩ | ⟨a, rfl, b⟩; exact ⟨_, rfl, Or.inl ⟨a, rfl, b⟩⟩; exact ⟨_, rfl, Or.inr ⟨a, rfl, b⟩⟩); have ho3 : Only F w2 w3 := (by rcases hp3 with ⟨_, _, b, _⟩ | ⟨_, _, b, _⟩ <;> exact b); have j0 := ho3.cell k0 (fun x => (hzt.out _ x).2 rfl); have j1 := ho3.cell k1 (fun x => absurd (hzt.out _ x).1 (Nat.lt_irrefl _)); have j2 := ho3.cell k2 (fun x => absurd (hzt.out _ x).1 (Nat.lt_irrefl _)); have j3 := ho3.cell k3 (fun x => absurd (hzt.out _ x).1 (Nat.lt_irrefl _))))
      | fail)
  have HP3 := Lib.hid hp3
  have HM2 := Lib.hid hm2
  have HO3 := Lib.hid ho3
  clear hp3 hm2 hin2 ho3 hq2 hrd2 k0 k1 k2 k3 c0 t0 t1 t2 j1 j2 j3 HCO HBX HINS HQ0 hzt
  rcases HP3.out with ⟨hmem, hr3, _, hn3⟩ | ⟨hmem, hr3, _, hn3⟩
  · obtain rfl : ok = false := by injection hr3 with hr3; injection hr3
    have hm3 := HM2.out.turn HO3.out hn3 (fun k x => x) rfl
    have HR : Hid (POST (.returned (.int .i64 7)) w3) := by
      rw [← HPOST.out]
      exact Or.inl ⟨hmem, rfl, hm3.only, hm3.is rfl HRI.out⟩
    clear hm3 hn3 HP3 j0 HM2 HO3 hr3
    go_wp2
    exact HR.out
  · obtain rfl : ok = true := by injection hr3 with hr3; injection hr3
    have hm3 := HM2.out.turn HO3.out hn3 (fun k x => x) rfl
    obtain ⟨F3, HM3⟩ : ∃ F3, Hid (TreeMid w w3 D tb rb h F3 K' (insX ⟨e, A2, c2⟩ xs) (xs.length : Int)) := ⟨_, hm3⟩
    have HMEM := Lib.hid hmem
    obtain ⟨xs3, hxs3⟩ : ∃ xs3, insX ⟨e, A2, c2⟩ xs = xs3 := ⟨_, rfl⟩
    rw [hxs3] at HM3
    have HX3 := Lib.hid hxs3
    have hx3l : xs3.length = xs.length + 1 := by rw [← hxs3, insX_length]
    obtain ⟨c0, c1, cf⟩ := HM3.out.cells
    have hm4 := HM3.out.count ((xs.length : Int) + 1)
    have HM4 := Lib.hid hm4
    obtain ⟨d0, d1, df⟩ := hm4.cells
    have HSP := Lib.hid (split_any hm4.node (fun j hj hx => (hm4.subK j hj).2.1 hx) (by omega))
    have HIS : Hid (Rising (ents xs3) ∧ ents xs3 = insE e (ents xs)) := by
      have e1 : ents xs3 = insE e (ents xs) := by rw [← hxs3]; exact ents_insX _ _
      exact ⟨by rw [e1]; exact HRI.out.ins hmem, e1⟩
    clear hm3 hn3 HP3 j0 HM2 HO3 hr3 hmem hxs3 hm4 HM3
    go_wp2_with fail
    refine HSP.out.mono ?_
    rintro r w6 (⟨rfl, rfl⟩ | ⟨r, F1, F2, x1, x2, rfl, hc6⟩)
    · have HR : Hid (POST (.returned (.int .i64 0)) (w3.setCell ⟨tb, 1, none⟩ (.int .i64 ((xs.length : Int) + 1)))) := by
        rw [← HPOST.out]
        refine Or.inr ⟨HMEM.out, rfl, HM4.out.only, ?_⟩
        rw [← HIS.out.2]
        exact HM4.out.is (by omega) HIS.out.1
      clear HSP c0 c1 cf d0 d1 df HM4
      go_wp2
      exact HR.out
    · have HC6 := Lib.hid hc6
      have k6 : w6.cell? ⟨tb, 0, none⟩ = some (ptrV rb) := hc6.only.cell d0 (fun x => (HM4.out.subF tb x).2.1 rfl)
      have hb6 := hc6.only.get HM4.out.box (fun x => (HM4.out.subF tb x).2.1 rfl)
      have kf : ∀ o, w6.frozen? ⟨tb, o, none⟩ = false := fun o => frozen_of hb6 o
      have ht6 : tb < w6.heap.size := cell_lt k6
      have n0 : tb < w6.heap.size := ht6
      have ka1 : ∀ o1, (w6.alloc o1).cell? ⟨tb, 0, none⟩ = some (ptrV rb) := fun o1 => ((Only.refl (fun _ => False) w6).alloc o1).cell k6 (fun x => x)
      have ka2 : ∀ o1 o2, ((w6.alloc o1).alloc o2).cell? ⟨tb, 0, none⟩ = some (ptrV rb) := fun o1 o2 => ((Only.refl (fun _ => False) _).alloc o2).cell (ka1 o1) (fun x => x)
      have ka3 : ∀ o1 o2 o3, (((w6.alloc o1).alloc o2).alloc o3).cell? ⟨tb, 0, none⟩ = some (ptrV rb) := fun o1 o2 o3 => ((Only.refl (fun _ => False) _).alloc o3).cell (ka2 o1 o2) (fun x => x)
      have ka4 : ∀ o1 o2 o3 o4, ((((w6.alloc o1).alloc o2).alloc o3).alloc o4).cell? ⟨tb, 0, none⟩ = some (ptrV rb) := fun o1 o2 o3 o4 => ((Only.refl (fun _ => False) _).alloc o4).cell (ka3 o1 o2 o3) (fun x => x)
      have ka5 : ∀ o1 o2 o3 o4 o5, (((((w6.alloc o1).alloc o2).alloc o3).alloc o4).alloc o5).cell? ⟨tb, 0, none⟩ = some (ptrV rb) := fun o1 o2 o3 o4 o5 => ((Only.refl (fun _ => False) _).alloc o5).cell (ka4 o1 o2 o3 o4) (fun x => x)
      have fa5 : ∀ o1 o2 o3 o4 o5 o, (((((w6.alloc o1).alloc o2).alloc o3).alloc o4).alloc o5).frozen? ⟨tb, o, none⟩ = false := fun o1 o2 o3 o4 o5 o => frozen_of (alloc_old (alloc_old (alloc_old (alloc_old (alloc_old hb6 _) _) _) _) _) o
      have HL1 : Hid (∀ W : World, Quiet w6 W → Calls Tryz.prog 79 #[ptrV rb] W fun e w' => e = .returned (entV (hd x1).e (hd x1).A (hd x1).c) ∧ w' = W.alloc (.cells #[.slice (hd x1).A (hd x1).e.key.length (hd x1).c, .int .i64 (hd x1).e.pg, .int .i64 (hd x1).e.sl] 131)) :=
        fun W hq => least_exact (NodeAt.kept hq (fun _ _ x => x) hc6.n1 (fun _ _ x => x)) hc6.ne1
      have HL2 : Hid (∀ W : World, Quiet w6 W → Calls Tryz.prog 79 #[ptrV r] W fun e w' => e = .returned (entV (hd x2).e (hd x2).A (hd x2).c) ∧ w' = W.alloc (.cells #[.slice (hd x2).A (hd x2).e.key.length (hd x2).c, .int .i64 (hd x2).e.pg, .int .i64 (hd x2).e.sl] 131)) :=
        fun W hq => least_exact (NodeAt.kept hq (fun _ _ x => x) hc6.n2 (fun _ _ x => x)) hc6.ne2
      have Q0 : Hid (Quiet w6 w6) := Only.refl _ _
      clear hc6 hb6 HSP c0 c1 cf d0 d1 df
      go_upto_region 10 with fail
      go_cut [] (fun wx => ∃ nb F', TreeMid w wx D tb nb (h + 1) F' K' xs3 ((xs.length : Int) + 1))
      case first =>
        go_region_law (first
          | (go_simp; go_at_call_of 79 (ptrV rb); refine (HL1.out _ (by first | exact Q0.out.drew | exact (Q0.out.alloc _).drew | exact ((Q0.out.alloc _).alloc _).drew | exact (((Q0.out.alloc _).alloc _).alloc _).drew)).mono ?_; rintro r' w7 ⟨rfl, rfl⟩)
          | (go_simp; go_at_call_of 79 (ptrV r); refine (HL2.out _ (by first | exact Q0.out.drew | exact (Q0.out.alloc _).drew | exact ((Q0.out.alloc _).alloc _).drew | exact (((Q0.out.alloc _).alloc _).alloc _).drew)).mono ?_; rintro r' w7 ⟨rfl, rfl⟩)
          | fail)
        all_goals
          go_wp2_with fail
          go_meet
          first
            | exact ⟨_, HM4.out.root HC6.out (((((Q0.out.alloc _).alloc _).alloc _).alloc _).alloc _).drew (five w6 _ _ _ _ _).2.2.1 (five w6 _ _ _ _ _).2.2.2.1 (five w6 _ _ _ _ _).2.2.2.2 (by omega) (by omega) (by omega)⟩
            | exact ⟨_, HM4.out.root HC6.out (((((Q0.out.alloc _).alloc _).alloc _).alloc _).alloc _).drew (five w6 _ _ _ _ _).2.2.2.1 (five w6 _ _ _ _ _).1 (five w6 _ _ _ _ _).2.2.2.2 (by omega) (by omega) (by omega)⟩
            | exact ⟨_, HM4.out.root HC6.out (((((Q0.out.alloc _).alloc _).alloc _).alloc _).alloc _).drew (five w6 _ _ _ _ _).2.2.2.1 (five w6 _ _ _ _ _).2.1 (five w6 _ _ _ _ _).2.2.2.2 (by omega) (by omega) (by omega)⟩
            | exact ⟨_, HM4.out.root HC6.out (((((Q0.out.alloc _).alloc _).alloc _).alloc _).alloc _).drew (five w6 _ _ _ _ _).2.2.2.1 (five w6 _ _ _ _ _).2.2.1 (five w6 _ _ _ _ _).2.2.2.2 (by omega) (by omega) (by omega)⟩
            | fail
      case rest =>
        obtain ⟨nb, F', hm7⟩ := hcut
        have HR : Hid (POST (.returned (.int .i64 0)) wc) := by
          rw [← HPOST.out]
          refine Or.inr ⟨HMEM.out, rfl, hm7.only, ?_⟩
          rw [← HIS.out.2]
          exact hm7.is (by omega) HIS.out.1
        clear hm7 HM4 HC6 HL1 HL2 k6 kf ka1 ka2 ka3 ka4 ka5 fa5
        go_wp2
        exact HR.out

end Go.Proofs.YtdeekopdhgjanaaGreatDoor

namespace Go.Lap

theorem scanE_append (lo hi : List Nat) (l m : List Ent) : scanE lo hi (l ++ m) = scanE lo hi l ++ scanE lo hi m := by simp [scanE]

theorem scanE_none {lo hi : List Nat} {l : List Ent} (h : ∀ e ∈ l, within lo hi e = false) : scanE lo hi l = [] := by
  unfold scanE
  rw [List.filter_eq_nil_iff]
  intro e he
  rw [h e he]
  simp

theorem within_hi {lo hi : List Nat} {e : Ent} (h0 : hi ≠ []) (h : ¬ cmpB e.key hi < 0) : within lo hi e = false := by
  unfold within
  rw [decide_eq_false h0, decide_eq_false h]
  simp

theorem within_lo {lo hi : List Nat} {e : Ent} (h : cmpB e.key lo < 0) : within lo hi e = false := by
  unfold within
  rw [decide_eq_false (show ¬ 0 ≤ cmpB e.key lo by omega)]
  simp

theorem within_yes {lo hi : List Nat} {e : Ent} (h : hi = [] ∨ cmpB e.key hi < 0) (h2 : 0 ≤ cmpB e.key lo) : within lo hi e = true := by
  unfold within
  rw [decide_eq_true h2]
  rcases h with h | h
  · rw [decide_eq_true h]; rfl
  · rw [decide_eq_true h]; simp

theorem Rising.keys {l : List Ent} (h : Rising l) {i j : Nat} {x y : Ent} (hij : i ≤ j) (hi : l[i]? = some x) (hj : l[j]? = some y) : cmpB x.key y.key ≤ 0 := by
  rcases Nat.lt_or_ge i j with z | z
  · exact cmpE_key (h.get z hi hj)
  · have : i = j := by omega
    subst this
    rw [hi] at hj
    injection hj with hj
    rw [hj, cmpB_self]
    omega

theorem take_succ_get {α : Type} {l : List α} {i : Nat} {x : α} (h : l[i]? = some x) : l.take (i + 1) = l.take i ++ [x] := by
  rw [List.take_add_one, h]; rfl

end Go.Lap
namespace Go.Proofs.YtdeekopdhgjanaaGreatDoor
open Go.RowKit Go.Lap

/-- A row that grows: ys ahead, zs new ones, whose keys are new. -/
structure OutW (w0 w : World) (v0 v : Value) (ys zs : List EV) : Prop where
  only : Only (fun k => v0.ownBlock = some k) w0 w
  row : RowAt w v (ys ++ zs)
  loc : v.ownBlock = v0.ownBlock ∨ ∃ k, v.ownBlock = some k ∧ w0.heap.size ≤ k
  key : ∀ z ∈ zs, Keyd w (fun k => w0.heap.size ≤ k ∧ k < w.heap.size ∧ v.ownBlock ≠ some k) z

section
variable {w0 w w' : World} {v0 v : Value} {ys zs : List EV}

theorem OutW.start (h : RowAt w v ys) : OutW w w v v ys [] := ⟨Only.refl _ _, by rw [List.append_nil]; exact h, Or.inl rfl, fun z hz => by simp at hz⟩

theorem OutW.quietly (h : OutW w0 w v0 v ys zs) (hq : Quiet w w') : OutW w0 w' v0 v ys zs := by
  have hz := hq.size
  exact ⟨h.only.trans' hq (fun _ _ x => x.elim), owns_kept h.row hq (fun _ _ x => x), h.loc, fun z hz' => ((h.key z hz').quietly hq).mono (fun k x => ⟨x.1, by omega, x.2.2⟩)⟩

theorem OutW.join {v' : Value} {zs' : List EV} (h : OutW w0 w v0 v ys zs) (h' : OutW w w' v v' (ys ++ zs) zs') : OutW w0 w' v0 v' ys (zs ++ zs') := by
  have hz0 := h.only.size
  have hz := h'.only.size
  have hv : ∀ k, v.ownBlock = some k → v0.ownBlock = some k ∨ w0.heap.size ≤ k := fun k e => by
    rcases h.loc with x | ⟨j, x, y⟩
    · rw [x] at e; exact Or.inl e
    · rw [x] at e; injection e with e; exact Or.inr (by omega)
  refine ⟨h.only.trans' h'.only (fun k hk e => ?_), by rw [← List.append_assoc]; exact h'.row, ?_, fun z hz' => ?_⟩
  · rcases hv k e with x | x
    · exact x
    · omega
  · rcases h'.loc with x | ⟨j, x, y⟩
    · rw [x]; exact h.loc
    · exact Or.inr ⟨j, x, by omega⟩
  · rcases List.mem_append.1 hz' with x | x
    · refine ((h.key z x).kept h'.only (fun k y => y.2.2)).mono (fun k y => ⟨y.1, by omega, fun e => ?_⟩)
      rcases h'.loc with u | ⟨j, u, t⟩
      · rw [u] at e; exact y.2.2 e
      · rw [u] at e; injection e with e; omega
    · exact (h'.key z x).mono (fun k y => ⟨by omega, y.2.1, y.2.2⟩)

theorem OutW.push {w2 w5 : World} {v5 : Value} {z : EV} (h : OutW w0 w v0 v ys zs) (hq : Quiet w w2) (hk : Keyd w2 (fun k => w.heap.size ≤ k ∧ k < w2.heap.size) z)
    (hg : Grew (w2.alloc (.cells z.cells.toArray 131)) w5 131 3 v v5 ((ys ++ zs).length + 1) (rowV (ys ++ zs) ++ z.cells)) : OutW w0 w5 v0 v5 ys (zs ++ [z]) := by
  have hzq := hq.size
  have hzg := hg.only.size
  rw [World.size_alloc] at hzg
  have hvl : ∀ k, v.ownBlock = some k → k < w.heap.size := fun k e => (h.row.lt k e).2
  have hloc : v5.ownBlock = v.ownBlock ∨ v5.ownBlock = some (w2.heap.size + 1) := by have := hg.loc; rw [World.size_alloc] at this; exact this
  have hj : OutW w w5 v v5 (ys ++ zs) [z] := by
    refine ⟨((hq.mono (T := fun k => v.ownBlock = some k) (fun _ _ x => x.elim)).alloc _).trans' hg.only (fun k _ e => e), by unfold RowAt; rw [List.length_append, rowV_append, rowV_one]; exact hg.own, ?_, fun y hy => ?_⟩
    · rcases hloc with x | x
      · exact Or.inl x
      · exact Or.inr ⟨_, x, by omega⟩
    · simp at hy
      subst hy
      refine ((hk.quietly ((Only.refl (fun _ => False) w2).alloc _)).kept hg.only (fun k x e => by have := hvl k e; omega)).mono (fun k x => ⟨x.1, by omega, fun e => ?_⟩)
      rcases hloc with u | u
      · rw [u] at e; have := hvl k e; omega
      · rw [u] at e; injection e with e; omega
  exact h.join hj

/-- What is read while the row grows. -/
structure Reads (K : Nat → Prop) (w : World) (F : Nat → Prop) (v : Value) (Sl Sh : Nat → Prop) (lo hi : List Nat) (Al Ah : Option Addr) : Prop where
  rl : Rd w Sl 1 Al lo.length (bytesV lo)
  rh : Rd w Sh 1 Ah hi.length (bytesV hi)
  bl : ∀ x ∈ lo, x < 256
  bh : ∀ x ∈ hi, x < 256
  lim : ∀ k, F k ∨ K k ∨ Sl k ∨ Sh k → k < w.heap.size ∧ v.ownBlock ≠ some k

theorem Reads.on {K F Sl Sh : Nat → Prop} {lo hi : List Nat} {Al Ah : Option Addr} (h : Reads K w0 F v0 Sl Sh lo hi Al Ah) (ho : OutW w0 w v0 v ys zs) : Reads K w F v Sl Sh lo hi Al Ah := by
  have hz := ho.only.size
  refine ⟨h.rl.kept ho.only (fun k x => (h.lim k (Or.inr (Or.inr (Or.inl x)))).2), h.rh.kept ho.only (fun k x => (h.lim k (Or.inr (Or.inr (Or.inr x)))).2), h.bl, h.bh, fun k x => ⟨by have := (h.lim k x).1; omega, fun e => ?_⟩⟩
  rcases ho.loc with y | ⟨j, y, u⟩
  · rw [y] at e; exact (h.lim k x).2 e
  · rw [y] at e; injection e with e; have := (h.lim k x).1; omega

theorem Reads.sub {K F F' Sl Sh : Nat → Prop} {lo hi : List Nat} {Al Ah : Option Addr} (h : Reads K w F v Sl Sh lo hi Al Ah) (hf : ∀ k, F' k → F k) : Reads K w F' v Sl Sh lo hi Al Ah :=
  ⟨h.rl, h.rh, h.bl, h.bh, fun k x => h.lim k (x.imp (hf k) id)⟩

theorem Reads.node {K F Sl Sh : Nat → Prop} {lo hi : List Nat} {Al Ah : Option Addr} {hh b : Nat} {xs : List EV} (h : Reads K w0 F v0 Sl Sh lo hi Al Ah) (ho : OutW w0 w v0 v ys zs) (hn : NodeAt K hh w0 b F xs) : NodeAt K hh w b F xs :=
  NodeAt.kept ho.only (fun k x => (h.lim k (Or.inr (Or.inl x))).2) hn (fun k x => (h.lim k (Or.inl x)).2)
end

def ScanPost (w : World) (v : Value) (ys : List EV) (l : List Ent) (e : Ending) (w' : World) : Prop := ∃ v' zs, e = .returned v' ∧ ents zs = l ∧ OutW w w' v v' ys zs

end Go.Proofs.YtdeekopdhgjanaaGreatDoor

namespace Go.Lap
theorem ents_append (xs ys : List EV) : ents (xs ++ ys) = ents xs ++ ents ys := List.map_append

theorem flat_take {ks : List Kid} {i : Nat} {x : Kid} (h : ks[i]? = some x) : flat (ks.take (i + 1)) = flat (ks.take i) ++ x.xs := by
  rw [take_succ_get h, flat, List.flatMap_append]
  simp

/-- All of a kid stand ahead of the next one's first. -/
theorem next_keys {ks : List Kid} (hs : Rising (ents (flat ks))) {i : Nat} {x y : Kid} (hx : ks[i]? = some x) (hy : ks[i + 1]? = some y) {a : EV} (ha : a ∈ x.xs) (hne : y.xs ≠ []) : cmpB a.e.key (hd y.xs).e.key ≤ 0 := by
  have e : flat ks = flat (ks.take (i + 1)) ++ flat (ks.drop (i + 1)) := by rw [← List.flatMap_append, List.take_append_drop]
  rw [e] at hs
  unfold ents Rising at hs
  rw [List.map_append, List.pairwise_append] at hs
  refine cmpE_key (hs.2.2 _ (List.mem_map.2 ⟨a, ?_, rfl⟩) _ (List.mem_map.2 ⟨_, ?_, rfl⟩))
  · rw [flat_take hx]; exact List.mem_append_right _ ha
  · exact List.mem_flatMap.2 ⟨y, List.mem_of_getElem? (i := 0) (by rw [List.getElem?_drop]; exact hy), hd_mem hne⟩

/-- From a kid on no key is less than its first. -/
theorem from_keys {ks : List Kid} (hs : Rising (ents (flat ks))) {i : Nat} {x : Kid} (hx : ks[i]? = some x) (hne : x.xs ≠ []) {a : EV} (ha : a ∈ flat (ks.drop i)) : cmpB (hd x.xs).e.key a.e.key ≤ 0 := by
  have e : flat ks = flat (ks.take i) ++ flat (ks.drop i) := by rw [← List.flatMap_append, List.take_append_drop]
  rw [e] at hs
  unfold ents Rising at hs
  rw [List.map_append, List.pairwise_append] at hs
  have hd0 : (flat (ks.drop i))[0]? = some (hd x.xs) := by
    have hil := (List.getElem?_eq_some_iff.1 hx).1
    rw [List.drop_eq_getElem_cons hil, flat, List.flatMap_cons]
    have : ks[i] = x := by rw [List.getElem?_eq_getElem hil] at hx; injection hx
    rw [this, List.getElem?_append_left (List.length_pos_iff.2 hne)]
    exact hd_get hne
  obtain ⟨j, hj⟩ := List.mem_iff_getElem?.1 ha
  exact Rising.keys (l := ents (flat (ks.drop i))) hs.2.1 (Nat.zero_le j) (by rw [ents, List.getElem?_map, hd0]; rfl) (by rw [ents, List.getElem?_map, hj]; rfl)
end Go.Lap
namespace Go.Proofs.YtdeekopdhgjanaaGreatDoor
open Go.RowKit Go.Lap

end Go.Proofs.YtdeekopdhgjanaaGreatDoor
