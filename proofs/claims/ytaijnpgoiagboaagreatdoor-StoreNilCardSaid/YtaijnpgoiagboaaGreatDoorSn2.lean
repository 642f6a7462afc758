/- The contracts of package heap: NewPool, Left, New, page, told, Pages, Used, Drop. The contracts of package heap: Insert. The contracts of package heap: Insert whole, Free, Get, Stamp. The plain facts behind PageFills: a page of versions of one size. What the laws on heaps share: wide, awake; a heap in a law's world. Plain laws of heaps: what Insert and Free leave at every place. A law's row of places. The contracts of package heap: Get, Stamp. The contracts of heap.Chain and of the reference's SamePlaces. The contract of heap.Page: where versions lie on a page; of the law's alike: a heap and the document's, of the same pages. Snapshots in memory: Sees, Visible, Free, Dead. Snapshots: Take. slices.Collect(maps.Values(..)) of snapshots: all values, in some order. slices.AppendSeq, slices.Collect of an iterator of snapshots: what it gives. snap.Horizon; store.Horizon. The book's entries: tuple, visible, alive, dead; copies of columns. A region that draws its order and whose last operation waits for all others: the others first, then the last one. The book's tables: told, table, Table. The book's tables: table, Table. The book's Table; Keep without indexes. The book's Name at small letters; right at one column; New; Keep without indexes. The book: New, Keep, the first table. The book: a fresh entry; the first table. Rows of one number: right, Fits, Bytes. Rows of one number: Fits. Rows of one number: Bytes. Rows of one number: take. Rows of one number: Read. Plain laws of entries in order: a key's bytes and a place, compared; what insertion, deletion and a scan leave. The contracts of bytes.Compare, cmp.Compare, cmp.Or and of the tree's order. Rows in memory: copy at elements of several cells; rows of entries; slices.Clone. The contract of slices.BinarySearchFunc at entries, by the tree's order. Laws on append of so many zero values, and on copy, for slices.Insert. The contract of slices.Insert of one element, at entries. The contract of slices.Insert of one element, at nodes. No condition. -/
import Derived.Test.YtaijnpgoiagboaaGreatDoorSn1
import Derived.Deep.RegionLawGrows
import Derived.Shelf.SlIter.Collect
import Derived.BigFrameIn
import Derived.StillTailTactics
import Derived.Deep.RegionHeld3
import Derived.Laws.RangeAny
import Derived.Lib.Bytealg
import Derived.BigQuiet
import Derived.Lib.AppendZerosOnto
import Derived.Lib.Overlaps
import Derived.Laws.IdiomCopy
namespace Go.Proofs.YtaijnpgoiagboaaGreatDoor
open Go.RowKit Go.Lap

set_option maxHeartbeats 400000 in
set_option maxRecDepth 100000 in
theorem pool_new (n : Nat) (hn : n ≤ 256) (w : World) :
    Calls Tryz.prog 34 #[.int .i64 (n : Int)] w fun e w' => e = .returned (.tuple #[.pointer (some ⟨w.heap.size, 0, none⟩), .int .i64 0]) ∧ Quiet w w' ∧ PoolAt w' w.heap.size n := by
  have d0 : decide ((n : Int) < 0) = false := by simp
  have d1 : decide ((256 : Int) < n) = false := by simp; omega
  go_enter Tryz.func34, Tryz.ntmps34
  go_wp2
  go_ret2
  exact ⟨rfl, (Only.refl _ _).alloc _, alloc_new _ _⟩

set_option maxHeartbeats 400000 in
set_option maxRecDepth 100000 in
theorem pool_left (pb n : Nat) (w : World) (h : PoolAt w pb n) :
    Calls Tryz.prog 71 #[.pointer (some ⟨pb, 0, none⟩)] w fun e w' => e = .returned (.int .i64 (n : Int)) ∧ w = w' := by
  have hc := h.cell
  clear h
  go_enter Tryz.func71, Tryz.ntmps71
  go_wp2
  go_ret
  exact ⟨rfl, rfl⟩

theorem heapAt_new {w w1 : World} {pb : Nat} (hq : Below w.heap.size w w1) (hs : w.heap.size < w1.heap.size) (hr : RoomIs w1 w.heap.size []) :
    HeapIs (w1.alloc (.cells #[.pointer (some ⟨pb, 0, none⟩), .slice none 0 0, .pointer (some ⟨w.heap.size, 0, none⟩)] 192)) w1.heap.size pb (fun k => w.heap.size ≤ k) [] :=
  ⟨_, [], _, alloc_new _ _, World.ownsRow_nil _ _ _ _, hr.kept ((Only.refl (fun _ => False) w1).alloc _) (fun x => x), fun i T hi => by simp at hi, List.nodup_nil, Nat.le_of_lt hs, Nat.le_refl _, fun p hp => by simp at hp, fun k e => by cases e⟩

set_option maxHeartbeats 400000 in
set_option maxRecDepth 100000 in
theorem heap_new (pb : Nat) (w : World) :
    Calls Tryz.prog 51 #[.pointer (some ⟨pb, 0, none⟩)] w fun e w' => ∃ hb, e = .returned (.pointer (some ⟨hb, 0, none⟩)) ∧ Quiet w w' ∧ HeapIs w' hb pb (fun k => w.heap.size ≤ k) [] := by
  go_enter Tryz.func51, Tryz.ntmps51
  go_wp2_with fail
  refine (room_make w).mono ?_
  rintro e w1 ⟨rfl, hB, hs, hr⟩
  have HH := Lib.hid (heapAt_new (pb := pb) hB hs hr)
  have HQ : Hid (Quiet w w1) := Only.ofBelow' hB
  clear hB hs hr
  go_wp2
  go_ret
  exact ⟨_, rfl, HQ.out.alloc _, HH.out⟩

theorem HeapAt.cells {w : World} {hb pb : Nat} {F : Nat → Prop} {H : List (List (Option Tup))} {R : List Int} {v : Value} {ps : List Nat} {rb : Nat} (h : HeapAt w hb pb F H R v ps rb) :
    w.cell? ⟨hb, 0, none⟩ = some (.pointer (some ⟨pb, 0, none⟩)) ∧ w.cell? ⟨hb, 1, none⟩ = some v ∧ w.cell? ⟨hb, 2, none⟩ = some (.pointer (some ⟨rb, 0, none⟩)) :=
  ⟨by rw [cell_of h.box]; rfl, by rw [cell_of h.box]; rfl, by rw [cell_of h.box]; rfl⟩

/-- The row of a heap reads. -/
theorem HeapAt.rowForm {w : World} {hb pb : Nat} {F : Nat → Prop} {H : List (List (Option Tup))} {R : List Int} {v : Value} {ps : List Nat} {rb : Nat} (h : HeapAt w hb pb F H R v ps rb) :
    ∃ A c, v = .slice A H.length c ∧ H.length ≤ c ∧ c ≤ maxLen ∧ ∀ (i p : Nat), ps[i]? = some p → ∃ g, A = some ⟨g, 0, none⟩ ∧ w.cell? ⟨g, i, none⟩ = some (ptrV p) := by
  rcases h.row.2 with ⟨e1, e2⟩ | ⟨g, cap, cur, e1, _, hh, r1, r2, _⟩
  · refine ⟨none, 0, by rw [e2]; exact e1, by omega, Nat.zero_le _, fun i p hi => ?_⟩
    have := h.plen
    have := (List.getElem?_eq_some_iff.1 hi).1
    omega
  · refine ⟨_, cap, e1, r1, r2, fun i p hi => ⟨g, rfl, ?_⟩⟩
    have := h.row.cells (by rw [e1]; rfl) i (ptrV p) (by rw [List.getElem?_map, hi]; rfl)
    rw [add_none, Nat.zero_add] at this
    exact this

section
variable {w : World} {hb pb : Nat} {F : Nat → Prop} {H : List (List (Option Tup))} {R : List Int} {v : Value} {ps : List Nat} {rb : Nat}

set_option maxHeartbeats 400000 in
set_option maxRecDepth 100000 in
theorem heap_page_none (n : Int) (h : HeapAt w hb pb F H R v ps rb) (hn : n < 0 ∨ (H.length : Int) ≤ n) :
    Calls Tryz.prog 91 #[.pointer (some ⟨hb, 0, none⟩), .int .i64 n] w fun e w' => e = .returned (.pointer none) ∧ w = w' := by
  obtain ⟨A, c, rfl, _, _, _⟩ := h.rowForm
  obtain ⟨_, c1, _⟩ := h.cells
  clear h
  rcases hn with hn | hn
  · go_enter Tryz.func91, Tryz.ntmps91
    go_wp2
    go_ret
    exact ⟨rfl, rfl⟩
  · have h0 : ¬ n < 0 := by omega
    go_enter Tryz.func91, Tryz.ntmps91
    go_wp2
    go_ret
    exact ⟨rfl, rfl⟩

set_option maxHeartbeats 400000 in
set_option maxRecDepth 100000 in
theorem heap_page_some (n p : Nat) (h : HeapAt w hb pb F H R v ps rb) (hn : ps[n]? = some p) :
    Calls Tryz.prog 91 #[.pointer (some ⟨hb, 0, none⟩), .int .i64 (n : Int)] w fun e w' => e = .returned (.pointer (some ⟨p, 0, none⟩)) ∧ w = w' := by
  obtain ⟨A, c, rfl, hc, hm, hr⟩ := h.rowForm
  obtain ⟨_, c1, _⟩ := h.cells
  have hl : n < H.length := by rw [← h.plen]; exact (List.getElem?_eq_some_iff.1 hn).1
  obtain ⟨g, rfl, hg⟩ := hr n p hn
  have d0 : decide ((n : Int) < 0) = false := by simp
  have d1 : decide ((H.length : Int) ≤ n) = false := by simp; omega
  unfold maxLen at hm
  clear h hr hn
  go_enter Tryz.func91, Tryz.ntmps91
  go_wp2
  go_ret
  exact ⟨rfl, rfl⟩

set_option maxHeartbeats 400000 in
set_option maxRecDepth 100000 in
theorem heap_told (n p : Nat) (T : List (Option Tup)) (h : HeapAt w hb pb F H R v ps rb) (hn : ps[n]? = some p) (hT : H[n]? = some T) (hR : n ≤ R.length) (h256 : n < 256) :
    Calls Tryz.prog 130 #[.pointer (some ⟨hb, 0, none⟩), .int .i64 (n : Int)] w fun e w' => e = .returned (.tuple #[]) ∧ Only (· = rb) w w' ∧ HeapAt w' hb pb F H (setL R n (roomT T)) v ps rb := by
  have HH := Lib.hid h
  obtain ⟨A, c, rfl, hc, hm, hr⟩ := h.rowForm
  obtain ⟨_, c1, c2⟩ := h.cells
  have hl : n < H.length := by rw [← h.plen]; exact (List.getElem?_eq_some_iff.1 hn).1
  obtain ⟨T', hT', hpt⟩ := h.page hn
  obtain rfl : T = T' := by rw [hT] at hT'; injection hT'
  obtain ⟨g, rfl, hg⟩ := hr n p hn
  have HPT := Lib.hid hpt
  have hset : rSet R (n : Int) (roomT T) = (0, setL R n (roomT T)) := by
    rw [rSet_in (by omega) (by omega), Int.toNat_natCast, clamp_room]
  have HSET := Lib.hid hset
  have HNE : Hid ((¬ hb = rb) ∧ ¬ g = rb) := ⟨fun e => h.apart.rh e.symm, fun e => h.apart.vr g rfl e⟩
  have d0 : decide ((n : Int) < 0) = false := by simp
  have d1 : decide ((H.length : Int) ≤ n) = false := by simp; omega
  unfold maxLen at hm
  clear h hr hn hT hT' hset hpt
  go_enter Tryz.func130, Tryz.ntmps130
  go_wp2_with fail
  go_region_held3 (fun w' => w'.cell? ⟨hb, 1, none⟩ = some (.slice (some ⟨g, 0, none⟩) H.length c) ∧ w'.cell? ⟨hb, 2, none⟩ = some (.pointer (some ⟨rb, 0, none⟩)) ∧ w'.cell? ⟨g, n, none⟩ = some (ptrV p))
    (first | go_keep | exact ⟨ho3.cell (by exact c1) HNE.out.1, ho3.cell (by exact c2) HNE.out.1, ho3.cell (by exact hg) HNE.out.2⟩ | fail)
    (first
      | (go_at_call 167; go_must (refine (pageT_room p T _ (by exact HPT.out)).mono ?_; rintro e w2 ⟨rfl, n3, rfl⟩))
      | (go_at_call 166; go_must (refine (room_set rb R _ (n : Int) (roomT T) (HH.out.room.drewN _)).mono ?_; rintro e w3 ⟨rfl, ho3, hr3⟩))
      | fail)
  go_wp2
  go_end0
  rw [HSET.out] at hr3
  exact ⟨rfl, ((Only.refl _ _).drewN _).trans ho3, (HH.out.drewN _).rooms ho3 hr3⟩

set_option maxHeartbeats 400000 in
set_option maxRecDepth 100000 in
theorem heap_pages (h : HeapIs w hb pb F H) :
    Calls Tryz.prog 81 #[.pointer (some ⟨hb, 0, none⟩)] w fun e w' => e = .returned (.int .i64 (H.length : Int)) ∧ w = w' := by
  obtain ⟨v, ps, rb, h⟩ := h
  obtain ⟨A, c, rfl, hc, hm, hr⟩ := h.rowForm
  obtain ⟨_, c1, _⟩ := h.cells
  clear h hr
  go_enter Tryz.func81, Tryz.ntmps81
  go_wp2
  go_ret
  exact ⟨rfl, rfl⟩

end
end Go.Proofs.YtaijnpgoiagboaaGreatDoor

namespace Go.Lap

/-- The first page with so much room. -/
def findH (H : List (List (Option Tup))) (n : Nat) : Option Nat := H.findIdx? (fun T => decide ((n : Int) ≤ roomT T))

/-- What Insert tells (page, slot, error), the pages and the pool behind it. -/
def hIns (H : List (List (Option Tup))) (left : Nat) (t : Tup) : (Int × Int × Int) × List (List (Option Tup)) × Nat :=
  if t.rightB = false then ((0, 0, 3), H, left) else
    match findH H t.data.length with
    | some i => ((i, freeT (H.getD i []), 0), H.set i (insT (H.getD i []) t), left)
    | none => if left = 0 then ((0, 0, 12), H, left) else ((H.length, 0, 0), H ++ [[some t]], left - 1)

theorem find_rooms (H : List (List (Option Tup))) (n : Nat) : rFind (H.map roomT) (n : Int) = match findH H n with | some i => ((i : Int), true) | none => (0, false) := by
  unfold rFind findH
  rw [List.findIdx?_map]
  rw [show max (n : Int) 0 = n by omega]
  rfl

theorem findH_some {H : List (List (Option Tup))} {n i : Nat} (h : findH H n = some i) : ∃ T, H[i]? = some T ∧ (n : Int) ≤ roomT T := by
  unfold findH at h
  rw [List.findIdx?_eq_some_iff_getElem] at h
  obtain ⟨hi, h1, _⟩ := h
  exact ⟨H[i], List.getElem?_eq_getElem hi, of_decide_eq_true h1⟩

end Go.Lap
namespace Go.Proofs.YtaijnpgoiagboaaGreatDoor
open Go.RowKit Go.Lap

theorem elem_page : Elem Tryz.prog 190 175 1 8 := Elem.mk' (.pointer none) Tryz.underlying190 (by kernel_rfl) rfl (by decide)

theorem info_tid : (Tryz.prog.info? 50).map (·.size) = some 2 := by kernel_rfl

theorem two_set {W : World} {b : Nat} {c0 c1 : Value} {t : TypeId} (h : W.heap[b]? = some (.cells #[c0, c1] t (0, 0))) (x y : Value) : ((W.setCell ⟨b, 0, none⟩ x).setCell ⟨b, 1, none⟩ y).heap[b]? = some (.cells #[x, y] t (0, 0)) := by
  rw [set_same (set_same h _ _)]
  rfl
theorem two_only (W : World) (b : Nat) (x y : Value) : Only (· = b) W ((W.setCell ⟨b, 0, none⟩ x).setCell ⟨b, 1, none⟩ y) :=
  ((Only.refl (· = b) W).setCell (p := ⟨b, 0, none⟩) (fun _ => rfl) x).setCell (p := ⟨b, 1, none⟩) (fun _ => rfl) y

/-- In Insert: the version in its box, the place in its own; of what was there G alone has turned. -/
structure InsW (G : Nat → Prop) (w W : World) (t : Tup) (A : Option Addr) (cap : Nat) : Prop where
  only : Only G w W
  box : W.heap[w.heap.size]? = some (.cells #[.int .u64 t.row, .int .u64 t.xmin, .int .u64 t.xmax, .int .i64 t.pg, .int .i64 t.sl, .slice A t.data.length cap] 106 (0, 0))
  tid : W.heap[w.heap.size + 1]? = some (.cells #[.int .i64 0, .int .i64 0] 50 (0, 0))

section
variable {G : Nat → Prop} {w W W' : World} {t : Tup} {A : Option Addr} {cap : Nat}
theorem InsW.start (w : World) (t : Tup) (A : Option Addr) (cap : Nat) : InsW (fun _ => False) w ((w.alloc (.cells #[.int .u64 t.row, .int .u64 t.xmin, .int .u64 t.xmax, .int .i64 t.pg, .int .i64 t.sl, .slice A t.data.length cap] 106)).alloc (.cells #[.int .i64 0, .int .i64 0] 50)) t A cap :=
  ⟨((Only.refl _ _).alloc _).alloc _, alloc_old (alloc_new _ _) _, two_new _ _ _⟩

theorem InsW.on {S : Nat → Prop} (h : InsW G w W t A cap) (ho : Only S W W') (h1 : ∀ k, k < w.heap.size → S k → G k) (h2 : ∀ k, w.heap.size ≤ k → k < w.heap.size + 2 → ¬ S k) : InsW G w W' t A cap :=
  ⟨h.only.trans' ho h1, ho.get h.box (h2 _ (by omega) (by omega)), ho.get h.tid (h2 _ (by omega) (by omega))⟩

theorem InsW.mono {G' : Nat → Prop} (h : InsW G w W t A cap) (hg : ∀ k, G k → G' k) : InsW G' w W t A cap := ⟨h.only.mono (fun k _ x => hg k x), h.box, h.tid⟩
theorem InsW.quietly (h : InsW G w W t A cap) (hq : Quiet W W') : InsW G w W' t A cap := h.on hq (fun _ _ x => x.elim) (fun _ _ _ x => x)
theorem InsW.drew (h : InsW G w W t A cap) : InsW G w W.drew t A cap := ⟨h.only.drew, h.box, h.tid⟩
theorem InsW.drewN (h : InsW G w W t A cap) (n : Nat) : InsW G w (W.drewN n) t A cap := ⟨h.only.drewN n, h.box, h.tid⟩
theorem InsW.lt (h : InsW G w W t A cap) : w.heap.size + 1 < W.heap.size := lt_of_get h.tid
theorem InsW.cells (h : InsW G w W t A cap) : W.cell? ⟨w.heap.size + 1, 0, none⟩ = some (.int .i64 0) ∧ W.cell? ⟨w.heap.size + 1, 1, none⟩ = some (.int .i64 0) ∧ ∀ o, W.frozen? ⟨w.heap.size + 1, o, none⟩ = false :=
  ⟨by rw [cell_of h.tid]; rfl, by rw [cell_of h.tid]; rfl, fun o => frozen_of h.tid o⟩
theorem InsW.end_ (h : InsW G w W t A cap) (x y : Value) : Only G w ((W.setCell ⟨w.heap.size + 1, 0, none⟩ x).setCell ⟨w.heap.size + 1, 1, none⟩ y) :=
  h.only.trans' (two_only W _ x y) (fun k hk e => by omega)

/-- What a page of its own tells. -/
theorem own_page (t : Tup) (A : Option Addr) (cap : Nat) (S : Nat → Prop) (hby : ∀ x ∈ t.data, x < 256) (hd : Rd w S 1 A t.data.length (bytesV t.data)) (W w1 : World) (q : Nat) (h : InsW (fun _ => False) w W t A cap) (hq : Quiet W.drew w1) (hp : PageT w1 q []) (hq' : w.heap.size + 2 ≤ q) :
    Calls Tryz.prog 154 #[.pointer (some ⟨q, 0, none⟩), tupV t A cap] w1 fun e w' => e = .returned (.tuple #[.int .i64 0, .int .i64 (if t.rightB then 0 else 3)]) ∧ InsW (fun _ => False) w w' t A cap := by
  have h1 := h.drew.quietly hq
  have := pageT_insert q [] t A cap _ w1 hp hby (hd.kept h1.only (fun _ _ x => x))
  have hr : (pInsT [] t).1 = 0 ∧ (pInsT [] t).2.1 = if t.rightB then 0 else 3 := by
    unfold pInsT
    rcases e : t.rightB with _ | _
    · exact ⟨rfl, rfl⟩
    · rw [if_neg (by simp), if_neg (by
        have : t.data.length ≤ 200 := (of_decide_eq_true e).2.2.2.2
        have : roomT [] = 474 := by decide
        omega)]
      exact ⟨rfl, rfl⟩
  rw [hr.1, hr.2] at this
  exact this.mono fun e w' ⟨a, b, c⟩ => ⟨a, h1.on b (fun k hk e => by omega) (fun k h1 h2 e => by omega)⟩
end

set_option maxHeartbeats 1000000 in
set_option maxRecDepth 100000 in
theorem heap_insert_form (hb : Nat) (t : Tup) (A : Option Addr) (cap : Nat) (S : Nat → Prop) (w : World) (ht : t.rightB = false) (hby : ∀ x ∈ t.data, x < 256) (hd : Rd w S 1 A t.data.length (bytesV t.data)) :
    Calls Tryz.prog 111 #[.pointer (some ⟨hb, 0, none⟩), tupV t A cap] w fun e w' => e = .returned (.tuple #[.agg #[.int .i64 0, .int .i64 0], .int .i64 3]) ∧ Quiet w w' := by
  have HI := Lib.hid (own_page t A cap S hby hd)
  have H0 := Lib.hid (InsW.start w t A cap)
  simp only [ht, Bool.false_eq_true, if_false, if_true] at HI
  unfold tupV at HI ⊢
  clear ht hby hd
  go_enter Tryz.func111, Tryz.ntmps111
  go_wp2_with fail
  go_region_held3 (fun w' => w'.cell? ⟨w.heap.size, 0, none⟩ = some (.int .u64 t.row) ∧ w'.cell? ⟨w.heap.size, 1, none⟩ = some (.int .u64 t.xmin) ∧ w'.cell? ⟨w.heap.size, 2, none⟩ = some (.int .u64 t.xmax) ∧ w'.cell? ⟨w.heap.size, 3, none⟩ = some (.int .i64 t.pg) ∧ w'.cell? ⟨w.heap.size, 4, none⟩ = some (.int .i64 t.sl) ∧ w'.cell? ⟨w.heap.size, 5, none⟩ = some (.slice A t.data.length cap))
    (first | go_keep | exact box_cells H2.out.box | exact box_cells H1.out.box | fail)
    (first
      | (go_at_call 113; go_must (refine (pageT_new _).mono ?_; rintro e w1 ⟨rfl, hq1, hs1, hp1⟩; have H1 := Lib.hid (H0.out.drew.quietly hq1); have HQ1 := Lib.hid hq1; simp only [World.size_drew, World.size_alloc] at hp1; have HP1 := Lib.hid hp1; clear hq1 hp1 hs1))
      | (go_at_call 154; go_must (refine (HI.out _ _ _ H0.out HQ1.out HP1.out (by omega)).mono ?_; rintro e w2 ⟨rfl, h2⟩; have H2 := Lib.hid h2; clear h2))
      | fail)
  clear HI H0 HQ1 HP1 H1
  obtain ⟨t0, t1, tf⟩ := H2.out.cells
  go_wp2_with fail
  exact bodyPost_ret (results_cell_tmp Tryz.results111 _ _ (w.heap.size + 1) _ _ (0, 0) _ (by rfl) (two_set H2.out.tid _ _) Tryz.underlying50 rfl info_tid) (by rfl) ⟨rfl, H2.out.end_ _ _⟩

/-- What the walk of a found page needs. -/
theorem set_rooms (H : List (List (Option Tup))) (i : Nat) (T : List (Option Tup)) (hi : i < H.length) : setL (H.map roomT) i (roomT T) = (H.set i T).map roomT := by
  unfold setL
  rw [if_neg (by simp; omega), List.map_set]

theorem ins_new (t : Tup) (ht : t.rightB = true) : pInsT [] t = (0, 0, [some t]) := by
  unfold pInsT
  rw [if_neg (by simp [ht]), if_neg (by
    have : t.data.length ≤ 200 := (of_decide_eq_true ht).2.2.2.2
    have : roomT [] = 474 := by decide
    omega)]
  rfl

theorem ins_room {T : List (Option Tup)} {t : Tup} (ht : t.rightB = true) (hr : (t.data.length : Int) ≤ roomT T) : pInsT T t = ((freeT T : Int), 0, insT T t) := by
  unfold pInsT
  rw [if_neg (by simp [ht]), if_neg (by omega)]

set_option maxHeartbeats 1000000 in
set_option maxRecDepth 100000 in
theorem heap_insert_found (hb pb : Nat) (F : Nat → Prop) (H : List (List (Option Tup))) (T : List (Option Tup)) (i : Nat) (t : Tup) (A : Option Addr) (cap : Nat) (S : Nat → Prop) (w : World) (h : HeapIs w hb pb F H) (ht : t.rightB = true) (hf : findH H t.data.length = some i) (hT : H[i]? = some T)
    (hby : ∀ x ∈ t.data, x < 256) (hd : Rd w S 1 A t.data.length (bytesV t.data)) :
    Calls Tryz.prog 111 #[.pointer (some ⟨hb, 0, none⟩), tupV t A cap] w fun e w' => e = .returned (.tuple #[.agg #[.int .i64 (i : Int), .int .i64 (freeT T : Int)], .int .i64 0]) ∧ Only F w w' ∧ HeapIs w' hb pb F (H.set i (insT T t)) := by
  have HI := Lib.hid (own_page t A cap S hby hd)
  have H0 := Lib.hid (InsW.start w t A cap)
  simp only [ht, Bool.false_eq_true, if_false, if_true] at HI
  have h256 := h.most
  obtain ⟨v, ps, rb, h⟩ := h.lim
  have hfr := find_rooms H t.data.length
  rw [hf] at hfr
  have hil : i < H.length := (List.getElem?_eq_some_iff.1 hT).1
  obtain ⟨p, hp, hpt⟩ := h.pg i T hT
  obtain ⟨T', hT', hrm⟩ := findH_some hf
  obtain rfl : T = T' := by rw [hT] at hT'; injection hT'
  have HIN : Hid (∀ w1, Quiet w w1 → Calls Tryz.prog 154 #[.pointer (some ⟨p, 0, none⟩), tupV t A cap] w1 fun e w' => e = .returned (.tuple #[.int .i64 (freeT T : Int), .int .i64 0]) ∧ Only (· = p) w1 w' ∧ PageT w' p (insT T t)) := fun w1 hq => by
    have := pageT_insert p T t A cap _ w1 (hpt.kept hq (fun x => x)) hby (hd.kept hq (fun _ _ x => x))
    rw [ins_room ht hrm] at this
    exact this
  obtain ⟨B, c, hv, hc, hm, hr⟩ := h.rowForm
  obtain ⟨g, rfl, hg⟩ := hr i p hp
  have hall := h.cells
  rw [hv] at hall
  obtain ⟨c0, c1, c2⟩ := hall
  have hl1 := lt_of_get h.box
  have hl2 := cell_lt hg
  have HH := Lib.hid h
  have HFR := Lib.hid hfr
  have HHP := Lib.hid hp
  have HV := Lib.hid hv
  unfold maxLen at hm
  unfold tupV at HI HIN ⊢
  clear ht hby hd hf h hfr hr hpt hT' hrm hp hv
  go_enter Tryz.func111, Tryz.ntmps111
  go_wp2_with fail
  go_region_held3 (fun w' => w'.cell? ⟨w.heap.size, 0, none⟩ = some (.int .u64 t.row) ∧ w'.cell? ⟨w.heap.size, 1, none⟩ = some (.int .u64 t.xmin) ∧ w'.cell? ⟨w.heap.size, 2, none⟩ = some (.int .u64 t.xmax) ∧ w'.cell? ⟨w.heap.size, 3, none⟩ = some (.int .i64 t.pg) ∧ w'.cell? ⟨w.heap.size, 4, none⟩ = some (.int .i64 t.sl) ∧ w'.cell? ⟨w.heap.size, 5, none⟩ = some (.slice A t.data.length cap))
    (first | go_keep | exact box_cells H2.out.box | exact box_cells H1.out.box | fail)
    (first
      | (go_at_call 113; go_must (refine (pageT_new _).mono ?_; rintro e w1 ⟨rfl, hq1, hs1, hp1⟩; have H1 := Lib.hid (H0.out.drew.quietly hq1); have HQ1 := Lib.hid hq1; simp only [World.size_drew, World.size_alloc] at hp1; have HP1 := Lib.hid hp1; clear hq1 hp1 hs1))
      | (go_at_call 154; go_must (refine (HI.out _ _ _ H0.out HQ1.out HP1.out (by omega)).mono ?_; rintro e w2 ⟨rfl, h2⟩; have H2 := Lib.hid h2; clear h2))
      | fail)
  clear HI H0 HQ1 HP1 H1
  have HH2 := Lib.hid (HH.out.kept H2.out.only (fun _ _ x => x))
  obtain ⟨b0, b1, b2, b3, b4, b5⟩ := box_cells H2.out.box
  have k1 := H2.out.only.cell c1 (fun x => x)
  have k2 := H2.out.only.cell c2 (fun x => x)
  have kg := H2.out.only.cell hg (fun x => x)
  have d0 : decide ((i : Int) < 0) = false := by simp
  have d1 : decide ((H.length : Int) ≤ i) = false := by simp; omega
  clear c0 c1 c2 hg
  go_wp2_with fail
  go_quiet ((go_at_call 155; exact quiet_left (room_find rb _ _ _ (HH2.out.room.drewN _))))
  rw [HFR.out]
  go_wp2_with fail
  have HNE : Hid ((¬ hb = p) ∧ (¬ g = p) ∧ p < w.heap.size) := ⟨fun e => HH.out.apart.ph p (List.mem_of_getElem? HHP.out) e.symm, fun e => HH.out.apart.vp g (by rw [HV.out]; rfl) p (List.mem_of_getElem? HHP.out) e, by obtain ⟨d, hd⟩ := HH.out.pblk (List.mem_of_getElem? HHP.out); exact lt_of_get hd⟩
  go_region_held3 (fun w' => w'.cell? ⟨hb, 1, none⟩ = some (.slice (some ⟨g, 0, none⟩) H.length c) ∧ w'.cell? ⟨g, i, none⟩ = some (ptrV p) ∧ w'.cell? ⟨w.heap.size, 0, none⟩ = some (.int .u64 t.row) ∧ w'.cell? ⟨w.heap.size, 1, none⟩ = some (.int .u64 t.xmin) ∧ w'.cell? ⟨w.heap.size, 2, none⟩ = some (.int .u64 t.xmax) ∧ w'.cell? ⟨w.heap.size, 3, none⟩ = some (.int .i64 t.pg) ∧ w'.cell? ⟨w.heap.size, 4, none⟩ = some (.int .i64 t.sl) ∧ w'.cell? ⟨w.heap.size, 5, none⟩ = some (.slice A t.data.length cap))
    (first | go_keep | exact ⟨ho4.cell (by exact k1) HNE.out.1, ho4.cell (by exact kg) HNE.out.2.1, box_cells (ho4.get (by exact H2.out.box) (by have := HNE.out.2.2; omega))⟩ | fail)
    (first
      | (go_at_call 154; go_must (refine (HIN.out _ (H2.out.only.drewN _)).mono ?_; rintro e w4 ⟨rfl, ho4, hp4⟩))
      | fail)
  have HH4 := Lib.hid ((HH2.out.drewN _).turn HHP.out ho4 hp4)
  have H4 : Hid (InsW F w w4 t A cap) := ((H2.out.drewN _).mono (fun _ x => x.elim)).on ho4 (fun k _ e => by subst e; exact (HH.out.foot.2.2.1 k (List.mem_of_getElem? HHP.out)).1) (fun k h1 h2 e => by have := HNE.out.2.2; omega)
  clear ho4 hp4 HH2 H2 HIN HFR k1 k2 kg b0 b1 b2 b3 b4 b5
  go_wp2_with fail
  refine (heap_told i p (insT T t) HH4.out HHP.out (by rw [List.getElem?_set_self hil]) (by simp; omega) (by omega)).mono ?_
  rintro e w5 ⟨rfl, ho5, hh5⟩
  rw [set_rooms H i _ hil] at hh5
  have HH5 := Lib.hid hh5
  have H5 := Lib.hid (H4.out.on ho5 (fun k _ e => by subst e; exact HH.out.foot.2.1.1) (fun k h1 h2 e => by have := HH.out.room.lt; omega))
  clear ho5 hh5 HH4 H4
  obtain ⟨t0, t1, tf⟩ := H5.out.cells
  go_wp2_with fail
  exact bodyPost_ret (results_cell_tmp Tryz.results111 _ _ (w.heap.size + 1) _ _ (0, 0) _ (by rfl) (two_set H5.out.tid _ _) Tryz.underlying50 rfl info_tid) (by rfl) ⟨rfl, H5.out.end_ _ _, _, _, _, (HH5.out.kept (two_only _ _ _ _) (fun k hk e => by have := hk.2; omega)).mono (fun _ x => x.1)⟩

set_option maxHeartbeats 1000000 in
set_option maxRecDepth 100000 in
theorem heap_insert_full (hb pb : Nat) (F : Nat → Prop) (H : List (List (Option Tup))) (t : Tup) (A : Option Addr) (cap : Nat) (S : Nat → Prop) (w : World) (h : HeapIs w hb pb F H) (hpo : PoolAt w pb 0) (ht : t.rightB = true) (hf : findH H t.data.length = none)
    (hby : ∀ x ∈ t.data, x < 256) (hd : Rd w S 1 A t.data.length (bytesV t.data)) :
    Calls Tryz.prog 111 #[.pointer (some ⟨hb, 0, none⟩), tupV t A cap] w fun e w' => e = .returned (.tuple #[.agg #[.int .i64 0, .int .i64 0], .int .i64 12]) ∧ Quiet w w' := by
  have HI := Lib.hid (own_page t A cap S hby hd)
  have H0 := Lib.hid (InsW.start w t A cap)
  simp only [ht, Bool.false_eq_true, if_false, if_true] at HI
  have h256 := h.most
  obtain ⟨v, ps, rb, h⟩ := h.lim
  have hfr := find_rooms H t.data.length
  rw [hf] at hfr
  obtain ⟨B, c, hv, hc, hm, hr⟩ := h.rowForm
  have hall := h.cells
  rw [hv] at hall
  obtain ⟨c0, c1, c2⟩ := hall
  have hl1 := lt_of_get h.box
  have HH := Lib.hid h
  have HFR := Lib.hid hfr
  have HV := Lib.hid hv
  have HPO := Lib.hid hpo
  unfold maxLen at hm
  unfold tupV at HI ⊢
  clear ht hf h hfr hr hv
  clear hby hd hpo
  go_enter Tryz.func111, Tryz.ntmps111
  go_wp2_with fail
  go_region_held3 (fun w' => w'.cell? ⟨w.heap.size, 0, none⟩ = some (.int .u64 t.row) ∧ w'.cell? ⟨w.heap.size, 1, none⟩ = some (.int .u64 t.xmin) ∧ w'.cell? ⟨w.heap.size, 2, none⟩ = some (.int .u64 t.xmax) ∧ w'.cell? ⟨w.heap.size, 3, none⟩ = some (.int .i64 t.pg) ∧ w'.cell? ⟨w.heap.size, 4, none⟩ = some (.int .i64 t.sl) ∧ w'.cell? ⟨w.heap.size, 5, none⟩ = some (.slice A t.data.length cap))
    (first | go_keep | exact box_cells H2.out.box | exact box_cells H1.out.box | fail)
    (first
      | (go_at_call 113; go_must (refine (pageT_new _).mono ?_; rintro e w1 ⟨rfl, hq1, hs1, hp1⟩; have H1 := Lib.hid (H0.out.drew.quietly hq1); have HQ1 := Lib.hid hq1; simp only [World.size_drew, World.size_alloc] at hp1; have HP1 := Lib.hid hp1; clear hq1 hp1 hs1))
      | (go_at_call 154; go_must (refine (HI.out _ _ _ H0.out HQ1.out HP1.out (by omega)).mono ?_; rintro e w2 ⟨rfl, h2⟩; have H2 := Lib.hid h2; clear h2))
      | fail)
  clear HI H0 HQ1 HP1 H1
  have HH2 := Lib.hid (HH.out.kept H2.out.only (fun _ _ x => x))
  have HPO2 := Lib.hid (HPO.out.kept H2.out.only (fun x => x))
  obtain ⟨b0, b1, b2, b3, b4, b5⟩ := box_cells H2.out.box
  have k0 := H2.out.only.cell c0 (fun x => x)
  have k1 := H2.out.only.cell c1 (fun x => x)
  have k2 := H2.out.only.cell c2 (fun x => x)
  clear c0 c1 c2
  go_wp2_with fail
  go_quiet ((go_at_call 155; exact quiet_left (room_find rb _ _ _ (HH2.out.room.drewN _))))
  rw [HFR.out]
  go_wp2_with fail
  refine (pool_left pb 0 _ (by exact HPO2.out)).mono ?_
  rintro e w3 ⟨rfl, rfl⟩
  obtain ⟨t0, t1, tf⟩ := H2.out.cells
  go_wp2_with fail
  exact bodyPost_ret (results_cell_tmp Tryz.results111 _ _ (w.heap.size + 1) _ _ (0, 0) _ (by rfl) (two_set (H2.out.drewN _).tid _ _) Tryz.underlying50 rfl info_tid) (by rfl) ⟨rfl, (H2.out.drewN _).end_ _ _⟩

set_option maxHeartbeats 1000000 in
set_option maxRecDepth 100000 in
theorem heap_insert_grow (hb pb left : Nat) (F : Nat → Prop) (H : List (List (Option Tup))) (t : Tup) (A : Option Addr) (cap : Nat) (S : Nat → Prop) (w : World) (h : HeapIs w hb pb F H) (hpo : PoolAt w pb (left + 1)) (ht : t.rightB = true) (hf : findH H t.data.length = none) (hle : H.length + (left + 1) ≤ 256)
    (hby : ∀ x ∈ t.data, x < 256) (hd : Rd w S 1 A t.data.length (bytesV t.data)) (hS : ∀ k, S k → ¬ F k ∧ k ≠ pb) :
    Calls Tryz.prog 111 #[.pointer (some ⟨hb, 0, none⟩), tupV t A cap] w fun e w' => e = .returned (.tuple #[.agg #[.int .i64 (H.length : Int), .int .i64 0], .int .i64 0]) ∧ Only (fun k => F k ∨ k = pb) w w' ∧ PoolAt w' pb left ∧ HeapIs w' hb pb (fun k => F k ∨ w.heap.size ≤ k) (H ++ [[some t]]) := by
  have HI := Lib.hid (own_page t A cap S hby hd)
  have H0 := Lib.hid (InsW.start w t A cap)
  simp only [ht, Bool.false_eq_true, if_false, if_true] at HI
  have h256 := h.most
  obtain ⟨v, ps, rb, h⟩ := h
  replace h := h.lim2 hpo
  have hfr := find_rooms H t.data.length
  rw [hf] at hfr
  obtain ⟨B, c, hv, hc, hm, hr⟩ := h.rowForm
  have hall := h.cells
  rw [hv] at hall
  obtain ⟨c0, c1, c2⟩ := hall
  have hl1 := lt_of_get h.box
  have HH := Lib.hid h
  have HFR := Lib.hid hfr
  have HV := Lib.hid hv
  have HPO := Lib.hid hpo
  have HT := Lib.hid ht
  unfold maxLen at hm
  unfold tupV at HI ⊢
  clear ht hf h hfr hr hv
  have hne : ¬ hb = pb := fun e => (HH.out.pool hpo).1 e.symm
  have hne' : ¬ pb = hb := fun e => hne e.symm
  have hl0 : ¬ ((left : Int) + 1 = 0) := by omega
  have HD := Lib.hid hd
  have HBY := Lib.hid hby
  have HS := Lib.hid hS
  clear hby hd hpo hS
  go_enter Tryz.func111, Tryz.ntmps111
  go_wp2_with fail
  go_region_held3 (fun w' => w'.cell? ⟨w.heap.size, 0, none⟩ = some (.int .u64 t.row) ∧ w'.cell? ⟨w.heap.size, 1, none⟩ = some (.int .u64 t.xmin) ∧ w'.cell? ⟨w.heap.size, 2, none⟩ = some (.int .u64 t.xmax) ∧ w'.cell? ⟨w.heap.size, 3, none⟩ = some (.int .i64 t.pg) ∧ w'.cell? ⟨w.heap.size, 4, none⟩ = some (.int .i64 t.sl) ∧ w'.cell? ⟨w.heap.size, 5, none⟩ = some (.slice A t.data.length cap))
    (first | go_keep | exact box_cells H2.out.box | exact box_cells H1.out.box | fail)
    (first
      | (go_at_call 113; go_must (refine (pageT_new _).mono ?_; rintro e w1 ⟨rfl, hq1, hs1, hp1⟩; have H1 := Lib.hid (H0.out.drew.quietly hq1); have HQ1 := Lib.hid hq1; simp only [World.size_drew, World.size_alloc] at hp1; have HP1 := Lib.hid hp1; clear hq1 hp1 hs1))
      | (go_at_call 154; go_must (refine (HI.out _ _ _ H0.out HQ1.out HP1.out (by omega)).mono ?_; rintro e w2 ⟨rfl, h2⟩; have H2 := Lib.hid h2; clear h2))
      | fail)
  clear HI H0 HQ1 HP1 H1
  have HH2 := Lib.hid (HH.out.kept H2.out.only (fun _ _ x => x))
  have HPO2 := Lib.hid (HPO.out.kept H2.out.only (fun x => x))
  obtain ⟨b0, b1, b2, b3, b4, b5⟩ := box_cells H2.out.box
  have k0 := H2.out.only.cell c0 (fun x => x)
  have k1 := H2.out.only.cell c1 (fun x => x)
  have k2 := H2.out.only.cell c2 (fun x => x)
  clear c0 c1 c2
  go_wp2_with fail
  go_quiet ((go_at_call 155; exact quiet_left (room_find rb _ _ _ (HH2.out.room.drewN _))))
  rw [HFR.out]
  go_wp2_with fail
  refine (pool_left pb _ _ (by exact HPO2.out)).mono ?_
  rintro e w3 ⟨rfl, rfl⟩
  have hpc := HPO2.out.cell
  have hpf := frozen_of HPO2.out 0
  go_upto_region 12 with fail
  have HO3 : Hid (Only (· = pb) w2 ((w2.drewN nq).setCell ⟨pb, 0, none⟩ (.int .i64 (left : Int)))) := ((Only.refl (· = pb) w2).drewN nq).setCell (p := ⟨pb, 0, none⟩) (fun _ => rfl) _
  have HH3 := Lib.hid (HH2.out.kept HO3.out (fun k hk e => hk.2.2 e))
  have H3 := Lib.hid ((H2.out.mono (G' := fun k => k = pb) (fun _ x => x.elim)).on HO3.out (fun _ _ e => e) (fun k h1 h2 e => by have := HPO.out.lt; omega))
  have HPO3 : Hid (PoolAt ((w2.drewN nq).setCell ⟨pb, 0, none⟩ (.int .i64 (left : Int))) pb left) := PoolAt.set (w := w2.drewN nq) HPO2.out rfl
  clear HPO2 HH2 H2 HO3 HFR b0 b1 b2 b3 b4 b5 k0 k1 k2 hpc hpf
  generalize (w2.drewN nq).setCell ⟨pb, 0, none⟩ (.int .i64 (left : Int)) = w3 at HH3 H3 HPO3 ⊢
  have k1 : w3.cell? ⟨hb, 1, none⟩ = some (.slice B H.length c) := by rw [← HV.out]; exact HH3.out.cells.2.1
  go_cut [] (fun wx => ∃ q v', w3.heap.size ≤ q ∧ HeapAt wx hb pb (fun k => (F k ∧ k < w.heap.size ∧ k ≠ pb) ∨ w3.heap.size ≤ k) (H ++ [[]]) (H.map roomT) v' (ps ++ [q]) rb ∧ Only (fun k => F k ∧ k < w.heap.size ∧ k ≠ pb) w3 wx)
  case first =>
    have HROW : Hid (w3.ownsRow 0 175 1 (.slice B H.length c) H.length (ps.map ptrV)) := by rw [← HV.out]; exact HH3.out.row
    have HNB : Hid (∀ k, (Value.slice B H.length c).ownBlock = some k → k ≠ hb) := by rw [← HV.out]; exact HH3.out.apart.vh
    go_region_law (first
      | (go_simp; go_at_call 113; refine (pageT_new _).mono ?_; rintro e w4 ⟨rfl, hq4, hs4, hp4⟩; have k4 : w4.cell? ⟨hb, 1, none⟩ = some (.slice B H.length c) := hq4.cell (by exact k1) (fun x => x); have hl4 : hb < w4.heap.size := cell_lt k4; have hn4 : ¬ hb = w4.heap.size := by omega)
      | (refine app_step elem_page rfl (.tmp 63) (.tmp 65) rfl rfl (owns_kept (owns_kept (by exact HROW.out) hq4 (fun _ _ x => x)) ((Only.refl (fun _ => False) w4).alloc _) (fun _ _ x => x)) rfl (Rd.one w4 (ptrV w3.heap.size) 175 (0, 0) (S := fun _ => True) trivial) (one_ptr [w3.heap.size]) (by unfold maxLen; omega) (by omega) ?_; intro v5 w5 hg5; have hb5 := hg5.only.get (alloc_old (hq4.get (by exact HH3.out.box) (fun x => x)) _) (fun e => HNB.out hb e rfl); obtain ⟨A5, c5, hv5, _, _, _⟩ := own_form hg5.own; subst hv5; have s1 := cell_of hb5 1; have s2 := fun o => frozen_of hb5 o; simp only [zGA, zGS, zGZ] at s1)
      | fail)
    all_goals
      go_wp2_with fail
      go_meet
      have hq : Quiet w3 w4 := ((Only.refl _ _).drew).trans hq4
      have hgr := HH3.out.grow hq hp4 (Nat.le_refl _) (by rw [HV.out]; exact hg5)
      exact ⟨_, _, Nat.le_refl _, hgr.1, hgr.2⟩
  case rest =>
    obtain ⟨q, v', hq3, hh4, ho4⟩ := hcut
    have hpl : ps.length = H.length := HH.out.plen
    have hw3 := H3.out.lt
    have HHP : Hid ((ps ++ [q])[H.length]? = some q) := by show (ps ++ [q])[H.length]? = some q; rw [← hpl]; simp
    have H4 : Hid (InsW (fun k => F k ∨ k = pb) w wc t A cap) := (H3.out.mono (fun _ x => Or.inr x)).on ho4 (fun _ _ x => Or.inl x.1) (fun k h1 h2 x => by have := x.2.1; omega)
    have HPO4 : Hid (PoolAt wc pb left) := HPO3.out.kept ho4 (fun x => x.2.2 rfl)
    have HD4 : Hid (Rd wc S 1 A t.data.length (bytesV t.data)) := HD.out.kept H4.out.only (fun k hk x => by rcases x with x | x; exact (HS.out k hk).1 x; exact (HS.out k hk).2 x)
    obtain ⟨B4, c4, hv4, hc4, hm4, hr4⟩ := hh4.rowForm
    obtain ⟨g, rfl, hg⟩ := hr4 H.length q HHP.out
    obtain ⟨T', hT', hpt⟩ := hh4.page HHP.out
    have hT0 : T' = [] := by simp at hT'; exact hT'
    subst hT0
    have hk1 := hh4.cells.2.1
    rw [hv4] at hk1
    obtain ⟨b0, b1, b2, b3, b4, b5⟩ := box_cells H4.out.box
    have HIN := Lib.hid (fun n => pageT_insert q [] t A cap S (wc.drewN n) (by exact hpt) HBY.out (HD4.out.kept ((Only.refl (fun _ => False) wc).drewN n) (fun _ _ x => x)))
    rw [ins_new t HT.out] at HIN
    unfold tupV at HIN
    rw [List.length_append, List.length_singleton] at hv4 hk1 hc4
    have HH4 := Lib.hid hh4
    have HV4 := Lib.hid hv4
    have HNE : Hid ((¬ hb = q) ∧ (¬ g = q) ∧ (¬ w.heap.size = q) ∧ (¬ w.heap.size + 1 = q) ∧ ¬ pb = q) := by
      have ha := hh4.apart
      have hm : q ∈ ps ++ [q] := by simp
      obtain ⟨d, hd⟩ := hh4.pblk hm
      refine ⟨fun e => ha.ph q hm e.symm, fun e => ha.vp g (by rw [hv4]; rfl) q hm e, ne_type H4.out.box hd (by decide), ne_type H4.out.tid hd (by decide), ne_type HPO4.out hd (by decide)⟩
    have d0 : decide ((H.length : Int) < 0) = false := by simp
    have d1 : decide ((H.length : Int) + 1 ≤ H.length) = false := decide_eq_false (by omega)
    have d2 : ¬ (H.length : Int) + 1 ≤ H.length := by omega
    have d3 : (H.length : Int) < H.length + 1 := by omega
    unfold maxLen at hm4
    clear hh4 ho4 hr4 hT' hpt hv4 HD4 HD HS HBY H3 HH3 HPO3 k1
    go_wp2_with fail
    go_region_held3 (fun w' => w'.cell? ⟨hb, 1, none⟩ = some (.slice (some ⟨g, 0, none⟩) (H.length + 1) c4) ∧ w'.cell? ⟨g, H.length, none⟩ = some (ptrV q) ∧ w'.cell? ⟨w.heap.size, 0, none⟩ = some (.int .u64 t.row) ∧ w'.cell? ⟨w.heap.size, 1, none⟩ = some (.int .u64 t.xmin) ∧ w'.cell? ⟨w.heap.size, 2, none⟩ = some (.int .u64 t.xmax) ∧ w'.cell? ⟨w.heap.size, 3, none⟩ = some (.int .i64 t.pg) ∧ w'.cell? ⟨w.heap.size, 4, none⟩ = some (.int .i64 t.sl) ∧ w'.cell? ⟨w.heap.size, 5, none⟩ = some (.slice A t.data.length cap))
      (first | go_keep | exact ⟨ho5.cell (by exact hk1) HNE.out.1, ho5.cell (by exact hg) HNE.out.2.1, box_cells (ho5.get (by exact H4.out.box) HNE.out.2.2.1)⟩ | fail)
      (first
        | (go_at_call 154; go_must (refine (HIN.out 1).mono ?_; rintro e w5 ⟨rfl, ho5, hp5⟩))
        | fail)
    have hh5 := (HH4.out.drewN 1).turn HHP.out ho5 hp5
    rw [show (H ++ [([] : List (Option Tup))]).set H.length [some t] = H ++ [[some t]] by simp] at hh5
    have HH5 := Lib.hid hh5
    have hw4 : w.heap.size ≤ wc.heap.size := H4.out.only.size
    have hql : w.heap.size ≤ q := by omega
    have H5 := Lib.hid ((H4.out.drewN 1).on ho5 (fun k h1 e => by omega) (fun k h1 h2 e => by have := HNE.out; omega))
    have HPO5 : Hid (PoolAt w5 pb left) := PoolAt.kept (w := wc.drewN 1) HPO4.out ho5 HNE.out.2.2.2.2
    clear ho5 hp5 hh5 HH4 H4 HIN HPO4 hk1 hg b0 b1 b2 b3 b4 b5
    go_wp2_with fail
    refine (heap_told H.length q [some t] HH5.out HHP.out (by simp) (by simp) (by omega)).mono ?_
    rintro e w6 ⟨rfl, ho6, hh6⟩
    rw [show setL (H.map roomT) H.length (roomT [some t]) = (H ++ [[some t]]).map roomT by unfold setL; rw [if_pos (by simp)]; simp] at hh6
    have HH6 := Lib.hid hh6
    have hrl := HH.out.room.lt
    have H6 := Lib.hid (H5.out.on ho6 (fun k _ e => by subst e; exact Or.inl HH.out.foot.2.1.1) (fun k h1 h2 e => by omega))
    have HPO6 : Hid (PoolAt w6 pb left) := HPO5.out.kept ho6 (fun e => (HH.out.pool HPO.out).2.1 e)
    clear ho6 hh6 HH5 H5 HPO5
    obtain ⟨t0, t1, tf⟩ := H6.out.cells
    go_wp2_with fail
    exact bodyPost_ret (results_cell_tmp Tryz.results111 _ _ (w.heap.size + 1) _ _ (0, 0) _ (by rfl) (two_set H6.out.tid _ _) Tryz.underlying50 rfl info_tid) (by rfl) ⟨rfl, H6.out.end_ _ _, HPO6.out.kept (two_only _ _ _ _) (by have := HPO.out.lt; omega), _, _, _, (HH6.out.kept (two_only _ _ _ _) (fun k hk e => by rcases hk with x | x; have := x.2.1; omega; omega)).mono (fun k x => by rcases x with x | x; exact Or.inl x.1; exact Or.inr (by omega))⟩

end Go.Proofs.YtaijnpgoiagboaaGreatDoor

namespace Go.Lap

/-- What lies at a place. -/
def hGet (H : List (List (Option Tup))) (pg sl : Int) : Option Tup := if pg < 0 then none else tupAt (H.getD pg.toNat []) sl

/-- What Stamp tells, and the pages behind it. -/
def hStamp (H : List (List (Option Tup))) (pg sl : Int) (xmax : Nat) (npg nsl : Int) : Int × List (List (Option Tup)) :=
  if pg < 0 ∨ (H.length : Int) ≤ pg then ((pStampT [] sl xmax npg nsl).1, H) else ((pStampT (H.getD pg.toNat []) sl xmax npg nsl).1, H.set pg.toNat (pStampT (H.getD pg.toNat []) sl xmax npg nsl).2)

theorem tupAt_nil (i : Int) : tupAt [] i = none := by
  unfold tupAt
  split <;> rfl

theorem hGet_out {H : List (List (Option Tup))} {pg sl : Int} (h : pg < 0 ∨ (H.length : Int) ≤ pg) : hGet H pg sl = none := by
  unfold hGet
  split
  · rfl
  · rw [List.getD_eq_getElem?_getD, List.getElem?_eq_none (by omega)]
    exact tupAt_nil sl

theorem hGet_in {H : List (List (Option Tup))} {k : Nat} {T : List (Option Tup)} (sl : Int) (h : H[k]? = some T) : hGet H (k : Int) sl = tupAt T sl := by
  unfold hGet
  rw [if_neg (by omega), Int.toNat_natCast, List.getD_eq_getElem?_getD, h]
  rfl

theorem getD_of {H : List (List (Option Tup))} {k : Nat} {T : List (Option Tup)} (h : H[k]? = some T) : H.getD k [] = T := by
  rw [List.getD_eq_getElem?_getD, h]; rfl

theorem set_same_len (T : List (Option Tup)) (i : Nat) (t u : Tup) (h : T[i]? = some (some t)) : freeT (T.set i (some u)) = freeT T := by
  have e : (T.set i (some u)).map (fun s => s.isNone) = T.map (fun s => s.isNone) := by
    rw [List.map_set]
    apply List.ext_getElem?
    intro j
    rw [List.getElem?_set]
    by_cases x : i = j
    · subst x
      have hl : i < T.length := (List.getElem?_eq_some_iff.1 h).1
      rw [if_pos rfl, if_pos (by simpa using hl), List.getElem?_map, h]
      rfl
    · rw [if_neg x]
  have f : ∀ L : List (Option Tup), freeT L = ((L.map (fun s => s.isNone)).findIdx? (fun b => b)).getD L.length := by
    intro L
    unfold freeT
    rw [List.findIdx?_map]
    rfl
  rw [f, f T, e, List.length_set]

theorem sum_set_same {α : Type} (f : α → Nat) (T : List α) (i : Nat) (a b : α) (h : T[i]? = some a) (hf : f b = f a) : ((T.set i b).map f).sum = (T.map f).sum := by
  have e : (T.set i b).map f = T.map f := by
    rw [List.map_set]
    apply List.ext_getElem?
    intro j
    rw [List.getElem?_set]
    by_cases x : i = j
    · subst x
      have hl : i < T.length := (List.getElem?_eq_some_iff.1 h).1
      rw [if_pos rfl, if_pos (by simpa using hl), List.getElem?_map, h, Option.map_some, hf]
    · rw [if_neg x]
  rw [e]

theorem tupAt_some {T : List (Option Tup)} {i : Int} {t : Tup} (h : tupAt T i = some t) : 0 ≤ i ∧ T[i.toNat]? = some (some t) := by
  unfold tupAt at h
  split at h
  · cases h
  · refine ⟨by omega, ?_⟩
    rcases hx : T[i.toNat]? with _ | s
    · rw [hx] at h; cases h
    · rw [hx] at h
      have : s = some t := h
      rw [this]

theorem pStamp_room (T : List (Option Tup)) (i : Int) (x : Nat) (pg sl : Int) : roomT (pStampT T i x pg sl).2 = roomT T := by
  unfold pStampT
  split
  · rfl
  · rcases h : tupAt T i with _ | t
    · rfl
    · obtain ⟨h0, h1⟩ := tupAt_some h
      show roomT (T.set i.toNat (some (t.stamp x pg sl))) = roomT T
      unfold roomT spentT
      rw [set_same_len T _ t _ h1, List.length_set, sum_set_same (fun s => 4 + sizeT s) T _ (some t) (some (t.stamp x pg sl)) h1 rfl]

end Go.Lap
namespace Go.Proofs.YtaijnpgoiagboaaGreatDoor
open Go.RowKit Go.Lap

section
variable {w : World} {hb pb : Nat} {F : Nat → Prop} {H : List (List (Option Tup))}

theorem HeapIs.lim2 {n q : Nat} (h : HeapIs w hb pb F H) (hq : PoolAt w q n) : HeapIs w hb pb (fun k => F k ∧ k < w.heap.size ∧ k ≠ q) H := by
  obtain ⟨v, ps, rb, h⟩ := h
  exact ⟨v, ps, rb, h.lim2 hq⟩

theorem heap_insert (left : Nat) (t : Tup) (A : Option Addr) (cap : Nat) (S : Nat → Prop) (h : HeapIs w hb pb F H) (hpo : PoolAt w pb left) (hle : H.length + left ≤ 256)
    (hby : ∀ x ∈ t.data, x < 256) (hd : Rd w S 1 A t.data.length (bytesV t.data)) (hS : ∀ k, S k → ¬ F k ∧ k ≠ pb) :
    Calls Tryz.prog 111 #[.pointer (some ⟨hb, 0, none⟩), tupV t A cap] w fun e w' => e = .returned (.tuple #[.agg #[.int .i64 (hIns H left t).1.1, .int .i64 (hIns H left t).1.2.1], .int .i64 (hIns H left t).1.2.2]) ∧ Only (fun k => F k ∨ k = pb) w w' ∧ PoolAt w' pb (hIns H left t).2.2 ∧ HeapIs w' hb pb (fun k => F k ∨ w.heap.size ≤ k) (hIns H left t).2.1 := by
  rcases ht : t.rightB with _ | _
  · have e : hIns H left t = ((0, 0, 3), H, left) := by unfold hIns; rw [if_pos ht]
    rw [e]
    refine (heap_insert_form hb t A cap S w ht hby hd).mono ?_
    rintro e w' ⟨rfl, hq⟩
    exact ⟨rfl, hq.mono (fun _ _ x => x.elim), hpo.kept hq (fun x => x), (h.kept hq (fun _ _ x => x)).mono (fun _ x => Or.inl x)⟩
  · rcases hf : findH H t.data.length with _ | i
    · rcases left with _ | left
      · have e : hIns H 0 t = ((0, 0, 12), H, 0) := by unfold hIns; rw [if_neg (by simp [ht]), hf]; rfl
        rw [e]
        refine (heap_insert_full hb pb F H t A cap S w h hpo ht hf hby hd).mono ?_
        rintro e w' ⟨rfl, hq⟩
        exact ⟨rfl, hq.mono (fun _ _ x => x.elim), hpo.kept hq (fun x => x), (h.kept hq (fun _ _ x => x)).mono (fun _ x => Or.inl x)⟩
      · have e : hIns H (left + 1) t = (((H.length : Int), 0, 0), H ++ [[some t]], left) := by unfold hIns; rw [if_neg (by simp [ht]), hf]; rfl
        rw [e]
        exact heap_insert_grow hb pb left F H t A cap S w h hpo ht hf hle hby hd hS
    · obtain ⟨T, hT, _⟩ := findH_some hf
      have e : hIns H left t = (((i : Int), (freeT T : Int), 0), H.set i (insT T t), left) := by
        unfold hIns
        rw [if_neg (by simp [ht]), hf]
        show (((i : Int), (freeT (H.getD i []) : Int), (0 : Int)), H.set i (insT (H.getD i []) t), left) = _
        rw [getD_of hT]
      rw [e]
      refine (heap_insert_found hb pb _ H T i t A cap S w (h.lim2 hpo) ht hf hT hby hd).mono ?_
      rintro e w' ⟨rfl, ho, hh⟩
      exact ⟨rfl, ho.mono (fun _ _ x => Or.inl x.1), hpo.kept ho (fun x => x.2.2 rfl), hh.mono (fun _ x => Or.inl x.1)⟩

theorem tid_on {S : Nat → Prop} {W W' : World} {b : Nat} {pg sl : Int} (h : W.heap[b]? = some (.cells #[.int .i64 pg, .int .i64 sl] 50 (0, 0))) (ho : Only S W W') (hn : ¬ S b) : W'.cell? ⟨b, 0, none⟩ = some (.int .i64 pg) ∧ W'.cell? ⟨b, 1, none⟩ = some (.int .i64 sl) := by
  have := ho.get h hn
  exact ⟨by rw [cell_of this]; rfl, by rw [cell_of this]; rfl⟩

end

end Go.Proofs.YtaijnpgoiagboaaGreatDoor

namespace Go.Lap

end Go.Lap

namespace Go.Lap
end Go.Lap
namespace Go.Proofs.YtaijnpgoiagboaaGreatDoor
open Go.RowKit Go.Lap

section
variable {w W W' : World} {K K' : Nat → Prop} {hb pb : Nat} {H : List (List (Option Tup))} {left : Nat}

end

end Go.Proofs.YtaijnpgoiagboaaGreatDoor

namespace Go.Lap

theorem tupAt_nat (T : List (Option Tup)) (n : Nat) : tupAt T (n : Int) = (T[n]?).join := by
  unfold tupAt
  rw [if_neg (by omega), Int.toNat_natCast]

end Go.Lap
namespace Go.Proofs.YtaijnpgoiagboaaGreatDoor
open Go.RowKit Go.Lap

end Go.Proofs.YtaijnpgoiagboaaGreatDoor

namespace Go.Lap

/-- The cells of a row of places. -/
def tidsV (l : List (Int × Int)) : List Value := l.flatMap (fun p => [.int .i64 p.1, .int .i64 p.2])

theorem tidsV_cons (p : Int × Int) (l : List (Int × Int)) : tidsV (p :: l) = .int .i64 p.1 :: .int .i64 p.2 :: tidsV l := rfl
theorem tidsV_append (l m : List (Int × Int)) : tidsV (l ++ m) = tidsV l ++ tidsV m := by simp [tidsV]
theorem tidsV_get {l : List (Int × Int)} {j : Nat} {p : Int × Int} (h : l[j]? = some p) : (tidsV l)[j * 2]? = some (.int .i64 p.1) ∧ (tidsV l)[j * 2 + 1]? = some (.int .i64 p.2) := by
  induction l generalizing j with
  | nil => simp at h
  | cons q l ih =>
    rcases j with _ | j
    · simp at h
      subst h
      exact ⟨rfl, rfl⟩
    · rw [List.getElem?_cons_succ] at h
      obtain ⟨h1, h2⟩ := ih h
      rw [tidsV_cons, show (j + 1) * 2 = j * 2 + 1 + 1 by omega]
      exact ⟨h1, h2⟩

theorem one_tids (l : List (Int × Int)) : ∀ u ∈ tidsV l, u.oneCell' = true := by
  intro u hu
  unfold tidsV at hu
  rw [List.mem_flatMap] at hu
  obtain ⟨p, _, hp⟩ := hu
  simp at hp
  rcases hp with rfl | rfl <;> rfl

end Go.Lap
namespace Go.Proofs.YtaijnpgoiagboaaGreatDoor
open Go.RowKit Go.Lap

theorem elem_tid : Elem Tryz.prog 65 50 2 16 := Elem.mk' (.agg #[.int .i64 0, .int .i64 0]) Tryz.underlying65 (by kernel_rfl) rfl (by decide)

/-- A row of places. -/
abbrev TidsAt (w : World) (v : Value) (l : List (Int × Int)) : Prop := w.ownsRow 0 50 2 v l.length (tidsV l)

/-- One more place. -/
theorem tids_new (w : World) (p : Int × Int) : Rd (w.alloc (.cells #[.int .i64 p.1, .int .i64 p.2] 50)) (fun _ => True) 2 (some ⟨w.heap.size, 0, none⟩) 1 (tidsV [p]) := Rd.new w 2 1 (tidsV [p]) _ _ rfl trivial

section
variable {w W W' : World} {K K' : Nat → Prop} {hb pb : Nat} {H : List (List (Option Tup))} {left : Nat}
end

end Go.Proofs.YtaijnpgoiagboaaGreatDoor

namespace Go.Proofs.YtaijnpgoiagboaaGreatDoor
open Go.RowKit Go.Lap

theorem zero_cells {w : World} {b : Nat} {t : TypeId} {fr : Nat × Nat} (h : w.heap[b]? = some (.cells #[.int .u64 0, .int .u64 0, .int .u64 0, .int .i64 0, .int .i64 0, .slice none 0 0] t fr)) :
    w.cell? ⟨b, 0, none⟩ = some (.int .u64 0) ∧ w.cell? ⟨b, 1, none⟩ = some (.int .u64 0) ∧ w.cell? ⟨b, 2, none⟩ = some (.int .u64 0) ∧ w.cell? ⟨b, 3, none⟩ = some (.int .i64 0) ∧ w.cell? ⟨b, 4, none⟩ = some (.int .i64 0) ∧ w.cell? ⟨b, 5, none⟩ = some (.slice none 0 0) :=
  ⟨by rw [cell_of h]; rfl, by rw [cell_of h]; rfl, by rw [cell_of h]; rfl, by rw [cell_of h]; rfl, by rw [cell_of h]; rfl, by rw [cell_of h]; rfl⟩

/-- In Get: the place in its box, the result in its own. -/
theorem get_start (w : World) (pg sl : Int) : Quiet w ((w.alloc (.cells #[.int .i64 pg, .int .i64 sl] 50)).alloc (.cells #[.int .u64 0, .int .u64 0, .int .u64 0, .int .i64 0, .int .i64 0, .slice none 0 0] 106)) ∧
    ((w.alloc (.cells #[.int .i64 pg, .int .i64 sl] 50)).alloc (.cells #[.int .u64 0, .int .u64 0, .int .u64 0, .int .i64 0, .int .i64 0, .slice none 0 0] 106)).heap[w.heap.size]? = some (.cells #[.int .i64 pg, .int .i64 sl] 50 (0, 0)) ∧
    ((w.alloc (.cells #[.int .i64 pg, .int .i64 sl] 50)).alloc (.cells #[.int .u64 0, .int .u64 0, .int .u64 0, .int .i64 0, .int .i64 0, .slice none 0 0] 106)).heap[w.heap.size + 1]? = some (.cells #[.int .u64 0, .int .u64 0, .int .u64 0, .int .i64 0, .int .i64 0, .slice none 0 0] 106 (0, 0)) :=
  ⟨((Only.refl _ _).alloc _).alloc _, alloc_old (alloc_new _ _) _, two_new _ _ _⟩

theorem fresh_on1 {w W1 w5 W6 : World} {v : Value} {l : List Nat} (hq : Quiet w W1) (hs : w.heap.size + 1 < W1.heap.size) (h : Fresh W1 w5 v l) (ho : Only (· = w.heap.size + 1) w5 W6) : Fresh w W6 v l := by
  have hz := hq.size
  exact ⟨(hq.trans h.quiet).trans' ho (fun k hk e => by omega), fun k e => by have := h.new k e; omega, owns_kept h.own ho (fun k e x => by have := h.new k e; omega)⟩

set_option maxHeartbeats 1000000 in
set_option maxRecDepth 100000 in
theorem heap_get_yes (h0 pp : Option Addr) (pg sl : Int) (t : Tup) (w : World) (hpg : ∀ W : World, Quiet w W → Calls Tryz.prog 91 #[.pointer h0, .int .i64 pg] W fun e w' => e = .returned (.pointer pp) ∧ W = w')
    (hgt : ∀ W : World, Quiet w W → Calls Tryz.prog 92 #[.pointer pp, .int .i64 sl] W (GetSome W t)) :
    Calls Tryz.prog 44 #[.pointer h0, .agg #[.int .i64 pg, .int .i64 sl]] w (GetSome w t) := by
  have HPG := Lib.hid hpg
  have HGT := Lib.hid hgt
  have H0 := Lib.hid (get_start w pg sl)
  clear hpg hgt
  go_enter Tryz.func44, Tryz.ntmps44
  go_wp2_with fail
  go_region_held3 (fun w' => w'.cell? ⟨w.heap.size, 0, none⟩ = some (.int .i64 pg) ∧ w'.cell? ⟨w.heap.size, 1, none⟩ = some (.int .i64 sl))
    (first | go_keep | exact tid_on (by exact H0.out.2.1) hf3.quiet (fun x => x) | fail)
    (first
      | (go_at_call 91; go_must (refine (HPG.out _ (H0.out.1.drew)).mono ?_; rintro e w2 ⟨rfl, rfl⟩))
      | (go_at_call 92; go_must (refine (HGT.out _ (H0.out.1.drew)).mono ?_; rintro e w3 ⟨A3, c3, rfl, hf3⟩; unfold tupV; have hr3 := hf3.quiet.get (by exact H0.out.2.2) (fun x => x); obtain ⟨z0, z1, z2, z3, z4, z5⟩ := zero_cells hr3; have zf := fun o => frozen_of hr3 o))
      | fail)
  have HX := Lib.hid (sixSet_same hr3 (.int .u64 t.row) (.int .u64 t.xmin) (.int .u64 t.xmax) (.int .i64 t.pg) (.int .i64 t.sl) (.slice A3 t.data.length c3))
  have HQ := Lib.hid (fresh_on1 H0.out.1.drew (by show w.heap.size + 1 < ((w.alloc _).alloc _).heap.size; simp) hf3 (sixSet_only w3 (w.heap.size + 1) (.int .u64 t.row) (.int .u64 t.xmin) (.int .u64 t.xmax) (.int .i64 t.pg) (.int .i64 t.sl) (.slice A3 t.data.length c3)))
  clear hf3 hr3 HPG HGT H0 z0 z1 z2 z3 z4 z5 zf
  unfold sixSet at HX HQ
  go_wp2
  generalize ((((((w3.setCell ⟨w.heap.size + 1, 0, none⟩ (.int .u64 t.row)).setCell ⟨w.heap.size + 1, 1, none⟩ (.int .u64 t.xmin)).setCell ⟨w.heap.size + 1, 2, none⟩ (.int .u64 t.xmax)).setCell ⟨w.heap.size + 1, 3, none⟩ (.int .i64 t.pg)).setCell ⟨w.heap.size + 1, 4, none⟩ (.int .i64 t.sl)).setCell ⟨w.heap.size + 1, 5, none⟩ (.slice A3 t.data.length c3)) = W6 at HX HQ ⊢
  exact bodyPost_ret (results_cell_tmp Tryz.results44 _ _ (w.heap.size + 1) _ _ (0, 0) _ (by rfl) HX.out Tryz.underlying106 rfl info_tup) (by rfl) (getSome_mk HQ.out)

section
variable {w : World} {hb pb : Nat} {F : Nat → Prop} {H : List (List (Option Tup))}

theorem heap_get_some (pg sl : Int) (t : Tup) (h : HeapIs w hb pb F H) (hg : hGet H pg sl = some t) : Calls Tryz.prog 44 #[.pointer (some ⟨hb, 0, none⟩), .agg #[.int .i64 pg, .int .i64 sl]] w (GetSome w t) := by
  obtain ⟨v, ps, rb, h⟩ := h
  have hn : ¬ (pg < 0 ∨ (H.length : Int) ≤ pg) := fun x => by rw [hGet_out x] at hg; cases hg
  obtain ⟨k, rfl⟩ := Int.eq_ofNat_of_zero_le (show 0 ≤ pg by omega)
  obtain ⟨T, hT⟩ : ∃ T, H[k]? = some T := ⟨_, List.getElem?_eq_getElem (show k < H.length by omega)⟩
  obtain ⟨p, hp, hpt⟩ := h.pg k T hT
  rw [hGet_in sl hT] at hg
  exact heap_get_yes _ (some ⟨p, 0, none⟩) k sl t w (fun W hq => heap_page_some k p (h.kept hq (fun _ _ x => x)) hp) (fun W hq => pageT_get_some p t T sl W (hpt.kept hq (fun x => x)) hg)

/-- In Stamp: both places in their boxes. -/
theorem stamp_start (w : World) (pg sl npg nsl : Int) : Quiet w ((w.alloc (.cells #[.int .i64 pg, .int .i64 sl] 50)).alloc (.cells #[.int .i64 npg, .int .i64 nsl] 50)) ∧
    ((w.alloc (.cells #[.int .i64 pg, .int .i64 sl] 50)).alloc (.cells #[.int .i64 npg, .int .i64 nsl] 50)).heap[w.heap.size]? = some (.cells #[.int .i64 pg, .int .i64 sl] 50 (0, 0)) ∧
    ((w.alloc (.cells #[.int .i64 pg, .int .i64 sl] 50)).alloc (.cells #[.int .i64 npg, .int .i64 nsl] 50)).heap[w.heap.size + 1]? = some (.cells #[.int .i64 npg, .int .i64 nsl] 50 (0, 0)) :=
  ⟨((Only.refl _ _).alloc _).alloc _, alloc_old (alloc_new _ _) _, two_new _ _ _⟩

set_option maxHeartbeats 400000 in
set_option maxRecDepth 100000 in
theorem heap_stamp_out (pg sl : Int) (x : Nat) (npg nsl : Int) (h : HeapIs w hb pb F H) (hn : pg < 0 ∨ (H.length : Int) ≤ pg) :
    Calls Tryz.prog 64 #[.pointer (some ⟨hb, 0, none⟩), .agg #[.int .i64 pg, .int .i64 sl], .int .u64 (x : Int), .agg #[.int .i64 npg, .int .i64 nsl]] w fun e w' => e = .returned (.int .i64 (pStampT [] sl x npg nsl).1) ∧ Quiet w w' := by
  obtain ⟨v, ps, rb, h⟩ := h
  have H0 := Lib.hid (stamp_start w pg sl npg nsl)
  have HPG := Lib.hid (heap_page_none pg (h.kept H0.out.1 (fun _ _ x => x)) hn)
  clear h hn
  go_enter Tryz.func64, Tryz.ntmps64
  go_wp2_with fail
  refine HPG.out.mono ?_
  rintro e w1 ⟨rfl, rfl⟩
  go_wp2_with fail
  refine (pageT_new _).mono ?_
  rintro e w2 ⟨rfl, hq2, hs2, hp2⟩
  have HQ2 := Lib.hid (H0.out.1.trans hq2)
  obtain ⟨t0, t1⟩ := tid_on H0.out.2.1 hq2 (fun x => x)
  obtain ⟨n0, n1⟩ := tid_on H0.out.2.2 hq2 (fun x => x)
  simp only [World.size_alloc] at hp2
  have HST := Lib.hid (pageT_stamp (w.heap.size + 1 + 1) [] sl x npg nsl w2 hp2)
  clear hq2 hs2 hp2 HPG H0
  go_wp2_with fail
  refine HST.out.mono ?_
  rintro e w3 ⟨rfl, ho3, hp3⟩
  go_wp2
  go_ret
  exact ⟨rfl, HQ2.out.trans' ho3 (fun k hk e => by omega)⟩

set_option maxHeartbeats 400000 in
set_option maxRecDepth 100000 in
theorem heap_stamp_in (k : Nat) (sl : Int) (x : Nat) (npg nsl : Int) (T : List (Option Tup)) (h : HeapIs w hb pb F H) (hT : H[k]? = some T) :
    Calls Tryz.prog 64 #[.pointer (some ⟨hb, 0, none⟩), .agg #[.int .i64 (k : Int), .int .i64 sl], .int .u64 (x : Int), .agg #[.int .i64 npg, .int .i64 nsl]] w fun e w' => e = .returned (.int .i64 (pStampT T sl x npg nsl).1) ∧ Only F w w' ∧ HeapIs w' hb pb F (H.set k (pStampT T sl x npg nsl).2) := by
  obtain ⟨v, ps, rb, h⟩ := h
  obtain ⟨p, hp, hpt⟩ := h.pg k T hT
  have hkl : k < H.length := (List.getElem?_eq_some_iff.1 hT).1
  have H0 := Lib.hid (stamp_start w k sl npg nsl)
  have hh1 := h.kept H0.out.1 (fun _ _ x => x)
  have HPG := Lib.hid (heap_page_some k p hh1 hp)
  have HST := Lib.hid (pageT_stamp p T sl x npg nsl _ (hpt.kept H0.out.1 (fun x => x)))
  have HH := Lib.hid hh1
  have HHP := Lib.hid hp
  have hR : (H.set k (pStampT T sl x npg nsl).2).map roomT = H.map roomT := by
    rw [List.map_set, pStamp_room]
    apply List.ext_getElem?
    intro j
    rw [List.getElem?_set]
    by_cases e : k = j
    · subst e
      rw [if_pos rfl, if_pos (by simpa using hkl), List.getElem?_map, hT]; rfl
    · rw [if_neg e]
  have HR := Lib.hid hR
  clear h hh1 hp hpt hT hR
  go_enter Tryz.func64, Tryz.ntmps64
  go_wp2_with fail
  refine HPG.out.mono ?_
  rintro e w1 ⟨rfl, rfl⟩
  go_wp2_with fail
  refine HST.out.mono ?_
  rintro e w3 ⟨rfl, ho3, hp3⟩
  have HH3 := Lib.hid (HH.out.turn HHP.out ho3 hp3)
  have HO3 : Hid (Only F w w3) := (H0.out.1.mono (T := F) (fun _ _ x => x.elim)).trans' ho3 (fun j _ e => by subst e; exact HH.out.foot.2.2.1 j (List.mem_of_getElem? HHP.out))
  clear ho3 hp3
  go_wp2
  go_ret
  exact ⟨rfl, HO3.out, _, _, _, by rw [HR.out]; exact HH3.out⟩

theorem heap_stamp (pg sl : Int) (x : Nat) (npg nsl : Int) (h : HeapIs w hb pb F H) :
    Calls Tryz.prog 64 #[.pointer (some ⟨hb, 0, none⟩), .agg #[.int .i64 pg, .int .i64 sl], .int .u64 (x : Int), .agg #[.int .i64 npg, .int .i64 nsl]] w fun e w' => e = .returned (.int .i64 (hStamp H pg sl x npg nsl).1) ∧ Only F w w' ∧ HeapIs w' hb pb F (hStamp H pg sl x npg nsl).2 := by
  by_cases hn : pg < 0 ∨ (H.length : Int) ≤ pg
  · have e : hStamp H pg sl x npg nsl = ((pStampT [] sl x npg nsl).1, H) := by unfold hStamp; rw [if_pos hn]
    rw [e]
    refine (heap_stamp_out pg sl x npg nsl h hn).mono ?_
    rintro e w' ⟨rfl, hq⟩
    exact ⟨rfl, hq.mono (fun _ _ x => x.elim), h.kept hq (fun _ _ x => x)⟩
  · obtain ⟨k, rfl⟩ := Int.eq_ofNat_of_zero_le (show 0 ≤ pg by omega)
    obtain ⟨T, hT⟩ : ∃ T, H[k]? = some T := ⟨_, List.getElem?_eq_getElem (show k < H.length by omega)⟩
    have e : hStamp H (k : Int) sl x npg nsl = ((pStampT T sl x npg nsl).1, H.set k (pStampT T sl x npg nsl).2) := by
      unfold hStamp
      rw [if_neg hn, Int.toNat_natCast, getD_of hT]
    rw [e]
    exact heap_stamp_in k sl x npg nsl T h hT
end

end Go.Proofs.YtaijnpgoiagboaaGreatDoor

namespace Go.Proofs.YtaijnpgoiagboaaGreatDoor
open Go.RowKit Go.Lap

theorem far_bounds {pg sl : Int} (h : farB pg sl = false) : -1 ≤ pg ∧ pg < 65536 ∧ -1 ≤ sl ∧ sl < 65536 := by
  unfold farB at h
  split at h
  · have := of_decide_eq_false h
    omega
  · have := of_decide_eq_false h
    omega

theorem HeapIs.ok {w : World} {hb pb : Nat} {F : Nat → Prop} {H : List (List (Option Tup))} (h : HeapIs w hb pb F H) {pg sl : Int} {t : Tup} (hg : hGet H pg sl = some t) : t.Ok := by
  obtain ⟨v, ps, rb, h⟩ := h
  have h0 : ¬ (pg < 0 ∨ (H.length : Int) ≤ pg) := fun x => by rw [hGet_out x] at hg; cases hg
  obtain ⟨k, rfl⟩ := Int.eq_ofNat_of_zero_le (show 0 ≤ pg by omega)
  obtain ⟨T, hT⟩ : ∃ T, H[k]? = some T := ⟨_, List.getElem?_eq_getElem (show k < H.length by omega)⟩
  rw [hGet_in sl hT] at hg
  obtain ⟨s0, hs⟩ := tupAt_some hg
  obtain ⟨p, _, hp⟩ := h.pg k T hT
  exact hp.ok hs

section
variable {w wr w' : World} {v : Value} {out : List (Int × Int)} {p : Int × Int}
end

/-- What Chain tells. -/
def ChainPost (w : World) (l : List (Int × Int)) (e : Ending) (w' : World) : Prop := ∃ v, e = .returned v ∧ Quiet w w' ∧ (∀ k, v.ownBlock = some k → w.heap.size ≤ k) ∧ TidsAt w' v l

end Go.Proofs.YtaijnpgoiagboaaGreatDoor

namespace Go.Lap

/-- The places on page pg whose slots are below k. -/
def placesTo (pg : Int) (T : List (Option Tup)) (k : Nat) : List (Int × Int) := (List.range k).filterMap (fun s : Nat => if ((T[s]?).join).isSome then some (pg, (s : Int)) else none)

theorem placesTo_none {pg : Int} {T : List (Option Tup)} {k : Nat} (h : (T[k]?).join = none) : placesTo pg T (k + 1) = placesTo pg T k := by
  unfold placesTo
  rw [List.range_succ, List.filterMap_append]
  simp [h]

theorem placesTo_some {pg : Int} {T : List (Option Tup)} {k : Nat} {t : Tup} (h : (T[k]?).join = some t) : placesTo pg T (k + 1) = placesTo pg T k ++ [(pg, (k : Int))] := by
  unfold placesTo
  rw [List.range_succ, List.filterMap_append]
  simp [h]

theorem placesTo_length (pg : Int) (T : List (Option Tup)) (k : Nat) : (placesTo pg T k).length ≤ k := by
  unfold placesTo
  exact Nat.le_trans (List.length_filterMap_le _ _) (by simp)

end Go.Lap
namespace Go.Proofs.YtaijnpgoiagboaaGreatDoor
open Go.RowKit Go.Lap

/-- A row of places that grows. -/
structure TidsW (w wr : World) (v : Value) (l : List (Int × Int)) : Prop where
  quiet : Quiet w wr
  row : TidsAt wr v l
  own : ∀ k, v.ownBlock = some k → w.heap.size ≤ k

section
variable {w wr w' : World} {v : Value} {l : List (Int × Int)}
theorem TidsW.start (h : Quiet w wr) : TidsW w wr (.slice none 0 0) [] := ⟨h, World.ownsRow_nil _ _ _ _, (fun _ x => by cases x)⟩
theorem TidsW.quietly (h : TidsW w wr v l) (hq : Quiet wr w') : TidsW w w' v l := ⟨h.quiet.trans hq, owns_kept h.row hq (fun _ _ x => x), h.own⟩
theorem TidsW.step {w4 : World} {v' : Value} {p : Int × Int} (h : TidsW w wr v l) (hg : Grew (wr.alloc (.cells #[.int .i64 p.1, .int .i64 p.2] 50)) w4 50 2 v v' (l.length + 1) (tidsV l ++ tidsV [p])) : TidsW w w4 v' (l ++ [p]) := by
  have hsz := h.quiet.size
  refine ⟨(h.quiet.alloc _).trans' hg.only (fun k hk e => by have := h.own k e; omega), ?_, fun k e => ?_⟩
  · unfold TidsAt
    rw [List.length_append, tidsV_append]
    exact hg.own
  · rcases hg.loc with x | x
    · rw [x] at e; exact h.own k e
    · rw [x] at e; injection e with e; simp only [World.size_alloc] at e; omega
theorem TidsW.post (h : TidsW w wr v l) : ChainPost w l (.returned v) wr := ⟨v, rfl, h.quiet, h.own, h.row⟩
end

set_option maxHeartbeats 1000000 in
set_option maxRecDepth 100000 in
theorem plist_walk (h0 pp : Option Addr) (n : Int) (T : List (Option Tup)) (w : World) (hT : T.length ≤ 127)
    (hpg : ∀ W : World, Quiet w W → Calls Tryz.prog 91 #[.pointer h0, .int .i64 n] W fun e w' => e = .returned (.pointer pp) ∧ W = w')
    (hsl : ∀ W : World, Quiet w W → Calls Tryz.prog 126 #[.pointer pp] W fun e w' => e = .returned (.int .i64 (T.length : Int)) ∧ W = w')
    (hg0 : ∀ (W : World) (i : Int), Quiet w W → tupAt T i = none → Calls Tryz.prog 92 #[.pointer pp, .int .i64 i] W (GetNone W))
    (hg1 : ∀ (W : World) (i : Int) (t : Tup), Quiet w W → tupAt T i = some t → Calls Tryz.prog 92 #[.pointer pp, .int .i64 i] W (GetSome W t)) :
    Calls Tryz.prog 77 #[.pointer h0, .int .i64 n] w (ChainPost w (placesTo n T T.length)) := by
  have HPG := Lib.hid hpg
  have HSL := Lib.hid hsl
  have HG0 := Lib.hid hg0
  have HG1 := Lib.hid hg1
  obtain ⟨m, hm⟩ : ∃ m, T.length = m := ⟨_, rfl⟩
  rw [hm] at hT HSL ⊢
  have HM := Lib.hid hm
  clear hpg hsl hg0 hg1 hm
  go_enter Tryz.func77, Tryz.ntmps77
  go_wp2_with fail
  refine (HPG.out _ (Only.refl _ _)).mono ?_
  rintro e w1 ⟨rfl, rfl⟩
  go_wp2_with fail
  refine (HSL.out _ (Only.refl _ _)).mono ?_
  rintro e w1 ⟨rfl, rfl⟩
  go_wp2_with fail
  go_loopw [15, 5, 7, 8, 9] (fun c cv _ _ _ wr => ∃ (k : Nat) (v' : Value), k ≤ m ∧ c = .int .i64 (k : Int) ∧ cv = v' ∧ TidsW w wr v' (placesTo n T k)) (fun c _ _ _ _ _ => m - (intOf c).toNat)
  case atStart => exact ⟨0, _, Nat.zero_le _, rfl, rfl, TidsW.start (Only.refl _ _)⟩
  case round =>
    obtain ⟨k, v', hk, rfl, rfl, hW⟩ := hrel
    have HW := Lib.hid hW
    clear hW
    by_cases hlt : k < m
    · have hle := placesTo_length n T k
      rcases hg : tupAt T (k : Int) with _ | t
      · have HGT := Lib.hid (HG0.out wr (k : Int) HW.out.quiet hg)
        have HP := Lib.hid (placesTo_none (pg := n) (by rw [← tupAt_nat]; exact hg))
        clear hg
        go_wp2_with fail
        refine HGT.out.mono ?_
        rintro e w2 ⟨rfl, hq2⟩
        have HW2 := Lib.hid ((HW.out.quietly hq2).quietly ((Only.refl (fun _ => False) w2).alloc (.cells #[.int .u64 0, .int .u64 0, .int .u64 0, .int .i64 0, .int .i64 0, .slice none 0 0] 106)))
        clear hq2 HGT HW
        go_wp2
        go_roundw
        case rel => exact ⟨k + 1, _, by omega, by go_num, rfl, by rw [HP.out]; exact HW2.out⟩
        case measure => simp [intOf]; omega
      · have HGT := Lib.hid (HG1.out wr (k : Int) t HW.out.quiet hg)
        have HP := Lib.hid (placesTo_some (pg := n) (by rw [← tupAt_nat]; exact hg))
        obtain ⟨l, hl⟩ : ∃ l, placesTo n T k = l := ⟨_, rfl⟩
        rw [hl] at HP HW hle
        clear hg hl
        go_wp2_with fail
        refine HGT.out.mono ?_
        rintro e w2 ⟨A2, c2, rfl, hf2⟩
        unfold tupV
        have HW2 := Lib.hid ((HW.out.quietly hf2.quiet).quietly ((Only.refl (fun _ => False) w2).alloc (.cells #[.int .u64 (t.row : Int), .int .u64 (t.xmin : Int), .int .u64 (t.xmax : Int), .int .i64 t.pg, .int .i64 t.sl, .slice A2 t.data.length c2] 106)))
        clear hf2 HGT HW
        go_upto_region 8 with fail
        generalize w2.alloc (.cells #[.int .u64 (t.row : Int), .int .u64 (t.xmin : Int), .int .u64 (t.xmax : Int), .int .i64 t.pg, .int .i64 t.sl, .slice A2 t.data.length c2] 106) = wa at HW2 ⊢
        have HROW := Lib.hid (owns_kept HW2.out.row ((Only.refl (fun _ => False) wa).alloc (.cells #[.int .i64 n, .int .i64 (k : Int)] 50)) (fun _ _ x => x))
        go_wp2_with (at_builtin; refine app elem_tid rfl (.tmp 25) (.tmp 29) rfl rfl HROW.out rfl (tids_new _ (n, (k : Int))) (one_tids [(n, (k : Int))]) (by unfold maxLen; omega) (by omega) ?_)
        intro v4 w4 hg4
        have HST := Lib.hid (HW2.out.step (p := (n, (k : Int))) hg4)
        clear hg4 HROW
        go_wp2
        go_roundw
        case rel => exact ⟨k + 1, _, by omega, by go_num, rfl, by rw [HP.out]; exact HST.out⟩
        case measure => simp [intOf]; omega
    · obtain rfl : k = m := by omega
      go_wp2
      go_ret
      exact HW.out.post

section
variable {w : World} {hb pb : Nat} {F : Nat → Prop} {H : List (List (Option Tup))}

theorem heap_plist (k : Nat) (T : List (Option Tup)) (h : HeapIs w hb pb F H) (hT : H[k]? = some T) : Calls Tryz.prog 77 #[.pointer (some ⟨hb, 0, none⟩), .int .i64 (k : Int)] w (ChainPost w (placesTo (k : Int) T T.length)) := by
  obtain ⟨v, ps, rb, h⟩ := h
  obtain ⟨p, hp, hpt⟩ := h.pg k T hT
  exact plist_walk _ (some ⟨p, 0, none⟩) k T w hpt.len (fun W hq => heap_page_some k p (h.kept hq (fun _ _ x => x)) hp) (fun W hq => pageT_slots p T W (hpt.kept hq (fun x => x))) (fun W i hq hi => pageT_get_none p T i W (hpt.kept hq (fun x => x)) hi) (fun W i t hq hi => pageT_get_some p t T i W (hpt.kept hq (fun x => x)) hi)
end
end Go.Proofs.YtaijnpgoiagboaaGreatDoor
namespace Go.Lap

end Go.Lap
namespace Go.Proofs.YtaijnpgoiagboaaGreatDoor
open Go.RowKit Go.Lap

end Go.Proofs.YtaijnpgoiagboaaGreatDoor

namespace Go.Proofs.YtaijnpgoiagboaaGreatDoor
open Go.RowKit Go.Lap

/-- A snapshot as a value; its row of numbers lies in S. -/
structure SnapV (w : World) (S : Nat → Prop) (A : Option Addr) (c : Nat) (s : Snap) : Prop where
  row : Rd w S 1 A s.run.length (u64sV s.run)
  cap : s.run.length ≤ c ∧ c ≤ maxLen
  num : U64 s.own ∧ U64 s.xmin ∧ U64 s.xmax ∧ ∀ x ∈ s.run, U64 x

def snapV (s : Snap) (A : Option Addr) (c : Nat) : Value := .agg #[.int .u64 (s.own : Int), .int .u64 (s.xmin : Int), .int .u64 (s.xmax : Int), .slice A s.run.length c]

theorem SnapV.kept {S T : Nat → Prop} {w w' : World} {A : Option Addr} {c : Nat} {s : Snap} (h : SnapV w S A c s) (ho : Only T w w') (hs : ∀ k, S k → ¬ T k) : SnapV w' S A c s := ⟨h.row.kept ho hs, h.cap, h.num⟩
theorem SnapV.mono {S T : Nat → Prop} {w : World} {A : Option Addr} {c : Nat} {s : Snap} (h : SnapV w S A c s) (hs : ∀ k, S k → T k) : SnapV w T A c s := ⟨h.row.mono hs, h.cap, h.num⟩

set_option maxHeartbeats 400000 in
set_option maxRecDepth 100000 in
theorem index_u64 {S : Nat → Prop} {A : Option Addr} {c x : Nat} {l : List Nat} {w : World} (h : Rd w S 1 A l.length (u64sV l)) (hc : l.length ≤ c) (hm : c ≤ maxLen) :
    Calls Tryz.prog 161 #[.slice A l.length c, .int .u64 (x : Int)] w fun e w' => (∃ z : Int, e = .returned (.int .i64 z) ∧ decide (0 ≤ z) = decide (x ∈ l)) ∧ w = w' := by
  unfold maxLen at hm
  obtain ⟨n, hn⟩ : ∃ n, l.length = n := ⟨_, rfl⟩
  have HR := Lib.hid h
  rw [hn] at HR hc ⊢
  have HN := Lib.hid hn
  clear h hn
  obtain ⟨POST, hP⟩ : ∃ P : Ending → Prop, (fun e => ∃ z : Int, e = .returned (.int .i64 z) ∧ decide (0 ≤ z) = decide (x ∈ l)) = P := ⟨_, rfl⟩
  have HP := Lib.hid hP
  show Calls _ _ _ _ fun e w' => (fun e => ∃ z : Int, e = .returned (.int .i64 z) ∧ decide (0 ≤ z) = decide (x ∈ l)) e ∧ w = w'
  rw [hP]
  clear hP
  go_enter Tryz.func161, Tryz.ntmps161
  go_wp2
  go_loop [8, 5] (fun c _ => ∃ k : Nat, k ≤ n ∧ c = .int .i64 (k : Int) ∧ ∀ j, j < k → l[j]? ≠ some x) (fun c _ => n - (intOf c).toNat)
  case atStart => exact ⟨0, Nat.zero_le _, rfl, fun j hj => absurd hj (by omega)⟩
  case round =>
    obtain ⟨k, hk, rfl, hno⟩ := hrel
    have HNO := Lib.hid hno
    clear hno
    by_cases hlt : k < n
    · obtain ⟨b, off, u, rfl, _, hu, hcell⟩ := HR.out.get hlt
      obtain ⟨y, hy, rfl⟩ : ∃ y, l[k]? = some y ∧ u = .int .u64 (y : Int) := by
        unfold u64sV at hu
        rw [List.getElem?_map] at hu
        rcases h : l[k]? with _ | y
        · rw [h] at hu; cases hu
        · rw [h] at hu; injection hu with hu; exact ⟨y, rfl, hu.symm⟩
      have HY := Lib.hid hy
      clear hu hy
      by_cases hxy : x = y
      · subst hxy
        have HE : Hid (POST (.returned (.int .i64 (k : Int)))) := by
          rw [← HP.out]
          exact ⟨k, rfl, by rw [decide_eq_decide]; exact ⟨fun _ => List.mem_of_getElem? HY.out, fun _ => by omega⟩⟩
        go_wp2
        go_ret
        exact ⟨HE.out, rfl⟩
      · have hne : ¬ (x : Int) = y := by omega
        have HK : Hid (∀ j, j < k + 1 → l[j]? ≠ some x) := fun j hj e => by
          rcases Nat.lt_or_ge j k with a | a
          · exact HNO.out j a e
          · obtain rfl : j = k := by omega
            rw [HY.out] at e
            injection e with e
            exact hxy e.symm
        clear hxy
        go_wp2
        go_round
        case rel => exact ⟨k + 1, by omega, by go_num, HK.out⟩
        case measure => simp [intOf]; omega
    · have HE : Hid (POST (.returned (.int .i64 (-1)))) := by
        rw [← HP.out]
        refine ⟨-1, rfl, ?_⟩
        rw [decide_eq_decide]
        refine ⟨fun h => by omega, fun h => ?_⟩
        obtain ⟨j, hj⟩ := List.mem_iff_getElem?.1 h
        have := (List.getElem?_eq_some_iff.1 hj).1
        have hn := HN.out
        exact absurd hj (HNO.out j (by omega))
      obtain rfl : k = n := by omega
      go_wp2
      go_ret
      exact ⟨HE.out, rfl⟩

set_option maxHeartbeats 400000 in
set_option maxRecDepth 100000 in
theorem contains_u64 {S : Nat → Prop} {A : Option Addr} {c x : Nat} {l : List Nat} {w : World} (h : Rd w S 1 A l.length (u64sV l)) (hc : l.length ≤ c) (hm : c ≤ maxLen) :
    Calls Tryz.prog 125 #[.slice A l.length c, .int .u64 (x : Int)] w fun e w' => e = .returned (.bool (decide (x ∈ l))) ∧ w = w' := by
  have HX := Lib.hid (index_u64 (x := x) h hc hm)
  obtain ⟨r, hr⟩ : ∃ r, decide (x ∈ l) = r := ⟨_, rfl⟩
  rw [hr] at HX ⊢
  clear h hc hm hr
  go_enter Tryz.func125, Tryz.ntmps125
  go_wp2_with fail
  refine HX.out.mono ?_
  rintro e w1 ⟨⟨z, rfl, hz⟩, rfl⟩
  go_wp2
  go_ret
  exact ⟨rfl, rfl⟩

def BoolQ (w : World) (b : Bool) (e : Ending) (w' : World) : Prop := e = .returned (.bool b) ∧ Quiet w w'

section
variable {w : World} {F S : Nat → Prop} {lb c : Nat} {L : List Nat} {A : Option Addr} {s : Snap}

set_option maxHeartbeats 1000000 in
set_option maxRecDepth 100000 in
theorem snap_sees (x : Nat) (h : LogAt w F lb L) (hs : SnapV w S A c s) (hx : U64 x) :
    Calls Tryz.prog 131 #[.pointer (some ⟨lb, 0, none⟩), snapV s A c, .int .u64 (x : Int)] w (BoolQ w (seesS L s x)) := by
  have HQ : Hid (Quiet w (w.alloc (.cells #[.int .u64 (s.own : Int), .int .u64 (s.xmin : Int), .int .u64 (s.xmax : Int), .slice A s.run.length c] 88))) := (Only.refl _ _).alloc _
  have HC := Lib.hid (contains_u64 (x := x) (hs.kept HQ.out (fun _ _ x => x)).row hs.cap.1 hs.cap.2)
  have HST := Lib.hid (log_state (h.kept HQ.out (fun _ _ x => x)) hx)
  have HS := Lib.hid (rfl : seesS L s x = seesS L s x)
  unfold snapV
  obtain ⟨n, hn⟩ : ∃ n, s.run.length = n := ⟨_, rfl⟩
  rw [hn] at HC HQ HST ⊢
  obtain ⟨r, hr⟩ : ∃ r, seesS L s x = r := ⟨_, rfl⟩
  have HR := Lib.hid hr
  rw [hr]
  clear h hs hx hn HS hr
  by_cases h1 : x = s.own
  · have e1 : (x : Int) = s.own := by omega
    have HB := Lib.hid (show r = true by
      rw [← HR.out]
      unfold seesS
      rw [decide_eq_true h1]; rfl)
    rw [HB.out]
    clear h1 HB HR
    go_enter Tryz.func131, Tryz.ntmps131
    go_wp2
    go_ret
    exact ⟨rfl, HQ.out⟩
  · have e1 : ¬ (x : Int) = s.own := by omega
    by_cases h2 : x < s.xmax
    · have d2 : decide (x < s.xmax) = true := decide_eq_true h2
      by_cases h3 : x ∈ s.run
      · have HB := Lib.hid (show r = false by
          rw [← HR.out]
          unfold seesS
          rw [decide_eq_false h1, decide_eq_true h3]; simp)
        rw [decide_eq_true h3] at HC
        rw [HB.out]
        clear h1 h3 HB HR
        go_enter Tryz.func131, Tryz.ntmps131
        go_wp2_with fail
        refine HC.out.mono ?_
        rintro e w1 ⟨rfl, rfl⟩
        go_wp2
        go_ret
        exact ⟨rfl, HQ.out⟩
      · have HB := Lib.hid (show r = decide (stateL L x = 2) by
          rw [← HR.out]
          unfold seesS
          rw [decide_eq_false h1, decide_eq_true h2, decide_eq_false h3]; simp)
        rw [decide_eq_false h3] at HC
        obtain ⟨st, hst⟩ : ∃ st, stateL L x = st := ⟨_, rfl⟩
        rw [hst] at HB HST
        rw [HB.out, show decide (st = 2) = decide ((st : Int) = 2) by rw [decide_eq_decide]; omega]
        clear h1 h3 hst HB HR
        go_enter Tryz.func131, Tryz.ntmps131
        go_wp2_with fail
        refine HC.out.mono ?_
        rintro e w1 ⟨rfl, rfl⟩
        go_wp2_with fail
        refine HST.out.mono ?_
        rintro e w1 ⟨rfl, m, rfl⟩
        go_wp2
        go_ret
        exact ⟨rfl, HQ.out.drewN m⟩
    · have d2 : decide (x < s.xmax) = false := decide_eq_false h2
      have HB := Lib.hid (show r = false by
        rw [← HR.out]
        unfold seesS
        rw [decide_eq_false h1, decide_eq_false h2]; simp)
      rw [HB.out]
      clear h1 HB HR
      go_enter Tryz.func131, Tryz.ntmps131
      go_wp2
      go_ret
      exact ⟨rfl, HQ.out⟩

/-- What a version's box holds. -/
abbrev tupCells (t : Tup) (At : Option Addr) (ct : Nat) : Array Value := #[.int .u64 t.row, .int .u64 t.xmin, .int .u64 t.xmax, .int .i64 t.pg, .int .i64 t.sl, .slice At t.data.length ct]
abbrev snapCells (s : Snap) (A : Option Addr) (c : Nat) : Array Value := #[.int .u64 (s.own : Int), .int .u64 (s.xmin : Int), .int .u64 (s.xmax : Int), .slice A s.run.length c]

set_option maxHeartbeats 1000000 in
set_option maxRecDepth 100000 in
theorem snap_visible (t : Tup) (At : Option Addr) (ct : Nat) (h : LogAt w F lb L) (hs : SnapV w S A c s) (h1 : U64 t.xmin) (h2 : U64 t.xmax) :
    Calls Tryz.prog 82 #[.pointer (some ⟨lb, 0, none⟩), snapV s A c, tupV t At ct] w (BoolQ w (visS L s t.xmin t.xmax)) := by
  have HQ : Hid (Quiet w ((w.alloc (.cells (snapCells s A c) 88)).alloc (.cells (tupCells t At ct) 106))) := ((Only.refl _ _).alloc _).alloc _
  have HS1 : Hid (∀ W, Quiet w W → Calls Tryz.prog 131 #[.pointer (some ⟨lb, 0, none⟩), snapV s A c, .int .u64 (t.xmin : Int)] W (BoolQ W (seesS L s t.xmin))) := fun W hq => snap_sees _ (h.kept hq (fun _ _ x => x)) (hs.kept hq (fun _ _ x => x)) h1
  have HS2 : Hid (∀ W, Quiet w W → Calls Tryz.prog 131 #[.pointer (some ⟨lb, 0, none⟩), snapV s A c, .int .u64 (t.xmax : Int)] W (BoolQ W (seesS L s t.xmax))) := fun W hq => snap_sees _ (h.kept hq (fun _ _ x => x)) (hs.kept hq (fun _ _ x => x)) h2
  have HT := Lib.hid (two_new w (.cells (snapCells s A c) 88) (.cells (tupCells t At ct) 106))
  have HN := Lib.hid (alloc_old (alloc_new w (.cells (snapCells s A c) 88)) (.cells (tupCells t At ct) 106))
  unfold visS
  unfold snapV tupV at *
  generalize seesS L s t.xmin = r1 at HS1 ⊢
  generalize seesS L s t.xmax = r2 at HS2 ⊢
  clear h hs h1 h2
  rcases r1 with _ | _
  · go_enter Tryz.func82, Tryz.ntmps82
    go_wp2_with fail
    refine (HS1.out _ HQ.out).mono ?_
    rintro e w1 ⟨rfl, hq1⟩
    have HQ1 := Lib.hid (HQ.out.trans hq1)
    clear hq1
    go_wp2
    go_ret
    exact ⟨rfl, HQ1.out⟩
  · by_cases h0 : t.xmax = 0
    · have D0 := Lib.hid (show (t.xmax : Int) = 0 by omega)
      rw [decide_eq_true h0]
      clear h0
      go_enter Tryz.func82, Tryz.ntmps82
      go_wp2_with fail
      refine (HS1.out _ HQ.out).mono ?_
      rintro e w1 ⟨rfl, hq1⟩
      have HQ1 := Lib.hid (HQ.out.trans hq1)
      have b1 := hq1.get (by exact HT.out) (fun x => x)
      have c1 := cell_of b1 2
      simp only [zGA, zGS, zGZ, D0.out] at c1
      clear hq1 b1
      go_wp2
      go_ret
      exact ⟨rfl, HQ1.out⟩
    · have d0 : ((t.xmax : Int) == 0) = false := beq_false_of_ne (by omega)
      rw [decide_eq_false h0, Bool.true_and, Bool.false_or]
      clear h0
      go_enter Tryz.func82, Tryz.ntmps82
      go_wp2_with fail
      refine (HS1.out _ HQ.out).mono ?_
      rintro e w1 ⟨rfl, hq1⟩
      have HQ1 := Lib.hid (HQ.out.trans hq1)
      have b1 := hq1.get (by exact HT.out) (fun x => x)
      have b0 := hq1.get (by exact HN.out) (fun x => x)
      have c1 := cell_of b1 2
      have a0 := cell_of b0 0
      have a1 := cell_of b0 1
      have a2 := cell_of b0 2
      have a3 := cell_of b0 3
      simp only [zGA, zGS, zGZ] at c1 a0 a1 a2 a3
      clear hq1 b1 b0
      go_wp2_with fail
      refine (HS2.out _ HQ1.out).mono ?_
      rintro e w2 ⟨rfl, hq2⟩
      have HQ2 := Lib.hid (HQ1.out.trans hq2)
      clear hq2
      go_wp2
      go_ret
      exact ⟨rfl, HQ2.out⟩

set_option maxHeartbeats 1000000 in
set_option maxRecDepth 100000 in
theorem snap_free (t : Tup) (At : Option Addr) (ct : Nat) (h : LogAt w F lb L) (hs : SnapV w S A c s) (h1 : U64 t.xmin) (h2 : U64 t.xmax) :
    Calls Tryz.prog 112 #[.pointer (some ⟨lb, 0, none⟩), snapV s A c, tupV t At ct] w fun e w' => e = .returned (.int .i64 (freeS L s t.xmin t.xmax : Int)) ∧ Quiet w w' := by
  have HQ : Hid (Quiet w ((w.alloc (.cells (snapCells s A c) 88)).alloc (.cells (tupCells t At ct) 106))) := ((Only.refl _ _).alloc _).alloc _
  have HV : Hid (∀ W, Quiet w W → Calls Tryz.prog 82 #[.pointer (some ⟨lb, 0, none⟩), snapV s A c, tupV t At ct] W (BoolQ W (visS L s t.xmin t.xmax))) := fun W hq => snap_visible t At ct (h.kept hq (fun _ _ x => x)) (hs.kept hq (fun _ _ x => x)) h1 h2
  have HST : Hid (∀ W, Quiet w W → Calls Tryz.prog 105 #[.pointer (some ⟨lb, 0, none⟩), .int .u64 (t.xmax : Int)] W fun e w' => e = .returned (.int .i64 (stateL L t.xmax : Int)) ∧ ∃ n, w' = W.drewN n) := fun W hq => log_state (h.kept hq (fun _ _ x => x)) h2
  have HT := Lib.hid (two_new w (.cells (snapCells s A c) 88) (.cells (tupCells t At ct) 106))
  have HN := Lib.hid (alloc_old (alloc_new w (.cells (snapCells s A c) 88)) (.cells (tupCells t At ct) 106))
  unfold freeS
  unfold snapV tupV at *
  generalize visS L s t.xmin t.xmax = r at HV ⊢
  generalize stateL L t.xmax = st at HST ⊢
  clear h hs h1 h2
  by_cases h0 : t.xmax = 0
  · have d0 : ((t.xmax : Int) != 0) = false := by simp; omega
    rw [if_neg (fun x => x.1 h0)]
    clear h0 HST
    rcases r with _ | _
    all_goals
      go_enter Tryz.func112, Tryz.ntmps112
      go_wp2_with fail
      refine (HV.out _ HQ.out).mono ?_
      rintro e w1 ⟨rfl, hq1⟩
      have HQ1 := Lib.hid (HQ.out.trans hq1)
      clear hq1
      go_wp2
      go_ret
      exact ⟨rfl, HQ1.out⟩
  · have d0 : ((t.xmax : Int) != 0) = true := by simp; omega
    by_cases ho : t.xmax = s.own
    · have d1 : ((t.xmax : Int) != s.own) = false := by simp; omega
      rw [if_neg (fun x => x.2.1 ho)]
      clear ho h0 HST
      rcases r with _ | _
      all_goals
        go_enter Tryz.func112, Tryz.ntmps112
        go_wp2_with fail
        refine (HV.out _ HQ.out).mono ?_
        rintro e w1 ⟨rfl, hq1⟩
        have HQ1 := Lib.hid (HQ.out.trans hq1)
        clear hq1
        go_wp2
        go_ret
        exact ⟨rfl, HQ1.out⟩
    · have d1 : ((t.xmax : Int) != s.own) = true := by simp; omega
      by_cases h3 : st = 3
      · have d2 : ((st : Int) != 3) = false := by simp; omega
        rw [if_neg (fun x => x.2.2 h3)]
        clear ho h0 h3
        rcases r with _ | _
        all_goals
          go_enter Tryz.func112, Tryz.ntmps112
          go_wp2_with fail
          refine (HST.out _ HQ.out).mono ?_
          rintro e w1 ⟨rfl, n, rfl⟩
          go_wp2_with fail
          refine (HV.out _ (HQ.out.drewN n)).mono ?_
          rintro e w1 ⟨rfl, hq1⟩
          have HQ1 := Lib.hid ((HQ.out.drewN n).trans hq1)
          clear hq1
          go_wp2
          go_ret
          exact ⟨rfl, HQ1.out⟩
      · have d2 : ((st : Int) != 3) = true := by simp; omega
        rw [if_pos ⟨h0, ho, h3⟩]
        clear ho h0 h3 HV
        go_enter Tryz.func112, Tryz.ntmps112
        go_wp2_with fail
        refine (HST.out _ HQ.out).mono ?_
        rintro e w1 ⟨rfl, n, rfl⟩
        go_wp2
        go_ret
        exact ⟨rfl, HQ.out.drewN n⟩

end

end Go.Proofs.YtaijnpgoiagboaaGreatDoor

namespace Go.Lap
/-- Of the first k of those that run. -/
def takeK (own n : Nat) (R : List Nat) (k : Nat) : Nat × List Nat := (leastR own n (R.take k), others own (R.take k))

theorem takeK_succ {own n k x : Nat} {R : List Nat} (h : R[k]? = some x) : takeK own n R (k + 1) = if x = own then takeK own n R k else (min (takeK own n R k).1 x, (takeK own n R k).2 ++ [x]) := by
  unfold takeK leastR others
  rw [List.take_add_one, h]
  by_cases e : x = own
  · rw [if_pos e]; simp [e]
  · rw [if_neg e]; simp [e]

theorem takeK_len (own n : Nat) (R : List Nat) (k : Nat) : (takeK own n R k).2.length ≤ k := by
  unfold takeK others
  exact Nat.le_trans (List.length_filter_le _ _) (List.length_take_le _ _)

theorem takeK_least (own n : Nat) (R : List Nat) (k : Nat) : (takeK own n R k).1 ≤ n := by
  unfold takeK leastR
  generalize R.take k = M
  show List.foldl _ n M ≤ n
  have key : ∀ (M : List Nat) (a : Nat), List.foldl (fun m x => if x = own then m else min m x) a M ≤ a := by
    intro M
    induction M with
    | nil => intro a; exact Nat.le_refl _
    | cons y M ih =>
      intro a
      rw [List.foldl_cons]
      refine Nat.le_trans (ih _) ?_
      split <;> omega
  exact key M n

theorem takeK_all (own n : Nat) (R : List Nat) : takeK own n R R.length = (leastR own n R, others own R) := by
  unfold takeK
  rw [List.take_length]
end Go.Lap
namespace Go.Proofs.YtaijnpgoiagboaaGreatDoor
open Go.RowKit Go.Lap

/-- In the midst of Take: the result's box, the snapshot's, its row; the row of those that run lies below B. -/
structure TakeW (w wr : World) (B : Nat) (A : Option Addr) (R : List Nat) (v : Value) (own n : Nat) (r : Nat × List Nat) : Prop where
  quiet : Quiet w wr
  res : wr.heap[w.heap.size]? = some (.cells #[.int .u64 0, .int .u64 0, .int .u64 0, .slice none 0 0] 88 (0, 0))
  box : wr.heap[w.heap.size + 1]? = some (.cells #[.int .u64 (own : Int), .int .u64 (r.1 : Int), .int .u64 (n : Int), v] 88 (0, 0))
  row : wr.ownsRow 0 22 1 v r.2.length (u64sV r.2)
  new : ∀ k, v.ownBlock = some k → B ≤ k
  src : Rd wr (fun k => w.heap.size + 1 < k ∧ k < B) 1 A R.length (u64sV R)
  big : w.heap.size + 1 < B ∧ B ≤ wr.heap.size

section
variable {w wr : World} {B own n : Nat} {A : Option Addr} {R : List Nat} {v : Value} {r : Nat × List Nat}
theorem TakeW.step {w4 : World} {v4 : Value} {x : Nat} (h : TakeW w wr B A R v own n r) (hg : Grew (wr.alloc (.cells #[.int .u64 (x : Int)] 22)) w4 22 1 v v4 (r.2.length + 1) (u64sV r.2 ++ u64sV [x])) (z : Int) (hz : z = ((min r.1 x : Nat) : Int)) :
    TakeW w ((w4.setCell ⟨w.heap.size + 1, 3, none⟩ v4).setCell ⟨w.heap.size + 1, 1, none⟩ (.int .u64 z)) B A R v4 own n (min r.1 x, r.2 ++ [x]) := by
  subst hz
  have hb := h.big
  have hnew : ∀ k, v4.ownBlock = some k → B ≤ k := fun k e => by
    rcases hg.loc with y | y
    · rw [y] at e; exact h.new k e
    · rw [y] at e; injection e with e; simp only [World.size_alloc] at e; omega
  have hqa : Quiet wr (wr.alloc (.cells #[.int .u64 (x : Int)] 22)) := (Only.refl _ _).alloc _
  have ho : Only (· = w.heap.size + 1) w4 ((w4.setCell ⟨w.heap.size + 1, 3, none⟩ v4).setCell ⟨w.heap.size + 1, 1, none⟩ (.int .u64 ((min r.1 x : Nat) : Int))) := ((Only.refl (· = w.heap.size + 1) w4).setCell (p := ⟨w.heap.size + 1, 3, none⟩) (fun _ => rfl) _).setCell (p := ⟨w.heap.size + 1, 1, none⟩) (fun _ => rfl) _
  have hv : ∀ k, v.ownBlock = some k → B ≤ k := h.new
  have b4 := hg.only.get (hqa.get h.box (fun x => x)) (fun e => by have := hv _ e; omega)
  have hs4 : w.heap.size + 1 < w4.heap.size := lt_of_get b4
  have hz4 := hg.only.size
  simp only [World.size_alloc] at hz4
  refine ⟨((h.quiet.trans hqa).trans' hg.only (fun k hk e => by have := hv k e; omega)).trans' ho (fun k hk e => by omega), ?_, ?_, ?_, hnew, ?_, ⟨hb.1, by have := ho.size; omega⟩⟩
  · exact ho.get (hg.only.get (hqa.get h.res (fun x => x)) (fun e => by have := hv _ e; omega)) (by omega)
  · rw [set_same (set_same b4 3 _) 1 _]
    rfl
  · rw [List.length_append, show u64sV (r.2 ++ [x]) = u64sV r.2 ++ u64sV [x] by simp [u64sV]]
    exact owns_kept hg.own ho (fun k e y => by have := hnew k e; omega)
  · exact (Rd.kept (T := fun k => v.ownBlock = some k) (h.src.kept hqa (fun _ _ x => x)) hg.only (fun k y e => by have := hv k e; omega)).kept ho (fun k y e => by omega)

theorem TakeW.cells (h : TakeW w wr B A R v own n r) : wr.cell? ⟨w.heap.size + 1, 0, none⟩ = some (.int .u64 (own : Int)) ∧ wr.cell? ⟨w.heap.size + 1, 1, none⟩ = some (.int .u64 (r.1 : Int)) ∧ wr.cell? ⟨w.heap.size + 1, 2, none⟩ = some (.int .u64 (n : Int)) ∧ wr.cell? ⟨w.heap.size + 1, 3, none⟩ = some v ∧ ∀ o, wr.frozen? ⟨w.heap.size + 1, o, none⟩ = false :=
  ⟨by rw [cell_of h.box]; rfl, by rw [cell_of h.box]; rfl, by rw [cell_of h.box]; rfl, by rw [cell_of h.box]; rfl, fun o => frozen_of h.box o⟩
theorem TakeW.zeros (h : TakeW w wr B A R v own n r) : wr.cell? ⟨w.heap.size, 0, none⟩ = some (.int .u64 0) ∧ wr.cell? ⟨w.heap.size, 1, none⟩ = some (.int .u64 0) ∧ wr.cell? ⟨w.heap.size, 2, none⟩ = some (.int .u64 0) ∧ wr.cell? ⟨w.heap.size, 3, none⟩ = some (.slice none 0 0) ∧ ∀ o, wr.frozen? ⟨w.heap.size, o, none⟩ = false :=
  ⟨by rw [cell_of h.res]; rfl, by rw [cell_of h.res]; rfl, by rw [cell_of h.res]; rfl, by rw [cell_of h.res]; rfl, fun o => frozen_of h.res o⟩
end

abbrev fourSet (w : World) (b : Nat) (v0 v1 v2 v3 : Value) : World := (((w.setCell ⟨b, 0, none⟩ v0).setCell ⟨b, 1, none⟩ v1).setCell ⟨b, 2, none⟩ v2).setCell ⟨b, 3, none⟩ v3
theorem fourSet_same {w : World} {b : Nat} {c0 c1 c2 c3 : Value} {t : TypeId} (h : w.heap[b]? = some (.cells #[c0, c1, c2, c3] t (0, 0))) (v0 v1 v2 v3 : Value) : (fourSet w b v0 v1 v2 v3).heap[b]? = some (.cells #[v0, v1, v2, v3] t (0, 0)) := by
  rw [set_same (set_same (set_same (set_same h _ _) _ _) _ _) _ _]
  rfl
theorem fourSet_only (w : World) (b : Nat) (v0 v1 v2 v3 : Value) : Only (· = b) w (fourSet w b v0 v1 v2 v3) :=
  ((((Only.refl (· = b) w).setCell (p := ⟨b, 0, none⟩) (fun _ => rfl) v0).setCell (p := ⟨b, 1, none⟩) (fun _ => rfl) v1).setCell (p := ⟨b, 2, none⟩) (fun _ => rfl) v2).setCell (p := ⟨b, 3, none⟩) (fun _ => rfl) v3

theorem info_snap : (Tryz.prog.info? 88).map (·.size) = some 4 := by kernel_rfl

theorem results_cellS {P : Program} {fn : Func} {p : Tmp} {ty : TypeId} (h : fn.results = #[.cell p ty]) (tmps : Array Value) (w : World) (g : Nat) (t : TypeId) (cs : Array Value) (fr : Nat × Nat) (d : TypeDesc)
    (hp : tmps.getD p undef = .pointer (some ⟨g, 0, none⟩)) (hg : w.heap[g]? = some (.cells cs t fr))
    (hu : P.underlying ty = some d) (hd : (match d with | .struct _ | .array _ _ => true | _ => false) = true) (hi : (P.info? ty).map (·.size) = some cs.size) :
    (results fn tmps).run P w = .ok (.agg cs) w := by
  have hp' : tmps[p]?.getD undef = .pointer (some ⟨g, 0, none⟩) := by simpa using hp
  simp [results, h, hp', asAddr, run_loadVar_row w g t ty cs fr d hg hu hd hi]

/-- A new snapshot. -/
def SnapPost (w : World) (s : Snap) (e : Ending) (w' : World) : Prop := ∃ A c, e = .returned (snapV s A c) ∧ Quiet w w' ∧ SnapV w' (fun k => w.heap.size ≤ k ∧ k < w'.heap.size) A c s

theorem TakeW.done {w wr : World} {B own n : Nat} {A A' : Option Addr} {c : Nat} {R : List Nat} {r : Nat × List Nat} (h : TakeW w wr B A R (.slice A' r.2.length c) own n r) (ho : U64 own) (hn : n ≤ 2000000) (hr : ∀ x ∈ r.2, U64 x) (h1 : r.1 ≤ n) (v0 v1 v2 v3 : Value) :
    Quiet w (fourSet wr w.heap.size v0 v1 v2 v3) ∧ SnapV (fourSet wr w.heap.size v0 v1 v2 v3) (fun k => w.heap.size ≤ k ∧ k < (fourSet wr w.heap.size v0 v1 v2 v3).heap.size) A' c ⟨own, r.1, n, r.2⟩ := by
  have hb := h.big
  obtain ⟨A5, c5, e5, hc, hcm, hrd⟩ := own_form h.row
  injection e5 with e5 _ e6
  subst e5 e6
  have hq := (fourSet_only wr w.heap.size v0 v1 v2 v3)
  refine ⟨h.quiet.trans' hq (fun k hk e => by omega), ⟨(hrd.kept hq (fun k e x => by have := h.new k e; omega)).mono (fun k e => ?_), ⟨hc, hcm⟩, ho, (show r.1 < 18446744073709551616 by omega), (show n < 18446744073709551616 by omega), hr⟩⟩
  have h2 := h.new k e
  have h3 := (h.row.lt k e).2
  have h4 := hq.size
  exact ⟨by omega, by omega⟩

set_option maxHeartbeats 1000000 in
set_option maxRecDepth 100000 in
theorem snap_take {w : World} {F : Nat → Prop} {lb own : Nat} {L : List Nat} (h : LogAt w F lb L) (hl : L.length ≤ 1000000) (ho : U64 own) :
    Calls Tryz.prog 70 #[.pointer (some ⟨lb, 0, none⟩), .int .u64 (own : Int)] w (SnapPost w (takeS L own)) := by
  have HN : Hid (∀ W, Quiet w W → Calls Tryz.prog 116 #[.pointer (some ⟨lb, 0, none⟩)] W fun e w' => e = .returned (.int .u64 ((L.length : Int) + 1)) ∧ ∃ n, w' = W.drewN n) := fun W hq => log_next (h.kept hq (fun _ _ x => x))
  have HALL : Hid (∀ W, Quiet w W → Calls Tryz.prog 65 #[.pointer (some ⟨lb, 0, none⟩)] W (NumsPost W (runsL L))) := fun W hq => log_all (h.kept hq (fun _ _ x => x)) hl
  unfold takeS
  have HRL : Hid (∀ x ∈ runsL L, U64 x) := fun x hx => by have := (runsL_le hx).2; unfold U64; omega
  have hr := runsK_length L L.length
  rw [runsK_all] at hr
  obtain ⟨n, hn⟩ : ∃ n, L.length + 1 = n := ⟨_, rfl⟩
  rw [show (L.length : Int) + 1 = (n : Int) by omega] at HN
  have hn2 : n ≤ 2000000 := by omega
  rw [hn]
  generalize runsL L = R at HALL hr HRL ⊢
  have hR : R.length ≤ 1000000 := by omega
  obtain ⟨sn, hsn⟩ : ∃ s : Snap, (⟨own, leastR own n R, n, others own R⟩ : Snap) = s := ⟨_, rfl⟩
  rw [hsn]
  have HSN := Lib.hid hsn
  clear h hn hl hr hsn
  go_enter Tryz.func70, Tryz.ntmps70
  go_wp2_with fail
  refine (HN.out _ ((Only.refl _ _).alloc _)).mono ?_
  rintro e w1 ⟨rfl, a, rfl⟩
  go_wp2_with fail
  refine (HN.out _ (((Only.refl _ _).alloc _).drewN _)).mono ?_
  rintro e w1 ⟨rfl, b, rfl⟩
  go_wp2_with fail
  have HQ0 : Hid (Quiet w (((w.alloc (.cells #[.int .u64 0, .int .u64 0, .int .u64 0, .slice none 0 0] 88)).drewN (a + b)).alloc (.cells #[.int .u64 (own : Int), .int .u64 (n : Int), .int .u64 (n : Int), .slice none 0 0] 88))) := (((Only.refl _ _).alloc _).drewN _).alloc _
  have HB1 := Lib.hid (two_new w (.cells #[.int .u64 0, .int .u64 0, .int .u64 0, .slice none 0 0] 88) (.cells #[.int .u64 (own : Int), .int .u64 (n : Int), .int .u64 (n : Int), .slice none 0 0] 88))
  have HB0 := Lib.hid (alloc_old (alloc_new w (.cells #[.int .u64 0, .int .u64 0, .int .u64 0, .slice none 0 0] 88)) (.cells #[.int .u64 (own : Int), .int .u64 (n : Int), .int .u64 (n : Int), .slice none 0 0] 88))
  refine (HALL.out _ HQ0.out).mono ?_
  rintro e w2 ⟨rv, rfl, hW⟩
  obtain ⟨A, c, rfl, hc, hcm, hrd⟩ := own_form hW.row
  have HT : Hid (TakeW w w2 w2.heap.size A R (.slice none 0 0) own n (takeK own n R 0)) := by
    have hz : w.heap.size + 1 < w2.heap.size := lt_of_get (hW.quiet.get (by exact HB1.out) (fun x => x))
    refine ⟨HQ0.out.trans hW.quiet, hW.quiet.get (by exact HB0.out) (fun x => x), hW.quiet.get (by exact HB1.out) (fun x => x), World.ownsRow_nil _ _ _ _, (fun k e => by cases e), hrd.mono (fun k e => ⟨?_, (hW.row.lt k e).2⟩), ⟨hz, Nat.le_refl _⟩⟩
    have := hW.own k e
    have hsd : ∀ (W : World) (n : Nat), (W.drewN n).heap.size = W.heap.size := fun _ _ => rfl
    simp only [World.size_alloc, hsd] at this
    omega
  unfold maxLen at hcm
  clear hW hrd HQ0 HB1 HB0 HN HALL
  generalize w2.heap.size = B at HT
  go_wp2
  go_loopw [17, 7] (fun i _ wr => ∃ (k : Nat) (v' : Value), k ≤ R.length ∧ i = .int .i64 (k : Int) ∧ TakeW w wr B A R v' own n (takeK own n R k)) (fun i _ _ => R.length - (intOf i).toNat)
  case atStart => exact ⟨0, _, Nat.zero_le _, rfl, HT.out⟩
  case round =>
    obtain ⟨k, v', hk, rfl, hW⟩ := hrel
    clear HT
    have hlen := takeK_len own n R k
    obtain ⟨q0, q1, q2, q3, qf⟩ := hW.cells
    obtain ⟨A', c', hv', hc', hcm', _⟩ := own_form hW.row
    subst hv'
    unfold maxLen at hcm'
    have HW := Lib.hid hW
    by_cases hlt : k < R.length
    · obtain ⟨b, off, u, rfl, _, hu, hcell⟩ := hW.src.get hlt
      obtain ⟨x, hx, rfl⟩ : ∃ y, R[k]? = some y ∧ u = .int .u64 (y : Int) := by
        unfold u64sV at hu
        rw [List.getElem?_map] at hu
        rcases h : R[k]? with _ | y
        · rw [h] at hu; cases hu
        · rw [h] at hu; injection hu with hu; exact ⟨y, rfl, hu.symm⟩
      have HS := Lib.hid (takeK_succ (own := own) (n := n) hx)
      clear hu hx hW
      by_cases hxo : x = own
      · have d0 : ((x : Int) != own) = false := by simp; omega
        rw [if_pos hxo] at HS
        clear hxo
        go_wp2
        go_roundw
        case rel => exact ⟨k + 1, _, by omega, by go_num, by rw [HS.out]; exact HW.out⟩
        case measure => simp [intOf]; omega
      · have d0 : ((x : Int) != own) = true := by simp; omega
        rw [if_neg hxo] at HS
        generalize takeK own n R k = r at HW HS hlen q1 hc' q3
        have hl2 : r.2.length ≤ 1000000 := by omega
        clear hxo
        have HROW := Lib.hid (owns_kept HW.out.row ((Only.refl (fun _ => False) wr).alloc (.cells #[.int .u64 (x : Int)] 22)) (fun _ _ x => x))
        go_wp2_with (at_builtin; refine app elem_u64 rfl (.tmp 25) (.tmp 27) rfl rfl HROW.out rfl (nums_rd _ x 22) (one_u64 [x]) (by unfold maxLen; omega) (by omega) ?_)
        intro v4 w4 hg4
        have HST := Lib.hid (HW.out.step hg4 _ rfl)
        have b4 := hg4.only.get (alloc_old HW.out.box _) (fun e => by have := HW.out.new _ e; have := HW.out.big; omega)
        obtain ⟨A4, c4, hv4, _, _, _⟩ := own_form hg4.own
        subst hv4
        have s1 := cell_of b4 1
        have s3 := cell_of b4 3
        have sf := fun o => frozen_of b4 o
        simp only [zGA, zGS, zGZ] at s1 s3
        have e1 : ((min r.1 x : Nat) : Int) = min (r.1 : Int) x := by omega
        rw [e1] at HST
        clear hg4 b4 q0 q1 q2 q3 qf HROW e1 hcell
        go_wp2
        go_roundw
        case rel => exact ⟨k + 1, _, by omega, by go_num, by rw [HS.out]; exact HST.out⟩
        case measure => simp [intOf]; omega
    · obtain rfl : k = R.length := by omega
      have HK := Lib.hid (takeK_all own n R)
      have HL := Lib.hid (takeK_least own n R R.length)
      obtain ⟨z0, z1, z2, z3, zf⟩ := hW.zeros
      rw [HK.out] at HW HL q1 q3 hc'
      have hf : (others own R).length ≤ 1000000 := by unfold others; exact Nat.le_trans (List.length_filter_le _ _) hR
      clear hW hlen HK
      go_wp2_with fail
      have HD := Lib.hid (HW.out.done (r := (leastR own n R, others own R)) ho hn2 (fun x hx => HRL.out x (mem_others.1 hx).1) HL.out (.int .u64 (own : Int)) (.int .u64 (leastR own n R : Int)) (.int .u64 (n : Int)) (.slice A' (others own R).length c'))
      have HX := Lib.hid (fourSet_same HW.out.res (.int .u64 (own : Int)) (.int .u64 (leastR own n R : Int)) (.int .u64 (n : Int)) (.slice A' (others own R).length c'))
      unfold fourSet at HD HX
      generalize (((wr.setCell ⟨w.heap.size, 0, none⟩ (.int .u64 (own : Int))).setCell ⟨w.heap.size, 1, none⟩ (.int .u64 (leastR own n R : Int))).setCell ⟨w.heap.size, 2, none⟩ (.int .u64 (n : Int))).setCell ⟨w.heap.size, 3, none⟩ (.slice A' (others own R).length c') = W6 at HD HX ⊢
      refine bodyPost_ret (results_cellS Tryz.results70 _ _ w.heap.size _ _ (0, 0) _ (by rfl) HX.out Tryz.underlying88 rfl info_snap) (by rfl) ?_
      rw [← HSN.out]
      exact ⟨A', c', rfl, HD.out⟩

end Go.Proofs.YtaijnpgoiagboaaGreatDoor

namespace Go.Lap
open Go.RowKit Go.Maps

/-- A map's values, in some order. -/
structure ValsOf (f : Nat → Option Value) (vs : List Value) : Prop where
  each : ∀ v ∈ vs, ∃ x, f x = some v
  all : ∀ x v, f x = some v → v ∈ vs

/-- Some of them have come. -/
structure ValsMid (f : Nat → Option Value) (D : DataW Value) (left : Lit → Bool) (vs : List Value) : Prop where
  each : ∀ v ∈ vs, ∃ x, f x = some v
  rest : ∀ (x : Nat) v, f x = some v → left (.int .u64 (x : Int)) = true ∨ v ∈ vs
  has : ∀ kl, left kl = true → Maps.has D kl = true

theorem ValsMid.step {f : Nat → Option Value} {D : DataW Value} {left : Lit → Bool} {vs : List Value} {x : Nat} {v : Value} (h : ValsMid f D left vs) (hx : f x = some v) :
    ValsMid f D (fun z => left z && !z.sameKey (.int .u64 (x : Int))) (vs ++ [v]) := by
  refine ⟨fun u hu => ?_, fun y u hy => ?_, fun kl hk => ?_⟩
  · rcases List.mem_append.1 hu with a | a
    · exact h.each u a
    · simp at a
      subst a
      exact ⟨x, hx⟩
  · rcases h.rest y u hy with a | a
    · by_cases e : y = x
      · subst e
        rw [hx] at hy
        injection hy with hy
        subst hy
        exact Or.inr (by simp)
      · refine Or.inl ?_
        show (left (.int .u64 (y : Int)) && !(Lit.int .u64 (y : Int)).sameKey (.int .u64 (x : Int))) = true
        rw [a]
        simp [Lit.sameKey]
        omega
    · exact Or.inr (List.mem_append_left _ a)
  · simp at hk
    exact h.has kl hk.1

theorem ValsMid.done {f : Nat → Option Value} {D : DataW Value} {left : Lit → Bool} {vs : List Value} (h : ValsMid f D left vs) (hl : ∀ kl, left kl = false) : ValsOf f vs :=
  ⟨h.each, fun x v hx => by
    rcases h.rest x v hx with a | a
    · rw [hl] at a; cases a
    · exact a⟩

end Go.Lap
namespace Go.Proofs.YtaijnpgoiagboaaGreatDoor
open Go.RowKit Go.Lap Go.Maps Go.Sort Go.Shelf

/-- A snapshot and where its row lies. -/
abbrev SnapP := Snap × Option Addr × Nat
abbrev encP (p : SnapP) : Value := .agg #[.int .u64 (p.1.own : Int), .int .u64 (p.1.xmin : Int), .int .u64 (p.1.xmax : Int), .slice p.2.1 p.1.run.length p.2.2]
abbrev cellsP (p : SnapP) : List Value := [.int .u64 (p.1.own : Int), .int .u64 (p.1.xmin : Int), .int .u64 (p.1.xmax : Int), .slice p.2.1 p.1.run.length p.2.2]

theorem elem_snap : Elem Tryz.prog 137 88 4 48 := Elem.mk' (.agg #[.int .u64 0, .int .u64 0, .int .u64 0, .slice none 0 0]) Tryz.underlying137 (by kernel_rfl) rfl (by decide)

/-- A snapshot in a box of its own. -/
abbrev boxP (w : World) (p : SnapP) : World := w.alloc (.cells #[.int .u64 (p.1.own : Int), .int .u64 (p.1.xmin : Int), .int .u64 (p.1.xmax : Int), .slice p.2.1 p.1.run.length p.2.2] 88)

theorem boxP_new (w : World) (p : SnapP) : (boxP w p).heap[w.heap.size]? = some (.cells #[.int .u64 (p.1.own : Int), .int .u64 (p.1.xmin : Int), .int .u64 (p.1.xmax : Int), .slice p.2.1 p.1.run.length p.2.2] 88 (0, 0)) := alloc_new w _
theorem boxP_quiet (w : World) (p : SnapP) : Quiet w (boxP w p) := (Only.refl (fun _ => False) w).alloc _
theorem boxP_walks (w : World) (p : SnapP) : KeepsWalks w (boxP w p) := KeepsWalks.alloc w _
theorem grown_of {w w' : World} (h : Quiet w w') (row : Option Nat) : w.grownBy w' row := ⟨h.os, h.tape, h.output, h.size, fun k hk _ => h.block k hk (fun x => x)⟩

set_option maxRecDepth 100000 in
set_option maxHeartbeats 1000000 in
/-- The iterator: each value comes once. -/
theorem vals_in (F : Fence) (n : Nat) (hf : F.fn 119) (hro : F.round = none) (hn : 1 ≤ n) (l Bm b nn : Nat) (D0 : DataW Value) (f : Nat → Option Value)
    (hhas : ∀ kl, Maps.has D0 kl = true → ∃ (x : Nat) (v : Value), kl = .int .u64 (x : Int) ∧ f x = some v ∧ ∀ z, D0.atKey kl z = .held v) (hall : ∀ (x : Nat) v, f x = some v → Maps.has D0 (.int .u64 (x : Int)) = true) (hform : ∀ x v, f x = some v → ∃ p : SnapP, v = encP p)
    (J : List SnapP → World → Prop)
    (hY : ∀ pre x W, J pre W → pre.length < Maps.size D0 → YieldAt F (n - 1) Tryz.prog l #[encP x] W fun e W' => e = .returned (.bool true) ∧ J (pre ++ [x]) W' ∧ KeepsWalks W W')
    (W : World) (hJ : AbidesFrom W.heap.size J) (hm : W.cell? ⟨Bm, 0, none⟩ = some (.map (some b))) (hown : W.ownsMap Tryz.prog 22 heldR b nn D0) (h0 : J [] W) :
    CallsIn F n Tryz.prog 119 #[.func (.yield l) #[] #[], .pointer (some ⟨Bm, 0, none⟩)] W fun e W' => (∃ v, e = .returned v) ∧ ∃ ps : List SnapP, (ValsOf f (ps.map encP) ∧ ps.length ≤ Maps.size D0) ∧ J ps W' := by
  have HK : Keyed Tryz.prog 22 := int_keyed Tryz.underlying22
  refine callsIn_of_wp Tryz.func119 rfl hf ?_ hro
  simp only [Tryz.ntmps119, List.size_toArray, List.length_cons, List.length_nil, Nat.reduceAdd, Nat.reduceSub, Array.replicate_succ, Array.replicate_zero, List.push_toArray, List.append_toArray, List.nil_append, List.cons_append]
  gi_wp2_with (first
    | (gi_at_range; refine wpListIn_range_own _ rfl _ 84 rfl 22 88 HK Tryz.underlying84 _ b nn _ rfl hown ?_; intro w0 hrg0 hg0 hs0)
    | gi_in)
  go_frame
  gi_loopw [4] (fun _ wr => ∃ (left : Lit → Bool) (cnt : Nat) (ps : List SnapP), wr.ranges Tryz.prog 22 heldR b W.heap.size nn D0 left cnt ∧ ps.length + cnt ≤ Maps.size D0 ∧ ValsMid f D0 left (ps.map encP) ∧ J ps wr)
    (fun _ wr => wr.rangeLeft b W.heap.size)
  case atStart =>
    exact ⟨_, _, [], hrg0, by simp, ⟨fun v hv => by simp at hv, fun x v hx => Or.inl (hall x v hx), fun kl h => h⟩, hJ [] W w0 none h0 hg0 (fun r e => by cases e)⟩
  case round =>
    obtain ⟨left, cnt, ps, hrg, hcs, hC, hJs⟩ := hrel
    gi_wp2_with (first
      | (gi_at_next; refine wpListIn_next_ranges _ rfl _ rfl 22 HK heldR id id (fun key kl hk => ⟨key, rfl⟩) (fun v _ _ => ⟨v, rfl⟩) b W.heap.size nn _ _ _ rfl hrg ?_ ?_)
      | gi_in)
    · intro hc0 hl0
      gi_wp2
      go_end0
      exact ⟨⟨_, rfl⟩, ps, ⟨hC.done hl0, by omega⟩, hJs⟩
    · intro x c kl yd yp w2 cnt2 hkey hlk hv hat hrg2 hlt hg2 hs2 hen
      obtain ⟨k, v, rfl, hfk, hatk⟩ := hhas kl (hC.has kl hlk)
      obtain ⟨p, rfl⟩ := hform k v hfk
      have hcv : c = encP p := by
        have e1 := hat yd
        rw [hatk] at e1
        have e2 : (DataW.held c, ([] : List MemPlace)) = (yd, yp) := Option.some.inj hv
        injection e2 with e2 _
        rw [← e2] at e1
        injection e1 with e1
        exact e1.symm
      subst hcv
      have hJ1 : J ps w2 := hJ ps wr w2 (some W.heap.size) hJs hg2 (fun r e => by cases e; exact ⟨Nat.le_refl _, hrg.iter_walk⟩)
      have hJ2 : J ps (boxP w2 p) := hJ ps w2 _ none hJ1 (grown_of (boxP_quiet w2 p) none) (fun r e => by cases e)
      have hrg5 := hrg2.of_walks (boxP_walks w2 p)
      obtain ⟨fn, tmps, assign, body, hy, hR⟩ := hY ps p _ hJ2 (by omega)
      have hC2 : ValsMid f D0 (fun z => left z && !z.sameKey (.int .u64 (k : Int))) ((ps ++ [p]).map encP) := by
        rw [List.map_append]
        exact hC.step hfk
      have hbx := boxP_new w2 p
      have b0 := cell_of hbx 0
      have b1 := cell_of hbx 1
      have b2 := cell_of hbx 2
      have b3 := cell_of hbx 3
      simp only [zGA, zGS, zGZ, cellsP] at b0 b1 b2 b3
      clear hs2 hbx
      gi_wp2
      refine hR.mono ?_
      rintro e W3 ⟨rfl, hJ3, hk3⟩
      gi_wp2
      have hrg3 := hrg5.of_walks hk3
      go_roundw
      case rel => exact ⟨_, cnt2, ps ++ [p], hrg3, by simp; omega, hC2, hJ3⟩
      case measure => rw [hrg3.left_eq, hrg.left_eq]; exact hlt

end Go.Proofs.YtaijnpgoiagboaaGreatDoor

namespace Go.Proofs.YtaijnpgoiagboaaGreatDoor
open Go.RowKit Go.Lap Go.Maps Go.Sort Go.Shelf

theorem cells_new (w : World) (xs : List Value) (t : TypeId) : ∀ j u, xs[j]? = some u → (w.alloc (.cells xs.toArray t)).cell? ((⟨w.heap.size, 0, none⟩ : Addr).add j) = some u := by
  intro j u hj
  rw [add_none, Nat.zero_add, cell_of (alloc_new w _)]
  simpa using hj

theorem cellsP_one (x : SnapP) : ∀ u ∈ cellsP x, u.oneCell' = true := by
  intro u hu
  simp [cellsP] at hu
  rcases hu with rfl | rfl | rfl | rfl <;> rfl

def apAssign : Code := (Code.region 2 #[{ dst := some 5, op := Op.alloc 88, type := 0, pos := "iter.go:51", after := #[], guard := none }, { dst := none, op := Op.store 88 (Operand.tmp 5) (Operand.tmp 7), type := 0, pos := "iter.go:51", after := #[{ on := 0, ground := Ground.data }, { on := 0, ground := Ground.phase }], guard := none }] false)
def apBody : Code := (Code.block 1 (Code.region 3 #[{ dst := some 8, op := Op.load 137 (Operand.tmp 2), type := 137, pos := "iter.go:52", after := #[], guard := none }, { dst := some 9, op := Op.load 88 (Operand.tmp 5), type := 88, pos := "iter.go:52", after := #[], guard := none }, { dst := some 10, op := Op.buildSlice 137 1 #[(0, Operand.tmp 9)], type := 137, pos := "iter.go:52", after := #[{ on := 1, ground := Ground.data }], guard := none }, { dst := some 11, op := Op.call { callee := Callee.builtin Builtin.append, args := #[Operand.tmp 8, Operand.tmp 10], argTypes := #[137, 137] }, type := 137, pos := "iter.go:52", after := #[{ on := 0, ground := Ground.data }, { on := 2, ground := Ground.data }], guard := none }, { dst := none, op := Op.store 137 (Operand.tmp 2) (Operand.tmp 11), type := 0, pos := "iter.go:52", after := #[{ on := 3, ground := Ground.data }, { on := 3, ground := Ground.chain }, { on := 0, ground := Ground.phase }, { on := 1, ground := Ground.phase }, { on := 2, ground := Ground.phase }, { on := 3, ground := Ground.phase }], guard := none }] false))
/-- The loop of AppendSeq, between two rounds. -/
def apRec (fn : FuncId) (sv : Value) (Bs D : Nat) (st : LoopState) (pend : Option Code) : Loop :=
  { state := st, pending := pend, fn, tmps := #[.slice none 0 0, sv, .pointer (some ⟨Bs, 0, none⟩), undef, .slice none 0 0, undef, sv, undef, undef, undef, undef, undef, undef], params := #[7], assign := apAssign, body := apBody, defers := D }

/-- Between two rounds: the row of those that have come. -/
structure ApAt (w0 : World) (fn : FuncId) (sv : Value) (Bs l D : Nat) (ss : List SnapP) (W : World) : Prop where
  box : ∃ v, W.heap[Bs]? = some (.cells #[v] 137 (0, 0)) ∧ W.ownsRow w0.heap.size 88 4 v ss.length (ss.flatMap cellsP) ∧ (v = .slice none 0 0 ↔ ss = [])
  L : W.heap[l]? = some (.loop (apRec fn sv Bs D .ready none))
  K : W.heap[D]? = some (.deferred (some []))
  below : Below w0.heap.size w0 W

theorem ap_abides (w0 : World) (fn : FuncId) (sv : Value) (Bs l D B : Nat) (hB : w0.heap.size ≤ B) : AbidesFrom B (ApAt w0 fn sv Bs l D) := fun s W W' row h hg hrow => by
  have hrow' : ∀ r, row = some r → ∃ o : Obj, W.heap[r]? = some o ∧ o.isWalk = true := fun r e => (hrow r e).2
  obtain ⟨v, hv, hr, hn⟩ := h.box
  exact ⟨⟨v, (grownBy_keeps hg hrow' hv rfl).trans hv, ownsRow_abides_a hr hg hrow', hn⟩, (grownBy_keeps hg hrow' h.L rfl).trans h.L, (grownBy_keeps hg hrow' h.K rfl).trans h.K,
    h.below.grown hg h.below.size (fun k e => Nat.le_trans hB (hrow k e).1)⟩

set_option maxRecDepth 100000 in
set_option maxHeartbeats 2000000 in
theorem apYield (F : Fence) (m : Nat) (w0 : World) (fn : FuncId) (hfn : F.fn fn) (sv : Value) (Bs l D : Nat) (hBl : Bs ≠ l) (hDl : D ≠ l) (hDB : D ≠ Bs) (h0B : w0.heap.size ≤ Bs) (h0l : w0.heap.size ≤ l)
    (N : Nat) (hN : N ≤ maxLen) (hNb : N * 48 ≤ 140737488355328) (ss : List SnapP) (x : SnapP) (W : World) (h : ApAt w0 fn sv Bs l D ss W) (hlen : ss.length < N) :
    YieldAt F m Tryz.prog l #[encP x] W fun e W' => e = .returned (.bool true) ∧ ApAt w0 fn sv Bs l D (ss ++ [x]) W' ∧ KeepsWalks W W' := by
  have hne : 137 ≠ 88 := by decide
  obtain ⟨i0, z0, ht0, hi, hz0, hz1, hz2, hz3, hz4⟩ := elem_snap.ex
  obtain ⟨v, hv, hrow, _⟩ := h.box
  refine ⟨fn, #[.slice none 0 0, sv, .pointer (some ⟨Bs, 0, none⟩), undef, .slice none 0 0, undef, sv, encP x, undef, undef, undef, undef, undef], apAssign, apBody, by simpa [apRec] using run_yield (P := Tryz.prog) (args := #[encP x]) h.L rfl, roundIn_of_wpIn hfn ?_⟩
  unfold apAssign
  gi_wp2_with gi_round_op_a
  have hq5 := boxP_quiet W x
  have hbx := boxP_new W x
  have hk5 := boxP_walks W x
  unfold boxP at hq5 hbx hk5
  generalize W.alloc (.cells #[.int .u64 (x.1.own : Int), .int .u64 (x.1.xmin : Int), .int .u64 (x.1.xmax : Int), .slice x.2.1 x.1.run.length x.2.2] 88) = W1 at *
  have hv1 := hq5.get hv (fun x => x)
  have hK1 := hq5.get h.K (fun x => x)
  have hL1 := hq5.get h.L (fun x => x)
  have hrow1 := hrow.kept (grown_of hq5 none) (Classical.em _)
  have hb1 := h.below.grown (grown_of hq5 none) h.below.size (fun k e => by cases e)
  have hlo : l < W.heap.size := (Array.getElem?_eq_some_iff.1 h.L).1
  have hl : l < W1.heap.size := (Array.getElem?_eq_some_iff.1 hL1).1
  have hbr := run_beginRound (P := Tryz.prog) hL1 rfl
  obtain ⟨W2, hW2⟩ : ∃ W2, W1.putObj l (.loop { apRec fn sv Bs D .ready none with state := .busy }) = W2 := ⟨_, rfl⟩
  rw [hW2] at hbr
  have hg2 : W1.grownBy W2 (some l) := by rw [← hW2]; exact grownBy_putObj_a _ _ _
  have hk2 : KeepsWalks W W2 := hk5.trans (by rw [← hW2]; exact KeepsWalks.putObj _ hL1 rfl)
  have hv2 : W2.heap[Bs]? = some (.cells #[v] 137 (0, 0)) := by rw [← hW2]; exact (World.putObj_heap_other hBl).trans hv1
  have hK2 : W2.heap[D]? = some (.deferred (some [])) := by rw [← hW2]; exact (World.putObj_heap_other hDl).trans hK1
  have hL2 : W2.heap[l]? = some (.loop { apRec fn sv Bs D .ready none with state := .busy }) := by rw [← hW2]; exact World.putObj_heap_same hl
  have hx2 : W2.heap[W.heap.size]? = some (.cells #[.int .u64 (x.1.own : Int), .int .u64 (x.1.xmin : Int), .int .u64 (x.1.xmax : Int), .slice x.2.1 x.1.run.length x.2.2] 88 (0, 0)) := by rw [← hW2]; exact (World.putObj_heap_other (by omega)).trans hbx
  have hrow2 : W2.ownsRow w0.heap.size 88 4 v ss.length (ss.flatMap cellsP) := hrow1.kept hg2 (ownsRow_ne_a hrow1 hL1 (fun cur e => by first | cases e | exact hne (Obj.cells.inj e).2.1))
  have hb2 : Below w0.heap.size w0 W2 := hb1.grown hg2 hb1.size (fun k e => by cases e; exact h0l)
  have b0 := cell_of hx2 0
  have b1 := cell_of hx2 1
  have b2 := cell_of hx2 2
  have b3 := cell_of hx2 3
  simp only [zGA, zGS, zGZ] at b0 b1 b2 b3
  obtain ⟨hc2, hf2⟩ := cell_of_box_a hv2
  have hBlt : Bs < W2.heap.size := (Array.getElem?_eq_some_iff.1 hv2).1
  have hl2 : l < W2.heap.size := (Array.getElem?_eq_some_iff.1 hL2).1
  have hDlt : D < W2.heap.size := (Array.getElem?_eq_some_iff.1 hK2).1
  have ne_of : ∀ {j : Nat} {o : Obj}, W2.heap[j]? = some o → (∀ cur, o ≠ .cells cur 88 (0, 0)) → some j ≠ v.ownBlock := fun hj hno => by
    rcases ownsRow_ne_a hrow2 hj hno with e | e
    · rw [e]; simp
    · exact fun e' => e e'.symm
  clear hW2 hx2 hbx
  refine ⟨W2, hbr, ?_⟩
  unfold apBody
  gi_wp2_with (first
    | (gi_at_builtin; refine wpListIn_append_own _ rfl _ _ 137 rfl w0.heap.size 88 i0 z0 4 48 ht0 hi hz0 hz1 hz2 hz3 hz4 _ _ _ rfl (hrow2.alloc _) ⟨W2.heap.size, 0, none⟩ 1 1 (cellsP x) rfl rfl (cells_new W2 (cellsP x) _) (cellsP_one x) (by omega) (by omega) (by have := hb2.size; simp; omega) ?_; intro v' w3 hown' hg3 hnil3
       have hv3 : w3.heap[Bs]? = some (.cells #[v] 137 (0, 0)) := (hg3.block Bs (by simp; omega) (ne_of hv2 (fun cur e => by first | cases e | exact hne (Obj.cells.inj e).2.1))).trans ((Below.heap_alloc _ _ Bs hBlt).trans hv2)
       obtain ⟨hc3, hf3⟩ := cell_of_box_a hv3
       obtain ⟨g', cap', cur', rfl, hbase', hgb', hr1, hr2, hr3, hr4⟩ : ∃ g' cap' cur', v' = .slice (some ⟨g', 0, none⟩) (ss.length + 1) cap' ∧ w0.heap.size ≤ g' ∧ w3.heap[g']? = some (.cells cur' 88 (0, 0)) ∧ ss.length + 1 ≤ cap' ∧ cap' ≤ maxLen ∧ cur'.size = cap' * 4 ∧ cur'.toList.take ((ss.length + 1) * 4) = ss.flatMap cellsP ++ cellsP x := by
         rcases hown'.2 with ⟨_, h0⟩ | h'
         · exact absurd h0 (by omega)
         · exact h'
       go_frame)
    | gi_round_op_a)
  have hg3' : (W2.alloc (.cells (cellsP x).toArray 88)).grownBy w3 v.ownBlock := hg3
  have hL3 : w3.heap[l]? = some (.loop { apRec fn sv Bs D .ready none with state := .busy }) := (hg3'.block l (by simp; omega) (ne_of hL2 (fun cur e => by first | cases e | exact hne (Obj.cells.inj e).2.1))).trans ((Below.heap_alloc _ _ l hl2).trans hL2)
  have hK3 : w3.heap[D]? = some (.deferred (some [])) := (hg3'.block D (by simp; omega) (ne_of hK2 (fun cur e => by first | cases e | exact hne (Obj.cells.inj e).2.1))).trans ((Below.heap_alloc _ _ D hDlt).trans hK2)
  obtain ⟨w4, hw4⟩ : ∃ w4, w3.setCell ⟨Bs, 0, none⟩ (.slice (some ⟨g', 0, none⟩) (ss.length + 1) cap') = w4 := ⟨_, rfl⟩
  rw [hw4]
  have hg4 : w3.grownBy w4 (some Bs) := by rw [← hw4]; exact grownBy_setCell0_a _ _ _
  have hv4 : w4.heap[Bs]? = some (.cells #[.slice (some ⟨g', 0, none⟩) (ss.length + 1) cap'] 137 (0, 0)) := by rw [← hw4]; exact heap_setCell_box_a _ hv3
  have hL4 : w4.heap[l]? = some (.loop { apRec fn sv Bs D .ready none with state := .busy }) := (hg4.block l (Array.getElem?_eq_some_iff.1 hL3).1 (fun e => hBl (by cases e; rfl))).trans hL3
  have hK4 : w4.heap[D]? = some (.deferred (some [])) := (hg4.block D (Array.getElem?_eq_some_iff.1 hK3).1 (fun e => hDB (by cases e; rfl))).trans hK3
  have hrow4 := hown'.kept hg4 (ownsRow_ne_a hown' hv3 (fun cur e => by first | cases e | exact hne (Obj.cells.inj e).2.1))
  have hl4 : l < w4.heap.size := (Array.getElem?_eq_some_iff.1 hL4).1
  have hb3 : Below w0.heap.size w0 w3 := (hb2.alloc hb2.size _).grown hg3' (by have := hb2.size; simp; omega) (fun k e => (hrow2.lt k e).1)
  have hb4 : Below w0.heap.size w0 w4 := hb3.grown hg4 hb3.size (fun k e => by cases e; exact h0B)
  have hk4 : KeepsWalks W w4 := ((hk2.trans (KeepsWalks.alloc _ _)).trans (KeepsWalks.of_grownBy hg3' (ownsRow_not_walk_a (hrow2.alloc _)))).trans (by rw [← hw4]; exact KeepsWalks.setCell _ _ _)
  clear hw4
  refine ⟨_, _, run_endRound none hL4, rfl, ⟨⟨_, (World.putObj_heap_other hBl).trans hv4, ?_, by simp⟩, World.putObj_heap_same hl4, (World.putObj_heap_other hDl).trans hK4, hb4.grown (grownBy_putObj_a _ _ _) hb4.size (fun k e => by cases e; exact h0l)⟩, hk4.trans (KeepsWalks.putObj _ hL4 rfl)⟩
  have := hrow4.kept (grownBy_putObj_a w4 l (.loop { { apRec fn sv Bs D .ready none with state := .busy } with state := if (none : Option Code).isNone then .ready else .done, pending := none })) (ownsRow_ne_a hrow4 hL4 (fun cur e => by first | cases e | exact hne (Obj.cells.inj e).2.1))
  simpa using this

set_option maxRecDepth 100000 in
set_option maxHeartbeats 2000000 in
/-- AppendSeq of whatever iterator: what it gives, in that order. -/
theorem appendSeq_in (F : Fence) (n : Nat) (h11 : F.fn 118) (hro : F.round = none) (hn : 2 ≤ n) (g : Nat) (lb : Array Value) (hFg : F.fn g) (eg : ∀ args w, (callFunc g args).run Tryz.prog w = .ok (.enter g args) w)
    (S : List SnapP → Prop) (N : Nat) (hN : N ≤ maxLen) (hNb : N * 48 ≤ 140737488355328) (w : World) (hseq : SeqGives F (n - 1) Tryz.prog g lb encP S N w) :
    CallsIn F n Tryz.prog 118 #[.slice none 0 0, .func (.func g) #[] lb] w fun e w' => ∃ (v : Value) (ss : List SnapP), e = .returned v ∧ S ss ∧ w'.ownsRow w.heap.size 88 4 v ss.length (ss.flatMap cellsP) ∧ (v = .slice none 0 0 ↔ ss = []) ∧ Below w.heap.size w w' := by
  have h1 : 1 ≤ n := by omega
  have hne : 137 ≠ 88 := by decide
  refine callsIn_of_wp_marks Tryz.func118 rfl h11 ?_ hro
  simp only [Tryz.ntmps118, List.size_toArray, List.length_cons, List.length_nil, Nat.reduceAdd, Nat.reduceSub, Array.replicate_succ, Array.replicate_zero, List.push_toArray, List.append_toArray, List.nil_append, List.cons_append]
  gi_wp2
  refine wpIn_rangeFunc ?_
  intro fn hfn
  rw [hro]
  obtain ⟨W0, hW0⟩ : ∃ W0, w.alloc (.cells #[.slice none 0 0] 137) = W0 := ⟨_, rfl⟩
  have hs0 : W0.heap.size = w.heap.size + 1 := by rw [← hW0]; simp
  have hv0 : W0.heap[w.heap.size]? = some (.cells #[.slice none 0 0] 137 (0, 0)) := by rw [← hW0]; exact World.alloc_heap_new w _
  have hb0 : Below w.heap.size w W0 := by rw [← hW0]; exact (Below.refl _ w).alloc (Nat.le_refl _) _
  rw [hW0]
  obtain ⟨W1, hW1⟩ : ∃ W1, (W0.alloc (.deferred (some []))).alloc (.loop (apRec fn (.func (.func g) #[] lb) w.heap.size W0.heap.size .ready none)) = W1 := ⟨_, rfl⟩
  have hold : ∀ k, k < W0.heap.size → W1.heap[k]? = W0.heap[k]? := fun k hk => by
    rw [← hW1]; exact (Below.heap_alloc _ _ k (by simp; omega)).trans (Below.heap_alloc _ _ k hk)
  have hb1 : Below w.heap.size w W1 := by rw [← hW1]; exact (hb0.alloc hb0.size _).alloc (by have := hb0.size; simp; omega) _
  have hs1 : W1.heap.size = W0.heap.size + 2 := by rw [← hW1]; simp
  have hM : ApAt w fn (.func (.func g) #[] lb) w.heap.size (W0.heap.size + 1) W0.heap.size [] W1 :=
    ⟨⟨_, (hold w.heap.size (by omega)).trans hv0, ⟨rfl, .inl ⟨rfl, rfl⟩⟩, by simp⟩,
     by rw [← hW1]; have := World.alloc_heap_new (W0.alloc (.deferred (some []))) (.loop (apRec fn (.func (.func g) #[] lb) w.heap.size W0.heap.size .ready none)); rwa [World.size_alloc] at this,
     by rw [← hW1]; exact (Below.heap_alloc _ _ _ (by simp)).trans (World.alloc_heap_new W0 _), hb1⟩
  refine ⟨W0.heap.size + 1, [{ target := .collected W0.heap.size, args := #[] }], W1, { target := .fn (.func g) lb, args := #[.func (.yield (W0.heap.size + 1)) #[] #[]] }, W1, g,
    #[.func (.yield (W0.heap.size + 1)) #[] #[]] ++ lb, W1, ?_, ?_, ?_, ?_, fun _ => h1, ?_⟩
  · rw [← hW1]; exact run_enterLoop_outer _ _ _ _ _
  · simp [resolve, go_sem]
  · intro f' hf'; simp [Target.leads] at hf'; subst hf'; exact hFg
  · simp [invoke, go_sem, eg]
  · refine (hseq (W0.heap.size + 1) (ApAt w fn (.func (.func g) #[] lb) w.heap.size (W0.heap.size + 1) W0.heap.size) W1 hb1 (ap_abides _ _ _ _ _ _ _ hb1.size)
      (fun pre x W hJ hl => apYield F (n - 1 - 1) w fn hfn _ w.heap.size (W0.heap.size + 1) W0.heap.size (by omega) (by omega) (by omega) (Nat.le_refl _) (by omega) N hN hNb pre x W hJ hl) hM).mono ?_
    rintro e W2 ⟨⟨v0, rfl⟩, ss, hS, h2⟩
    obtain ⟨v, hv, hrow, hnil⟩ := h2.box
    have hend := run_endLoop (P := Tryz.prog) h2.L (by simp [apRec])
    obtain ⟨W3, hW3⟩ : ∃ W3, W2.putObj (W0.heap.size + 1) (.loop { apRec fn (.func (.func g) #[] lb) w.heap.size W0.heap.size .ready none with state := .exhausted }) = W3 := ⟨_, rfl⟩
    rw [hW3] at hend
    have hg3 : W2.grownBy W3 (some (W0.heap.size + 1)) := by rw [← hW3]; exact grownBy_putObj_a _ _ _
    have hv3 : W3.heap[w.heap.size]? = some (.cells #[v] 137 (0, 0)) := by rw [← hW3]; exact (World.putObj_heap_other (by omega)).trans hv
    have hK3 : W3.heap[W0.heap.size]? = some (.deferred (some [])) := by rw [← hW3]; exact (World.putObj_heap_other (by omega)).trans h2.K
    have hrow3 := hrow.kept hg3 (ownsRow_ne_a hrow h2.L (fun cur e => by first | cases e | exact hne (Obj.cells.inj e).2.1))
    have hb3 : Below w.heap.size w W3 := h2.below.grown hg3 h2.below.size (fun k e => by cases e; omega)
    obtain ⟨hc3, hf3⟩ := cell_of_box_a hv3
    clear hW3
    refine ⟨none, W3, hend, ?_⟩
    gi_wp2
    rw [← hs0]
    refine ⟨by simp, .inl ⟨_, _, rfl, run_takeDeferred hK3, ?_⟩⟩
    exact ⟨_, results_tmp rfl _ _ _, v, ss, rfl, hS, hrow3.kept (grownBy_putObj_a _ _ _) (ownsRow_ne_a hrow3 hK3 (fun cur e => by first | cases e | exact hne (Obj.cells.inj e).2.1)), hnil, hb3.grown (grownBy_putObj_a _ _ _) hb3.size (fun k e => by cases e; omega)⟩

set_option maxHeartbeats 1000000 in
/-- Collect of whatever iterator. -/
theorem collect_in (F : Fence) (n : Nat) (h8 : F.fn 73) (h11 : F.fn 118) (hro : F.round = none) (hn : 3 ≤ n) (g : Nat) (lb : Array Value) (hFg : F.fn g) (eg : ∀ args w, (callFunc g args).run Tryz.prog w = .ok (.enter g args) w)
    (S : List SnapP → Prop) (N : Nat) (hN : N ≤ maxLen) (hNb : N * 48 ≤ 140737488355328) (w : World) (hseq : SeqGives F (n - 1 - 1) Tryz.prog g lb encP S N w) :
    CallsIn F n Tryz.prog 73 #[.func (.func g) #[] lb] w fun e w' => ∃ (v : Value) (ss : List SnapP), e = .returned v ∧ S ss ∧ w'.ownsRow w.heap.size 88 4 v ss.length (ss.flatMap cellsP) ∧ (v = .slice none 0 0 ↔ ss = []) ∧ Below w.heap.size w w' := by
  have h1 : 1 ≤ n := by omega
  have e11 : ∀ args w, (callFunc 118 args).run Tryz.prog w = .ok (.enter 118 args) w := enters_of Tryz.func118 (by kernel_rfl) rfl
  refine callsIn_of_wp Tryz.func73 rfl h8 ?_ hro
  simp only [Tryz.ntmps73, List.size_toArray, List.length_cons, List.length_nil, Nat.reduceAdd, Nat.reduceSub, Array.replicate_succ, Array.replicate_zero, List.push_toArray, List.append_toArray, List.nil_append, List.cons_append]
  gi_wp2_with (gi_at_fn 118; refine (appendSeq_in F (n - 1) h11 hro (by omega) g lb hFg eg S N hN hNb _ hseq).mono ?_; rintro e w' ⟨v, ss, rfl, hS, hrow, hnil, hb⟩)
  go_ret
  exact ⟨v, ss, rfl, hS, hrow, hnil, hb⟩

end Go.Proofs.YtaijnpgoiagboaaGreatDoor

namespace Go.Proofs.YtaijnpgoiagboaaGreatDoor
open Go.RowKit Go.Lap

/-- The least of them. -/
structure HorOf (nx : Nat) (ps : List SnapP) (hz : Nat) : Prop where
  none_ : ps = [] → hz = nx
  some_ : ps ≠ [] → ∃ p ∈ ps, hz = p.1.xmin
  least : ∀ p ∈ ps, hz ≤ p.1.xmin

theorem HorOf.start (nx : Nat) : HorOf nx [] nx := ⟨fun _ => rfl, fun h => absurd rfl h, fun p hp => by cases hp⟩

theorem HorOf.take_ {nx hz : Nat} {ps : List SnapP} {p : SnapP} (h : HorOf nx ps hz) (hl : ps = [] ∨ p.1.xmin < hz) : HorOf nx (ps ++ [p]) p.1.xmin :=
  ⟨fun e => by simp at e, fun _ => ⟨p, by simp, rfl⟩, fun q hq => by
    rcases List.mem_append.1 hq with x | x
    · rcases hl with y | y
      · rw [y] at x; cases x
      · exact Nat.le_of_lt (Nat.lt_of_lt_of_le y (h.least q x))
    · rw [List.mem_singleton] at x; rw [x]; exact Nat.le_refl _⟩

theorem HorOf.leave {nx hz : Nat} {ps : List SnapP} {p : SnapP} (h : HorOf nx ps hz) (hl : ps ≠ []) (hp : ¬ p.1.xmin < hz) : HorOf nx (ps ++ [p]) hz :=
  ⟨fun e => by simp at e, fun _ => by obtain ⟨q, hq, e⟩ := h.some_ hl; exact ⟨q, List.mem_append_left _ hq, e⟩, fun q hq => by
    rcases List.mem_append.1 hq with x | x
    · exact h.least q x
    · rw [List.mem_singleton] at x; rw [x]; omega⟩

theorem rowP_get : ∀ (ps : List SnapP) (i : Nat) (p : SnapP), ps[i]? = some p → (ps.flatMap cellsP)[i * 4]? = some (.int .u64 (p.1.own : Int)) ∧ (ps.flatMap cellsP)[i * 4 + 1]? = some (.int .u64 (p.1.xmin : Int)) ∧ (ps.flatMap cellsP)[i * 4 + 2]? = some (.int .u64 (p.1.xmax : Int)) ∧ (ps.flatMap cellsP)[i * 4 + 3]? = some (.slice p.2.1 p.1.run.length p.2.2)
  | [], i, p, h => by simp at h
  | x :: ps, 0, p, h => by
    simp at h
    subst h
    exact ⟨rfl, rfl, rfl, rfl⟩
  | x :: ps, i + 1, p, h => by
    have ih := rowP_get ps i p (by simpa using h)
    have e : (x :: ps).flatMap cellsP = .int .u64 (x.1.own : Int) :: .int .u64 (x.1.xmin : Int) :: .int .u64 (x.1.xmax : Int) :: .slice x.2.1 x.1.run.length x.2.2 :: ps.flatMap cellsP := rfl
    rw [e, show (i + 1) * 4 = i * 4 + 1 + 1 + 1 + 1 by omega]
    exact ih

def HorPost (w : World) (nx : Nat) (ps : List SnapP) (e : Ending) (w' : World) : Prop := ∃ hz : Nat, e = .returned (.int .u64 (hz : Int)) ∧ HorOf nx ps hz ∧ U64 hz ∧ Quiet w w'

set_option maxHeartbeats 1000000 in
set_option maxRecDepth 100000 in
theorem snap_horizon {w : World} {F S : Nat → Prop} {lb c : Nat} {L : List Nat} {A : Option Addr} {ps : List SnapP} (h : LogAt w F lb L) (hL : L.length < 1000000000) (hr : Rd w S 4 A ps.length (ps.flatMap cellsP)) (hn : ps.length ≤ 10000000) (hu : ∀ p ∈ ps, U64 p.1.xmin) :
    Calls Tryz.prog 72 #[.pointer (some ⟨lb, 0, none⟩), .slice A ps.length c] w (HorPost w (L.length + 1) ps) := by
  have HNX := Lib.hid (log_next h)
  have HR := Lib.hid hr
  have HU := Lib.hid hu
  obtain ⟨nx, hnx⟩ : ∃ nx, L.length + 1 = nx := ⟨_, rfl⟩
  have hnu : U64 nx := by unfold U64; omega
  have HNU := Lib.hid hnu
  rw [hnx]
  obtain ⟨n, hn2⟩ : ∃ n, ps.length = n := ⟨_, rfl⟩
  have HN := Lib.hid hn2
  rw [hn2] at hn ⊢
  obtain ⟨POST, hPOST⟩ : ∃ POST, HorPost w nx ps = POST := ⟨_, rfl⟩
  rw [hPOST]
  have HPOST := Lib.hid hPOST
  have HE : Hid (((L.length : Int) + 1) = (nx : Int)) := by show _ = _; omega
  clear h hL hr hu hn2 hPOST hnu hnx
  go_enter Tryz.func72, Tryz.ntmps72
  go_wp2_with fail
  refine HNX.out.mono ?_
  rintro e w1 ⟨rfl, m, rfl⟩
  rw [HE.out]
  have HQ1 : Hid (Quiet w (w.drewN m)) := (Only.refl (fun _ => False) w).drewN m
  clear HNX HE
  generalize w.drewN m = w1 at *
  go_wp2_with fail
  go_loopw [12, 5, 6, 7] (fun i v _ _ wr => ∃ (k hz : Nat), k ≤ n ∧ i = .int .i64 (k : Int) ∧ v = .int .u64 (hz : Int) ∧ HorOf nx (ps.take k) hz ∧ U64 hz ∧ Quiet w wr) (fun i _ _ _ _ => n - (intOf i).toNat)
  case atStart => exact ⟨0, nx, Nat.zero_le _, rfl, rfl, HorOf.start nx, HNU.out, HQ1.out⟩
  case round =>
    obtain ⟨k, hz, hk, rfl, rfl, hH, hz64, hq⟩ := hrel
    have HH := Lib.hid hH
    have HZ := Lib.hid hz64
    have HQ := Lib.hid hq
    clear hH hz64 hq
    by_cases hlt : k < n
    · obtain ⟨p, hp⟩ : ∃ p, ps[k]? = some p := ⟨_, List.getElem?_eq_getElem (by have := HN.out; omega)⟩
      obtain ⟨k0, k1, k2, k3⟩ := rowP_get ps k p hp
      have hlen := (List.getElem?_eq_some_iff.1 k0).1
      obtain ⟨b, off, rfl, _, hc⟩ := (HR.out.kept HQ.out (fun _ _ x => x)).cells (by omega)
      have c0 := hc _ _ k0
      have c1 := hc _ _ k1
      have c2 := hc _ _ k2
      have c3 := hc _ _ k3
      rw [← Nat.add_assoc] at c1 c2 c3
      have hlb := cell_lt c0
      dsimp only at hlb
      have HU2 : Hid (U64 p.1.xmin) := HU.out p (List.mem_of_getElem? hp)
      have HT : Hid (ps.take (k + 1) = ps.take k ++ [p]) := by show _ = _; rw [List.take_add_one, hp]; rfl
      have HTL : Hid ((ps.take k).length = k) := by show _ = _; rw [List.length_take]; have := HN.out; omega
      have HQ5 : Hid (Quiet w (wr.alloc (.cells #[.int .u64 (p.1.own : Int), .int .u64 (p.1.xmin : Int), .int .u64 (p.1.xmax : Int), .slice p.2.1 p.1.run.length p.2.2] 88))) := HQ.out.alloc _
      clear hc hlen k0 k1 k2 k3
      by_cases h0 : k = 0 ∨ p.1.xmin < hz
      · have HN1 : Hid (HorOf nx (ps.take (k + 1)) p.1.xmin) := by
          show HorOf _ _ _
          rw [HT.out]
          exact HH.out.take_ (by rcases h0 with x | x; left; subst x; rfl; right; exact x)
        clear HH HT HTL
        by_cases hk0 : k = 0
        · subst hk0
          simp only [Nat.zero_mul, Nat.add_zero] at c0 c1 c2 c3
          go_wp2
          go_roundw
          case rel => exact ⟨1, p.1.xmin, by omega, by go_num, rfl, HN1.out, HU2.out, HQ5.out⟩
          case measure => simp [intOf]; omega
        · have hx : (p.1.xmin : Int) < (hz : Int) := by rcases h0 with x | x; exact absurd x hk0; omega
          have hki : ¬ (k : Int) = 0 := by omega
          go_wp2
          go_roundw
          case rel => exact ⟨k + 1, p.1.xmin, by omega, by go_num, rfl, HN1.out, HU2.out, HQ5.out⟩
          case measure => simp [intOf]; omega
      · have hk0 : ¬ (k : Int) = 0 := by omega
        have hx : ¬ (p.1.xmin : Int) < (hz : Int) := by omega
        have HN1 : Hid (HorOf nx (ps.take (k + 1)) hz) := by
          show HorOf _ _ _
          rw [HT.out]
          exact HH.out.leave (fun e => by have := HTL.out; rw [e] at this; simp at this; omega) (by omega)
        clear HH HT HTL h0
        go_wp2
        go_roundw
        case rel => exact ⟨k + 1, hz, by omega, by go_num, rfl, HN1.out, HZ.out, HQ5.out⟩
        case measure => simp [intOf]; omega
    · obtain rfl : k = n := by omega
      have HEND : Hid (POST (.returned (.int .u64 (hz : Int))) wr) := by
        rw [← HPOST.out]
        have := HH.out
        rw [List.take_of_length_le (by have := HN.out; omega)] at this
        exact ⟨hz, rfl, this, HZ.out, HQ.out⟩
      clear HH
      go_wp2
      exact HEND.out

end Go.Proofs.YtaijnpgoiagboaaGreatDoor

namespace Go.Lap

/-- A table's entry. -/
structure TE where
  id : Nat
  name : ByteArray
  cols : List (ByteArray × Nat)
  xmin : Nat
  xmax : Nat

/-- An index's entry. -/
structure IE where
  id : Nat
  name : ByteArray
  table : Nat
  column : Nat
  xmin : Nat
  xmax : Nat

def colsV (l : List (ByteArray × Nat)) : List Value := l.flatMap (fun c => [.string c.1, .int .u8 (c.2 : Int)])

theorem colsV_len (l : List (ByteArray × Nat)) : (colsV l).length = l.length * 2 := by
  induction l with
  | nil => rfl
  | cons p l ih =>
    have : colsV (p :: l) = .string p.1 :: .int .u8 (p.2 : Int) :: colsV l := rfl
    rw [this, List.length_cons, List.length_cons, ih, List.length_cons]; omega

theorem colsV_get {l : List (ByteArray × Nat)} {j : Nat} {p : ByteArray × Nat} (h : l[j]? = some p) : (colsV l)[j * 2]? = some (.string p.1) ∧ (colsV l)[j * 2 + 1]? = some (.int .u8 (p.2 : Int)) := by
  induction l generalizing j with
  | nil => simp at h
  | cons q l ih =>
    have e : colsV (q :: l) = .string q.1 :: .int .u8 (q.2 : Int) :: colsV l := rfl
    rcases j with _ | j
    · simp at h
      subst h
      exact ⟨rfl, rfl⟩
    · rw [List.getElem?_cons_succ] at h
      obtain ⟨h1, h2⟩ := ih h
      rw [e, show (j + 1) * 2 = j * 2 + 1 + 1 by omega]
      exact ⟨h1, h2⟩

theorem one_cols (l : List (ByteArray × Nat)) : ∀ u ∈ colsV l, u.oneCell' = true := by
  intro u hu
  unfold colsV at hu
  rw [List.mem_flatMap] at hu
  obtain ⟨p, _, hp⟩ := hu
  simp at hp
  rcases hp with rfl | rfl <;> rfl

/-- An entry's stamps, as a version's. -/
def tupE (xmin xmax : Nat) : Tup := ⟨0, xmin, xmax, 0, 0, []⟩
end Go.Lap
namespace Go.Proofs.YtaijnpgoiagboaaGreatDoor
open Go.RowKit Go.Lap

/-- Where an entry's four fields lie. -/
structure EntAt (w : World) (eb id : Nat) (name : ByteArray) (xmin xmax : Nat) : Prop where
  c0 : w.cell? ⟨eb, 0, none⟩ = some (.int .u64 (id : Int))
  c1 : w.cell? ⟨eb, 1, none⟩ = some (.string name)
  c2 : w.cell? ⟨eb, 2, none⟩ = some (.int .u64 (xmin : Int))
  c3 : w.cell? ⟨eb, 3, none⟩ = some (.int .u64 (xmax : Int))

theorem EntAt.kept {S : Nat → Prop} {w w' : World} {eb id xmin xmax : Nat} {name : ByteArray} (h : EntAt w eb id name xmin xmax) (ho : Only S w w') (hn : ¬ S eb) : EntAt w' eb id name xmin xmax :=
  ⟨ho.cell h.c0 hn, ho.cell h.c1 hn, ho.cell h.c2 hn, ho.cell h.c3 hn⟩

theorem tupE_v (xmin xmax : Nat) : tupV (tupE xmin xmax) none 0 = .agg #[.int .u64 0, .int .u64 (xmin : Int), .int .u64 (xmax : Int), .int .i64 0, .int .i64 0, .slice none 0 0] := rfl

set_option maxHeartbeats 400000 in
set_option maxRecDepth 100000 in
theorem entry_tuple {w : World} {eb id xmin xmax : Nat} {name : ByteArray} (h : EntAt w eb id name xmin xmax) :
    Calls Tryz.prog 137 #[.pointer (some ⟨eb, 0, none⟩)] w fun e w' => e = .returned (tupV (tupE xmin xmax) none 0) ∧ Quiet w w' := by
  obtain ⟨c0, c1, c2, c3⟩ := h
  have hl := cell_lt c0
  have hl2 : ¬ eb = w.heap.size := by have : eb < w.heap.size := hl; omega
  rw [tupE_v]
  go_enter Tryz.func137, Tryz.ntmps137
  go_wp2_with fail
  go_region
  all_goals
    go_wp2
    exact bodyPost_ret (v := .agg #[.int .u64 0, .int .u64 (xmin : Int), .int .u64 (xmax : Int), .int .i64 0, .int .i64 0, .slice none 0 0]) (by simp [results, Tryz.results137, go_sem]) rfl ⟨rfl, ((Only.refl _ _).alloc _).drew⟩

theorem snapBox_cells {w : World} {b : Nat} {s : Snap} {A : Option Addr} {c : Nat} (h : w.heap[b]? = some (.cells (snapCells s A c) 88 (0, 0))) :
    w.cell? ⟨b, 0, none⟩ = some (.int .u64 (s.own : Int)) ∧ w.cell? ⟨b, 1, none⟩ = some (.int .u64 (s.xmin : Int)) ∧ w.cell? ⟨b, 2, none⟩ = some (.int .u64 (s.xmax : Int)) ∧ w.cell? ⟨b, 3, none⟩ = some (.slice A s.run.length c) :=
  ⟨by rw [cell_of h]; rfl, by rw [cell_of h]; rfl, by rw [cell_of h]; rfl, by rw [cell_of h]; rfl⟩

set_option maxHeartbeats 1000000 in
set_option maxRecDepth 100000 in
theorem entry_visible {w : World} {F S : Nat → Prop} {lb eb id xmin xmax c : Nat} {name : ByteArray} {L : List Nat} {A : Option Addr} {s : Snap} (h : EntAt w eb id name xmin xmax) (hl : LogAt w F lb L) (hs : SnapV w S A c s) (h1 : U64 xmin) (h2 : U64 xmax) :
    Calls Tryz.prog 88 #[.pointer (some ⟨eb, 0, none⟩), .pointer (some ⟨lb, 0, none⟩), snapV s A c] w (BoolQ w (visS L s xmin xmax)) := by
  have HQ : Hid (Quiet w (w.alloc (.cells (snapCells s A c) 88))) := (Only.refl _ _).alloc _
  have HTU : Hid (∀ W, Quiet w W → Calls Tryz.prog 137 #[.pointer (some ⟨eb, 0, none⟩)] W fun e w' => e = .returned (tupV (tupE xmin xmax) none 0) ∧ Quiet W w') := fun W hq => entry_tuple (h.kept hq (fun x => x))
  have HV : Hid (∀ W, Quiet w W → Calls Tryz.prog 82 #[.pointer (some ⟨lb, 0, none⟩), snapV s A c, tupV (tupE xmin xmax) none 0] W (BoolQ W (visS L s xmin xmax))) := fun W hq => snap_visible (tupE xmin xmax) none 0 (hl.kept hq (fun _ _ x => x)) (hs.kept hq (fun _ _ x => x)) h1 h2
  have HB := Lib.hid (alloc_new w (.cells (snapCells s A c) 88))
  generalize visS L s xmin xmax = r at HV ⊢
  rw [tupE_v] at HTU HV
  unfold snapV at *
  clear h hl hs h1 h2
  go_enter Tryz.func88, Tryz.ntmps88
  go_wp2_with fail
  go_region_held3 (fun w' => w'.cell? ⟨w.heap.size, 0, none⟩ = some (.int .u64 (s.own : Int)) ∧ w'.cell? ⟨w.heap.size, 1, none⟩ = some (.int .u64 (s.xmin : Int)) ∧ w'.cell? ⟨w.heap.size, 2, none⟩ = some (.int .u64 (s.xmax : Int)) ∧ w'.cell? ⟨w.heap.size, 3, none⟩ = some (.slice A s.run.length c))
    (first | go_keep | exact snapBox_cells (hq3.get (hq2.get (by exact HB.out) (fun x => x)) (fun x => x)) | exact snapBox_cells (hq2.get (by exact HB.out) (fun x => x)) | fail)
    (first
      | (go_at_call 137; go_must (refine (HTU.out _ (HQ.out.drew)).mono ?_; rintro e w2 ⟨rfl, hq2⟩))
      | (go_at_call 82; go_must (refine (HV.out _ (HQ.out.drew.trans hq2)).mono ?_; rintro e w3 ⟨rfl, hq3⟩))
      | fail)
  have HQ3 := Lib.hid ((HQ.out.drew.trans hq2).trans hq3)
  clear hq2 hq3 HV HTU HB HQ
  go_wp2
  go_ret
  exact ⟨rfl, HQ3.out⟩

theorem elem_col : Elem Tryz.prog 35 116 2 24 := Elem.mk' (.agg #[.string ⟨#[]⟩, .int .u8 0]) Tryz.underlying35 (by kernel_rfl) rfl (by decide)

/-- New columns. -/
structure FreshC (w w' : World) (v : Value) (l : List (ByteArray × Nat)) : Prop where
  quiet : Quiet w w'
  new : ∀ k, v.ownBlock = some k → w.heap.size ≤ k
  own : w'.ownsRow 0 116 2 v l.length (colsV l)

def FreshCPost (w : World) (l : List (ByteArray × Nat)) (e : Ending) (w' : World) : Prop := ∃ v, e = .returned v ∧ FreshC w w' v l

set_option maxHeartbeats 400000 in
set_option maxRecDepth 100000 in
theorem clone_cols (A : Option Addr) (cap : Nat) (l : List (ByteArray × Nat)) (S : Nat → Prop) (w : World) (hr : Rd w S 2 A l.length (colsV l)) (hl : l.length ≤ 1000) (h0 : 0 < l.length) :
    Calls Tryz.prog 100 #[.slice A l.length cap] w (FreshCPost w l) := by
  have heq := fun (w : World) (a : Option Addr) (n c : Nat) => Lib.run_eql_slice_nil (P := Tryz.prog) w 35 _ a n c 0 0 Tryz.underlying35
  obtain ⟨b, off, rfl, _⟩ := hr.cells (by rw [colsV_len]; omega)
  have HR := Lib.hid hr
  clear hr
  go_enter Tryz.func100, Tryz.ntmps100
  go_wp2_with (at_builtin; refine app elem_col rfl (.tmp 5) (.tmp 6) rfl rfl (owns_empty w _ _) rfl (HR.out.kept ((Only.refl (fun _ => False) w).alloc _) (fun _ _ x => x)) (one_cols l) (by unfold maxLen; omega) (by omega) ?_)
  intro v w1 hg
  have HF : Hid (FreshC w w1 v l) := by
    refine ⟨((Only.refl _ _).alloc _).trans' hg.only (fun k hk e => by simp [Value.ownBlock] at e; omega), fun k e => ?_, hg.own⟩
    rcases hg.loc with x | x <;> rw [x] at e
    · simp [Value.ownBlock] at e; omega
    · injection e with e; simp at e; omega
  clear hg
  go_wp2
  go_ret
  exact ⟨v, rfl, HF.out⟩

end Go.Proofs.YtaijnpgoiagboaaGreatDoor

namespace Go.Lap

theorem anyMem {α : Type} {p : α → Bool} {xs : Array α} : xs.any p = true ↔ ∃ x ∈ xs, p x = true := by
  rw [Array.any_eq_true]
  constructor
  · rintro ⟨i, hi, h⟩
    exact ⟨xs[i], Array.getElem_mem hi, h⟩
  · rintro ⟨x, hx, h⟩
    obtain ⟨i, hi, rfl⟩ := Array.mem_iff_getElem.1 hx
    exact ⟨i, hi, h⟩

theorem allMem {α : Type} {p : α → Bool} {xs : Array α} : xs.all p = true ↔ ∀ x ∈ xs, p x = true := by
  rw [Array.all_eq_true]
  constructor
  · intro h x hx
    obtain ⟨i, hi, rfl⟩ := Array.mem_iff_getElem.1 hx
    exact h i hi
  · exact fun h i hi => h _ (Array.getElem_mem hi)

section
variable {P : Program} {Q : Exit → Act → World → Prop}

/-- What is asked behind the others: the last operation. -/
def LastQ (P : Program) (ops : Array Oper) (Q : Exit → Act → World → Prop) : Exit → Act → World → Prop
  | .normal, a, w => wpOp P ops Q (ops.size - 1) (fun a' w' => Q .normal a' w') a w
  | .exit i, a, w => Q (.exit i) a w
  | .goto l, a, w => Q (.goto l) a w
  | .ret, a, w => Q .ret a w
  | .panic c, a, w => Q (.panic c) a w
  | .outgrown, a, w => Q .outgrown a w

/-- All edges go back, and the guards; the last one waits for all. -/
def lastOk (ops : Array Oper) : Bool :=
  (List.range ops.size).all (fun j => (ops[j]?).any fun o => o.after.all (fun e => decide (e.on < j)) && (match o.guard with | none => true | some (g, _) => decide (g < j))) &&
  (List.range (ops.size - 1)).all (fun i => (ops[ops.size - 1]?).any fun o => o.after.any fun e => Region.binds .any e && (e.on == i || (ops[e.on]?).any fun o' => o'.after.any fun e' => Region.binds .any e' && e'.on == i))

theorem lastOk_edges {ops : Array Oper} (h : lastOk ops = true) {j : Nat} {o : Oper} (ho : ops[j]? = some o) : (∀ e ∈ o.after, e.on < j) ∧ ∀ g b, o.guard = some (g, b) → g < j := by
  unfold lastOk at h
  rw [Bool.and_eq_true] at h
  have h1 := h.1
  rw [List.all_eq_true] at h1
  have hj : j < ops.size := (Array.getElem?_eq_some_iff.1 ho).1
  have h2 := h1 j (List.mem_range.2 hj)
  rw [ho] at h2
  simp only [Option.any_some, Bool.and_eq_true] at h2
  refine ⟨fun e he => ?_, fun g b hg => ?_⟩
  · have := h2.1
    rw [allMem] at this
    exact of_decide_eq_true (this e he)
  · have := h2.2
    rw [hg] at this
    exact of_decide_eq_true this

theorem lastOk_waits {ops : Array Oper} (h : lastOk ops = true) {i : Nat} (hi : i < ops.size - 1) {o : Oper} (ho : ops[ops.size - 1]? = some o) :
    ∃ e ∈ o.after, Region.binds .any e = true ∧ (e.on = i ∨ ∃ o', ops[e.on]? = some o' ∧ ∃ e' ∈ o'.after, Region.binds .any e' = true ∧ e'.on = i) := by
  unfold lastOk at h
  rw [Bool.and_eq_true] at h
  have h1 := h.2
  rw [List.all_eq_true] at h1
  have h2 := h1 i (List.mem_range.2 hi)
  rw [ho] at h2
  simp only [Option.any_some] at h2
  rw [anyMem] at h2
  obtain ⟨e, he, h3⟩ := h2
  rw [Bool.and_eq_true, Bool.or_eq_true] at h3
  refine ⟨e, he, h3.1, ?_⟩
  rcases h3.2 with h4 | h4
  · exact Or.inl (by simpa using h4)
  · cases hq : ops[e.on]? with
    | none => rw [hq] at h4; simp at h4
    | some o' =>
      rw [hq] at h4
      simp only [Option.any_some] at h4
      rw [anyMem] at h4
      obtain ⟨e', he', h5⟩ := h4
      rw [Bool.and_eq_true] at h5
      exact Or.inr ⟨o', rfl, e', he', h5.1, by simpa using h5.2⟩

theorem pop_get {ops : Array Oper} {i : Nat} (h : i < ops.size - 1) : ops.pop[i]? = ops[i]? := by
  rw [Array.getElem?_pop, if_pos h]

theorem push_getD {listed : Array Bool} {i : Nat} (b d : Bool) (h : i < listed.size) : (listed.push b).getD i d = listed.getD i d := by
  simp [Array.getElem?_push, h, Nat.ne_of_lt h]

theorem push_getD_last {listed : Array Bool} (b d : Bool) : (listed.push b).getD listed.size d = b := by
  simp

theorem getD_any {listed : Array Bool} {i : Nat} (d d' : Bool) (h : i < listed.size) : listed.getD i d = listed.getD i d' := by
  simp [h]

theorem push_set {listed : Array Bool} {i : Nat} (b : Bool) (h : i < listed.size) : (listed.push b).setIfInBounds i true = (listed.setIfInBounds i true).push b := by
  apply Array.ext
  · simp
  · intro j h1 h2
    simp only [Array.size_setIfInBounds, Array.size_push] at h1
    rw [Array.getElem_setIfInBounds (by simpa using h1), Array.getElem_push, Array.getElem_push]
    by_cases hj : j < listed.size
    · simp only [Array.size_setIfInBounds, hj, dite_true]
      rw [Array.getElem_setIfInBounds hj]
    · simp only [Array.size_setIfInBounds, hj, dite_false]
      rw [if_neg (by omega)]

/-- What is listed has all listed that it waits for. -/
def Shutd (ops : Array Oper) (listed : Array Bool) : Prop := ∀ (j : Nat) (o : Oper), ops[j]? = some o → listed.getD j false = true → ∀ e ∈ o.after, Region.binds .any e = true → listed.getD e.on false = true

theorem Shutd.start (ops : Array Oper) (n : Nat) : Shutd ops (Array.replicate n false) := by
  intro j o _ h
  by_cases hj : j < n
  · simp [hj] at h
  · simp [hj] at h

theorem set_getD_true {listed : Array Bool} {i j : Nat} (h : listed.getD j false = true) : (listed.setIfInBounds i true).getD j false = true := by
  by_cases e : i = j
  · subst e
    have hl : i < listed.size := by
      rcases Nat.lt_or_ge i listed.size with x | x
      · exact x
      · simp [Array.getElem?_eq_none x] at h
    simp [hl]
  · rw [getD_set_ne false e]; exact h

theorem Shutd.set {ops : Array Oper} {listed : Array Bool} {i : Nat} (h : Shutd ops listed) (hr : ∀ o, ops[i]? = some o → ∀ e ∈ o.after, Region.binds .any e = true → listed.getD e.on false = true) : Shutd ops (listed.setIfInBounds i true) := by
  intro j o ho hl e he hb
  by_cases hij : i = j
  · subst hij
    exact set_getD_true (hr o ho e he hb)
  · rw [getD_set_ne false hij] at hl
    exact set_getD_true (h j o ho hl e he hb)

variable {ops : Array Oper}

theorem ready_pop {listed : Array Bool} (hok : lastOk ops = true) (hs : listed.size = ops.size - 1) {i : Nat} (hi : i < ops.size - 1) : i ∈ Region.ready .any ops (listed.push false) ↔ i ∈ Region.ready .any ops.pop listed := by
  rw [mem_ready, mem_ready, push_getD _ _ (by omega), pop_get hi]
  constructor
  · rintro ⟨h1, o, ho, h2⟩
    refine ⟨h1, o, ho, fun e he hb => ?_⟩
    have := (lastOk_edges hok ho).1 e he
    have h3 := h2 e he hb
    rw [push_getD _ _ (by omega)] at h3
    exact h3
  · rintro ⟨h1, o, ho, h2⟩
    refine ⟨h1, o, ho, fun e he hb => ?_⟩
    have := (lastOk_edges hok ho).1 e he
    rw [push_getD _ _ (by omega)]
    exact h2 e he hb

theorem ready_lt {listed : Array Bool} {i : Nat} (h : i ∈ Region.ready .any ops listed) : i < ops.size := by
  obtain ⟨_, o, ho, _⟩ := mem_ready.1 h
  exact (Array.getElem?_eq_some_iff.1 ho).1

/-- If none is ready all are listed. -/
theorem all_listed {listed : Array Bool} (hok : lastOk ops = true) (hs : listed.size = ops.size - 1) (hr : Region.ready .any ops.pop listed = []) : ∀ (k i : Nat), i < k → i < ops.size - 1 → listed.getD i false = true := by
  intro k
  induction k with
  | zero => intro i h; omega
  | succ k ih =>
    intro i _ hi
    cases hl : listed.getD i false with
    | true => rfl
    | false =>
      have hlt : i < ops.size := by omega
      have : i ∈ Region.ready .any ops.pop listed := by
        rw [mem_ready, pop_get hi]
        refine ⟨by rw [getD_any true false (by omega)]; exact hl, ops[i], Array.getElem?_eq_getElem hlt, fun e he _ => ?_⟩
        have := (lastOk_edges hok (Array.getElem?_eq_getElem hlt)).1 e he
        exact ih e.on (by omega) (by omega)
      rw [hr] at this
      cases this

theorem last_ready {listed : Array Bool} (hok : lastOk ops = true) (h0 : 0 < ops.size) (hs : listed.size = ops.size - 1) (hall : ∀ i, i < ops.size - 1 → listed.getD i false = true) : ops.size - 1 ∈ Region.ready .any ops (listed.push false) := by
  rw [mem_ready]
  have hlt : ops.size - 1 < ops.size := by omega
  refine ⟨by rw [← hs]; exact push_getD_last _ _, ops[ops.size - 1], Array.getElem?_eq_getElem hlt, fun e he _ => ?_⟩
  have := (lastOk_edges hok (Array.getElem?_eq_getElem hlt)).1 e he
  rw [push_getD _ _ (by omega)]
  exact hall e.on this

theorem wanted_pop (hok : lastOk ops = true) {i : Nat} {o : Oper} (hi : i < ops.size - 1) (ho : ops[i]? = some o) (tmps : Array Value) : Region.wanted o (yielded ops.pop tmps) = Region.wanted o (yielded ops tmps) := by
  unfold Region.wanted
  cases hg : o.guard with
  | none => rfl
  | some gb =>
    obtain ⟨g, b⟩ := gb
    have := (lastOk_edges hok ho).2 g b hg
    simp only [yielded]
    rw [pop_get (by omega)]

theorem wpOp_pop (hok : lastOk ops = true) {i : Nat} (hi : i < ops.size - 1) {K : Act → World → Prop} {a : Act} {w : World} (h : wpOp P ops.pop (LastQ P ops Q) i K a w) : wpOp P ops Q i K a w := by
  have hlt : i < ops.size := by omega
  have ho : ops[i]? = some ops[i] := Array.getElem?_eq_getElem hlt
  unfold wpOp at *
  rw [pop_get hi] at h
  simp only [ho] at h ⊢
  rw [wanted_pop hok hi ho] at h
  by_cases hw : Region.wanted ops[i] (yielded ops a.tmps) = true
  · rw [if_pos hw] at h ⊢
    rcases h with h | ⟨h, hl⟩
    · refine Or.inl ?_
      unfold Oper.wp at *
      generalize (execOp a.eval ops[i]).run P w = r at *
      cases r with
      | ok n w' =>
        cases n <;> simp only [Oper.upon] at h ⊢ <;>
          first
            | exact h
            | exact Calls.mono h (fun e w'' he => by cases e <;> exact he)
      | halt x w' => cases x <;> simp only [Oper.upon] at h ⊢ <;> exact h
    · exact Or.inr ⟨h, hl⟩
  · rw [if_neg hw] at h ⊢
    exact h

theorem wpAny_last (hok : lastOk ops = true) (h0 : 0 < ops.size) : ∀ (fuel : Nat) (listed : Array Bool) (a : Act) (w : World), listed.size = ops.size - 1 → Shutd ops listed → wpAny P .any ops.pop (LastQ P ops Q) fuel listed a w → wpAny P .any ops Q (fuel + 1) (listed.push false) a w := by
  intro fuel
  induction fuel with
  | zero =>
    intro listed a w hs hc H
    have hall := fun i hi => all_listed hok hs H.1 (i + 1) i (Nat.lt_succ_self i) hi
    refine ⟨fun hr => ?_, fun i hi => ?_⟩
    · have := last_ready hok h0 hs hall
      rw [hr] at this
      cases this
    · have hlt := ready_lt hi
      by_cases hn : i < ops.size - 1
      · have := (ready_pop hok hs hn).1 hi
        rw [H.1] at this
        cases this
      · obtain rfl : i = ops.size - 1 := by omega
        refine wpOp_mono (fun a' w' hq => ?_) H.2
        exact ⟨(by
          rw [List.eq_nil_iff_forall_not_mem]
          intro j hj
          have h1 := ready_lt hj
          have h2 := (mem_ready.1 hj).1
          by_cases hjn : j = ops.size - 1
          · subst hjn
            rw [← hs] at h2
            simp at h2
          · rw [getD_set_ne true (by omega), push_getD _ _ (by omega), getD_any true false (by omega), hall j (by omega)] at h2
            cases h2), hq⟩
  | succ f ih =>
    intro listed a w hs hc H
    refine ⟨fun hr => ?_, fun i hi => ?_⟩
    · have hr' : Region.ready .any ops.pop listed = [] := by
        rw [List.eq_nil_iff_forall_not_mem]
        intro j hj
        have h1 := ready_lt hj
        rw [Array.size_pop] at h1
        have := (ready_pop hok hs h1).2 hj
        rw [hr] at this
        cases this
      have hall := fun i hi => all_listed hok hs hr' (i + 1) i (Nat.lt_succ_self i) hi
      have := last_ready hok h0 hs hall
      rw [hr] at this
      cases this
    · have hlt := ready_lt hi
      by_cases hn : i < ops.size - 1
      · have hi' := (ready_pop hok hs hn).1 hi
        refine wpOp_mono (fun a' w' hq => ?_) (wpOp_pop hok hn (H.2 i hi'))
        rw [push_set _ (by omega)]
        refine ih _ a' w' (by simpa using hs) (hc.set (fun o ho e he hb => ?_)) hq
        obtain ⟨_, o', ho', h2⟩ := mem_ready.1 hi'
        rw [pop_get hn, ho] at ho'
        injection ho' with ho'
        subst ho'
        exact h2 e he hb
      · obtain rfl : i = ops.size - 1 := by omega
        obtain ⟨_, o, ho, h2⟩ := mem_ready.1 hi
        have hall : ∀ j, j < ops.size - 1 → listed.getD j false = true := by
          intro j hj
          obtain ⟨e, he, hb, h3⟩ := lastOk_waits hok hj ho
          have h4 := h2 e he hb
          have h5 := (lastOk_edges hok ho).1 e he
          rw [push_getD _ _ (by omega)] at h4
          rcases h3 with rfl | ⟨o', ho', e', he', hb', rfl⟩
          · exact h4
          · exact hc e.on o' ho' h4 e' he' hb'
        have hr' : Region.ready .any ops.pop listed = [] := by
          rw [List.eq_nil_iff_forall_not_mem]
          intro j hj
          have h1 := ready_lt hj
          rw [Array.size_pop] at h1
          have h2 := (mem_ready.1 hj).1
          rw [getD_any true false (by omega), hall j h1] at h2
          cases h2
        refine wpOp_mono (fun a' w' hq => ?_) (H.1 hr')
        refine ⟨fun _ => hq, fun j hj => ?_⟩
        have h1 := ready_lt hj
        have h2 := (mem_ready.1 hj).1
        by_cases hjn : j = ops.size - 1
        · subst hjn
          rw [← hs] at h2
          simp at h2
        · rw [getD_set_ne true (by omega), push_getD _ _ (by omega), getD_any true false (by omega), hall j (by omega)] at h2
          cases h2

/-- The beginning: S is held till all but the last one have come up. -/
theorem wp_region_last {S : World → Prop} {id : Nat} {a : Act} {w : World} (hm : P.follows .mixedOrders = true) (hok : lastOk ops = true) (h0 : 0 < ops.size) (hS : S w.drew)
    (h : S w.drew → wpAnyH P .any ops.pop (LastQ P ops Q) S (ops.size - 1) (Array.replicate (ops.size - 1) false) a w.drew) : (Code.region id ops true).wp P Q a w := by
  refine wp_region_any hm ?_
  have h1 := wpAny_last hok h0 (ops.size - 1) (Array.replicate (ops.size - 1) false) a w.drew (by simp) (Shutd.start _ _) (wpAny_of_held _ _ _ _ (h hS))
  have e : (Array.replicate (ops.size - 1) false).push false = Array.replicate ops.size false := by
    rw [← Array.replicate_succ]
    congr 1
    omega
  rw [e, show ops.size - 1 + 1 = ops.size by omega] at h1
  exact h1

theorem last_panic {c : List PanicEntry} {a a' : Act} {w : World} (hq : Q (.panic c) a' w → Q (.panic c) a w) (h : LastQ P ops Q (.panic c) a' w) : LastQ P ops Q (.panic c) a w := hq h

/-- The last one. -/
theorem last_step {o : Oper} {a : Act} {w : World} (ho : ops[ops.size - 1]? = some o)
    (h : ∀ K' : Act → World → Prop, Shut (∀ a w, Q .normal a w → K' a w) → if Region.wanted o (yielded ops a.tmps) = true then Oper.wp P o a w K' Q else K' (a.put o.dst undef) w) : LastQ P ops Q .normal a w := by
  have h1 := h (fun a' w' => Q .normal a' w') (fun _ _ x => x)
  show wpOp P ops Q (ops.size - 1) (fun a' w' => Q .normal a' w') a w
  unfold wpOp
  simp only [ho]
  by_cases hw : Region.wanted o (yielded ops a.tmps) = true
  · rw [if_pos hw] at h1 ⊢; exact Or.inl h1
  · rw [if_neg hw] at h1 ⊢; exact h1

end
end Go.Lap

namespace Go.Proofs.YtaijnpgoiagboaaGreatDoor
open Go.RowKit Go.Lap

/-- Block tb is a table's entry; its columns lie in F. -/
structure TblAt (w : World) (F : Nat → Prop) (tb : Nat) (e : TE) : Prop where
  ex : ∃ A c, w.heap[tb]? = some (.cells #[.int .u64 (e.id : Int), .string e.name, .int .u64 (e.xmin : Int), .int .u64 (e.xmax : Int), .slice A e.cols.length c] 187 (0, 0)) ∧ Rd w F 2 A e.cols.length (colsV e.cols) ∧ e.cols.length ≤ c ∧ c ≤ maxLen
  own : F tb
  pos : 0 < e.cols.length ∧ e.cols.length ≤ 8
  num : U64 e.id ∧ U64 e.xmin ∧ U64 e.xmax
  typ : ∃ A c, w.heap[tb]? = some (.cells #[.int .u64 (e.id : Int), .string e.name, .int .u64 (e.xmin : Int), .int .u64 (e.xmax : Int), .slice A e.cols.length c] 187 (0, 0)) ∧ ∀ g, (Value.slice A e.cols.length c).ownBlock = some g → F g ∧ ∃ cur, w.heap[g]? = some (.cells cur 116 (0, 0))

theorem TblAt.kept {S F : Nat → Prop} {w w' : World} {tb : Nat} {e : TE} (h : TblAt w F tb e) (ho : Only S w w') (hn : ∀ k, F k → ¬ S k) : TblAt w' F tb e := by
  obtain ⟨A, c, h1, h2, h3⟩ := h.ex
  obtain ⟨A', c', t1, t2⟩ := h.typ
  exact ⟨⟨A, c, ho.get h1 (hn _ h.own), h2.kept ho hn, h3⟩, h.own, h.pos, h.num, A', c', ho.get t1 (hn _ h.own), fun g e => ⟨(t2 g e).1, by obtain ⟨cur, hh⟩ := (t2 g e).2; exact ⟨cur, ho.get hh (hn g (t2 g e).1)⟩⟩⟩
theorem TblAt.mono {F G : Nat → Prop} {w : World} {tb : Nat} {e : TE} (h : TblAt w F tb e) (hg : ∀ k, F k → G k) : TblAt w G tb e := by
  obtain ⟨A, c, h1, h2, h3⟩ := h.ex
  obtain ⟨A', c', t1, t2⟩ := h.typ
  exact ⟨⟨A, c, h1, h2.mono hg, h3⟩, hg _ h.own, h.pos, h.num, A', c', t1, fun g e => ⟨hg g (t2 g e).1, (t2 g e).2⟩⟩
theorem TblAt.ent {F : Nat → Prop} {w : World} {tb : Nat} {e : TE} (h : TblAt w F tb e) : EntAt w tb e.id e.name e.xmin e.xmax := by
  obtain ⟨A, c, h1, _⟩ := h.ex
  exact ⟨by rw [cell_of h1]; rfl, by rw [cell_of h1]; rfl, by rw [cell_of h1]; rfl, by rw [cell_of h1]; rfl⟩

/-- A table as a value. -/
def tabV (e : TE) (A : Option Addr) (c : Nat) : Value := .agg #[.int .u64 (e.id : Int), .string e.name, .slice A e.cols.length c, .int .u64 (e.xmin : Int), .int .u64 (e.xmax : Int)]

/-- What told tells. -/
def ToldPost (w : World) (t : TE) (e : Ending) (w' : World) : Prop := ∃ A c, e = .returned (tabV t A c) ∧ FreshC w w' (.slice A t.cols.length c) t.cols

theorem info_tab : (Tryz.prog.info? 37).map (·.size) = some 5 := by kernel_rfl

abbrev fiveSet (w : World) (b : Nat) (v0 v1 v2 v3 v4 : Value) : World := ((((w.setCell ⟨b, 0, none⟩ v0).setCell ⟨b, 1, none⟩ v1).setCell ⟨b, 2, none⟩ v2).setCell ⟨b, 3, none⟩ v3).setCell ⟨b, 4, none⟩ v4
theorem fiveSet_same {w : World} {b : Nat} {c0 c1 c2 c3 c4 : Value} {t : TypeId} (h : w.heap[b]? = some (.cells #[c0, c1, c2, c3, c4] t (0, 0))) (v0 v1 v2 v3 v4 : Value) : (fiveSet w b v0 v1 v2 v3 v4).heap[b]? = some (.cells #[v0, v1, v2, v3, v4] t (0, 0)) := by
  rw [set_same (set_same (set_same (set_same (set_same h _ _) _ _) _ _) _ _) _ _]
  rfl
theorem fiveSet_only (w : World) (b : Nat) (v0 v1 v2 v3 v4 : Value) : Only (· = b) w (fiveSet w b v0 v1 v2 v3 v4) :=
  (((((Only.refl (· = b) w).setCell (p := ⟨b, 0, none⟩) (fun _ => rfl) v0).setCell (p := ⟨b, 1, none⟩) (fun _ => rfl) v1).setCell (p := ⟨b, 2, none⟩) (fun _ => rfl) v2).setCell (p := ⟨b, 3, none⟩) (fun _ => rfl) v3).setCell (p := ⟨b, 4, none⟩) (fun _ => rfl) v4

theorem five_kept {S : Nat → Prop} {w w' : World} {b : Nat} {v0 v1 v2 v3 v4 : Value} (h0 : w.cell? ⟨b, 0, none⟩ = some v0) (h1 : w.cell? ⟨b, 1, none⟩ = some v1) (h2 : w.cell? ⟨b, 2, none⟩ = some v2) (h3 : w.cell? ⟨b, 3, none⟩ = some v3) (h4 : w.cell? ⟨b, 4, none⟩ = some v4) (ho : Only S w w') (hn : ¬ S b) :
    w'.cell? ⟨b, 0, none⟩ = some v0 ∧ w'.cell? ⟨b, 1, none⟩ = some v1 ∧ w'.cell? ⟨b, 2, none⟩ = some v2 ∧ w'.cell? ⟨b, 3, none⟩ = some v3 ∧ w'.cell? ⟨b, 4, none⟩ = some v4 :=
  ⟨ho.cell h0 hn, ho.cell h1 hn, ho.cell h2 hn, ho.cell h3 hn, ho.cell h4 hn⟩

set_option maxHeartbeats 1000000 in
set_option maxRecDepth 100000 in
theorem table_told {w : World} {F : Nat → Prop} {tb : Nat} {t : TE} (h : TblAt w F tb t) :
    Calls Tryz.prog 87 #[.pointer (some ⟨tb, 0, none⟩)] w (ToldPost w t) := by
  obtain ⟨c0, c1, c2, c3⟩ := h.ent
  obtain ⟨A, c, hb, hr, hc, hcm⟩ := h.ex
  have c4 : w.cell? ⟨tb, 4, none⟩ = some (.slice A t.cols.length c) := by rw [cell_of hb]; rfl
  have hl := lt_of_get hb
  have hl2 : ¬ tb = w.heap.size := by omega
  have HCL : Hid (∀ W, Quiet w W → Calls Tryz.prog 100 #[.slice A t.cols.length c] W (FreshCPost W t.cols)) := fun W hq => clone_cols A c t.cols F W (hr.kept hq (fun _ _ x => x)) (by have := h.pos; omega) h.pos.1
  clear h hb hr hc hcm
  go_enter Tryz.func87, Tryz.ntmps87
  go_wp2_with fail
  refine wp_region_held_drew (S := fun w' => w'.cell? ⟨tb, 0, none⟩ = some (.int .u64 (t.id : Int)) ∧ w'.cell? ⟨tb, 1, none⟩ = some (.string t.name) ∧ w'.cell? ⟨tb, 2, none⟩ = some (.int .u64 (t.xmin : Int)) ∧ w'.cell? ⟨tb, 3, none⟩ = some (.int .u64 (t.xmax : Int)) ∧ w'.cell? ⟨tb, 4, none⟩ = some (.slice A t.cols.length c)) (by kernel_rfl) (five_kept c0 c1 c2 c3 c4 (((Only.refl (fun _ => False) w).alloc _).drew) (fun x => x)) (fun hHeld => ?_)
  simp only [List.size_toArray, List.length_cons, List.length_nil, Nat.reduceAdd]
  (refine zTK 0 (oi := ?_) (v := ?_) ?_ ?_ (Or.inl ⟨?_, ?_⟩) ?_; rotate_left 2; (focus (simp only [zGA, zGZ, zGS] <;> rfl)); (focus (exact fun _ _ _ h => h)); (focus rfl); (focus (intro w hSw; (try dsimp only at hSw); go_simp; (try with_reducible rfl); done)); (try simp only [Act.put, zPA, zPZ, zPS]))
  (refine zTK 1 (oi := ?_) (v := ?_) ?_ ?_ (Or.inl ⟨?_, ?_⟩) ?_; rotate_left 2; (focus (simp only [zGA, zGZ, zGS] <;> rfl)); (focus (exact fun _ _ _ h => h)); (focus rfl); (focus (intro w hSw; (try dsimp only at hSw); go_simp; (try with_reducible rfl); done)); (try simp only [Act.put, zPA, zPZ, zPS]))
  (refine zTK 2 (oi := ?_) (v := ?_) ?_ ?_ (Or.inl ⟨?_, ?_⟩) ?_; rotate_left 2; (focus (simp only [zGA, zGZ, zGS] <;> rfl)); (focus (exact fun _ _ _ h => h)); (focus rfl); (focus (intro w hSw; (try dsimp only at hSw); go_simp; (try with_reducible rfl); done)); (try simp only [Act.put, zPA, zPZ, zPS]))
  (refine zTK 3 (oi := ?_) (v := ?_) ?_ ?_ (Or.inl ⟨?_, ?_⟩) ?_; rotate_left 2; (focus (simp only [zGA, zGZ, zGS] <;> rfl)); (focus (exact fun _ _ _ h => h)); (focus rfl); (focus (intro w hSw; (try dsimp only at hSw); go_simp; (try with_reducible rfl); done)); (try simp only [Act.put, zPA, zPZ, zPS]))
  (refine zTK 4 (oi := ?_) (v := ?_) ?_ ?_ (Or.inl ⟨?_, ?_⟩) ?_; rotate_left 2; (focus (simp only [zGA, zGZ, zGS] <;> rfl)); (focus (exact fun _ _ _ h => h)); (focus rfl); (focus (intro w hSw; (try dsimp only at hSw); go_simp; (try with_reducible rfl); done)); (try simp only [Act.put, zPA, zPZ, zPS]))
  (refine zTK 5 (oi := ?_) (v := ?_) ?_ ?_ (Or.inl ⟨?_, ?_⟩) ?_; rotate_left 2; (focus (simp only [zGA, zGZ, zGS] <;> rfl)); (focus (exact fun _ _ _ h => h)); (focus rfl); (focus (intro w hSw; (try dsimp only at hSw); go_simp; (try with_reducible rfl); done)); (try simp only [Act.put, zPA, zPZ, zPS]))
  (refine zTK 6 (oi := ?_) (v := ?_) ?_ ?_ (Or.inl ⟨?_, ?_⟩) ?_; rotate_left 2; (focus (simp only [zGA, zGZ, zGS] <;> rfl)); (focus (exact fun _ _ _ h => h)); (focus rfl); (focus (intro w hSw; (try dsimp only at hSw); go_simp; (try with_reducible rfl); done)); (try simp only [Act.put, zPA, zPZ, zPS]))
  (refine zTK 7 (oi := ?_) (v := ?_) ?_ ?_ (Or.inl ⟨?_, ?_⟩) ?_; rotate_left 2; (focus (simp only [zGA, zGZ, zGS] <;> rfl)); (focus (exact fun _ _ _ h => h)); (focus rfl); (focus (intro w hSw; (try dsimp only at hSw); go_simp; (try with_reducible rfl); done)); (try simp only [Act.put, zPA, zPZ, zPS]))
  (refine zTK 8 (oi := ?_) (v := ?_) ?_ ?_ (Or.inl ⟨?_, ?_⟩) ?_; rotate_left 2; (focus (simp only [zGA, zGZ, zGS] <;> rfl)); (focus (exact fun _ _ _ h => h)); (focus rfl); (focus (intro w hSw; (try dsimp only at hSw); go_simp; (try with_reducible rfl); done)); (try simp only [Act.put, zPA, zPZ, zPS]))
  (refine zTK 9 (oi := ?_) (v := ?_) ?_ ?_ (Or.inl ⟨?_, ?_⟩) ?_; rotate_left 2; (focus (simp only [zGA, zGZ, zGS] <;> rfl)); (focus (exact fun _ _ _ h => h)); (focus rfl); (focus (intro w hSw; (try dsimp only at hSw); go_simp; (try with_reducible rfl); done)); (try simp only [Act.put, zPA, zPZ, zPS]))
  (refine zTK 10 (oi := ?_) (v := ?_) ?_ ?_ (Or.inl ⟨?_, ?_⟩) ?_; rotate_left 2; (focus (simp only [zGA, zGZ, zGS] <;> rfl)); (focus (exact fun _ _ _ h => h)); (focus rfl); (focus (intro w hSw; (try dsimp only at hSw); go_simp; (try with_reducible rfl); done)); (try simp only [Act.put, zPA, zPZ, zPS]))
  (refine zTK 11 (oi := ?_) (v := ?_) ?_ ?_ (Or.inl ⟨?_, ?_⟩) ?_; rotate_left 2; (focus (simp only [zGA, zGZ, zGS] <;> rfl)); (focus (exact fun _ _ _ h => h)); (focus rfl); (focus (intro w hSw; (try dsimp only at hSw); go_simp; (try with_reducible rfl); done)); (try simp only [Act.put, zPA, zPZ, zPS]))
  (refine zTK 12 (oi := ?_) (v := ?_) ?_ ?_ (Or.inl ⟨?_, ?_⟩) ?_; rotate_left 2; (focus (simp only [zGA, zGZ, zGS] <;> rfl)); (focus (exact fun _ _ _ h => h)); (focus rfl); (focus (intro w hSw; (try dsimp only at hSw); go_simp; (try with_reducible rfl); done)); (try simp only [Act.put, zPA, zPZ, zPS]))
  (refine zTK 13 (oi := ?_) (v := ?_) ?_ ?_ (Or.inl ⟨?_, ?_⟩) ?_; rotate_left 2; (focus (simp only [zGA, zGZ, zGS] <;> rfl)); (focus (exact fun _ _ _ h => h)); (focus rfl); (focus (intro w hSw; (try dsimp only at hSw); go_simp; (try with_reducible rfl); done)); (try simp only [Act.put, zPA, zPZ, zPS]))
  (refine zTK 15 (oi := ?_) (v := ?_) ?_ ?_ (Or.inl ⟨?_, ?_⟩) ?_; rotate_left 2; (focus (simp only [zGA, zGZ, zGS] <;> rfl)); (focus (exact fun _ _ _ h => h)); (focus rfl); (focus (intro w hSw; (try dsimp only at hSw); go_simp; (try with_reducible rfl); done)); (try simp only [Act.put, zPA, zPZ, zPS]))
  (refine zTK 16 (oi := ?_) (v := ?_) ?_ ?_ (Or.inl ⟨?_, ?_⟩) ?_; rotate_left 2; (focus (simp only [zGA, zGZ, zGS] <;> rfl)); (focus (exact fun _ _ _ h => h)); (focus rfl); (focus (intro w hSw; (try dsimp only at hSw); go_simp; (try with_reducible rfl); done)); (try simp only [Act.put, zPA, zPZ, zPS]))
  (refine zTK 17 (oi := ?_) (v := ?_) ?_ ?_ (Or.inl ⟨?_, ?_⟩) ?_; rotate_left 2; (focus (simp only [zGA, zGZ, zGS] <;> rfl)); (focus (exact fun _ _ _ h => h)); (focus rfl); (focus (intro w hSw; (try dsimp only at hSw); go_simp; (try with_reducible rfl); done)); (try simp only [Act.put, zPA, zPZ, zPS]))
  (refine zTK 18 (oi := ?_) (v := ?_) ?_ ?_ (Or.inl ⟨?_, ?_⟩) ?_; rotate_left 2; (focus (simp only [zGA, zGZ, zGS] <;> rfl)); (focus (exact fun _ _ _ h => h)); (focus rfl); (focus (intro w hSw; (try dsimp only at hSw); go_simp; (try with_reducible rfl); done)); (try simp only [Act.put, zPA, zPZ, zPS]))
  (refine zTK 19 (oi := ?_) (v := ?_) ?_ ?_ (Or.inl ⟨?_, ?_⟩) ?_; rotate_left 2; (focus (simp only [zGA, zGZ, zGS] <;> rfl)); (focus (exact fun _ _ _ h => h)); (focus rfl); (focus (intro w hSw; (try dsimp only at hSw); go_simp; (try with_reducible rfl); done)); (try simp only [Act.put, zPA, zPZ, zPS]))
  (refine zTK 20 (oi := ?_) (v := ?_) ?_ ?_ (Or.inl ⟨?_, ?_⟩) ?_; rotate_left 2; (focus (simp only [zGA, zGZ, zGS] <;> rfl)); (focus (exact fun _ _ _ h => h)); (focus rfl); (focus (intro w hSw; (try dsimp only at hSw); go_simp; (try with_reducible rfl); done)); (try simp only [Act.put, zPA, zPZ, zPS]))
  (refine zTK 21 (oi := ?_) (v := ?_) ?_ ?_ (Or.inl ⟨?_, ?_⟩) ?_; rotate_left 2; (focus (simp only [zGA, zGZ, zGS] <;> rfl)); (focus (exact fun _ _ _ h => h)); (focus rfl); (focus (intro w hSw; (try dsimp only at hSw); go_simp; (try with_reducible rfl); done)); (try simp only [Act.put, zPA, zPZ, zPS]))
  (refine zTK 22 (oi := ?_) (v := ?_) ?_ ?_ (Or.inl ⟨?_, ?_⟩) ?_; rotate_left 2; (focus (simp only [zGA, zGZ, zGS] <;> rfl)); (focus (exact fun _ _ _ h => h)); (focus rfl); (focus (intro w hSw; (try dsimp only at hSw); go_simp; (try with_reducible rfl); done)); (try simp only [Act.put, zPA, zPZ, zPS]))
  (refine zTK 23 (oi := ?_) (v := ?_) ?_ ?_ (Or.inl ⟨?_, ?_⟩) ?_; rotate_left 2; (focus (simp only [zGA, zGZ, zGS] <;> rfl)); (focus (exact fun _ _ _ h => h)); (focus rfl); (focus (intro w hSw; (try dsimp only at hSw); go_simp; (try with_reducible rfl); done)); (try simp only [Act.put, zPA, zPZ, zPS]))
  (refine zTK 24 (oi := ?_) (v := ?_) ?_ ?_ (Or.inl ⟨?_, ?_⟩) ?_; rotate_left 2; (focus (simp only [zGA, zGZ, zGS] <;> rfl)); (focus (exact fun _ _ _ h => h)); (focus rfl); (focus (intro w hSw; (try dsimp only at hSw); go_simp; (try with_reducible rfl); done)); (try simp only [Act.put, zPA, zPZ, zPS]))
  refine wpAnyH_ready (rs := [14]) (by kernel_rfl) (by simp) ?_
  refine AllReadyH.cons (o := ?_) ?_ ?_ AllReadyH.nil
  rotate_left 1
  (focus (simp only [zGA, zGZ, zGS] <;> rfl))
  intro K hK
  go_simp
  go_at_call 100
  refine (HCL.out _ (((Only.refl (fun _ => False) w).alloc _).drew)).mono ?_
  rintro e w2 ⟨v2, rfl, hf2⟩
  obtain ⟨A2, k2, hv2, hc2, hcm2, _⟩ := own_form hf2.own
  subst hv2
  have hb2 := hf2.quiet.get (by exact alloc_new w (.cells #[.int .u64 0, .string ⟨#[]⟩, .slice none 0 0, .int .u64 0, .int .u64 0] 37)) (fun x => x)
  have HK : Hid (FreshC w w2 (.slice A2 t.cols.length k2) t.cols) := ⟨(((Only.refl (fun _ => False) w).alloc _).drew).trans hf2.quiet, (fun k e => by have := hf2.new k e; simp only [World.size_drew, World.size_alloc] at this; omega), hf2.own⟩
  have HB2 := Lib.hid hb2
  have z0 := cell_of hb2 0
  have z1 := cell_of hb2 1
  have z2 := cell_of hb2 2
  have z3 := cell_of hb2 3
  have z4 := cell_of hb2 4
  have zf := fun o => frozen_of hb2 o
  simp only [zGA, zGS, zGZ] at z0 z1 z2 z3 z4
  have HN2 : Hid (∀ k, (Value.slice A2 t.cols.length k2).ownBlock = some k → w.heap.size < k) := fun k e => by have := hf2.new k e; simp only [World.size_drew, World.size_alloc] at this; omega
  clear hf2 hb2
  dsimp only
  refine hK.out _ _ ?_ (fun hHeld => ?_)
  · exact five_kept c0 c1 c2 c3 c4 HK.out.quiet (fun x => x)
  clear hK K
  (try simp only [Act.put, zPA, zPZ, zPS])
  (refine zTK 25 (oi := ?_) (v := ?_) ?_ ?_ (Or.inl ⟨?_, ?_⟩) ?_; rotate_left 2; (focus (simp only [zGA, zGZ, zGS] <;> rfl)); (focus (exact fun _ _ _ h => h)); (focus rfl); (focus (intro w hSw; (try dsimp only at hSw); go_simp; (try with_reducible rfl); done)); (try simp only [Act.put, zPA, zPZ, zPS]))
  refine wpAnyH_ready (rs := [26]) (by kernel_rfl) (by simp) ?_
  refine AllReadyH.cons (o := ?_) ?_ ?_ AllReadyH.nil
  rotate_left 1
  (focus (simp only [zGA, zGZ, zGS] <;> rfl))
  intro K hK
  go_simp
  refine hK.out _ _ ?_ (fun hHeld => ?_)
  · exact five_kept hHeld.1 hHeld.2.1 hHeld.2.2.1 hHeld.2.2.2.1 hHeld.2.2.2.2 (fiveSet_only w2 w.heap.size (.int .u64 (t.id : Int)) (.string t.name) (.slice A2 t.cols.length k2) (.int .u64 (t.xmin : Int)) (.int .u64 (t.xmax : Int))) hl2
  clear hK K
  (try simp only [Act.put, zPA, zPZ, zPS])
  refine wpAnyH_done (by kernel_rfl) ?_ _
  clear hHeld z0 z1 z2 z3 z4 zf
  have HX := Lib.hid (fiveSet_same HB2.out (.int .u64 (t.id : Int)) (.string t.name) (.slice A2 t.cols.length k2) (.int .u64 (t.xmin : Int)) (.int .u64 (t.xmax : Int)))
  have HO := fiveSet_only w2 w.heap.size (.int .u64 (t.id : Int)) (.string t.name) (.slice A2 t.cols.length k2) (.int .u64 (t.xmin : Int)) (.int .u64 (t.xmax : Int))
  have HF : Hid (FreshC w (fiveSet w2 w.heap.size (.int .u64 (t.id : Int)) (.string t.name) (.slice A2 t.cols.length k2) (.int .u64 (t.xmin : Int)) (.int .u64 (t.xmax : Int))) (.slice A2 t.cols.length k2) t.cols) :=
    ⟨HK.out.quiet.trans' HO (fun k hk e => by omega), fun k e => by have := HN2.out k e; omega, owns_kept HK.out.own HO (fun k e x => by have := HN2.out k e; omega)⟩
  clear HO HK HB2 HN2
  unfold fiveSet at HX HF
  go_wp2
  generalize ((((w2.setCell ⟨w.heap.size, 0, none⟩ (.int .u64 (t.id : Int))).setCell ⟨w.heap.size, 1, none⟩ (.string t.name)).setCell ⟨w.heap.size, 2, none⟩ (.slice A2 t.cols.length k2)).setCell ⟨w.heap.size, 3, none⟩ (.int .u64 (t.xmin : Int))).setCell ⟨w.heap.size, 4, none⟩ (.int .u64 (t.xmax : Int)) = W6 at HX HF ⊢
  exact bodyPost_ret (results_cellS Tryz.results87 _ _ w.heap.size _ _ (0, 0) _ (by rfl) HX.out Tryz.underlying37 rfl info_tab) (by rfl) ⟨A2, k2, rfl, HF.out⟩

/-- Block bb is a book: its tables T in blocks tps, its indexes' row vI, as many as have been made. -/
structure BookRow (w : World) (F : Nat → Prop) (bb : Nat) (T : List TE) (vT : Value) (tps : List Nat) (vI : Value) (ips : List Nat) (last : Nat) : Prop where
  box : w.heap[bb]? = some (.cells #[vT, vI, .int .u64 (last : Int)] 155 (0, 0))
  rowT : w.ownsRow 0 162 1 vT T.length (tps.map ptrV)
  rowI : w.ownsRow 0 164 1 vI ips.length (ips.map ptrV)
  tbl : ∀ (i : Nat) e, T[i]? = some e → ∃ p, tps[i]? = some p ∧ TblAt w F p e
  foot : F bb ∧ (∀ k, vT.ownBlock = some k → F k) ∧ (∀ k, vI.ownBlock = some k → F k)
  num : U64 last

section
variable {w w' : World} {F : Nat → Prop} {bb last : Nat} {T : List TE} {vT vI : Value} {tps ips : List Nat}
theorem BookRow.kept {S : Nat → Prop} (h : BookRow w F bb T vT tps vI ips last) (ho : Only S w w') (hn : ∀ k, F k → ¬ S k) : BookRow w' F bb T vT tps vI ips last :=
  ⟨ho.get h.box (hn _ h.foot.1), owns_kept h.rowT ho (fun k e => hn k (h.foot.2.1 k e)), owns_kept h.rowI ho (fun k e => hn k (h.foot.2.2 k e)), fun i e hi => by obtain ⟨p, h1, h2⟩ := h.tbl i e hi; exact ⟨p, h1, h2.kept ho hn⟩, h.foot, h.num⟩
theorem BookRow.cells (h : BookRow w F bb T vT tps vI ips last) : w.cell? ⟨bb, 0, none⟩ = some vT ∧ w.cell? ⟨bb, 1, none⟩ = some vI ∧ w.cell? ⟨bb, 2, none⟩ = some (.int .u64 (last : Int)) :=
  ⟨by rw [cell_of h.box]; rfl, by rw [cell_of h.box]; rfl, by rw [cell_of h.box]; rfl⟩
theorem BookRow.tlen (h : BookRow w F bb T vT tps vI ips last) : tps.length = T.length := by
  have := h.rowT.1
  simpa using this
end

/-- A row of pointers reads. -/
theorem ptr_form {w : World} {e : TypeId} {v : Value} {n : Nat} {ps : List Nat} (h : w.ownsRow 0 e 1 v n (ps.map ptrV)) : ∃ A c, v = .slice A n c ∧ n ≤ c ∧ c ≤ maxLen ∧ ∀ (i p : Nat), ps[i]? = some p → ∃ g, A = some ⟨g, 0, none⟩ ∧ w.cell? ⟨g, i, none⟩ = some (ptrV p) := by
  have hl : ps.length = n := by have := h.1; simpa using this
  rcases h.2 with ⟨e1, e2⟩ | ⟨g, cap, cur, e1, _, hh, r1, r2, _⟩
  · refine ⟨none, 0, by rw [e2]; exact e1, by omega, Nat.zero_le _, fun i p hi => ?_⟩
    have := (List.getElem?_eq_some_iff.1 hi).1
    omega
  · refine ⟨_, cap, e1, r1, r2, fun i p hi => ⟨g, rfl, ?_⟩⟩
    have := h.cells (by rw [e1]; rfl) i (ptrV p) (by rw [List.getElem?_map, hi]; rfl)
    rw [add_none, Nat.zero_add] at this
    exact this

/-- Is an entry a visible table of a name? -/
def isTE (L : List Nat) (s : Snap) (name : ByteArray) (e : TE) : Bool := (e.name.toList == name.toList) && visS L s e.xmin e.xmax

/-- Which one is found. -/
def findT (L : List Nat) (s : Snap) (name : ByteArray) (T : List TE) : Option Nat := T.findIdx? (isTE L s name)

end Go.Proofs.YtaijnpgoiagboaaGreatDoor

namespace Go.Proofs.YtaijnpgoiagboaaGreatDoor
open Go.RowKit Go.Lap

/-- What table tells. -/
def TabPost (w : World) (tps : List Nat) (o : Option Nat) (e : Ending) (w' : World) : Prop :=
  (match o with | none => e = .returned (.pointer none) | some i => ∃ p, tps[i]? = some p ∧ e = .returned (ptrV p)) ∧ Quiet w w'

theorem findT_some {L : List Nat} {s : Snap} {name : ByteArray} {T : List TE} {k : Nat} {e : TE} (hk : T[k]? = some e) (he : isTE L s name e = true) (hno : ∀ j x, j < k → T[j]? = some x → isTE L s name x = false) : findT L s name T = some k := by
  unfold findT
  rw [List.findIdx?_eq_some_iff_getElem]
  obtain ⟨h1, h2⟩ := List.getElem?_eq_some_iff.1 hk
  refine ⟨h1, by rw [h2]; exact he, fun j hj => ?_⟩
  have := hno j T[j] hj (List.getElem?_eq_getElem (by omega))
  simp [this]

theorem findT_none {L : List Nat} {s : Snap} {name : ByteArray} {T : List TE} (hno : ∀ (j : Nat) x, T[j]? = some x → isTE L s name x = false) : findT L s name T = none := by
  unfold findT
  rw [List.findIdx?_eq_none_iff]
  intro x hx
  obtain ⟨j, hj⟩ := List.mem_iff_getElem?.1 hx
  rw [hno j x hj]

set_option maxHeartbeats 2000000 in
set_option maxRecDepth 100000 in
theorem book_table {w : World} {F Fl S : Nat → Prop} {bb lb last c : Nat} {T : List TE} {vT vI : Value} {tps ips : List Nat} {L : List Nat} {A : Option Addr} {s : Snap} (name : ByteArray) (h : BookRow w F bb T vT tps vI ips last) (hl : LogAt w Fl lb L) (hs : SnapV w S A c s) :
    Calls Tryz.prog 94 #[.pointer (some ⟨bb, 0, none⟩), .pointer (some ⟨lb, 0, none⟩), snapV s A c, .string name] w (TabPost w tps (findT L s name T)) := by
  have HQ0 : Hid (Quiet w (w.alloc (.cells (snapCells s A c) 88))) := (Only.refl _ _).alloc _
  have HB0 := Lib.hid (alloc_new w (.cells (snapCells s A c) 88))
  have HH := Lib.hid h
  have HVIS : Hid (∀ (W : World) (p : Nat) (e : TE) (i : Nat), Quiet w W → T[i]? = some e → tps[i]? = some p → Calls Tryz.prog 88 #[.pointer (some ⟨p, 0, none⟩), .pointer (some ⟨lb, 0, none⟩), snapV s A c] W (BoolQ W (visS L s e.xmin e.xmax))) := fun W p e i hq he hp => by
    obtain ⟨p', h1, h2⟩ := h.tbl i e he
    rw [hp] at h1
    injection h1 with h1
    subst h1
    exact entry_visible (h2.kept hq (fun _ _ x => x)).ent (hl.kept hq (fun _ _ x => x)) (hs.kept hq (fun _ _ x => x)) h2.num.2.1 h2.num.2.2
  obtain ⟨c0, _, _⟩ := h.cells
  obtain ⟨AT, cT, hvT, hcT, hmT, hfT⟩ := ptr_form h.rowT
  subst hvT
  have HFT := Lib.hid hfT
  have htl := h.tlen
  obtain ⟨n, hn⟩ : ∃ n, T.length = n := ⟨_, rfl⟩
  rw [hn] at c0 hcT
  have HN := Lib.hid hn
  have HTL : Hid (tps.length = n) := by rw [htl]; exact hn
  unfold maxLen at hmT
  have hbl := lt_of_get h.box
  obtain ⟨POST, hPOST⟩ : ∃ POST, TabPost w tps (findT L s name T) = POST := ⟨_, rfl⟩
  rw [hPOST]
  have HPOST := Lib.hid hPOST
  unfold snapV at *
  clear h hl hs hfT hn htl hPOST
  go_enter Tryz.func94, Tryz.ntmps94
  go_wp2
  go_loopw [16, 10, 20, 21, 22, 23, 24, 25, 26, 27, 28, 29, 30, 31, 32, 33, 34] (fun i _ _ _ _ _ _ _ _ _ _ _ _ _ _ _ _ wr => ∃ k : Nat, k ≤ n ∧ i = .int .i64 (k : Int) ∧ Quiet w wr ∧ wr.heap[w.heap.size]? = some (.cells (snapCells s A c) 88 (0, 0)) ∧ (∀ (j : Nat) x, j < k → T[j]? = some x → isTE L s name x = false)) (fun i _ _ _ _ _ _ _ _ _ _ _ _ _ _ _ _ _ => n - (intOf i).toNat)
  case atStart => exact ⟨0, Nat.zero_le _, rfl, HQ0.out, HB0.out, fun j x hj => absurd hj (by omega)⟩
  case round =>
    obtain ⟨k, hk, rfl, hq, hb, hno⟩ := hrel
    have HQ := Lib.hid hq
    have HB := Lib.hid hb
    have HNO := Lib.hid hno
    clear hno HB0 HQ0
    by_cases hlt : k < n
    · obtain ⟨e, he⟩ : ∃ e, T[k]? = some e := ⟨_, List.getElem?_eq_getElem (by have := HN.out; omega)⟩
      obtain ⟨p, hp, htb⟩ := HH.out.tbl k e he
      obtain ⟨g, rfl, hg⟩ := HFT.out k p hp
      have hg2 := hq.cell hg (fun x => x)
      have c1 := (htb.kept hq (fun _ _ x => x)).ent.c1
      obtain ⟨b0, b1, b2, b3⟩ := snapBox_cells hb
      have HE := Lib.hid he
      have HP := Lib.hid hp
      clear he hp hg htb hq hb
      by_cases hnm : (e.name.toList == name.toList) = true
      · have HV := Lib.hid (HVIS.out · p e k · HE.out HP.out)
        have HIS : Hid (isTE L s name e = visS L s e.xmin e.xmax) := by
          have : isTE L s name e = ((e.name.toList == name.toList) && visS L s e.xmin e.xmax) := rfl
          rw [hnm, Bool.true_and] at this
          exact this
        generalize visS L s e.xmin e.xmax = r at HV HIS
        go_wp2_with fail
        refine wp_region_held_drew (S := fun w' => w'.cell? ⟨p, 1, none⟩ = some (.string e.name) ∧ w'.cell? ⟨w.heap.size, 0, none⟩ = some (.int .u64 (s.own : Int)) ∧ w'.cell? ⟨w.heap.size, 1, none⟩ = some (.int .u64 (s.xmin : Int)) ∧ w'.cell? ⟨w.heap.size, 2, none⟩ = some (.int .u64 (s.xmax : Int)) ∧ w'.cell? ⟨w.heap.size, 3, none⟩ = some (.slice A s.run.length c)) (by kernel_rfl) (⟨c1, b0, b1, b2, b3⟩) (fun hHeld => ?_)
        simp only [List.size_toArray, List.length_cons, List.length_nil, Nat.reduceAdd]
        (refine zTK 0 (oi := ?_) (v := ?_) ?_ ?_ (Or.inl ⟨?_, ?_⟩) ?_; rotate_left 2; (focus (simp only [zGA, zGZ, zGS] <;> rfl)); (focus (exact fun _ _ _ h => h)); (focus rfl); (focus (intro w hSw; (try dsimp only at hSw); go_simp; (try with_reducible rfl); done)); (try simp only [Act.put, zPA, zPZ, zPS]))
        (refine zTK 1 (oi := ?_) (v := ?_) ?_ ?_ (Or.inl ⟨?_, ?_⟩) ?_; rotate_left 2; (focus (simp only [zGA, zGZ, zGS] <;> rfl)); (focus (exact fun _ _ _ h => h)); (focus rfl); (focus (intro w hSw; (try dsimp only at hSw); go_simp; (try with_reducible rfl); done)); (try simp only [Act.put, zPA, zPZ, zPS]))
        (refine zTK 2 (oi := ?_) (v := ?_) ?_ ?_ (Or.inl ⟨?_, ?_⟩) ?_; rotate_left 2; (focus (simp only [zGA, zGZ, zGS] <;> rfl)); (focus (exact fun _ _ _ h => h)); (focus rfl); (focus (intro w hSw; (try dsimp only at hSw); go_simp; (try with_reducible rfl); done)); (try simp only [Act.put, zPA, zPZ, zPS]))
        (refine zTK 3 (oi := ?_) (v := ?_) ?_ ?_ (Or.inl ⟨?_, ?_⟩) ?_; rotate_left 2; (focus (simp only [zGA, zGZ, zGS] <;> rfl)); (focus (exact fun _ _ _ h => h)); (focus rfl); (focus (intro w hSw; (try dsimp only at hSw); go_simp; (try with_reducible rfl); done)); (try simp only [Act.put, zPA, zPZ, zPS]))
        (refine zTK 4 (oi := ?_) (v := ?_) ?_ ?_ (Or.inl ⟨?_, ?_⟩) ?_; rotate_left 2; (focus (simp only [zGA, zGZ, zGS] <;> rfl)); (focus (exact fun _ _ _ h => h)); (focus rfl); (focus (intro w hSw; (try dsimp only at hSw); go_simp; (try with_reducible rfl); done)); (try simp only [Act.put, zPA, zPZ, zPS]))
        (refine zTK 5 (oi := ?_) (v := ?_) ?_ ?_ (Or.inl ⟨?_, ?_⟩) ?_; rotate_left 2; (focus (simp only [zGA, zGZ, zGS] <;> rfl)); (focus (exact fun _ _ _ h => h)); (focus rfl); (focus (intro w hSw; (try dsimp only at hSw); go_simp; (try with_reducible rfl); done)); (try simp only [Act.put, zPA, zPZ, zPS]))
        (refine zTK 6 (oi := ?_) (v := ?_) ?_ ?_ (Or.inl ⟨?_, ?_⟩) ?_; rotate_left 2; (focus (simp only [zGA, zGZ, zGS] <;> rfl)); (focus (exact fun _ _ _ h => h)); (focus rfl); (focus (intro w hSw; (try dsimp only at hSw); go_simp; (try with_reducible rfl); done)); (try simp only [Act.put, zPA, zPZ, zPS]))
        (refine zTK 7 (oi := ?_) (v := ?_) ?_ ?_ (Or.inl ⟨?_, ?_⟩) ?_; rotate_left 2; (focus (simp only [zGA, zGZ, zGS] <;> rfl)); (focus (exact fun _ _ _ h => h)); (focus rfl); (focus (intro w hSw; (try dsimp only at hSw); go_simp; (try with_reducible rfl); done)); (try simp only [Act.put, zPA, zPZ, zPS]))
        (refine zTK 8 (oi := ?_) (v := ?_) ?_ ?_ (Or.inl ⟨?_, ?_⟩) ?_; rotate_left 2; (focus (simp only [zGA, zGZ, zGS] <;> rfl)); (focus (exact fun _ _ _ h => h)); (focus rfl); (focus (intro w hSw; (try dsimp only at hSw); go_simp; (try with_reducible rfl); done)); (try simp only [Act.put, zPA, zPZ, zPS]))
        (refine zTK 9 (oi := ?_) (v := ?_) ?_ ?_ (Or.inl ⟨?_, ?_⟩) ?_; rotate_left 2; (focus (simp only [zGA, zGZ, zGS] <;> rfl)); (focus (exact fun _ _ _ h => h)); (focus rfl); (focus (intro w hSw; (try dsimp only at hSw); go_simp; (try with_reducible rfl); done)); (try simp only [Act.put, zPA, zPZ, zPS]))
        (refine zTK 10 (oi := ?_) (v := ?_) ?_ ?_ (Or.inl ⟨?_, ?_⟩) ?_; rotate_left 2; (focus (simp only [zGA, zGZ, zGS] <;> rfl)); (focus (exact fun _ _ _ h => h)); (focus rfl); (focus (intro w hSw; (try dsimp only at hSw); go_simp; (try with_reducible rfl); done)); (try simp only [Act.put, zPA, zPZ, zPS]))
        (refine zTK 11 (oi := ?_) (v := ?_) ?_ ?_ (Or.inl ⟨?_, ?_⟩) ?_; rotate_left 2; (focus (simp only [zGA, zGZ, zGS] <;> rfl)); (focus (exact fun _ _ _ h => h)); (focus rfl); (focus (intro w hSw; (try dsimp only at hSw); go_simp; (try with_reducible rfl); done)); (try simp only [Act.put, zPA, zPZ, zPS]))
        (refine zTK 12 (oi := ?_) (v := ?_) ?_ ?_ (Or.inl ⟨?_, ?_⟩) ?_; rotate_left 2; (focus (simp only [zGA, zGZ, zGS] <;> rfl)); (focus (exact fun _ _ _ h => h)); (focus rfl); (focus (intro w hSw; (try dsimp only at hSw); go_simp; (try with_reducible rfl); done)); (try simp only [Act.put, zPA, zPZ, zPS]))
        refine wpAnyH_ready (rs := [13]) (by kernel_rfl) (by simp) ?_
        refine AllReadyH.cons (o := ?_) ?_ ?_ AllReadyH.nil
        rotate_left 1
        (focus (simp only [zGA, zGZ, zGS] <;> rfl))
        intro K hK
        go_simp
        go_at_call 88
        refine (HV.out _ HQ.out.drew).mono ?_
        rintro e' w3 ⟨rfl, hq3⟩
        have HQ3 := Lib.hid (HQ.out.drew.trans hq3)
        have HB3 := Lib.hid (hq3.get (by exact HB.out) (fun x => x))
        have hs3 := snapBox_cells HB3.out
        have hn3 := hq3.cell (by exact c1) (fun x => x)
        clear hq3
        dsimp only
        refine hK.out _ _ ?_ (fun hHeld => ?_)
        · exact ⟨hn3, hs3⟩
        clear hK K
        (try simp only [Act.put, zPA, zPZ, zPS])
        (refine zTK 14 (oi := ?_) (v := ?_) ?_ ?_ (Or.inl ⟨?_, ?_⟩) ?_; rotate_left 2; (focus (simp only [zGA, zGZ, zGS] <;> rfl)); (focus (exact fun _ _ _ h => h)); (focus rfl); (focus (intro w hSw; (try dsimp only at hSw); go_simp; (try with_reducible rfl); done)); (try simp only [Act.put, zPA, zPZ, zPS]))
        refine wpAnyH_done (by kernel_rfl) ?_ _
        rcases r with _ | _
        · have HK : Hid (∀ (j : Nat) x, j < k + 1 → T[j]? = some x → isTE L s name x = false) := fun j x hj hx => by
            rcases Nat.lt_or_ge j k with a | a
            · exact HNO.out j x a hx
            · obtain rfl : j = k := by omega
              rw [HE.out] at hx
              injection hx with hx
              rw [← hx]
              exact HIS.out
          clear hHeld c1 b0 b1 b2 b3 hg2
          go_wp2
          go_roundw
          case rel => exact ⟨k + 1, by omega, by go_num, HQ3.out, HB3.out, HK.out⟩
          case measure => simp [intOf]; omega
        · have HEND : Hid (POST (.returned (ptrV p)) w3) := by
            rw [← HPOST.out, findT_some HE.out HIS.out HNO.out]
            exact ⟨⟨p, HP.out, rfl⟩, HQ3.out⟩
          clear hHeld c1 b0 b1 b2 b3 hg2
          go_wp2
          exact HEND.out
      · have hnm2 : (e.name.toList == name.toList) = false := by simpa using hnm
        have HK : Hid (∀ (j : Nat) x, j < k + 1 → T[j]? = some x → isTE L s name x = false) := fun j x hj hx => by
          rcases Nat.lt_or_ge j k with a | a
          · exact HNO.out j x a hx
          · obtain rfl : j = k := by omega
            rw [HE.out] at hx
            injection hx with hx
            rw [← hx]
            unfold isTE
            rw [hnm2]; rfl
        clear hnm
        go_wp2_with fail
        refine wp_region_held_drew (S := fun w' => w'.cell? ⟨p, 1, none⟩ = some (.string e.name) ∧ w'.cell? ⟨w.heap.size, 0, none⟩ = some (.int .u64 (s.own : Int)) ∧ w'.cell? ⟨w.heap.size, 1, none⟩ = some (.int .u64 (s.xmin : Int)) ∧ w'.cell? ⟨w.heap.size, 2, none⟩ = some (.int .u64 (s.xmax : Int)) ∧ w'.cell? ⟨w.heap.size, 3, none⟩ = some (.slice A s.run.length c)) (by kernel_rfl) (⟨c1, b0, b1, b2, b3⟩) (fun hHeld => ?_)
        simp only [List.size_toArray, List.length_cons, List.length_nil, Nat.reduceAdd]
        (refine zTK 0 (oi := ?_) (v := ?_) ?_ ?_ (Or.inl ⟨?_, ?_⟩) ?_; rotate_left 2; (focus (simp only [zGA, zGZ, zGS] <;> rfl)); (focus (exact fun _ _ _ h => h)); (focus rfl); (focus (intro w hSw; (try dsimp only at hSw); go_simp; (try with_reducible rfl); done)); (try simp only [Act.put, zPA, zPZ, zPS]))
        (refine zTK 1 (oi := ?_) (v := ?_) ?_ ?_ (Or.inl ⟨?_, ?_⟩) ?_; rotate_left 2; (focus (simp only [zGA, zGZ, zGS] <;> rfl)); (focus (exact fun _ _ _ h => h)); (focus rfl); (focus (intro w hSw; (try dsimp only at hSw); go_simp; (try with_reducible rfl); done)); (try simp only [Act.put, zPA, zPZ, zPS]))
        (refine zTK 2 (oi := ?_) (v := ?_) ?_ ?_ (Or.inl ⟨?_, ?_⟩) ?_; rotate_left 2; (focus (simp only [zGA, zGZ, zGS] <;> rfl)); (focus (exact fun _ _ _ h => h)); (focus rfl); (focus (intro w hSw; (try dsimp only at hSw); go_simp; (try with_reducible rfl); done)); (try simp only [Act.put, zPA, zPZ, zPS]))
        (refine zTK 3 (oi := ?_) (v := ?_) ?_ ?_ (Or.inl ⟨?_, ?_⟩) ?_; rotate_left 2; (focus (simp only [zGA, zGZ, zGS] <;> rfl)); (focus (exact fun _ _ _ h => h)); (focus rfl); (focus (intro w hSw; (try dsimp only at hSw); go_simp; (try with_reducible rfl); done)); (try simp only [Act.put, zPA, zPZ, zPS]))
        (refine zTK 4 (oi := ?_) (v := ?_) ?_ ?_ (Or.inl ⟨?_, ?_⟩) ?_; rotate_left 2; (focus (simp only [zGA, zGZ, zGS] <;> rfl)); (focus (exact fun _ _ _ h => h)); (focus rfl); (focus (intro w hSw; (try dsimp only at hSw); go_simp; (try with_reducible rfl); done)); (try simp only [Act.put, zPA, zPZ, zPS]))
        (refine zTK 5 (oi := ?_) (v := ?_) ?_ ?_ (Or.inl ⟨?_, ?_⟩) ?_; rotate_left 2; (focus (simp only [zGA, zGZ, zGS] <;> rfl)); (focus (exact fun _ _ _ h => h)); (focus rfl); (focus (intro w hSw; (try dsimp only at hSw); go_simp; (try with_reducible rfl); done)); (try simp only [Act.put, zPA, zPZ, zPS]))
        (refine zTK 6 (oi := ?_) (v := ?_) ?_ ?_ (Or.inl ⟨?_, ?_⟩) ?_; rotate_left 2; (focus (simp only [zGA, zGZ, zGS] <;> rfl)); (focus (exact fun _ _ _ h => h)); (focus rfl); (focus (intro w hSw; (try dsimp only at hSw); go_simp; (try with_reducible rfl); done)); (try simp only [Act.put, zPA, zPZ, zPS]))
        (refine zTK 7 (oi := ?_) (v := ?_) ?_ ?_ (Or.inl ⟨?_, ?_⟩) ?_; rotate_left 2; (focus (simp only [zGA, zGZ, zGS] <;> rfl)); (focus (exact fun _ _ _ h => h)); (focus rfl); (focus (intro w hSw; (try dsimp only at hSw); go_simp; (try with_reducible rfl); done)); (try simp only [Act.put, zPA, zPZ, zPS]))
        (refine zTK 8 (oi := ?_) (v := undef) ?_ ?_ (Or.inr ⟨?_, rfl⟩) ?_; rotate_left 1; (focus (simp only [zGA, zGZ, zGS] <;> rfl)); (focus (exact fun _ _ _ h => h)); (focus rfl); (try simp only [Act.put, zPA, zPZ, zPS]))
        (refine zTK 9 (oi := ?_) (v := undef) ?_ ?_ (Or.inr ⟨?_, rfl⟩) ?_; rotate_left 1; (focus (simp only [zGA, zGZ, zGS] <;> rfl)); (focus (exact fun _ _ _ h => h)); (focus rfl); (try simp only [Act.put, zPA, zPZ, zPS]))
        (refine zTK 10 (oi := ?_) (v := undef) ?_ ?_ (Or.inr ⟨?_, rfl⟩) ?_; rotate_left 1; (focus (simp only [zGA, zGZ, zGS] <;> rfl)); (focus (exact fun _ _ _ h => h)); (focus rfl); (try simp only [Act.put, zPA, zPZ, zPS]))
        (refine zTK 11 (oi := ?_) (v := undef) ?_ ?_ (Or.inr ⟨?_, rfl⟩) ?_; rotate_left 1; (focus (simp only [zGA, zGZ, zGS] <;> rfl)); (focus (exact fun _ _ _ h => h)); (focus rfl); (try simp only [Act.put, zPA, zPZ, zPS]))
        (refine zTK 12 (oi := ?_) (v := undef) ?_ ?_ (Or.inr ⟨?_, rfl⟩) ?_; rotate_left 1; (focus (simp only [zGA, zGZ, zGS] <;> rfl)); (focus (exact fun _ _ _ h => h)); (focus rfl); (try simp only [Act.put, zPA, zPZ, zPS]))
        (refine zTK 13 (oi := ?_) (v := undef) ?_ ?_ (Or.inr ⟨?_, rfl⟩) ?_; rotate_left 1; (focus (simp only [zGA, zGZ, zGS] <;> rfl)); (focus (exact fun _ _ _ h => h)); (focus rfl); (try simp only [Act.put, zPA, zPZ, zPS]))
        (refine zTK 14 (oi := ?_) (v := ?_) ?_ ?_ (Or.inl ⟨?_, ?_⟩) ?_; rotate_left 2; (focus (simp only [zGA, zGZ, zGS] <;> rfl)); (focus (exact fun _ _ _ h => h)); (focus rfl); (focus (intro w hSw; (try dsimp only at hSw); go_simp; (try with_reducible rfl); done)); (try simp only [Act.put, zPA, zPZ, zPS]))
        refine wpAnyH_done (by kernel_rfl) ?_ _
        clear hHeld c1 b0 b1 b2 b3 hg2 hnm2
        go_wp2
        go_roundw
        case rel => exact ⟨k + 1, by omega, by go_num, HQ.out.drew, HB.out, HK.out⟩
        case measure => simp [intOf]; omega
    · have HEND : Hid (POST (.returned (.pointer none)) wr) := by
        rw [← HPOST.out, findT_none (fun j x hx => HNO.out j x (by have := HN.out; have := (List.getElem?_eq_some_iff.1 hx).1; omega) hx)]
        exact ⟨rfl, HQ.out⟩
      obtain rfl : k = n := by omega
      clear hq hb
      go_wp2
      exact HEND.out

end Go.Proofs.YtaijnpgoiagboaaGreatDoor

namespace Go.Proofs.YtaijnpgoiagboaaGreatDoor
open Go.RowKit Go.Lap

/-- What Table tells of an entry that there is. -/
def TablePost (w : World) (t : TE) (e : Ending) (w' : World) : Prop := ∃ A c, e = .returned (.tuple #[tabV t A c, .bool true]) ∧ FreshC w w' (.slice A t.cols.length c) t.cols ∧ t.cols.length ≤ c ∧ c ≤ maxLen

set_option maxHeartbeats 1000000 in
set_option maxRecDepth 100000 in
theorem book_Table {w : World} {F Fl S : Nat → Prop} {bb lb last c i : Nat} {T : List TE} {vT vI : Value} {tps ips : List Nat} {L : List Nat} {A : Option Addr} {s : Snap} {t : TE} (name : ByteArray) (h : BookRow w F bb T vT tps vI ips last) (hl : LogAt w Fl lb L) (hs : SnapV w S A c s) (hf : findT L s name T = some i) (ht : T[i]? = some t) :
    Calls Tryz.prog 47 #[.pointer (some ⟨bb, 0, none⟩), .pointer (some ⟨lb, 0, none⟩), snapV s A c, .string name] w (TablePost w t) := by
  have HQ0 : Hid (Quiet w ((w.alloc (.cells (snapCells s A c) 88)).alloc (.cells #[.int .u64 0, .string ⟨#[]⟩, .slice none 0 0, .int .u64 0, .int .u64 0] 37))) := ((Only.refl _ _).alloc _).alloc _
  have HR := Lib.hid (two_new w (.cells (snapCells s A c) 88) (.cells #[.int .u64 0, .string ⟨#[]⟩, .slice none 0 0, .int .u64 0, .int .u64 0] 37))
  have HT : Hid (∀ W, Quiet w W → Calls Tryz.prog 94 #[.pointer (some ⟨bb, 0, none⟩), .pointer (some ⟨lb, 0, none⟩), snapV s A c, .string name] W (TabPost W tps (some i))) := fun W hq => by
    have := book_table name (h.kept hq (fun _ _ x => x)) (hl.kept hq (fun _ _ x => x)) (hs.kept hq (fun _ _ x => x))
    rw [hf] at this
    exact this
  have HTO : Hid (∀ W p, Quiet w W → tps[i]? = some p → Calls Tryz.prog 87 #[.pointer (some ⟨p, 0, none⟩)] W (ToldPost W t)) := fun W p hq hp => by
    obtain ⟨p', h1, h2⟩ := h.tbl i t ht
    rw [hp] at h1
    injection h1 with h1
    subst h1
    exact table_told (h2.kept hq (fun _ _ x => x))
  unfold snapV at *
  clear h hl hs hf ht
  go_enter Tryz.func47, Tryz.ntmps47
  go_wp2_with fail
  refine (HT.out _ HQ0.out).mono ?_
  rintro e w1 ⟨⟨p, hp, rfl⟩, hq1⟩
  have HQ1 := Lib.hid (HQ0.out.trans hq1)
  have HR1 := Lib.hid (hq1.get (by exact HR.out) (fun x => x))
  have HP := Lib.hid hp
  clear hq1 hp HT HQ0 HR
  go_wp2_with fail
  refine (HTO.out _ p HQ1.out HP.out).mono ?_
  rintro e w2 ⟨A2, c2, rfl, hf2⟩
  obtain ⟨A5, c5, e5, hc5, hm5, _⟩ := own_form hf2.own
  injection e5 with e5 _ e6
  subst e5 e6
  have hb2 := hf2.quiet.get (by exact HR1.out) (fun x => x)
  have z0 := cell_of hb2 0
  have z1 := cell_of hb2 1
  have z2 := cell_of hb2 2
  have z3 := cell_of hb2 3
  have z4 := cell_of hb2 4
  have zf := fun o => frozen_of hb2 o
  simp only [zGA, zGS, zGZ] at z0 z1 z2 z3 z4
  have HX := Lib.hid (fiveSet_same hb2 (.int .u64 (t.id : Int)) (.string t.name) (.slice A2 t.cols.length c2) (.int .u64 (t.xmin : Int)) (.int .u64 (t.xmax : Int)))
  have HO := fiveSet_only w2 (w.heap.size + 1) (.int .u64 (t.id : Int)) (.string t.name) (.slice A2 t.cols.length c2) (.int .u64 (t.xmin : Int)) (.int .u64 (t.xmax : Int))
  have hz1 : w.heap.size + 1 < w1.heap.size := lt_of_get HR1.out
  have HF : Hid (FreshC w (fiveSet w2 (w.heap.size + 1) (.int .u64 (t.id : Int)) (.string t.name) (.slice A2 t.cols.length c2) (.int .u64 (t.xmin : Int)) (.int .u64 (t.xmax : Int))) (.slice A2 t.cols.length c2) t.cols) :=
    ⟨(HQ1.out.trans hf2.quiet).trans' HO (fun k hk e => by omega), fun k e => by have := hf2.new k e; omega, owns_kept hf2.own HO (fun k e x => by have := hf2.new k e; omega)⟩
  have HC := Lib.hid hc5
  have HM := Lib.hid hm5
  clear HO hf2 hb2 HTO HR1 HQ1 hc5 hm5
  unfold fiveSet at HX HF
  unfold tabV
  go_wp2
  generalize ((((w2.setCell ⟨w.heap.size + 1, 0, none⟩ (.int .u64 (t.id : Int))).setCell ⟨w.heap.size + 1, 1, none⟩ (.string t.name)).setCell ⟨w.heap.size + 1, 2, none⟩ (.slice A2 t.cols.length c2)).setCell ⟨w.heap.size + 1, 3, none⟩ (.int .u64 (t.xmin : Int))).setCell ⟨w.heap.size + 1, 4, none⟩ (.int .u64 (t.xmax : Int)) = W6 at HX HF ⊢
  exact bodyPost_ret (results_cell_tmp Tryz.results47 _ _ (w.heap.size + 1) _ _ (0, 0) _ (by rfl) HX.out Tryz.underlying37 rfl info_tab) (by rfl) ⟨A2, c2, rfl, HF.out, HC.out, HM.out⟩

end Go.Proofs.YtaijnpgoiagboaaGreatDoor

namespace Go.Proofs.YtaijnpgoiagboaaGreatDoor
open Go.RowKit Go.Lap

/-- A name of small letters. -/
structure Small (s : ByteArray) : Prop where
  pos : 0 < s.size
  most : s.size ≤ 20
  low : ∀ (i : Nat) (h : i < s.size), 97 ≤ (s[i]'h).toNat ∧ (s[i]'h).toNat ≤ 122

set_option maxHeartbeats 1000000 in
set_option maxRecDepth 100000 in
theorem book_name (s : ByteArray) (hs : Small s) (w : World) :
    Calls Tryz.prog 96 #[.string s] w (BoolQ w true) := by
  obtain ⟨h0, h20, hl⟩ := hs
  have HL := Lib.hid hl
  have he : s.toList.isEmpty = false := by
    have : s.toList.length = s.size := by rw [Lib.toList_data]; simp
    rcases h : s.toList with _ | _
    · rw [h] at this; simp at this; omega
    · rfl
  clear hl
  go_enter Tryz.func96, Tryz.ntmps96
  go_wp2
  go_loopw [8, 9, 10, 11, 3, 4, 5, 12, 13, 14, 15, 16, 17, 18, 19, 20, 21, 22, 23, 24, 25, 26, 27, 28, 29, 30, 31, 32, 33, 34, 35] (fun _ _ _ _ _ _ _ _ _ _ _ _ _ _ _ _ _ _ _ _ _ _ _ _ _ _ _ _ _ _ _ wr => ∃ k : Nat, k ≤ s.size ∧ wr = w.iter s k) (fun _ _ _ _ _ _ _ _ _ _ _ _ _ _ _ _ _ _ _ _ _ _ _ _ _ _ _ _ _ _ _ wr => s.size - wr.iterPos w.heap.size)
  case atStart => exact ⟨0, Nat.zero_le _, rfl⟩
  case round =>
    obtain ⟨k, hk, rfl⟩ := hrel
    by_cases hlt : k < s.size
    · obtain ⟨x, hx⟩ : ∃ x, (s[k]'hlt).toNat = x := ⟨_, rfl⟩
      have hb := HL.out k hlt
      have hn := fun ty => run_next_ascii (P := Tryz.prog) w s k ty hlt (by omega)
      rw [hx] at hn hb
      have d0 : (97 : Int) ≤ x := by omega
      have d1 : (x : Int) ≤ 122 := by omega
      clear hx
      go_wp2
      go_roundw
      case rel => exact ⟨k + 1, by omega, rfl⟩
      case measure => simp; omega
    · obtain rfl : k = s.size := by omega
      have hn := fun ty => run_next_end (P := Tryz.prog) w s s.size ty (by omega)
      have d2 : decide ((s.size : Int) ≤ 20) = true := decide_eq_true (by omega)
      go_wp2
      go_ret
      exact ⟨rfl, (Only.refl _ _).alloc _⟩

theorem ownsS_kept {w w' : World} {S : Nat → Prop} {P : Program} {k : TypeId} {R : Value → Option (DataW Unit × List MemPlace)} {b n : Nat} {D : DataW Unit} (h : w.ownsMap P k R b n D) (ho : Only S w w') (hn : ¬ S b) : w'.ownsMap P k R b n D := by
  obtain ⟨es, clock, h1, r⟩ := h
  exact ⟨es, clock, ho.get h1 hn, r⟩

set_option maxRecDepth 100000 in
theorem seenS_look {w : World} {b : Nat} (h : w.ownsMap Tryz.prog 9 (plainElem (H := Unit) Tryz.prog 4) b 0 (.map [])) (s : ByteArray) (hs : s.size ≤ 20) :
    (Instr.lookup 237 (.map (some b)) (.string s) false).run Tryz.prog w = .ok (.bool false) w := by
  obtain ⟨v, ps, hrun, hv⟩ := h.lookup (Maps.string_keyed Tryz.underlying9) Tryz.underlying237 (zero_boolS w) (plainElem_bool Tryz.underlying4 false) (Go.WideMaps.keyOf_string_mk Tryz.underlying9 (s := s) (by unfold maxLen; omega))
  obtain ⟨a, rfl, hz⟩ := plainElem_bool_inv Tryz.underlying4 hv
  injection hz with hz _
  injection hz with hz
  injection hz with hz
  rw [hrun, ← hz]

set_option maxHeartbeats 1000000 in
set_option maxRecDepth 100000 in
theorem right_one {w : World} {S : Nat → Prop} {A : Option Addr} {c kd : Nat} {nm : ByteArray} (hr : Rd w S 2 A 1 (colsV [(nm, kd)])) (hnm : Small nm) (hk : 1 ≤ kd ∧ kd ≤ 3) (hc : 1 ≤ c) (hm : c ≤ maxLen) :
    Calls Tryz.prog 97 #[.slice A 1 c] w (BoolQ w true) := by
  have hmm := @run_makeMap Tryz.prog
  obtain ⟨b, off, rfl, _, hcs⟩ := hr.at_ (k := 0) (by omega) (by omega)
  obtain ⟨u0, h0, c0⟩ := hcs 0 (by omega)
  obtain ⟨u1, h1, c1⟩ := hcs 1 (by omega)
  obtain rfl : Value.string nm = u0 := Option.some.inj h0
  obtain rfl : Value.int .u8 (kd : Int) = u1 := Option.some.inj h1
  simp only [Nat.zero_mul, Nat.add_zero, Nat.zero_add] at c0 c1
  have HNM : Hid (∀ W, Calls Tryz.prog 96 #[.string nm] W (BoolQ W true)) := fun W => book_name nm hnm W
  have HO : Hid (World.ownsMap (w.alloc (.map #[] 0)) Tryz.prog 9 (plainElem (H := Unit) Tryz.prog 4) w.heap.size 0 (.map [])) := World.ownsMap_made _ _ _ _
  have HSZ := Lib.hid hnm.most
  have hb := cell_lt c0
  unfold maxLen at hm
  clear hr hcs h0 h1 hnm
  go_enter Tryz.func97, Tryz.ntmps97
  go_wp2
  go_loopw [9, 5, 10, 11, 12, 13, 14, 15, 16, 17, 18, 19, 20, 21, 22, 23, 24, 25, 26, 27, 28, 29, 30, 31, 32, 33, 34, 35] (fun i _ _ _ _ _ _ _ _ _ _ _ _ _ _ _ _ _ _ _ _ _ _ _ _ _ _ _ wr => ∃ k : Nat, k ≤ 1 ∧ i = .int .i64 (k : Int) ∧ Quiet w wr ∧ (k = 0 → wr = w.alloc (.map #[] 0))) (fun i _ _ _ _ _ _ _ _ _ _ _ _ _ _ _ _ _ _ _ _ _ _ _ _ _ _ _ _ => 1 - (intOf i).toNat)
  case atStart => exact ⟨0, Nat.zero_le _, rfl, (Only.refl _ _).alloc _, fun _ => rfl⟩
  case round =>
    obtain ⟨k, hk1, rfl, hq, hw⟩ := hrel
    rcases k with _ | k
    · obtain rfl := hw rfl
      have HQ := Lib.hid hq
      clear hw hq hk1
      have HB : Hid (((w.alloc (.map #[] 0)).alloc (.cells #[.string nm, .int .u8 (kd : Int)] 116)).heap[w.heap.size + 1]? = some (.cells #[.string nm, .int .u8 (kd : Int)] 116 (0, 0))) := two_new w _ _
      go_wp2_with fail
      refine (HNM.out _).mono ?_
      rintro e w2 ⟨rfl, hq2⟩
      have HO2 := Lib.hid (ownsS_kept HO.out (((Only.refl (fun _ => False) _).alloc (.cells #[.string nm, .int .u8 (kd : Int)] 116)).trans hq2) (fun x => x))
      have hb2 := hq2.get (by exact HB.out) (fun x => x)
      have z0 := cell_of hb2 0
      have z1 := cell_of hb2 1
      simp only [zGA, zGS, zGZ] at z0 z1
      have hlk := seenS_look HO2.out nm HSZ.out
      obtain ⟨w3, hup, _, hgr⟩ := HO2.out.update (Maps.string_keyed Tryz.underlying9) Tryz.underlying237 (by unfold maxLen; omega) (Go.WideMaps.keyOf_string_mk Tryz.underlying9 (s := nm) (by have := HSZ.out; unfold maxLen; omega)) (plainElem_bool Tryz.underlying4 true)
      have HQ3 : Hid (Quiet w w3) := ((HQ.out.alloc _).trans hq2).trans' ((Only.refl (· = w.heap.size) w2).byMap hgr (fun _ => rfl)) (fun k hk e => by omega)
      have d0 : ((kd : Int) == 0) = false := by simp; omega
      have d1 : decide (3 < (kd : Int)) = false := decide_eq_false (by omega)
      clear hq2 hb2 hgr HO2 HB HQ HO
      go_wp2
      go_roundw
      case rel => exact ⟨1, by omega, by go_num, HQ3.out, fun x => by cases x⟩
      case measure => simp [intOf]
    · obtain rfl : k = 0 := by omega
      have HQ := Lib.hid hq
      clear hw hq
      go_wp2
      go_ret
      exact ⟨rfl, HQ.out⟩

end Go.Proofs.YtaijnpgoiagboaaGreatDoor

namespace Go.Proofs.YtaijnpgoiagboaaGreatDoor
open Go.RowKit Go.Lap

/-- Block xb is an index's entry. -/
structure IdxAt (w : World) (F : Nat → Prop) (xb : Nat) (e : IE) : Prop where
  box : w.heap[xb]? = some (.cells #[.int .u64 (e.id : Int), .string e.name, .int .u64 (e.xmin : Int), .int .u64 (e.xmax : Int), .int .u64 (e.table : Int), .int .i64 (e.column : Int)] 168 (0, 0))
  own : F xb
  num : U64 e.id ∧ U64 e.xmin ∧ U64 e.xmax ∧ U64 e.table ∧ e.column < 8

theorem IdxAt.kept {S F : Nat → Prop} {w w' : World} {xb : Nat} {e : IE} (h : IdxAt w F xb e) (ho : Only S w w') (hn : ∀ k, F k → ¬ S k) : IdxAt w' F xb e := ⟨ho.get h.box (hn _ h.own), h.own, h.num⟩
theorem IdxAt.mono {F G : Nat → Prop} {w : World} {xb : Nat} {e : IE} (h : IdxAt w F xb e) (hg : ∀ k, F k → G k) : IdxAt w G xb e := ⟨h.box, hg _ h.own, h.num⟩

/-- Block bb is a book of tables T and indexes I. -/
def BookIs (w : World) (F : Nat → Prop) (bb : Nat) (T : List TE) (I : List IE) (last : Nat) : Prop :=
  ∃ vT tps vI ips, BookRow w F bb T vT tps vI ips last ∧ ips.length = I.length ∧ ∀ (i : Nat) e, I[i]? = some e → ∃ p, ips[i]? = some p ∧ IdxAt w F p e

section
variable {w w' : World} {F G : Nat → Prop} {bb last : Nat} {T : List TE} {I : List IE}
theorem BookIs.kept {S : Nat → Prop} (h : BookIs w F bb T I last) (ho : Only S w w') (hn : ∀ k, F k → ¬ S k) : BookIs w' F bb T I last := by
  obtain ⟨vT, tps, vI, ips, h1, h2, h3⟩ := h
  exact ⟨vT, tps, vI, ips, h1.kept ho hn, h2, fun i e hi => by obtain ⟨p, a, b⟩ := h3 i e hi; exact ⟨p, a, b.kept ho hn⟩⟩
theorem BookIs.mono (h : BookIs w F bb T I last) (hg : ∀ k, F k → G k) : BookIs w G bb T I last := by
  obtain ⟨vT, tps, vI, ips, h1, h2, h3⟩ := h
  exact ⟨vT, tps, vI, ips, ⟨h1.box, h1.rowT, h1.rowI, fun i e hi => by obtain ⟨p, a, b⟩ := h1.tbl i e hi; exact ⟨p, a, b.mono hg⟩, ⟨hg _ h1.foot.1, fun k e => hg _ (h1.foot.2.1 k e), fun k e => hg _ (h1.foot.2.2 k e)⟩, h1.num⟩, h2, fun i e hi => by obtain ⟨p, a, b⟩ := h3 i e hi; exact ⟨p, a, b.mono hg⟩⟩
theorem BookIs.lt (h : BookIs w F bb T I last) : F bb ∧ bb < w.heap.size := by
  obtain ⟨vT, tps, vI, ips, h1, h2, h3⟩ := h
  exact ⟨h1.foot.1, lt_of_get h1.box⟩
end

set_option maxHeartbeats 400000 in
set_option maxRecDepth 100000 in
theorem book_new (w : World) :
    Calls Tryz.prog 36 #[] w fun e w' => e = .returned (.pointer (some ⟨w.heap.size, 0, none⟩)) ∧ Quiet w w' ∧ BookIs w' (fun k => w.heap.size ≤ k) w.heap.size [] [] 0 := by
  go_enter Tryz.func36, Tryz.ntmps36
  go_wp2
  go_ret
  exact ⟨rfl, (Only.refl _ _).alloc _, .slice none 0 0, [], .slice none 0 0, [], ⟨alloc_new _ _, World.ownsRow_nil _ _ _ _, World.ownsRow_nil _ _ _ _, fun i e hi => by simp at hi, ⟨Nat.le_refl _, (fun k e => by cases e), (fun k e => by cases e)⟩, by unfold U64; omega⟩, rfl, fun i e hi => by simp at hi⟩

def NilPost (w : World) (e : Ending) (w' : World) : Prop := e = .returned (.slice none 0 0) ∧ w = w'

set_option maxHeartbeats 400000 in
set_option maxRecDepth 100000 in
/-- Without indexes there is none to keep up. -/
theorem keep_none {w : World} {F : Nat → Prop} {bb lb last id : Nat} {T : List TE} (h : BookIs w F bb T [] last) :
    Calls Tryz.prog 68 #[.pointer (some ⟨bb, 0, none⟩), .pointer (some ⟨lb, 0, none⟩), .int .u64 (id : Int)] w (NilPost w) := by
  obtain ⟨vT, tps, vI, ips, h, h2, h3⟩ := h
  have hi0 : ips = [] := List.eq_nil_of_length_eq_zero h2
  subst hi0
  obtain ⟨_, c1, _⟩ := h.cells
  obtain ⟨A, c, hv, hc, hm, _⟩ := ptr_form h.rowI
  subst hv
  rw [List.length_nil] at c1
  clear h h2 h3 hc
  unfold maxLen at hm
  go_enter Tryz.func68, Tryz.ntmps68
  go_wp2
  go_loop [17, 7] (fun i o => i = .int .i64 0 ∧ o = .slice none 0 0) (fun _ _ => 0)
  case atStart => exact ⟨rfl, rfl⟩
  case round =>
    obtain ⟨rfl, rfl⟩ := hrel
    go_wp2
    go_ret
    exact ⟨rfl, rfl⟩

set_option maxHeartbeats 400000 in
set_option maxRecDepth 100000 in
theorem entries_none {w : World} {F : Nat → Prop} {bb last : Nat} (h : BookIs w F bb [] [] last) :
    Calls Tryz.prog 143 #[.pointer (some ⟨bb, 0, none⟩)] w (NilPost w) := by
  obtain ⟨vT, tps, vI, ips, h, h2, h3⟩ := h
  have hi0 : ips = [] := List.eq_nil_of_length_eq_zero h2
  subst hi0
  obtain ⟨c0, c1, _⟩ := h.cells
  obtain ⟨A, c, hv, hc, hm, _⟩ := ptr_form h.rowI
  obtain ⟨A', c', hv', hc', hm', _⟩ := ptr_form h.rowT
  subst hv hv'
  rw [List.length_nil] at c0 c1
  clear h h2 h3 hc hc'
  unfold maxLen at hm hm'
  go_enter Tryz.func143, Tryz.ntmps143
  go_wp2
  go_loop [13, 3] (fun i o => i = .int .i64 0 ∧ o = .slice none 0 0) (fun _ _ => 0)
  case atStart => exact ⟨rfl, rfl⟩
  case round =>
    obtain ⟨rfl, rfl⟩ := hrel
    go_wp2
    go_loop [29, 3] (fun i o => i = .int .i64 0 ∧ o = .slice none 0 0) (fun _ _ => 0)
    case atStart => exact ⟨rfl, rfl⟩
    case round =>
      obtain ⟨rfl, rfl⟩ := hrel
      go_wp2
      go_ret
      exact ⟨rfl, rfl⟩

set_option maxHeartbeats 1000000 in
set_option maxRecDepth 100000 in
theorem taken_none {w : World} {F : Nat → Prop} {bb lb last c : Nat} {A : Option Addr} {s : Snap} {name : ByteArray} (h : BookIs w F bb [] [] last) :
    Calls Tryz.prog 98 #[.pointer (some ⟨bb, 0, none⟩), .pointer (some ⟨lb, 0, none⟩), snapV s A c, .string name] w fun e w' => e = .returned (.int .i64 0) ∧ Quiet w w' := by
  have HQ0 : Hid (Quiet w (w.alloc (.cells (snapCells s A c) 88))) := (Only.refl _ _).alloc _
  have HE := Lib.hid (entries_none (h.kept HQ0.out (fun _ _ x => x)))
  unfold snapV
  clear h
  go_enter Tryz.func98, Tryz.ntmps98
  go_wp2_with fail
  refine HE.out.mono ?_
  rintro e w1 ⟨rfl, rfl⟩
  go_wp2
  go_loop [15, 9] (fun i o => i = .int .i64 0 ∧ o = .int .i64 0) (fun _ _ => 0)
  case atStart => exact ⟨rfl, rfl⟩
  case round =>
    obtain ⟨rfl, rfl⟩ := hrel
    go_wp2
    go_ret
    exact ⟨rfl, HQ0.out⟩

end Go.Proofs.YtaijnpgoiagboaaGreatDoor

namespace Go.Proofs.YtaijnpgoiagboaaGreatDoor
open Go.RowKit Go.Lap

theorem BookRow.count {w : World} {F : Nat → Prop} {bb last : Nat} {T : List TE} {vT vI : Value} {tps ips : List Nat} (h : BookRow w F bb T vT tps vI ips last) (hl : last < 1000000) (z : Int) (hz : z = (last : Int) + 1) :
    BookRow (w.setCell ⟨bb, 2, none⟩ (.int .u64 z)) F bb T vT tps vI ips (last + 1) ∧ Only (· = bb) w (w.setCell ⟨bb, 2, none⟩ (.int .u64 z)) := by
  subst hz
  have ho : Only (· = bb) w (w.setCell ⟨bb, 2, none⟩ (.int .u64 ((last : Int) + 1))) := (Only.refl (· = bb) w).setCell (p := ⟨bb, 2, none⟩) (fun _ => rfl) _
  have ht : ∀ k, vT.ownBlock = some k → k ≠ bb := fun k e => by
    obtain ⟨c, hh⟩ := own_blk h.rowT e
    exact (ne_type h.box hh (by decide)).symm
  have hi : ∀ k, vI.ownBlock = some k → k ≠ bb := fun k e => by
    obtain ⟨c, hh⟩ := own_blk h.rowI e
    exact (ne_type h.box hh (by decide)).symm
  refine ⟨⟨?_, owns_kept h.rowT ho (fun k e x => ht k e x), owns_kept h.rowI ho (fun k e x => hi k e x), fun i e hie => ?_, h.foot, by unfold U64; omega⟩, ho⟩
  · rw [set_same h.box]; rfl
  · obtain ⟨p, h1, h2⟩ := h.tbl i e hie
    obtain ⟨A, c, hb, hr, hc⟩ := h2.ex
    obtain ⟨A', c', t1, t2⟩ := h2.typ
    refine ⟨p, h1, ⟨A, c, ho.get hb (ne_type hb h.box (by decide)), ?_, hc⟩, h2.own, h2.pos, h2.num, A', c', ho.get t1 (ne_type t1 h.box (by decide)), fun g e => ⟨(t2 g e).1, by obtain ⟨cur, hh⟩ := (t2 g e).2; exact ⟨cur, ho.get hh (ne_type hh h.box (by decide))⟩⟩⟩
    refine ⟨hr.len, fun hn => ?_⟩
    obtain ⟨b, off, e1, hb1, hcell⟩ := hr.cells hn
    refine ⟨b, off, e1, hb1, fun j u hu => ho.cell (hcell j u hu) (fun x => ?_)⟩
    have x' : b = bb := x
    subst x'
    have hlen : 0 < (colsV e.cols).length := hn
    have h0 := hcell 0 (colsV e.cols)[0] (List.getElem?_eq_getElem hlen)
    obtain ⟨q, hq⟩ : ∃ q, e.cols[0]? = some q := ⟨_, List.getElem?_eq_getElem h2.pos.1⟩
    have hv := (colsV_get hq).1
    rw [Nat.zero_mul, List.getElem?_eq_getElem hlen] at hv
    injection hv with hv
    rw [hv, cell_of h.box] at h0
    rcases hoff : off + 0 with _ | _ | _ | n
    · rw [hoff] at h0
      simp at h0
      rcases owns_cases h.rowT with ⟨e1, _⟩ | ⟨g, cap, e1, _⟩ <;> rw [e1] at h0 <;> cases h0
    · rw [hoff] at h0
      simp at h0
      rcases owns_cases h.rowI with ⟨e1, _⟩ | ⟨g, cap, e1, _⟩ <;> rw [e1] at h0 <;> cases h0
    · rw [hoff] at h0
      simp at h0
    · rw [hoff] at h0
      simp at h0

/-- What fresh leaves. -/
def FreshEPost (w : World) (F : Nat → Prop) (bb : Nat) (T : List TE) (vT : Value) (tps : List Nat) (vI : Value) (ips : List Nat) (last own : Nat) (name : ByteArray) (e : Ending) (w' : World) : Prop :=
  e = .returned (.agg #[.int .u64 ((last : Int) + 1), .string name, .int .u64 (own : Int), .int .u64 0]) ∧ Only (· = bb) w w' ∧ BookRow w' F bb T vT tps vI ips (last + 1)

set_option maxHeartbeats 1000000 in
set_option maxRecDepth 100000 in
theorem book_fresh {w : World} {F : Nat → Prop} {bb last c : Nat} {T : List TE} {vT vI : Value} {tps ips : List Nat} {A : Option Addr} {s : Snap} {name : ByteArray} (h : BookRow w F bb T vT tps vI ips last) (hl : last < 1000000) :
    Calls Tryz.prog 99 #[.pointer (some ⟨bb, 0, none⟩), snapV s A c, .string name] w (FreshEPost w F bb T vT tps vI ips last s.own name) := by
  obtain ⟨_, _, c2⟩ := h.cells
  have hf : ∀ o, w.frozen? ⟨bb, o, none⟩ = false := fun o => frozen_of h.box o
  have hbl := lt_of_get h.box
  have e1 : IntKind.u64.wrap ((last : Int) + 1) = (last : Int) + 1 := by rw [IntKind.wrap_u64]; omega
  have hb1 : ¬ bb = w.heap.size := by omega
  have hb2 : ¬ bb = w.heap.size + 1 := by omega
  have HC := Lib.hid (h.count hl _ rfl)
  unfold snapV
  clear h
  go_enter Tryz.func99, Tryz.ntmps99
  go_wp2_with fail
  go_region
  all_goals
    go_wp2
    have HQ : Quiet (w.setCell ⟨bb, 2, none⟩ (.int .u64 ((last : Int) + 1))) ((((w.setCell ⟨bb, 2, none⟩ (.int .u64 ((last : Int) + 1))).alloc (.cells (snapCells s A c) 88)).alloc (.cells #[.int .u64 ((last : Int) + 1), .string name, .int .u64 (s.own : Int), .int .u64 0] 166)).drew) := (((Only.refl _ _).alloc _).alloc _).drew
    exact bodyPost_ret (v := .agg #[.int .u64 ((last : Int) + 1), .string name, .int .u64 (s.own : Int), .int .u64 0]) (by simp [results, Tryz.results99, go_sem]) rfl
      ⟨rfl, HC.out.2.trans' HQ (fun _ _ x => x.elim), HC.out.1.kept HQ (fun _ _ x => x)⟩

/-- The first table's row. -/
theorem BookRow.first {w4 w5 w7 : World} {F : Nat → Prop} {bb last : Nat} {vT vI v7 : Value} {t : TE} {A5 : Option Addr} {c5 : Nat} (h : BookRow w4 F bb [] vT [] vI [] last) (hf5 : FreshC w4 w5 (.slice A5 t.cols.length c5) t.cols) (hc5 : t.cols.length ≤ c5 ∧ c5 ≤ maxLen)
    (hp : 0 < t.cols.length ∧ t.cols.length ≤ 8) (hn : U64 t.id ∧ U64 t.xmin ∧ U64 t.xmax)
    (hg : Grew ((w5.alloc (.cells #[.int .u64 (t.id : Int), .string t.name, .int .u64 (t.xmin : Int), .int .u64 (t.xmax : Int), .slice A5 t.cols.length c5] 187)).alloc (.cells #[ptrV w5.heap.size] 162)) w7 162 1 vT v7 1 [ptrV w5.heap.size]) :
    BookIs (w7.setCell ⟨bb, 0, none⟩ v7) (fun k => F k ∨ w4.heap.size ≤ k) bb [t] [] last ∧ Only F w4 (w7.setCell ⟨bb, 0, none⟩ v7) ∧ (w7.setCell ⟨bb, 0, none⟩ v7).cell? ⟨w5.heap.size, 0, none⟩ = some (.int .u64 (t.id : Int)) := by
  have hvt : ∀ k, vT.ownBlock = some k → F k ∧ k < w4.heap.size ∧ k ≠ bb := fun k e => by
    obtain ⟨c, hh⟩ := own_blk h.rowT e
    exact ⟨h.foot.2.1 k e, lt_of_get hh, (ne_type h.box hh (by decide)).symm⟩
  have hvi : ∀ k, vI.ownBlock = some k → k < w4.heap.size ∧ k ≠ bb ∧ vT.ownBlock ≠ some k := fun k e => by
    obtain ⟨c, hh⟩ := own_blk h.rowI e
    refine ⟨lt_of_get hh, (ne_type h.box hh (by decide)).symm, fun x => ?_⟩
    obtain ⟨c', hh'⟩ := own_blk h.rowT x
    exact absurd rfl (ne_type hh hh' (by decide))
  have hl := lt_of_get h.box
  have hz5 := hf5.quiet.size
  have hq2 : Quiet w5 ((w5.alloc (.cells #[.int .u64 (t.id : Int), .string t.name, .int .u64 (t.xmin : Int), .int .u64 (t.xmax : Int), .slice A5 t.cols.length c5] 187)).alloc (.cells #[ptrV w5.heap.size] 162)) := ((Only.refl _ _).alloc _).alloc _
  have hq := hf5.quiet.trans hq2
  have b4 := hg.only.get (hq.get h.box (fun x => x)) (fun e => (hvt bb e).2.2 rfl)
  have ht7 := hg.only.get (alloc_old (alloc_new w5 (.cells #[.int .u64 (t.id : Int), .string t.name, .int .u64 (t.xmin : Int), .int .u64 (t.xmax : Int), .slice A5 t.cols.length c5] 187)) (.cells #[ptrV w5.heap.size] 162)) (fun e => by have := (hvt _ e).2.1; omega)
  have ho : Only (· = bb) w7 (w7.setCell ⟨bb, 0, none⟩ v7) := (Only.refl (· = bb) w7).setCell (p := ⟨bb, 0, none⟩) (fun _ => rfl) v7
  have hne : ¬ w5.heap.size = bb := by omega
  have hv7 : ∀ k, v7.ownBlock = some k → (F k ∨ w4.heap.size ≤ k) ∧ k ≠ bb := fun k e => by
    rcases hg.loc with x | x
    · rw [x] at e; exact ⟨Or.inl (hvt k e).1, (hvt k e).2.2⟩
    · rw [x] at e; injection e with e; simp only [World.size_alloc] at e; exact ⟨Or.inr (by omega), by omega⟩
  have hrow5 := hf5.own
  have hnew5 : ∀ k, (Value.slice A5 t.cols.length c5).ownBlock = some k → w4.heap.size ≤ k ∧ k < w5.heap.size := fun k e => ⟨hf5.new k e, (hrow5.lt k e).2⟩
  obtain ⟨A6, c6, e6, _, _, hrd⟩ := own_form hrow5
  injection e6 with e6 _ e7
  subst e6 e7
  have hrd7 := ((hrd.kept hq2 (fun _ _ x => x)).kept hg.only (fun k e x => by have := hnew5 k e; have := (hvt k x).2.1; omega)).kept ho (fun k e x => by have := hnew5 k e; omega)
  have tb := ho.get ht7 hne
  refine ⟨⟨v7, [w5.heap.size], vI, [], ⟨?_, ?_, ?_, ?_, ⟨Or.inl h.foot.1, fun k e => (hv7 k e).1, fun k e => Or.inl (h.foot.2.2 k e)⟩, h.num⟩, rfl, fun i e hi => by simp at hi⟩, ?_, ?_⟩
  · rw [set_same b4]; rfl
  · exact owns_kept hg.own ho (fun k e x => (hv7 k e).2 x)
  · exact owns_kept (owns_kept (owns_kept h.rowI hq (fun _ _ x => x)) hg.only (fun k e x => (hvi k e).2.2 x)) ho (fun k e x => (hvi k e).2.1 x)
  · intro i e hi
    rcases i with _ | i
    · simp at hi
      subst hi
      exact ⟨w5.heap.size, rfl, ⟨_, _, tb, hrd7.mono (fun k e => Or.inr (hnew5 k e).1), hc5⟩, Or.inr hz5, hp, hn, A5, c5, tb, fun g e => ⟨Or.inr (hnew5 g e).1, by
        obtain ⟨cur, hh⟩ := own_blk hrow5 e
        exact ⟨cur, ho.get (hg.only.get (hq2.get hh (fun x => x)) (fun x => by have := hnew5 g e; have := (hvt g x).2.1; omega)) (fun x => by have x' : g = bb := x; have := hnew5 g e; omega)⟩⟩⟩
    · simp at hi
  · exact ((hq.mono (T := F) (fun _ _ x => x.elim)).trans' hg.only (fun k _ e => (hvt k e).1)).trans' ho (fun k _ e => by subst e; exact h.foot.1)
  · rw [cell_of tb]; rfl

theorem elem_tbl : Elem Tryz.prog 152 162 1 8 := Elem.mk' (.pointer none) Tryz.underlying152 (by kernel_rfl) rfl (by decide)

/-- What CreateTable leaves of an empty book. -/
def FirstPost (w : World) (F : Nat → Prop) (bb last : Nat) (t : TE) (e : Ending) (w' : World) : Prop :=
  e = .returned (.tuple #[.int .u64 ((last : Int) + 1), .int .i64 0]) ∧ Only F w w' ∧ BookIs w' (fun k => F k ∨ w.heap.size ≤ k) bb [t] [] (last + 1)

set_option maxHeartbeats 2000000 in
set_option maxRecDepth 100000 in
theorem book_first {w : World} {F S S2 : Nat → Prop} {bb lb last c c2 kd : Nat} {A A2 : Option Addr} {s : Snap} {name nm : ByteArray} (h : BookIs w F bb [] [] last) (hl : last < 1000000) (hnm : Small name) (hcn : Small nm) (hk : 1 ≤ kd ∧ kd ≤ 3) (hu : U64 s.own)
    (hr : Rd w S2 2 A2 1 (colsV [(nm, kd)])) (hS : ∀ k, S2 k → ¬ F k) (hc2 : 1 ≤ c2) (hm2 : c2 ≤ maxLen) :
    Calls Tryz.prog 50 #[.pointer (some ⟨bb, 0, none⟩), .pointer (some ⟨lb, 0, none⟩), snapV s A c, .string name, .slice A2 1 c2] w (FirstPost w F bb last ⟨last + 1, name, [(nm, kd)], s.own, 0⟩) := by
  have HQ0 : Hid (Quiet w (w.alloc (.cells (snapCells s A c) 88))) := (Only.refl _ _).alloc _
  have HNM : Hid (∀ W, Calls Tryz.prog 96 #[.string name] W (BoolQ W true)) := fun W => book_name name hnm W
  have HRI : Hid (∀ W, Quiet w W → Calls Tryz.prog 97 #[.slice A2 1 c2] W (BoolQ W true)) := fun W hq => right_one (hr.kept hq (fun _ _ x => x)) hcn hk hc2 hm2
  have HTK : Hid (∀ W, Quiet w W → Calls Tryz.prog 98 #[.pointer (some ⟨bb, 0, none⟩), .pointer (some ⟨lb, 0, none⟩), snapV s A c, .string name] W fun e w' => e = .returned (.int .i64 0) ∧ Quiet W w') := fun W hq => taken_none (h.kept hq (fun _ _ x => x))
  have HB := Lib.hid (alloc_new w (.cells (snapCells s A c) 88))
  have HH := Lib.hid h
  have HR := Lib.hid hr
  have HS := Lib.hid hS
  unfold snapV at *
  clear h hr hS hnm hcn
  go_enter Tryz.func50, Tryz.ntmps50
  go_wp2_with fail
  refine (HNM.out _).mono ?_
  rintro e w1 ⟨rfl, hq1⟩
  have HQ1 := Lib.hid (HQ0.out.trans hq1)
  have HB1 := Lib.hid (hq1.get (by exact HB.out) (fun x => x))
  clear hq1 HB HQ0
  go_wp2_with fail
  refine (HRI.out _ HQ1.out).mono ?_
  rintro e w2 ⟨rfl, hq2⟩
  have HQ2 := Lib.hid (HQ1.out.trans hq2)
  have HB2 := Lib.hid (hq2.get HB1.out (fun x => x))
  obtain ⟨b0, b1, b2, b3⟩ := snapBox_cells HB2.out
  clear hq2 HB1 HQ1
  go_wp2_with fail
  refine (HTK.out _ HQ2.out).mono ?_
  rintro e w3 ⟨rfl, hq3⟩
  have HQ3 := Lib.hid (HQ2.out.trans hq3)
  have HB3 := Lib.hid (hq3.get HB2.out (fun x => x))
  clear b0 b1 b2 b3 hq3 HB2 HQ2 HTK HRI HNM
  obtain ⟨b0, b1, b2, b3⟩ := snapBox_cells HB3.out
  obtain ⟨vT, tps, vI, ips, hrow, hi0, _⟩ := HH.out.kept HQ3.out (fun _ _ x => x)
  have hips : ips = [] := List.eq_nil_of_length_eq_zero hi0
  have htps : tps = [] := List.eq_nil_of_length_eq_zero hrow.tlen
  subst hips htps
  obtain ⟨c0, _, _⟩ := hrow.cells
  obtain ⟨AT, cT, hvT, hcT, hmT, _⟩ := ptr_form hrow.rowT
  subst hvT
  rw [List.length_nil] at c0
  unfold maxLen at hmT
  have HFR : Hid (Calls Tryz.prog 99 #[.pointer (some ⟨bb, 0, none⟩), snapV s A c, .string name] w3 (FreshEPost w3 F bb [] (.slice AT 0 cT) [] vI [] last s.own name)) := book_fresh hrow hl
  unfold snapV at HFR
  clear hcT hrow hi0
  go_wp2_with fail
  refine HFR.out.mono ?_
  rintro e w4 ⟨rfl, ho4, hr4⟩
  have HO4 := Lib.hid ho4
  have HR4 := Lib.hid hr4
  have HRD4 : Hid (Rd w4 S2 2 A2 1 (colsV [(nm, kd)])) := (HR.out.kept HQ3.out (fun _ _ x => x)).kept ho4 (fun k x e => by subst e; exact HS.out _ x hr4.foot.1)
  clear ho4 hr4 HFR c0 b0 b1 b2 b3
  go_wp2_with fail
  refine (clone_cols A2 c2 [(nm, kd)] S2 w4 HRD4.out (by simp) (by simp)).mono ?_
  rintro e w5 ⟨v5, rfl, hf5⟩
  obtain ⟨A5, c5, hv5, hc5, hm5, _⟩ := own_form hf5.own
  subst hv5
  have HF5 := Lib.hid hf5
  have HC5 := Lib.hid (And.intro hc5 hm5)
  have hb5 := hf5.quiet.get HR4.out.box (fun x => x)
  have k0 := cell_of hb5 0
  have kf := fun o => frozen_of hb5 o
  simp only [zGA, zGS, zGZ] at k0
  have hbl5 : bb < w5.heap.size := lt_of_get hb5
  have hne5 : ¬ bb = w5.heap.size := by omega
  have hne6 : ¬ bb = w5.heap.size + 1 := by omega
  clear hf5 hc5 hm5 HRD4 hb5
  have HROW : Hid (World.ownsRow ((w5.alloc (.cells #[.int .u64 ((last : Int) + 1), .string name, .int .u64 (s.own : Int), .int .u64 0, .slice A5 1 c5] 187)).alloc (.cells #[ptrV w5.heap.size] 162)) 0 162 1 (.slice AT 0 cT) 0 []) :=
    owns_kept (owns_kept HR4.out.rowT HF5.out.quiet (fun _ _ x => x)) (((Only.refl (fun _ => False) w5).alloc _).alloc _) (fun _ _ x => x)
  have HRD : Hid (Rd ((w5.alloc (.cells #[.int .u64 ((last : Int) + 1), .string name, .int .u64 (s.own : Int), .int .u64 0, .slice A5 1 c5] 187)).alloc (.cells #[ptrV w5.heap.size] 162)) (fun _ => True) 1 (some ⟨w5.heap.size + 1, 0, none⟩) 1 [ptrV w5.heap.size]) := by
    have := Rd.one (w5.alloc (.cells #[.int .u64 ((last : Int) + 1), .string name, .int .u64 (s.own : Int), .int .u64 0, .slice A5 1 c5] 187)) (ptrV w5.heap.size) 162 (0, 0) (S := fun _ => True) trivial
    rw [World.size_alloc] at this
    exact this
  go_wp2_with (at_builtin; refine app elem_tbl rfl (.tmp 52) (.tmp 54) rfl rfl HROW.out rfl HRD.out (one_ptr [w5.heap.size]) (by unfold maxLen; omega) (by omega) ?_)
  intro v7 w7 hg7
  obtain ⟨A7, c7, hv7, _, _, _⟩ := own_form hg7.own
  subst hv7
  have HFI := Lib.hid (HR4.out.first (t := ⟨last + 1, name, [(nm, kd)], s.own, 0⟩) HF5.out HC5.out ⟨by simp, by simp⟩ ⟨by show last + 1 < 18446744073709551616; omega, hu, by show 0 < 18446744073709551616; omega⟩ hg7)
  have b7 := hg7.only.get ((((HF5.out.quiet.alloc (.cells #[.int .u64 ((last : Int) + 1), .string name, .int .u64 (s.own : Int), .int .u64 0, .slice A5 1 c5] 187)).alloc (.cells #[ptrV w5.heap.size] 162)).get HR4.out.box (fun x => x))) (fun e => by
    obtain ⟨c, hh⟩ := own_blk HR4.out.rowT e
    exact absurd rfl (ne_type HR4.out.box hh (by decide)))
  have s0 := cell_of b7 0
  have sf := fun o => frozen_of b7 o
  simp only [zGA, zGS, zGZ] at s0
  have hid : (w7.setCell ⟨bb, 0, none⟩ (.slice A7 (0 + 1) c7)).cell? ⟨w5.heap.size, 0, none⟩ = some (.int .u64 ((last : Int) + 1)) := HFI.out.2.2
  have HEND : Hid (FirstPost w F bb last ⟨last + 1, name, [(nm, kd)], s.own, 0⟩ (.returned (.tuple #[.int .u64 ((last : Int) + 1), .int .i64 0])) (w7.setCell ⟨bb, 0, none⟩ (.slice A7 (0 + 1) c7))) := by
    have hz3 := HQ3.out.size
    have hz4 := HO4.out.size
    refine ⟨rfl, (((HQ3.out.mono (T := F) (fun _ _ x => x.elim)).trans' HO4.out (fun k _ e => by subst e; exact HR4.out.foot.1)).trans HFI.out.2.1), HFI.out.1.mono (fun k x => ?_)⟩
    rcases x with x | x
    · exact Or.inl x
    · exact Or.inr (by omega)
  clear hg7 b7 HROW HRD HFI k0 kf
  simp only [Nat.zero_add] at hid HEND
  go_wp2
  go_ret2
  exact HEND.out

end Go.Proofs.YtaijnpgoiagboaaGreatDoor

namespace Go.Proofs.YtaijnpgoiagboaaGreatDoor
open Go.RowKit Go.Lap

set_option maxHeartbeats 400000 in
set_option maxRecDepth 100000 in
theorem valid_empty (w : World) :
    Calls Tryz.prog 183 #[.string ⟨#[]⟩] w fun e w' => e = .returned (.bool true) ∧ w = w' := by
  go_enter Tryz.func183, Tryz.ntmps183
  go_wp2
  refine wp_loop_rounds 1 ?_
  rw [rounds_succ]
  go_wp2
  go_ret
  exact ⟨rfl, rfl⟩

set_option maxHeartbeats 400000 in
set_option maxRecDepth 100000 in
theorem index_empty (w : World) :
    Calls Tryz.prog 184 #[.string ⟨#[]⟩, .int .u8 0] w fun e w' => e = .returned (.int .i64 (-1)) ∧ w = w' := by
  go_enter Tryz.func184, Tryz.ntmps184
  go_wp2
  rw [run_callFunc_extern Tryz.func207 (by kernel_rfl) (by kernel_rfl) (by kernel_rfl) (e := Extern.BytealgIndexByte.indexByte) (by kernel_rfl), Lib.run_indexByteString]
  simp only [Result.andThen]
  rw [Oper.upon_value]
  go_wp2
  go_ret
  exact ⟨rfl, rfl⟩

/-- A number as a value. -/
abbrev intCells (n : Int) : Array Value := #[.int .u8 1, .int .i64 n, .string ⟨#[]⟩, .bool false]

set_option maxHeartbeats 1000000 in
set_option maxRecDepth 100000 in
theorem cell_right_int (n : Int) (w : World) :
    Calls Tryz.prog 142 #[.agg (intCells n)] w (BoolQ w true) := by
  have hqq : Hid (Quiet w ((w.alloc (.cells (intCells n) 73)).alloc (.cells (intCells 0) 73))) := ((Only.refl _ _).alloc _).alloc _
  go_enter Tryz.func142, Tryz.ntmps142
  go_wp2_with fail
  refine (valid_empty _).mono ?_
  rintro e w1 ⟨rfl, rfl⟩
  go_wp2_with fail
  refine (index_empty _).mono ?_
  rintro e w1 ⟨rfl, rfl⟩
  go_wp2
  go_ret
  exact ⟨rfl, hqq.out⟩

set_option maxHeartbeats 400000 in
set_option maxRecDepth 100000 in
theorem right_kind (k : Nat) (hk : 1 ≤ k ∧ k ≤ 3) (w : World) :
    Calls Tryz.prog 169 #[.int .u8 (k : Int)] w fun e w' => e = .returned (.bool false) ∧ w = w' := by
  have d0 : ((k : Int) == 0) = false := by simp; omega
  have d1 : decide (3 < (k : Int)) = false := decide_eq_false (by omega)
  go_enter Tryz.func169, Tryz.ntmps169
  go_wp2
  go_ret
  exact ⟨rfl, rfl⟩

set_option maxHeartbeats 400000 in
set_option maxRecDepth 100000 in
theorem index_kind {w : World} {S : Nat → Prop} {A : Option Addr} {c k : Nat} (hr : Rd w S 1 A 1 [.int .u8 (k : Int)]) (hk : 1 ≤ k ∧ k ≤ 3) (hc : 1 ≤ c) (hm : c ≤ maxLen) :
    Calls Tryz.prog 195 #[.slice A 1 c, .func (.func 169) #[] #[]] w fun e w' => e = .returned (.int .i64 (-1)) ∧ w = w' := by
  obtain ⟨b, off, u, rfl, _, hu, hcell⟩ := hr.get (k := 0) (by omega)
  obtain rfl : Value.int .u8 (k : Int) = u := Option.some.inj hu
  rw [Nat.add_zero] at hcell
  unfold maxLen at hm
  clear hr hu
  go_enter Tryz.func195, Tryz.ntmps195
  go_wp2
  refine wp_loop_rounds 2 ?_
  rw [rounds_succ]
  go_wp2_with fail
  refine (right_kind k hk _).mono ?_
  rintro e w1 ⟨rfl, rfl⟩
  go_wp2
  rw [rounds_succ]
  go_wp2
  go_ret
  exact ⟨rfl, rfl⟩

set_option maxHeartbeats 400000 in
set_option maxRecDepth 100000 in
theorem has_kind {w : World} {S : Nat → Prop} {A : Option Addr} {c k : Nat} (hr : Rd w S 1 A 1 [.int .u8 (k : Int)]) (hk : 1 ≤ k ∧ k ≤ 3) (hc : 1 ≤ c) (hm : c ≤ maxLen) :
    Calls Tryz.prog 168 #[.slice A 1 c, .func (.func 169) #[] #[]] w fun e w' => e = .returned (.bool false) ∧ w = w' := by
  have HI := Lib.hid (index_kind hr hk hc hm)
  go_enter Tryz.func168, Tryz.ntmps168
  go_wp2_with fail
  refine HI.out.mono ?_
  rintro e w1 ⟨rfl, rfl⟩
  go_wp2
  go_ret
  exact ⟨rfl, rfl⟩

set_option maxHeartbeats 1000000 in
set_option maxRecDepth 100000 in
theorem row_right {w : World} {S : Nat → Prop} {A : Option Addr} {c k : Nat} (hr : Rd w S 1 A 1 [.int .u8 (k : Int)]) (hk : 1 ≤ k ∧ k ≤ 3) (hc : 1 ≤ c) (hm : c ≤ maxLen) :
    Calls Tryz.prog 132 #[.slice A 1 c] w fun e w' => e = .returned (.bool true) ∧ w = w' := by
  have HI := Lib.hid (has_kind hr hk hc hm)
  go_enter Tryz.func132, Tryz.ntmps132
  go_wp2_with fail
  refine HI.out.mono ?_
  rintro e w1 ⟨rfl, rfl⟩
  go_wp2
  go_ret
  exact ⟨rfl, rfl⟩

set_option maxHeartbeats 400000 in
set_option maxRecDepth 100000 in
theorem row_size_int (n : Int) (w : World) :
    Calls Tryz.prog 153 #[.agg (intCells n)] w fun e w' => e = .returned (.int .i64 8) ∧ Quiet w w' := by
  have hqq : Hid (Quiet w (w.alloc (.cells (intCells n) 73))) := (Only.refl _ _).alloc _
  go_enter Tryz.func153, Tryz.ntmps153
  go_wp2
  go_ret
  exact ⟨rfl, hqq.out⟩

end Go.Proofs.YtaijnpgoiagboaaGreatDoor

namespace Go.Proofs.YtaijnpgoiagboaaGreatDoor
open Go.RowKit Go.Lap

/-- A number's cells, one behind the other. -/
abbrev intRow (n : Int) : List Value := [.int .u8 1, .int .i64 n, .string ⟨#[]⟩, .bool false]

theorem intRow.get {w : World} {S : Nat → Prop} {A : Option Addr} {n : Int} (h : Rd w S 4 A 1 (intRow n)) : ∃ b off, A = some ⟨b, off, none⟩ ∧ S b ∧ w.cell? ⟨b, off, none⟩ = some (.int .u8 1) ∧ w.cell? ⟨b, off + 1, none⟩ = some (.int .i64 n) ∧ w.cell? ⟨b, off + 2, none⟩ = some (.string ⟨#[]⟩) ∧ w.cell? ⟨b, off + 3, none⟩ = some (.bool false) := by
  obtain ⟨b, off, rfl, hb, hc⟩ := h.cells (by show 0 < 4; decide)
  exact ⟨b, off, rfl, hb, hc 0 _ rfl, hc 1 _ rfl, hc 2 _ rfl, hc 3 _ rfl⟩

set_option maxHeartbeats 2000000 in
set_option maxRecDepth 100000 in
theorem row_fits_int {w : World} {S S2 : Nat → Prop} {A A2 : Option Addr} {c c2 : Nat} {n : Int} (hk : Rd w S 1 A 1 [.int .u8 1]) (hv : Rd w S2 4 A2 1 (intRow n)) (hc : 1 ≤ c) (hm : c ≤ maxLen) (hc2 : 1 ≤ c2) (hm2 : c2 ≤ maxLen) :
    Calls Tryz.prog 110 #[.slice A 1 c, .slice A2 1 c2] w fun e w' => e = .returned (.int .i64 0) ∧ Quiet w w' := by
  have HR : Hid (∀ W, Quiet w W → Calls Tryz.prog 132 #[.slice A 1 c] W fun e w' => e = .returned (.bool true) ∧ W = w') := fun W hq => row_right (k := 1) (hk.kept hq (fun _ _ x => x)) (by omega) hc hm
  obtain ⟨b, off, u, rfl, _, hu, hcell⟩ := hk.get (k := 0) (by omega)
  obtain rfl : Value.int .u8 1 = u := Option.some.inj hu
  rw [Nat.add_zero] at hcell
  obtain ⟨b2, off2, rfl, _, v0, v1, v2, v3⟩ := intRow.get hv
  have l1 := cell_lt hcell
  have l2 := cell_lt v0
  dsimp only at l1 l2
  unfold maxLen at hm hm2
  clear hk hv hu
  go_enter Tryz.func110, Tryz.ntmps110
  go_wp2_with fail
  refine (HR.out _ (Only.refl _ _)).mono ?_
  rintro e w1 ⟨rfl, rfl⟩
  go_wp2_with fail
  refine wp_loop_rounds 2 ?_
  rw [rounds_succ]
  go_wp2_with fail
  refine (cell_right_int n _).mono ?_
  rintro e w1 ⟨rfl, hq1⟩
  have hq0 : Quiet w w1 := ((Only.refl _ _).alloc _).trans hq1
  have HS := Lib.hid (row_size_int n)
  have v0' := hq0.cell v0 (fun x => x)
  have v1' := hq0.cell v1 (fun x => x)
  have v2' := hq0.cell v2 (fun x => x)
  have v3' := hq0.cell v3 (fun x => x)
  have hcell' := hq0.cell hcell (fun x => x)
  have HQ0 := Lib.hid hq0
  have l1' := cell_lt hcell'
  have l2' := cell_lt v0'
  dsimp only at l1' l2'
  clear v0 v1 v2 v3 hcell l1 l2 hq1 hq0
  go_wp2_with fail
  rw [rounds_succ]
  go_wp2_with fail
  refine wp_loop_rounds 2 ?_
  rw [rounds_succ]
  go_wp2_with fail
  go_quiet (fail)
  go_wp2_with fail
  refine (HS.out _).mono ?_
  rintro e w2 ⟨rfl, hq2⟩
  have hq3 : Quiet w w2 := ((HQ0.out.alloc _).drewN _).trans hq2
  clear hq2 v0' v1' v2' v3' hcell' HQ0 l1' l2'
  go_wp2_with fail
  rw [rounds_succ]
  go_wp2_with fail
  go_ret
  exact ⟨rfl, hq3⟩

end Go.Proofs.YtaijnpgoiagboaaGreatDoor

namespace Go.Proofs.YtaijnpgoiagboaaGreatDoor
open Go.RowKit Go.Lap

/-- The bytes of a small number: so many of them. -/
def smallN (n k : Nat) : List Nat := (List.range k).map (fun i => if i = 0 then n else 0)

/-- A row of one small number. -/
def rowI (n : Nat) : List Nat := 0 :: smallN n 8

theorem smallN_succ (n k : Nat) : smallN n (k + 1) = smallN n k ++ [if k = 0 then n else 0] := by simp [smallN, List.range_succ]
theorem smallN_length (n k : Nat) : (smallN n k).length = k := by simp [smallN]

theorem small_byte {n k : Nat} (hn : n < 256) (hk : k < 8) : (n : Int) / 2 ^ (8 * k) = ((if k = 0 then n else 0 : Nat) : Int) := by
  rcases Nat.eq_zero_or_pos k with rfl | h
  · simp
  · rw [if_neg (by omega)]
    have h1 : 256 ≤ 2 ^ (8 * k) := by
      have : 2 ^ 8 ≤ 2 ^ (8 * k) := Nat.pow_le_pow_right (by omega) (by omega)
      simpa using this
    have h2 : n / 2 ^ (8 * k) = 0 := Nat.div_eq_of_lt (by omega)
    have h3 : (n : Int) / 2 ^ (8 * k) = ((n / 2 ^ (8 * k) : Nat) : Int) := by push_cast; rfl
    rw [h3, h2]

theorem owns_one (w : World) (e : TypeId) (u : Value) : (w.alloc (.cells #[u] e)).ownsRow 0 e 1 (.slice (some ⟨w.heap.size, 0, none⟩) 1 1) 1 [u] :=
  ⟨by simp, .inr ⟨w.heap.size, 1, #[u], rfl, Nat.zero_le _, heap_alloc_new w _, Nat.le_refl _, by unfold maxLen; omega, rfl, by simp⟩⟩

section
variable {w wr w' : World} {v : Value} {l : List Nat}
theorem Fresh.quietly (h : Fresh w wr v l) (hq : Quiet wr w') : Fresh w w' v l := ⟨h.quiet.trans hq, h.new, owns_kept h.own hq (fun _ _ x => x)⟩
theorem Fresh.step {w4 : World} {v' : Value} {o : Obj} {x : Nat} (h : Fresh w wr v l) (hg : Grew (wr.alloc o) w4 5 1 v v' (l.length + 1) (bytesV l ++ bytesV [x])) : Fresh w w4 v' (l ++ [x]) := by
  have hsz := h.quiet.size
  refine ⟨(h.quiet.alloc _).trans' hg.only (fun k hk e => by have := h.new k e; omega), fun k e => ?_, ?_⟩
  · rcases hg.loc with y | y
    · rw [y] at e; exact h.new k e
    · rw [y] at e; injection e with e; simp only [World.size_alloc] at e; omega
  · rw [List.length_append, show bytesV (l ++ [x]) = bytesV l ++ bytesV [x] by simp [bytesV]]
    exact hg.own
end

/-- What Bytes leaves. -/
def RowPost (w : World) (l : List Nat) (e : Ending) (w' : World) : Prop := ∃ v, e = .returned (.tuple #[v, .int .i64 0]) ∧ Fresh w w' v l

set_option maxHeartbeats 2000000 in
set_option maxRecDepth 100000 in
theorem row_bytes_int {w : World} {S S2 : Nat → Prop} {A A2 : Option Addr} {c c2 : Nat} {n : Nat} (hn : n < 256) (hk : Rd w S 1 A 1 [.int .u8 1]) (hv : Rd w S2 4 A2 1 (intRow n)) (hc : 1 ≤ c) (hm : c ≤ maxLen) (hc2 : 1 ≤ c2) (hm2 : c2 ≤ maxLen) :
    Calls Tryz.prog 59 #[.slice A 1 c, .slice A2 1 c2] w (RowPost w (rowI n)) := by
  have HF := Lib.hid (row_fits_int hk hv hc hm hc2 hm2)
  have HV := Lib.hid hv
  unfold maxLen at hm hm2
  clear hk hv
  go_enter Tryz.func59, Tryz.ntmps59
  go_wp2_with fail
  refine HF.out.mono ?_
  rintro e w1 ⟨rfl, hq1⟩
  obtain ⟨b2, off2, rfl, _, v0, v1, v2, v3⟩ := intRow.get (HV.out.kept hq1 (fun _ _ x => x))
  have l2 := cell_lt v0
  dsimp only at l2
  have HQ1 := Lib.hid hq1
  clear hq1 HF HV
  have HFR : Hid (Fresh w (w1.alloc (.cells #[.int .u8 0] 5)) (.slice (some ⟨w1.heap.size, 0, none⟩) 1 1) [0]) := ⟨HQ1.out.alloc _, fun k e => by injection e with e; simp only at e; have := HQ1.out.size; omega, owns_one _ _ _⟩
  go_wp2_with fail
  refine wp_loop_rounds 2 ?_
  rw [rounds_succ]
  go_wp2_with fail
  have hF0 : Fresh w ((w1.alloc (.cells #[.int .u8 0] 5)).alloc (.cells (intCells n) 73)) (.slice (some ⟨w1.heap.size, 0, none⟩) 1 1) [0] := HFR.out.quietly ((Only.refl _ _).alloc _)
  have hN0 : ((w1.alloc (.cells #[.int .u8 0] 5)).alloc (.cells (intCells n) 73)).cell? ⟨w1.heap.size + 1, 1, none⟩ = some (.int .i64 (n : Int)) := by
    have h := alloc_new (w1.alloc (.cells #[.int .u8 0] 5)) (.cells (intCells n) 73)
    rw [World.size_alloc] at h
    rw [cell_of h]; rfl
  have HF0 := Lib.hid hF0
  have HN0 := Lib.hid hN0
  clear hF0 hN0 HFR v0 v1 v2 v3 l2 HQ1
  have hbx : w1.heap.size + 1 ≠ w1.heap.size := by omega
  generalize hbb : w1.heap.size + 1 = bx at *
  have hbs : w1.heap.size ≠ bx := by omega
  go_loopw [45, 7, 10] (fun i o _ wr => ∃ (k : Nat) (v' : Value), k ≤ 8 ∧ i = .int .i64 (k : Int) ∧ o = v' ∧ Fresh w wr v' (0 :: smallN n k) ∧ wr.cell? ⟨bx, 1, none⟩ = some (.int .i64 (n : Int)) ∧ (∀ j, v'.ownBlock = some j → j ≠ bx)) (fun i _ _ _ => 8 - (intOf i).toNat)
  case atStart => exact ⟨0, _, Nat.zero_le _, rfl, rfl, HF0.out, HN0.out, fun j e => by injection e with e; simp only at e; omega⟩
  case round =>
    obtain ⟨k, v', hk, rfl, rfl, hW, hN, hb⟩ := hrel
    by_cases hlt : k < 8
    · obtain ⟨x, hx⟩ : ∃ x : Nat, (if k = 0 then n else 0) = x := ⟨_, rfl⟩
      have hx256 : x < 256 := by rw [← hx]; split <;> omega
      have e1 : (n : Int) / 2 ^ (8 * k) % 256 = (x : Int) := by rw [small_byte hn hlt, hx]; omega
      have HS := Lib.hid (smallN_succ n k)
      rw [hx] at HS
      have hl : (0 :: smallN n k).length = k + 1 := by rw [List.length_cons, smallN_length]
      have HRD : Hid (Rd (wr.alloc (.cells #[.int .u8 (x : Int)] 5)) (fun _ => True) 1 (some ⟨wr.heap.size, 0, none⟩) 1 (bytesV [x])) := Rd.new wr 1 1 (bytesV [x]) _ _ rfl trivial
      have HR1 := Lib.hid (owns_kept hW.own ((Only.refl (fun _ => False) wr).alloc (.cells #[.int .u8 (x : Int)] 5)) (fun _ _ x => x))
      have HW := Lib.hid hW
      have HB := Lib.hid hb
      have HL := Lib.hid hl
      have hbw := cell_lt hN
      dsimp only at hbw
      clear hW hb hl hx
      go_wp2_with (at_builtin; refine app elem_u8 rfl (.tmp 48) (.tmp 55) rfl rfl HR1.out rfl HRD.out (one_bytes [x]) (by rw [HL.out]; unfold maxLen; omega) (by rw [HL.out]; omega) ?_)
      intro v4 w4 hg4
      have HST := Lib.hid (HW.out.step hg4)
      have hN4 : w4.cell? ⟨bx, 1, none⟩ = some (.int .i64 (n : Int)) := hg4.only.cell (((Only.refl (fun _ => False) wr).alloc (.cells #[.int .u8 (x : Int)] 5)).cell hN (fun x => x)) (fun e => HB.out _ e rfl)
      have HB4 : Hid (∀ j, v4.ownBlock = some j → j ≠ bx) := fun j e => by
        rcases hg4.loc with y | y
        · rw [y] at e; exact HB.out j e
        · rw [y] at e; injection e with e; simp only [World.size_alloc] at e; omega
      rw [List.cons_append, ← HS.out] at HST
      clear hg4 HR1 HRD HW HB HS e1 hN
      go_wp2
      go_roundw
      case rel => exact ⟨k + 1, _, by omega, by go_num, rfl, HST.out, hN4, HB4.out⟩
      case measure => simp [intOf]; omega
    · obtain rfl : k = 8 := by omega
      have hFR : Fresh w wr u7 (rowI n) := hW
      clear hW hN hb
      go_wp2_with fail
      rw [rounds_succ]
      go_wp2_with fail
      go_ret2
      exact ⟨u7, rfl, hFR⟩

end Go.Proofs.YtaijnpgoiagboaaGreatDoor

namespace Go.Proofs.YtaijnpgoiagboaaGreatDoor
open Go.RowKit Go.Lap

/-- The number that is known after so many bytes. -/
def soFar (n k : Nat) : Nat := if k = 0 then 0 else n

/-- What take leaves. -/
def TakePost (w : World) (n : Nat) (e : Ending) (w' : World) : Prop :=
  ∃ A c, e = .returned (.tuple #[.agg (intCells n), .slice A 0 c, .bool true]) ∧ Quiet w w'

theorem results_cell_two {P : Program} {fn : Func} {p q r : Tmp} {ty : TypeId} (h : fn.results = #[.cell p ty, .tmp q, .tmp r]) (tmps : Array Value) (w : World) (g : Nat) (t : TypeId) (cs : Array Value) (fr : Nat × Nat) (d : TypeDesc)
    (hp : tmps.getD p undef = .pointer (some ⟨g, 0, none⟩)) (hg : w.heap[g]? = some (.cells cs t fr))
    (hu : P.underlying ty = some d) (hd : (match d with | .struct _ | .array _ _ => true | _ => false) = true) (hi : (P.info? ty).map (·.size) = some cs.size) :
    (results fn tmps).run P w = .ok (.tuple #[.agg cs, tmps.getD q undef, tmps.getD r undef]) w := by
  have hp' : tmps[p]?.getD undef = .pointer (some ⟨g, 0, none⟩) := by simpa using hp
  simp [results, h, hp', asAddr, run_loadVar_row w g t ty cs fr d hg hu hd hi]

theorem info_value : (Tryz.prog.info? 73).map (·.size) = some 4 := by kernel_rfl

theorem or_zero {n : Nat} (hn : n < 256) : bits BinOp.or IntKind.i64 ((0 : Nat) : Int) (n : Int) = (n : Int) ∧ bits BinOp.or IntKind.i64 (n : Int) ((0 : Nat) : Int) = (n : Int) := by
  have key : ∀ m : Fin 256, bits BinOp.or IntKind.i64 ((0 : Nat) : Int) ((m.val : Nat) : Int) = (m.val : Int) ∧ bits BinOp.or IntKind.i64 ((m.val : Nat) : Int) ((0 : Nat) : Int) = (m.val : Int) := by decide +kernel
  exact key ⟨n, hn⟩

theorem wrap_i64_of (x : Int) (h1 : -9223372036854775808 ≤ x) (h2 : x ≤ 9223372036854775807) : IntKind.i64.wrap x = x := by rw [IntKind.wrap_i64]; omega

set_option maxHeartbeats 2000000 in
set_option maxRecDepth 100000 in
theorem row_take_int {w : World} {S : Nat → Prop} {b off c : Nat} {n : Nat} (hn : n < 256) (hr : Rd w S 1 (some ⟨b, off, none⟩) 8 (bytesV (smallN n 8))) (hc : 8 ≤ c) (hm : c ≤ maxLen) :
    Calls Tryz.prog 133 #[.int .u8 1, .slice (some ⟨b, off, none⟩) 8 c] w (TakePost w n) := by
  have hcell : ∀ k, k < 8 → w.cell? ⟨b, off + k, none⟩ = some (.int .u8 ((if k = 0 then n else 0 : Nat) : Int)) := fun k hk => by
    obtain ⟨b', off', u, e, _, hu, hcl⟩ := hr.get (k := k) hk
    injection e with e
    injection e with e1 e2
    subst e1 e2
    rw [hcl, ← hu]
    simp only [bytesV, smallN, List.getElem?_map, List.getElem?_range hk, Option.map_some]
  have HC := Lib.hid hcell
  have hb0 := cell_lt (hcell 0 (by omega))
  dsimp only at hb0
  unfold maxLen at hm
  have hq0 : Quiet w ((w.alloc (.cells #[.int .u8 0, .int .i64 0, .string ⟨#[]⟩, .bool false] 73)).alloc (.cells #[.int .u8 1, .int .i64 0, .string ⟨#[]⟩, .bool false] 73)) := ((Only.refl _ _).alloc _).alloc _
  have hB1 : ((w.alloc (.cells #[.int .u8 0, .int .i64 0, .string ⟨#[]⟩, .bool false] 73)).alloc (.cells #[.int .u8 1, .int .i64 0, .string ⟨#[]⟩, .bool false] 73)).heap[w.heap.size]? = some (.cells #[.int .u8 0, .int .i64 0, .string ⟨#[]⟩, .bool false] 73 (0, 0)) := by
    exact alloc_old (alloc_new w _) _
  have hB2 : ((w.alloc (.cells #[.int .u8 0, .int .i64 0, .string ⟨#[]⟩, .bool false] 73)).alloc (.cells #[.int .u8 1, .int .i64 0, .string ⟨#[]⟩, .bool false] 73)).heap[w.heap.size + 1]? = some (.cells #[.int .u8 1, .int .i64 0, .string ⟨#[]⟩, .bool false] 73 (0, 0)) := by
    have h := alloc_new (w.alloc (.cells #[.int .u8 0, .int .i64 0, .string ⟨#[]⟩, .bool false] 73)) (.cells #[.int .u8 1, .int .i64 0, .string ⟨#[]⟩, .bool false] 73)
    rw [World.size_alloc] at h
    exact h
  have HQ0 := Lib.hid hq0
  have HB1 := Lib.hid hB1
  have HB2 := Lib.hid hB2
  clear hr hcell hq0 hB1 hB2
  obtain ⟨p1, hp1⟩ : ∃ p1, w.heap.size = p1 := ⟨_, rfl⟩
  obtain ⟨p2, hp2⟩ : ∃ p2, w.heap.size + 1 = p2 := ⟨_, rfl⟩
  rw [hp1] at HB1
  rw [hp2] at HB2
  rw [hp1] at hp2
  go_enter Tryz.func133, Tryz.ntmps133
  go_wp2_with fail
  go_loopw [18, 8] (fun i _ wr => ∃ k : Nat, k ≤ 8 ∧ i = .int .i64 (k : Int) ∧ Quiet w wr ∧ wr.heap[p1]? = some (.cells #[.int .u8 0, .int .i64 0, .string ⟨#[]⟩, .bool false] 73 (0, 0)) ∧ wr.heap[p2]? = some (.cells #[.int .u8 1, .int .i64 (soFar n k : Int), .string ⟨#[]⟩, .bool false] 73 (0, 0))) (fun i _ _ => 8 - (intOf i).toNat)
  case atStart => exact ⟨0, Nat.zero_le _, rfl, HQ0.out, HB1.out, HB2.out⟩
  case round =>
    obtain ⟨k, hk, rfl, hQ, hB1, hB2⟩ := hrel
    have HQ := Lib.hid hQ
    have HB1' := Lib.hid hB1
    have HB2' := Lib.hid hB2
    have c1 : wr.cell? ⟨p2, 1, none⟩ = some (.int .i64 (soFar n k : Int)) := cell_of hB2 1
    have lp2 := cell_lt c1
    dsimp only at lp2
    by_cases hlt : k < 8
    · obtain ⟨x, hx⟩ : ∃ x : Nat, (if k = 0 then n else 0) = x := ⟨_, rfl⟩
      have q1 : wr.cell? ⟨b, off + k, none⟩ = some (.int .u8 (x : Int)) := by
        have := HC.out k hlt
        rw [hx] at this
        exact HQ.out.cell this (fun x => x)
      have hx256 : x < 256 := by rw [← hx]; split <;> omega
      have esh : Op.shift BinOp.shl IntKind.i64 (IntKind.i64.wrap (x : Int)) IntKind.i64 (IntKind.i64.wrap (8 * (k : Int))) = (pure (.int .i64 (x : Int)) : Sem Value) := by
        rw [wrap_i64_of (x : Int) (by omega) (by omega), wrap_i64_of (8 * (k : Int)) (by omega) (by omega), shift_shl_any _ _ _ _ (by omega)]
        congr 2
        rcases Nat.eq_zero_or_pos k with h | h
        · subst h
          simp
          exact wrap_i64_of (x : Int) (by omega) (by omega)
        · have h0 : x = 0 := by rw [← hx, if_neg (by omega)]
          subst h0
          simp
          rfl
      have eor : bits BinOp.or IntKind.i64 (soFar n k : Int) (x : Int) = (soFar n (k + 1) : Int) := by
        unfold soFar
        rw [if_neg (show ¬ k + 1 = 0 by omega)]
        rcases Nat.eq_zero_or_pos k with h | h
        · subst h
          have h0 : n = x := hx
          rw [if_pos rfl, ← h0]
          exact (or_zero hn).1
        · have h0 : x = 0 := by rw [← hx, if_neg (by omega)]
          rw [if_neg (by omega), h0]
          exact (or_zero hn).2
      have f1 : wr.frozen? ⟨p2, 1, none⟩ = false := frozen_of hB2 1
      clear hQ hB1 hB2 HB1 HB2 HQ0
      go_wp2_with fail
      refine wp_region_last (S := fun w' => w'.cell? ⟨p2, 1, none⟩ = some (.int .i64 (soFar n k : Int)) ∧ w'.cell? ⟨b, off + k, none⟩ = some (.int .u8 (x : Int))) (by kernel_rfl) (by kernel_rfl) (by simp) (⟨c1, q1⟩) (fun hHeld => ?_)
      simp only [List.pop_toArray, List.dropLast, List.size_toArray, List.length_cons, List.length_nil, Nat.reduceAdd, Nat.reduceSub]
      (refine zTK 0 (oi := ?_) (v := ?_) ?_ ?_ (Or.inl ⟨?_, ?_⟩) ?_; rotate_left 2; (focus (simp only [zGA, zGZ, zGS] <;> rfl)); (focus (exact fun _ _ _ => last_panic (fun h => h))); (focus rfl); (focus (intro w hSw; (try dsimp only at hSw); go_simp; (try with_reducible rfl); done)); (try simp only [Act.put, zPA, zPZ, zPS]))
      (refine zTK 1 (oi := ?_) (v := ?_) ?_ ?_ (Or.inl ⟨?_, ?_⟩) ?_; rotate_left 2; (focus (simp only [zGA, zGZ, zGS] <;> rfl)); (focus (exact fun _ _ _ => last_panic (fun h => h))); (focus rfl); (focus (intro w hSw; (try dsimp only at hSw); go_simp; (try with_reducible rfl); done)); (try simp only [Act.put, zPA, zPZ, zPS]))
      (refine zTK 2 (oi := ?_) (v := ?_) ?_ ?_ (Or.inl ⟨?_, ?_⟩) ?_; rotate_left 2; (focus (simp only [zGA, zGZ, zGS] <;> rfl)); (focus (exact fun _ _ _ => last_panic (fun h => h))); (focus rfl); (focus (intro w hSw; (try dsimp only at hSw); go_simp; (try with_reducible rfl); done)); (try simp only [Act.put, zPA, zPZ, zPS]))
      (refine zTK 3 (oi := ?_) (v := ?_) ?_ ?_ (Or.inl ⟨?_, ?_⟩) ?_; rotate_left 2; (focus (simp only [zGA, zGZ, zGS] <;> rfl)); (focus (exact fun _ _ _ => last_panic (fun h => h))); (focus rfl); (focus (intro w hSw; (try dsimp only at hSw); go_simp; (try with_reducible rfl); done)); (try simp only [Act.put, zPA, zPZ, zPS]))
      (refine zTK 4 (oi := ?_) (v := ?_) ?_ ?_ (Or.inl ⟨?_, ?_⟩) ?_; rotate_left 2; (focus (simp only [zGA, zGZ, zGS] <;> rfl)); (focus (exact fun _ _ _ => last_panic (fun h => h))); (focus rfl); (focus (intro w hSw; (try dsimp only at hSw); go_simp; (try with_reducible rfl); done)); (try simp only [Act.put, zPA, zPZ, zPS]))
      (refine zTK 5 (oi := ?_) (v := ?_) ?_ ?_ (Or.inl ⟨?_, ?_⟩) ?_; rotate_left 2; (focus (simp only [zGA, zGZ, zGS] <;> rfl)); (focus (exact fun _ _ _ => last_panic (fun h => h))); (focus rfl); (focus (intro w hSw; (try dsimp only at hSw); go_simp; (try with_reducible rfl); done)); (try simp only [Act.put, zPA, zPZ, zPS]))
      (refine zTK 6 (oi := ?_) (v := ?_) ?_ ?_ (Or.inl ⟨?_, ?_⟩) ?_; rotate_left 2; (focus (simp only [zGA, zGZ, zGS] <;> rfl)); (focus (exact fun _ _ _ => last_panic (fun h => h))); (focus rfl); (focus (intro w hSw; (try dsimp only at hSw); go_simp; (try with_reducible rfl); done)); (try simp only [Act.put, zPA, zPZ, zPS]))
      (refine zTK 7 (oi := ?_) (v := ?_) ?_ ?_ (Or.inl ⟨?_, ?_⟩) ?_; rotate_left 2; (focus (simp only [zGA, zGZ, zGS] <;> rfl)); (focus (exact fun _ _ _ => last_panic (fun h => h))); (focus rfl); (focus (intro w hSw; (try dsimp only at hSw); go_simp; (try with_reducible rfl); done)); (try simp only [Act.put, zPA, zPZ, zPS]))
      (refine zTK 8 (oi := ?_) (v := ?_) ?_ ?_ (Or.inl ⟨?_, ?_⟩) ?_; rotate_left 2; (focus (simp only [zGA, zGZ, zGS] <;> rfl)); (focus (exact fun _ _ _ => last_panic (fun h => h))); (focus rfl); (focus (intro w hSw; (try dsimp only at hSw); go_simp; (try with_reducible rfl); done)); (try simp only [Act.put, zPA, zPZ, zPS]))
      (refine zTK 9 (oi := ?_) (v := ?_) ?_ ?_ (Or.inl ⟨?_, ?_⟩) ?_; rotate_left 2; (focus (simp only [zGA, zGZ, zGS] <;> rfl)); (focus (exact fun _ _ _ => last_panic (fun h => h))); (focus rfl); (focus (intro w hSw; (try dsimp only at hSw); go_simp; (try with_reducible rfl); done)); (try simp only [Act.put, zPA, zPZ, zPS]))
      (refine zTK 10 (oi := ?_) (v := ?_) ?_ ?_ (Or.inl ⟨?_, ?_⟩) ?_; rotate_left 2; (focus (simp only [zGA, zGZ, zGS] <;> rfl)); (focus (exact fun _ _ _ => last_panic (fun h => h))); (focus rfl); (focus (intro w hSw; (try dsimp only at hSw); go_simp; (try with_reducible rfl); done)); (try simp only [Act.put, zPA, zPZ, zPS]))
      (refine zTK 11 (oi := ?_) (v := ?_) ?_ ?_ (Or.inl ⟨?_, ?_⟩) ?_; rotate_left 2; (focus (simp only [zGA, zGZ, zGS] <;> rfl)); (focus (exact fun _ _ _ => last_panic (fun h => h))); (focus rfl); (focus (intro w hSw; (try dsimp only at hSw); go_simp; (try with_reducible rfl); done)); (try simp only [Act.put, zPA, zPZ, zPS]))
      refine wpAnyH_done (by kernel_rfl) ?_ _
      refine last_step (o := ?_) ?_ ?_
      rotate_left 1
      (focus (simp only [zGA, zGZ, zGS] <;> rfl))
      intro K hK
      go_simp
      refine hK.out _ _ ?_
      clear hK K
      have hQ' : Quiet w (wr.setCell ⟨p2, 1, none⟩ (.int .i64 (soFar n (k + 1) : Int))).drew := (HQ.out.setCell (fun h => absurd h (by show ¬ p2 < w.heap.size; omega)) _).drew
      have hB1' : (wr.setCell ⟨p2, 1, none⟩ (.int .i64 (soFar n (k + 1) : Int))).drew.heap[p1]? = some (.cells #[.int .u8 0, .int .i64 0, .string ⟨#[]⟩, .bool false] 73 (0, 0)) := by
        exact set_other HB1'.out _ _ (by omega)
      have hB2' : (wr.setCell ⟨p2, 1, none⟩ (.int .i64 (soFar n (k + 1) : Int))).drew.heap[p2]? = some (.cells #[.int .u8 1, .int .i64 (soFar n (k + 1) : Int), .string ⟨#[]⟩, .bool false] 73 (0, 0)) := by
        exact set_same HB2'.out _ _
      generalize (wr.setCell ⟨p2, 1, none⟩ (.int .i64 (soFar n (k + 1) : Int))).drew = wn at *
      clear hHeld esh eor f1 q1 c1 lp2
      go_wp2_with fail
      go_roundw
      case rel => exact ⟨k + 1, by omega, by go_num, hQ', hB1', hB2'⟩
      case measure => simp [intOf]; omega
    · obtain rfl : k = 8 := by omega
      have f0 : wr.frozen? ⟨p1, 0, none⟩ = false := frozen_of hB1 0
      have f1 : wr.frozen? ⟨p1, 1, none⟩ = false := frozen_of hB1 1
      have f2 : wr.frozen? ⟨p1, 2, none⟩ = false := frozen_of hB1 2
      have f3 : wr.frozen? ⟨p1, 3, none⟩ = false := frozen_of hB1 3
      have r0 : wr.cell? ⟨p1, 0, none⟩ = some (.int .u8 0) := cell_of hB1 0
      have r1 : wr.cell? ⟨p1, 1, none⟩ = some (.int .i64 0) := cell_of hB1 1
      have r2 : wr.cell? ⟨p1, 2, none⟩ = some (.string ⟨#[]⟩) := cell_of hB1 2
      have r3 : wr.cell? ⟨p1, 3, none⟩ = some (.bool false) := cell_of hB1 3
      have c0 : wr.cell? ⟨p2, 0, none⟩ = some (.int .u8 1) := cell_of hB2 0
      have c2 : wr.cell? ⟨p2, 2, none⟩ = some (.string ⟨#[]⟩) := cell_of hB2 2
      have c3 : wr.cell? ⟨p2, 3, none⟩ = some (.bool false) := cell_of hB2 3
      have hne : p1 ≠ p2 := by omega
      clear hQ HB1 HB2 HQ0 hB1 hB2
      go_wp2_with fail
      go_region
      have HQ4 : Hid (Quiet w (fourSet wr p1 (.int .u8 1) (.int .i64 (soFar n 8 : Int)) (.string ⟨#[]⟩) (.bool false)).drew) := (HQ.out.trans' (fourSet_only wr p1 _ _ _ _) (fun k hk e => by omega)).drew
      have HX : Hid ((fourSet wr p1 (.int .u8 1) (.int .i64 (soFar n 8 : Int)) (.string ⟨#[]⟩) (.bool false)).drew.heap[p1]? = some (.cells #[.int .u8 1, .int .i64 (soFar n 8 : Int), .string ⟨#[]⟩, .bool false] 73 (0, 0))) := fourSet_same HB1'.out _ _ _ _
      unfold fourSet at HQ4 HX
      clear HQ HB1' HB2' f0 f1 f2 f3 r0 r1 r2 r3 c0 c2 c3 c1
      go_wp2
      all_goals exact bodyPost_ret (results_cell_two Tryz.results133 _ _ p1 _ _ (0, 0) _ (by rfl) HX.out Tryz.underlying73 rfl info_value) (by rfl) ⟨_, _, rfl, HQ4.out⟩

end Go.Proofs.YtaijnpgoiagboaaGreatDoor

namespace Go.Proofs.YtaijnpgoiagboaaGreatDoor
open Go.RowKit Go.Lap

theorem elem_val : Elem Tryz.prog 23 73 4 40 := Elem.mk' (.agg #[.int .u8 0, .int .i64 0, .string ⟨#[]⟩, .bool false]) Tryz.underlying23 (by kernel_rfl) rfl (by decide)

/-- What Read leaves. -/
structure FreshV (w w' : World) (v : Value) (n : Nat) : Prop where
  quiet : Quiet w w'
  new : ∀ k, v.ownBlock = some k → w.heap.size ≤ k
  own : w'.ownsRow 0 73 4 v 1 (intRow n)

def ReadPost (w : World) (n : Nat) (e : Ending) (w' : World) : Prop := ∃ v, e = .returned (.tuple #[v, .int .i64 0]) ∧ FreshV w w' v n

set_option maxHeartbeats 2000000 in
set_option maxRecDepth 100000 in
theorem row_read_int {w : World} {S S2 : Nat → Prop} {A A2 : Option Addr} {c c2 : Nat} {n : Nat} (hn : n < 256) (hk : Rd w S 1 A 1 [.int .u8 1]) (hv : Rd w S2 1 A2 9 (bytesV (rowI n))) (hc : 1 ≤ c) (hm : c ≤ maxLen) (hc2 : 9 ≤ c2) (hm2 : c2 ≤ maxLen) :
    Calls Tryz.prog 83 #[.slice A 1 c, .slice A2 9 c2] w (ReadPost w n) := by
  have HR := Lib.hid (row_right (k := 1) hk (by omega) hc hm)
  obtain ⟨b, off, u, rfl, _, hu, hcell⟩ := hk.get (k := 0) (by omega)
  obtain rfl : Value.int .u8 1 = u := Option.some.inj hu
  rw [Nat.add_zero] at hcell
  obtain ⟨b2, off2, rfl, _, hcs⟩ := hv.cells (by rw [bytes_len]; simp [rowI])
  have q0 : w.cell? ⟨b2, off2, none⟩ = some (.int .u8 0) := hcs 0 _ rfl
  have HT : Hid (Rd w (fun _ => True) 1 (some ⟨b2, off2 + 1, none⟩) 8 (bytesV (smallN n 8))) := by
    refine ⟨by rw [bytes_len, smallN_length], fun _ => ⟨b2, off2 + 1, rfl, trivial, fun j u hj => ?_⟩⟩
    have := hcs (j + 1) u (by unfold rowI bytesV at *; rw [List.map_cons, List.getElem?_cons_succ]; exact hj)
    rw [Nat.add_assoc, Nat.add_comm 1 j]
    exact this
  have l1 := cell_lt hcell
  have l2 := cell_lt q0
  dsimp only at l1 l2
  unfold maxLen at hm hm2
  clear hk hv hu hcs
  go_enter Tryz.func83, Tryz.ntmps83
  go_wp2_with fail
  refine HR.out.mono ?_
  rintro e w1 ⟨rfl, rfl⟩
  clear HR
  go_wp2_with fail
  go_quiet (fail)
  have hq0 : Quiet w (w.drewN nq) := (Only.refl _ _).drewN _
  have HT' := Lib.hid (HT.out.kept hq0 (fun _ _ x => x))
  have hcell' := hq0.cell hcell (fun x => x)
  have hsz : (w.drewN nq).heap.size = w.heap.size := rfl
  rw [← hsz] at l1 l2
  have HQ0 := Lib.hid hq0
  clear HT hcell q0 hsz hq0
  generalize w.drewN nq = wd at *
  go_wp2_with fail
  refine wp_loop_rounds 2 ?_
  rw [rounds_succ]
  go_wp2_with fail
  have hq1 : Quiet wd (wd.alloc (.cells (#[.int .u8 0, .int .i64 0, .string ⟨#[]⟩, .bool false] : Array Value) 73)) := (Only.refl _ _).alloc _
  refine (row_take_int hn (HT'.out.kept hq1 (fun _ _ x => x)) (by omega) (by unfold maxLen; omega)).mono ?_
  rintro e w2 ⟨A3, c3, rfl, hq2⟩
  have hB : w2.heap[wd.heap.size]? = some (.cells #[.int .u8 0, .int .i64 0, .string ⟨#[]⟩, .bool false] 73 (0, 0)) := hq2.get (alloc_new wd _) (fun x => x)
  have hq3 := HQ0.out.trans (hq1.trans hq2)
  have hs3 : w.heap.size ≤ wd.heap.size := HQ0.out.size
  obtain ⟨pv, hpv⟩ : ∃ pv, wd.heap.size = pv := ⟨_, rfl⟩
  rw [hpv] at hB hs3
  have f0 : w2.frozen? ⟨pv, 0, none⟩ = false := frozen_of hB 0
  have f1 : w2.frozen? ⟨pv, 1, none⟩ = false := frozen_of hB 1
  have f2 : w2.frozen? ⟨pv, 2, none⟩ = false := frozen_of hB 2
  have f3 : w2.frozen? ⟨pv, 3, none⟩ = false := frozen_of hB 3
  have r0 : w2.cell? ⟨pv, 0, none⟩ = some (.int .u8 0) := cell_of hB 0
  have r1 : w2.cell? ⟨pv, 1, none⟩ = some (.int .i64 0) := cell_of hB 1
  have r2 : w2.cell? ⟨pv, 2, none⟩ = some (.string ⟨#[]⟩) := cell_of hB 2
  have r3 : w2.cell? ⟨pv, 3, none⟩ = some (.bool false) := cell_of hB 3
  have HQ3 : Hid (Quiet w (fourSet w2 pv (.int .u8 1) (.int .i64 (n : Int)) (.string ⟨#[]⟩) (.bool false))) := hq3.trans' (fourSet_only w2 pv _ _ _ _) (fun k hk e => by omega)
  unfold fourSet at HQ3
  clear HT' hcell' HQ0 hq1 hq2 hq3 hB l1 l2
  have HS5 : Hid (w2.heap.size = ((((w2.setCell ⟨pv, 0, none⟩ (.int .u8 1)).setCell ⟨pv, 1, none⟩ (.int .i64 (n : Int))).setCell ⟨pv, 2, none⟩ (.string ⟨#[]⟩)).setCell ⟨pv, 3, none⟩ (.bool false)).heap.size) := by simp [Hid, World.setCell]
  have HRD : ∀ W : World, Hid (Rd (W.alloc (.cells #[.int .u8 1, .int .i64 (n : Int), .string ⟨#[]⟩, .bool false] 73)) (fun _ => True) 4 (some ⟨W.heap.size, 0, none⟩) 1 (intRow n)) := fun W => Rd.new W 4 1 (intRow n) _ _ rfl trivial
  have HRD2 := Lib.hid (HRD ((((w2.setCell ⟨pv, 0, none⟩ (.int .u8 1)).setCell ⟨pv, 1, none⟩ (.int .i64 (n : Int))).setCell ⟨pv, 2, none⟩ (.string ⟨#[]⟩)).setCell ⟨pv, 3, none⟩ (.bool false))).out
  rw [← HS5.out] at HRD2
  have HONE : Hid (∀ u ∈ intRow n, u.oneCell' = true) := fun u hu => by
    simp only [intRow, List.mem_cons, List.not_mem_nil, or_false] at hu
    rcases hu with rfl | rfl | rfl | rfl <;> rfl
  clear HRD
  go_wp2_with (at_builtin; refine app elem_val rfl (.tmp 61) (.tmp 63) rfl rfl (World.ownsRow_nil _ _ _ _) rfl HRD2.out HONE.out (by unfold maxLen; omega) (by omega) ?_)
  intro v4 w4 hg4
  have HF : Hid (FreshV w w4 v4 n) := by
    refine ⟨(HQ3.out.alloc _).trans' hg4.only (fun k hk e => by cases e), fun k e => ?_, hg4.own⟩
    rcases hg4.loc with y | y
    · rw [y] at e; cases e
    · rw [y] at e; injection e with e; simp only [World.size_alloc] at e; have := HQ3.out.size; omega
  clear hg4 HRD2 HONE HS5 HQ3 f0 f1 f2 f3 r0 r1 r2 r3
  go_wp2_with fail
  rw [rounds_succ]
  go_wp2_with fail
  go_ret2
  exact ⟨v4, rfl, HF.out⟩

end Go.Proofs.YtaijnpgoiagboaaGreatDoor

namespace Go.Lap

/-- Texts of bytes, compared. -/
def cmpB : List Nat → List Nat → Int
  | [], [] => 0
  | [], _ :: _ => -1
  | _ :: _, [] => 1
  | a :: xs, b :: ys => if a < b then -1 else if b < a then 1 else cmpB xs ys

theorem cmpB_swap : ∀ a b, cmpB b a = - cmpB a b
  | [], [] => rfl
  | [], _ :: _ => rfl
  | _ :: _, [] => rfl
  | a :: xs, b :: ys => by
    have ih := cmpB_swap xs ys
    unfold cmpB
    by_cases x : a < b
    · rw [if_pos x, if_neg (by omega), if_pos x]; rfl
    · by_cases y : b < a
      · rw [if_pos y, if_neg x, if_pos y]
      · rw [if_neg y, if_neg x, if_neg x, if_neg y, ih]

theorem cmpB_zero : ∀ a b, cmpB a b = 0 ↔ a = b
  | [], [] => by simp [cmpB]
  | [], _ :: _ => by simp [cmpB]
  | _ :: _, [] => by simp [cmpB]
  | a :: xs, b :: ys => by
    have ih := cmpB_zero xs ys
    unfold cmpB
    rw [List.cons.injEq]
    split
    · constructor
      · intro h; omega
      · rintro ⟨h, _⟩; omega
    · split
      · constructor
        · intro h; omega
        · rintro ⟨h, _⟩; omega
      · rw [ih]
        constructor
        · intro h; exact ⟨by omega, h⟩
        · exact fun h => h.2

theorem cmpB_self (a : List Nat) : cmpB a a = 0 := (cmpB_zero a a).2 rfl

theorem cmpB_trans : ∀ a b c, cmpB a b < 0 → cmpB b c < 0 → cmpB a c < 0
  | [], [], _, h, _ => by simp [cmpB] at h
  | [], _ :: _, [], _, h => by simp [cmpB] at h
  | [], _ :: _, _ :: _, _, _ => by simp [cmpB]
  | _ :: _, [], _, h, _ => by simp [cmpB] at h
  | _ :: _, _ :: _, [], _, h => by simp [cmpB] at h
  | a :: xs, b :: ys, c :: zs, h1, h2 => by
    have ih := cmpB_trans xs ys zs
    unfold cmpB at h1 h2 ⊢
    by_cases x : a < b
    · by_cases y : b < c
      · rw [if_pos (by omega)]; omega
      · rw [if_neg y] at h2
        split at h2
        · omega
        · rw [if_pos (by omega)]; omega
    · rw [if_neg x] at h1
      split at h1
      · omega
      · by_cases y : b < c
        · rw [if_pos (by omega)]; omega
        · rw [if_neg y] at h2
          split at h2
          · omega
          · rw [if_neg (by omega), if_neg (by omega)]
            exact ih h1 h2

/-- Whole numbers, compared. -/
def cmpI (x y : Int) : Int := if x < y then -1 else if y < x then 1 else 0

/-- A key, and a place. -/
structure Ent where
  key : List Nat
  pg : Int
  sl : Int

theorem Ent.ext' {a b : Ent} (h1 : a.key = b.key) (h2 : a.pg = b.pg) (h3 : a.sl = b.sl) : a = b := by
  obtain ⟨_, _, _⟩ := a
  obtain ⟨_, _, _⟩ := b
  simp_all

instance : DecidableEq Ent := fun a b =>
  if h1 : a.key = b.key then
    if h2 : a.pg = b.pg then
      if h3 : a.sl = b.sl then isTrue (Ent.ext' h1 h2 h3) else isFalse (fun e => h3 (by rw [e]))
    else isFalse (fun e => h2 (by rw [e]))
  else isFalse (fun e => h1 (by rw [e]))

/-- The order of entries. -/
def cmpE (a b : Ent) : Int := if cmpB a.key b.key ≠ 0 then cmpB a.key b.key else if cmpI a.pg b.pg ≠ 0 then cmpI a.pg b.pg else cmpI a.sl b.sl

theorem cmpE_zero (a b : Ent) : cmpE a b = 0 ↔ a = b := by
  unfold cmpE
  by_cases h1 : cmpB a.key b.key = 0
  · rw [if_neg (by simp [h1])]
    by_cases h2 : cmpI a.pg b.pg = 0
    · rw [if_neg (by simp [h2])]
      constructor
      · intro h3
        refine Ent.ext' ((cmpB_zero _ _).1 h1) ?_ ?_
        · unfold cmpI at h2; split at h2; omega; split at h2 <;> omega
        · unfold cmpI at h3; split at h3; omega; split at h3 <;> omega
      · rintro rfl; simp [cmpI]
    · rw [if_pos h2]
      constructor
      · exact fun h => absurd h h2
      · rintro rfl; simp [cmpI]
  · rw [if_pos h1]
    constructor
    · exact fun h => absurd h h1
    · rintro rfl; exact cmpB_self _

theorem cmpI_swap (x y : Int) : cmpI y x = - cmpI x y := by
  unfold cmpI
  split <;> split <;> first | omega | (split <;> omega)

theorem cmpE_swap (a b : Ent) : cmpE b a = - cmpE a b := by
  unfold cmpE
  have k1 := cmpB_swap a.key b.key
  have k2 := cmpI_swap a.pg b.pg
  have k3 := cmpI_swap a.sl b.sl
  by_cases h1 : cmpB a.key b.key = 0
  · rw [if_neg (show ¬ cmpB b.key a.key ≠ 0 by omega), if_neg (show ¬ cmpB a.key b.key ≠ 0 by omega)]
    by_cases h2 : cmpI a.pg b.pg = 0
    · rw [if_neg (show ¬ cmpI b.pg a.pg ≠ 0 by omega), if_neg (show ¬ cmpI a.pg b.pg ≠ 0 by omega)]
      exact k3
    · rw [if_pos (show cmpI b.pg a.pg ≠ 0 by omega), if_pos h2]
      exact k2
  · rw [if_pos (show cmpB b.key a.key ≠ 0 by omega), if_pos h1]
    exact k1

theorem cmpI_lt {x y : Int} : cmpI x y < 0 ↔ x < y := by
  unfold cmpI
  split
  · constructor <;> intro <;> omega
  · split <;> constructor <;> intro <;> omega

theorem cmpI_zero {x y : Int} : cmpI x y = 0 ↔ x = y := by
  unfold cmpI
  split
  · constructor <;> intro <;> omega
  · split <;> constructor <;> intro <;> omega

theorem cmpE_lt (a b : Ent) : cmpE a b < 0 ↔ cmpB a.key b.key < 0 ∨ (a.key = b.key ∧ (a.pg < b.pg ∨ (a.pg = b.pg ∧ a.sl < b.sl))) := by
  unfold cmpE
  by_cases h1 : cmpB a.key b.key = 0
  · rw [if_neg (by simp [h1]), h1]
    have e := (cmpB_zero _ _).1 h1
    by_cases h2 : cmpI a.pg b.pg = 0
    · rw [if_neg (by simp [h2]), cmpI_lt]
      have e2 := cmpI_zero.1 h2
      simp [e, e2]
    · rw [if_pos h2, cmpI_lt]
      have e2 : ¬ a.pg = b.pg := fun h => h2 (cmpI_zero.2 h)
      simp [e, e2]
  · rw [if_pos h1]
    have e : ¬ a.key = b.key := fun h => h1 ((cmpB_zero _ _).2 h)
    simp [e]

theorem cmpE_trans {a b c : Ent} (h1 : cmpE a b < 0) (h2 : cmpE b c < 0) : cmpE a c < 0 := by
  rw [cmpE_lt] at *
  rcases h1 with h1 | ⟨e1, h1⟩
  · rcases h2 with h2 | ⟨e2, h2⟩
    · exact Or.inl (cmpB_trans _ _ _ h1 h2)
    · rw [← e2]; exact Or.inl h1
  · rcases h2 with h2 | ⟨e2, h2⟩
    · rw [e1]; exact Or.inl h2
    · exact Or.inr ⟨e1.trans e2, by omega⟩

/-- In order, no two the same. -/
def Rising (l : List Ent) : Prop := l.Pairwise (fun a b => cmpE a b < 0)

/-- How many stand ahead of an entry. -/
def posE (e : Ent) : List Ent → Nat
  | [] => 0
  | x :: l => if cmpE x e < 0 then posE e l + 1 else 0

/-- With one more. -/
def insE (e : Ent) : List Ent → List Ent
  | [] => [e]
  | x :: l => if cmpE x e < 0 then x :: insE e l else e :: x :: l

theorem posE_cons (e x : Ent) (l : List Ent) : posE e (x :: l) = if cmpE x e < 0 then posE e l + 1 else 0 := rfl
theorem posE_before {e : Ent} : ∀ {l : List Ent} {j : Nat} {x : Ent}, j < posE e l → l[j]? = some x → cmpE x e < 0
  | [], _, _, h, _ => by simp [posE] at h
  | y :: l, j, x, h, hx => by
    rw [posE_cons] at h
    by_cases hy : cmpE y e < 0
    · rw [if_pos hy] at h
      rcases j with _ | j
      · simp at hx; subst hx; exact hy
      · exact posE_before (l := l) (j := j) (by omega) (by simpa using hx)
    · rw [if_neg hy] at h; omega

theorem posE_at {e : Ent} : ∀ {l : List Ent} {x : Ent}, l[posE e l]? = some x → ¬ cmpE x e < 0
  | [], _, h => by simp at h
  | y :: l, x, h => by
    unfold posE at h
    split at h
    · exact posE_at (l := l) (by simpa using h)
    · simp at h; subst h; assumption

theorem insE_eq (e : Ent) (l : List Ent) : insE e l = l.take (posE e l) ++ e :: l.drop (posE e l) := by
  induction l with
  | nil => rfl
  | cons x l ih =>
    unfold insE posE
    split
    · rw [ih]; rfl
    · rfl

theorem Rising.nil : Rising [] := List.Pairwise.nil

theorem Rising.get {l : List Ent} (h : Rising l) {i j : Nat} {x y : Ent} (hij : i < j) (hi : l[i]? = some x) (hj : l[j]? = some y) : cmpE x y < 0 := by
  obtain ⟨h1, rfl⟩ := List.getElem?_eq_some_iff.1 hi
  obtain ⟨h2, rfl⟩ := List.getElem?_eq_some_iff.1 hj
  exact List.pairwise_iff_getElem.1 h i j h1 h2 hij

/-- Behind where it would stand all are greater. -/
theorem posE_behind {e : Ent} {l : List Ent} (h : Rising l) (hn : e ∉ l) {j : Nat} {x : Ent} (hj : posE e l ≤ j) (hx : l[j]? = some x) : cmpE e x < 0 := by
  have hjl := (List.getElem?_eq_some_iff.1 hx).1
  obtain ⟨y, hy⟩ : ∃ y, l[posE e l]? = some y := ⟨_, List.getElem?_eq_getElem (by omega)⟩
  have h1 := posE_at hy
  have h2 : cmpE y e ≠ 0 := fun z => hn ((cmpE_zero _ _).1 z ▸ List.mem_of_getElem? hy)
  have h3 : cmpE e y < 0 := by rw [cmpE_swap y e]; omega
  rcases Nat.lt_or_ge (posE e l) j with z | z
  · exact cmpE_trans h3 (h.get z hy hx)
  · have : posE e l = j := by omega
    subst this
    rw [hy] at hx
    injection hx with hx
    subst hx
    exact h3

theorem Rising.ins {e : Ent} {l : List Ent} (h : Rising l) (hn : e ∉ l) : Rising (insE e l) := by
  rw [insE_eq]
  unfold Rising
  rw [List.pairwise_append, List.pairwise_cons]
  have ht : ∀ a ∈ l.take (posE e l), cmpE a e < 0 := by
    intro a ha
    obtain ⟨i, hi⟩ := List.mem_iff_getElem?.1 ha
    rw [List.getElem?_take] at hi
    split at hi
    · exact posE_before (by assumption) hi
    · cases hi
  have hd : ∀ a ∈ l.drop (posE e l), cmpE e a < 0 := by
    intro a ha
    obtain ⟨i, hi⟩ := List.mem_iff_getElem?.1 ha
    rw [List.getElem?_drop] at hi
    exact posE_behind h hn (by omega) hi
  refine ⟨h.sublist (List.take_sublist _ _), ⟨hd, h.sublist (List.drop_sublist _ _)⟩, fun a ha b hb => ?_⟩
  rcases List.mem_cons.1 hb with rfl | hb
  · exact ht a ha
  · exact cmpE_trans (ht a ha) (hd b hb)

end Go.Lap

namespace Go.Proofs.YtaijnpgoiagboaaGreatDoor
open Go.RowKit Go.Lap

end Go.Proofs.YtaijnpgoiagboaaGreatDoor

namespace Go.Lap
open Go.RowKit

theorem Only.setRow {S : Nat → Prop} {a w : World} (h : Only S a w) (g : Nat) (cs : Array Value) (hg : g < a.heap.size → S g) : Only S a (w.setRow g cs) :=
  h.trans' (T := (· = g)) ⟨rfl, rfl, rfl, by simp [World.setRow], fun k _ hn => setRow_other w g k cs hn⟩ (fun k hk e => by subst e; exact hg hk)

/-- An entry, and where its key lies. -/
structure EV where
  e : Ent
  A : Option Addr
  c : Nat

def EV.cells (x : EV) : List Value := [.slice x.A x.e.key.length x.c, .int .i64 x.e.pg, .int .i64 x.e.sl]

/-- The cells of a row of entries. -/
def rowV (xs : List EV) : List Value := xs.flatMap EV.cells

/-- A part of a slice that reads. -/
theorem Rd.drop {w : World} {S : Nat → Prop} {size n b off k : Nat} {xs : List Value} (h : Rd w S size (some ⟨b, off, none⟩) n xs) (hk : k ≤ n) : Rd w S size (some ⟨b, off + k * size, none⟩) (n - k) (xs.drop (k * size)) := by
  have hl := h.len
  refine ⟨by rw [List.length_drop, hl, Nat.sub_mul], fun h0 => ?_⟩
  rw [List.length_drop] at h0
  obtain ⟨b', off', e, hb, hc⟩ := h.cells (by omega)
  injection e with e
  injection e with e1 e2 _
  subst e1 e2
  exact ⟨b, off + k * size, rfl, hb, fun j u hu => by
    rw [List.getElem?_drop] at hu
    rw [Nat.add_assoc]
    exact hc _ u hu⟩

theorem Rd.takeK {w : World} {S : Nat → Prop} {size n k : Nat} {A : Option Addr} {xs : List Value} (h : Rd w S size A n xs) (hk : k ≤ n) : Rd w S size A k (xs.take (k * size)) := by
  have hl := h.len
  have hm : k * size ≤ n * size := Nat.mul_le_mul_right _ hk
  refine ⟨by rw [List.length_take, hl]; omega, fun h0 => ?_⟩
  rw [List.length_take] at h0
  obtain ⟨b, off, e, hb, hc⟩ := h.cells (by omega)
  exact ⟨b, off, e, hb, fun j u hu => hc j u (by rw [List.getElem?_take] at hu; split at hu <;> first | exact hu | cases hu)⟩

end Go.Lap
namespace Go.Proofs.YtaijnpgoiagboaaGreatDoor
open Go.RowKit Go.Lap

/-- A row of entries. -/
abbrev RowAt (w : World) (v : Value) (xs : List EV) : Prop := w.ownsRow 0 104 3 v xs.length (rowV xs)

end Go.Proofs.YtaijnpgoiagboaaGreatDoor

namespace Go.Proofs.YtaijnpgoiagboaaGreatDoor
open Go.RowKit Go.Lap

/-- A key that reads. -/
structure Keyd (w : World) (K : Nat → Prop) (x : EV) : Prop where
  rd : Rd w K 1 x.A x.e.key.length (bytesV x.e.key)
  by_ : ∀ b ∈ x.e.key, b < 256
  len : x.e.key.length ≤ 1000

theorem Keyd.kept {w w' : World} {K S : Nat → Prop} {x : EV} (h : Keyd w K x) (ho : Only S w w') (hn : ∀ k, K k → ¬ S k) : Keyd w' K x := ⟨h.rd.kept ho hn, h.by_, h.len⟩
theorem Keyd.quietly {w w' : World} {K : Nat → Prop} {x : EV} (h : Keyd w K x) (ho : Quiet w w') : Keyd w' K x := h.kept ho (fun _ _ x => x)
theorem Keyd.mono {w : World} {K K' : Nat → Prop} {x : EV} (h : Keyd w K x) (hn : ∀ k, K k → K' k) : Keyd w K' x := ⟨h.rd.mono hn, h.by_, h.len⟩

end Go.Proofs.YtaijnpgoiagboaaGreatDoor

namespace Go.Lap
open Go.RowKit

section
variable {P : Program} {w : World} {ops : Array Oper} {rest : List Oper} {o : Oper} {a : Act} {K : Act → World → Prop} {Q : Exit → Act → World → Prop}

/-- What a copy leaves in the block that is written. -/
def laid (cur : Array Value) (at_ : Nat) (cs : List Value) : Array Value := (cur.toList.take at_ ++ cs ++ cur.toList.drop (at_ + cs.length)).toArray

end

end Go.Lap

namespace Go.Proofs.YtaijnpgoiagboaaGreatDoor
open Go.RowKit Go.Lap

end Go.Proofs.YtaijnpgoiagboaaGreatDoor

namespace Go.Proofs.YtaijnpgoiagboaaGreatDoor
open Go.RowKit Go.Lap

end Go.Proofs.YtaijnpgoiagboaaGreatDoor
