/- The contracts of the document's answer for layer 6: Set, Find, Get. The contracts of package room and of its document's answer, whole: each function once, at every argument, told by the list of rooms. Package heap: what a heap in memory is, told by its pages' versions; how its parts turn. The contracts of package heap: NewPool, Left, New, page, told, Pages, Used, Drop. The contracts of package heap: Insert. The contracts of package heap: Insert whole, Free, Get, Stamp. The plain facts behind PageFills: a page of versions of one size. What the laws on heaps share: wide, awake; a heap in a law's world. Plain laws of heaps: what Insert and Free leave at every place. A law's row of places. The contracts of package heap: Get, Stamp. The contracts of heap.Chain and of the reference's SamePlaces. The contract of heap.Page: where versions lie on a page; of the law's alike: a heap and the document's, of the same pages. Snapshots in memory: Sees, Visible, Free, Dead. Snapshots: Take. The book's entries: tuple, visible, alive, dead; copies of columns. A region that draws its order and whose last operation waits for all others: the others first, then the last one. The book's tables: told, table, Table. The book's tables: table, Table. The book's Table; Keep without indexes. The book's Name at small letters; right at one column; New; Keep without indexes. The book: New, Keep, the first table. No condition. -/
import Derived.Test.YtdeekopdhgjanaaGreatDoorSf1
import Derived.OwnWalk
import Derived.Deep.RegionLawGrows
import Derived.StillTailTactics
import Derived.Deep.RegionHeld3
import Derived.Laws.RangeAny
namespace Go.Proofs.YtdeekopdhgjanaaGreatDoor
open Go.RowKit Go.Lap

theorem elem_int : Elem Tryz.prog 249 3 1 8 := Elem.mk' (.int .i64 0) Tryz.underlying249 (by kernel_rfl) rfl (by decide)

theorem cell_through {w w1 w2 : World} {b : Nat} {x : Obj} {v u u' : Value} {e : TypeId} {n m size : Nat} {xs ys : List Value} (hb : w.heap[b]? = some x) (o1 o2 : Obj) (hv : v.ownBlock = some w.heap.size)
    (g1 : Grew (w.alloc o1) w1 e size v u n xs) (g2 : Grew (w1.alloc o2) w2 e size u u' m ys) : w2.heap[b]? = some x := by
  have hbs := lt_of_get hb
  have e1 : w1.heap[b]? = some x := g1.only.get (alloc_old hb _) (fun e => by rw [hv] at e; injection e with e; omega)
  refine g2.only.get (alloc_old e1 _) (fun e => ?_)
  rcases g1.loc with x | x <;> rw [x] at e
  · rw [hv] at e; injection e with e; omega
  · injection e with e; simp at e; omega

end Go.Proofs.YtdeekopdhgjanaaGreatDoor

namespace Go.Lap

theorem getD_out {α : Type} (l : List α) (d : α) {i : Nat} (h : l.length ≤ i) : l.getD i d = d := by
  rw [List.getD_eq_getElem?_getD, List.getElem?_eq_none h]; rfl

/-- The list's rooms, page by page, -1 behind them. -/
def rooms (l : List Int) (i : Nat) : Int := l.getD i (-1)

def clampR (r : Int) : Int := min (max r (-1)) 512

def setL (l : List Int) (p : Nat) (c : Int) : List Int := if p = l.length then l ++ [c] else l.set p c

/-- What Set tells, and the rooms behind it. -/
def rSet (l : List Int) (p r : Int) : Int × List Int :=
  if p < 0 ∨ 256 ≤ p then (1, l) else if (l.length : Int) < p then (3, l) else (0, setL l p.toNat (clampR r))

def rFind (l : List Int) (need : Int) : Int × Bool :=
  match l.findIdx? (fun r => decide (max need 0 ≤ r)) with
  | some i => (i, true)
  | none => (0, false)

def rGet (l : List Int) (p : Int) : Int := if p < 0 ∨ 256 ≤ p then -1 else rooms l p.toNat

theorem rSet_arg {l : List Int} {p r : Int} (h : p < 0 ∨ 256 ≤ p) : rSet l p r = (1, l) := if_pos h
theorem rSet_form {l : List Int} {p r : Int} (h : ¬ (p < 0 ∨ 256 ≤ p)) (h2 : (l.length : Int) < p) : rSet l p r = (3, l) := by rw [rSet, if_neg h, if_pos h2]
theorem rSet_in {l : List Int} {p r : Int} (h : ¬ (p < 0 ∨ 256 ≤ p)) (h2 : ¬ (l.length : Int) < p) : rSet l p r = (0, setL l p.toNat (clampR r)) := by rw [rSet, if_neg h, if_neg h2]

theorem upd_rooms (l : List Int) (p : Nat) (c : Int) (hp : p ≤ l.length) : upd (rooms l) p c = rooms (setL l p c) := by
  funext j
  unfold upd rooms setL
  by_cases e : p = l.length
  · rw [if_pos e]
    subst e
    by_cases h : j = l.length
    · subst h; simp
    · rw [if_neg h]
      rcases Nat.lt_or_ge j l.length with x | x
      · simp [List.getD_eq_getElem?_getD, List.getElem?_append, x]
      · rw [getD_out _ _ x, getD_out _ _ (by simp; omega)]
  · rw [if_neg e]
    simp only [List.getD_eq_getElem?_getD, List.getElem?_set]
    by_cases h : j = p
    · subst h; simp [show j < l.length by omega]
    · simp [h, show ¬ p = j by omega]

theorem setL_length (l : List Int) (p : Nat) (c : Int) (hp : p ≤ l.length) : (setL l p c).length = max l.length (p + 1) := by
  unfold setL
  by_cases e : p = l.length
  · rw [if_pos e]; simp; omega
  · rw [if_neg e]; simp; omega

end Go.Lap
namespace Go.Proofs.YtdeekopdhgjanaaGreatDoor
open Go.RowKit Go.Lap

/-- The room map in block b has these rooms. -/
def RoomIs (w : World) (b : Nat) (l : List Int) : Prop := ∃ t, RoomAt w b (rooms l) t l.length

theorem RoomIs.kept {S : Nat → Prop} {w w' : World} {b : Nat} {l : List Int} (h : RoomIs w b l) (ho : Only S w w') (hn : ¬ S b) : RoomIs w' b l := by
  obtain ⟨t, h⟩ := h
  exact ⟨t, h.kept ho hn⟩

theorem RoomIs.lt {w : World} {b : Nat} {l : List Int} (h : RoomIs w b l) : b < w.heap.size := by
  obtain ⟨t, h⟩ := h
  exact lt_of_get h.blk

theorem RoomIs.most {w : World} {b : Nat} {l : List Int} (h : RoomIs w b l) : l.length ≤ 256 := by
  obtain ⟨t, h⟩ := h
  exact h.most

theorem room_set (b : Nat) (l : List Int) (w : World) (p r : Int) (hr : RoomIs w b l) :
    Calls Tryz.prog 105 #[.pointer (some ⟨b, 0, none⟩), .int .i64 p, .int .i64 r] w fun e w' => e = .returned (.int .i64 (rSet l p r).1) ∧ Only (· = b) w w' ∧ RoomIs w' b (rSet l p r).2 := by
  have hr0 := hr
  obtain ⟨t, hr⟩ := hr
  by_cases h1 : p < 0 ∨ 256 ≤ p
  · refine (set_arg b w p r h1).mono ?_
    rintro e w' ⟨rfl, rfl⟩
    rw [rSet_arg h1]
    exact ⟨rfl, Only.refl _ _, hr0⟩
  · obtain ⟨k, rfl⟩ := Int.eq_ofNat_of_zero_le (show 0 ≤ p by omega)
    by_cases h2 : (l.length : Int) < k
    · refine (set_form b _ t l.length w k r hr (by omega) (by omega)).mono ?_
      rintro e w' ⟨rfl, rfl⟩
      rw [rSet_form h1 h2]
      exact ⟨rfl, Only.refl _ _, hr0⟩
    · refine (set_in b _ t l.length w k r hr (by omega) (by omega)).mono ?_
      rintro e w' ⟨rfl, ho, t', hx⟩
      rw [rSet_in h1 h2]
      refine ⟨rfl, ho, t', ?_⟩
      rw [upd_rooms _ _ _ (by omega)] at hx
      rw [Int.toNat_natCast, setL_length _ _ _ (by omega)]
      exact hx

/-- The page behind all that there are. -/
theorem room_set_next (b : Nat) (l : List Int) (w : World) (p r : Int) (hr : RoomIs w b l) (hp : p = l.length) (h : l.length < 256) :
    Calls Tryz.prog 105 #[.pointer (some ⟨b, 0, none⟩), .int .i64 p, .int .i64 r] w fun e w' => e = .returned (.int .i64 0) ∧ Only (· = b) w w' ∧ RoomIs w' b (l ++ [clampR r]) := by
  have e : rSet l p r = (0, l ++ [clampR r]) := by
    rw [rSet_in (by omega) (by omega), hp, setL, if_pos (by simp)]
  have := room_set b l w p r hr
  rw [e] at this
  exact this

theorem room_set_nil (w : World) (p r : Int) :
    Calls Tryz.prog 105 #[.pointer none, .int .i64 p, .int .i64 r] w fun e w' => e = .returned (.int .i64 15) ∧ w = w' := by
  go_enter Tryz.func105, Tryz.ntmps105
  go_wp2
  go_ret
  exact ⟨rfl, rfl⟩

theorem room_find (b : Nat) (l : List Int) (w : World) (need : Int) (hr : RoomIs w b l) :
    Calls Tryz.prog 72 #[.pointer (some ⟨b, 0, none⟩), .int .i64 need] w fun e w' => e = .returned (.tuple #[.int .i64 (rFind l need).1, .bool (rFind l need).2]) ∧ w = w' := by
  obtain ⟨t, hr⟩ := hr
  rcases hf : l.findIdx? (fun r => decide (max need 0 ≤ r)) with _ | i
  · rw [List.findIdx?_eq_none_iff] at hf
    refine (find_none b _ t l.length w need hr (fun j _ => ?_)).mono ?_
    · rcases Nat.lt_or_ge j l.length with x | x
      · have := hf l[j] (List.getElem_mem x)
        have e : rooms l j = l[j] := by simp [rooms, List.getD_eq_getElem?_getD, x]
        rw [e]
        have := of_decide_eq_false this
        omega
      · have : rooms l j = -1 := getD_out _ _ x
        omega
    · rintro e w' ⟨rfl, rfl⟩
      rw [← List.findIdx?_eq_none_iff] at hf
      have e : rFind l need = (0, false) := by simp only [rFind, hf]
      rw [e]
      exact ⟨rfl, rfl⟩
  · have hf' := hf
    rw [List.findIdx?_eq_some_iff_getElem] at hf
    obtain ⟨hi, h1, h2⟩ := hf
    have hm := hr.most
    refine (find_some b _ t l.length w need i hr (by omega) ?_ (fun j hj => ?_)).mono ?_
    · have e : rooms l i = l[i] := by simp [rooms, List.getD_eq_getElem?_getD, hi]
      rw [e]; exact of_decide_eq_true h1
    · have e : rooms l j = l[j] := by simp [rooms, List.getD_eq_getElem?_getD, show j < l.length by omega]
      rw [e]
      have := h2 j hj
      simpa using this
    · rintro e w' ⟨rfl, rfl⟩
      have e : rFind l need = ((i : Int), true) := by simp only [rFind, hf']
      rw [e]
      exact ⟨rfl, rfl⟩

theorem room_find_nil (w : World) (need : Int) :
    Calls Tryz.prog 72 #[.pointer none, .int .i64 need] w fun e w' => e = .returned (.tuple #[.int .i64 0, .bool false]) ∧ w = w' := by
  go_enter Tryz.func72, Tryz.ntmps72
  go_wp2
  go_ret2
  exact ⟨rfl, rfl⟩

theorem room_make (w : World) :
    Calls Tryz.prog 42 #[] w fun e w' => e = .returned (.pointer (some ⟨w.heap.size, 0, none⟩)) ∧ Below w.heap.size w w' ∧ w.heap.size < w'.heap.size ∧ RoomIs w' w.heap.size [] := by
  refine (room_new w).mono ?_
  rintro e w' ⟨rfl, h1, h2, h3⟩
  exact ⟨rfl, h1, h2, _, h3⟩

/-- The search, from k on. -/
def FindFrom (l : List Int) (need : Int) (k : Nat) : Prop := ∀ j, j < k → ∀ x, l[j]? = some x → ¬ max need 0 ≤ x

theorem FindFrom.next {l : List Int} {need : Int} {k : Nat} {x : Int} (h : FindFrom l need k) (hx : l[k]? = some x) (hn : ¬ max need 0 ≤ x) : FindFrom l need (k + 1) := by
  intro j hj y hy
  by_cases e : j = k
  · subst e; rw [hx] at hy; injection hy with hy; subst hy; exact hn
  · exact h j (by omega) y hy

theorem FindFrom.found {l : List Int} {need : Int} {k : Nat} {x : Int} (h : FindFrom l need k) (hx : l[k]? = some x) (hn : max need 0 ≤ x) : rFind l need = ((k : Int), true) := by
  have hk : k < l.length := (List.getElem?_eq_some_iff.1 hx).1
  have : l.findIdx? (fun r => decide (max need 0 ≤ r)) = some k := by
    rw [List.findIdx?_eq_some_iff_getElem]
    refine ⟨hk, ?_, fun j hj => ?_⟩
    · rw [List.getElem?_eq_getElem hk] at hx; injection hx with hx; rw [hx]; exact decide_eq_true hn
    · simpa using h j hj _ (List.getElem?_eq_getElem (by omega))
  simp only [rFind, this]

theorem FindFrom.none {l : List Int} {need : Int} (h : FindFrom l need l.length) : rFind l need = (0, false) := by
  have : l.findIdx? (fun r => decide (max need 0 ≤ r)) = Option.none := by
    rw [List.findIdx?_eq_none_iff]
    intro x hx
    obtain ⟨j, hj, rfl⟩ := List.mem_iff_getElem.1 hx
    simpa using h j hj _ (List.getElem?_eq_getElem hj)
  simp only [rFind, this]

end Go.Proofs.YtdeekopdhgjanaaGreatDoor

namespace Go.Lap

theorem roomT_low (T : List (Option Tup)) : -1 ≤ roomT T := by unfold roomT; omega
theorem roomT_high (T : List (Option Tup)) : roomT T ≤ 474 := by
  unfold roomT
  split
  · omega
  · rename_i h
    have hl : T ≠ [] := by
      intro e
      subst e
      exact h rfl
    have : 4 ≤ spentT T := by
      rcases T with _ | ⟨s, T⟩
      · exact absurd rfl hl
      · unfold spentT
        rw [List.map_cons, List.sum_cons]
        omega
    omega
theorem clamp_room (T : List (Option Tup)) : clampR (roomT T) = roomT T := by
  have := roomT_low T
  have := roomT_high T
  unfold clampR
  omega

end Go.Lap
namespace Go.Proofs.YtdeekopdhgjanaaGreatDoor
open Go.RowKit Go.Lap

theorem RoomIs.blk {w : World} {b : Nat} {l : List Int} (h : RoomIs w b l) : ∃ c, w.heap[b]? = some (.cells c 158 (0, 0)) := by
  obtain ⟨t, h⟩ := h
  exact ⟨_, h.blk⟩
theorem RoomIs.drewN {w : World} {b : Nat} {l : List Int} (h : RoomIs w b l) (n : Nat) : RoomIs (w.drewN n) b l := h.kept ((Only.refl (fun _ => False) w).drewN n) (fun x => x)
theorem PageT.blk {w : World} {b : Nat} {T : List (Option Tup)} (h : PageT w b T) : ∃ c, w.heap[b]? = some (.cells c 195 (0, 0)) := by
  obtain ⟨L, st, ⟨g, h1, h2⟩, h3⟩ := h
  exact ⟨_, h1⟩
/-- A pool's cell. -/
def PoolAt (w : World) (pb n : Nat) : Prop := w.heap[pb]? = some (.cells #[.int .i64 (n : Int)] 94 (0, 0))

theorem PoolAt.kept {S : Nat → Prop} {w w' : World} {pb n : Nat} (h : PoolAt w pb n) (ho : Only S w w') (hn : ¬ S pb) : PoolAt w' pb n := ho.get h hn
theorem PoolAt.cell {w : World} {pb n : Nat} (h : PoolAt w pb n) : w.cell? ⟨pb, 0, none⟩ = some (.int .i64 (n : Int)) := by rw [cell_of h]; rfl
theorem PoolAt.lt {w : World} {pb n : Nat} (h : PoolAt w pb n) : pb < w.heap.size := lt_of_get h
theorem PoolAt.set {w : World} {pb n m : Nat} {z : Int} (h : PoolAt w pb n) (hz : z = m) : PoolAt (w.setCell ⟨pb, 0, none⟩ (.int .i64 z)) pb m := by
  subst hz
  unfold PoolAt
  rw [set_same h]
  rfl

/-- Block hb is a heap of the pool in block pb: pages H, rooms R as they were told; its row v, its pages' blocks ps, its room map in block rb. All blocks that are its own are F's. -/
structure HeapAt (w : World) (hb pb : Nat) (F : Nat → Prop) (H : List (List (Option Tup))) (R : List Int) (v : Value) (ps : List Nat) (rb : Nat) : Prop where
  box : w.heap[hb]? = some (.cells #[.pointer (some ⟨pb, 0, none⟩), v, .pointer (some ⟨rb, 0, none⟩)] 118 (0, 0))
  row : w.ownsRow 0 144 1 v H.length (ps.map ptrV)
  room : RoomIs w rb R
  pg : ∀ (i : Nat) T, H[i]? = some T → ∃ p, ps[i]? = some p ∧ PageT w p T
  nd : ps.Nodup
  foot : F hb ∧ F rb ∧ (∀ p ∈ ps, F p) ∧ (∀ k, v.ownBlock = some k → F k)

section
variable {w w' : World} {hb pb : Nat} {F : Nat → Prop} {H : List (List (Option Tup))} {R : List Int} {v : Value} {ps : List Nat} {rb : Nat}

theorem HeapAt.kept {S : Nat → Prop} (h : HeapAt w hb pb F H R v ps rb) (ho : Only S w w') (hn : ∀ k, F k → ¬ S k) : HeapAt w' hb pb F H R v ps rb :=
  ⟨ho.get h.box (hn _ h.foot.1), owns_kept h.row ho (fun k e => hn k (h.foot.2.2.2 k e)), h.room.kept ho (hn _ h.foot.2.1),
    fun i T hi => by obtain ⟨p, h1, h2⟩ := h.pg i T hi; exact ⟨p, h1, h2.kept ho (hn _ (h.foot.2.2.1 p (List.mem_of_getElem? h1)))⟩, h.nd, h.foot⟩

theorem HeapAt.drewN (h : HeapAt w hb pb F H R v ps rb) (n : Nat) : HeapAt (w.drewN n) hb pb F H R v ps rb := h.kept ((Only.refl (fun _ => False) w).drewN n) (fun _ _ x => x)

theorem HeapAt.mono {G : Nat → Prop} (h : HeapAt w hb pb F H R v ps rb) (hg : ∀ k, F k → G k) : HeapAt w hb pb G H R v ps rb :=
  ⟨h.box, h.row, h.room, h.pg, h.nd, hg _ h.foot.1, hg _ h.foot.2.1, fun p hp => hg _ (h.foot.2.2.1 p hp), fun k e => hg _ (h.foot.2.2.2 k e)⟩

theorem HeapAt.plen (h : HeapAt w hb pb F H R v ps rb) : ps.length = H.length := by
  have := h.row.1
  simpa using this

theorem HeapAt.page (h : HeapAt w hb pb F H R v ps rb) {i p : Nat} (hi : ps[i]? = some p) : ∃ T, H[i]? = some T ∧ PageT w p T := by
  have hl : i < H.length := by rw [← h.plen]; exact (List.getElem?_eq_some_iff.1 hi).1
  obtain ⟨p', h1, h2⟩ := h.pg i H[i] (List.getElem?_eq_getElem hl)
  rw [hi] at h1
  injection h1 with h1
  subst h1
  exact ⟨_, List.getElem?_eq_getElem hl, h2⟩

theorem HeapAt.pblk (h : HeapAt w hb pb F H R v ps rb) {p : Nat} (hp : p ∈ ps) : ∃ c, w.heap[p]? = some (.cells c 195 (0, 0)) := by
  obtain ⟨i, hi⟩ := List.mem_iff_getElem?.1 hp
  obtain ⟨T, _, h2⟩ := h.page hi
  exact h2.blk

theorem HeapAt.lim (h : HeapAt w hb pb F H R v ps rb) : HeapAt w hb pb (fun k => F k ∧ k < w.heap.size) H R v ps rb :=
  ⟨h.box, h.row, h.room, h.pg, h.nd, ⟨h.foot.1, lt_of_get h.box⟩, ⟨h.foot.2.1, h.room.lt⟩, fun p hp => ⟨h.foot.2.2.1 p hp, by obtain ⟨c, hc⟩ := h.pblk hp; exact lt_of_get hc⟩, fun k e => ⟨h.foot.2.2.2 k e, (h.row.lt k e).2⟩⟩

/-- All its blocks are other ones. -/
structure Apart (hb : Nat) (v : Value) (ps : List Nat) (rb : Nat) : Prop where
  rh : rb ≠ hb
  ph : ∀ p ∈ ps, p ≠ hb
  pr : ∀ p ∈ ps, p ≠ rb
  vh : ∀ k, v.ownBlock = some k → k ≠ hb
  vr : ∀ k, v.ownBlock = some k → k ≠ rb
  vp : ∀ k, v.ownBlock = some k → ∀ p ∈ ps, k ≠ p

theorem HeapAt.apart (h : HeapAt w hb pb F H R v ps rb) : Apart hb v ps rb := by
  obtain ⟨c, hr⟩ := h.room.blk
  exact ⟨ne_type hr h.box (by decide), fun p hp => by obtain ⟨c, hc⟩ := h.pblk hp; exact ne_type hc h.box (by decide), fun p hp => by obtain ⟨c, hc⟩ := h.pblk hp; exact ne_type hc hr (by decide),
    fun k e => by obtain ⟨c, hc⟩ := own_blk h.row e; exact ne_type hc h.box (by decide), fun k e => by obtain ⟨c, hc⟩ := own_blk h.row e; exact ne_type hc hr (by decide),
    fun k e p hp => by obtain ⟨c, hc⟩ := own_blk h.row e; obtain ⟨d, hd⟩ := h.pblk hp; exact ne_type hc hd (by decide)⟩

/-- The pool is none of them. -/
theorem HeapAt.pool (h : HeapAt w hb pb F H R v ps rb) {n q : Nat} (hq : PoolAt w q n) : q ≠ hb ∧ q ≠ rb ∧ (∀ p ∈ ps, q ≠ p) ∧ (∀ k, v.ownBlock = some k → q ≠ k) := by
  obtain ⟨c, hr⟩ := h.room.blk
  exact ⟨ne_type hq h.box (by decide), ne_type hq hr (by decide), fun p hp => by obtain ⟨c, hc⟩ := h.pblk hp; exact ne_type hq hc (by decide), fun k e => by obtain ⟨c, hc⟩ := own_blk h.row e; exact ne_type hq hc (by decide)⟩

theorem HeapAt.lim2 (h : HeapAt w hb pb F H R v ps rb) {n q : Nat} (hq : PoolAt w q n) : HeapAt w hb pb (fun k => F k ∧ k < w.heap.size ∧ k ≠ q) H R v ps rb := by
  have hp := h.pool hq
  have hl := h.lim.foot
  exact ⟨h.box, h.row, h.room, h.pg, h.nd, ⟨hl.1.1, hl.1.2, hp.1.symm⟩, ⟨hl.2.1.1, hl.2.1.2, hp.2.1.symm⟩, fun p hp' => ⟨(hl.2.2.1 p hp').1, (hl.2.2.1 p hp').2, (hp.2.2.1 p hp').symm⟩, fun k e => ⟨(hl.2.2.2 k e).1, (hl.2.2.2 k e).2, (hp.2.2.2 k e).symm⟩⟩

/-- One of its pages turns. -/
theorem HeapAt.turn {i p : Nat} {T' : List (Option Tup)} (h : HeapAt w hb pb F H R v ps rb) (hi : ps[i]? = some p) (ho : Only (· = p) w w') (hp : PageT w' p T') : HeapAt w' hb pb F (H.set i T') R v ps rb := by
  have ha := h.apart
  have hm : p ∈ ps := List.mem_of_getElem? hi
  refine ⟨ho.get h.box (fun e => ha.ph p hm e.symm), ?_, h.room.kept ho (fun e => ha.pr p hm e.symm), fun j T hj => ?_, h.nd, h.foot⟩
  · rw [List.length_set]
    exact owns_kept h.row ho (fun k e x => ha.vp k e p hm x)
  · have hil : i < H.length := by rw [← h.plen]; exact (List.getElem?_eq_some_iff.1 hi).1
    rw [List.getElem?_set] at hj
    by_cases e : i = j
    · subst e
      rw [if_pos rfl, if_pos hil] at hj
      injection hj with hj
      subst hj
      exact ⟨p, hi, hp⟩
    · rw [if_neg e] at hj
      obtain ⟨q, h1, h2⟩ := h.pg j T hj
      refine ⟨q, h1, h2.kept ho (fun x => ?_)⟩
      subst x
      exact e ((List.getElem?_inj (List.getElem?_eq_some_iff.1 hi).1 h.nd).1 (hi.trans h1.symm))

/-- Its room map turns. -/
theorem HeapAt.rooms {R' : List Int} (h : HeapAt w hb pb F H R v ps rb) (ho : Only (· = rb) w w') (hr : RoomIs w' rb R') : HeapAt w' hb pb F H R' v ps rb := by
  have ha := h.apart
  exact ⟨ho.get h.box (fun e => ha.rh e.symm), owns_kept h.row ho (fun k e x => ha.vr k e x), hr, fun i T hi => by obtain ⟨p, h1, h2⟩ := h.pg i T hi; exact ⟨p, h1, h2.kept ho (fun x => ha.pr p (List.mem_of_getElem? h1) x)⟩, h.nd, h.foot⟩

/-- One more page. -/
theorem HeapAt.grow {w1 w2 : World} {v' : Value} {q : Nat} (h : HeapAt w hb pb F H R v ps rb) (hq : Quiet w w1) (hp : PageT w1 q []) (hn : w.heap.size ≤ q)
    (hg : Grew (w1.alloc (.cells #[ptrV q] 144)) w2 144 1 v v' (H.length + 1) (ps.map ptrV ++ [ptrV q])) :
    HeapAt (w2.setCell ⟨hb, 1, none⟩ v') hb pb (fun k => F k ∨ w.heap.size ≤ k) (H ++ [[]]) R v' (ps ++ [q]) rb ∧ Only (fun k => F k) w (w2.setCell ⟨hb, 1, none⟩ v') := by
  have ha := h.apart
  have hl := lt_of_get h.box
  have hqa : Quiet w (w1.alloc (.cells #[ptrV q] 144)) := hq.alloc _
  have hsz := hq.size
  have hql := hp.lt
  have hf := h.foot
  have hrl := h.room.lt
  have hvl : ∀ k, v.ownBlock = some k → k < w.heap.size := fun k e => (h.row.lt k e).2
  have hnew : ∀ k, v'.ownBlock = some k → k ≠ hb ∧ k ≠ rb ∧ k ≠ q ∧ (∀ p ∈ ps, k ≠ p) := by
    intro k e
    have hpl : ∀ p ∈ ps, p < w.heap.size := fun p hp => by obtain ⟨c, hc⟩ := h.pblk hp; exact lt_of_get hc
    rcases hg.loc with x | x
    · rw [x] at e
      have := hvl k e
      exact ⟨ha.vh k e, ha.vr k e, by omega, ha.vp k e⟩
    · rw [x] at e
      injection e with e
      simp at e
      exact ⟨by omega, by omega, by omega, fun p hp => by have := hpl p hp; omega⟩
  have box2 := hg.only.get (hqa.get h.box (fun x => x)) (fun e => ha.vh hb e rfl)
  have ho3 : Only (· = hb) w2 (w2.setCell ⟨hb, 1, none⟩ v') := (Only.refl (· = hb) w2).setCell (p := ⟨hb, 1, none⟩) (fun _ => rfl) v'
  refine ⟨⟨?_, ?_, ?_, fun i T hi => ?_, ?_, Or.inl hf.1, Or.inl hf.2.1, fun p hp => ?_, fun k e => ?_⟩, ?_⟩
  · rw [set_same box2]; rfl
  · rw [List.length_append, List.map_append]
    exact owns_kept hg.own ho3 (fun k e x => (hnew k e).1 x)
  · exact (RoomIs.kept (S := fun k => v.ownBlock = some k) (h.room.kept hqa (fun x => x)) hg.only (fun e => ha.vr rb e rfl)).kept ho3 ha.rh
  · have hpl := h.plen
    rcases snoc_get hi with ⟨_, h1⟩ | ⟨h1, h2⟩
    · obtain ⟨p, h3, h4⟩ := h.pg i T h1
      have hpm := List.mem_of_getElem? h3
      exact ⟨p, snoc_old h3, (PageT.kept (S := fun k => v.ownBlock = some k) (h4.kept hqa (fun x => x)) hg.only (fun e => ha.vp p e p hpm rfl)).kept ho3 (ha.ph p hpm)⟩
    · subst h2
      refine ⟨q, by rw [h1, ← hpl]; simp, ?_⟩
      exact (PageT.kept (S := fun k => v.ownBlock = some k) (hp.kept ((Only.refl (fun _ => False) w1).alloc _) (fun x => x)) hg.only (fun e => by have := hvl q e; omega)).kept ho3 (by omega)
  · rw [List.nodup_append]
    refine ⟨h.nd, by simp, fun a ha' b hb' => ?_⟩
    obtain ⟨c, hc⟩ := h.pblk ha'
    have := lt_of_get hc
    simp at hb'
    omega
  · rcases List.mem_append.1 hp with x | x
    · exact Or.inl (hf.2.2.1 p x)
    · simp at x; subst x; exact Or.inr hn
  · rcases hg.loc with x | x
    · rw [x] at e; exact Or.inl (hf.2.2.2 k e)
    · rw [x] at e; injection e with e; simp at e; exact Or.inr (by omega)
  · exact (((hqa.mono (T := F) (fun _ _ x => x.elim)).trans' hg.only (fun k hk e => hf.2.2.2 k e)).trans' ho3 (fun k hk e => by subst e; exact hf.1))

end

/-- A heap, told by its pages alone. -/
def HeapIs (w : World) (hb pb : Nat) (F : Nat → Prop) (H : List (List (Option Tup))) : Prop := ∃ v ps rb, HeapAt w hb pb F H (H.map roomT) v ps rb

section
variable {w w' : World} {hb pb : Nat} {F : Nat → Prop} {H : List (List (Option Tup))}
theorem HeapIs.kept {S : Nat → Prop} (h : HeapIs w hb pb F H) (ho : Only S w w') (hn : ∀ k, F k → ¬ S k) : HeapIs w' hb pb F H := by
  obtain ⟨v, ps, rb, h⟩ := h
  exact ⟨v, ps, rb, h.kept ho hn⟩
theorem HeapIs.mono {G : Nat → Prop} (h : HeapIs w hb pb F H) (hg : ∀ k, F k → G k) : HeapIs w hb pb G H := by
  obtain ⟨v, ps, rb, h⟩ := h
  exact ⟨v, ps, rb, h.mono hg⟩
theorem HeapIs.lim (h : HeapIs w hb pb F H) : HeapIs w hb pb (fun k => F k ∧ k < w.heap.size) H := by
  obtain ⟨v, ps, rb, h⟩ := h
  exact ⟨v, ps, rb, h.lim⟩
theorem HeapIs.own (h : HeapIs w hb pb F H) : F hb ∧ hb < w.heap.size := by
  obtain ⟨v, ps, rb, h⟩ := h
  exact ⟨h.foot.1, lt_of_get h.box⟩
theorem HeapIs.most (h : HeapIs w hb pb F H) : H.length ≤ 256 := by
  obtain ⟨v, ps, rb, h⟩ := h
  simpa using h.room.most
theorem HeapIs.drew (h : HeapIs w hb pb F H) : HeapIs w.drew hb pb F H := h.kept ((Only.refl (fun _ => False) w).drew) (fun _ _ x => x)
theorem HeapIs.drewN (h : HeapIs w hb pb F H) (n : Nat) : HeapIs (w.drewN n) hb pb F H := h.kept ((Only.refl (fun _ => False) w).drewN n) (fun _ _ x => x)
end

end Go.Proofs.YtdeekopdhgjanaaGreatDoor

namespace Go.Proofs.YtdeekopdhgjanaaGreatDoor
open Go.RowKit Go.Lap

set_option maxHeartbeats 400000 in
set_option maxRecDepth 100000 in
theorem pool_new (n : Nat) (hn : n ≤ 256) (w : World) :
    Calls Tryz.prog 15 #[.int .i64 (n : Int)] w fun e w' => e = .returned (.tuple #[.pointer (some ⟨w.heap.size, 0, none⟩), .int .i64 0]) ∧ Quiet w w' ∧ PoolAt w' w.heap.size n := by
  have d0 : decide ((n : Int) < 0) = false := by simp
  have d1 : decide ((256 : Int) < n) = false := by simp; omega
  go_enter Tryz.func15, Tryz.ntmps15
  go_wp2
  go_ret2
  exact ⟨rfl, (Only.refl _ _).alloc _, alloc_new _ _⟩

set_option maxHeartbeats 400000 in
set_option maxRecDepth 100000 in
theorem pool_new_bad (n : Int) (hn : n < 0 ∨ 256 < n) (w : World) :
    Calls Tryz.prog 15 #[.int .i64 n] w fun e w' => e = .returned (.tuple #[.pointer none, .int .i64 1]) ∧ w = w' := by
  rcases hn with hn | hn
  · go_enter Tryz.func15, Tryz.ntmps15
    go_wp2
    go_ret2
    exact ⟨rfl, rfl⟩
  · have h0 : ¬ n < 0 := by omega
    go_enter Tryz.func15, Tryz.ntmps15
    go_wp2
    go_ret2
    exact ⟨rfl, rfl⟩

set_option maxHeartbeats 400000 in
set_option maxRecDepth 100000 in
theorem pool_left (pb n : Nat) (w : World) (h : PoolAt w pb n) :
    Calls Tryz.prog 73 #[.pointer (some ⟨pb, 0, none⟩)] w fun e w' => e = .returned (.int .i64 (n : Int)) ∧ w = w' := by
  have hc := h.cell
  clear h
  go_enter Tryz.func73, Tryz.ntmps73
  go_wp2
  go_ret
  exact ⟨rfl, rfl⟩

set_option maxHeartbeats 400000 in
set_option maxRecDepth 100000 in
theorem pool_left_nil (w : World) :
    Calls Tryz.prog 73 #[.pointer none] w fun e w' => e = .returned (.int .i64 0) ∧ w = w' := by
  go_enter Tryz.func73, Tryz.ntmps73
  go_wp2
  go_ret
  exact ⟨rfl, rfl⟩

theorem heapAt_new {w w1 : World} {pb : Nat} (hq : Below w.heap.size w w1) (hs : w.heap.size < w1.heap.size) (hr : RoomIs w1 w.heap.size []) :
    HeapIs (w1.alloc (.cells #[.pointer (some ⟨pb, 0, none⟩), .slice none 0 0, .pointer (some ⟨w.heap.size, 0, none⟩)] 118)) w1.heap.size pb (fun k => w.heap.size ≤ k) [] :=
  ⟨_, [], _, alloc_new _ _, World.ownsRow_nil _ _ _ _, hr.kept ((Only.refl (fun _ => False) w1).alloc _) (fun x => x), fun i T hi => by simp at hi, List.nodup_nil, Nat.le_of_lt hs, Nat.le_refl _, fun p hp => by simp at hp, fun k e => by cases e⟩

set_option maxHeartbeats 400000 in
set_option maxRecDepth 100000 in
theorem heap_new (pb : Nat) (w : World) :
    Calls Tryz.prog 22 #[.pointer (some ⟨pb, 0, none⟩)] w fun e w' => ∃ hb, e = .returned (.pointer (some ⟨hb, 0, none⟩)) ∧ Quiet w w' ∧ HeapIs w' hb pb (fun k => w.heap.size ≤ k) [] := by
  go_enter Tryz.func22, Tryz.ntmps22
  go_wp2_with fail
  refine (room_make w).mono ?_
  rintro e w1 ⟨rfl, hB, hs, hr⟩
  have HH := Lib.hid (heapAt_new (pb := pb) hB hs hr)
  have HQ : Hid (Quiet w w1) := Only.ofBelow' hB
  clear hB hs hr
  go_wp2
  go_ret
  exact ⟨_, rfl, HQ.out.alloc _, HH.out⟩

/-- Which page a number is. -/
def pageAt (H : List (List (Option Tup))) (n : Int) : Option Nat := if n < 0 ∨ (H.length : Int) ≤ n then none else some n.toNat

theorem HeapAt.cells {w : World} {hb pb : Nat} {F : Nat → Prop} {H : List (List (Option Tup))} {R : List Int} {v : Value} {ps : List Nat} {rb : Nat} (h : HeapAt w hb pb F H R v ps rb) :
    w.cell? ⟨hb, 0, none⟩ = some (.pointer (some ⟨pb, 0, none⟩)) ∧ w.cell? ⟨hb, 1, none⟩ = some v ∧ w.cell? ⟨hb, 2, none⟩ = some (.pointer (some ⟨rb, 0, none⟩)) :=
  ⟨by rw [cell_of h.box]; rfl, by rw [cell_of h.box]; rfl, by rw [cell_of h.box]; rfl⟩

/-- The row of a heap reads. -/
theorem HeapAt.rowForm {w : World} {hb pb : Nat} {F : Nat → Prop} {H : List (List (Option Tup))} {R : List Int} {v : Value} {ps : List Nat} {rb : Nat} (h : HeapAt w hb pb F H R v ps rb) :
    ∃ A c, v = .slice A H.length c ∧ H.length ≤ c ∧ c ≤ maxLen ∧ ∀ (i p : Nat), ps[i]? = some p → ∃ g, A = some ⟨g, 0, none⟩ ∧ w.cell? ⟨g, i, none⟩ = some (ptrV p) := by
  rcases h.row.2 with ⟨e1, e2⟩ | ⟨g, cap, cur, e1, _, hh, r1, r2, _⟩
  · refine ⟨none, 0, by rw [e2]; exact e1, by omega, Nat.zero_le _, fun i p hi => ?_⟩
    have := h.plen
    have := (List.getElem?_eq_some_iff.1 hi).1
    omega
  · refine ⟨_, cap, e1, r1, r2, fun i p hi => ⟨g, rfl, ?_⟩⟩
    have := h.row.cells (by rw [e1]; rfl) i (ptrV p) (by rw [List.getElem?_map, hi]; rfl)
    rw [add_none, Nat.zero_add] at this
    exact this

set_option maxHeartbeats 400000 in
set_option maxRecDepth 100000 in
theorem heap_page_nil (n : Int) (w : World) :
    Calls Tryz.prog 59 #[.pointer none, .int .i64 n] w fun e w' => e = .returned (.pointer none) ∧ w = w' := by
  go_enter Tryz.func59, Tryz.ntmps59
  go_wp2
  go_ret
  exact ⟨rfl, rfl⟩

section
variable {w : World} {hb pb : Nat} {F : Nat → Prop} {H : List (List (Option Tup))} {R : List Int} {v : Value} {ps : List Nat} {rb : Nat}

set_option maxHeartbeats 400000 in
set_option maxRecDepth 100000 in
theorem heap_page_none (n : Int) (h : HeapAt w hb pb F H R v ps rb) (hn : n < 0 ∨ (H.length : Int) ≤ n) :
    Calls Tryz.prog 59 #[.pointer (some ⟨hb, 0, none⟩), .int .i64 n] w fun e w' => e = .returned (.pointer none) ∧ w = w' := by
  obtain ⟨A, c, rfl, _, _, _⟩ := h.rowForm
  obtain ⟨_, c1, _⟩ := h.cells
  clear h
  rcases hn with hn | hn
  · go_enter Tryz.func59, Tryz.ntmps59
    go_wp2
    go_ret
    exact ⟨rfl, rfl⟩
  · have h0 : ¬ n < 0 := by omega
    go_enter Tryz.func59, Tryz.ntmps59
    go_wp2
    go_ret
    exact ⟨rfl, rfl⟩

set_option maxHeartbeats 400000 in
set_option maxRecDepth 100000 in
theorem heap_page_some (n p : Nat) (h : HeapAt w hb pb F H R v ps rb) (hn : ps[n]? = some p) :
    Calls Tryz.prog 59 #[.pointer (some ⟨hb, 0, none⟩), .int .i64 (n : Int)] w fun e w' => e = .returned (.pointer (some ⟨p, 0, none⟩)) ∧ w = w' := by
  obtain ⟨A, c, rfl, hc, hm, hr⟩ := h.rowForm
  obtain ⟨_, c1, _⟩ := h.cells
  have hl : n < H.length := by rw [← h.plen]; exact (List.getElem?_eq_some_iff.1 hn).1
  obtain ⟨g, rfl, hg⟩ := hr n p hn
  have d0 : decide ((n : Int) < 0) = false := by simp
  have d1 : decide ((H.length : Int) ≤ n) = false := by simp; omega
  unfold maxLen at hm
  clear h hr hn
  go_enter Tryz.func59, Tryz.ntmps59
  go_wp2
  go_ret
  exact ⟨rfl, rfl⟩

set_option maxHeartbeats 400000 in
set_option maxRecDepth 100000 in
theorem heap_told (n p : Nat) (T : List (Option Tup)) (h : HeapAt w hb pb F H R v ps rb) (hn : ps[n]? = some p) (hT : H[n]? = some T) (hR : n ≤ R.length) (h256 : n < 256) :
    Calls Tryz.prog 74 #[.pointer (some ⟨hb, 0, none⟩), .int .i64 (n : Int)] w fun e w' => e = .returned (.tuple #[]) ∧ Only (· = rb) w w' ∧ HeapAt w' hb pb F H (setL R n (roomT T)) v ps rb := by
  have HH := Lib.hid h
  obtain ⟨A, c, rfl, hc, hm, hr⟩ := h.rowForm
  obtain ⟨_, c1, c2⟩ := h.cells
  have hl : n < H.length := by rw [← h.plen]; exact (List.getElem?_eq_some_iff.1 hn).1
  obtain ⟨T', hT', hpt⟩ := h.page hn
  obtain rfl : T = T' := by rw [hT] at hT'; injection hT'
  obtain ⟨g, rfl, hg⟩ := hr n p hn
  have HPT := Lib.hid hpt
  have hset : rSet R (n : Int) (roomT T) = (0, setL R n (roomT T)) := by
    rw [rSet_in (by omega) (by omega), Int.toNat_natCast, clamp_room]
  have HSET := Lib.hid hset
  have HNE : Hid ((¬ hb = rb) ∧ ¬ g = rb) := ⟨fun e => h.apart.rh e.symm, fun e => h.apart.vr g rfl e⟩
  have d0 : decide ((n : Int) < 0) = false := by simp
  have d1 : decide ((H.length : Int) ≤ n) = false := by simp; omega
  unfold maxLen at hm
  clear h hr hn hT hT' hset hpt
  go_enter Tryz.func74, Tryz.ntmps74
  go_wp2_with fail
  go_region_held3 (fun w' => w'.cell? ⟨hb, 1, none⟩ = some (.slice (some ⟨g, 0, none⟩) H.length c) ∧ w'.cell? ⟨hb, 2, none⟩ = some (.pointer (some ⟨rb, 0, none⟩)) ∧ w'.cell? ⟨g, n, none⟩ = some (ptrV p))
    (first | go_keep | exact ⟨ho3.cell (by exact c1) HNE.out.1, ho3.cell (by exact c2) HNE.out.1, ho3.cell (by exact hg) HNE.out.2⟩ | fail)
    (first
      | (go_at_call 98; go_must (refine (pageT_room p T _ (by exact HPT.out)).mono ?_; rintro e w2 ⟨rfl, n3, rfl⟩))
      | (go_at_call 105; go_must (refine (room_set rb R _ (n : Int) (roomT T) (HH.out.room.drewN _)).mono ?_; rintro e w3 ⟨rfl, ho3, hr3⟩))
      | fail)
  go_wp2
  go_end0
  rw [HSET.out] at hr3
  exact ⟨rfl, ((Only.refl _ _).drewN _).trans ho3, (HH.out.drewN _).rooms ho3 hr3⟩

set_option maxHeartbeats 400000 in
set_option maxRecDepth 100000 in
theorem heap_pages_nil (w : World) :
    Calls Tryz.prog 56 #[.pointer none] w fun e w' => e = .returned (.int .i64 0) ∧ w = w' := by
  go_enter Tryz.func56, Tryz.ntmps56
  go_wp2
  go_ret
  exact ⟨rfl, rfl⟩

set_option maxHeartbeats 400000 in
set_option maxRecDepth 100000 in
theorem heap_pages (h : HeapIs w hb pb F H) :
    Calls Tryz.prog 56 #[.pointer (some ⟨hb, 0, none⟩)] w fun e w' => e = .returned (.int .i64 (H.length : Int)) ∧ w = w' := by
  obtain ⟨v, ps, rb, h⟩ := h
  obtain ⟨A, c, rfl, hc, hm, hr⟩ := h.rowForm
  obtain ⟨_, c1, _⟩ := h.cells
  clear h hr
  go_enter Tryz.func56, Tryz.ntmps56
  go_wp2
  go_ret
  exact ⟨rfl, rfl⟩

/-- How many versions a heap has. -/
def usedH (H : List (List (Option Tup))) : Nat := (H.map usedT).sum

theorem usedT_le (T : List (Option Tup)) : usedT T ≤ T.length := List.length_filter_le _ _

theorem usedH_take {H : List (List (Option Tup))} {k : Nat} {T : List (Option Tup)} (h : H[k]? = some T) : usedH (H.take (k + 1)) = usedH (H.take k) + usedT T := by
  unfold usedH
  rw [List.take_add_one, h]
  simp

/-- The worlds of Drop. -/
theorem drop_final {w1 : World} {n k : Nat} {z : Int} (h : HeapAt w hb pb F H R v ps rb) (hp : PoolAt w pb n) (hz : z = ((n + k : Nat) : Int))
    (hB : Below (w.setCell ⟨pb, 0, none⟩ (.int .i64 z)).heap.size (w.setCell ⟨pb, 0, none⟩ (.int .i64 z)) w1) (hr : RoomIs w1 (w.setCell ⟨pb, 0, none⟩ (.int .i64 z)).heap.size []) :
    Only (fun k => F k ∨ k = pb) w ((w1.setCell ⟨hb, 1, none⟩ (.slice none 0 0)).setCell ⟨hb, 2, none⟩ (.pointer (some ⟨w.heap.size, 0, none⟩))) ∧
    PoolAt ((w1.setCell ⟨hb, 1, none⟩ (.slice none 0 0)).setCell ⟨hb, 2, none⟩ (.pointer (some ⟨w.heap.size, 0, none⟩))) pb (n + k) ∧
    HeapIs ((w1.setCell ⟨hb, 1, none⟩ (.slice none 0 0)).setCell ⟨hb, 2, none⟩ (.pointer (some ⟨w.heap.size, 0, none⟩))) hb pb (fun k => F k ∨ w.heap.size ≤ k) [] := by
  have hsz : (w.setCell ⟨pb, 0, none⟩ (.int .i64 z)).heap.size = w.heap.size := by simp [World.setCell]
  have hpool := h.pool hp
  have hl := lt_of_get h.box
  have hpl := hp.lt
  have o1 : Only (fun k => F k ∨ k = pb) w (w.setCell ⟨pb, 0, none⟩ (.int .i64 z)) := (Only.refl _ w).setCell (p := ⟨pb, 0, none⟩) (fun _ => Or.inr rfl) _
  have q1 : Quiet (w.setCell ⟨pb, 0, none⟩ (.int .i64 z)) w1 := Only.ofBelow' hB
  have hp1 : PoolAt w1 pb (n + k) := (hp.set hz).kept q1 (fun x => x)
  have b0 := set_other h.box 0 (.int .i64 z) (fun e => hpool.1 e.symm)
  have b1 := q1.get b0 (fun x => x)
  have hrl := hr.lt
  rw [hsz] at hr hrl
  have o3 : Only (· = hb) w1 ((w1.setCell ⟨hb, 1, none⟩ (.slice none 0 0)).setCell ⟨hb, 2, none⟩ (.pointer (some ⟨w.heap.size, 0, none⟩))) :=
    ((Only.refl (· = hb) w1).setCell (p := ⟨hb, 1, none⟩) (fun _ => rfl) _).setCell (p := ⟨hb, 2, none⟩) (fun _ => rfl) _
  refine ⟨(o1.trans' q1 (fun _ _ x => x.elim)).trans' o3 (fun k _ e => by subst e; exact Or.inl h.foot.1), hp1.kept o3 hpool.1, _, [], w.heap.size, ?_, World.ownsRow_nil _ _ _ _, hr.kept o3 (by omega), fun i T hi => by simp at hi, List.nodup_nil, Or.inl h.foot.1, Or.inr (Nat.le_refl _), fun p hp => by simp at hp, fun k e => by cases e⟩
  rw [set_same (set_same b1 _ _)]
  rfl

end
end Go.Proofs.YtdeekopdhgjanaaGreatDoor

namespace Go.Lap

/-- The first page with so much room. -/
def findH (H : List (List (Option Tup))) (n : Nat) : Option Nat := H.findIdx? (fun T => decide ((n : Int) ≤ roomT T))

/-- What Insert tells (page, slot, error), the pages and the pool behind it. -/
def hIns (H : List (List (Option Tup))) (left : Nat) (t : Tup) : (Int × Int × Int) × List (List (Option Tup)) × Nat :=
  if t.rightB = false then ((0, 0, 3), H, left) else
    match findH H t.data.length with
    | some i => ((i, freeT (H.getD i []), 0), H.set i (insT (H.getD i []) t), left)
    | none => if left = 0 then ((0, 0, 12), H, left) else ((H.length, 0, 0), H ++ [[some t]], left - 1)

theorem find_rooms (H : List (List (Option Tup))) (n : Nat) : rFind (H.map roomT) (n : Int) = match findH H n with | some i => ((i : Int), true) | none => (0, false) := by
  unfold rFind findH
  rw [List.findIdx?_map]
  rw [show max (n : Int) 0 = n by omega]
  rfl

theorem findH_some {H : List (List (Option Tup))} {n i : Nat} (h : findH H n = some i) : ∃ T, H[i]? = some T ∧ (n : Int) ≤ roomT T := by
  unfold findH at h
  rw [List.findIdx?_eq_some_iff_getElem] at h
  obtain ⟨hi, h1, _⟩ := h
  exact ⟨H[i], List.getElem?_eq_getElem hi, of_decide_eq_true h1⟩

end Go.Lap
namespace Go.Proofs.YtdeekopdhgjanaaGreatDoor
open Go.RowKit Go.Lap

theorem elem_page : Elem Tryz.prog 116 144 1 8 := Elem.mk' (.pointer none) Tryz.underlying116 (by kernel_rfl) rfl (by decide)

theorem info_tid : (Tryz.prog.info? 42).map (·.size) = some 2 := by kernel_rfl

theorem two_set {W : World} {b : Nat} {c0 c1 : Value} {t : TypeId} (h : W.heap[b]? = some (.cells #[c0, c1] t (0, 0))) (x y : Value) : ((W.setCell ⟨b, 0, none⟩ x).setCell ⟨b, 1, none⟩ y).heap[b]? = some (.cells #[x, y] t (0, 0)) := by
  rw [set_same (set_same h _ _)]
  rfl
theorem two_only (W : World) (b : Nat) (x y : Value) : Only (· = b) W ((W.setCell ⟨b, 0, none⟩ x).setCell ⟨b, 1, none⟩ y) :=
  ((Only.refl (· = b) W).setCell (p := ⟨b, 0, none⟩) (fun _ => rfl) x).setCell (p := ⟨b, 1, none⟩) (fun _ => rfl) y

/-- In Insert: the version in its box, the place in its own; of what was there G alone has turned. -/
structure InsW (G : Nat → Prop) (w W : World) (t : Tup) (A : Option Addr) (cap : Nat) : Prop where
  only : Only G w W
  box : W.heap[w.heap.size]? = some (.cells #[.int .u64 t.row, .int .u64 t.xmin, .int .u64 t.xmax, .int .i64 t.pg, .int .i64 t.sl, .slice A t.data.length cap] 86 (0, 0))
  tid : W.heap[w.heap.size + 1]? = some (.cells #[.int .i64 0, .int .i64 0] 42 (0, 0))

section
variable {G : Nat → Prop} {w W W' : World} {t : Tup} {A : Option Addr} {cap : Nat}
theorem InsW.start (w : World) (t : Tup) (A : Option Addr) (cap : Nat) : InsW (fun _ => False) w ((w.alloc (.cells #[.int .u64 t.row, .int .u64 t.xmin, .int .u64 t.xmax, .int .i64 t.pg, .int .i64 t.sl, .slice A t.data.length cap] 86)).alloc (.cells #[.int .i64 0, .int .i64 0] 42)) t A cap :=
  ⟨((Only.refl _ _).alloc _).alloc _, alloc_old (alloc_new _ _) _, two_new _ _ _⟩

theorem InsW.on {S : Nat → Prop} (h : InsW G w W t A cap) (ho : Only S W W') (h1 : ∀ k, k < w.heap.size → S k → G k) (h2 : ∀ k, w.heap.size ≤ k → k < w.heap.size + 2 → ¬ S k) : InsW G w W' t A cap :=
  ⟨h.only.trans' ho h1, ho.get h.box (h2 _ (by omega) (by omega)), ho.get h.tid (h2 _ (by omega) (by omega))⟩

theorem InsW.mono {G' : Nat → Prop} (h : InsW G w W t A cap) (hg : ∀ k, G k → G' k) : InsW G' w W t A cap := ⟨h.only.mono (fun k _ x => hg k x), h.box, h.tid⟩
theorem InsW.quietly (h : InsW G w W t A cap) (hq : Quiet W W') : InsW G w W' t A cap := h.on hq (fun _ _ x => x.elim) (fun _ _ _ x => x)
theorem InsW.drew (h : InsW G w W t A cap) : InsW G w W.drew t A cap := ⟨h.only.drew, h.box, h.tid⟩
theorem InsW.drewN (h : InsW G w W t A cap) (n : Nat) : InsW G w (W.drewN n) t A cap := ⟨h.only.drewN n, h.box, h.tid⟩
theorem InsW.lt (h : InsW G w W t A cap) : w.heap.size + 1 < W.heap.size := lt_of_get h.tid
theorem InsW.cells (h : InsW G w W t A cap) : W.cell? ⟨w.heap.size + 1, 0, none⟩ = some (.int .i64 0) ∧ W.cell? ⟨w.heap.size + 1, 1, none⟩ = some (.int .i64 0) ∧ ∀ o, W.frozen? ⟨w.heap.size + 1, o, none⟩ = false :=
  ⟨by rw [cell_of h.tid]; rfl, by rw [cell_of h.tid]; rfl, fun o => frozen_of h.tid o⟩
theorem InsW.end_ (h : InsW G w W t A cap) (x y : Value) : Only G w ((W.setCell ⟨w.heap.size + 1, 0, none⟩ x).setCell ⟨w.heap.size + 1, 1, none⟩ y) :=
  h.only.trans' (two_only W _ x y) (fun k hk e => by omega)

/-- What a page of its own tells. -/
theorem own_page (t : Tup) (A : Option Addr) (cap : Nat) (S : Nat → Prop) (hby : ∀ x ∈ t.data, x < 256) (hd : Rd w S 1 A t.data.length (bytesV t.data)) (W w1 : World) (q : Nat) (h : InsW (fun _ => False) w W t A cap) (hq : Quiet W.drew w1) (hp : PageT w1 q []) (hq' : w.heap.size + 2 ≤ q) :
    Calls Tryz.prog 71 #[.pointer (some ⟨q, 0, none⟩), tupV t A cap] w1 fun e w' => e = .returned (.tuple #[.int .i64 0, .int .i64 (if t.rightB then 0 else 3)]) ∧ InsW (fun _ => False) w w' t A cap := by
  have h1 := h.drew.quietly hq
  have := pageT_insert q [] t A cap _ w1 hp hby (hd.kept h1.only (fun _ _ x => x))
  have hr : (pInsT [] t).1 = 0 ∧ (pInsT [] t).2.1 = if t.rightB then 0 else 3 := by
    unfold pInsT
    rcases e : t.rightB with _ | _
    · exact ⟨rfl, rfl⟩
    · rw [if_neg (by simp), if_neg (by
        have : t.data.length ≤ 200 := (of_decide_eq_true e).2.2.2.2
        have : roomT [] = 474 := by decide
        omega)]
      exact ⟨rfl, rfl⟩
  rw [hr.1, hr.2] at this
  exact this.mono fun e w' ⟨a, b, c⟩ => ⟨a, h1.on b (fun k hk e => by omega) (fun k h1 h2 e => by omega)⟩
end

set_option maxHeartbeats 1000000 in
set_option maxRecDepth 100000 in
theorem heap_insert_form (hb : Nat) (t : Tup) (A : Option Addr) (cap : Nat) (S : Nat → Prop) (w : World) (ht : t.rightB = false) (hby : ∀ x ∈ t.data, x < 256) (hd : Rd w S 1 A t.data.length (bytesV t.data)) :
    Calls Tryz.prog 45 #[.pointer (some ⟨hb, 0, none⟩), tupV t A cap] w fun e w' => e = .returned (.tuple #[.agg #[.int .i64 0, .int .i64 0], .int .i64 3]) ∧ Quiet w w' := by
  have HI := Lib.hid (own_page t A cap S hby hd)
  have H0 := Lib.hid (InsW.start w t A cap)
  simp only [ht, Bool.false_eq_true, if_false, if_true] at HI
  unfold tupV at HI ⊢
  clear ht hby hd
  go_enter Tryz.func45, Tryz.ntmps45
  go_wp2_with fail
  go_region_held3 (fun w' => w'.cell? ⟨w.heap.size, 0, none⟩ = some (.int .u64 t.row) ∧ w'.cell? ⟨w.heap.size, 1, none⟩ = some (.int .u64 t.xmin) ∧ w'.cell? ⟨w.heap.size, 2, none⟩ = some (.int .u64 t.xmax) ∧ w'.cell? ⟨w.heap.size, 3, none⟩ = some (.int .i64 t.pg) ∧ w'.cell? ⟨w.heap.size, 4, none⟩ = some (.int .i64 t.sl) ∧ w'.cell? ⟨w.heap.size, 5, none⟩ = some (.slice A t.data.length cap))
    (first | go_keep | exact box_cells H2.out.box | exact box_cells H1.out.box | fail)
    (first
      | (go_at_call 60; go_must (refine (pageT_new _).mono ?_; rintro e w1 ⟨rfl, hq1, hs1, hp1⟩; have H1 := Lib.hid (H0.out.drew.quietly hq1); have HQ1 := Lib.hid hq1; simp only [World.size_drew, World.size_alloc] at hp1; have HP1 := Lib.hid hp1; clear hq1 hp1 hs1))
      | (go_at_call 71; go_must (refine (HI.out _ _ _ H0.out HQ1.out HP1.out (by omega)).mono ?_; rintro e w2 ⟨rfl, h2⟩; have H2 := Lib.hid h2; clear h2))
      | fail)
  clear HI H0 HQ1 HP1 H1
  obtain ⟨t0, t1, tf⟩ := H2.out.cells
  go_wp2_with fail
  exact bodyPost_ret (results_cell_tmp Tryz.results45 _ _ (w.heap.size + 1) _ _ (0, 0) _ (by rfl) (two_set H2.out.tid _ _) Tryz.underlying42 rfl info_tid) (by rfl) ⟨rfl, H2.out.end_ _ _⟩

/-- What the walk of a found page needs. -/
theorem set_rooms (H : List (List (Option Tup))) (i : Nat) (T : List (Option Tup)) (hi : i < H.length) : setL (H.map roomT) i (roomT T) = (H.set i T).map roomT := by
  unfold setL
  rw [if_neg (by simp; omega), List.map_set]

theorem ins_new (t : Tup) (ht : t.rightB = true) : pInsT [] t = (0, 0, [some t]) := by
  unfold pInsT
  rw [if_neg (by simp [ht]), if_neg (by
    have : t.data.length ≤ 200 := (of_decide_eq_true ht).2.2.2.2
    have : roomT [] = 474 := by decide
    omega)]
  rfl

theorem ins_room {T : List (Option Tup)} {t : Tup} (ht : t.rightB = true) (hr : (t.data.length : Int) ≤ roomT T) : pInsT T t = ((freeT T : Int), 0, insT T t) := by
  unfold pInsT
  rw [if_neg (by simp [ht]), if_neg (by omega)]

set_option maxHeartbeats 1000000 in
set_option maxRecDepth 100000 in
theorem heap_insert_found (hb pb : Nat) (F : Nat → Prop) (H : List (List (Option Tup))) (T : List (Option Tup)) (i : Nat) (t : Tup) (A : Option Addr) (cap : Nat) (S : Nat → Prop) (w : World) (h : HeapIs w hb pb F H) (ht : t.rightB = true) (hf : findH H t.data.length = some i) (hT : H[i]? = some T)
    (hby : ∀ x ∈ t.data, x < 256) (hd : Rd w S 1 A t.data.length (bytesV t.data)) :
    Calls Tryz.prog 45 #[.pointer (some ⟨hb, 0, none⟩), tupV t A cap] w fun e w' => e = .returned (.tuple #[.agg #[.int .i64 (i : Int), .int .i64 (freeT T : Int)], .int .i64 0]) ∧ Only F w w' ∧ HeapIs w' hb pb F (H.set i (insT T t)) := by
  have HI := Lib.hid (own_page t A cap S hby hd)
  have H0 := Lib.hid (InsW.start w t A cap)
  simp only [ht, Bool.false_eq_true, if_false, if_true] at HI
  have h256 := h.most
  obtain ⟨v, ps, rb, h⟩ := h.lim
  have hfr := find_rooms H t.data.length
  rw [hf] at hfr
  have hil : i < H.length := (List.getElem?_eq_some_iff.1 hT).1
  obtain ⟨p, hp, hpt⟩ := h.pg i T hT
  obtain ⟨T', hT', hrm⟩ := findH_some hf
  obtain rfl : T = T' := by rw [hT] at hT'; injection hT'
  have HIN : Hid (∀ w1, Quiet w w1 → Calls Tryz.prog 71 #[.pointer (some ⟨p, 0, none⟩), tupV t A cap] w1 fun e w' => e = .returned (.tuple #[.int .i64 (freeT T : Int), .int .i64 0]) ∧ Only (· = p) w1 w' ∧ PageT w' p (insT T t)) := fun w1 hq => by
    have := pageT_insert p T t A cap _ w1 (hpt.kept hq (fun x => x)) hby (hd.kept hq (fun _ _ x => x))
    rw [ins_room ht hrm] at this
    exact this
  obtain ⟨B, c, hv, hc, hm, hr⟩ := h.rowForm
  obtain ⟨g, rfl, hg⟩ := hr i p hp
  have hall := h.cells
  rw [hv] at hall
  obtain ⟨c0, c1, c2⟩ := hall
  have hl1 := lt_of_get h.box
  have hl2 := cell_lt hg
  have HH := Lib.hid h
  have HFR := Lib.hid hfr
  have HHP := Lib.hid hp
  have HV := Lib.hid hv
  unfold maxLen at hm
  unfold tupV at HI HIN ⊢
  clear ht hby hd hf h hfr hr hpt hT' hrm hp hv
  go_enter Tryz.func45, Tryz.ntmps45
  go_wp2_with fail
  go_region_held3 (fun w' => w'.cell? ⟨w.heap.size, 0, none⟩ = some (.int .u64 t.row) ∧ w'.cell? ⟨w.heap.size, 1, none⟩ = some (.int .u64 t.xmin) ∧ w'.cell? ⟨w.heap.size, 2, none⟩ = some (.int .u64 t.xmax) ∧ w'.cell? ⟨w.heap.size, 3, none⟩ = some (.int .i64 t.pg) ∧ w'.cell? ⟨w.heap.size, 4, none⟩ = some (.int .i64 t.sl) ∧ w'.cell? ⟨w.heap.size, 5, none⟩ = some (.slice A t.data.length cap))
    (first | go_keep | exact box_cells H2.out.box | exact box_cells H1.out.box | fail)
    (first
      | (go_at_call 60; go_must (refine (pageT_new _).mono ?_; rintro e w1 ⟨rfl, hq1, hs1, hp1⟩; have H1 := Lib.hid (H0.out.drew.quietly hq1); have HQ1 := Lib.hid hq1; simp only [World.size_drew, World.size_alloc] at hp1; have HP1 := Lib.hid hp1; clear hq1 hp1 hs1))
      | (go_at_call 71; go_must (refine (HI.out _ _ _ H0.out HQ1.out HP1.out (by omega)).mono ?_; rintro e w2 ⟨rfl, h2⟩; have H2 := Lib.hid h2; clear h2))
      | fail)
  clear HI H0 HQ1 HP1 H1
  have HH2 := Lib.hid (HH.out.kept H2.out.only (fun _ _ x => x))
  obtain ⟨b0, b1, b2, b3, b4, b5⟩ := box_cells H2.out.box
  have k1 := H2.out.only.cell c1 (fun x => x)
  have k2 := H2.out.only.cell c2 (fun x => x)
  have kg := H2.out.only.cell hg (fun x => x)
  have d0 : decide ((i : Int) < 0) = false := by simp
  have d1 : decide ((H.length : Int) ≤ i) = false := by simp; omega
  clear c0 c1 c2 hg
  go_wp2_with fail
  go_quiet ((go_at_call 72; exact quiet_left (room_find rb _ _ _ (HH2.out.room.drewN _))))
  rw [HFR.out]
  go_wp2_with fail
  have HNE : Hid ((¬ hb = p) ∧ (¬ g = p) ∧ p < w.heap.size) := ⟨fun e => HH.out.apart.ph p (List.mem_of_getElem? HHP.out) e.symm, fun e => HH.out.apart.vp g (by rw [HV.out]; rfl) p (List.mem_of_getElem? HHP.out) e, by obtain ⟨d, hd⟩ := HH.out.pblk (List.mem_of_getElem? HHP.out); exact lt_of_get hd⟩
  go_region_held3 (fun w' => w'.cell? ⟨hb, 1, none⟩ = some (.slice (some ⟨g, 0, none⟩) H.length c) ∧ w'.cell? ⟨g, i, none⟩ = some (ptrV p) ∧ w'.cell? ⟨w.heap.size, 0, none⟩ = some (.int .u64 t.row) ∧ w'.cell? ⟨w.heap.size, 1, none⟩ = some (.int .u64 t.xmin) ∧ w'.cell? ⟨w.heap.size, 2, none⟩ = some (.int .u64 t.xmax) ∧ w'.cell? ⟨w.heap.size, 3, none⟩ = some (.int .i64 t.pg) ∧ w'.cell? ⟨w.heap.size, 4, none⟩ = some (.int .i64 t.sl) ∧ w'.cell? ⟨w.heap.size, 5, none⟩ = some (.slice A t.data.length cap))
    (first | go_keep | exact ⟨ho4.cell (by exact k1) HNE.out.1, ho4.cell (by exact kg) HNE.out.2.1, box_cells (ho4.get (by exact H2.out.box) (by have := HNE.out.2.2; omega))⟩ | fail)
    (first
      | (go_at_call 71; go_must (refine (HIN.out _ (H2.out.only.drewN _)).mono ?_; rintro e w4 ⟨rfl, ho4, hp4⟩))
      | fail)
  have HH4 := Lib.hid ((HH2.out.drewN _).turn HHP.out ho4 hp4)
  have H4 : Hid (InsW F w w4 t A cap) := ((H2.out.drewN _).mono (fun _ x => x.elim)).on ho4 (fun k _ e => by subst e; exact (HH.out.foot.2.2.1 k (List.mem_of_getElem? HHP.out)).1) (fun k h1 h2 e => by have := HNE.out.2.2; omega)
  clear ho4 hp4 HH2 H2 HIN HFR k1 k2 kg b0 b1 b2 b3 b4 b5
  go_wp2_with fail
  refine (heap_told i p (insT T t) HH4.out HHP.out (by rw [List.getElem?_set_self hil]) (by simp; omega) (by omega)).mono ?_
  rintro e w5 ⟨rfl, ho5, hh5⟩
  rw [set_rooms H i _ hil] at hh5
  have HH5 := Lib.hid hh5
  have H5 := Lib.hid (H4.out.on ho5 (fun k _ e => by subst e; exact HH.out.foot.2.1.1) (fun k h1 h2 e => by have := HH.out.room.lt; omega))
  clear ho5 hh5 HH4 H4
  obtain ⟨t0, t1, tf⟩ := H5.out.cells
  go_wp2_with fail
  exact bodyPost_ret (results_cell_tmp Tryz.results45 _ _ (w.heap.size + 1) _ _ (0, 0) _ (by rfl) (two_set H5.out.tid _ _) Tryz.underlying42 rfl info_tid) (by rfl) ⟨rfl, H5.out.end_ _ _, _, _, _, (HH5.out.kept (two_only _ _ _ _) (fun k hk e => by have := hk.2; omega)).mono (fun _ x => x.1)⟩

set_option maxHeartbeats 1000000 in
set_option maxRecDepth 100000 in
theorem heap_insert_full (hb pb : Nat) (F : Nat → Prop) (H : List (List (Option Tup))) (t : Tup) (A : Option Addr) (cap : Nat) (S : Nat → Prop) (w : World) (h : HeapIs w hb pb F H) (hpo : PoolAt w pb 0) (ht : t.rightB = true) (hf : findH H t.data.length = none)
    (hby : ∀ x ∈ t.data, x < 256) (hd : Rd w S 1 A t.data.length (bytesV t.data)) :
    Calls Tryz.prog 45 #[.pointer (some ⟨hb, 0, none⟩), tupV t A cap] w fun e w' => e = .returned (.tuple #[.agg #[.int .i64 0, .int .i64 0], .int .i64 12]) ∧ Quiet w w' := by
  have HI := Lib.hid (own_page t A cap S hby hd)
  have H0 := Lib.hid (InsW.start w t A cap)
  simp only [ht, Bool.false_eq_true, if_false, if_true] at HI
  have h256 := h.most
  obtain ⟨v, ps, rb, h⟩ := h.lim
  have hfr := find_rooms H t.data.length
  rw [hf] at hfr
  obtain ⟨B, c, hv, hc, hm, hr⟩ := h.rowForm
  have hall := h.cells
  rw [hv] at hall
  obtain ⟨c0, c1, c2⟩ := hall
  have hl1 := lt_of_get h.box
  have HH := Lib.hid h
  have HFR := Lib.hid hfr
  have HV := Lib.hid hv
  have HPO := Lib.hid hpo
  unfold maxLen at hm
  unfold tupV at HI ⊢
  clear ht hf h hfr hr hv
  clear hby hd hpo
  go_enter Tryz.func45, Tryz.ntmps45
  go_wp2_with fail
  go_region_held3 (fun w' => w'.cell? ⟨w.heap.size, 0, none⟩ = some (.int .u64 t.row) ∧ w'.cell? ⟨w.heap.size, 1, none⟩ = some (.int .u64 t.xmin) ∧ w'.cell? ⟨w.heap.size, 2, none⟩ = some (.int .u64 t.xmax) ∧ w'.cell? ⟨w.heap.size, 3, none⟩ = some (.int .i64 t.pg) ∧ w'.cell? ⟨w.heap.size, 4, none⟩ = some (.int .i64 t.sl) ∧ w'.cell? ⟨w.heap.size, 5, none⟩ = some (.slice A t.data.length cap))
    (first | go_keep | exact box_cells H2.out.box | exact box_cells H1.out.box | fail)
    (first
      | (go_at_call 60; go_must (refine (pageT_new _).mono ?_; rintro e w1 ⟨rfl, hq1, hs1, hp1⟩; have H1 := Lib.hid (H0.out.drew.quietly hq1); have HQ1 := Lib.hid hq1; simp only [World.size_drew, World.size_alloc] at hp1; have HP1 := Lib.hid hp1; clear hq1 hp1 hs1))
      | (go_at_call 71; go_must (refine (HI.out _ _ _ H0.out HQ1.out HP1.out (by omega)).mono ?_; rintro e w2 ⟨rfl, h2⟩; have H2 := Lib.hid h2; clear h2))
      | fail)
  clear HI H0 HQ1 HP1 H1
  have HH2 := Lib.hid (HH.out.kept H2.out.only (fun _ _ x => x))
  have HPO2 := Lib.hid (HPO.out.kept H2.out.only (fun x => x))
  obtain ⟨b0, b1, b2, b3, b4, b5⟩ := box_cells H2.out.box
  have k0 := H2.out.only.cell c0 (fun x => x)
  have k1 := H2.out.only.cell c1 (fun x => x)
  have k2 := H2.out.only.cell c2 (fun x => x)
  clear c0 c1 c2
  go_wp2_with fail
  go_quiet ((go_at_call 72; exact quiet_left (room_find rb _ _ _ (HH2.out.room.drewN _))))
  rw [HFR.out]
  go_wp2_with fail
  refine (pool_left pb 0 _ (by exact HPO2.out)).mono ?_
  rintro e w3 ⟨rfl, rfl⟩
  obtain ⟨t0, t1, tf⟩ := H2.out.cells
  go_wp2_with fail
  exact bodyPost_ret (results_cell_tmp Tryz.results45 _ _ (w.heap.size + 1) _ _ (0, 0) _ (by rfl) (two_set (H2.out.drewN _).tid _ _) Tryz.underlying42 rfl info_tid) (by rfl) ⟨rfl, (H2.out.drewN _).end_ _ _⟩

set_option maxHeartbeats 1000000 in
set_option maxRecDepth 100000 in
theorem heap_insert_grow (hb pb left : Nat) (F : Nat → Prop) (H : List (List (Option Tup))) (t : Tup) (A : Option Addr) (cap : Nat) (S : Nat → Prop) (w : World) (h : HeapIs w hb pb F H) (hpo : PoolAt w pb (left + 1)) (ht : t.rightB = true) (hf : findH H t.data.length = none) (hle : H.length + (left + 1) ≤ 256)
    (hby : ∀ x ∈ t.data, x < 256) (hd : Rd w S 1 A t.data.length (bytesV t.data)) (hS : ∀ k, S k → ¬ F k ∧ k ≠ pb) :
    Calls Tryz.prog 45 #[.pointer (some ⟨hb, 0, none⟩), tupV t A cap] w fun e w' => e = .returned (.tuple #[.agg #[.int .i64 (H.length : Int), .int .i64 0], .int .i64 0]) ∧ Only (fun k => F k ∨ k = pb) w w' ∧ PoolAt w' pb left ∧ HeapIs w' hb pb (fun k => F k ∨ w.heap.size ≤ k) (H ++ [[some t]]) := by
  have HI := Lib.hid (own_page t A cap S hby hd)
  have H0 := Lib.hid (InsW.start w t A cap)
  simp only [ht, Bool.false_eq_true, if_false, if_true] at HI
  have h256 := h.most
  obtain ⟨v, ps, rb, h⟩ := h
  replace h := h.lim2 hpo
  have hfr := find_rooms H t.data.length
  rw [hf] at hfr
  obtain ⟨B, c, hv, hc, hm, hr⟩ := h.rowForm
  have hall := h.cells
  rw [hv] at hall
  obtain ⟨c0, c1, c2⟩ := hall
  have hl1 := lt_of_get h.box
  have HH := Lib.hid h
  have HFR := Lib.hid hfr
  have HV := Lib.hid hv
  have HPO := Lib.hid hpo
  have HT := Lib.hid ht
  unfold maxLen at hm
  unfold tupV at HI ⊢
  clear ht hf h hfr hr hv
  have hne : ¬ hb = pb := fun e => (HH.out.pool hpo).1 e.symm
  have hne' : ¬ pb = hb := fun e => hne e.symm
  have hl0 : ¬ ((left : Int) + 1 = 0) := by omega
  have HD := Lib.hid hd
  have HBY := Lib.hid hby
  have HS := Lib.hid hS
  clear hby hd hpo hS
  go_enter Tryz.func45, Tryz.ntmps45
  go_wp2_with fail
  go_region_held3 (fun w' => w'.cell? ⟨w.heap.size, 0, none⟩ = some (.int .u64 t.row) ∧ w'.cell? ⟨w.heap.size, 1, none⟩ = some (.int .u64 t.xmin) ∧ w'.cell? ⟨w.heap.size, 2, none⟩ = some (.int .u64 t.xmax) ∧ w'.cell? ⟨w.heap.size, 3, none⟩ = some (.int .i64 t.pg) ∧ w'.cell? ⟨w.heap.size, 4, none⟩ = some (.int .i64 t.sl) ∧ w'.cell? ⟨w.heap.size, 5, none⟩ = some (.slice A t.data.length cap))
    (first | go_keep | exact box_cells H2.out.box | exact box_cells H1.out.box | fail)
    (first
      | (go_at_call 60; go_must (refine (pageT_new _).mono ?_; rintro e w1 ⟨rfl, hq1, hs1, hp1⟩; have H1 := Lib.hid (H0.out.drew.quietly hq1); have HQ1 := Lib.hid hq1; simp only [World.size_drew, World.size_alloc] at hp1; have HP1 := Lib.hid hp1; clear hq1 hp1 hs1))
      | (go_at_call 71; go_must (refine (HI.out _ _ _ H0.out HQ1.out HP1.out (by omega)).mono ?_; rintro e w2 ⟨rfl, h2⟩; have H2 := Lib.hid h2; clear h2))
      | fail)
  clear HI H0 HQ1 HP1 H1
  have HH2 := Lib.hid (HH.out.kept H2.out.only (fun _ _ x => x))
  have HPO2 := Lib.hid (HPO.out.kept H2.out.only (fun x => x))
  obtain ⟨b0, b1, b2, b3, b4, b5⟩ := box_cells H2.out.box
  have k0 := H2.out.only.cell c0 (fun x => x)
  have k1 := H2.out.only.cell c1 (fun x => x)
  have k2 := H2.out.only.cell c2 (fun x => x)
  clear c0 c1 c2
  go_wp2_with fail
  go_quiet ((go_at_call 72; exact quiet_left (room_find rb _ _ _ (HH2.out.room.drewN _))))
  rw [HFR.out]
  go_wp2_with fail
  refine (pool_left pb _ _ (by exact HPO2.out)).mono ?_
  rintro e w3 ⟨rfl, rfl⟩
  have hpc := HPO2.out.cell
  have hpf := frozen_of HPO2.out 0
  go_upto_region 12 with fail
  have HO3 : Hid (Only (· = pb) w2 ((w2.drewN nq).setCell ⟨pb, 0, none⟩ (.int .i64 (left : Int)))) := ((Only.refl (· = pb) w2).drewN nq).setCell (p := ⟨pb, 0, none⟩) (fun _ => rfl) _
  have HH3 := Lib.hid (HH2.out.kept HO3.out (fun k hk e => hk.2.2 e))
  have H3 := Lib.hid ((H2.out.mono (G' := fun k => k = pb) (fun _ x => x.elim)).on HO3.out (fun _ _ e => e) (fun k h1 h2 e => by have := HPO.out.lt; omega))
  have HPO3 : Hid (PoolAt ((w2.drewN nq).setCell ⟨pb, 0, none⟩ (.int .i64 (left : Int))) pb left) := PoolAt.set (w := w2.drewN nq) HPO2.out rfl
  clear HPO2 HH2 H2 HO3 HFR b0 b1 b2 b3 b4 b5 k0 k1 k2 hpc hpf
  generalize (w2.drewN nq).setCell ⟨pb, 0, none⟩ (.int .i64 (left : Int)) = w3 at HH3 H3 HPO3 ⊢
  have k1 : w3.cell? ⟨hb, 1, none⟩ = some (.slice B H.length c) := by rw [← HV.out]; exact HH3.out.cells.2.1
  go_cut [] (fun wx => ∃ q v', w3.heap.size ≤ q ∧ HeapAt wx hb pb (fun k => (F k ∧ k < w.heap.size ∧ k ≠ pb) ∨ w3.heap.size ≤ k) (H ++ [[]]) (H.map roomT) v' (ps ++ [q]) rb ∧ Only (fun k => F k ∧ k < w.heap.size ∧ k ≠ pb) w3 wx)
  case first =>
    have HROW : Hid (w3.ownsRow 0 144 1 (.slice B H.length c) H.length (ps.map ptrV)) := by rw [← HV.out]; exact HH3.out.row
    have HNB : Hid (∀ k, (Value.slice B H.length c).ownBlock = some k → k ≠ hb) := by rw [← HV.out]; exact HH3.out.apart.vh
    go_region_law (first
      | (go_simp; go_at_call 60; refine (pageT_new _).mono ?_; rintro e w4 ⟨rfl, hq4, hs4, hp4⟩; have k4 : w4.cell? ⟨hb, 1, none⟩ = some (.slice B H.length c) := hq4.cell (by exact k1) (fun x => x); have hl4 : hb < w4.heap.size := cell_lt k4; have hn4 : ¬ hb = w4.heap.size := by omega)
      | (refine app_step elem_page rfl (.tmp 63) (.tmp 65) rfl rfl (owns_kept (owns_kept (by exact HROW.out) hq4 (fun _ _ x => x)) ((Only.refl (fun _ => False) w4).alloc _) (fun _ _ x => x)) rfl (Rd.one w4 (ptrV w3.heap.size) 144 (0, 0) (S := fun _ => True) trivial) (one_ptr [w3.heap.size]) (by unfold maxLen; omega) (by omega) ?_; intro v5 w5 hg5; have hb5 := hg5.only.get (alloc_old (hq4.get (by exact HH3.out.box) (fun x => x)) _) (fun e => HNB.out hb e rfl); obtain ⟨A5, c5, hv5, _, _, _⟩ := own_form hg5.own; subst hv5; have s1 := cell_of hb5 1; have s2 := fun o => frozen_of hb5 o; simp only [List.getElem?_toArray, List.getElem?_cons_succ, List.getElem?_cons_zero] at s1)
      | fail)
    all_goals
      go_wp2_with fail
      go_meet
      have hq : Quiet w3 w4 := ((Only.refl _ _).drew).trans hq4
      have hgr := HH3.out.grow hq hp4 (Nat.le_refl _) (by rw [HV.out]; exact hg5)
      exact ⟨_, _, Nat.le_refl _, hgr.1, hgr.2⟩
  case rest =>
    obtain ⟨q, v', hq3, hh4, ho4⟩ := hcut
    have hpl : ps.length = H.length := HH.out.plen
    have hw3 := H3.out.lt
    have HHP : Hid ((ps ++ [q])[H.length]? = some q) := by show (ps ++ [q])[H.length]? = some q; rw [← hpl]; simp
    have H4 : Hid (InsW (fun k => F k ∨ k = pb) w wc t A cap) := (H3.out.mono (fun _ x => Or.inr x)).on ho4 (fun _ _ x => Or.inl x.1) (fun k h1 h2 x => by have := x.2.1; omega)
    have HPO4 : Hid (PoolAt wc pb left) := HPO3.out.kept ho4 (fun x => x.2.2 rfl)
    have HD4 : Hid (Rd wc S 1 A t.data.length (bytesV t.data)) := HD.out.kept H4.out.only (fun k hk x => by rcases x with x | x; exact (HS.out k hk).1 x; exact (HS.out k hk).2 x)
    obtain ⟨B4, c4, hv4, hc4, hm4, hr4⟩ := hh4.rowForm
    obtain ⟨g, rfl, hg⟩ := hr4 H.length q HHP.out
    obtain ⟨T', hT', hpt⟩ := hh4.page HHP.out
    have hT0 : T' = [] := by simp at hT'; exact hT'
    subst hT0
    have hk1 := hh4.cells.2.1
    rw [hv4] at hk1
    obtain ⟨b0, b1, b2, b3, b4, b5⟩ := box_cells H4.out.box
    have HIN := Lib.hid (fun n => pageT_insert q [] t A cap S (wc.drewN n) (by exact hpt) HBY.out (HD4.out.kept ((Only.refl (fun _ => False) wc).drewN n) (fun _ _ x => x)))
    rw [ins_new t HT.out] at HIN
    unfold tupV at HIN
    rw [List.length_append, List.length_singleton] at hv4 hk1 hc4
    have HH4 := Lib.hid hh4
    have HV4 := Lib.hid hv4
    have HNE : Hid ((¬ hb = q) ∧ (¬ g = q) ∧ (¬ w.heap.size = q) ∧ (¬ w.heap.size + 1 = q) ∧ ¬ pb = q) := by
      have ha := hh4.apart
      have hm : q ∈ ps ++ [q] := by simp
      obtain ⟨d, hd⟩ := hh4.pblk hm
      refine ⟨fun e => ha.ph q hm e.symm, fun e => ha.vp g (by rw [hv4]; rfl) q hm e, ne_type H4.out.box hd (by decide), ne_type H4.out.tid hd (by decide), ne_type HPO4.out hd (by decide)⟩
    have d0 : decide ((H.length : Int) < 0) = false := by simp
    have d1 : decide ((H.length : Int) + 1 ≤ H.length) = false := decide_eq_false (by omega)
    have d2 : ¬ (H.length : Int) + 1 ≤ H.length := by omega
    have d3 : (H.length : Int) < H.length + 1 := by omega
    unfold maxLen at hm4
    clear hh4 ho4 hr4 hT' hpt hv4 HD4 HD HS HBY H3 HH3 HPO3 k1
    go_wp2_with fail
    go_region_held3 (fun w' => w'.cell? ⟨hb, 1, none⟩ = some (.slice (some ⟨g, 0, none⟩) (H.length + 1) c4) ∧ w'.cell? ⟨g, H.length, none⟩ = some (ptrV q) ∧ w'.cell? ⟨w.heap.size, 0, none⟩ = some (.int .u64 t.row) ∧ w'.cell? ⟨w.heap.size, 1, none⟩ = some (.int .u64 t.xmin) ∧ w'.cell? ⟨w.heap.size, 2, none⟩ = some (.int .u64 t.xmax) ∧ w'.cell? ⟨w.heap.size, 3, none⟩ = some (.int .i64 t.pg) ∧ w'.cell? ⟨w.heap.size, 4, none⟩ = some (.int .i64 t.sl) ∧ w'.cell? ⟨w.heap.size, 5, none⟩ = some (.slice A t.data.length cap))
      (first | go_keep | exact ⟨ho5.cell (by exact hk1) HNE.out.1, ho5.cell (by exact hg) HNE.out.2.1, box_cells (ho5.get (by exact H4.out.box) HNE.out.2.2.1)⟩ | fail)
      (first
        | (go_at_call 71; go_must (refine (HIN.out 1).mono ?_; rintro e w5 ⟨rfl, ho5, hp5⟩))
        | fail)
    have hh5 := (HH4.out.drewN 1).turn HHP.out ho5 hp5
    rw [show (H ++ [([] : List (Option Tup))]).set H.length [some t] = H ++ [[some t]] by simp] at hh5
    have HH5 := Lib.hid hh5
    have hw4 : w.heap.size ≤ wc.heap.size := H4.out.only.size
    have hql : w.heap.size ≤ q := by omega
    have H5 := Lib.hid ((H4.out.drewN 1).on ho5 (fun k h1 e => by omega) (fun k h1 h2 e => by have := HNE.out; omega))
    have HPO5 : Hid (PoolAt w5 pb left) := PoolAt.kept (w := wc.drewN 1) HPO4.out ho5 HNE.out.2.2.2.2
    clear ho5 hp5 hh5 HH4 H4 HIN HPO4 hk1 hg b0 b1 b2 b3 b4 b5
    go_wp2_with fail
    refine (heap_told H.length q [some t] HH5.out HHP.out (by simp) (by simp) (by omega)).mono ?_
    rintro e w6 ⟨rfl, ho6, hh6⟩
    rw [show setL (H.map roomT) H.length (roomT [some t]) = (H ++ [[some t]]).map roomT by unfold setL; rw [if_pos (by simp)]; simp] at hh6
    have HH6 := Lib.hid hh6
    have hrl := HH.out.room.lt
    have H6 := Lib.hid (H5.out.on ho6 (fun k _ e => by subst e; exact Or.inl HH.out.foot.2.1.1) (fun k h1 h2 e => by omega))
    have HPO6 : Hid (PoolAt w6 pb left) := HPO5.out.kept ho6 (fun e => (HH.out.pool HPO.out).2.1 e)
    clear ho6 hh6 HH5 H5 HPO5
    obtain ⟨t0, t1, tf⟩ := H6.out.cells
    go_wp2_with fail
    exact bodyPost_ret (results_cell_tmp Tryz.results45 _ _ (w.heap.size + 1) _ _ (0, 0) _ (by rfl) (two_set H6.out.tid _ _) Tryz.underlying42 rfl info_tid) (by rfl) ⟨rfl, H6.out.end_ _ _, HPO6.out.kept (two_only _ _ _ _) (by have := HPO.out.lt; omega), _, _, _, (HH6.out.kept (two_only _ _ _ _) (fun k hk e => by rcases hk with x | x; have := x.2.1; omega; omega)).mono (fun k x => by rcases x with x | x; exact Or.inl x.1; exact Or.inr (by omega))⟩

end Go.Proofs.YtdeekopdhgjanaaGreatDoor

namespace Go.Lap

/-- What lies at a place. -/
def hGet (H : List (List (Option Tup))) (pg sl : Int) : Option Tup := if pg < 0 then none else tupAt (H.getD pg.toNat []) sl

/-- What Free tells, and the pages behind it. -/
def hFree (H : List (List (Option Tup))) (pg sl : Int) : Int × List (List (Option Tup)) :=
  match hGet H pg sl with
  | none => (15, H)
  | some _ => (0, H.set pg.toNat (trimT ((H.getD pg.toNat []).set sl.toNat none)))

/-- What Stamp tells, and the pages behind it. -/
def hStamp (H : List (List (Option Tup))) (pg sl : Int) (xmax : Nat) (npg nsl : Int) : Int × List (List (Option Tup)) :=
  if pg < 0 ∨ (H.length : Int) ≤ pg then ((pStampT [] sl xmax npg nsl).1, H) else ((pStampT (H.getD pg.toNat []) sl xmax npg nsl).1, H.set pg.toNat (pStampT (H.getD pg.toNat []) sl xmax npg nsl).2)

theorem tupAt_nil (i : Int) : tupAt [] i = none := by
  unfold tupAt
  split <;> rfl

theorem hGet_out {H : List (List (Option Tup))} {pg sl : Int} (h : pg < 0 ∨ (H.length : Int) ≤ pg) : hGet H pg sl = none := by
  unfold hGet
  split
  · rfl
  · rw [List.getD_eq_getElem?_getD, List.getElem?_eq_none (by omega)]
    exact tupAt_nil sl

theorem hGet_in {H : List (List (Option Tup))} {k : Nat} {T : List (Option Tup)} (sl : Int) (h : H[k]? = some T) : hGet H (k : Int) sl = tupAt T sl := by
  unfold hGet
  rw [if_neg (by omega), Int.toNat_natCast, List.getD_eq_getElem?_getD, h]
  rfl

theorem getD_of {H : List (List (Option Tup))} {k : Nat} {T : List (Option Tup)} (h : H[k]? = some T) : H.getD k [] = T := by
  rw [List.getD_eq_getElem?_getD, h]; rfl

theorem set_same_len (T : List (Option Tup)) (i : Nat) (t u : Tup) (h : T[i]? = some (some t)) : freeT (T.set i (some u)) = freeT T := by
  have e : (T.set i (some u)).map (fun s => s.isNone) = T.map (fun s => s.isNone) := by
    rw [List.map_set]
    apply List.ext_getElem?
    intro j
    rw [List.getElem?_set]
    by_cases x : i = j
    · subst x
      have hl : i < T.length := (List.getElem?_eq_some_iff.1 h).1
      rw [if_pos rfl, if_pos (by simpa using hl), List.getElem?_map, h]
      rfl
    · rw [if_neg x]
  have f : ∀ L : List (Option Tup), freeT L = ((L.map (fun s => s.isNone)).findIdx? (fun b => b)).getD L.length := by
    intro L
    unfold freeT
    rw [List.findIdx?_map]
    rfl
  rw [f, f T, e, List.length_set]

theorem sum_set_same {α : Type} (f : α → Nat) (T : List α) (i : Nat) (a b : α) (h : T[i]? = some a) (hf : f b = f a) : ((T.set i b).map f).sum = (T.map f).sum := by
  have e : (T.set i b).map f = T.map f := by
    rw [List.map_set]
    apply List.ext_getElem?
    intro j
    rw [List.getElem?_set]
    by_cases x : i = j
    · subst x
      have hl : i < T.length := (List.getElem?_eq_some_iff.1 h).1
      rw [if_pos rfl, if_pos (by simpa using hl), List.getElem?_map, h, Option.map_some, hf]
    · rw [if_neg x]
  rw [e]

theorem tupAt_some {T : List (Option Tup)} {i : Int} {t : Tup} (h : tupAt T i = some t) : 0 ≤ i ∧ T[i.toNat]? = some (some t) := by
  unfold tupAt at h
  split at h
  · cases h
  · refine ⟨by omega, ?_⟩
    rcases hx : T[i.toNat]? with _ | s
    · rw [hx] at h; cases h
    · rw [hx] at h
      have : s = some t := h
      rw [this]

theorem pStamp_room (T : List (Option Tup)) (i : Int) (x : Nat) (pg sl : Int) : roomT (pStampT T i x pg sl).2 = roomT T := by
  unfold pStampT
  split
  · rfl
  · rcases h : tupAt T i with _ | t
    · rfl
    · obtain ⟨h0, h1⟩ := tupAt_some h
      show roomT (T.set i.toNat (some (t.stamp x pg sl))) = roomT T
      unfold roomT spentT
      rw [set_same_len T _ t _ h1, List.length_set, sum_set_same (fun s => 4 + sizeT s) T _ (some t) (some (t.stamp x pg sl)) h1 rfl]

end Go.Lap
namespace Go.Proofs.YtdeekopdhgjanaaGreatDoor
open Go.RowKit Go.Lap

section
variable {w : World} {hb pb : Nat} {F : Nat → Prop} {H : List (List (Option Tup))}

theorem HeapIs.lim2 {n q : Nat} (h : HeapIs w hb pb F H) (hq : PoolAt w q n) : HeapIs w hb pb (fun k => F k ∧ k < w.heap.size ∧ k ≠ q) H := by
  obtain ⟨v, ps, rb, h⟩ := h
  exact ⟨v, ps, rb, h.lim2 hq⟩

theorem heap_insert (left : Nat) (t : Tup) (A : Option Addr) (cap : Nat) (S : Nat → Prop) (h : HeapIs w hb pb F H) (hpo : PoolAt w pb left) (hle : H.length + left ≤ 256)
    (hby : ∀ x ∈ t.data, x < 256) (hd : Rd w S 1 A t.data.length (bytesV t.data)) (hS : ∀ k, S k → ¬ F k ∧ k ≠ pb) :
    Calls Tryz.prog 45 #[.pointer (some ⟨hb, 0, none⟩), tupV t A cap] w fun e w' => e = .returned (.tuple #[.agg #[.int .i64 (hIns H left t).1.1, .int .i64 (hIns H left t).1.2.1], .int .i64 (hIns H left t).1.2.2]) ∧ Only (fun k => F k ∨ k = pb) w w' ∧ PoolAt w' pb (hIns H left t).2.2 ∧ HeapIs w' hb pb (fun k => F k ∨ w.heap.size ≤ k) (hIns H left t).2.1 := by
  rcases ht : t.rightB with _ | _
  · have e : hIns H left t = ((0, 0, 3), H, left) := by unfold hIns; rw [if_pos ht]
    rw [e]
    refine (heap_insert_form hb t A cap S w ht hby hd).mono ?_
    rintro e w' ⟨rfl, hq⟩
    exact ⟨rfl, hq.mono (fun _ _ x => x.elim), hpo.kept hq (fun x => x), (h.kept hq (fun _ _ x => x)).mono (fun _ x => Or.inl x)⟩
  · rcases hf : findH H t.data.length with _ | i
    · rcases left with _ | left
      · have e : hIns H 0 t = ((0, 0, 12), H, 0) := by unfold hIns; rw [if_neg (by simp [ht]), hf]; rfl
        rw [e]
        refine (heap_insert_full hb pb F H t A cap S w h hpo ht hf hby hd).mono ?_
        rintro e w' ⟨rfl, hq⟩
        exact ⟨rfl, hq.mono (fun _ _ x => x.elim), hpo.kept hq (fun x => x), (h.kept hq (fun _ _ x => x)).mono (fun _ x => Or.inl x)⟩
      · have e : hIns H (left + 1) t = (((H.length : Int), 0, 0), H ++ [[some t]], left) := by unfold hIns; rw [if_neg (by simp [ht]), hf]; rfl
        rw [e]
        exact heap_insert_grow hb pb left F H t A cap S w h hpo ht hf hle hby hd hS
    · obtain ⟨T, hT, _⟩ := findH_some hf
      have e : hIns H left t = (((i : Int), (freeT T : Int), 0), H.set i (insT T t), left) := by
        unfold hIns
        rw [if_neg (by simp [ht]), hf]
        show (((i : Int), (freeT (H.getD i []) : Int), (0 : Int)), H.set i (insT (H.getD i []) t), left) = _
        rw [getD_of hT]
      rw [e]
      refine (heap_insert_found hb pb _ H T i t A cap S w (h.lim2 hpo) ht hf hT hby hd).mono ?_
      rintro e w' ⟨rfl, ho, hh⟩
      exact ⟨rfl, ho.mono (fun _ _ x => Or.inl x.1), hpo.kept ho (fun x => x.2.2 rfl), hh.mono (fun _ x => Or.inl x.1)⟩

set_option maxHeartbeats 400000 in
set_option maxRecDepth 100000 in
theorem heap_insert_nil (t : Tup) (A : Option Addr) (cap : Nat) (w : World) :
    Calls Tryz.prog 45 #[.pointer none, tupV t A cap] w fun e w' => e = .returned (.tuple #[.agg #[.int .i64 0, .int .i64 0], .int .i64 15]) ∧ Quiet w w' := by
  have H0 := Lib.hid (InsW.start w t A cap)
  obtain ⟨t0, t1, tf⟩ := H0.out.cells
  unfold tupV
  go_enter Tryz.func45, Tryz.ntmps45
  go_wp2_with fail
  exact bodyPost_ret (results_cell_tmp Tryz.results45 _ _ (w.heap.size + 1) _ _ (0, 0) _ (by rfl) H0.out.tid Tryz.underlying42 rfl info_tid) (by rfl) ⟨rfl, H0.out.only⟩

/-- A place in its box. -/
theorem tid_box (w : World) (pg sl : Int) : ((w.alloc (.cells #[.int .i64 pg, .int .i64 sl] 42)).cell? ⟨w.heap.size, 0, none⟩ = some (.int .i64 pg) ∧ (w.alloc (.cells #[.int .i64 pg, .int .i64 sl] 42)).cell? ⟨w.heap.size, 1, none⟩ = some (.int .i64 sl)) := by
  have := alloc_new w (.cells #[.int .i64 pg, .int .i64 sl] 42)
  exact ⟨by rw [cell_of this]; rfl, by rw [cell_of this]; rfl⟩

theorem tid_on {S : Nat → Prop} {W W' : World} {b : Nat} {pg sl : Int} (h : W.heap[b]? = some (.cells #[.int .i64 pg, .int .i64 sl] 42 (0, 0))) (ho : Only S W W') (hn : ¬ S b) : W'.cell? ⟨b, 0, none⟩ = some (.int .i64 pg) ∧ W'.cell? ⟨b, 1, none⟩ = some (.int .i64 sl) := by
  have := ho.get h hn
  exact ⟨by rw [cell_of this]; rfl, by rw [cell_of this]; rfl⟩

end

end Go.Proofs.YtdeekopdhgjanaaGreatDoor

namespace Go.Lap

theorem freeT_all (n : Nat) (t : Tup) : freeT (List.replicate n (some t)) = n := by
  have : (List.replicate n (some t)).findIdx? (fun s => s.isNone) = none := by
    rw [List.findIdx?_eq_none_iff]
    intro x hx
    rw [List.eq_of_mem_replicate hx]; rfl
  unfold freeT
  rw [this]; simp

theorem freeT_hole (s : Nat) (t : Tup) (r : List (Option Tup)) : freeT (List.replicate s (some t) ++ none :: r) = s := by
  have : (List.replicate s (some t) ++ none :: r).findIdx? (fun s => s.isNone) = some s := by
    rw [List.findIdx?_eq_some_iff_getElem]
    refine ⟨by simp, by simp, fun j hj => ?_⟩
    rw [List.getElem_append_left (by simpa using hj)]
    simp
  unfold freeT
  rw [this]; rfl

theorem sizes_all (n : Nat) (t : Tup) : ((List.replicate n (some t)).map sizeT).sum = n * t.size := by
  rw [List.map_replicate, List.sum_replicate_nat]; rfl

theorem set_split (n s : Nat) (t : Tup) (y : Option Tup) (hs : s < n) : (List.replicate n (some t)).set s y = List.replicate s (some t) ++ y :: List.replicate (n - s - 1) (some t) := by
  apply List.ext_getElem?
  intro i
  rw [List.getElem?_set, List.length_replicate]
  by_cases h1 : i = s
  · subst h1; simp [hs]
  · rw [if_neg (by omega)]
    by_cases h2 : i < s
    · rw [List.getElem?_append_left (by simpa using h2)]; simp [h2, show i < n by omega]
    · rw [List.getElem?_append_right (by simp; omega), List.length_replicate, show i - s = (i - s - 1) + 1 by omega, List.getElem?_cons_succ, List.getElem?_replicate, List.getElem?_replicate]
      by_cases h3 : i < n
      · rw [if_pos h3, if_pos (by omega)]
      · rw [if_neg h3, if_neg (by omega)]

theorem trimT_some (T : List (Option Tup)) (t : Tup) : trimT (T ++ [some t]) = T ++ [some t] := by simp [trimT]
theorem trimT_none (T : List (Option Tup)) : trimT (T ++ [none]) = trimT T := by simp [trimT]
theorem trimT_all (n : Nat) (t : Tup) : trimT (List.replicate n (some t)) = List.replicate n (some t) := by
  rcases n with _ | n
  · rfl
  · rw [List.replicate_succ', trimT_some]

/-- One of n is freed: the list, its hole. -/
theorem freed (n s : Nat) (t : Tup) (hs : s < n) : (s + 1 < n ∧ trimT ((List.replicate n (some t)).set s none) = List.replicate s (some t) ++ none :: List.replicate (n - s - 1) (some t)) ∨
    (s + 1 = n ∧ trimT ((List.replicate n (some t)).set s none) = List.replicate s (some t)) := by
  rw [set_split n s t none hs]
  by_cases h : s + 1 < n
  · refine Or.inl ⟨h, ?_⟩
    obtain ⟨m, hm⟩ : ∃ m, n - s - 1 = m + 1 := ⟨n - s - 2, by omega⟩
    rw [hm, List.replicate_succ', ← List.cons_append, ← List.append_assoc, trimT_some]
  · refine Or.inr ⟨by omega, ?_⟩
    rw [show n - s - 1 = 0 by omega, List.replicate_zero, trimT_none, trimT_all]

theorem ins_all (n : Nat) (t : Tup) (hr : t.rightB = true) (h : (n + 1) * (4 + t.size) ≤ 508) : pInsT (List.replicate n (some t)) t = ((n : Int), 0, List.replicate (n + 1) (some t)) := by
  have hts : t.size = 30 + t.data.length := rfl
  have hroom : ¬ roomT (List.replicate n (some t)) < t.data.length := by
    rw [room_iff, freeT_all, sizes_all, List.length_replicate]
    rw [Nat.add_mul, Nat.mul_add] at h
    omega
  unfold pInsT
  rw [if_neg (by simp [hr]), if_neg hroom, freeT_all]
  unfold insT
  rw [freeT_all, List.length_replicate, if_pos rfl, List.replicate_succ']

theorem ins_full (n : Nat) (t : Tup) (hr : t.rightB = true) (h : 508 < (n + 1) * (4 + t.size)) : pInsT (List.replicate n (some t)) t = (0, 12, List.replicate n (some t)) := by
  have hts : t.size = 30 + t.data.length := rfl
  have hroom : roomT (List.replicate n (some t)) < t.data.length := by
    apply Decidable.byContradiction
    intro hc
    rw [room_iff, freeT_all, sizes_all, List.length_replicate] at hc
    rw [Nat.add_mul, Nat.mul_add] at h
    omega
  unfold pInsT
  rw [if_neg (by simp [hr]), if_pos hroom]

theorem ins_hole (n s : Nat) (t : Tup) (hr : t.rightB = true) (hs : s < n) (h : n * (4 + t.size) ≤ 508) : pInsT (trimT ((List.replicate n (some t)).set s none)) t = ((s : Int), 0, List.replicate n (some t)) := by
  have hts : t.size = 30 + t.data.length := rfl
  rcases freed n s t hs with ⟨h1, e⟩ | ⟨h1, e⟩
  · rw [e]
    have hlen : (List.replicate s (some t) ++ none :: List.replicate (n - s - 1) (some t)).length = n := by simp; omega
    have hroom : ¬ roomT (List.replicate s (some t) ++ none :: List.replicate (n - s - 1) (some t)) < t.data.length := by
      rw [room_iff, freeT_hole, hlen, List.map_append, List.map_cons, List.sum_append, List.sum_cons, sizes_all, sizes_all]
      have e0 : sizeT none = 0 := rfl
      rw [e0]
      have e1 : s * t.size + (n - s - 1) * t.size = (n - 1) * t.size := by rw [← Nat.add_mul]; congr 1; omega
      have e2 : n * t.size = (n - 1) * t.size + t.size := by
        conv => lhs; rw [show n = (n - 1) + 1 by omega, Nat.add_mul, Nat.one_mul]
      rw [Nat.mul_add] at h
      omega
    unfold pInsT
    rw [if_neg (by simp [hr]), if_neg hroom, freeT_hole]
    unfold insT
    rw [freeT_hole, hlen, if_neg (by omega)]
    congr 2
    rw [← set_split n s t none hs, List.set_set]
    apply List.ext_getElem?
    intro i
    rw [List.getElem?_set, List.length_replicate, List.getElem?_replicate]
    by_cases hi : s = i
    · subst hi; simp [hs]
    · simp [hi]
  · rw [e]
    have := ins_all s t hr (by rw [h1]; exact h)
    rw [this, h1]

theorem used_all (n : Nat) (t : Tup) : usedT (List.replicate n (some t)) = n := by simp [usedT]

/-- The law's version. -/
def tup0 (k : Nat) : Tup := { row := 1, xmin := 1, xmax := 0, pg := -1, sl := -1, data := List.replicate k 0 }

theorem tup0_size (k : Nat) : 4 + (tup0 k).size = 34 + k := by simp [Tup.size, tup0]; omega
theorem tup0_right (k : Nat) (h : k ≤ 200) : (tup0 k).rightB = true := by
  unfold Tup.rightB
  refine decide_eq_true ⟨by show 1 ≤ _; omega, by show 1 ≤ _; omega, by show 0 ≤ _; omega, ?_, by simp [tup0]; exact h⟩
  show farB (-1) (-1) = false
  decide
theorem tup0_bytes (k : Nat) : ∀ x ∈ (tup0 k).data, x < 256 := by
  intro x hx
  rw [List.eq_of_mem_replicate (show x ∈ List.replicate k 0 from hx)]
  omega

/-- How many there are: the division. -/
theorem fill_count {n k : Nat} (h1 : n * (34 + k) ≤ 508) (h2 : 508 < (n + 1) * (34 + k)) : (508 : Int) / (34 + (k : Int)) = n := by
  have e : 508 / (34 + k) = n := by
    apply Nat.div_eq_of_lt_le
    · exact h1
    · exact h2
  have : ((508 / (34 + k) : Nat) : Int) = n := by rw [e]
  rw [Int.natCast_ediv] at this
  simpa using this

end Go.Lap

namespace Go.Lap
theorem hIns_sum (H : List (List (Option Tup))) (left : Nat) (t : Tup) : (hIns H left t).2.1.length + (hIns H left t).2.2 = H.length + left := by
  unfold hIns
  split
  · rfl
  · split
    · simp
    · split
      · rfl
      · simp; omega

theorem hFree_length (H : List (List (Option Tup))) (pg sl : Int) : (hFree H pg sl).2.length = H.length := by
  unfold hFree
  split
  · rfl
  · simp
end Go.Lap
namespace Go.Proofs.YtdeekopdhgjanaaGreatDoor
open Go.RowKit Go.Lap

theorem tup0_vH (k : Nat) (A : Option Addr) (cap : Nat) : tupV (tup0 k) A cap = .agg #[.int .u64 1, .int .u64 1, .int .u64 0, .int .i64 (-1), .int .i64 (-1), .slice A k cap] := by
  unfold tupV
  rw [show (tup0 k).data.length = k by simp [tup0]]
  rfl

theorem tup0_rdH {w : World} {db k : Nat} (h : Bk w db k 5 (fun _ => 0)) : Rd w (· = db) 1 (some ⟨db, 0, none⟩) (tup0 k).data.length (bytesV (tup0 k).data) := by
  refine ⟨by simp [bytesV], fun _ => ⟨db, 0, rfl, rfl, fun j u hu => ?_⟩⟩
  unfold bytesV tup0 at hu
  rw [List.getElem?_map, List.getElem?_replicate] at hu
  split at hu
  · rename_i hj
    rw [Nat.zero_add, h.cell hj]
    exact hu
  · cases hu

/-- What wide tells. -/
def WidePost (w : World) (e : Ending) (w' : World) : Prop :=
  ∃ db, e = .returned (.agg #[.int .u64 1, .int .u64 1, .int .u64 0, .int .i64 (-1), .int .i64 (-1), .slice (some ⟨db, 0, none⟩) 200 200]) ∧ Quiet w w' ∧ Bk w' db 200 5 (fun _ => 0) ∧ w.heap.size ≤ db

/-- A heap of one pool in a law's world; the blocks of K are the law's own. -/
structure LawW (w W : World) (K : Nat → Prop) (hb pb : Nat) (H : List (List (Option Tup))) (left : Nat) : Prop where
  quiet : Quiet w W
  ex : ∃ F, HeapIs W hb pb F H ∧ (∀ k, F k → w.heap.size ≤ k ∧ k < W.heap.size ∧ ¬ K k)
  pool : PoolAt W pb left
  pbn : w.heap.size ≤ pb ∧ ¬ K pb
  sum : H.length + left ≤ 256
  kl : ∀ k, K k → k < W.heap.size

section
variable {w W W' : World} {K K' : Nat → Prop} {hb pb : Nat} {H : List (List (Option Tup))} {left : Nat}

theorem LawW.fresh (h : LawW w W K hb pb H left) (hq : Quiet W W') (hk : ∀ k, K' k → (K k ∨ W.heap.size ≤ k) ∧ k < W'.heap.size) : LawW w W' K' hb pb H left := by
  obtain ⟨F, hf, hF⟩ := h.ex
  have hs := hq.size
  have hp := h.pool.lt
  refine ⟨h.quiet.trans hq, ⟨F, hf.kept hq (fun _ _ x => x), fun k x => ?_⟩, h.pool.kept hq (fun x => x), ⟨h.pbn.1, fun x => ?_⟩, h.sum, fun k x => (hk k x).2⟩
  · obtain ⟨a, b, c⟩ := hF k x
    refine ⟨a, by omega, fun y => ?_⟩
    rcases (hk k y).1 with z | z
    · exact c z
    · omega
  · rcases (hk _ x).1 with z | z
    · exact h.pbn.2 z
    · omega

theorem LawW.quietly (h : LawW w W K hb pb H left) (hq : Quiet W W') : LawW w W' K hb pb H left := h.fresh hq (fun k x => ⟨Or.inl x, by have := h.kl k x; have := hq.size; omega⟩)
theorem LawW.drew (h : LawW w W K hb pb H left) : LawW w W.drew K hb pb H left := h.quietly ((Only.refl _ _).drew)
theorem LawW.drewN (h : LawW w W K hb pb H left) (n : Nat) : LawW w (W.drewN n) K hb pb H left := h.quietly ((Only.refl _ _).drewN n)

theorem LawW.start (h : Quiet w W) (hp : PoolAt W pb left) (hpb : w.heap.size ≤ pb) (hl : left ≤ 256) (hq : Quiet W W') (hh : HeapIs W' hb pb (fun k => W.heap.size ≤ k) []) (hK : ∀ k, K k → k < W.heap.size ∧ k ≠ pb) : LawW w W' K hb pb [] left := by
  have hs := h.size
  have hs' := hq.size
  exact ⟨h.trans hq, ⟨_, hh.lim, fun k x => ⟨by omega, x.2, fun y => by have := hK k y; omega⟩⟩, hp.kept hq (fun x => x), ⟨hpb, fun y => (hK _ y).2 rfl⟩, by simpa using hl, fun k x => by have := hK k x; omega⟩

/-- How a law's world turns: of what was there the blocks of K, and all that is elder than the law, are as they were. -/
abbrev Turn (w W W' : World) (K : Nat → Prop) : Prop := Only (fun k => ¬ K k ∧ w.heap.size ≤ k) W W'

theorem LawW.turn {F : Nat → Prop} {H' : List (List (Option Tup))} {left' : Nat} (h : LawW w W K hb pb H left) (hF : ∀ k, F k → w.heap.size ≤ k ∧ k < W.heap.size ∧ ¬ K k)
    (ho : Only (fun k => F k ∨ k = pb) W W') (hp : PoolAt W' pb left') (hh : HeapIs W' hb pb (fun k => F k ∨ W.heap.size ≤ k) H') (hs : H'.length + left' ≤ 256) : Turn w W W' K ∧ LawW w W' K hb pb H' left' := by
  have hz := ho.size
  have hqs := h.quiet.size
  refine ⟨ho.mono (fun k _ x => ?_), h.quiet.trans' ho (fun k hk x => ?_), ⟨_, hh.lim, fun k x => ?_⟩, hp, h.pbn, hs, fun k x => by have := h.kl k x; omega⟩
  · rcases x with x | x
    · exact ⟨(hF k x).2.2, (hF k x).1⟩
    · subst x; exact ⟨h.pbn.2, h.pbn.1⟩
  · rcases x with x | x
    · have := hF k x; omega
    · have := h.pbn.1; omega
  · obtain ⟨x, y⟩ := x
    rcases x with x | x
    · exact ⟨(hF k x).1, y, (hF k x).2.2⟩
    · exact ⟨by omega, y, fun z => by have := h.kl k z; omega⟩

theorem LawW.insert (t : Tup) (A : Option Addr) (cap : Nat) (S : Nat → Prop) (h : LawW w W K hb pb H left) (hby : ∀ x ∈ t.data, x < 256) (hd : Rd W S 1 A t.data.length (bytesV t.data)) (hS : ∀ k, S k → K k) :
    Calls Tryz.prog 45 #[.pointer (some ⟨hb, 0, none⟩), tupV t A cap] W fun e w' => e = .returned (.tuple #[.agg #[.int .i64 (hIns H left t).1.1, .int .i64 (hIns H left t).1.2.1], .int .i64 (hIns H left t).1.2.2]) ∧ Turn w W w' K ∧ LawW w w' K hb pb (hIns H left t).2.1 (hIns H left t).2.2 := by
  obtain ⟨F, hf, hF⟩ := h.ex
  refine (heap_insert left t A cap S hf h.pool h.sum hby hd (fun k hk => ⟨fun x => (hF k x).2.2 (hS k hk), fun e => h.pbn.2 (by rw [← e]; exact hS k hk)⟩)).mono ?_
  rintro e w' ⟨rfl, ho, hp, hh⟩
  exact ⟨rfl, h.turn hF ho hp hh (by have := hIns_sum H left t; have := h.sum; omega)⟩

theorem LawW.pages (h : LawW w W K hb pb H left) :
    Calls Tryz.prog 56 #[.pointer (some ⟨hb, 0, none⟩)] W fun e w' => e = .returned (.int .i64 (H.length : Int)) ∧ W = w' := by
  obtain ⟨F, hf, hF⟩ := h.ex
  exact heap_pages hf

theorem LawW.poolLeft (h : LawW w W K hb pb H left) :
    Calls Tryz.prog 73 #[.pointer (some ⟨pb, 0, none⟩)] W fun e w' => e = .returned (.int .i64 (left : Int)) ∧ W = w' := pool_left pb left W h.pool

end

theorem wake7 : hIns [] 1 (tup0 200) = ((0, 0, 0), [[some (tup0 200)]], 0) ∧ hIns [[some (tup0 200)]] 0 (tup0 200) = ((0, 1, 0), [[some (tup0 200), some (tup0 200)]], 0) ∧ hIns [[some (tup0 200), some (tup0 200)]] 0 (tup0 200) = ((0, 0, 12), [[some (tup0 200), some (tup0 200)]], 0) ∧
    hFree [[some (tup0 200), some (tup0 200)]] 0 0 = (0, [[none, some (tup0 200)]]) ∧ hIns [[none, some (tup0 200)]] 0 (tup0 200) = ((0, 0, 0), [[some (tup0 200), some (tup0 200)]], 0) := by
  refine ⟨by kernel_rfl, by kernel_rfl, by kernel_rfl, by kernel_rfl, by kernel_rfl⟩

/-- Insert of a wide version, whose data lie in block db. -/
theorem LawW.wide {w W : World} {K : Nat → Prop} {hb pb : Nat} {H : List (List (Option Tup))} {left db k : Nat} (h : LawW w W K hb pb H left) (hd : Bk W db k 5 (fun _ => 0)) (hk : K db) {r : (Int × Int × Int) × List (List (Option Tup)) × Nat} (hr : hIns H left (tup0 k) = r) :
    Calls Tryz.prog 45 #[.pointer (some ⟨hb, 0, none⟩), .agg #[.int .u64 1, .int .u64 1, .int .u64 0, .int .i64 (-1), .int .i64 (-1), .slice (some ⟨db, 0, none⟩) k k]] W fun e w' => e = .returned (.tuple #[.agg #[.int .i64 r.1.1, .int .i64 r.1.2.1], .int .i64 r.1.2.2]) ∧ Turn w W w' K ∧ LawW w w' K hb pb r.2.1 r.2.2 := by
  have := h.insert (tup0 k) (some ⟨db, 0, none⟩) k _ (tup0_bytes k) (tup0_rdH hd) (fun j e => by rw [e]; exact hk)
  rw [tup0_vH, hr] at this
  exact this

theorem turn_quiet {w W W' : World} {K : Nat → Prop} (h : Quiet w W) (ho : Turn w W W' K) : Quiet w W' := h.trans' ho (fun k hk x => by have := x.2; omega)

end Go.Proofs.YtdeekopdhgjanaaGreatDoor

namespace Go.Lap

theorem tupAt_nat (T : List (Option Tup)) (n : Nat) : tupAt T (n : Int) = (T[n]?).join := by
  unfold tupAt
  rw [if_neg (by omega), Int.toNat_natCast]

theorem tupAt_neg (T : List (Option Tup)) {i : Int} (h : i < 0) : tupAt T i = none := by
  unfold tupAt
  rw [if_pos h]

theorem freeT_le (T : List (Option Tup)) : freeT T ≤ T.length := by
  unfold freeT
  rcases h : T.findIdx? (fun s => s.isNone) with _ | i
  · rw [h]; exact Nat.le_refl _
  · rw [h]
    rw [List.findIdx?_eq_some_iff_getElem] at h
    obtain ⟨hi, _⟩ := h
    exact Nat.le_of_lt hi

theorem freeT_least {T : List (Option Tup)} {i : Nat} (h : T[i]? = some none) : freeT T ≤ i := by
  unfold freeT
  rcases hf : T.findIdx? (fun s => s.isNone) with _ | j
  · rw [List.findIdx?_eq_none_iff] at hf
    have := hf none (List.mem_of_getElem? h)
    simp at this
  · rw [hf]
    rw [List.findIdx?_eq_some_iff_getElem] at hf
    obtain ⟨hj, _, h2⟩ := hf
    show j ≤ i
    rcases Nat.lt_or_ge i j with x | x
    · have hi : i < T.length := (List.getElem?_eq_some_iff.1 h).1
      have := h2 i x
      rw [List.getElem?_eq_getElem hi] at h
      injection h with h
      rw [h] at this
      simp at this
    · exact x

theorem freeT_none (T : List (Option Tup)) : (T[freeT T]?).join = none := by
  unfold freeT
  rcases h : T.findIdx? (fun s => s.isNone) with _ | i
  · rw [h]
    show (T[T.length]?).join = none
    rw [List.getElem?_eq_none (Nat.le_refl _)]
    rfl
  · rw [h]
    rw [List.findIdx?_eq_some_iff_getElem] at h
    obtain ⟨hi, h1, _⟩ := h
    show (T[i]?).join = none
    rw [List.getElem?_eq_getElem hi]
    have : T[i] = none := by simpa using h1
    rw [this]
    rfl

theorem tupAt_ins (T : List (Option Tup)) (t : Tup) (s : Int) : tupAt (insT T t) s = if s = freeT T then some t else tupAt T s := by
  have hf := freeT_le T
  rcases Int.lt_or_le s 0 with h | h
  · rw [tupAt_neg _ h, tupAt_neg _ h, if_neg (by omega)]
  · obtain ⟨n, rfl⟩ := Int.eq_ofNat_of_zero_le h
    rw [tupAt_nat, tupAt_nat]
    unfold insT
    by_cases e : freeT T = T.length
    · rw [if_pos e, e]
      by_cases x : n = T.length
      · subst x
        rw [if_pos rfl]
        simp
      · rw [if_neg (by omega)]
        rcases Nat.lt_or_ge n T.length with y | y
        · rw [List.getElem?_append_left y]
        · rw [List.getElem?_eq_none (by simp; omega), List.getElem?_eq_none y]
    · rw [if_neg e, List.getElem?_set]
      by_cases x : freeT T = n
      · rw [if_pos x, if_pos (by omega), if_pos (by omega)]
        rfl
      · rw [if_neg x, if_neg (by omega)]

theorem tupAt_set (T : List (Option Tup)) (i : Nat) (hi : i < T.length) (u : Option Tup) (s : Int) : tupAt (T.set i u) s = if s = i then u else tupAt T s := by
  rcases Int.lt_or_le s 0 with h | h
  · rw [tupAt_neg _ h, tupAt_neg _ h, if_neg (by omega)]
  · obtain ⟨n, rfl⟩ := Int.eq_ofNat_of_zero_le h
    rw [tupAt_nat, tupAt_nat, List.getElem?_set]
    by_cases x : i = n
    · rw [if_pos x, if_pos hi, if_pos (by omega)]
      rfl
    · rw [if_neg x, if_neg (by omega)]

theorem trim_spec (T : List (Option Tup)) : ∃ k, T = trimT T ++ List.replicate k none := by
  induction hn : T.length generalizing T with
  | zero =>
    have : T = [] := List.eq_nil_of_length_eq_zero hn
    subst this
    exact ⟨0, rfl⟩
  | succ n ih =>
    have hne : T ≠ [] := fun e => by subst e; simp at hn
    obtain ⟨M, s, rfl⟩ : ∃ M s, T = M ++ [s] := ⟨T.dropLast, T.getLast hne, (List.dropLast_concat_getLast hne).symm⟩
    have hM : M.length = n := by simpa using hn
    rcases s with _ | t
    · obtain ⟨k, hk⟩ := ih M hM
      refine ⟨k + 1, ?_⟩
      rw [trimT_none, List.replicate_succ', ← List.append_assoc, ← hk]
    · exact ⟨0, by rw [trimT_some]; simp⟩

theorem tupAt_trim (T : List (Option Tup)) (s : Int) : tupAt (trimT T) s = tupAt T s := by
  obtain ⟨k, hk⟩ := trim_spec T
  rcases Int.lt_or_le s 0 with h | h
  · rw [tupAt_neg _ h, tupAt_neg _ h]
  · obtain ⟨n, rfl⟩ := Int.eq_ofNat_of_zero_le h
    rw [tupAt_nat, tupAt_nat]
    conv => rhs; rw [hk]
    rcases Nat.lt_or_ge n (trimT T).length with x | x
    · rw [List.getElem?_append_left x]
    · rw [List.getElem?_eq_none x, List.getElem?_append_right x, List.getElem?_replicate]
      split <;> rfl

theorem used_append (A B : List (Option Tup)) : usedT (A ++ B) = usedT A + usedT B := by simp [usedT]
theorem used_none (k : Nat) : usedT (List.replicate k none) = 0 := by simp [usedT]

theorem used_trim (T : List (Option Tup)) : usedT (trimT T) = usedT T := by
  obtain ⟨k, hk⟩ := trim_spec T
  conv => rhs; rw [hk]
  rw [used_append, used_none, Nat.add_zero]

theorem used_as_sum (T : List (Option Tup)) : usedT T = (T.map (fun s => if s.isSome then 1 else 0)).sum := by
  induction T with
  | nil => rfl
  | cons s T ih =>
    rw [List.map_cons, List.sum_cons, ← ih]
    rcases s with _ | t
    · simp [usedT]
    · simp [usedT]; omega

theorem sum_set {α : Type} (f : α → Nat) (T : List α) (i : Nat) (a b : α) (h : T[i]? = some a) : ((T.set i b).map f).sum + f a = (T.map f).sum + f b := by
  induction T generalizing i with
  | nil => simp at h
  | cons x T ih =>
    rcases i with _ | i
    · simp at h
      subst h
      simp
      omega
    · rw [List.getElem?_cons_succ] at h
      have := ih i h
      simp only [List.set_cons_succ, List.map_cons, List.sum_cons]
      omega

theorem used_set {T : List (Option Tup)} {i : Nat} {s u : Option Tup} (h : T[i]? = some s) : usedT (T.set i u) + (if s.isSome then 1 else 0) = usedT T + (if u.isSome then 1 else 0) := by
  rw [used_as_sum, used_as_sum]
  exact sum_set _ T i s u h

theorem free_get {T : List (Option Tup)} (h : ¬ freeT T = T.length) : T[freeT T]? = some none := by
  have hl := freeT_le T
  have := freeT_none T
  rw [List.getElem?_eq_getElem (show freeT T < T.length by omega)] at this ⊢
  have h2 : T[freeT T] = none := this
  rw [h2]

theorem used_ins (T : List (Option Tup)) (t : Tup) : usedT (insT T t) = usedT T + 1 := by
  unfold insT
  by_cases e : freeT T = T.length
  · rw [if_pos e, used_append]; rfl
  · rw [if_neg e]
    have := used_set (u := some t) (free_get e)
    simpa using this

/-- A page's versions fit. -/
def Fits (T : List (Option Tup)) : Prop := 4 + 4 * T.length + (T.map sizeT).sum ≤ 512

theorem ins_length (T : List (Option Tup)) (t : Tup) : (insT T t).length = max T.length (freeT T + 1) := by
  have := freeT_le T
  unfold insT
  by_cases e : freeT T = T.length
  · rw [if_pos e]; simp; omega
  · rw [if_neg e]; simp; omega

theorem ins_sizes (T : List (Option Tup)) (t : Tup) : ((insT T t).map sizeT).sum = (T.map sizeT).sum + t.size := by
  unfold insT
  by_cases e : freeT T = T.length
  · rw [if_pos e]; simp [sizeT]
  · rw [if_neg e]
    have := sum_set sizeT T _ _ (some t) (free_get e)
    simpa [sizeT] using this

theorem Fits.ins {T : List (Option Tup)} {t : Tup} (hr : (t.data.length : Int) ≤ roomT T) : Fits (insT T t) := by
  have := (room_iff T t.data.length).1 (by omega)
  unfold Fits
  rw [ins_length, ins_sizes]
  have : t.size = 30 + t.data.length := rfl
  omega

theorem trim_sizes (T : List (Option Tup)) : ((trimT T).map sizeT).sum = (T.map sizeT).sum := by
  obtain ⟨k, hk⟩ := trim_spec T
  conv => rhs; rw [hk]
  simp [sizeT]

theorem trim_length (T : List (Option Tup)) : (trimT T).length ≤ T.length := by
  obtain ⟨k, hk⟩ := trim_spec T
  have := congrArg List.length hk
  simp at this
  omega

theorem free_sizes {T : List (Option Tup)} {i : Nat} {t : Tup} (h : T[i]? = some (some t)) : ((trimT (T.set i none)).map sizeT).sum + t.size = (T.map sizeT).sum := by
  rw [trim_sizes]
  have := sum_set sizeT T i _ none h
  simpa [sizeT] using this

theorem free_len (T : List (Option Tup)) (i : Nat) (hi : i < T.length) : max (trimT (T.set i none)).length (freeT (trimT (T.set i none)) + 1) ≤ T.length := by
  have h1 := trim_length (T.set i none)
  rw [List.length_set] at h1
  have h2 := freeT_le (trimT (T.set i none))
  rcases Nat.lt_or_ge i (trimT (T.set i none)).length with x | x
  · have : (trimT (T.set i none))[i]? = some none := by
      have h3 := tupAt_trim (T.set i none) i
      rw [tupAt_set T i hi, if_pos rfl, tupAt_nat] at h3
      rw [List.getElem?_eq_getElem x] at h3 ⊢
      have h4 : (trimT (T.set i none))[i] = none := h3
      rw [h4]
    have := freeT_least this
    omega
  · omega

theorem Fits.free {T : List (Option Tup)} {i : Nat} {t : Tup} (hf : Fits T) (h : T[i]? = some (some t)) : Fits (trimT (T.set i none)) ∧ (t.data.length : Int) ≤ roomT (trimT (T.set i none)) := by
  have hi : i < T.length := (List.getElem?_eq_some_iff.1 h).1
  have h1 := free_sizes h
  have h2 := free_len T i hi
  have h3 : t.size = 30 + t.data.length := rfl
  unfold Fits at hf ⊢
  refine ⟨by omega, ?_⟩
  have := (room_iff (trimT (T.set i none)) t.data.length).2 (by omega)
  omega

/-- Heaps. -/
theorem hGet_nat (H : List (List (Option Tup))) (n : Nat) (s : Int) : hGet H (n : Int) s = tupAt (H.getD n []) s := by
  unfold hGet
  rw [if_neg (by omega), Int.toNat_natCast]

theorem hGet_set (H : List (List (Option Tup))) (i : Nat) (hi : i < H.length) (T : List (Option Tup)) (p s : Int) : hGet (H.set i T) p s = if p = i then tupAt T s else hGet H p s := by
  rcases Int.lt_or_le p 0 with h | h
  · rw [hGet_out (Or.inl h), hGet_out (Or.inl h), if_neg (by omega)]
  · obtain ⟨n, rfl⟩ := Int.eq_ofNat_of_zero_le h
    rw [hGet_nat, hGet_nat, List.getD_eq_getElem?_getD, List.getElem?_set]
    by_cases x : i = n
    · rw [if_pos x, if_pos hi, if_pos (by omega)]; rfl
    · rw [if_neg x, if_neg (by omega), List.getD_eq_getElem?_getD]

theorem hGet_push (H : List (List (Option Tup))) (T : List (Option Tup)) (p s : Int) : hGet (H ++ [T]) p s = if p = H.length then tupAt T s else hGet H p s := by
  rcases Int.lt_or_le p 0 with h | h
  · rw [hGet_out (Or.inl h), hGet_out (Or.inl h), if_neg (by omega)]
  · obtain ⟨n, rfl⟩ := Int.eq_ofNat_of_zero_le h
    by_cases x : n = H.length
    · subst x
      rw [if_pos rfl]
      exact hGet_in s (by simp)
    · rw [if_neg (by omega)]
      rcases Nat.lt_or_ge n H.length with y | y
      · rw [hGet_in s (T := H[n]) (by rw [List.getElem?_append_left y, List.getElem?_eq_getElem y]), hGet_in s (List.getElem?_eq_getElem y)]
      · rw [hGet_out (Or.inr (by simp; omega)), hGet_out (Or.inr (by omega))]

end Go.Lap
namespace Go.Proofs.YtdeekopdhgjanaaGreatDoor
open Go.RowKit Go.Lap

theorem usedH_set {H : List (List (Option Tup))} {i : Nat} {T T' : List (Option Tup)} (h : H[i]? = some T) : usedH (H.set i T') + usedT T = usedH H + usedT T' := sum_set usedT H i T T' h

theorem tupAt_one (t : Tup) (s : Int) : tupAt [some t] s = if s = 0 then some t else none := by
  rcases Int.lt_or_le s 0 with h | h
  · rw [tupAt_neg _ h, if_neg (by omega)]
  · obtain ⟨n, rfl⟩ := Int.eq_ofNat_of_zero_le h
    rw [tupAt_nat]
    rcases n with _ | n
    · rfl
    · rw [if_neg (by omega)]; rfl

/-- What Insert leaves at every place. -/
structure InsAt (H H' : List (List (Option Tup))) (pg sl : Int) (t : Tup) : Prop where
  get : ∀ p s, hGet H' p s = if p = pg ∧ s = sl then some t else hGet H p s
  was : hGet H pg sl = none
  used : usedH H' = usedH H + 1
  fit : ∀ T ∈ H', Fits T
  pos : 0 ≤ pg ∧ 0 ≤ sl
  len : H'.length ≤ H.length + 1

theorem hIns_some {H : List (List (Option Tup))} {left i : Nat} {t : Tup} {T : List (Option Tup)} (hr : t.rightB = true) (hf : findH H t.data.length = some i) (hT : H[i]? = some T) : hIns H left t = (((i : Int), (freeT T : Int), 0), H.set i (insT T t), left) := by
  unfold hIns
  rw [if_neg (by simp [hr]), hf]
  show (((i : Int), (freeT (H.getD i []) : Int), (0 : Int)), H.set i (insT (H.getD i []) t), left) = _
  rw [getD_of hT]

theorem hIns_none {H : List (List (Option Tup))} {left : Nat} {t : Tup} (hr : t.rightB = true) (hf : findH H t.data.length = none) : hIns H (left + 1) t = (((H.length : Int), 0, 0), H ++ [[some t]], left) := by
  unfold hIns
  rw [if_neg (by simp [hr]), hf]
  rfl

theorem right_len {t : Tup} (hr : t.rightB = true) : t.data.length ≤ 200 := (of_decide_eq_true hr).2.2.2.2

theorem insAt_some {H : List (List (Option Tup))} {i : Nat} {t : Tup} {T : List (Option Tup)} (hfit : ∀ T ∈ H, Fits T) (hT : H[i]? = some T) (hrm : (t.data.length : Int) ≤ roomT T) : InsAt H (H.set i (insT T t)) (i : Int) (freeT T : Int) t := by
  have hi : i < H.length := (List.getElem?_eq_some_iff.1 hT).1
  refine ⟨fun p s => ?_, ?_, ?_, fun T' hT' => ?_, ⟨by omega, by omega⟩, by simp⟩
  · rw [hGet_set H i hi, tupAt_ins]
    by_cases x : p = i
    · subst x
      rw [if_pos rfl]
      by_cases y : s = freeT T
      · rw [if_pos y, if_pos ⟨rfl, y⟩]
      · rw [if_neg y, if_neg (fun z => y z.2), hGet_in s hT]
    · rw [if_neg x, if_neg (fun z => x z.1)]
  · rw [hGet_in _ hT, tupAt_nat]
    exact freeT_none T
  · have := usedH_set (T' := insT T t) hT
    rw [used_ins] at this
    omega
  · rcases List.mem_or_eq_of_mem_set hT' with x | x
    · exact hfit T' x
    · rw [x]; exact Fits.ins hrm

theorem insAt_none {H : List (List (Option Tup))} {t : Tup} (hfit : ∀ T ∈ H, Fits T) (hr : t.rightB = true) : InsAt H (H ++ [[some t]]) (H.length : Int) 0 t := by
  refine ⟨fun p s => ?_, hGet_out (Or.inr (Int.le_refl _)), ?_, fun T' hT' => ?_, ⟨by omega, by omega⟩, by simp⟩
  · rw [hGet_push, tupAt_one]
    by_cases x : p = H.length
    · subst x
      rw [if_pos rfl]
      by_cases y : s = 0
      · rw [if_pos y, if_pos ⟨rfl, y⟩]
      · rw [if_neg y, if_neg (fun z => y z.2), hGet_out (Or.inr (Int.le_refl _))]
    · rw [if_neg x, if_neg (fun z => x z.1)]
  · unfold usedH
    rw [List.map_append, List.sum_append]
    rfl
  · rcases List.mem_append.1 hT' with x | x
    · exact hfit T' x
    · simp at x
      subst x
      have := right_len hr
      unfold Fits
      simp [sizeT, Tup.size]
      omega

/-- Insert of a right version goes, where a page has room or the pool has one. -/
theorem hIns_goes {H : List (List (Option Tup))} {left : Nat} {t : Tup} (hfit : ∀ T ∈ H, Fits T) (hr : t.rightB = true) (h : 0 < left ∨ (findH H t.data.length).isSome = true) :
    ∃ pg sl H' left', hIns H left t = ((pg, sl, 0), H', left') ∧ InsAt H H' pg sl t ∧ ((findH H t.data.length).isSome = true → H'.length = H.length ∧ left' = left) ∧ H'.length + left' = H.length + left := by
  rcases hf : findH H t.data.length with _ | i
  · rw [hf] at h
    obtain ⟨left, rfl⟩ : ∃ l, left = l + 1 := ⟨left - 1, by rcases h with h | h; omega; simp at h⟩
    exact ⟨_, _, _, _, hIns_none hr hf, insAt_none hfit hr, fun x => by simp at x, by simp; omega⟩
  · obtain ⟨T, hT, hrm⟩ := findH_some hf
    exact ⟨_, _, _, _, hIns_some hr hf hT, insAt_some hfit hT hrm, fun _ => ⟨by simp, rfl⟩, by simp⟩

/-- What Free leaves at every place. -/
structure FreeAt (H H' : List (List (Option Tup))) (pg sl : Int) (t : Tup) : Prop where
  get : ∀ p s, hGet H' p s = if p = pg ∧ s = sl then none else hGet H p s
  used : usedH H' + 1 = usedH H
  fit : ∀ T ∈ H', Fits T
  len : H'.length = H.length
  room : (findH H' t.data.length).isSome = true

theorem hFree_goes {H : List (List (Option Tup))} {pg sl : Int} {t : Tup} (hfit : ∀ T ∈ H, Fits T) (h : hGet H pg sl = some t) : ∃ H', hFree H pg sl = (0, H') ∧ FreeAt H H' pg sl t := by
  have h0 : ¬ (pg < 0 ∨ (H.length : Int) ≤ pg) := fun x => by rw [hGet_out x] at h; cases h
  obtain ⟨k, rfl⟩ := Int.eq_ofNat_of_zero_le (show 0 ≤ pg by omega)
  have hk : k < H.length := by omega
  obtain ⟨T, hT⟩ : ∃ T, H[k]? = some T := ⟨_, List.getElem?_eq_getElem hk⟩
  have hg : tupAt T sl = some t := by rw [← hGet_in sl hT]; exact h
  obtain ⟨s0, hs⟩ := tupAt_some hg
  obtain ⟨j, rfl⟩ := Int.eq_ofNat_of_zero_le s0
  rw [Int.toNat_natCast] at hs
  have hj : j < T.length := (List.getElem?_eq_some_iff.1 hs).1
  have hF := Fits.free (hfit T (List.mem_of_getElem? hT)) hs
  refine ⟨H.set k (trimT (T.set j none)), ?_, fun p s => ?_, ?_, fun T' hT' => ?_, by simp, ?_⟩
  · unfold hFree
    rw [h]
    show ((0 : Int), H.set (k : Int).toNat (trimT ((H.getD (k : Int).toNat []).set (j : Int).toNat none))) = _
    rw [Int.toNat_natCast, Int.toNat_natCast, getD_of hT]
  · rw [hGet_set H k hk, tupAt_trim, tupAt_set T j hj]
    by_cases x : p = k
    · subst x
      rw [if_pos rfl]
      by_cases y : s = j
      · rw [if_pos y, if_pos ⟨rfl, y⟩]
      · rw [if_neg y, if_neg (fun z => y z.2), hGet_in s hT]
    · rw [if_neg x, if_neg (fun z => x z.1)]
  · have h1 := usedH_set (T' := trimT (T.set j none)) hT
    rw [used_trim] at h1
    have h2 := used_set (u := none) hs
    simp at h2
    omega
  · rcases List.mem_or_eq_of_mem_set hT' with x | x
    · exact hfit T' x
    · rw [x]; exact hF.1
  · unfold findH
    rcases hx : (H.set k (trimT (T.set j none))).findIdx? (fun T => decide ((t.data.length : Int) ≤ roomT T)) with _ | i
    · rw [List.findIdx?_eq_none_iff] at hx
      have := hx (trimT (T.set j none)) (by
        rw [List.mem_iff_getElem?]
        exact ⟨k, by rw [List.getElem?_set_self hk]⟩)
      rw [decide_eq_false_iff_not] at this
      exact absurd hF.2 this
    · rfl

/-- The places that a law has been told, each with its version. -/
structure Inv (H : List (List (Option Tup))) (l : List ((Int × Int) × Tup)) : Prop where
  used : usedH H = l.length
  nd : (l.map (·.1)).Nodup
  got : ∀ x ∈ l, hGet H x.1.1 x.1.2 = some x.2
  fit : ∀ T ∈ H, Fits T

theorem Inv.start : Inv [] [] := ⟨rfl, List.nodup_nil, fun x hx => by simp at hx, fun T hT => by simp at hT⟩

theorem Inv.ins {H H' : List (List (Option Tup))} {l : List ((Int × Int) × Tup)} {pg sl : Int} {t : Tup} (h : Inv H l) (hi : InsAt H H' pg sl t) : Inv H' (l ++ [((pg, sl), t)]) := by
  have hne : ∀ x ∈ l, x.1 ≠ (pg, sl) := fun x hx e => by
    have := h.got x hx
    rw [e, hi.was] at this
    cases this
  refine ⟨by rw [hi.used, h.used]; simp, ?_, fun x hx => ?_, hi.fit⟩
  · rw [List.map_append, List.nodup_append]
    refine ⟨h.nd, by simp, fun a ha b hb => ?_⟩
    obtain ⟨x, hx, rfl⟩ := List.mem_map.1 ha
    simp at hb
    subst hb
    exact hne x hx
  · rw [hi.get]
    rcases List.mem_append.1 hx with y | y
    · rw [if_neg (fun z => hne x y (by rw [← z.1, ← z.2]))]
      exact h.got x y
    · simp at y
      subst y
      rw [if_pos ⟨rfl, rfl⟩]

/-- The one at j is freed; a version is put in its stead. -/
theorem Inv.swap {H H1 H2 : List (List (Option Tup))} {l : List ((Int × Int) × Tup)} {j : Nat} {p q : Int × Int} {t u : Tup} (h : Inv H l) (hj : l[j]? = some (p, t)) (hf : FreeAt H H1 p.1 p.2 t) (hi : InsAt H1 H2 q.1 q.2 u) : Inv H2 (l.set j (q, u)) := by
  have hjl : j < l.length := (List.getElem?_eq_some_iff.1 hj).1
  have hmem : (p, t) ∈ l := List.mem_of_getElem? hj
  have hother : ∀ i x, i ≠ j → l[i]? = some x → x.1 ≠ p := fun i x hne hx e => by
    have h1 : (l.map (·.1))[i]? = some p := by rw [List.getElem?_map, hx, ← e]; rfl
    have h2 : (l.map (·.1))[j]? = some p := by rw [List.getElem?_map, hj]; rfl
    exact hne ((List.getElem?_inj (List.getElem?_eq_some_iff.1 h1).1 h.nd).1 (h1.trans h2.symm))
  have hgot1 : ∀ i x, i ≠ j → l[i]? = some x → hGet H1 x.1.1 x.1.2 = some x.2 := fun i x hne hx => by
    rw [hf.get, if_neg (fun z => hother i x hne hx (Prod.ext z.1 z.2))]
    exact h.got x (List.mem_of_getElem? hx)
  have hnq : ∀ i x, i ≠ j → l[i]? = some x → x.1 ≠ q := fun i x hne hx e => by
    have := hgot1 i x hne hx
    rw [e, hi.was] at this
    cases this
  refine ⟨?_, ?_, fun x hx => ?_, hi.fit⟩
  · rw [hi.used, hf.used, h.used, List.length_set]
  · rw [List.map_set]
    unfold List.Nodup
    rw [List.pairwise_iff_getElem]
    intro a b ha hb hab
    rw [List.length_set, List.length_map] at ha hb
    rw [List.getElem_set, List.getElem_set, List.getElem_map, List.getElem_map]
    by_cases x : j = a
    · rw [if_pos x, if_neg (by omega)]
      exact fun e => hnq b l[b] (by omega) (List.getElem?_eq_getElem hb) e.symm
    · by_cases y : j = b
      · rw [if_neg x, if_pos y]
        exact fun e => hnq a l[a] (by omega) (List.getElem?_eq_getElem ha) e
      · rw [if_neg x, if_neg y]
        have := List.pairwise_iff_getElem.1 h.nd a b (by simpa using ha) (by simpa using hb) hab
        simpa using this
  · rw [hi.get]
    obtain ⟨i, hx⟩ := List.mem_iff_getElem?.1 hx
    rw [List.getElem?_set] at hx
    by_cases y : j = i
    · rw [if_pos y, if_pos hjl] at hx
      injection hx with hx
      subst hx
      rw [if_pos ⟨rfl, rfl⟩]
    · rw [if_neg y] at hx
      rw [if_neg (fun z => hnq i x (fun e => y e.symm) hx (Prod.ext z.1 z.2))]
      exact hgot1 i x (fun e => y e.symm) hx

/-- All others are where they were. -/
theorem Inv.others {H H1 : List (List (Option Tup))} {l : List ((Int × Int) × Tup)} {i j : Nat} {x y : (Int × Int) × Tup} (h : Inv H l) (hf : FreeAt H H1 x.1.1 x.1.2 x.2) (hj : l[j]? = some x) (hi : l[i]? = some y) (hne : i ≠ j) : hGet H1 y.1.1 y.1.2 = some y.2 := by
  rw [hf.get, if_neg (fun z => ?_)]
  · exact h.got y (List.mem_of_getElem? hi)
  · have e : y.1 = x.1 := Prod.ext z.1 z.2
    have h1 : (l.map (·.1))[i]? = some x.1 := by rw [List.getElem?_map, hi, ← e]; rfl
    have h2 : (l.map (·.1))[j]? = some x.1 := by rw [List.getElem?_map, hj]; rfl
    exact hne ((List.getElem?_inj (List.getElem?_eq_some_iff.1 h1).1 h.nd).1 (h1.trans h2.symm))

end Go.Proofs.YtdeekopdhgjanaaGreatDoor

namespace Go.Lap

/-- The cells of a row of places. -/
def tidsV (l : List (Int × Int)) : List Value := l.flatMap (fun p => [.int .i64 p.1, .int .i64 p.2])

theorem tidsV_cons (p : Int × Int) (l : List (Int × Int)) : tidsV (p :: l) = .int .i64 p.1 :: .int .i64 p.2 :: tidsV l := rfl
theorem tidsV_append (l m : List (Int × Int)) : tidsV (l ++ m) = tidsV l ++ tidsV m := by simp [tidsV]
theorem tidsV_length (l : List (Int × Int)) : (tidsV l).length = l.length * 2 := by
  induction l with
  | nil => rfl
  | cons p l ih => rw [tidsV_cons, List.length_cons, List.length_cons, ih, List.length_cons]; omega

theorem tidsV_get {l : List (Int × Int)} {j : Nat} {p : Int × Int} (h : l[j]? = some p) : (tidsV l)[j * 2]? = some (.int .i64 p.1) ∧ (tidsV l)[j * 2 + 1]? = some (.int .i64 p.2) := by
  induction l generalizing j with
  | nil => simp at h
  | cons q l ih =>
    rcases j with _ | j
    · simp at h
      subst h
      exact ⟨rfl, rfl⟩
    · rw [List.getElem?_cons_succ] at h
      obtain ⟨h1, h2⟩ := ih h
      rw [tidsV_cons, show (j + 1) * 2 = j * 2 + 1 + 1 by omega]
      exact ⟨h1, h2⟩

theorem tidsV_set (l : List (Int × Int)) (j : Nat) (q : Int × Int) : ((tidsV l).set (j * 2) (.int .i64 q.1)).set (j * 2 + 1) (.int .i64 q.2) = tidsV (l.set j q) := by
  induction l generalizing j with
  | nil => rfl
  | cons p l ih =>
    rcases j with _ | j
    · rfl
    · rw [tidsV_cons, show (j + 1) * 2 = j * 2 + 1 + 1 by omega, List.set_cons_succ, List.set_cons_succ, List.set_cons_succ, List.set_cons_succ, ih, List.set_cons_succ, tidsV_cons]

theorem one_tids (l : List (Int × Int)) : ∀ u ∈ tidsV l, u.oneCell' = true := by
  intro u hu
  unfold tidsV at hu
  rw [List.mem_flatMap] at hu
  obtain ⟨p, _, hp⟩ := hu
  simp at hp
  rcases hp with rfl | rfl <;> rfl

end Go.Lap
namespace Go.Proofs.YtdeekopdhgjanaaGreatDoor
open Go.RowKit Go.Lap

theorem elem_tid : Elem Tryz.prog 88 42 2 16 := Elem.mk' (.agg #[.int .i64 0, .int .i64 0]) Tryz.underlying88 (by kernel_rfl) rfl (by decide)

/-- A row of places. -/
abbrev TidsAt (w : World) (v : Value) (l : List (Int × Int)) : Prop := w.ownsRow 0 42 2 v l.length (tidsV l)

/-- It reads. -/
theorem tids_form {w : World} {v : Value} {l : List (Int × Int)} (h : TidsAt w v l) : ∃ A c, v = .slice A l.length c ∧ l.length ≤ c ∧ c ≤ maxLen ∧ ∀ (j : Nat) p, l[j]? = some p → ∃ g, A = some ⟨g, 0, none⟩ ∧ w.cell? ⟨g, j * 2, none⟩ = some (.int .i64 p.1) ∧ w.cell? ⟨g, j * 2 + 1, none⟩ = some (.int .i64 p.2) := by
  rcases h.2 with ⟨e1, e2⟩ | ⟨g, cap, cur, e1, _, hh, r1, r2, _⟩
  · refine ⟨none, 0, by rw [e2]; exact e1, by omega, Nat.zero_le _, fun j p hj => ?_⟩
    have := (List.getElem?_eq_some_iff.1 hj).1
    omega
  · refine ⟨_, cap, e1, r1, r2, fun j p hj => ⟨g, rfl, ?_, ?_⟩⟩
    · have := h.cells (by rw [e1]; rfl) _ _ (tidsV_get hj).1
      rw [add_none, Nat.zero_add] at this
      exact this
    · have := h.cells (by rw [e1]; rfl) _ _ (tidsV_get hj).2
      rw [add_none, Nat.zero_add] at this
      exact this

/-- One more place. -/
theorem tids_new (w : World) (p : Int × Int) : Rd (w.alloc (.cells #[.int .i64 p.1, .int .i64 p.2] 42)) (fun _ => True) 2 (some ⟨w.heap.size, 0, none⟩) 1 (tidsV [p]) := Rd.new w 2 1 (tidsV [p]) _ _ rfl trivial

theorem tids_new1 (w : World) (o : Obj) (pg sl : Int) : Rd ((w.alloc o).alloc (.cells #[.int .i64 pg, .int .i64 sl] 42)) (fun _ => True) 2 (some ⟨w.heap.size + 1, 0, none⟩) 1 (tidsV [(pg, sl)]) := by
  have := tids_new (w.alloc o) (pg, sl)
  rw [World.size_alloc] at this
  exact this

/-- A place of the row reads, and may be written. -/
theorem tids_at {wr : World} {l : List (Int × Int)} {g c n : Nat} (h : TidsAt wr (.slice (some ⟨g, 0, none⟩) n c) l) {j : Nat} {p : Int × Int} (hj : l[j]? = some p) :
    wr.cell? ⟨g, j * 2, none⟩ = some (.int .i64 p.1) ∧ wr.cell? ⟨g, j * 2 + 1, none⟩ = some (.int .i64 p.2) ∧ ∀ o, wr.frozen? ⟨g, o, none⟩ = false := by
  obtain ⟨d, hd⟩ := own_blk h (k := g) rfl
  obtain ⟨A, c', e, _, _, hf⟩ := tids_form h
  obtain ⟨g', e2, h1, h2⟩ := hf j p hj
  injection e with e1 _ _
  rw [← e1] at e2
  injection e2 with e2
  injection e2 with e2 _ _
  subst e2
  exact ⟨h1, h2, fun o => frozen_of hd o⟩

/-- A place is written over. -/
theorem tids_set {w : World} {g c : Nat} {l : List (Int × Int)} (h : TidsAt w (.slice (some ⟨g, 0, none⟩) l.length c) l) (j : Nat) (q : Int × Int) : TidsAt ((w.setCell ⟨g, j * 2, none⟩ (.int .i64 q.1)).setCell ⟨g, j * 2 + 1, none⟩ (.int .i64 q.2)) (.slice (some ⟨g, 0, none⟩) l.length c) (l.set j q) := by
  have h1 := (h.stored (j * 2) (.int .i64 q.1)).1
  have h2 := (World.ownsRow.stored h1 (j * 2 + 1) (.int .i64 q.2)).1
  rw [tidsV_set] at h2
  unfold TidsAt
  rw [List.length_set]
  exact h2

section
variable {w W W' : World} {K K' : Nat → Prop} {hb pb : Nat} {H : List (List (Option Tup))} {left : Nat}
/-- The law's own blocks turn. -/
theorem LawW.mine {S : Nat → Prop} (h : LawW w W K hb pb H left) (ho : Only S W W') (hS : ∀ k, S k → K k ∧ w.heap.size ≤ k) (hk : ∀ k, K' k → (K k ∨ W.heap.size ≤ k) ∧ k < W'.heap.size) : LawW w W' K' hb pb H left := by
  obtain ⟨F, hf, hF⟩ := h.ex
  have hs := ho.size
  have hp := h.pool.lt
  have key : ∀ k, k < W.heap.size → ¬ K k → ¬ K' k := fun k x y z => by
    rcases (hk k z).1 with u | u
    · exact y u
    · omega
  exact ⟨h.quiet.trans' ho (fun k hk x => by have := hS k x; omega), ⟨F, hf.kept ho (fun k x y => (hF k x).2.2 (hS k y).1), fun k x => by obtain ⟨a, b, c⟩ := hF k x; exact ⟨a, by omega, key k b c⟩⟩, h.pool.kept ho (fun x => h.pbn.2 (hS _ x).1), ⟨h.pbn.1, key _ hp h.pbn.2⟩, h.sum, fun k x => (hk k x).2⟩

theorem tup0_rdN {w : World} {db k N : Nat} (h : Bk w db N 5 (fun _ => 0)) (hk : k ≤ N) : Rd w (· = db) 1 (some ⟨db, 0, none⟩) (tup0 k).data.length (bytesV (tup0 k).data) := by
  refine ⟨by simp [bytesV], fun _ => ⟨db, 0, rfl, rfl, fun j u hu => ?_⟩⟩
  unfold bytesV tup0 at hu
  rw [List.getElem?_map, List.getElem?_replicate] at hu
  split at hu
  · rename_i hj
    rw [Nat.zero_add, h.cell (by omega)]
    exact hu
  · cases hu
end

end Go.Proofs.YtdeekopdhgjanaaGreatDoor

namespace Go.Proofs.YtdeekopdhgjanaaGreatDoor
open Go.RowKit Go.Lap

theorem zero_cells {w : World} {b : Nat} {t : TypeId} {fr : Nat × Nat} (h : w.heap[b]? = some (.cells #[.int .u64 0, .int .u64 0, .int .u64 0, .int .i64 0, .int .i64 0, .slice none 0 0] t fr)) :
    w.cell? ⟨b, 0, none⟩ = some (.int .u64 0) ∧ w.cell? ⟨b, 1, none⟩ = some (.int .u64 0) ∧ w.cell? ⟨b, 2, none⟩ = some (.int .u64 0) ∧ w.cell? ⟨b, 3, none⟩ = some (.int .i64 0) ∧ w.cell? ⟨b, 4, none⟩ = some (.int .i64 0) ∧ w.cell? ⟨b, 5, none⟩ = some (.slice none 0 0) :=
  ⟨by rw [cell_of h]; rfl, by rw [cell_of h]; rfl, by rw [cell_of h]; rfl, by rw [cell_of h]; rfl, by rw [cell_of h]; rfl, by rw [cell_of h]; rfl⟩

/-- In Get: the place in its box, the result in its own. -/
theorem get_start (w : World) (pg sl : Int) : Quiet w ((w.alloc (.cells #[.int .i64 pg, .int .i64 sl] 42)).alloc (.cells #[.int .u64 0, .int .u64 0, .int .u64 0, .int .i64 0, .int .i64 0, .slice none 0 0] 86)) ∧
    ((w.alloc (.cells #[.int .i64 pg, .int .i64 sl] 42)).alloc (.cells #[.int .u64 0, .int .u64 0, .int .u64 0, .int .i64 0, .int .i64 0, .slice none 0 0] 86)).heap[w.heap.size]? = some (.cells #[.int .i64 pg, .int .i64 sl] 42 (0, 0)) ∧
    ((w.alloc (.cells #[.int .i64 pg, .int .i64 sl] 42)).alloc (.cells #[.int .u64 0, .int .u64 0, .int .u64 0, .int .i64 0, .int .i64 0, .slice none 0 0] 86)).heap[w.heap.size + 1]? = some (.cells #[.int .u64 0, .int .u64 0, .int .u64 0, .int .i64 0, .int .i64 0, .slice none 0 0] 86 (0, 0)) :=
  ⟨((Only.refl _ _).alloc _).alloc _, alloc_old (alloc_new _ _) _, two_new _ _ _⟩

set_option maxHeartbeats 1000000 in
set_option maxRecDepth 100000 in
theorem heap_get_no (h0 pp : Option Addr) (pg sl : Int) (w : World) (hpg : ∀ W : World, Quiet w W → Calls Tryz.prog 59 #[.pointer h0, .int .i64 pg] W fun e w' => e = .returned (.pointer pp) ∧ W = w')
    (hgt : ∀ W : World, Quiet w W → Calls Tryz.prog 81 #[.pointer pp, .int .i64 sl] W (GetNone W)) :
    Calls Tryz.prog 50 #[.pointer h0, .agg #[.int .i64 pg, .int .i64 sl]] w (GetNone w) := by
  have HPG := Lib.hid hpg
  have HGT := Lib.hid hgt
  have H0 := Lib.hid (get_start w pg sl)
  clear hpg hgt
  go_enter Tryz.func50, Tryz.ntmps50
  go_wp2_with fail
  go_region_held3 (fun w' => w'.cell? ⟨w.heap.size, 0, none⟩ = some (.int .i64 pg) ∧ w'.cell? ⟨w.heap.size, 1, none⟩ = some (.int .i64 sl))
    (first | go_keep | exact tid_on (by exact H0.out.2.1) hq3 (fun x => x) | fail)
    (first
      | (go_at_call 59; go_must (refine (HPG.out _ (H0.out.1.drew)).mono ?_; rintro e w2 ⟨rfl, rfl⟩))
      | (go_at_call 81; go_must (refine (HGT.out _ (H0.out.1.drew)).mono ?_; rintro e w3 ⟨rfl, hq3⟩; have hr3 := hq3.get (by exact H0.out.2.2) (fun x => x); obtain ⟨z0, z1, z2, z3, z4, z5⟩ := zero_cells hr3; have zf := fun o => frozen_of hr3 o))
      | fail)
  have HX := Lib.hid (sixSet_same hr3 (.int .u64 0) (.int .u64 0) (.int .u64 0) (.int .i64 0) (.int .i64 0) (.slice none 0 0))
  have HQ : Hid (Quiet w (sixSet w3 (w.heap.size + 1) (.int .u64 0) (.int .u64 0) (.int .u64 0) (.int .i64 0) (.int .i64 0) (.slice none 0 0))) := (H0.out.1.drew.trans hq3).trans' (sixSet_only _ _ _ _ _ _ _ _) (fun k hk e => by omega)
  clear hq3 hr3 HPG HGT H0 z0 z1 z2 z3 z4 z5 zf
  unfold sixSet at HX HQ
  go_wp2
  generalize ((((((w3.setCell ⟨w.heap.size + 1, 0, none⟩ (.int .u64 0)).setCell ⟨w.heap.size + 1, 1, none⟩ (.int .u64 0)).setCell ⟨w.heap.size + 1, 2, none⟩ (.int .u64 0)).setCell ⟨w.heap.size + 1, 3, none⟩ (.int .i64 0)).setCell ⟨w.heap.size + 1, 4, none⟩ (.int .i64 0)).setCell ⟨w.heap.size + 1, 5, none⟩ (.slice none 0 0)) = W6 at HX HQ ⊢
  exact bodyPost_ret (results_cell_tmp Tryz.results50 _ _ (w.heap.size + 1) _ _ (0, 0) _ (by rfl) HX.out Tryz.underlying86 rfl info_tup) (by rfl) ⟨rfl, HQ.out⟩

theorem fresh_on1 {w W1 w5 W6 : World} {v : Value} {l : List Nat} (hq : Quiet w W1) (hs : w.heap.size + 1 < W1.heap.size) (h : Fresh W1 w5 v l) (ho : Only (· = w.heap.size + 1) w5 W6) : Fresh w W6 v l := by
  have hz := hq.size
  exact ⟨(hq.trans h.quiet).trans' ho (fun k hk e => by omega), fun k e => by have := h.new k e; omega, owns_kept h.own ho (fun k e x => by have := h.new k e; omega)⟩

set_option maxHeartbeats 1000000 in
set_option maxRecDepth 100000 in
theorem heap_get_yes (h0 pp : Option Addr) (pg sl : Int) (t : Tup) (w : World) (hpg : ∀ W : World, Quiet w W → Calls Tryz.prog 59 #[.pointer h0, .int .i64 pg] W fun e w' => e = .returned (.pointer pp) ∧ W = w')
    (hgt : ∀ W : World, Quiet w W → Calls Tryz.prog 81 #[.pointer pp, .int .i64 sl] W (GetSome W t)) :
    Calls Tryz.prog 50 #[.pointer h0, .agg #[.int .i64 pg, .int .i64 sl]] w (GetSome w t) := by
  have HPG := Lib.hid hpg
  have HGT := Lib.hid hgt
  have H0 := Lib.hid (get_start w pg sl)
  clear hpg hgt
  go_enter Tryz.func50, Tryz.ntmps50
  go_wp2_with fail
  go_region_held3 (fun w' => w'.cell? ⟨w.heap.size, 0, none⟩ = some (.int .i64 pg) ∧ w'.cell? ⟨w.heap.size, 1, none⟩ = some (.int .i64 sl))
    (first | go_keep | exact tid_on (by exact H0.out.2.1) hf3.quiet (fun x => x) | fail)
    (first
      | (go_at_call 59; go_must (refine (HPG.out _ (H0.out.1.drew)).mono ?_; rintro e w2 ⟨rfl, rfl⟩))
      | (go_at_call 81; go_must (refine (HGT.out _ (H0.out.1.drew)).mono ?_; rintro e w3 ⟨A3, c3, rfl, hf3⟩; unfold tupV; have hr3 := hf3.quiet.get (by exact H0.out.2.2) (fun x => x); obtain ⟨z0, z1, z2, z3, z4, z5⟩ := zero_cells hr3; have zf := fun o => frozen_of hr3 o))
      | fail)
  have HX := Lib.hid (sixSet_same hr3 (.int .u64 t.row) (.int .u64 t.xmin) (.int .u64 t.xmax) (.int .i64 t.pg) (.int .i64 t.sl) (.slice A3 t.data.length c3))
  have HQ := Lib.hid (fresh_on1 H0.out.1.drew (by show w.heap.size + 1 < ((w.alloc _).alloc _).heap.size; simp) hf3 (sixSet_only w3 (w.heap.size + 1) (.int .u64 t.row) (.int .u64 t.xmin) (.int .u64 t.xmax) (.int .i64 t.pg) (.int .i64 t.sl) (.slice A3 t.data.length c3)))
  clear hf3 hr3 HPG HGT H0 z0 z1 z2 z3 z4 z5 zf
  unfold sixSet at HX HQ
  go_wp2
  generalize ((((((w3.setCell ⟨w.heap.size + 1, 0, none⟩ (.int .u64 t.row)).setCell ⟨w.heap.size + 1, 1, none⟩ (.int .u64 t.xmin)).setCell ⟨w.heap.size + 1, 2, none⟩ (.int .u64 t.xmax)).setCell ⟨w.heap.size + 1, 3, none⟩ (.int .i64 t.pg)).setCell ⟨w.heap.size + 1, 4, none⟩ (.int .i64 t.sl)).setCell ⟨w.heap.size + 1, 5, none⟩ (.slice A3 t.data.length c3)) = W6 at HX HQ ⊢
  exact bodyPost_ret (results_cell_tmp Tryz.results50 _ _ (w.heap.size + 1) _ _ (0, 0) _ (by rfl) HX.out Tryz.underlying86 rfl info_tup) (by rfl) (getSome_mk HQ.out)

theorem heap_get_nil (pg sl : Int) (w : World) : Calls Tryz.prog 50 #[.pointer none, .agg #[.int .i64 pg, .int .i64 sl]] w (GetNone w) :=
  heap_get_no none none pg sl w (fun W _ => heap_page_nil pg W) (fun W _ => page_get_nil sl W)

section
variable {w : World} {hb pb : Nat} {F : Nat → Prop} {H : List (List (Option Tup))}

theorem heap_get_none (pg sl : Int) (h : HeapIs w hb pb F H) (hg : hGet H pg sl = none) : Calls Tryz.prog 50 #[.pointer (some ⟨hb, 0, none⟩), .agg #[.int .i64 pg, .int .i64 sl]] w (GetNone w) := by
  obtain ⟨v, ps, rb, h⟩ := h
  by_cases hn : pg < 0 ∨ (H.length : Int) ≤ pg
  · exact heap_get_no _ none pg sl w (fun W hq => heap_page_none pg (h.kept hq (fun _ _ x => x)) hn) (fun W _ => page_get_nil sl W)
  · obtain ⟨k, rfl⟩ := Int.eq_ofNat_of_zero_le (show 0 ≤ pg by omega)
    obtain ⟨T, hT⟩ : ∃ T, H[k]? = some T := ⟨_, List.getElem?_eq_getElem (show k < H.length by omega)⟩
    obtain ⟨p, hp, hpt⟩ := h.pg k T hT
    rw [hGet_in sl hT] at hg
    exact heap_get_no _ (some ⟨p, 0, none⟩) k sl w (fun W hq => heap_page_some k p (h.kept hq (fun _ _ x => x)) hp) (fun W hq => pageT_get_none p T sl W (hpt.kept hq (fun x => x)) hg)

theorem heap_get_some (pg sl : Int) (t : Tup) (h : HeapIs w hb pb F H) (hg : hGet H pg sl = some t) : Calls Tryz.prog 50 #[.pointer (some ⟨hb, 0, none⟩), .agg #[.int .i64 pg, .int .i64 sl]] w (GetSome w t) := by
  obtain ⟨v, ps, rb, h⟩ := h
  have hn : ¬ (pg < 0 ∨ (H.length : Int) ≤ pg) := fun x => by rw [hGet_out x] at hg; cases hg
  obtain ⟨k, rfl⟩ := Int.eq_ofNat_of_zero_le (show 0 ≤ pg by omega)
  obtain ⟨T, hT⟩ : ∃ T, H[k]? = some T := ⟨_, List.getElem?_eq_getElem (show k < H.length by omega)⟩
  obtain ⟨p, hp, hpt⟩ := h.pg k T hT
  rw [hGet_in sl hT] at hg
  exact heap_get_yes _ (some ⟨p, 0, none⟩) k sl t w (fun W hq => heap_page_some k p (h.kept hq (fun _ _ x => x)) hp) (fun W hq => pageT_get_some p t T sl W (hpt.kept hq (fun x => x)) hg)

set_option maxHeartbeats 400000 in
set_option maxRecDepth 100000 in
theorem heap_stamp_nil (pg sl : Int) (x : Nat) (npg nsl : Int) (w : World) :
    Calls Tryz.prog 32 #[.pointer none, .agg #[.int .i64 pg, .int .i64 sl], .int .u64 (x : Int), .agg #[.int .i64 npg, .int .i64 nsl]] w fun e w' => e = .returned (.int .i64 15) ∧ Quiet w w' := by
  go_enter Tryz.func32, Tryz.ntmps32
  go_wp2
  go_ret
  exact ⟨rfl, ((Only.refl _ _).alloc _).alloc _⟩

/-- In Stamp: both places in their boxes. -/
theorem stamp_start (w : World) (pg sl npg nsl : Int) : Quiet w ((w.alloc (.cells #[.int .i64 pg, .int .i64 sl] 42)).alloc (.cells #[.int .i64 npg, .int .i64 nsl] 42)) ∧
    ((w.alloc (.cells #[.int .i64 pg, .int .i64 sl] 42)).alloc (.cells #[.int .i64 npg, .int .i64 nsl] 42)).heap[w.heap.size]? = some (.cells #[.int .i64 pg, .int .i64 sl] 42 (0, 0)) ∧
    ((w.alloc (.cells #[.int .i64 pg, .int .i64 sl] 42)).alloc (.cells #[.int .i64 npg, .int .i64 nsl] 42)).heap[w.heap.size + 1]? = some (.cells #[.int .i64 npg, .int .i64 nsl] 42 (0, 0)) :=
  ⟨((Only.refl _ _).alloc _).alloc _, alloc_old (alloc_new _ _) _, two_new _ _ _⟩

set_option maxHeartbeats 400000 in
set_option maxRecDepth 100000 in
theorem heap_stamp_out (pg sl : Int) (x : Nat) (npg nsl : Int) (h : HeapIs w hb pb F H) (hn : pg < 0 ∨ (H.length : Int) ≤ pg) :
    Calls Tryz.prog 32 #[.pointer (some ⟨hb, 0, none⟩), .agg #[.int .i64 pg, .int .i64 sl], .int .u64 (x : Int), .agg #[.int .i64 npg, .int .i64 nsl]] w fun e w' => e = .returned (.int .i64 (pStampT [] sl x npg nsl).1) ∧ Quiet w w' := by
  obtain ⟨v, ps, rb, h⟩ := h
  have H0 := Lib.hid (stamp_start w pg sl npg nsl)
  have HPG := Lib.hid (heap_page_none pg (h.kept H0.out.1 (fun _ _ x => x)) hn)
  clear h hn
  go_enter Tryz.func32, Tryz.ntmps32
  go_wp2_with fail
  refine HPG.out.mono ?_
  rintro e w1 ⟨rfl, rfl⟩
  go_wp2_with fail
  refine (pageT_new _).mono ?_
  rintro e w2 ⟨rfl, hq2, hs2, hp2⟩
  have HQ2 := Lib.hid (H0.out.1.trans hq2)
  obtain ⟨t0, t1⟩ := tid_on H0.out.2.1 hq2 (fun x => x)
  obtain ⟨n0, n1⟩ := tid_on H0.out.2.2 hq2 (fun x => x)
  simp only [World.size_alloc] at hp2
  have HST := Lib.hid (pageT_stamp (w.heap.size + 1 + 1) [] sl x npg nsl w2 hp2)
  clear hq2 hs2 hp2 HPG H0
  go_wp2_with fail
  refine HST.out.mono ?_
  rintro e w3 ⟨rfl, ho3, hp3⟩
  go_wp2
  go_ret
  exact ⟨rfl, HQ2.out.trans' ho3 (fun k hk e => by omega)⟩

set_option maxHeartbeats 400000 in
set_option maxRecDepth 100000 in
theorem heap_stamp_in (k : Nat) (sl : Int) (x : Nat) (npg nsl : Int) (T : List (Option Tup)) (h : HeapIs w hb pb F H) (hT : H[k]? = some T) :
    Calls Tryz.prog 32 #[.pointer (some ⟨hb, 0, none⟩), .agg #[.int .i64 (k : Int), .int .i64 sl], .int .u64 (x : Int), .agg #[.int .i64 npg, .int .i64 nsl]] w fun e w' => e = .returned (.int .i64 (pStampT T sl x npg nsl).1) ∧ Only F w w' ∧ HeapIs w' hb pb F (H.set k (pStampT T sl x npg nsl).2) := by
  obtain ⟨v, ps, rb, h⟩ := h
  obtain ⟨p, hp, hpt⟩ := h.pg k T hT
  have hkl : k < H.length := (List.getElem?_eq_some_iff.1 hT).1
  have H0 := Lib.hid (stamp_start w k sl npg nsl)
  have hh1 := h.kept H0.out.1 (fun _ _ x => x)
  have HPG := Lib.hid (heap_page_some k p hh1 hp)
  have HST := Lib.hid (pageT_stamp p T sl x npg nsl _ (hpt.kept H0.out.1 (fun x => x)))
  have HH := Lib.hid hh1
  have HHP := Lib.hid hp
  have hR : (H.set k (pStampT T sl x npg nsl).2).map roomT = H.map roomT := by
    rw [List.map_set, pStamp_room]
    apply List.ext_getElem?
    intro j
    rw [List.getElem?_set]
    by_cases e : k = j
    · subst e
      rw [if_pos rfl, if_pos (by simpa using hkl), List.getElem?_map, hT]; rfl
    · rw [if_neg e]
  have HR := Lib.hid hR
  clear h hh1 hp hpt hT hR
  go_enter Tryz.func32, Tryz.ntmps32
  go_wp2_with fail
  refine HPG.out.mono ?_
  rintro e w1 ⟨rfl, rfl⟩
  go_wp2_with fail
  refine HST.out.mono ?_
  rintro e w3 ⟨rfl, ho3, hp3⟩
  have HH3 := Lib.hid (HH.out.turn HHP.out ho3 hp3)
  have HO3 : Hid (Only F w w3) := (H0.out.1.mono (T := F) (fun _ _ x => x.elim)).trans' ho3 (fun j _ e => by subst e; exact HH.out.foot.2.2.1 j (List.mem_of_getElem? HHP.out))
  clear ho3 hp3
  go_wp2
  go_ret
  exact ⟨rfl, HO3.out, _, _, _, by rw [HR.out]; exact HH3.out⟩

theorem heap_stamp (pg sl : Int) (x : Nat) (npg nsl : Int) (h : HeapIs w hb pb F H) :
    Calls Tryz.prog 32 #[.pointer (some ⟨hb, 0, none⟩), .agg #[.int .i64 pg, .int .i64 sl], .int .u64 (x : Int), .agg #[.int .i64 npg, .int .i64 nsl]] w fun e w' => e = .returned (.int .i64 (hStamp H pg sl x npg nsl).1) ∧ Only F w w' ∧ HeapIs w' hb pb F (hStamp H pg sl x npg nsl).2 := by
  by_cases hn : pg < 0 ∨ (H.length : Int) ≤ pg
  · have e : hStamp H pg sl x npg nsl = ((pStampT [] sl x npg nsl).1, H) := by unfold hStamp; rw [if_pos hn]
    rw [e]
    refine (heap_stamp_out pg sl x npg nsl h hn).mono ?_
    rintro e w' ⟨rfl, hq⟩
    exact ⟨rfl, hq.mono (fun _ _ x => x.elim), h.kept hq (fun _ _ x => x)⟩
  · obtain ⟨k, rfl⟩ := Int.eq_ofNat_of_zero_le (show 0 ≤ pg by omega)
    obtain ⟨T, hT⟩ : ∃ T, H[k]? = some T := ⟨_, List.getElem?_eq_getElem (show k < H.length by omega)⟩
    have e : hStamp H (k : Int) sl x npg nsl = ((pStampT T sl x npg nsl).1, H.set k (pStampT T sl x npg nsl).2) := by
      unfold hStamp
      rw [if_neg hn, Int.toNat_natCast, getD_of hT]
    rw [e]
    exact heap_stamp_in k sl x npg nsl T h hT
end

end Go.Proofs.YtdeekopdhgjanaaGreatDoor

namespace Go.Proofs.YtdeekopdhgjanaaGreatDoor
open Go.RowKit Go.Lap

theorem wf_i64' {z : Int} (h : -9223372036854775808 ≤ z ∧ z < 9223372036854775808) : (Lit.int .i64 z).wf = true := WalkArith.wf_i64 (by omega)

theorem far_bounds {pg sl : Int} (h : farB pg sl = false) : -1 ≤ pg ∧ pg < 65536 ∧ -1 ≤ sl ∧ sl < 65536 := by
  unfold farB at h
  split at h
  · have := of_decide_eq_false h
    omega
  · have := of_decide_eq_false h
    omega

theorem tup_wf {t : Tup} (h : t.Ok) : Wf (t.pg, t.sl) := by
  have := far_bounds (of_decide_eq_true h.right).2.2.2.1
  exact ⟨wf_i64' (by show _ ≤ t.pg ∧ _; omega), wf_i64' (by show _ ≤ t.sl ∧ _; omega)⟩

theorem HeapIs.ok {w : World} {hb pb : Nat} {F : Nat → Prop} {H : List (List (Option Tup))} (h : HeapIs w hb pb F H) {pg sl : Int} {t : Tup} (hg : hGet H pg sl = some t) : t.Ok := by
  obtain ⟨v, ps, rb, h⟩ := h
  have h0 : ¬ (pg < 0 ∨ (H.length : Int) ≤ pg) := fun x => by rw [hGet_out x] at hg; cases hg
  obtain ⟨k, rfl⟩ := Int.eq_ofNat_of_zero_le (show 0 ≤ pg by omega)
  obtain ⟨T, hT⟩ : ∃ T, H[k]? = some T := ⟨_, List.getElem?_eq_getElem (show k < H.length by omega)⟩
  rw [hGet_in sl hT] at hg
  obtain ⟨s0, hs⟩ := tupAt_some hg
  obtain ⟨p, _, hp⟩ := h.pg k T hT
  exact hp.ok hs

def sliceLen : Value → Nat
  | .slice _ n _ => n
  | _ => 0

/-- In the midst of Chain: where the place lies (B), the map (B + 1), the row. -/
structure ChainW (w wr : World) (v : Value) (out : List (Int × Int)) (p : Int × Int) : Prop where
  quiet : Quiet w wr
  box : wr.heap[w.heap.size]? = some (.cells #[.int .i64 p.1, .int .i64 p.2] 42 (0, 0))
  seen : SeenAt wr (w.heap.size + 1) out
  row : TidsAt wr v out
  own : ∀ k, v.ownBlock = some k → w.heap.size + 1 < k
  wf : Wf p

section
variable {w wr w' : World} {v : Value} {out : List (Int × Int)} {p : Int × Int}
/-- What is neither the map nor the row is as it was. -/
theorem ChainW.still {w2 w3 w4 : World} {v' : Value} {j : Nat} {o : Obj} (h : ChainW w w2 v out p) (ho : Only (· = w.heap.size + 1) w2 w3) (hg : Grew (w3.alloc (.cells #[.int .i64 p.1, .int .i64 p.2] 42)) w4 42 2 v v' (out.length + 1) (tidsV out ++ tidsV [p]))
    (hj : w2.heap[j]? = some o) (hn : j ≠ w.heap.size + 1) (hv : ∀ k, v.ownBlock = some k → k ≠ j) : w4.heap[j]? = some o :=
  hg.only.get (alloc_old (ho.get hj hn) _) (fun e => hv j e rfl)

theorem ChainW.step {w2 w3 w4 : World} {v' : Value} {q : Int × Int} (h : ChainW w w2 v out p) (hs : SeenAt w3 (w.heap.size + 1) (out ++ [p])) (ho : Only (· = w.heap.size + 1) w2 w3)
    (hg : Grew (w3.alloc (.cells #[.int .i64 p.1, .int .i64 p.2] 42)) w4 42 2 v v' (out.length + 1) (tidsV out ++ tidsV [p])) (hq : Wf q) :
    ChainW w ((w4.setCell ⟨w.heap.size, 0, none⟩ (.int .i64 q.1)).setCell ⟨w.heap.size, 1, none⟩ (.int .i64 q.2)) v' (out ++ [p]) q := by
  have hown := h.own
  have hb := h.still ho hg h.box (by omega) (fun k e => by have := hown k e; omega)
  have hsz := h.seen.lt
  have hz3 := ho.size
  have hset : Only (· = w.heap.size) w4 ((w4.setCell ⟨w.heap.size, 0, none⟩ (.int .i64 q.1)).setCell ⟨w.heap.size, 1, none⟩ (.int .i64 q.2)) := ((Only.refl (· = w.heap.size) w4).setCell (p := ⟨w.heap.size, 0, none⟩) (fun _ => rfl) _).setCell (p := ⟨w.heap.size, 1, none⟩) (fun _ => rfl) _
  have hown' : ∀ k, v'.ownBlock = some k → w.heap.size + 1 < k := fun k e => by
    rcases hg.loc with x | x
    · rw [x] at e; exact hown k e
    · rw [x] at e; injection e with e; simp only [World.size_alloc] at e; omega
  refine ⟨?_, ?_, ?_, ?_, hown', hq⟩
  · exact (((h.quiet.trans' ho (fun k hk e => by omega)).alloc _).trans' hg.only (fun k hk e => by have := hown k e; omega)).trans' hset (fun k hk e => by omega)
  · rw [set_same (set_same hb 0 _) 1 _]; rfl
  · exact ((hs.kept ((Only.refl (fun _ => False) w3).alloc _) (fun x => x)).kept hg.only (fun e => by have := hown _ e; omega)).kept hset (by omega)
  · unfold TidsAt
    rw [List.length_append, tidsV_append]
    exact owns_kept hg.own hset (fun k e x => by have := hown' k e; omega)

theorem ChainW.quietly (h : ChainW w wr v out p) (hq : Quiet wr w') : ChainW w w' v out p :=
  ⟨h.quiet.trans hq, hq.get h.box (fun x => x), h.seen.kept hq (fun x => x), owns_kept h.row hq (fun _ _ x => x), h.own, h.wf⟩
end

/-- What Chain tells. -/
def ChainPost (w : World) (l : List (Int × Int)) (e : Ending) (w' : World) : Prop := ∃ v, e = .returned v ∧ Quiet w w' ∧ (∀ k, v.ownBlock = some k → w.heap.size ≤ k) ∧ TidsAt w' v l

end Go.Proofs.YtdeekopdhgjanaaGreatDoor

namespace Go.Lap

/-- The places on page pg whose slots are below k. -/
def placesTo (pg : Int) (T : List (Option Tup)) (k : Nat) : List (Int × Int) := (List.range k).filterMap (fun s : Nat => if ((T[s]?).join).isSome then some (pg, (s : Int)) else none)

theorem placesTo_none {pg : Int} {T : List (Option Tup)} {k : Nat} (h : (T[k]?).join = none) : placesTo pg T (k + 1) = placesTo pg T k := by
  unfold placesTo
  rw [List.range_succ, List.filterMap_append]
  simp [h]

theorem placesTo_some {pg : Int} {T : List (Option Tup)} {k : Nat} {t : Tup} (h : (T[k]?).join = some t) : placesTo pg T (k + 1) = placesTo pg T k ++ [(pg, (k : Int))] := by
  unfold placesTo
  rw [List.range_succ, List.filterMap_append]
  simp [h]

theorem placesTo_length (pg : Int) (T : List (Option Tup)) (k : Nat) : (placesTo pg T k).length ≤ k := by
  unfold placesTo
  exact Nat.le_trans (List.length_filterMap_le _ _) (by simp)

theorem mem_placesTo {pg : Int} {T : List (Option Tup)} {k : Nat} {p : Int × Int} (h : p ∈ placesTo pg T k) : p.1 = pg ∧ ∃ t, tupAt T p.2 = some t := by
  unfold placesTo at h
  rw [List.mem_filterMap] at h
  obtain ⟨s, _, hs⟩ := h
  split at hs
  · rename_i h2
    injection hs with hs
    subst hs
    obtain ⟨t, ht⟩ := Option.isSome_iff_exists.1 h2
    exact ⟨rfl, t, by rw [tupAt_nat]; exact ht⟩
  · cases hs

end Go.Lap
namespace Go.Proofs.YtdeekopdhgjanaaGreatDoor
open Go.RowKit Go.Lap

/-- A row of places that grows. -/
structure TidsW (w wr : World) (v : Value) (l : List (Int × Int)) : Prop where
  quiet : Quiet w wr
  row : TidsAt wr v l
  own : ∀ k, v.ownBlock = some k → w.heap.size ≤ k

section
variable {w wr w' : World} {v : Value} {l : List (Int × Int)}
theorem TidsW.start (h : Quiet w wr) : TidsW w wr (.slice none 0 0) [] := ⟨h, World.ownsRow_nil _ _ _ _, (fun _ x => by cases x)⟩
theorem TidsW.quietly (h : TidsW w wr v l) (hq : Quiet wr w') : TidsW w w' v l := ⟨h.quiet.trans hq, owns_kept h.row hq (fun _ _ x => x), h.own⟩
theorem TidsW.step {w4 : World} {v' : Value} {p : Int × Int} (h : TidsW w wr v l) (hg : Grew (wr.alloc (.cells #[.int .i64 p.1, .int .i64 p.2] 42)) w4 42 2 v v' (l.length + 1) (tidsV l ++ tidsV [p])) : TidsW w w4 v' (l ++ [p]) := by
  have hsz := h.quiet.size
  refine ⟨(h.quiet.alloc _).trans' hg.only (fun k hk e => by have := h.own k e; omega), ?_, fun k e => ?_⟩
  · unfold TidsAt
    rw [List.length_append, tidsV_append]
    exact hg.own
  · rcases hg.loc with x | x
    · rw [x] at e; exact h.own k e
    · rw [x] at e; injection e with e; simp only [World.size_alloc] at e; omega
theorem TidsW.post (h : TidsW w wr v l) : ChainPost w l (.returned v) wr := ⟨v, rfl, h.quiet, h.own, h.row⟩
end

set_option maxHeartbeats 1000000 in
set_option maxRecDepth 100000 in
theorem plist_walk (h0 pp : Option Addr) (n : Int) (T : List (Option Tup)) (w : World) (hT : T.length ≤ 127)
    (hpg : ∀ W : World, Quiet w W → Calls Tryz.prog 59 #[.pointer h0, .int .i64 n] W fun e w' => e = .returned (.pointer pp) ∧ W = w')
    (hsl : ∀ W : World, Quiet w W → Calls Tryz.prog 87 #[.pointer pp] W fun e w' => e = .returned (.int .i64 (T.length : Int)) ∧ W = w')
    (hg0 : ∀ (W : World) (i : Int), Quiet w W → tupAt T i = none → Calls Tryz.prog 81 #[.pointer pp, .int .i64 i] W (GetNone W))
    (hg1 : ∀ (W : World) (i : Int) (t : Tup), Quiet w W → tupAt T i = some t → Calls Tryz.prog 81 #[.pointer pp, .int .i64 i] W (GetSome W t)) :
    Calls Tryz.prog 57 #[.pointer h0, .int .i64 n] w (ChainPost w (placesTo n T T.length)) := by
  have HPG := Lib.hid hpg
  have HSL := Lib.hid hsl
  have HG0 := Lib.hid hg0
  have HG1 := Lib.hid hg1
  obtain ⟨m, hm⟩ : ∃ m, T.length = m := ⟨_, rfl⟩
  rw [hm] at hT HSL ⊢
  have HM := Lib.hid hm
  clear hpg hsl hg0 hg1 hm
  go_enter Tryz.func57, Tryz.ntmps57
  go_wp2_with fail
  refine (HPG.out _ (Only.refl _ _)).mono ?_
  rintro e w1 ⟨rfl, rfl⟩
  go_wp2_with fail
  refine (HSL.out _ (Only.refl _ _)).mono ?_
  rintro e w1 ⟨rfl, rfl⟩
  go_wp2_with fail
  go_loopw [15, 5, 7, 8, 9] (fun c cv _ _ _ wr => ∃ (k : Nat) (v' : Value), k ≤ m ∧ c = .int .i64 (k : Int) ∧ cv = v' ∧ TidsW w wr v' (placesTo n T k)) (fun c _ _ _ _ _ => m - (intOf c).toNat)
  case atStart => exact ⟨0, _, Nat.zero_le _, rfl, rfl, TidsW.start (Only.refl _ _)⟩
  case round =>
    obtain ⟨k, v', hk, rfl, rfl, hW⟩ := hrel
    have HW := Lib.hid hW
    clear hW
    by_cases hlt : k < m
    · have hle := placesTo_length n T k
      rcases hg : tupAt T (k : Int) with _ | t
      · have HGT := Lib.hid (HG0.out wr (k : Int) HW.out.quiet hg)
        have HP := Lib.hid (placesTo_none (pg := n) (by rw [← tupAt_nat]; exact hg))
        clear hg
        go_wp2_with fail
        refine HGT.out.mono ?_
        rintro e w2 ⟨rfl, hq2⟩
        have HW2 := Lib.hid ((HW.out.quietly hq2).quietly ((Only.refl (fun _ => False) w2).alloc (.cells #[.int .u64 0, .int .u64 0, .int .u64 0, .int .i64 0, .int .i64 0, .slice none 0 0] 86)))
        clear hq2 HGT HW
        go_wp2
        go_roundw
        case rel => exact ⟨k + 1, _, by omega, by go_num, rfl, by rw [HP.out]; exact HW2.out⟩
        case measure => simp [intOf]; omega
      · have HGT := Lib.hid (HG1.out wr (k : Int) t HW.out.quiet hg)
        have HP := Lib.hid (placesTo_some (pg := n) (by rw [← tupAt_nat]; exact hg))
        obtain ⟨l, hl⟩ : ∃ l, placesTo n T k = l := ⟨_, rfl⟩
        rw [hl] at HP HW hle
        clear hg hl
        go_wp2_with fail
        refine HGT.out.mono ?_
        rintro e w2 ⟨A2, c2, rfl, hf2⟩
        unfold tupV
        have HW2 := Lib.hid ((HW.out.quietly hf2.quiet).quietly ((Only.refl (fun _ => False) w2).alloc (.cells #[.int .u64 (t.row : Int), .int .u64 (t.xmin : Int), .int .u64 (t.xmax : Int), .int .i64 t.pg, .int .i64 t.sl, .slice A2 t.data.length c2] 86)))
        clear hf2 HGT HW
        go_upto_region 8 with fail
        generalize w2.alloc (.cells #[.int .u64 (t.row : Int), .int .u64 (t.xmin : Int), .int .u64 (t.xmax : Int), .int .i64 t.pg, .int .i64 t.sl, .slice A2 t.data.length c2] 86) = wa at HW2 ⊢
        have HROW := Lib.hid (owns_kept HW2.out.row ((Only.refl (fun _ => False) wa).alloc (.cells #[.int .i64 n, .int .i64 (k : Int)] 42)) (fun _ _ x => x))
        go_wp2_with (at_builtin; refine app elem_tid rfl (.tmp 25) (.tmp 29) rfl rfl HROW.out rfl (tids_new _ (n, (k : Int))) (one_tids [(n, (k : Int))]) (by unfold maxLen; omega) (by omega) ?_)
        intro v4 w4 hg4
        have HST := Lib.hid (HW2.out.step (p := (n, (k : Int))) hg4)
        clear hg4 HROW
        go_wp2
        go_roundw
        case rel => exact ⟨k + 1, _, by omega, by go_num, rfl, by rw [HP.out]; exact HST.out⟩
        case measure => simp [intOf]; omega
    · obtain rfl : k = m := by omega
      go_wp2
      go_ret
      exact HW.out.post

theorem plist_out (h0 : Option Addr) (n : Int) (w : World) (hpg : ∀ W : World, Quiet w W → Calls Tryz.prog 59 #[.pointer h0, .int .i64 n] W fun e w' => e = .returned (.pointer none) ∧ W = w') :
    Calls Tryz.prog 57 #[.pointer h0, .int .i64 n] w (ChainPost w []) :=
  plist_walk h0 none n [] w (by simp) hpg (fun W _ => page_slots_nil W) (fun W i _ _ => page_get_nil i W) (fun W i t _ h => by rw [tupAt_nil] at h; cases h)

section
variable {w : World} {hb pb : Nat} {F : Nat → Prop} {H : List (List (Option Tup))}

theorem heap_plist_none (n : Int) (h : HeapIs w hb pb F H) (hn : n < 0 ∨ (H.length : Int) ≤ n) : Calls Tryz.prog 57 #[.pointer (some ⟨hb, 0, none⟩), .int .i64 n] w (ChainPost w []) := by
  obtain ⟨v, ps, rb, h⟩ := h
  exact plist_out _ n w (fun W hq => heap_page_none n (h.kept hq (fun _ _ x => x)) hn)

theorem heap_plist_nil (n : Int) (w : World) : Calls Tryz.prog 57 #[.pointer none, .int .i64 n] w (ChainPost w []) := plist_out _ n w (fun W _ => heap_page_nil n W)

theorem heap_plist (k : Nat) (T : List (Option Tup)) (h : HeapIs w hb pb F H) (hT : H[k]? = some T) : Calls Tryz.prog 57 #[.pointer (some ⟨hb, 0, none⟩), .int .i64 (k : Int)] w (ChainPost w (placesTo (k : Int) T T.length)) := by
  obtain ⟨v, ps, rb, h⟩ := h
  obtain ⟨p, hp, hpt⟩ := h.pg k T hT
  exact plist_walk _ (some ⟨p, 0, none⟩) k T w hpt.len (fun W hq => heap_page_some k p (h.kept hq (fun _ _ x => x)) hp) (fun W hq => pageT_slots p T W (hpt.kept hq (fun x => x))) (fun W i hq hi => pageT_get_none p T i W (hpt.kept hq (fun x => x)) hi) (fun W i t hq hi => pageT_get_some p t T i W (hpt.kept hq (fun x => x)) hi)
end
end Go.Proofs.YtdeekopdhgjanaaGreatDoor
namespace Go.Lap

end Go.Lap
namespace Go.Proofs.YtdeekopdhgjanaaGreatDoor
open Go.RowKit Go.Lap

end Go.Proofs.YtdeekopdhgjanaaGreatDoor

namespace Go.Proofs.YtdeekopdhgjanaaGreatDoor
open Go.RowKit Go.Lap

/-- A snapshot as a value; its row of numbers lies in S. -/
structure SnapV (w : World) (S : Nat → Prop) (A : Option Addr) (c : Nat) (s : Snap) : Prop where
  row : Rd w S 1 A s.run.length (u64sV s.run)
  cap : s.run.length ≤ c ∧ c ≤ maxLen
  num : U64 s.own ∧ U64 s.xmin ∧ U64 s.xmax ∧ ∀ x ∈ s.run, U64 x

def snapV (s : Snap) (A : Option Addr) (c : Nat) : Value := .agg #[.int .u64 (s.own : Int), .int .u64 (s.xmin : Int), .int .u64 (s.xmax : Int), .slice A s.run.length c]

theorem SnapV.kept {S T : Nat → Prop} {w w' : World} {A : Option Addr} {c : Nat} {s : Snap} (h : SnapV w S A c s) (ho : Only T w w') (hs : ∀ k, S k → ¬ T k) : SnapV w' S A c s := ⟨h.row.kept ho hs, h.cap, h.num⟩
theorem SnapV.mono {S T : Nat → Prop} {w : World} {A : Option Addr} {c : Nat} {s : Snap} (h : SnapV w S A c s) (hs : ∀ k, S k → T k) : SnapV w T A c s := ⟨h.row.mono hs, h.cap, h.num⟩

set_option maxHeartbeats 400000 in
set_option maxRecDepth 100000 in
theorem index_u64 {S : Nat → Prop} {A : Option Addr} {c x : Nat} {l : List Nat} {w : World} (h : Rd w S 1 A l.length (u64sV l)) (hc : l.length ≤ c) (hm : c ≤ maxLen) :
    Calls Tryz.prog 139 #[.slice A l.length c, .int .u64 (x : Int)] w fun e w' => (∃ z : Int, e = .returned (.int .i64 z) ∧ decide (0 ≤ z) = decide (x ∈ l)) ∧ w = w' := by
  unfold maxLen at hm
  obtain ⟨n, hn⟩ : ∃ n, l.length = n := ⟨_, rfl⟩
  have HR := Lib.hid h
  rw [hn] at HR hc ⊢
  have HN := Lib.hid hn
  clear h hn
  obtain ⟨POST, hP⟩ : ∃ P : Ending → Prop, (fun e => ∃ z : Int, e = .returned (.int .i64 z) ∧ decide (0 ≤ z) = decide (x ∈ l)) = P := ⟨_, rfl⟩
  have HP := Lib.hid hP
  show Calls _ _ _ _ fun e w' => (fun e => ∃ z : Int, e = .returned (.int .i64 z) ∧ decide (0 ≤ z) = decide (x ∈ l)) e ∧ w = w'
  rw [hP]
  clear hP
  go_enter Tryz.func139, Tryz.ntmps139
  go_wp2
  go_loop [8, 5] (fun c _ => ∃ k : Nat, k ≤ n ∧ c = .int .i64 (k : Int) ∧ ∀ j, j < k → l[j]? ≠ some x) (fun c _ => n - (intOf c).toNat)
  case atStart => exact ⟨0, Nat.zero_le _, rfl, fun j hj => absurd hj (by omega)⟩
  case round =>
    obtain ⟨k, hk, rfl, hno⟩ := hrel
    have HNO := Lib.hid hno
    clear hno
    by_cases hlt : k < n
    · obtain ⟨b, off, u, rfl, _, hu, hcell⟩ := HR.out.get hlt
      obtain ⟨y, hy, rfl⟩ : ∃ y, l[k]? = some y ∧ u = .int .u64 (y : Int) := by
        unfold u64sV at hu
        rw [List.getElem?_map] at hu
        rcases h : l[k]? with _ | y
        · rw [h] at hu; cases hu
        · rw [h] at hu; injection hu with hu; exact ⟨y, rfl, hu.symm⟩
      have HY := Lib.hid hy
      clear hu hy
      by_cases hxy : x = y
      · subst hxy
        have HE : Hid (POST (.returned (.int .i64 (k : Int)))) := by
          rw [← HP.out]
          exact ⟨k, rfl, by rw [decide_eq_decide]; exact ⟨fun _ => List.mem_of_getElem? HY.out, fun _ => by omega⟩⟩
        go_wp2
        go_ret
        exact ⟨HE.out, rfl⟩
      · have hne : ¬ (x : Int) = y := by omega
        have HK : Hid (∀ j, j < k + 1 → l[j]? ≠ some x) := fun j hj e => by
          rcases Nat.lt_or_ge j k with a | a
          · exact HNO.out j a e
          · obtain rfl : j = k := by omega
            rw [HY.out] at e
            injection e with e
            exact hxy e.symm
        clear hxy
        go_wp2
        go_round
        case rel => exact ⟨k + 1, by omega, by go_num, HK.out⟩
        case measure => simp [intOf]; omega
    · have HE : Hid (POST (.returned (.int .i64 (-1)))) := by
        rw [← HP.out]
        refine ⟨-1, rfl, ?_⟩
        rw [decide_eq_decide]
        refine ⟨fun h => by omega, fun h => ?_⟩
        obtain ⟨j, hj⟩ := List.mem_iff_getElem?.1 h
        have := (List.getElem?_eq_some_iff.1 hj).1
        have hn := HN.out
        exact absurd hj (HNO.out j (by omega))
      obtain rfl : k = n := by omega
      go_wp2
      go_ret
      exact ⟨HE.out, rfl⟩

set_option maxHeartbeats 400000 in
set_option maxRecDepth 100000 in
theorem contains_u64 {S : Nat → Prop} {A : Option Addr} {c x : Nat} {l : List Nat} {w : World} (h : Rd w S 1 A l.length (u64sV l)) (hc : l.length ≤ c) (hm : c ≤ maxLen) :
    Calls Tryz.prog 116 #[.slice A l.length c, .int .u64 (x : Int)] w fun e w' => e = .returned (.bool (decide (x ∈ l))) ∧ w = w' := by
  have HX := Lib.hid (index_u64 (x := x) h hc hm)
  obtain ⟨r, hr⟩ : ∃ r, decide (x ∈ l) = r := ⟨_, rfl⟩
  rw [hr] at HX ⊢
  clear h hc hm hr
  go_enter Tryz.func116, Tryz.ntmps116
  go_wp2_with fail
  refine HX.out.mono ?_
  rintro e w1 ⟨⟨z, rfl, hz⟩, rfl⟩
  go_wp2
  go_ret
  exact ⟨rfl, rfl⟩

def BoolQ (w : World) (b : Bool) (e : Ending) (w' : World) : Prop := e = .returned (.bool b) ∧ Quiet w w'

section
variable {w : World} {F S : Nat → Prop} {lb c : Nat} {L : List Nat} {A : Option Addr} {s : Snap}

set_option maxHeartbeats 1000000 in
set_option maxRecDepth 100000 in
theorem snap_sees (x : Nat) (h : LogAt w F lb L) (hs : SnapV w S A c s) (hx : U64 x) :
    Calls Tryz.prog 82 #[.pointer (some ⟨lb, 0, none⟩), snapV s A c, .int .u64 (x : Int)] w (BoolQ w (seesS L s x)) := by
  have HQ : Hid (Quiet w (w.alloc (.cells #[.int .u64 (s.own : Int), .int .u64 (s.xmin : Int), .int .u64 (s.xmax : Int), .slice A s.run.length c] 65))) := (Only.refl _ _).alloc _
  have HC := Lib.hid (contains_u64 (x := x) (hs.kept HQ.out (fun _ _ x => x)).row hs.cap.1 hs.cap.2)
  have HST := Lib.hid (log_state (h.kept HQ.out (fun _ _ x => x)) hx)
  have HS := Lib.hid (rfl : seesS L s x = seesS L s x)
  unfold snapV
  obtain ⟨n, hn⟩ : ∃ n, s.run.length = n := ⟨_, rfl⟩
  rw [hn] at HC HQ HST ⊢
  obtain ⟨r, hr⟩ : ∃ r, seesS L s x = r := ⟨_, rfl⟩
  have HR := Lib.hid hr
  rw [hr]
  clear h hs hx hn HS hr
  by_cases h1 : x = s.own
  · have e1 : (x : Int) = s.own := by omega
    have HB := Lib.hid (show r = true by
      rw [← HR.out]
      unfold seesS
      rw [decide_eq_true h1]; rfl)
    rw [HB.out]
    clear h1 HB HR
    go_enter Tryz.func82, Tryz.ntmps82
    go_wp2
    go_ret
    exact ⟨rfl, HQ.out⟩
  · have e1 : ¬ (x : Int) = s.own := by omega
    by_cases h2 : x < s.xmax
    · have d2 : decide (x < s.xmax) = true := decide_eq_true h2
      by_cases h3 : x ∈ s.run
      · have HB := Lib.hid (show r = false by
          rw [← HR.out]
          unfold seesS
          rw [decide_eq_false h1, decide_eq_true h3]; simp)
        rw [decide_eq_true h3] at HC
        rw [HB.out]
        clear h1 h3 HB HR
        go_enter Tryz.func82, Tryz.ntmps82
        go_wp2_with fail
        refine HC.out.mono ?_
        rintro e w1 ⟨rfl, rfl⟩
        go_wp2
        go_ret
        exact ⟨rfl, HQ.out⟩
      · have HB := Lib.hid (show r = decide (stateL L x = 2) by
          rw [← HR.out]
          unfold seesS
          rw [decide_eq_false h1, decide_eq_true h2, decide_eq_false h3]; simp)
        rw [decide_eq_false h3] at HC
        obtain ⟨st, hst⟩ : ∃ st, stateL L x = st := ⟨_, rfl⟩
        rw [hst] at HB HST
        rw [HB.out, show decide (st = 2) = decide ((st : Int) = 2) by rw [decide_eq_decide]; omega]
        clear h1 h3 hst HB HR
        go_enter Tryz.func82, Tryz.ntmps82
        go_wp2_with fail
        refine HC.out.mono ?_
        rintro e w1 ⟨rfl, rfl⟩
        go_wp2_with fail
        refine HST.out.mono ?_
        rintro e w1 ⟨rfl, m, rfl⟩
        go_wp2
        go_ret
        exact ⟨rfl, HQ.out.drewN m⟩
    · have d2 : decide (x < s.xmax) = false := decide_eq_false h2
      have HB := Lib.hid (show r = false by
        rw [← HR.out]
        unfold seesS
        rw [decide_eq_false h1, decide_eq_false h2]; simp)
      rw [HB.out]
      clear h1 HB HR
      go_enter Tryz.func82, Tryz.ntmps82
      go_wp2
      go_ret
      exact ⟨rfl, HQ.out⟩

/-- What a version's box holds. -/
abbrev tupCells (t : Tup) (At : Option Addr) (ct : Nat) : Array Value := #[.int .u64 t.row, .int .u64 t.xmin, .int .u64 t.xmax, .int .i64 t.pg, .int .i64 t.sl, .slice At t.data.length ct]
abbrev snapCells (s : Snap) (A : Option Addr) (c : Nat) : Array Value := #[.int .u64 (s.own : Int), .int .u64 (s.xmin : Int), .int .u64 (s.xmax : Int), .slice A s.run.length c]

set_option maxHeartbeats 1000000 in
set_option maxRecDepth 100000 in
theorem snap_visible (t : Tup) (At : Option Addr) (ct : Nat) (h : LogAt w F lb L) (hs : SnapV w S A c s) (h1 : U64 t.xmin) (h2 : U64 t.xmax) :
    Calls Tryz.prog 51 #[.pointer (some ⟨lb, 0, none⟩), snapV s A c, tupV t At ct] w (BoolQ w (visS L s t.xmin t.xmax)) := by
  have HQ : Hid (Quiet w ((w.alloc (.cells (snapCells s A c) 65)).alloc (.cells (tupCells t At ct) 86))) := ((Only.refl _ _).alloc _).alloc _
  have HS1 : Hid (∀ W, Quiet w W → Calls Tryz.prog 82 #[.pointer (some ⟨lb, 0, none⟩), snapV s A c, .int .u64 (t.xmin : Int)] W (BoolQ W (seesS L s t.xmin))) := fun W hq => snap_sees _ (h.kept hq (fun _ _ x => x)) (hs.kept hq (fun _ _ x => x)) h1
  have HS2 : Hid (∀ W, Quiet w W → Calls Tryz.prog 82 #[.pointer (some ⟨lb, 0, none⟩), snapV s A c, .int .u64 (t.xmax : Int)] W (BoolQ W (seesS L s t.xmax))) := fun W hq => snap_sees _ (h.kept hq (fun _ _ x => x)) (hs.kept hq (fun _ _ x => x)) h2
  have HT := Lib.hid (two_new w (.cells (snapCells s A c) 65) (.cells (tupCells t At ct) 86))
  have HN := Lib.hid (alloc_old (alloc_new w (.cells (snapCells s A c) 65)) (.cells (tupCells t At ct) 86))
  unfold visS
  unfold snapV tupV at *
  generalize seesS L s t.xmin = r1 at HS1 ⊢
  generalize seesS L s t.xmax = r2 at HS2 ⊢
  clear h hs h1 h2
  rcases r1 with _ | _
  · go_enter Tryz.func51, Tryz.ntmps51
    go_wp2_with fail
    refine (HS1.out _ HQ.out).mono ?_
    rintro e w1 ⟨rfl, hq1⟩
    have HQ1 := Lib.hid (HQ.out.trans hq1)
    clear hq1
    go_wp2
    go_ret
    exact ⟨rfl, HQ1.out⟩
  · by_cases h0 : t.xmax = 0
    · have D0 := Lib.hid (show (t.xmax : Int) = 0 by omega)
      rw [decide_eq_true h0]
      clear h0
      go_enter Tryz.func51, Tryz.ntmps51
      go_wp2_with fail
      refine (HS1.out _ HQ.out).mono ?_
      rintro e w1 ⟨rfl, hq1⟩
      have HQ1 := Lib.hid (HQ.out.trans hq1)
      have b1 := hq1.get (by exact HT.out) (fun x => x)
      have c1 := cell_of b1 2
      simp only [List.getElem?_toArray, List.getElem?_cons_succ, List.getElem?_cons_zero, D0.out] at c1
      clear hq1 b1
      go_wp2
      go_ret
      exact ⟨rfl, HQ1.out⟩
    · have d0 : ((t.xmax : Int) == 0) = false := beq_false_of_ne (by omega)
      rw [decide_eq_false h0, Bool.true_and, Bool.false_or]
      clear h0
      go_enter Tryz.func51, Tryz.ntmps51
      go_wp2_with fail
      refine (HS1.out _ HQ.out).mono ?_
      rintro e w1 ⟨rfl, hq1⟩
      have HQ1 := Lib.hid (HQ.out.trans hq1)
      have b1 := hq1.get (by exact HT.out) (fun x => x)
      have b0 := hq1.get (by exact HN.out) (fun x => x)
      have c1 := cell_of b1 2
      have a0 := cell_of b0 0
      have a1 := cell_of b0 1
      have a2 := cell_of b0 2
      have a3 := cell_of b0 3
      simp only [List.getElem?_toArray, List.getElem?_cons_succ, List.getElem?_cons_zero] at c1 a0 a1 a2 a3
      clear hq1 b1 b0
      go_wp2_with fail
      refine (HS2.out _ HQ1.out).mono ?_
      rintro e w2 ⟨rfl, hq2⟩
      have HQ2 := Lib.hid (HQ1.out.trans hq2)
      clear hq2
      go_wp2
      go_ret
      exact ⟨rfl, HQ2.out⟩

set_option maxHeartbeats 1000000 in
set_option maxRecDepth 100000 in
theorem snap_free (t : Tup) (At : Option Addr) (ct : Nat) (h : LogAt w F lb L) (hs : SnapV w S A c s) (h1 : U64 t.xmin) (h2 : U64 t.xmax) :
    Calls Tryz.prog 58 #[.pointer (some ⟨lb, 0, none⟩), snapV s A c, tupV t At ct] w fun e w' => e = .returned (.int .i64 (freeS L s t.xmin t.xmax : Int)) ∧ Quiet w w' := by
  have HQ : Hid (Quiet w ((w.alloc (.cells (snapCells s A c) 65)).alloc (.cells (tupCells t At ct) 86))) := ((Only.refl _ _).alloc _).alloc _
  have HV : Hid (∀ W, Quiet w W → Calls Tryz.prog 51 #[.pointer (some ⟨lb, 0, none⟩), snapV s A c, tupV t At ct] W (BoolQ W (visS L s t.xmin t.xmax))) := fun W hq => snap_visible t At ct (h.kept hq (fun _ _ x => x)) (hs.kept hq (fun _ _ x => x)) h1 h2
  have HST : Hid (∀ W, Quiet w W → Calls Tryz.prog 62 #[.pointer (some ⟨lb, 0, none⟩), .int .u64 (t.xmax : Int)] W fun e w' => e = .returned (.int .i64 (stateL L t.xmax : Int)) ∧ ∃ n, w' = W.drewN n) := fun W hq => log_state (h.kept hq (fun _ _ x => x)) h2
  have HT := Lib.hid (two_new w (.cells (snapCells s A c) 65) (.cells (tupCells t At ct) 86))
  have HN := Lib.hid (alloc_old (alloc_new w (.cells (snapCells s A c) 65)) (.cells (tupCells t At ct) 86))
  unfold freeS
  unfold snapV tupV at *
  generalize visS L s t.xmin t.xmax = r at HV ⊢
  generalize stateL L t.xmax = st at HST ⊢
  clear h hs h1 h2
  by_cases h0 : t.xmax = 0
  · have d0 : ((t.xmax : Int) != 0) = false := by simp; omega
    rw [if_neg (fun x => x.1 h0)]
    clear h0 HST
    rcases r with _ | _
    all_goals
      go_enter Tryz.func58, Tryz.ntmps58
      go_wp2_with fail
      refine (HV.out _ HQ.out).mono ?_
      rintro e w1 ⟨rfl, hq1⟩
      have HQ1 := Lib.hid (HQ.out.trans hq1)
      clear hq1
      go_wp2
      go_ret
      exact ⟨rfl, HQ1.out⟩
  · have d0 : ((t.xmax : Int) != 0) = true := by simp; omega
    by_cases ho : t.xmax = s.own
    · have d1 : ((t.xmax : Int) != s.own) = false := by simp; omega
      rw [if_neg (fun x => x.2.1 ho)]
      clear ho h0 HST
      rcases r with _ | _
      all_goals
        go_enter Tryz.func58, Tryz.ntmps58
        go_wp2_with fail
        refine (HV.out _ HQ.out).mono ?_
        rintro e w1 ⟨rfl, hq1⟩
        have HQ1 := Lib.hid (HQ.out.trans hq1)
        clear hq1
        go_wp2
        go_ret
        exact ⟨rfl, HQ1.out⟩
    · have d1 : ((t.xmax : Int) != s.own) = true := by simp; omega
      by_cases h3 : st = 3
      · have d2 : ((st : Int) != 3) = false := by simp; omega
        rw [if_neg (fun x => x.2.2 h3)]
        clear ho h0 h3
        rcases r with _ | _
        all_goals
          go_enter Tryz.func58, Tryz.ntmps58
          go_wp2_with fail
          refine (HST.out _ HQ.out).mono ?_
          rintro e w1 ⟨rfl, n, rfl⟩
          go_wp2_with fail
          refine (HV.out _ (HQ.out.drewN n)).mono ?_
          rintro e w1 ⟨rfl, hq1⟩
          have HQ1 := Lib.hid ((HQ.out.drewN n).trans hq1)
          clear hq1
          go_wp2
          go_ret
          exact ⟨rfl, HQ1.out⟩
      · have d2 : ((st : Int) != 3) = true := by simp; omega
        rw [if_pos ⟨h0, ho, h3⟩]
        clear ho h0 h3 HV
        go_enter Tryz.func58, Tryz.ntmps58
        go_wp2_with fail
        refine (HST.out _ HQ.out).mono ?_
        rintro e w1 ⟨rfl, n, rfl⟩
        go_wp2
        go_ret
        exact ⟨rfl, HQ.out.drewN n⟩

end

end Go.Proofs.YtdeekopdhgjanaaGreatDoor

namespace Go.Lap
/-- Of the first k of those that run. -/
def takeK (own n : Nat) (R : List Nat) (k : Nat) : Nat × List Nat := (leastR own n (R.take k), others own (R.take k))

theorem takeK_succ {own n k x : Nat} {R : List Nat} (h : R[k]? = some x) : takeK own n R (k + 1) = if x = own then takeK own n R k else (min (takeK own n R k).1 x, (takeK own n R k).2 ++ [x]) := by
  unfold takeK leastR others
  rw [List.take_add_one, h]
  by_cases e : x = own
  · rw [if_pos e]; simp [e]
  · rw [if_neg e]; simp [e]

theorem takeK_len (own n : Nat) (R : List Nat) (k : Nat) : (takeK own n R k).2.length ≤ k := by
  unfold takeK others
  exact Nat.le_trans (List.length_filter_le _ _) (List.length_take_le _ _)

theorem takeK_least (own n : Nat) (R : List Nat) (k : Nat) : (takeK own n R k).1 ≤ n := by
  unfold takeK leastR
  generalize R.take k = M
  show List.foldl _ n M ≤ n
  have key : ∀ (M : List Nat) (a : Nat), List.foldl (fun m x => if x = own then m else min m x) a M ≤ a := by
    intro M
    induction M with
    | nil => intro a; exact Nat.le_refl _
    | cons y M ih =>
      intro a
      rw [List.foldl_cons]
      refine Nat.le_trans (ih _) ?_
      split <;> omega
  exact key M n

theorem takeK_all (own n : Nat) (R : List Nat) : takeK own n R R.length = (leastR own n R, others own R) := by
  unfold takeK
  rw [List.take_length]
end Go.Lap
namespace Go.Proofs.YtdeekopdhgjanaaGreatDoor
open Go.RowKit Go.Lap

/-- In the midst of Take: the result's box, the snapshot's, its row; the row of those that run lies below B. -/
structure TakeW (w wr : World) (B : Nat) (A : Option Addr) (R : List Nat) (v : Value) (own n : Nat) (r : Nat × List Nat) : Prop where
  quiet : Quiet w wr
  res : wr.heap[w.heap.size]? = some (.cells #[.int .u64 0, .int .u64 0, .int .u64 0, .slice none 0 0] 65 (0, 0))
  box : wr.heap[w.heap.size + 1]? = some (.cells #[.int .u64 (own : Int), .int .u64 (r.1 : Int), .int .u64 (n : Int), v] 65 (0, 0))
  row : wr.ownsRow 0 28 1 v r.2.length (u64sV r.2)
  new : ∀ k, v.ownBlock = some k → B ≤ k
  src : Rd wr (fun k => w.heap.size + 1 < k ∧ k < B) 1 A R.length (u64sV R)
  big : w.heap.size + 1 < B ∧ B ≤ wr.heap.size

section
variable {w wr : World} {B own n : Nat} {A : Option Addr} {R : List Nat} {v : Value} {r : Nat × List Nat}
theorem TakeW.step {w4 : World} {v4 : Value} {x : Nat} (h : TakeW w wr B A R v own n r) (hg : Grew (wr.alloc (.cells #[.int .u64 (x : Int)] 28)) w4 28 1 v v4 (r.2.length + 1) (u64sV r.2 ++ u64sV [x])) (z : Int) (hz : z = ((min r.1 x : Nat) : Int)) :
    TakeW w ((w4.setCell ⟨w.heap.size + 1, 3, none⟩ v4).setCell ⟨w.heap.size + 1, 1, none⟩ (.int .u64 z)) B A R v4 own n (min r.1 x, r.2 ++ [x]) := by
  subst hz
  have hb := h.big
  have hnew : ∀ k, v4.ownBlock = some k → B ≤ k := fun k e => by
    rcases hg.loc with y | y
    · rw [y] at e; exact h.new k e
    · rw [y] at e; injection e with e; simp only [World.size_alloc] at e; omega
  have hqa : Quiet wr (wr.alloc (.cells #[.int .u64 (x : Int)] 28)) := (Only.refl _ _).alloc _
  have ho : Only (· = w.heap.size + 1) w4 ((w4.setCell ⟨w.heap.size + 1, 3, none⟩ v4).setCell ⟨w.heap.size + 1, 1, none⟩ (.int .u64 ((min r.1 x : Nat) : Int))) := ((Only.refl (· = w.heap.size + 1) w4).setCell (p := ⟨w.heap.size + 1, 3, none⟩) (fun _ => rfl) _).setCell (p := ⟨w.heap.size + 1, 1, none⟩) (fun _ => rfl) _
  have hv : ∀ k, v.ownBlock = some k → B ≤ k := h.new
  have b4 := hg.only.get (hqa.get h.box (fun x => x)) (fun e => by have := hv _ e; omega)
  have hs4 : w.heap.size + 1 < w4.heap.size := lt_of_get b4
  have hz4 := hg.only.size
  simp only [World.size_alloc] at hz4
  refine ⟨((h.quiet.trans hqa).trans' hg.only (fun k hk e => by have := hv k e; omega)).trans' ho (fun k hk e => by omega), ?_, ?_, ?_, hnew, ?_, ⟨hb.1, by have := ho.size; omega⟩⟩
  · exact ho.get (hg.only.get (hqa.get h.res (fun x => x)) (fun e => by have := hv _ e; omega)) (by omega)
  · rw [set_same (set_same b4 3 _) 1 _]
    rfl
  · rw [List.length_append, show u64sV (r.2 ++ [x]) = u64sV r.2 ++ u64sV [x] by simp [u64sV]]
    exact owns_kept hg.own ho (fun k e y => by have := hnew k e; omega)
  · exact (Rd.kept (T := fun k => v.ownBlock = some k) (h.src.kept hqa (fun _ _ x => x)) hg.only (fun k y e => by have := hv k e; omega)).kept ho (fun k y e => by omega)

theorem TakeW.cells (h : TakeW w wr B A R v own n r) : wr.cell? ⟨w.heap.size + 1, 0, none⟩ = some (.int .u64 (own : Int)) ∧ wr.cell? ⟨w.heap.size + 1, 1, none⟩ = some (.int .u64 (r.1 : Int)) ∧ wr.cell? ⟨w.heap.size + 1, 2, none⟩ = some (.int .u64 (n : Int)) ∧ wr.cell? ⟨w.heap.size + 1, 3, none⟩ = some v ∧ ∀ o, wr.frozen? ⟨w.heap.size + 1, o, none⟩ = false :=
  ⟨by rw [cell_of h.box]; rfl, by rw [cell_of h.box]; rfl, by rw [cell_of h.box]; rfl, by rw [cell_of h.box]; rfl, fun o => frozen_of h.box o⟩
theorem TakeW.zeros (h : TakeW w wr B A R v own n r) : wr.cell? ⟨w.heap.size, 0, none⟩ = some (.int .u64 0) ∧ wr.cell? ⟨w.heap.size, 1, none⟩ = some (.int .u64 0) ∧ wr.cell? ⟨w.heap.size, 2, none⟩ = some (.int .u64 0) ∧ wr.cell? ⟨w.heap.size, 3, none⟩ = some (.slice none 0 0) ∧ ∀ o, wr.frozen? ⟨w.heap.size, o, none⟩ = false :=
  ⟨by rw [cell_of h.res]; rfl, by rw [cell_of h.res]; rfl, by rw [cell_of h.res]; rfl, by rw [cell_of h.res]; rfl, fun o => frozen_of h.res o⟩
end

abbrev fourSet (w : World) (b : Nat) (v0 v1 v2 v3 : Value) : World := (((w.setCell ⟨b, 0, none⟩ v0).setCell ⟨b, 1, none⟩ v1).setCell ⟨b, 2, none⟩ v2).setCell ⟨b, 3, none⟩ v3
theorem fourSet_same {w : World} {b : Nat} {c0 c1 c2 c3 : Value} {t : TypeId} (h : w.heap[b]? = some (.cells #[c0, c1, c2, c3] t (0, 0))) (v0 v1 v2 v3 : Value) : (fourSet w b v0 v1 v2 v3).heap[b]? = some (.cells #[v0, v1, v2, v3] t (0, 0)) := by
  rw [set_same (set_same (set_same (set_same h _ _) _ _) _ _) _ _]
  rfl
theorem fourSet_only (w : World) (b : Nat) (v0 v1 v2 v3 : Value) : Only (· = b) w (fourSet w b v0 v1 v2 v3) :=
  ((((Only.refl (· = b) w).setCell (p := ⟨b, 0, none⟩) (fun _ => rfl) v0).setCell (p := ⟨b, 1, none⟩) (fun _ => rfl) v1).setCell (p := ⟨b, 2, none⟩) (fun _ => rfl) v2).setCell (p := ⟨b, 3, none⟩) (fun _ => rfl) v3

theorem info_snap : (Tryz.prog.info? 65).map (·.size) = some 4 := by kernel_rfl

theorem results_cellS {P : Program} {fn : Func} {p : Tmp} {ty : TypeId} (h : fn.results = #[.cell p ty]) (tmps : Array Value) (w : World) (g : Nat) (t : TypeId) (cs : Array Value) (fr : Nat × Nat) (d : TypeDesc)
    (hp : tmps.getD p undef = .pointer (some ⟨g, 0, none⟩)) (hg : w.heap[g]? = some (.cells cs t fr))
    (hu : P.underlying ty = some d) (hd : (match d with | .struct _ | .array _ _ => true | _ => false) = true) (hi : (P.info? ty).map (·.size) = some cs.size) :
    (results fn tmps).run P w = .ok (.agg cs) w := by
  have hp' : tmps[p]?.getD undef = .pointer (some ⟨g, 0, none⟩) := by simpa using hp
  simp [results, h, hp', asAddr, run_loadVar_row w g t ty cs fr d hg hu hd hi]

/-- A new snapshot. -/
def SnapPost (w : World) (s : Snap) (e : Ending) (w' : World) : Prop := ∃ A c, e = .returned (snapV s A c) ∧ Quiet w w' ∧ SnapV w' (fun k => w.heap.size ≤ k ∧ k < w'.heap.size) A c s

theorem TakeW.done {w wr : World} {B own n : Nat} {A A' : Option Addr} {c : Nat} {R : List Nat} {r : Nat × List Nat} (h : TakeW w wr B A R (.slice A' r.2.length c) own n r) (ho : U64 own) (hn : n ≤ 2000000) (hr : ∀ x ∈ r.2, U64 x) (h1 : r.1 ≤ n) (v0 v1 v2 v3 : Value) :
    Quiet w (fourSet wr w.heap.size v0 v1 v2 v3) ∧ SnapV (fourSet wr w.heap.size v0 v1 v2 v3) (fun k => w.heap.size ≤ k ∧ k < (fourSet wr w.heap.size v0 v1 v2 v3).heap.size) A' c ⟨own, r.1, n, r.2⟩ := by
  have hb := h.big
  obtain ⟨A5, c5, e5, hc, hcm, hrd⟩ := own_form h.row
  injection e5 with e5 _ e6
  subst e5 e6
  have hq := (fourSet_only wr w.heap.size v0 v1 v2 v3)
  refine ⟨h.quiet.trans' hq (fun k hk e => by omega), ⟨(hrd.kept hq (fun k e x => by have := h.new k e; omega)).mono (fun k e => ?_), ⟨hc, hcm⟩, ho, (show r.1 < 18446744073709551616 by omega), (show n < 18446744073709551616 by omega), hr⟩⟩
  have h2 := h.new k e
  have h3 := (h.row.lt k e).2
  have h4 := hq.size
  exact ⟨by omega, by omega⟩

set_option maxHeartbeats 1000000 in
set_option maxRecDepth 100000 in
theorem snap_take {w : World} {F : Nat → Prop} {lb own : Nat} {L : List Nat} (h : LogAt w F lb L) (hl : L.length ≤ 1000000) (ho : U64 own) :
    Calls Tryz.prog 19 #[.pointer (some ⟨lb, 0, none⟩), .int .u64 (own : Int)] w (SnapPost w (takeS L own)) := by
  have HN : Hid (∀ W, Quiet w W → Calls Tryz.prog 34 #[.pointer (some ⟨lb, 0, none⟩)] W fun e w' => e = .returned (.int .u64 ((L.length : Int) + 1)) ∧ ∃ n, w' = W.drewN n) := fun W hq => log_next (h.kept hq (fun _ _ x => x))
  have HALL : Hid (∀ W, Quiet w W → Calls Tryz.prog 36 #[.pointer (some ⟨lb, 0, none⟩)] W (NumsPost W (runsL L))) := fun W hq => log_all (h.kept hq (fun _ _ x => x)) hl
  unfold takeS
  have HRL : Hid (∀ x ∈ runsL L, U64 x) := fun x hx => by have := (runsL_le hx).2; unfold U64; omega
  have hr := runsK_length L L.length
  rw [runsK_all] at hr
  obtain ⟨n, hn⟩ : ∃ n, L.length + 1 = n := ⟨_, rfl⟩
  rw [show (L.length : Int) + 1 = (n : Int) by omega] at HN
  have hn2 : n ≤ 2000000 := by omega
  rw [hn]
  generalize runsL L = R at HALL hr HRL ⊢
  have hR : R.length ≤ 1000000 := by omega
  obtain ⟨sn, hsn⟩ : ∃ s : Snap, (⟨own, leastR own n R, n, others own R⟩ : Snap) = s := ⟨_, rfl⟩
  rw [hsn]
  have HSN := Lib.hid hsn
  clear h hn hl hr hsn
  go_enter Tryz.func19, Tryz.ntmps19
  go_wp2_with fail
  refine (HN.out _ ((Only.refl _ _).alloc _)).mono ?_
  rintro e w1 ⟨rfl, a, rfl⟩
  go_wp2_with fail
  refine (HN.out _ (((Only.refl _ _).alloc _).drewN _)).mono ?_
  rintro e w1 ⟨rfl, b, rfl⟩
  go_wp2_with fail
  have HQ0 : Hid (Quiet w (((w.alloc (.cells #[.int .u64 0, .int .u64 0, .int .u64 0, .slice none 0 0] 65)).drewN (a + b)).alloc (.cells #[.int .u64 (own : Int), .int .u64 (n : Int), .int .u64 (n : Int), .slice none 0 0] 65))) := (((Only.refl _ _).alloc _).drewN _).alloc _
  have HB1 := Lib.hid (two_new w (.cells #[.int .u64 0, .int .u64 0, .int .u64 0, .slice none 0 0] 65) (.cells #[.int .u64 (own : Int), .int .u64 (n : Int), .int .u64 (n : Int), .slice none 0 0] 65))
  have HB0 := Lib.hid (alloc_old (alloc_new w (.cells #[.int .u64 0, .int .u64 0, .int .u64 0, .slice none 0 0] 65)) (.cells #[.int .u64 (own : Int), .int .u64 (n : Int), .int .u64 (n : Int), .slice none 0 0] 65))
  refine (HALL.out _ HQ0.out).mono ?_
  rintro e w2 ⟨rv, rfl, hW⟩
  obtain ⟨A, c, rfl, hc, hcm, hrd⟩ := own_form hW.row
  have HT : Hid (TakeW w w2 w2.heap.size A R (.slice none 0 0) own n (takeK own n R 0)) := by
    have hz : w.heap.size + 1 < w2.heap.size := lt_of_get (hW.quiet.get (by exact HB1.out) (fun x => x))
    refine ⟨HQ0.out.trans hW.quiet, hW.quiet.get (by exact HB0.out) (fun x => x), hW.quiet.get (by exact HB1.out) (fun x => x), World.ownsRow_nil _ _ _ _, (fun k e => by cases e), hrd.mono (fun k e => ⟨?_, (hW.row.lt k e).2⟩), ⟨hz, Nat.le_refl _⟩⟩
    have := hW.own k e
    have hsd : ∀ (W : World) (n : Nat), (W.drewN n).heap.size = W.heap.size := fun _ _ => rfl
    simp only [World.size_alloc, hsd] at this
    omega
  unfold maxLen at hcm
  clear hW hrd HQ0 HB1 HB0 HN HALL
  generalize w2.heap.size = B at HT
  go_wp2
  go_loopw [17, 7] (fun i _ wr => ∃ (k : Nat) (v' : Value), k ≤ R.length ∧ i = .int .i64 (k : Int) ∧ TakeW w wr B A R v' own n (takeK own n R k)) (fun i _ _ => R.length - (intOf i).toNat)
  case atStart => exact ⟨0, _, Nat.zero_le _, rfl, HT.out⟩
  case round =>
    obtain ⟨k, v', hk, rfl, hW⟩ := hrel
    clear HT
    have hlen := takeK_len own n R k
    obtain ⟨q0, q1, q2, q3, qf⟩ := hW.cells
    obtain ⟨A', c', hv', hc', hcm', _⟩ := own_form hW.row
    subst hv'
    unfold maxLen at hcm'
    have HW := Lib.hid hW
    by_cases hlt : k < R.length
    · obtain ⟨b, off, u, rfl, _, hu, hcell⟩ := hW.src.get hlt
      obtain ⟨x, hx, rfl⟩ : ∃ y, R[k]? = some y ∧ u = .int .u64 (y : Int) := by
        unfold u64sV at hu
        rw [List.getElem?_map] at hu
        rcases h : R[k]? with _ | y
        · rw [h] at hu; cases hu
        · rw [h] at hu; injection hu with hu; exact ⟨y, rfl, hu.symm⟩
      have HS := Lib.hid (takeK_succ (own := own) (n := n) hx)
      clear hu hx hW
      by_cases hxo : x = own
      · have d0 : ((x : Int) != own) = false := by simp; omega
        rw [if_pos hxo] at HS
        clear hxo
        go_wp2
        go_roundw
        case rel => exact ⟨k + 1, _, by omega, by go_num, by rw [HS.out]; exact HW.out⟩
        case measure => simp [intOf]; omega
      · have d0 : ((x : Int) != own) = true := by simp; omega
        rw [if_neg hxo] at HS
        generalize takeK own n R k = r at HW HS hlen q1 hc' q3
        have hl2 : r.2.length ≤ 1000000 := by omega
        clear hxo
        have HROW := Lib.hid (owns_kept HW.out.row ((Only.refl (fun _ => False) wr).alloc (.cells #[.int .u64 (x : Int)] 28)) (fun _ _ x => x))
        go_wp2_with (at_builtin; refine app elem_u64 rfl (.tmp 25) (.tmp 27) rfl rfl HROW.out rfl (nums_rd _ x 28) (one_u64 [x]) (by unfold maxLen; omega) (by omega) ?_)
        intro v4 w4 hg4
        have HST := Lib.hid (HW.out.step hg4 _ rfl)
        have b4 := hg4.only.get (alloc_old HW.out.box _) (fun e => by have := HW.out.new _ e; have := HW.out.big; omega)
        obtain ⟨A4, c4, hv4, _, _, _⟩ := own_form hg4.own
        subst hv4
        have s1 := cell_of b4 1
        have s3 := cell_of b4 3
        have sf := fun o => frozen_of b4 o
        simp only [List.getElem?_toArray, List.getElem?_cons_succ, List.getElem?_cons_zero] at s1 s3
        have e1 : ((min r.1 x : Nat) : Int) = min (r.1 : Int) x := by omega
        rw [e1] at HST
        clear hg4 b4 q0 q1 q2 q3 qf HROW e1 hcell
        go_wp2
        go_roundw
        case rel => exact ⟨k + 1, _, by omega, by go_num, by rw [HS.out]; exact HST.out⟩
        case measure => simp [intOf]; omega
    · obtain rfl : k = R.length := by omega
      have HK := Lib.hid (takeK_all own n R)
      have HL := Lib.hid (takeK_least own n R R.length)
      obtain ⟨z0, z1, z2, z3, zf⟩ := hW.zeros
      rw [HK.out] at HW HL q1 q3 hc'
      have hf : (others own R).length ≤ 1000000 := by unfold others; exact Nat.le_trans (List.length_filter_le _ _) hR
      clear hW hlen HK
      go_wp2_with fail
      have HD := Lib.hid (HW.out.done (r := (leastR own n R, others own R)) ho hn2 (fun x hx => HRL.out x (mem_others.1 hx).1) HL.out (.int .u64 (own : Int)) (.int .u64 (leastR own n R : Int)) (.int .u64 (n : Int)) (.slice A' (others own R).length c'))
      have HX := Lib.hid (fourSet_same HW.out.res (.int .u64 (own : Int)) (.int .u64 (leastR own n R : Int)) (.int .u64 (n : Int)) (.slice A' (others own R).length c'))
      unfold fourSet at HD HX
      generalize (((wr.setCell ⟨w.heap.size, 0, none⟩ (.int .u64 (own : Int))).setCell ⟨w.heap.size, 1, none⟩ (.int .u64 (leastR own n R : Int))).setCell ⟨w.heap.size, 2, none⟩ (.int .u64 (n : Int))).setCell ⟨w.heap.size, 3, none⟩ (.slice A' (others own R).length c') = W6 at HD HX ⊢
      refine bodyPost_ret (results_cellS Tryz.results19 _ _ w.heap.size _ _ (0, 0) _ (by rfl) HX.out Tryz.underlying65 rfl info_snap) (by rfl) ?_
      rw [← HSN.out]
      exact ⟨A', c', rfl, HD.out⟩

end Go.Proofs.YtdeekopdhgjanaaGreatDoor

namespace Go.Lap

/-- A table's entry. -/
structure TE where
  id : Nat
  name : ByteArray
  cols : List (ByteArray × Nat)
  xmin : Nat
  xmax : Nat

/-- An index's entry. -/
structure IE where
  id : Nat
  name : ByteArray
  table : Nat
  column : Nat
  xmin : Nat
  xmax : Nat

def colsV (l : List (ByteArray × Nat)) : List Value := l.flatMap (fun c => [.string c.1, .int .u8 (c.2 : Int)])

theorem colsV_len (l : List (ByteArray × Nat)) : (colsV l).length = l.length * 2 := by
  induction l with
  | nil => rfl
  | cons p l ih =>
    have : colsV (p :: l) = .string p.1 :: .int .u8 (p.2 : Int) :: colsV l := rfl
    rw [this, List.length_cons, List.length_cons, ih, List.length_cons]; omega

theorem colsV_get {l : List (ByteArray × Nat)} {j : Nat} {p : ByteArray × Nat} (h : l[j]? = some p) : (colsV l)[j * 2]? = some (.string p.1) ∧ (colsV l)[j * 2 + 1]? = some (.int .u8 (p.2 : Int)) := by
  induction l generalizing j with
  | nil => simp at h
  | cons q l ih =>
    have e : colsV (q :: l) = .string q.1 :: .int .u8 (q.2 : Int) :: colsV l := rfl
    rcases j with _ | j
    · simp at h
      subst h
      exact ⟨rfl, rfl⟩
    · rw [List.getElem?_cons_succ] at h
      obtain ⟨h1, h2⟩ := ih h
      rw [e, show (j + 1) * 2 = j * 2 + 1 + 1 by omega]
      exact ⟨h1, h2⟩

theorem one_cols (l : List (ByteArray × Nat)) : ∀ u ∈ colsV l, u.oneCell' = true := by
  intro u hu
  unfold colsV at hu
  rw [List.mem_flatMap] at hu
  obtain ⟨p, _, hp⟩ := hu
  simp at hp
  rcases hp with rfl | rfl <;> rfl

/-- An entry's stamps, as a version's. -/
def tupE (xmin xmax : Nat) : Tup := ⟨0, xmin, xmax, 0, 0, []⟩
end Go.Lap
namespace Go.Proofs.YtdeekopdhgjanaaGreatDoor
open Go.RowKit Go.Lap

/-- Where an entry's four fields lie. -/
structure EntAt (w : World) (eb id : Nat) (name : ByteArray) (xmin xmax : Nat) : Prop where
  c0 : w.cell? ⟨eb, 0, none⟩ = some (.int .u64 (id : Int))
  c1 : w.cell? ⟨eb, 1, none⟩ = some (.string name)
  c2 : w.cell? ⟨eb, 2, none⟩ = some (.int .u64 (xmin : Int))
  c3 : w.cell? ⟨eb, 3, none⟩ = some (.int .u64 (xmax : Int))

theorem EntAt.kept {S : Nat → Prop} {w w' : World} {eb id xmin xmax : Nat} {name : ByteArray} (h : EntAt w eb id name xmin xmax) (ho : Only S w w') (hn : ¬ S eb) : EntAt w' eb id name xmin xmax :=
  ⟨ho.cell h.c0 hn, ho.cell h.c1 hn, ho.cell h.c2 hn, ho.cell h.c3 hn⟩

theorem tupE_v (xmin xmax : Nat) : tupV (tupE xmin xmax) none 0 = .agg #[.int .u64 0, .int .u64 (xmin : Int), .int .u64 (xmax : Int), .int .i64 0, .int .i64 0, .slice none 0 0] := rfl

set_option maxHeartbeats 400000 in
set_option maxRecDepth 100000 in
theorem entry_tuple {w : World} {eb id xmin xmax : Nat} {name : ByteArray} (h : EntAt w eb id name xmin xmax) :
    Calls Tryz.prog 92 #[.pointer (some ⟨eb, 0, none⟩)] w fun e w' => e = .returned (tupV (tupE xmin xmax) none 0) ∧ Quiet w w' := by
  obtain ⟨c0, c1, c2, c3⟩ := h
  have hl := cell_lt c0
  have hl2 : ¬ eb = w.heap.size := by have : eb < w.heap.size := hl; omega
  rw [tupE_v]
  go_enter Tryz.func92, Tryz.ntmps92
  go_wp2_with fail
  go_region
  all_goals
    go_wp2
    exact bodyPost_ret (v := .agg #[.int .u64 0, .int .u64 (xmin : Int), .int .u64 (xmax : Int), .int .i64 0, .int .i64 0, .slice none 0 0]) (by simp [results, Tryz.results92, go_sem]) rfl ⟨rfl, ((Only.refl _ _).alloc _).drew⟩

theorem snapBox_cells {w : World} {b : Nat} {s : Snap} {A : Option Addr} {c : Nat} (h : w.heap[b]? = some (.cells (snapCells s A c) 65 (0, 0))) :
    w.cell? ⟨b, 0, none⟩ = some (.int .u64 (s.own : Int)) ∧ w.cell? ⟨b, 1, none⟩ = some (.int .u64 (s.xmin : Int)) ∧ w.cell? ⟨b, 2, none⟩ = some (.int .u64 (s.xmax : Int)) ∧ w.cell? ⟨b, 3, none⟩ = some (.slice A s.run.length c) :=
  ⟨by rw [cell_of h]; rfl, by rw [cell_of h]; rfl, by rw [cell_of h]; rfl, by rw [cell_of h]; rfl⟩

set_option maxHeartbeats 1000000 in
set_option maxRecDepth 100000 in
theorem entry_visible {w : World} {F S : Nat → Prop} {lb eb id xmin xmax c : Nat} {name : ByteArray} {L : List Nat} {A : Option Addr} {s : Snap} (h : EntAt w eb id name xmin xmax) (hl : LogAt w F lb L) (hs : SnapV w S A c s) (h1 : U64 xmin) (h2 : U64 xmax) :
    Calls Tryz.prog 64 #[.pointer (some ⟨eb, 0, none⟩), .pointer (some ⟨lb, 0, none⟩), snapV s A c] w (BoolQ w (visS L s xmin xmax)) := by
  have HQ : Hid (Quiet w (w.alloc (.cells (snapCells s A c) 65))) := (Only.refl _ _).alloc _
  have HTU : Hid (∀ W, Quiet w W → Calls Tryz.prog 92 #[.pointer (some ⟨eb, 0, none⟩)] W fun e w' => e = .returned (tupV (tupE xmin xmax) none 0) ∧ Quiet W w') := fun W hq => entry_tuple (h.kept hq (fun x => x))
  have HV : Hid (∀ W, Quiet w W → Calls Tryz.prog 51 #[.pointer (some ⟨lb, 0, none⟩), snapV s A c, tupV (tupE xmin xmax) none 0] W (BoolQ W (visS L s xmin xmax))) := fun W hq => snap_visible (tupE xmin xmax) none 0 (hl.kept hq (fun _ _ x => x)) (hs.kept hq (fun _ _ x => x)) h1 h2
  have HB := Lib.hid (alloc_new w (.cells (snapCells s A c) 65))
  generalize visS L s xmin xmax = r at HV ⊢
  rw [tupE_v] at HTU HV
  unfold snapV at *
  clear h hl hs h1 h2
  go_enter Tryz.func64, Tryz.ntmps64
  go_wp2_with fail
  go_region_held3 (fun w' => w'.cell? ⟨w.heap.size, 0, none⟩ = some (.int .u64 (s.own : Int)) ∧ w'.cell? ⟨w.heap.size, 1, none⟩ = some (.int .u64 (s.xmin : Int)) ∧ w'.cell? ⟨w.heap.size, 2, none⟩ = some (.int .u64 (s.xmax : Int)) ∧ w'.cell? ⟨w.heap.size, 3, none⟩ = some (.slice A s.run.length c))
    (first | go_keep | exact snapBox_cells (hq3.get (hq2.get (by exact HB.out) (fun x => x)) (fun x => x)) | exact snapBox_cells (hq2.get (by exact HB.out) (fun x => x)) | fail)
    (first
      | (go_at_call 92; go_must (refine (HTU.out _ (HQ.out.drew)).mono ?_; rintro e w2 ⟨rfl, hq2⟩))
      | (go_at_call 51; go_must (refine (HV.out _ (HQ.out.drew.trans hq2)).mono ?_; rintro e w3 ⟨rfl, hq3⟩))
      | fail)
  have HQ3 := Lib.hid ((HQ.out.drew.trans hq2).trans hq3)
  clear hq2 hq3 HV HTU HB HQ
  go_wp2
  go_ret
  exact ⟨rfl, HQ3.out⟩

/-- Is it, for anybody? -/
def aliveE (L : List Nat) (xmin xmax : Nat) : Bool := decide (stateL L xmin ≠ 3) && decide (stateL L xmax ≠ 2)

set_option maxHeartbeats 1000000 in
set_option maxRecDepth 100000 in
theorem entry_alive {w : World} {F : Nat → Prop} {lb eb id xmin xmax : Nat} {name : ByteArray} {L : List Nat} (h : EntAt w eb id name xmin xmax) (hl : LogAt w F lb L) (h1 : U64 xmin) (h2 : U64 xmax) :
    Calls Tryz.prog 65 #[.pointer (some ⟨eb, 0, none⟩), .pointer (some ⟨lb, 0, none⟩)] w (BoolQ w (aliveE L xmin xmax)) := by
  have HS1 := Lib.hid (log_state hl h1)
  have HS2 : Hid (∀ W, Quiet w W → Calls Tryz.prog 62 #[.pointer (some ⟨lb, 0, none⟩), .int .u64 (xmax : Int)] W fun e w' => e = .returned (.int .i64 (stateL L xmax : Int)) ∧ ∃ n, w' = W.drewN n) := fun W hq => log_state (hl.kept hq (fun _ _ x => x)) h2
  obtain ⟨c0, c1, c2, c3⟩ := h
  unfold aliveE
  generalize stateL L xmin = s1 at HS1 ⊢
  generalize stateL L xmax = s2 at HS2 ⊢
  clear hl h1 h2
  by_cases ha : s1 = 3
  · have d0 : ((s1 : Int) != 3) = false := by simp; omega
    rw [decide_eq_false (show ¬ s1 ≠ 3 from fun x => x ha), Bool.false_and]
    clear ha
    go_enter Tryz.func65, Tryz.ntmps65
    go_wp2_with fail
    refine HS1.out.mono ?_
    rintro e w1 ⟨rfl, n, rfl⟩
    go_wp2
    go_ret
    exact ⟨rfl, (Only.refl _ w).drewN n⟩
  · have d0 : ((s1 : Int) != 3) = true := by simp; omega
    rw [decide_eq_true (show s1 ≠ 3 from ha), Bool.true_and]
    clear ha
    by_cases hb : s2 = 2
    · have d1 : ((s2 : Int) != 2) = false := by simp; omega
      rw [decide_eq_false (show ¬ s2 ≠ 2 from fun x => x hb)]
      clear hb
      go_enter Tryz.func65, Tryz.ntmps65
      go_wp2_with fail
      refine HS1.out.mono ?_
      rintro e w1 ⟨rfl, n, rfl⟩
      go_wp2_with fail
      refine (HS2.out _ ((Only.refl _ w).drewN n)).mono ?_
      rintro e w1 ⟨rfl, m, rfl⟩
      go_wp2
      go_ret
      exact ⟨rfl, (Only.refl _ w).drewN _⟩
    · have d1 : ((s2 : Int) != 2) = true := by simp; omega
      rw [decide_eq_true (show s2 ≠ 2 from hb)]
      clear hb
      go_enter Tryz.func65, Tryz.ntmps65
      go_wp2_with fail
      refine HS1.out.mono ?_
      rintro e w1 ⟨rfl, n, rfl⟩
      go_wp2_with fail
      refine (HS2.out _ ((Only.refl _ w).drewN n)).mono ?_
      rintro e w1 ⟨rfl, m, rfl⟩
      go_wp2
      go_ret
      exact ⟨rfl, (Only.refl _ w).drewN _⟩

theorem elem_col : Elem Tryz.prog 32 73 2 24 := Elem.mk' (.agg #[.string ⟨#[]⟩, .int .u8 0]) Tryz.underlying32 (by kernel_rfl) rfl (by decide)

/-- New columns. -/
structure FreshC (w w' : World) (v : Value) (l : List (ByteArray × Nat)) : Prop where
  quiet : Quiet w w'
  new : ∀ k, v.ownBlock = some k → w.heap.size ≤ k
  own : w'.ownsRow 0 73 2 v l.length (colsV l)

def FreshCPost (w : World) (l : List (ByteArray × Nat)) (e : Ending) (w' : World) : Prop := ∃ v, e = .returned v ∧ FreshC w w' v l

set_option maxHeartbeats 400000 in
set_option maxRecDepth 100000 in
theorem clone_cols (A : Option Addr) (cap : Nat) (l : List (ByteArray × Nat)) (S : Nat → Prop) (w : World) (hr : Rd w S 2 A l.length (colsV l)) (hl : l.length ≤ 1000) (h0 : 0 < l.length) :
    Calls Tryz.prog 41 #[.slice A l.length cap] w (FreshCPost w l) := by
  have heq := fun (w : World) (a : Option Addr) (n c : Nat) => Lib.run_eql_slice_nil (P := Tryz.prog) w 32 _ a n c 0 0 Tryz.underlying32
  obtain ⟨b, off, rfl, _⟩ := hr.cells (by rw [colsV_len]; omega)
  have HR := Lib.hid hr
  clear hr
  go_enter Tryz.func41, Tryz.ntmps41
  go_wp2_with (at_builtin; refine app elem_col rfl (.tmp 5) (.tmp 6) rfl rfl (owns_empty w _ _) rfl (HR.out.kept ((Only.refl (fun _ => False) w).alloc _) (fun _ _ x => x)) (one_cols l) (by unfold maxLen; omega) (by omega) ?_)
  intro v w1 hg
  have HF : Hid (FreshC w w1 v l) := by
    refine ⟨((Only.refl _ _).alloc _).trans' hg.only (fun k hk e => by simp [Value.ownBlock] at e; omega), fun k e => ?_, hg.own⟩
    rcases hg.loc with x | x <;> rw [x] at e
    · simp [Value.ownBlock] at e; omega
    · injection e with e; simp at e; omega
  clear hg
  go_wp2
  go_ret
  exact ⟨v, rfl, HF.out⟩

end Go.Proofs.YtdeekopdhgjanaaGreatDoor

namespace Go.Lap

theorem anyMem {α : Type} {p : α → Bool} {xs : Array α} : xs.any p = true ↔ ∃ x ∈ xs, p x = true := by
  rw [Array.any_eq_true]
  constructor
  · rintro ⟨i, hi, h⟩
    exact ⟨xs[i], Array.getElem_mem hi, h⟩
  · rintro ⟨x, hx, h⟩
    obtain ⟨i, hi, rfl⟩ := Array.mem_iff_getElem.1 hx
    exact ⟨i, hi, h⟩

theorem allMem {α : Type} {p : α → Bool} {xs : Array α} : xs.all p = true ↔ ∀ x ∈ xs, p x = true := by
  rw [Array.all_eq_true]
  constructor
  · intro h x hx
    obtain ⟨i, hi, rfl⟩ := Array.mem_iff_getElem.1 hx
    exact h i hi
  · exact fun h i hi => h _ (Array.getElem_mem hi)

section
variable {P : Program} {Q : Exit → Act → World → Prop}

/-- What is asked behind the others: the last operation. -/
def LastQ (P : Program) (ops : Array Oper) (Q : Exit → Act → World → Prop) : Exit → Act → World → Prop
  | .normal, a, w => wpOp P ops Q (ops.size - 1) (fun a' w' => Q .normal a' w') a w
  | .exit i, a, w => Q (.exit i) a w
  | .goto l, a, w => Q (.goto l) a w
  | .ret, a, w => Q .ret a w
  | .panic c, a, w => Q (.panic c) a w
  | .outgrown, a, w => Q .outgrown a w

/-- All edges go back, and the guards; the last one waits for all. -/
def lastOk (ops : Array Oper) : Bool :=
  (List.range ops.size).all (fun j => (ops[j]?).any fun o => o.after.all (fun e => decide (e.on < j)) && (match o.guard with | none => true | some (g, _) => decide (g < j))) &&
  (List.range (ops.size - 1)).all (fun i => (ops[ops.size - 1]?).any fun o => o.after.any fun e => Region.binds .any e && (e.on == i || (ops[e.on]?).any fun o' => o'.after.any fun e' => Region.binds .any e' && e'.on == i))

theorem lastOk_edges {ops : Array Oper} (h : lastOk ops = true) {j : Nat} {o : Oper} (ho : ops[j]? = some o) : (∀ e ∈ o.after, e.on < j) ∧ ∀ g b, o.guard = some (g, b) → g < j := by
  unfold lastOk at h
  rw [Bool.and_eq_true] at h
  have h1 := h.1
  rw [List.all_eq_true] at h1
  have hj : j < ops.size := (Array.getElem?_eq_some_iff.1 ho).1
  have h2 := h1 j (List.mem_range.2 hj)
  rw [ho] at h2
  simp only [Option.any_some, Bool.and_eq_true] at h2
  refine ⟨fun e he => ?_, fun g b hg => ?_⟩
  · have := h2.1
    rw [allMem] at this
    exact of_decide_eq_true (this e he)
  · have := h2.2
    rw [hg] at this
    exact of_decide_eq_true this

theorem lastOk_waits {ops : Array Oper} (h : lastOk ops = true) {i : Nat} (hi : i < ops.size - 1) {o : Oper} (ho : ops[ops.size - 1]? = some o) :
    ∃ e ∈ o.after, Region.binds .any e = true ∧ (e.on = i ∨ ∃ o', ops[e.on]? = some o' ∧ ∃ e' ∈ o'.after, Region.binds .any e' = true ∧ e'.on = i) := by
  unfold lastOk at h
  rw [Bool.and_eq_true] at h
  have h1 := h.2
  rw [List.all_eq_true] at h1
  have h2 := h1 i (List.mem_range.2 hi)
  rw [ho] at h2
  simp only [Option.any_some] at h2
  rw [anyMem] at h2
  obtain ⟨e, he, h3⟩ := h2
  rw [Bool.and_eq_true, Bool.or_eq_true] at h3
  refine ⟨e, he, h3.1, ?_⟩
  rcases h3.2 with h4 | h4
  · exact Or.inl (by simpa using h4)
  · cases hq : ops[e.on]? with
    | none => rw [hq] at h4; simp at h4
    | some o' =>
      rw [hq] at h4
      simp only [Option.any_some] at h4
      rw [anyMem] at h4
      obtain ⟨e', he', h5⟩ := h4
      rw [Bool.and_eq_true] at h5
      exact Or.inr ⟨o', rfl, e', he', h5.1, by simpa using h5.2⟩

theorem pop_get {ops : Array Oper} {i : Nat} (h : i < ops.size - 1) : ops.pop[i]? = ops[i]? := by
  rw [Array.getElem?_pop, if_pos h]

theorem push_getD {listed : Array Bool} {i : Nat} (b d : Bool) (h : i < listed.size) : (listed.push b).getD i d = listed.getD i d := by
  simp [Array.getElem?_push, h, Nat.ne_of_lt h]

theorem push_getD_last {listed : Array Bool} (b d : Bool) : (listed.push b).getD listed.size d = b := by
  simp

theorem getD_any {listed : Array Bool} {i : Nat} (d d' : Bool) (h : i < listed.size) : listed.getD i d = listed.getD i d' := by
  simp [h]

theorem push_set {listed : Array Bool} {i : Nat} (b : Bool) (h : i < listed.size) : (listed.push b).setIfInBounds i true = (listed.setIfInBounds i true).push b := by
  apply Array.ext
  · simp
  · intro j h1 h2
    simp only [Array.size_setIfInBounds, Array.size_push] at h1
    rw [Array.getElem_setIfInBounds (by simpa using h1), Array.getElem_push, Array.getElem_push]
    by_cases hj : j < listed.size
    · simp only [Array.size_setIfInBounds, hj, dite_true]
      rw [Array.getElem_setIfInBounds hj]
    · simp only [Array.size_setIfInBounds, hj, dite_false]
      rw [if_neg (by omega)]

/-- What is listed has all listed that it waits for. -/
def Shutd (ops : Array Oper) (listed : Array Bool) : Prop := ∀ (j : Nat) (o : Oper), ops[j]? = some o → listed.getD j false = true → ∀ e ∈ o.after, Region.binds .any e = true → listed.getD e.on false = true

theorem Shutd.start (ops : Array Oper) (n : Nat) : Shutd ops (Array.replicate n false) := by
  intro j o _ h
  by_cases hj : j < n
  · simp [hj] at h
  · simp [hj] at h

theorem set_getD_true {listed : Array Bool} {i j : Nat} (h : listed.getD j false = true) : (listed.setIfInBounds i true).getD j false = true := by
  by_cases e : i = j
  · subst e
    have hl : i < listed.size := by
      rcases Nat.lt_or_ge i listed.size with x | x
      · exact x
      · simp [Array.getElem?_eq_none x] at h
    simp [hl]
  · rw [getD_set_ne false e]; exact h

theorem Shutd.set {ops : Array Oper} {listed : Array Bool} {i : Nat} (h : Shutd ops listed) (hr : ∀ o, ops[i]? = some o → ∀ e ∈ o.after, Region.binds .any e = true → listed.getD e.on false = true) : Shutd ops (listed.setIfInBounds i true) := by
  intro j o ho hl e he hb
  by_cases hij : i = j
  · subst hij
    exact set_getD_true (hr o ho e he hb)
  · rw [getD_set_ne false hij] at hl
    exact set_getD_true (h j o ho hl e he hb)

variable {ops : Array Oper}

theorem ready_pop {listed : Array Bool} (hok : lastOk ops = true) (hs : listed.size = ops.size - 1) {i : Nat} (hi : i < ops.size - 1) : i ∈ Region.ready .any ops (listed.push false) ↔ i ∈ Region.ready .any ops.pop listed := by
  rw [mem_ready, mem_ready, push_getD _ _ (by omega), pop_get hi]
  constructor
  · rintro ⟨h1, o, ho, h2⟩
    refine ⟨h1, o, ho, fun e he hb => ?_⟩
    have := (lastOk_edges hok ho).1 e he
    have h3 := h2 e he hb
    rw [push_getD _ _ (by omega)] at h3
    exact h3
  · rintro ⟨h1, o, ho, h2⟩
    refine ⟨h1, o, ho, fun e he hb => ?_⟩
    have := (lastOk_edges hok ho).1 e he
    rw [push_getD _ _ (by omega)]
    exact h2 e he hb

theorem ready_lt {listed : Array Bool} {i : Nat} (h : i ∈ Region.ready .any ops listed) : i < ops.size := by
  obtain ⟨_, o, ho, _⟩ := mem_ready.1 h
  exact (Array.getElem?_eq_some_iff.1 ho).1

/-- If none is ready all are listed. -/
theorem all_listed {listed : Array Bool} (hok : lastOk ops = true) (hs : listed.size = ops.size - 1) (hr : Region.ready .any ops.pop listed = []) : ∀ (k i : Nat), i < k → i < ops.size - 1 → listed.getD i false = true := by
  intro k
  induction k with
  | zero => intro i h; omega
  | succ k ih =>
    intro i _ hi
    cases hl : listed.getD i false with
    | true => rfl
    | false =>
      have hlt : i < ops.size := by omega
      have : i ∈ Region.ready .any ops.pop listed := by
        rw [mem_ready, pop_get hi]
        refine ⟨by rw [getD_any true false (by omega)]; exact hl, ops[i], Array.getElem?_eq_getElem hlt, fun e he _ => ?_⟩
        have := (lastOk_edges hok (Array.getElem?_eq_getElem hlt)).1 e he
        exact ih e.on (by omega) (by omega)
      rw [hr] at this
      cases this

theorem last_ready {listed : Array Bool} (hok : lastOk ops = true) (h0 : 0 < ops.size) (hs : listed.size = ops.size - 1) (hall : ∀ i, i < ops.size - 1 → listed.getD i false = true) : ops.size - 1 ∈ Region.ready .any ops (listed.push false) := by
  rw [mem_ready]
  have hlt : ops.size - 1 < ops.size := by omega
  refine ⟨by rw [← hs]; exact push_getD_last _ _, ops[ops.size - 1], Array.getElem?_eq_getElem hlt, fun e he _ => ?_⟩
  have := (lastOk_edges hok (Array.getElem?_eq_getElem hlt)).1 e he
  rw [push_getD _ _ (by omega)]
  exact hall e.on this

theorem wanted_pop (hok : lastOk ops = true) {i : Nat} {o : Oper} (hi : i < ops.size - 1) (ho : ops[i]? = some o) (tmps : Array Value) : Region.wanted o (yielded ops.pop tmps) = Region.wanted o (yielded ops tmps) := by
  unfold Region.wanted
  cases hg : o.guard with
  | none => rfl
  | some gb =>
    obtain ⟨g, b⟩ := gb
    have := (lastOk_edges hok ho).2 g b hg
    simp only [yielded]
    rw [pop_get (by omega)]

theorem letsOut_last (h : LetsOut (LastQ P ops Q)) : LetsOut Q := h

theorem wpOp_pop (hok : lastOk ops = true) {i : Nat} (hi : i < ops.size - 1) {K : Act → World → Prop} {a : Act} {w : World} (h : wpOp P ops.pop (LastQ P ops Q) i K a w) : wpOp P ops Q i K a w := by
  have hlt : i < ops.size := by omega
  have ho : ops[i]? = some ops[i] := Array.getElem?_eq_getElem hlt
  unfold wpOp at *
  rw [pop_get hi] at h
  simp only [ho] at h ⊢
  rw [wanted_pop hok hi ho] at h
  by_cases hw : Region.wanted ops[i] (yielded ops a.tmps) = true
  · rw [if_pos hw] at h ⊢
    rcases h with h | ⟨h, hl⟩
    · refine Or.inl ?_
      unfold Oper.wp at *
      generalize (execOp a.eval ops[i]).run P w = r at *
      cases r with
      | ok n w' =>
        cases n <;> simp only [Oper.upon] at h ⊢ <;>
          first
            | exact h
            | exact Calls.mono h (fun e w'' he => by cases e <;> exact he)
      | halt x w' => cases x <;> simp only [Oper.upon] at h ⊢ <;> exact h
    · exact Or.inr ⟨h, hl⟩
  · rw [if_neg hw] at h ⊢
    exact h

theorem wpAny_last (hok : lastOk ops = true) (h0 : 0 < ops.size) : ∀ (fuel : Nat) (listed : Array Bool) (a : Act) (w : World), listed.size = ops.size - 1 → Shutd ops listed → wpAny P .any ops.pop (LastQ P ops Q) fuel listed a w → wpAny P .any ops Q (fuel + 1) (listed.push false) a w := by
  intro fuel
  induction fuel with
  | zero =>
    intro listed a w hs hc H
    have hall := fun i hi => all_listed hok hs H.1 (i + 1) i (Nat.lt_succ_self i) hi
    refine ⟨fun hr => ?_, fun i hi => ?_⟩
    · have := last_ready hok h0 hs hall
      rw [hr] at this
      cases this
    · have hlt := ready_lt hi
      by_cases hn : i < ops.size - 1
      · have := (ready_pop hok hs hn).1 hi
        rw [H.1] at this
        cases this
      · obtain rfl : i = ops.size - 1 := by omega
        refine wpOp_mono (fun a' w' hq => ?_) H.2
        exact ⟨(by
          rw [List.eq_nil_iff_forall_not_mem]
          intro j hj
          have h1 := ready_lt hj
          have h2 := (mem_ready.1 hj).1
          by_cases hjn : j = ops.size - 1
          · subst hjn
            rw [← hs] at h2
            simp at h2
          · rw [getD_set_ne true (by omega), push_getD _ _ (by omega), getD_any true false (by omega), hall j (by omega)] at h2
            cases h2), hq⟩
  | succ f ih =>
    intro listed a w hs hc H
    refine ⟨fun hr => ?_, fun i hi => ?_⟩
    · have hr' : Region.ready .any ops.pop listed = [] := by
        rw [List.eq_nil_iff_forall_not_mem]
        intro j hj
        have h1 := ready_lt hj
        rw [Array.size_pop] at h1
        have := (ready_pop hok hs h1).2 hj
        rw [hr] at this
        cases this
      have hall := fun i hi => all_listed hok hs hr' (i + 1) i (Nat.lt_succ_self i) hi
      have := last_ready hok h0 hs hall
      rw [hr] at this
      cases this
    · have hlt := ready_lt hi
      by_cases hn : i < ops.size - 1
      · have hi' := (ready_pop hok hs hn).1 hi
        refine wpOp_mono (fun a' w' hq => ?_) (wpOp_pop hok hn (H.2 i hi'))
        rw [push_set _ (by omega)]
        refine ih _ a' w' (by simpa using hs) (hc.set (fun o ho e he hb => ?_)) hq
        obtain ⟨_, o', ho', h2⟩ := mem_ready.1 hi'
        rw [pop_get hn, ho] at ho'
        injection ho' with ho'
        subst ho'
        exact h2 e he hb
      · obtain rfl : i = ops.size - 1 := by omega
        obtain ⟨_, o, ho, h2⟩ := mem_ready.1 hi
        have hall : ∀ j, j < ops.size - 1 → listed.getD j false = true := by
          intro j hj
          obtain ⟨e, he, hb, h3⟩ := lastOk_waits hok hj ho
          have h4 := h2 e he hb
          have h5 := (lastOk_edges hok ho).1 e he
          rw [push_getD _ _ (by omega)] at h4
          rcases h3 with rfl | ⟨o', ho', e', he', hb', rfl⟩
          · exact h4
          · exact hc e.on o' ho' h4 e' he' hb'
        have hr' : Region.ready .any ops.pop listed = [] := by
          rw [List.eq_nil_iff_forall_not_mem]
          intro j hj
          have h1 := ready_lt hj
          rw [Array.size_pop] at h1
          have h2 := (mem_ready.1 hj).1
          rw [getD_any true false (by omega), hall j h1] at h2
          cases h2
        refine wpOp_mono (fun a' w' hq => ?_) (H.1 hr')
        refine ⟨fun _ => hq, fun j hj => ?_⟩
        have h1 := ready_lt hj
        have h2 := (mem_ready.1 hj).1
        by_cases hjn : j = ops.size - 1
        · subst hjn
          rw [← hs] at h2
          simp at h2
        · rw [getD_set_ne true (by omega), push_getD _ _ (by omega), getD_any true false (by omega), hall j (by omega)] at h2
          cases h2

/-- The beginning: S is held till all but the last one have come up. -/
theorem wp_region_last {S : World → Prop} {id : Nat} {a : Act} {w : World} (hm : P.follows .mixedOrders = true) (hok : lastOk ops = true) (h0 : 0 < ops.size) (hS : S w.drew)
    (h : S w.drew → wpAnyH P .any ops.pop (LastQ P ops Q) S (ops.size - 1) (Array.replicate (ops.size - 1) false) a w.drew) : (Code.region id ops true).wp P Q a w := by
  refine wp_region_any hm ?_
  have h1 := wpAny_last hok h0 (ops.size - 1) (Array.replicate (ops.size - 1) false) a w.drew (by simp) (Shutd.start _ _) (wpAny_of_held _ _ _ _ (h hS))
  have e : (Array.replicate (ops.size - 1) false).push false = Array.replicate ops.size false := by
    rw [← Array.replicate_succ]
    congr 1
    omega
  rw [e, show ops.size - 1 + 1 = ops.size by omega] at h1
  exact h1

theorem last_panic {c : List PanicEntry} {a a' : Act} {w : World} (hq : Q (.panic c) a' w → Q (.panic c) a w) (h : LastQ P ops Q (.panic c) a' w) : LastQ P ops Q (.panic c) a w := hq h

/-- The last one. -/
theorem last_step {o : Oper} {a : Act} {w : World} (ho : ops[ops.size - 1]? = some o)
    (h : ∀ K' : Act → World → Prop, Shut (∀ a w, Q .normal a w → K' a w) → if Region.wanted o (yielded ops a.tmps) = true then Oper.wp P o a w K' Q else K' (a.put o.dst undef) w) : LastQ P ops Q .normal a w := by
  have h1 := h (fun a' w' => Q .normal a' w') (fun _ _ x => x)
  show wpOp P ops Q (ops.size - 1) (fun a' w' => Q .normal a' w') a w
  unfold wpOp
  simp only [ho]
  by_cases hw : Region.wanted o (yielded ops a.tmps) = true
  · rw [if_pos hw] at h1 ⊢; exact Or.inl h1
  · rw [if_neg hw] at h1 ⊢; exact h1

/-- What is asked behind a region, out of sight while it is walked. -/
theorem hideQ {c : Code} {a : Act} {w : World} (h : ∀ Q' : Exit → Act → World → Prop, Shut (∀ e a w, Q e a w → Q' e a w) → c.wp P Q' a w) : c.wp P Q a w := h Q (fun _ _ _ x => x)

end
end Go.Lap

namespace Go.Proofs.YtdeekopdhgjanaaGreatDoor
open Go.RowKit Go.Lap

/-- Block tb is a table's entry; its columns lie in F. -/
structure TblAt (w : World) (F : Nat → Prop) (tb : Nat) (e : TE) : Prop where
  ex : ∃ A c, w.heap[tb]? = some (.cells #[.int .u64 (e.id : Int), .string e.name, .int .u64 (e.xmin : Int), .int .u64 (e.xmax : Int), .slice A e.cols.length c] 113 (0, 0)) ∧ Rd w F 2 A e.cols.length (colsV e.cols) ∧ e.cols.length ≤ c ∧ c ≤ maxLen
  own : F tb
  pos : 0 < e.cols.length ∧ e.cols.length ≤ 8
  num : U64 e.id ∧ U64 e.xmin ∧ U64 e.xmax

theorem TblAt.kept {S F : Nat → Prop} {w w' : World} {tb : Nat} {e : TE} (h : TblAt w F tb e) (ho : Only S w w') (hn : ∀ k, F k → ¬ S k) : TblAt w' F tb e := by
  obtain ⟨A, c, h1, h2, h3⟩ := h.ex
  exact ⟨⟨A, c, ho.get h1 (hn _ h.own), h2.kept ho hn, h3⟩, h.own, h.pos, h.num⟩
theorem TblAt.mono {F G : Nat → Prop} {w : World} {tb : Nat} {e : TE} (h : TblAt w F tb e) (hg : ∀ k, F k → G k) : TblAt w G tb e := by
  obtain ⟨A, c, h1, h2, h3⟩ := h.ex
  exact ⟨⟨A, c, h1, h2.mono hg, h3⟩, hg _ h.own, h.pos, h.num⟩
theorem TblAt.ent {F : Nat → Prop} {w : World} {tb : Nat} {e : TE} (h : TblAt w F tb e) : EntAt w tb e.id e.name e.xmin e.xmax := by
  obtain ⟨A, c, h1, _⟩ := h.ex
  exact ⟨by rw [cell_of h1]; rfl, by rw [cell_of h1]; rfl, by rw [cell_of h1]; rfl, by rw [cell_of h1]; rfl⟩

/-- A table as a value. -/
def tabV (e : TE) (A : Option Addr) (c : Nat) : Value := .agg #[.int .u64 (e.id : Int), .string e.name, .slice A e.cols.length c, .int .u64 (e.xmin : Int), .int .u64 (e.xmax : Int)]

/-- What told tells. -/
def ToldPost (w : World) (t : TE) (e : Ending) (w' : World) : Prop := ∃ A c, e = .returned (tabV t A c) ∧ FreshC w w' (.slice A t.cols.length c) t.cols

theorem info_tab : (Tryz.prog.info? 75).map (·.size) = some 5 := by kernel_rfl

abbrev fiveSet (w : World) (b : Nat) (v0 v1 v2 v3 v4 : Value) : World := ((((w.setCell ⟨b, 0, none⟩ v0).setCell ⟨b, 1, none⟩ v1).setCell ⟨b, 2, none⟩ v2).setCell ⟨b, 3, none⟩ v3).setCell ⟨b, 4, none⟩ v4
theorem fiveSet_same {w : World} {b : Nat} {c0 c1 c2 c3 c4 : Value} {t : TypeId} (h : w.heap[b]? = some (.cells #[c0, c1, c2, c3, c4] t (0, 0))) (v0 v1 v2 v3 v4 : Value) : (fiveSet w b v0 v1 v2 v3 v4).heap[b]? = some (.cells #[v0, v1, v2, v3, v4] t (0, 0)) := by
  rw [set_same (set_same (set_same (set_same (set_same h _ _) _ _) _ _) _ _) _ _]
  rfl
theorem fiveSet_only (w : World) (b : Nat) (v0 v1 v2 v3 v4 : Value) : Only (· = b) w (fiveSet w b v0 v1 v2 v3 v4) :=
  (((((Only.refl (· = b) w).setCell (p := ⟨b, 0, none⟩) (fun _ => rfl) v0).setCell (p := ⟨b, 1, none⟩) (fun _ => rfl) v1).setCell (p := ⟨b, 2, none⟩) (fun _ => rfl) v2).setCell (p := ⟨b, 3, none⟩) (fun _ => rfl) v3).setCell (p := ⟨b, 4, none⟩) (fun _ => rfl) v4

theorem five_kept {S : Nat → Prop} {w w' : World} {b : Nat} {v0 v1 v2 v3 v4 : Value} (h0 : w.cell? ⟨b, 0, none⟩ = some v0) (h1 : w.cell? ⟨b, 1, none⟩ = some v1) (h2 : w.cell? ⟨b, 2, none⟩ = some v2) (h3 : w.cell? ⟨b, 3, none⟩ = some v3) (h4 : w.cell? ⟨b, 4, none⟩ = some v4) (ho : Only S w w') (hn : ¬ S b) :
    w'.cell? ⟨b, 0, none⟩ = some v0 ∧ w'.cell? ⟨b, 1, none⟩ = some v1 ∧ w'.cell? ⟨b, 2, none⟩ = some v2 ∧ w'.cell? ⟨b, 3, none⟩ = some v3 ∧ w'.cell? ⟨b, 4, none⟩ = some v4 :=
  ⟨ho.cell h0 hn, ho.cell h1 hn, ho.cell h2 hn, ho.cell h3 hn, ho.cell h4 hn⟩

set_option maxHeartbeats 1000000 in
set_option maxRecDepth 100000 in
theorem table_told {w : World} {F : Nat → Prop} {tb : Nat} {t : TE} (h : TblAt w F tb t) :
    Calls Tryz.prog 67 #[.pointer (some ⟨tb, 0, none⟩)] w (ToldPost w t) := by
  obtain ⟨c0, c1, c2, c3⟩ := h.ent
  obtain ⟨A, c, hb, hr, hc, hcm⟩ := h.ex
  have c4 : w.cell? ⟨tb, 4, none⟩ = some (.slice A t.cols.length c) := by rw [cell_of hb]; rfl
  have hl := lt_of_get hb
  have hl2 : ¬ tb = w.heap.size := by omega
  have HCL : Hid (∀ W, Quiet w W → Calls Tryz.prog 41 #[.slice A t.cols.length c] W (FreshCPost W t.cols)) := fun W hq => clone_cols A c t.cols F W (hr.kept hq (fun _ _ x => x)) (by have := h.pos; omega) h.pos.1
  clear h hb hr hc hcm
  go_enter Tryz.func67, Tryz.ntmps67
  go_wp2_with fail
  refine wp_region_held_drew (S := fun w' => w'.cell? ⟨tb, 0, none⟩ = some (.int .u64 (t.id : Int)) ∧ w'.cell? ⟨tb, 1, none⟩ = some (.string t.name) ∧ w'.cell? ⟨tb, 2, none⟩ = some (.int .u64 (t.xmin : Int)) ∧ w'.cell? ⟨tb, 3, none⟩ = some (.int .u64 (t.xmax : Int)) ∧ w'.cell? ⟨tb, 4, none⟩ = some (.slice A t.cols.length c)) (by kernel_rfl) (five_kept c0 c1 c2 c3 c4 (((Only.refl (fun _ => False) w).alloc _).drew) (fun x => x)) (fun hHeld => ?_)
  simp only [List.size_toArray, List.length_cons, List.length_nil, Nat.reduceAdd]
  (refine wpAnyH_take (i := 0) (oi := ?_) (v := ?_) ?_ (by kernel_rfl) (by decide +kernel) (by decide +kernel) ?_ (Or.inl ⟨?_, ?_⟩) (by first | assumption | exact trivial) ?_; rotate_left 2; (focus (simp only [List.getElem?_toArray, List.getElem?_cons_zero, List.getElem?_cons_succ] <;> rfl)); (focus (exact fun _ _ _ h => h)); (focus rfl); (focus (intro w hSw; (try dsimp only at hSw); go_simp; (try with_reducible rfl); done)); (try simp only [Act.put, List.setIfInBounds_toArray, List.set_cons_zero, List.set_cons_succ]))
  (refine wpAnyH_take (i := 1) (oi := ?_) (v := ?_) ?_ (by kernel_rfl) (by decide +kernel) (by decide +kernel) ?_ (Or.inl ⟨?_, ?_⟩) (by first | assumption | exact trivial) ?_; rotate_left 2; (focus (simp only [List.getElem?_toArray, List.getElem?_cons_zero, List.getElem?_cons_succ] <;> rfl)); (focus (exact fun _ _ _ h => h)); (focus rfl); (focus (intro w hSw; (try dsimp only at hSw); go_simp; (try with_reducible rfl); done)); (try simp only [Act.put, List.setIfInBounds_toArray, List.set_cons_zero, List.set_cons_succ]))
  (refine wpAnyH_take (i := 2) (oi := ?_) (v := ?_) ?_ (by kernel_rfl) (by decide +kernel) (by decide +kernel) ?_ (Or.inl ⟨?_, ?_⟩) (by first | assumption | exact trivial) ?_; rotate_left 2; (focus (simp only [List.getElem?_toArray, List.getElem?_cons_zero, List.getElem?_cons_succ] <;> rfl)); (focus (exact fun _ _ _ h => h)); (focus rfl); (focus (intro w hSw; (try dsimp only at hSw); go_simp; (try with_reducible rfl); done)); (try simp only [Act.put, List.setIfInBounds_toArray, List.set_cons_zero, List.set_cons_succ]))
  (refine wpAnyH_take (i := 3) (oi := ?_) (v := ?_) ?_ (by kernel_rfl) (by decide +kernel) (by decide +kernel) ?_ (Or.inl ⟨?_, ?_⟩) (by first | assumption | exact trivial) ?_; rotate_left 2; (focus (simp only [List.getElem?_toArray, List.getElem?_cons_zero, List.getElem?_cons_succ] <;> rfl)); (focus (exact fun _ _ _ h => h)); (focus rfl); (focus (intro w hSw; (try dsimp only at hSw); go_simp; (try with_reducible rfl); done)); (try simp only [Act.put, List.setIfInBounds_toArray, List.set_cons_zero, List.set_cons_succ]))
  (refine wpAnyH_take (i := 4) (oi := ?_) (v := ?_) ?_ (by kernel_rfl) (by decide +kernel) (by decide +kernel) ?_ (Or.inl ⟨?_, ?_⟩) (by first | assumption | exact trivial) ?_; rotate_left 2; (focus (simp only [List.getElem?_toArray, List.getElem?_cons_zero, List.getElem?_cons_succ] <;> rfl)); (focus (exact fun _ _ _ h => h)); (focus rfl); (focus (intro w hSw; (try dsimp only at hSw); go_simp; (try with_reducible rfl); done)); (try simp only [Act.put, List.setIfInBounds_toArray, List.set_cons_zero, List.set_cons_succ]))
  (refine wpAnyH_take (i := 5) (oi := ?_) (v := ?_) ?_ (by kernel_rfl) (by decide +kernel) (by decide +kernel) ?_ (Or.inl ⟨?_, ?_⟩) (by first | assumption | exact trivial) ?_; rotate_left 2; (focus (simp only [List.getElem?_toArray, List.getElem?_cons_zero, List.getElem?_cons_succ] <;> rfl)); (focus (exact fun _ _ _ h => h)); (focus rfl); (focus (intro w hSw; (try dsimp only at hSw); go_simp; (try with_reducible rfl); done)); (try simp only [Act.put, List.setIfInBounds_toArray, List.set_cons_zero, List.set_cons_succ]))
  (refine wpAnyH_take (i := 6) (oi := ?_) (v := ?_) ?_ (by kernel_rfl) (by decide +kernel) (by decide +kernel) ?_ (Or.inl ⟨?_, ?_⟩) (by first | assumption | exact trivial) ?_; rotate_left 2; (focus (simp only [List.getElem?_toArray, List.getElem?_cons_zero, List.getElem?_cons_succ] <;> rfl)); (focus (exact fun _ _ _ h => h)); (focus rfl); (focus (intro w hSw; (try dsimp only at hSw); go_simp; (try with_reducible rfl); done)); (try simp only [Act.put, List.setIfInBounds_toArray, List.set_cons_zero, List.set_cons_succ]))
  (refine wpAnyH_take (i := 7) (oi := ?_) (v := ?_) ?_ (by kernel_rfl) (by decide +kernel) (by decide +kernel) ?_ (Or.inl ⟨?_, ?_⟩) (by first | assumption | exact trivial) ?_; rotate_left 2; (focus (simp only [List.getElem?_toArray, List.getElem?_cons_zero, List.getElem?_cons_succ] <;> rfl)); (focus (exact fun _ _ _ h => h)); (focus rfl); (focus (intro w hSw; (try dsimp only at hSw); go_simp; (try with_reducible rfl); done)); (try simp only [Act.put, List.setIfInBounds_toArray, List.set_cons_zero, List.set_cons_succ]))
  (refine wpAnyH_take (i := 8) (oi := ?_) (v := ?_) ?_ (by kernel_rfl) (by decide +kernel) (by decide +kernel) ?_ (Or.inl ⟨?_, ?_⟩) (by first | assumption | exact trivial) ?_; rotate_left 2; (focus (simp only [List.getElem?_toArray, List.getElem?_cons_zero, List.getElem?_cons_succ] <;> rfl)); (focus (exact fun _ _ _ h => h)); (focus rfl); (focus (intro w hSw; (try dsimp only at hSw); go_simp; (try with_reducible rfl); done)); (try simp only [Act.put, List.setIfInBounds_toArray, List.set_cons_zero, List.set_cons_succ]))
  (refine wpAnyH_take (i := 9) (oi := ?_) (v := ?_) ?_ (by kernel_rfl) (by decide +kernel) (by decide +kernel) ?_ (Or.inl ⟨?_, ?_⟩) (by first | assumption | exact trivial) ?_; rotate_left 2; (focus (simp only [List.getElem?_toArray, List.getElem?_cons_zero, List.getElem?_cons_succ] <;> rfl)); (focus (exact fun _ _ _ h => h)); (focus rfl); (focus (intro w hSw; (try dsimp only at hSw); go_simp; (try with_reducible rfl); done)); (try simp only [Act.put, List.setIfInBounds_toArray, List.set_cons_zero, List.set_cons_succ]))
  (refine wpAnyH_take (i := 10) (oi := ?_) (v := ?_) ?_ (by kernel_rfl) (by decide +kernel) (by decide +kernel) ?_ (Or.inl ⟨?_, ?_⟩) (by first | assumption | exact trivial) ?_; rotate_left 2; (focus (simp only [List.getElem?_toArray, List.getElem?_cons_zero, List.getElem?_cons_succ] <;> rfl)); (focus (exact fun _ _ _ h => h)); (focus rfl); (focus (intro w hSw; (try dsimp only at hSw); go_simp; (try with_reducible rfl); done)); (try simp only [Act.put, List.setIfInBounds_toArray, List.set_cons_zero, List.set_cons_succ]))
  (refine wpAnyH_take (i := 11) (oi := ?_) (v := ?_) ?_ (by kernel_rfl) (by decide +kernel) (by decide +kernel) ?_ (Or.inl ⟨?_, ?_⟩) (by first | assumption | exact trivial) ?_; rotate_left 2; (focus (simp only [List.getElem?_toArray, List.getElem?_cons_zero, List.getElem?_cons_succ] <;> rfl)); (focus (exact fun _ _ _ h => h)); (focus rfl); (focus (intro w hSw; (try dsimp only at hSw); go_simp; (try with_reducible rfl); done)); (try simp only [Act.put, List.setIfInBounds_toArray, List.set_cons_zero, List.set_cons_succ]))
  (refine wpAnyH_take (i := 12) (oi := ?_) (v := ?_) ?_ (by kernel_rfl) (by decide +kernel) (by decide +kernel) ?_ (Or.inl ⟨?_, ?_⟩) (by first | assumption | exact trivial) ?_; rotate_left 2; (focus (simp only [List.getElem?_toArray, List.getElem?_cons_zero, List.getElem?_cons_succ] <;> rfl)); (focus (exact fun _ _ _ h => h)); (focus rfl); (focus (intro w hSw; (try dsimp only at hSw); go_simp; (try with_reducible rfl); done)); (try simp only [Act.put, List.setIfInBounds_toArray, List.set_cons_zero, List.set_cons_succ]))
  (refine wpAnyH_take (i := 13) (oi := ?_) (v := ?_) ?_ (by kernel_rfl) (by decide +kernel) (by decide +kernel) ?_ (Or.inl ⟨?_, ?_⟩) (by first | assumption | exact trivial) ?_; rotate_left 2; (focus (simp only [List.getElem?_toArray, List.getElem?_cons_zero, List.getElem?_cons_succ] <;> rfl)); (focus (exact fun _ _ _ h => h)); (focus rfl); (focus (intro w hSw; (try dsimp only at hSw); go_simp; (try with_reducible rfl); done)); (try simp only [Act.put, List.setIfInBounds_toArray, List.set_cons_zero, List.set_cons_succ]))
  (refine wpAnyH_take (i := 15) (oi := ?_) (v := ?_) ?_ (by kernel_rfl) (by decide +kernel) (by decide +kernel) ?_ (Or.inl ⟨?_, ?_⟩) (by first | assumption | exact trivial) ?_; rotate_left 2; (focus (simp only [List.getElem?_toArray, List.getElem?_cons_zero, List.getElem?_cons_succ] <;> rfl)); (focus (exact fun _ _ _ h => h)); (focus rfl); (focus (intro w hSw; (try dsimp only at hSw); go_simp; (try with_reducible rfl); done)); (try simp only [Act.put, List.setIfInBounds_toArray, List.set_cons_zero, List.set_cons_succ]))
  (refine wpAnyH_take (i := 16) (oi := ?_) (v := ?_) ?_ (by kernel_rfl) (by decide +kernel) (by decide +kernel) ?_ (Or.inl ⟨?_, ?_⟩) (by first | assumption | exact trivial) ?_; rotate_left 2; (focus (simp only [List.getElem?_toArray, List.getElem?_cons_zero, List.getElem?_cons_succ] <;> rfl)); (focus (exact fun _ _ _ h => h)); (focus rfl); (focus (intro w hSw; (try dsimp only at hSw); go_simp; (try with_reducible rfl); done)); (try simp only [Act.put, List.setIfInBounds_toArray, List.set_cons_zero, List.set_cons_succ]))
  (refine wpAnyH_take (i := 17) (oi := ?_) (v := ?_) ?_ (by kernel_rfl) (by decide +kernel) (by decide +kernel) ?_ (Or.inl ⟨?_, ?_⟩) (by first | assumption | exact trivial) ?_; rotate_left 2; (focus (simp only [List.getElem?_toArray, List.getElem?_cons_zero, List.getElem?_cons_succ] <;> rfl)); (focus (exact fun _ _ _ h => h)); (focus rfl); (focus (intro w hSw; (try dsimp only at hSw); go_simp; (try with_reducible rfl); done)); (try simp only [Act.put, List.setIfInBounds_toArray, List.set_cons_zero, List.set_cons_succ]))
  (refine wpAnyH_take (i := 18) (oi := ?_) (v := ?_) ?_ (by kernel_rfl) (by decide +kernel) (by decide +kernel) ?_ (Or.inl ⟨?_, ?_⟩) (by first | assumption | exact trivial) ?_; rotate_left 2; (focus (simp only [List.getElem?_toArray, List.getElem?_cons_zero, List.getElem?_cons_succ] <;> rfl)); (focus (exact fun _ _ _ h => h)); (focus rfl); (focus (intro w hSw; (try dsimp only at hSw); go_simp; (try with_reducible rfl); done)); (try simp only [Act.put, List.setIfInBounds_toArray, List.set_cons_zero, List.set_cons_succ]))
  (refine wpAnyH_take (i := 19) (oi := ?_) (v := ?_) ?_ (by kernel_rfl) (by decide +kernel) (by decide +kernel) ?_ (Or.inl ⟨?_, ?_⟩) (by first | assumption | exact trivial) ?_; rotate_left 2; (focus (simp only [List.getElem?_toArray, List.getElem?_cons_zero, List.getElem?_cons_succ] <;> rfl)); (focus (exact fun _ _ _ h => h)); (focus rfl); (focus (intro w hSw; (try dsimp only at hSw); go_simp; (try with_reducible rfl); done)); (try simp only [Act.put, List.setIfInBounds_toArray, List.set_cons_zero, List.set_cons_succ]))
  (refine wpAnyH_take (i := 20) (oi := ?_) (v := ?_) ?_ (by kernel_rfl) (by decide +kernel) (by decide +kernel) ?_ (Or.inl ⟨?_, ?_⟩) (by first | assumption | exact trivial) ?_; rotate_left 2; (focus (simp only [List.getElem?_toArray, List.getElem?_cons_zero, List.getElem?_cons_succ] <;> rfl)); (focus (exact fun _ _ _ h => h)); (focus rfl); (focus (intro w hSw; (try dsimp only at hSw); go_simp; (try with_reducible rfl); done)); (try simp only [Act.put, List.setIfInBounds_toArray, List.set_cons_zero, List.set_cons_succ]))
  (refine wpAnyH_take (i := 21) (oi := ?_) (v := ?_) ?_ (by kernel_rfl) (by decide +kernel) (by decide +kernel) ?_ (Or.inl ⟨?_, ?_⟩) (by first | assumption | exact trivial) ?_; rotate_left 2; (focus (simp only [List.getElem?_toArray, List.getElem?_cons_zero, List.getElem?_cons_succ] <;> rfl)); (focus (exact fun _ _ _ h => h)); (focus rfl); (focus (intro w hSw; (try dsimp only at hSw); go_simp; (try with_reducible rfl); done)); (try simp only [Act.put, List.setIfInBounds_toArray, List.set_cons_zero, List.set_cons_succ]))
  (refine wpAnyH_take (i := 22) (oi := ?_) (v := ?_) ?_ (by kernel_rfl) (by decide +kernel) (by decide +kernel) ?_ (Or.inl ⟨?_, ?_⟩) (by first | assumption | exact trivial) ?_; rotate_left 2; (focus (simp only [List.getElem?_toArray, List.getElem?_cons_zero, List.getElem?_cons_succ] <;> rfl)); (focus (exact fun _ _ _ h => h)); (focus rfl); (focus (intro w hSw; (try dsimp only at hSw); go_simp; (try with_reducible rfl); done)); (try simp only [Act.put, List.setIfInBounds_toArray, List.set_cons_zero, List.set_cons_succ]))
  (refine wpAnyH_take (i := 23) (oi := ?_) (v := ?_) ?_ (by kernel_rfl) (by decide +kernel) (by decide +kernel) ?_ (Or.inl ⟨?_, ?_⟩) (by first | assumption | exact trivial) ?_; rotate_left 2; (focus (simp only [List.getElem?_toArray, List.getElem?_cons_zero, List.getElem?_cons_succ] <;> rfl)); (focus (exact fun _ _ _ h => h)); (focus rfl); (focus (intro w hSw; (try dsimp only at hSw); go_simp; (try with_reducible rfl); done)); (try simp only [Act.put, List.setIfInBounds_toArray, List.set_cons_zero, List.set_cons_succ]))
  (refine wpAnyH_take (i := 24) (oi := ?_) (v := ?_) ?_ (by kernel_rfl) (by decide +kernel) (by decide +kernel) ?_ (Or.inl ⟨?_, ?_⟩) (by first | assumption | exact trivial) ?_; rotate_left 2; (focus (simp only [List.getElem?_toArray, List.getElem?_cons_zero, List.getElem?_cons_succ] <;> rfl)); (focus (exact fun _ _ _ h => h)); (focus rfl); (focus (intro w hSw; (try dsimp only at hSw); go_simp; (try with_reducible rfl); done)); (try simp only [Act.put, List.setIfInBounds_toArray, List.set_cons_zero, List.set_cons_succ]))
  refine wpAnyH_ready (rs := [14]) (by kernel_rfl) (by simp) ?_
  refine AllReadyH.cons (o := ?_) ?_ ?_ AllReadyH.nil
  rotate_left 1
  (focus (simp only [List.getElem?_toArray, List.getElem?_cons_zero, List.getElem?_cons_succ] <;> rfl))
  intro K hK
  go_simp
  go_at_call 41
  refine (HCL.out _ (((Only.refl (fun _ => False) w).alloc _).drew)).mono ?_
  rintro e w2 ⟨v2, rfl, hf2⟩
  obtain ⟨A2, k2, hv2, hc2, hcm2, _⟩ := own_form hf2.own
  subst hv2
  have hb2 := hf2.quiet.get (by exact alloc_new w (.cells #[.int .u64 0, .string ⟨#[]⟩, .slice none 0 0, .int .u64 0, .int .u64 0] 75)) (fun x => x)
  have HK : Hid (FreshC w w2 (.slice A2 t.cols.length k2) t.cols) := ⟨(((Only.refl (fun _ => False) w).alloc _).drew).trans hf2.quiet, (fun k e => by have := hf2.new k e; simp only [World.size_drew, World.size_alloc] at this; omega), hf2.own⟩
  have HB2 := Lib.hid hb2
  have z0 := cell_of hb2 0
  have z1 := cell_of hb2 1
  have z2 := cell_of hb2 2
  have z3 := cell_of hb2 3
  have z4 := cell_of hb2 4
  have zf := fun o => frozen_of hb2 o
  simp only [List.getElem?_toArray, List.getElem?_cons_succ, List.getElem?_cons_zero] at z0 z1 z2 z3 z4
  have HN2 : Hid (∀ k, (Value.slice A2 t.cols.length k2).ownBlock = some k → w.heap.size < k) := fun k e => by have := hf2.new k e; simp only [World.size_drew, World.size_alloc] at this; omega
  clear hf2 hb2
  dsimp only
  refine hK.out _ _ ?_ (fun hHeld => ?_)
  · exact five_kept c0 c1 c2 c3 c4 HK.out.quiet (fun x => x)
  clear hK K
  (try simp only [Act.put, List.setIfInBounds_toArray, List.set_cons_zero, List.set_cons_succ])
  (refine wpAnyH_take (i := 25) (oi := ?_) (v := ?_) ?_ (by kernel_rfl) (by decide +kernel) (by decide +kernel) ?_ (Or.inl ⟨?_, ?_⟩) (by first | assumption | exact trivial) ?_; rotate_left 2; (focus (simp only [List.getElem?_toArray, List.getElem?_cons_zero, List.getElem?_cons_succ] <;> rfl)); (focus (exact fun _ _ _ h => h)); (focus rfl); (focus (intro w hSw; (try dsimp only at hSw); go_simp; (try with_reducible rfl); done)); (try simp only [Act.put, List.setIfInBounds_toArray, List.set_cons_zero, List.set_cons_succ]))
  refine wpAnyH_ready (rs := [26]) (by kernel_rfl) (by simp) ?_
  refine AllReadyH.cons (o := ?_) ?_ ?_ AllReadyH.nil
  rotate_left 1
  (focus (simp only [List.getElem?_toArray, List.getElem?_cons_zero, List.getElem?_cons_succ] <;> rfl))
  intro K hK
  go_simp
  refine hK.out _ _ ?_ (fun hHeld => ?_)
  · exact five_kept hHeld.1 hHeld.2.1 hHeld.2.2.1 hHeld.2.2.2.1 hHeld.2.2.2.2 (fiveSet_only w2 w.heap.size (.int .u64 (t.id : Int)) (.string t.name) (.slice A2 t.cols.length k2) (.int .u64 (t.xmin : Int)) (.int .u64 (t.xmax : Int))) hl2
  clear hK K
  (try simp only [Act.put, List.setIfInBounds_toArray, List.set_cons_zero, List.set_cons_succ])
  refine wpAnyH_done (by kernel_rfl) ?_ _
  clear hHeld z0 z1 z2 z3 z4 zf
  have HX := Lib.hid (fiveSet_same HB2.out (.int .u64 (t.id : Int)) (.string t.name) (.slice A2 t.cols.length k2) (.int .u64 (t.xmin : Int)) (.int .u64 (t.xmax : Int)))
  have HO := fiveSet_only w2 w.heap.size (.int .u64 (t.id : Int)) (.string t.name) (.slice A2 t.cols.length k2) (.int .u64 (t.xmin : Int)) (.int .u64 (t.xmax : Int))
  have HF : Hid (FreshC w (fiveSet w2 w.heap.size (.int .u64 (t.id : Int)) (.string t.name) (.slice A2 t.cols.length k2) (.int .u64 (t.xmin : Int)) (.int .u64 (t.xmax : Int))) (.slice A2 t.cols.length k2) t.cols) :=
    ⟨HK.out.quiet.trans' HO (fun k hk e => by omega), fun k e => by have := HN2.out k e; omega, owns_kept HK.out.own HO (fun k e x => by have := HN2.out k e; omega)⟩
  clear HO HK HB2 HN2
  unfold fiveSet at HX HF
  go_wp2
  generalize ((((w2.setCell ⟨w.heap.size, 0, none⟩ (.int .u64 (t.id : Int))).setCell ⟨w.heap.size, 1, none⟩ (.string t.name)).setCell ⟨w.heap.size, 2, none⟩ (.slice A2 t.cols.length k2)).setCell ⟨w.heap.size, 3, none⟩ (.int .u64 (t.xmin : Int))).setCell ⟨w.heap.size, 4, none⟩ (.int .u64 (t.xmax : Int)) = W6 at HX HF ⊢
  exact bodyPost_ret (results_cellS Tryz.results67 _ _ w.heap.size _ _ (0, 0) _ (by rfl) HX.out Tryz.underlying75 rfl info_tab) (by rfl) ⟨A2, k2, rfl, HF.out⟩

/-- Block bb is a book: its tables T in blocks tps, its indexes' row vI, as many as have been made. -/
structure BookRow (w : World) (F : Nat → Prop) (bb : Nat) (T : List TE) (vT : Value) (tps : List Nat) (vI : Value) (ips : List Nat) (last : Nat) : Prop where
  box : w.heap[bb]? = some (.cells #[vT, vI, .int .u64 (last : Int)] 100 (0, 0))
  rowT : w.ownsRow 0 107 1 vT T.length (tps.map ptrV)
  rowI : w.ownsRow 0 169 1 vI ips.length (ips.map ptrV)
  tbl : ∀ (i : Nat) e, T[i]? = some e → ∃ p, tps[i]? = some p ∧ TblAt w F p e
  foot : F bb ∧ (∀ k, vT.ownBlock = some k → F k) ∧ (∀ k, vI.ownBlock = some k → F k)
  num : U64 last

section
variable {w w' : World} {F : Nat → Prop} {bb last : Nat} {T : List TE} {vT vI : Value} {tps ips : List Nat}
theorem BookRow.kept {S : Nat → Prop} (h : BookRow w F bb T vT tps vI ips last) (ho : Only S w w') (hn : ∀ k, F k → ¬ S k) : BookRow w' F bb T vT tps vI ips last :=
  ⟨ho.get h.box (hn _ h.foot.1), owns_kept h.rowT ho (fun k e => hn k (h.foot.2.1 k e)), owns_kept h.rowI ho (fun k e => hn k (h.foot.2.2 k e)), fun i e hi => by obtain ⟨p, h1, h2⟩ := h.tbl i e hi; exact ⟨p, h1, h2.kept ho hn⟩, h.foot, h.num⟩
theorem BookRow.cells (h : BookRow w F bb T vT tps vI ips last) : w.cell? ⟨bb, 0, none⟩ = some vT ∧ w.cell? ⟨bb, 1, none⟩ = some vI ∧ w.cell? ⟨bb, 2, none⟩ = some (.int .u64 (last : Int)) :=
  ⟨by rw [cell_of h.box]; rfl, by rw [cell_of h.box]; rfl, by rw [cell_of h.box]; rfl⟩
theorem BookRow.tlen (h : BookRow w F bb T vT tps vI ips last) : tps.length = T.length := by
  have := h.rowT.1
  simpa using this
end

/-- A row of pointers reads. -/
theorem ptr_form {w : World} {e : TypeId} {v : Value} {n : Nat} {ps : List Nat} (h : w.ownsRow 0 e 1 v n (ps.map ptrV)) : ∃ A c, v = .slice A n c ∧ n ≤ c ∧ c ≤ maxLen ∧ ∀ (i p : Nat), ps[i]? = some p → ∃ g, A = some ⟨g, 0, none⟩ ∧ w.cell? ⟨g, i, none⟩ = some (ptrV p) := by
  have hl : ps.length = n := by have := h.1; simpa using this
  rcases h.2 with ⟨e1, e2⟩ | ⟨g, cap, cur, e1, _, hh, r1, r2, _⟩
  · refine ⟨none, 0, by rw [e2]; exact e1, by omega, Nat.zero_le _, fun i p hi => ?_⟩
    have := (List.getElem?_eq_some_iff.1 hi).1
    omega
  · refine ⟨_, cap, e1, r1, r2, fun i p hi => ⟨g, rfl, ?_⟩⟩
    have := h.cells (by rw [e1]; rfl) i (ptrV p) (by rw [List.getElem?_map, hi]; rfl)
    rw [add_none, Nat.zero_add] at this
    exact this

/-- Is an entry a visible table of a name? -/
def isTE (L : List Nat) (s : Snap) (name : ByteArray) (e : TE) : Bool := (e.name.toList == name.toList) && visS L s e.xmin e.xmax

/-- Which one is found. -/
def findT (L : List Nat) (s : Snap) (name : ByteArray) (T : List TE) : Option Nat := T.findIdx? (isTE L s name)

end Go.Proofs.YtdeekopdhgjanaaGreatDoor

namespace Go.Proofs.YtdeekopdhgjanaaGreatDoor
open Go.RowKit Go.Lap

/-- What table tells. -/
def TabPost (w : World) (tps : List Nat) (o : Option Nat) (e : Ending) (w' : World) : Prop :=
  (match o with | none => e = .returned (.pointer none) | some i => ∃ p, tps[i]? = some p ∧ e = .returned (ptrV p)) ∧ Quiet w w'

theorem findT_some {L : List Nat} {s : Snap} {name : ByteArray} {T : List TE} {k : Nat} {e : TE} (hk : T[k]? = some e) (he : isTE L s name e = true) (hno : ∀ j x, j < k → T[j]? = some x → isTE L s name x = false) : findT L s name T = some k := by
  unfold findT
  rw [List.findIdx?_eq_some_iff_getElem]
  obtain ⟨h1, h2⟩ := List.getElem?_eq_some_iff.1 hk
  refine ⟨h1, by rw [h2]; exact he, fun j hj => ?_⟩
  have := hno j T[j] hj (List.getElem?_eq_getElem (by omega))
  simp [this]

theorem findT_none {L : List Nat} {s : Snap} {name : ByteArray} {T : List TE} (hno : ∀ (j : Nat) x, T[j]? = some x → isTE L s name x = false) : findT L s name T = none := by
  unfold findT
  rw [List.findIdx?_eq_none_iff]
  intro x hx
  obtain ⟨j, hj⟩ := List.mem_iff_getElem?.1 hx
  rw [hno j x hj]

set_option maxHeartbeats 2000000 in
set_option maxRecDepth 100000 in
theorem book_table {w : World} {F Fl S : Nat → Prop} {bb lb last c : Nat} {T : List TE} {vT vI : Value} {tps ips : List Nat} {L : List Nat} {A : Option Addr} {s : Snap} (name : ByteArray) (h : BookRow w F bb T vT tps vI ips last) (hl : LogAt w Fl lb L) (hs : SnapV w S A c s) :
    Calls Tryz.prog 66 #[.pointer (some ⟨bb, 0, none⟩), .pointer (some ⟨lb, 0, none⟩), snapV s A c, .string name] w (TabPost w tps (findT L s name T)) := by
  have HQ0 : Hid (Quiet w (w.alloc (.cells (snapCells s A c) 65))) := (Only.refl _ _).alloc _
  have HB0 := Lib.hid (alloc_new w (.cells (snapCells s A c) 65))
  have HH := Lib.hid h
  have HVIS : Hid (∀ (W : World) (p : Nat) (e : TE) (i : Nat), Quiet w W → T[i]? = some e → tps[i]? = some p → Calls Tryz.prog 64 #[.pointer (some ⟨p, 0, none⟩), .pointer (some ⟨lb, 0, none⟩), snapV s A c] W (BoolQ W (visS L s e.xmin e.xmax))) := fun W p e i hq he hp => by
    obtain ⟨p', h1, h2⟩ := h.tbl i e he
    rw [hp] at h1
    injection h1 with h1
    subst h1
    exact entry_visible (h2.kept hq (fun _ _ x => x)).ent (hl.kept hq (fun _ _ x => x)) (hs.kept hq (fun _ _ x => x)) h2.num.2.1 h2.num.2.2
  obtain ⟨c0, _, _⟩ := h.cells
  obtain ⟨AT, cT, hvT, hcT, hmT, hfT⟩ := ptr_form h.rowT
  subst hvT
  have HFT := Lib.hid hfT
  have htl := h.tlen
  obtain ⟨n, hn⟩ : ∃ n, T.length = n := ⟨_, rfl⟩
  rw [hn] at c0 hcT
  have HN := Lib.hid hn
  have HTL : Hid (tps.length = n) := by rw [htl]; exact hn
  unfold maxLen at hmT
  have hbl := lt_of_get h.box
  obtain ⟨POST, hPOST⟩ : ∃ POST, TabPost w tps (findT L s name T) = POST := ⟨_, rfl⟩
  rw [hPOST]
  have HPOST := Lib.hid hPOST
  unfold snapV at *
  clear h hl hs hfT hn htl hPOST
  go_enter Tryz.func66, Tryz.ntmps66
  go_wp2
  go_loopw [16, 10, 20, 21, 22, 23, 24, 25, 26, 27, 28, 29, 30, 31, 32, 33, 34] (fun i _ _ _ _ _ _ _ _ _ _ _ _ _ _ _ _ wr => ∃ k : Nat, k ≤ n ∧ i = .int .i64 (k : Int) ∧ Quiet w wr ∧ wr.heap[w.heap.size]? = some (.cells (snapCells s A c) 65 (0, 0)) ∧ (∀ (j : Nat) x, j < k → T[j]? = some x → isTE L s name x = false)) (fun i _ _ _ _ _ _ _ _ _ _ _ _ _ _ _ _ _ => n - (intOf i).toNat)
  case atStart => exact ⟨0, Nat.zero_le _, rfl, HQ0.out, HB0.out, fun j x hj => absurd hj (by omega)⟩
  case round =>
    obtain ⟨k, hk, rfl, hq, hb, hno⟩ := hrel
    have HQ := Lib.hid hq
    have HB := Lib.hid hb
    have HNO := Lib.hid hno
    clear hno HB0 HQ0
    by_cases hlt : k < n
    · obtain ⟨e, he⟩ : ∃ e, T[k]? = some e := ⟨_, List.getElem?_eq_getElem (by have := HN.out; omega)⟩
      obtain ⟨p, hp, htb⟩ := HH.out.tbl k e he
      obtain ⟨g, rfl, hg⟩ := HFT.out k p hp
      have hg2 := hq.cell hg (fun x => x)
      have c1 := (htb.kept hq (fun _ _ x => x)).ent.c1
      obtain ⟨b0, b1, b2, b3⟩ := snapBox_cells hb
      have HE := Lib.hid he
      have HP := Lib.hid hp
      clear he hp hg htb hq hb
      by_cases hnm : (e.name.toList == name.toList) = true
      · have HV := Lib.hid (HVIS.out · p e k · HE.out HP.out)
        have HIS : Hid (isTE L s name e = visS L s e.xmin e.xmax) := by
          have : isTE L s name e = ((e.name.toList == name.toList) && visS L s e.xmin e.xmax) := rfl
          rw [hnm, Bool.true_and] at this
          exact this
        generalize visS L s e.xmin e.xmax = r at HV HIS
        go_wp2_with fail
        refine wp_region_held_drew (S := fun w' => w'.cell? ⟨p, 1, none⟩ = some (.string e.name) ∧ w'.cell? ⟨w.heap.size, 0, none⟩ = some (.int .u64 (s.own : Int)) ∧ w'.cell? ⟨w.heap.size, 1, none⟩ = some (.int .u64 (s.xmin : Int)) ∧ w'.cell? ⟨w.heap.size, 2, none⟩ = some (.int .u64 (s.xmax : Int)) ∧ w'.cell? ⟨w.heap.size, 3, none⟩ = some (.slice A s.run.length c)) (by kernel_rfl) (⟨c1, b0, b1, b2, b3⟩) (fun hHeld => ?_)
        simp only [List.size_toArray, List.length_cons, List.length_nil, Nat.reduceAdd]
        (refine wpAnyH_take (i := 0) (oi := ?_) (v := ?_) ?_ (by kernel_rfl) (by decide +kernel) (by decide +kernel) ?_ (Or.inl ⟨?_, ?_⟩) (by first | assumption | exact trivial) ?_; rotate_left 2; (focus (simp only [List.getElem?_toArray, List.getElem?_cons_zero, List.getElem?_cons_succ] <;> rfl)); (focus (exact fun _ _ _ h => h)); (focus rfl); (focus (intro w hSw; (try dsimp only at hSw); go_simp; (try with_reducible rfl); done)); (try simp only [Act.put, List.setIfInBounds_toArray, List.set_cons_zero, List.set_cons_succ]))
        (refine wpAnyH_take (i := 1) (oi := ?_) (v := ?_) ?_ (by kernel_rfl) (by decide +kernel) (by decide +kernel) ?_ (Or.inl ⟨?_, ?_⟩) (by first | assumption | exact trivial) ?_; rotate_left 2; (focus (simp only [List.getElem?_toArray, List.getElem?_cons_zero, List.getElem?_cons_succ] <;> rfl)); (focus (exact fun _ _ _ h => h)); (focus rfl); (focus (intro w hSw; (try dsimp only at hSw); go_simp; (try with_reducible rfl); done)); (try simp only [Act.put, List.setIfInBounds_toArray, List.set_cons_zero, List.set_cons_succ]))
        (refine wpAnyH_take (i := 2) (oi := ?_) (v := ?_) ?_ (by kernel_rfl) (by decide +kernel) (by decide +kernel) ?_ (Or.inl ⟨?_, ?_⟩) (by first | assumption | exact trivial) ?_; rotate_left 2; (focus (simp only [List.getElem?_toArray, List.getElem?_cons_zero, List.getElem?_cons_succ] <;> rfl)); (focus (exact fun _ _ _ h => h)); (focus rfl); (focus (intro w hSw; (try dsimp only at hSw); go_simp; (try with_reducible rfl); done)); (try simp only [Act.put, List.setIfInBounds_toArray, List.set_cons_zero, List.set_cons_succ]))
        (refine wpAnyH_take (i := 3) (oi := ?_) (v := ?_) ?_ (by kernel_rfl) (by decide +kernel) (by decide +kernel) ?_ (Or.inl ⟨?_, ?_⟩) (by first | assumption | exact trivial) ?_; rotate_left 2; (focus (simp only [List.getElem?_toArray, List.getElem?_cons_zero, List.getElem?_cons_succ] <;> rfl)); (focus (exact fun _ _ _ h => h)); (focus rfl); (focus (intro w hSw; (try dsimp only at hSw); go_simp; (try with_reducible rfl); done)); (try simp only [Act.put, List.setIfInBounds_toArray, List.set_cons_zero, List.set_cons_succ]))
        (refine wpAnyH_take (i := 4) (oi := ?_) (v := ?_) ?_ (by kernel_rfl) (by decide +kernel) (by decide +kernel) ?_ (Or.inl ⟨?_, ?_⟩) (by first | assumption | exact trivial) ?_; rotate_left 2; (focus (simp only [List.getElem?_toArray, List.getElem?_cons_zero, List.getElem?_cons_succ] <;> rfl)); (focus (exact fun _ _ _ h => h)); (focus rfl); (focus (intro w hSw; (try dsimp only at hSw); go_simp; (try with_reducible rfl); done)); (try simp only [Act.put, List.setIfInBounds_toArray, List.set_cons_zero, List.set_cons_succ]))
        (refine wpAnyH_take (i := 5) (oi := ?_) (v := ?_) ?_ (by kernel_rfl) (by decide +kernel) (by decide +kernel) ?_ (Or.inl ⟨?_, ?_⟩) (by first | assumption | exact trivial) ?_; rotate_left 2; (focus (simp only [List.getElem?_toArray, List.getElem?_cons_zero, List.getElem?_cons_succ] <;> rfl)); (focus (exact fun _ _ _ h => h)); (focus rfl); (focus (intro w hSw; (try dsimp only at hSw); go_simp; (try with_reducible rfl); done)); (try simp only [Act.put, List.setIfInBounds_toArray, List.set_cons_zero, List.set_cons_succ]))
        (refine wpAnyH_take (i := 6) (oi := ?_) (v := ?_) ?_ (by kernel_rfl) (by decide +kernel) (by decide +kernel) ?_ (Or.inl ⟨?_, ?_⟩) (by first | assumption | exact trivial) ?_; rotate_left 2; (focus (simp only [List.getElem?_toArray, List.getElem?_cons_zero, List.getElem?_cons_succ] <;> rfl)); (focus (exact fun _ _ _ h => h)); (focus rfl); (focus (intro w hSw; (try dsimp only at hSw); go_simp; (try with_reducible rfl); done)); (try simp only [Act.put, List.setIfInBounds_toArray, List.set_cons_zero, List.set_cons_succ]))
        (refine wpAnyH_take (i := 7) (oi := ?_) (v := ?_) ?_ (by kernel_rfl) (by decide +kernel) (by decide +kernel) ?_ (Or.inl ⟨?_, ?_⟩) (by first | assumption | exact trivial) ?_; rotate_left 2; (focus (simp only [List.getElem?_toArray, List.getElem?_cons_zero, List.getElem?_cons_succ] <;> rfl)); (focus (exact fun _ _ _ h => h)); (focus rfl); (focus (intro w hSw; (try dsimp only at hSw); go_simp; (try with_reducible rfl); done)); (try simp only [Act.put, List.setIfInBounds_toArray, List.set_cons_zero, List.set_cons_succ]))
        (refine wpAnyH_take (i := 8) (oi := ?_) (v := ?_) ?_ (by kernel_rfl) (by decide +kernel) (by decide +kernel) ?_ (Or.inl ⟨?_, ?_⟩) (by first | assumption | exact trivial) ?_; rotate_left 2; (focus (simp only [List.getElem?_toArray, List.getElem?_cons_zero, List.getElem?_cons_succ] <;> rfl)); (focus (exact fun _ _ _ h => h)); (focus rfl); (focus (intro w hSw; (try dsimp only at hSw); go_simp; (try with_reducible rfl); done)); (try simp only [Act.put, List.setIfInBounds_toArray, List.set_cons_zero, List.set_cons_succ]))
        (refine wpAnyH_take (i := 9) (oi := ?_) (v := ?_) ?_ (by kernel_rfl) (by decide +kernel) (by decide +kernel) ?_ (Or.inl ⟨?_, ?_⟩) (by first | assumption | exact trivial) ?_; rotate_left 2; (focus (simp only [List.getElem?_toArray, List.getElem?_cons_zero, List.getElem?_cons_succ] <;> rfl)); (focus (exact fun _ _ _ h => h)); (focus rfl); (focus (intro w hSw; (try dsimp only at hSw); go_simp; (try with_reducible rfl); done)); (try simp only [Act.put, List.setIfInBounds_toArray, List.set_cons_zero, List.set_cons_succ]))
        (refine wpAnyH_take (i := 10) (oi := ?_) (v := ?_) ?_ (by kernel_rfl) (by decide +kernel) (by decide +kernel) ?_ (Or.inl ⟨?_, ?_⟩) (by first | assumption | exact trivial) ?_; rotate_left 2; (focus (simp only [List.getElem?_toArray, List.getElem?_cons_zero, List.getElem?_cons_succ] <;> rfl)); (focus (exact fun _ _ _ h => h)); (focus rfl); (focus (intro w hSw; (try dsimp only at hSw); go_simp; (try with_reducible rfl); done)); (try simp only [Act.put, List.setIfInBounds_toArray, List.set_cons_zero, List.set_cons_succ]))
        (refine wpAnyH_take (i := 11) (oi := ?_) (v := ?_) ?_ (by kernel_rfl) (by decide +kernel) (by decide +kernel) ?_ (Or.inl ⟨?_, ?_⟩) (by first | assumption | exact trivial) ?_; rotate_left 2; (focus (simp only [List.getElem?_toArray, List.getElem?_cons_zero, List.getElem?_cons_succ] <;> rfl)); (focus (exact fun _ _ _ h => h)); (focus rfl); (focus (intro w hSw; (try dsimp only at hSw); go_simp; (try with_reducible rfl); done)); (try simp only [Act.put, List.setIfInBounds_toArray, List.set_cons_zero, List.set_cons_succ]))
        (refine wpAnyH_take (i := 12) (oi := ?_) (v := ?_) ?_ (by kernel_rfl) (by decide +kernel) (by decide +kernel) ?_ (Or.inl ⟨?_, ?_⟩) (by first | assumption | exact trivial) ?_; rotate_left 2; (focus (simp only [List.getElem?_toArray, List.getElem?_cons_zero, List.getElem?_cons_succ] <;> rfl)); (focus (exact fun _ _ _ h => h)); (focus rfl); (focus (intro w hSw; (try dsimp only at hSw); go_simp; (try with_reducible rfl); done)); (try simp only [Act.put, List.setIfInBounds_toArray, List.set_cons_zero, List.set_cons_succ]))
        refine wpAnyH_ready (rs := [13]) (by kernel_rfl) (by simp) ?_
        refine AllReadyH.cons (o := ?_) ?_ ?_ AllReadyH.nil
        rotate_left 1
        (focus (simp only [List.getElem?_toArray, List.getElem?_cons_zero, List.getElem?_cons_succ] <;> rfl))
        intro K hK
        go_simp
        go_at_call 64
        refine (HV.out _ HQ.out.drew).mono ?_
        rintro e' w3 ⟨rfl, hq3⟩
        have HQ3 := Lib.hid (HQ.out.drew.trans hq3)
        have HB3 := Lib.hid (hq3.get (by exact HB.out) (fun x => x))
        have hs3 := snapBox_cells HB3.out
        have hn3 := hq3.cell (by exact c1) (fun x => x)
        clear hq3
        dsimp only
        refine hK.out _ _ ?_ (fun hHeld => ?_)
        · exact ⟨hn3, hs3⟩
        clear hK K
        (try simp only [Act.put, List.setIfInBounds_toArray, List.set_cons_zero, List.set_cons_succ])
        (refine wpAnyH_take (i := 14) (oi := ?_) (v := ?_) ?_ (by kernel_rfl) (by decide +kernel) (by decide +kernel) ?_ (Or.inl ⟨?_, ?_⟩) (by first | assumption | exact trivial) ?_; rotate_left 2; (focus (simp only [List.getElem?_toArray, List.getElem?_cons_zero, List.getElem?_cons_succ] <;> rfl)); (focus (exact fun _ _ _ h => h)); (focus rfl); (focus (intro w hSw; (try dsimp only at hSw); go_simp; (try with_reducible rfl); done)); (try simp only [Act.put, List.setIfInBounds_toArray, List.set_cons_zero, List.set_cons_succ]))
        refine wpAnyH_done (by kernel_rfl) ?_ _
        rcases r with _ | _
        · have HK : Hid (∀ (j : Nat) x, j < k + 1 → T[j]? = some x → isTE L s name x = false) := fun j x hj hx => by
            rcases Nat.lt_or_ge j k with a | a
            · exact HNO.out j x a hx
            · obtain rfl : j = k := by omega
              rw [HE.out] at hx
              injection hx with hx
              rw [← hx]
              exact HIS.out
          clear hHeld c1 b0 b1 b2 b3 hg2
          go_wp2
          go_roundw
          case rel => exact ⟨k + 1, by omega, by go_num, HQ3.out, HB3.out, HK.out⟩
          case measure => simp [intOf]; omega
        · have HEND : Hid (POST (.returned (ptrV p)) w3) := by
            rw [← HPOST.out, findT_some HE.out HIS.out HNO.out]
            exact ⟨⟨p, HP.out, rfl⟩, HQ3.out⟩
          clear hHeld c1 b0 b1 b2 b3 hg2
          go_wp2
          exact HEND.out
      · have hnm2 : (e.name.toList == name.toList) = false := by simpa using hnm
        have HK : Hid (∀ (j : Nat) x, j < k + 1 → T[j]? = some x → isTE L s name x = false) := fun j x hj hx => by
          rcases Nat.lt_or_ge j k with a | a
          · exact HNO.out j x a hx
          · obtain rfl : j = k := by omega
            rw [HE.out] at hx
            injection hx with hx
            rw [← hx]
            unfold isTE
            rw [hnm2]; rfl
        clear hnm
        go_wp2_with fail
        refine wp_region_held_drew (S := fun w' => w'.cell? ⟨p, 1, none⟩ = some (.string e.name) ∧ w'.cell? ⟨w.heap.size, 0, none⟩ = some (.int .u64 (s.own : Int)) ∧ w'.cell? ⟨w.heap.size, 1, none⟩ = some (.int .u64 (s.xmin : Int)) ∧ w'.cell? ⟨w.heap.size, 2, none⟩ = some (.int .u64 (s.xmax : Int)) ∧ w'.cell? ⟨w.heap.size, 3, none⟩ = some (.slice A s.run.length c)) (by kernel_rfl) (⟨c1, b0, b1, b2, b3⟩) (fun hHeld => ?_)
        simp only [List.size_toArray, List.length_cons, List.length_nil, Nat.reduceAdd]
        (refine wpAnyH_take (i := 0) (oi := ?_) (v := ?_) ?_ (by kernel_rfl) (by decide +kernel) (by decide +kernel) ?_ (Or.inl ⟨?_, ?_⟩) (by first | assumption | exact trivial) ?_; rotate_left 2; (focus (simp only [List.getElem?_toArray, List.getElem?_cons_zero, List.getElem?_cons_succ] <;> rfl)); (focus (exact fun _ _ _ h => h)); (focus rfl); (focus (intro w hSw; (try dsimp only at hSw); go_simp; (try with_reducible rfl); done)); (try simp only [Act.put, List.setIfInBounds_toArray, List.set_cons_zero, List.set_cons_succ]))
        (refine wpAnyH_take (i := 1) (oi := ?_) (v := ?_) ?_ (by kernel_rfl) (by decide +kernel) (by decide +kernel) ?_ (Or.inl ⟨?_, ?_⟩) (by first | assumption | exact trivial) ?_; rotate_left 2; (focus (simp only [List.getElem?_toArray, List.getElem?_cons_zero, List.getElem?_cons_succ] <;> rfl)); (focus (exact fun _ _ _ h => h)); (focus rfl); (focus (intro w hSw; (try dsimp only at hSw); go_simp; (try with_reducible rfl); done)); (try simp only [Act.put, List.setIfInBounds_toArray, List.set_cons_zero, List.set_cons_succ]))
        (refine wpAnyH_take (i := 2) (oi := ?_) (v := ?_) ?_ (by kernel_rfl) (by decide +kernel) (by decide +kernel) ?_ (Or.inl ⟨?_, ?_⟩) (by first | assumption | exact trivial) ?_; rotate_left 2; (focus (simp only [List.getElem?_toArray, List.getElem?_cons_zero, List.getElem?_cons_succ] <;> rfl)); (focus (exact fun _ _ _ h => h)); (focus rfl); (focus (intro w hSw; (try dsimp only at hSw); go_simp; (try with_reducible rfl); done)); (try simp only [Act.put, List.setIfInBounds_toArray, List.set_cons_zero, List.set_cons_succ]))
        (refine wpAnyH_take (i := 3) (oi := ?_) (v := ?_) ?_ (by kernel_rfl) (by decide +kernel) (by decide +kernel) ?_ (Or.inl ⟨?_, ?_⟩) (by first | assumption | exact trivial) ?_; rotate_left 2; (focus (simp only [List.getElem?_toArray, List.getElem?_cons_zero, List.getElem?_cons_succ] <;> rfl)); (focus (exact fun _ _ _ h => h)); (focus rfl); (focus (intro w hSw; (try dsimp only at hSw); go_simp; (try with_reducible rfl); done)); (try simp only [Act.put, List.setIfInBounds_toArray, List.set_cons_zero, List.set_cons_succ]))
        (refine wpAnyH_take (i := 4) (oi := ?_) (v := ?_) ?_ (by kernel_rfl) (by decide +kernel) (by decide +kernel) ?_ (Or.inl ⟨?_, ?_⟩) (by first | assumption | exact trivial) ?_; rotate_left 2; (focus (simp only [List.getElem?_toArray, List.getElem?_cons_zero, List.getElem?_cons_succ] <;> rfl)); (focus (exact fun _ _ _ h => h)); (focus rfl); (focus (intro w hSw; (try dsimp only at hSw); go_simp; (try with_reducible rfl); done)); (try simp only [Act.put, List.setIfInBounds_toArray, List.set_cons_zero, List.set_cons_succ]))
        (refine wpAnyH_take (i := 5) (oi := ?_) (v := ?_) ?_ (by kernel_rfl) (by decide +kernel) (by decide +kernel) ?_ (Or.inl ⟨?_, ?_⟩) (by first | assumption | exact trivial) ?_; rotate_left 2; (focus (simp only [List.getElem?_toArray, List.getElem?_cons_zero, List.getElem?_cons_succ] <;> rfl)); (focus (exact fun _ _ _ h => h)); (focus rfl); (focus (intro w hSw; (try dsimp only at hSw); go_simp; (try with_reducible rfl); done)); (try simp only [Act.put, List.setIfInBounds_toArray, List.set_cons_zero, List.set_cons_succ]))
        (refine wpAnyH_take (i := 6) (oi := ?_) (v := ?_) ?_ (by kernel_rfl) (by decide +kernel) (by decide +kernel) ?_ (Or.inl ⟨?_, ?_⟩) (by first | assumption | exact trivial) ?_; rotate_left 2; (focus (simp only [List.getElem?_toArray, List.getElem?_cons_zero, List.getElem?_cons_succ] <;> rfl)); (focus (exact fun _ _ _ h => h)); (focus rfl); (focus (intro w hSw; (try dsimp only at hSw); go_simp; (try with_reducible rfl); done)); (try simp only [Act.put, List.setIfInBounds_toArray, List.set_cons_zero, List.set_cons_succ]))
        (refine wpAnyH_take (i := 7) (oi := ?_) (v := ?_) ?_ (by kernel_rfl) (by decide +kernel) (by decide +kernel) ?_ (Or.inl ⟨?_, ?_⟩) (by first | assumption | exact trivial) ?_; rotate_left 2; (focus (simp only [List.getElem?_toArray, List.getElem?_cons_zero, List.getElem?_cons_succ] <;> rfl)); (focus (exact fun _ _ _ h => h)); (focus rfl); (focus (intro w hSw; (try dsimp only at hSw); go_simp; (try with_reducible rfl); done)); (try simp only [Act.put, List.setIfInBounds_toArray, List.set_cons_zero, List.set_cons_succ]))
        (refine wpAnyH_take (i := 8) (oi := ?_) (v := undef) ?_ (by kernel_rfl) (by decide +kernel) (by decide +kernel) ?_ (Or.inr ⟨?_, rfl⟩) (by first | assumption | exact trivial) ?_; rotate_left 1; (focus (simp only [List.getElem?_toArray, List.getElem?_cons_zero, List.getElem?_cons_succ] <;> rfl)); (focus (exact fun _ _ _ h => h)); (focus rfl); (try simp only [Act.put, List.setIfInBounds_toArray, List.set_cons_zero, List.set_cons_succ]))
        (refine wpAnyH_take (i := 9) (oi := ?_) (v := undef) ?_ (by kernel_rfl) (by decide +kernel) (by decide +kernel) ?_ (Or.inr ⟨?_, rfl⟩) (by first | assumption | exact trivial) ?_; rotate_left 1; (focus (simp only [List.getElem?_toArray, List.getElem?_cons_zero, List.getElem?_cons_succ] <;> rfl)); (focus (exact fun _ _ _ h => h)); (focus rfl); (try simp only [Act.put, List.setIfInBounds_toArray, List.set_cons_zero, List.set_cons_succ]))
        (refine wpAnyH_take (i := 10) (oi := ?_) (v := undef) ?_ (by kernel_rfl) (by decide +kernel) (by decide +kernel) ?_ (Or.inr ⟨?_, rfl⟩) (by first | assumption | exact trivial) ?_; rotate_left 1; (focus (simp only [List.getElem?_toArray, List.getElem?_cons_zero, List.getElem?_cons_succ] <;> rfl)); (focus (exact fun _ _ _ h => h)); (focus rfl); (try simp only [Act.put, List.setIfInBounds_toArray, List.set_cons_zero, List.set_cons_succ]))
        (refine wpAnyH_take (i := 11) (oi := ?_) (v := undef) ?_ (by kernel_rfl) (by decide +kernel) (by decide +kernel) ?_ (Or.inr ⟨?_, rfl⟩) (by first | assumption | exact trivial) ?_; rotate_left 1; (focus (simp only [List.getElem?_toArray, List.getElem?_cons_zero, List.getElem?_cons_succ] <;> rfl)); (focus (exact fun _ _ _ h => h)); (focus rfl); (try simp only [Act.put, List.setIfInBounds_toArray, List.set_cons_zero, List.set_cons_succ]))
        (refine wpAnyH_take (i := 12) (oi := ?_) (v := undef) ?_ (by kernel_rfl) (by decide +kernel) (by decide +kernel) ?_ (Or.inr ⟨?_, rfl⟩) (by first | assumption | exact trivial) ?_; rotate_left 1; (focus (simp only [List.getElem?_toArray, List.getElem?_cons_zero, List.getElem?_cons_succ] <;> rfl)); (focus (exact fun _ _ _ h => h)); (focus rfl); (try simp only [Act.put, List.setIfInBounds_toArray, List.set_cons_zero, List.set_cons_succ]))
        (refine wpAnyH_take (i := 13) (oi := ?_) (v := undef) ?_ (by kernel_rfl) (by decide +kernel) (by decide +kernel) ?_ (Or.inr ⟨?_, rfl⟩) (by first | assumption | exact trivial) ?_; rotate_left 1; (focus (simp only [List.getElem?_toArray, List.getElem?_cons_zero, List.getElem?_cons_succ] <;> rfl)); (focus (exact fun _ _ _ h => h)); (focus rfl); (try simp only [Act.put, List.setIfInBounds_toArray, List.set_cons_zero, List.set_cons_succ]))
        (refine wpAnyH_take (i := 14) (oi := ?_) (v := ?_) ?_ (by kernel_rfl) (by decide +kernel) (by decide +kernel) ?_ (Or.inl ⟨?_, ?_⟩) (by first | assumption | exact trivial) ?_; rotate_left 2; (focus (simp only [List.getElem?_toArray, List.getElem?_cons_zero, List.getElem?_cons_succ] <;> rfl)); (focus (exact fun _ _ _ h => h)); (focus rfl); (focus (intro w hSw; (try dsimp only at hSw); go_simp; (try with_reducible rfl); done)); (try simp only [Act.put, List.setIfInBounds_toArray, List.set_cons_zero, List.set_cons_succ]))
        refine wpAnyH_done (by kernel_rfl) ?_ _
        clear hHeld c1 b0 b1 b2 b3 hg2 hnm2
        go_wp2
        go_roundw
        case rel => exact ⟨k + 1, by omega, by go_num, HQ.out.drew, HB.out, HK.out⟩
        case measure => simp [intOf]; omega
    · have HEND : Hid (POST (.returned (.pointer none)) wr) := by
        rw [← HPOST.out, findT_none (fun j x hx => HNO.out j x (by have := HN.out; have := (List.getElem?_eq_some_iff.1 hx).1; omega) hx)]
        exact ⟨rfl, HQ.out⟩
      obtain rfl : k = n := by omega
      clear hq hb
      go_wp2
      exact HEND.out

end Go.Proofs.YtdeekopdhgjanaaGreatDoor

namespace Go.Proofs.YtdeekopdhgjanaaGreatDoor
open Go.RowKit Go.Lap

/-- What Table tells of an entry that there is. -/
def TablePost (w : World) (t : TE) (e : Ending) (w' : World) : Prop := ∃ A c, e = .returned (.tuple #[tabV t A c, .bool true]) ∧ FreshC w w' (.slice A t.cols.length c) t.cols ∧ t.cols.length ≤ c ∧ c ≤ maxLen

set_option maxHeartbeats 1000000 in
set_option maxRecDepth 100000 in
theorem book_Table {w : World} {F Fl S : Nat → Prop} {bb lb last c i : Nat} {T : List TE} {vT vI : Value} {tps ips : List Nat} {L : List Nat} {A : Option Addr} {s : Snap} {t : TE} (name : ByteArray) (h : BookRow w F bb T vT tps vI ips last) (hl : LogAt w Fl lb L) (hs : SnapV w S A c s) (hf : findT L s name T = some i) (ht : T[i]? = some t) :
    Calls Tryz.prog 43 #[.pointer (some ⟨bb, 0, none⟩), .pointer (some ⟨lb, 0, none⟩), snapV s A c, .string name] w (TablePost w t) := by
  have HQ0 : Hid (Quiet w ((w.alloc (.cells (snapCells s A c) 65)).alloc (.cells #[.int .u64 0, .string ⟨#[]⟩, .slice none 0 0, .int .u64 0, .int .u64 0] 75))) := ((Only.refl _ _).alloc _).alloc _
  have HR := Lib.hid (two_new w (.cells (snapCells s A c) 65) (.cells #[.int .u64 0, .string ⟨#[]⟩, .slice none 0 0, .int .u64 0, .int .u64 0] 75))
  have HT : Hid (∀ W, Quiet w W → Calls Tryz.prog 66 #[.pointer (some ⟨bb, 0, none⟩), .pointer (some ⟨lb, 0, none⟩), snapV s A c, .string name] W (TabPost W tps (some i))) := fun W hq => by
    have := book_table name (h.kept hq (fun _ _ x => x)) (hl.kept hq (fun _ _ x => x)) (hs.kept hq (fun _ _ x => x))
    rw [hf] at this
    exact this
  have HTO : Hid (∀ W p, Quiet w W → tps[i]? = some p → Calls Tryz.prog 67 #[.pointer (some ⟨p, 0, none⟩)] W (ToldPost W t)) := fun W p hq hp => by
    obtain ⟨p', h1, h2⟩ := h.tbl i t ht
    rw [hp] at h1
    injection h1 with h1
    subst h1
    exact table_told (h2.kept hq (fun _ _ x => x))
  unfold snapV at *
  clear h hl hs hf ht
  go_enter Tryz.func43, Tryz.ntmps43
  go_wp2_with fail
  refine (HT.out _ HQ0.out).mono ?_
  rintro e w1 ⟨⟨p, hp, rfl⟩, hq1⟩
  have HQ1 := Lib.hid (HQ0.out.trans hq1)
  have HR1 := Lib.hid (hq1.get (by exact HR.out) (fun x => x))
  have HP := Lib.hid hp
  clear hq1 hp HT HQ0 HR
  go_wp2_with fail
  refine (HTO.out _ p HQ1.out HP.out).mono ?_
  rintro e w2 ⟨A2, c2, rfl, hf2⟩
  obtain ⟨A5, c5, e5, hc5, hm5, _⟩ := own_form hf2.own
  injection e5 with e5 _ e6
  subst e5 e6
  have hb2 := hf2.quiet.get (by exact HR1.out) (fun x => x)
  have z0 := cell_of hb2 0
  have z1 := cell_of hb2 1
  have z2 := cell_of hb2 2
  have z3 := cell_of hb2 3
  have z4 := cell_of hb2 4
  have zf := fun o => frozen_of hb2 o
  simp only [List.getElem?_toArray, List.getElem?_cons_succ, List.getElem?_cons_zero] at z0 z1 z2 z3 z4
  have HX := Lib.hid (fiveSet_same hb2 (.int .u64 (t.id : Int)) (.string t.name) (.slice A2 t.cols.length c2) (.int .u64 (t.xmin : Int)) (.int .u64 (t.xmax : Int)))
  have HO := fiveSet_only w2 (w.heap.size + 1) (.int .u64 (t.id : Int)) (.string t.name) (.slice A2 t.cols.length c2) (.int .u64 (t.xmin : Int)) (.int .u64 (t.xmax : Int))
  have hz1 : w.heap.size + 1 < w1.heap.size := lt_of_get HR1.out
  have HF : Hid (FreshC w (fiveSet w2 (w.heap.size + 1) (.int .u64 (t.id : Int)) (.string t.name) (.slice A2 t.cols.length c2) (.int .u64 (t.xmin : Int)) (.int .u64 (t.xmax : Int))) (.slice A2 t.cols.length c2) t.cols) :=
    ⟨(HQ1.out.trans hf2.quiet).trans' HO (fun k hk e => by omega), fun k e => by have := hf2.new k e; omega, owns_kept hf2.own HO (fun k e x => by have := hf2.new k e; omega)⟩
  have HC := Lib.hid hc5
  have HM := Lib.hid hm5
  clear HO hf2 hb2 HTO HR1 HQ1 hc5 hm5
  unfold fiveSet at HX HF
  unfold tabV
  go_wp2
  generalize ((((w2.setCell ⟨w.heap.size + 1, 0, none⟩ (.int .u64 (t.id : Int))).setCell ⟨w.heap.size + 1, 1, none⟩ (.string t.name)).setCell ⟨w.heap.size + 1, 2, none⟩ (.slice A2 t.cols.length c2)).setCell ⟨w.heap.size + 1, 3, none⟩ (.int .u64 (t.xmin : Int))).setCell ⟨w.heap.size + 1, 4, none⟩ (.int .u64 (t.xmax : Int)) = W6 at HX HF ⊢
  exact bodyPost_ret (results_cell_tmp Tryz.results43 _ _ (w.heap.size + 1) _ _ (0, 0) _ (by rfl) HX.out Tryz.underlying75 rfl info_tab) (by rfl) ⟨A2, c2, rfl, HF.out, HC.out, HM.out⟩

end Go.Proofs.YtdeekopdhgjanaaGreatDoor

namespace Go.Proofs.YtdeekopdhgjanaaGreatDoor
open Go.RowKit Go.Lap

/-- A name of small letters. -/
structure Small (s : ByteArray) : Prop where
  pos : 0 < s.size
  most : s.size ≤ 20
  low : ∀ (i : Nat) (h : i < s.size), 97 ≤ (s[i]'h).toNat ∧ (s[i]'h).toNat ≤ 122

set_option maxHeartbeats 1000000 in
set_option maxRecDepth 100000 in
theorem book_name (s : ByteArray) (hs : Small s) (w : World) :
    Calls Tryz.prog 37 #[.string s] w (BoolQ w true) := by
  obtain ⟨h0, h20, hl⟩ := hs
  have HL := Lib.hid hl
  have he : s.toList.isEmpty = false := by
    have : s.toList.length = s.size := by rw [Lib.toList_data]; simp
    rcases h : s.toList with _ | _
    · rw [h] at this; simp at this; omega
    · rfl
  clear hl
  go_enter Tryz.func37, Tryz.ntmps37
  go_wp2
  go_loopw [8, 9, 10, 11, 3, 4, 5, 12, 13, 14, 15, 16, 17, 18, 19, 20, 21, 22, 23, 24, 25, 26, 27, 28, 29, 30, 31, 32, 33, 34, 35] (fun _ _ _ _ _ _ _ _ _ _ _ _ _ _ _ _ _ _ _ _ _ _ _ _ _ _ _ _ _ _ _ wr => ∃ k : Nat, k ≤ s.size ∧ wr = w.iter s k) (fun _ _ _ _ _ _ _ _ _ _ _ _ _ _ _ _ _ _ _ _ _ _ _ _ _ _ _ _ _ _ _ wr => s.size - wr.iterPos w.heap.size)
  case atStart => exact ⟨0, Nat.zero_le _, rfl⟩
  case round =>
    obtain ⟨k, hk, rfl⟩ := hrel
    by_cases hlt : k < s.size
    · obtain ⟨x, hx⟩ : ∃ x, (s[k]'hlt).toNat = x := ⟨_, rfl⟩
      have hb := HL.out k hlt
      have hn := fun ty => run_next_ascii (P := Tryz.prog) w s k ty hlt (by omega)
      rw [hx] at hn hb
      have d0 : (97 : Int) ≤ x := by omega
      have d1 : (x : Int) ≤ 122 := by omega
      clear hx
      go_wp2
      go_roundw
      case rel => exact ⟨k + 1, by omega, rfl⟩
      case measure => simp; omega
    · obtain rfl : k = s.size := by omega
      have hn := fun ty => run_next_end (P := Tryz.prog) w s s.size ty (by omega)
      have d2 : decide ((s.size : Int) ≤ 20) = true := decide_eq_true (by omega)
      go_wp2
      go_ret
      exact ⟨rfl, (Only.refl _ _).alloc _⟩

theorem ownsS_kept {w w' : World} {S : Nat → Prop} {P : Program} {k : TypeId} {R : Value → Option (DataW Unit × List MemPlace)} {b n : Nat} {D : DataW Unit} (h : w.ownsMap P k R b n D) (ho : Only S w w') (hn : ¬ S b) : w'.ownsMap P k R b n D := by
  obtain ⟨es, clock, h1, r⟩ := h
  exact ⟨es, clock, ho.get h1 hn, r⟩

set_option maxRecDepth 100000 in
theorem seenS_look {w : World} {b : Nat} (h : w.ownsMap Tryz.prog 9 (plainElem (H := Unit) Tryz.prog 4) b 0 (.map [])) (s : ByteArray) (hs : s.size ≤ 20) :
    (Instr.lookup 150 (.map (some b)) (.string s) false).run Tryz.prog w = .ok (.bool false) w := by
  obtain ⟨v, ps, hrun, hv⟩ := h.lookup (Maps.string_keyed Tryz.underlying9) Tryz.underlying150 (zero_boolS w) (plainElem_bool Tryz.underlying4 false) (Go.WideMaps.keyOf_string_mk Tryz.underlying9 (s := s) (by unfold maxLen; omega))
  obtain ⟨a, rfl, hz⟩ := plainElem_bool_inv Tryz.underlying4 hv
  injection hz with hz _
  injection hz with hz
  injection hz with hz
  rw [hrun, ← hz]

set_option maxHeartbeats 1000000 in
set_option maxRecDepth 100000 in
theorem right_one {w : World} {S : Nat → Prop} {A : Option Addr} {c kd : Nat} {nm : ByteArray} (hr : Rd w S 2 A 1 (colsV [(nm, kd)])) (hnm : Small nm) (hk : 1 ≤ kd ∧ kd ≤ 3) (hc : 1 ≤ c) (hm : c ≤ maxLen) :
    Calls Tryz.prog 38 #[.slice A 1 c] w (BoolQ w true) := by
  have hmm := @run_makeMap Tryz.prog
  obtain ⟨b, off, rfl, _, hcs⟩ := hr.at_ (k := 0) (by omega) (by omega)
  obtain ⟨u0, h0, c0⟩ := hcs 0 (by omega)
  obtain ⟨u1, h1, c1⟩ := hcs 1 (by omega)
  obtain rfl : Value.string nm = u0 := Option.some.inj h0
  obtain rfl : Value.int .u8 (kd : Int) = u1 := Option.some.inj h1
  simp only [Nat.zero_mul, Nat.add_zero, Nat.zero_add] at c0 c1
  have HNM : Hid (∀ W, Calls Tryz.prog 37 #[.string nm] W (BoolQ W true)) := fun W => book_name nm hnm W
  have HO : Hid (World.ownsMap (w.alloc (.map #[] 0)) Tryz.prog 9 (plainElem (H := Unit) Tryz.prog 4) w.heap.size 0 (.map [])) := World.ownsMap_made _ _ _ _
  have HSZ := Lib.hid hnm.most
  have hb := cell_lt c0
  unfold maxLen at hm
  clear hr hcs h0 h1 hnm
  go_enter Tryz.func38, Tryz.ntmps38
  go_wp2
  go_loopw [9, 5, 10, 11, 12, 13, 14, 15, 16, 17, 18, 19, 20, 21, 22, 23, 24, 25, 26, 27, 28, 29, 30, 31, 32, 33, 34, 35] (fun i _ _ _ _ _ _ _ _ _ _ _ _ _ _ _ _ _ _ _ _ _ _ _ _ _ _ _ wr => ∃ k : Nat, k ≤ 1 ∧ i = .int .i64 (k : Int) ∧ Quiet w wr ∧ (k = 0 → wr = w.alloc (.map #[] 0))) (fun i _ _ _ _ _ _ _ _ _ _ _ _ _ _ _ _ _ _ _ _ _ _ _ _ _ _ _ _ => 1 - (intOf i).toNat)
  case atStart => exact ⟨0, Nat.zero_le _, rfl, (Only.refl _ _).alloc _, fun _ => rfl⟩
  case round =>
    obtain ⟨k, hk1, rfl, hq, hw⟩ := hrel
    rcases k with _ | k
    · obtain rfl := hw rfl
      have HQ := Lib.hid hq
      clear hw hq hk1
      have HB : Hid (((w.alloc (.map #[] 0)).alloc (.cells #[.string nm, .int .u8 (kd : Int)] 73)).heap[w.heap.size + 1]? = some (.cells #[.string nm, .int .u8 (kd : Int)] 73 (0, 0))) := two_new w _ _
      go_wp2_with fail
      refine (HNM.out _).mono ?_
      rintro e w2 ⟨rfl, hq2⟩
      have HO2 := Lib.hid (ownsS_kept HO.out (((Only.refl (fun _ => False) _).alloc (.cells #[.string nm, .int .u8 (kd : Int)] 73)).trans hq2) (fun x => x))
      have hb2 := hq2.get (by exact HB.out) (fun x => x)
      have z0 := cell_of hb2 0
      have z1 := cell_of hb2 1
      simp only [List.getElem?_toArray, List.getElem?_cons_succ, List.getElem?_cons_zero] at z0 z1
      have hlk := seenS_look HO2.out nm HSZ.out
      obtain ⟨w3, hup, _, hgr⟩ := HO2.out.update (Maps.string_keyed Tryz.underlying9) Tryz.underlying150 (by unfold maxLen; omega) (Go.WideMaps.keyOf_string_mk Tryz.underlying9 (s := nm) (by have := HSZ.out; unfold maxLen; omega)) (plainElem_bool Tryz.underlying4 true)
      have HQ3 : Hid (Quiet w w3) := ((HQ.out.alloc _).trans hq2).trans' ((Only.refl (· = w.heap.size) w2).byMap hgr (fun _ => rfl)) (fun k hk e => by omega)
      have d0 : ((kd : Int) == 0) = false := by simp; omega
      have d1 : decide (3 < (kd : Int)) = false := decide_eq_false (by omega)
      clear hq2 hb2 hgr HO2 HB HQ HO
      go_wp2
      go_roundw
      case rel => exact ⟨1, by omega, by go_num, HQ3.out, fun x => by cases x⟩
      case measure => simp [intOf]
    · obtain rfl : k = 0 := by omega
      have HQ := Lib.hid hq
      clear hw hq
      go_wp2
      go_ret
      exact ⟨rfl, HQ.out⟩

end Go.Proofs.YtdeekopdhgjanaaGreatDoor

namespace Go.Proofs.YtdeekopdhgjanaaGreatDoor
open Go.RowKit Go.Lap

/-- Block xb is an index's entry. -/
structure IdxAt (w : World) (F : Nat → Prop) (xb : Nat) (e : IE) : Prop where
  box : w.heap[xb]? = some (.cells #[.int .u64 (e.id : Int), .string e.name, .int .u64 (e.xmin : Int), .int .u64 (e.xmax : Int), .int .u64 (e.table : Int), .int .i64 (e.column : Int)] 171 (0, 0))
  own : F xb
  num : U64 e.id ∧ U64 e.xmin ∧ U64 e.xmax ∧ U64 e.table ∧ e.column < 8

theorem IdxAt.kept {S F : Nat → Prop} {w w' : World} {xb : Nat} {e : IE} (h : IdxAt w F xb e) (ho : Only S w w') (hn : ∀ k, F k → ¬ S k) : IdxAt w' F xb e := ⟨ho.get h.box (hn _ h.own), h.own, h.num⟩
theorem IdxAt.mono {F G : Nat → Prop} {w : World} {xb : Nat} {e : IE} (h : IdxAt w F xb e) (hg : ∀ k, F k → G k) : IdxAt w G xb e := ⟨h.box, hg _ h.own, h.num⟩

/-- Block bb is a book of tables T and indexes I. -/
def BookIs (w : World) (F : Nat → Prop) (bb : Nat) (T : List TE) (I : List IE) (last : Nat) : Prop :=
  ∃ vT tps vI ips, BookRow w F bb T vT tps vI ips last ∧ ips.length = I.length ∧ ∀ (i : Nat) e, I[i]? = some e → ∃ p, ips[i]? = some p ∧ IdxAt w F p e

section
variable {w w' : World} {F G : Nat → Prop} {bb last : Nat} {T : List TE} {I : List IE}
theorem BookIs.kept {S : Nat → Prop} (h : BookIs w F bb T I last) (ho : Only S w w') (hn : ∀ k, F k → ¬ S k) : BookIs w' F bb T I last := by
  obtain ⟨vT, tps, vI, ips, h1, h2, h3⟩ := h
  exact ⟨vT, tps, vI, ips, h1.kept ho hn, h2, fun i e hi => by obtain ⟨p, a, b⟩ := h3 i e hi; exact ⟨p, a, b.kept ho hn⟩⟩
theorem BookIs.mono (h : BookIs w F bb T I last) (hg : ∀ k, F k → G k) : BookIs w G bb T I last := by
  obtain ⟨vT, tps, vI, ips, h1, h2, h3⟩ := h
  exact ⟨vT, tps, vI, ips, ⟨h1.box, h1.rowT, h1.rowI, fun i e hi => by obtain ⟨p, a, b⟩ := h1.tbl i e hi; exact ⟨p, a, b.mono hg⟩, ⟨hg _ h1.foot.1, fun k e => hg _ (h1.foot.2.1 k e), fun k e => hg _ (h1.foot.2.2 k e)⟩, h1.num⟩, h2, fun i e hi => by obtain ⟨p, a, b⟩ := h3 i e hi; exact ⟨p, a, b.mono hg⟩⟩
theorem BookIs.lt (h : BookIs w F bb T I last) : F bb ∧ bb < w.heap.size := by
  obtain ⟨vT, tps, vI, ips, h1, h2, h3⟩ := h
  exact ⟨h1.foot.1, lt_of_get h1.box⟩
end

set_option maxHeartbeats 400000 in
set_option maxRecDepth 100000 in
theorem book_new (w : World) :
    Calls Tryz.prog 17 #[] w fun e w' => e = .returned (.pointer (some ⟨w.heap.size, 0, none⟩)) ∧ Quiet w w' ∧ BookIs w' (fun k => w.heap.size ≤ k) w.heap.size [] [] 0 := by
  go_enter Tryz.func17, Tryz.ntmps17
  go_wp2
  go_ret
  exact ⟨rfl, (Only.refl _ _).alloc _, .slice none 0 0, [], .slice none 0 0, [], ⟨alloc_new _ _, World.ownsRow_nil _ _ _ _, World.ownsRow_nil _ _ _ _, fun i e hi => by simp at hi, ⟨Nat.le_refl _, (fun k e => by cases e), (fun k e => by cases e)⟩, by unfold U64; omega⟩, rfl, fun i e hi => by simp at hi⟩

def NilPost (w : World) (e : Ending) (w' : World) : Prop := e = .returned (.slice none 0 0) ∧ w = w'

set_option maxHeartbeats 400000 in
set_option maxRecDepth 100000 in
/-- Without indexes there is none to keep up. -/
theorem keep_none {w : World} {F : Nat → Prop} {bb lb last id : Nat} {T : List TE} (h : BookIs w F bb T [] last) :
    Calls Tryz.prog 46 #[.pointer (some ⟨bb, 0, none⟩), .pointer (some ⟨lb, 0, none⟩), .int .u64 (id : Int)] w (NilPost w) := by
  obtain ⟨vT, tps, vI, ips, h, h2, h3⟩ := h
  have hi0 : ips = [] := List.eq_nil_of_length_eq_zero h2
  subst hi0
  obtain ⟨_, c1, _⟩ := h.cells
  obtain ⟨A, c, hv, hc, hm, _⟩ := ptr_form h.rowI
  subst hv
  rw [List.length_nil] at c1
  clear h h2 h3 hc
  unfold maxLen at hm
  go_enter Tryz.func46, Tryz.ntmps46
  go_wp2
  go_loop [17, 7] (fun i o => i = .int .i64 0 ∧ o = .slice none 0 0) (fun _ _ => 0)
  case atStart => exact ⟨rfl, rfl⟩
  case round =>
    obtain ⟨rfl, rfl⟩ := hrel
    go_wp2
    go_ret
    exact ⟨rfl, rfl⟩

set_option maxHeartbeats 400000 in
set_option maxRecDepth 100000 in
theorem entries_none {w : World} {F : Nat → Prop} {bb last : Nat} (h : BookIs w F bb [] [] last) :
    Calls Tryz.prog 63 #[.pointer (some ⟨bb, 0, none⟩)] w (NilPost w) := by
  obtain ⟨vT, tps, vI, ips, h, h2, h3⟩ := h
  have hi0 : ips = [] := List.eq_nil_of_length_eq_zero h2
  subst hi0
  obtain ⟨c0, c1, _⟩ := h.cells
  obtain ⟨A, c, hv, hc, hm, _⟩ := ptr_form h.rowI
  obtain ⟨A', c', hv', hc', hm', _⟩ := ptr_form h.rowT
  subst hv hv'
  rw [List.length_nil] at c0 c1
  clear h h2 h3 hc hc'
  unfold maxLen at hm hm'
  go_enter Tryz.func63, Tryz.ntmps63
  go_wp2
  go_loop [13, 3] (fun i o => i = .int .i64 0 ∧ o = .slice none 0 0) (fun _ _ => 0)
  case atStart => exact ⟨rfl, rfl⟩
  case round =>
    obtain ⟨rfl, rfl⟩ := hrel
    go_wp2
    go_loop [29, 3] (fun i o => i = .int .i64 0 ∧ o = .slice none 0 0) (fun _ _ => 0)
    case atStart => exact ⟨rfl, rfl⟩
    case round =>
      obtain ⟨rfl, rfl⟩ := hrel
      go_wp2
      go_ret
      exact ⟨rfl, rfl⟩

set_option maxHeartbeats 1000000 in
set_option maxRecDepth 100000 in
theorem taken_none {w : World} {F : Nat → Prop} {bb lb last c : Nat} {A : Option Addr} {s : Snap} {name : ByteArray} (h : BookIs w F bb [] [] last) :
    Calls Tryz.prog 39 #[.pointer (some ⟨bb, 0, none⟩), .pointer (some ⟨lb, 0, none⟩), snapV s A c, .string name] w fun e w' => e = .returned (.int .i64 0) ∧ Quiet w w' := by
  have HQ0 : Hid (Quiet w (w.alloc (.cells (snapCells s A c) 65))) := (Only.refl _ _).alloc _
  have HE := Lib.hid (entries_none (h.kept HQ0.out (fun _ _ x => x)))
  unfold snapV
  clear h
  go_enter Tryz.func39, Tryz.ntmps39
  go_wp2_with fail
  refine HE.out.mono ?_
  rintro e w1 ⟨rfl, rfl⟩
  go_wp2
  go_loop [15, 9] (fun i o => i = .int .i64 0 ∧ o = .int .i64 0) (fun _ _ => 0)
  case atStart => exact ⟨rfl, rfl⟩
  case round =>
    obtain ⟨rfl, rfl⟩ := hrel
    go_wp2
    go_ret
    exact ⟨rfl, HQ0.out⟩

end Go.Proofs.YtdeekopdhgjanaaGreatDoor
