/- The contracts of package heap: NewPool, Left, New, page, told, Pages, Used, Drop. No condition. -/
import Derived.Test.YtbibmgcklilpmaaHeap
namespace Go.Proofs.Ytbibmgcklilpmaa
open Go.RowKit Go.Lap

set_option maxHeartbeats 400000 in
set_option maxRecDepth 100000 in
theorem pool_new (n : Nat) (hn : n ≤ 256) (w : World) :
    Calls Try.prog 40 #[.int .i64 (n : Int)] w fun e w' => e = .returned (.tuple #[.pointer (some ⟨w.heap.size, 0, none⟩), .int .i64 0]) ∧ Quiet w w' ∧ PoolAt w' w.heap.size n := by
  have d0 : decide ((n : Int) < 0) = false := by simp
  have d1 : decide ((256 : Int) < n) = false := by simp; omega
  go_enter Try.func40, Try.ntmps40
  go_wp2
  go_ret2
  exact ⟨rfl, (Only.refl _ _).alloc _, alloc_new _ _⟩

set_option maxHeartbeats 400000 in
set_option maxRecDepth 100000 in
theorem pool_new_bad (n : Int) (hn : n < 0 ∨ 256 < n) (w : World) :
    Calls Try.prog 40 #[.int .i64 n] w fun e w' => e = .returned (.tuple #[.pointer none, .int .i64 1]) ∧ w = w' := by
  rcases hn with hn | hn
  · go_enter Try.func40, Try.ntmps40
    go_wp2
    go_ret2
    exact ⟨rfl, rfl⟩
  · have h0 : ¬ n < 0 := by omega
    go_enter Try.func40, Try.ntmps40
    go_wp2
    go_ret2
    exact ⟨rfl, rfl⟩

set_option maxHeartbeats 400000 in
set_option maxRecDepth 100000 in
theorem pool_left (pb n : Nat) (w : World) (h : PoolAt w pb n) :
    Calls Try.prog 45 #[.pointer (some ⟨pb, 0, none⟩)] w fun e w' => e = .returned (.int .i64 (n : Int)) ∧ w = w' := by
  have hc := h.cell
  clear h
  go_enter Try.func45, Try.ntmps45
  go_wp2
  go_ret
  exact ⟨rfl, rfl⟩

set_option maxHeartbeats 400000 in
set_option maxRecDepth 100000 in
theorem pool_left_nil (w : World) :
    Calls Try.prog 45 #[.pointer none] w fun e w' => e = .returned (.int .i64 0) ∧ w = w' := by
  go_enter Try.func45, Try.ntmps45
  go_wp2
  go_ret
  exact ⟨rfl, rfl⟩

theorem heapAt_new {w w1 : World} {pb : Nat} (hq : Below w.heap.size w w1) (hs : w.heap.size < w1.heap.size) (hr : RoomIs w1 w.heap.size []) :
    HeapIs (w1.alloc (.cells #[.pointer (some ⟨pb, 0, none⟩), .slice none 0 0, .pointer (some ⟨w.heap.size, 0, none⟩)] 150)) w1.heap.size pb (fun k => w.heap.size ≤ k) [] :=
  ⟨_, [], _, alloc_new _ _, World.ownsRow_nil _ _ _ _, hr.kept ((Only.refl (fun _ => False) w1).alloc _) (fun x => x), fun i T hi => by simp at hi, List.nodup_nil, Nat.le_of_lt hs, Nat.le_refl _, fun p hp => by simp at hp, fun k e => by cases e⟩

set_option maxHeartbeats 400000 in
set_option maxRecDepth 100000 in
theorem heap_new (pb : Nat) (w : World) :
    Calls Try.prog 41 #[.pointer (some ⟨pb, 0, none⟩)] w fun e w' => ∃ hb, e = .returned (.pointer (some ⟨hb, 0, none⟩)) ∧ Quiet w w' ∧ HeapIs w' hb pb (fun k => w.heap.size ≤ k) [] := by
  go_enter Try.func41, Try.ntmps41
  go_wp2_with fail
  refine (room_make w).mono ?_
  rintro e w1 ⟨rfl, hB, hs, hr⟩
  have HH := Lib.hid (heapAt_new (pb := pb) hB hs hr)
  have HQ : Hid (Quiet w w1) := Only.ofBelow' hB
  clear hB hs hr
  go_wp2
  go_ret
  exact ⟨_, rfl, HQ.out.alloc _, HH.out⟩

/-- Which page a number is. -/
def pageAt (H : List (List (Option Tup))) (n : Int) : Option Nat := if n < 0 ∨ (H.length : Int) ≤ n then none else some n.toNat

theorem HeapAt.cells {w : World} {hb pb : Nat} {F : Nat → Prop} {H : List (List (Option Tup))} {R : List Int} {v : Value} {ps : List Nat} {rb : Nat} (h : HeapAt w hb pb F H R v ps rb) :
    w.cell? ⟨hb, 0, none⟩ = some (.pointer (some ⟨pb, 0, none⟩)) ∧ w.cell? ⟨hb, 1, none⟩ = some v ∧ w.cell? ⟨hb, 2, none⟩ = some (.pointer (some ⟨rb, 0, none⟩)) :=
  ⟨by rw [cell_of h.box]; rfl, by rw [cell_of h.box]; rfl, by rw [cell_of h.box]; rfl⟩

/-- The row of a heap reads. -/
theorem HeapAt.rowForm {w : World} {hb pb : Nat} {F : Nat → Prop} {H : List (List (Option Tup))} {R : List Int} {v : Value} {ps : List Nat} {rb : Nat} (h : HeapAt w hb pb F H R v ps rb) :
    ∃ A c, v = .slice A H.length c ∧ H.length ≤ c ∧ c ≤ maxLen ∧ ∀ (i p : Nat), ps[i]? = some p → ∃ g, A = some ⟨g, 0, none⟩ ∧ w.cell? ⟨g, i, none⟩ = some (ptrV p) := by
  rcases h.row.2 with ⟨e1, e2⟩ | ⟨g, cap, cur, e1, _, hh, r1, r2, _⟩
  · refine ⟨none, 0, by rw [e2]; exact e1, by omega, Nat.zero_le _, fun i p hi => ?_⟩
    have := h.plen
    have := (List.getElem?_eq_some_iff.1 hi).1
    omega
  · refine ⟨_, cap, e1, r1, r2, fun i p hi => ⟨g, rfl, ?_⟩⟩
    have := h.row.cells (by rw [e1]; rfl) i (ptrV p) (by rw [List.getElem?_map, hi]; rfl)
    rw [add_none, Nat.zero_add] at this
    exact this

set_option maxHeartbeats 400000 in
set_option maxRecDepth 100000 in
theorem heap_page_nil (n : Int) (w : World) :
    Calls Try.prog 87 #[.pointer none, .int .i64 n] w fun e w' => e = .returned (.pointer none) ∧ w = w' := by
  go_enter Try.func87, Try.ntmps87
  go_wp2
  go_ret
  exact ⟨rfl, rfl⟩

section
variable {w : World} {hb pb : Nat} {F : Nat → Prop} {H : List (List (Option Tup))} {R : List Int} {v : Value} {ps : List Nat} {rb : Nat}

set_option maxHeartbeats 400000 in
set_option maxRecDepth 100000 in
theorem heap_page_none (n : Int) (h : HeapAt w hb pb F H R v ps rb) (hn : n < 0 ∨ (H.length : Int) ≤ n) :
    Calls Try.prog 87 #[.pointer (some ⟨hb, 0, none⟩), .int .i64 n] w fun e w' => e = .returned (.pointer none) ∧ w = w' := by
  obtain ⟨A, c, rfl, _, _, _⟩ := h.rowForm
  obtain ⟨_, c1, _⟩ := h.cells
  clear h
  rcases hn with hn | hn
  · go_enter Try.func87, Try.ntmps87
    go_wp2
    go_ret
    exact ⟨rfl, rfl⟩
  · have h0 : ¬ n < 0 := by omega
    go_enter Try.func87, Try.ntmps87
    go_wp2
    go_ret
    exact ⟨rfl, rfl⟩

set_option maxHeartbeats 400000 in
set_option maxRecDepth 100000 in
theorem heap_page_some (n p : Nat) (h : HeapAt w hb pb F H R v ps rb) (hn : ps[n]? = some p) :
    Calls Try.prog 87 #[.pointer (some ⟨hb, 0, none⟩), .int .i64 (n : Int)] w fun e w' => e = .returned (.pointer (some ⟨p, 0, none⟩)) ∧ w = w' := by
  obtain ⟨A, c, rfl, hc, hm, hr⟩ := h.rowForm
  obtain ⟨_, c1, _⟩ := h.cells
  have hl : n < H.length := by rw [← h.plen]; exact (List.getElem?_eq_some_iff.1 hn).1
  obtain ⟨g, rfl, hg⟩ := hr n p hn
  have d0 : decide ((n : Int) < 0) = false := by simp
  have d1 : decide ((H.length : Int) ≤ n) = false := by simp; omega
  unfold maxLen at hm
  clear h hr hn
  go_enter Try.func87, Try.ntmps87
  go_wp2
  go_ret
  exact ⟨rfl, rfl⟩

set_option maxHeartbeats 400000 in
set_option maxRecDepth 100000 in
theorem heap_told (n p : Nat) (T : List (Option Tup)) (h : HeapAt w hb pb F H R v ps rb) (hn : ps[n]? = some p) (hT : H[n]? = some T) (hR : n ≤ R.length) (h256 : n < 256) :
    Calls Try.prog 86 #[.pointer (some ⟨hb, 0, none⟩), .int .i64 (n : Int)] w fun e w' => e = .returned (.tuple #[]) ∧ Only (· = rb) w w' ∧ HeapAt w' hb pb F H (setL R n (roomT T)) v ps rb := by
  have HH := Lib.hid h
  obtain ⟨A, c, rfl, hc, hm, hr⟩ := h.rowForm
  obtain ⟨_, c1, c2⟩ := h.cells
  have hl : n < H.length := by rw [← h.plen]; exact (List.getElem?_eq_some_iff.1 hn).1
  obtain ⟨T', hT', hpt⟩ := h.page hn
  obtain rfl : T = T' := by rw [hT] at hT'; injection hT'
  obtain ⟨g, rfl, hg⟩ := hr n p hn
  have HPT := Lib.hid hpt
  have hset : rSet R (n : Int) (roomT T) = (0, setL R n (roomT T)) := by
    rw [rSet_in (by omega) (by omega), Int.toNat_natCast, clamp_room]
  have HSET := Lib.hid hset
  have HNE : Hid ((¬ hb = rb) ∧ ¬ g = rb) := ⟨fun e => h.apart.rh e.symm, fun e => h.apart.vr g rfl e⟩
  have d0 : decide ((n : Int) < 0) = false := by simp
  have d1 : decide ((H.length : Int) ≤ n) = false := by simp; omega
  unfold maxLen at hm
  clear h hr hn hT hT' hset hpt
  go_enter Try.func86, Try.ntmps86
  go_wp2_with fail
  go_region_held3 (fun w' => w'.cell? ⟨hb, 1, none⟩ = some (.slice (some ⟨g, 0, none⟩) H.length c) ∧ w'.cell? ⟨hb, 2, none⟩ = some (.pointer (some ⟨rb, 0, none⟩)) ∧ w'.cell? ⟨g, n, none⟩ = some (ptrV p))
    (first | go_keep | exact ⟨ho3.cell (by exact c1) HNE.out.1, ho3.cell (by exact c2) HNE.out.1, ho3.cell (by exact hg) HNE.out.2⟩ | fail)
    (first
      | (go_at_call 66; go_must (refine (pageT_room p T _ (by exact HPT.out)).mono ?_; rintro e w2 ⟨rfl, n3, rfl⟩))
      | (go_at_call 20; go_must (refine (room_set rb R _ (n : Int) (roomT T) (HH.out.room.drewN _)).mono ?_; rintro e w3 ⟨rfl, ho3, hr3⟩))
      | fail)
  go_wp2
  go_end0
  rw [HSET.out] at hr3
  exact ⟨rfl, ((Only.refl _ _).drewN _).trans ho3, (HH.out.drewN _).rooms ho3 hr3⟩

set_option maxHeartbeats 400000 in
set_option maxRecDepth 100000 in
theorem heap_pages_nil (w : World) :
    Calls Try.prog 44 #[.pointer none] w fun e w' => e = .returned (.int .i64 0) ∧ w = w' := by
  go_enter Try.func44, Try.ntmps44
  go_wp2
  go_ret
  exact ⟨rfl, rfl⟩

set_option maxHeartbeats 400000 in
set_option maxRecDepth 100000 in
theorem heap_pages (h : HeapIs w hb pb F H) :
    Calls Try.prog 44 #[.pointer (some ⟨hb, 0, none⟩)] w fun e w' => e = .returned (.int .i64 (H.length : Int)) ∧ w = w' := by
  obtain ⟨v, ps, rb, h⟩ := h
  obtain ⟨A, c, rfl, hc, hm, hr⟩ := h.rowForm
  obtain ⟨_, c1, _⟩ := h.cells
  clear h hr
  go_enter Try.func44, Try.ntmps44
  go_wp2
  go_ret
  exact ⟨rfl, rfl⟩

/-- How many versions a heap has. -/
def usedH (H : List (List (Option Tup))) : Nat := (H.map usedT).sum

theorem usedT_le (T : List (Option Tup)) : usedT T ≤ T.length := List.length_filter_le _ _

theorem usedH_take {H : List (List (Option Tup))} {k : Nat} {T : List (Option Tup)} (h : H[k]? = some T) : usedH (H.take (k + 1)) = usedH (H.take k) + usedT T := by
  unfold usedH
  rw [List.take_add_one, h]
  simp

set_option maxHeartbeats 400000 in
set_option maxRecDepth 100000 in
theorem heap_used_nil (w : World) :
    Calls Try.prog 48 #[.pointer none] w fun e w' => e = .returned (.int .i64 0) ∧ w = w' := by
  go_enter Try.func48, Try.ntmps48
  go_wp2
  go_ret
  exact ⟨rfl, rfl⟩

set_option maxHeartbeats 400000 in
set_option maxRecDepth 100000 in
theorem heap_used (h : HeapIs w hb pb F H) :
    Calls Try.prog 48 #[.pointer (some ⟨hb, 0, none⟩)] w fun e w' => e = .returned (.int .i64 (usedH H : Int)) ∧ ∃ n, w' = w.drewN n := by
  have h256 := h.most
  obtain ⟨v, ps, rb, h⟩ := h
  have HH := Lib.hid h
  obtain ⟨A, c, rfl, hc, hm, hr⟩ := h.rowForm
  obtain ⟨_, c1, _⟩ := h.cells
  have HR := Lib.hid hr
  unfold maxLen at hm
  clear h hr
  go_enter Try.func48, Try.ntmps48
  go_wp2
  go_loopw [3, 13, 5] (fun n v _ wr => ∃ k : Nat, k ≤ H.length ∧ v = .int .i64 (k : Int) ∧ n = .int .i64 (usedH (H.take k) : Int) ∧ usedH (H.take k) ≤ 127 * k ∧ (∃ n, wr = w.drewN n)) (fun _ v _ _ => H.length - (intOf v).toNat)
  case atStart => exact ⟨0, Nat.zero_le _, rfl, rfl, Nat.zero_le _, ⟨0, rfl⟩⟩
  case round =>
    obtain ⟨k, hk, rfl, rfl, hu, ⟨m, rfl⟩⟩ := hrel
    by_cases hlt : k < H.length
    · obtain ⟨p, hp, hpt⟩ := HH.out.pg k _ (List.getElem?_eq_getElem hlt)
      obtain ⟨g, rfl, hg⟩ := HR.out k p hp
      obtain ⟨T, hT⟩ : ∃ T, H[k] = T := ⟨_, rfl⟩
      rw [hT] at hpt
      have HN := Lib.hid (usedH_take (List.getElem?_eq_getElem hlt))
      rw [hT] at HN
      have HPT := Lib.hid hpt
      have hle := hpt.len
      have hle2 := usedT_le T
      clear hp hpt hT
      go_wp2_with fail
      refine (pageT_used p T _ (by exact HPT.out)).mono ?_
      rintro e w1 ⟨rfl, n, rfl⟩
      go_wp2
      go_roundw
      case rel => exact ⟨k + 1, by omega, by go_num, by rw [HN.out]; go_num, by rw [HN.out]; omega, ⟨_, rfl⟩⟩
      case measure => simp [intOf]; omega
    · obtain rfl : k = H.length := by omega
      rw [List.take_length]
      clear hu
      go_wp2
      go_ret
      exact ⟨rfl, _, rfl⟩

set_option maxHeartbeats 400000 in
set_option maxRecDepth 100000 in
theorem heap_drop_nil (w : World) :
    Calls Try.prog 42 #[.pointer none] w fun e w' => e = .returned (.int .i64 0) ∧ w = w' := by
  go_enter Try.func42, Try.ntmps42
  go_wp2
  go_ret
  exact ⟨rfl, rfl⟩

/-- The worlds of Drop. -/
theorem drop_final {w1 : World} {n k : Nat} {z : Int} (h : HeapAt w hb pb F H R v ps rb) (hp : PoolAt w pb n) (hz : z = ((n + k : Nat) : Int))
    (hB : Below (w.setCell ⟨pb, 0, none⟩ (.int .i64 z)).heap.size (w.setCell ⟨pb, 0, none⟩ (.int .i64 z)) w1) (hr : RoomIs w1 (w.setCell ⟨pb, 0, none⟩ (.int .i64 z)).heap.size []) :
    Only (fun k => F k ∨ k = pb) w ((w1.setCell ⟨hb, 1, none⟩ (.slice none 0 0)).setCell ⟨hb, 2, none⟩ (.pointer (some ⟨w.heap.size, 0, none⟩))) ∧
    PoolAt ((w1.setCell ⟨hb, 1, none⟩ (.slice none 0 0)).setCell ⟨hb, 2, none⟩ (.pointer (some ⟨w.heap.size, 0, none⟩))) pb (n + k) ∧
    HeapIs ((w1.setCell ⟨hb, 1, none⟩ (.slice none 0 0)).setCell ⟨hb, 2, none⟩ (.pointer (some ⟨w.heap.size, 0, none⟩))) hb pb (fun k => F k ∨ w.heap.size ≤ k) [] := by
  have hsz : (w.setCell ⟨pb, 0, none⟩ (.int .i64 z)).heap.size = w.heap.size := by simp [World.setCell]
  have hpool := h.pool hp
  have hl := lt_of_get h.box
  have hpl := hp.lt
  have o1 : Only (fun k => F k ∨ k = pb) w (w.setCell ⟨pb, 0, none⟩ (.int .i64 z)) := (Only.refl _ w).setCell (p := ⟨pb, 0, none⟩) (fun _ => Or.inr rfl) _
  have q1 : Quiet (w.setCell ⟨pb, 0, none⟩ (.int .i64 z)) w1 := Only.ofBelow' hB
  have hp1 : PoolAt w1 pb (n + k) := (hp.set hz).kept q1 (fun x => x)
  have b0 := set_other h.box 0 (.int .i64 z) (fun e => hpool.1 e.symm)
  have b1 := q1.get b0 (fun x => x)
  have hrl := hr.lt
  rw [hsz] at hr hrl
  have o3 : Only (· = hb) w1 ((w1.setCell ⟨hb, 1, none⟩ (.slice none 0 0)).setCell ⟨hb, 2, none⟩ (.pointer (some ⟨w.heap.size, 0, none⟩))) :=
    ((Only.refl (· = hb) w1).setCell (p := ⟨hb, 1, none⟩) (fun _ => rfl) _).setCell (p := ⟨hb, 2, none⟩) (fun _ => rfl) _
  refine ⟨(o1.trans' q1 (fun _ _ x => x.elim)).trans' o3 (fun k _ e => by subst e; exact Or.inl h.foot.1), hp1.kept o3 hpool.1, _, [], w.heap.size, ?_, World.ownsRow_nil _ _ _ _, hr.kept o3 (by omega), fun i T hi => by simp at hi, List.nodup_nil, Or.inl h.foot.1, Or.inr (Nat.le_refl _), fun p hp => by simp at hp, fun k e => by cases e⟩
  rw [set_same (set_same b1 _ _)]
  rfl

set_option maxHeartbeats 400000 in
set_option maxRecDepth 100000 in
theorem heap_drop (n : Nat) (h : HeapIs w hb pb F H) (hp : PoolAt w pb n) (hn : n ≤ 256) :
    Calls Try.prog 42 #[.pointer (some ⟨hb, 0, none⟩)] w fun e w' => e = .returned (.int .i64 (H.length : Int)) ∧ Only (fun k => F k ∨ k = pb) w w' ∧ PoolAt w' pb (n + H.length) ∧ HeapIs w' hb pb (fun k => F k ∨ w.heap.size ≤ k) [] := by
  have h256 := h.most
  obtain ⟨v, ps, rb, h⟩ := h
  have HH := Lib.hid h
  have HP := Lib.hid hp
  obtain ⟨A, c, rfl, hc, hm, hr⟩ := h.rowForm
  obtain ⟨c0, c1, _⟩ := h.cells
  have hpc := hp.cell
  have hpf := frozen_of hp 0
  have hne : ¬ hb = pb := fun e => (h.pool hp).1 e.symm
  have hne' : ¬ pb = hb := fun e => hne e.symm
  clear h hr hp
  go_enter Try.func42, Try.ntmps42
  go_wp2_with fail
  refine (room_make _).mono ?_
  rintro e w1 ⟨rfl, hB, hs, hr⟩
  have HF := Lib.hid (drop_final (k := H.length) HH.out HP.out (by omega) hB hr)
  have hb1 : w1.heap[hb]? = _ := (Only.ofBelow' (S := fun _ => False) hB).get (set_other HH.out.box 0 _ hne) (fun x => x)
  obtain ⟨k1, k2⟩ : (∃ x, w1.cell? ⟨hb, 1, none⟩ = some x) ∧ ∃ x, w1.cell? ⟨hb, 2, none⟩ = some x := ⟨⟨_, by rw [cell_of hb1]; rfl⟩, ⟨_, by rw [cell_of hb1]; rfl⟩⟩
  obtain ⟨x1, k1⟩ := k1
  obtain ⟨x2, k2⟩ := k2
  have hf1 := fun o => frozen_of hb1 o
  clear hB hs hr hb1
  go_wp2
  go_ret
  exact ⟨rfl, HF.out⟩

end
end Go.Proofs.Ytbibmgcklilpmaa
