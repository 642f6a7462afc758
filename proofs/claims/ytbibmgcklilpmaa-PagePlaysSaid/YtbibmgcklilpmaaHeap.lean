/- Package heap: what a heap in memory is, told by its pages' versions; how its parts turn. No condition. -/
import Derived.Test.YtbibmgcklilpmaaPageStamp
import Derived.Test.YtbibmgcklilpmaaRoomAny
namespace Go.Lap

theorem ne_type {w : World} {a b : Nat} {c1 c2 : Array Value} {t1 t2 : TypeId} {f1 f2 : Nat × Nat} (h1 : w.heap[a]? = some (.cells c1 t1 f1)) (h2 : w.heap[b]? = some (.cells c2 t2 f2)) (h : t1 ≠ t2) : a ≠ b := by
  intro e
  subst e
  rw [h1] at h2
  injection h2 with h2
  injection h2 with _ h3 _
  exact h h3

theorem roomT_low (T : List (Option Tup)) : -1 ≤ roomT T := by unfold roomT; omega
theorem roomT_high (T : List (Option Tup)) : roomT T ≤ 474 := by
  unfold roomT
  split
  · omega
  · rename_i h
    have hl : T ≠ [] := by
      intro e
      subst e
      exact h rfl
    have : 4 ≤ spentT T := by
      rcases T with _ | ⟨s, T⟩
      · exact absurd rfl hl
      · unfold spentT
        rw [List.map_cons, List.sum_cons]
        omega
    omega
theorem clamp_room (T : List (Option Tup)) : clampR (roomT T) = roomT T := by
  have := roomT_low T
  have := roomT_high T
  unfold clampR
  omega

abbrev ptrV (p : Nat) : Value := .pointer (some ⟨p, 0, none⟩)

theorem one_ptr (ps : List Nat) : ∀ u ∈ ps.map ptrV, u.oneCell' = true := by
  intro u hu
  obtain ⟨n, _, rfl⟩ := List.mem_map.1 hu
  rfl

end Go.Lap
namespace Go.Proofs.Ytbibmgcklilpmaa
open Go.RowKit Go.Lap

theorem RoomIs.blk {w : World} {b : Nat} {l : List Int} (h : RoomIs w b l) : ∃ c, w.heap[b]? = some (.cells c 136 (0, 0)) := by
  obtain ⟨t, h⟩ := h
  exact ⟨_, h.blk⟩
theorem RoomIs.drewN {w : World} {b : Nat} {l : List Int} (h : RoomIs w b l) (n : Nat) : RoomIs (w.drewN n) b l := h.kept ((Only.refl (fun _ => False) w).drewN n) (fun x => x)
theorem PageT.blk {w : World} {b : Nat} {T : List (Option Tup)} (h : PageT w b T) : ∃ c, w.heap[b]? = some (.cells c 139 (0, 0)) := by
  obtain ⟨L, st, ⟨g, h1, h2⟩, h3⟩ := h
  exact ⟨_, h1⟩
theorem own_blk {w : World} {e : TypeId} {size : Nat} {v : Value} {n : Nat} {xs : List Value} (h : w.ownsRow 0 e size v n xs) {k : Nat} (hk : v.ownBlock = some k) : ∃ c, w.heap[k]? = some (.cells c e (0, 0)) := by
  rcases h.2 with ⟨rfl, _⟩ | ⟨g, cap, cur, rfl, _, hh, _⟩
  · cases hk
  · obtain rfl : g = k := by injection hk
    exact ⟨_, hh⟩

/-- A pool's cell. -/
def PoolAt (w : World) (pb n : Nat) : Prop := w.heap[pb]? = some (.cells #[.int .i64 (n : Int)] 147 (0, 0))

theorem PoolAt.kept {S : Nat → Prop} {w w' : World} {pb n : Nat} (h : PoolAt w pb n) (ho : Only S w w') (hn : ¬ S pb) : PoolAt w' pb n := ho.get h hn
theorem PoolAt.cell {w : World} {pb n : Nat} (h : PoolAt w pb n) : w.cell? ⟨pb, 0, none⟩ = some (.int .i64 (n : Int)) := by rw [cell_of h]; rfl
theorem PoolAt.lt {w : World} {pb n : Nat} (h : PoolAt w pb n) : pb < w.heap.size := lt_of_get h
theorem PoolAt.set {w : World} {pb n m : Nat} {z : Int} (h : PoolAt w pb n) (hz : z = m) : PoolAt (w.setCell ⟨pb, 0, none⟩ (.int .i64 z)) pb m := by
  subst hz
  unfold PoolAt
  rw [set_same h]
  rfl

/-- Block hb is a heap of the pool in block pb: pages H, rooms R as they were told; its row v, its pages' blocks ps, its room map in block rb. All blocks that are its own are F's. -/
structure HeapAt (w : World) (hb pb : Nat) (F : Nat → Prop) (H : List (List (Option Tup))) (R : List Int) (v : Value) (ps : List Nat) (rb : Nat) : Prop where
  box : w.heap[hb]? = some (.cells #[.pointer (some ⟨pb, 0, none⟩), v, .pointer (some ⟨rb, 0, none⟩)] 150 (0, 0))
  row : w.ownsRow 0 55 1 v H.length (ps.map ptrV)
  room : RoomIs w rb R
  pg : ∀ (i : Nat) T, H[i]? = some T → ∃ p, ps[i]? = some p ∧ PageT w p T
  nd : ps.Nodup
  foot : F hb ∧ F rb ∧ (∀ p ∈ ps, F p) ∧ (∀ k, v.ownBlock = some k → F k)

section
variable {w w' : World} {hb pb : Nat} {F : Nat → Prop} {H : List (List (Option Tup))} {R : List Int} {v : Value} {ps : List Nat} {rb : Nat}

theorem HeapAt.kept {S : Nat → Prop} (h : HeapAt w hb pb F H R v ps rb) (ho : Only S w w') (hn : ∀ k, F k → ¬ S k) : HeapAt w' hb pb F H R v ps rb :=
  ⟨ho.get h.box (hn _ h.foot.1), owns_kept h.row ho (fun k e => hn k (h.foot.2.2.2 k e)), h.room.kept ho (hn _ h.foot.2.1),
    fun i T hi => by obtain ⟨p, h1, h2⟩ := h.pg i T hi; exact ⟨p, h1, h2.kept ho (hn _ (h.foot.2.2.1 p (List.mem_of_getElem? h1)))⟩, h.nd, h.foot⟩

theorem HeapAt.drewN (h : HeapAt w hb pb F H R v ps rb) (n : Nat) : HeapAt (w.drewN n) hb pb F H R v ps rb := h.kept ((Only.refl (fun _ => False) w).drewN n) (fun _ _ x => x)

theorem HeapAt.mono {G : Nat → Prop} (h : HeapAt w hb pb F H R v ps rb) (hg : ∀ k, F k → G k) : HeapAt w hb pb G H R v ps rb :=
  ⟨h.box, h.row, h.room, h.pg, h.nd, hg _ h.foot.1, hg _ h.foot.2.1, fun p hp => hg _ (h.foot.2.2.1 p hp), fun k e => hg _ (h.foot.2.2.2 k e)⟩

theorem HeapAt.plen (h : HeapAt w hb pb F H R v ps rb) : ps.length = H.length := by
  have := h.row.1
  simpa using this

theorem HeapAt.page (h : HeapAt w hb pb F H R v ps rb) {i p : Nat} (hi : ps[i]? = some p) : ∃ T, H[i]? = some T ∧ PageT w p T := by
  have hl : i < H.length := by rw [← h.plen]; exact (List.getElem?_eq_some_iff.1 hi).1
  obtain ⟨p', h1, h2⟩ := h.pg i H[i] (List.getElem?_eq_getElem hl)
  rw [hi] at h1
  injection h1 with h1
  subst h1
  exact ⟨_, List.getElem?_eq_getElem hl, h2⟩

theorem HeapAt.pblk (h : HeapAt w hb pb F H R v ps rb) {p : Nat} (hp : p ∈ ps) : ∃ c, w.heap[p]? = some (.cells c 139 (0, 0)) := by
  obtain ⟨i, hi⟩ := List.mem_iff_getElem?.1 hp
  obtain ⟨T, _, h2⟩ := h.page hi
  exact h2.blk

theorem HeapAt.lim (h : HeapAt w hb pb F H R v ps rb) : HeapAt w hb pb (fun k => F k ∧ k < w.heap.size) H R v ps rb :=
  ⟨h.box, h.row, h.room, h.pg, h.nd, ⟨h.foot.1, lt_of_get h.box⟩, ⟨h.foot.2.1, h.room.lt⟩, fun p hp => ⟨h.foot.2.2.1 p hp, by obtain ⟨c, hc⟩ := h.pblk hp; exact lt_of_get hc⟩, fun k e => ⟨h.foot.2.2.2 k e, (h.row.lt k e).2⟩⟩

/-- All its blocks are other ones. -/
structure Apart (hb : Nat) (v : Value) (ps : List Nat) (rb : Nat) : Prop where
  rh : rb ≠ hb
  ph : ∀ p ∈ ps, p ≠ hb
  pr : ∀ p ∈ ps, p ≠ rb
  vh : ∀ k, v.ownBlock = some k → k ≠ hb
  vr : ∀ k, v.ownBlock = some k → k ≠ rb
  vp : ∀ k, v.ownBlock = some k → ∀ p ∈ ps, k ≠ p

theorem HeapAt.apart (h : HeapAt w hb pb F H R v ps rb) : Apart hb v ps rb := by
  obtain ⟨c, hr⟩ := h.room.blk
  exact ⟨ne_type hr h.box (by decide), fun p hp => by obtain ⟨c, hc⟩ := h.pblk hp; exact ne_type hc h.box (by decide), fun p hp => by obtain ⟨c, hc⟩ := h.pblk hp; exact ne_type hc hr (by decide),
    fun k e => by obtain ⟨c, hc⟩ := own_blk h.row e; exact ne_type hc h.box (by decide), fun k e => by obtain ⟨c, hc⟩ := own_blk h.row e; exact ne_type hc hr (by decide),
    fun k e p hp => by obtain ⟨c, hc⟩ := own_blk h.row e; obtain ⟨d, hd⟩ := h.pblk hp; exact ne_type hc hd (by decide)⟩

/-- The pool is none of them. -/
theorem HeapAt.pool (h : HeapAt w hb pb F H R v ps rb) {n q : Nat} (hq : PoolAt w q n) : q ≠ hb ∧ q ≠ rb ∧ (∀ p ∈ ps, q ≠ p) ∧ (∀ k, v.ownBlock = some k → q ≠ k) := by
  obtain ⟨c, hr⟩ := h.room.blk
  exact ⟨ne_type hq h.box (by decide), ne_type hq hr (by decide), fun p hp => by obtain ⟨c, hc⟩ := h.pblk hp; exact ne_type hq hc (by decide), fun k e => by obtain ⟨c, hc⟩ := own_blk h.row e; exact ne_type hq hc (by decide)⟩

theorem HeapAt.lim2 (h : HeapAt w hb pb F H R v ps rb) {n q : Nat} (hq : PoolAt w q n) : HeapAt w hb pb (fun k => F k ∧ k < w.heap.size ∧ k ≠ q) H R v ps rb := by
  have hp := h.pool hq
  have hl := h.lim.foot
  exact ⟨h.box, h.row, h.room, h.pg, h.nd, ⟨hl.1.1, hl.1.2, hp.1.symm⟩, ⟨hl.2.1.1, hl.2.1.2, hp.2.1.symm⟩, fun p hp' => ⟨(hl.2.2.1 p hp').1, (hl.2.2.1 p hp').2, (hp.2.2.1 p hp').symm⟩, fun k e => ⟨(hl.2.2.2 k e).1, (hl.2.2.2 k e).2, (hp.2.2.2 k e).symm⟩⟩

/-- One of its pages turns. -/
theorem HeapAt.turn {i p : Nat} {T' : List (Option Tup)} (h : HeapAt w hb pb F H R v ps rb) (hi : ps[i]? = some p) (ho : Only (· = p) w w') (hp : PageT w' p T') : HeapAt w' hb pb F (H.set i T') R v ps rb := by
  have ha := h.apart
  have hm : p ∈ ps := List.mem_of_getElem? hi
  refine ⟨ho.get h.box (fun e => ha.ph p hm e.symm), ?_, h.room.kept ho (fun e => ha.pr p hm e.symm), fun j T hj => ?_, h.nd, h.foot⟩
  · rw [List.length_set]
    exact owns_kept h.row ho (fun k e x => ha.vp k e p hm x)
  · have hil : i < H.length := by rw [← h.plen]; exact (List.getElem?_eq_some_iff.1 hi).1
    rw [List.getElem?_set] at hj
    by_cases e : i = j
    · subst e
      rw [if_pos rfl, if_pos hil] at hj
      injection hj with hj
      subst hj
      exact ⟨p, hi, hp⟩
    · rw [if_neg e] at hj
      obtain ⟨q, h1, h2⟩ := h.pg j T hj
      refine ⟨q, h1, h2.kept ho (fun x => ?_)⟩
      subst x
      exact e ((List.getElem?_inj (List.getElem?_eq_some_iff.1 hi).1 h.nd).1 (hi.trans h1.symm))

/-- Its room map turns. -/
theorem HeapAt.rooms {R' : List Int} (h : HeapAt w hb pb F H R v ps rb) (ho : Only (· = rb) w w') (hr : RoomIs w' rb R') : HeapAt w' hb pb F H R' v ps rb := by
  have ha := h.apart
  exact ⟨ho.get h.box (fun e => ha.rh e.symm), owns_kept h.row ho (fun k e x => ha.vr k e x), hr, fun i T hi => by obtain ⟨p, h1, h2⟩ := h.pg i T hi; exact ⟨p, h1, h2.kept ho (fun x => ha.pr p (List.mem_of_getElem? h1) x)⟩, h.nd, h.foot⟩

/-- One more page. -/
theorem HeapAt.grow {w1 w2 : World} {v' : Value} {q : Nat} (h : HeapAt w hb pb F H R v ps rb) (hq : Quiet w w1) (hp : PageT w1 q []) (hn : w.heap.size ≤ q)
    (hg : Grew (w1.alloc (.cells #[ptrV q] 55)) w2 55 1 v v' (H.length + 1) (ps.map ptrV ++ [ptrV q])) :
    HeapAt (w2.setCell ⟨hb, 1, none⟩ v') hb pb (fun k => F k ∨ w.heap.size ≤ k) (H ++ [[]]) R v' (ps ++ [q]) rb ∧ Only (fun k => F k) w (w2.setCell ⟨hb, 1, none⟩ v') := by
  have ha := h.apart
  have hl := lt_of_get h.box
  have hqa : Quiet w (w1.alloc (.cells #[ptrV q] 55)) := hq.alloc _
  have hsz := hq.size
  have hql := hp.lt
  have hf := h.foot
  have hrl := h.room.lt
  have hvl : ∀ k, v.ownBlock = some k → k < w.heap.size := fun k e => (h.row.lt k e).2
  have hnew : ∀ k, v'.ownBlock = some k → k ≠ hb ∧ k ≠ rb ∧ k ≠ q ∧ (∀ p ∈ ps, k ≠ p) := by
    intro k e
    have hpl : ∀ p ∈ ps, p < w.heap.size := fun p hp => by obtain ⟨c, hc⟩ := h.pblk hp; exact lt_of_get hc
    rcases hg.loc with x | x
    · rw [x] at e
      have := hvl k e
      exact ⟨ha.vh k e, ha.vr k e, by omega, ha.vp k e⟩
    · rw [x] at e
      injection e with e
      simp at e
      exact ⟨by omega, by omega, by omega, fun p hp => by have := hpl p hp; omega⟩
  have box2 := hg.only.get (hqa.get h.box (fun x => x)) (fun e => ha.vh hb e rfl)
  have ho3 : Only (· = hb) w2 (w2.setCell ⟨hb, 1, none⟩ v') := (Only.refl (· = hb) w2).setCell (p := ⟨hb, 1, none⟩) (fun _ => rfl) v'
  refine ⟨⟨?_, ?_, ?_, fun i T hi => ?_, ?_, Or.inl hf.1, Or.inl hf.2.1, fun p hp => ?_, fun k e => ?_⟩, ?_⟩
  · rw [set_same box2]; rfl
  · rw [List.length_append, List.map_append]
    exact owns_kept hg.own ho3 (fun k e x => (hnew k e).1 x)
  · exact (RoomIs.kept (S := fun k => v.ownBlock = some k) (h.room.kept hqa (fun x => x)) hg.only (fun e => ha.vr rb e rfl)).kept ho3 ha.rh
  · have hpl := h.plen
    rcases snoc_get hi with ⟨_, h1⟩ | ⟨h1, h2⟩
    · obtain ⟨p, h3, h4⟩ := h.pg i T h1
      have hpm := List.mem_of_getElem? h3
      exact ⟨p, snoc_old h3, (PageT.kept (S := fun k => v.ownBlock = some k) (h4.kept hqa (fun x => x)) hg.only (fun e => ha.vp p e p hpm rfl)).kept ho3 (ha.ph p hpm)⟩
    · subst h2
      refine ⟨q, by rw [h1, ← hpl]; simp, ?_⟩
      exact (PageT.kept (S := fun k => v.ownBlock = some k) (hp.kept ((Only.refl (fun _ => False) w1).alloc _) (fun x => x)) hg.only (fun e => by have := hvl q e; omega)).kept ho3 (by omega)
  · rw [List.nodup_append]
    refine ⟨h.nd, by simp, fun a ha' b hb' => ?_⟩
    obtain ⟨c, hc⟩ := h.pblk ha'
    have := lt_of_get hc
    simp at hb'
    omega
  · rcases List.mem_append.1 hp with x | x
    · exact Or.inl (hf.2.2.1 p x)
    · simp at x; subst x; exact Or.inr hn
  · rcases hg.loc with x | x
    · rw [x] at e; exact Or.inl (hf.2.2.2 k e)
    · rw [x] at e; injection e with e; simp at e; exact Or.inr (by omega)
  · exact (((hqa.mono (T := F) (fun _ _ x => x.elim)).trans' hg.only (fun k hk e => hf.2.2.2 k e)).trans' ho3 (fun k hk e => by subst e; exact hf.1))

end

/-- A heap, told by its pages alone. -/
def HeapIs (w : World) (hb pb : Nat) (F : Nat → Prop) (H : List (List (Option Tup))) : Prop := ∃ v ps rb, HeapAt w hb pb F H (H.map roomT) v ps rb

section
variable {w w' : World} {hb pb : Nat} {F : Nat → Prop} {H : List (List (Option Tup))}
theorem HeapIs.kept {S : Nat → Prop} (h : HeapIs w hb pb F H) (ho : Only S w w') (hn : ∀ k, F k → ¬ S k) : HeapIs w' hb pb F H := by
  obtain ⟨v, ps, rb, h⟩ := h
  exact ⟨v, ps, rb, h.kept ho hn⟩
theorem HeapIs.mono {G : Nat → Prop} (h : HeapIs w hb pb F H) (hg : ∀ k, F k → G k) : HeapIs w hb pb G H := by
  obtain ⟨v, ps, rb, h⟩ := h
  exact ⟨v, ps, rb, h.mono hg⟩
theorem HeapIs.lim (h : HeapIs w hb pb F H) : HeapIs w hb pb (fun k => F k ∧ k < w.heap.size) H := by
  obtain ⟨v, ps, rb, h⟩ := h
  exact ⟨v, ps, rb, h.lim⟩
theorem HeapIs.own (h : HeapIs w hb pb F H) : F hb ∧ hb < w.heap.size := by
  obtain ⟨v, ps, rb, h⟩ := h
  exact ⟨h.foot.1, lt_of_get h.box⟩
theorem HeapIs.most (h : HeapIs w hb pb F H) : H.length ≤ 256 := by
  obtain ⟨v, ps, rb, h⟩ := h
  simpa using h.room.most
theorem HeapIs.drew (h : HeapIs w hb pb F H) : HeapIs w.drew hb pb F H := h.kept ((Only.refl (fun _ => False) w).drew) (fun _ _ x => x)
theorem HeapIs.drewN (h : HeapIs w hb pb F H) (n : Nat) : HeapIs (w.drewN n) hb pb F H := h.kept ((Only.refl (fun _ => False) w).drewN n) (fun _ _ x => x)
end

end Go.Proofs.Ytbibmgcklilpmaa
