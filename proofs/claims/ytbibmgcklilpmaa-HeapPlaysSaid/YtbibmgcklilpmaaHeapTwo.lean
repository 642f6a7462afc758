/- Two heaps of one pool in a law's world. No condition. -/
import Derived.Test.YtbibmgcklilpmaaHeapLaw
import Derived.Test.YtbibmgcklilpmaaRef5b
namespace Go.Proofs.Ytbibmgcklilpmaa
open Go.RowKit Go.Lap

/-- Two heaps of one pool; the blocks of K are the law's own. -/
structure LawW2 (w W : World) (K : Nat → Prop) (h1 h2 pb : Nat) (H1 H2 : List (List (Option Tup))) (left : Nat) : Prop where
  quiet : Quiet w W
  ex : ∃ F1 F2, HeapIs W h1 pb F1 H1 ∧ HeapIs W h2 pb F2 H2 ∧ (∀ k, F1 k → w.heap.size ≤ k ∧ k < W.heap.size ∧ ¬ K k ∧ k ≠ pb) ∧ (∀ k, F2 k → w.heap.size ≤ k ∧ k < W.heap.size ∧ ¬ K k ∧ k ≠ pb) ∧ (∀ k, F1 k → ¬ F2 k)
  pool : PoolAt W pb left
  pbn : w.heap.size ≤ pb ∧ ¬ K pb
  sum : H1.length + H2.length + left ≤ 256
  kl : ∀ k, K k → k < W.heap.size

section
variable {w W W' : World} {K K' : Nat → Prop} {h1 h2 pb : Nat} {H1 H2 : List (List (Option Tup))} {left : Nat}

theorem LawW2.swap (h : LawW2 w W K h1 h2 pb H1 H2 left) : LawW2 w W K h2 h1 pb H2 H1 left := by
  obtain ⟨F1, F2, a, b, c, d, e⟩ := h.ex
  exact ⟨h.quiet, ⟨F2, F1, b, a, d, c, fun k x y => e k y x⟩, h.pool, h.pbn, by have := h.sum; omega, h.kl⟩

theorem LawW2.fresh (h : LawW2 w W K h1 h2 pb H1 H2 left) (hq : Quiet W W') (hk : ∀ k, K' k → (K k ∨ W.heap.size ≤ k) ∧ k < W'.heap.size) : LawW2 w W' K' h1 h2 pb H1 H2 left := by
  obtain ⟨F1, F2, a, b, c, d, e⟩ := h.ex
  have hs := hq.size
  have hp := h.pool.lt
  have key : ∀ k, k < W.heap.size → ¬ K k → ¬ K' k := fun k x y z => by
    rcases (hk k z).1 with u | u
    · exact y u
    · omega
  exact ⟨h.quiet.trans hq, ⟨F1, F2, a.kept hq (fun _ _ x => x), b.kept hq (fun _ _ x => x), fun k x => by obtain ⟨p, q, r, s⟩ := c k x; exact ⟨p, by omega, key k q r, s⟩, fun k x => by obtain ⟨p, q, r, s⟩ := d k x; exact ⟨p, by omega, key k q r, s⟩, e⟩,
    h.pool.kept hq (fun x => x), ⟨h.pbn.1, key _ hp h.pbn.2⟩, h.sum, fun k x => (hk k x).2⟩

theorem LawW2.quietly (h : LawW2 w W K h1 h2 pb H1 H2 left) (hq : Quiet W W') : LawW2 w W' K h1 h2 pb H1 H2 left := h.fresh hq (fun k x => ⟨Or.inl x, by have := h.kl k x; have := hq.size; omega⟩)
theorem LawW2.drew (h : LawW2 w W K h1 h2 pb H1 H2 left) : LawW2 w W.drew K h1 h2 pb H1 H2 left := h.quietly ((Only.refl _ _).drew)
theorem LawW2.drewN (h : LawW2 w W K h1 h2 pb H1 H2 left) (n : Nat) : LawW2 w (W.drewN n) K h1 h2 pb H1 H2 left := h.quietly ((Only.refl _ _).drewN n)

theorem LawW2.start {W1 W2 : World} (h : Quiet w W) (hp : PoolAt W pb left) (hpb : w.heap.size ≤ pb) (hl : left ≤ 256) (q1 : Quiet W W1) (hh1 : HeapIs W1 h1 pb (fun k => W.heap.size ≤ k) []) (q2 : Quiet W1 W2) (hh2 : HeapIs W2 h2 pb (fun k => W1.heap.size ≤ k) []) (hK : ∀ k, K k → k < W.heap.size ∧ k ≠ pb) : LawW2 w W2 K h1 h2 pb [] [] left := by
  have hs := h.size
  have hs1 := q1.size
  have hs2 := q2.size
  have hpl := hp.lt
  exact ⟨(h.trans q1).trans q2, ⟨_, _, hh1.lim.kept q2 (fun _ _ x => x), hh2.lim, fun k x => ⟨by omega, by omega, fun y => by have := hK k y; omega, by omega⟩, fun k x => ⟨by omega, by omega, fun y => by have := hK k y; omega, by omega⟩, fun k x y => by omega⟩, (hp.kept q1 (fun x => x)).kept q2 (fun x => x), ⟨hpb, fun y => (hK _ y).2 rfl⟩, by simpa using hl, fun k x => by have := hK k x; omega⟩

/-- The first of the two turns. -/
theorem LawW2.turn {F1 F2 : Nat → Prop} {H1' : List (List (Option Tup))} {left' : Nat} (h : LawW2 w W K h1 h2 pb H1 H2 left) (b : HeapIs W h2 pb F2 H2) (c : ∀ k, F1 k → w.heap.size ≤ k ∧ k < W.heap.size ∧ ¬ K k ∧ k ≠ pb) (d : ∀ k, F2 k → w.heap.size ≤ k ∧ k < W.heap.size ∧ ¬ K k ∧ k ≠ pb) (e : ∀ k, F1 k → ¬ F2 k)
    (ho : Only (fun k => F1 k ∨ k = pb) W W') (hp : PoolAt W' pb left') (hh : HeapIs W' h1 pb (fun k => F1 k ∨ W.heap.size ≤ k) H1') (hs : H1'.length + H2.length + left' ≤ 256) : Turn w W W' K ∧ LawW2 w W' K h1 h2 pb H1' H2 left' := by
  have hz := ho.size
  have hqs := h.quiet.size
  have hpl := h.pool.lt
  refine ⟨ho.mono (fun k _ x => ?_), h.quiet.trans' ho (fun k hk x => ?_), ⟨_, F2, hh.lim, b.kept ho (fun k x y => ?_), fun k x => ?_, fun k x => ?_, fun k x y => ?_⟩, hp, h.pbn, hs, fun k x => by have := h.kl k x; omega⟩
  · rcases x with x | x
    · exact ⟨(c k x).2.2.1, (c k x).1⟩
    · subst x; exact ⟨h.pbn.2, h.pbn.1⟩
  · rcases x with x | x
    · have := c k x; omega
    · have := h.pbn.1; omega
  · rcases y with y | y
    · exact e k y x
    · exact (d k x).2.2.2 y
  · obtain ⟨x, y⟩ := x
    rcases x with x | x
    · exact ⟨(c k x).1, y, (c k x).2.2.1, (c k x).2.2.2⟩
    · exact ⟨by omega, y, fun z => by have := h.kl k z; omega, by omega⟩
  · obtain ⟨p, q, r, s⟩ := d k x
    exact ⟨p, by omega, r, s⟩
  · obtain ⟨x, z⟩ := x
    rcases x with x | x
    · exact e k x y
    · have := d k y; omega

/-- Insert of a version whose data are the law's own. -/
theorem LawW2.insert (t : Tup) (A : Option Addr) (cap : Nat) (S : Nat → Prop) (h : LawW2 w W K h1 h2 pb H1 H2 left) (hby : ∀ x ∈ t.data, x < 256) (hd : Rd W S 1 A t.data.length (bytesV t.data)) (hS : ∀ k, S k → K k) :
    Calls Try.prog 43 #[.pointer (some ⟨h1, 0, none⟩), tupV t A cap] W fun e w' => e = .returned (.tuple #[.agg #[.int .i64 (hIns H1 left t).1.1, .int .i64 (hIns H1 left t).1.2.1], .int .i64 (hIns H1 left t).1.2.2]) ∧ Turn w W w' K ∧ LawW2 w w' K h1 h2 pb (hIns H1 left t).2.1 H2 (hIns H1 left t).2.2 := by
  obtain ⟨F1, F2, a, b, c, d, e⟩ := h.ex
  have hsum := h.sum
  refine (heap_insert left t A cap S a h.pool (by omega) hby hd (fun k hk => ⟨fun x => (c k x).2.2.1 (hS k hk), fun e => h.pbn.2 (by rw [← e]; exact hS k hk)⟩)).mono ?_
  rintro x w' ⟨rfl, ho, hp, hh⟩
  exact ⟨rfl, h.turn b c d e ho hp hh (by have := hIns_sum H1 left t; omega)⟩

theorem LawW2.drop (h : LawW2 w W K h1 h2 pb H1 H2 left) :
    Calls Try.prog 42 #[.pointer (some ⟨h1, 0, none⟩)] W fun e w' => e = .returned (.int .i64 (H1.length : Int)) ∧ Turn w W w' K ∧ LawW2 w w' K h1 h2 pb [] H2 (left + H1.length) := by
  obtain ⟨F1, F2, a, b, c, d, e⟩ := h.ex
  have hsum := h.sum
  refine (heap_drop left a h.pool (by omega)).mono ?_
  rintro x w' ⟨rfl, ho, hp, hh⟩
  exact ⟨rfl, h.turn b c d e ho hp hh (by simp; omega)⟩

theorem LawW2.free (pg sl : Int) (h : LawW2 w W K h1 h2 pb H1 H2 left) :
    Calls Try.prog 47 #[.pointer (some ⟨h1, 0, none⟩), .agg #[.int .i64 pg, .int .i64 sl]] W fun e w' => e = .returned (.int .i64 (hFree H1 pg sl).1) ∧ Turn w W w' K ∧ LawW2 w w' K h1 h2 pb (hFree H1 pg sl).2 H2 left := by
  obtain ⟨F1, F2, a, b, c, d, e⟩ := h.ex
  refine (heap_free pg sl (a.lim2 h.pool)).mono ?_
  rintro x w' ⟨rfl, ho, hh⟩
  exact ⟨rfl, h.turn b c d e (ho.mono (fun _ _ x => Or.inl x.1)) (h.pool.kept ho (fun x => x.2.2 rfl)) (hh.mono (fun _ x => Or.inl x.1)) (by rw [hFree_length]; exact h.sum)⟩

theorem LawW2.pages (h : LawW2 w W K h1 h2 pb H1 H2 left) :
    Calls Try.prog 44 #[.pointer (some ⟨h1, 0, none⟩)] W fun e w' => e = .returned (.int .i64 (H1.length : Int)) ∧ W = w' := by
  obtain ⟨F1, F2, a, b, c, d, e⟩ := h.ex
  exact heap_pages a

theorem LawW2.used (h : LawW2 w W K h1 h2 pb H1 H2 left) :
    Calls Try.prog 48 #[.pointer (some ⟨h1, 0, none⟩)] W fun e w' => e = .returned (.int .i64 (usedH H1 : Int)) ∧ ∃ n, w' = W.drewN n := by
  obtain ⟨F1, F2, a, b, c, d, e⟩ := h.ex
  exact heap_used a

theorem LawW2.poolLeft (h : LawW2 w W K h1 h2 pb H1 H2 left) :
    Calls Try.prog 45 #[.pointer (some ⟨pb, 0, none⟩)] W fun e w' => e = .returned (.int .i64 (left : Int)) ∧ W = w' := pool_left pb left W h.pool

/-- New bytes read. -/
theorem fresh_own {w W : World} {A : Option Addr} {c : Nat} {l : List Nat} (h : Fresh w W (.slice A l.length c) l) : Rd W (fun k => (Value.slice A l.length c).ownBlock = some k) 1 A l.length (bytesV l) := by
  obtain ⟨A', c', e, _, _, hr⟩ := own_form h.own
  injection e with e1 e2
  subst e1
  exact hr

/-- Insert of a version whose data were just laid. -/
theorem LawW2.put {A : Option Addr} {c : Nat} {t : Tup} (h : LawW2 w W K h1 h2 pb H1 H2 left) (hf : Fresh W W' (.slice A t.data.length c) t.data) (hby : ∀ x ∈ t.data, x < 256) :
    Calls Try.prog 43 #[.pointer (some ⟨h1, 0, none⟩), tupV t A c] W' fun e w' => e = .returned (.tuple #[.agg #[.int .i64 (hIns H1 left t).1.1, .int .i64 (hIns H1 left t).1.2.1], .int .i64 (hIns H1 left t).1.2.2]) ∧ Turn w W w' K ∧ LawW2 w w' K h1 h2 pb (hIns H1 left t).2.1 H2 (hIns H1 left t).2.2 := by
  have hz := hf.quiet.size
  have h' := h.fresh (K' := fun k => K k ∨ (Value.slice A t.data.length c).ownBlock = some k) hf.quiet (fun k x => by
    rcases x with x | x
    · exact ⟨Or.inl x, by have := h.kl k x; omega⟩
    · exact ⟨Or.inr (hf.new k x), (hf.own.lt k x).2⟩)
  refine (h'.insert t A c _ hby (fresh_own hf) (fun k x => Or.inr x)).mono ?_
  rintro e w' ⟨rfl, ht, hl⟩
  refine ⟨rfl, (hf.quiet.mono (T := fun k => ¬ K k ∧ w.heap.size ≤ k) (fun _ _ x => x.elim)).trans' ht (fun k _ x => ⟨fun y => x.1 (Or.inl y), x.2⟩), hl.fresh (Only.refl _ _) (fun k x => ⟨Or.inl (Or.inl x), hl.kl k (Or.inl x)⟩)⟩

end
end Go.Proofs.Ytbibmgcklilpmaa
