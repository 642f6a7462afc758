/- A law's row of places. No condition. -/
import Derived.Test.YtbibmgcklilpmaaHeapPlain
namespace Go.Lap

/-- The cells of a row of places. -/
def tidsV (l : List (Int × Int)) : List Value := l.flatMap (fun p => [.int .i64 p.1, .int .i64 p.2])

theorem tidsV_cons (p : Int × Int) (l : List (Int × Int)) : tidsV (p :: l) = .int .i64 p.1 :: .int .i64 p.2 :: tidsV l := rfl
theorem tidsV_append (l m : List (Int × Int)) : tidsV (l ++ m) = tidsV l ++ tidsV m := by simp [tidsV]
theorem tidsV_length (l : List (Int × Int)) : (tidsV l).length = l.length * 2 := by
  induction l with
  | nil => rfl
  | cons p l ih => rw [tidsV_cons, List.length_cons, List.length_cons, ih, List.length_cons]; omega

theorem tidsV_get {l : List (Int × Int)} {j : Nat} {p : Int × Int} (h : l[j]? = some p) : (tidsV l)[j * 2]? = some (.int .i64 p.1) ∧ (tidsV l)[j * 2 + 1]? = some (.int .i64 p.2) := by
  induction l generalizing j with
  | nil => simp at h
  | cons q l ih =>
    rcases j with _ | j
    · simp at h
      subst h
      exact ⟨rfl, rfl⟩
    · rw [List.getElem?_cons_succ] at h
      obtain ⟨h1, h2⟩ := ih h
      rw [tidsV_cons, show (j + 1) * 2 = j * 2 + 1 + 1 by omega]
      exact ⟨h1, h2⟩

theorem tidsV_set (l : List (Int × Int)) (j : Nat) (q : Int × Int) : ((tidsV l).set (j * 2) (.int .i64 q.1)).set (j * 2 + 1) (.int .i64 q.2) = tidsV (l.set j q) := by
  induction l generalizing j with
  | nil => rfl
  | cons p l ih =>
    rcases j with _ | j
    · rfl
    · rw [tidsV_cons, show (j + 1) * 2 = j * 2 + 1 + 1 by omega, List.set_cons_succ, List.set_cons_succ, List.set_cons_succ, List.set_cons_succ, ih, List.set_cons_succ, tidsV_cons]

theorem one_tids (l : List (Int × Int)) : ∀ u ∈ tidsV l, u.oneCell' = true := by
  intro u hu
  unfold tidsV at hu
  rw [List.mem_flatMap] at hu
  obtain ⟨p, _, hp⟩ := hu
  simp at hp
  rcases hp with rfl | rfl <;> rfl

end Go.Lap
namespace Go.Proofs.Ytbibmgcklilpmaa
open Go.RowKit Go.Lap

theorem elem_tid : Elem Try.prog 82 51 2 16 := Elem.mk' (.agg #[.int .i64 0, .int .i64 0]) Try.underlying82 (by kernel_rfl) rfl (by decide)

/-- A row of places. -/
abbrev TidsAt (w : World) (v : Value) (l : List (Int × Int)) : Prop := w.ownsRow 0 51 2 v l.length (tidsV l)

/-- It reads. -/
theorem tids_form {w : World} {v : Value} {l : List (Int × Int)} (h : TidsAt w v l) : ∃ A c, v = .slice A l.length c ∧ l.length ≤ c ∧ c ≤ maxLen ∧ ∀ (j : Nat) p, l[j]? = some p → ∃ g, A = some ⟨g, 0, none⟩ ∧ w.cell? ⟨g, j * 2, none⟩ = some (.int .i64 p.1) ∧ w.cell? ⟨g, j * 2 + 1, none⟩ = some (.int .i64 p.2) := by
  rcases h.2 with ⟨e1, e2⟩ | ⟨g, cap, cur, e1, _, hh, r1, r2, _⟩
  · refine ⟨none, 0, by rw [e2]; exact e1, by omega, Nat.zero_le _, fun j p hj => ?_⟩
    have := (List.getElem?_eq_some_iff.1 hj).1
    omega
  · refine ⟨_, cap, e1, r1, r2, fun j p hj => ⟨g, rfl, ?_, ?_⟩⟩
    · have := h.cells (by rw [e1]; rfl) _ _ (tidsV_get hj).1
      rw [add_none, Nat.zero_add] at this
      exact this
    · have := h.cells (by rw [e1]; rfl) _ _ (tidsV_get hj).2
      rw [add_none, Nat.zero_add] at this
      exact this

/-- One more place. -/
theorem tids_new (w : World) (p : Int × Int) : Rd (w.alloc (.cells #[.int .i64 p.1, .int .i64 p.2] 51)) (fun _ => True) 2 (some ⟨w.heap.size, 0, none⟩) 1 (tidsV [p]) := Rd.new w 2 1 (tidsV [p]) _ _ rfl trivial

theorem tids_new1 (w : World) (o : Obj) (pg sl : Int) : Rd ((w.alloc o).alloc (.cells #[.int .i64 pg, .int .i64 sl] 51)) (fun _ => True) 2 (some ⟨w.heap.size + 1, 0, none⟩) 1 (tidsV [(pg, sl)]) := by
  have := tids_new (w.alloc o) (pg, sl)
  rw [World.size_alloc] at this
  exact this

/-- A place of the row reads, and may be written. -/
theorem tids_at {wr : World} {l : List (Int × Int)} {g c n : Nat} (h : TidsAt wr (.slice (some ⟨g, 0, none⟩) n c) l) {j : Nat} {p : Int × Int} (hj : l[j]? = some p) :
    wr.cell? ⟨g, j * 2, none⟩ = some (.int .i64 p.1) ∧ wr.cell? ⟨g, j * 2 + 1, none⟩ = some (.int .i64 p.2) ∧ ∀ o, wr.frozen? ⟨g, o, none⟩ = false := by
  obtain ⟨d, hd⟩ := own_blk h (k := g) rfl
  obtain ⟨A, c', e, _, _, hf⟩ := tids_form h
  obtain ⟨g', e2, h1, h2⟩ := hf j p hj
  injection e with e1 _ _
  rw [← e1] at e2
  injection e2 with e2
  injection e2 with e2 _ _
  subst e2
  exact ⟨h1, h2, fun o => frozen_of hd o⟩

/-- A place is written over. -/
theorem tids_set {w : World} {g c : Nat} {l : List (Int × Int)} (h : TidsAt w (.slice (some ⟨g, 0, none⟩) l.length c) l) (j : Nat) (q : Int × Int) : TidsAt ((w.setCell ⟨g, j * 2, none⟩ (.int .i64 q.1)).setCell ⟨g, j * 2 + 1, none⟩ (.int .i64 q.2)) (.slice (some ⟨g, 0, none⟩) l.length c) (l.set j q) := by
  have h1 := (h.stored (j * 2) (.int .i64 q.1)).1
  have h2 := (World.ownsRow.stored h1 (j * 2 + 1) (.int .i64 q.2)).1
  rw [tidsV_set] at h2
  unfold TidsAt
  rw [List.length_set]
  exact h2

section
variable {w W W' : World} {K K' : Nat → Prop} {hb pb : Nat} {H : List (List (Option Tup))} {left : Nat}
/-- The law's own blocks turn. -/
theorem LawW.mine {S : Nat → Prop} (h : LawW w W K hb pb H left) (ho : Only S W W') (hS : ∀ k, S k → K k ∧ w.heap.size ≤ k) (hk : ∀ k, K' k → (K k ∨ W.heap.size ≤ k) ∧ k < W'.heap.size) : LawW w W' K' hb pb H left := by
  obtain ⟨F, hf, hF⟩ := h.ex
  have hs := ho.size
  have hp := h.pool.lt
  have key : ∀ k, k < W.heap.size → ¬ K k → ¬ K' k := fun k x y z => by
    rcases (hk k z).1 with u | u
    · exact y u
    · omega
  exact ⟨h.quiet.trans' ho (fun k hk x => by have := hS k x; omega), ⟨F, hf.kept ho (fun k x y => (hF k x).2.2 (hS k y).1), fun k x => by obtain ⟨a, b, c⟩ := hF k x; exact ⟨a, by omega, key k b c⟩⟩, h.pool.kept ho (fun x => h.pbn.2 (hS _ x).1), ⟨h.pbn.1, key _ hp h.pbn.2⟩, h.sum, fun k x => (hk k x).2⟩

theorem tup0_rdN {w : World} {db k N : Nat} (h : Bk w db N 5 (fun _ => 0)) (hk : k ≤ N) : Rd w (· = db) 1 (some ⟨db, 0, none⟩) (tup0 k).data.length (bytesV (tup0 k).data) := by
  refine ⟨by simp [bytesV], fun _ => ⟨db, 0, rfl, rfl, fun j u hu => ?_⟩⟩
  unfold bytesV tup0 at hu
  rw [List.getElem?_map, List.getElem?_replicate] at hu
  split at hu
  · rename_i hj
    rw [Nat.zero_add, h.cell (by omega)]
    exact hu
  · cases hu
end

end Go.Proofs.Ytbibmgcklilpmaa
