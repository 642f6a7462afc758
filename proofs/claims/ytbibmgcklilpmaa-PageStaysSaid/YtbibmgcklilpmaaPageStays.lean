/- PageStays: what is put, stamped or freed in one slot changes nothing in any other one. UNDER WAY: the rows of what was there. No condition. -/
import Derived.Test.YtbibmgcklilpmaaPageTwice
namespace Go.Lap

/-- A version's cells, or those of none. -/
def tupC : Option Tup → Value → List Value
  | none, _ => [.int .u64 0, .int .u64 0, .int .u64 0, .int .i64 0, .int .i64 0, .slice none 0 0]
  | some t, d => [.int .u64 (t.row : Int), .int .u64 (t.xmin : Int), .int .u64 (t.xmax : Int), .int .i64 t.pg, .int .i64 t.sl, d]

theorem tupC_length (o : Option Tup) (d : Value) : (tupC o d).length = 6 := by cases o <;> rfl

end Go.Lap
namespace Go.Proofs.Ytbibmgcklilpmaa
open Go.RowKit Go.Lap

theorem elem_tup : Elem Try.prog 121 54 6 64 := Elem.mk' (.agg #[.int .u64 0, .int .u64 0, .int .u64 0, .int .i64 0, .int .i64 0, .slice none 0 0]) Try.underlying121 (by kernel_rfl) rfl (by decide)
theorem elem_bool : Elem Try.prog 122 4 1 1 := Elem.mk' (.bool false) Try.underlying122 (by kernel_rfl) rfl (by decide)

/-- A version's data. -/
def DatIs (W : World) (o : Option Tup) (d : Value) : Prop := ∀ t, o = some t → ∃ A c, d = .slice A t.data.length c ∧ W.ownsRow 0 5 1 (.slice A t.data.length c) t.data.length (bytesV t.data)

theorem DatIs.kept {W W' : World} {S : Nat → Prop} {o : Option Tup} {d : Value} (h : DatIs W o d) (ho : Only S W W') (hn : ∀ k c, W.heap[k]? = some (.cells c 5 (0, 0)) → ¬ S k) : DatIs W' o d := by
  intro t e
  obtain ⟨A, c, e1, e2⟩ := h t e
  exact ⟨A, c, e1, owns_kept e2 ho (fun k x => by obtain ⟨z, hz⟩ := own_blk e2 x; exact hn k z hz)⟩

/-- What was there: versions, and whether there was one. -/
structure WasW (w wr : World) (v bv : Value) (ts : List (Option Tup)) (rows : List (List Value)) : Prop where
  quiet : Quiet w wr
  own : wr.ownsRow 0 54 6 v ts.length rows.flatten
  len : rows.length = ts.length
  row : ∀ (i : Nat) o, ts[i]? = some o → ∃ d, rows[i]? = some (tupC o d) ∧ DatIs wr o d
  bown : wr.ownsRow 0 4 1 bv ts.length (ts.map (fun o => .bool o.isSome))
  new : (∀ k, v.ownBlock = some k → w.heap.size ≤ k) ∧ ∀ k, bv.ownBlock = some k → w.heap.size ≤ k

theorem WasW.start {w wr : World} (h : Quiet w wr) : WasW w wr (.slice none 0 0) (.slice none 0 0) [] [] :=
  ⟨h, World.ownsRow_nil _ _ _ _, rfl, fun i o hi => by simp at hi, World.ownsRow_nil _ _ _ _, (fun k e => by cases e), fun k e => by cases e⟩

theorem WasW.quietly {w wr wr' : World} {v bv : Value} {ts : List (Option Tup)} {rows : List (List Value)} (h : WasW w wr v bv ts rows) (hq : Quiet wr wr') : WasW w wr' v bv ts rows :=
  ⟨h.quiet.trans hq, owns_kept h.own hq (fun _ _ x => x), h.len, fun i o hi => by
    obtain ⟨d, h1, h2⟩ := h.row i o hi
    exact ⟨d, h1, h2.kept hq (fun _ _ _ x => x)⟩, owns_kept h.bown hq (fun _ _ x => x), h.new⟩

theorem WasW.len6 {w wr : World} {v bv : Value} {ts : List (Option Tup)} {rows : List (List Value)} (h : WasW w wr v bv ts rows) : ∀ r ∈ rows, r.length = 6 := by
  intro r hr
  obtain ⟨i, hi⟩ := List.mem_iff_getElem?.1 hr
  have hl : i < ts.length := by rw [← h.len]; exact (List.getElem?_eq_some_iff.1 hi).1
  obtain ⟨d, hd, _⟩ := h.row i ts[i] (List.getElem?_eq_getElem hl)
  rw [hi] at hd
  injection hd with hd
  rw [hd, tupC_length]

/-- The page turns. -/
theorem WasW.page {w wr wr' : World} {v bv : Value} {ts : List (Option Tup)} {rows : List (List Value)} {pb : Nat} {c : Array Value} (h : WasW w wr v bv ts rows) (hp : wr.heap[pb]? = some (.cells c 139 (0, 0))) (hn : w.heap.size ≤ pb) (ho : Only (· = pb) wr wr') : WasW w wr' v bv ts rows :=
  ⟨h.quiet.trans' ho (fun k hk x => by omega), owns_kept h.own ho (fun k e x => by obtain ⟨z, hz⟩ := own_blk h.own e; exact ne_type hz hp (by decide) x), h.len, fun i o hi => by
    obtain ⟨d, h1, h2⟩ := h.row i o hi
    exact ⟨d, h1, h2.kept ho (fun k z hz x => ne_type hz hp (by decide) x)⟩, owns_kept h.bown ho (fun k e x => by obtain ⟨z, hz⟩ := own_blk h.bown e; exact ne_type hz hp (by decide) x), h.new⟩

/-- One more was there, or none. -/
theorem WasW.push {w wr w4 w5 : World} {v bv v' bv' d : Value} {ts : List (Option Tup)} {rows : List (List Value)} {o : Option Tup} (h : WasW w wr v bv ts rows) (hd : DatIs wr o d)
    (hg : Grew (wr.alloc (.cells (tupC o d).toArray 54)) w4 54 6 v v' (ts.length + 1) (rows.flatten ++ tupC o d))
    (hb : Grew (w4.alloc (.cells #[.bool o.isSome] 4)) w5 4 1 bv bv' (ts.length + 1) (ts.map (fun o => .bool o.isSome) ++ [.bool o.isSome])) :
    WasW w w5 v' bv' (ts ++ [o]) (rows ++ [tupC o d]) := by
  have q1 : Quiet wr (wr.alloc (.cells (tupC o d).toArray 54)) := (Only.refl _ _).alloc _
  have q2 : Quiet w4 (w4.alloc (.cells #[.bool o.isSome] 4)) := (Only.refl _ _).alloc _
  have z1 := q1.size
  have z2 := hg.only.size
  have z3 := q2.size
  have hqs := h.quiet.size
  have nv : ∀ k c, wr.heap[k]? = some (.cells c 5 (0, 0)) → ¬ v.ownBlock = some k := fun k c hk e => by obtain ⟨z, hz⟩ := own_blk h.own e; exact ne_type hk hz (by decide) rfl
  have nb : ∀ k c, wr.heap[k]? = some (.cells c 5 (0, 0)) → ¬ bv.ownBlock = some k := fun k c hk e => by obtain ⟨z, hz⟩ := own_blk h.bown e; exact ne_type hk hz (by decide) rfl
  have dk : ∀ o d, DatIs wr o d → DatIs w5 o d := fun o d hx => by
    intro t e
    obtain ⟨A, c, e1, e2⟩ := hx t e
    refine ⟨A, c, e1, owns_kept (owns_kept (owns_kept (owns_kept e2 q1 (fun _ _ x => x)) hg.only (fun k x y => ?_)) q2 (fun _ _ x => x)) hb.only (fun k x y => ?_)⟩
    · obtain ⟨z, hz⟩ := own_blk e2 x
      exact nv k z hz y
    · obtain ⟨z, hz⟩ := own_blk e2 x
      exact nb k z hz y
  have hv' : ∀ k, v'.ownBlock = some k → w.heap.size ≤ k := fun k e => by
    rcases hg.loc with x | x
    · rw [x] at e; exact h.new.1 k e
    · rw [x] at e; injection e with e; omega
  have bvw : ∀ k, bv.ownBlock = some k → v'.ownBlock ≠ some k := fun k e x => by
    obtain ⟨z, hz⟩ := own_blk h.bown e
    obtain ⟨y, hy⟩ := own_blk hg.own x
    have hz2 := hg.only.get (q1.get hz (fun x => x)) (fun e2 => by obtain ⟨z', hz'⟩ := own_blk h.own e2; exact ne_type hz hz' (by decide) rfl)
    exact ne_type hz2 hy (by decide) rfl
  refine ⟨((((h.quiet.trans q1).trans' hg.only (fun k hk e => by have := h.new.1 k e; omega)).trans q2).trans' hb.only (fun k hk e => by have := h.new.2 k e; omega)), ?_, by simp [h.len], fun i o' hi => ?_, ?_, hv', fun k e => ?_⟩
  · rw [List.length_append, List.flatten_append]
    have e1 : [tupC o d].flatten = tupC o d := by simp
    rw [e1]
    exact owns_kept (owns_kept hg.own q2 (fun _ _ x => x)) hb.only (fun k e x => bvw k x e)
  · rcases snoc_get hi with ⟨_, h1⟩ | ⟨h1, h2⟩
    · obtain ⟨d', h3, h4⟩ := h.row i o' h1
      exact ⟨d', snoc_old h3, dk o' d' h4⟩
    · subst h2
      exact ⟨d, by rw [h1, ← h.len]; simp, dk _ d hd⟩
  · rw [List.length_append, List.map_append]
    exact hb.own
  · rcases hb.loc with x | x
    · rw [x] at e; exact h.new.2 k e
    · rw [x] at e; injection e with e; simp only [World.size_alloc] at e; omega

end Go.Proofs.Ytbibmgcklilpmaa
