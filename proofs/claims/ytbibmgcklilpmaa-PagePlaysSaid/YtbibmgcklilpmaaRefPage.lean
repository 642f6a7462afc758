/- The document's page: what it is in memory; New, Get, Used, Room. No condition. -/
import Derived.Test.YtbibmgcklilpmaaPageStamp
import Derived.Test.YtbibmgcklilpmaaRef5b
import Derived.Test.YtbibmgcklilpmaaHeap
namespace Go.Lap

/-- A row of rows of one length, cell by cell. -/
theorem flat_get {α : Type} {k : Nat} {rows : List (List α)} (h : ∀ r ∈ rows, r.length = k) {i j : Nat} {r : List α} (hi : rows[i]? = some r) (hj : j < k) : rows.flatten[i * k + j]? = r[j]? := by
  induction rows generalizing i with
  | nil => simp at hi
  | cons x rows ih =>
    have hx : x.length = k := h x (by simp)
    rw [List.flatten_cons]
    rcases i with _ | i
    · simp at hi
      subst hi
      rw [Nat.zero_mul, Nat.zero_add, List.getElem?_append_left (by omega)]
    · rw [List.getElem?_cons_succ] at hi
      rw [List.getElem?_append_right (by rw [hx, Nat.add_mul]; omega), hx, show (i + 1) * k + j - k = i * k + j by rw [Nat.add_mul]; omega]
      exact ih (fun r hr => h r (by simp [hr])) hi

theorem flat_set {α : Type} {k : Nat} {rows : List (List α)} (h : ∀ r ∈ rows, r.length = k) {i j : Nat} {r : List α} (hi : rows[i]? = some r) (hj : j < k) (u : α) : rows.flatten.set (i * k + j) u = (rows.set i (r.set j u)).flatten := by
  induction rows generalizing i with
  | nil => simp at hi
  | cons x rows ih =>
    have hx : x.length = k := h x (by simp)
    rw [List.flatten_cons]
    rcases i with _ | i
    · simp at hi
      subst hi
      rw [Nat.zero_mul, Nat.zero_add, List.set_append_left _ _ (by omega), List.set_cons_zero, List.flatten_cons]
    · rw [List.getElem?_cons_succ] at hi
      rw [List.set_append_right _ _ (by rw [hx, Nat.add_mul]; omega), hx, show (i + 1) * k + j - k = i * k + j by rw [Nat.add_mul]; omega, ih (fun r hr => h r (by simp [hr])) hi, List.set_cons_succ, List.flatten_cons]

theorem flat_length {α : Type} {k : Nat} {rows : List (List α)} (h : ∀ r ∈ rows, r.length = k) : rows.flatten.length = rows.length * k := by
  induction rows with
  | nil => simp
  | cons x rows ih =>
    rw [List.flatten_cons, List.length_append, h x (by simp), ih (fun r hr => h r (by simp [hr])), List.length_cons, Nat.add_mul]
    omega

/-- A slot's cells. -/
def slotV : Slot → Value → List Value
  | none, _ => [.bool false, .int .u64 0, .int .u64 0, .int .u64 0, .int .i64 0, .int .i64 0, .slice none 0 0, .int .i64 0]
  | some (f, t), d => [.bool true, .int .u64 (t.row : Int), .int .u64 (t.xmin : Int), .int .u64 (t.xmax : Int), .int .i64 t.pg, .int .i64 t.sl, d, .int .i64 (f : Int)]

theorem slotV_length (s : Slot) (d : Value) : (slotV s d).length = 8 := by rcases s with _ | ⟨f, t⟩ <;> rfl

end Go.Lap
namespace Go.Proofs.Ytbibmgcklilpmaa
open Go.RowKit Go.Lap

/-- A version's bytes, in a block of their own. -/
def DatAt (w : World) (S : Nat → Prop) (t : Tup) (d : Value) : Prop :=
  ∃ A c, d = .slice A t.data.length c ∧ w.ownsRow 0 5 1 d t.data.length (bytesV t.data) ∧ ∀ k, d.ownBlock = some k → S k

/-- Block b is the document's page: slots L, data from st on; all blocks that are its own are S's. -/
structure RefPgAt (w : World) (b : Nat) (S : Nat → Prop) (L : List Slot) (st : Nat) (v : Value) (rows : List (List Value)) : Prop where
  blk : w.heap[b]? = some (.cells #[v, .int .i64 (st : Int)] 131 (0, 0))
  row : w.ownsRow 0 161 8 v L.length rows.flatten
  len : rows.length = L.length
  slot : ∀ (i : Nat) s, L[i]? = some s → ∃ d, rows[i]? = some (slotV s d) ∧ ∀ f t, s = some (f, t) → DatAt w S t d ∧ t.Ok ∧ f ≤ 512
  foot : S b ∧ ∀ k, v.ownBlock = some k → S k
  lim : 4 + 4 * L.length ≤ 512 ∧ st ≤ 512

def RefPg (w : World) (b : Nat) (S : Nat → Prop) (L : List Slot) (st : Nat) : Prop := ∃ v rows, RefPgAt w b S L st v rows

section
variable {w w' : World} {b st : Nat} {S T : Nat → Prop} {L : List Slot} {v : Value} {rows : List (List Value)}

theorem DatAt.kept {t : Tup} {d : Value} (h : DatAt w S t d) (ho : Only T w w') (hn : ∀ k, S k → ¬ T k) : DatAt w' S t d := by
  obtain ⟨A, c, e, h1, h2⟩ := h
  exact ⟨A, c, e, owns_kept h1 ho (fun k e => hn k (h2 k e)), h2⟩
theorem DatAt.mono {t : Tup} {d : Value} (h : DatAt w S t d) (hn : ∀ k, S k → T k) : DatAt w T t d := by
  obtain ⟨A, c, e, h1, h2⟩ := h
  exact ⟨A, c, e, h1, fun k e => hn k (h2 k e)⟩
theorem DatAt.blk {t : Tup} {d : Value} (h : DatAt w S t d) {k : Nat} (hk : d.ownBlock = some k) : ∃ c, w.heap[k]? = some (.cells c 5 (0, 0)) := by
  obtain ⟨A, c, e, h1, h2⟩ := h
  exact own_blk h1 hk
theorem DatAt.keptIf {t : Tup} {d : Value} (h : DatAt w S t d) (ho : Only T w w') (hn : ∀ k, d.ownBlock = some k → ¬ T k) : DatAt w' S t d := by
  obtain ⟨A, c, e, h1, h2⟩ := h
  exact ⟨A, c, e, owns_kept h1 ho hn, h2⟩

theorem RefPgAt.len8 (h : RefPgAt w b S L st v rows) : ∀ r ∈ rows, r.length = 8 := by
  intro r hr
  obtain ⟨i, hi⟩ := List.mem_iff_getElem?.1 hr
  have hl : i < L.length := by rw [← h.len]; exact (List.getElem?_eq_some_iff.1 hi).1
  obtain ⟨d, hd, _⟩ := h.slot i L[i] (List.getElem?_eq_getElem hl)
  rw [hi] at hd
  injection hd with hd
  rw [hd, slotV_length]

theorem RefPgAt.kept (h : RefPgAt w b S L st v rows) (ho : Only T w w') (hn : ∀ k, S k → ¬ T k) : RefPgAt w' b S L st v rows :=
  ⟨ho.get h.blk (hn _ h.foot.1), owns_kept h.row ho (fun k e => hn k (h.foot.2 k e)), h.len, fun i s hi => by
    obtain ⟨d, hd, h2⟩ := h.slot i s hi
    exact ⟨d, hd, fun f t e => ⟨(h2 f t e).1.kept ho hn, (h2 f t e).2⟩⟩, h.foot, h.lim⟩

theorem RefPgAt.mono (h : RefPgAt w b S L st v rows) (hn : ∀ k, S k → T k) : RefPgAt w b T L st v rows :=
  ⟨h.blk, h.row, h.len, fun i s hi => by
    obtain ⟨d, hd, h2⟩ := h.slot i s hi
    exact ⟨d, hd, fun f t e => ⟨(h2 f t e).1.mono hn, (h2 f t e).2⟩⟩, ⟨hn _ h.foot.1, fun k e => hn k (h.foot.2 k e)⟩, h.lim⟩

theorem RefPgAt.limS (h : RefPgAt w b S L st v rows) : RefPgAt w b (fun k => S k ∧ k < w.heap.size) L st v rows :=
  ⟨h.blk, h.row, h.len, fun i s hi => by
    obtain ⟨d, hd, h2⟩ := h.slot i s hi
    refine ⟨d, hd, fun f t e => ⟨?_, (h2 f t e).2⟩⟩
    obtain ⟨A, c, e1, h3, h4⟩ := (h2 f t e).1
    exact ⟨A, c, e1, h3, fun k e => ⟨h4 k e, (h3.lt k e).2⟩⟩, ⟨⟨h.foot.1, lt_of_get h.blk⟩, fun k e => ⟨h.foot.2 k e, (h.row.lt k e).2⟩⟩, h.lim⟩

theorem RefPg.kept (h : RefPg w b S L st) (ho : Only T w w') (hn : ∀ k, S k → ¬ T k) : RefPg w' b S L st := by
  obtain ⟨v, rows, h⟩ := h
  exact ⟨v, rows, h.kept ho hn⟩
theorem RefPg.mono (h : RefPg w b S L st) (hn : ∀ k, S k → T k) : RefPg w b T L st := by
  obtain ⟨v, rows, h⟩ := h
  exact ⟨v, rows, h.mono hn⟩
theorem RefPg.limS (h : RefPg w b S L st) : RefPg w b (fun k => S k ∧ k < w.heap.size) L st := by
  obtain ⟨v, rows, h⟩ := h
  exact ⟨v, rows, h.limS⟩

/-- The page's cells. -/
theorem RefPgAt.cells (h : RefPgAt w b S L st v rows) : w.cell? ⟨b, 0, none⟩ = some v ∧ w.cell? ⟨b, 1, none⟩ = some (.int .i64 (st : Int)) ∧ ∀ o, w.frozen? ⟨b, o, none⟩ = false :=
  ⟨by rw [cell_of h.blk]; rfl, by rw [cell_of h.blk]; rfl, fun o => frozen_of h.blk o⟩

/-- The row's form. -/
theorem RefPgAt.form (h : RefPgAt w b S L st v rows) : ∃ A c, v = .slice A L.length c ∧ L.length ≤ c ∧ c ≤ maxLen ∧ ∀ (i : Nat) s, L[i]? = some s → ∃ g d, A = some ⟨g, 0, none⟩ ∧ rows[i]? = some (slotV s d) ∧ (∀ f t, s = some (f, t) → DatAt w S t d ∧ t.Ok ∧ f ≤ 512) ∧ (∀ j u, (slotV s d)[j]? = some u → w.cell? ⟨g, i * 8 + j, none⟩ = some u) ∧ (∀ o, w.frozen? ⟨g, o, none⟩ = false) := by
  rcases h.row.2 with ⟨e1, e2⟩ | ⟨g, cap, cur, e1, _, hh, r1, r2, _⟩
  · refine ⟨none, 0, by rw [e2]; exact e1, by omega, Nat.zero_le _, fun i s hi => ?_⟩
    have := (List.getElem?_eq_some_iff.1 hi).1
    omega
  · refine ⟨_, cap, e1, r1, r2, fun i s hi => ?_⟩
    obtain ⟨d, hd, h2⟩ := h.slot i s hi
    refine ⟨g, d, rfl, hd, h2, fun j u hu => ?_, fun o => frozen_of hh o⟩
    have hj : j < 8 := by have := (List.getElem?_eq_some_iff.1 hu).1; rw [slotV_length] at this; exact this
    have := h.row.cells (by rw [e1]; rfl) (i * 8 + j) u (by rw [flat_get h.len8 hd hj]; exact hu)
    rw [add_none, Nat.zero_add] at this
    exact this
end

section
variable {w w' : World} {b st : Nat} {S : Nat → Prop} {L : List Slot} {v : Value} {rows : List (List Value)}

/-- One slot turns; its row lies in block g. -/
theorem RefPgAt.slotSet {g n c i : Nat} {s' : Slot} {d' : Value} (h : RefPgAt w b S L st (.slice (some ⟨g, 0, none⟩) n c) rows) (hi : i < L.length) (ho : Only (· = g) w w') (hrow : w'.ownsRow 0 161 8 (.slice (some ⟨g, 0, none⟩) n c) L.length (rows.set i (slotV s' d')).flatten)
    (hd : ∀ f t, s' = some (f, t) → DatAt w S t d' ∧ t.Ok ∧ f ≤ 512) : RefPgAt w' b S (L.set i s') st (.slice (some ⟨g, 0, none⟩) n c) (rows.set i (slotV s' d')) := by
  obtain ⟨x, hx⟩ := own_blk h.row (k := g) rfl
  have keep : ∀ t d, DatAt w S t d → DatAt w' S t d := fun t d hda => hda.keptIf ho (fun k e y => by
    obtain ⟨z, hz⟩ := hda.blk e
    exact ne_type hz hx (by decide) y)
  refine ⟨ho.get h.blk (ne_type h.blk hx (by decide)), by rw [List.length_set]; exact hrow, by rw [List.length_set, List.length_set]; exact h.len, fun j s hj => ?_, h.foot, by rw [List.length_set]; exact h.lim⟩
  rw [List.getElem?_set] at hj
  by_cases e : i = j
  · subst e
    rw [if_pos rfl, if_pos hi] at hj
    injection hj with hj
    subst hj
    exact ⟨d', by rw [List.getElem?_set_self (by rw [h.len]; exact hi)], fun f t e => ⟨keep t d' (hd f t e).1, (hd f t e).2⟩⟩
  · rw [if_neg e] at hj
    obtain ⟨d, h1, h2⟩ := h.slot j s hj
    exact ⟨d, by rw [List.getElem?_set_ne e]; exact h1, fun f t e => ⟨keep t d (h2 f t e).1, (h2 f t e).2⟩⟩

/-- Data begin elsewhere. -/
theorem RefPgAt.stSet {st' : Nat} {z : Int} (h : RefPgAt w b S L st v rows) (hz : z = (st' : Int)) (hst : st' ≤ 512) : RefPgAt (w.setCell ⟨b, 1, none⟩ (.int .i64 z)) b S L st' v rows := by
  subst hz
  have ho : Only (· = b) w (w.setCell ⟨b, 1, none⟩ (.int .i64 (st' : Int))) := (Only.refl (· = b) w).setCell (p := ⟨b, 1, none⟩) (fun _ => rfl) _
  refine ⟨by rw [set_same h.blk]; rfl, owns_kept h.row ho (fun k e x => ?_), h.len, fun i s hi => ?_, h.foot, ⟨h.lim.1, hst⟩⟩
  · obtain ⟨y, hy⟩ := own_blk h.row e
    exact ne_type hy h.blk (by decide) x
  · obtain ⟨d, h1, h2⟩ := h.slot i s hi
    exact ⟨d, h1, fun f t e => ⟨(h2 f t e).1.keptIf ho (fun k e y => by obtain ⟨z, hz⟩ := (h2 f t ‹_›).1.blk e; exact ne_type hz h.blk (by decide) y), (h2 f t e).2⟩⟩

/-- The last slot goes. -/
theorem RefPgAt.pop {g n c : Nat} {z : Int} (h : RefPgAt w b S L st (.slice (some ⟨g, 0, none⟩) n c) rows) (hn : 0 < L.length) (hnl : n = L.length) : RefPgAt (w.setCell ⟨b, 0, none⟩ (.slice (some ⟨g, 0, none⟩) (n - 1) c)) b S L.dropLast st (.slice (some ⟨g, 0, none⟩) (n - 1) c) rows.dropLast := by
  subst hnl
  have ho : Only (· = b) w (w.setCell ⟨b, 0, none⟩ (.slice (some ⟨g, 0, none⟩) (L.length - 1) c)) := (Only.refl (· = b) w).setCell (p := ⟨b, 0, none⟩) (fun _ => rfl) _
  have hl := h.len
  have hrow : w.ownsRow 0 161 8 (.slice (some ⟨g, 0, none⟩) (L.length - 1) c) L.dropLast.length rows.dropLast.flatten := by
    rw [List.length_dropLast]
    have h8 : ∀ r ∈ rows.dropLast, r.length = 8 := fun r hr => h.len8 r (List.dropLast_subset _ hr)
    refine ⟨by rw [flat_length h8, List.length_dropLast, hl], ?_⟩
    rcases h.row.2 with ⟨e, _⟩ | ⟨g', cap, cur, e, e0, hh, r1, r2, r3, r4⟩
    · cases e
    · injection e with e1 e2 e3
      injection e1 with e1
      injection e1 with e1
      subst e1 e3
      refine Or.inr ⟨g, c, cur, rfl, e0, hh, by omega, r2, r3, ?_⟩
      have hne : rows ≠ [] := fun e => by rw [e] at hl; simp at hl; omega
      have h9 : rows.flatten = rows.dropLast.flatten ++ rows.getLast hne := by
        conv => lhs; rw [← List.dropLast_concat_getLast hne]
        simp
      have h10 : (L.length - 1) * 8 ≤ L.length * 8 := by omega
      have h11 : cur.toList.take ((L.length - 1) * 8) = (cur.toList.take (L.length * 8)).take ((L.length - 1) * 8) := by rw [List.take_take, Nat.min_eq_left h10]
      rw [h11, r4, h9, List.take_append_of_le_length (by rw [flat_length h8, List.length_dropLast, hl]; exact Nat.le_refl _), List.take_of_length_le (by rw [flat_length h8, List.length_dropLast, hl]; exact Nat.le_refl _)]
  refine ⟨by rw [set_same h.blk]; rfl, owns_kept hrow ho (fun k e x => ?_), by rw [List.length_dropLast, List.length_dropLast, hl], fun i s hi => ?_, h.foot, ?_⟩
  · obtain ⟨y, hy⟩ := own_blk h.row (k := k) e
    exact ne_type hy h.blk (by decide) x
  · have hil : i < L.length - 1 := by have := (List.getElem?_eq_some_iff.1 hi).1; rw [List.length_dropLast] at this; exact this
    rw [List.getElem?_dropLast, if_pos hil] at hi
    obtain ⟨d, h1, h2⟩ := h.slot i s hi
    refine ⟨d, by rw [List.getElem?_dropLast, if_pos (by omega)]; exact h1, fun f t e => ⟨(h2 f t e).1.keptIf ho (fun k e y => by obtain ⟨z, hz⟩ := (h2 f t ‹_›).1.blk e; exact ne_type hz h.blk (by decide) y), (h2 f t e).2⟩⟩
  · have := h.lim
    rw [List.length_dropLast]
    omega

/-- Eight cells of a row are written. -/
abbrev eightSet (w : World) (g o : Nat) (u0 u1 u2 u3 u4 u5 u6 u7 : Value) : World :=
  (((((((w.setCell ⟨g, o, none⟩ u0).setCell ⟨g, o + 1, none⟩ u1).setCell ⟨g, o + 2, none⟩ u2).setCell ⟨g, o + 3, none⟩ u3).setCell ⟨g, o + 4, none⟩ u4).setCell ⟨g, o + 5, none⟩ u5).setCell ⟨g, o + 6, none⟩ u6).setCell ⟨g, o + 7, none⟩ u7

theorem eight_only (w : World) (g o : Nat) (u0 u1 u2 u3 u4 u5 u6 u7 : Value) : Only (· = g) w (eightSet w g o u0 u1 u2 u3 u4 u5 u6 u7) :=
  ((((((((Only.refl (· = g) w).setCell (p := ⟨g, o, none⟩) (fun _ => rfl) u0).setCell (p := ⟨g, o + 1, none⟩) (fun _ => rfl) u1).setCell (p := ⟨g, o + 2, none⟩) (fun _ => rfl) u2).setCell (p := ⟨g, o + 3, none⟩) (fun _ => rfl) u3).setCell (p := ⟨g, o + 4, none⟩) (fun _ => rfl) u4).setCell (p := ⟨g, o + 5, none⟩) (fun _ => rfl) u5).setCell (p := ⟨g, o + 6, none⟩) (fun _ => rfl) u6).setCell (p := ⟨g, o + 7, none⟩) (fun _ => rfl) u7

theorem row_cell {e : TypeId} {g n c i j : Nat} {r : List Value} (h : w.ownsRow 0 e 8 (.slice (some ⟨g, 0, none⟩) n c) n rows.flatten) (h8 : ∀ r ∈ rows, r.length = 8) (hi : rows[i]? = some r) (hj : j < 8) (u : Value) :
    (w.setCell ⟨g, i * 8 + j, none⟩ u).ownsRow 0 e 8 (.slice (some ⟨g, 0, none⟩) n c) n (rows.set i (r.set j u)).flatten ∧ (∀ x ∈ rows.set i (r.set j u), x.length = 8) ∧ (rows.set i (r.set j u))[i]? = some (r.set j u) := by
  have := (h.stored (i * 8 + j) u).1
  rw [flat_set h8 hi hj] at this
  refine ⟨this, fun x hx => ?_, by rw [List.getElem?_set_self (List.getElem?_eq_some_iff.1 hi).1]⟩
  rcases List.mem_or_eq_of_mem_set hx with y | y
  · exact h8 x y
  · rw [y, List.length_set]; exact h8 r (List.mem_of_getElem? hi)

theorem row_eight {e : TypeId} {g n c i : Nat} {r : List Value} (h : w.ownsRow 0 e 8 (.slice (some ⟨g, 0, none⟩) n c) n rows.flatten) (h8 : ∀ r ∈ rows, r.length = 8) (hi : rows[i]? = some r) (u0 u1 u2 u3 u4 u5 u6 u7 : Value) :
    (eightSet w g (i * 8) u0 u1 u2 u3 u4 u5 u6 u7).ownsRow 0 e 8 (.slice (some ⟨g, 0, none⟩) n c) n (rows.set i [u0, u1, u2, u3, u4, u5, u6, u7]).flatten := by
  obtain ⟨a0, b0, c0⟩ := row_cell h h8 hi (j := 0) (by omega) u0
  obtain ⟨a1, b1, c1⟩ := row_cell a0 b0 c0 (j := 1) (by omega) u1
  obtain ⟨a2, b2, c2⟩ := row_cell a1 b1 c1 (j := 2) (by omega) u2
  obtain ⟨a3, b3, c3⟩ := row_cell a2 b2 c2 (j := 3) (by omega) u3
  obtain ⟨a4, b4, c4⟩ := row_cell a3 b3 c3 (j := 4) (by omega) u4
  obtain ⟨a5, b5, c5⟩ := row_cell a4 b4 c4 (j := 5) (by omega) u5
  obtain ⟨a6, b6, c6⟩ := row_cell a5 b5 c5 (j := 6) (by omega) u6
  obtain ⟨a7, b7, c7⟩ := row_cell a6 b6 c6 (j := 7) (by omega) u7
  simp only [List.set_set] at a7
  have hr := h8 r (List.mem_of_getElem? hi)
  match r, hr with
  | [x0, x1, x2, x3, x4, x5, x6, x7], _ => exact a7
end

theorem elem_slot : Elem Try.prog 129 161 8 80 := Elem.mk' (.agg #[.bool false, .int .u64 0, .int .u64 0, .int .u64 0, .int .i64 0, .int .i64 0, .slice none 0 0, .int .i64 0]) Try.underlying129 (by kernel_rfl) rfl (by decide)

set_option maxHeartbeats 400000 in
set_option maxRecDepth 100000 in
theorem rp_new (w : World) :
    Calls Try.prog 70 #[] w fun e w' => e = .returned (.pointer (some ⟨w.heap.size, 0, none⟩)) ∧ Quiet w w' ∧ RefPg w' w.heap.size (fun k => w.heap.size ≤ k) [] 512 := by
  go_enter Try.func70, Try.ntmps70
  go_wp2
  go_ret
  exact ⟨rfl, (Only.refl _ _).alloc _, .slice none 0 0, [], alloc_new _ _, World.ownsRow_nil _ _ _ _, rfl, fun i s hi => by simp at hi, ⟨Nat.le_refl _, fun k e => by cases e⟩, ⟨by simp, Nat.le_refl _⟩⟩

/-- A slot's cells, each by itself. -/
theorem cells_none {w : World} {g i : Nat} {d : Value} (h : ∀ j u, (slotV none d)[j]? = some u → w.cell? ⟨g, i * 8 + j, none⟩ = some u) :
    w.cell? ⟨g, i * 8, none⟩ = some (.bool false) ∧ w.cell? ⟨g, i * 8 + 1, none⟩ = some (.int .u64 0) ∧ w.cell? ⟨g, i * 8 + 2, none⟩ = some (.int .u64 0) ∧ w.cell? ⟨g, i * 8 + 3, none⟩ = some (.int .u64 0) ∧ w.cell? ⟨g, i * 8 + 4, none⟩ = some (.int .i64 0) ∧ w.cell? ⟨g, i * 8 + 5, none⟩ = some (.int .i64 0) ∧ w.cell? ⟨g, i * 8 + 6, none⟩ = some (.slice none 0 0) ∧ w.cell? ⟨g, i * 8 + 7, none⟩ = some (.int .i64 0) :=
  ⟨h 0 _ rfl, h 1 _ rfl, h 2 _ rfl, h 3 _ rfl, h 4 _ rfl, h 5 _ rfl, h 6 _ rfl, h 7 _ rfl⟩
theorem cells_some {w : World} {g i f : Nat} {t : Tup} {d : Value} (h : ∀ j u, (slotV (some (f, t)) d)[j]? = some u → w.cell? ⟨g, i * 8 + j, none⟩ = some u) :
    w.cell? ⟨g, i * 8, none⟩ = some (.bool true) ∧ w.cell? ⟨g, i * 8 + 1, none⟩ = some (.int .u64 (t.row : Int)) ∧ w.cell? ⟨g, i * 8 + 2, none⟩ = some (.int .u64 (t.xmin : Int)) ∧ w.cell? ⟨g, i * 8 + 3, none⟩ = some (.int .u64 (t.xmax : Int)) ∧ w.cell? ⟨g, i * 8 + 4, none⟩ = some (.int .i64 t.pg) ∧ w.cell? ⟨g, i * 8 + 5, none⟩ = some (.int .i64 t.sl) ∧ w.cell? ⟨g, i * 8 + 6, none⟩ = some d ∧ w.cell? ⟨g, i * 8 + 7, none⟩ = some (.int .i64 (f : Int)) :=
  ⟨h 0 _ rfl, h 1 _ rfl, h 2 _ rfl, h 3 _ rfl, h 4 _ rfl, h 5 _ rfl, h 6 _ rfl, h 7 _ rfl⟩

/-- Cells that a quiet step leaves. -/
theorem cells_on {w w' : World} {g i : Nat} {xs : List Value} {T : Nat → Prop} (h : ∀ j u, xs[j]? = some u → w.cell? ⟨g, i * 8 + j, none⟩ = some u) (ho : Only T w w') (hn : ¬ T g) : ∀ j u, xs[j]? = some u → w'.cell? ⟨g, i * 8 + j, none⟩ = some u :=
  fun j u hu => ho.cell (h j u hu) hn

set_option maxHeartbeats 400000 in
set_option maxRecDepth 100000 in
theorem rp_used_nil (w : World) :
    Calls Try.prog 65 #[.pointer none] w fun e w' => e = .returned (.int .i64 0) ∧ Quiet w w' := by
  go_enter Try.func65, Try.ntmps65
  go_wp2
  go_ret
  exact ⟨rfl, Only.refl _ _⟩

section
variable {w : World} {b st : Nat} {S : Nat → Prop} {L : List Slot}

set_option maxHeartbeats 1000000 in
set_option maxRecDepth 100000 in
theorem rp_used (h : RefPg w b S L st) :
    Calls Try.prog 65 #[.pointer (some ⟨b, 0, none⟩)] w fun e w' => e = .returned (.int .i64 (usedOf L : Int)) ∧ Quiet w w' := by
  obtain ⟨v, rows, h⟩ := h
  have hlim := h.lim
  obtain ⟨A, c, rfl, hc, hm, hf⟩ := h.form
  obtain ⟨c0, c1, cf⟩ := h.cells
  have HF := Lib.hid hf
  unfold maxLen at hm
  clear h hf cf c1
  go_enter Try.func65, Try.ntmps65
  go_wp2_with fail
  go_loopw [3, 13, 5] (fun n v _ wr => ∃ k : Nat, k ≤ L.length ∧ v = .int .i64 (k : Int) ∧ n = .int .i64 (usedOf (L.take k) : Int) ∧ usedOf (L.take k) ≤ k ∧ Quiet w wr) (fun _ v _ _ => L.length - (intOf v).toNat)
  case atStart => exact ⟨0, Nat.zero_le _, rfl, rfl, Nat.zero_le _, Only.refl _ _⟩
  case round =>
    obtain ⟨k, hk, rfl, rfl, hu, hq⟩ := hrel
    have HQ := Lib.hid hq
    by_cases hlt : k < L.length
    · obtain ⟨s, hs⟩ : ∃ s, L[k]? = some s := ⟨_, List.getElem?_eq_getElem hlt⟩
      have HN := Lib.hid (usedOf_take_succ L k s hs)
      obtain ⟨g, d, rfl, _, hd, hcs, _⟩ := HF.out k s hs
      rcases s with _ | ⟨f, t⟩
      · obtain ⟨k0, k1, k2, k3, k4, k5, k6, k7⟩ := cells_none (cells_on hcs hq (fun x => x))
        clear hs hcs hd hq
        go_wp2
        go_roundw
        case rel => exact ⟨k + 1, by omega, by go_num, by rw [HN.out]; rfl, by rw [HN.out]; exact Nat.le_succ_of_le hu, HQ.out.alloc _⟩
        case measure => simp [intOf]; omega
      · obtain ⟨A', c', rfl, _⟩ := (hd f t rfl).1
        obtain ⟨k0, k1, k2, k3, k4, k5, k6, k7⟩ := cells_some (cells_on hcs hq (fun x => x))
        clear hs hcs hd hq
        go_wp2
        go_roundw
        case rel => exact ⟨k + 1, by omega, by go_num, by rw [HN.out]; go_num, by rw [HN.out]; exact Nat.succ_le_succ hu, HQ.out.alloc _⟩
        case measure => simp [intOf]; omega
    · obtain rfl : k = L.length := by omega
      rw [List.take_length] at hu
      rw [List.take_length]
      clear hq
      go_wp2
      go_ret
      exact ⟨rfl, HQ.out⟩

/-- Is a slot free among the first k? -/
def anyNone (L : List Slot) : Bool := L.any (fun s => s.isNone)

theorem anyNone_take (L : List Slot) (k : Nat) (s : Slot) (h : L[k]? = some s) : anyNone (L.take (k + 1)) = (anyNone (L.take k) || s.isNone) := by
  unfold anyNone
  rw [List.take_add_one, h, List.any_append]
  simp

theorem anyNone_free (L : List Slot) : anyNone L = !decide (freeIdx L = L.length) := by
  unfold anyNone
  by_cases e : freeIdx L = L.length
  · rw [decide_eq_true e]
    rw [Bool.not_true, List.any_eq_false]
    intro s hs hn
    obtain ⟨i, hi⟩ := List.mem_iff_getElem?.1 hs
    have hl := (List.getElem?_eq_some_iff.1 hi).1
    unfold freeIdx at e
    rcases hf : L.findIdx? (fun s => s.isNone) with _ | j
    · rw [List.findIdx?_eq_none_iff] at hf
      rw [hf s hs] at hn
      cases hn
    · rw [hf] at e
      rw [List.findIdx?_eq_some_iff_getElem] at hf
      obtain ⟨hj, _⟩ := hf
      have : j = L.length := e
      omega
  · rw [decide_eq_false e, Bool.not_false, List.any_eq_true]
    have hl := freeIdx_le L
    have hlt : freeIdx L < L.length := by omega
    exact ⟨L[freeIdx L], List.getElem_mem hlt, by rw [freeIdx_free L _ (List.getElem?_eq_getElem hlt)]; rfl⟩

theorem room_flag (L : List Slot) : roomOf L = (if 478 - (spent L : Int) - (if anyNone L then 0 else 4) < 0 then -1 else 478 - (spent L : Int) - (if anyNone L then 0 else 4)) := by
  unfold roomOf
  rw [anyNone_free]
  by_cases e : freeIdx L = L.length
  · rw [if_pos e, decide_eq_true e]
    simp only [Bool.not_true, Bool.false_eq_true, if_false]
    split <;> omega
  · rw [if_neg e, decide_eq_false e]
    simp only [Bool.not_false, if_true]
    split <;> omega

set_option maxHeartbeats 400000 in
set_option maxRecDepth 100000 in
theorem rp_room_nil (w : World) :
    Calls Try.prog 67 #[.pointer none] w fun e w' => e = .returned (.int .i64 (-1)) ∧ Quiet w w' := by
  go_enter Try.func67, Try.ntmps67
  go_wp2
  go_ret
  exact ⟨rfl, Only.refl _ _⟩

theorem RefPgAt.spent {v : Value} {rows : List (List Value)} (h : RefPgAt w b S L st v rows) : ∀ k, k ≤ L.length → spent (L.take k) ≤ 1000 * k := by
  intro k
  induction k with
  | zero => intro _; simp [Go.Lap.spent]
  | succ k ih =>
    intro hk
    obtain ⟨s, hs⟩ : ∃ s, L[k]? = some s := ⟨_, List.getElem?_eq_getElem (show k < L.length by omega)⟩
    rw [spent_take_succ L k s hs]
    have := ih (by omega)
    obtain ⟨d, _, h2⟩ := h.slot k s hs
    rcases s with _ | ⟨f, t⟩
    · simp only [Slot.size]; omega
    · have hok := (h2 f t rfl).2.1
      have : t.data.length ≤ 200 := (of_decide_eq_true hok.right).2.2.2.2
      simp only [Slot.size, Tup.size]
      omega

set_option maxHeartbeats 1000000 in
set_option maxRecDepth 100000 in
theorem rp_room (h : RefPg w b S L st) :
    Calls Try.prog 67 #[.pointer (some ⟨b, 0, none⟩)] w fun e w' => e = .returned (.int .i64 (roomOf L)) ∧ Quiet w w' := by
  obtain ⟨v, rows, h⟩ := h
  have hlim := h.lim
  have HSB := Lib.hid h.spent
  obtain ⟨A, c, rfl, hc, hm, hf⟩ := h.form
  obtain ⟨c0, c1, cf⟩ := h.cells
  have HF := Lib.hid hf
  unfold maxLen at hm
  clear h hf cf c1
  go_enter Try.func67, Try.ntmps67
  go_wp2_with fail
  go_loopw [3, 4, 14, 6] (fun n fr v _ wr => ∃ k : Nat, k ≤ L.length ∧ v = .int .i64 (k : Int) ∧ n = .int .i64 (478 - (spent (L.take k) : Int)) ∧ fr = .bool (anyNone (L.take k)) ∧ Quiet w wr) (fun _ _ v _ _ => L.length - (intOf v).toNat)
  case atStart => exact ⟨0, Nat.zero_le _, rfl, by simp [Go.Lap.spent], rfl, Only.refl _ _⟩
  case round =>
    obtain ⟨k, hk, rfl, rfl, rfl, hq⟩ := hrel
    have HQ := Lib.hid hq
    have hsb := HSB.out k hk
    by_cases hlt : k < L.length
    · obtain ⟨s, hs⟩ : ∃ s, L[k]? = some s := ⟨_, List.getElem?_eq_getElem hlt⟩
      have HN := Lib.hid (spent_take_succ L k s hs)
      have HA := Lib.hid (anyNone_take L k s hs)
      have hsb1 := HSB.out (k + 1) hlt
      rw [HN.out] at hsb1
      obtain ⟨g, d, rfl, _, hd, hcs, _⟩ := HF.out k s hs
      obtain ⟨sp, hsp⟩ : ∃ sp, spent (L.take k) = sp := ⟨_, rfl⟩
      obtain ⟨an, han⟩ : ∃ an, anyNone (L.take k) = an := ⟨_, rfl⟩
      rw [hsp] at hsb hsb1 HN ⊢
      rw [han] at HA ⊢
      clear hsp han
      rcases s with _ | ⟨f, t⟩
      · obtain ⟨k0, k1, k2, k3, k4, k5, k6, k7⟩ := cells_none (cells_on hcs hq (fun x => x))
        clear hs hcs hd hq
        simp only [Slot.size] at hsb1
        go_wp2
        go_roundw
        case rel => exact ⟨k + 1, by omega, by go_num, by rw [HN.out]; simp only [Slot.size]; congr 1; omega, by rw [HA.out]; simp, HQ.out.alloc _⟩
        case measure => simp [intOf]; omega
      · obtain ⟨A', c', rfl, _⟩ := (hd f t rfl).1
        have hok := (hd f t rfl).2.1
        have hdl : t.data.length ≤ 200 := (of_decide_eq_true hok.right).2.2.2.2
        obtain ⟨k0, k1, k2, k3, k4, k5, k6, k7⟩ := cells_some (cells_on hcs hq (fun x => x))
        simp only [Slot.size, Tup.size] at hsb1
        clear hs hcs hd hq hok
        go_wp2
        go_roundw
        case rel => exact ⟨k + 1, by omega, by go_num, by rw [HN.out]; simp only [Slot.size, Tup.size]; congr 1; omega, by rw [HA.out]; simp, HQ.out.alloc _⟩
        case measure => simp [intOf]; omega
    · obtain rfl : k = L.length := by omega
      have HR := Lib.hid (room_flag L)
      rw [List.take_length] at hsb
      rw [List.take_length]
      obtain ⟨sp, hsp⟩ : ∃ sp, spent L = sp := ⟨_, rfl⟩
      obtain ⟨an, han⟩ : ∃ an, anyNone L = an := ⟨_, rfl⟩
      rw [hsp] at hsb HR ⊢
      rw [han] at HR ⊢
      clear hsp han hq
      rcases an with _ | _
      · by_cases hneg : 478 - (sp : Int) - 4 < 0
        · go_wp2
          go_ret
          exact ⟨by rw [HR.out]; simp; omega, HQ.out⟩
        · go_wp2
          go_ret
          exact ⟨by rw [HR.out]; simp; omega, HQ.out⟩
      · by_cases hneg : 478 - (sp : Int) < 0
        · go_wp2
          go_ret
          exact ⟨by rw [HR.out]; simp; omega, HQ.out⟩
        · go_wp2
          go_ret
          exact ⟨by rw [HR.out]; simp; omega, HQ.out⟩

end
end Go.Proofs.Ytbibmgcklilpmaa
