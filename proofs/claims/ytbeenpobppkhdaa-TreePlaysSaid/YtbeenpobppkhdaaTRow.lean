/- Rows in memory: copy at elements of several cells; rows of entries; slices.Clone. No condition. -/
import Derived.Test.YtbeenpobppkhdaaTOrder
import Derived.Lib.AppendZerosOnto
import Derived.Lib.Overlaps
import Derived.Laws.IdiomCopy
namespace Go.Lap
open Go.RowKit

theorem run_copy_rowK {P : Program} (w : World) (dT sT ty elem : TypeId) (k g o dLen dCap : Nat) (a : Addr) (sLen sCap : Nat) (cur : Array Value) (t : TypeId) (cs : List Value)
    (hu : P.underlying dT = some (.slice elem)) (hs : (P.info? elem).map (·.size) = some k)
    (hg : w.heap[g]? = some (.cells cur t (0, 0))) (hn : cs.length = Nat.min sLen dLen * k)
    (hsrc : ∀ j v, cs[j]? = some v → w.cell? (a.add j) = some v) (hfit : o + cs.length ≤ cur.size) (h1 : ∀ v ∈ cs, v.oneCell' = true) :
    (Builtin.copy_ #[dT, sT] ty #[.slice (some ⟨g, o, none⟩) dLen dCap, .slice (some a) sLen sCap]).run P w =
      .ok (goInt (Nat.min sLen dLen)) (w.setRow g (cur.toList.take o ++ cs ++ cur.toList.drop (o + cs.length)).toArray) := by
  have hl := run_loadCells_list (P := P) w a cs hsrc
  have hst := run_storeCells_at P g o t cs 0 cur w hg (by simpa using hfit) h1
  cases hq : P.info? elem with
  | none => simp [hq] at hs
  | some i =>
    have hi : i.size = k := by simpa [hq] using hs
    simp [Builtin.copy_, run_underlying hu, Builtin.lenOf, Builtin.firstCells, sizeOf, typeInfo, hq, hi, ← hn, hl, hst]

theorem Only.setRow {S : Nat → Prop} {a w : World} (h : Only S a w) (g : Nat) (cs : Array Value) (hg : g < a.heap.size → S g) : Only S a (w.setRow g cs) :=
  h.trans' (T := (· = g)) ⟨rfl, rfl, rfl, by simp [World.setRow], fun k _ hn => setRow_other w g k cs hn⟩ (fun k hk e => by subst e; exact hg hk)

theorem Grew.refl' {w : World} {e : TypeId} {size n : Nat} {v : Value} {xs : List Value} (h : w.ownsRow 0 e size v n xs) : Grew w w e size v v n xs := ⟨h, Only.refl _ _, Or.inl rfl⟩

/-- An entry, and where its key lies. -/
structure EV where
  e : Ent
  A : Option Addr
  c : Nat

def EV.cells (x : EV) : List Value := [.slice x.A x.e.key.length x.c, .int .i64 x.e.pg, .int .i64 x.e.sl]

/-- The cells of a row of entries. -/
def rowV (xs : List EV) : List Value := xs.flatMap EV.cells

theorem rowV_cons (x : EV) (xs : List EV) : rowV (x :: xs) = .slice x.A x.e.key.length x.c :: .int .i64 x.e.pg :: .int .i64 x.e.sl :: rowV xs := rfl
theorem rowV_append (xs ys : List EV) : rowV (xs ++ ys) = rowV xs ++ rowV ys := by simp [rowV]
theorem rowV_one (x : EV) : rowV [x] = x.cells := by simp [rowV]
theorem rowV_length (xs : List EV) : (rowV xs).length = xs.length * 3 := by
  induction xs with
  | nil => rfl
  | cons x xs ih => rw [rowV_cons]; simp only [List.length_cons, ih]; omega

theorem rowV_get {xs : List EV} {j : Nat} {x : EV} (h : xs[j]? = some x) : (rowV xs)[j * 3]? = some (.slice x.A x.e.key.length x.c) ∧ (rowV xs)[j * 3 + 1]? = some (.int .i64 x.e.pg) ∧ (rowV xs)[j * 3 + 2]? = some (.int .i64 x.e.sl) := by
  induction xs generalizing j with
  | nil => simp at h
  | cons y xs ih =>
    rcases j with _ | j
    · simp at h
      subst h
      exact ⟨rfl, rfl, rfl⟩
    · rw [List.getElem?_cons_succ] at h
      rw [rowV_cons, show (j + 1) * 3 = j * 3 + 1 + 1 + 1 by omega]
      exact ih h

theorem rowV_take (xs : List EV) (k : Nat) : rowV (xs.take k) = (rowV xs).take (k * 3) := by
  induction xs generalizing k with
  | nil => simp [rowV]
  | cons x xs ih =>
    rcases k with _ | k
    · rfl
    · rw [List.take_succ_cons, rowV_cons, rowV_cons, ih, show (k + 1) * 3 = k * 3 + 1 + 1 + 1 by omega]; rfl

theorem rowV_drop (xs : List EV) (k : Nat) : rowV (xs.drop k) = (rowV xs).drop (k * 3) := by
  induction xs generalizing k with
  | nil => simp [rowV]
  | cons x xs ih =>
    rcases k with _ | k
    · rfl
    · rw [List.drop_succ_cons, rowV_cons, ih, show (k + 1) * 3 = k * 3 + 1 + 1 + 1 by omega]; rfl

theorem rowV_set (xs : List EV) (j : Nat) (x : EV) : (((rowV xs).set (j * 3) (.slice x.A x.e.key.length x.c)).set (j * 3 + 1) (.int .i64 x.e.pg)).set (j * 3 + 2) (.int .i64 x.e.sl) = rowV (xs.set j x) := by
  induction xs generalizing j with
  | nil => rfl
  | cons y xs ih =>
    rcases j with _ | j
    · rfl
    · rw [rowV_cons, show (j + 1) * 3 = j * 3 + 1 + 1 + 1 by omega]
      simp only [show j * 3 + 1 + 1 + 1 + 1 = (j * 3 + 1) + 1 + 1 + 1 by omega, show j * 3 + 1 + 1 + 1 + 2 = (j * 3 + 2) + 1 + 1 + 1 by omega, List.set_cons_succ]
      rw [ih, rowV_cons]

theorem one_row (xs : List EV) : ∀ u ∈ rowV xs, u.oneCell' = true := by
  intro u hu
  unfold rowV at hu
  rw [List.mem_flatMap] at hu
  obtain ⟨x, _, hx⟩ := hu
  simp [EV.cells] at hx
  rcases hx with rfl | rfl | rfl <;> rfl

/-- A part of a slice that reads. -/
theorem Rd.drop {w : World} {S : Nat → Prop} {size n b off k : Nat} {xs : List Value} (h : Rd w S size (some ⟨b, off, none⟩) n xs) (hk : k ≤ n) : Rd w S size (some ⟨b, off + k * size, none⟩) (n - k) (xs.drop (k * size)) := by
  have hl := h.len
  refine ⟨by rw [List.length_drop, hl, Nat.sub_mul], fun h0 => ?_⟩
  rw [List.length_drop] at h0
  obtain ⟨b', off', e, hb, hc⟩ := h.cells (by omega)
  injection e with e
  injection e with e1 e2 _
  subst e1 e2
  exact ⟨b, off + k * size, rfl, hb, fun j u hu => by
    rw [List.getElem?_drop] at hu
    rw [Nat.add_assoc]
    exact hc _ u hu⟩

theorem Rd.takeK {w : World} {S : Nat → Prop} {size n k : Nat} {A : Option Addr} {xs : List Value} (h : Rd w S size A n xs) (hk : k ≤ n) : Rd w S size A k (xs.take (k * size)) := by
  have hl := h.len
  have hm : k * size ≤ n * size := Nat.mul_le_mul_right _ hk
  refine ⟨by rw [List.length_take, hl]; omega, fun h0 => ?_⟩
  rw [List.length_take] at h0
  obtain ⟨b, off, e, hb, hc⟩ := h.cells (by omega)
  exact ⟨b, off, e, hb, fun j u hu => hc j u (by rw [List.getElem?_take] at hu; split at hu <;> first | exact hu | cases hu)⟩

end Go.Lap
namespace Go.Proofs.Ytbeenpobppkhdaa
open Go.RowKit Go.Lap

theorem elem_ent : Elem Try.prog 36 34 3 40 := Elem.mk' (.agg #[.slice none 0 0, .int .i64 0, .int .i64 0]) Try.underlying36 (by kernel_rfl) rfl (by decide)
theorem elem_node : Elem Try.prog 60 59 1 8 := Elem.mk' (.pointer none) Try.underlying60 (by kernel_rfl) rfl (by decide)

/-- A row of entries. -/
abbrev RowAt (w : World) (v : Value) (xs : List EV) : Prop := w.ownsRow 0 34 3 v xs.length (rowV xs)

/-- A new row. -/
structure NewRow (w w' : World) (e : TypeId) (size : Nat) (v : Value) (n : Nat) (xs : List Value) : Prop where
  quiet : Quiet w w'
  own : w'.ownsRow 0 e size v n xs
  loc : ∃ k, v.ownBlock = some k ∧ w.heap.size ≤ k

def NewRowPost (w : World) (e : TypeId) (size n : Nat) (xs : List Value) (en : Ending) (w' : World) : Prop := ∃ v, en = .returned v ∧ NewRow w w' e size v n xs

theorem newRow_app {w w1 : World} {e : TypeId} {size n : Nat} {v : Value} {xs : List Value} (hg : Grew (w.alloc (.cells #[] e)) w1 e size (.slice (some ⟨w.heap.size, 0, none⟩) 0 0) v n xs) : NewRow w w1 e size v n xs := by
  refine ⟨((Only.refl _ _).alloc _).trans' hg.only (fun k hk e => by simp [Value.ownBlock] at e; omega), hg.own, ?_⟩
  rcases hg.loc with x | x
  · exact ⟨w.heap.size, by rw [x]; rfl, Nat.le_refl _⟩
  · exact ⟨_, x, by simp⟩

set_option maxHeartbeats 400000 in
set_option maxRecDepth 100000 in
theorem clone_ent (ad : Addr) (n cap : Nat) (xs : List Value) (S : Nat → Prop) (w : World) (hr : Rd w S 3 (some ad) n xs) (h1 : ∀ u ∈ xs, u.oneCell' = true) (hl : n ≤ 100000) :
    Calls Try.prog 44 #[.slice (some ad) n cap] w (NewRowPost w 34 3 n xs) := by
  have heq := fun (w : World) (a : Option Addr) (n c : Nat) => Lib.run_eql_slice_nil (P := Try.prog) w 36 _ a n c 0 0 Try.underlying36
  have HR := Lib.hid hr
  have H1 := Lib.hid h1
  clear hr h1
  go_enter Try.func44, Try.ntmps44
  go_wp2_with (at_builtin; refine app elem_ent rfl (.tmp 5) (.tmp 6) rfl rfl (owns_empty w _ _) rfl (HR.out.kept ((Only.refl (fun _ => False) w).alloc _) (fun _ _ x => x)) H1.out (by unfold maxLen; omega) (by omega) ?_)
  intro v w1 hg
  have HF := Lib.hid (newRow_app hg)
  clear hg
  go_wp2
  go_ret
  exact ⟨v, rfl, HF.out⟩

set_option maxHeartbeats 400000 in
set_option maxRecDepth 100000 in
theorem clone_node (ad : Addr) (n cap : Nat) (xs : List Value) (S : Nat → Prop) (w : World) (hr : Rd w S 1 (some ad) n xs) (h1 : ∀ u ∈ xs, u.oneCell' = true) (hl : n ≤ 100000) :
    Calls Try.prog 45 #[.slice (some ad) n cap] w (NewRowPost w 59 1 n xs) := by
  have heq := fun (w : World) (a : Option Addr) (n c : Nat) => Lib.run_eql_slice_nil (P := Try.prog) w 60 _ a n c 0 0 Try.underlying60
  have HR := Lib.hid hr
  have H1 := Lib.hid h1
  clear hr h1
  go_enter Try.func45, Try.ntmps45
  go_wp2_with (at_builtin; refine app elem_node rfl (.tmp 5) (.tmp 6) rfl rfl (owns_empty w _ _) rfl (HR.out.kept ((Only.refl (fun _ => False) w).alloc _) (fun _ _ x => x)) H1.out (by unfold maxLen; omega) (by omega) ?_)
  intro v w1 hg
  have HF := Lib.hid (newRow_app hg)
  clear hg
  go_wp2
  go_ret
  exact ⟨v, rfl, HF.out⟩

end Go.Proofs.Ytbeenpobppkhdaa
