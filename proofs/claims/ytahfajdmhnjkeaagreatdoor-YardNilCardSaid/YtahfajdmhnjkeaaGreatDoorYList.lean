/- Lists of texts: what came in, and rows of new ones. No condition. -/
import Derived.Test.YtahfajdmhnjkeaaGreatDoorBase
namespace Go.Lap
open Go.RowKit

abbrev strsV (l : List ByteArray) : List Value := l.map Value.string
theorem strs_len (l : List ByteArray) : (strsV l).length = l.length := by simp [strsV]
theorem strs_one (l : List ByteArray) : ∀ u ∈ strsV l, u.oneCell' = true := by
  intro u hu
  obtain ⟨x, _, rfl⟩ := List.mem_map.1 hu
  rfl

/-- Lists of texts that came in. -/
def Lists (w : World) (A : Option Addr) (n m : Nat) : Prop :=
  ∀ i, i < n → ∃ b off A' n' c' ys, A = some ⟨b, off, none⟩ ∧ w.cell? ⟨b, off + i, none⟩ = some (.slice A' n' c') ∧ Rd w (fun _ => True) 1 A' n' (strsV ys) ∧ n' ≤ c' ∧ c' ≤ maxLen ∧ (∀ y ∈ ys, y.size ≤ maxLen) ∧ n' ≤ m

theorem Lists.kept {w w' : World} {A : Option Addr} {n m : Nat} (h : Lists w A n m) (hq : Only (fun _ => False) w w') : Lists w' A n m := fun i hi => by
  obtain ⟨b, off, A', n', c', ys, h1, h2, h3, h4, h5, h6⟩ := h i hi
  exact ⟨b, off, A', n', c', ys, h1, hq.cell h2 (fun x => x), h3.kept hq (fun _ _ x => x), h4, h5, h6⟩

/-- A text of a list. -/
theorem strs_get {w : World} {S : Nat → Prop} {A : Option Addr} {n k : Nat} {ys : List ByteArray} (h : Rd w S 1 A n (strsV ys)) (hk : k < n) : ∃ b off y, A = some ⟨b, off, none⟩ ∧ y ∈ ys ∧ w.cell? ⟨b, off + k, none⟩ = some (.string y) := by
  obtain ⟨b, off, u, h1, _, h2, h3⟩ := h.get hk
  have hm := List.mem_of_getElem? h2
  obtain ⟨y, hy, rfl⟩ := List.mem_map.1 hm
  exact ⟨b, off, y, h1, hy, h3⟩

/-- A row of new lists, each of at most three texts. -/
structure Lots (e : TypeId) (w0 w : World) (v : Value) (k : Nat) (xs : List Value) : Prop where
  quiet : Only (fun _ => False) w0 w
  row : w.ownsRow 0 e 1 v k xs
  new : ∀ j, v.ownBlock = some j → w0.heap.size ≤ j
  each : ∀ x ∈ xs, ∃ A n c ys, x = .slice A n c ∧ n ≤ c ∧ c ≤ maxLen ∧ n ≤ 3 ∧ (∀ y ∈ ys, y.size ≤ maxLen) ∧ Rd w (fun b => w0.heap.size ≤ b ∧ b < w.heap.size ∧ v.ownBlock ≠ some b) 1 A n (strsV ys)

theorem Lots.start {e : TypeId} {w0 w : World} (hq : Only (fun _ => False) w0 w) : Lots e w0 w (.slice none 0 0) 0 [] :=
  ⟨hq, World.ownsRow_nil _ _ _ _, (fun _ e => by cases e), (fun x hx => by cases hx)⟩

theorem Lots.quietly {e : TypeId} {w0 w w' : World} {v : Value} {k : Nat} {xs : List Value} (h : Lots e w0 w v k xs) (hq : Only (fun _ => False) w w') : Lots e w0 w' v k xs := by
  have hz := hq.size
  refine ⟨h.quiet.trans hq, owns_kept h.row hq (fun _ _ x => x), h.new, fun x hx => ?_⟩
  obtain ⟨A, n, c, ys, h1, h2, h3, h4, h5, h6⟩ := h.each x hx
  exact ⟨A, n, c, ys, h1, h2, h3, h4, h5, (h6.kept hq (fun _ _ x => x)).mono (fun b hb => ⟨hb.1, by omega, hb.2.2⟩)⟩

theorem Lots.push {e es : TypeId} {w0 w w2 w4 : World} {v v' vm : Value} {k km : Nat} {xs : List Value} {ys : List ByteArray} {o : Obj} (h : Lots e w0 w v k xs) (hq : Only (fun _ => False) w w2) (hm : w2.ownsRow 0 es 1 vm km (strsV ys)) (hnew : ∀ j, vm.ownBlock = some j → w.heap.size ≤ j) (h3 : km ≤ 3)
    (hy : ∀ y ∈ ys, y.size ≤ maxLen) (hg : Grew (w2.alloc o) w4 e 1 v v' (k + 1) (xs ++ [vm])) : Lots e w0 w4 v' (k + 1) (xs ++ [vm]) := by
  have z1 := h.quiet.size
  have z2 := hq.size
  have z4 := hg.only.size
  simp only [World.size_alloc] at z4
  have hvo : ∀ j, v.ownBlock = some j → j < w.heap.size := fun j e => (h.row.lt j e).2
  have hq4 : Only (fun _ => False) w2 (w2.alloc o) := (Only.refl _ _).alloc _
  have hS : ∀ b, b < w2.heap.size → v.ownBlock ≠ some b → v'.ownBlock ≠ some b := fun b hb hn e => by
    rcases hg.loc with y | y
    · rw [y] at e; exact hn e
    · rw [y] at e; injection e with e; simp only [World.size_alloc] at e; omega
  refine ⟨((h.quiet.trans hq).alloc o).trans' hg.only (fun j hj e => by have := h.new j e; omega), hg.own, fun j e => ?_, fun x hx => ?_⟩
  · rcases hg.loc with y | y
    · rw [y] at e; exact h.new j e
    · rw [y] at e; injection e with e; simp only [World.size_alloc] at e; omega
  · rcases List.mem_append.1 hx with hx | hx
    · obtain ⟨A, n, c, zs, q1, q2, q3, q4, q5, q6⟩ := h.each x hx
      refine ⟨A, n, c, zs, q1, q2, q3, q4, q5, ?_⟩
      exact (((q6.kept hq (fun _ _ x => x)).kept hq4 (fun _ _ x => x)).kept hg.only (fun b hb e => hb.2.2 e)).mono (fun b hb => ⟨hb.1, by omega, hS b (by omega) hb.2.2⟩)
    · rw [List.mem_singleton] at hx
      rw [hx]
      have hlt : ∀ j, vm.ownBlock = some j → j < w2.heap.size := fun j e => (hm.lt j e).2
      obtain ⟨A, c, q1, q2, q3, q4⟩ := own_form hm
      refine ⟨A, km, c, ys, q1, q2, q3, h3, hy, ?_⟩
      refine ((q4.kept hq4 (fun _ _ x => x)).kept hg.only (fun b hb e => ?_)).mono (fun b hb => ?_)
      · have h1 := hnew b hb
        have h2 := hvo b e
        omega
      · have h1 := hnew b hb
        have h2 := hlt b hb
        exact ⟨by omega, by omega, hS b h2 (fun e => by have := hvo b e; omega)⟩

/-- The row as lists. -/
theorem Lots.lists {e : TypeId} {w0 w : World} {v : Value} {k : Nat} {xs : List Value} (h : Lots e w0 w v k xs) : ∃ A c, v = .slice A k c ∧ k ≤ c ∧ c ≤ maxLen ∧ Lists w A k 3 := by
  obtain ⟨A, c, q1, q2, q3, q4⟩ := own_form h.row
  refine ⟨A, c, q1, q2, q3, fun i hi => ?_⟩
  obtain ⟨b, off, u, r1, _, r2, r3⟩ := q4.get hi
  obtain ⟨A', n', c', ys, s1, s2, s3, s4, s5, s6⟩ := h.each u (List.mem_of_getElem? r2)
  exact ⟨b, off, A', n', c', ys, r1, by rw [r3, s1], s6.mono (fun _ _ => trivial), s2, s3, s5, s4⟩
end Go.Lap
