/- The plain facts on a tree of greatest rooms: leaves 256 to 511, each node the greater one of its two. No condition. -/
import Derived.Test.YtbibmgcklilpmaaBase
namespace Go.Lap

/-- The tree is right: every node is the greater one of its two; the leaves are l. -/
structure Tree (l t : Nat → Int) : Prop where
  leaf : ∀ i, i < 256 → t (256 + i) = l i
  node : ∀ j, 1 ≤ j → j < 256 → t j = max (t (2 * j)) (t (2 * j + 1))

/-- All nodes are right but those above i. -/
structure TreeBut (l t : Nat → Int) (i : Nat) : Prop where
  leaf : ∀ i, i < 256 → t (256 + i) = l i
  node : ∀ j, 1 ≤ j → j < 256 → (∀ k, 1 ≤ k → j ≠ i / 2 ^ k) → t j = max (t (2 * j)) (t (2 * j + 1))

theorem TreeBut.start {l t : Nat → Int} (h : Tree l t) {p : Nat} (hp : p < 256) (v : Int) : TreeBut (upd l p v) (upd t (256 + p) v) (256 + p) := by
  refine ⟨fun i hi => ?_, fun j h1 h2 hk => ?_⟩
  · by_cases e : i = p
    · subst e; rw [upd_same, upd_same]
    · rw [upd_other _ _ (by omega), upd_other _ _ e]; exact h.leaf i hi
  · have hj : j ≠ (256 + p) / 2 := by simpa using hk 1 (Nat.le_refl _)
    rw [upd_other _ _ (by omega), upd_other _ _ (by omega), upd_other _ _ (by omega)]
    exact h.node j h1 h2

theorem TreeBut.step {l t : Nat → Int} {i : Nat} (h : TreeBut l t i) (hi : 1 < i) (hm : i < 512) :
    TreeBut l (upd t (i / 2) (max (t (2 * (i / 2))) (t (2 * (i / 2) + 1)))) (i / 2) := by
  refine ⟨fun k hk => ?_, fun j h1 h2 hk => ?_⟩
  · rw [upd_other _ _ (by omega)]; exact h.leaf k hk
  · have hj : j ≠ i / 2 / 2 := by simpa using hk 1 (Nat.le_refl _)
    by_cases e : j = i / 2
    · subst e
      rw [upd_same, upd_other _ _ (by omega), upd_other _ _ (by omega)]
    · rw [upd_other _ _ e, upd_other _ _ (by omega), upd_other _ _ (by omega)]
      refine h.node j h1 h2 (fun k hk1 => ?_)
      by_cases e1 : k = 1
      · subst e1; simpa using e
      · have := hk (k - 1) (by omega)
        rw [Nat.div_div_eq_div_mul] at this
        have e2 : 2 * 2 ^ (k - 1) = 2 ^ k := by
          rw [show k = (k - 1) + 1 by omega, Nat.pow_succ]; simp [Nat.mul_comm]
        rw [e2] at this; exact this

theorem TreeBut.done {l t : Nat → Int} {i : Nat} (h : TreeBut l t i) (hi : i ≤ 1) : Tree l t := by
  refine ⟨h.leaf, fun j h1 h2 => h.node j h1 h2 (fun k hk e => ?_)⟩
  have : 2 ≤ 2 ^ k := by
    rw [show k = (k - 1) + 1 by omega, Nat.pow_succ]
    have := Nat.one_le_two_pow (n := k - 1)
    omega
  have := Nat.div_eq_of_lt (show i < 2 ^ k by omega)
  omega

/-- The leaves below node i at height h (i * 2^h .. ): the first one. -/
theorem Tree.reach {l t : Nat → Int} (T : Tree l t) (need : Int) : ∀ (h i : Nat), 1 ≤ i → i * 2 ^ h < 512 → 256 ≤ i * 2 ^ h → (need ≤ t i ↔ ∃ p, i * 2 ^ h ≤ 256 + p ∧ 256 + p < (i + 1) * 2 ^ h ∧ p < 256 ∧ need ≤ l p) := by
  intro h
  induction h with
  | zero =>
    intro i h1 h2 h3
    simp only [Nat.pow_zero, Nat.mul_one] at *
    constructor
    · intro hn
      refine ⟨i - 256, by omega, by omega, by omega, ?_⟩
      rw [← T.leaf _ (by omega), show 256 + (i - 256) = i by omega]; exact hn
    · rintro ⟨p, a, b, c, d⟩
      rw [← T.leaf _ c, show 256 + p = i by omega] at d; exact d
  | succ h ih =>
    intro i h1 h2 h3
    have hp : 1 ≤ 2 ^ h := Nat.one_le_two_pow
    have e1 : i * 2 ^ (h + 1) = (2 * i) * 2 ^ h := by rw [Nat.pow_succ, Nat.mul_comm (2 ^ h) 2, ← Nat.mul_assoc, Nat.mul_comm i 2]
    have e2 : (i + 1) * 2 ^ (h + 1) = (2 * i + 2) * 2 ^ h := by rw [Nat.pow_succ, Nat.mul_comm (2 ^ h) 2, ← Nat.mul_assoc]; congr 1; omega
    have e3 : (2 * i + 1) * 2 ^ h = (2 * i) * 2 ^ h + 2 ^ h := by rw [Nat.add_mul, Nat.one_mul]
    have e4 : (2 * i + 2) * 2 ^ h = (2 * i) * 2 ^ h + 2 ^ h + 2 ^ h := by rw [Nat.add_mul, Nat.two_mul (2 ^ h)]; omega
    have hi : i < 256 := by
      rcases Nat.lt_or_ge i 256 with x | x
      · exact x
      · have := Nat.mul_le_mul x (Nat.le_refl (2 ^ (h + 1)))
        rw [Nat.pow_succ] at this h2
        omega
    have hdvd : ∃ c, 256 = 2 ^ h * c := by
      have hh : h ≤ 8 := by
        rcases Nat.lt_or_ge 8 h with x | x
        · have a1 : 2 ^ 9 ≤ 2 ^ h := Nat.pow_le_pow_right (by omega) x
          have a2 : 2 ^ (h + 1) ≤ i * 2 ^ (h + 1) := Nat.le_mul_of_pos_left _ h1
          rw [Nat.pow_succ] at a2 h2
          omega
        · exact x
      exact ⟨2 ^ (8 - h), by rw [← Nat.pow_add, show h + (8 - h) = 8 by omega]⟩
    have h5 : (2 * i + 1) * 2 ^ h < 512 := by
      obtain ⟨c, hc⟩ := hdvd
      rw [e1] at h2
      have a1 : 2 ^ h * (2 * i) < 2 ^ h * (2 * c) := by
        rw [Nat.mul_comm (2 ^ h) (2 * i), show 2 ^ h * (2 * c) = 2 * (2 ^ h * c) by rw [Nat.mul_left_comm], ← hc]; exact h2
      have a2 : 2 * i < 2 * c := Nat.lt_of_mul_lt_mul_left a1
      have a3 : (2 * i + 1) * 2 ^ h < (2 * c) * 2 ^ h := Nat.mul_lt_mul_of_pos_right (by omega) (by omega)
      rw [show (2 * c) * 2 ^ h = 2 * (2 ^ h * c) by rw [Nat.mul_assoc, Nat.mul_comm c], ← hc] at a3
      exact a3
    rw [T.node i h1 hi]
    have A := ih (2 * i) (by omega) (by omega) (by omega)
    have B := ih (2 * i + 1) (by omega) h5 (by omega)
    have M : need ≤ max (t (2 * i)) (t (2 * i + 1)) ↔ need ≤ t (2 * i) ∨ need ≤ t (2 * i + 1) := by omega
    rw [M, A, B, e1, e2]
    rw [show 2 * i + 1 + 1 = 2 * i + 2 by omega]
    constructor
    · rintro (⟨p, a, b, c, d⟩ | ⟨p, a, b, c, d⟩)
      · exact ⟨p, a, by omega, c, d⟩
      · exact ⟨p, by omega, b, c, d⟩
    · rintro ⟨p, a, b, c, d⟩
      rcases Nat.lt_or_ge (256 + p) ((2 * i + 1) * 2 ^ h) with x | x
      · exact Or.inl ⟨p, a, x, c, d⟩
      · exact Or.inr ⟨p, x, b, c, d⟩

/-- The way down: behind i at height h the least page with so much room is the one that is sought. -/
def Down (l t : Nat → Int) (need : Int) (k i h : Nat) : Prop :=
  1 ≤ i ∧ i * 2 ^ h ≤ 256 + k ∧ 256 + k < (i + 1) * 2 ^ h ∧ 256 ≤ i * 2 ^ h ∧ i * 2 ^ h < 512

theorem Down.left {l t : Nat → Int} (T : Tree l t) {need : Int} {k i h : Nat} (D : Down l t need k i (h + 1)) (hk : k < 256) (hn : need ≤ l k) (hm : ∀ j, j < k → l j < need)
    (hr : ¬ t (2 * i) < need) : Down l t need k (2 * i) h := by
  obtain ⟨a, b, c, d, e⟩ := D
  have hp : 1 ≤ 2 ^ h := Nat.one_le_two_pow
  have e1 : i * 2 ^ (h + 1) = (2 * i) * 2 ^ h := by rw [Nat.pow_succ, Nat.mul_comm (2 ^ h) 2, ← Nat.mul_assoc, Nat.mul_comm i 2]
  rw [e1] at b d e
  have R := (T.reach need h (2 * i) (by omega) e d).1 (by omega)
  obtain ⟨p, p1, p2, p3, p4⟩ := R
  have : ¬ p < k := fun x => by have := hm p x; omega
  exact ⟨by omega, b, by omega, d, e⟩

theorem Down.right {l t : Nat → Int} (T : Tree l t) {need : Int} {k i h : Nat} (D : Down l t need k i (h + 1)) (hk : k < 256) (hn : need ≤ l k)
    (hr : t (2 * i) < need) : Down l t need k (2 * i + 1) h := by
  obtain ⟨a, b, c, d, e⟩ := D
  have hp : 1 ≤ 2 ^ h := Nat.one_le_two_pow
  have e1 : i * 2 ^ (h + 1) = (2 * i) * 2 ^ h := by rw [Nat.pow_succ, Nat.mul_comm (2 ^ h) 2, ← Nat.mul_assoc, Nat.mul_comm i 2]
  have e2 : (i + 1) * 2 ^ (h + 1) = (2 * i + 2) * 2 ^ h := by rw [Nat.pow_succ, Nat.mul_comm (2 ^ h) 2, ← Nat.mul_assoc]; congr 1; omega
  have e3 : (2 * i + 1) * 2 ^ h = (2 * i) * 2 ^ h + 2 ^ h := by rw [Nat.add_mul, Nat.one_mul]
  rw [e1] at b d e
  rw [e2] at c
  have R := T.reach need h (2 * i) (by omega) e d
  have nl : ¬ 256 + k < (2 * i + 1) * 2 ^ h := fun x => by
    have := R.2 ⟨k, b, x, hk, hn⟩
    omega
  exact ⟨by omega, by omega, by rw [show 2 * i + 1 + 1 = 2 * i + 2 by omega]; exact c, by omega, by omega⟩

theorem Down.top {l t : Nat → Int} {need : Int} {k : Nat} (hk : k < 256) : Down l t need k 1 8 := ⟨by omega, by omega, by omega, by omega, by omega⟩

theorem Down.end_ {l t : Nat → Int} {need : Int} {k i : Nat} (D : Down l t need k i 0) : i = 256 + k := by
  obtain ⟨a, b, c, d, e⟩ := D
  simp only [Nat.pow_zero, Nat.mul_one] at *
  omega

theorem Down.inner {l t : Nat → Int} {need : Int} {k i h : Nat} (D : Down l t need k i (h + 1)) : i < 256 := by
  obtain ⟨a, b, c, d, e⟩ := D
  have hp : 1 ≤ 2 ^ h := Nat.one_le_two_pow
  have : i * 2 ≤ i * 2 ^ (h + 1) := Nat.mul_le_mul_left _ (by rw [Nat.pow_succ]; omega)
  omega

theorem Tree.none {l t : Nat → Int} (T : Tree l t) {need : Int} (hn : ∀ j, j < 256 → l j < need) : t 1 < need := by
  have R := T.reach need 8 1 (by omega) (by omega) (by omega)
  rcases Int.lt_or_le (t 1) need with x | x
  · exact x
  · obtain ⟨p, _, _, c, d⟩ := R.1 x
    have := hn p c
    omega

theorem Tree.some {l t : Nat → Int} (T : Tree l t) {need : Int} {k : Nat} (hk : k < 256) (hn : need ≤ l k) : need ≤ t 1 :=
  (T.reach need 8 1 (by omega) (by omega) (by omega)).2 ⟨k, by omega, by omega, hk, hn⟩

/-- No page at all. -/
theorem Tree.empty : Tree (fun _ => -1) (fun _ => -1) := ⟨fun _ _ => rfl, fun _ _ _ => by simp⟩

end Go.Lap
