/- Plain laws of entries in order: a key's bytes and a place, compared; what insertion, deletion and a scan leave. No condition. -/
import Derived.Test.YtbeenpobppkhdaaBase
import Derived.Lib.Bytealg
namespace Go.Lap

/-- Texts of bytes, compared. -/
def cmpB : List Nat → List Nat → Int
  | [], [] => 0
  | [], _ :: _ => -1
  | _ :: _, [] => 1
  | a :: xs, b :: ys => if a < b then -1 else if b < a then 1 else cmpB xs ys

theorem cmpB_swap : ∀ a b, cmpB b a = - cmpB a b
  | [], [] => rfl
  | [], _ :: _ => rfl
  | _ :: _, [] => rfl
  | a :: xs, b :: ys => by
    have ih := cmpB_swap xs ys
    unfold cmpB
    by_cases x : a < b
    · rw [if_pos x, if_neg (by omega), if_pos x]; rfl
    · by_cases y : b < a
      · rw [if_pos y, if_neg x, if_pos y]
      · rw [if_neg y, if_neg x, if_neg x, if_neg y, ih]

theorem cmpB_zero : ∀ a b, cmpB a b = 0 ↔ a = b
  | [], [] => by simp [cmpB]
  | [], _ :: _ => by simp [cmpB]
  | _ :: _, [] => by simp [cmpB]
  | a :: xs, b :: ys => by
    have ih := cmpB_zero xs ys
    unfold cmpB
    rw [List.cons.injEq]
    split
    · constructor
      · intro h; omega
      · rintro ⟨h, _⟩; omega
    · split
      · constructor
        · intro h; omega
        · rintro ⟨h, _⟩; omega
      · rw [ih]
        constructor
        · intro h; exact ⟨by omega, h⟩
        · exact fun h => h.2

theorem cmpB_self (a : List Nat) : cmpB a a = 0 := (cmpB_zero a a).2 rfl

theorem cmpB_trans : ∀ a b c, cmpB a b < 0 → cmpB b c < 0 → cmpB a c < 0
  | [], [], _, h, _ => by simp [cmpB] at h
  | [], _ :: _, [], _, h => by simp [cmpB] at h
  | [], _ :: _, _ :: _, _, _ => by simp [cmpB]
  | _ :: _, [], _, h, _ => by simp [cmpB] at h
  | _ :: _, _ :: _, [], _, h => by simp [cmpB] at h
  | a :: xs, b :: ys, c :: zs, h1, h2 => by
    have ih := cmpB_trans xs ys zs
    unfold cmpB at h1 h2 ⊢
    by_cases x : a < b
    · by_cases y : b < c
      · rw [if_pos (by omega)]; omega
      · rw [if_neg y] at h2
        split at h2
        · omega
        · rw [if_pos (by omega)]; omega
    · rw [if_neg x] at h1
      split at h1
      · omega
      · by_cases y : b < c
        · rw [if_pos (by omega)]; omega
        · rw [if_neg y] at h2
          split at h2
          · omega
          · rw [if_neg (by omega), if_neg (by omega)]
            exact ih h1 h2

theorem cmpB_dom : ∀ a b, cmpB a b = -1 ∨ cmpB a b = 0 ∨ cmpB a b = 1
  | [], [] => by simp [cmpB]
  | [], _ :: _ => by simp [cmpB]
  | _ :: _, [] => by simp [cmpB]
  | a :: xs, b :: ys => by
    have ih := cmpB_dom xs ys
    unfold cmpB
    split
    · simp
    · split
      · simp
      · exact ih

/-- The model's comparison is this one. -/
theorem cmpB_model : ∀ (a b : List Nat), (∀ x ∈ a, x < 256) → (∀ x ∈ b, x < 256) → Lib.compareBytes (a.map UInt8.ofNat) (b.map UInt8.ofNat) = cmpB a b
  | [], [], _, _ => rfl
  | [], _ :: _, _, _ => rfl
  | _ :: _, [], _, _ => rfl
  | x :: a, y :: b, ha, hb => by
    have ih := cmpB_model a b (fun z hz => ha z (by simp [hz])) (fun z hz => hb z (by simp [hz]))
    have hx := ha x (by simp)
    have hy := hb y (by simp)
    have key : ∀ u v : Nat, u < 256 → v < 256 → (UInt8.ofNat u < UInt8.ofNat v ↔ u < v) := by
      intro u v hu hv
      rw [UInt8.lt_iff_toNat_lt]
      simp [Nat.mod_eq_of_lt hu, Nat.mod_eq_of_lt hv]
    simp only [List.map_cons]
    unfold Lib.compareBytes cmpB
    rw [ih]
    simp only [key x y hx hy, key y x hy hx]

/-- Whole numbers, compared. -/
def cmpI (x y : Int) : Int := if x < y then -1 else if y < x then 1 else 0

/-- A key, and a place. -/
structure Ent where
  key : List Nat
  pg : Int
  sl : Int

theorem Ent.ext' {a b : Ent} (h1 : a.key = b.key) (h2 : a.pg = b.pg) (h3 : a.sl = b.sl) : a = b := by
  obtain ⟨_, _, _⟩ := a
  obtain ⟨_, _, _⟩ := b
  simp_all

instance : DecidableEq Ent := fun a b =>
  if h1 : a.key = b.key then
    if h2 : a.pg = b.pg then
      if h3 : a.sl = b.sl then isTrue (Ent.ext' h1 h2 h3) else isFalse (fun e => h3 (by rw [e]))
    else isFalse (fun e => h2 (by rw [e]))
  else isFalse (fun e => h1 (by rw [e]))

/-- The order of entries. -/
def cmpE (a b : Ent) : Int := if cmpB a.key b.key ≠ 0 then cmpB a.key b.key else if cmpI a.pg b.pg ≠ 0 then cmpI a.pg b.pg else cmpI a.sl b.sl

theorem cmpE_zero (a b : Ent) : cmpE a b = 0 ↔ a = b := by
  unfold cmpE
  by_cases h1 : cmpB a.key b.key = 0
  · rw [if_neg (by simp [h1])]
    by_cases h2 : cmpI a.pg b.pg = 0
    · rw [if_neg (by simp [h2])]
      constructor
      · intro h3
        refine Ent.ext' ((cmpB_zero _ _).1 h1) ?_ ?_
        · unfold cmpI at h2; split at h2; omega; split at h2 <;> omega
        · unfold cmpI at h3; split at h3; omega; split at h3 <;> omega
      · rintro rfl; simp [cmpI]
    · rw [if_pos h2]
      constructor
      · exact fun h => absurd h h2
      · rintro rfl; simp [cmpI]
  · rw [if_pos h1]
    constructor
    · exact fun h => absurd h h1
    · rintro rfl; exact cmpB_self _

theorem cmpE_self (a : Ent) : cmpE a a = 0 := (cmpE_zero a a).2 rfl

theorem cmpI_swap (x y : Int) : cmpI y x = - cmpI x y := by
  unfold cmpI
  split <;> split <;> first | omega | (split <;> omega)

theorem cmpE_swap (a b : Ent) : cmpE b a = - cmpE a b := by
  unfold cmpE
  have k1 := cmpB_swap a.key b.key
  have k2 := cmpI_swap a.pg b.pg
  have k3 := cmpI_swap a.sl b.sl
  by_cases h1 : cmpB a.key b.key = 0
  · rw [if_neg (show ¬ cmpB b.key a.key ≠ 0 by omega), if_neg (show ¬ cmpB a.key b.key ≠ 0 by omega)]
    by_cases h2 : cmpI a.pg b.pg = 0
    · rw [if_neg (show ¬ cmpI b.pg a.pg ≠ 0 by omega), if_neg (show ¬ cmpI a.pg b.pg ≠ 0 by omega)]
      exact k3
    · rw [if_pos (show cmpI b.pg a.pg ≠ 0 by omega), if_pos h2]
      exact k2
  · rw [if_pos (show cmpB b.key a.key ≠ 0 by omega), if_pos h1]
    exact k1

theorem cmpI_lt {x y : Int} : cmpI x y < 0 ↔ x < y := by
  unfold cmpI
  split
  · constructor <;> intro <;> omega
  · split <;> constructor <;> intro <;> omega

theorem cmpI_zero {x y : Int} : cmpI x y = 0 ↔ x = y := by
  unfold cmpI
  split
  · constructor <;> intro <;> omega
  · split <;> constructor <;> intro <;> omega

theorem cmpE_lt (a b : Ent) : cmpE a b < 0 ↔ cmpB a.key b.key < 0 ∨ (a.key = b.key ∧ (a.pg < b.pg ∨ (a.pg = b.pg ∧ a.sl < b.sl))) := by
  unfold cmpE
  by_cases h1 : cmpB a.key b.key = 0
  · rw [if_neg (by simp [h1]), h1]
    have e := (cmpB_zero _ _).1 h1
    by_cases h2 : cmpI a.pg b.pg = 0
    · rw [if_neg (by simp [h2]), cmpI_lt]
      have e2 := cmpI_zero.1 h2
      simp [e, e2]
    · rw [if_pos h2, cmpI_lt]
      have e2 : ¬ a.pg = b.pg := fun h => h2 (cmpI_zero.2 h)
      simp [e, e2]
  · rw [if_pos h1]
    have e : ¬ a.key = b.key := fun h => h1 ((cmpB_zero _ _).2 h)
    simp [e]

theorem cmpE_trans {a b c : Ent} (h1 : cmpE a b < 0) (h2 : cmpE b c < 0) : cmpE a c < 0 := by
  rw [cmpE_lt] at *
  rcases h1 with h1 | ⟨e1, h1⟩
  · rcases h2 with h2 | ⟨e2, h2⟩
    · exact Or.inl (cmpB_trans _ _ _ h1 h2)
    · rw [← e2]; exact Or.inl h1
  · rcases h2 with h2 | ⟨e2, h2⟩
    · rw [e1]; exact Or.inl h2
    · exact Or.inr ⟨e1.trans e2, by omega⟩

/-- Of two keys in order neither is less. -/
theorem cmpE_key {a b : Ent} (h : cmpE a b < 0) : cmpB a.key b.key ≤ 0 := by
  rw [cmpE_lt] at h
  rcases h with h | ⟨h, _⟩
  · omega
  · rw [(cmpB_zero _ _).2 h]; omega

theorem cmpB_le_lt {a b c : List Nat} (h1 : cmpB a b ≤ 0) (h2 : cmpB b c < 0) : cmpB a c < 0 := by
  by_cases h : cmpB a b = 0
  · rw [(cmpB_zero _ _).1 h]; exact h2
  · exact cmpB_trans _ _ _ (by omega) h2

theorem cmpB_lt_le {a b c : List Nat} (h1 : cmpB a b < 0) (h2 : cmpB b c ≤ 0) : cmpB a c < 0 := by
  by_cases h : cmpB b c = 0
  · rw [← (cmpB_zero _ _).1 h]; exact h1
  · exact cmpB_trans _ _ _ h1 (by omega)

/-- In order, no two the same. -/
def Rising (l : List Ent) : Prop := l.Pairwise (fun a b => cmpE a b < 0)

/-- How many stand ahead of an entry. -/
def posE (e : Ent) : List Ent → Nat
  | [] => 0
  | x :: l => if cmpE x e < 0 then posE e l + 1 else 0

/-- With one more. -/
def insE (e : Ent) : List Ent → List Ent
  | [] => [e]
  | x :: l => if cmpE x e < 0 then x :: insE e l else e :: x :: l

theorem posE_cons (e x : Ent) (l : List Ent) : posE e (x :: l) = if cmpE x e < 0 then posE e l + 1 else 0 := rfl
theorem insE_cons (e x : Ent) (l : List Ent) : insE e (x :: l) = if cmpE x e < 0 then x :: insE e l else e :: x :: l := rfl

theorem posE_le (e : Ent) (l : List Ent) : posE e l ≤ l.length := by
  induction l with
  | nil => exact Nat.le_refl _
  | cons x l ih =>
    unfold posE
    split
    · simp; omega
    · exact Nat.zero_le _

theorem posE_char {e : Ent} : ∀ {l : List Ent} {i : Nat}, i ≤ l.length → (∀ j x, j < i → l[j]? = some x → cmpE x e < 0) → (∀ x, l[i]? = some x → ¬ cmpE x e < 0) → i = posE e l
  | [], i, h, _, _ => by simp at h; subst h; rfl
  | x :: l, 0, _, _, h2 => by
    unfold posE
    rw [if_neg (h2 x rfl)]
  | x :: l, i + 1, h0, h1, h2 => by
    unfold posE
    rw [if_pos (h1 0 x (by omega) rfl)]
    have := posE_char (e := e) (l := l) (i := i) (by simpa using h0) (fun j y hj hy => h1 (j + 1) y (by omega) (by simpa using hy)) (fun y hy => h2 y (by simpa using hy))
    omega

theorem posE_before {e : Ent} : ∀ {l : List Ent} {j : Nat} {x : Ent}, j < posE e l → l[j]? = some x → cmpE x e < 0
  | [], _, _, h, _ => by simp [posE] at h
  | y :: l, j, x, h, hx => by
    rw [posE_cons] at h
    by_cases hy : cmpE y e < 0
    · rw [if_pos hy] at h
      rcases j with _ | j
      · simp at hx; subst hx; exact hy
      · exact posE_before (l := l) (j := j) (by omega) (by simpa using hx)
    · rw [if_neg hy] at h; omega

theorem posE_at {e : Ent} : ∀ {l : List Ent} {x : Ent}, l[posE e l]? = some x → ¬ cmpE x e < 0
  | [], _, h => by simp at h
  | y :: l, x, h => by
    unfold posE at h
    split at h
    · exact posE_at (l := l) (by simpa using h)
    · simp at h; subst h; assumption

theorem insE_eq (e : Ent) (l : List Ent) : insE e l = l.take (posE e l) ++ e :: l.drop (posE e l) := by
  induction l with
  | nil => rfl
  | cons x l ih =>
    unfold insE posE
    split
    · rw [ih]; rfl
    · rfl

theorem Rising.nil : Rising [] := List.Pairwise.nil

theorem Rising.get {l : List Ent} (h : Rising l) {i j : Nat} {x y : Ent} (hij : i < j) (hi : l[i]? = some x) (hj : l[j]? = some y) : cmpE x y < 0 := by
  obtain ⟨h1, rfl⟩ := List.getElem?_eq_some_iff.1 hi
  obtain ⟨h2, rfl⟩ := List.getElem?_eq_some_iff.1 hj
  exact List.pairwise_iff_getElem.1 h i j h1 h2 hij

/-- Behind where it would stand all are greater. -/
theorem posE_behind {e : Ent} {l : List Ent} (h : Rising l) (hn : e ∉ l) {j : Nat} {x : Ent} (hj : posE e l ≤ j) (hx : l[j]? = some x) : cmpE e x < 0 := by
  have hjl := (List.getElem?_eq_some_iff.1 hx).1
  obtain ⟨y, hy⟩ : ∃ y, l[posE e l]? = some y := ⟨_, List.getElem?_eq_getElem (by omega)⟩
  have h1 := posE_at hy
  have h2 : cmpE y e ≠ 0 := fun z => hn ((cmpE_zero _ _).1 z ▸ List.mem_of_getElem? hy)
  have h3 : cmpE e y < 0 := by rw [cmpE_swap y e]; omega
  rcases Nat.lt_or_ge (posE e l) j with z | z
  · exact cmpE_trans h3 (h.get z hy hx)
  · have : posE e l = j := by omega
    subst this
    rw [hy] at hx
    injection hx with hx
    subst hx
    exact h3

/-- It is there, or it isn't. -/
theorem posE_mem {e : Ent} {l : List Ent} (h : Rising l) : e ∈ l ↔ l[posE e l]? = some e := by
  constructor
  · intro hm
    obtain ⟨j, hj⟩ := List.mem_iff_getElem?.1 hm
    have hjl := (List.getElem?_eq_some_iff.1 hj).1
    have h1 : ¬ j < posE e l := fun z => by have := posE_before z hj; rw [cmpE_self] at this; omega
    rcases Nat.lt_or_ge (posE e l) j with z | z
    · obtain ⟨y, hy⟩ : ∃ y, l[posE e l]? = some y := ⟨_, List.getElem?_eq_getElem (by omega)⟩
      exact absurd (h.get z hy hj) (posE_at hy)
    · have : posE e l = j := by omega
      rw [this]; exact hj
  · exact List.mem_of_getElem?

theorem mem_insE {e x : Ent} {l : List Ent} : x ∈ insE e l ↔ x = e ∨ x ∈ l := by
  rw [insE_eq, List.mem_append, List.mem_cons]
  constructor
  · rintro (h | h | h)
    · exact Or.inr (List.mem_of_mem_take h)
    · exact Or.inl h
    · exact Or.inr (List.mem_of_mem_drop h)
  · rintro (h | h)
    · exact Or.inr (Or.inl h)
    · rw [← List.take_append_drop (posE e l) l, List.mem_append] at h
      rcases h with h | h
      · exact Or.inl h
      · exact Or.inr (Or.inr h)

theorem insE_length (e : Ent) (l : List Ent) : (insE e l).length = l.length + 1 := by
  have := posE_le e l
  rw [insE_eq]
  simp
  omega

theorem Rising.ins {e : Ent} {l : List Ent} (h : Rising l) (hn : e ∉ l) : Rising (insE e l) := by
  rw [insE_eq]
  unfold Rising
  rw [List.pairwise_append, List.pairwise_cons]
  have ht : ∀ a ∈ l.take (posE e l), cmpE a e < 0 := by
    intro a ha
    obtain ⟨i, hi⟩ := List.mem_iff_getElem?.1 ha
    rw [List.getElem?_take] at hi
    split at hi
    · exact posE_before (by assumption) hi
    · cases hi
  have hd : ∀ a ∈ l.drop (posE e l), cmpE e a < 0 := by
    intro a ha
    obtain ⟨i, hi⟩ := List.mem_iff_getElem?.1 ha
    rw [List.getElem?_drop] at hi
    exact posE_behind h hn (by omega) hi
  refine ⟨h.sublist (List.take_sublist _ _), ⟨hd, h.sublist (List.drop_sublist _ _)⟩, fun a ha b hb => ?_⟩
  rcases List.mem_cons.1 hb with rfl | hb
  · exact ht a ha
  · exact cmpE_trans (ht a ha) (hd b hb)

/-- In the midst of others. -/
theorem insE_mid {e : Ent} {A P B : List Ent} (hA : ∀ a ∈ A, cmpE a e < 0) (hB : ∀ b ∈ B, ¬ cmpE b e < 0) : insE e (A ++ P ++ B) = A ++ insE e P ++ B := by
  induction A with
  | nil =>
    simp only [List.nil_append]
    induction P with
    | nil =>
      rcases B with _ | ⟨b, B⟩
      · rfl
      · show insE e (b :: B) = e :: b :: B
        unfold insE
        rw [if_neg (hB b (by simp))]
    | cons p P ih =>
      show insE e (p :: (P ++ B)) = _
      rw [insE_cons, insE_cons]
      split
      · rw [ih]; rfl
      · rfl
  | cons a A ih =>
    show insE e (a :: (A ++ P ++ B)) = _
    rw [insE_cons, if_pos (hA a (by simp)), ih (fun x hx => hA x (by simp [hx]))]
    rfl

/-- Two rising lists of the same entries are one. -/
theorem rising_ext : ∀ {l m : List Ent}, Rising l → Rising m → (∀ e, e ∈ l ↔ e ∈ m) → l = m
  | [], [], _, _, _ => rfl
  | [], y :: m, _, _, h => absurd ((h y).2 (by simp)) (by simp)
  | x :: l, [], _, _, h => absurd ((h x).1 (by simp)) (by simp)
  | x :: l, y :: m, hl, hm, h => by
    obtain ⟨l1, l2⟩ := List.pairwise_cons.1 hl
    obtain ⟨m1, m2⟩ := List.pairwise_cons.1 hm
    have e : x = y := by
      rcases List.mem_cons.1 ((h x).1 (by simp)) with e | e
      · exact e
      · rcases List.mem_cons.1 ((h y).2 (by simp)) with e' | e'
        · exact e'.symm
        · have a := m1 x e
          have b := l1 y e'
          rw [cmpE_swap] at b
          omega
    subst e
    congr 1
    refine rising_ext l2 m2 (fun e => ?_)
    have nl : x ∉ l := fun z => by have := l1 x z; rw [cmpE_self] at this; omega
    have nm : x ∉ m := fun z => by have := m1 x z; rw [cmpE_self] at this; omega
    have := h e
    simp only [List.mem_cons] at this
    constructor
    · intro z
      rcases this.1 (Or.inr z) with e' | e'
      · subst e'; exact absurd z nl
      · exact e'
    · intro z
      rcases this.2 (Or.inr z) with e' | e'
      · subst e'; exact absurd z nm
      · exact e'

/-- What a scan tells of. -/
def within (lo hi : List Nat) (e : Ent) : Bool := decide (0 ≤ cmpB e.key lo) && (decide (hi = []) || decide (cmpB e.key hi < 0))

def scanE (lo hi : List Nat) (l : List Ent) : List Ent := l.filter (within lo hi)

end Go.Lap
