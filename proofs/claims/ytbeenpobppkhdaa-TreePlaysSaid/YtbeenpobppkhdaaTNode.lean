/- Nodes of a tree in memory, told by their entries; how they are kept. No condition. -/
import Derived.Test.YtbeenpobppkhdaaTSearch
import Derived.Test.YtbeenpobppkhdaaTInsertE
import Derived.Test.YtbeenpobppkhdaaTInsertN
namespace Go.Lap
open Go.RowKit

/-- Entries alone. -/
abbrev ents (xs : List EV) : List Ent := xs.map (·.e)

def noEV : EV := ⟨⟨[], 0, 0⟩, none, 0⟩

/-- The first one. -/
def hd (xs : List EV) : EV := xs.headD noEV

theorem hd_cons (x : EV) (xs : List EV) : hd (x :: xs) = x := rfl
theorem hd_append {xs : List EV} (h : xs ≠ []) (ys : List EV) : hd (xs ++ ys) = hd xs := by
  rcases xs with _ | ⟨x, xs⟩
  · exact absurd rfl h
  · rfl
theorem hd_get {xs : List EV} (h : xs ≠ []) : xs[0]? = some (hd xs) := by
  rcases xs with _ | ⟨x, xs⟩
  · exact absurd rfl h
  · rfl
theorem hd_mem {xs : List EV} (h : xs ≠ []) : hd xs ∈ xs := List.mem_of_getElem? (hd_get h)

/-- One more entry, where it belongs. -/
def insX (e : EV) (xs : List EV) : List EV := xs.take (posE e.e (ents xs)) ++ e :: xs.drop (posE e.e (ents xs))

theorem ents_insX (e : EV) (xs : List EV) : ents (insX e xs) = insE e.e (ents xs) := by
  rw [insE_eq]
  unfold insX ents
  simp [List.map_take, List.map_drop]

theorem insX_length (e : EV) (xs : List EV) : (insX e xs).length = xs.length + 1 := by
  have := posE_le e.e (ents xs)
  unfold insX
  simp at this ⊢
  omega

theorem insX_ne (e : EV) (xs : List EV) : insX e xs ≠ [] := by
  intro h
  have := insX_length e xs
  rw [h] at this
  simp at this

theorem mem_insX {e x : EV} {xs : List EV} (h : x ∈ insX e xs) : x = e ∨ x ∈ xs := by
  unfold insX at h
  rw [List.mem_append, List.mem_cons] at h
  rcases h with h | h | h
  · exact Or.inr (List.mem_of_mem_take h)
  · exact Or.inl h
  · exact Or.inr (List.mem_of_mem_drop h)

theorem posE_mid {e : Ent} {A P B : List Ent} (hA : ∀ a ∈ A, cmpE a e < 0) (hB : ∀ b ∈ B, ¬ cmpE b e < 0) : posE e (A ++ P ++ B) = A.length + posE e P := by
  induction A with
  | nil =>
    simp only [List.nil_append, List.length_nil, Nat.zero_add]
    induction P with
    | nil =>
      rcases B with _ | ⟨b, B⟩
      · rfl
      · show posE e (b :: B) = 0
        rw [posE_cons, if_neg (hB b (by simp))]
    | cons p P ih =>
      show posE e (p :: (P ++ B)) = _
      rw [posE_cons, posE_cons, ih]
  | cons a A ih =>
    show posE e (a :: (A ++ P ++ B)) = _
    rw [posE_cons, if_pos (hA a (by simp)), ih (fun x hx => hA x (by simp [hx])), List.length_cons]
    omega

theorem insX_mid {e : EV} {A P B : List EV} (hA : ∀ a ∈ A, cmpE a.e e.e < 0) (hB : ∀ b ∈ B, ¬ cmpE b.e e.e < 0) : insX e (A ++ P ++ B) = A ++ insX e P ++ B := by
  have hp : posE e.e (ents (A ++ P ++ B)) = A.length + posE e.e (ents P) := by
    unfold ents
    rw [List.map_append, List.map_append, posE_mid, List.length_map]
    · intro a ha
      obtain ⟨x, hx, rfl⟩ := List.mem_map.1 ha
      exact hA x hx
    · intro b hb
      obtain ⟨x, hx, rfl⟩ := List.mem_map.1 hb
      exact hB x hx
  have hle : posE e.e (ents P) ≤ P.length := by have := posE_le e.e (ents P); simpa using this
  unfold insX
  rw [hp]
  have ht : (A ++ P ++ B).take (A.length + posE e.e (ents P)) = A ++ P.take (posE e.e (ents P)) := by
    rw [List.append_assoc, List.take_length_add_append, List.take_append_of_le_length hle]
  have hd : (A ++ P ++ B).drop (A.length + posE e.e (ents P)) = P.drop (posE e.e (ents P)) ++ B := by
    rw [List.append_assoc, List.drop_length_add_append, List.drop_append_of_le_length hle]
  rw [ht, hd]
  simp

/-- A node below another one: its block, its own blocks, its entries. -/
structure Kid where
  b : Nat
  F : Nat → Prop
  xs : List EV

abbrev heads (ks : List Kid) : List EV := ks.map (fun x => hd x.xs)
abbrev flat (ks : List Kid) : List EV := ks.flatMap (·.xs)
abbrev kptrs (ks : List Kid) : List Value := ks.map (fun x => ptrV x.b)

theorem one_kptrs (ks : List Kid) : ∀ u ∈ kptrs ks, u.oneCell' = true := by
  intro u hu
  obtain ⟨n, _, rfl⟩ := List.mem_map.1 hu
  rfl

end Go.Lap
namespace Go.Proofs.Ytbeenpobppkhdaa
open Go.RowKit Go.Lap

/-- A leaf. -/
structure Leaf (K : Nat → Prop) (w : World) (b : Nat) (F : Nat → Prop) (xs : List EV) (v : Value) : Prop where
  box : w.heap[b]? = some (.cells #[v, .slice none 0 0] 62 (0, 0))
  row : RowAt w v xs
  key : ∀ x ∈ xs, Keyd w K x
  foot : F b ∧ (∀ k, v.ownBlock = some k → F k)

/-- A node over others. -/
structure Inner (N : World → Nat → (Nat → Prop) → List EV → Prop) (w : World) (b : Nat) (F : Nat → Prop) (v u : Value) (ks : List Kid) : Prop where
  box : w.heap[b]? = some (.cells #[v, u] 62 (0, 0))
  row : RowAt w v (heads ks)
  kids : w.ownsRow 0 59 1 u ks.length (kptrs ks)
  some_ : ∃ g, u.ownBlock = some g
  two : 2 ≤ ks.length
  kid : ∀ x ∈ ks, x.xs ≠ [] ∧ N w x.b x.F x.xs
  sub : ∀ x ∈ ks, ∀ k, x.F k → F k ∧ k ≠ b ∧ v.ownBlock ≠ some k ∧ u.ownBlock ≠ some k
  apart : ks.Pairwise (fun x y => ∀ k, x.F k → ¬ y.F k)
  foot : F b ∧ (∀ k, v.ownBlock = some k → F k) ∧ (∀ k, u.ownBlock = some k → F k)

/-- Block b is a node of so many rows, with these entries; F: its own blocks; K: where keys lie. -/
def NodeAt (K : Nat → Prop) : Nat → World → Nat → (Nat → Prop) → List EV → Prop
  | 0, w, b, F, xs => ∃ v, Leaf K w b F xs v
  | h + 1, w, b, F, xs => ∃ v u ks, Inner (NodeAt K h) w b F v u ks ∧ xs = flat ks

theorem NodeAt.own {K : Nat → Prop} {h : Nat} {w : World} {b : Nat} {F : Nat → Prop} {xs : List EV} (hn : NodeAt K h w b F xs) : F b ∧ b < w.heap.size := by
  cases h with
  | zero => obtain ⟨v, h⟩ := hn; exact ⟨h.foot.1, lt_of_get h.box⟩
  | succ h => obtain ⟨v, u, ks, h, _⟩ := hn; exact ⟨h.foot.1, lt_of_get h.box⟩

theorem NodeAt.kept {K S : Nat → Prop} {w w' : World} (ho : Only S w w') (hK : ∀ k, K k → ¬ S k) {h : Nat} : ∀ {b : Nat} {F : Nat → Prop} {xs : List EV}, NodeAt K h w b F xs → (∀ k, F k → ¬ S k) → NodeAt K h w' b F xs := by
  induction h with
  | zero =>
    intro b F xs ⟨v, h⟩ hF
    exact ⟨v, ho.get h.box (hF _ h.foot.1), owns_kept h.row ho (fun k e => hF k (h.foot.2 k e)), fun x hx => (h.key x hx).kept ho hK, h.foot⟩
  | succ h ih =>
    intro b F xs ⟨v, u, ks, h, e⟩ hF
    exact ⟨v, u, ks, ⟨ho.get h.box (hF _ h.foot.1), owns_kept h.row ho (fun k e => hF k (h.foot.2.1 k e)), owns_kept h.kids ho (fun k e => hF k (h.foot.2.2 k e)), h.some_, h.two, fun x hx => ⟨(h.kid x hx).1, ih (h.kid x hx).2 (fun k hk => hF k (h.sub x hx k hk).1)⟩, h.sub, h.apart, h.foot⟩, e⟩

theorem NodeAt.mono {K : Nat → Prop} {h : Nat} {w : World} {b : Nat} {F G : Nat → Prop} {xs : List EV} (hn : NodeAt K h w b F xs) (hg : ∀ k, F k → G k) : NodeAt K h w b G xs := by
  cases h with
  | zero => obtain ⟨v, h⟩ := hn; exact ⟨v, h.box, h.row, h.key, hg _ h.foot.1, fun k e => hg _ (h.foot.2 k e)⟩
  | succ h =>
    obtain ⟨v, u, ks, h, e⟩ := hn
    exact ⟨v, u, ks, ⟨h.box, h.row, h.kids, h.some_, h.two, h.kid, fun x hx k hk => ⟨hg _ (h.sub x hx k hk).1, (h.sub x hx k hk).2⟩, h.apart, hg _ h.foot.1, fun k e => hg _ (h.foot.2.1 k e), fun k e => hg _ (h.foot.2.2 k e)⟩, e⟩

theorem NodeAt.keys {K K' : Nat → Prop} {w : World} (hk : ∀ k, K k → K' k) {h : Nat} : ∀ {b : Nat} {F : Nat → Prop} {xs : List EV}, NodeAt K h w b F xs → NodeAt K' h w b F xs := by
  induction h with
  | zero =>
    intro b F xs ⟨v, h⟩
    exact ⟨v, h.box, h.row, fun x hx => (h.key x hx).mono hk, h.foot⟩
  | succ h ih =>
    intro b F xs ⟨v, u, ks, h, e⟩
    exact ⟨v, u, ks, ⟨h.box, h.row, h.kids, h.some_, h.two, fun x hx => ⟨(h.kid x hx).1, ih (h.kid x hx).2⟩, h.sub, h.apart, h.foot⟩, e⟩

theorem NodeAt.key {K : Nat → Prop} {w : World} {h : Nat} : ∀ {b : Nat} {F : Nat → Prop} {xs : List EV}, NodeAt K h w b F xs → ∀ x ∈ xs, Keyd w K x := by
  induction h with
  | zero => intro b F xs ⟨v, h⟩; exact h.key
  | succ h ih =>
    intro b F xs ⟨v, u, ks, h, e⟩ x hx
    rw [e] at hx
    obtain ⟨y, hy, hxy⟩ := List.mem_flatMap.1 hx
    exact ih (h.kid y hy).2 x hxy

/-- Its own blocks are in memory. -/
theorem NodeAt.lim {K : Nat → Prop} {w : World} {h : Nat} : ∀ {b : Nat} {F : Nat → Prop} {xs : List EV}, NodeAt K h w b F xs → NodeAt K h w b (fun k => F k ∧ k < w.heap.size) xs := by
  induction h with
  | zero =>
    intro b F xs ⟨v, h⟩
    exact ⟨v, h.box, h.row, h.key, ⟨h.foot.1, lt_of_get h.box⟩, fun k e => ⟨h.foot.2 k e, (h.row.lt k e).2⟩⟩
  | succ h ih =>
    intro b F xs ⟨v, u, ks, h, e⟩
    refine ⟨v, u, ks.map (fun x => ⟨x.b, fun k => x.F k ∧ k < w.heap.size, x.xs⟩), ⟨h.box, ?_, ?_, h.some_, by simpa using h.two, fun x hx => ?_, fun x hx k hk => ?_, ?_, ⟨h.foot.1, lt_of_get h.box⟩, fun k e => ⟨h.foot.2.1 k e, (h.row.lt k e).2⟩, fun k e => ⟨h.foot.2.2 k e, (h.kids.lt k e).2⟩⟩, ?_⟩
    · rw [heads, List.map_map]; exact h.row
    · rw [kptrs, List.map_map, List.length_map]; exact h.kids
    · obtain ⟨y, hy, rfl⟩ := List.mem_map.1 hx
      exact ⟨(h.kid y hy).1, ih (h.kid y hy).2⟩
    · obtain ⟨y, hy, rfl⟩ := List.mem_map.1 hx
      exact ⟨⟨(h.sub y hy k hk.1).1, hk.2⟩, (h.sub y hy k hk.1).2⟩
    · rw [List.pairwise_map]
      exact h.apart.imp (fun hxy k hk hk' => hxy k hk.1 hk'.1)
    · rw [flat, List.flatMap_map]; exact e

/-- No node over others is without entries; of each row there are two kids at least. -/
theorem NodeAt.many {K : Nat → Prop} {w : World} {h : Nat} : ∀ {b : Nat} {F : Nat → Prop} {xs : List EV}, NodeAt K h w b F xs → (h = 0 → xs ≠ []) → 2 ^ h ≤ xs.length := by
  induction h with
  | zero =>
    intro b F xs _ hx
    have := List.length_pos_iff.2 (hx rfl)
    rw [Nat.pow_zero]
    exact this
  | succ m ih =>
    intro b F xs ⟨v, u, ks, h, e⟩ _
    rw [e]
    have h2 := h.two
    have key : ∀ l : List Kid, (∀ x ∈ l, x.xs ≠ [] ∧ NodeAt K m w x.b x.F x.xs) → l.length * 2 ^ m ≤ (flat l).length := by
      intro l hl
      induction l with
      | nil => simp
      | cons x l ihl =>
        have h1 := ih (hl x (by simp)).2 (fun _ => (hl x (by simp)).1)
        have h2 := ihl (fun y hy => hl y (by simp [hy]))
        rw [List.length_cons, Nat.add_mul, flat, List.flatMap_cons, List.length_append]
        unfold flat at h2
        omega
    have h3 := key ks h.kid
    have : 2 * 2 ^ m ≤ ks.length * 2 ^ m := Nat.mul_le_mul_right _ h2
    rw [Nat.pow_succ]
    omega

end Go.Proofs.Ytbeenpobppkhdaa
