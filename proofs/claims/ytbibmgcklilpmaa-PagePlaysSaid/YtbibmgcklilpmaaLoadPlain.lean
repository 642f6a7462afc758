/- When bytes are a page's: plain laws. No condition. -/
import Derived.Test.YtbibmgcklilpmaaPagePlain2
namespace Go.Lap

theorem leNum_byte {g : Nat → Nat} (hg : ∀ i, g i < 256) : ∀ n off j, j < n → leNum g off n / 256 ^ j % 256 = g (off + j)
  | 0, _, _, h => by omega
  | n + 1, off, j, h => by
    have h0 := hg off
    rw [leNum]
    rcases j with _ | j
    · simp only [Nat.pow_zero, Nat.div_one, Nat.add_zero]
      omega
    · have ih := leNum_byte hg n (off + 1) j (by omega)
      rw [Nat.pow_succ, Nat.mul_comm (256 ^ j) 256, ← Nat.div_div_eq_div_mul, show (g off + 256 * leNum g (off + 1) n) / 256 = leNum g (off + 1) n by omega, ih]
      congr 1
      omega

/-- The version that bytes tell. -/
def tupG (g : Nat → Nat) (f n : Nat) : Tup := ⟨leNum g f 8, leNum g (f + 8) 8, leNum g (f + 16) 8, (leNum g (f + 24) 4 : Int) - 1, (leNum g (f + 28) 2 : Int) - 1, (List.range (n - 30)).map (fun j => g (f + 30 + j))⟩

theorem tupG_len (g : Nat → Nat) (f n : Nat) : (tupG g f n).data.length = n - 30 := by simp [tupG]

theorem tupG_size (g : Nat → Nat) (f : Nat) {n : Nat} (h : 30 ≤ n) : (tupG g f n).size = n := by
  unfold Tup.size
  rw [tupG_len]
  omega

theorem tupG_bytes {g : Nat → Nat} (hg : ∀ i, g i < 256) (f n : Nat) : ∀ x ∈ (tupG g f n).data, x < 256 := by
  intro x hx
  simp only [tupG, List.mem_map] at hx
  obtain ⟨j, _, rfl⟩ := hx
  exact hg _

theorem tupG_ver {g : Nat → Nat} (hg : ∀ i, g i < 256) (f : Nat) {n : Nat} (h : 30 ≤ n) : ∀ j, j < n → g (f + j) = (tupG g f n).ver j := by
  intro j hj
  unfold Tup.ver
  by_cases h30 : j < 30
  · rw [if_pos h30]
    have e3 : (((leNum g (f + 24) 4 : Int) - 1 + 1).toNat) = leNum g (f + 24) 4 := by omega
    have e4 : (((leNum g (f + 28) 2 : Int) - 1 + 1).toNat) = leNum g (f + 28) 2 := by omega
    unfold Tup.hdr
    simp only [tupG, e3, e4]
    unfold putN
    by_cases a4 : 28 ≤ j
    · rw [if_pos (by omega), leNum_byte hg _ _ _ (by omega)]
      congr 1
      omega
    · rw [if_neg (by omega)]
      by_cases a3 : 24 ≤ j
      · rw [if_pos (by omega), leNum_byte hg _ _ _ (by omega)]
        congr 1
        omega
      · rw [if_neg (by omega)]
        by_cases a2 : 16 ≤ j
        · rw [if_pos (by omega), leNum_byte hg _ _ _ (by omega)]
          congr 1
          omega
        · rw [if_neg (by omega)]
          by_cases a1 : 8 ≤ j
          · rw [if_pos (by omega), leNum_byte hg _ _ _ (by omega)]
            congr 1
            omega
          · rw [if_neg (by omega), if_pos (by omega), leNum_byte hg _ _ _ (by omega)]
            congr 1
  · rw [if_neg h30]
    simp only [tupG]
    rw [List.getD_eq_getElem?_getD, List.getElem?_map, List.getElem?_range (by omega)]
    simp only [Option.map_some, Option.getD_some]
    congr 1
    omega

/-- A version whose bytes lie somewhere is what they tell. -/
theorem tupG_eq {g : Nat → Nat} {f : Nat} {t : Tup} (h : t.Ok) (hv : ∀ j, j < t.size → g (f + j) = t.ver j) : tupG g f t.size = t := by
  obtain ⟨h0, h1, h2, h3, h4⟩ := Tup.read h hv
  have hb := h.bounds
  have e3 : (((t.pg + 1).toNat : Nat) : Int) - 1 = t.pg := by omega
  have e4 : (((t.sl + 1).toNat : Nat) : Int) - 1 = t.sl := by omega
  clear hb
  have hsz : t.size = 30 + t.data.length := rfl
  have hd : (List.range (t.size - 30)).map (fun j => g (f + 30 + j)) = t.data := by
    apply List.ext_getElem?
    intro i
    rw [hsz, Nat.add_sub_cancel_left, List.getElem?_map]
    by_cases hi : i < t.data.length
    · rw [List.getElem?_range hi, List.getElem?_eq_getElem hi]
      have := hv (30 + i) (by rw [hsz]; omega)
      unfold Tup.ver at this
      rw [if_neg (by omega), List.getD_eq_getElem?_getD, show 30 + i - 30 = i by omega, List.getElem?_eq_getElem hi, ← Nat.add_assoc] at this
      simp only [Option.map_some, Option.some.injEq]
      exact this
    · rw [List.getElem?_eq_none (by simp; omega), List.getElem?_eq_none (by omega)]
      rfl
  unfold tupG
  rw [hd, h0, h1, h2, h3, h4, e3, e4]

/-- A slot that bytes tell. -/
def fromG (g : Nat → Nat) (i : Nat) : Nat := leNum g (4 + 4 * i) 2
def sizeG (g : Nat → Nat) (i : Nat) : Nat := leNum g (6 + 4 * i) 2
def slotG (g : Nat → Nat) (i : Nat) : Slot := if fromG g i = 0 ∧ sizeG g i = 0 then none else some (fromG g i, tupG g (fromG g i) (sizeG g i))
def slotsG (g : Nat → Nat) (k : Nat) : List Slot := (List.range k).map (slotG g)

theorem slotsG_len (g : Nat → Nat) (k : Nat) : (slotsG g k).length = k := by simp [slotsG]
theorem slotsG_get {g : Nat → Nat} {k i : Nat} (h : i < k) : (slotsG g k)[i]? = some (slotG g i) := by
  unfold slotsG
  rw [List.getElem?_map, List.getElem?_range h]
  rfl
theorem slotsG_succ (g : Nat → Nat) (k : Nat) : slotsG g (k + 1) = slotsG g k ++ [slotG g k] := by
  unfold slotsG
  rw [List.range_succ, List.map_append]
  rfl
theorem slotsG_some {g : Nat → Nat} {k i : Nat} {s : Slot} (h : (slotsG g k)[i]? = some s) : i < k ∧ s = slotG g i := by
  have hi : i < k := by
    have := (List.getElem?_eq_some_iff.1 h).1
    rw [slotsG_len] at this
    exact this
  rw [slotsG_get hi] at h
  injection h with h
  exact ⟨hi, h.symm⟩

/-- A slot's pointer that may be. -/
def GoodG (g : Nat → Nat) (st i : Nat) : Prop := (fromG g i = 0 ∧ sizeG g i = 0) ∨ (30 ≤ sizeG g i ∧ st ≤ fromG g i ∧ fromG g i + sizeG g i ≤ 512 ∧ (tupG g (fromG g i) (sizeG g i)).rightB = true)

/-- The last slot isn't free. -/
def LastSome (L : List Slot) : Prop := ∀ s, L[L.length - 1]? = some s → s ≠ none

/-- They are a page's. -/
def PgOk (g : Nat → Nat) : Prop := ∃ L st, Pg g L st ∧ LastSome L

theorem pg_slots {g : Nat → Nat} {L : List Slot} {st : Nat} (h : Pg g L st) : L = slotsG g L.length := by
  apply List.ext_getElem?
  intro i
  by_cases hi : i < L.length
  · rw [slotsG_get hi, List.getElem?_eq_getElem hi]
    have hx := List.getElem?_eq_getElem hi
    obtain ⟨h1, h2⟩ := h.ptr i _ hx
    congr 1
    unfold slotG fromG sizeG
    rw [h1, h2]
    rcases hs : L[i] with _ | ⟨f, t⟩
    · rw [if_pos ⟨rfl, rfl⟩]
    · rw [hs] at hx
      obtain ⟨_, _, hok, hv⟩ := h.ver i f t hx
      have := t.size_pos
      rw [if_neg (fun x => by have : t.size = 0 := x.2; omega)]
      show some (f, t) = some (f, tupG g f t.size)
      rw [tupG_eq hok hv]
  · rw [List.getElem?_eq_none (by omega), List.getElem?_eq_none (by rw [slotsG_len]; omega)]

theorem pg_good {g : Nat → Nat} {L : List Slot} {st : Nat} (h : Pg g L st) {i : Nat} (hi : i < L.length) : GoodG g st i := by
  have hx := List.getElem?_eq_getElem hi
  obtain ⟨h1, h2⟩ := h.ptr i _ hx
  unfold GoodG fromG sizeG
  rw [h1, h2]
  rcases hs : L[i] with _ | ⟨f, t⟩
  · exact Or.inl ⟨rfl, rfl⟩
  · rw [hs] at hx
    obtain ⟨a, b, hok, hv⟩ := h.ver i f t hx
    refine Or.inr ⟨t.size_pos, a, b, ?_⟩
    show (tupG g f t.size).rightB = true
    rw [tupG_eq hok hv]
    exact hok.right

theorem slotG_some {g : Nat → Nat} {i f : Nat} {t : Tup} (h : slotG g i = some (f, t)) : f = fromG g i ∧ t = tupG g (fromG g i) (sizeG g i) ∧ ¬ (fromG g i = 0 ∧ sizeG g i = 0) := by
  unfold slotG at h
  split at h
  · cases h
  · rename_i hn
    injection h with h
    injection h with h1 h2
    exact ⟨h1.symm, h2.symm, hn⟩

theorem slotG_good {g : Nat → Nat} {st i f : Nat} {t : Tup} (h : slotG g i = some (f, t)) (hg : GoodG g st i) : f = fromG g i ∧ t.size = sizeG g i ∧ 30 ≤ sizeG g i ∧ st ≤ f ∧ f + t.size ≤ 512 := by
  obtain ⟨rfl, rfl, h3⟩ := slotG_some h
  rcases hg with hg | ⟨a, b, c, d⟩
  · exact absurd hg h3
  · rw [tupG_size _ _ a]
    exact ⟨rfl, rfl, a, b, c⟩

/-- Two versions lie apart. -/
def Apart (s s' : Slot) : Prop := ∀ f t f' t', s = some (f, t) → s' = some (f', t') → f + Tup.size t ≤ f' ∨ f' + Tup.size t' ≤ f

theorem Apart.symm {s s' : Slot} (h : Apart s s') : Apart s' s := fun f t f' t' e e' => (h f' t' f t e' e).symm

/-- No version lies over a byte. -/
def Outside (L : List Slot) (x : Nat) : Prop := ∀ (i f : Nat) (t : Tup), L[i]? = some (some (f, t)) → x < f ∨ f + t.size ≤ x

theorem pg_mk {g : Nat → Nat} {n st : Nat} (hg : ∀ i, g i < 256) (hn : leNum g 0 2 = n) (hst : leNum g 2 2 = st) (h1 : st ≤ 512) (h2 : 4 + 4 * n ≤ st) (hgood : ∀ i, i < n → GoodG g st i)
    (hsep : (slotsG g n).Pairwise Apart) (hz : ∀ x, 4 + 4 * n ≤ x → x < 512 → Outside (slotsG g n) x → g x = 0) : Pg g (slotsG g n) st := by
  refine ⟨hg, by rw [slotsG_len]; exact hn, hst, by rw [slotsG_len]; exact h2, h1, ?_, ?_, ?_, by rw [slotsG_len]; exact hz⟩
  · intro i s hs
    obtain ⟨hi, rfl⟩ := slotsG_some hs
    unfold slotG
    split
    · rename_i h0
      exact h0
    · rename_i h0
      rcases hgood i hi with hh | hh
      · exact absurd hh h0
      · refine ⟨rfl, ?_⟩
        show sizeG g i = (tupG g (fromG g i) (sizeG g i)).size
        rw [tupG_size _ _ hh.1]
  · intro i f t hs
    obtain ⟨hi, hs⟩ := slotsG_some hs
    obtain ⟨rfl, rfl, h0⟩ := slotG_some hs.symm
    rcases hgood i hi with hh | ⟨a, b, c, d⟩
    · exact absurd hh h0
    · rw [tupG_size _ _ a]
      exact ⟨b, c, ⟨d, tupG_bytes hg _ _⟩, tupG_ver hg _ a⟩
  · intro i j f t f' t' hij hi hj
    rw [List.pairwise_iff_getElem] at hsep
    obtain ⟨hi1, hi2⟩ := List.getElem?_eq_some_iff.1 hi
    obtain ⟨hj1, hj2⟩ := List.getElem?_eq_some_iff.1 hj
    rcases Nat.lt_or_ge i j with h | h
    · exact hsep i j hi1 hj1 h f t f' t' hi2 hj2
    · exact (hsep j i hj1 hi1 (by omega) f' t' f t hj2 hi2).symm

theorem pg_apart {g : Nat → Nat} {L : List Slot} {st : Nat} (h : Pg g L st) : L.Pairwise Apart := by
  rw [List.pairwise_iff_getElem]
  intro i j hi hj hij f t f' t' e e'
  exact h.sep i j f t f' t' (by omega) (by rw [List.getElem?_eq_getElem hi, e]) (by rw [List.getElem?_eq_getElem hj, e'])

/-- What bytes must be to be a page's. -/
structure Checks (g : Nat → Nat) (n st : Nat) : Prop where
  le : st ≤ 512
  fit : 4 + 4 * n ≤ st
  last : 0 < n → sizeG g (n - 1) ≠ 0
  good : ∀ i, i < n → GoodG g st i
  apart : (slotsG g n).Pairwise Apart
  zero : ∀ x, 4 + 4 * n ≤ x → x < 512 → Outside (slotsG g n) x → g x = 0

theorem pg_checks {g : Nat → Nat} {n st : Nat} (hg : ∀ i, g i < 256) (hn : leNum g 0 2 = n) (hst : leNum g 2 2 = st) : PgOk g ↔ Checks g n st := by
  constructor
  · rintro ⟨L, st', h, hl⟩
    have e1 := h.st
    rw [hst] at e1
    subst e1
    have e2 := h.cnt
    rw [hn] at e2
    have e3 := pg_slots h
    rw [← e2] at e3
    refine ⟨h.le, by have := h.fit; omega, fun h0 hs => ?_, fun i hi => pg_good h (by omega), by rw [← e3]; exact pg_apart h, by rw [← e3, e2]; exact h.zero⟩
    have hx : L[L.length - 1]? = some (slotG g (n - 1)) := by rw [← e2, e3, slotsG_get (by omega)]
    have := hl _ hx
    have hgd := pg_good h (i := n - 1) (by omega)
    rcases hgd with hh | hh
    · unfold slotG at this
      rw [if_pos hh] at this
      exact this rfl
    · omega
  · intro h
    refine ⟨slotsG g n, st, pg_mk hg hn hst h.le h.fit h.good h.apart h.zero, fun s hs => ?_⟩
    rw [slotsG_len] at hs
    obtain ⟨hi, rfl⟩ := slotsG_some hs
    have := h.last (by omega)
    unfold slotG
    rw [if_neg (fun x => this x.2)]
    simp

/-- Where versions lie, in order of their slots. -/
def partsG (g : Nat → Nat) (k : Nat) : List (Nat × Nat) := (slotsG g k).filterMap (fun s => s.map (fun p => (p.1, p.1 + p.2.size)))

theorem partsG_succ (g : Nat → Nat) (k : Nat) : partsG g (k + 1) = partsG g k ++ (match slotG g k with | none => [] | some p => [(p.1, p.1 + p.2.size)]) := by
  unfold partsG
  rw [slotsG_succ, List.filterMap_append]
  congr 1
  rcases slotG g k with _ | p <;> rfl

/-- Nothing lies over another one, and nothing else is there. -/
def gapsOk (g : Nat → Nat) : Nat → List (Nat × Nat) → Prop
  | _, [] => True
  | at_, x :: P => at_ ≤ x.1 ∧ (∀ j, at_ ≤ j → j < x.1 → g j = 0) ∧ gapsOk g x.2 P

theorem gapsOk_pair {g : Nat → Nat} : ∀ (P : List (Nat × Nat)) (at_ : Nat), (∀ x ∈ P, x.1 ≤ x.2) → gapsOk g at_ P → (∀ x ∈ P, at_ ≤ x.1) ∧ P.Pairwise (fun a b => a.2 ≤ b.1)
  | [], _, _, _ => ⟨fun x h => (by cases h), List.Pairwise.nil⟩
  | x :: P, at_, hle, h => by
    obtain ⟨h1, h2, h3⟩ := h
    obtain ⟨i1, i2⟩ := gapsOk_pair P x.2 (fun y hy => hle y (List.mem_cons_of_mem _ hy)) h3
    have hx := hle x (List.mem_cons_self ..)
    refine ⟨fun y hy => ?_, List.Pairwise.cons i1 i2⟩
    rcases List.mem_cons.1 hy with rfl | hy
    · exact h1
    · have := i1 y hy; omega

theorem gapsOk_zero {g : Nat → Nat} : ∀ (P : List (Nat × Nat)) (at_ : Nat) (l : Nat × Nat), (∀ x ∈ P, x.1 ≤ x.2) → gapsOk g at_ (P ++ [l]) → ∀ j, at_ ≤ j → j < l.1 → (∀ x ∈ P, j < x.1 ∨ x.2 ≤ j) → g j = 0
  | [], at_, l, _, h, j, h1, h2, _ => h.2.1 j h1 h2
  | x :: P, at_, l, hle, h, j, h1, h2, ho => by
    obtain ⟨a1, a2, a3⟩ := h
    rcases ho x (List.mem_cons_self ..) with hj | hj
    · exact a2 j h1 hj
    · exact gapsOk_zero P x.2 l (fun y hy => hle y (List.mem_cons_of_mem _ hy)) a3 j hj h2 (fun y hy => ho y (List.mem_cons_of_mem _ hy))

theorem gapsOk_mk {g : Nat → Nat} {m : Nat} : ∀ (P : List (Nat × Nat)) (at_ : Nat), (∀ x ∈ P, x.1 ≤ x.2 ∧ x.2 ≤ m ∧ at_ ≤ x.1) → at_ ≤ m → P.Pairwise (fun a b => a.2 ≤ b.1) →
    (∀ j, at_ ≤ j → j < m → (∀ x ∈ P, j < x.1 ∨ x.2 ≤ j) → g j = 0) → gapsOk g at_ (P ++ [(m, m)])
  | [], at_, _, hm, _, hz => ⟨hm, fun j h1 h2 => hz j h1 h2 (fun x hx => by cases hx), trivial⟩
  | x :: P, at_, hle, hm, hp, hz => by
    obtain ⟨hx, hp'⟩ := List.pairwise_cons.1 hp
    obtain ⟨x1, x2, x3⟩ := hle x (List.mem_cons_self ..)
    refine ⟨x3, fun j h1 h2 => hz j h1 (by omega) (fun y hy => ?_), gapsOk_mk P x.2 (fun y hy => ?_) (by omega) hp' (fun j h1 h2 h3 => hz j (by omega) h2 (fun y hy => ?_))⟩
    · rcases List.mem_cons.1 hy with rfl | hy
      · exact Or.inl h2
      · have := hx y hy; exact Or.inl (by omega)
    · have := hle y (List.mem_cons_of_mem _ hy)
      exact ⟨this.1, this.2.1, hx y hy⟩
    · rcases List.mem_cons.1 hy with rfl | hy
      · exact Or.inr h1
      · exact h3 y hy

theorem parts_mem {g : Nat → Nat} {n : Nat} {x : Nat × Nat} (h : x ∈ partsG g n) : ∃ i f t, i < n ∧ (slotsG g n)[i]? = some (some (f, t)) ∧ x = (f, f + Tup.size t) := by
  unfold partsG at h
  obtain ⟨s, hs, hx⟩ := List.mem_filterMap.1 h
  rcases s with _ | ⟨f, t⟩
  · cases hx
  · obtain ⟨i, hi⟩ := List.mem_iff_getElem?.1 hs
    injection hx with hx
    exact ⟨i, f, t, (slotsG_some hi).1, hi, hx.symm⟩

theorem mem_parts {g : Nat → Nat} {n i f : Nat} {t : Tup} (h : (slotsG g n)[i]? = some (some (f, t))) : (f, f + Tup.size t) ∈ partsG g n := by
  unfold partsG
  exact List.mem_filterMap.2 ⟨some (f, t), List.mem_of_getElem? h, rfl⟩

theorem outside_parts {g : Nat → Nat} {n x : Nat} : Outside (slotsG g n) x ↔ ∀ p ∈ partsG g n, x < p.1 ∨ p.2 ≤ x := by
  constructor
  · intro h p hp
    obtain ⟨i, f, t, _, hi, rfl⟩ := parts_mem hp
    exact h i f t hi
  · intro h i f t hi
    exact h _ (mem_parts hi)

/-- The parts in order of where they begin: no gap is amiss just where the bytes are right. -/
theorem gaps_iff {g : Nat → Nat} {n st : Nat} {P : List (Nat × Nat)} (h2 : 4 + 4 * n ≤ st) (h1 : st ≤ 512) (hgood : ∀ i, i < n → GoodG g st i) (hp : P.Perm (partsG g n)) (hs : P.Pairwise (fun a b => ¬ b.1 < a.1)) :
    gapsOk g (4 + 4 * n) (P ++ [(512, 512)]) ↔ (slotsG g n).Pairwise Apart ∧ ∀ x, 4 + 4 * n ≤ x → x < 512 → Outside (slotsG g n) x → g x = 0 := by
  have hin : ∀ x ∈ P, x.1 + 30 ≤ x.2 ∧ x.2 ≤ 512 ∧ st ≤ x.1 := by
    intro x hx
    obtain ⟨i, f, t, hi, hsl, rfl⟩ := parts_mem (hp.mem_iff.1 hx)
    obtain ⟨_, e⟩ := slotsG_some hsl
    obtain ⟨_, a, b, c, d⟩ := slotG_good e.symm (hgood i hi)
    show f + 30 ≤ f + t.size ∧ f + t.size ≤ 512 ∧ st ≤ f
    omega
  have hR : (slotsG g n).Pairwise Apart ↔ (partsG g n).Pairwise (fun a b => a.2 ≤ b.1 ∨ b.2 ≤ a.1) := by
    unfold partsG
    rw [List.pairwise_filterMap]
    constructor
    · intro h
      refine h.imp ?_
      rintro a b hab p hp' q hq'
      rcases a with _ | ⟨f, t⟩
      · cases hp'
      · rcases b with _ | ⟨f', t'⟩
        · cases hq'
        · injection hp' with hp'
          injection hq' with hq'
          subst hp' hq'
          exact hab f t f' t' rfl rfl
    · intro h
      refine h.imp ?_
      rintro a b hab f t f' t' rfl rfl
      exact hab _ rfl _ rfl
  have hperm : P.Pairwise (fun a b => a.2 ≤ b.1 ∨ b.2 ≤ a.1) ↔ (partsG g n).Pairwise (fun a b => a.2 ≤ b.1 ∨ b.2 ≤ a.1) := hp.pairwise_iff (fun {a b} h => h.symm)
  have hout : ∀ x, Outside (slotsG g n) x ↔ ∀ p ∈ P, x < p.1 ∨ p.2 ≤ x := fun x => by
    rw [outside_parts]
    exact ⟨fun h p hp' => h p (hp.mem_iff.1 hp'), fun h p hp' => h p (hp.mem_iff.2 hp')⟩
  constructor
  · intro h
    obtain ⟨_, g2⟩ := gapsOk_pair (P ++ [(512, 512)]) _ (fun x hx => by
      rcases List.mem_append.1 hx with hx | hx
      · have := hin x hx; omega
      · obtain rfl := List.mem_singleton.1 hx; exact Nat.le_refl _) h
    refine ⟨hR.2 (hperm.1 ((List.pairwise_append.1 g2).1.imp (fun h => Or.inl h))), fun x hx1 hx2 hx3 => ?_⟩
    exact gapsOk_zero P _ (512, 512) (fun x hx => by have := hin x hx; omega) h x hx1 hx2 ((hout x).1 hx3)
  · rintro ⟨ha, hz⟩
    have hpw : P.Pairwise (fun a b => a.2 ≤ b.1) := by
      have h3 := hperm.2 (hR.1 ha)
      have h4 : P.Pairwise (fun a b => (a.2 ≤ b.1 ∨ b.2 ≤ a.1) ∧ ¬ b.1 < a.1) := h3.and hs
      rw [List.pairwise_iff_getElem] at h4 ⊢
      intro i j hi hj hij
      obtain ⟨h5, h6⟩ := h4 i j hi hj hij
      have b1 := hin P[i] (List.getElem_mem hi)
      have b2 := hin P[j] (List.getElem_mem hj)
      omega
    exact gapsOk_mk P _ (fun x hx => by have := hin x hx; omega) (by omega) hpw (fun j h3 h4 h5 => hz j h3 h4 ((hout j).2 h5))

/-- Two rows of bytes of one page's slots are alike. -/
theorem Pg.same {g g' : Nat → Nat} {L : List Slot} {st : Nat} (h : Pg g L st) (h' : Pg g' L st) : ∀ x, x < 512 → g x = g' x := by
  have hdr : ∀ n off, (∀ i, i < n → off + i < 512) → leNum g off n = leNum g' off n → ∀ j, j < n → g (off + j) = g' (off + j) := fun n off _ he j hj => by
    rw [← leNum_byte h.lt n off j hj, he, leNum_byte h'.lt n off j hj]
  intro x hx
  by_cases h0 : x < 2
  · have := hdr 2 0 (fun i _ => by omega) (by rw [h.cnt, h'.cnt]) x h0
    rw [Nat.zero_add] at this
    exact this
  by_cases h1 : x < 4
  · have := hdr 2 2 (fun i _ => by omega) (by rw [h.st, h'.st]) (x - 2) (by omega)
    rw [show 2 + (x - 2) = x by omega] at this
    exact this
  by_cases h2 : x < 4 + 4 * L.length
  · obtain ⟨i, hi⟩ : ∃ i, i = (x - 4) / 4 := ⟨_, rfl⟩
    have hil : i < L.length := by omega
    have a := h.ptr i _ (List.getElem?_eq_getElem hil)
    have b := h'.ptr i _ (List.getElem?_eq_getElem hil)
    by_cases h3 : x < 6 + 4 * i
    · have := hdr 2 (4 + 4 * i) (fun k _ => by have := h.fit; have := h.le; omega) (by rw [a.1, b.1]) (x - (4 + 4 * i)) (by omega)
      rw [show 4 + 4 * i + (x - (4 + 4 * i)) = x by omega] at this
      exact this
    · have := hdr 2 (6 + 4 * i) (fun k _ => by have := h.fit; have := h.le; omega) (by rw [a.2, b.2]) (x - (6 + 4 * i)) (by omega)
      rw [show 6 + 4 * i + (x - (6 + 4 * i)) = x by omega] at this
      exact this
  by_cases ho : Outside L x
  · rw [h.zero x (by omega) hx ho, h'.zero x (by omega) hx ho]
  · unfold Outside at ho
    simp only [Classical.not_forall, not_or] at ho
    obtain ⟨i, f, t, hi, h3, h4⟩ := ho
    have a := (h.ver i f t hi).2.2.2 (x - f) (by omega)
    have b := (h'.ver i f t hi).2.2.2 (x - f) (by omega)
    rw [show f + (x - f) = x by omega] at a b
    rw [a, b]

end Go.Lap
