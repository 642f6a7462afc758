/- Package page, told by its versions alone (where their bytes lie is left out). No condition. -/
import Derived.Test.YtbibmgcklilpmaaPageInsert
namespace Go.Lap
open Go.RowKit

/-- The versions, slot by slot. -/
def tups (L : List Slot) : List (Option Tup) := L.map (Option.map Prod.snd)

def freeT (T : List (Option Tup)) : Nat := (T.findIdx? (fun s => s.isNone)).getD T.length
def sizeT : Option Tup → Nat
  | none => 0
  | some t => t.size
def spentT (T : List (Option Tup)) : Nat := (T.map (fun s => 4 + sizeT s)).sum
def roomT (T : List (Option Tup)) : Int := max (478 - spentT T - (if freeT T = T.length then 4 else 0)) (-1)
def usedT (T : List (Option Tup)) : Nat := (T.filter (fun s => s.isSome)).length
def trimT (T : List (Option Tup)) : List (Option Tup) := (T.reverse.dropWhile (fun s => s.isNone)).reverse
def insT (T : List (Option Tup)) (t : Tup) : List (Option Tup) := if freeT T = T.length then T ++ [some t] else T.set (freeT T) (some t)
def pInsT (T : List (Option Tup)) (t : Tup) : Int × Int × List (Option Tup) :=
  if t.rightB = false then (0, 3, T) else if roomT T < t.data.length then (0, 12, T) else (freeT T, 0, insT T t)
def tupAt (T : List (Option Tup)) (i : Int) : Option Tup := if i < 0 then none else (T[i.toNat]?).join

theorem tups_length (L : List Slot) : (tups L).length = L.length := by simp [tups]

theorem none_map (s : Slot) : (Option.map Prod.snd s).isNone = s.isNone := by cases s <;> rfl
theorem some_map (s : Slot) : (Option.map Prod.snd s).isSome = s.isSome := by cases s <;> rfl

theorem free_tups (L : List Slot) : freeT (tups L) = freeIdx L := by
  unfold freeT freeIdx tups
  rw [List.findIdx?_map, List.length_map]
  congr 2
  funext s
  exact none_map s

theorem size_map (s : Slot) : sizeT (Option.map Prod.snd s) = Slot.size s := by rcases s with _ | ⟨f, t⟩ <;> rfl

theorem spent_tups (L : List Slot) : spentT (tups L) = spent L := by
  unfold spentT spent tups
  rw [List.map_map]
  congr 1
  apply List.map_congr_left
  intro s _
  show 4 + sizeT (Option.map Prod.snd s) = _
  rw [size_map]

theorem room_tups (L : List Slot) : roomT (tups L) = roomOf L := by
  unfold roomT roomOf
  rw [spent_tups, free_tups, tups_length]

theorem used_tups (L : List Slot) : usedT (tups L) = usedOf L := by
  unfold usedT usedOf tups
  rw [List.filter_map, List.length_map]
  congr 2
  funext s
  exact some_map s

theorem trim_tups (L : List Slot) : trimT (tups L) = tups (trim L) := by
  unfold trimT trim tups
  rw [← List.map_reverse, List.dropWhile_map, ← List.map_reverse]
  congr 3
  funext s
  exact none_map s

theorem set_tups (L : List Slot) (i : Nat) : tups (L.set i none) = (tups L).set i none := by
  unfold tups
  rw [List.map_set]; rfl

theorem insL_tups (L : List Slot) (i : Nat) (f : Nat) (t : Tup) : tups (insL L i (some (f, t))) = if i = (tups L).length then tups L ++ [some t] else (tups L).set i (some t) := by
  unfold insL
  rw [tups_length]
  split
  · simp [tups]
  · unfold tups; rw [List.map_set]; rfl

theorem movTo_tups (L : List Slot) : tups (movTo L).1 = tups L := by
  induction hn : L.length generalizing L with
  | zero =>
    have : L = [] := List.eq_nil_of_length_eq_zero hn
    subst this
    rfl
  | succ n ih =>
    have hne : L ≠ [] := fun e => by subst e; simp at hn
    obtain ⟨M, s, rfl⟩ : ∃ M s, L = M ++ [s] := ⟨L.dropLast, L.getLast hne, (List.dropLast_concat_getLast hne).symm⟩
    have hM : M.length = n := by simpa using hn
    have := ih M hM
    rw [movTo_snoc]
    unfold tups at this ⊢
    rw [List.map_append, ← this]
    rcases s with _ | ⟨f, t⟩ <;> simp [movStep]

theorem insTo_tups (L : List Slot) (st : Nat) (t : Tup) : tups (insTo L st t).1 = insT (tups L) t := by
  unfold insTo insT
  rw [free_tups]
  split
  · rw [insL_tups, movTo_tups]
  · rw [insL_tups]

theorem slot_tups (L : List Slot) (i : Int) : tupAt (tups L) i = (slotAt L i).map Prod.snd := by
  unfold tupAt slotAt tups
  split
  · rfl
  · rw [List.getElem?_map]
    rcases L[i.toNat]? with _ | s
    · rfl
    · rfl

/-- Is there room? -/
theorem room_iff (T : List (Option Tup)) (n : Nat) : (¬ roomT T < n) ↔ 4 + 4 * (max T.length (freeT T + 1)) + ((T.map sizeT).sum) + (30 + n) ≤ 512 := by
  have e : spentT T = 4 * T.length + (T.map sizeT).sum := by
    unfold spentT
    induction T with
    | nil => rfl
    | cons s T ih => rw [List.map_cons, List.sum_cons, ih, List.map_cons, List.sum_cons, List.length_cons]; omega
  have hf : freeT T ≤ T.length := by
    unfold freeT
    rcases h : T.findIdx? (fun s => s.isNone) with _ | i
    · rw [h]; exact Nat.le_refl _
    · rw [h]
      rw [List.findIdx?_eq_some_iff_getElem] at h
      obtain ⟨hi, _⟩ := h
      exact Nat.le_of_lt hi
  unfold roomT
  rw [e]
  by_cases hx : freeT T = T.length
  · rw [if_pos hx]; omega
  · rw [if_neg hx]; omega

end Go.Lap
namespace Go.Proofs.Ytbibmgcklilpmaa
open Go.RowKit Go.Lap

/-- Block b is a page with these versions. -/
def PageT (w : World) (b : Nat) (T : List (Option Tup)) : Prop := ∃ L st, PageAt w b L st ∧ tups L = T

theorem PageT.kept {S : Nat → Prop} {w w' : World} {b : Nat} {T : List (Option Tup)} (h : PageT w b T) (ho : Only S w w') (hn : ¬ S b) : PageT w' b T := by
  obtain ⟨L, st, h1, h2⟩ := h
  exact ⟨L, st, h1.kept ho hn, h2⟩
theorem PageT.lt {w : World} {b : Nat} {T : List (Option Tup)} (h : PageT w b T) : b < w.heap.size := by
  obtain ⟨L, st, h1, h2⟩ := h
  exact h1.lt
theorem PageT.len {w : World} {b : Nat} {T : List (Option Tup)} (h : PageT w b T) : T.length ≤ 127 := by
  obtain ⟨L, st, h1, h2⟩ := h
  rw [← h2, tups_length]; exact h1.len
theorem PageT.ok {w : World} {b : Nat} {T : List (Option Tup)} (h : PageT w b T) {i : Nat} {t : Tup} (hi : T[i]? = some (some t)) : t.Ok := by
  obtain ⟨L, st, ⟨g, h1, h2⟩, rfl⟩ := h
  unfold tups at hi
  rw [List.getElem?_map] at hi
  rcases hx : L[i]? with _ | s
  · rw [hx] at hi; cases hi
  · rw [hx] at hi
    rcases s with _ | ⟨f, t'⟩
    · cases hi
    · have : t' = t := by injection hi with hi; injection hi
      subst this
      exact (h2.ver i f t' hx).2.2.1

theorem pageT_new (w : World) :
    Calls Try.prog 29 #[] w fun e w' => e = .returned (.pointer (some ⟨w.heap.size, 0, none⟩)) ∧ Quiet w w' ∧ w.heap.size < w'.heap.size ∧ PageT w' w.heap.size [] :=
  (page_new w).mono fun _ _ ⟨a, b, c, d⟩ => ⟨a, b, c, [], 512, d, rfl⟩

theorem pageT_room (b : Nat) (T : List (Option Tup)) (w : World) (h : PageT w b T) :
    Calls Try.prog 66 #[.pointer (some ⟨b, 0, none⟩)] w fun e w' => e = .returned (.int .i64 (roomT T)) ∧ ∃ n, w' = w.drewN n := by
  obtain ⟨L, st, h1, rfl⟩ := h
  rw [room_tups]
  exact page_room b st L w h1

theorem pageT_slots (b : Nat) (T : List (Option Tup)) (w : World) (h : PageT w b T) :
    Calls Try.prog 69 #[.pointer (some ⟨b, 0, none⟩)] w fun e w' => e = .returned (.int .i64 T.length) ∧ w = w' := by
  obtain ⟨L, st, h1, rfl⟩ := h
  rw [tups_length]
  exact page_slots b st L w h1

theorem pageT_used (b : Nat) (T : List (Option Tup)) (w : World) (h : PageT w b T) :
    Calls Try.prog 32 #[.pointer (some ⟨b, 0, none⟩)] w fun e w' => e = .returned (.int .i64 (usedT T)) ∧ ∃ n, w' = w.drewN n := by
  obtain ⟨L, st, h1, rfl⟩ := h
  rw [used_tups]
  exact page_used b st L w h1

theorem pageT_free_some (b : Nat) (t : Tup) (T : List (Option Tup)) (i : Int) (w : World) (h : PageT w b T) (hi : tupAt T i = some t) :
    Calls Try.prog 31 #[.pointer (some ⟨b, 0, none⟩), .int .i64 i] w fun e w' => e = .returned (.int .i64 0) ∧ Only (· = b) w w' ∧ PageT w' b (trimT (T.set i.toNat none)) := by
  obtain ⟨L, st, h1, rfl⟩ := h
  rw [slot_tups] at hi
  rcases hs : slotAt L i with _ | ⟨f, t'⟩
  · rw [hs] at hi; cases hi
  · refine (page_free_some b st f t' L i w h1 hs).mono ?_
    rintro e w' ⟨rfl, ho, hp⟩
    exact ⟨rfl, ho, _, _, hp, by rw [← trim_tups, set_tups]⟩

theorem pageT_free_none (b : Nat) (T : List (Option Tup)) (i : Int) (w : World) (h : PageT w b T) (hi : tupAt T i = none) :
    Calls Try.prog 31 #[.pointer (some ⟨b, 0, none⟩), .int .i64 i] w fun e w' => e = .returned (.int .i64 15) ∧ Quiet w w' := by
  obtain ⟨L, st, h1, rfl⟩ := h
  rw [slot_tups] at hi
  refine page_free_none b st L i w h1 ?_
  rcases hs : slotAt L i with _ | x
  · rfl
  · rw [hs] at hi; cases hi

theorem pageT_insert (b : Nat) (T : List (Option Tup)) (t : Tup) (A : Option Addr) (cap : Nat) (S : Nat → Prop) (w : World) (h : PageT w b T) (hby : ∀ x ∈ t.data, x < 256) (hd : Rd w S 1 A t.data.length (bytesV t.data)) :
    Calls Try.prog 30 #[.pointer (some ⟨b, 0, none⟩), tupV t A cap] w fun e w' => e = .returned (.tuple #[.int .i64 (pInsT T t).1, .int .i64 (pInsT T t).2.1]) ∧ Only (· = b) w w' ∧ PageT w' b (pInsT T t).2.2 := by
  obtain ⟨L, st, h1, rfl⟩ := h
  refine (page_insert b st L t A cap S w h1 hby hd).mono ?_
  rintro e w' ⟨rfl, ho, hp⟩
  have e1 : (pInsT (tups L) t).1 = (pIns L st t).1 ∧ (pInsT (tups L) t).2.1 = (pIns L st t).2.1 ∧ tups (pIns L st t).2.2.1 = (pInsT (tups L) t).2.2 := by
    unfold pInsT pIns
    rw [room_tups, free_tups]
    split
    · exact ⟨rfl, rfl, rfl⟩
    · split
      · exact ⟨rfl, rfl, rfl⟩
      · exact ⟨rfl, rfl, insTo_tups L st t⟩
  rw [e1.1, e1.2.1]
  exact ⟨rfl, ho, _, _, hp, e1.2.2⟩

end Go.Proofs.Ytbibmgcklilpmaa
