/- The contracts of package room and of its document's answer, whole: each function once, at every argument, told by the list of rooms. No condition. -/
import Derived.Test.YtbibmgcklilpmaaRoomRef
namespace Go.Lap

theorem getD_out {α : Type} (l : List α) (d : α) {i : Nat} (h : l.length ≤ i) : l.getD i d = d := by
  rw [List.getD_eq_getElem?_getD, List.getElem?_eq_none h]; rfl

/-- The list's rooms, page by page, -1 behind them. -/
def rooms (l : List Int) (i : Nat) : Int := l.getD i (-1)

def clampR (r : Int) : Int := min (max r (-1)) 512

def setL (l : List Int) (p : Nat) (c : Int) : List Int := if p = l.length then l ++ [c] else l.set p c

/-- What Set tells, and the rooms behind it. -/
def rSet (l : List Int) (p r : Int) : Int × List Int :=
  if p < 0 ∨ 256 ≤ p then (1, l) else if (l.length : Int) < p then (3, l) else (0, setL l p.toNat (clampR r))

def rFind (l : List Int) (need : Int) : Int × Bool :=
  match l.findIdx? (fun r => decide (max need 0 ≤ r)) with
  | some i => (i, true)
  | none => (0, false)

def rGet (l : List Int) (p : Int) : Int := if p < 0 ∨ 256 ≤ p then -1 else rooms l p.toNat

theorem rSet_arg {l : List Int} {p r : Int} (h : p < 0 ∨ 256 ≤ p) : rSet l p r = (1, l) := if_pos h
theorem rSet_form {l : List Int} {p r : Int} (h : ¬ (p < 0 ∨ 256 ≤ p)) (h2 : (l.length : Int) < p) : rSet l p r = (3, l) := by rw [rSet, if_neg h, if_pos h2]
theorem rSet_in {l : List Int} {p r : Int} (h : ¬ (p < 0 ∨ 256 ≤ p)) (h2 : ¬ (l.length : Int) < p) : rSet l p r = (0, setL l p.toNat (clampR r)) := by rw [rSet, if_neg h, if_neg h2]

theorem upd_rooms (l : List Int) (p : Nat) (c : Int) (hp : p ≤ l.length) : upd (rooms l) p c = rooms (setL l p c) := by
  funext j
  unfold upd rooms setL
  by_cases e : p = l.length
  · rw [if_pos e]
    subst e
    by_cases h : j = l.length
    · subst h; simp
    · rw [if_neg h]
      rcases Nat.lt_or_ge j l.length with x | x
      · simp [List.getD_eq_getElem?_getD, List.getElem?_append, x]
      · rw [getD_out _ _ x, getD_out _ _ (by simp; omega)]
  · rw [if_neg e]
    simp only [List.getD_eq_getElem?_getD, List.getElem?_set]
    by_cases h : j = p
    · subst h; simp [show j < l.length by omega]
    · simp [h, show ¬ p = j by omega]

theorem setL_length (l : List Int) (p : Nat) (c : Int) (hp : p ≤ l.length) : (setL l p c).length = max l.length (p + 1) := by
  unfold setL
  by_cases e : p = l.length
  · rw [if_pos e]; simp; omega
  · rw [if_neg e]; simp; omega

end Go.Lap
namespace Go.Proofs.Ytbibmgcklilpmaa
open Go.RowKit Go.Lap

/-- The room map in block b has these rooms. -/
def RoomIs (w : World) (b : Nat) (l : List Int) : Prop := ∃ t, RoomAt w b (rooms l) t l.length

theorem RoomIs.kept {S : Nat → Prop} {w w' : World} {b : Nat} {l : List Int} (h : RoomIs w b l) (ho : Only S w w') (hn : ¬ S b) : RoomIs w' b l := by
  obtain ⟨t, h⟩ := h
  exact ⟨t, h.kept ho hn⟩

theorem RoomIs.lt {w : World} {b : Nat} {l : List Int} (h : RoomIs w b l) : b < w.heap.size := by
  obtain ⟨t, h⟩ := h
  exact lt_of_get h.blk

theorem RoomIs.most {w : World} {b : Nat} {l : List Int} (h : RoomIs w b l) : l.length ≤ 256 := by
  obtain ⟨t, h⟩ := h
  exact h.most

theorem room_set (b : Nat) (l : List Int) (w : World) (p r : Int) (hr : RoomIs w b l) :
    Calls Try.prog 20 #[.pointer (some ⟨b, 0, none⟩), .int .i64 p, .int .i64 r] w fun e w' => e = .returned (.int .i64 (rSet l p r).1) ∧ Only (· = b) w w' ∧ RoomIs w' b (rSet l p r).2 := by
  have hr0 := hr
  obtain ⟨t, hr⟩ := hr
  by_cases h1 : p < 0 ∨ 256 ≤ p
  · refine (set_arg b w p r h1).mono ?_
    rintro e w' ⟨rfl, rfl⟩
    rw [rSet_arg h1]
    exact ⟨rfl, Only.refl _ _, hr0⟩
  · obtain ⟨k, rfl⟩ := Int.eq_ofNat_of_zero_le (show 0 ≤ p by omega)
    by_cases h2 : (l.length : Int) < k
    · refine (set_form b _ t l.length w k r hr (by omega) (by omega)).mono ?_
      rintro e w' ⟨rfl, rfl⟩
      rw [rSet_form h1 h2]
      exact ⟨rfl, Only.refl _ _, hr0⟩
    · refine (set_in b _ t l.length w k r hr (by omega) (by omega)).mono ?_
      rintro e w' ⟨rfl, ho, t', hx⟩
      rw [rSet_in h1 h2]
      refine ⟨rfl, ho, t', ?_⟩
      rw [upd_rooms _ _ _ (by omega)] at hx
      rw [Int.toNat_natCast, setL_length _ _ _ (by omega)]
      exact hx

/-- The page behind all that there are. -/
theorem room_set_next (b : Nat) (l : List Int) (w : World) (p r : Int) (hr : RoomIs w b l) (hp : p = l.length) (h : l.length < 256) :
    Calls Try.prog 20 #[.pointer (some ⟨b, 0, none⟩), .int .i64 p, .int .i64 r] w fun e w' => e = .returned (.int .i64 0) ∧ Only (· = b) w w' ∧ RoomIs w' b (l ++ [clampR r]) := by
  have e : rSet l p r = (0, l ++ [clampR r]) := by
    rw [rSet_in (by omega) (by omega), hp, setL, if_pos (by simp)]
  have := room_set b l w p r hr
  rw [e] at this
  exact this

theorem room_set_nil (w : World) (p r : Int) :
    Calls Try.prog 20 #[.pointer none, .int .i64 p, .int .i64 r] w fun e w' => e = .returned (.int .i64 15) ∧ w = w' := by
  go_enter Try.func20, Try.ntmps20
  go_wp2
  go_ret
  exact ⟨rfl, rfl⟩

theorem room_find (b : Nat) (l : List Int) (w : World) (need : Int) (hr : RoomIs w b l) :
    Calls Try.prog 22 #[.pointer (some ⟨b, 0, none⟩), .int .i64 need] w fun e w' => e = .returned (.tuple #[.int .i64 (rFind l need).1, .bool (rFind l need).2]) ∧ w = w' := by
  obtain ⟨t, hr⟩ := hr
  rcases hf : l.findIdx? (fun r => decide (max need 0 ≤ r)) with _ | i
  · rw [List.findIdx?_eq_none_iff] at hf
    refine (find_none b _ t l.length w need hr (fun j _ => ?_)).mono ?_
    · rcases Nat.lt_or_ge j l.length with x | x
      · have := hf l[j] (List.getElem_mem x)
        have e : rooms l j = l[j] := by simp [rooms, List.getD_eq_getElem?_getD, x]
        rw [e]
        have := of_decide_eq_false this
        omega
      · have : rooms l j = -1 := getD_out _ _ x
        omega
    · rintro e w' ⟨rfl, rfl⟩
      rw [← List.findIdx?_eq_none_iff] at hf
      have e : rFind l need = (0, false) := by simp only [rFind, hf]
      rw [e]
      exact ⟨rfl, rfl⟩
  · have hf' := hf
    rw [List.findIdx?_eq_some_iff_getElem] at hf
    obtain ⟨hi, h1, h2⟩ := hf
    have hm := hr.most
    refine (find_some b _ t l.length w need i hr (by omega) ?_ (fun j hj => ?_)).mono ?_
    · have e : rooms l i = l[i] := by simp [rooms, List.getD_eq_getElem?_getD, hi]
      rw [e]; exact of_decide_eq_true h1
    · have e : rooms l j = l[j] := by simp [rooms, List.getD_eq_getElem?_getD, show j < l.length by omega]
      rw [e]
      have := h2 j hj
      simpa using this
    · rintro e w' ⟨rfl, rfl⟩
      have e : rFind l need = ((i : Int), true) := by simp only [rFind, hf']
      rw [e]
      exact ⟨rfl, rfl⟩

theorem room_find_nil (w : World) (need : Int) :
    Calls Try.prog 22 #[.pointer none, .int .i64 need] w fun e w' => e = .returned (.tuple #[.int .i64 0, .bool false]) ∧ w = w' := by
  go_enter Try.func22, Try.ntmps22
  go_wp2
  go_ret2
  exact ⟨rfl, rfl⟩

theorem room_get (b : Nat) (l : List Int) (w : World) (p : Int) (hr : RoomIs w b l) :
    Calls Try.prog 25 #[.pointer (some ⟨b, 0, none⟩), .int .i64 p] w fun e w' => e = .returned (.int .i64 (rGet l p)) ∧ w = w' := by
  obtain ⟨t, hr⟩ := hr
  by_cases h1 : p < 0 ∨ 256 ≤ p
  · rw [show rGet l p = -1 from if_pos h1]
    exact get_out b w p h1
  · rw [show rGet l p = rooms l p.toNat from if_neg h1]
    obtain ⟨k, rfl⟩ := Int.eq_ofNat_of_zero_le (show 0 ≤ p by omega)
    rw [Int.toNat_natCast]
    exact get_in b _ t _ w k hr (by omega)

theorem room_get_nil (w : World) (p : Int) :
    Calls Try.prog 25 #[.pointer none, .int .i64 p] w fun e w' => e = .returned (.int .i64 (-1)) ∧ w = w' := by
  go_enter Try.func25, Try.ntmps25
  go_wp2
  go_ret
  exact ⟨rfl, rfl⟩

theorem room_pages (b : Nat) (l : List Int) (w : World) (hr : RoomIs w b l) :
    Calls Try.prog 21 #[.pointer (some ⟨b, 0, none⟩)] w fun e w' => e = .returned (.int .i64 l.length) ∧ w = w' := by
  obtain ⟨t, hr⟩ := hr
  exact pages_any b _ t _ w hr

theorem room_pages_nil (w : World) :
    Calls Try.prog 21 #[.pointer none] w fun e w' => e = .returned (.int .i64 0) ∧ w = w' := by
  go_enter Try.func21, Try.ntmps21
  go_wp2
  go_ret
  exact ⟨rfl, rfl⟩

theorem room_make (w : World) :
    Calls Try.prog 19 #[] w fun e w' => e = .returned (.pointer (some ⟨w.heap.size, 0, none⟩)) ∧ Below w.heap.size w w' ∧ w.heap.size < w'.heap.size ∧ RoomIs w' w.heap.size [] := by
  refine (room_new w).mono ?_
  rintro e w' ⟨rfl, h1, h2, h3⟩
  exact ⟨rfl, h1, h2, _, h3⟩

theorem RefAt.mono {S T : Nat → Prop} {w : World} {b : Nat} {l : List Int} (h : RefAt w b S l) (hs : ∀ k, S k → T k) : RefAt w b T l := by
  obtain ⟨v, h1, h2, h3⟩ := h
  exact ⟨v, h1, h2, fun k e => ⟨hs k (h3 k e).1, (h3 k e).2⟩⟩

theorem RefAt.cell {S : Nat → Prop} {w : World} {b : Nat} {l : List Int} (h : RefAt w b S l) : ∃ A c, w.cell? ⟨b, 0, none⟩ = some (.slice A l.length c) := by
  obtain ⟨v, h1, h2, h3⟩ := h
  obtain ⟨A, cap, rfl, _⟩ := own_form h2
  exact ⟨A, cap, by rw [cell_of h1]; rfl⟩

theorem RefAt.lt {S : Nat → Prop} {w : World} {b : Nat} {l : List Int} (h : RefAt w b S l) : RefAt w b (fun k => S k ∧ k < w.heap.size) l := by
  obtain ⟨v, h1, h2, h3⟩ := h
  exact ⟨v, h1, h2, fun k e => ⟨⟨(h3 k e).1, (h2.lt k e).2⟩, (h3 k e).2⟩⟩

/-- The document's Set; its row lies in a block of S, then in one of these or a new one. -/
theorem ref_set (b : Nat) (S : Nat → Prop) (l : List Int) (w : World) (p r : Int) (hr : RefAt w b S l) :
    Calls Try.prog 23 #[.pointer (some ⟨b, 0, none⟩), .int .i64 p, .int .i64 r] w fun e w' => e = .returned (.int .i64 (rSet l p r).1) ∧ Only (fun k => k = b ∨ S k) w w' ∧ RefAt w' b (fun k => S k ∨ w.heap.size ≤ k) (rSet l p r).2 := by
  by_cases h1 : p < 0 ∨ 256 ≤ p
  · refine (ref_set_arg b w p r (by omega)).mono ?_
    rintro e w' ⟨rfl, rfl⟩
    rw [rSet_arg h1]
    exact ⟨rfl, Only.refl _ _, hr.mono (fun k e => Or.inl e)⟩
  · obtain ⟨k, rfl⟩ := Int.eq_ofNat_of_zero_le (show 0 ≤ p by omega)
    by_cases h2 : (l.length : Int) < k
    · refine (ref_set_form b _ l w k r hr (by omega) (by omega)).mono ?_
      rintro e w' ⟨rfl, rfl⟩
      rw [rSet_form h1 h2]
      exact ⟨rfl, Only.refl _ _, hr.mono (fun k e => Or.inl e)⟩
    · rw [rSet_in h1 h2, Int.toNat_natCast]
      by_cases h3 : k = l.length
      · refine (ref_set_next b _ l w k r (clampR r) hr h3 (by omega) rfl).mono ?_
        rintro e w' ⟨rfl, ho, hx⟩
        rw [setL, if_pos h3]
        exact ⟨rfl, ho.mono (fun k _ e => Or.inl e), hx.mono (fun k e => Or.inr e)⟩
      · refine (ref_set_old b _ l w k r (clampR r) hr (by omega) (by omega) rfl).mono ?_
        rintro e w' ⟨rfl, ho, hx⟩
        rw [setL, if_neg h3]
        exact ⟨rfl, ho, hx.mono (fun k e => Or.inl e)⟩

theorem ref_find_nil (w : World) (need : Int) :
    Calls Try.prog 24 #[.pointer none, .int .i64 need] w fun e w' => e = .returned (.tuple #[.int .i64 0, .bool false]) ∧ w = w' := by
  go_enter Try.func24, Try.ntmps24
  go_wp2
  go_ret2
  exact ⟨rfl, rfl⟩

theorem ref_get_nil (w : World) (p : Int) :
    Calls Try.prog 26 #[.pointer none, .int .i64 p] w fun e w' => e = .returned (.int .i64 (-1)) ∧ w = w' := by
  go_enter Try.func26, Try.ntmps26
  go_wp2
  go_ret
  exact ⟨rfl, rfl⟩

/-- The search, from k on. -/
def FindFrom (l : List Int) (need : Int) (k : Nat) : Prop := ∀ j, j < k → ∀ x, l[j]? = some x → ¬ max need 0 ≤ x

theorem FindFrom.next {l : List Int} {need : Int} {k : Nat} {x : Int} (h : FindFrom l need k) (hx : l[k]? = some x) (hn : ¬ max need 0 ≤ x) : FindFrom l need (k + 1) := by
  intro j hj y hy
  by_cases e : j = k
  · subst e; rw [hx] at hy; injection hy with hy; subst hy; exact hn
  · exact h j (by omega) y hy

theorem FindFrom.found {l : List Int} {need : Int} {k : Nat} {x : Int} (h : FindFrom l need k) (hx : l[k]? = some x) (hn : max need 0 ≤ x) : rFind l need = ((k : Int), true) := by
  have hk : k < l.length := (List.getElem?_eq_some_iff.1 hx).1
  have : l.findIdx? (fun r => decide (max need 0 ≤ r)) = some k := by
    rw [List.findIdx?_eq_some_iff_getElem]
    refine ⟨hk, ?_, fun j hj => ?_⟩
    · rw [List.getElem?_eq_getElem hk] at hx; injection hx with hx; rw [hx]; exact decide_eq_true hn
    · simpa using h j hj _ (List.getElem?_eq_getElem (by omega))
  simp only [rFind, this]

theorem FindFrom.none {l : List Int} {need : Int} (h : FindFrom l need l.length) : rFind l need = (0, false) := by
  have : l.findIdx? (fun r => decide (max need 0 ≤ r)) = Option.none := by
    rw [List.findIdx?_eq_none_iff]
    intro x hx
    obtain ⟨j, hj, rfl⟩ := List.mem_iff_getElem.1 hx
    simpa using h j hj _ (List.getElem?_eq_getElem hj)
  simp only [rFind, this]

set_option maxHeartbeats 400000 in
set_option maxRecDepth 100000 in
theorem ref_find (b : Nat) (S : Nat → Prop) (l : List Int) (w : World) (need : Int) (hr : RefAt w b S l) (hl : l.length ≤ 256) :
    Calls Try.prog 24 #[.pointer (some ⟨b, 0, none⟩), .int .i64 need] w fun e w' => e = .returned (.tuple #[.int .i64 (rFind l need).1, .bool (rFind l need).2]) ∧ w = w' := by
  obtain ⟨v, h1, h2, h3⟩ := hr
  obtain ⟨A, cap, rfl, hle, hcap, hrd⟩ := own_form h2
  have hce : w.cell? ⟨b, 0, none⟩ = some (.slice A l.length cap) := by rw [cell_of h1]; rfl
  have HR := Lib.hid hrd
  clear h1 h2 h3 hrd
  unfold maxLen at hcap
  go_enter Try.func24, Try.ntmps24
  go_wp2
  go_loop [15] (fun v => ∃ k : Nat, k ≤ l.length ∧ v = .int .i64 k ∧ FindFrom l need k) (fun v => l.length - (intOf v).toNat)
  case atStart => exact ⟨0, Nat.zero_le _, rfl, fun j hj => absurd hj (by omega)⟩
  case round =>
    obtain ⟨k, hk, rfl, hF⟩ := hrel
    have HF := Lib.hid hF
    clear hF
    by_cases hlt : k < l.length
    · obtain ⟨ab, ao, u, hA, _, hu, hc⟩ := HR.out.get hlt
      have hx : l[k]? = some l[k] := List.getElem?_eq_getElem hlt
      obtain ⟨x, hX⟩ : ∃ x, l[k]? = some x := ⟨_, hx⟩
      have hue : u = .int .i64 x := by
        rw [List.getElem?_map, hX] at hu
        injection hu with hu; exact hu.symm
      have HX := Lib.hid hX
      clear hu hx hX
      subst hA hue
      by_cases hn : max need 0 ≤ x
      · have e1 : need ≤ x := by omega
        have e2 : 0 ≤ x := by omega
        have HE := Lib.hid (HF.out.found HX.out hn)
        clear hn
        go_wp2
        go_ret2
        rw [HE.out]; exact ⟨rfl, rfl⟩
      · have HN := Lib.hid (HF.out.next HX.out hn)
        have hor : x < need ∨ x < 0 := by omega
        clear hn
        rcases hor with h | h
        · go_wp2
          go_round
          case rel => exact ⟨k + 1, by omega, by go_num, HN.out⟩
          case measure => simp [intOf]; omega
        · go_wp2
          all_goals
            go_round
            case rel => exact ⟨k + 1, by omega, by go_num, HN.out⟩
            case measure => simp [intOf]; omega
    · obtain rfl : k = l.length := by omega
      have HE := Lib.hid (HF.out.none)
      go_wp2
      go_ret2
      rw [HE.out]; exact ⟨rfl, rfl⟩

set_option maxHeartbeats 400000 in
set_option maxRecDepth 100000 in
theorem ref_get (b : Nat) (S : Nat → Prop) (l : List Int) (w : World) (p : Int) (hr : RefAt w b S l) (hl : l.length ≤ 256) :
    Calls Try.prog 26 #[.pointer (some ⟨b, 0, none⟩), .int .i64 p] w fun e w' => e = .returned (.int .i64 (rGet l p)) ∧ w = w' := by
  obtain ⟨v, h1, h2, h3⟩ := hr
  obtain ⟨A, cap, rfl, hle, hcap, hrd⟩ := own_form h2
  have hce : w.cell? ⟨b, 0, none⟩ = some (.slice A l.length cap) := by rw [cell_of h1]; rfl
  have HR := Lib.hid hrd
  clear h1 h2 h3 hrd
  unfold maxLen at hcap
  by_cases h0 : p < 0
  · rw [show rGet l p = -1 from if_pos (Or.inl h0)]
    go_enter Try.func26, Try.ntmps26
    go_wp2
    go_ret
    exact ⟨rfl, rfl⟩
  · obtain ⟨k, rfl⟩ := Int.eq_ofNat_of_zero_le (show 0 ≤ p by omega)
    have d0 : decide ((k : Int) < 0) = false := by simp
    by_cases hlt : k < l.length
    · obtain ⟨ab, ao, u, hA, _, hu, hc⟩ := HR.out.get hlt
      have hue : u = .int .i64 (rGet l k) := by
        rw [show rGet l k = rooms l k from if_neg (by omega)]
        rw [List.getElem?_map, List.getElem?_eq_getElem hlt] at hu
        injection hu with hu
        rw [← hu]
        simp [rooms, hlt]
      obtain ⟨x, hx⟩ : ∃ x, x = rGet l k := ⟨_, rfl⟩
      rw [← hx] at hue ⊢
      clear hx hu
      subst hA hue
      go_enter Try.func26, Try.ntmps26
      go_wp2
      go_ret
      exact ⟨rfl, rfl⟩
    · have e : rGet l k = -1 := by
        unfold rGet
        split
        · rfl
        · exact getD_out _ _ (by simp; omega)
      rw [e]
      clear e
      go_enter Try.func26, Try.ntmps26
      go_wp2
      go_ret
      exact ⟨rfl, rfl⟩

end Go.Proofs.Ytbibmgcklilpmaa
