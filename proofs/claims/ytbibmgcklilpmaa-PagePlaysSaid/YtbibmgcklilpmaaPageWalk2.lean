/- The contracts of package page: New, far, right, bytesOf, free, Room, Slots, Used. No condition. -/
import Derived.Test.YtbibmgcklilpmaaPageWalk
import Derived.Deep.LoopGhost
namespace Go.Lap
open Go.RowKit

/-- Nothing that was there has turned. -/
abbrev Quiet (w w' : World) : Prop := Only (fun _ => False) w w'

def slotAt (L : List Slot) (i : Int) : Slot := if i < 0 then none else (L[i.toNat]?).join

theorem slotAt_nat (L : List Slot) (i : Nat) : slotAt L i = (L[i]?).join := by
  unfold slotAt
  rw [if_neg (by omega), Int.toNat_natCast]

theorem slotAt_some {L : List Slot} {i : Int} {f : Nat} {t : Tup} (h : slotAt L i = some (f, t)) : ∃ k : Nat, i = k ∧ k < L.length ∧ L[k]? = some (some (f, t)) := by
  unfold slotAt at h
  split at h
  · cases h
  · rename_i h0
    obtain ⟨k, rfl⟩ := Int.eq_ofNat_of_zero_le (show 0 ≤ i by omega)
    rw [Int.toNat_natCast] at h
    rcases hk : L[k]? with _ | s
    · rw [hk] at h; cases h
    · rw [hk] at h
      have : s = some (f, t) := h
      subst this
      exact ⟨k, rfl, (List.getElem?_eq_some_iff.1 hk).1, hk⟩

/-- The least slot that is free; or the next one. -/
def freeIdx (L : List Slot) : Nat := (L.findIdx? (fun s => s.isNone)).getD L.length

theorem freeIdx_le (L : List Slot) : freeIdx L ≤ L.length := by
  unfold freeIdx
  rcases h : L.findIdx? (fun s => s.isNone) with _ | i
  · rw [h]; exact Nat.le_refl _
  · rw [h]
    rw [List.findIdx?_eq_some_iff_getElem] at h
    obtain ⟨hi, _⟩ := h
    exact Nat.le_of_lt hi

theorem freeIdx_free (L : List Slot) : ∀ s, L[freeIdx L]? = some s → s = none := by
  intro s hs
  unfold freeIdx at hs
  rcases h : L.findIdx? (fun s => s.isNone) with _ | i
  · rw [h] at hs
    simp at hs
  · rw [h] at hs
    rw [List.findIdx?_eq_some_iff_getElem] at h
    obtain ⟨hi, h1, _⟩ := h
    simp only [Option.getD_some] at hs
    rw [List.getElem?_eq_getElem hi] at hs
    injection hs with hs
    subst hs
    simpa using h1

theorem freeIdx_at {L : List Slot} {k : Nat} (hk : L[k]? = some none) (h : ∀ j, j < k → ∀ s, L[j]? = some s → s ≠ none) : freeIdx L = k := by
  have hkl : k < L.length := (List.getElem?_eq_some_iff.1 hk).1
  have : L.findIdx? (fun s => s.isNone) = some k := by
    rw [List.findIdx?_eq_some_iff_getElem]
    refine ⟨hkl, ?_, fun j hj => ?_⟩
    · rw [List.getElem?_eq_getElem hkl] at hk; injection hk with hk; rw [hk]; rfl
    · have := h j hj _ (List.getElem?_eq_getElem (by omega))
      simpa using this
  unfold freeIdx
  rw [this]; rfl

theorem freeIdx_none {L : List Slot} (h : ∀ j, j < L.length → ∀ s, L[j]? = some s → s ≠ none) : freeIdx L = L.length := by
  have : L.findIdx? (fun s => s.isNone) = Option.none := by
    rw [List.findIdx?_eq_none_iff]
    intro s hs
    obtain ⟨j, hj, rfl⟩ := List.mem_iff_getElem.1 hs
    have := h j hj _ (List.getElem?_eq_getElem hj)
    cases hx : L[j]
    · exact absurd hx this
    · rfl
  unfold freeIdx
  rw [this]; rfl

/-- What slots and versions take. -/
def spent (L : List Slot) : Nat := (L.map (fun s => 4 + Slot.size s)).sum

theorem spent_snoc (L : List Slot) (s : Slot) : spent (L ++ [s]) = spent L + (4 + Slot.size s) := by simp [spent]

theorem spent_take_succ (L : List Slot) (k : Nat) (s : Slot) (h : L[k]? = some s) : spent (L.take (k + 1)) = spent (L.take k) + (4 + Slot.size s) := by
  rw [← spent_snoc]
  congr 1
  rw [List.take_add_one, h]; rfl

def roomOf (L : List Slot) : Int := max (478 - spent L - (if freeIdx L = L.length then 4 else 0)) (-1)

def usedOf (L : List Slot) : Nat := (L.filter (fun s => s.isSome)).length

theorem usedOf_take_succ (L : List Slot) (k : Nat) (s : Slot) (h : L[k]? = some s) : usedOf (L.take (k + 1)) = usedOf (L.take k) + (if s.isSome then 1 else 0) := by
  have e : L.take (k + 1) = L.take k ++ [s] := by rw [List.take_add_one, h]; rfl
  unfold usedOf
  rw [e, List.filter_append, List.length_append]
  cases s <;> rfl

end Go.Lap
namespace Go.Proofs.Ytbibmgcklilpmaa
open Go.RowKit Go.Lap

/-- Block b is a page with these slots. -/
def PageAt (w : World) (b : Nat) (L : List Slot) (st : Nat) : Prop := ∃ g, Bk w b 512 pageT g ∧ Pg g L st

theorem PageAt.kept {S : Nat → Prop} {w w' : World} {b st : Nat} {L : List Slot} (h : PageAt w b L st) (ho : Only S w w') (hn : ¬ S b) : PageAt w' b L st := by
  obtain ⟨g, h1, h2⟩ := h
  exact ⟨g, h1.kept ho hn, h2⟩
theorem PageAt.lt {w : World} {b st : Nat} {L : List Slot} (h : PageAt w b L st) : b < w.heap.size := by
  obtain ⟨g, h1, h2⟩ := h
  exact h1.lt
theorem PageAt.len {w : World} {b st : Nat} {L : List Slot} (h : PageAt w b L st) : L.length ≤ 127 := by
  obtain ⟨g, h1, h2⟩ := h
  have := h2.fit
  have := h2.le
  omega

theorem page_count (b st : Nat) (L : List Slot) (w : World) (h : PageAt w b L st) :
    Calls Try.prog 78 #[.pointer (some ⟨b, 0, none⟩)] w fun e w' => e = .returned (.int .i64 L.length) ∧ w = w' := by
  obtain ⟨g, h1, h2⟩ := h
  have := count_any b g w h1 h2.lt
  rw [h2.cnt] at this
  exact this
theorem page_start (b st : Nat) (L : List Slot) (w : World) (h : PageAt w b L st) :
    Calls Try.prog 79 #[.pointer (some ⟨b, 0, none⟩)] w fun e w' => e = .returned (.int .i64 st) ∧ w = w' := by
  obtain ⟨g, h1, h2⟩ := h
  have := start_any b g w h1 h2.lt
  rw [h2.st] at this
  exact this

theorem zero_page : Try.zeroCells139 = tab 512 (byteF (fun _ => 0)) := by
  apply tab_of
  · kernel_rfl
  · have h : (List.range 512).all (fun i => match Try.zeroCells139[i]? with | some (.int .u8 0) => true | _ => false) = true := by kernel_rfl
    intro i hi
    have := List.all_eq_true.1 h i (List.mem_range.2 hi)
    revert this
    split
    · rename_i e; intro _; exact e
    · intro x; cases x

set_option maxHeartbeats 400000 in
set_option maxRecDepth 100000 in
theorem page_new (w : World) :
    Calls Try.prog 29 #[] w fun e w' => e = .returned (.pointer (some ⟨w.heap.size, 0, none⟩)) ∧ Quiet w w' ∧ w.heap.size < w'.heap.size ∧ PageAt w' w.heap.size [] 512 := by
  go_enter Try.func29, Try.ntmps29
  go_wp2_with fail
  refine (pset_any _ 0 512 (fun _ => 0) _ (by unfold Bk; rw [alloc_new, zero_page]) (by omega) (by omega)).mono ?_
  rintro e w1 ⟨rfl, ho, hb⟩
  have HO := Lib.hid ho
  have HB := Lib.hid hb
  clear ho hb
  go_wp2
  go_ret
  refine ⟨rfl, ((Only.refl _ _).alloc _).trans' HO.out (fun k hk e => by omega), by have := HO.out.size; simp at this; omega, _, HB.out, Pg.new⟩

set_option maxHeartbeats 400000 in
set_option maxRecDepth 100000 in
theorem far_any (pg sl : Int) (w : World) :
    Calls Try.prog 83 #[.agg #[.int .i64 pg, .int .i64 sl]] w fun e w' => e = .returned (.bool (farB pg sl)) ∧ Quiet w w' := by
  have hq : Hid (Quiet w (w.alloc (.cells #[.int .i64 pg, .int .i64 sl] 51))) := (Only.refl _ _).alloc _
  by_cases h1 : pg = -1
  · have hF : farB pg sl = (pg != sl) := by
      unfold farB; rw [if_pos (Or.inl h1)]; rw [Bool.eq_iff_iff]; simp
    rw [hF]
    have HF := Lib.hid hF
    clear hF
    have hb : (pg == -1) = true := by simp [h1]
    clear h1
    go_enter Try.func83, Try.ntmps83
    go_wp2
    go_ret
    exact ⟨rfl, hq.out⟩
  · have hb : (pg == -1) = false := by simp [h1]
    by_cases h2 : sl = -1
    · have hF : farB pg sl = (pg != sl) := by
        unfold farB; rw [if_pos (Or.inr h2)]; rw [Bool.eq_iff_iff]; simp
      rw [hF]
      clear hF
      have hb2 : (sl == -1) = true := by simp [h2]
      clear h1 h2
      go_enter Try.func83, Try.ntmps83
      go_wp2
      go_ret
      exact ⟨rfl, hq.out⟩
    · have hF : farB pg sl = decide (pg < 0 ∨ 65536 ≤ pg ∨ sl < 0 ∨ 65535 ≤ sl) := by
        unfold farB; rw [if_neg (by omega)]
      have hb2 : (sl == -1) = false := by simp [h2]
      have HF := Lib.hid hF
      clear h1 h2 hF
      by_cases a1 : pg < 0
      · have hT : Hid (farB pg sl = true) := by rw [HF.out]; exact decide_eq_true (by omega)
        go_enter Try.func83, Try.ntmps83
        go_wp2
        go_ret
        rw [hT.out]; exact ⟨rfl, hq.out⟩
      · have d1 : decide (pg < 0) = false := decide_eq_false a1
        by_cases a2 : 65536 ≤ pg
        · have hT : Hid (farB pg sl = true) := by rw [HF.out]; exact decide_eq_true (by omega)
          go_enter Try.func83, Try.ntmps83
          go_wp2
          go_ret
          rw [hT.out]; exact ⟨rfl, hq.out⟩
        · have d2 : decide (65536 ≤ pg) = false := decide_eq_false a2
          by_cases a3 : sl < 0
          · have hT : Hid (farB pg sl = true) := by rw [HF.out]; exact decide_eq_true (by omega)
            go_enter Try.func83, Try.ntmps83
            go_wp2
            go_ret
            rw [hT.out]; exact ⟨rfl, hq.out⟩
          · have d3 : decide (sl < 0) = false := decide_eq_false a3
            have hT : Hid (farB pg sl = decide (65535 ≤ sl)) := by rw [HF.out]; simp only [decide_eq_decide]; exact ⟨fun h => by omega, fun h => by omega⟩
            go_enter Try.func83, Try.ntmps83
            go_wp2
            go_ret
            rw [hT.out]; exact ⟨rfl, hq.out⟩

/-- A version as a value: its data lie at A. -/
def tupV (t : Tup) (A : Option Addr) (cap : Nat) : Value := .agg #[.int .u64 t.row, .int .u64 t.xmin, .int .u64 t.xmax, .int .i64 t.pg, .int .i64 t.sl, .slice A t.data.length cap]

/-- 'right' computed on numbers alone. -/
def rightF (row xmin xmax : Nat) (far : Bool) (n : Nat) : Bool := decide (max (max (row : Int) xmin) xmax ≤ 1099511627776) && (!far && decide ((n : Int) ≤ 200))

theorem rightF_eq (t : Tup) : rightF t.row t.xmin t.xmax (farB t.pg t.sl) t.data.length = t.rightB := by
  unfold rightF Tup.rightB
  rw [Bool.eq_iff_iff]
  simp only [Bool.and_eq_true, decide_eq_true_eq, Bool.not_eq_true']
  constructor
  · rintro ⟨h1, h2, h3⟩
    exact ⟨by omega, by omega, by omega, h2, by omega⟩
  · rintro ⟨h1, h2, h3, h4, h5⟩
    exact ⟨by omega, h4, by omega⟩

set_option maxHeartbeats 400000 in
set_option maxRecDepth 100000 in
theorem right_core (row xmin xmax n cap : Nat) (pg sl : Int) (A : Option Addr) (w : World) :
    Calls Try.prog 75 #[.agg #[.int .u64 row, .int .u64 xmin, .int .u64 xmax, .int .i64 pg, .int .i64 sl, .slice A n cap]] w fun e w' => e = .returned (.bool (rightF row xmin xmax (farB pg sl) n)) ∧ Quiet w w' := by
  have HQ : Hid (Quiet w (w.alloc (.cells #[.int .u64 row, .int .u64 xmin, .int .u64 xmax, .int .i64 pg, .int .i64 sl, .slice A n cap] 54))) := (Only.refl _ _).alloc _
  have hf := far_any pg sl
  generalize farB pg sl = fb at hf ⊢
  have HF := Lib.hid hf
  clear hf
  by_cases h1 : max (max (row : Int) xmin) xmax ≤ 1099511627776
  · have e1 : Hid (rightF row xmin xmax fb n = (!fb && decide ((n : Int) ≤ 200))) := by unfold rightF; rw [decide_eq_true h1]; rfl
    cases fb
    · all_goals
        have e2 : Hid (rightF row xmin xmax false n = decide ((n : Int) ≤ 200)) := e1.out
        go_enter Try.func75, Try.ntmps75
        go_wp2_with fail
        all_goals
          refine (HF.out _).mono ?_
          rintro e w1 ⟨rfl, hq1⟩
          have hblk : w1.heap[w.heap.size]? = _ := hq1.get (alloc_new w _) (fun x => x)
          have hc5 : w1.cell? ⟨w.heap.size, 5, none⟩ = some (.slice A n cap) := by rw [cell_of hblk]; rfl
          have HQ1 := Lib.hid (HQ.out.trans hq1)
          clear hblk hq1
          go_wp2
          go_ret
          rw [e2.out]
          exact ⟨rfl, HQ1.out⟩
    · have e2 : Hid (rightF row xmin xmax true n = false) := e1.out
      go_enter Try.func75, Try.ntmps75
      go_wp2_with fail
      all_goals
        refine (HF.out _).mono ?_
        rintro e w1 ⟨rfl, hq1⟩
        have HQ1 := Lib.hid (HQ.out.trans hq1)
        clear hq1
        go_wp2
        go_ret
        rw [e2.out]
        exact ⟨rfl, HQ1.out⟩
  · have e2 : Hid (rightF row xmin xmax fb n = false) := by unfold rightF; rw [decide_eq_false h1]; rfl
    have h3 : (1099511627776 : Int) < row ∨ (1099511627776 : Int) < xmin ∨ (1099511627776 : Int) < xmax := by omega
    clear h1
    go_enter Try.func75, Try.ntmps75
    rcases h3 with h3 | h3 | h3
    all_goals
      go_wp2_with fail
      all_goals
        go_ret
        rw [e2.out]
        exact ⟨rfl, HQ.out⟩

theorem right_any (t : Tup) (A : Option Addr) (cap : Nat) (w : World) :
    Calls Try.prog 75 #[tupV t A cap] w fun e w' => e = .returned (.bool t.rightB) ∧ Quiet w w' := by
  rw [← rightF_eq]
  exact right_core t.row t.xmin t.xmax t.data.length cap t.pg t.sl A w

end Go.Proofs.Ytbibmgcklilpmaa
