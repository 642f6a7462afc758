/- The contracts of package room: New, Set, Find, Get, Pages. No condition. -/
import Derived.Test.YtbibmgcklilpmaaRoomPlain
import Derived.BigRegion
import Derived.BigQuiet
import Derived.Deep.QuietTactic
import Derived.Deep.LoopGhost
namespace Go.Proofs.Ytbibmgcklilpmaa
open Go.RowKit Go.Lap

/-- A room map's cells. -/
def roomF (t : Nat → Int) (n : Nat) (i : Nat) : Value := if i = 512 then .int .i64 n else .int .i64 (t i)

theorem roomF_t (t : Nat → Int) (n i : Nat) (h : i < 512) : roomF t n i = .int .i64 (t i) := by
  unfold roomF; rw [if_neg (by omega)]
theorem roomF_n (t : Nat → Int) (n : Nat) : roomF t n 512 = .int .i64 n := by simp [roomF]

structure RoomAt (w : World) (b : Nat) (l t : Nat → Int) (n : Nat) : Prop where
  blk : w.heap[b]? = some (.cells (tab 513 (roomF t n)) 136 (0, 0))
  tree : Tree l t
  low : ∀ i, -1 ≤ l i
  high : ∀ i, l i ≤ 512
  out : ∀ i, n ≤ i → l i = -1
  most : n ≤ 256

theorem RoomAt.cell {w : World} {b : Nat} {l t : Nat → Int} {n : Nat} (h : RoomAt w b l t n) (i : Nat) (hi : i < 512) : w.cell? ⟨b, i, none⟩ = some (.int .i64 (t i)) := by
  rw [cell_of h.blk, tab_get (by omega), roomF_t _ _ _ hi]
theorem RoomAt.count {w : World} {b : Nat} {l t : Nat → Int} {n : Nat} (h : RoomAt w b l t n) : w.cell? ⟨b, 512, none⟩ = some (.int .i64 n) := by
  rw [cell_of h.blk, tab_get (by omega), roomF_n]

set_option maxHeartbeats 400000 in
set_option maxRecDepth 100000 in
theorem pages_any (b : Nat) (l t : Nat → Int) (n : Nat) (w : World) (hr : RoomAt w b l t n) :
    Calls Try.prog 21 #[.pointer (some ⟨b, 0, none⟩)] w fun e w' => e = .returned (.int .i64 n) ∧ w = w' := by
  have hc := hr.count
  clear hr
  go_enter Try.func21, Try.ntmps21
  go_wp2
  go_ret
  exact ⟨rfl, rfl⟩

set_option maxHeartbeats 400000 in
set_option maxRecDepth 100000 in
theorem get_in (b : Nat) (l t : Nat → Int) (n : Nat) (w : World) (i : Nat) (hr : RoomAt w b l t n) (hi : i < 256) :
    Calls Try.prog 25 #[.pointer (some ⟨b, 0, none⟩), .int .i64 i] w fun e w' => e = .returned (.int .i64 (l i)) ∧ w = w' := by
  have hc := hr.cell (256 + i) (by omega)
  rw [hr.tree.leaf i hi] at hc
  clear hr
  go_enter Try.func25, Try.ntmps25
  go_wp2
  go_ret
  exact ⟨rfl, rfl⟩

set_option maxHeartbeats 400000 in
set_option maxRecDepth 100000 in
theorem get_out (b : Nat) (w : World) (i : Int) (hi : i < 0 ∨ 256 ≤ i) :
    Calls Try.prog 25 #[.pointer (some ⟨b, 0, none⟩), .int .i64 i] w fun e w' => e = .returned (.int .i64 (-1)) ∧ w = w' := by
  rcases hi with hi | hi
  · go_enter Try.func25, Try.ntmps25
    go_wp2
    go_ret
    exact ⟨rfl, rfl⟩
  · have h0 : ¬ i < 0 := by omega
    go_enter Try.func25, Try.ntmps25
    go_wp2
    go_ret
    exact ⟨rfl, rfl⟩

set_option maxHeartbeats 400000 in
set_option maxRecDepth 100000 in
theorem find_none (b : Nat) (l t : Nat → Int) (n : Nat) (w : World) (need : Int) (hr : RoomAt w b l t n) (hn : ∀ j, j < 256 → l j < max need 0) :
    Calls Try.prog 22 #[.pointer (some ⟨b, 0, none⟩), .int .i64 need] w fun e w' => e = .returned (.tuple #[.int .i64 0, .bool false]) ∧ w = w' := by
  have hc := hr.cell 1 (by omega)
  have h1 := hr.tree.none hn
  clear hr hn
  go_enter Try.func22, Try.ntmps22
  go_wp2
  all_goals
    go_ret2
    exact ⟨rfl, rfl⟩

set_option maxHeartbeats 400000 in
set_option maxRecDepth 100000 in
theorem find_some (b : Nat) (l t : Nat → Int) (n : Nat) (w : World) (need : Int) (k : Nat) (hr : RoomAt w b l t n) (hk : k < 256) (hl : max need 0 ≤ l k) (hn : ∀ j, j < k → l j < max need 0) :
    Calls Try.prog 22 #[.pointer (some ⟨b, 0, none⟩), .int .i64 need] w fun e w' => e = .returned (.tuple #[.int .i64 k, .bool true]) ∧ w = w' := by
  have hc := hr.cell 1 (by omega)
  have h1 := hr.tree.some hk hl
  have HR := Lib.hid hr
  have HN := Lib.hid hn
  clear hr hn
  go_enter Try.func22, Try.ntmps22
  go_wp2
  go_loop [6] (fun v => ∃ i h : Nat, h ≤ 8 ∧ Down l t (max need 0) k i h ∧ v = .int .i64 i) (fun v => 512 - (intOf v).toNat)
  case atStart => exact ⟨1, 8, by omega, Down.top hk, rfl⟩
  case round =>
    obtain ⟨i, h, hh, hD, rfl⟩ := hrel
    cases h with
    | zero =>
      have hi := hD.end_
      have HI := Lib.hid hi
      have : 256 ≤ i := by omega
      have : i < 512 := by omega
      clear hi hD
      go_wp2
      go_ret2
      exact ⟨by rw [HI.out]; simp; omega, rfl⟩
    | succ h =>
      have hi := hD.inner
      have h1 : 1 ≤ i := hD.1
      have hcell := HR.out.cell (i * 2) (by omega)
      have HD := Lib.hid hD
      clear hD
      by_cases ht : t (i * 2) < max need 0
      · have HDn := Lib.hid (HD.out.right HR.out.tree hk hl (by rw [Nat.mul_comm 2 i]; exact ht))
        go_wp2
        go_round
        case rel => exact ⟨2 * i + 1, h, by omega, HDn.out, by go_num⟩
        case measure => simp [intOf]; omega
      · have HDn := Lib.hid (HD.out.left HR.out.tree hk hl HN.out (by rw [Nat.mul_comm 2 i]; exact ht))
        go_wp2
        go_round
        case rel => exact ⟨2 * i, h, by omega, HDn.out, by go_num⟩
        case measure => simp [intOf]; omega

/-- In the loop of Set: all is right but what stands above i. -/
structure RoomW (w wr : World) (b : Nat) (l : Nat → Int) (n i : Nat) : Prop where
  lim : 1 ≤ i ∧ i < 512
  only : Only (· = b) w wr
  blk : ∃ t, wr.heap[b]? = some (.cells (tab 513 (roomF t n)) 136 (0, 0)) ∧ TreeBut l t i

/-- What a round of it reads and leaves. -/
structure RoomS (w wr : World) (b : Nat) (l t : Nat → Int) (n i : Nat) : Prop where
  c1 : wr.cell? ⟨b, 2 * (i / 2), none⟩ = some (.int .i64 (t (2 * (i / 2))))
  c2 : wr.cell? ⟨b, 2 * (i / 2) + 1, none⟩ = some (.int .i64 (t (2 * (i / 2) + 1)))
  c3 : wr.cell? ⟨b, i / 2, none⟩ = some (.int .i64 (t (i / 2)))
  c4 : wr.frozen? ⟨b, i / 2, none⟩ = false
  next : RoomW w (wr.setCell ⟨b, i / 2, none⟩ (.int .i64 (max (t (2 * (i / 2))) (t (2 * (i / 2) + 1))))) b l n (i / 2)

theorem roomF_upd (t : Nat → Int) (n i : Nat) (v : Int) (h : i < 512) : (fun j => if j = i then Value.int .i64 v else roomF t n j) = roomF (upd t i v) n := by
  funext j
  unfold roomF upd
  by_cases e : j = i
  · subst e; simp [show ¬ j = 512 by omega]
  · simp [e]

theorem RoomW.step {w wr : World} {b : Nat} {l : Nat → Int} {n i : Nat} (h : RoomW w wr b l n i) (hi : 1 < i) : ∃ t, RoomS w wr b l t n i := by
  obtain ⟨hl, ho, t, hb, ht⟩ := h
  refine ⟨t, ?_, ?_, ?_, frozen_of hb _, ⟨by omega, ho.setCell (fun _ => rfl) _, upd t (i / 2) (max (t (2 * (i / 2))) (t (2 * (i / 2) + 1))), ?_, ht.step hi (by omega)⟩⟩
  · rw [cell_of hb, tab_get (by omega), roomF_t _ _ _ (by omega)]
  · rw [cell_of hb, tab_get (by omega), roomF_t _ _ _ (by omega)]
  · rw [cell_of hb, tab_get (by omega), roomF_t _ _ _ (by omega)]
  · rw [set_same hb, tab_set, roomF_upd _ _ _ _ (by omega)]

theorem RoomW.start {w : World} {b : Nat} {l t : Nat → Int} {n p : Nat} (hr : RoomAt w b l t n) (hp : p ≤ n) (hp' : p < 256) (v m : Int) (hm : m = ((max n (p + 1) : Nat) : Int)) :
    RoomW w ((w.setCell ⟨b, 512, none⟩ (.int .i64 m)).setCell ⟨b, 256 + p, none⟩ (.int .i64 v)) b (upd l p v) (max n (p + 1)) (256 + p) := by
  have ho : Only (· = b) w w := Only.refl _ _
  refine ⟨by omega, (ho.setCell (p := ⟨b, 512, none⟩) (fun _ => rfl) _).setCell (p := ⟨b, 256 + p, none⟩) (fun _ => rfl) _, upd t (256 + p) v, ?_, TreeBut.start hr.tree hp' v⟩
  have e : (fun j => if j = 512 then Value.int .i64 m else roomF t n j) = roomF t (max n (p + 1)) := by
    funext j
    unfold roomF
    by_cases e : j = 512
    · simp [e, hm]
    · simp [e]
  rw [set_same (set_same hr.blk _ _), tab_set, e, tab_set, roomF_upd _ _ _ _ (by omega)]

theorem RoomW.drew {w wr : World} {b : Nat} {l : Nat → Int} {n i : Nat} (h : RoomW w wr b l n i) : RoomW w wr.drew b l n i := ⟨h.lim, h.only.drew, h.blk⟩

theorem RoomW.done {w wr : World} {b : Nat} {l t : Nat → Int} {n p i : Nat} {v : Int} (h : RoomW w wr b (upd l p v) (max n (p + 1)) i) (hi : ¬ 1 < i) (hr : RoomAt w b l t n) (hp' : p < 256)
    (h1 : -1 ≤ v) (h2 : v ≤ 512) : Only (· = b) w wr ∧ ∃ t', RoomAt wr b (upd l p v) t' (max n (p + 1)) := by
  obtain ⟨hl, ho, t, hb, ht⟩ := h
  refine ⟨ho, t, hb, ht.done (by omega), fun j => ?_, fun j => ?_, fun j hj => ?_, ?_⟩
  · by_cases e : j = p
    · subst e; rw [upd_same]; exact h1
    · rw [upd_other _ _ e]; exact hr.low j
  · by_cases e : j = p
    · subst e; rw [upd_same]; exact h2
    · rw [upd_other _ _ e]; exact hr.high j
  · rw [upd_other _ _ (by omega)]; exact hr.out j (by omega)
  · have := hr.most; omega

set_option maxHeartbeats 400000 in
set_option maxRecDepth 100000 in
theorem set_in (b : Nat) (l t : Nat → Int) (n : Nat) (w : World) (p : Nat) (r : Int) (hr : RoomAt w b l t n) (hp : p ≤ n) (hp' : p < 256) :
    Calls Try.prog 20 #[.pointer (some ⟨b, 0, none⟩), .int .i64 p, .int .i64 r] w fun e w' => e = .returned (.int .i64 0) ∧ Only (· = b) w w' ∧
      ∃ t', RoomAt w' b (upd l p (min (max r (-1)) 512)) t' (max n (p + 1)) := by
  have hc := hr.count
  have hc' := hr.cell (256 + p) (by omega)
  have hf := frozen_of hr.blk 512
  have hf' := frozen_of hr.blk (256 + p)
  have hne : ¬ 256 + p = 512 := by omega
  have d1 : decide ((p : Int) < 0) = false := by simp
  have d2 : decide ((256 : Int) ≤ p) = false := by simp; omega
  have d3 : decide (n < p) = false := by simp; omega
  have HS := Lib.hid (RoomW.start hr hp hp' (min (max r (-1)) 512) (max (n : Int) (p + 1)) (by omega))
  have hb := lt_of_get hr.blk
  have HR := Lib.hid hr
  clear hr
  go_enter Try.func20, Try.ntmps20
  go_wp2
  go_loopw [7] (fun v wr => ∃ i : Nat, v = .int .i64 i ∧ RoomW w wr b (upd l p (min (max r (-1)) 512)) (max n (p + 1)) i) (fun v _ => (intOf v).toNat)
  case atStart => exact ⟨256 + p, by go_num, HS.out⟩
  case round =>
    obtain ⟨i, rfl, hW⟩ := hrel
    have hi5 := hW.lim
    by_cases hi : 1 < i
    · obtain ⟨t1, hT⟩ := hW.step hi
      have c1 := hT.c1
      have c2 := hT.c2
      have c3 := hT.c3
      have c4 := hT.c4
      have HW := Lib.hid hT.next
      clear hW hT
      go_wp2
      go_region
      go_roundw
      case rel => ((repeat apply Exists.intro); exact ⟨⟨i / 2, by go_num, HW.out.drew⟩, rfl⟩)
      case measure => simp [intOf]; omega
    · have HW := Lib.hid hW
      clear hW
      go_wp2
      go_ret
      exact ⟨rfl, HW.out.done hi HR.out hp' (by omega) (by omega)⟩

set_option maxHeartbeats 400000 in
set_option maxRecDepth 100000 in
theorem set_arg (b : Nat) (w : World) (p r : Int) (hp : p < 0 ∨ 256 ≤ p) :
    Calls Try.prog 20 #[.pointer (some ⟨b, 0, none⟩), .int .i64 p, .int .i64 r] w fun e w' => e = .returned (.int .i64 1) ∧ w = w' := by
  rcases hp with hi | hi
  · go_enter Try.func20, Try.ntmps20
    go_wp2
    go_ret
    exact ⟨rfl, rfl⟩
  · have h0 : ¬ p < 0 := by omega
    go_enter Try.func20, Try.ntmps20
    go_wp2
    go_ret
    exact ⟨rfl, rfl⟩

set_option maxHeartbeats 400000 in
set_option maxRecDepth 100000 in
theorem set_form (b : Nat) (l t : Nat → Int) (n : Nat) (w : World) (p : Nat) (r : Int) (hr : RoomAt w b l t n) (hp : n < p) (hp' : p < 256) :
    Calls Try.prog 20 #[.pointer (some ⟨b, 0, none⟩), .int .i64 p, .int .i64 r] w fun e w' => e = .returned (.int .i64 3) ∧ w = w' := by
  have hc := hr.count
  clear hr
  go_enter Try.func20, Try.ntmps20
  go_wp2
  go_ret
  exact ⟨rfl, rfl⟩

theorem zero_room : Try.zeroCells136 = tab 513 (fun _ => .int .i64 0) := by
  apply tab_of
  · kernel_rfl
  · have h : (List.range 513).all (fun i => match Try.zeroCells136[i]? with | some (.int .i64 0) => true | _ => false) = true := by kernel_rfl
    intro i hi
    have := List.all_eq_true.1 h i (List.mem_range.2 hi)
    revert this
    split
    · rename_i e; intro _; exact e
    · intro x; cases x

/-- The rooms while New lays them. -/
def newF (k : Nat) (i : Nat) : Value := if i < k then .int .i64 (-1) else .int .i64 0

theorem new_step {wr : World} {b i : Nat} (h : wr.heap[b]? = some (.cells (tab 513 (newF i)) 136 (0, 0))) :
    (wr.setCell ⟨b, i, none⟩ (.int .i64 (-1))).heap[b]? = some (.cells (tab 513 (newF (i + 1))) 136 (0, 0)) := by
  rw [set_same h, tab_set]
  have e : (fun j => if j = i then Value.int .i64 (-1) else newF i j) = newF (i + 1) := by
    funext j
    unfold newF
    by_cases e : j = i
    · subst e; simp
    · by_cases e' : j < i
      · simp [e, e', show j < i + 1 by omega]
      · simp [e, e', show ¬ j < i + 1 by omega]
  rw [e]

theorem new_done {wr : World} {b i : Nat} (h : wr.heap[b]? = some (.cells (tab 513 (newF i)) 136 (0, 0))) (hi : i = 512) :
    RoomAt wr b (fun _ => -1) (fun _ => -1) 0 := by
  refine ⟨?_, Tree.empty, fun _ => by simp, fun _ => by simp, fun _ _ => rfl, by omega⟩
  have e : tab 513 (newF i) = tab 513 (roomF (fun _ => -1) 0) := by
    apply tab_ext
    intro j hj
    unfold newF roomF
    by_cases e : j = 512
    · simp [e, hi]
    · simp [e, show j < i by omega]
  rw [← e]; exact h

set_option maxHeartbeats 400000 in
set_option maxRecDepth 100000 in
theorem room_new (w : World) :
    Calls Try.prog 19 #[] w fun e w' => e = .returned (.pointer (some ⟨w.heap.size, 0, none⟩)) ∧ Below w.heap.size w w' ∧
      w.heap.size < w'.heap.size ∧ RoomAt w' w.heap.size (fun _ => -1) (fun _ => -1) 0 := by
  go_enter Try.func19, Try.ntmps19
  go_wp2
  go_loopw [5, 2] (fun v _ wr => ∃ i : Nat, v = .int .i64 i ∧ i ≤ 512 ∧ wr.heap[w.heap.size]? = some (.cells (tab 513 (newF i)) 136 (0, 0)) ∧ Below w.heap.size w wr ∧ w.heap.size < wr.heap.size) (fun v _ _ => 512 - (intOf v).toNat)
  case atStart => exact ⟨0, by go_num, by omega, by rw [alloc_new, zero_room]; rfl, (Below.refl _ _).alloc (Nat.le_refl _) _, by simp⟩
  case round =>
    obtain ⟨i, rfl, hi, hb, hB, hs⟩ := hrel
    have hc : i < 512 → wr.cell? ⟨w.heap.size, i, none⟩ = some (.int .i64 0) := fun h => by rw [cell_of hb, tab_get (by omega)]; simp [newF]
    have hf := frozen_of hb i
    have HB := Lib.hid hb
    have HL := Lib.hid hB
    clear hb hB
    by_cases h : i < 512
    · have hc := hc h
      go_wp2
      go_roundw
      case rel =>
        refine ⟨i + 1, by go_num, by omega, ?_, HL.out.setCell (Nat.le_refl _) _, by simpa [World.setCell] using hs⟩
        exact new_step HB.out
      case measure => simp [intOf]; omega
    · go_wp2
      go_ret
      exact ⟨rfl, HL.out, hs, new_done HB.out (by omega)⟩

end Go.Proofs.Ytbibmgcklilpmaa
