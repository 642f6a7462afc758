/- RoomMost: as many pages as there may be, and no more, one behind the other. For every input. -/
import Derived.Test.YtbibmgcklilpmaaRoomLaw
namespace Go.Proofs.Ytbibmgcklilpmaa
open Go.RowKit Go.Lap

/-- The rooms behind so many steps. -/
def mostL (k : Nat) (j : Nat) : Int := if j < k then (j % 7 : Nat) else -1

theorem most_step (k : Nat) : upd (mostL k) k (min (max (((k % 7 : Nat) : Int)) (-1)) 512) = mostL (k + 1) := by
  funext j
  unfold upd mostL
  by_cases e : j = k
  · subst e
    rw [if_pos rfl, if_pos (by omega)]
    omega
  · rw [if_neg e]
    by_cases e2 : j < k
    · simp only [e2, if_true, show j < k + 1 by omega]
    · simp only [e2, if_false, show ¬ j < k + 1 by omega]

theorem most_zero : (fun _ => -1 : Nat → Int) = mostL 0 := by
  funext j; simp [mostL]

theorem most_at (k : Nat) : max (512 : Int) 0 ≤ upd (mostL 256) k (min (max 512 (-1)) 512) k := by rw [upd_same]; decide
theorem most_ahead (k : Nat) : ∀ j, j < k → upd (mostL 256) k (min (max 512 (-1)) 512) j < max (512 : Int) 0 := by
  intro j hj
  rw [upd_other _ _ (by omega)]
  unfold mostL
  split <;> omega

set_option maxHeartbeats 400000 in
set_option maxRecDepth 100000 in
theorem roomMost_any (k : Nat) (r : Int) (w : World) (hk : k < 256) :
    Calls Try.prog 3 #[.int .u8 k, .int .i64 r] w fun e w' => e = .returned (.bool true) ∧ Below w.heap.size w w' := by
  go_enter Try.func3, Try.ntmps3
  go_wp2_with fail
  refine (awake6 _).mono ?_
  rintro e w0 ⟨rfl, hB0⟩
  go_wp2_with fail
  refine (room_new _).mono ?_
  rintro e w1 ⟨rfl, hB, hs, hr⟩
  have HB := Lib.hid (hB0.trans (hB.mono hB0.size))
  have Hz := Lib.hid hB0.size
  have HR := Lib.hid hr
  clear hr hB hs hB0
  go_wp2_with fail
  go_loopw [13] (fun v wr => ∃ i : Nat, v = .int .i64 i ∧ i ≤ 256 ∧ (∃ t, RoomAt wr w0.heap.size (mostL i) t i) ∧ Below w.heap.size w wr) (fun v _ => 256 - (intOf v).toNat)
  case atStart => exact ⟨0, by go_num, by omega, ⟨_, most_zero ▸ HR.out⟩, HB.out⟩
  case round =>
    obtain ⟨i, rfl, hi, ⟨t, hr⟩, hB⟩ := hrel
    have HR := Lib.hid hr
    have HB := Lib.hid hB
    clear hr hB
    by_cases h : i < 256
    · go_wp2_with fail
      refine (set_in _ _ _ _ _ i ((i % 7 : Nat) : Int) HR.out (Nat.le_refl _) (by omega)).mono ?_
      rintro e w2 ⟨rfl, ho, t', hx⟩
      rw [most_step, show max i (i + 1) = i + 1 by omega] at hx
      have HX := Lib.hid hx
      have HO := Lib.hid (onward HB.out HB.out.size ho (fun k e => by have := Hz.out; omega))
      clear hx ho
      go_wp2_with fail
      refine (pages_any _ _ _ _ _ HX.out).mono ?_
      rintro e w3 ⟨rfl, rfl⟩
      go_wp2_with fail
      go_roundw
      case rel => exact ⟨i + 1, by go_num, by omega, ⟨t', HX.out⟩, HO.out⟩
      case measure => simp [intOf]; omega
    · obtain rfl : i = 256 := by omega
      go_wp2_with fail
      refine (set_arg _ _ 256 5 (Or.inr (by omega))).mono ?_
      rintro e w2 ⟨rfl, rfl⟩
      go_wp2_with fail
      refine (set_arg _ _ (-1) 5 (Or.inl (by omega))).mono ?_
      rintro e w2 ⟨rfl, rfl⟩
      go_wp2_with fail
      refine (set_in _ _ _ _ _ k 512 HR.out (by omega) (by omega)).mono ?_
      rintro e w2 ⟨rfl, ho, t2, hx⟩
      have HX := Lib.hid hx
      have HO := Lib.hid (onward HB.out HB.out.size ho (fun k e => by have := Hz.out; omega))
      clear hx ho
      go_wp2_with fail
      refine (find_some _ _ _ _ _ 512 k HX.out hk (most_at k) (most_ahead k)).mono ?_
      rintro e w3 ⟨rfl, rfl⟩
      go_wp2_with fail
      refine (set_in _ _ _ _ _ k r HX.out (by omega) (by omega)).mono ?_
      rintro e w3 ⟨rfl, ho, t3, hx⟩
      have HX3 := Lib.hid hx
      have HO3 := Lib.hid (onward HO.out HO.out.size ho (fun k e => by have := Hz.out; omega))
      clear hx ho
      go_wp2_with fail
      refine (find_none _ _ _ _ _ 513 HX3.out (fun j _ => by have := HX3.out.high j; omega)).mono ?_
      rintro e w4 ⟨rfl, rfl⟩
      go_wp2_with fail
      refine (room_new _).mono ?_
      rintro e w4 ⟨rfl, hB, hs, hr⟩
      have HB4 := Lib.hid (HO3.out.trans (hB.mono HO3.out.size))
      have HR4 := Lib.hid hr
      clear hr hB hs
      go_wp2_with fail
      refine (set_form _ _ _ _ _ 1 5 HR4.out (by omega) (by omega)).mono ?_
      rintro e w5 ⟨rfl, rfl⟩
      go_wp2_with fail
      go_ret
      exact ⟨rfl, HB4.out⟩

end Go.Proofs.Ytbibmgcklilpmaa
