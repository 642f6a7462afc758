/- The contracts of package room at integers of any kind, and of the law's awake. No condition. -/
import Derived.Test.YtbibmgcklilpmaaRoomWalk
namespace Go.Proofs.Ytbibmgcklilpmaa
open Go.RowKit Go.Lap

theorem RoomAt.kept {S : Nat → Prop} {w w' : World} {b : Nat} {l t : Nat → Int} {n : Nat} (h : RoomAt w b l t n) (ho : Only S w w') (hn : ¬ S b) : RoomAt w' b l t n :=
  ⟨ho.get h.blk hn, h.tree, h.low, h.high, h.out, h.most⟩

theorem set_at (b : Nat) (l t : Nat → Int) (n : Nat) (w : World) (p r : Int) (hr : RoomAt w b l t n) (h0 : 0 ≤ p) (hp : p ≤ n) (hp' : p < 256) :
    Calls Try.prog 20 #[.pointer (some ⟨b, 0, none⟩), .int .i64 p, .int .i64 r] w fun e w' => e = .returned (.int .i64 0) ∧ Only (· = b) w w' ∧
      ∃ t', RoomAt w' b (upd l p.toNat (min (max r (-1)) 512)) t' (max n (p.toNat + 1)) := by
  obtain ⟨k, rfl⟩ := Int.eq_ofNat_of_zero_le h0
  rw [Int.toNat_natCast]
  exact set_in b l t n w k r hr (by omega) (by omega)

/-- The rooms that awake sets. -/
def wakeL (k : Nat) (j : Nat) : Int := if j < k then (if j = 0 then 5 else 50) else -1

theorem wake_step {k : Nat} (hk : k < 3) (r : Int) (hr : r = if k = 0 then 5 else 50) : upd (wakeL k) k (min (max r (-1)) 512) = wakeL (k + 1) := by
  funext j
  unfold upd wakeL
  by_cases e : j = k
  · subst e
    rw [if_pos rfl, if_pos (by omega), hr]
    split <;> omega
  · rw [if_neg e]
    by_cases e2 : j < k
    · simp only [e2, if_true, show j < k + 1 by omega]
    · simp only [e2, if_false, show ¬ j < k + 1 by omega]

theorem wake_a : max (6 : Int) 0 ≤ wakeL 3 1 := by decide
theorem wake_b : ∀ j, j < 1 → wakeL 3 j < max (6 : Int) 0 := by
  intro j hj
  obtain rfl : j = 0 := by omega
  decide
theorem wake_c : ∀ j, j < 256 → wakeL 3 j < max (51 : Int) 0 := by
  intro j _
  unfold wakeL
  split <;> (try split) <;> omega

set_option maxHeartbeats 400000 in
set_option maxRecDepth 100000 in
theorem awake6 (w : World) :
    Calls Try.prog 18 #[] w fun e w' => e = .returned (.bool true) ∧ Below w.heap.size w w' := by
  go_enter Try.func18, Try.ntmps18
  go_wp2_with fail
  refine (room_new _).mono ?_
  rintro e w1 ⟨rfl, hB, hs, hr⟩
  have hne : w1.heap.size ≠ w.heap.size := by omega
  have HR := Lib.hid hr
  have HB := Lib.hid hB
  have Hs := Lib.hid hs
  have HN := Lib.hid hne
  clear hr hB hs hne
  go_wp2_with fail
  go_loopw [11] (fun v wr => ∃ i : Nat, v = .int .i64 i ∧ i ≤ 3 ∧ (∃ t, RoomAt wr w.heap.size (wakeL i) t i) ∧ Below w.heap.size w wr ∧ wr.heap[w1.heap.size]? = some (.cells #[.int .i64 5, .int .i64 50, .int .i64 50] 3 (0, 0))) (fun v _ => 3 - (intOf v).toNat)
  case atStart =>
    refine ⟨0, by go_num, by omega, ⟨_, ⟨alloc_old HR.out.blk _, HR.out.tree, HR.out.low, HR.out.high, HR.out.out, HR.out.most⟩⟩, HB.out.alloc (by have := Hs.out; omega) _, alloc_new _ _⟩
  case round =>
    obtain ⟨i, rfl, hi, ⟨t, hr⟩, hB, hb⟩ := hrel
    have hc : i < 3 → wr.cell? ⟨w1.heap.size, i, none⟩ = some (.int .i64 (if i = 0 then 5 else 50)) := fun h => by
      rw [cell_of hb]
      obtain rfl | rfl | rfl : i = 0 ∨ i = 1 ∨ i = 2 := by omega
      all_goals rfl
    have HR := Lib.hid hr
    have HB := Lib.hid hB
    have Hb := Lib.hid hb
    clear hr hB hb
    by_cases h : i < 3
    · have hc' := hc h
      clear hc
      obtain ⟨r, hr⟩ : ∃ r : Int, r = if i = 0 then 5 else 50 := ⟨_, rfl⟩
      rw [← hr] at hc'
      have Hr := Lib.hid hr
      clear hr
      go_wp2_with fail
      refine (set_in _ _ _ _ _ i r HR.out (Nat.le_refl _) (by omega)).mono ?_
      rintro e w2 ⟨rfl, ho, hx⟩
      have HX := Lib.hid hx
      have HO := Lib.hid ho
      clear hx ho
      go_wp2_with fail
      go_roundw
      case rel =>
        obtain ⟨t', ht'⟩ := HX.out
        rw [wake_step h r Hr.out, show max i (i + 1) = i + 1 by omega] at ht'
        refine ⟨i + 1, by go_num, by omega, ⟨t', ht'⟩, HB.out.trans ((Only.below (HO.out.mono (fun k _ e => by omega)) HB.out.size)), HO.out.get Hb.out HN.out⟩
      case measure => simp [intOf]; omega
    · clear hc
      obtain rfl : i = 3 := by omega
      go_wp2_with fail
      refine (find_some _ _ _ _ _ 6 1 HR.out (by omega) wake_a wake_b).mono ?_
      rintro e w2 ⟨rfl, rfl⟩
      go_wp2_with fail
      refine (find_none _ _ _ _ _ 51 HR.out wake_c).mono ?_
      rintro e w2 ⟨rfl, rfl⟩
      go_wp2_with fail
      go_ret
      exact ⟨rfl, HB.out⟩

end Go.Proofs.Ytbibmgcklilpmaa
