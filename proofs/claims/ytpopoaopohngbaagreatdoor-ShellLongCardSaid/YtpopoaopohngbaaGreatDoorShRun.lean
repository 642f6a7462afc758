/- A text of zero bytes, run. No condition. -/
import Derived.Test.YtpopoaopohngbaaGreatDoorShLine
set_option linter.unusedVariables false
set_option linter.unusedSimpArgs false
namespace Go.Proofs.YtpopoaopohngbaaGreatDoor
open Go.RowKit Go.Lap

/-- What is known of the calls that the evaluator tells. -/
structure ShTold (w : World) : Prop where
  fault : ∀ W, Quiet w W → Calls Tryz.prog 17 #[.int .i64 3] W (FaultQ W)
  new : ∀ W, Quiet w W → Calls Tryz.prog 6 #[.int .i64 100] W fun e w' => (∃ dv : Value, e = .returned (.tuple #[dv, .int .i64 0]) ∧ dv.oneCell' = true) ∧ Quiet W w'
  write : ∀ (W : World) (b : Nat) (s : ByteArray), Quiet w W → w.heap.size ≤ b → W.heap[b]? = some (.cells #[.pointer none, .slice none 0 0] 33 (0, 0)) → IsErrN s →
    Calls Tryz.prog 8 #[.pointer (some ⟨b, 0, none⟩), .string s] W fun e w' => e = .returned (.tuple #[.int .i64 8, .nilIface]) ∧ Only (fun k => k = b) W w' ∧
      Calls Tryz.prog 10 #[.pointer (some ⟨b, 0, none⟩)] w' fun e w'' => (∃ t : ByteArray, e = .returned (.string t) ∧ IsErrN t) ∧ Only (fun k => k = b ∨ W.heap.size ≤ k) w' w''

theorem err_size {s : ByteArray} (h : IsErr s) : s.size = 7 := by
  have := congrArg List.length h
  rw [List.length_map] at this
  exact this
theorem err_snoc {s : ByteArray} (h : IsErr s) : IsErrN (s ++ ⟨#[10]⟩) := by
  unfold IsErr IsErrN at *
  rw [ByteArray.data_append, Array.toList_append, List.map_append, h]
  rfl

set_option maxHeartbeats 2000000 in
set_option maxRecDepth 100000 in
theorem run_zeros {s : ByteArray} {w : World} (hz : Zs s) (hs : s.size ≤ 20000) (he : ErrThere w) (ht : ShTold w) :
    Calls Tryz.prog 5 #[.string s] w fun e w' => (∃ t : ByteArray, e = .returned (.tuple #[.string t, .int .i64 0]) ∧ IsErrN t) ∧ Quiet w w' := by
  have HNEW := Lib.hid (ht.new w (Only.refl _ _))
  have HWR := Lib.hid ht.write
  have HLINE : Hid (∀ (dv : Value) W, Quiet w W → Calls Tryz.prog 9 #[dv, .string s] W (FaultQ W)) := fun dv W hq => line_zeros hz dv (he.kept hq) (fun W' hq' => ht.fault W' (hq.trans hq'))
  have hne1 : ([(10 : UInt8)] == s.toList) = false := (hz.ne [10] (by decide)).2
  have HC1 : Hid (∀ W, Calls Tryz.prog 7 #[.string s, .string ⟨#[10]⟩] W fun e w' => e = .returned (.tuple #[.string s, .string ⟨#[]⟩, .bool false]) ∧ W = w') := fun W => cut_none s 10 W (hz.none 10 (by decide)) hne1
  obtain ⟨n1, n2⟩ := hz.ne [] (by decide)
  obtain ⟨POST, hPOST⟩ : ∃ POST : Ending → World → Prop, (fun e w' => (∃ t : ByteArray, e = .returned (.tuple #[.string t, .int .i64 0]) ∧ IsErrN t) ∧ Quiet w w') = POST := ⟨_, rfl⟩
  rw [hPOST]
  have HPOST := Lib.hid hPOST
  have HSZ : Hid (0 < s.size) := Nat.lt_of_lt_of_le (by decide) hz.k
  clear hPOST hz ht he hne1
  go_enter Tryz.func5, Tryz.ntmps5
  go_wp2_with fail
  refine HNEW.out.mono ?_
  rintro e w1 ⟨⟨dv, rfl, hd⟩, hq1⟩
  have HQ1 := Lib.hid hq1
  have HQ2 : Hid (Quiet w (w1.alloc (.cells #[.pointer none, .slice none 0 0] 33))) := hq1.alloc _
  have HB := Lib.hid (alloc_new w1 (.cells #[.pointer none, .slice none 0 0] 33))
  have HBL : Hid (w.heap.size ≤ w1.heap.size) := hq1.size
  clear hq1
  go_wp2
  go_loopw [7, 8, 9, 10] (fun r _ _ _ wr => (r = .string s ∧ wr = w1.alloc (.cells #[.pointer none, .slice none 0 0] 33)) ∨ (r = .string ⟨#[]⟩ ∧ Quiet w wr ∧ Calls Tryz.prog 10 #[.pointer (some ⟨w1.heap.size, 0, none⟩)] wr fun e w'' => (∃ t : ByteArray, e = .returned (.string t) ∧ IsErrN t) ∧ Quiet w w'')) (fun r _ _ _ _ => match r with | .string t => t.size | _ => 0)
  case atStart => exact .inl ⟨rfl, rfl⟩
  case round =>
    rcases hrel with ⟨rfl, rfl⟩ | ⟨rfl, hq, hstr⟩
    · go_wp2_with fail
      refine (HC1.out _).mono ?_
      rintro e w' ⟨rfl, rfl⟩
      go_wp2_with fail
      refine (HLINE.out dv _ HQ2.out).mono ?_
      rintro e w3 ⟨⟨t, rfl, ht⟩, hq3⟩
      have HN3 := Lib.hid (err_snoc ht)
      have hts := err_size ht
      have HQ3 := Lib.hid (HQ2.out.trans hq3)
      have HB3 := Lib.hid (hq3.get HB.out (fun x => x))
      clear ht hq3
      go_wp2_with fail
      refine (HWR.out w3 w1.heap.size _ HQ3.out HBL.out HB3.out HN3.out).mono ?_
      rintro e w4 ⟨rfl, ho4, hs4⟩
      have HQ4 : Hid (Quiet w w4) := HQ3.out.trans' ho4 (fun k hk x => by have := HBL.out; omega)
      have HS4 : Hid (Calls Tryz.prog 10 #[.pointer (some ⟨w1.heap.size, 0, none⟩)] w4 fun e w'' => (∃ t : ByteArray, e = .returned (.string t) ∧ IsErrN t) ∧ Quiet w w'') := hs4.mono (fun e w'' ⟨h1, h2⟩ => ⟨h1, HQ4.out.trans' h2 (fun k hk x => by have := HBL.out; have := HQ3.out.size; omega)⟩)
      clear ho4 hs4
      go_wp2
      go_roundw
      case rel => exact .inr ⟨rfl, HQ4.out, HS4.out⟩
      case measure =>
        show ByteArray.size ⟨#[]⟩ < s.size
        have : (⟨#[]⟩ : ByteArray).size = 0 := rfl
        rw [this]
        exact HSZ.out
    · have HQ5 := Lib.hid hq
      have HS5 := Lib.hid hstr
      clear hq hstr
      go_wp2_with fail
      refine HS5.out.mono ?_
      rintro e w6 ⟨⟨t, rfl, ht⟩, hq6⟩
      have HEND : Hid (POST (.returned (.tuple #[.string t, .int .i64 0])) w6) := by rw [← HPOST.out]; exact ⟨⟨t, rfl, ht⟩, hq6⟩
      clear ht hq6
      go_wp2
      exact HEND.out
end Go.Proofs.YtpopoaopohngbaaGreatDoor
