/- A line of zero bytes alone is none; a text of zero bytes, run; one that is too long. No condition. -/
import Derived.Test.YtpopoaopohngbaaGreatDoorShCut
import Derived.Test.YtpopoaopohngbaaGreatDoorShNum
set_option linter.unusedVariables false
set_option linter.unusedSimpArgs false
namespace Go.Proofs.YtpopoaopohngbaaGreatDoor
open Go.RowKit Go.Lap

/-- A text of k zero bytes, k great. -/
structure Zs (s : ByteArray) : Prop where
  z : s.data.toList = List.replicate s.size 0
  k : 1000 ≤ s.size

theorem toList_len (s : ByteArray) : s.toList.length = s.size := by rw [Lib.toList_data]; rfl
theorem Zs.ne {s : ByteArray} (h : Zs s) (l : List UInt8) (hl : l.length < 1000) : (s.toList == l) = false ∧ (l == s.toList) = false := by
  have e := toList_len s
  have hk := h.k
  constructor
  · rw [beq_eq_false_iff_ne]; intro x; rw [x] at e; omega
  · rw [beq_eq_false_iff_ne]; intro x; rw [← x] at e; omega
theorem index_rep : ∀ (n : Nat) (c : UInt8), c ≠ 0 → Lib.indexByte (List.replicate n 0) c = -1
  | 0, c, _ => rfl
  | n + 1, c, h => by
    rw [List.replicate_succ]
    unfold Lib.indexByte
    rw [index_rep n c h]
    have : ((0 : UInt8) == c) = false := beq_eq_false_iff_ne.2 (fun e => h e.symm)
    rw [this]
    rfl
theorem Zs.none {s : ByteArray} (h : Zs s) (c : UInt8) (hc : c ≠ 0) : NoByte s c := by
  unfold NoByte
  rw [h.z]
  exact index_rep _ c hc

set_option maxHeartbeats 1000000 in
set_option maxRecDepth 100000 in
theorem alone_zeros {s : ByteArray} (hz : Zs s) (dv : Value) (w : World) :
    Calls Tryz.prog 15 #[dv, .string s] w fun e w' => e = .returned (.tuple #[.string ⟨#[]⟩, .bool false]) ∧ w = w' := by
  obtain ⟨a1, a2⟩ := hz.ne [111, 112, 101, 110] (by decide)
  obtain ⟨b1, b2⟩ := hz.ne [115, 119, 101, 101, 112] (by decide)
  obtain ⟨c1, c2⟩ := hz.ne [112, 97, 115, 115] (by decide)
  obtain ⟨d1, d2⟩ := hz.ne [117, 115, 101, 100] (by decide)
  obtain ⟨e1, e2⟩ := hz.ne [101, 110, 116, 114, 105, 101, 115] (by decide)
  obtain ⟨f1, f2⟩ := hz.ne [108, 101, 102, 116] (by decide)
  clear hz
  go_enter Tryz.func15, Tryz.ntmps15
  go_wp2
  go_ret2
  exact ⟨rfl, rfl⟩

/-- the text "error 3" -/
def IsErr (s : ByteArray) : Prop := s.data.toList.map (·.toNat) = [101, 114, 114, 111, 114, 32, 51]
def IsErrN (s : ByteArray) : Prop := s.data.toList.map (·.toNat) = [101, 114, 114, 111, 114, 32, 51, 10]
def FaultQ (W : World) (e : Ending) (w' : World) : Prop := (∃ s : ByteArray, e = .returned (.string s) ∧ IsErr s) ∧ Quiet W w'

set_option maxHeartbeats 2000000 in
set_option maxRecDepth 100000 in
theorem line_zeros {s : ByteArray} {w : World} (hz : Zs s) (dv : Value) (he : ErrThere w) (hfault : ∀ W, Quiet w W → Calls Tryz.prog 17 #[.int .i64 3] W (FaultQ W)) :
    Calls Tryz.prog 9 #[dv, .string s] w (FaultQ w) := by
  have HF := Lib.hid hfault
  have HN := Lib.hid (number_empty he)
  have hne1 : ([(32 : UInt8)] == s.toList) = false := (hz.ne [32] (by decide)).2
  have HC1 := Lib.hid (cut_none s 32 w (hz.none 32 (by decide)) hne1)
  have HC2 := Lib.hid (cut_none ⟨#[]⟩ 32 w (by unfold NoByte; rfl) (by rw [Lib.toList_data]; rfl))
  have HA := Lib.hid (alone_zeros hz dv w)
  clear hne1 hfault he
  obtain ⟨POST, hPOST⟩ : ∃ POST, FaultQ w = POST := ⟨_, rfl⟩
  rw [hPOST]
  have HPOST := Lib.hid hPOST
  clear hPOST hz
  go_enter Tryz.func9, Tryz.ntmps9
  go_wp2_with fail
  refine HA.out.mono ?_
  rintro e w' ⟨rfl, rfl⟩
  go_wp2_with fail
  refine HC1.out.mono ?_
  rintro e w' ⟨rfl, rfl⟩
  go_wp2_with fail
  refine HC2.out.mono ?_
  rintro e w' ⟨rfl, rfl⟩
  go_wp2_with fail
  refine HN.out.mono ?_
  rintro e w1 ⟨rfl, hq⟩
  have HQ := Lib.hid hq
  clear hq
  go_wp2_with fail
  refine (HF.out _ HQ.out).mono ?_
  rintro e w2 ⟨⟨t, rfl, ht⟩, hq2⟩
  have HEND : Hid (POST (.returned (.string t)) w2) := by rw [← HPOST.out]; exact ⟨⟨t, rfl, ht⟩, HQ.out.trans hq2⟩
  clear hq2 ht
  go_wp2
  exact HEND.out

set_option maxHeartbeats 1000000 in
set_option maxRecDepth 100000 in
theorem run_long {s : ByteArray} {w : World} (h : 20000 < s.size) :
    Calls Tryz.prog 5 #[.string s] w fun e w' => e = .returned (.tuple #[.string ⟨#[]⟩, .int .i64 2]) ∧ w = w' := by
  go_enter Tryz.func5, Tryz.ntmps5
  go_wp2
  go_ret2
  exact ⟨rfl, rfl⟩
end Go.Proofs.YtpopoaopohngbaaGreatDoor
