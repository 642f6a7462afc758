/- strings.Cut by one byte of a text that does not have it. No condition. -/
import Derived.Test.YtpopoaopohngbaaGreatDoorShBytes
import Derived.Lib.Bytealg
set_option linter.unusedVariables false
set_option linter.unusedSimpArgs false
namespace Go.Proofs.YtpopoaopohngbaaGreatDoor
open Go.RowKit Go.Lap

set_option maxHeartbeats 1000000 in
set_option maxRecDepth 100000 in
theorem ib_any (s : ByteArray) (c : Int) (w : World) :
    Calls Tryz.prog 44 #[.string s, .int .u8 c] w fun e w' => e = .returned (.int .i64 (Lib.indexByte s.data.toList c.toNat.toUInt8)) ∧ w = w' := by
  go_enter Tryz.func44, Tryz.ntmps44
  go_wp2
  rw [run_callFunc_extern Tryz.func67 (by kernel_rfl) (by kernel_rfl) (by kernel_rfl) (e := Extern.BytealgIndexByte.indexByte) (by kernel_rfl), Lib.run_indexByteString]
  simp only [Result.andThen]
  rw [Oper.upon_value]
  go_wp2
  go_ret
  exact ⟨rfl, rfl⟩

/-- A text without a byte. -/
def NoByte (s : ByteArray) (c : UInt8) : Prop := Lib.indexByte s.data.toList c = -1

theorem ib_none (s : ByteArray) (c : UInt8) (w : World) (h : NoByte s c) :
    Calls Tryz.prog 44 #[.string s, .int .u8 (c.toNat : Int)] w fun e w' => e = .returned (.int .i64 (-1)) ∧ w = w' := by
  refine (ib_any s _ _).mono ?_
  rintro e w' ⟨rfl, rfl⟩
  unfold NoByte at h
  rw [show (c.toNat : Int).toNat.toUInt8 = c by simp, h]
  exact ⟨rfl, rfl⟩

set_option maxHeartbeats 1000000 in
set_option maxRecDepth 100000 in
theorem index_one (s : ByteArray) (c : UInt8) (w : World) (h : NoByte s c) (hne : ([c] == s.toList) = false) :
    Calls Tryz.prog 26 #[.string s, .string ⟨#[c]⟩] w fun e w' => e = .returned (.int .i64 (-1)) ∧ w = w' := by
  go_enter Tryz.func26, Tryz.ntmps26
  go_wp2_with fail
  refine (ib_none s c _ h).mono ?_
  rintro e w' ⟨rfl, rfl⟩
  go_wp2
  go_ret
  exact ⟨rfl, rfl⟩

set_option maxHeartbeats 1000000 in
set_option maxRecDepth 100000 in
theorem slcut_none (s : ByteArray) (c : UInt8) (w : World) (h : NoByte s c) (hne : ([c] == s.toList) = false) :
    Calls Tryz.prog 13 #[.string s, .string ⟨#[c]⟩] w fun e w' => e = .returned (.tuple #[.string s, .string ⟨#[]⟩, .bool false]) ∧ w = w' := by
  go_enter Tryz.func13, Tryz.ntmps13
  go_wp2_with fail
  refine (index_one s c _ h hne).mono ?_
  rintro e w' ⟨rfl, rfl⟩
  go_wp2
  go_ret3
  exact ⟨rfl, rfl⟩

set_option maxHeartbeats 1000000 in
set_option maxRecDepth 100000 in
theorem cut_none (s : ByteArray) (c : UInt8) (w : World) (h : NoByte s c) (hne : ([c] == s.toList) = false) :
    Calls Tryz.prog 7 #[.string s, .string ⟨#[c]⟩] w fun e w' => e = .returned (.tuple #[.string s, .string ⟨#[]⟩, .bool false]) ∧ w = w' := by
  go_enter Tryz.func7, Tryz.ntmps7
  go_wp2_with fail
  refine (slcut_none s c _ h hne).mono ?_
  rintro e w' ⟨rfl, rfl⟩
  go_wp2
  go_ret3
  exact ⟨rfl, rfl⟩
end Go.Proofs.YtpopoaopohngbaaGreatDoor
