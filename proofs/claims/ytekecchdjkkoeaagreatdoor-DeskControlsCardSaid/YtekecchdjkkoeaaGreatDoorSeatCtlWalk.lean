/- DeskControls: whatever is told, in any order, each answer and each state is what the table says. No condition. -/
import Derived.Test.YtekecchdjkkoeaaGreatDoorSeatCtl
import Derived.Test.YtekecchdjkkoeaaGreatDoorRows
import Derived.WalkKit
import Derived.WalkSpells
import Derived.WalkLawsBesides
import Derived.Lib.Hide
import Derived.Lib.MinMax
import Derived.OwnWalk
import Derived.RegionTactic
set_option linter.unusedVariables false
set_option linter.unusedSimpArgs false
namespace Go.Proofs.YtekecchdjkkoeaaGreatDoor.deskControls
open Go.RowKit Go.Ev

/-- bytes that came in, below block B -/
def BytesIn (w : World) (B : Nat) (A : Option Addr) (n : Nat) : Prop :=
  ∀ i, i < n → ∃ (b off z : Nat), A = some ⟨b, off, none⟩ ∧ b < B ∧ w.cell? ⟨b, off + i, none⟩ = some (.int .u8 z) ∧ z < 256
theorem BytesIn.kept {w w' : World} {B : Nat} {A : Option Addr} {n : Nat} (h : BytesIn w B A n) (hb : Below B w w') : BytesIn w' B A n := fun i hi => by
  obtain ⟨b, off, z, e, h1, h2, h3⟩ := h i hi
  exact ⟨b, off, z, e, h1, by rw [hb.cell (p := ⟨b, _, none⟩) h1]; exact h2, h3⟩
/-- the five texts, in a new row -/
def arr5 (ty : TypeId) : Obj := .cells #[.string ⟨#[66, 69, 71, 73, 78]⟩, .string ⟨#[67, 79, 77, 77, 73, 84]⟩, .string ⟨#[82, 79, 76, 76, 66, 65, 67, 75]⟩, .string ⟨#[83, 69, 76, 69, 67, 84, 32, 120, 32, 70, 82, 79, 77, 32, 116]⟩, .string ⟨#[83, 69, 76, 69, 67, 84, 32, 97, 32, 70, 82, 79, 77, 32, 116]⟩] ty
theorem box_below (w : World) (a b c d : Value) (t : TypeId) : Below w.heap.size w (w.alloc (.cells #[a, b, c, d] t)) := (Below.refl _ _).alloc (Nat.le_refl _) _
theorem str_ok {s : List Nat} {b : ByteArray} (h : b.data.toList.map (·.toNat) = s) : StrIs s (.string b) := ⟨b, rfl, h⟩

set_option maxHeartbeats 4000000 in
set_option maxRecDepth 100000 in
theorem law_any (A : Option Addr) (n cap : Nat) (w : World) (hs : SR (env0 5) H0 5 w) (h : BytesIn w w.heap.size A n) (hn : n ≤ cap) (hcap : cap ≤ maxLen) :
    Calls Tryz.prog 6 #[.slice A n cap] w fun e w' => e = .returned (.bool true) ∧ Below w.heap.size w w' := by
  unfold maxLen at hcap
  have H := Lib.hid h
  have HS := Lib.hid hs
  clear h hs
  go_enter Tryz.func6, Tryz.ntmps6
  go_wp2_with fail
  refine (awake_any HS.out).mono ?_
  rintro e w0 ⟨rfl, hs0, hb0⟩
  have HA0 := Lib.hid (at_start hs0 hb0.size)
  have HB0 := Lib.hid hb0
  clear hs0 hb0 HS
  go_wp2_with fail
  refine (new_any HA0.out).mono ?_
  rintro e w1 ⟨env1, dv, rfl, hd1, hat1, hb1⟩
  have HD1 := Lib.hid hd1
  have HA1 := Lib.hid hat1
  have HB1 := Lib.hid (HB0.out.trans hb1)
  clear hd1 hat1 hb1 HA0 HB0
  go_wp2_with fail
  refine (open_any HA1.out HD1.out).mono ?_
  rintro e w2 ⟨env2, rfl, hd2, hat2, hb2⟩
  have HD2 := Lib.hid hd2
  have HA2 := Lib.hid hat2
  have HB2 := Lib.hid (HB1.out.trans hb2)
  clear hd2 hat2 hb2 HA1 HD1 HB1
  go_wp2_with fail
  refine (make_any (ctl_of ⟨by omega, .inl rfl⟩ (by omega)) HA2.out HD2.out ⟨_, rfl, by decide +kernel⟩).mono ?_
  rintro e w3 ⟨x, y, z, t, rfl, hdk, hb3⟩
  have HDK := Lib.hid hdk
  have HB3 := Lib.hid (HB2.out.trans hb3)
  clear hdk hb3 HA2 HD2 HB2
  go_wp2_with fail
  go_loopw [31, 7] (fun v s wr => ∃ (i c st : Nat), i ≤ n ∧ i ≤ 60 ∧ v = .int .i64 (i : Int) ∧ s = .int .i64 (st : Int) ∧ Fits c st ∧ c ≤ i + 1 ∧ Desk w.heap.size c st dv wr ∧ Below w.heap.size w wr) (fun v _ _ => n - (intOf v).toNat)
  case atStart => exact ⟨0, 1, 0, Nat.zero_le _, Nat.zero_le _, rfl, rfl, ⟨Nat.le_refl _, .inl rfl⟩, Nat.le_refl _, HDK.out, HB3.out⟩
  case round =>
    obtain ⟨i, c, st, hi, hi60, rfl, rfl, hf, hc, hdk, hb⟩ := hrel
    have HD := Lib.hid hdk
    have HB := Lib.hid hb
    have HF := Lib.hid hf
    clear hdk hb hf HDK HB3
    by_cases hlt : i < n
    · obtain ⟨b, off, z, rfl, hblt, hcell, hz⟩ := H.out.kept HB.out i hlt
      by_cases h60 : i < 60
      · have h5 : z % 5 < 5 := Nat.mod_lt _ (by omega)
        have hr : Int.tmod (z : Int) 5 = ((z % 5 : Nat) : Int) := rfl
        generalize z % 5 = k at h5 hr
        rcases (by omega : k = 0 ∨ k = 1 ∨ k = 2 ∨ k = 3 ∨ k = 4) with rfl | rfl | rfl | rfl | rfl
        · rcases (by have := HF.out.2; omega : st = 0 ∨ st = 1 ∨ st = 2) with rfl | rfl | rfl
          · have HN := Lib.hid (fits_next (k := 0) HF.out (by omega))
            have HW := Lib.hid (do_any (k := 0) (sv := .string ⟨#[66, 69, 71, 73, 78]⟩) HF.out (by omega) (by omega) (HD.out.kept ((Below.refl _ _).alloc (Nat.le_refl _) (arr5 9))) (str_ok (by decide +kernel)))
            go_wp2_with fail
            refine HW.out.mono ?_
            rintro e w5 ⟨y5, z5, t5, rfl, ⟨o1, o2, o3⟩, hd5, hb5⟩
            have HD5 := Lib.hid hd5
            have HB5 := Lib.hid ((HB.out.alloc HB.out.size (arr5 9)).trans hb5)
            have hc5 : (codeT 0 0 : Nat) = 0 := rfl
            rw [hc5]
            clear hd5 hb5 HW HD HB hc5
            have s1 : ∀ (a : Addr) (m : Mode) (w : World), (store a y5 m).run Tryz.prog w = stored Tryz.prog w a y5 m := fun a m w => run_store _ w a _ m o1
            have s2 : ∀ (a : Addr) (m : Mode) (w : World), (store a z5 m).run Tryz.prog w = stored Tryz.prog w a z5 m := fun a m w => run_store _ w a _ m o2
            have s3 : ∀ (a : Addr) (m : Mode) (w : World), (store a t5 m).run Tryz.prog w = stored Tryz.prog w a t5 m := fun a m w => run_store _ w a _ m o3
            clear o1 o2 o3
            go_wp2_with fail
            refine (state_any HN.out.1 (by have := HN.out.2; omega) (HD5.out.kept (box_below w5 _ _ _ _ _))).mono ?_
            rintro e w6 ⟨rfl, hd6, hb6⟩
            have HD6 := Lib.hid hd6
            have HB6 := Lib.hid (((HB5.out.trans ((box_below w5 _ _ _ _ _).mono HB5.out.size)).trans hb6))
            have hs5 : (nextS 0 0 : Nat) = 1 := rfl
            rw [hs5] at HN HD6 ⊢
            clear hd6 hb6 HD5 HB5 hs5
            go_wp2_with fail
            go_roundw
            case rel => exact ⟨i + 1, nextC c 0 0, 1, by omega, by omega, by go_num, rfl, HN.out.1, by have := HN.out.2; omega, HD6.out, HB6.out⟩
            case measure => simp [intOf]; omega
          · have HN := Lib.hid (fits_next (k := 0) HF.out (by omega))
            have HW := Lib.hid (do_any (k := 0) (sv := .string ⟨#[66, 69, 71, 73, 78]⟩) HF.out (by omega) (by omega) (HD.out.kept ((Below.refl _ _).alloc (Nat.le_refl _) (arr5 9))) (str_ok (by decide +kernel)))
            go_wp2_with fail
            refine HW.out.mono ?_
            rintro e w5 ⟨y5, z5, t5, rfl, ⟨o1, o2, o3⟩, hd5, hb5⟩
            have HD5 := Lib.hid hd5
            have HB5 := Lib.hid ((HB.out.alloc HB.out.size (arr5 9)).trans hb5)
            have hc5 : (codeT 1 0 : Nat) = 14 := rfl
            rw [hc5]
            clear hd5 hb5 HW HD HB hc5
            have s1 : ∀ (a : Addr) (m : Mode) (w : World), (store a y5 m).run Tryz.prog w = stored Tryz.prog w a y5 m := fun a m w => run_store _ w a _ m o1
            have s2 : ∀ (a : Addr) (m : Mode) (w : World), (store a z5 m).run Tryz.prog w = stored Tryz.prog w a z5 m := fun a m w => run_store _ w a _ m o2
            have s3 : ∀ (a : Addr) (m : Mode) (w : World), (store a t5 m).run Tryz.prog w = stored Tryz.prog w a t5 m := fun a m w => run_store _ w a _ m o3
            clear o1 o2 o3
            go_wp2_with fail
            refine (state_any HN.out.1 (by have := HN.out.2; omega) (HD5.out.kept (box_below w5 _ _ _ _ _))).mono ?_
            rintro e w6 ⟨rfl, hd6, hb6⟩
            have HD6 := Lib.hid hd6
            have HB6 := Lib.hid (((HB5.out.trans ((box_below w5 _ _ _ _ _).mono HB5.out.size)).trans hb6))
            have hs5 : (nextS 1 0 : Nat) = 2 := rfl
            rw [hs5] at HN HD6 ⊢
            clear hd6 hb6 HD5 HB5 hs5
            go_wp2_with fail
            go_roundw
            case rel => exact ⟨i + 1, nextC c 1 0, 2, by omega, by omega, by go_num, rfl, HN.out.1, by have := HN.out.2; omega, HD6.out, HB6.out⟩
            case measure => simp [intOf]; omega
          · have HN := Lib.hid (fits_next (k := 0) HF.out (by omega))
            have HW := Lib.hid (do_any (k := 0) (sv := .string ⟨#[66, 69, 71, 73, 78]⟩) HF.out (by omega) (by omega) (HD.out.kept ((Below.refl _ _).alloc (Nat.le_refl _) (arr5 9))) (str_ok (by decide +kernel)))
            go_wp2_with fail
            refine HW.out.mono ?_
            rintro e w5 ⟨y5, z5, t5, rfl, ⟨o1, o2, o3⟩, hd5, hb5⟩
            have HD5 := Lib.hid hd5
            have HB5 := Lib.hid ((HB.out.alloc HB.out.size (arr5 9)).trans hb5)
            have hc5 : (codeT 2 0 : Nat) = 13 := rfl
            rw [hc5]
            clear hd5 hb5 HW HD HB hc5
            have s1 : ∀ (a : Addr) (m : Mode) (w : World), (store a y5 m).run Tryz.prog w = stored Tryz.prog w a y5 m := fun a m w => run_store _ w a _ m o1
            have s2 : ∀ (a : Addr) (m : Mode) (w : World), (store a z5 m).run Tryz.prog w = stored Tryz.prog w a z5 m := fun a m w => run_store _ w a _ m o2
            have s3 : ∀ (a : Addr) (m : Mode) (w : World), (store a t5 m).run Tryz.prog w = stored Tryz.prog w a t5 m := fun a m w => run_store _ w a _ m o3
            clear o1 o2 o3
            go_wp2_with fail
            refine (state_any HN.out.1 (by have := HN.out.2; omega) (HD5.out.kept (box_below w5 _ _ _ _ _))).mono ?_
            rintro e w6 ⟨rfl, hd6, hb6⟩
            have HD6 := Lib.hid hd6
            have HB6 := Lib.hid (((HB5.out.trans ((box_below w5 _ _ _ _ _).mono HB5.out.size)).trans hb6))
            have hs5 : (nextS 2 0 : Nat) = 2 := rfl
            rw [hs5] at HN HD6 ⊢
            clear hd6 hb6 HD5 HB5 hs5
            go_wp2_with fail
            go_roundw
            case rel => exact ⟨i + 1, nextC c 2 0, 2, by omega, by omega, by go_num, rfl, HN.out.1, by have := HN.out.2; omega, HD6.out, HB6.out⟩
            case measure => simp [intOf]; omega
        · rcases (by have := HF.out.2; omega : st = 0 ∨ st = 1 ∨ st = 2) with rfl | rfl | rfl
          · have HN := Lib.hid (fits_next (k := 1) HF.out (by omega))
            have HW := Lib.hid (do_any (k := 1) (sv := .string ⟨#[67, 79, 77, 77, 73, 84]⟩) HF.out (by omega) (by omega) (HD.out.kept ((Below.refl _ _).alloc (Nat.le_refl _) (arr5 9))) (str_ok (by decide +kernel)))
            go_wp2_with fail
            refine HW.out.mono ?_
            rintro e w5 ⟨y5, z5, t5, rfl, ⟨o1, o2, o3⟩, hd5, hb5⟩
            have HD5 := Lib.hid hd5
            have HB5 := Lib.hid ((HB.out.alloc HB.out.size (arr5 9)).trans hb5)
            have hc5 : (codeT 0 1 : Nat) = 14 := rfl
            rw [hc5]
            clear hd5 hb5 HW HD HB hc5
            have s1 : ∀ (a : Addr) (m : Mode) (w : World), (store a y5 m).run Tryz.prog w = stored Tryz.prog w a y5 m := fun a m w => run_store _ w a _ m o1
            have s2 : ∀ (a : Addr) (m : Mode) (w : World), (store a z5 m).run Tryz.prog w = stored Tryz.prog w a z5 m := fun a m w => run_store _ w a _ m o2
            have s3 : ∀ (a : Addr) (m : Mode) (w : World), (store a t5 m).run Tryz.prog w = stored Tryz.prog w a t5 m := fun a m w => run_store _ w a _ m o3
            clear o1 o2 o3
            go_wp2_with fail
            refine (state_any HN.out.1 (by have := HN.out.2; omega) (HD5.out.kept (box_below w5 _ _ _ _ _))).mono ?_
            rintro e w6 ⟨rfl, hd6, hb6⟩
            have HD6 := Lib.hid hd6
            have HB6 := Lib.hid (((HB5.out.trans ((box_below w5 _ _ _ _ _).mono HB5.out.size)).trans hb6))
            have hs5 : (nextS 0 1 : Nat) = 0 := rfl
            rw [hs5] at HN HD6 ⊢
            clear hd6 hb6 HD5 HB5 hs5
            go_wp2_with fail
            go_roundw
            case rel => exact ⟨i + 1, nextC c 0 1, 0, by omega, by omega, by go_num, rfl, HN.out.1, by have := HN.out.2; omega, HD6.out, HB6.out⟩
            case measure => simp [intOf]; omega
          · have HN := Lib.hid (fits_next (k := 1) HF.out (by omega))
            have HW := Lib.hid (do_any (k := 1) (sv := .string ⟨#[67, 79, 77, 77, 73, 84]⟩) HF.out (by omega) (by omega) (HD.out.kept ((Below.refl _ _).alloc (Nat.le_refl _) (arr5 9))) (str_ok (by decide +kernel)))
            go_wp2_with fail
            refine HW.out.mono ?_
            rintro e w5 ⟨y5, z5, t5, rfl, ⟨o1, o2, o3⟩, hd5, hb5⟩
            have HD5 := Lib.hid hd5
            have HB5 := Lib.hid ((HB.out.alloc HB.out.size (arr5 9)).trans hb5)
            have hc5 : (codeT 1 1 : Nat) = 0 := rfl
            rw [hc5]
            clear hd5 hb5 HW HD HB hc5
            have s1 : ∀ (a : Addr) (m : Mode) (w : World), (store a y5 m).run Tryz.prog w = stored Tryz.prog w a y5 m := fun a m w => run_store _ w a _ m o1
            have s2 : ∀ (a : Addr) (m : Mode) (w : World), (store a z5 m).run Tryz.prog w = stored Tryz.prog w a z5 m := fun a m w => run_store _ w a _ m o2
            have s3 : ∀ (a : Addr) (m : Mode) (w : World), (store a t5 m).run Tryz.prog w = stored Tryz.prog w a t5 m := fun a m w => run_store _ w a _ m o3
            clear o1 o2 o3
            go_wp2_with fail
            refine (state_any HN.out.1 (by have := HN.out.2; omega) (HD5.out.kept (box_below w5 _ _ _ _ _))).mono ?_
            rintro e w6 ⟨rfl, hd6, hb6⟩
            have HD6 := Lib.hid hd6
            have HB6 := Lib.hid (((HB5.out.trans ((box_below w5 _ _ _ _ _).mono HB5.out.size)).trans hb6))
            have hs5 : (nextS 1 1 : Nat) = 0 := rfl
            rw [hs5] at HN HD6 ⊢
            clear hd6 hb6 HD5 HB5 hs5
            go_wp2_with fail
            go_roundw
            case rel => exact ⟨i + 1, nextC c 1 1, 0, by omega, by omega, by go_num, rfl, HN.out.1, by have := HN.out.2; omega, HD6.out, HB6.out⟩
            case measure => simp [intOf]; omega
          · have HN := Lib.hid (fits_next (k := 1) HF.out (by omega))
            have HW := Lib.hid (do_any (k := 1) (sv := .string ⟨#[67, 79, 77, 77, 73, 84]⟩) HF.out (by omega) (by omega) (HD.out.kept ((Below.refl _ _).alloc (Nat.le_refl _) (arr5 9))) (str_ok (by decide +kernel)))
            go_wp2_with fail
            refine HW.out.mono ?_
            rintro e w5 ⟨y5, z5, t5, rfl, ⟨o1, o2, o3⟩, hd5, hb5⟩
            have HD5 := Lib.hid hd5
            have HB5 := Lib.hid ((HB.out.alloc HB.out.size (arr5 9)).trans hb5)
            have hc5 : (codeT 2 1 : Nat) = 13 := rfl
            rw [hc5]
            clear hd5 hb5 HW HD HB hc5
            have s1 : ∀ (a : Addr) (m : Mode) (w : World), (store a y5 m).run Tryz.prog w = stored Tryz.prog w a y5 m := fun a m w => run_store _ w a _ m o1
            have s2 : ∀ (a : Addr) (m : Mode) (w : World), (store a z5 m).run Tryz.prog w = stored Tryz.prog w a z5 m := fun a m w => run_store _ w a _ m o2
            have s3 : ∀ (a : Addr) (m : Mode) (w : World), (store a t5 m).run Tryz.prog w = stored Tryz.prog w a t5 m := fun a m w => run_store _ w a _ m o3
            clear o1 o2 o3
            go_wp2_with fail
            refine (state_any HN.out.1 (by have := HN.out.2; omega) (HD5.out.kept (box_below w5 _ _ _ _ _))).mono ?_
            rintro e w6 ⟨rfl, hd6, hb6⟩
            have HD6 := Lib.hid hd6
            have HB6 := Lib.hid (((HB5.out.trans ((box_below w5 _ _ _ _ _).mono HB5.out.size)).trans hb6))
            have hs5 : (nextS 2 1 : Nat) = 0 := rfl
            rw [hs5] at HN HD6 ⊢
            clear hd6 hb6 HD5 HB5 hs5
            go_wp2_with fail
            go_roundw
            case rel => exact ⟨i + 1, nextC c 2 1, 0, by omega, by omega, by go_num, rfl, HN.out.1, by have := HN.out.2; omega, HD6.out, HB6.out⟩
            case measure => simp [intOf]; omega
        · rcases (by have := HF.out.2; omega : st = 0 ∨ st = 1 ∨ st = 2) with rfl | rfl | rfl
          · have HN := Lib.hid (fits_next (k := 2) HF.out (by omega))
            have HW := Lib.hid (do_any (k := 2) (sv := .string ⟨#[82, 79, 76, 76, 66, 65, 67, 75]⟩) HF.out (by omega) (by omega) (HD.out.kept ((Below.refl _ _).alloc (Nat.le_refl _) (arr5 9))) (str_ok (by decide +kernel)))
            go_wp2_with fail
            refine HW.out.mono ?_
            rintro e w5 ⟨y5, z5, t5, rfl, ⟨o1, o2, o3⟩, hd5, hb5⟩
            have HD5 := Lib.hid hd5
            have HB5 := Lib.hid ((HB.out.alloc HB.out.size (arr5 9)).trans hb5)
            have hc5 : (codeT 0 2 : Nat) = 14 := rfl
            rw [hc5]
            clear hd5 hb5 HW HD HB hc5
            have s1 : ∀ (a : Addr) (m : Mode) (w : World), (store a y5 m).run Tryz.prog w = stored Tryz.prog w a y5 m := fun a m w => run_store _ w a _ m o1
            have s2 : ∀ (a : Addr) (m : Mode) (w : World), (store a z5 m).run Tryz.prog w = stored Tryz.prog w a z5 m := fun a m w => run_store _ w a _ m o2
            have s3 : ∀ (a : Addr) (m : Mode) (w : World), (store a t5 m).run Tryz.prog w = stored Tryz.prog w a t5 m := fun a m w => run_store _ w a _ m o3
            clear o1 o2 o3
            go_wp2_with fail
            refine (state_any HN.out.1 (by have := HN.out.2; omega) (HD5.out.kept (box_below w5 _ _ _ _ _))).mono ?_
            rintro e w6 ⟨rfl, hd6, hb6⟩
            have HD6 := Lib.hid hd6
            have HB6 := Lib.hid (((HB5.out.trans ((box_below w5 _ _ _ _ _).mono HB5.out.size)).trans hb6))
            have hs5 : (nextS 0 2 : Nat) = 0 := rfl
            rw [hs5] at HN HD6 ⊢
            clear hd6 hb6 HD5 HB5 hs5
            go_wp2_with fail
            go_roundw
            case rel => exact ⟨i + 1, nextC c 0 2, 0, by omega, by omega, by go_num, rfl, HN.out.1, by have := HN.out.2; omega, HD6.out, HB6.out⟩
            case measure => simp [intOf]; omega
          · have HN := Lib.hid (fits_next (k := 2) HF.out (by omega))
            have HW := Lib.hid (do_any (k := 2) (sv := .string ⟨#[82, 79, 76, 76, 66, 65, 67, 75]⟩) HF.out (by omega) (by omega) (HD.out.kept ((Below.refl _ _).alloc (Nat.le_refl _) (arr5 9))) (str_ok (by decide +kernel)))
            go_wp2_with fail
            refine HW.out.mono ?_
            rintro e w5 ⟨y5, z5, t5, rfl, ⟨o1, o2, o3⟩, hd5, hb5⟩
            have HD5 := Lib.hid hd5
            have HB5 := Lib.hid ((HB.out.alloc HB.out.size (arr5 9)).trans hb5)
            have hc5 : (codeT 1 2 : Nat) = 0 := rfl
            rw [hc5]
            clear hd5 hb5 HW HD HB hc5
            have s1 : ∀ (a : Addr) (m : Mode) (w : World), (store a y5 m).run Tryz.prog w = stored Tryz.prog w a y5 m := fun a m w => run_store _ w a _ m o1
            have s2 : ∀ (a : Addr) (m : Mode) (w : World), (store a z5 m).run Tryz.prog w = stored Tryz.prog w a z5 m := fun a m w => run_store _ w a _ m o2
            have s3 : ∀ (a : Addr) (m : Mode) (w : World), (store a t5 m).run Tryz.prog w = stored Tryz.prog w a t5 m := fun a m w => run_store _ w a _ m o3
            clear o1 o2 o3
            go_wp2_with fail
            refine (state_any HN.out.1 (by have := HN.out.2; omega) (HD5.out.kept (box_below w5 _ _ _ _ _))).mono ?_
            rintro e w6 ⟨rfl, hd6, hb6⟩
            have HD6 := Lib.hid hd6
            have HB6 := Lib.hid (((HB5.out.trans ((box_below w5 _ _ _ _ _).mono HB5.out.size)).trans hb6))
            have hs5 : (nextS 1 2 : Nat) = 0 := rfl
            rw [hs5] at HN HD6 ⊢
            clear hd6 hb6 HD5 HB5 hs5
            go_wp2_with fail
            go_roundw
            case rel => exact ⟨i + 1, nextC c 1 2, 0, by omega, by omega, by go_num, rfl, HN.out.1, by have := HN.out.2; omega, HD6.out, HB6.out⟩
            case measure => simp [intOf]; omega
          · have HN := Lib.hid (fits_next (k := 2) HF.out (by omega))
            have HW := Lib.hid (do_any (k := 2) (sv := .string ⟨#[82, 79, 76, 76, 66, 65, 67, 75]⟩) HF.out (by omega) (by omega) (HD.out.kept ((Below.refl _ _).alloc (Nat.le_refl _) (arr5 9))) (str_ok (by decide +kernel)))
            go_wp2_with fail
            refine HW.out.mono ?_
            rintro e w5 ⟨y5, z5, t5, rfl, ⟨o1, o2, o3⟩, hd5, hb5⟩
            have HD5 := Lib.hid hd5
            have HB5 := Lib.hid ((HB.out.alloc HB.out.size (arr5 9)).trans hb5)
            have hc5 : (codeT 2 2 : Nat) = 0 := rfl
            rw [hc5]
            clear hd5 hb5 HW HD HB hc5
            have s1 : ∀ (a : Addr) (m : Mode) (w : World), (store a y5 m).run Tryz.prog w = stored Tryz.prog w a y5 m := fun a m w => run_store _ w a _ m o1
            have s2 : ∀ (a : Addr) (m : Mode) (w : World), (store a z5 m).run Tryz.prog w = stored Tryz.prog w a z5 m := fun a m w => run_store _ w a _ m o2
            have s3 : ∀ (a : Addr) (m : Mode) (w : World), (store a t5 m).run Tryz.prog w = stored Tryz.prog w a t5 m := fun a m w => run_store _ w a _ m o3
            clear o1 o2 o3
            go_wp2_with fail
            refine (state_any HN.out.1 (by have := HN.out.2; omega) (HD5.out.kept (box_below w5 _ _ _ _ _))).mono ?_
            rintro e w6 ⟨rfl, hd6, hb6⟩
            have HD6 := Lib.hid hd6
            have HB6 := Lib.hid (((HB5.out.trans ((box_below w5 _ _ _ _ _).mono HB5.out.size)).trans hb6))
            have hs5 : (nextS 2 2 : Nat) = 0 := rfl
            rw [hs5] at HN HD6 ⊢
            clear hd6 hb6 HD5 HB5 hs5
            go_wp2_with fail
            go_roundw
            case rel => exact ⟨i + 1, nextC c 2 2, 0, by omega, by omega, by go_num, rfl, HN.out.1, by have := HN.out.2; omega, HD6.out, HB6.out⟩
            case measure => simp [intOf]; omega
        · rcases (by have := HF.out.2; omega : st = 0 ∨ st = 1 ∨ st = 2) with rfl | rfl | rfl
          · have HN := Lib.hid (fits_next (k := 3) HF.out (by omega))
            have HW := Lib.hid (do_any (k := 3) (sv := .string ⟨#[83, 69, 76, 69, 67, 84, 32, 120, 32, 70, 82, 79, 77, 32, 116]⟩) HF.out (by omega) (by omega) (HD.out.kept ((Below.refl _ _).alloc (Nat.le_refl _) (arr5 9))) (str_ok (by decide +kernel)))
            go_wp2_with fail
            refine HW.out.mono ?_
            rintro e w5 ⟨y5, z5, t5, rfl, ⟨o1, o2, o3⟩, hd5, hb5⟩
            have HD5 := Lib.hid hd5
            have HB5 := Lib.hid ((HB.out.alloc HB.out.size (arr5 9)).trans hb5)
            have hc5 : (codeT 0 3 : Nat) = 6 := rfl
            rw [hc5]
            clear hd5 hb5 HW HD HB hc5
            have s1 : ∀ (a : Addr) (m : Mode) (w : World), (store a y5 m).run Tryz.prog w = stored Tryz.prog w a y5 m := fun a m w => run_store _ w a _ m o1
            have s2 : ∀ (a : Addr) (m : Mode) (w : World), (store a z5 m).run Tryz.prog w = stored Tryz.prog w a z5 m := fun a m w => run_store _ w a _ m o2
            have s3 : ∀ (a : Addr) (m : Mode) (w : World), (store a t5 m).run Tryz.prog w = stored Tryz.prog w a t5 m := fun a m w => run_store _ w a _ m o3
            clear o1 o2 o3
            go_wp2_with fail
            refine (state_any HN.out.1 (by have := HN.out.2; omega) (HD5.out.kept (box_below w5 _ _ _ _ _))).mono ?_
            rintro e w6 ⟨rfl, hd6, hb6⟩
            have HD6 := Lib.hid hd6
            have HB6 := Lib.hid (((HB5.out.trans ((box_below w5 _ _ _ _ _).mono HB5.out.size)).trans hb6))
            have hs5 : (nextS 0 3 : Nat) = 0 := rfl
            rw [hs5] at HN HD6 ⊢
            clear hd6 hb6 HD5 HB5 hs5
            go_wp2_with fail
            go_roundw
            case rel => exact ⟨i + 1, nextC c 0 3, 0, by omega, by omega, by go_num, rfl, HN.out.1, by have := HN.out.2; omega, HD6.out, HB6.out⟩
            case measure => simp [intOf]; omega
          · have HN := Lib.hid (fits_next (k := 3) HF.out (by omega))
            have HW := Lib.hid (do_any (k := 3) (sv := .string ⟨#[83, 69, 76, 69, 67, 84, 32, 120, 32, 70, 82, 79, 77, 32, 116]⟩) HF.out (by omega) (by omega) (HD.out.kept ((Below.refl _ _).alloc (Nat.le_refl _) (arr5 9))) (str_ok (by decide +kernel)))
            go_wp2_with fail
            refine HW.out.mono ?_
            rintro e w5 ⟨y5, z5, t5, rfl, ⟨o1, o2, o3⟩, hd5, hb5⟩
            have HD5 := Lib.hid hd5
            have HB5 := Lib.hid ((HB.out.alloc HB.out.size (arr5 9)).trans hb5)
            have hc5 : (codeT 1 3 : Nat) = 6 := rfl
            rw [hc5]
            clear hd5 hb5 HW HD HB hc5
            have s1 : ∀ (a : Addr) (m : Mode) (w : World), (store a y5 m).run Tryz.prog w = stored Tryz.prog w a y5 m := fun a m w => run_store _ w a _ m o1
            have s2 : ∀ (a : Addr) (m : Mode) (w : World), (store a z5 m).run Tryz.prog w = stored Tryz.prog w a z5 m := fun a m w => run_store _ w a _ m o2
            have s3 : ∀ (a : Addr) (m : Mode) (w : World), (store a t5 m).run Tryz.prog w = stored Tryz.prog w a t5 m := fun a m w => run_store _ w a _ m o3
            clear o1 o2 o3
            go_wp2_with fail
            refine (state_any HN.out.1 (by have := HN.out.2; omega) (HD5.out.kept (box_below w5 _ _ _ _ _))).mono ?_
            rintro e w6 ⟨rfl, hd6, hb6⟩
            have HD6 := Lib.hid hd6
            have HB6 := Lib.hid (((HB5.out.trans ((box_below w5 _ _ _ _ _).mono HB5.out.size)).trans hb6))
            have hs5 : (nextS 1 3 : Nat) = 2 := rfl
            rw [hs5] at HN HD6 ⊢
            clear hd6 hb6 HD5 HB5 hs5
            go_wp2_with fail
            go_roundw
            case rel => exact ⟨i + 1, nextC c 1 3, 2, by omega, by omega, by go_num, rfl, HN.out.1, by have := HN.out.2; omega, HD6.out, HB6.out⟩
            case measure => simp [intOf]; omega
          · have HN := Lib.hid (fits_next (k := 3) HF.out (by omega))
            have HW := Lib.hid (do_any (k := 3) (sv := .string ⟨#[83, 69, 76, 69, 67, 84, 32, 120, 32, 70, 82, 79, 77, 32, 116]⟩) HF.out (by omega) (by omega) (HD.out.kept ((Below.refl _ _).alloc (Nat.le_refl _) (arr5 9))) (str_ok (by decide +kernel)))
            go_wp2_with fail
            refine HW.out.mono ?_
            rintro e w5 ⟨y5, z5, t5, rfl, ⟨o1, o2, o3⟩, hd5, hb5⟩
            have HD5 := Lib.hid hd5
            have HB5 := Lib.hid ((HB.out.alloc HB.out.size (arr5 9)).trans hb5)
            have hc5 : (codeT 2 3 : Nat) = 13 := rfl
            rw [hc5]
            clear hd5 hb5 HW HD HB hc5
            have s1 : ∀ (a : Addr) (m : Mode) (w : World), (store a y5 m).run Tryz.prog w = stored Tryz.prog w a y5 m := fun a m w => run_store _ w a _ m o1
            have s2 : ∀ (a : Addr) (m : Mode) (w : World), (store a z5 m).run Tryz.prog w = stored Tryz.prog w a z5 m := fun a m w => run_store _ w a _ m o2
            have s3 : ∀ (a : Addr) (m : Mode) (w : World), (store a t5 m).run Tryz.prog w = stored Tryz.prog w a t5 m := fun a m w => run_store _ w a _ m o3
            clear o1 o2 o3
            go_wp2_with fail
            refine (state_any HN.out.1 (by have := HN.out.2; omega) (HD5.out.kept (box_below w5 _ _ _ _ _))).mono ?_
            rintro e w6 ⟨rfl, hd6, hb6⟩
            have HD6 := Lib.hid hd6
            have HB6 := Lib.hid (((HB5.out.trans ((box_below w5 _ _ _ _ _).mono HB5.out.size)).trans hb6))
            have hs5 : (nextS 2 3 : Nat) = 2 := rfl
            rw [hs5] at HN HD6 ⊢
            clear hd6 hb6 HD5 HB5 hs5
            go_wp2_with fail
            go_roundw
            case rel => exact ⟨i + 1, nextC c 2 3, 2, by omega, by omega, by go_num, rfl, HN.out.1, by have := HN.out.2; omega, HD6.out, HB6.out⟩
            case measure => simp [intOf]; omega
        · rcases (by have := HF.out.2; omega : st = 0 ∨ st = 1 ∨ st = 2) with rfl | rfl | rfl
          · have HN := Lib.hid (fits_next (k := 4) HF.out (by omega))
            have HW := Lib.hid (do_any (k := 4) (sv := .string ⟨#[83, 69, 76, 69, 67, 84, 32, 97, 32, 70, 82, 79, 77, 32, 116]⟩) HF.out (by omega) (by omega) (HD.out.kept ((Below.refl _ _).alloc (Nat.le_refl _) (arr5 9))) (str_ok (by decide +kernel)))
            go_wp2_with fail
            refine HW.out.mono ?_
            rintro e w5 ⟨y5, z5, t5, rfl, ⟨o1, o2, o3⟩, hd5, hb5⟩
            have HD5 := Lib.hid hd5
            have HB5 := Lib.hid ((HB.out.alloc HB.out.size (arr5 9)).trans hb5)
            have hc5 : (codeT 0 4 : Nat) = 0 := rfl
            rw [hc5]
            clear hd5 hb5 HW HD HB hc5
            have s1 : ∀ (a : Addr) (m : Mode) (w : World), (store a y5 m).run Tryz.prog w = stored Tryz.prog w a y5 m := fun a m w => run_store _ w a _ m o1
            have s2 : ∀ (a : Addr) (m : Mode) (w : World), (store a z5 m).run Tryz.prog w = stored Tryz.prog w a z5 m := fun a m w => run_store _ w a _ m o2
            have s3 : ∀ (a : Addr) (m : Mode) (w : World), (store a t5 m).run Tryz.prog w = stored Tryz.prog w a t5 m := fun a m w => run_store _ w a _ m o3
            clear o1 o2 o3
            go_wp2_with fail
            refine (state_any HN.out.1 (by have := HN.out.2; omega) (HD5.out.kept (box_below w5 _ _ _ _ _))).mono ?_
            rintro e w6 ⟨rfl, hd6, hb6⟩
            have HD6 := Lib.hid hd6
            have HB6 := Lib.hid (((HB5.out.trans ((box_below w5 _ _ _ _ _).mono HB5.out.size)).trans hb6))
            have hs5 : (nextS 0 4 : Nat) = 0 := rfl
            rw [hs5] at HN HD6 ⊢
            clear hd6 hb6 HD5 HB5 hs5
            go_wp2_with fail
            go_roundw
            case rel => exact ⟨i + 1, nextC c 0 4, 0, by omega, by omega, by go_num, rfl, HN.out.1, by have := HN.out.2; omega, HD6.out, HB6.out⟩
            case measure => simp [intOf]; omega
          · have HN := Lib.hid (fits_next (k := 4) HF.out (by omega))
            have HW := Lib.hid (do_any (k := 4) (sv := .string ⟨#[83, 69, 76, 69, 67, 84, 32, 97, 32, 70, 82, 79, 77, 32, 116]⟩) HF.out (by omega) (by omega) (HD.out.kept ((Below.refl _ _).alloc (Nat.le_refl _) (arr5 9))) (str_ok (by decide +kernel)))
            go_wp2_with fail
            refine HW.out.mono ?_
            rintro e w5 ⟨y5, z5, t5, rfl, ⟨o1, o2, o3⟩, hd5, hb5⟩
            have HD5 := Lib.hid hd5
            have HB5 := Lib.hid ((HB.out.alloc HB.out.size (arr5 9)).trans hb5)
            have hc5 : (codeT 1 4 : Nat) = 0 := rfl
            rw [hc5]
            clear hd5 hb5 HW HD HB hc5
            have s1 : ∀ (a : Addr) (m : Mode) (w : World), (store a y5 m).run Tryz.prog w = stored Tryz.prog w a y5 m := fun a m w => run_store _ w a _ m o1
            have s2 : ∀ (a : Addr) (m : Mode) (w : World), (store a z5 m).run Tryz.prog w = stored Tryz.prog w a z5 m := fun a m w => run_store _ w a _ m o2
            have s3 : ∀ (a : Addr) (m : Mode) (w : World), (store a t5 m).run Tryz.prog w = stored Tryz.prog w a t5 m := fun a m w => run_store _ w a _ m o3
            clear o1 o2 o3
            go_wp2_with fail
            refine (state_any HN.out.1 (by have := HN.out.2; omega) (HD5.out.kept (box_below w5 _ _ _ _ _))).mono ?_
            rintro e w6 ⟨rfl, hd6, hb6⟩
            have HD6 := Lib.hid hd6
            have HB6 := Lib.hid (((HB5.out.trans ((box_below w5 _ _ _ _ _).mono HB5.out.size)).trans hb6))
            have hs5 : (nextS 1 4 : Nat) = 1 := rfl
            rw [hs5] at HN HD6 ⊢
            clear hd6 hb6 HD5 HB5 hs5
            go_wp2_with fail
            go_roundw
            case rel => exact ⟨i + 1, nextC c 1 4, 1, by omega, by omega, by go_num, rfl, HN.out.1, by have := HN.out.2; omega, HD6.out, HB6.out⟩
            case measure => simp [intOf]; omega
          · have HN := Lib.hid (fits_next (k := 4) HF.out (by omega))
            have HW := Lib.hid (do_any (k := 4) (sv := .string ⟨#[83, 69, 76, 69, 67, 84, 32, 97, 32, 70, 82, 79, 77, 32, 116]⟩) HF.out (by omega) (by omega) (HD.out.kept ((Below.refl _ _).alloc (Nat.le_refl _) (arr5 9))) (str_ok (by decide +kernel)))
            go_wp2_with fail
            refine HW.out.mono ?_
            rintro e w5 ⟨y5, z5, t5, rfl, ⟨o1, o2, o3⟩, hd5, hb5⟩
            have HD5 := Lib.hid hd5
            have HB5 := Lib.hid ((HB.out.alloc HB.out.size (arr5 9)).trans hb5)
            have hc5 : (codeT 2 4 : Nat) = 13 := rfl
            rw [hc5]
            clear hd5 hb5 HW HD HB hc5
            have s1 : ∀ (a : Addr) (m : Mode) (w : World), (store a y5 m).run Tryz.prog w = stored Tryz.prog w a y5 m := fun a m w => run_store _ w a _ m o1
            have s2 : ∀ (a : Addr) (m : Mode) (w : World), (store a z5 m).run Tryz.prog w = stored Tryz.prog w a z5 m := fun a m w => run_store _ w a _ m o2
            have s3 : ∀ (a : Addr) (m : Mode) (w : World), (store a t5 m).run Tryz.prog w = stored Tryz.prog w a t5 m := fun a m w => run_store _ w a _ m o3
            clear o1 o2 o3
            go_wp2_with fail
            refine (state_any HN.out.1 (by have := HN.out.2; omega) (HD5.out.kept (box_below w5 _ _ _ _ _))).mono ?_
            rintro e w6 ⟨rfl, hd6, hb6⟩
            have HD6 := Lib.hid hd6
            have HB6 := Lib.hid (((HB5.out.trans ((box_below w5 _ _ _ _ _).mono HB5.out.size)).trans hb6))
            have hs5 : (nextS 2 4 : Nat) = 2 := rfl
            rw [hs5] at HN HD6 ⊢
            clear hd6 hb6 HD5 HB5 hs5
            go_wp2_with fail
            go_roundw
            case rel => exact ⟨i + 1, nextC c 2 4, 2, by omega, by omega, by go_num, rfl, HN.out.1, by have := HN.out.2; omega, HD6.out, HB6.out⟩
            case measure => simp [intOf]; omega
      · obtain rfl : i = 60 := by omega
        go_wp2_with fail
        go_ret
        exact ⟨rfl, HB.out⟩
    · obtain rfl : i = n := by omega
      go_wp2_with fail
      go_ret
      exact ⟨rfl, HB.out⟩
end Go.Proofs.YtekecchdjkkoeaaGreatDoor.deskControls
