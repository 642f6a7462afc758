/- ShellLong's walk, the evaluator's calls as premises. No condition. -/
import Derived.Test.YtpopoaopohngbaaGreatDoorShRun
set_option linter.unusedVariables false
set_option linter.unusedSimpArgs false
namespace Go.Proofs.YtpopoaopohngbaaGreatDoor
open Go.RowKit Go.Lap

theorem ShTold.kept {w w' : World} (h : ShTold w) (hq : Quiet w w') : ShTold w' :=
  ⟨fun W h1 => h.fault W (hq.trans h1), fun W h1 => h.new W (hq.trans h1), fun W b s h1 h2 h3 h4 => h.write W b s (hq.trans h1) (Nat.le_trans hq.size h2) h3 h4⟩
def zeroT (_ : Nat) : Value := .int .u8 0
theorem made_zero (k : Nat) : madeCells (Value.cells (.int .u8 0)) k = tab k zeroT := by
  apply tab_of
  · simp [madeCells]
  · intro i hi
    simp [madeCells, hi, Value.cells, zeroT, Nat.mod_one]
set_option maxRecDepth 100000 in
theorem make_zero (k : Nat) (hk : k ≤ 100000) (w : World) : (Instr.makeSlice 26 (.int .i64 (k : Int)) (.int .i64 (k : Int))).run Tryz.prog w = .ok (.slice (some ⟨w.heap.size, 0, none⟩) k k) (w.alloc (.cells (tab k zeroT) 5)) := by
  obtain ⟨i, z, ht, hi, h0, h1, h2, h3, h4⟩ := elem_u8
  have hz : z = .int .u8 0 := by
    have : (Tryz.prog.info? 5).map (fun i => i.zero) = some (some (.int .u8 0)) := by kernel_rfl
    rw [hi] at this
    simp [h0] at this
    exact this
  subst hz
  have hr := run_make (P := Tryz.prog) w 26 5 i (.int .u8 0) ht hi h0 .i64 .i64 k k (by omega) (by omega) (by rw [h2]; omega) (by omega)
  simp only [Int.toNat_natCast] at hr
  rw [hr, h1, Nat.mul_one, made_zero]
/-- A block of zeros is a text. -/
theorem zero_conv (w : World) (k : Nat) : (convert 26 9 (.slice (some ⟨w.heap.size, 0, none⟩) k k)).run Tryz.prog (w.alloc (.cells (tab k zeroT) 5)) = .ok (.string (strOf (List.replicate k 0))) (w.alloc (.cells (tab k zeroT) 5)) := by
  have hb := alloc_new w (.cells (tab k zeroT) 5)
  have hr : Rd (w.alloc (.cells (tab k zeroT) 5)) (fun _ => True) 1 (some ⟨w.heap.size, 0, none⟩) (List.replicate k 0).length (bytesV (List.replicate k 0)) := by
    refine ⟨by rw [bytes_len, Nat.mul_one], fun _ => ⟨_, 0, rfl, trivial, fun i v hv => ?_⟩⟩
    unfold bytesV at hv
    rw [List.getElem?_map, List.getElem?_replicate] at hv
    split at hv
    · rename_i hi
      injection hv with hv
      rw [← hv, Nat.zero_add, cell_of hb, tab_get hi]
      rfl
    · cases hv
  have := conv_str (some ⟨w.heap.size, 0, none⟩) k (List.replicate k 0) _ _ hr (fun x hx => by rw [(List.mem_replicate.1 hx).2]; omega)
  rw [List.length_replicate] at this
  exact this
theorem zs_of (k : Nat) (hk : 1000 ≤ k) : Zs (strOf (List.replicate k 0)) ∧ (strOf (List.replicate k 0)).size = k := by
  have h1 : (strOf (List.replicate k 0)).data.toList = List.replicate k 0 := by
    unfold strOf
    rw [List.map_replicate]; rfl
  have h2 : (strOf (List.replicate k 0)).size = k := by
    show (strOf (List.replicate k 0)).data.size = k
    rw [← Array.length_toList, h1, List.length_replicate]
  exact ⟨⟨by rw [h1, h2], by omega⟩, h2⟩
theorem isErrN_eq {t : ByteArray} (h : IsErrN t) : t = ⟨#[101, 114, 114, 111, 114, 32, 51, 10]⟩ := by
  have h1 : t.data.toList = [101, 114, 114, 111, 114, 32, 51, 10] := by
    have h2 : t.data.toList.map (·.toNat) = ([101, 114, 114, 111, 114, 32, 51, 10] : List UInt8).map (·.toNat) := h
    exact (List.map_inj_right (fun a b e => UInt8.toNat_inj.1 e)).1 h2
  cases t with
  | mk d =>
    congr 1
    exact Array.toList_inj.1 h1

set_option maxHeartbeats 2000000 in
set_option maxRecDepth 100000 in
theorem law_walk {n : Nat} {w : World} (hn : n < 256) (haw : Calls Tryz.prog 4 #[] w fun e w' => e = .returned (.bool true) ∧ Quiet w w') (he : ErrThere w) (ht : ShTold w) :
    Calls Tryz.prog 3 #[.int .u8 (n : Int)] w fun e w' => e = .returned (.bool true) ∧ Quiet w w' := by
  have HAW := Lib.hid haw
  obtain ⟨POST, hPOST⟩ : ∃ POST : Ending → World → Prop, (fun e w' => e = .returned (.bool true) ∧ Quiet w w') = POST := ⟨_, rfl⟩
  rw [hPOST]
  have HPOST := Lib.hid hPOST
  obtain ⟨r, hr⟩ : ∃ r : Nat, n % 7 = r := ⟨_, rfl⟩
  have hr6 : r ≤ 6 := by omega
  have h0 : (0 : Int) ≤ (n : Int) := by omega
  have hw7 : ((n : Int).tmod 7) = (r : Int) := by rw [← hr]; rfl
  obtain ⟨k, hk⟩ : ∃ k : Nat, 19997 + r = k := ⟨_, rfl⟩
  obtain ⟨hz, hzs⟩ := zs_of k (by omega)
  obtain ⟨z, hzz⟩ : ∃ z, strOf (List.replicate k 0) = z := ⟨_, rfl⟩
  have HCV : Hid (∀ W : World, (convert 26 9 (.slice (some ⟨W.heap.size, 0, none⟩) k k)).run Tryz.prog (W.alloc (.cells (tab k zeroT) 5)) = .ok (.string z) (W.alloc (.cells (tab k zeroT) 5))) := fun W => by rw [← hzz]; exact zero_conv W k
  rw [hzz] at hz hzs
  have HMK : Hid (∀ W : World, (Instr.makeSlice 26 (.int .i64 (19997 + (r : Int))) (.int .i64 (19997 + (r : Int)))).run Tryz.prog W = .ok (.slice (some ⟨W.heap.size, 0, none⟩) k k) (W.alloc (.cells (tab k zeroT) 5))) := fun W => by
    have := make_zero k (by omega) W
    rw [show (k : Int) = 19997 + (r : Int) by omega] at this
    exact this
  have HRUN : Hid (∀ W, Quiet w W → Calls Tryz.prog 5 #[.string z] W fun e w' => (e = .returned (.tuple #[.string (if 20000 < k then ⟨#[]⟩ else ⟨#[101, 114, 114, 111, 114, 32, 51, 10]⟩), .int .i64 (if 20000 < k then 2 else 0)])) ∧ Quiet W w') := fun W hq => by
    by_cases hk2 : 20000 < k
    · rw [if_pos hk2, if_pos hk2]
      refine (run_long (s := z) (by rw [hzs]; exact hk2)).mono ?_
      rintro e w' ⟨h1, rfl⟩
      exact ⟨h1, Only.refl _ _⟩
    · rw [if_neg hk2, if_neg hk2]
      refine (run_zeros hz (by omega) (he.kept hq) (ht.kept hq)).mono ?_
      rintro e w' ⟨⟨t, h1, h2⟩, h3⟩
      rw [isErrN_eq h2] at h1
      exact ⟨h1, h3⟩
  clear hPOST haw he ht hz hzs hzz hr
  go_enter Tryz.func3, Tryz.ntmps3
  go_wp2_with fail
  refine HAW.out.mono ?_
  rintro e w1 ⟨rfl, hq1⟩
  have HQ1 := Lib.hid hq1
  have HQ2 : Hid (∀ o, Quiet w (w1.alloc o)) := fun o => hq1.alloc o
  clear hq1
  go_wp2_with fail
  rw [HMK.out]
  simp only [Result.andThen]
  rw [Oper.upon_value]
  go_wp2_with fail
  rw [HCV.out]
  simp only [Result.andThen]
  rw [Oper.upon_value]
  go_wp2_with fail
  refine (HRUN.out _ (HQ2.out _)).mono ?_
  rintro e w3 ⟨rfl, hq3⟩
  have HEND : Hid (POST (.returned (.bool true)) w3) := by rw [← HPOST.out]; exact ⟨rfl, (HQ2.out _).trans hq3⟩
  clear hq3
  by_cases hk2 : 20000 < k
  · rw [if_pos hk2, if_pos hk2]
    have h19 : (20000 : Int) < 19997 + (r : Int) := by omega
    clear hk2 hk
    go_wp2
    exact HEND.out
  · rw [if_neg hk2, if_neg hk2]
    have h19 : ¬ (20000 : Int) < 19997 + (r : Int) := by omega
    have h20 : 19997 + (r : Int) ≤ (20000 : Int) := by omega
    clear hk2 hk
    go_wp2
    exact HEND.out
end Go.Proofs.YtpopoaopohngbaaGreatDoor
