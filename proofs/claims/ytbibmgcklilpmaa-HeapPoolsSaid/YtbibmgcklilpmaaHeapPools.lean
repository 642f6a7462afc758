/- HeapPools: no more pages are ever taken from a pool than it has. For every input. -/
import Derived.Test.YtbibmgcklilpmaaHeapTwo
import Derived.Test.YtbibmgcklilpmaaOpen7
namespace Go.Proofs.Ytbibmgcklilpmaa
open Go.RowKit Go.Lap

/-- The law's world between two calls. -/
structure PoolsW (w wr : World) (ab h1 h2 pb k : Nat) : Prop where
  two : ∃ H1 H2 left, LawW2 w wr (· = ab) h1 h2 pb H1 H2 left ∧ H1.length + H2.length + left = k
  arr : wr.heap[ab]? = some (.cells #[.pointer (some ⟨h1, 0, none⟩), .pointer (some ⟨h2, 0, none⟩)] 75 (0, 0))

theorem few_bytes {t : Tup} (h : ∀ x ∈ t.data, x < 256) : ∀ x ∈ t.few.data, x < 256 := fun x hx => h x (List.mem_of_mem_take hx)

theorem op_cells {w : World} {b off k : Nat} {v0 v1 v2 v3 v4 v5 v6 v7 v8 v9 : Value} (h : ∀ j u, #[v0, v1, v2, v3, v4, v5, v6, v7, v8, v9][j]? = some u → w.cell? ⟨b, off + k * 10 + j, none⟩ = some u) :
    w.cell? ⟨b, off + k * 10, none⟩ = some v0 ∧ w.cell? ⟨b, off + k * 10 + 1, none⟩ = some v1 ∧ w.cell? ⟨b, off + k * 10 + 2, none⟩ = some v2 ∧ w.cell? ⟨b, off + k * 10 + 3, none⟩ = some v3 ∧ w.cell? ⟨b, off + k * 10 + 4, none⟩ = some v4 ∧ w.cell? ⟨b, off + k * 10 + 5, none⟩ = some v5 ∧ w.cell? ⟨b, off + k * 10 + 6, none⟩ = some v6 ∧ w.cell? ⟨b, off + k * 10 + 7, none⟩ = some v7 ∧ w.cell? ⟨b, off + k * 10 + 8, none⟩ = some v8 ∧ w.cell? ⟨b, off + k * 10 + 9, none⟩ = some v9 :=
  ⟨h 0 _ rfl, h 1 _ rfl, h 2 _ rfl, h 3 _ rfl, h 4 _ rfl, h 5 _ rfl, h 6 _ rfl, h 7 _ rfl, h 8 _ rfl, h 9 _ rfl⟩

set_option maxHeartbeats 1000000 in
set_option maxRecDepth 100000 in
theorem heapPools_any (s : Int) (A : Option Addr) (n cap : Nat) (w : World) (hs : 0 ≤ s ∧ s ≤ 255) (h : OpsIn7 w w.heap.size A n) (hn : n ≤ cap) (hcap : cap ≤ maxLen) :
    Calls Try.prog 9 #[.int .u8 s, .slice A n cap] w fun e w' => e = .returned (.bool true) ∧ Below w.heap.size w w' := by
  unfold maxLen at hcap
  have H := Lib.hid h
  clear h
  go_enter Try.func9, Try.ntmps9
  go_wp2_with fail
  refine (awake7 _).mono ?_
  rintro e w1 ⟨rfl, hq1⟩
  have HQ1 := Lib.hid hq1
  clear hq1
  obtain ⟨k, hk, hk2⟩ : ∃ k : Nat, s % 12 = k ∧ k ≤ 11 := ⟨(s % 12).toNat, by omega, by omega⟩
  go_wp2_with fail
  rw [hk]
  refine (pool_new k (by omega) _).mono ?_
  rintro e w2 ⟨rfl, hq2, hp2⟩
  have HQ2 := Lib.hid (HQ1.out.trans hq2)
  have HP2 := Lib.hid hp2
  have hpb : w.heap.size ≤ w1.heap.size := HQ1.out.size
  clear hq2 hp2 HQ1
  generalize w1.heap.size = pb at HP2 hpb ⊢
  go_wp2_with fail
  refine (heap_new _ _).mono ?_
  rintro e w3 ⟨h1, rfl, hq3, hh3⟩
  have HQ3 := Lib.hid hq3
  have HH3 := Lib.hid hh3
  clear hq3 hh3
  go_wp2_with fail
  refine (heap_new _ _).mono ?_
  rintro e w4 ⟨h2, rfl, hq4, hh4⟩
  have HL4 := Lib.hid (LawW2.start (K := fun _ => False) HQ2.out HP2.out hpb (by omega) HQ3.out HH3.out hq4 hh4 (fun _ x => x.elim))
  clear hq4 hh4 HQ3 HH3 HQ2 HP2
  have HW : Hid (PoolsW w (w4.alloc (.cells #[.pointer (some ⟨h1, 0, none⟩), .pointer (some ⟨h2, 0, none⟩)] 75)) w4.heap.size h1 h2 pb k) :=
    ⟨⟨[], [], k, HL4.out.fresh ((Only.refl (fun _ => False) w4).alloc _) (fun j e => ⟨Or.inr (by omega), by rw [e]; simp⟩), by simp⟩, alloc_new _ _⟩
  clear HL4
  go_wp2_with fail
  generalize hab : w4.heap.size = ab at HW ⊢
  clear hab hk hs
  go_loopw [29, 9, 10, 11] (fun v _ _ _ wr => ∃ j : Nat, j ≤ n ∧ v = .int .i64 (j : Int) ∧ PoolsW w wr ab h1 h2 pb k) (fun v _ _ _ _ => n - (intOf v).toNat)
  case atStart => exact ⟨0, Nat.zero_le _, rfl, HW.out⟩
  case round =>
    obtain ⟨j, hj, rfl, hW⟩ := hrel
    have HW1 := Lib.hid hW
    clear HW
    obtain ⟨H1, H2, left, hl, hsum⟩ := hW.two
    have a0 : wr.cell? ⟨ab, 0, none⟩ = some (.pointer (some ⟨h1, 0, none⟩)) := by rw [cell_of hW.arr]; rfl
    have a1 : wr.cell? ⟨ab, 1, none⟩ = some (.pointer (some ⟨h2, 0, none⟩)) := by rw [cell_of hW.arr]; rfl
    have hab : ab < wr.heap.size := lt_of_get hW.arr
    have hab' : ¬ ab = wr.heap.size := by omega
    by_cases hlt : j < n
    · obtain ⟨b, off, dn, two, pg, sl, t, A', cap', rfl, hb, hdn, hc', hcap', hby, hd, hcs⟩ := H.out.kept (onward (Below.refl _ _) (Nat.le_refl _) hl.quiet (fun _ x => x.elim)) j hlt
      obtain ⟨c0, c1, c2, c3, c4, c5, c6, c7, c8, c9⟩ := op_cells hcs
      have hbr : b < wr.heap.size := by have := hl.quiet.size; omega
      have HD := Lib.hid hd
      have HBY := Lib.hid hby
      have HL := Lib.hid (hl.quietly ((Only.refl (fun _ => False) wr).alloc (.cells #[.int .u8 (dn : Int), .bool two, .int .i64 pg, .int .i64 sl, .int .u64 (t.row : Int), .int .u64 (t.xmin : Int), .int .u64 (t.xmax : Int), .int .i64 t.pg, .int .i64 t.sl, .slice A' t.data.length cap'] 77)))
      have HB := Lib.hid (alloc_old hW.arr (.cells #[.int .u8 (dn : Int), .bool two, .int .i64 pg, .int .i64 sl, .int .u64 (t.row : Int), .int .u64 (t.xmin : Int), .int .u64 (t.xmax : Int), .int .i64 t.pg, .int .i64 t.sl, .slice A' t.data.length cap'] 77))
      clear hcs hd hby hl hW
      by_cases h60 : j < 60
      · rcases two with _ | _
        · by_cases h8 : (dn : Int) % 9 = 8
          · go_wp2_with fail
            refine (HL.out.drop).mono ?_
            rintro e w6 ⟨rfl, ht6, hl6⟩
            have HW2 : Hid (PoolsW w w6 ab h1 h2 pb k) := ⟨⟨_, _, _, hl6, by simp; omega⟩, ht6.get HB.out (fun x => x.1 rfl)⟩
            clear ht6 hl6 HL
            clear HB
            obtain ⟨H1, H2, left, hl, hsum⟩ := HW2.out.two
            have HL := Lib.hid hl
            have a0 : w6.cell? ⟨ab, 0, none⟩ = some (.pointer (some ⟨h1, 0, none⟩)) := by rw [cell_of HW2.out.arr]; rfl
            have a1 : w6.cell? ⟨ab, 1, none⟩ = some (.pointer (some ⟨h2, 0, none⟩)) := by rw [cell_of HW2.out.arr]; rfl
            have hsi : (H1.length : Int) + H2.length + left = k := by omega
            have d0 : decide ((left : Int) < 0) = false := by simp
            clear hl hsum
            go_wp2_with fail
            go_quiet ((first | (go_at_call_of 44 (Value.pointer (some ⟨h1, 0, none⟩)); exact quiet_left ((HL.out.drewN _).pages)) | (go_at_call_of 44 (Value.pointer (some ⟨h2, 0, none⟩)); exact quiet_left ((HL.out.drewN _).swap.pages)) | (go_at_call 45; exact quiet_left ((HL.out.drewN _).poolLeft)) | fail))
            go_wp2
            go_roundw
            case rel => exact ⟨j + 1, by omega, by go_num, ⟨⟨H1, H2, left, HL.out.drewN _, by omega⟩, HW2.out.arr⟩⟩
            case measure => simp [intOf]; omega
          · unfold tupV at *
            go_wp2_with fail
            rw [show (Value.agg #[.int .u64 (t.row : Int), .int .u64 (t.xmin : Int), .int .u64 (t.xmax : Int), .int .i64 t.pg, .int .i64 t.sl, .slice A' t.data.length cap']) = tupV t A' cap' from rfl]
            refine (few_any t A' cap' _ _ (HD.out.kept ((Only.refl (fun _ => False) wr).alloc _) (fun _ _ x => x)) hc' hcap').mono ?_
            rintro e w5 ⟨A5, c5, rfl, hfr⟩
            have HPUT := Lib.hid (HL.out.put hfr (few_bytes HBY.out))
            have HB5 := Lib.hid (hfr.quiet.get HB.out (fun x => x))
            clear hfr
            unfold tupV at HPUT ⊢
            go_wp2_with fail
            refine HPUT.out.mono ?_
            rintro e w6 ⟨rfl, ht6, hl6⟩
            have HW2 : Hid (PoolsW w w6 ab h1 h2 pb k) := ⟨⟨_, _, _, hl6, by have := hIns_sum H1 left t.few; omega⟩, ht6.get HB.out (fun x => x.1 rfl)⟩
            clear ht6 hl6 HL HPUT HB5
            clear HB
            obtain ⟨H1, H2, left, hl, hsum⟩ := HW2.out.two
            have HL := Lib.hid hl
            have a0 : w6.cell? ⟨ab, 0, none⟩ = some (.pointer (some ⟨h1, 0, none⟩)) := by rw [cell_of HW2.out.arr]; rfl
            have a1 : w6.cell? ⟨ab, 1, none⟩ = some (.pointer (some ⟨h2, 0, none⟩)) := by rw [cell_of HW2.out.arr]; rfl
            have hsi : (H1.length : Int) + H2.length + left = k := by omega
            have d0 : decide ((left : Int) < 0) = false := by simp
            clear hl hsum
            go_wp2_with fail
            go_quiet ((first | (go_at_call_of 44 (Value.pointer (some ⟨h1, 0, none⟩)); exact quiet_left ((HL.out.drewN _).pages)) | (go_at_call_of 44 (Value.pointer (some ⟨h2, 0, none⟩)); exact quiet_left ((HL.out.drewN _).swap.pages)) | (go_at_call 45; exact quiet_left ((HL.out.drewN _).poolLeft)) | fail))
            go_wp2
            go_roundw
            case rel => exact ⟨j + 1, by omega, by go_num, ⟨⟨H1, H2, left, HL.out.drewN _, by omega⟩, HW2.out.arr⟩⟩
            case measure => simp [intOf]; omega
        · by_cases h8 : (dn : Int) % 9 = 8
          · go_wp2_with fail
            refine (HL.out.swap.drop).mono ?_
            rintro e w6 ⟨rfl, ht6, hl6⟩
            have HW2 : Hid (PoolsW w w6 ab h1 h2 pb k) := ⟨⟨_, _, _, hl6.swap, by simp; omega⟩, ht6.get HB.out (fun x => x.1 rfl)⟩
            clear ht6 hl6 HL
            clear HB
            obtain ⟨H1, H2, left, hl, hsum⟩ := HW2.out.two
            have HL := Lib.hid hl
            have a0 : w6.cell? ⟨ab, 0, none⟩ = some (.pointer (some ⟨h1, 0, none⟩)) := by rw [cell_of HW2.out.arr]; rfl
            have a1 : w6.cell? ⟨ab, 1, none⟩ = some (.pointer (some ⟨h2, 0, none⟩)) := by rw [cell_of HW2.out.arr]; rfl
            have hsi : (H1.length : Int) + H2.length + left = k := by omega
            have d0 : decide ((left : Int) < 0) = false := by simp
            clear hl hsum
            go_wp2_with fail
            go_quiet ((first | (go_at_call_of 44 (Value.pointer (some ⟨h1, 0, none⟩)); exact quiet_left ((HL.out.drewN _).pages)) | (go_at_call_of 44 (Value.pointer (some ⟨h2, 0, none⟩)); exact quiet_left ((HL.out.drewN _).swap.pages)) | (go_at_call 45; exact quiet_left ((HL.out.drewN _).poolLeft)) | fail))
            go_wp2
            go_roundw
            case rel => exact ⟨j + 1, by omega, by go_num, ⟨⟨H1, H2, left, HL.out.drewN _, by omega⟩, HW2.out.arr⟩⟩
            case measure => simp [intOf]; omega
          · unfold tupV at *
            go_wp2_with fail
            rw [show (Value.agg #[.int .u64 (t.row : Int), .int .u64 (t.xmin : Int), .int .u64 (t.xmax : Int), .int .i64 t.pg, .int .i64 t.sl, .slice A' t.data.length cap']) = tupV t A' cap' from rfl]
            refine (few_any t A' cap' _ _ (HD.out.kept ((Only.refl (fun _ => False) wr).alloc _) (fun _ _ x => x)) hc' hcap').mono ?_
            rintro e w5 ⟨A5, c5, rfl, hfr⟩
            have HPUT := Lib.hid (HL.out.swap.put hfr (few_bytes HBY.out))
            have HB5 := Lib.hid (hfr.quiet.get HB.out (fun x => x))
            clear hfr
            unfold tupV at HPUT ⊢
            go_wp2_with fail
            refine HPUT.out.mono ?_
            rintro e w6 ⟨rfl, ht6, hl6⟩
            have HW2 : Hid (PoolsW w w6 ab h1 h2 pb k) := ⟨⟨_, _, _, hl6.swap, by have := hIns_sum H2 left t.few; omega⟩, ht6.get HB.out (fun x => x.1 rfl)⟩
            clear ht6 hl6 HL HPUT HB5
            clear HB
            obtain ⟨H1, H2, left, hl, hsum⟩ := HW2.out.two
            have HL := Lib.hid hl
            have a0 : w6.cell? ⟨ab, 0, none⟩ = some (.pointer (some ⟨h1, 0, none⟩)) := by rw [cell_of HW2.out.arr]; rfl
            have a1 : w6.cell? ⟨ab, 1, none⟩ = some (.pointer (some ⟨h2, 0, none⟩)) := by rw [cell_of HW2.out.arr]; rfl
            have hsi : (H1.length : Int) + H2.length + left = k := by omega
            have d0 : decide ((left : Int) < 0) = false := by simp
            clear hl hsum
            go_wp2_with fail
            go_quiet ((first | (go_at_call_of 44 (Value.pointer (some ⟨h1, 0, none⟩)); exact quiet_left ((HL.out.drewN _).pages)) | (go_at_call_of 44 (Value.pointer (some ⟨h2, 0, none⟩)); exact quiet_left ((HL.out.drewN _).swap.pages)) | (go_at_call 45; exact quiet_left ((HL.out.drewN _).poolLeft)) | fail))
            go_wp2
            go_roundw
            case rel => exact ⟨j + 1, by omega, by go_num, ⟨⟨H1, H2, left, HL.out.drewN _, by omega⟩, HW2.out.arr⟩⟩
            case measure => simp [intOf]; omega
      · go_wp2_with fail
        refine (HL.out.drop).mono ?_
        rintro e w6 ⟨rfl, ht6, hl6⟩
        have HL6 := Lib.hid hl6
        have HB6 := Lib.hid (ht6.get HB.out (fun x => x.1 rfl))
        clear ht6 hl6 HL HB a0 a1
        have a1 : w6.cell? ⟨ab, 1, none⟩ = some (.pointer (some ⟨h2, 0, none⟩)) := by rw [cell_of HB6.out]; rfl
        go_wp2_with fail
        refine (HL6.out.swap.drop).mono ?_
        rintro e w7 ⟨rfl, ht7, hl7⟩
        have HL7 := Lib.hid hl7
        rw [show left + H1.length + H2.length = k by omega] at HL7
        clear ht7 hl7 HL6 HB6 a1
        go_wp2_with fail
        refine (HL7.out.poolLeft).mono ?_
        rintro e w8 ⟨rfl, rfl⟩
        go_wp2
        go_ret
        exact ⟨by simp, onward (Below.refl _ _) (Nat.le_refl _) HL7.out.quiet (fun _ x => x.elim)⟩
    · have HL := Lib.hid hl
      have HB := Lib.hid hW.arr
      clear hl hW
      go_wp2_with fail
      refine (HL.out.drop).mono ?_
      rintro e w6 ⟨rfl, ht6, hl6⟩
      have HL6 := Lib.hid hl6
      have HB6 := Lib.hid (ht6.get HB.out (fun x => x.1 rfl))
      clear ht6 hl6 HL HB a0 a1
      have a1 : w6.cell? ⟨ab, 1, none⟩ = some (.pointer (some ⟨h2, 0, none⟩)) := by rw [cell_of HB6.out]; rfl
      go_wp2_with fail
      refine (HL6.out.swap.drop).mono ?_
      rintro e w7 ⟨rfl, ht7, hl7⟩
      have HL7 := Lib.hid hl7
      rw [show left + H1.length + H2.length = k by omega] at HL7
      clear ht7 hl7 HL6 HB6 a1
      go_wp2_with fail
      refine (HL7.out.poolLeft).mono ?_
      rintro e w8 ⟨rfl, rfl⟩
      go_wp2
      go_ret
      exact ⟨by simp, onward (Below.refl _ _) (Nat.le_refl _) HL7.out.quiet (fun _ x => x.elim)⟩

open Go.ChangeShapes Go.WideShapes in
set_option maxRecDepth 100000 in
theorem heapPools_walk {H : Type} {enc : TypeId × Value → H} {r : Reach} {base : Nat} {d0 d1 : DataW H} {p0 p1 : List MemPlace} (v0 v1 : Value) (W : World)
    (o0 : Value.okWide Try.prog W r base 5 v0) (h0 : DataW.Trod enc Try.prog W 0 (fun _ => true) true 5 v0 d0 p0) (o1 : Value.okWide Try.prog W r base 69 v1) (h1 : DataW.Trod enc Try.prog W 0 (fun _ => true) true 69 v1 d1 p1) :
    Calls Try.prog 9 #[v0, v1] W fun e w' => e = .returned (.bool true) ∧ Below W.heap.size W w' := by
  obtain ⟨x, rfl, _, _, wx⟩ := open_int Try.underlying5 o0 h0
  obtain ⟨A, n, cap, rfl, a1, a2, a3⟩ := open_ops7 o1 h1
  exact heapPools_any x A n cap W (bounds_u8 wx) a3 a1 a2

end Go.Proofs.Ytbibmgcklilpmaa
