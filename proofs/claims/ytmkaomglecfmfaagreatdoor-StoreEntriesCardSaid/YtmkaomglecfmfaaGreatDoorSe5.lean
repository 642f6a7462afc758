/- key.Bytes of a small number, and store.keyOf. store.keyOf of a row of one small number. store.put, with the indexes that must be kept up. StoreEntries' plain part. store.Insert, store.Update with the indexes that must be kept up; the same in a law's world. store.Delete of a version that is there. StoreEntries: what the law's store holds, and what each call leaves. The book of one table: Tables, entries, taken. CreateIndex of a book of one table. A map told by a function, as the kit's laws on a range take it: its values stand for themselves. slices.Collect(maps.Values(..)) of snapshots: all values, in some order. slices.AppendSeq, slices.Collect of an iterator of snapshots: what it gives. snap.Horizon; store.Horizon. store.Horizon: of all that run. A tree more; a row of numbers that grows. A store of one table: table, Book, Used, Entries. No condition. -/
import Derived.Test.YtmkaomglecfmfaaGreatDoorSe4
import Derived.Maps.Range
import Derived.Shelf.SlIter.Collect
import Derived.BigFrameIn
namespace Go.Lap

/-- The byte of a small number's key at a place. -/
def keyB (n s : Nat) : Nat := if s = 0 then 128 else if s = 7 then n else 0
def keyTo (n k : Nat) : List Nat := (List.range k).map (keyB n)
/-- The key of a small number. -/
def keyI (n : Nat) : List Nat := 3 :: keyTo n 8

theorem keyTo_succ (n k : Nat) : keyTo n (k + 1) = keyTo n k ++ [keyB n k] := by simp [keyTo, List.range_succ]
theorem keyTo_length (n k : Nat) : (keyTo n k).length = k := by simp [keyTo]
theorem keyI_length (n : Nat) : (keyI n).length = 9 := by simp [keyI, keyTo_length]
theorem keyB_lt {n : Nat} (hn : n < 256) (s : Nat) : keyB n s < 256 := by unfold keyB; split <;> (try split) <;> omega
theorem keyI_bytes {n : Nat} (hn : n < 256) : ∀ x ∈ keyI n, x < 256 := by
  intro x hx
  rcases List.mem_cons.1 hx with e | e
  · omega
  · obtain ⟨i, _, e⟩ := List.mem_map.1 e
    rw [← e]; exact keyB_lt hn i

theorem key_byte {n j : Nat} (hn : n < 256) (hj : j < 8) : ((9223372036854775808 + n : Nat) : Int) / 2 ^ (8 * j) % 256 = ((keyB n (7 - j) : Nat) : Int) := by
  unfold keyB
  rcases j with _ | _ | _ | _ | _ | _ | _ | _ | j
  all_goals first | omega | (simp; omega)

end Go.Lap
namespace Go.Proofs.YtmkaomglecfmfaaGreatDoor
open Go.RowKit Go.Lap

theorem xor_sign : ∀ n : Fin 256, bits BinOp.xor IntKind.u64 ((n.val : Nat) : Int) 9223372036854775808 = ((9223372036854775808 + n.val : Nat) : Int) := by decide +kernel

set_option maxHeartbeats 2000000 in
set_option maxRecDepth 100000 in
theorem key_bytes_int {w : World} {S2 : Nat → Prop} {A2 : Option Addr} {c2 : Nat} {n : Nat} (hn : n < 256) (hv : Rd w S2 4 A2 1 (intRow n)) (hc2 : 1 ≤ c2) (hm2 : c2 ≤ maxLen) :
    Calls Tryz.prog 74 #[.slice A2 1 c2] w (RowPost w (keyI n)) := by
  obtain ⟨b2, off2, rfl, _, v0, v1, v2, v3⟩ := intRow.get hv
  have l2 := cell_lt v0
  dsimp only at l2
  have hx0 := xor_sign ⟨n, hn⟩
  obtain ⟨z, hz⟩ : ∃ z : Nat, 9223372036854775808 + n = z := ⟨_, rfl⟩
  have hx : bits BinOp.xor IntKind.u64 (n : Int) 9223372036854775808 = (z : Int) := by rw [← hz]; exact hx0
  have HZ := Lib.hid hz
  unfold maxLen at hm2
  obtain ⟨POST, hPOST⟩ : ∃ POST, RowPost w (keyI n) = POST := ⟨_, rfl⟩
  rw [hPOST]
  have HPOST := Lib.hid hPOST
  clear hv hx0 hz hPOST
  go_enter Tryz.func74, Tryz.ntmps74
  go_wp2_with fail
  refine wp_loop_rounds 2 ?_
  rw [rounds_succ]
  go_wp2_with fail
  have hb0 : (w.alloc (.cells (intCells n) 54)).heap[w.heap.size]? = some (.cells (intCells n) 54 (0, 0)) := alloc_new w _
  have hq0 : Quiet w (w.alloc (.cells (intCells n) 54)) := (Only.refl _ _).alloc _
  obtain ⟨bx, hbx⟩ : ∃ bx, w.heap.size = bx := ⟨_, rfl⟩
  generalize w.alloc (.cells (intCells n) 54) = w1 at *
  refine (cell_right_int (n : Int) w1).mono ?_
  rintro e w2 ⟨rfl, hq2⟩
  rw [hbx] at hb0
  have hb2 := hq2.get hb0 (fun x => x)
  have HQ2 : Hid (Quiet w w2) := hq0.trans hq2
  have HB2 := Lib.hid hb2
  have x0 : w2.cell? ⟨bx, 0, none⟩ = some (.int .u8 1) := by rw [cell_of hb2]; rfl
  have x1 : w2.cell? ⟨bx, 1, none⟩ = some (.int .i64 (n : Int)) := by rw [cell_of hb2]; rfl
  have lbx := lt_of_get hb2
  have HRD3 : Hid (Rd (w2.alloc (.cells #[.int .u8 3] 5)) (fun _ => True) 1 (some ⟨w2.heap.size, 0, none⟩) 1 (bytesV [3])) := Rd.new w2 1 1 (bytesV [3]) _ _ rfl trivial
  clear hb0 hq0 hq2 hb2 v0 v1 v2 v3 l2
  go_wp2_with (at_builtin; refine app elem_u8 rfl (.tmp 44) (.tmp 45) rfl rfl (World.ownsRow_nil _ _ _ _) rfl HRD3.out (one_bytes [3]) (by unfold maxLen; omega) (by omega) ?_)
  intro v4 w4 hg4
  have hF0 : Fresh w w4 v4 (3 :: keyTo n 0) := by
    refine ⟨(HQ2.out.alloc _).trans' hg4.only (fun k hk e => by cases e), fun k e => ?_, hg4.own⟩
    have := HQ2.out.size
    rcases hg4.loc with y | y
    · rw [y] at e; cases e
    · rw [y] at e; injection e with e; simp only [World.size_alloc] at e; omega
  have hN4 : w4.cell? ⟨bx, 1, none⟩ = some (.int .i64 (n : Int)) := hg4.only.cell (((Only.refl (fun _ => False) w2).alloc (.cells #[.int .u8 3] 5)).cell x1 (fun x => x)) (fun e => by cases e)
  have HF0 := Lib.hid hF0
  have HB4 : Hid (∀ j, v4.ownBlock = some j → j ≠ bx) := fun j e => by
    rcases hg4.loc with y | y
    · rw [y] at e; cases e
    · rw [y] at e; injection e with e; simp only [World.size_alloc] at e; omega
  have lbx4 := cell_lt hN4
  dsimp only at lbx4
  clear hg4 HRD3 hF0 x0 x1 lbx
  go_wp2_with fail
  go_loopw [9, 4] (fun i o wr => ∃ (m : Nat) (v' : Value), m ≤ 8 ∧ i = .int .i64 ((m : Int) - 1) ∧ o = v' ∧ Fresh w wr v' (3 :: keyTo n (8 - m))) (fun i _ _ => ((intOf i) + 1).toNat)
  case atStart => exact ⟨8, _, Nat.le_refl _, rfl, rfl, HF0.out⟩
  case round =>
    obtain ⟨m, v', hm, rfl, rfl, hW⟩ := hrel
    rcases m with _ | j
    · have hFR : Fresh w wr u4 (keyI n) := hW
      have HEND : Hid (POST (.returned (.tuple #[u4, .int .i64 0])) wr) := by
        rw [← HPOST.out]
        exact ⟨u4, rfl, hFR⟩
      clear hW hFR
      go_wp2_with fail
      rw [rounds_succ]
      go_wp2_with fail
      exact HEND.out
    · have ej : (((j + 1 : Nat) : Int) - 1) = (j : Int) := by omega
      rw [ej]
      have hj : j < 8 := by omega
      obtain ⟨x, hxx⟩ : ∃ x : Nat, keyB n (7 - j) = x := ⟨_, rfl⟩
      have e1 : (z : Int) / 2 ^ (8 * j) % 256 = (x : Int) := by rw [← HZ.out, key_byte hn hj, hxx]
      have hx256 : x < 256 := by rw [← hxx]; exact keyB_lt hn _
      have HS : Hid (keyTo n (8 - j) = keyTo n (8 - (j + 1)) ++ [x]) := by
        show _ = _
        rw [show 8 - j = (8 - (j + 1)) + 1 by omega, keyTo_succ, show 8 - (j + 1) = 7 - j by omega, hxx]
      have hl : (3 :: keyTo n (8 - (j + 1))).length ≤ 9 := by rw [List.length_cons, keyTo_length]; omega
      have HRD : Hid (Rd (wr.alloc (.cells #[.int .u8 (x : Int)] 5)) (fun _ => True) 1 (some ⟨wr.heap.size, 0, none⟩) 1 (bytesV [x])) := Rd.new wr 1 1 (bytesV [x]) _ _ rfl trivial
      have hown := owns_kept hW.own ((Only.refl (fun _ => False) wr).alloc (.cells #[.int .u8 (x : Int)] 5)) (fun _ _ x => x)
      obtain ⟨q, hq⟩ : ∃ q, 3 :: keyTo n (8 - (j + 1)) = q := ⟨_, rfl⟩
      rw [hq] at hW hown hl
      obtain ⟨ql, hql⟩ : ∃ ql, q.length = ql := ⟨_, rfl⟩
      rw [hql] at hown hl
      have HR1 := Lib.hid hown
      have HW := Lib.hid hW
      have HQL := Lib.hid hql
      have HQ := Lib.hid hq
      clear hW hown hxx hq hql ej
      go_wp2_with (at_builtin; refine app elem_u8 rfl (.tmp 55) (.tmp 61) rfl rfl HR1.out rfl HRD.out (one_bytes [x]) (by unfold maxLen; omega) (by omega) ?_)
      intro v6 w6 hg6
      rw [← HQL.out] at hg6
      have HST := Lib.hid (HW.out.step hg6)
      rw [← HQ.out, List.cons_append, ← HS.out] at HST
      clear hg6 HR1 HRD HW HS e1
      go_wp2
      go_roundw
      case rel => exact ⟨j, _, by omega, rfl, rfl, HST.out⟩
      case measure => simp [intOf]

end Go.Proofs.YtmkaomglecfmfaaGreatDoor

namespace Go.Proofs.YtmkaomglecfmfaaGreatDoor
open Go.RowKit Go.Lap

theorem key_cells {w : World} {v : Value} {n : Nat} (h : w.ownsRow 0 54 4 v 1 (intRow n)) : ∃ b c, v = .slice (some ⟨b, 0, none⟩) 1 c ∧ b < w.heap.size ∧ w.cell? ⟨b, 0, none⟩ = some (.int .u8 1) ∧ w.cell? ⟨b, 1, none⟩ = some (.int .i64 (n : Int)) ∧ w.cell? ⟨b, 2, none⟩ = some (.string ⟨#[]⟩) ∧ w.cell? ⟨b, 3, none⟩ = some (.bool false) := by
  rcases owns_cases h with ⟨_, e⟩ | ⟨b, c, rfl, _, _⟩
  · cases e
  obtain ⟨cb, hcb⟩ := own_blk h (k := b) rfl
  exact ⟨b, c, rfl, lt_of_get hcb, h.cells (by rfl) 0 (.int .u8 1) rfl, h.cells (by rfl) 1 (.int .i64 (n : Int)) rfl, h.cells (by rfl) 2 (.string ⟨#[]⟩) rfl, h.cells (by rfl) 3 (.bool false) rfl⟩

set_option maxHeartbeats 2000000 in
set_option maxRecDepth 100000 in
theorem store_key {w : World} {c2 cd n : Nat} {t : TE} {nm : ByteArray} {Sc Sd : Nat → Prop} {A A2 : Option Addr} {v : Tup} (ht : t.cols = [(nm, 1)]) (hr : Rd w Sc 2 A2 t.cols.length (colsV t.cols)) (hc2 : t.cols.length ≤ c2) (hm2 : c2 ≤ maxLen) (hn : n < 256) (hdat : v.data = rowI n) (hd : Rd w Sd 1 A 9 (bytesV (rowI n))) (hcd : 9 ≤ cd) (hmd : cd ≤ maxLen) :
    Calls Tryz.prog 34 #[tabV t A2 c2, tupV v A cd, .int .i64 0] w (FreshPost w (keyI n)) := by
  have hd9 : v.data.length = 9 := by rw [hdat]; exact rowI_length n
  have HQ0 : Hid (Quiet w ((w.alloc (.cells #[.int .u64 (t.id : Int), .string t.name, .slice A2 t.cols.length c2, .int .u64 (t.xmin : Int), .int .u64 (t.xmax : Int)] 86)).alloc (.cells #[.int .u64 v.row, .int .u64 v.xmin, .int .u64 v.xmax, .int .i64 v.pg, .int .i64 v.sl, .slice A 9 cd] 92))) := ((Only.refl _ _).alloc _).alloc _
  have HB3 := Lib.hid (alloc_old (alloc_new w (.cells #[.int .u64 (t.id : Int), .string t.name, .slice A2 t.cols.length c2, .int .u64 (t.xmin : Int), .int .u64 (t.xmax : Int)] 86)) (.cells #[.int .u64 v.row, .int .u64 v.xmin, .int .u64 v.xmax, .int .i64 v.pg, .int .i64 v.sl, .slice A 9 cd] 92))
  have HB4 := Lib.hid (two_new w (.cells #[.int .u64 (t.id : Int), .string t.name, .slice A2 t.cols.length c2, .int .u64 (t.xmin : Int), .int .u64 (t.xmax : Int)] 86) (.cells #[.int .u64 v.row, .int .u64 v.xmin, .int .u64 v.xmax, .int .i64 v.pg, .int .i64 v.sl, .slice A 9 cd] 92))
  obtain ⟨r3, hr3⟩ : ∃ r3, w.heap.size = r3 := ⟨_, rfl⟩
  obtain ⟨r4, hr4⟩ : ∃ r4, r3 + 1 = r4 := ⟨_, rfl⟩
  rw [hr3] at HB3 HB4
  rw [hr4] at HB4
  have HR := Lib.hid hr
  have HC2 := Lib.hid (And.intro hc2 hm2)
  have HT := Lib.hid ht
  have HX := Lib.hid hn
  have HD := Lib.hid hd
  have HDC := Lib.hid (And.intro hcd hmd)
  obtain ⟨POST, hPOST⟩ : ∃ POST, FreshPost w (keyI n) = POST := ⟨_, rfl⟩
  rw [hPOST]
  have HPOST := Lib.hid hPOST
  unfold tabV tupV
  rw [hd9]
  clear hr hc2 hm2 ht hn hd hcd hmd hPOST hdat hd9
  go_enter Tryz.func34, Tryz.ntmps34
  go_wp2_with fail
  (try simp only [World.size_alloc] at *)
  (try rw [hr3]); (try rw [hr4])
  generalize (w.alloc (.cells #[.int .u64 (t.id : Int), .string t.name, .slice A2 t.cols.length c2, .int .u64 (t.xmin : Int), .int .u64 (t.xmax : Int)] 86)).alloc (.cells #[.int .u64 v.row, .int .u64 v.xmin, .int .u64 v.xmax, .int .i64 v.pg, .int .i64 v.sl, .slice A 9 cd] 92) = w2 at *
  have HS1 : Hid (∀ W, Quiet w2 W → (fun w' => w'.cell? ⟨r3, 0, none⟩ = some (.int .u64 (t.id : Int)) ∧ w'.cell? ⟨r3, 1, none⟩ = some (.string t.name) ∧ w'.cell? ⟨r3, 2, none⟩ = some (.slice A2 t.cols.length c2) ∧ w'.cell? ⟨r3, 3, none⟩ = some (.int .u64 (t.xmin : Int)) ∧ w'.cell? ⟨r3, 4, none⟩ = some (.int .u64 (t.xmax : Int)) ∧ w'.cell? ⟨r4, 5, none⟩ = some (.slice A 9 cd)) W) := fun W hq => by
    have b3 := tabBox_cells (hq.get HB3.out (fun x => x))
    have b4 := hq.get HB4.out (fun x => x)
    exact ⟨b3.1, b3.2.1, b3.2.2.1, b3.2.2.2.1, b3.2.2.2.2, by rw [cell_of b4]; rfl⟩
  have HKND : Hid (∀ W', Quiet w2 W' → Calls Tryz.prog 38 #[tabV t A2 c2] W' (KindsPost W' 1)) := fun W' hq => by
    have h2 := HR.out.kept (HQ0.out.trans hq) (fun _ _ x => x)
    have h3 := HC2.out
    rw [HT.out] at h2 h3
    exact store_kinds HT.out h2 h3.1 h3.2
  have HDAT : Hid (∀ W', Quiet w2 W' → Rd W' Sd 1 A 9 (bytesV (rowI n))) := fun W' hq => HD.out.kept (HQ0.out.trans hq) (fun _ _ x => x)
  unfold tabV at HKND
  clear hr3 hr4
  refine wp_region_held_drew (S := (fun w' => w'.cell? ⟨r3, 0, none⟩ = some (.int .u64 (t.id : Int)) ∧ w'.cell? ⟨r3, 1, none⟩ = some (.string t.name) ∧ w'.cell? ⟨r3, 2, none⟩ = some (.slice A2 t.cols.length c2) ∧ w'.cell? ⟨r3, 3, none⟩ = some (.int .u64 (t.xmin : Int)) ∧ w'.cell? ⟨r3, 4, none⟩ = some (.int .u64 (t.xmax : Int)) ∧ w'.cell? ⟨r4, 5, none⟩ = some (.slice A 9 cd))) (by kernel_rfl) (HS1.out _ (Only.refl _ _).drew) (fun hHeld => ?_)
  simp only [List.size_toArray, List.length_cons, List.length_nil, Nat.reduceAdd]
  have q8 : Quiet w2 w2.drew := (Only.refl _ _).drew
  generalize w2.drew = d8 at q8 hHeld ⊢
  (refine zTK 0 (oi := ?_) (v := ?_) ?_ ?_ (Or.inl ⟨?_, ?_⟩) ?_; rotate_left 2; (focus (simp only [zGA, zGZ, zGS] <;> rfl)); (focus (exact fun _ _ _ h => h)); (focus rfl); (focus (intro w hSw; (try dsimp only at hSw); go_simp; (try with_reducible rfl); done)); (try simp only [Act.put, zPA, zPZ, zPS]))
  (refine zTK 2 (oi := ?_) (v := ?_) ?_ ?_ (Or.inl ⟨?_, ?_⟩) ?_; rotate_left 2; (focus (simp only [zGA, zGZ, zGS] <;> rfl)); (focus (exact fun _ _ _ h => h)); (focus rfl); (focus (intro w hSw; (try dsimp only at hSw); go_simp; (try with_reducible rfl); done)); (try simp only [Act.put, zPA, zPZ, zPS]))
  (refine zTK 3 (oi := ?_) (v := ?_) ?_ ?_ (Or.inl ⟨?_, ?_⟩) ?_; rotate_left 2; (focus (simp only [zGA, zGZ, zGS] <;> rfl)); (focus (exact fun _ _ _ h => h)); (focus rfl); (focus (intro w hSw; (try dsimp only at hSw); go_simp; (try with_reducible rfl); done)); (try simp only [Act.put, zPA, zPZ, zPS]))
  refine wpAnyH_ready (rs := [1]) (by kernel_rfl) (by simp) ?_
  refine AllReadyH.cons (o := ?_) ?_ ?_ AllReadyH.nil
  rotate_left 1
  (focus (simp only [zGA, zGZ, zGS] <;> rfl))
  intro K hK
  go_simp
  go_at_call 38
  refine (HKND.out _ q8).mono ?_
  rintro e d9 ⟨v9, rfl, hf9⟩
  have q9 := q8.trans hf9.quiet
  obtain ⟨A9, c9, rfl, hc9, hm9, hrd9⟩ := own_form hf9.own
  clear hf9
  dsimp only
  refine hK.out _ _ ?_ (fun hHeld => ?_)
  · exact HS1.out _ q9
  clear hK K
  (try simp only [Act.put, zPA, zPZ, zPS])
  refine wpAnyH_ready (rs := [4]) (by kernel_rfl) (by simp) ?_
  refine AllReadyH.cons (o := ?_) ?_ ?_ AllReadyH.nil
  rotate_left 1
  (focus (simp only [zGA, zGZ, zGS] <;> rfl))
  intro K hK
  go_simp
  go_at_call 73
  refine (row_read_int HX.out (by exact hrd9) (HDAT.out _ q9) hc9 hm9 HDC.out.1 HDC.out.2).mono ?_
  rintro e d10 ⟨v10, rfl, hf10⟩
  have q10 := q9.trans hf10.quiet
  have hfv := FreshV.from9 q9 hf10
  clear hf10
  dsimp only
  refine hK.out _ _ ?_ (fun hHeld => ?_)
  · exact HS1.out _ q10
  clear hK K
  (try simp only [Act.put, zPA, zPZ, zPS])
  (refine zTK 5 (oi := ?_) (v := ?_) ?_ ?_ (Or.inl ⟨?_, ?_⟩) ?_; rotate_left 2; (focus (simp only [zGA, zGZ, zGS] <;> rfl)); (focus (exact fun _ _ _ h => h)); (focus rfl); (focus (intro w hSw; (try dsimp only at hSw); go_simp; (try with_reducible rfl); done)); (try simp only [Act.put, zPA, zPZ, zPS]))
  (refine zTK 6 (oi := ?_) (v := ?_) ?_ ?_ (Or.inl ⟨?_, ?_⟩) ?_; rotate_left 2; (focus (simp only [zGA, zGZ, zGS] <;> rfl)); (focus (exact fun _ _ _ h => h)); (focus rfl); (focus (intro w hSw; (try dsimp only at hSw); go_simp; (try with_reducible rfl); done)); (try simp only [Act.put, zPA, zPZ, zPS]))
  (refine zTK 7 (oi := ?_) (v := ?_) ?_ ?_ (Or.inl ⟨?_, ?_⟩) ?_; rotate_left 2; (focus (simp only [zGA, zGZ, zGS] <;> rfl)); (focus (exact fun _ _ _ h => h)); (focus rfl); (focus (intro w hSw; (try dsimp only at hSw); go_simp; (try with_reducible rfl); done)); (try simp only [Act.put, zPA, zPZ, zPS]))
  (refine zTK 8 (oi := ?_) (v := ?_) ?_ ?_ (Or.inl ⟨?_, ?_⟩) ?_; rotate_left 2; (focus (simp only [zGA, zGZ, zGS] <;> rfl)); (focus (exact fun _ _ _ h => h)); (focus rfl); (focus (intro w hSw; (try dsimp only at hSw); go_simp; (try with_reducible rfl); done)); (try simp only [Act.put, zPA, zPZ, zPS]))
  (refine zTK 9 (oi := ?_) (v := ?_) ?_ ?_ (Or.inl ⟨?_, ?_⟩) ?_; rotate_left 2; (focus (simp only [zGA, zGZ, zGS] <;> rfl)); (focus (exact fun _ _ _ h => h)); (focus rfl); (focus (intro w hSw; (try dsimp only at hSw); go_simp; (try with_reducible rfl); done)); (try simp only [Act.put, zPA, zPZ, zPS]))
  refine wpAnyH_done (by kernel_rfl) ?_ _
  clear hHeld q8 q9 hrd9 hc9 hm9
  obtain ⟨b, cb, rfl, hlb, x0, x1, x2, x3⟩ := key_cells hfv.own
  have HQ10 : Hid (Quiet w d10) := HQ0.out.trans q10
  have HKB : Hid (Calls Tryz.prog 74 #[.slice (some ⟨d10.heap.size, 0, none⟩) 1 1] (d10.alloc (.cells (intCells n) 54)) (RowPost (d10.alloc (.cells (intCells n) 54)) (keyI n))) := key_bytes_int HX.out (Rd.new d10 4 1 (intRow n) 54 (fun _ => True) rfl trivial) (Nat.le_refl _) (by unfold maxLen; omega)
  have hqa : Quiet d10 (d10.alloc (.cells (intCells n) 54)) := (Only.refl _ _).alloc _
  have HQA : Hid (Quiet w (d10.alloc (.cells (intCells n) 54))) := HQ10.out.trans hqa
  clear hfv q10 HDAT HKND HS1 hqa
  go_wp2_with fail
  refine HKB.out.mono ?_
  rintro e w5 ⟨v5, rfl, hf5⟩
  have HEND : Hid (POST (.returned v5) w5) := by
    rw [← HPOST.out]
    exact ⟨v5, rfl, HQA.out.trans hf5.quiet, fun k e => Nat.le_trans HQA.out.size (hf5.new k e), hf5.own⟩
  clear hf5 HKB x0 x1 x2 x3 hlb
  go_wp2
  exact HEND.out

end Go.Proofs.YtmkaomglecfmfaaGreatDoor

namespace Go.Proofs.YtmkaomglecfmfaaGreatDoor
open Go.RowKit Go.Lap

/-- The trees, each with this entry put. -/
def putTs (ent : Ent) (ts : Nat → Option (List Ent)) (l : List IE) : Nat → Option (List Ent) := l.foldl (fun ts e => upd ts e.id (some (putE ent ((ts e.id).getD [])))) ts

theorem putTs_snoc (ent : Ent) (ts : Nat → Option (List Ent)) (l : List IE) (e : IE) : putTs ent ts (l ++ [e]) = upd (putTs ent ts l) e.id (some (putE ent ((putTs ent ts l e.id).getD []))) := by
  unfold putTs
  rw [List.foldl_append]
  rfl

theorem putTs_other {ent : Ent} {l : List IE} {i : Nat} : ∀ {ts : Nat → Option (List Ent)}, (∀ e ∈ l, e.id ≠ i) → putTs ent ts l i = ts i := by
  induction l with
  | nil => intro ts _; rfl
  | cons e l ih =>
    intro ts h
    have h1 : e.id ≠ i := h e (List.mem_cons_self ..)
    have h2 := ih (ts := upd ts e.id (some (putE ent ((ts e.id).getD [])))) (fun x hx => h x (List.mem_cons_of_mem _ hx))
    show putTs ent (upd ts e.id _) l i = ts i
    rw [h2]
    simp [upd, Ne.symm h1]

/-- A version put, with its entries. -/
def putSx (s : St) (id : Nat) (H' : List (List (Option Tup))) (left' : Nat) (ent : Ent) : St := { s with left := left', hs := upd s.hs id (some H'), ts := putTs ent s.ts (keptI s.L id s.I) }

theorem keyRow_bytes {n : Nat} (hn : n < 256) : ∀ x ∈ rowI n, x < 256 := rowI_bytes hn

theorem zero_treeP (w : World) : (zeroValue 83).run Tryz.prog w = .ok (.pointer none) w := by kernel_rfl

theorem look_tree {W : World} {mt tb id : Nat} {ft : Nat → Option Value} (h : MapF W mt ft) (hf : ft id = some (ptrV tb)) (hid : U64 id) : (Instr.lookup 64 (.map (some mt)) (.int .u64 (id : Int)) false).run Tryz.prog W = .ok (ptrV tb) W := by
  have := h.lookup Tryz.underlying64 Tryz.underlying28 false (zero_treeP _) hid
  rw [hf] at this
  simpa using this

theorem idxV_get : ∀ (M : List IE) (i : Nat) (m : IE), M[i]? = some m → (idxV M)[i * 6]? = some (.int .u64 (m.id : Int)) ∧ (idxV M)[i * 6 + 1]? = some (.string m.name) ∧ (idxV M)[i * 6 + 2]? = some (.int .u64 (m.table : Int)) ∧ (idxV M)[i * 6 + 3]? = some (.int .i64 (m.column : Int)) ∧ (idxV M)[i * 6 + 4]? = some (.int .u64 (m.xmin : Int)) ∧ (idxV M)[i * 6 + 5]? = some (.int .u64 (m.xmax : Int))
  | [], i, m, h => by simp at h
  | x :: M, 0, m, h => by
    simp at h
    subst h
    exact ⟨rfl, rfl, rfl, rfl, rfl, rfl⟩
  | x :: M, i + 1, m, h => by
    have ih := idxV_get M i m (by simpa using h)
    have e : idxV (x :: M) = .int .u64 (x.id : Int) :: .string x.name :: .int .u64 (x.table : Int) :: .int .i64 (x.column : Int) :: .int .u64 (x.xmin : Int) :: .int .u64 (x.xmax : Int) :: idxV M := rfl
    rw [e, show (i + 1) * 6 = i * 6 + 1 + 1 + 1 + 1 + 1 + 1 by omega]
    exact ih

theorem nodup_at {l : List IE} {k : Nat} {x : IE} (h : (l.map (fun e => e.id)).Nodup) (hx : l[k]? = some x) : ∀ e ∈ l.take k, e.id ≠ x.id := by
  intro e he hid
  obtain ⟨j, hj⟩ := List.mem_iff_getElem?.1 he
  have hjk : j < k := by
    have := (List.getElem?_eq_some_iff.1 hj).1
    rw [List.length_take] at this
    omega
  rw [List.getElem?_take_of_lt hjk] at hj
  obtain ⟨l1, e1⟩ := List.getElem?_eq_some_iff.1 hj
  obtain ⟨l2, e2⟩ := List.getElem?_eq_some_iff.1 hx
  have := (List.pairwise_iff_getElem.1 h) j k (by simpa using l1) (by simpa using l2) hjk
  simp only [List.getElem_map] at this
  rw [e1, e2] at this
  exact this hid

/-- Another tree's entries. -/
theorem StoreRow.setTree {w w' : World} {sb : Nat} {o : Nat → Nat} {s : St} {lb bb pb mh mt ms : Nat} {fh ft fs : Nat → Option Value} {id tb : Nat} {es' : List Ent} (h : StoreRow w sb o s lb bb pb mh mt ms fh ft fs) (hid : ft id = some (ptrV tb)) (ho : Only (fun k => o k = 11 + 2 * id) w w') (hl : TreeIs w' (fun k => o k = 11 + 2 * id ∨ w.heap.size ≤ k) tb es') :
    StoreRow w' sb (grow o w.heap.size w'.heap.size (11 + 2 * id)) { s with ts := upd s.ts id (some es') } lb bb pb mh mt ms fh ft fs := by
  obtain ⟨t1, t2, t3, t4, t5⟩ := h.tags
  have hg : OwnOn o (grow o w.heap.size w'.heap.size (11 + 2 * id)) := OwnOn.grow h.big
  refine ⟨ho.get h.box (fun x => by omega), logK h.log ho hg (by omega) (fun k x => by omega), bookK h.book ho hg (by omega) (fun k x => by omega), h.pool.kept ho (fun x => by omega),
    h.mH.kept ho (fun x => by omega), h.mT.kept ho (fun x => by omega), h.mS.kept ho (fun x => by omega), ⟨by rw [hg _ (by omega)]; exact t1, by rw [hg _ (by omega)]; exact t2, by rw [hg _ (by omega)]; exact t3, by rw [hg _ (by omega)]; exact t4, by rw [hg _ (by omega)]; exact t5⟩, fun k hk => grow_big h.big ho.size hk,
    heapsK h.heaps ho hg (fun k x i H _ => by omega), ⟨fun i hi => ?_, fun i es hi => ?_⟩, snapsK h.snaps ho hg (fun k x => by omega), h.num⟩
  · by_cases e : i = id
    · subst e; simp [upd] at hi
    · exact h.trees.1 i (by simpa [upd, e] using hi)
  · by_cases e : i = id
    · subst e
      have : es' = es := by simpa [upd] using hi
      subst this
      exact ⟨tb, hid, hl.mono (fun k hk hlt => by rcases hk with x | x; rw [hg k (by omega)]; exact x; exact grow_new x hlt)⟩
    · obtain ⟨tb2, e2, h2⟩ := h.trees.2 i es (by simpa [upd, e] using hi)
      exact ⟨tb2, e2, treeK h2 ho hg (by omega) (fun k x => by omega)⟩

set_option maxHeartbeats 4000000 in
set_option maxRecDepth 100000 in
theorem store_put {w : World} {sb c2 cd left' n : Nat} {o : Nat → Nat} {s : St} {t : TE} {nm : ByteArray} {Sc Sd : Nat → Prop} {A A2 : Option Addr} {H H' : List (List (Option Tup))} {p q : Int} {v : Tup} (h : StoreAt w sb o s) (hI : s.I.length ≤ 1000) (hid : U64 t.id) (hH : s.hs t.id = some H) (hle : H.length + s.left ≤ 256)
    (hc : t.cols = [(nm, 1)]) (hr : Rd w Sc 2 A2 t.cols.length (colsV t.cols)) (hSc : ∀ k, Sc k → o k = 0) (hc2 : t.cols.length ≤ c2) (hm2 : c2 ≤ maxLen) (hn : n < 256) (hdat : v.data = rowI n) (hcd : 9 ≤ cd) (hmd : cd ≤ maxLen) (hd : Rd w Sd 1 A 9 (bytesV (rowI n))) (hS : ∀ k, Sd k → o k = 0) (hins : hIns H s.left v = ((p, q, 0), H', left'))
    (hx : ∀ e ∈ keptI s.L t.id s.I, e.column = 0 ∧ U64 e.id ∧ ∃ es, s.ts e.id = some es ∧ es.length ≤ 10000) (hnd : ((keptI s.L t.id s.I).map (fun e => e.id)).Nodup) :
    Calls Tryz.prog 40 #[ptrV sb, tabV t A2 c2, tupV v A cd] w (PutPost w sb o (putSx s t.id H' left' ⟨keyI n, p, q⟩) p q) := by
  obtain ⟨lb, bb, pb, mh, mt, ms, fh, ft, fs, h⟩ := h
  obtain ⟨hb, hf, hp⟩ := h.heaps.2 t.id H hH
  have HH := Lib.hid h
  have HP := Lib.hid hp
  have HF := Lib.hid hf
  have HID := Lib.hid hid
  have HD := Lib.hid hd
  have HI := Lib.hid hI
  have HIN := Lib.hid hins
  have HBY : Hid (∀ x ∈ v.data, x < 256) := by rw [hdat]; exact keyRow_bytes hn
  have HCC := Lib.hid (And.intro hc (And.intro hc2 hm2))
  have HCR := Lib.hid hr
  have HSC := Lib.hid hSc
  have HN := Lib.hid hn
  have HDAT := Lib.hid hdat
  have HCD := Lib.hid (And.intro hcd hmd)
  have HKX := Lib.hid (And.intro hx hnd)
  have hd9 : v.data.length = 9 := by rw [hdat]; exact rowI_length n
  have HD9 := Lib.hid hd9
  have HSD := Lib.hid hS
  have HLE := Lib.hid hle
  obtain ⟨q0, b4, b5, b6⟩ := put_new3 w (.cells #[.int .u64 (t.id : Int), .string t.name, .slice A2 t.cols.length c2, .int .u64 (t.xmin : Int), .int .u64 (t.xmax : Int)] 86) (.cells #[.int .u64 v.row, .int .u64 v.xmin, .int .u64 v.xmax, .int .i64 v.pg, .int .i64 v.sl, .slice A v.data.length cd] 92) (.cells #[.int .i64 0, .int .i64 0] 41)
  have HQ0 := Lib.hid q0
  have HB4 := Lib.hid b4
  have HB5 := Lib.hid b5
  have HB6 := Lib.hid b6
  obtain ⟨r4, hr4⟩ : ∃ r4, w.heap.size = r4 := ⟨_, rfl⟩
  obtain ⟨r5, hr5⟩ : ∃ r5, r4 + 1 = r5 := ⟨_, rfl⟩
  obtain ⟨r6, hr6⟩ : ∃ r6, r5 + 1 = r6 := ⟨_, rfl⟩
  rw [hr4] at HB4 HB5 HB6
  rw [hr5] at HB5 HB6
  rw [hr6] at HB6
  have HR6 : Hid (w.heap.size ≤ r6 ∧ w.heap.size ≤ r4 ∧ w.heap.size ≤ r5) := ⟨by omega, by omega, by omega⟩
  clear h hp hf hid hd hI hins hS hH q0 b4 b5 b6 hle hc hr hSc hc2 hm2 hn hdat hcd hmd hx hnd hd9
  unfold tabV tupV
  go_enter Tryz.func40, Tryz.ntmps40
  go_wp2_with fail
  (try simp only [World.size_alloc] at *)
  (try rw [hr4]); (try rw [hr5]); (try rw [hr6])
  generalize ((w.alloc (.cells #[.int .u64 (t.id : Int), .string t.name, .slice A2 t.cols.length c2, .int .u64 (t.xmin : Int), .int .u64 (t.xmax : Int)] 86)).alloc (.cells #[.int .u64 v.row, .int .u64 v.xmin, .int .u64 v.xmax, .int .i64 v.pg, .int .i64 v.sl, .slice A v.data.length cd] 92)).alloc (.cells #[.int .i64 0, .int .i64 0] 41) = wb at *
  have HBIG : Hid (∀ k, w.heap.size ≤ k → o k = 0) := HH.out.big
  have HPB : Hid (pb < w.heap.size) := HH.out.pool.lt
  have HGN : Hid (∀ k, wb.heap.size ≤ k → ¬ (o k = 10 + 2 * t.id ∨ k = pb)) := fun k hk x => by
    have := HBIG.out k (by have := HQ0.out.size; omega)
    have := HPB.out
    have := HQ0.out.size
    rcases x with x | x <;> omega
  have HS5 : Hid (∀ W, Only (fun k => o k = 10 + 2 * t.id ∨ k = pb) wb W → (fun w' => w'.cell? ⟨sb, 3, none⟩ = some (.map (some mh)) ∧ w'.cell? ⟨r4, 0, none⟩ = some (.int .u64 (t.id : Int)) ∧ w'.cell? ⟨r5, 0, none⟩ = some (.int .u64 v.row) ∧ w'.cell? ⟨r5, 1, none⟩ = some (.int .u64 v.xmin) ∧ w'.cell? ⟨r5, 2, none⟩ = some (.int .u64 v.xmax) ∧ w'.cell? ⟨r5, 3, none⟩ = some (.int .i64 v.pg) ∧ w'.cell? ⟨r5, 4, none⟩ = some (.int .i64 v.sl) ∧ w'.cell? ⟨r5, 5, none⟩ = some (.slice A v.data.length cd) ∧ (Instr.lookup 63 (.map (some mh)) (.int .u64 (t.id : Int)) false).run Tryz.prog w' = .ok (ptrV hb) w') W) := fun W hq => by
    have h2 := HH.out.quietly HQ0.out
    obtain ⟨t1, t2, t3, t4, t5⟩ := h2.tags
    have b4 := hq.get HB4.out (fun x => by have := HBIG.out r4 HR6.out.2.1; have := HPB.out; have := HR6.out; rcases x with x | x <;> omega)
    have b5 := hq.get HB5.out (fun x => by have := HBIG.out r5 HR6.out.2.2; have := HPB.out; have := HR6.out; rcases x with x | x <;> omega)
    have c3 := hq.cell h2.cells.2.2.2.1 (fun x => by dsimp only at x; rcases x with x | x; omega; rw [x] at t1; omega)
    have hm := h2.mH.kept hq (fun x => by rcases x with x | x; omega; rw [x] at t3; omega)
    refine ⟨c3, (tabBox_cells b4).1, ?_, ?_, ?_, ?_, ?_, ?_, look_heap hm HF.out HID.out⟩ <;> (rw [cell_of b5]; rfl)
  have HINS : Hid (∀ W, Quiet wb W → Calls Tryz.prog 82 #[ptrV hb, .agg #[.int .u64 v.row, .int .u64 v.xmin, .int .u64 v.xmax, .int .i64 v.pg, .int .i64 v.sl, .slice A v.data.length cd]] W (fun e w' => e = .returned (.tuple #[.agg #[.int .i64 p, .int .i64 q], .int .i64 0]) ∧ Only (fun k => o k = 10 + 2 * t.id ∨ k = pb) W w' ∧ PoolAt w' pb left' ∧ HeapIs w' hb pb (fun k => o k = 10 + 2 * t.id ∨ W.heap.size ≤ k) H')) := fun W hq => by
    have hq2 := HQ0.out.trans hq
    have := heap_insert s.left v A cd Sd (HP.out.kept hq2 (fun _ _ x => x)) (HH.out.pool.kept hq2 (fun x => x)) HLE.out HBY.out (by rw [HD9.out, HDAT.out]; exact HD.out.kept hq2 (fun _ _ x => x)) (fun k hk => ⟨fun x => by have := HSD.out k hk; omega, fun x => by have := HSD.out k hk; have := HH.out.tags.2.1; rw [x] at *; omega⟩)
    rw [HIN.out] at this
    exact this
  clear hr4 hr5 hr6
  apply put_key (wb := wb) (hb := hb) (pb := pb) (left' := left') (p := p) (q := q) (Gw := fun k => o k = 10 + 2 * t.id) (H' := H')
  case main =>
      intro KEY
      refine wp_region_held_drew (S := (fun w' => w'.cell? ⟨sb, 3, none⟩ = some (.map (some mh)) ∧ w'.cell? ⟨r4, 0, none⟩ = some (.int .u64 (t.id : Int)) ∧ w'.cell? ⟨r5, 0, none⟩ = some (.int .u64 v.row) ∧ w'.cell? ⟨r5, 1, none⟩ = some (.int .u64 v.xmin) ∧ w'.cell? ⟨r5, 2, none⟩ = some (.int .u64 v.xmax) ∧ w'.cell? ⟨r5, 3, none⟩ = some (.int .i64 v.pg) ∧ w'.cell? ⟨r5, 4, none⟩ = some (.int .i64 v.sl) ∧ w'.cell? ⟨r5, 5, none⟩ = some (.slice A v.data.length cd) ∧ (Instr.lookup 63 (.map (some mh)) (.int .u64 (t.id : Int)) false).run Tryz.prog w' = .ok (ptrV hb) w')) (by kernel_rfl) (HS5.out _ ((Only.refl _ _).drew)) (fun hHeld => ?_)
      simp only [List.size_toArray, List.length_cons, List.length_nil, Nat.reduceAdd]
      have q0 : Quiet wb wb.drew := (Only.refl _ _).drew
      generalize wb.drew = d0 at q0 hHeld ⊢
      (refine zTK 0 (oi := ?_) (v := ?_) ?_ ?_ (Or.inl ⟨?_, ?_⟩) ?_; rotate_left 2; (focus (simp only [zGA, zGZ, zGS] <;> rfl)); (focus (exact fun _ _ _ h => h)); (focus rfl); (focus (intro w hSw; (try dsimp only at hSw); go_simp; (try with_reducible rfl); done)); (try simp only [Act.put, zPA, zPZ, zPS]))
      (refine zTK 1 (oi := ?_) (v := ?_) ?_ ?_ (Or.inl ⟨?_, ?_⟩) ?_; rotate_left 2; (focus (simp only [zGA, zGZ, zGS] <;> rfl)); (focus (exact fun _ _ _ h => h)); (focus rfl); (focus (intro w hSw; (try dsimp only at hSw); go_simp; (try with_reducible rfl); done)); (try simp only [Act.put, zPA, zPZ, zPS]))
      (refine zTK 2 (oi := ?_) (v := ?_) ?_ ?_ (Or.inl ⟨?_, ?_⟩) ?_; rotate_left 2; (focus (simp only [zGA, zGZ, zGS] <;> rfl)); (focus (exact fun _ _ _ h => h)); (focus rfl); (focus (intro w hSw; (try dsimp only at hSw); go_simp; (try with_reducible rfl); done)); (try simp only [Act.put, zPA, zPZ, zPS]))
      (refine zTK 3 (oi := ?_) (v := ?_) ?_ ?_ (Or.inl ⟨?_, ?_⟩) ?_; rotate_left 2; (focus (simp only [zGA, zGZ, zGS] <;> rfl)); (focus (exact fun _ _ _ h => h)); (focus rfl); (focus (intro w hSw; (try dsimp only at hSw); go_simp; (try with_reducible rfl); done)); (try simp only [Act.put, zPA, zPZ, zPS]))
      (refine zTK 4 (oi := ?_) (v := ?_) ?_ ?_ (Or.inl ⟨?_, ?_⟩) ?_; rotate_left 2; (focus (simp only [zGA, zGZ, zGS] <;> rfl)); (focus (exact fun _ _ _ h => h)); (focus rfl); (focus (intro w hSw; (try dsimp only at hSw); go_simp; (try with_reducible rfl); done)); (try simp only [Act.put, zPA, zPZ, zPS]))
      (refine zTK 5 (oi := ?_) (v := ?_) ?_ ?_ (Or.inl ⟨?_, ?_⟩) ?_; rotate_left 2; (focus (simp only [zGA, zGZ, zGS] <;> rfl)); (focus (exact fun _ _ _ h => h)); (focus rfl); (focus (intro w hSw; (try dsimp only at hSw); go_simp; (try with_reducible rfl); done)); (try simp only [Act.put, zPA, zPZ, zPS]))
      (refine zTK 6 (oi := ?_) (v := ?_) ?_ ?_ (Or.inl ⟨?_, ?_⟩) ?_; rotate_left 2; (focus (simp only [zGA, zGZ, zGS] <;> rfl)); (focus (exact fun _ _ _ h => h)); (focus rfl); (focus (intro w hSw; (try dsimp only at hSw); go_simp; (try with_reducible rfl); done)); (try simp only [Act.put, zPA, zPZ, zPS]))
      (refine zTK 7 (oi := ?_) (v := ?_) ?_ ?_ (Or.inl ⟨?_, ?_⟩) ?_; rotate_left 2; (focus (simp only [zGA, zGZ, zGS] <;> rfl)); (focus (exact fun _ _ _ h => h)); (focus rfl); (focus (intro w hSw; (try dsimp only at hSw); go_simp; (try with_reducible rfl); done)); (try simp only [Act.put, zPA, zPZ, zPS]))
      refine wpAnyH_ready (rs := [8, 12]) (by kernel_rfl) (by simp) ?_
      refine AllReadyH.cons (o := ?_) ?_ ?_ ?_
      rotate_left 1
      (focus (simp only [zGA, zGZ, zGS] <;> rfl))
      · intro K hK
        go_simp
        go_at_call 82
        refine (HINS.out _ q0).mono ?_
        rintro e d2 ⟨rfl, hi1, hi2, hi3⟩
        have q2 := (q0.mono (T := (fun k => o k = 10 + 2 * t.id ∨ k = pb)) (fun _ _ x => x.elim)).trans hi1
        have hheap := hi3.lim
        have hpool := hi2
        clear hi1 hi2 hi3
        dsimp only
        refine hK.out _ _ ?_ (fun hHeld => ?_)
        · exact HS5.out _ q2
        clear hK K
        (try simp only [Act.put, zPA, zPZ, zPS])
        (refine zTK 9 (oi := ?_) (v := ?_) ?_ ?_ (Or.inl ⟨?_, ?_⟩) ?_; rotate_left 2; (focus (simp only [zGA, zGZ, zGS] <;> rfl)); (focus (exact fun _ _ _ h => h)); (focus rfl); (focus (intro w hSw; (try dsimp only at hSw); go_simp; (try with_reducible rfl); done)); (try simp only [Act.put, zPA, zPZ, zPS]))
        (refine zTK 10 (oi := ?_) (v := ?_) ?_ ?_ (Or.inl ⟨?_, ?_⟩) ?_; rotate_left 2; (focus (simp only [zGA, zGZ, zGS] <;> rfl)); (focus (exact fun _ _ _ h => h)); (focus rfl); (focus (intro w hSw; (try dsimp only at hSw); go_simp; (try with_reducible rfl); done)); (try simp only [Act.put, zPA, zPZ, zPS]))
        (refine zTK 11 (oi := ?_) (v := ?_) ?_ ?_ (Or.inl ⟨?_, ?_⟩) ?_; rotate_left 2; (focus (simp only [zGA, zGZ, zGS] <;> rfl)); (focus (exact fun _ _ _ h => h)); (focus rfl); (focus (intro w hSw; (try dsimp only at hSw); go_simp; (try with_reducible rfl); done)); (try simp only [Act.put, zPA, zPZ, zPS]))
        refine wpAnyH_ready (rs := [12]) (by kernel_rfl) (by simp) ?_
        refine AllReadyH.cons (o := ?_) ?_ ?_ AllReadyH.nil
        rotate_left 1
        (focus (simp only [zGA, zGZ, zGS] <;> rfl))
        intro K hK
        go_simp
        refine hK.out _ _ ?_ (fun hHeld => ?_)
        · exact HS5.out _ (q2.alloc _)
        clear hK K
        (try simp only [Act.put, zPA, zPZ, zPS])
        have qd3 := q2.alloc (.cells #[.int .i64 0, .int .i64 0] 41)
        have hb1 := alloc_new d2 (.cells #[.int .i64 0, .int .i64 0] 41)
        have hnp : wb.heap.size ≤ d2.heap.size := q2.size
        have hpool := hpool.kept ((Only.refl (fun _ => False) d2).alloc (.cells #[.int .i64 0, .int .i64 0] 41)) (fun x => x)
        have hheap := hheap.kept ((Only.refl (fun _ => False) d2).alloc (.cells #[.int .i64 0, .int .i64 0] 41)) (fun _ _ x => x)
        obtain ⟨pt, hpt⟩ : ∃ pt, d2.heap.size = pt := ⟨_, rfl⟩
        (try rw [hpt] at hb1)
        (try rw [hpt] at hnp)
        (try rw [hpt])
        (try rw [hpt] at hheap)
        have hheap : HeapIs (d2.alloc (.cells #[.int .i64 0, .int .i64 0] 41)) hb pb (fun k => o k = 10 + 2 * t.id ∨ (wb.heap.size ≤ k ∧ k ≠ pt)) H' := hheap.mono (fun k x => by rcases x.1 with y | y; exact Or.inl y; exact Or.inr ⟨by have := q0.size; omega, by omega⟩)
        generalize d2.alloc (.cells #[.int .i64 0, .int .i64 0] 41) = d3 at *
        clear hpt
        have z0 := cell_of hb1 0
        have z1 := cell_of hb1 1
        have zf := fun o => frozen_of hb1 o
        simp only [zGA, zGS, zGZ] at z0 z1
        refine wpAnyH_ready (rs := [13]) (by kernel_rfl) (by simp) ?_
        refine AllReadyH.cons (o := ?_) ?_ ?_ AllReadyH.nil
        rotate_left 1
        (focus (simp only [zGA, zGZ, zGS] <;> rfl))
        intro K hK
        go_simp
        refine hK.out _ _ ?_ (fun hHeld => ?_)
        · exact HS5.out _ (put_leaf qd3 hb1 hnp hpool hheap HGN.out (p := p) (q := q)).only
        clear hK K
        (try simp only [Act.put, zPA, zPZ, zPS])
        have HG := (put_leaf qd3 hb1 hnp hpool hheap HGN.out (p := p) (q := q))
        (refine zTK 14 (oi := ?_) (v := ?_) ?_ ?_ (Or.inl ⟨?_, ?_⟩) ?_; rotate_left 2; (focus (simp only [zGA, zGZ, zGS] <;> rfl)); (focus (exact fun _ _ _ h => h)); (focus rfl); (focus (intro w hSw; (try dsimp only at hSw); go_simp; (try with_reducible rfl); done)); (try simp only [Act.put, zPA, zPZ, zPS]))
        refine wpAnyH_done (by kernel_rfl) ?_ _
        generalize (d3.setCell ⟨pt, 0, none⟩ (.int .i64 p)).setCell ⟨pt, 1, none⟩ (.int .i64 q) = WF at HG ⊢
        exact KEY _ _ HG
      refine AllReadyH.cons (o := ?_) ?_ ?_ AllReadyH.nil
      rotate_left 1
      (focus (simp only [zGA, zGZ, zGS] <;> rfl))
      intro K hK
      go_simp
      refine hK.out _ _ ?_ (fun hHeld => ?_)
      · exact HS5.out _ ((q0.alloc _).mono (fun _ _ x => x.elim))
      clear hK K
      (try simp only [Act.put, zPA, zPZ, zPS])
      have qd1 := q0.alloc (.cells #[.int .i64 0, .int .i64 0] 41)
      have hb1 := alloc_new d0 (.cells #[.int .i64 0, .int .i64 0] 41)
      have hnp : wb.heap.size ≤ d0.heap.size := q0.size
      have hnz : (d0.alloc (.cells #[.int .i64 0, .int .i64 0] 41)).heap.size = d0.heap.size + 1 := by simp
      obtain ⟨pt, hpt⟩ : ∃ pt, d0.heap.size = pt := ⟨_, rfl⟩
      (try rw [hpt] at hb1)
      (try rw [hpt] at hnp)
      (try rw [hpt])
      (try rw [hpt] at hnz)
      generalize d0.alloc (.cells #[.int .i64 0, .int .i64 0] 41) = d1 at *
      clear hpt
      refine wpAnyH_ready (rs := [8]) (by kernel_rfl) (by simp) ?_
      refine AllReadyH.cons (o := ?_) ?_ ?_ AllReadyH.nil
      rotate_left 1
      (focus (simp only [zGA, zGZ, zGS] <;> rfl))
      intro K hK
      go_simp
      go_at_call 82
      refine (HINS.out _ qd1).mono ?_
      rintro e d2 ⟨rfl, hi1, hi2, hi3⟩
      have q2 := (qd1.mono (T := (fun k => o k = 10 + 2 * t.id ∨ k = pb)) (fun _ _ x => x.elim)).trans hi1
      have hb2 := hi1.get hb1 (fun x => HGN.out _ hnp x)
      have hheap : HeapIs d2 hb pb (fun k => o k = 10 + 2 * t.id ∨ (wb.heap.size ≤ k ∧ k ≠ pt)) H' := hi3.mono (fun k x => by rcases x with x | x; exact Or.inl x; exact Or.inr ⟨by omega, by omega⟩)
      have hpool := hi2
      clear hi1 hi2 hi3
      dsimp only
      refine hK.out _ _ ?_ (fun hHeld => ?_)
      · exact HS5.out _ q2
      clear hK K
      (try simp only [Act.put, zPA, zPZ, zPS])
      have z0 := cell_of hb2 0
      have z1 := cell_of hb2 1
      have zf := fun o => frozen_of hb2 o
      simp only [zGA, zGS, zGZ] at z0 z1
      (refine zTK 9 (oi := ?_) (v := ?_) ?_ ?_ (Or.inl ⟨?_, ?_⟩) ?_; rotate_left 2; (focus (simp only [zGA, zGZ, zGS] <;> rfl)); (focus (exact fun _ _ _ h => h)); (focus rfl); (focus (intro w hSw; (try dsimp only at hSw); go_simp; (try with_reducible rfl); done)); (try simp only [Act.put, zPA, zPZ, zPS]))
      (refine zTK 10 (oi := ?_) (v := ?_) ?_ ?_ (Or.inl ⟨?_, ?_⟩) ?_; rotate_left 2; (focus (simp only [zGA, zGZ, zGS] <;> rfl)); (focus (exact fun _ _ _ h => h)); (focus rfl); (focus (intro w hSw; (try dsimp only at hSw); go_simp; (try with_reducible rfl); done)); (try simp only [Act.put, zPA, zPZ, zPS]))
      (refine zTK 11 (oi := ?_) (v := ?_) ?_ ?_ (Or.inl ⟨?_, ?_⟩) ?_; rotate_left 2; (focus (simp only [zGA, zGZ, zGS] <;> rfl)); (focus (exact fun _ _ _ h => h)); (focus rfl); (focus (intro w hSw; (try dsimp only at hSw); go_simp; (try with_reducible rfl); done)); (try simp only [Act.put, zPA, zPZ, zPS]))
      refine wpAnyH_ready (rs := [13]) (by kernel_rfl) (by simp) ?_
      refine AllReadyH.cons (o := ?_) ?_ ?_ AllReadyH.nil
      rotate_left 1
      (focus (simp only [zGA, zGZ, zGS] <;> rfl))
      intro K hK
      go_simp
      refine hK.out _ _ ?_ (fun hHeld => ?_)
      · exact HS5.out _ (put_leaf q2 hb2 hnp hpool hheap HGN.out (p := p) (q := q)).only
      clear hK K
      (try simp only [Act.put, zPA, zPZ, zPS])
      have HG := (put_leaf q2 hb2 hnp hpool hheap HGN.out (p := p) (q := q))
      (refine zTK 14 (oi := ?_) (v := ?_) ?_ ?_ (Or.inl ⟨?_, ?_⟩) ?_; rotate_left 2; (focus (simp only [zGA, zGZ, zGS] <;> rfl)); (focus (exact fun _ _ _ h => h)); (focus rfl); (focus (intro w hSw; (try dsimp only at hSw); go_simp; (try with_reducible rfl); done)); (try simp only [Act.put, zPA, zPZ, zPS]))
      refine wpAnyH_done (by kernel_rfl) ?_ _
      generalize (d2.setCell ⟨pt, 0, none⟩ (.int .i64 p)).setCell ⟨pt, 1, none⟩ (.int .i64 q) = WF at HG ⊢
      exact KEY _ _ HG
  case key =>
    intro pt W HL0
    have HL := Lib.hid HL0
    clear HL0 HS5 HINS
    have HOW : Hid (Only (fun k => o k = 10 + 2 * t.id ∨ k = pb) w W) := (HQ0.out.mono (fun _ _ x => x.elim)).trans' HL.out.only (fun k _ x => x)
    have HBW : Hid (∀ k, (o k = 10 + 2 * t.id ∨ k = pb) → o k = 10 + 2 * t.id ∨ o k = 4) := fun k x => by rcases x with x | x; exact Or.inl x; rw [x]; exact Or.inr HH.out.tags.2.1
    have HS4 : Hid (∀ W', Quiet W W' → (fun w' => w'.cell? ⟨sb, 1, none⟩ = some (ptrV bb) ∧ w'.cell? ⟨sb, 0, none⟩ = some (ptrV lb) ∧ w'.cell? ⟨r4, 0, none⟩ = some (.int .u64 (t.id : Int))) W') := fun W' hq => by
      have ho := HOW.out.trans' hq (fun k _ x => x.elim)
      have b4 := hq.get (HL.out.only.get HB4.out (fun x => by have := HBIG.out r4 HR6.out.2.1; have := HPB.out; have := HR6.out; rcases x with x | x <;> omega)) (fun x => x)
      have t1 := HH.out.tags.1
      have c := HH.out.cells
      exact ⟨ho.cell c.2.1 (fun x => by have := HBW.out _ x; dsimp only at this; omega), ho.cell c.1 (fun x => by have := HBW.out _ x; dsimp only at this; omega), (tabBox_cells b4).1⟩
    have HKEEP : Hid (∀ W', Quiet W W' → Calls Tryz.prog 83 #[ptrV bb, ptrV lb, .int .u64 (t.id : Int)] W' (KeepPost W' (keptI s.L t.id s.I))) := fun W' hq => by
      have ho := HOW.out.trans' hq (fun k _ x => x.elim)
      have hbk := bookK HH.out.book ho (OwnOn.refl) (by omega) (fun k x => by have := HBW.out _ x; omega)
      have hlg := logK HH.out.log ho (OwnOn.refl) (by omega) (fun k x => by have := HBW.out _ x; omega)
      exact book_keep hbk hlg HI.out
    obtain ⟨o1, ho1⟩ : ∃ o1, grow o wb.heap.size W.heap.size (10 + 2 * t.id) = o1 := ⟨_, rfl⟩
    have hst := (HH.out.quietly HQ0.out).setHeap (id := t.id) HF.out HL.out.only HL.out.pool (HL.out.heap.mono (fun k x => by rcases x with x | x; exact Or.inl x; exact Or.inr x.1))
    rw [ho1] at hst
    have HST := Lib.hid hst
    have HO1 : Hid ((∀ k, k < wb.heap.size → o1 k = o k) ∧ o1 pt = 10 + 2 * t.id) := ⟨fun k hk => by rw [← ho1]; exact grow_old hk, by rw [← ho1]; exact grow_new HL.out.new (lt_of_get HL.out.box)⟩
    have z0 := cell_of HL.out.box 0
    have z1 := cell_of HL.out.box 1
    simp only [zGA, zGS, zGZ] at z0 z1
    clear z0 z1 hst ho1
    go_wp2_with fail
    refine wp_region_held_drew (S := (fun w' => w'.cell? ⟨sb, 1, none⟩ = some (ptrV bb) ∧ w'.cell? ⟨sb, 0, none⟩ = some (ptrV lb) ∧ w'.cell? ⟨r4, 0, none⟩ = some (.int .u64 (t.id : Int)))) (by kernel_rfl) (HS4.out _ ((Only.refl _ _).drew)) (fun hHeld => ?_)
    simp only [List.size_toArray, List.length_cons, List.length_nil, Nat.reduceAdd]
    have q6 : Quiet W W.drew := (Only.refl _ _).drew
    generalize W.drew = d6 at q6 hHeld ⊢
    (refine zTK 0 (oi := ?_) (v := ?_) ?_ ?_ (Or.inl ⟨?_, ?_⟩) ?_; rotate_left 2; (focus (simp only [zGA, zGZ, zGS] <;> rfl)); (focus (exact fun _ _ _ h => h)); (focus rfl); (focus (intro w hSw; (try dsimp only at hSw); go_simp; (try with_reducible rfl); done)); (try simp only [Act.put, zPA, zPZ, zPS]))
    (refine zTK 1 (oi := ?_) (v := ?_) ?_ ?_ (Or.inl ⟨?_, ?_⟩) ?_; rotate_left 2; (focus (simp only [zGA, zGZ, zGS] <;> rfl)); (focus (exact fun _ _ _ h => h)); (focus rfl); (focus (intro w hSw; (try dsimp only at hSw); go_simp; (try with_reducible rfl); done)); (try simp only [Act.put, zPA, zPZ, zPS]))
    (refine zTK 2 (oi := ?_) (v := ?_) ?_ ?_ (Or.inl ⟨?_, ?_⟩) ?_; rotate_left 2; (focus (simp only [zGA, zGZ, zGS] <;> rfl)); (focus (exact fun _ _ _ h => h)); (focus rfl); (focus (intro w hSw; (try dsimp only at hSw); go_simp; (try with_reducible rfl); done)); (try simp only [Act.put, zPA, zPZ, zPS]))
    (refine zTK 3 (oi := ?_) (v := ?_) ?_ ?_ (Or.inl ⟨?_, ?_⟩) ?_; rotate_left 2; (focus (simp only [zGA, zGZ, zGS] <;> rfl)); (focus (exact fun _ _ _ h => h)); (focus rfl); (focus (intro w hSw; (try dsimp only at hSw); go_simp; (try with_reducible rfl); done)); (try simp only [Act.put, zPA, zPZ, zPS]))
    (refine zTK 4 (oi := ?_) (v := ?_) ?_ ?_ (Or.inl ⟨?_, ?_⟩) ?_; rotate_left 2; (focus (simp only [zGA, zGZ, zGS] <;> rfl)); (focus (exact fun _ _ _ h => h)); (focus rfl); (focus (intro w hSw; (try dsimp only at hSw); go_simp; (try with_reducible rfl); done)); (try simp only [Act.put, zPA, zPZ, zPS]))
    (refine zTK 5 (oi := ?_) (v := ?_) ?_ ?_ (Or.inl ⟨?_, ?_⟩) ?_; rotate_left 2; (focus (simp only [zGA, zGZ, zGS] <;> rfl)); (focus (exact fun _ _ _ h => h)); (focus rfl); (focus (intro w hSw; (try dsimp only at hSw); go_simp; (try with_reducible rfl); done)); (try simp only [Act.put, zPA, zPZ, zPS]))
    (refine zTK 6 (oi := ?_) (v := ?_) ?_ ?_ (Or.inl ⟨?_, ?_⟩) ?_; rotate_left 2; (focus (simp only [zGA, zGZ, zGS] <;> rfl)); (focus (exact fun _ _ _ h => h)); (focus rfl); (focus (intro w hSw; (try dsimp only at hSw); go_simp; (try with_reducible rfl); done)); (try simp only [Act.put, zPA, zPZ, zPS]))
    (refine zTK 7 (oi := ?_) (v := ?_) ?_ ?_ (Or.inl ⟨?_, ?_⟩) ?_; rotate_left 2; (focus (simp only [zGA, zGZ, zGS] <;> rfl)); (focus (exact fun _ _ _ h => h)); (focus rfl); (focus (intro w hSw; (try dsimp only at hSw); go_simp; (try with_reducible rfl); done)); (try simp only [Act.put, zPA, zPZ, zPS]))
    (refine zTK 8 (oi := ?_) (v := ?_) ?_ ?_ (Or.inl ⟨?_, ?_⟩) ?_; rotate_left 2; (focus (simp only [zGA, zGZ, zGS] <;> rfl)); (focus (exact fun _ _ _ h => h)); (focus rfl); (focus (intro w hSw; (try dsimp only at hSw); go_simp; (try with_reducible rfl); done)); (try simp only [Act.put, zPA, zPZ, zPS]))
    (refine zTK 9 (oi := ?_) (v := ?_) ?_ ?_ (Or.inl ⟨?_, ?_⟩) ?_; rotate_left 2; (focus (simp only [zGA, zGZ, zGS] <;> rfl)); (focus (exact fun _ _ _ h => h)); (focus rfl); (focus (intro w hSw; (try dsimp only at hSw); go_simp; (try with_reducible rfl); done)); (try simp only [Act.put, zPA, zPZ, zPS]))
    (refine zTK 12 (oi := ?_) (v := ?_) ?_ ?_ (Or.inl ⟨?_, ?_⟩) ?_; rotate_left 2; (focus (simp only [zGA, zGZ, zGS] <;> rfl)); (focus (exact fun _ _ _ h => h)); (focus rfl); (focus (intro w hSw; (try dsimp only at hSw); go_simp; (try with_reducible rfl); done)); (try simp only [Act.put, zPA, zPZ, zPS]))
    refine wpAnyH_ready (rs := [10]) (by kernel_rfl) (by simp) ?_
    refine AllReadyH.cons (o := ?_) ?_ ?_ AllReadyH.nil
    rotate_left 1
    (focus (simp only [zGA, zGZ, zGS] <;> rfl))
    intro K hK
    go_simp
    go_at_call 83
    refine (HKEEP.out _ q6).mono ?_
    rintro e d7 ⟨vk, rfl, hkw⟩
    obtain ⟨Ak, ck, rfl, hck, hmk, hrk⟩ := own_form hkw.own
    have q7 := q6.trans hkw.quiet
    dsimp only
    refine hK.out _ _ ?_ (fun hHeld => ?_)
    · exact HS4.out _ q7
    clear hK K
    (try simp only [Act.put, zPA, zPZ, zPS])
    (refine zTK 11 (oi := ?_) (v := ?_) ?_ ?_ (Or.inl ⟨?_, ?_⟩) ?_; rotate_left 2; (focus (simp only [zGA, zGZ, zGS] <;> rfl)); (focus (exact fun _ _ _ h => h)); (focus rfl); (focus (intro w hSw; (try dsimp only at hSw); go_simp; (try with_reducible rfl); done)); (try simp only [Act.put, zPA, zPZ, zPS]))
    refine wpAnyH_done (by kernel_rfl) ?_ _
    obtain ⟨kl, hkl⟩ : ∃ kl, keptI s.L t.id s.I = kl := ⟨_, rfl⟩
    rw [hkl] at hkw hck hrk
    rw [hkl]
    obtain ⟨m, hm⟩ : ∃ m, kl.length = m := ⟨_, rfl⟩
    rw [hm] at hck hrk
    rw [hm]
    have HKL := Lib.hid hkl
    have HM := Lib.hid hm
    have hm2 : m ≤ 1000 := by
      rw [← hm, ← hkl]
      exact Nat.le_trans (List.length_filter_le _ _) HI.out
    have HQ7 : Hid (Quiet W d7) := q7
    have HNK : Hid (∀ k, (Value.slice Ak m ck).ownBlock = some k → W.heap.size ≤ k) := fun k e => by
      have := hkw.new k (by rw [hm]; exact e)
      have := q6.size
      omega
    have HRK := Lib.hid hrk
    have HRD7 := Lib.hid (HST.out.quietly q7)
    have B4 := HQ7.out.get (HL.out.only.get HB4.out (fun x => by have := HBIG.out r4 HR6.out.2.1; have := HPB.out; have := HR6.out; rcases x with x | x <;> omega)) (fun x => x)
    have B5 := HQ7.out.get (HL.out.only.get HB5.out (fun x => by have := HBIG.out r5 HR6.out.2.2; have := HPB.out; have := HR6.out; rcases x with x | x <;> omega)) (fun x => x)
    have B6 := HQ7.out.get (HL.out.only.get HB6.out (fun x => by have := HBIG.out r6 HR6.out.1; have := HPB.out; have := HR6.out; rcases x with x | x <;> omega)) (fun x => x)
    have BP := HQ7.out.get HL.out.box (fun x => x)
    have O4 : o1 r4 = 0 := by rw [HO1.out.1 r4 (lt_of_get HB4.out)]; exact HBIG.out r4 HR6.out.2.1
    have O5 : o1 r5 = 0 := by rw [HO1.out.1 r5 (lt_of_get HB5.out)]; exact HBIG.out r5 HR6.out.2.2
    have O6 : o1 r6 = 0 := by rw [HO1.out.1 r6 (lt_of_get HB6.out)]; exact HBIG.out r6 HR6.out.1
    have HB := Lib.hid (And.intro B4 (And.intro B5 (And.intro B6 BP)))
    have HO := Lib.hid (And.intro O4 (And.intro O5 O6))
    have HCRW : Hid (Rd d7 (fun k => o1 k = 0) 2 A2 t.cols.length (colsV t.cols) ∧ Rd d7 (fun k => o1 k = 0) 1 A 9 (bytesV (rowI n))) := by
      have g1 : ∀ k, o k = 0 ∧ k < w.heap.size → o1 k = 0 := fun k hk => by rw [HO1.out.1 k (Nat.lt_of_lt_of_le hk.2 HQ0.out.size)]; exact hk.1
      have g2 : ∀ (size : Nat) (A : Option Addr) (l : Nat) (xs : List Value), Rd w (fun k => o k = 0) size A l xs → Rd d7 (fun k => o1 k = 0) size A l xs := fun size A l xs h => by
        refine (((rd_limS h).kept HOW.out (fun k hk x => by have := HBW.out k x; have := hk.1; omega)).kept HQ7.out (fun _ _ x => x)).mono g1
      exact ⟨g2 _ _ _ _ (HCR.out.mono HSC.out), g2 _ _ _ _ (HD.out.mono HSD.out)⟩
    have hcol : t.cols.length = 1 := by rw [HCC.out.1]; rfl
    clear hkw hck hmk hrk q6 q7 hHeld hkl hm B4 B5 B6 BP O4 O5 O6 HS4 HKEEP hcol
    go_wp2_with fail
    go_loopw [40, 11] (fun i _ wr => ∃ (k : Nat) (o' : Nat → Nat), k ≤ m ∧ i = .int .i64 (k : Int) ∧ StoreRow wr sb o' { s with left := left', hs := upd s.hs t.id (some H'), ts := putTs ⟨keyI n, p, q⟩ s.ts (kl.take k) } lb bb pb mh mt ms fh ft fs ∧ (∀ j, j < d7.heap.size → o' j = o1 j) ∧ Only (fun j => ∃ i, o1 j = 11 + 2 * i) d7 wr) (fun i _ _ => m - (intOf i).toNat)
    case atStart => exact ⟨0, o1, Nat.zero_le _, rfl, HRD7.out, fun _ _ => rfl, Only.refl _ _⟩
    case round =>
      obtain ⟨k, o', hk, rfl, hR, hO', hT⟩ := hrel
      have HR := Lib.hid hR
      have HO' := Lib.hid hO'
      have HT := Lib.hid hT
      clear hR hO' hT
      by_cases hlt : k < m
      · obtain ⟨x, hx⟩ : ∃ x, kl[k]? = some x := ⟨_, List.getElem?_eq_getElem (by have := HM.out; omega)⟩
        have hxm : x ∈ keptI s.L t.id s.I := by rw [HKL.out]; exact List.mem_of_getElem? hx
        obtain ⟨hx0, hxu, es, hes, hel⟩ := HKX.out.1 x hxm
        have hts : putTs ⟨keyI n, p, q⟩ s.ts (kl.take k) x.id = some es := by
          have hnd := HKX.out.2
          rw [HKL.out] at hnd
          rw [putTs_other (nodup_at hnd hx)]
          exact hes
        obtain ⟨tb, hft, htr⟩ := HR.out.trees.2 x.id es hts
        have hrk := HRK.out.kept HT.out (fun j hj hx => by
          obtain ⟨i, hi⟩ := hx
          have := HST.out.big j (HNK.out j hj)
          omega)
        obtain ⟨bk, ofk, rfl, _, hck⟩ := hrk.cells (by rw [idxV_length]; have := HM.out; omega)
        obtain ⟨i0, i1, i2, i3, i4, i5⟩ := idxV_get kl k x hx
        have y0 := hck _ _ i0
        have y1 := hck _ _ i1
        have y2 := hck _ _ i2
        have y3 := hck _ _ i3
        have y4 := hck _ _ i4
        have y5 := hck _ _ i5
        rw [← Nat.add_assoc] at y1 y2 y3 y4 y5
        have ly := cell_lt y0
        dsimp only at ly
        have HX := Lib.hid hx
        have HXU := Lib.hid hxu
        have HTS := Lib.hid hts
        have HFT := Lib.hid hft
        have HTR := Lib.hid htr
        have HEL := Lib.hid hel
        have HX0 := Lib.hid hx0
        rw [hx0] at y3
        have y3' : wr.cell? ⟨bk, ofk + k * 6 + 3, none⟩ = some (.int .i64 0) := y3
        have hqx : Quiet wr (wr.alloc (.cells #[.int .u64 (x.id : Int), .string x.name, .int .u64 (x.table : Int), .int .i64 0, .int .u64 (x.xmin : Int), .int .u64 (x.xmax : Int)] 80)) := (Only.refl _ _).alloc _
        have hxb := alloc_new wr (.cells #[.int .u64 (x.id : Int), .string x.name, .int .u64 (x.table : Int), .int .i64 0, .int .u64 (x.xmin : Int), .int .u64 (x.xmax : Int)] 80)
        have HZX := Lib.hid (HR.out.big wr.heap.size (Nat.le_refl _))
        obtain ⟨xb, hxb_⟩ : ∃ xb, wr.heap.size = xb := ⟨_, rfl⟩
        rw [hxb_] at hxb HZX
        have HXE := Lib.hid hxb_
        clear hx hxu hes hel hts hft htr hrk hck i0 i1 i2 i3 i4 i5 y3 hxm hx0 hxb_
        go_wp2_with fail
        rw [HXE.out]
        generalize wr.alloc (.cells #[.int .u64 (x.id : Int), .string x.name, .int .u64 (x.table : Int), .int .i64 0, .int .u64 (x.xmin : Int), .int .u64 (x.xmax : Int)] 80) = wx at *
        have HXB := Lib.hid hxb
        have HQX := Lib.hid hqx
        have HTX : Hid (Only (fun j => ∃ i, o1 j = 11 + 2 * i) d7 wx) := HT.out.trans' hqx (fun _ _ x => x.elim)
        have HRX := Lib.hid (HR.out.quietly hqx)
        clear y0 y1 y2 y3' y4 y5 ly hxb hqx
        have HS7 : Hid (∀ W', Only (fun k => ∃ i, o' k = 11 + 2 * i) wx W' → (fun w' => w'.cell? ⟨sb, 4, none⟩ = some (.map (some mt)) ∧ w'.cell? ⟨xb, 0, none⟩ = some (.int .u64 (x.id : Int)) ∧ w'.cell? ⟨xb, 3, none⟩ = some (.int .i64 (0 : Int)) ∧ w'.cell? ⟨r4, 0, none⟩ = some (.int .u64 (t.id : Int)) ∧ w'.cell? ⟨r4, 1, none⟩ = some (.string t.name) ∧ w'.cell? ⟨r4, 2, none⟩ = some (.slice A2 t.cols.length c2) ∧ w'.cell? ⟨r4, 3, none⟩ = some (.int .u64 (t.xmin : Int)) ∧ w'.cell? ⟨r4, 4, none⟩ = some (.int .u64 (t.xmax : Int)) ∧ w'.cell? ⟨r5, 0, none⟩ = some (.int .u64 v.row) ∧ w'.cell? ⟨r5, 1, none⟩ = some (.int .u64 v.xmin) ∧ w'.cell? ⟨r5, 2, none⟩ = some (.int .u64 v.xmax) ∧ w'.cell? ⟨r5, 3, none⟩ = some (.int .i64 v.pg) ∧ w'.cell? ⟨r5, 4, none⟩ = some (.int .i64 v.sl) ∧ w'.cell? ⟨r5, 5, none⟩ = some (.slice A v.data.length cd) ∧ w'.cell? ⟨pt, 0, none⟩ = some (.int .i64 p) ∧ w'.cell? ⟨pt, 1, none⟩ = some (.int .i64 q) ∧ (Instr.lookup 64 (.map (some mt)) (.int .u64 (x.id : Int)) false).run Tryz.prog w' = .ok (ptrV tb) w') W') := fun W' ho => by
          have tg := HRX.out.tags
          have c4 := ho.cell HRX.out.cells.2.2.2.2.1 (fun e => by obtain ⟨i, hi⟩ := e; (try dsimp only at hi); omega)
          have bx := ho.get HXB.out (fun e => by obtain ⟨i, hi⟩ := e; (try dsimp only at hi); have := HZX.out; omega)
          have nd : ∀ r, r < d7.heap.size → (∀ i, o1 r ≠ 11 + 2 * i) → ¬ (∃ i, o' r = 11 + 2 * i) := fun r hr hn e => by
            obtain ⟨i, hi⟩ := e
            rw [HO'.out r hr] at hi
            exact hn i hi
          have b4 := tabBox_cells (ho.get (HTX.out.get HB.out.1 (fun e => by obtain ⟨i, hi⟩ := e; have := HO.out.1; omega)) (nd r4 (lt_of_get HB.out.1) (fun i hi => by have := HO.out.1; omega)))
          have b5 := ho.get (HTX.out.get HB.out.2.1 (fun e => by obtain ⟨i, hi⟩ := e; have := HO.out.2.1; omega)) (nd r5 (lt_of_get HB.out.2.1) (fun i hi => by have := HO.out.2.1; omega))
          have bp := ho.get (HTX.out.get HB.out.2.2.2 (fun e => by obtain ⟨i, hi⟩ := e; have := HO1.out.2; omega)) (nd pt (lt_of_get HB.out.2.2.2) (fun i hi => by have := HO1.out.2; omega))
          have hmt := HRX.out.mT.kept ho (fun e => by obtain ⟨i, hi⟩ := e; omega)
          exact ⟨c4, by rw [cell_of bx]; rfl, by rw [cell_of bx]; rfl, b4.1, b4.2.1, b4.2.2.1, b4.2.2.2.1, b4.2.2.2.2, by rw [cell_of b5]; rfl, by rw [cell_of b5]; rfl, by rw [cell_of b5]; rfl, by rw [cell_of b5]; rfl, by rw [cell_of b5]; rfl, by rw [cell_of b5]; rfl, by rw [cell_of bp]; rfl, by rw [cell_of bp]; rfl, look_tree hmt HFT.out HXU.out⟩
        have HKEY : Hid (∀ W', Quiet wx W' → Calls Tryz.prog 34 #[.agg #[.int .u64 (t.id : Int), .string t.name, .slice A2 t.cols.length c2, .int .u64 (t.xmin : Int), .int .u64 (t.xmax : Int)], .agg #[.int .u64 v.row, .int .u64 v.xmin, .int .u64 v.xmax, .int .i64 v.pg, .int .i64 v.sl, .slice A v.data.length cd], .int .i64 0] W' (FreshPost W' (keyI n))) := fun W' hq => by
          have g := HTX.out.trans' hq (fun _ _ x => x.elim)
          exact store_key (v := v) HCC.out.1 (HCRW.out.1.kept g (fun k hk e => by obtain ⟨i, hi⟩ := e; omega)) HCC.out.2.1 HCC.out.2.2 HN.out HDAT.out (HCRW.out.2.kept g (fun k hk e => by obtain ⟨i, hi⟩ := e; omega)) HCD.out.1 HCD.out.2
        have HTIN : Hid (∀ W', Quiet wx W' → ∀ A9 c9 (S9 : Nat → Prop), Rd W' S9 1 A9 (keyI n).length (bytesV (keyI n)) → Calls Tryz.prog 33 #[ptrV tb, .agg #[.slice A9 (keyI n).length c9, .int .i64 p, .int .i64 q]] W' (fun e w' => (∃ z : Int, e = .returned (.int .i64 z)) ∧ Only (fun k => o' k = 11 + 2 * x.id) W' w' ∧ TreeIs w' (fun k => o' k = 11 + 2 * x.id ∨ W'.heap.size ≤ k) tb (putE ⟨keyI n, p, q⟩ es))) := fun W' hq A9 c9 S9 hr => by
          refine (tree_insert W' (fun k => o' k = 11 + 2 * x.id) tb es ⟨keyI n, p, q⟩ A9 c9 S9 ((HTR.out.kept HQX.out (fun _ _ x => x)).kept hq (fun _ _ x => x)) hr (keyI_bytes HN.out) (by show (keyI n).length ≤ 600; rw [keyI_length]; omega) HEL.out).mono ?_
          intro e w' hp
          unfold putE
          rcases hp with ⟨h1, h2, h3, h4⟩ | ⟨h1, h2, h3, h4⟩
          · rw [if_pos h1]; exact ⟨⟨_, h2⟩, h3, h4⟩
          · rw [if_neg h1]; exact ⟨⟨_, h2⟩, h3, h4⟩
        refine wp_region_held_drew (S := (fun w' => w'.cell? ⟨sb, 4, none⟩ = some (.map (some mt)) ∧ w'.cell? ⟨xb, 0, none⟩ = some (.int .u64 (x.id : Int)) ∧ w'.cell? ⟨xb, 3, none⟩ = some (.int .i64 (0 : Int)) ∧ w'.cell? ⟨r4, 0, none⟩ = some (.int .u64 (t.id : Int)) ∧ w'.cell? ⟨r4, 1, none⟩ = some (.string t.name) ∧ w'.cell? ⟨r4, 2, none⟩ = some (.slice A2 t.cols.length c2) ∧ w'.cell? ⟨r4, 3, none⟩ = some (.int .u64 (t.xmin : Int)) ∧ w'.cell? ⟨r4, 4, none⟩ = some (.int .u64 (t.xmax : Int)) ∧ w'.cell? ⟨r5, 0, none⟩ = some (.int .u64 v.row) ∧ w'.cell? ⟨r5, 1, none⟩ = some (.int .u64 v.xmin) ∧ w'.cell? ⟨r5, 2, none⟩ = some (.int .u64 v.xmax) ∧ w'.cell? ⟨r5, 3, none⟩ = some (.int .i64 v.pg) ∧ w'.cell? ⟨r5, 4, none⟩ = some (.int .i64 v.sl) ∧ w'.cell? ⟨r5, 5, none⟩ = some (.slice A v.data.length cd) ∧ w'.cell? ⟨pt, 0, none⟩ = some (.int .i64 p) ∧ w'.cell? ⟨pt, 1, none⟩ = some (.int .i64 q) ∧ (Instr.lookup 64 (.map (some mt)) (.int .u64 (x.id : Int)) false).run Tryz.prog w' = .ok (ptrV tb) w')) (by kernel_rfl) (HS7.out _ ((Only.refl _ _).drew)) (fun hHeld => ?_)
        simp only [List.size_toArray, List.length_cons, List.length_nil, Nat.reduceAdd]
        have q8 : Quiet wx wx.drew := (Only.refl _ _).drew
        generalize wx.drew = d8 at q8 hHeld ⊢
        (refine zTK 0 (oi := ?_) (v := ?_) ?_ ?_ (Or.inl ⟨?_, ?_⟩) ?_; rotate_left 2; (focus (simp only [zGA, zGZ, zGS] <;> rfl)); (focus (exact fun _ _ _ h => h)); (focus rfl); (focus (intro w hSw; (try dsimp only at hSw); go_simp; (try with_reducible rfl); done)); (try simp only [Act.put, zPA, zPZ, zPS]))
        (refine zTK 1 (oi := ?_) (v := ?_) ?_ ?_ (Or.inl ⟨?_, ?_⟩) ?_; rotate_left 2; (focus (simp only [zGA, zGZ, zGS] <;> rfl)); (focus (exact fun _ _ _ h => h)); (focus rfl); (focus (intro w hSw; (try dsimp only at hSw); go_simp; (try with_reducible rfl); done)); (try simp only [Act.put, zPA, zPZ, zPS]))
        (refine zTK 2 (oi := ?_) (v := ?_) ?_ ?_ (Or.inl ⟨?_, ?_⟩) ?_; rotate_left 2; (focus (simp only [zGA, zGZ, zGS] <;> rfl)); (focus (exact fun _ _ _ h => h)); (focus rfl); (focus (intro w hSw; (try dsimp only at hSw); go_simp; (try with_reducible rfl); done)); (try simp only [Act.put, zPA, zPZ, zPS]))
        (refine zTK 3 (oi := ?_) (v := ?_) ?_ ?_ (Or.inl ⟨?_, ?_⟩) ?_; rotate_left 2; (focus (simp only [zGA, zGZ, zGS] <;> rfl)); (focus (exact fun _ _ _ h => h)); (focus rfl); (focus (intro w hSw; (try dsimp only at hSw); go_simp; (try with_reducible rfl); done)); (try simp only [Act.put, zPA, zPZ, zPS]))
        (refine zTK 4 (oi := ?_) (v := ?_) ?_ ?_ (Or.inl ⟨?_, ?_⟩) ?_; rotate_left 2; (focus (simp only [zGA, zGZ, zGS] <;> rfl)); (focus (exact fun _ _ _ h => h)); (focus rfl); (focus (intro w hSw; (try dsimp only at hSw); go_simp; (try with_reducible rfl); done)); (try simp only [Act.put, zPA, zPZ, zPS]))
        (refine zTK 5 (oi := ?_) (v := ?_) ?_ ?_ (Or.inl ⟨?_, ?_⟩) ?_; rotate_left 2; (focus (simp only [zGA, zGZ, zGS] <;> rfl)); (focus (exact fun _ _ _ h => h)); (focus rfl); (focus (intro w hSw; (try dsimp only at hSw); go_simp; (try with_reducible rfl); done)); (try simp only [Act.put, zPA, zPZ, zPS]))
        (refine zTK 6 (oi := ?_) (v := ?_) ?_ ?_ (Or.inl ⟨?_, ?_⟩) ?_; rotate_left 2; (focus (simp only [zGA, zGZ, zGS] <;> rfl)); (focus (exact fun _ _ _ h => h)); (focus rfl); (focus (intro w hSw; (try dsimp only at hSw); go_simp; (try with_reducible rfl); done)); (try simp only [Act.put, zPA, zPZ, zPS]))
        (refine zTK 7 (oi := ?_) (v := ?_) ?_ ?_ (Or.inl ⟨?_, ?_⟩) ?_; rotate_left 2; (focus (simp only [zGA, zGZ, zGS] <;> rfl)); (focus (exact fun _ _ _ h => h)); (focus rfl); (focus (intro w hSw; (try dsimp only at hSw); go_simp; (try with_reducible rfl); done)); (try simp only [Act.put, zPA, zPZ, zPS]))
        (refine zTK 8 (oi := ?_) (v := ?_) ?_ ?_ (Or.inl ⟨?_, ?_⟩) ?_; rotate_left 2; (focus (simp only [zGA, zGZ, zGS] <;> rfl)); (focus (exact fun _ _ _ h => h)); (focus rfl); (focus (intro w hSw; (try dsimp only at hSw); go_simp; (try with_reducible rfl); done)); (try simp only [Act.put, zPA, zPZ, zPS]))
        (refine zTK 9 (oi := ?_) (v := ?_) ?_ ?_ (Or.inl ⟨?_, ?_⟩) ?_; rotate_left 2; (focus (simp only [zGA, zGZ, zGS] <;> rfl)); (focus (exact fun _ _ _ h => h)); (focus rfl); (focus (intro w hSw; (try dsimp only at hSw); go_simp; (try with_reducible rfl); done)); (try simp only [Act.put, zPA, zPZ, zPS]))
        (refine zTK 10 (oi := ?_) (v := ?_) ?_ ?_ (Or.inl ⟨?_, ?_⟩) ?_; rotate_left 2; (focus (simp only [zGA, zGZ, zGS] <;> rfl)); (focus (exact fun _ _ _ h => h)); (focus rfl); (focus (intro w hSw; (try dsimp only at hSw); go_simp; (try with_reducible rfl); done)); (try simp only [Act.put, zPA, zPZ, zPS]))
        (refine zTK 12 (oi := ?_) (v := ?_) ?_ ?_ (Or.inl ⟨?_, ?_⟩) ?_; rotate_left 2; (focus (simp only [zGA, zGZ, zGS] <;> rfl)); (focus (exact fun _ _ _ h => h)); (focus rfl); (focus (intro w hSw; (try dsimp only at hSw); go_simp; (try with_reducible rfl); done)); (try simp only [Act.put, zPA, zPZ, zPS]))
        refine wpAnyH_ready (rs := [11]) (by kernel_rfl) (by simp) ?_
        refine AllReadyH.cons (o := ?_) ?_ ?_ AllReadyH.nil
        rotate_left 1
        (focus (simp only [zGA, zGZ, zGS] <;> rfl))
        intro K hK
        go_simp
        go_at_call 34
        refine (HKEY.out _ q8).mono ?_
        rintro e d9 ⟨v9, rfl, hf9⟩
        obtain ⟨A9, c9, rfl, hc9, hm9, hrd9⟩ := own_form hf9.own
        have q9 := q8.trans hf9.quiet
        dsimp only
        refine hK.out _ _ ?_ (fun hHeld => ?_)
        · exact HS7.out _ (q9.mono (fun _ _ x => x.elim))
        clear hK K
        (try simp only [Act.put, zPA, zPZ, zPS])
        (refine zTK 13 (oi := ?_) (v := ?_) ?_ ?_ (Or.inl ⟨?_, ?_⟩) ?_; rotate_left 2; (focus (simp only [zGA, zGZ, zGS] <;> rfl)); (focus (exact fun _ _ _ h => h)); (focus rfl); (focus (intro w hSw; (try dsimp only at hSw); go_simp; (try with_reducible rfl); done)); (try simp only [Act.put, zPA, zPZ, zPS]))
        refine wpAnyH_ready (rs := [14]) (by kernel_rfl) (by simp) ?_
        refine AllReadyH.cons (o := ?_) ?_ ?_ AllReadyH.nil
        rotate_left 1
        (focus (simp only [zGA, zGZ, zGS] <;> rfl))
        intro K hK
        go_simp
        go_at_call 33
        refine (HTIN.out _ q9 A9 c9 _ (by exact hrd9)).mono ?_
        rintro e d10 ⟨⟨ze, rfl⟩, ho10, ht10⟩
        dsimp only
        refine hK.out _ _ ?_ (fun hHeld => ?_)
        · exact HS7.out _ ((q9.mono (T := fun k => ∃ i, o' k = 11 + 2 * i) (fun _ _ x => x.elim)).trans (ho10.mono (fun k _ hh => ⟨x.id, hh⟩)))
        clear hK K
        (try simp only [Act.put, zPA, zPZ, zPS])
        refine wpAnyH_done (by kernel_rfl) ?_ _
        have HN9 : Hid (StoreRow d10 sb (grow o' d9.heap.size d10.heap.size (11 + 2 * x.id)) { s with left := left', hs := upd s.hs t.id (some H'), ts := putTs ⟨keyI n, p, q⟩ s.ts (kl.take (k + 1)) } lb bb pb mh mt ms fh ft fs) := by
          have h1 := (HRX.out.quietly q9).setTree HFT.out ho10 ht10
          have e1 : putTs ⟨keyI n, p, q⟩ s.ts (kl.take (k + 1)) = upd (putTs ⟨keyI n, p, q⟩ s.ts (kl.take k)) x.id (some (putE ⟨keyI n, p, q⟩ es)) := by
            rw [List.take_add_one, HX.out, Option.toList_some, putTs_snoc, HTS.out]
            rfl
          show StoreRow d10 sb _ _ lb bb pb mh mt ms fh ft fs
          rw [e1]
          exact h1
        have hz9 := q9.size
        have hzx := HQX.out.size
        have hzr := HT.out.size
        have HOO : Hid (∀ j, j < d7.heap.size → grow o' d9.heap.size d10.heap.size (11 + 2 * x.id) j = o1 j) := fun j hj => by
          rw [grow_old (by omega)]
          exact HO'.out j hj
        have HTT : Hid (Only (fun j => ∃ i, o1 j = 11 + 2 * i) d7 d10) := (HTX.out.trans' q9 (fun _ _ x => x.elim)).trans' ho10 (fun j hj e => ⟨x.id, by rw [← HO'.out j hj]; exact e⟩)
        clear hHeld q8 q9 ho10 ht10 hf9 hc9 hm9 hrd9 HS7 HKEY HTIN hz9 hzx hzr
        go_wp2
        go_roundw
        case rel => exact ⟨k + 1, _, by omega, by go_num, HN9.out, HOO.out, HTT.out⟩
        case measure => simp [intOf]; omega
      · obtain rfl : m = k := by omega
        have bp := HT.out.get HB.out.2.2.2 (fun e => by obtain ⟨i, hi⟩ := e; have := HO1.out.2; omega)
        have b6 := HT.out.get HB.out.2.2.1 (fun e => by obtain ⟨i, hi⟩ := e; have := HO.out.2.2; omega)
        have z0 := cell_of bp 0
        have z1 := cell_of bp 1
        have y0 := cell_of b6 0
        have y1 := cell_of b6 1
        have yf := fun o => frozen_of b6 o
        simp only [zGA, zGS, zGZ] at z0 z1 y0 y1
        have hlp := lt_of_get bp
        have hlr := lt_of_get b6
        have hnr : pt ≠ r6 := fun e => by have := HL.out.new; have := lt_of_get HB6.out; omega
        have HX : Hid (((wr.setCell ⟨r6, 0, none⟩ (.int .i64 p)).setCell ⟨r6, 1, none⟩ (.int .i64 q)).heap[r6]? = some (.cells #[.int .i64 p, .int .i64 q] 41 (0, 0))) := two_set b6 _ _
        have HPO : Hid (PutPost w sb o (putSx s t.id H' left' ⟨keyI n, p, q⟩) p q (.returned (.tuple #[.agg #[.int .i64 p, .int .i64 q], .int .i64 0])) ((wr.setCell ⟨r6, 0, none⟩ (.int .i64 p)).setCell ⟨r6, 1, none⟩ (.int .i64 q))) := by
          have h2 := two_only wr r6 (.int .i64 p) (.int .i64 q)
          have hl6 := lt_of_get HB6.out
          have hzw := HL.out.only.size
          have hz7 := HQ7.out.size
          have o6 : o' r6 = 0 := by rw [HO'.out r6 (by omega)]; exact HO.out.2.2
          have hst := HR.out.kept h2 (fun k e => by rw [e]; exact o6)
          rw [List.take_of_length_le (by have := HM.out; omega), ← HKL.out] at hst
          have hz0 := HQ0.out.size
          refine ⟨rfl, o', fun k hk => ?_, ?_, _, _, _, _, _, _, _, _, _, hst⟩
          · rw [HO'.out k (by omega)]
            exact HO1.out.1 k (by omega)
          · refine ((((HOW.out.mono (T := fun k => o k ≠ 0) (fun k _ x => by have := HBW.out k x; omega)).trans' HQ7.out (fun _ _ x => x.elim)).trans' HT.out (fun k hk e => ?_)).trans' h2 (fun k hk e => by have := HR6.out.1; omega))
            obtain ⟨i, hi⟩ := e
            rw [HO1.out.1 k (by omega)] at hi
            omega
        clear bp b6
        go_wp2
        exact bodyPost_ret (results_cell_tmp Tryz.results40 _ _ r6 _ _ (0, 0) _ (by rfl) HX.out Tryz.underlying41 rfl info_tid) (by rfl) HPO.out

end Go.Proofs.YtmkaomglecfmfaaGreatDoor

namespace Go.Proofs.YtmkaomglecfmfaaGreatDoor
open Go.RowKit Go.Lap

/-- A heap of c versions that one transaction has put. -/
structure EntH (c : Nat) (H : List (List (Option Tup))) (left : Nat) : Prop where
  fit : ∀ T ∈ H, Fits T
  used : usedH H = c
  len : H.length ≤ c
  left : H.length + left = 256
  vers : ∀ pg sl v, hGet H pg sl = some v → v.xmin = 1 ∧ v.xmax ≤ 1 ∧ v.row ≤ 1000 ∧ ∃ n, n < 256 ∧ v.data = rowI n

theorem EntH.start : EntH 0 [] 256 := ⟨(fun T hT => by cases hT), rfl, Nat.le_refl _, rfl, fun pg sl v h => by rw [hGet_out (by simp; omega)] at h; cases h⟩

theorem EntH.place {c left : Nat} {H : List (List (Option Tup))} (h : EntH c H left) {pg sl : Int} {v : Tup} (hg : hGet H pg sl = some v) : 0 ≤ pg ∧ pg < 256 ∧ 0 ≤ sl ∧ sl < 512 := by
  have h0 : ¬ (pg < 0 ∨ (H.length : Int) ≤ pg) := fun x => by rw [hGet_out x] at hg; cases hg
  obtain ⟨k, rfl⟩ := Int.eq_ofNat_of_zero_le (show 0 ≤ pg by omega)
  obtain ⟨T, hT⟩ : ∃ T, H[k]? = some T := ⟨_, List.getElem?_eq_getElem (by omega)⟩
  rw [hGet_in sl hT] at hg
  obtain ⟨s0, hs⟩ := tupAt_some hg
  have hl := (List.getElem?_eq_some_iff.1 hs).1
  have hf := h.fit T (List.mem_of_getElem? hT)
  have hL := h.left
  unfold Fits at hf
  omega

theorem EntH.int {c left : Nat} {H : List (List (Option Tup))} (h : EntH c H left) : IntHeap H := fun pg sl v hv => by
  obtain ⟨h1, h2, _, h3⟩ := h.vers pg sl v hv
  exact ⟨by unfold U64; omega, by unfold U64; omega, h3⟩

/-- One more version. -/
theorem EntH.ins {c left row n : Nat} {H : List (List (Option Tup))} (h : EntH c H left) (hc : c ≤ 100) (hr : row ≤ 1000) (hn : n < 256) :
    ∃ p q H' left', hIns H left ⟨row, 1, 0, -1, -1, rowI n⟩ = ((p, q, 0), H', left') ∧ EntH (c + 1) H' left' ∧ InsAt H H' p q ⟨row, 1, 0, -1, -1, rowI n⟩ := by
  have hl := h.len
  have hL := h.left
  obtain ⟨p, q, H', left', h1, h2, _, h4⟩ := hIns_goes (left := left) h.fit (nine_right (r := row) (x := 1) (n := n) (by omega) (by omega)) (Or.inl (by omega))
  refine ⟨p, q, H', left', h1, ⟨h2.fit, by rw [h2.used, h.used], by have := h2.len; omega, by omega, fun a b v hv => ?_⟩, h2⟩
  rw [h2.get] at hv
  split at hv
  · injection hv with hv
    subst hv
    exact ⟨rfl, Nat.zero_le _, hr, n, hn, rfl⟩
  · exact h.vers a b v hv

/-- A version that is ended. -/
theorem EntH.stamp {c left : Nat} {H : List (List (Option Tup))} (h : EntH c H left) {pg sl p q : Int} {v : Tup} (hg : hGet H pg sl = some v) (hf : farB p q = false) :
    ∃ H', hStamp H pg sl 1 p q = (0, H') ∧ EntH c H' left ∧ StampAt H H' pg sl v (v.stamp 1 p q) := by
  obtain ⟨H', h1, h2⟩ := hStamp_goes (x := 1) h.fit hg (by omega) hf
  refine ⟨H', h1, ⟨h2.fit, by rw [h2.used, h.used], by rw [h2.len]; exact h.len, by rw [h2.len]; exact h.left, fun a b u hu => ?_⟩, h2⟩
  rw [h2.get] at hu
  split at hu
  · injection hu with hu
    subst hu
    obtain ⟨g1, _, g3, g4⟩ := h.vers pg sl v hg
    exact ⟨g1, Nat.le_refl _, g3, g4⟩
  · exact h.vers a b u hu

/-- The entries are those of the versions. -/
structure EntT (H : List (List (Option Tup))) (es : List Ent) : Prop where
  len : es.length = usedH H
  at_ : ∀ e ∈ es, (hGet H e.pg e.sl).isSome = true

theorem EntT.put {H H' : List (List (Option Tup))} {es : List Ent} {p q : Int} {t : Tup} {k : List Nat} (h : EntT H es) (hi : InsAt H H' p q t) : EntT H' (putE ⟨k, p, q⟩ es) := by
  have hne : (⟨k, p, q⟩ : Ent) ∉ es := fun x => by
    have := h.at_ _ x
    rw [hi.was] at this
    cases this
  have e1 : putE ⟨k, p, q⟩ es = insE ⟨k, p, q⟩ es := by unfold putE; rw [if_neg hne]
  refine ⟨by rw [e1, insE_length, hi.used, h.len], fun e he => ?_⟩
  rw [hi.get]
  split
  · rfl
  · rename_i hx
    rcases mem_putE.1 he with y | y
    · rw [y] at hx; exact absurd ⟨rfl, rfl⟩ hx
    · exact h.at_ e y

theorem EntT.stamp {H H' : List (List (Option Tup))} {es : List Ent} {p q : Int} {v u : Tup} (h : EntT H es) (hs : StampAt H H' p q v u) : EntT H' es := by
  refine ⟨by rw [h.len, hs.used], fun e he => ?_⟩
  rw [hs.get]
  split
  · rfl
  · exact h.at_ e he

end Go.Proofs.YtmkaomglecfmfaaGreatDoor

namespace Go.Proofs.YtmkaomglecfmfaaGreatDoor
open Go.RowKit Go.Lap

/-- What is asked of the indexes of a table. -/
structure KeptOk (s : St) (id : Nat) : Prop where
  few : s.I.length ≤ 1000
  each : ∀ e ∈ keptI s.L id s.I, e.column = 0 ∧ U64 e.id ∧ ∃ es, s.ts e.id = some es ∧ es.length ≤ 10000
  nd : ((keptI s.L id s.I).map (fun e => e.id)).Nodup

theorem store_insertX {w : World} {sb x i c3 n left' : Nat} {o : Nat → Nat} {s : St} {y : Snap} {t : TE} {name nm : ByteArray} {Sv : Nat → Prop} {A3 : Option Addr} {H H' : List (List (Option Tup))} {p q : Int} (h : StoreAt w sb o s) (hx : U64 x) (hy : s.sn x = some y) (hf : findT s.L y name s.T = some i) (ht : s.T[i]? = some t) (hc : t.cols = [(nm, 1)]) (hid : U64 t.id)
    (hk : KeptOk s t.id) (hH : s.hs t.id = some H) (hle : H.length + s.left ≤ 256) (hn : n < 256) (hv : Rd w Sv 4 A3 1 (intRow n)) (hc3 : 1 ≤ c3) (hm3 : c3 ≤ maxLen) (hlast : s.last + 1 < 18446744073709551616) (hins : hIns H s.left ⟨s.last + 1, x, 0, -1, -1, rowI n⟩ = ((p, q, 0), H', left')) :
    Calls Tryz.prog 14 #[ptrV sb, .int .u64 (x : Int), .string name, .slice A3 1 c3] w (StoreInsPost w sb o { putSx s t.id H' left' ⟨keyI n, p, q⟩ with last := s.last + 1 }) :=
  store_insert_of (s1 := putSx s t.id H' left' ⟨keyI n, p, q⟩) h hx hy hf ht hc hn hv hc3 hm3 hlast rfl (fun W A2 c2 A5 c5 hq hr2 h2 m2 hd h9 m9 =>
    store_put (v := ⟨s.last + 1, x, 0, -1, -1, rowI n⟩) (cd := c5) (A2 := A2) (c2 := c2) (h.quietly hq) hk.few hid hH hle hc hr2 (fun k e => h.big k e) h2 m2 hn rfl h9 m9 hd (fun k e => h.big k e) hins hk.each hk.nd)

theorem store_updateX {w : World} {sb x i c3 n left' nr cr code : Nat} {o : Nat → Nat} {s : St} {y : Snap} {t : TE} {name nm : ByteArray} {Sv : Nat → Prop} {A3 Ar : Option Addr} {H H1 H2 : List (List (Option Tup))} {p q pg sl z : Int} {v : Tup} (h : StoreAt w sb o s) (hx : U64 x) (hy : s.sn x = some y) (hf : findT s.L y name s.T = some i) (ht : s.T[i]? = some t) (hc : t.cols = [(nm, 1)]) (hid : U64 t.id)
    (hk : KeptOk s t.id) (hH : s.hs t.id = some H) (hle : H.length + s.left ≤ 256) (hn : n < 256) (hv : Rd w Sv 4 A3 1 (intRow n)) (hc3 : 1 ≤ c3) (hm3 : c3 ≤ maxLen) (hg : hGet H pg sl = some v) (hx1 : U64 v.xmin) (hx2 : U64 v.xmax) (hcode : freeS s.L y v.xmin v.xmax = code)
    (hins : code = 0 → hIns H s.left ⟨v.row, x, 0, -1, -1, rowI n⟩ = ((p, q, 0), H1, left')) (hst : hStamp H1 pg sl x p q = (z, H2)) :
    Calls Tryz.prog 11 #[ptrV sb, .int .u64 (x : Int), .string name, .agg #[.int .u64 v.row, .int .i64 pg, .int .i64 sl, .slice Ar nr cr], .slice A3 1 c3] w (UpdPost w sb o s (putSx s t.id H2 left' ⟨keyI n, p, q⟩) code z) := by
  have e1 : ({ putSx s t.id H1 left' ⟨keyI n, p, q⟩ with hs := upd (putSx s t.id H1 left' ⟨keyI n, p, q⟩).hs t.id (some H2) } : St) = putSx s t.id H2 left' ⟨keyI n, p, q⟩ := by
    simp only [putSx, upd_upd]
  rw [← e1]
  exact store_update_of (s1 := putSx s t.id H1 left' ⟨keyI n, p, q⟩) h hx hy hf ht hc hid hH hn hv hc3 hm3 hg hx1 hx2 hcode (by simp [putSx, upd]) hst (fun hz W A2 c2 A5 c5 hq hr2 h2 m2 hd h9 m9 =>
    store_put (v := ⟨v.row, x, 0, -1, -1, rowI n⟩) (cd := c5) (A2 := A2) (c2 := c2) (h.quietly hq) hk.few hid hH hle hc hr2 (fun k e => h.big k e) h2 m2 hn rfl h9 m9 hd (fun k e => h.big k e) (hins hz) hk.each hk.nd)

section
variable {w0 w : World} {sb : Nat} {K : Nat → Prop} {s : St}

theorem law_insertX {x i c3 n left' : Nat} {y : Snap} {t : TE} {name nm : ByteArray} {Sv : Nat → Prop} {A3 : Option Addr} {H H' : List (List (Option Tup))} {p q : Int} (h : LawSt w0 w sb K s) (hx : U64 x) (hy : s.sn x = some y) (hf : findT s.L y name s.T = some i) (ht : s.T[i]? = some t) (hc : t.cols = [(nm, 1)]) (hid : U64 t.id)
    (hk : KeptOk s t.id) (hH : s.hs t.id = some H) (hle : H.length + s.left ≤ 256) (hn : n < 256) (hv : Rd w Sv 4 A3 1 (intRow n)) (hc3 : 1 ≤ c3) (hm3 : c3 ≤ maxLen) (hlast : s.last + 1 < 18446744073709551616) (hins : hIns H s.left ⟨s.last + 1, x, 0, -1, -1, rowI n⟩ = ((p, q, 0), H', left')) :
    Calls Tryz.prog 14 #[ptrV sb, .int .u64 (x : Int), .string name, .slice A3 1 c3] w fun e w' => e = .returned (.int .i64 0) ∧ LawTo w0 w sb K { putSx s t.id H' left' ⟨keyI n, p, q⟩ with last := s.last + 1 } w' := by
  obtain ⟨o, h1, h2, h3, h4⟩ := h
  refine (store_insertX h1 hx hy hf ht hc hid hk hH hle hn hv hc3 hm3 hlast hins).mono ?_
  rintro e w' ⟨rfl, hst⟩
  exact ⟨rfl, law_step h1 h2 h3 h4 hst⟩

theorem law_updateX {x i c3 n left' nr cr code : Nat} {y : Snap} {t : TE} {name nm : ByteArray} {Sv : Nat → Prop} {A3 Ar : Option Addr} {H H1 H2 : List (List (Option Tup))} {p q pg sl z : Int} {v : Tup} (h : LawSt w0 w sb K s) (hx : U64 x) (hy : s.sn x = some y) (hf : findT s.L y name s.T = some i) (ht : s.T[i]? = some t) (hc : t.cols = [(nm, 1)]) (hid : U64 t.id)
    (hk : KeptOk s t.id) (hH : s.hs t.id = some H) (hle : H.length + s.left ≤ 256) (hn : n < 256) (hv : Rd w Sv 4 A3 1 (intRow n)) (hc3 : 1 ≤ c3) (hm3 : c3 ≤ maxLen) (hg : hGet H pg sl = some v) (hx1 : U64 v.xmin) (hx2 : U64 v.xmax) (hcode : freeS s.L y v.xmin v.xmax = code)
    (hins : code = 0 → hIns H s.left ⟨v.row, x, 0, -1, -1, rowI n⟩ = ((p, q, 0), H1, left')) (hst : hStamp H1 pg sl x p q = (z, H2)) :
    Calls Tryz.prog 11 #[ptrV sb, .int .u64 (x : Int), .string name, .agg #[.int .u64 v.row, .int .i64 pg, .int .i64 sl, .slice Ar nr cr], .slice A3 1 c3] w fun e w' => if code = 0 then e = .returned (.int .i64 z) ∧ LawTo w0 w sb K (putSx s t.id H2 left' ⟨keyI n, p, q⟩) w' else e = .returned (.int .i64 (code : Int)) ∧ LawTo w0 w sb K s w' := by
  obtain ⟨o, h1, h2, h3, h4⟩ := h
  refine (store_updateX h1 hx hy hf ht hc hid hk hH hle hn hv hc3 hm3 hg hx1 hx2 hcode hins hst).mono ?_
  intro e w' hp
  unfold UpdPost at hp
  split at hp
  · rename_i hz
    rw [if_pos hz]
    exact ⟨hp.1, law_step h1 h2 h3 h4 hp.2⟩
  · rename_i hz
    rw [if_neg hz]
    exact ⟨hp.1, law_step h1 h2 h3 h4 hp.2⟩
end

end Go.Proofs.YtmkaomglecfmfaaGreatDoor

namespace Go.Proofs.YtmkaomglecfmfaaGreatDoor
open Go.RowKit Go.Lap

set_option maxHeartbeats 4000000 in
set_option maxRecDepth 100000 in
theorem store_delete {w : World} {sb x i nr cr code : Nat} {o : Nat → Nat} {s : St} {y : Snap} {t : TE} {name : ByteArray} {Ar : Option Addr} {H1 H2 : List (List (Option Tup))} {pg sl z : Int} {v : Tup} (h : StoreAt w sb o s) (hx : U64 x) (hy : s.sn x = some y) (hf : findT s.L y name s.T = some i) (ht : s.T[i]? = some t) (hid : U64 t.id)
    (hH : s.hs t.id = some H1) (hg : hGet H1 pg sl = some v) (hx1 : U64 v.xmin) (hx2 : U64 v.xmax) (hcode : freeS s.L y v.xmin v.xmax = code) (hst : hStamp H1 pg sl x (-1) (-1) = (z, H2)) :
    Calls Tryz.prog 13 #[ptrV sb, .int .u64 (x : Int), .string name, .agg #[.int .u64 v.row, .int .i64 pg, .int .i64 sl, .slice Ar nr cr]] w (UpdPost w sb o s { s with hs := upd s.hs t.id (some H2) } code z) := by
  have hq0 : Quiet w (w.alloc (.cells #[.int .u64 v.row, .int .i64 pg, .int .i64 sl, .slice Ar nr cr] 44)) := (Only.refl _ _).alloc _
  have HO := Lib.hid (store_open (h.quietly hq0) hx hy hf ht)
  have HB8 := Lib.hid (alloc_new w (.cells #[.int .u64 v.row, .int .i64 pg, .int .i64 sl, .slice Ar nr cr] 44))
  have HQ0 := Lib.hid hq0
  obtain ⟨r8, hr8⟩ : ∃ r8, w.heap.size = r8 := ⟨_, rfl⟩
  rw [hr8] at HB8
  have HR8 := Lib.hid hr8
  have HH := Lib.hid h
  have HID := Lib.hid hid
  have HH0 := Lib.hid hH
  have HG := Lib.hid (And.intro hg (And.intro hx1 (And.intro hx2 hcode)))
  have HST := Lib.hid hst
  obtain ⟨POST, hPOST⟩ : ∃ POST, UpdPost w sb o s { s with hs := upd s.hs t.id (some H2) } code z = POST := ⟨_, rfl⟩
  rw [hPOST]
  have HPOST := Lib.hid hPOST
  clear h hx hy hf ht hid hH hg hx1 hx2 hcode hst hq0 hPOST hr8
  go_enter Tryz.func13, Tryz.ntmps13
  go_wp2_with fail
  rw [HR8.out]
  generalize w.alloc (.cells #[.int .u64 v.row, .int .i64 pg, .int .i64 sl, .slice Ar nr cr] 44) = w0 at *
  refine HO.out.mono ?_
  rintro e w1 ⟨A, c, A2, c2, rfl, hq1, hs1, hf1, hc2, hm2⟩
  clear HO
  have HQ1 := Lib.hid (HQ0.out.trans hq1)
  have HF1 := Lib.hid hf1
  have HS1 := Lib.hid hs1
  have HB81 := Lib.hid (hq1.get HB8.out (fun x => x))
  have q2 : Quiet w1 ((w1.alloc (.cells (snapCells y A c) 70)).alloc (.cells #[.int .u64 (t.id : Int), .string t.name, .slice A2 t.cols.length c2, .int .u64 (t.xmin : Int), .int .u64 (t.xmax : Int)] 86)) := ((Only.refl _ _).alloc _).alloc _
  have b12 := two_new w1 (.cells (snapCells y A c) 70) (.cells #[.int .u64 (t.id : Int), .string t.name, .slice A2 t.cols.length c2, .int .u64 (t.xmin : Int), .int .u64 (t.xmax : Int)] 86)
  have b11 := alloc_old (alloc_new w1 (.cells (snapCells y A c) 70)) (.cells #[.int .u64 (t.id : Int), .string t.name, .slice A2 t.cols.length c2, .int .u64 (t.xmin : Int), .int .u64 (t.xmax : Int)] 86)
  have HQ2 := Lib.hid q2
  have HB12 := Lib.hid b12
  have HB11 := Lib.hid b11
  obtain ⟨r11, hr11⟩ : ∃ r11, w1.heap.size = r11 := ⟨_, rfl⟩
  obtain ⟨r12, hr12⟩ : ∃ r12, r11 + 1 = r12 := ⟨_, rfl⟩
  rw [hr11] at HB12 HB11
  rw [hr12] at HB12
  have HR12 : Hid (w1.heap.size ≤ r12) := by show _ ≤ _; omega
  have HE11 := Lib.hid hr11
  have HE12 := Lib.hid hr12
  clear hq1 hs1 hf1 hc2 hm2 q2 b12 b11 hr11 hr12
  unfold snapV tabV
  have x0 : w1.cell? ⟨r8, 0, none⟩ = some (.int .u64 v.row) := by rw [cell_of HB81.out]; rfl
  have x1 : w1.cell? ⟨r8, 1, none⟩ = some (.int .i64 pg) := by rw [cell_of HB81.out]; rfl
  have x2 : w1.cell? ⟨r8, 2, none⟩ = some (.int .i64 sl) := by rw [cell_of HB81.out]; rfl
  have x3 : w1.cell? ⟨r8, 3, none⟩ = some (.slice Ar nr cr) := by rw [cell_of HB81.out]; rfl
  have lr8 : r8 < w1.heap.size := lt_of_get HB81.out
  have hn1 : ¬ r8 = w1.heap.size := by have := lt_of_get HB81.out; omega
  have hn2 : ¬ r8 = w1.heap.size + 1 := by have := lt_of_get HB81.out; omega
  go_wp2_with fail
  (try simp only [World.size_alloc])
  (try rw [HE11.out]); (try rw [HE12.out])
  clear x0 x1 x2 x3 hn1 hn2 lr8
  generalize (w1.alloc (.cells #[.int .u64 (y.own : Int), .int .u64 (y.xmin : Int), .int .u64 (y.xmax : Int), .slice A y.run.length c] 70)).alloc (.cells #[.int .u64 (t.id : Int), .string t.name, .slice A2 t.cols.length c2, .int .u64 (t.xmin : Int), .int .u64 (t.xmax : Int)] 86) = w4 at *
  have HQ4 : Hid (Quiet w w4) := HQ1.out.trans HQ2.out
  have HHW := Lib.hid (HH.out.quietly HQ4.out)
  have HSW := Lib.hid (HS1.out.kept HQ2.out (fun _ _ x => x))
  have HVE : Hid (Calls Tryz.prog 39 #[ptrV sb, snapV y A c, tabV t A2 c2, .agg #[.int .u64 v.row, .int .i64 pg, .int .i64 sl, .slice Ar nr cr]] w4 (VersPost w4 v code)) := by
    have hv := store_version (A2 := A2) (c2 := c2) (A3 := Ar) (n3 := nr) (c3 := cr) HHW.out HSW.out HID.out HH0.out HG.out.1 HG.out.2.1 HG.out.2.2.1
    rw [HG.out.2.2.2] at hv
    exact hv
  unfold snapV tabV at HVE
  have b12 := tabBox_cells HB12.out
  have b11 := snapBox_cells HB11.out
  have hb8 := HQ2.out.get HB81.out (fun x => x)
  have HB8W := Lib.hid hb8
  have HB12W := Lib.hid HB12.out
  clear hb8
  refine HVE.out.mono ?_
  rintro e w5 ⟨A6, c6, rfl, hq5⟩
  have HQB : Hid (Quiet w4 (w5.alloc (.cells #[.int .u64 v.row, .int .u64 v.xmin, .int .u64 v.xmax, .int .i64 v.pg, .int .i64 v.sl, .slice A6 v.data.length c6] 92))) := hq5.alloc _
  clear hq5 b11 b12 HVE
  unfold tupV
  by_cases hz : code = 0
  · subst hz
    go_wp2_with fail
    generalize w5.alloc (.cells #[.int .u64 v.row, .int .u64 v.xmin, .int .u64 v.xmax, .int .i64 v.pg, .int .i64 v.sl, .slice A6 v.data.length c6] 92) = W at *
    have HQW : Hid (Quiet w W) := HQ4.out.trans HQB.out
    have HB8b := Lib.hid (HQB.out.get HB8W.out (fun x => x))
    have HB12b := Lib.hid (HQB.out.get HB12W.out (fun x => x))
    have h' := HH.out.quietly HQW.out
    obtain ⟨lb, bb, pb, mh, mt, ms, fh, ft, fs, h'⟩ := h'
    obtain ⟨hb, hf, hp⟩ := h'.heaps.2 t.id H1 HH0.out
    have HR := Lib.hid h'
    have HF := Lib.hid hf
    have HP := Lib.hid hp
    have HX12 : Hid (o r12 = 0) := HH.out.big r12 (by have := HQ1.out.size; have := HR12.out; omega)
    have HX8 : Hid (o r8 = 0) := HH.out.big r8 (by have := HR8.out; omega)
    clear h' hf hp
    have HS13 : Hid (∀ W', Only (fun k => o k = 10 + 2 * t.id) W W' → (fun w' => w'.cell? ⟨sb, 3, none⟩ = some (.map (some mh)) ∧ w'.cell? ⟨r12, 0, none⟩ = some (.int .u64 (t.id : Int)) ∧ w'.cell? ⟨r8, 1, none⟩ = some (.int .i64 pg) ∧ w'.cell? ⟨r8, 2, none⟩ = some (.int .i64 sl) ∧ (Instr.lookup 63 (.map (some mh)) (.int .u64 (t.id : Int)) false).run Tryz.prog w' = .ok (ptrV hb) w') W') := fun W' hq => by
      have b12 := tabBox_cells (hq.get HB12b.out (fun e => by have := HX12.out; (try dsimp only at e); omega))
      have b8 := hq.get HB8b.out (fun e => by have := HX8.out; (try dsimp only at e); omega)
      have t1 := HR.out.tags
      have c3 := hq.cell HR.out.cells.2.2.2.1 (fun e => by (try dsimp only at e); omega)
      have hm := HR.out.mH.kept hq (fun e => by (try dsimp only at e); omega)
      exact ⟨c3, b12.1, by rw [cell_of b8]; rfl, by rw [cell_of b8]; rfl, look_heap hm HF.out HID.out⟩
    have HSTAMP : Hid (∀ W', Quiet W W' → Calls Tryz.prog 42 #[ptrV hb, .agg #[.int .i64 pg, .int .i64 sl], .int .u64 (x : Int), .agg #[.int .i64 (-1), .int .i64 (-1)]] W' (fun e w' => e = .returned (.int .i64 z) ∧ Only (fun k => o k = 10 + 2 * t.id) W' w' ∧ HeapIs w' hb pb (fun k => o k = 10 + 2 * t.id) H2)) := fun W' hq => by
      have := heap_stamp pg sl x (-1) (-1) (HP.out.kept hq (fun _ _ x => x))
      rw [HST.out] at this
      exact this
    refine wp_region_held_drew (S := (fun w' => w'.cell? ⟨sb, 3, none⟩ = some (.map (some mh)) ∧ w'.cell? ⟨r12, 0, none⟩ = some (.int .u64 (t.id : Int)) ∧ w'.cell? ⟨r8, 1, none⟩ = some (.int .i64 pg) ∧ w'.cell? ⟨r8, 2, none⟩ = some (.int .i64 sl) ∧ (Instr.lookup 63 (.map (some mh)) (.int .u64 (t.id : Int)) false).run Tryz.prog w' = .ok (ptrV hb) w')) (by kernel_rfl) (HS13.out _ ((Only.refl _ _).drew)) (fun hHeld => ?_)
    simp only [List.size_toArray, List.length_cons, List.length_nil, Nat.reduceAdd]
    have q6 : Quiet W W.drew := (Only.refl _ _).drew
    generalize W.drew = d6 at q6 hHeld ⊢
    (refine zTK 0 (oi := ?_) (v := ?_) ?_ ?_ (Or.inl ⟨?_, ?_⟩) ?_; rotate_left 2; (focus (simp only [zGA, zGZ, zGS] <;> rfl)); (focus (exact fun _ _ _ h => h)); (focus rfl); (focus (intro w hSw; (try dsimp only at hSw); go_simp; (try with_reducible rfl); done)); (try simp only [Act.put, zPA, zPZ, zPS]))
    (refine zTK 1 (oi := ?_) (v := ?_) ?_ ?_ (Or.inl ⟨?_, ?_⟩) ?_; rotate_left 2; (focus (simp only [zGA, zGZ, zGS] <;> rfl)); (focus (exact fun _ _ _ h => h)); (focus rfl); (focus (intro w hSw; (try dsimp only at hSw); go_simp; (try with_reducible rfl); done)); (try simp only [Act.put, zPA, zPZ, zPS]))
    (refine zTK 2 (oi := ?_) (v := ?_) ?_ ?_ (Or.inl ⟨?_, ?_⟩) ?_; rotate_left 2; (focus (simp only [zGA, zGZ, zGS] <;> rfl)); (focus (exact fun _ _ _ h => h)); (focus rfl); (focus (intro w hSw; (try dsimp only at hSw); go_simp; (try with_reducible rfl); done)); (try simp only [Act.put, zPA, zPZ, zPS]))
    (refine zTK 3 (oi := ?_) (v := ?_) ?_ ?_ (Or.inl ⟨?_, ?_⟩) ?_; rotate_left 2; (focus (simp only [zGA, zGZ, zGS] <;> rfl)); (focus (exact fun _ _ _ h => h)); (focus rfl); (focus (intro w hSw; (try dsimp only at hSw); go_simp; (try with_reducible rfl); done)); (try simp only [Act.put, zPA, zPZ, zPS]))
    (refine zTK 4 (oi := ?_) (v := ?_) ?_ ?_ (Or.inl ⟨?_, ?_⟩) ?_; rotate_left 2; (focus (simp only [zGA, zGZ, zGS] <;> rfl)); (focus (exact fun _ _ _ h => h)); (focus rfl); (focus (intro w hSw; (try dsimp only at hSw); go_simp; (try with_reducible rfl); done)); (try simp only [Act.put, zPA, zPZ, zPS]))
    (refine zTK 5 (oi := ?_) (v := ?_) ?_ ?_ (Or.inl ⟨?_, ?_⟩) ?_; rotate_left 2; (focus (simp only [zGA, zGZ, zGS] <;> rfl)); (focus (exact fun _ _ _ h => h)); (focus rfl); (focus (intro w hSw; (try dsimp only at hSw); go_simp; (try with_reducible rfl); done)); (try simp only [Act.put, zPA, zPZ, zPS]))
    (refine zTK 6 (oi := ?_) (v := ?_) ?_ ?_ (Or.inl ⟨?_, ?_⟩) ?_; rotate_left 2; (focus (simp only [zGA, zGZ, zGS] <;> rfl)); (focus (exact fun _ _ _ h => h)); (focus rfl); (focus (intro w hSw; (try dsimp only at hSw); go_simp; (try with_reducible rfl); done)); (try simp only [Act.put, zPA, zPZ, zPS]))
    (refine zTK 7 (oi := ?_) (v := ?_) ?_ ?_ (Or.inl ⟨?_, ?_⟩) ?_; rotate_left 2; (focus (simp only [zGA, zGZ, zGS] <;> rfl)); (focus (exact fun _ _ _ h => h)); (focus rfl); (focus (intro w hSw; (try dsimp only at hSw); go_simp; (try with_reducible rfl); done)); (try simp only [Act.put, zPA, zPZ, zPS]))
    (refine zTK 8 (oi := ?_) (v := ?_) ?_ ?_ (Or.inl ⟨?_, ?_⟩) ?_; rotate_left 2; (focus (simp only [zGA, zGZ, zGS] <;> rfl)); (focus (exact fun _ _ _ h => h)); (focus rfl); (focus (intro w hSw; (try dsimp only at hSw); go_simp; (try with_reducible rfl); done)); (try simp only [Act.put, zPA, zPZ, zPS]))
    (refine zTK 9 (oi := ?_) (v := ?_) ?_ ?_ (Or.inl ⟨?_, ?_⟩) ?_; rotate_left 2; (focus (simp only [zGA, zGZ, zGS] <;> rfl)); (focus (exact fun _ _ _ h => h)); (focus rfl); (focus (intro w hSw; (try dsimp only at hSw); go_simp; (try with_reducible rfl); done)); (try simp only [Act.put, zPA, zPZ, zPS]))
    refine wpAnyH_ready (rs := [10]) (by kernel_rfl) (by simp) ?_
    refine AllReadyH.cons (o := ?_) ?_ ?_ AllReadyH.nil
    rotate_left 1
    (focus (simp only [zGA, zGZ, zGS] <;> rfl))
    intro K hK
    go_simp
    go_at_call 41
    refine (store_nowhere _).mono ?_
    rintro e dn ⟨rfl, hqn⟩
    have qn := q6.trans hqn
    dsimp only
    refine hK.out _ _ ?_ (fun hHeld => ?_)
    · exact HS13.out _ (qn.mono (fun _ _ x => x.elim))
    clear hK K
    (try simp only [Act.put, zPA, zPZ, zPS])
    refine wpAnyH_ready (rs := [11]) (by kernel_rfl) (by simp) ?_
    refine AllReadyH.cons (o := ?_) ?_ ?_ AllReadyH.nil
    rotate_left 1
    (focus (simp only [zGA, zGZ, zGS] <;> rfl))
    intro K hK
    go_simp
    go_at_call 42
    refine (HSTAMP.out _ qn).mono ?_
    rintro e d7 ⟨rfl, ho7, hh7⟩
    dsimp only
    refine hK.out _ _ ?_ (fun hHeld => ?_)
    · exact HS13.out _ ((qn.mono (T := fun k => o k = 10 + 2 * t.id) (fun _ _ x => x.elim)).trans ho7)
    clear hK K
    (try simp only [Act.put, zPA, zPZ, zPS])
    (refine zTK 12 (oi := ?_) (v := ?_) ?_ ?_ (Or.inl ⟨?_, ?_⟩) ?_; rotate_left 2; (focus (simp only [zGA, zGZ, zGS] <;> rfl)); (focus (exact fun _ _ _ h => h)); (focus rfl); (focus (intro w hSw; (try dsimp only at hSw); go_simp; (try with_reducible rfl); done)); (try simp only [Act.put, zPA, zPZ, zPS]))
    refine wpAnyH_done (by kernel_rfl) ?_ _
    have HEND : Hid (POST (.returned (.int .i64 z)) d7) := by
      rw [← HPOST.out]
      unfold UpdPost
      rw [if_pos rfl]
      have ho := (qn.mono (T := fun k => o k = 10 + 2 * t.id) (fun _ _ x => x.elim)).trans ho7
      have tg := HR.out.tags
      have hpo := (HR.out.pool.kept qn (fun x => x)).kept ho7 (fun e => by (try dsimp only at e); omega)
      have h9 := HR.out.setHeap (id := t.id) HF.out (ho.mono (fun k _ x => Or.inl x)) hpo (hh7.mono (fun k x => Or.inl x))
      have hzz := HQW.out.size
      have hon : Only (fun k => o k ≠ 0) w d7 := (HQW.out.mono (fun _ _ x => x.elim)).trans' ho (fun k hk x => by omega)
      exact ⟨rfl, _, fun k hk => grow_old (by omega), hon, lb, bb, pb, mh, mt, ms, fh, ft, fs, h9⟩
    clear hHeld ho7 hh7 HS13 HSTAMP
    go_wp2
    exact HEND.out
  · have hne : ¬ (code : Int) = 0 := by omega
    have HEND : Hid (POST (.returned (.int .i64 (code : Int))) (w5.alloc (.cells #[.int .u64 v.row, .int .u64 v.xmin, .int .u64 v.xmax, .int .i64 v.pg, .int .i64 v.sl, .slice A6 v.data.length c6] 92))) := by
      rw [← HPOST.out]
      unfold UpdPost
      rw [if_neg hz]
      have hq := HQ4.out.trans HQB.out
      exact ⟨rfl, o, fun _ _ => rfl, hq.mono (fun _ _ x => x.elim), HH.out.quietly hq⟩
    go_wp2
    exact HEND.out

section
variable {w0 w : World} {sb : Nat} {K : Nat → Prop} {s : St}
theorem law_delete {x i nr cr code : Nat} {y : Snap} {t : TE} {name : ByteArray} {Ar : Option Addr} {H1 H2 : List (List (Option Tup))} {pg sl z : Int} {v : Tup} (h : LawSt w0 w sb K s) (hx : U64 x) (hy : s.sn x = some y) (hf : findT s.L y name s.T = some i) (ht : s.T[i]? = some t) (hid : U64 t.id)
    (hH : s.hs t.id = some H1) (hg : hGet H1 pg sl = some v) (hx1 : U64 v.xmin) (hx2 : U64 v.xmax) (hcode : freeS s.L y v.xmin v.xmax = code) (hst : hStamp H1 pg sl x (-1) (-1) = (z, H2)) :
    Calls Tryz.prog 13 #[ptrV sb, .int .u64 (x : Int), .string name, .agg #[.int .u64 v.row, .int .i64 pg, .int .i64 sl, .slice Ar nr cr]] w fun e w' => if code = 0 then e = .returned (.int .i64 z) ∧ LawTo w0 w sb K { s with hs := upd s.hs t.id (some H2) } w' else e = .returned (.int .i64 (code : Int)) ∧ LawTo w0 w sb K s w' := by
  obtain ⟨o, h1, h2, h3, h4⟩ := h
  refine (store_delete h1 hx hy hf ht hid hH hg hx1 hx2 hcode hst).mono ?_
  intro e w' hp
  unfold UpdPost at hp
  split at hp
  · rename_i hz
    rw [if_pos hz]
    exact ⟨hp.1, law_step h1 h2 h3 h4 hp.2⟩
  · rename_i hz
    rw [if_neg hz]
    exact ⟨hp.1, law_step h1 h2 h3 h4 hp.2⟩
end

end Go.Proofs.YtmkaomglecfmfaaGreatDoor

namespace Go.Proofs.YtmkaomglecfmfaaGreatDoor
open Go.RowKit Go.Lap

/-- The law's one index. -/
def idxA : IE := ⟨2, ⟨#[105]⟩, 1, 0, 1, 0⟩

def tsE : Option (List Ent) → Nat → Option (List Ent)
  | none => fun _ => none
  | some es => upd (fun _ => none) 2 (some es)

def ixE : Option (List Ent) → List IE
  | none => []
  | some _ => [idxA]

def blE : Option (List Ent) → Nat
  | none => 1
  | some _ => 2

/-- The law's store: one table, one transaction, perhaps one index. -/
def stE (H : List (List (Option Tup))) (left last : Nat) (oi : Option (List Ent)) : St := ⟨[1], [tabA], ixE oi, blE oi, left, upd (fun _ => none) 1 (some H), tsE oi, upd (fun _ => none) 1 (some (takeS [1] 1)), last⟩

section
variable {H H' : List (List (Option Tup))} {left left' last i c : Nat} {oi : Option (List Ent)} {ent : Ent} {s : St}

theorem stE_put : putSx (stE H left last oi) tabA.id H' left' ent = stE H' left' last (oi.map (putE ent)) := by
  cases oi with
  | none =>
    show putSx (stE H left last none) 1 H' left' ent = _
    simp only [putSx, stE, upd_upd]
    rfl
  | some es =>
    show putSx (stE H left last (some es)) 1 H' left' ent = _
    have e1 : keptI (stE H left last (some es)).L 1 (stE H left last (some es)).I = [idxA] := rfl
    unfold putSx
    rw [e1]
    have e2 : putTs ent (stE H left last (some es)).ts [idxA] = upd (fun _ => none) 2 (some (putE ent es)) := by
      show upd (upd (fun _ => none) 2 (some es)) 2 (some (putE ent es)) = _
      rw [upd_upd]
    rw [e2]
    simp only [stE, upd_upd]
    rfl

theorem stE_kept (he : ∀ es, oi = some es → es.length ≤ 10000) : KeptOk (stE H left last oi) tabA.id := by
  cases oi with
  | none => exact ⟨by show 0 ≤ 1000; omega, (fun e he' => by cases he'), List.nodup_nil⟩
  | some es =>
    have e1 : keptI (stE H left last (some es)).L tabA.id (stE H left last (some es)).I = [idxA] := rfl
    refine ⟨by show 1 ≤ 1000; omega, fun e h => ?_, by rw [e1]; simp⟩
    rw [e1, List.mem_singleton] at h
    subst h
    exact ⟨rfl, (by unfold U64; decide), es, rfl, he es rfl⟩

/-- Behind i rounds. -/
structure EntSt (i : Nat) (H : List (List (Option Tup))) (left last c : Nat) (oi : Option (List Ent)) : Prop where
  heap : EntH c H left
  few : c ≤ i
  last : last ≤ i
  ent : ∀ es, oi = some es → EntT H es

theorem EntSt.start : EntSt 0 [] 256 0 0 none := ⟨EntH.start, Nat.le_refl _, Nat.le_refl _, fun es h => by cases h⟩

theorem EntSt.small (h : EntSt i H left last c oi) (hi : i ≤ 100) : ∀ es, oi = some es → es.length ≤ 10000 := fun es e => by
  have h1 := (h.ent es e).len
  rw [h.heap.used] at h1
  have := h.few
  omega

/-- What is seen is a version that may be ended. -/
theorem ent_seen (h : EntH c H left) {r : RowR} (hr : r ∈ seenR H [1] (takeS [1] 1) (placesH H H.length)) : ∃ v, hGet H r.2.1 r.2.2.1 = some v ∧ v.row = r.1 ∧ freeS [1] (takeS [1] 1) v.xmin v.xmax = 0 ∧ U64 v.xmin ∧ U64 v.xmax := by
  obtain ⟨a, _, e⟩ := List.mem_filterMap.1 hr
  unfold seenAt at e
  split at e
  · rename_i v hg
    split at e
    · rename_i hv
      injection e with e
      subst e
      obtain ⟨h1, h2, _, _⟩ := h.vers _ _ v hg
      refine ⟨v, hg, rfl, ?_, by unfold U64; omega, by unfold U64; omega⟩
      unfold freeS
      rw [if_neg (fun x => ?_), if_neg (by rw [hv]; decide)]
      have h3 : v.xmax = 1 := by omega
      exact x.2.1 (by rw [h3]; rfl)
    · cases e
  · cases e

variable {w0 w : World} {sb : Nat} {K : Nat → Prop}

theorem ent_found : findT [1] (takeS [1] 1) ⟨#[116]⟩ [tabA] = some 0 := tabA_found (by decide)

/-- What a call leaves. -/
def EntTo (w0 w : World) (sb : Nat) (K : Nat → Prop) (i : Nat) (oi : Option (List Ent)) (e : Ending) (w' : World) : Prop :=
  e = .returned (.int .i64 0) ∧ ∃ H left last c oi', LawTo w0 w sb K (stE H left last oi') w' ∧ EntSt i H left last c oi' ∧ oi'.isSome = oi.isSome

theorem ent_insert {Sv : Nat → Prop} {A3 : Option Addr} {c3 n : Nat} (h : LawSt w0 w sb K (stE H left last oi)) (hs : EntSt i H left last c oi) (hi : i ≤ 40) (hn : n < 256) (hv : Rd w Sv 4 A3 1 (intRow n)) (hc3 : 1 ≤ c3) (hm3 : c3 ≤ maxLen) :
    Calls Tryz.prog 14 #[ptrV sb, .int .u64 1, .string ⟨#[116]⟩, .slice A3 1 c3] w (EntTo w0 w sb K (i + 1) oi) := by
  have h2 := hs.few
  have h3 := hs.last
  obtain ⟨p, q, H', left', h4, h5, h6⟩ := hs.heap.ins (row := last + 1) (n := n) (by omega) (by omega) hn
  refine (law_insertX (x := 1) (y := takeS [1] 1) (t := tabA) (i := 0) (nm := ⟨#[97]⟩) (name := ⟨#[116]⟩) h (by unfold U64; omega) rfl ent_found rfl rfl (by unfold U64; decide) (stE_kept (hs.small (by omega))) rfl (by show H.length + left ≤ 256; rw [hs.heap.left]; exact Nat.le_refl _) hn hv hc3 hm3 (by show last + 1 < _; omega) h4).mono ?_
  rintro e w' ⟨rfl, ht⟩
  rw [stE_put] at ht
  refine ⟨rfl, H', left', last + 1, c + 1, oi.map (putE ⟨keyI n, p, q⟩), ht, ⟨h5, by omega, by omega, fun es he => ?_⟩, by simp⟩
  obtain ⟨es0, e1, rfl⟩ := Option.map_eq_some_iff.1 he
  exact (hs.ent es0 e1).put h6

theorem ent_update {Sv : Nat → Prop} {A3 Ar : Option Addr} {c3 n nr cr : Nat} {r : RowR} (h : LawSt w0 w sb K (stE H left last oi)) (hs : EntSt i H left last c oi) (hi : i ≤ 40) (hr : r ∈ seenR H [1] (takeS [1] 1) (placesH H H.length)) (hn : n < 256) (hv : Rd w Sv 4 A3 1 (intRow n)) (hc3 : 1 ≤ c3) (hm3 : c3 ≤ maxLen) :
    Calls Tryz.prog 11 #[ptrV sb, .int .u64 1, .string ⟨#[116]⟩, .agg #[.int .u64 (r.1 : Int), .int .i64 r.2.1, .int .i64 r.2.2.1, .slice Ar nr cr], .slice A3 1 c3] w (EntTo w0 w sb K (i + 1) oi) := by
  have h2 := hs.few
  have h3 := hs.last
  obtain ⟨v, g1, g2, g3, g4, g5⟩ := ent_seen hs.heap hr
  obtain ⟨_, _, g6, _⟩ := hs.heap.vers _ _ v g1
  obtain ⟨p, q, H1, left', h4, h5, h6⟩ := hs.heap.ins (row := v.row) (n := n) (by omega) g6 hn
  have hne : ¬ (r.2.1 = p ∧ r.2.2.1 = q) := fun x => by
    have := h6.was
    rw [← x.1, ← x.2, g1] at this
    cases this
  have g7 : hGet H1 r.2.1 r.2.2.1 = some v := by rw [h6.get, if_neg hne]; exact g1
  have hpq := h5.place (pg := p) (sl := q) (v := ⟨v.row, 1, 0, -1, -1, rowI n⟩) (by rw [h6.get, if_pos ⟨rfl, rfl⟩])
  have hfar : farB p q = false := by
    unfold farB
    rw [if_neg (by omega), decide_eq_false_iff_not]
    omega
  obtain ⟨H2, h7, h8, h9⟩ := h5.stamp g7 hfar
  rw [← g2]
  refine (law_updateX (x := 1) (y := takeS [1] 1) (t := tabA) (i := 0) (nm := ⟨#[97]⟩) (name := ⟨#[116]⟩) (v := v) (code := 0) h (by unfold U64; omega) rfl ent_found rfl rfl (by unfold U64; decide) (stE_kept (hs.small (by omega))) rfl (by show H.length + left ≤ 256; rw [hs.heap.left]; exact Nat.le_refl _) hn hv hc3 hm3 g1 g4 g5 g3 (fun _ => h4) h7).mono ?_
  intro e w' hp
  rw [if_pos rfl] at hp
  obtain ⟨rfl, ht⟩ := hp
  rw [stE_put] at ht
  refine ⟨rfl, H2, left', last, c + 1, oi.map (putE ⟨keyI n, p, q⟩), ht, ⟨h8, by omega, by omega, fun es he => ?_⟩, by simp⟩
  obtain ⟨es0, e1, rfl⟩ := Option.map_eq_some_iff.1 he
  exact ((hs.ent es0 e1).put h6).stamp h9

theorem ent_delete {Ar : Option Addr} {nr cr : Nat} {r : RowR} (h : LawSt w0 w sb K (stE H left last oi)) (hs : EntSt i H left last c oi) (hi : i ≤ 40) (hr : r ∈ seenR H [1] (takeS [1] 1) (placesH H H.length)) :
    Calls Tryz.prog 13 #[ptrV sb, .int .u64 1, .string ⟨#[116]⟩, .agg #[.int .u64 (r.1 : Int), .int .i64 r.2.1, .int .i64 r.2.2.1, .slice Ar nr cr]] w (EntTo w0 w sb K (i + 1) oi) := by
  have h2 := hs.few
  have h3 := hs.last
  obtain ⟨v, g1, g2, g3, g4, g5⟩ := ent_seen hs.heap hr
  obtain ⟨H2, h7, h8, h9⟩ := hs.heap.stamp (p := -1) (q := -1) g1 (by decide)
  rw [← g2]
  refine (law_delete (x := 1) (y := takeS [1] 1) (t := tabA) (i := 0) (name := ⟨#[116]⟩) (v := v) (code := 0) h (by unfold U64; omega) rfl ent_found rfl (by unfold U64; decide) rfl g1 g4 g5 g3 h7).mono ?_
  intro e w' hp
  rw [if_pos rfl] at hp
  obtain ⟨rfl, ht⟩ := hp
  have e1 : ({ stE H left last oi with hs := upd (stE H left last oi).hs tabA.id (some H2) } : St) = stE H2 left last oi := by
    show ({ stE H left last oi with hs := upd (upd (fun _ => none) 1 (some H)) 1 (some H2) } : St) = _
    rw [upd_upd]
    rfl
  rw [e1] at ht
  exact ⟨rfl, H2, left, last, c, oi, ht, ⟨h8, by omega, by omega, fun es he => (hs.ent es he).stamp h9⟩, rfl⟩

theorem ent_scan (h : LawSt w0 w sb K (stE H left last oi)) (hs : EntSt i H left last c oi) (hi : i ≤ 40) :
    Calls Tryz.prog 10 #[ptrV sb, .int .u64 1, .string ⟨#[116]⟩] w (StoreScanPost w (seenR H [1] (takeS [1] 1) (placesH H H.length))) := by
  have h2 := hs.few
  refine law_scan (x := 1) (y := takeS [1] 1) (t := tabA) (i := 0) (nm := ⟨#[97]⟩) h (by unfold U64; omega) rfl ent_found rfl rfl (by unfold U64; decide) rfl (fun k hk => ?_) hs.heap.int
  rw [placesH_length H k hk]
  have h1 : usedH (H.take k) ≤ usedH H := by
    conv => rhs; rw [← List.take_append_drop k H]
    unfold usedH
    rw [List.map_append, List.sum_append]
    omega
  have := hs.heap.used
  omega
end

theorem ent_rev {α : Type _} {P : List α → Prop} (h0 : P []) (h1 : ∀ l a, P l → P (l ++ [a])) (l : List α) : P l := by
  have h : ∀ m : List α, P m.reverse := fun m => by
    induction m with
    | nil => exact h0
    | cons a m ih => rw [List.reverse_cons]; exact h1 _ _ ih
  have := h l.reverse
  rw [List.reverse_reverse] at this
  exact this

/-- The entries that are built: each version's. -/
def buildE (H : List (List (Option Tup))) (L : List Nat) (hz : Nat) (l : List (Int × Int)) : List Ent :=
  l.foldl (fun es a => match hGet H a.1 a.2 with | some v => if deadS L v.xmin v.xmax hz then es else putE ⟨keyI (numOf v.data), a.1, a.2⟩ es | none => es) []

theorem buildE_snoc (H : List (List (Option Tup))) (L : List Nat) (hz : Nat) (l : List (Int × Int)) (a : Int × Int) : buildE H L hz (l ++ [a]) = match hGet H a.1 a.2 with | some v => if deadS L v.xmin v.xmax hz then buildE H L hz l else putE ⟨keyI (numOf v.data), a.1, a.2⟩ (buildE H L hz l) | none => buildE H L hz l := by
  unfold buildE
  rw [List.foldl_append]
  rfl

theorem buildE_len (H : List (List (Option Tup))) (L : List Nat) (hz : Nat) (l : List (Int × Int)) : (buildE H L hz l).length ≤ l.length := by
  refine ent_rev (P := fun l => (buildE H L hz l).length ≤ l.length) ?_ ?_ l
  · exact Nat.le_refl _
  · intro l a ih
    rw [buildE_snoc, List.length_append]
    show _ ≤ l.length + 1
    split
    · split
      · omega
      · unfold putE
        split
        · omega
        · rw [insE_length]; omega
    · omega

/-- Of a table whose maker runs all are built. -/
theorem build_all {H : List (List (Option Tup))} {left c hz : Nat} (h : EntH c H left) : EntT H (buildE H [1] hz (placesH H H.length)) := by
  have key : ∀ l : List (Int × Int), l.Nodup → (∀ a ∈ l, ∃ v, hGet H a.1 a.2 = some v) → (buildE H [1] hz l).length = l.length ∧ ∀ e ∈ buildE H [1] hz l, (e.pg, e.sl) ∈ l := by
    intro l
    refine ent_rev (P := fun l : List (Int × Int) => l.Nodup → (∀ a ∈ l, ∃ v, hGet H a.1 a.2 = some v) → (buildE H [1] hz l).length = l.length ∧ ∀ e ∈ buildE H [1] hz l, (e.pg, e.sl) ∈ l) ?_ ?_ l
    · exact fun _ _ => ⟨rfl, fun e he => by cases he⟩
    · intro l a ih hn hv
      obtain ⟨n1, _, n2⟩ := List.nodup_append.1 hn
      obtain ⟨i1, i2⟩ := ih n1 (fun b hb => hv b (List.mem_append_left _ hb))
      obtain ⟨v, hv⟩ := hv a (by simp)
      obtain ⟨x1, x2, _, _⟩ := h.vers _ _ v hv
      have hd : deadS [1] v.xmin v.xmax hz = false := by
        have x3 : v.xmax = 0 ∨ v.xmax = 1 := by omega
        unfold deadS
        rw [x1]
        rcases x3 with x3 | x3 <;> rw [x3] <;> rfl
      rw [buildE_snoc, hv]
      simp only [hd]
      have hne : (⟨keyI (numOf v.data), a.1, a.2⟩ : Ent) ∉ buildE H [1] hz l := fun x => n2 _ (i2 _ x) a (by simp) rfl
      have e1 : putE ⟨keyI (numOf v.data), a.1, a.2⟩ (buildE H [1] hz l) = insE ⟨keyI (numOf v.data), a.1, a.2⟩ (buildE H [1] hz l) := by unfold putE; rw [if_neg hne]
      refine ⟨?_, fun e he => ?_⟩
      · show (putE _ _).length = _
        rw [e1, insE_length, i1, List.length_append]; rfl
      · rcases mem_putE.1 (show e ∈ putE _ _ from he) with y | y
        · rw [y]; simp
        · exact List.mem_append_left _ (i2 e y)
  obtain ⟨k1, k2⟩ := key (placesH H H.length) (placesH_nodup H H.length) (fun a ha => placesH_get ha)
  refine ⟨?_, fun e he => ?_⟩
  · rw [k1, placesH_length H H.length (Nat.le_refl _), List.take_length]
  · obtain ⟨v, hv⟩ := placesH_get (k2 e he)
    show (hGet H e.pg e.sl).isSome = true
    rw [show hGet H e.pg e.sl = some v from hv]
    rfl

end Go.Proofs.YtmkaomglecfmfaaGreatDoor

namespace Go.Proofs.YtmkaomglecfmfaaGreatDoor
open Go.RowKit Go.Lap

theorem rd_in {w : World} {S : Nat → Prop} {size n : Nat} {A : Option Addr} {xs : List Value} (h : Rd w S size A n xs) : Rd w (fun k => S k ∧ k < w.heap.size) size A n xs :=
  ⟨h.len, fun h0 => by
    obtain ⟨b, off, e, hb, hc⟩ := h.cells h0
    exact ⟨b, off, e, ⟨hb, cell_lt (hc 0 _ (List.getElem?_eq_getElem h0))⟩, hc⟩⟩

def tab5 (t : TE) (A : Option Addr) (c : Nat) : List Value := [.int .u64 (t.id : Int), .string t.name, .slice A t.cols.length c, .int .u64 (t.xmin : Int), .int .u64 (t.xmax : Int)]
theorem elem_tab5 : Elem Tryz.prog 113 86 5 64 := Elem.mk' (.agg #[.int .u64 0, .string ⟨#[]⟩, .slice none 0 0, .int .u64 0, .int .u64 0]) Tryz.underlying113 (by kernel_rfl) rfl (by decide)
theorem elem_pent : Elem Tryz.prog 191 193 1 8 := Elem.mk' (.pointer none) Tryz.underlying191 (by kernel_rfl) rfl (by decide)
theorem one_entP (p : Nat) : ∀ u ∈ [ptrV p], u.oneCell' = true := by
  intro u hu
  rw [List.mem_singleton] at hu
  rw [hu]
  rfl
theorem one_tab5 (t : TE) (A : Option Addr) (c : Nat) : ∀ u ∈ tab5 t A c, u.oneCell' = true := by
  intro u hu
  simp [tab5] at hu
  rcases hu with rfl | rfl | rfl | rfl | rfl <;> rfl

/-- One table, told, at block b. -/
structure OneTab (w wr : World) (t : TE) (b : Nat) (A : Option Addr) (c : Nat) : Prop where
  quiet : Quiet w wr
  new : w.heap.size ≤ b ∧ b < wr.heap.size
  cells : wr.cell? ⟨b, 0, none⟩ = some (.int .u64 (t.id : Int)) ∧ wr.cell? ⟨b, 1, none⟩ = some (.string t.name) ∧ wr.cell? ⟨b, 2, none⟩ = some (.slice A t.cols.length c) ∧ wr.cell? ⟨b, 3, none⟩ = some (.int .u64 (t.xmin : Int)) ∧ wr.cell? ⟨b, 4, none⟩ = some (.int .u64 (t.xmax : Int))
  cols : Rd wr (fun k => w.heap.size ≤ k ∧ k < wr.heap.size) 2 A t.cols.length (colsV t.cols) ∧ t.cols.length ≤ c ∧ c ≤ maxLen

theorem OneTab.quietly {w wr w' : World} {t : TE} {b c : Nat} {A : Option Addr} (h : OneTab w wr t b A c) (hq : Quiet wr w') : OneTab w w' t b A c :=
  ⟨h.quiet.trans hq, ⟨h.new.1, Nat.lt_of_lt_of_le h.new.2 hq.size⟩, ⟨hq.cell h.cells.1 (fun x => x), hq.cell h.cells.2.1 (fun x => x), hq.cell h.cells.2.2.1 (fun x => x), hq.cell h.cells.2.2.2.1 (fun x => x), hq.cell h.cells.2.2.2.2 (fun x => x)⟩,
    (h.cols.1.kept hq (fun _ _ x => x)).mono (fun k x => ⟨x.1, Nat.lt_of_lt_of_le x.2 hq.size⟩), h.cols.2⟩

theorem OneTab.from {w0 w wr : World} {t : TE} {b c : Nat} {A : Option Addr} (h : OneTab w wr t b A c) (hq : Quiet w0 w) : OneTab w0 wr t b A c :=
  ⟨hq.trans h.quiet, ⟨Nat.le_trans hq.size h.new.1, h.new.2⟩, h.cells, h.cols.1.mono (fun _ x => ⟨Nat.le_trans hq.size x.1, x.2⟩), h.cols.2⟩

def TabsPost (w : World) (t : TE) (e : Ending) (w' : World) : Prop := ∃ b cap A c, e = .returned (.slice (some ⟨b, 0, none⟩) 1 cap) ∧ OneTab w w' t b A c

/-- A told table's row, once appended. -/
theorem oneTab_done {w wr w2 w4 : World} {v : Value} {t : TE} {A : Option Addr} {c : Nat} (hq : Quiet w wr) (hf : FreshC wr w2 (.slice A t.cols.length c) t.cols) (hg : Grew (w2.alloc (.cells (tab5 t A c).toArray 86)) w4 86 5 (.slice none 0 0) v (0 + 1) ([] ++ tab5 t A c)) : ∃ b cap, v = .slice (some ⟨b, 0, none⟩) 1 cap ∧ OneTab w w4 t b A c := by
  have hown := hg.own
  have hqa : Quiet w2 (w2.alloc (.cells (tab5 t A c).toArray 86)) := (Only.refl (fun _ => False) w2).alloc _
  have hon : Quiet (w2.alloc (.cells (tab5 t A c).toArray 86)) w4 := hg.only.mono (fun k _ e => by cases e)
  rcases owns_cases hown with ⟨_, e⟩ | ⟨b, cap, rfl, _, _⟩
  · omega
  obtain ⟨cb, hcb⟩ := own_blk hown (k := b) rfl
  have hq2 := hf.quiet
  obtain ⟨A', c', e', hc1, hc2, hrd⟩ := own_form hf.own
  injection e' with e1 _ e2
  subst e1 e2
  have hbl : w.heap.size ≤ b := by
    rcases hg.loc with y | y
    · cases y
    · have e : (Value.slice (some ⟨b, 0, none⟩) (0 + 1) cap).ownBlock = some b := rfl
      rw [y] at e
      injection e with e
      have s1 := hq.size
      have s2 := hq2.size
      have s3 := hqa.size
      omega
  have c0 := hown.cells (by rfl) 0 (.int .u64 (t.id : Int)) rfl
  have c1 := hown.cells (by rfl) 1 (.string t.name) rfl
  have c2 := hown.cells (by rfl) 2 (.slice A t.cols.length c) rfl
  have c3 := hown.cells (by rfl) 3 (.int .u64 (t.xmin : Int)) rfl
  have c4 := hown.cells (by rfl) 4 (.int .u64 (t.xmax : Int)) rfl
  rw [add_none, Nat.zero_add] at c0 c1 c2 c3 c4
  refine ⟨b, cap, rfl, ((hq.trans hq2).trans hqa).trans hon, ⟨hbl, lt_of_get hcb⟩, ⟨c0, c1, c2, c3, c4⟩, ?_, hc1, hc2⟩
  refine (((rd_in hrd).kept hqa (fun _ _ x => x)).kept hon (fun _ _ x => x)).mono (fun k x => ⟨Nat.le_trans hq.size (hf.new k x.1), Nat.lt_of_lt_of_le x.2 (Nat.le_trans hqa.size hon.size)⟩)

set_option maxHeartbeats 2000000 in
set_option maxRecDepth 100000 in
theorem tables_one {w : World} {F : Nat → Prop} {bb last : Nat} {t : TE} {I : List IE} (h : BookIs w F bb [t] I last) :
    Calls Tryz.prog 60 #[ptrV bb] w (TabsPost w t) := by
  obtain ⟨vT, tps, vI, ips, h, h2, h3⟩ := h
  obtain ⟨c0, _, _⟩ := h.cells
  obtain ⟨A, c, hv, hc, hm, hf⟩ := ptr_form h.rowT
  subst hv
  obtain ⟨tb, htp, hta⟩ := h.tbl 0 t rfl
  obtain ⟨g, rfl, hg⟩ := hf 0 tb htp
  have HG := Lib.hid hg
  have HTA := Lib.hid hta
  have lbb := lt_of_get h.box
  obtain ⟨POST, hPOST⟩ : ∃ POST, TabsPost w t = POST := ⟨_, rfl⟩
  rw [hPOST]
  have HPOST := Lib.hid hPOST
  unfold maxLen at hm
  rw [show ([t] : List TE).length = 1 from rfl] at c0 hc
  clear h h2 h3 hf hPOST htp hta hg
  go_enter Tryz.func60, Tryz.ntmps60
  go_wp2
  go_loopw [13, 3, 5] (fun i v _ wr => Quiet w wr ∧ ((i = .int .i64 0 ∧ v = .slice none 0 0) ∨ ∃ b cap A c, i = .int .i64 1 ∧ v = .slice (some ⟨b, 0, none⟩) 1 cap ∧ OneTab w wr t b A c)) (fun i _ _ _ => 1 - (intOf i).toNat)
  case atStart => exact ⟨Only.refl _ _, Or.inl ⟨rfl, rfl⟩⟩
  case round =>
    obtain ⟨hq, hrel⟩ := hrel
    have HQ := Lib.hid hq
    rcases hrel with ⟨rfl, rfl⟩ | ⟨b, cap, A2, c2, rfl, rfl, hO⟩
    · have hg2 := hq.cell HG.out (fun x => x)
      have HTO := Lib.hid (table_told (HTA.out.kept hq (fun _ _ x => x)))
      have lg := cell_lt hg2
      dsimp only at lg
      clear hq
      go_wp2_with fail
      refine HTO.out.mono ?_
      rintro e w2 ⟨A2, c2, rfl, hf2⟩
      have HF2 := Lib.hid hf2
      have HRD := Lib.hid (Rd.new w2 5 1 (tab5 t A2 c2) 86 (fun _ => True) rfl trivial)
      have HOWN := Lib.hid (World.ownsRow_nil (w2.alloc (.cells (tab5 t A2 c2).toArray 86)) 0 86 5)
      clear hf2 HTO hg2
      unfold tabV
      go_wp2_with (at_builtin; refine app elem_tab5 rfl (.tmp 17) (.tmp 20) rfl rfl HOWN.out rfl HRD.out (one_tab5 t A2 c2) (by unfold maxLen; omega) (by omega) ?_)
      intro v4 w4 hg4
      obtain ⟨b4, cap4, rfl, hO4⟩ := oneTab_done HQ.out HF2.out hg4
      have HO4 := Lib.hid hO4
      clear hg4 hO4 HRD HOWN HF2
      go_wp2
      go_roundw
      case rel => exact ⟨HO4.out.quiet, Or.inr ⟨b4, cap4, A2, c2, rfl, rfl, HO4.out⟩⟩
      case measure => simp [intOf]
    · have HEND : Hid (POST (.returned (.slice (some ⟨b, 0, none⟩) 1 cap)) wr) := by
        rw [← HPOST.out]
        exact ⟨b, cap, A2, c2, rfl, hO⟩
      clear hO hq
      go_wp2
      exact HEND.out

/-- What entries tells of one table. -/
def EntsPost (w : World) (tb : Nat) (e : Ending) (w' : World) : Prop := ∃ b cap, e = .returned (.slice (some ⟨b, 0, none⟩) 1 cap) ∧ Quiet w w' ∧ w.heap.size ≤ b ∧ w'.cell? ⟨b, 0, none⟩ = some (ptrV tb)

theorem entsOne_done {w wr w4 : World} {v : Value} {tb : Nat} (hq : Quiet w wr) (hg : Grew (wr.alloc (.cells [ptrV tb].toArray 193)) w4 193 1 (.slice none 0 0) v (0 + 1) ([] ++ [ptrV tb])) : ∃ b cap, v = .slice (some ⟨b, 0, none⟩) 1 cap ∧ Quiet w w4 ∧ w.heap.size ≤ b ∧ w4.cell? ⟨b, 0, none⟩ = some (ptrV tb) := by
  have hown := hg.own
  have hqa : Quiet wr (wr.alloc (.cells [ptrV tb].toArray 193)) := (Only.refl (fun _ => False) wr).alloc _
  have hon : Quiet (wr.alloc (.cells [ptrV tb].toArray 193)) w4 := hg.only.mono (fun k _ e => by cases e)
  rcases owns_cases hown with ⟨_, e⟩ | ⟨b, cap, rfl, _, _⟩
  · omega
  have hbl : w.heap.size ≤ b := by
    rcases hg.loc with y | y
    · cases y
    · have e : (Value.slice (some ⟨b, 0, none⟩) (0 + 1) cap).ownBlock = some b := rfl
      rw [y] at e
      injection e with e
      have s1 := hq.size
      have s3 := hqa.size
      omega
  have c0 := hown.cells (by rfl) 0 (ptrV tb) rfl
  rw [add_none, Nat.zero_add] at c0
  exact ⟨b, cap, rfl, (hq.trans hqa).trans hon, hbl, c0⟩

set_option maxHeartbeats 2000000 in
set_option maxRecDepth 100000 in
theorem entries_one {w : World} {F : Nat → Prop} {bb last tb : Nat} {t : TE} {vT vI : Value} (h : BookRow w F bb [t] vT [tb] vI [] last) :
    Calls Tryz.prog 88 #[ptrV bb] w (EntsPost w tb) := by
  obtain ⟨c0, c1, _⟩ := h.cells
  obtain ⟨A, c, hv, hc, hm, hf⟩ := ptr_form h.rowT
  obtain ⟨A', c', hv', hc', hm', _⟩ := ptr_form h.rowI
  subst hv hv'
  obtain ⟨tb', htp, hta⟩ := h.tbl 0 t rfl
  obtain rfl : tb = tb' := by simpa using htp
  obtain ⟨g, rfl, hg⟩ := hf 0 tb rfl
  have HG := Lib.hid hg
  have HTA : Hid (tb < w.heap.size) := by obtain ⟨_, _, hb, _⟩ := hta.ex; exact lt_of_get hb
  have HB := Lib.hid h.box
  have lbb := lt_of_get h.box
  obtain ⟨POST, hPOST⟩ : ∃ POST, EntsPost w tb = POST := ⟨_, rfl⟩
  rw [hPOST]
  have HPOST := Lib.hid hPOST
  unfold maxLen at hm hm'
  rw [show ([t] : List TE).length = 1 from rfl] at c0 hc HB
  rw [show ([] : List Nat).length = 0 from rfl] at c1 HB
  clear h hf hPOST htp hta hg hc'
  go_enter Tryz.func88, Tryz.ntmps88
  go_wp2
  go_loopw [13, 3, 5] (fun i v _ wr => Quiet w wr ∧ ((i = .int .i64 0 ∧ v = .slice none 0 0) ∨ ∃ b cap, i = .int .i64 1 ∧ v = .slice (some ⟨b, 0, none⟩) 1 cap ∧ w.heap.size ≤ b ∧ wr.cell? ⟨b, 0, none⟩ = some (ptrV tb))) (fun i _ _ _ => 1 - (intOf i).toNat)
  case atStart => exact ⟨Only.refl _ _, Or.inl ⟨rfl, rfl⟩⟩
  case round =>
    obtain ⟨hq, hrel⟩ := hrel
    have HQ := Lib.hid hq
    rcases hrel with ⟨rfl, rfl⟩ | ⟨b, cap, rfl, rfl, hb, hcell⟩
    · have hg2 := hq.cell HG.out (fun x => x)
      have lg := cell_lt hg2
      dsimp only at lg
      have HRD := Lib.hid (Rd.new wr 1 1 [ptrV tb] 193 (fun _ => True) rfl trivial)
      have HOWN := Lib.hid (World.ownsRow_nil (wr.alloc (.cells [ptrV tb].toArray 193)) 0 193 1)
      clear hq
      go_wp2_with (at_builtin; refine app elem_pent rfl (.tmp 17) (.tmp 21) rfl rfl HOWN.out rfl HRD.out (one_entP tb) (by unfold maxLen; omega) (by omega) ?_)
      intro v4 w4 hg4
      obtain ⟨b4, cap4, rfl, q4, l4, c4⟩ := entsOne_done HQ.out hg4
      have HO4 := Lib.hid (And.intro q4 (And.intro l4 c4))
      clear hg4 q4 l4 c4 HRD HOWN hg2
      go_wp2
      go_roundw
      case rel => exact ⟨HO4.out.1, Or.inr ⟨b4, cap4, rfl, rfl, HO4.out.2.1, HO4.out.2.2⟩⟩
      case measure => simp [intOf]
    · have HO := Lib.hid (And.intro hb hcell)
      have hbx := hq.get HB.out (fun x => x)
      have d1 : wr.cell? ⟨bb, 1, none⟩ = some (.slice A' 0 c') := by rw [cell_of hbx]; rfl
      have lbb2 := cell_lt d1
      dsimp only at lbb2
      clear hq hb hcell hbx c0 c1 lbb
      go_wp2
      go_loopw [29, 3, 7] (fun i v _ wr2 => wr2 = wr ∧ i = .int .i64 0 ∧ v = .slice (some ⟨b, 0, none⟩) 1 cap) (fun _ _ _ _ => 0)
      case atStart => exact ⟨rfl, rfl, rfl⟩
      case round =>
        obtain ⟨rfl, rfl, rfl⟩ := hrel
        have HEND : Hid (POST (.returned (.slice (some ⟨b, 0, none⟩) 1 cap)) wr) := by
          rw [← HPOST.out]
          exact ⟨b, cap, rfl, HQ.out, HO.out.1, HO.out.2⟩
        go_wp2
        exact HEND.out

set_option maxHeartbeats 2000000 in
set_option maxRecDepth 100000 in
/-- Another name is not taken. -/
theorem taken_one {w : World} {F : Nat → Prop} {bb lb last c tb : Nat} {A : Option Addr} {s : Snap} {t : TE} {name : ByteArray} {vT vI : Value} (h : BookRow w F bb [t] vT [tb] vI [] last) (hne : (t.name.toList == name.toList) = false) :
    Calls Tryz.prog 52 #[.pointer (some ⟨bb, 0, none⟩), .pointer (some ⟨lb, 0, none⟩), snapV s A c, .string name] w fun e w' => e = .returned (.int .i64 0) ∧ Quiet w w' := by
  have HQ0 : Hid (Quiet w (w.alloc (.cells (snapCells s A c) 70))) := (Only.refl _ _).alloc _
  have HE := Lib.hid (entries_one (h.kept HQ0.out (fun _ _ x => x)))
  obtain ⟨tb', htp, hta⟩ := h.tbl 0 t rfl
  obtain rfl : tb = tb' := by simpa using htp
  have HTA := Lib.hid hta
  obtain ⟨POST, hPOST⟩ : ∃ POST : Ending → World → Prop, (fun e w' => e = .returned (.int .i64 0) ∧ Quiet w w') = POST := ⟨_, rfl⟩
  rw [hPOST]
  have HPOST := Lib.hid hPOST
  unfold snapV
  clear h hPOST htp hta
  go_enter Tryz.func52, Tryz.ntmps52
  go_wp2_with fail
  refine HE.out.mono ?_
  rintro e w1 ⟨b, cap, rfl, hq1, hb1, hc1⟩
  have HQ1 := Lib.hid (HQ0.out.trans hq1)
  have HC1 := Lib.hid hc1
  clear HE hq1 hb1 hc1
  go_wp2
  go_loopw [15, 9, 11, 17, 18, 19, 20, 21, 22, 23, 24, 25] (fun i cd _ _ _ _ _ _ _ _ _ _ wr => Quiet w1 wr ∧ cd = .int .i64 0 ∧ (i = .int .i64 0 ∨ i = .int .i64 1)) (fun i _ _ _ _ _ _ _ _ _ _ _ _ => 1 - (intOf i).toNat)
  case atStart => exact ⟨Only.refl _ _, rfl, Or.inl rfl⟩
  case round =>
    obtain ⟨hq, rfl, hrel⟩ := hrel
    have HQ := Lib.hid hq
    rcases hrel with rfl | rfl
    · have k0 := hq.cell HC1.out (fun x => x)
      have lg := cell_lt k0
      dsimp only at lg
      have k1 := (HTA.out.kept (HQ1.out.trans hq) (fun _ _ x => x)).ent.c1
      clear hq
      go_wp2
      go_roundw
      case rel => exact ⟨HQ.out, rfl, Or.inr rfl⟩
      case measure => simp [intOf]
    · have HEND : Hid (POST (.returned (.int .i64 0)) wr) := by
        rw [← HPOST.out]
        exact ⟨rfl, HQ1.out.trans HQ.out⟩
      clear hq
      go_wp2
      exact HEND.out

end Go.Proofs.YtmkaomglecfmfaaGreatDoor

namespace Go.Proofs.YtmkaomglecfmfaaGreatDoor
open Go.RowKit Go.Lap

set_option maxHeartbeats 400000 in
set_option maxRecDepth 100000 in
theorem col_named {w : World} {cb kd : Nat} {nm : ByteArray} (hc : w.cell? ⟨cb, 0, none⟩ = some (.string nm)) :
    Calls Tryz.prog 58 #[.agg #[.string nm, .int .u8 (kd : Int)], ptrV cb] w (BoolQ w true) := by
  have hl := cell_lt hc
  dsimp only at hl
  have hne : ¬ cb = w.heap.size := by omega
  go_enter Tryz.func58, Tryz.ntmps58
  go_wp2
  go_ret
  exact ⟨rfl, (Only.refl _ _).alloc _⟩

set_option maxHeartbeats 400000 in
set_option maxRecDepth 100000 in
theorem index_col {w : World} {S : Nat → Prop} {A : Option Addr} {c kd cb : Nat} {nm : ByteArray} (hr : Rd w S 2 A 1 (colsV [(nm, kd)])) (hc : 1 ≤ c) (hm : c ≤ maxLen) (hcb : w.cell? ⟨cb, 0, none⟩ = some (.string nm)) :
    Calls Tryz.prog 57 #[.slice A 1 c, .func (.func 58) #[] #[ptrV cb]] w fun e w' => e = .returned (.int .i64 0) ∧ Quiet w w' := by
  obtain ⟨b, off, rfl, _, hcs⟩ := hr.at_ (k := 0) (by omega) (by omega)
  obtain ⟨u0, h0, c0⟩ := hcs 0 (by omega)
  obtain ⟨u1, h1, c1⟩ := hcs 1 (by omega)
  obtain rfl : Value.string nm = u0 := Option.some.inj h0
  obtain rfl : Value.int .u8 (kd : Int) = u1 := Option.some.inj h1
  simp only [Nat.zero_mul, Nat.add_zero, Nat.zero_add] at c0 c1
  have HC := Lib.hid hcb
  have hb := cell_lt c0
  dsimp only at hb
  unfold maxLen at hm
  clear hr hcs h0 h1 hcb
  go_enter Tryz.func57, Tryz.ntmps57
  go_wp2
  refine wp_loop_rounds 2 ?_
  rw [rounds_succ]
  go_wp2_with fail
  refine (col_named (kd := kd) HC.out).mono ?_
  rintro e w1 ⟨rfl, hq1⟩
  have HQ1 := Lib.hid hq1
  clear hq1
  go_wp2
  go_ret
  exact ⟨rfl, HQ1.out⟩

/-- The first index's row. -/
theorem BookRow.indexed {w5 w7 : World} {F : Nat → Prop} {bb last tb : Nat} {vT vI v7 : Value} {t : TE} {e : IE} (h : BookRow w5 F bb [t] vT [tb] vI [] last)
    (hn : U64 e.id ∧ U64 e.xmin ∧ U64 e.xmax ∧ U64 e.table ∧ e.column < 8)
    (hg : Grew ((w5.alloc (.cells #[.int .u64 (e.id : Int), .string e.name, .int .u64 (e.xmin : Int), .int .u64 (e.xmax : Int), .int .u64 (e.table : Int), .int .i64 (e.column : Int)] 148)).alloc (.cells #[ptrV w5.heap.size] 146)) w7 146 1 vI v7 1 [ptrV w5.heap.size]) :
    BookIs (w7.setCell ⟨bb, 1, none⟩ v7) (fun k => F k ∨ w5.heap.size ≤ k) bb [t] [e] last ∧ Only F w5 (w7.setCell ⟨bb, 1, none⟩ v7) ∧ IdxAt (w7.setCell ⟨bb, 1, none⟩ v7) (fun k => F k ∨ w5.heap.size ≤ k) w5.heap.size e := by
  have hvi : ∀ k, vI.ownBlock = some k → F k ∧ k < w5.heap.size ∧ k ≠ bb ∧ ∃ c, w5.heap[k]? = some (.cells c 146 (0, 0)) := fun k e => by
    obtain ⟨c, hh⟩ := own_blk h.rowI e
    exact ⟨h.foot.2.2 k e, lt_of_get hh, (ne_type h.box hh (by decide)).symm, c, hh⟩
  have hvt : ∀ k, vT.ownBlock = some k → k < w5.heap.size ∧ k ≠ bb ∧ vI.ownBlock ≠ some k := fun k e => by
    obtain ⟨c, hh⟩ := own_blk h.rowT e
    refine ⟨lt_of_get hh, (ne_type h.box hh (by decide)).symm, fun x => ?_⟩
    obtain ⟨_, _, _, c', hh'⟩ := hvi k x
    exact absurd rfl (ne_type hh hh' (by decide))
  have hl := lt_of_get h.box
  have hq : Quiet w5 ((w5.alloc (.cells #[.int .u64 (e.id : Int), .string e.name, .int .u64 (e.xmin : Int), .int .u64 (e.xmax : Int), .int .u64 (e.table : Int), .int .i64 (e.column : Int)] 148)).alloc (.cells #[ptrV w5.heap.size] 146)) := ((Only.refl _ _).alloc _).alloc _
  have b4 := hg.only.get (hq.get h.box (fun x => x)) (fun e => (hvi bb e).2.2.1 rfl)
  have hx7 := hg.only.get (alloc_old (alloc_new w5 (.cells #[.int .u64 (e.id : Int), .string e.name, .int .u64 (e.xmin : Int), .int .u64 (e.xmax : Int), .int .u64 (e.table : Int), .int .i64 (e.column : Int)] 148)) (.cells #[ptrV w5.heap.size] 146)) (fun e => by have := (hvi _ e).2.1; omega)
  have ho : Only (· = bb) w7 (w7.setCell ⟨bb, 1, none⟩ v7) := (Only.refl (· = bb) w7).setCell (p := ⟨bb, 1, none⟩) (fun _ => rfl) v7
  have hne : ¬ w5.heap.size = bb := by omega
  have hv7 : ∀ k, v7.ownBlock = some k → (F k ∨ w5.heap.size ≤ k) ∧ k ≠ bb := fun k e => by
    rcases hg.loc with x | x
    · rw [x] at e; exact ⟨Or.inl (hvi k e).1, (hvi k e).2.2.1⟩
    · rw [x] at e; injection e with e; simp only [World.size_alloc] at e; exact ⟨Or.inr (by omega), by omega⟩
  have xb := ho.get hx7 hne
  have hIX : IdxAt (w7.setCell ⟨bb, 1, none⟩ v7) (fun k => F k ∨ w5.heap.size ≤ k) w5.heap.size e := ⟨xb, Or.inr (Nat.le_refl _), hn⟩
  refine ⟨⟨vT, [tb], v7, [w5.heap.size], ⟨?_, ?_, ?_, ?_, ⟨Or.inl h.foot.1, fun k e => Or.inl (h.foot.2.1 k e), fun k e => (hv7 k e).1⟩, h.num⟩, rfl, ?_⟩, ?_, hIX⟩
  · rw [set_same b4]; rfl
  · exact owns_kept (owns_kept (owns_kept h.rowT hq (fun _ _ x => x)) hg.only (fun k e x => (hvt k e).2.2 x)) ho (fun k e x => (hvt k e).2.1 x)
  · exact owns_kept hg.own ho (fun k e x => (hv7 k e).2 x)
  · intro i t' hi
    rcases i with _ | i
    · simp at hi
      subst hi
      obtain ⟨p, hp, ht⟩ := h.tbl 0 t rfl
      obtain rfl : tb = p := by simpa using hp
      obtain ⟨A', c', t1, t2⟩ := ht.typ
      obtain ⟨A, c, hb, hr, hc⟩ := ht.ex
      have e0 := hb.symm.trans t1
      injection e0 with e0
      injection e0 with e0 _ _
      injection e0 with e0
      injection e0 with _ e0
      injection e0 with _ e0
      injection e0 with _ e0
      injection e0 with _ e0
      injection e0 with e0 _
      injection e0 with eA _ eC
      subst eA eC
      have g1 : tb ≠ bb := ne_type hb h.box (by decide)
      have g2 : ∀ k, vI.ownBlock = some k → tb ≠ k := fun k e => by
        obtain ⟨_, _, _, c', hh'⟩ := hvi k e
        exact ne_type hb hh' (by decide)
      have k1 : ∀ g, (Value.slice A t.cols.length c).ownBlock = some g → g ≠ bb ∧ vI.ownBlock ≠ some g := fun g e => by
        obtain ⟨cur, hh⟩ := (t2 g e).2
        refine ⟨ne_type hh h.box (by decide), fun x => ?_⟩
        obtain ⟨_, _, _, c', hh'⟩ := hvi g x
        exact absurd rfl (ne_type hh hh' (by decide))
      have tow : ∀ k x, w5.heap[k]? = some x → k ≠ bb → vI.ownBlock ≠ some k → (w7.setCell ⟨bb, 1, none⟩ v7).heap[k]? = some x := fun k x hx a b => ho.get (hg.only.get (hq.get hx (fun x => x)) b) a
      have hb7 := tow _ _ hb g1 (fun x => g2 _ x rfl)
      refine ⟨tb, rfl, ⟨A, c, hb7, ⟨hr.len, fun h0 => ?_⟩, hc⟩, Or.inl ht.own, ht.pos, ht.num, A, c, hb7, fun g e => ⟨Or.inl (t2 g e).1, by obtain ⟨cur, hh⟩ := (t2 g e).2; exact ⟨cur, tow _ _ hh (k1 g e).1 (k1 g e).2⟩⟩⟩
      obtain ⟨b, off, e1, hb1, hcell⟩ := hr.cells h0
      subst e1
      refine ⟨b, off, rfl, Or.inl hb1, fun j u hu => ?_⟩
      have k2 := k1 b rfl
      exact ho.cell (hg.only.cell (hq.cell (hcell j u hu) (fun x => x)) k2.2) k2.1
    · simp at hi
  · intro i e' hi
    rcases i with _ | i
    · simp at hi
      subst hi
      exact ⟨w5.heap.size, rfl, hIX⟩
    · simp at hi
  · exact ((hq.mono (T := F) (fun _ _ x => x.elim)).trans' hg.only (fun k _ e => (hvi k e).1)).trans' ho (fun k _ e => by subst e; exact h.foot.1)

theorem elem_pix : Elem Tryz.prog 123 146 1 8 := Elem.mk' (.pointer none) Tryz.underlying123 (by kernel_rfl) rfl (by decide)

/-- What CreateIndex leaves of a book. -/
def IndexPost (w : World) (F : Nat → Prop) (bb last : Nat) (t : TE) (x : IE) (e : Ending) (w' : World) : Prop :=
  e = .returned (.tuple #[.agg (idxE x).toArray, .int .i64 0]) ∧ Only F w w' ∧ BookIs w' (fun k => F k ∨ w.heap.size ≤ k) bb [t] [x] (last + 1)

theorem three_alloc (w : World) (o1 o2 o3 : Obj) : Quiet w (((w.alloc o1).alloc o2).alloc o3) ∧ (((w.alloc o1).alloc o2).alloc o3).heap[w.heap.size]? = some o1 ∧ (((w.alloc o1).alloc o2).alloc o3).heap[w.heap.size + 1]? = some o2 ∧ (((w.alloc o1).alloc o2).alloc o3).heap[w.heap.size + 1 + 1]? = some o3 := by
  have h2 := alloc_new (w.alloc o1) o2
  have h3 := alloc_new ((w.alloc o1).alloc o2) o3
  simp only [World.size_alloc] at h2 h3
  exact ⟨(((Only.refl _ _).alloc _).alloc _).alloc _, alloc_old (alloc_old (alloc_new w o1) o2) o3, alloc_old h2 o3, h3⟩

set_option maxHeartbeats 4000000 in
set_option maxRecDepth 100000 in
theorem book_index {w : World} {F Fl Ss : Nat → Prop} {bb lb last c kd : Nat} {A : Option Addr} {L : List Nat} {s : Snap} {t : TE} {name of_ nm : ByteArray} (h : BookIs w F bb [t] [] last) (hl : LogAt w Fl lb L) (hs : SnapV w Ss A c s) (hlast : last < 1000000)
    (hc : t.cols = [(nm, kd)]) (hf : findT L s of_ [t] = some 0) (hnm : Small name) (hne : (t.name.toList == name.toList) = false) (hid : U64 t.id) (hu : U64 s.own) (hF : ∀ k, F k → k < w.heap.size) :
    Calls Tryz.prog 26 #[ptrV bb, ptrV lb, snapV s A c, .string name, .string of_, .string nm] w (IndexPost w F bb last t ⟨last + 1, name, t.id, 0, s.own, 0⟩) := by
  obtain ⟨vT, tps, vI, ips, hrow, hi0, _⟩ := h
  have hips : ips = [] := List.eq_nil_of_length_eq_zero hi0
  subst hips
  obtain ⟨tb, htp, _⟩ := hrow.tbl 0 t rfl
  obtain rfl : tps = [tb] := by
    have := hrow.tlen
    rcases tps with _ | ⟨a, _ | _⟩
    · cases this
    · simp at htp; rw [htp]
    · cases this
  have HROW := Lib.hid hrow
  have HLOG := Lib.hid hl
  have HSN := Lib.hid hs
  have HC := Lib.hid hc
  have HF := Lib.hid hf
  have HNUM := Lib.hid (And.intro hid hu)
  have HNM : Hid (∀ W, Calls Tryz.prog 50 #[.string name] W (BoolQ W true)) := fun W => book_name name hnm W
  have HNE := Lib.hid hne
  have HFW := Lib.hid hF
  obtain ⟨hq3, hb8, hb11, hb12⟩ := three_alloc w (.cells (snapCells s A c) 70) (.cells #[.string nm] 9) (.cells #[.int .u64 0, .string ⟨#[]⟩, .int .u64 0, .int .i64 0, .int .u64 0, .int .u64 0] 80)
  obtain ⟨r8, hr8⟩ : ∃ r8, w.heap.size = r8 := ⟨_, rfl⟩
  obtain ⟨r11, hr11⟩ : ∃ r11, r8 + 1 = r11 := ⟨_, rfl⟩
  obtain ⟨r12, hr12⟩ : ∃ r12, r11 + 1 = r12 := ⟨_, rfl⟩
  rw [hr8] at hb8 hb11 hb12
  rw [hr11] at hb11 hb12
  rw [hr12] at hb12
  have HR := Lib.hid (And.intro hr8 (And.intro hr11 hr12))
  obtain ⟨POST, hPOST⟩ : ∃ POST, IndexPost w F bb last t ⟨last + 1, name, t.id, 0, s.own, 0⟩ = POST := ⟨_, rfl⟩
  rw [hPOST]
  have HPOST := Lib.hid hPOST
  unfold snapV
  clear hrow hl hs hc hf hnm hne hid hu hi0 htp hPOST hF
  go_enter Tryz.func26, Tryz.ntmps26
  go_wp2_with fail
  (try simp only [World.size_alloc] at *)
  (try rw [hr8]); (try rw [hr11]); (try rw [hr12])
  generalize ((w.alloc (.cells (snapCells s A c) 70)).alloc (.cells #[.string nm] 9)).alloc (.cells #[.int .u64 0, .string ⟨#[]⟩, .int .u64 0, .int .i64 0, .int .u64 0, .int .u64 0] 80) = w0 at *
  have HQ0 := Lib.hid hq3
  have HB0 := Lib.hid (And.intro hb8 (And.intro hb11 hb12))
  clear hq3 hb8 hb11 hb12 hr8 hr11 hr12
  refine (HNM.out _).mono ?_
  rintro e w1 ⟨rfl, hq1⟩
  have HQ1 := Lib.hid (HQ0.out.trans hq1)
  have HQ01 := Lib.hid hq1
  obtain ⟨s0, s1, s2, s3⟩ := snapBox_cells (hq1.get HB0.out.1 (fun x => x))
  have HTB : Hid (Calls Tryz.prog 56 #[.pointer (some ⟨bb, 0, none⟩), .pointer (some ⟨lb, 0, none⟩), snapV s A c, .string of_] w1 (TabPost w1 [tb] (findT L s of_ [t]))) := book_table of_ (HROW.out.kept HQ1.out (fun _ _ x => x)) (HLOG.out.kept HQ1.out (fun _ _ x => x)) (HSN.out.kept HQ1.out (fun _ _ x => x))
  rw [HF.out] at HTB
  unfold snapV at HTB
  clear hq1 HNM
  go_wp2_with fail
  refine HTB.out.mono ?_
  rintro e w2 ⟨⟨p, hp, rfl⟩, hq2⟩
  obtain rfl : tb = p := by simpa using hp
  have HQ2 := Lib.hid (HQ1.out.trans hq2)
  have HQ02 := Lib.hid (HQ01.out.trans hq2)
  obtain ⟨_, htp2, hta⟩ := (HROW.out.kept HQ2.out (fun _ _ x => x)).tbl 0 t rfl
  obtain rfl : tb = _ := by simpa using htp2
  obtain ⟨AT, cT, hbt, hrt, hct, hmt⟩ := hta.ex
  have ct4 : w2.cell? ⟨tb, 4, none⟩ = some (.slice AT t.cols.length cT) := by rw [cell_of hbt]; rfl
  have lt4 := cell_lt ct4
  dsimp only at lt4
  have cc : w2.cell? ⟨r11, 0, none⟩ = some (.string nm) := by rw [cell_of (HQ02.out.get HB0.out.2.1 (fun x => x))]; rfl
  have HIX : Hid (Calls Tryz.prog 57 #[.slice AT t.cols.length cT, .func (.func 58) #[] #[ptrV r11]] w2 fun e w' => e = .returned (.int .i64 0) ∧ Quiet w2 w') := by
    rw [HC.out] at hrt hct ⊢
    exact index_col (kd := kd) hrt hct hmt cc
  clear s0 s1 s2 s3 hp hq2 htp2 hta hbt hrt hct hmt cc HTB
  go_wp2_with fail
  refine HIX.out.mono ?_
  rintro e w3 ⟨rfl, hq3⟩
  have HQ3 := Lib.hid (HQ2.out.trans hq3)
  have HQ03 := Lib.hid (HQ02.out.trans hq3)
  obtain ⟨s0, s1, s2, s3⟩ := snapBox_cells (HQ03.out.get HB0.out.1 (fun x => x))
  have HTK : Hid (Calls Tryz.prog 52 #[.pointer (some ⟨bb, 0, none⟩), .pointer (some ⟨lb, 0, none⟩), snapV s A c, .string name] w3 fun e w' => e = .returned (.int .i64 0) ∧ Quiet w3 w') := taken_one (HROW.out.kept HQ3.out (fun _ _ x => x)) HNE.out
  unfold snapV at HTK
  clear ct4 lt4 hq3 HIX
  go_wp2_with fail
  refine HTK.out.mono ?_
  rintro e w4 ⟨rfl, hq4⟩
  have HQ4 := Lib.hid (HQ3.out.trans hq4)
  have HQ04 := Lib.hid (HQ03.out.trans hq4)
  have hrow4 := HROW.out.kept HQ4.out (fun _ _ x => x)
  obtain ⟨_, k1, _⟩ := hrow4.cells
  obtain ⟨AI, cI, hvI, hcI, hmI, _⟩ := ptr_form hrow4.rowI
  subst hvI
  have lbb := cell_lt k1
  dsimp only at lbb
  have hb8 := HQ04.out.get HB0.out.1 (fun x => x)
  obtain ⟨_, htp4, hta4⟩ := hrow4.tbl 0 t rfl
  obtain rfl : tb = _ := by simpa using htp4
  obtain ⟨AT4, cT4, hbt4, _⟩ := hta4.ex
  have hne8 : r8 ≠ bb := fun e => by have := HR.out.1; have := lt_of_get HROW.out.box; omega
  have hnet : tb ≠ bb := ne_type hbt4 hrow4.box (by decide)
  have HS16 : Hid (∀ W, Only (· = bb) w4 W → (fun w' => w'.cell? ⟨r8, 0, none⟩ = some (.int .u64 (s.own : Int)) ∧ w'.cell? ⟨r8, 1, none⟩ = some (.int .u64 (s.xmin : Int)) ∧ w'.cell? ⟨r8, 2, none⟩ = some (.int .u64 (s.xmax : Int)) ∧ w'.cell? ⟨r8, 3, none⟩ = some (.slice A s.run.length c) ∧ w'.cell? ⟨tb, 0, none⟩ = some (.int .u64 (t.id : Int))) W) := fun W ho => by
    obtain ⟨s0, s1, s2, s3⟩ := snapBox_cells (ho.get hb8 hne8)
    exact ⟨s0, s1, s2, s3, by rw [cell_of (ho.get hbt4 hnet)]; rfl⟩
  have HFR : Hid (∀ W, Quiet w4 W → Calls Tryz.prog 53 #[.pointer (some ⟨bb, 0, none⟩), .agg #[.int .u64 (s.own : Int), .int .u64 (s.xmin : Int), .int .u64 (s.xmax : Int), .slice A s.run.length c], .string name] W (FreshEPost W F bb [t] vT [tb] (.slice AI 0 cI) [] last s.own name)) := fun W hq => book_fresh (hrow4.kept hq (fun _ _ x => x)) hlast
  clear s0 s1 s2 s3 hq4 hrow4 htp4 hta4 hb8 hbt4 HTK hcI
  unfold maxLen at hmI
  go_wp2_with fail
  refine wp_region_held_drew (S := (fun w' => w'.cell? ⟨r8, 0, none⟩ = some (.int .u64 (s.own : Int)) ∧ w'.cell? ⟨r8, 1, none⟩ = some (.int .u64 (s.xmin : Int)) ∧ w'.cell? ⟨r8, 2, none⟩ = some (.int .u64 (s.xmax : Int)) ∧ w'.cell? ⟨r8, 3, none⟩ = some (.slice A s.run.length c) ∧ w'.cell? ⟨tb, 0, none⟩ = some (.int .u64 (t.id : Int)))) (by kernel_rfl) (HS16.out _ ((Only.refl _ _).drew)) (fun hHeld => ?_)
  simp only [List.size_toArray, List.length_cons, List.length_nil, Nat.reduceAdd]
  have q0 : Quiet w4 w4.drew := (Only.refl _ _).drew
  generalize w4.drew = d0 at q0 hHeld ⊢
  (refine zTK 0 (oi := ?_) (v := ?_) ?_ ?_ (Or.inl ⟨?_, ?_⟩) ?_; rotate_left 2; (focus (simp only [zGA, zGZ, zGS] <;> rfl)); (focus (exact fun _ _ _ h => h)); (focus rfl); (focus (intro w hSw; (try dsimp only at hSw); go_simp; (try with_reducible rfl); done)); (try simp only [Act.put, zPA, zPZ, zPS]))
  (refine zTK 1 (oi := ?_) (v := ?_) ?_ ?_ (Or.inl ⟨?_, ?_⟩) ?_; rotate_left 2; (focus (simp only [zGA, zGZ, zGS] <;> rfl)); (focus (exact fun _ _ _ h => h)); (focus rfl); (focus (intro w hSw; (try dsimp only at hSw); go_simp; (try with_reducible rfl); done)); (try simp only [Act.put, zPA, zPZ, zPS]))
  (refine zTK 2 (oi := ?_) (v := ?_) ?_ ?_ (Or.inl ⟨?_, ?_⟩) ?_; rotate_left 2; (focus (simp only [zGA, zGZ, zGS] <;> rfl)); (focus (exact fun _ _ _ h => h)); (focus rfl); (focus (intro w hSw; (try dsimp only at hSw); go_simp; (try with_reducible rfl); done)); (try simp only [Act.put, zPA, zPZ, zPS]))
  (refine zTK 4 (oi := ?_) (v := ?_) ?_ ?_ (Or.inl ⟨?_, ?_⟩) ?_; rotate_left 2; (focus (simp only [zGA, zGZ, zGS] <;> rfl)); (focus (exact fun _ _ _ h => h)); (focus rfl); (focus (intro w hSw; (try dsimp only at hSw); go_simp; (try with_reducible rfl); done)); (try simp only [Act.put, zPA, zPZ, zPS]))
  (refine zTK 5 (oi := ?_) (v := ?_) ?_ ?_ (Or.inl ⟨?_, ?_⟩) ?_; rotate_left 2; (focus (simp only [zGA, zGZ, zGS] <;> rfl)); (focus (exact fun _ _ _ h => h)); (focus rfl); (focus (intro w hSw; (try dsimp only at hSw); go_simp; (try with_reducible rfl); done)); (try simp only [Act.put, zPA, zPZ, zPS]))
  (refine zTK 6 (oi := ?_) (v := ?_) ?_ ?_ (Or.inl ⟨?_, ?_⟩) ?_; rotate_left 2; (focus (simp only [zGA, zGZ, zGS] <;> rfl)); (focus (exact fun _ _ _ h => h)); (focus rfl); (focus (intro w hSw; (try dsimp only at hSw); go_simp; (try with_reducible rfl); done)); (try simp only [Act.put, zPA, zPZ, zPS]))
  (refine zTK 7 (oi := ?_) (v := ?_) ?_ ?_ (Or.inl ⟨?_, ?_⟩) ?_; rotate_left 2; (focus (simp only [zGA, zGZ, zGS] <;> rfl)); (focus (exact fun _ _ _ h => h)); (focus rfl); (focus (intro w hSw; (try dsimp only at hSw); go_simp; (try with_reducible rfl); done)); (try simp only [Act.put, zPA, zPZ, zPS]))
  (refine zTK 8 (oi := ?_) (v := ?_) ?_ ?_ (Or.inl ⟨?_, ?_⟩) ?_; rotate_left 2; (focus (simp only [zGA, zGZ, zGS] <;> rfl)); (focus (exact fun _ _ _ h => h)); (focus rfl); (focus (intro w hSw; (try dsimp only at hSw); go_simp; (try with_reducible rfl); done)); (try simp only [Act.put, zPA, zPZ, zPS]))
  (refine zTK 9 (oi := ?_) (v := ?_) ?_ ?_ (Or.inl ⟨?_, ?_⟩) ?_; rotate_left 2; (focus (simp only [zGA, zGZ, zGS] <;> rfl)); (focus (exact fun _ _ _ h => h)); (focus rfl); (focus (intro w hSw; (try dsimp only at hSw); go_simp; (try with_reducible rfl); done)); (try simp only [Act.put, zPA, zPZ, zPS]))
  refine wpAnyH_ready (rs := [3]) (by kernel_rfl) (by simp) ?_
  refine AllReadyH.cons (o := ?_) ?_ ?_ AllReadyH.nil
  rotate_left 1
  (focus (simp only [zGA, zGZ, zGS] <;> rfl))
  intro K hK
  go_simp
  go_at_call 53
  refine (HFR.out _ q0).mono ?_
  rintro e d1 ⟨rfl, ho1, hr1⟩
  dsimp only
  refine hK.out _ _ ?_ (fun hHeld => ?_)
  · exact HS16.out _ ((q0.mono (fun _ _ x => x.elim)).trans ho1)
  clear hK K
  (try simp only [Act.put, zPA, zPZ, zPS])
  (refine zTK 10 (oi := ?_) (v := ?_) ?_ ?_ (Or.inl ⟨?_, ?_⟩) ?_; rotate_left 2; (focus (simp only [zGA, zGZ, zGS] <;> rfl)); (focus (exact fun _ _ _ h => h)); (focus rfl); (focus (intro w hSw; (try dsimp only at hSw); go_simp; (try with_reducible rfl); done)); (try simp only [Act.put, zPA, zPZ, zPS]))
  refine wpAnyH_ready (rs := [11]) (by kernel_rfl) (by simp) ?_
  refine AllReadyH.cons (o := ?_) ?_ ?_ AllReadyH.nil
  rotate_left 1
  (focus (simp only [zGA, zGZ, zGS] <;> rfl))
  intro K hK
  go_simp
  refine hK.out _ _ ?_ (fun hHeld => ?_)
  · exact HS16.out _ (((q0.mono (fun _ _ x => x.elim)).trans ho1).alloc _)
  clear hK K
  (try simp only [Act.put, zPA, zPZ, zPS])
  (refine zTK 12 (oi := ?_) (v := ?_) ?_ ?_ (Or.inl ⟨?_, ?_⟩) ?_; rotate_left 2; (focus (simp only [zGA, zGZ, zGS] <;> rfl)); (focus (exact fun _ _ _ h => h)); (focus rfl); (focus (intro w hSw; (try dsimp only at hSw); go_simp; (try with_reducible rfl); done)); (try simp only [Act.put, zPA, zPZ, zPS]))
  refine wpAnyH_done (by kernel_rfl) ?_ _
  obtain ⟨_, k1, _⟩ := hr1.cells
  have HOWN : Hid (World.ownsRow ((d1.alloc (.cells #[.int .u64 ((last : Int) + 1), .string name, .int .u64 (s.own : Int), .int .u64 0, .int .u64 (t.id : Int), .int .i64 0] 148)).alloc (.cells #[ptrV d1.heap.size] 146)) 0 146 1 (.slice AI 0 cI) 0 []) := owns_kept hr1.rowI (((Only.refl (fun _ => False) d1).alloc _).alloc _) (fun _ _ x => x)
  have HRD : Hid (Rd ((d1.alloc (.cells #[.int .u64 ((last : Int) + 1), .string name, .int .u64 (s.own : Int), .int .u64 0, .int .u64 (t.id : Int), .int .i64 0] 148)).alloc (.cells #[ptrV d1.heap.size] 146)) (fun _ => True) 1 (some ⟨d1.heap.size + 1, 0, none⟩) 1 [ptrV d1.heap.size]) := by
    have := Rd.one (d1.alloc (.cells #[.int .u64 ((last : Int) + 1), .string name, .int .u64 (s.own : Int), .int .u64 0, .int .u64 (t.id : Int), .int .i64 0] 148)) (ptrV d1.heap.size) 146 (0, 0) (S := fun _ => True) trivial
    rw [World.size_alloc] at this
    exact this
  have HQD : Hid (Only (· = bb) w4 d1) := (q0.mono (fun _ _ x => x.elim)).trans ho1
  have hr12 : r12 ≠ bb := fun e => by have := HR.out; have := lt_of_get HROW.out.box; omega
  have hb12 := HQD.out.get (HQ04.out.get HB0.out.2.2 (fun x => x)) hr12
  have HR1 := Lib.hid hr1
  have HB12 := Lib.hid (And.intro hb12 hr12)
  have lb1 := lt_of_get hr1.box
  have hbx1 : ¬ bb = d1.heap.size := by omega
  have hbx2 : ¬ bb = d1.heap.size + 1 := by omega
  clear hHeld q0 ho1 hr1 hb12 hr12 HS16 HFR hne8 hnet k1
  obtain ⟨_, k1, _⟩ := HR1.out.cells
  have kf := fun o => frozen_of HR1.out.box o
  go_wp2_with (at_builtin; refine app elem_pix rfl (.tmp 76) (.tmp 78) rfl rfl HOWN.out rfl HRD.out (one_ptr [d1.heap.size]) (by unfold maxLen; omega) (by omega) ?_)
  intro v7 w7 hg7
  obtain ⟨A7, c7, hv7, _, _, _⟩ := own_form hg7.own
  subst hv7
  have HFI := Lib.hid (HR1.out.indexed (e := ⟨last + 1, name, t.id, 0, s.own, 0⟩) ⟨by show last + 1 < 18446744073709551616; omega, HNUM.out.2, by show 0 < 18446744073709551616; omega, HNUM.out.1, by show 0 < 8; omega⟩ hg7)
  have hqa : Quiet d1 ((d1.alloc (.cells #[.int .u64 ((last : Int) + 1), .string name, .int .u64 (s.own : Int), .int .u64 0, .int .u64 (t.id : Int), .int .i64 0] 148)).alloc (.cells #[ptrV d1.heap.size] 146)) := ((Only.refl _ _).alloc _).alloc _
  have b7 := hg7.only.get (hqa.get HR1.out.box (fun x => x)) (fun e => by
    obtain ⟨c, hh⟩ := own_blk HR1.out.rowI e
    exact absurd rfl (ne_type HR1.out.box hh (by decide)))
  have r7 := hg7.only.get (hqa.get HB12.out.1 (fun x => x)) (fun e => by
    obtain ⟨c, hh⟩ := own_blk HR1.out.rowI e
    exact absurd rfl (ne_type HB12.out.1 hh (by decide)))
  have r8_ := ((Only.refl (· = bb) w7).setCell (p := ⟨bb, 1, none⟩) (fun _ => rfl) (.slice A7 (0 + 1) c7)).get r7 HB12.out.2
  have HB8 := Lib.hid r8_
  have s1 := cell_of b7 1
  have sf := fun o => frozen_of b7 o
  simp only [zGA, zGS, zGZ] at s1
  have lb7 := lt_of_get b7
  have HTO := Lib.hid (index_told HFI.out.2.2)
  clear hg7 hqa b7 r7 r8_ HOWN HRD k1 kf hbx1 hbx2
  simp only [Nat.zero_add] at HFI HB8 HTO
  go_wp2_with fail
  (try simp only [Nat.zero_add])
  refine HTO.out.mono ?_
  rintro e w9 ⟨rfl, hq9⟩
  have hb9 := hq9.get HB8.out (fun x => x)
  have z0 := cell_of hb9 0
  have z1 := cell_of hb9 1
  have z2 := cell_of hb9 2
  have z3 := cell_of hb9 3
  have z4 := cell_of hb9 4
  have z5 := cell_of hb9 5
  have zf := fun o => frozen_of hb9 o
  simp only [zGA, zGS, zGZ] at z0 z1 z2 z3 z4 z5
  have HX := Lib.hid (sixSet_same hb9 (.int .u64 ((last : Int) + 1)) (.string name) (.int .u64 (t.id : Int)) (.int .i64 0) (.int .u64 (s.own : Int)) (.int .u64 0))
  have HEND : Hid (POST (.returned (.tuple #[.agg #[.int .u64 ((last : Int) + 1), .string name, .int .u64 (t.id : Int), .int .i64 0, .int .u64 (s.own : Int), .int .u64 0], .int .i64 0])) (sixSet w9 r12 (.int .u64 ((last : Int) + 1)) (.string name) (.int .u64 (t.id : Int)) (.int .i64 0) (.int .u64 (s.own : Int)) (.int .u64 0))) := by
    rw [← HPOST.out]
    have ho := sixSet_only w9 r12 (.int .u64 ((last : Int) + 1)) (.string name) (.int .u64 (t.id : Int)) (.int .i64 0) (.int .u64 (s.own : Int)) (.int .u64 0)
    have hl12 := lt_of_get HB12.out.1
    have hr := HR.out
    have z4' := HQ4.out.size
    have zd := HQD.out.size
    refine ⟨rfl, ((((HQ4.out.mono (T := F) (fun _ _ x => x.elim)).trans' HQD.out (fun k _ e => by subst e; exact HROW.out.foot.1)).trans HFI.out.2.1).trans' hq9 (fun _ _ x => x.elim)).trans' ho (fun k hk e => by omega), ?_⟩
    refine ((HFI.out.1.kept hq9 (fun _ _ x => x)).kept ho (fun k hk e => ?_)).mono (fun k hk => ?_)
    · subst e
      rcases hk with a | a
      · have := HFW.out _ a; omega
      · omega
    · rcases hk with a | a
      · exact Or.inl a
      · exact Or.inr (by omega)
  unfold sixSet at HX HEND
  clear hq9 hb9 HTO HFI HB8
  go_wp2
  exact bodyPost_ret (results_cell_tmp Tryz.results26 _ _ r12 _ _ (0, 0) _ (by rfl) HX.out Tryz.underlying80 rfl info_idx) (by rfl) HEND.out

end Go.Proofs.YtmkaomglecfmfaaGreatDoor

namespace Go.Lap
open Go.RowKit Go.Maps Go.MapKept Go.WideElems

/-- A value stands for itself. -/
def heldR (v : Value) : Option (DataW Value × List MemPlace) := some (.held v, [])

/-- An entry's key, as a number. -/
def keyN (x : MapEntry) : Nat := match x.key with | .int _ z => z.toNat | _ => 0
theorem keyN_of {x : MapEntry} {j : Nat} (h : x.key = .int .u64 (j : Int)) : keyN x = j := by
  unfold keyN
  rw [h]
  simp

theorem nodup_bound {l : List Nat} {N : Nat} (h : l.Nodup) (hb : ∀ x ∈ l, x ≤ N) : l.length ≤ N + 1 := by
  have := h.length_le_of_subset (l₂ := List.range (N + 1)) (fun x hx => List.mem_range.2 (Nat.lt_succ_of_le (hb x hx)))
  simpa using this

section
variable {P : Program} {k : TypeId} {w : World} {b : Nat} {f : Nat → Option Value}

theorem MapF.owns (h : MapF w b f) (hk : P.underlying k = some (.int .u64)) {N : Nat} (hN : ∀ x v, f x = some v → x ≤ N) (hm : N + 1 ≤ maxLen) :
    ∃ D : DataW Value, w.ownsMap P k heldR b (N + 1) D ∧ Maps.size D ≤ N + 1 ∧ (∀ kl, Maps.has D kl = true → ∃ (x : Nat) (v : Value), kl = .int .u64 (x : Int) ∧ f x = some v ∧ ∀ z, D.atKey kl z = .held v) ∧ ∀ x v, f x = some v → Maps.has D (.int .u64 (x : Int)) = true := by
  obtain ⟨es, clock, h1, h2, h3, h4⟩ := h
  have hrd : ∀ x ∈ es.toList, ∃ (j : Nat), rd P k heldR x = some (.int .u64 (j : Int), .held x.val) ∧ f j = some x.val ∧ x.key = .int .u64 (j : Int) := fun x hx => by
    obtain ⟨j, hj, e1, e2⟩ := h3 x hx
    refine ⟨j, ?_, e2, e1⟩
    unfold rd
    rw [e1, keyOf_int_mk hk (wf_u64 hj)]
    rfl
  have hsz : es.size ≤ N + 1 := by
    have hnd := h2.2.2
    have hl : ∀ (l : List MapEntry), (∀ x ∈ l, ∃ j : Nat, j ≤ N ∧ x.key = .int .u64 (j : Int)) → (l.map (·.key)).Nodup → l.length ≤ N + 1 := by
      intro l hall hn
      have hex : ∃ m : MapEntry → Nat, ∀ x ∈ l, m x ≤ N ∧ x.key = .int .u64 ((m x : Nat) : Int) := ⟨keyN, fun x hx => by
        obtain ⟨j, hj, e⟩ := hall x hx
        rw [keyN_of e]
        exact ⟨hj, e⟩⟩
      obtain ⟨m, hm⟩ := hex
      have : (l.map m).Nodup := by
        rw [List.Nodup, List.pairwise_map] at hn ⊢
        refine List.Pairwise.imp_of_mem ?_ hn
        intro a b ha hb hne e
        exact hne (by rw [(hm a ha).2, (hm b hb).2, e])
      have := nodup_bound (N := N) this (fun y hy => by obtain ⟨x, hx, rfl⟩ := List.mem_map.1 hy; exact (hm x hx).1)
      simpa using this
    have := hl es.toList (fun x hx => by obtain ⟨j, _, e2, e3⟩ := hrd x hx; exact ⟨j, hN j _ e2, e3⟩) hnd
    simpa using this
  have hfit : Fit P k heldR es clock := ⟨by omega, h2, fun x hx => by obtain ⟨j, e, _⟩ := hrd x hx; exact ⟨_, e⟩⟩
  have hmem : ∀ p : Lit × DataW Value, p ∈ (es.toList.map (rg P k heldR)).foldr DataW.insert [] → ∃ (j : Nat) (v : Value), p = (.int .u64 (j : Int), .held v) ∧ f j = some v := fun p hp => by
    rw [mem_sorted, List.mem_map] at hp
    obtain ⟨x, hx, rfl⟩ := hp
    obtain ⟨j, e, e2, _⟩ := hrd x hx
    exact ⟨j, x.val, rg_of e, e2⟩
  have same : ∀ (j : Nat) (kl : Lit), (Lit.int .u64 (j : Int)).sameKey kl = true → kl = .int .u64 (j : Int) := fun j kl h => by
    cases kl <;> simp [Lit.sameKey] at h
    obtain ⟨rfl, rfl⟩ := h
    rfl
  refine ⟨.map ((es.toList.map (rg P k heldR)).foldr DataW.insert []), ⟨es, clock, h1, hfit, hsz, rfl⟩, ?_, fun kl hkl => ?_, fun x v hx => ?_⟩
  · show ((es.toList.map (rg P k heldR)).foldr DataW.insert []).length ≤ N + 1
    rw [length_sorted, List.length_map]
    simpa using hsz
  · obtain ⟨p, hp, hs⟩ := List.any_eq_true.1 hkl
    obtain ⟨j, v, rfl, hv⟩ := hmem p hp
    obtain rfl := same j kl hs
    refine ⟨j, v, rfl, hv, fun z => ?_⟩
    simp only [DataW.atKey]
    cases hfi : ((es.toList.map (rg P k heldR)).foldr DataW.insert []).find? (fun p => p.1.sameKey (.int .u64 (j : Int))) with
    | none =>
      have := List.find?_eq_none.1 hfi _ hp
      exact absurd hs (by simpa using this)
    | some p2 =>
      have hm := List.mem_of_find?_eq_some hfi
      have hk2 := List.find?_some hfi
      obtain ⟨j2, v2, rfl, hv2⟩ := hmem p2 hm
      have e := same j2 _ hk2
      injection e with _ e
      have : j = j2 := by omega
      subst this
      rw [hv] at hv2
      injection hv2 with hv2
      simp only [hv2]
  · obtain ⟨y, hy, y1, y2⟩ := h4 x v hx
    obtain ⟨j, e, e2, e3⟩ := hrd y hy
    rw [y1] at e3
    injection e3 with _ e3
    have : j = x := by omega
    subst this
    refine List.any_eq_true.2 ⟨rg P k heldR y, mem_sorted.2 (List.mem_map.2 ⟨y, hy, rfl⟩), ?_⟩
    rw [rg_of e]
    simp [Lit.sameKey]
end

end Go.Lap

namespace Go.Lap
open Go.RowKit Go.Maps

/-- A map's values, in some order. -/
structure ValsOf (f : Nat → Option Value) (vs : List Value) : Prop where
  each : ∀ v ∈ vs, ∃ x, f x = some v
  all : ∀ x v, f x = some v → v ∈ vs

/-- Some of them have come. -/
structure ValsMid (f : Nat → Option Value) (D : DataW Value) (left : Lit → Bool) (vs : List Value) : Prop where
  each : ∀ v ∈ vs, ∃ x, f x = some v
  rest : ∀ (x : Nat) v, f x = some v → left (.int .u64 (x : Int)) = true ∨ v ∈ vs
  has : ∀ kl, left kl = true → Maps.has D kl = true

theorem ValsMid.step {f : Nat → Option Value} {D : DataW Value} {left : Lit → Bool} {vs : List Value} {x : Nat} {v : Value} (h : ValsMid f D left vs) (hx : f x = some v) :
    ValsMid f D (fun z => left z && !z.sameKey (.int .u64 (x : Int))) (vs ++ [v]) := by
  refine ⟨fun u hu => ?_, fun y u hy => ?_, fun kl hk => ?_⟩
  · rcases List.mem_append.1 hu with a | a
    · exact h.each u a
    · simp at a
      subst a
      exact ⟨x, hx⟩
  · rcases h.rest y u hy with a | a
    · by_cases e : y = x
      · subst e
        rw [hx] at hy
        injection hy with hy
        subst hy
        exact Or.inr (by simp)
      · refine Or.inl ?_
        show (left (.int .u64 (y : Int)) && !(Lit.int .u64 (y : Int)).sameKey (.int .u64 (x : Int))) = true
        rw [a]
        simp [Lit.sameKey]
        omega
    · exact Or.inr (List.mem_append_left _ a)
  · simp at hk
    exact h.has kl hk.1

theorem ValsMid.done {f : Nat → Option Value} {D : DataW Value} {left : Lit → Bool} {vs : List Value} (h : ValsMid f D left vs) (hl : ∀ kl, left kl = false) : ValsOf f vs :=
  ⟨h.each, fun x v hx => by
    rcases h.rest x v hx with a | a
    · rw [hl] at a; cases a
    · exact a⟩

end Go.Lap
namespace Go.Proofs.YtmkaomglecfmfaaGreatDoor
open Go.RowKit Go.Lap Go.Maps Go.Sort Go.Shelf

/-- A snapshot and where its row lies. -/
abbrev SnapP := Snap × Option Addr × Nat
abbrev encP (p : SnapP) : Value := .agg #[.int .u64 (p.1.own : Int), .int .u64 (p.1.xmin : Int), .int .u64 (p.1.xmax : Int), .slice p.2.1 p.1.run.length p.2.2]
abbrev cellsP (p : SnapP) : List Value := [.int .u64 (p.1.own : Int), .int .u64 (p.1.xmin : Int), .int .u64 (p.1.xmax : Int), .slice p.2.1 p.1.run.length p.2.2]

theorem elem_snap : Elem Tryz.prog 159 70 4 48 := Elem.mk' (.agg #[.int .u64 0, .int .u64 0, .int .u64 0, .slice none 0 0]) Tryz.underlying159 (by kernel_rfl) rfl (by decide)

/-- A snapshot in a box of its own. -/
abbrev boxP (w : World) (p : SnapP) : World := w.alloc (.cells #[.int .u64 (p.1.own : Int), .int .u64 (p.1.xmin : Int), .int .u64 (p.1.xmax : Int), .slice p.2.1 p.1.run.length p.2.2] 70)

theorem boxP_new (w : World) (p : SnapP) : (boxP w p).heap[w.heap.size]? = some (.cells #[.int .u64 (p.1.own : Int), .int .u64 (p.1.xmin : Int), .int .u64 (p.1.xmax : Int), .slice p.2.1 p.1.run.length p.2.2] 70 (0, 0)) := alloc_new w _
theorem boxP_quiet (w : World) (p : SnapP) : Quiet w (boxP w p) := (Only.refl (fun _ => False) w).alloc _
theorem boxP_walks (w : World) (p : SnapP) : KeepsWalks w (boxP w p) := KeepsWalks.alloc w _
theorem grown_of {w w' : World} (h : Quiet w w') (row : Option Nat) : w.grownBy w' row := ⟨h.os, h.tape, h.output, h.size, fun k hk _ => h.block k hk (fun x => x)⟩

set_option maxRecDepth 100000 in
set_option maxHeartbeats 1000000 in
/-- The iterator: each value comes once. -/
theorem vals_in (F : Fence) (n : Nat) (hf : F.fn 93) (hro : F.round = none) (hn : 1 ≤ n) (l Bm b nn : Nat) (D0 : DataW Value) (f : Nat → Option Value)
    (hhas : ∀ kl, Maps.has D0 kl = true → ∃ (x : Nat) (v : Value), kl = .int .u64 (x : Int) ∧ f x = some v ∧ ∀ z, D0.atKey kl z = .held v) (hall : ∀ (x : Nat) v, f x = some v → Maps.has D0 (.int .u64 (x : Int)) = true) (hform : ∀ x v, f x = some v → ∃ p : SnapP, v = encP p)
    (J : List SnapP → World → Prop)
    (hY : ∀ pre x W, J pre W → pre.length < Maps.size D0 → YieldAt F (n - 1) Tryz.prog l #[encP x] W fun e W' => e = .returned (.bool true) ∧ J (pre ++ [x]) W' ∧ KeepsWalks W W')
    (W : World) (hJ : AbidesFrom W.heap.size J) (hm : W.cell? ⟨Bm, 0, none⟩ = some (.map (some b))) (hown : W.ownsMap Tryz.prog 28 heldR b nn D0) (h0 : J [] W) :
    CallsIn F n Tryz.prog 93 #[.func (.yield l) #[] #[], .pointer (some ⟨Bm, 0, none⟩)] W fun e W' => (∃ v, e = .returned v) ∧ ∃ ps : List SnapP, (ValsOf f (ps.map encP) ∧ ps.length ≤ Maps.size D0) ∧ J ps W' := by
  have HK : Keyed Tryz.prog 28 := int_keyed Tryz.underlying28
  refine callsIn_of_wp Tryz.func93 rfl hf ?_ hro
  simp only [Tryz.ntmps93, List.size_toArray, List.length_cons, List.length_nil, Nat.reduceAdd, Nat.reduceSub, Array.replicate_succ, Array.replicate_zero, List.push_toArray, List.append_toArray, List.nil_append, List.cons_append]
  gi_wp2_with (first
    | (gi_at_range; refine wpListIn_range_own _ rfl _ 65 rfl 28 70 HK Tryz.underlying65 _ b nn _ rfl hown ?_; intro w0 hrg0 hg0 hs0)
    | gi_in)
  go_frame
  gi_loopw [4] (fun _ wr => ∃ (left : Lit → Bool) (cnt : Nat) (ps : List SnapP), wr.ranges Tryz.prog 28 heldR b W.heap.size nn D0 left cnt ∧ ps.length + cnt ≤ Maps.size D0 ∧ ValsMid f D0 left (ps.map encP) ∧ J ps wr)
    (fun _ wr => wr.rangeLeft b W.heap.size)
  case atStart =>
    exact ⟨_, _, [], hrg0, by simp, ⟨fun v hv => by simp at hv, fun x v hx => Or.inl (hall x v hx), fun kl h => h⟩, hJ [] W w0 none h0 hg0 (fun r e => by cases e)⟩
  case round =>
    obtain ⟨left, cnt, ps, hrg, hcs, hC, hJs⟩ := hrel
    gi_wp2_with (first
      | (gi_at_next; refine wpListIn_next_ranges _ rfl _ rfl 28 HK heldR id id (fun key kl hk => ⟨key, rfl⟩) (fun v _ _ => ⟨v, rfl⟩) b W.heap.size nn _ _ _ rfl hrg ?_ ?_)
      | gi_in)
    · intro hc0 hl0
      gi_wp2
      go_end0
      exact ⟨⟨_, rfl⟩, ps, ⟨hC.done hl0, by omega⟩, hJs⟩
    · intro x c kl yd yp w2 cnt2 hkey hlk hv hat hrg2 hlt hg2 hs2 hen
      obtain ⟨k, v, rfl, hfk, hatk⟩ := hhas kl (hC.has kl hlk)
      obtain ⟨p, rfl⟩ := hform k v hfk
      have hcv : c = encP p := by
        have e1 := hat yd
        rw [hatk] at e1
        have e2 : (DataW.held c, ([] : List MemPlace)) = (yd, yp) := Option.some.inj hv
        injection e2 with e2 _
        rw [← e2] at e1
        injection e1 with e1
        exact e1.symm
      subst hcv
      have hJ1 : J ps w2 := hJ ps wr w2 (some W.heap.size) hJs hg2 (fun r e => by cases e; exact ⟨Nat.le_refl _, hrg.iter_walk⟩)
      have hJ2 : J ps (boxP w2 p) := hJ ps w2 _ none hJ1 (grown_of (boxP_quiet w2 p) none) (fun r e => by cases e)
      have hrg5 := hrg2.of_walks (boxP_walks w2 p)
      obtain ⟨fn, tmps, assign, body, hy, hR⟩ := hY ps p _ hJ2 (by omega)
      have hC2 : ValsMid f D0 (fun z => left z && !z.sameKey (.int .u64 (k : Int))) ((ps ++ [p]).map encP) := by
        rw [List.map_append]
        exact hC.step hfk
      have hbx := boxP_new w2 p
      have b0 := cell_of hbx 0
      have b1 := cell_of hbx 1
      have b2 := cell_of hbx 2
      have b3 := cell_of hbx 3
      simp only [zGA, zGS, zGZ, cellsP] at b0 b1 b2 b3
      clear hs2 hbx
      gi_wp2
      refine hR.mono ?_
      rintro e W3 ⟨rfl, hJ3, hk3⟩
      gi_wp2
      have hrg3 := hrg5.of_walks hk3
      go_roundw
      case rel => exact ⟨_, cnt2, ps ++ [p], hrg3, by simp; omega, hC2, hJ3⟩
      case measure => rw [hrg3.left_eq, hrg.left_eq]; exact hlt

end Go.Proofs.YtmkaomglecfmfaaGreatDoor

namespace Go.Proofs.YtmkaomglecfmfaaGreatDoor
open Go.RowKit Go.Lap Go.Maps Go.Sort Go.Shelf

theorem cells_new (w : World) (xs : List Value) (t : TypeId) : ∀ j u, xs[j]? = some u → (w.alloc (.cells xs.toArray t)).cell? ((⟨w.heap.size, 0, none⟩ : Addr).add j) = some u := by
  intro j u hj
  rw [add_none, Nat.zero_add, cell_of (alloc_new w _)]
  simpa using hj

theorem cellsP_one (x : SnapP) : ∀ u ∈ cellsP x, u.oneCell' = true := by
  intro u hu
  simp [cellsP] at hu
  rcases hu with rfl | rfl | rfl | rfl <;> rfl

def apAssign : Code := (Code.region 2 #[{ dst := some 5, op := Op.alloc 70, type := 0, pos := "iter.go:51", after := #[], guard := none }, { dst := none, op := Op.store 70 (Operand.tmp 5) (Operand.tmp 7), type := 0, pos := "iter.go:51", after := #[{ on := 0, ground := Ground.data }, { on := 0, ground := Ground.phase }], guard := none }] false)
def apBody : Code := (Code.block 1 (Code.region 3 #[{ dst := some 8, op := Op.load 159 (Operand.tmp 2), type := 159, pos := "iter.go:52", after := #[], guard := none }, { dst := some 9, op := Op.load 70 (Operand.tmp 5), type := 70, pos := "iter.go:52", after := #[], guard := none }, { dst := some 10, op := Op.buildSlice 159 1 #[(0, Operand.tmp 9)], type := 159, pos := "iter.go:52", after := #[{ on := 1, ground := Ground.data }], guard := none }, { dst := some 11, op := Op.call { callee := Callee.builtin Builtin.append, args := #[Operand.tmp 8, Operand.tmp 10], argTypes := #[159, 159] }, type := 159, pos := "iter.go:52", after := #[{ on := 0, ground := Ground.data }, { on := 2, ground := Ground.data }], guard := none }, { dst := none, op := Op.store 159 (Operand.tmp 2) (Operand.tmp 11), type := 0, pos := "iter.go:52", after := #[{ on := 3, ground := Ground.data }, { on := 3, ground := Ground.chain }, { on := 0, ground := Ground.phase }, { on := 1, ground := Ground.phase }, { on := 2, ground := Ground.phase }, { on := 3, ground := Ground.phase }], guard := none }] false))
/-- The loop of AppendSeq, between two rounds. -/
def apRec (fn : FuncId) (sv : Value) (Bs D : Nat) (st : LoopState) (pend : Option Code) : Loop :=
  { state := st, pending := pend, fn, tmps := #[.slice none 0 0, sv, .pointer (some ⟨Bs, 0, none⟩), undef, .slice none 0 0, undef, sv, undef, undef, undef, undef, undef, undef], params := #[7], assign := apAssign, body := apBody, defers := D }

/-- Between two rounds: the row of those that have come. -/
structure ApAt (w0 : World) (fn : FuncId) (sv : Value) (Bs l D : Nat) (ss : List SnapP) (W : World) : Prop where
  box : ∃ v, W.heap[Bs]? = some (.cells #[v] 159 (0, 0)) ∧ W.ownsRow w0.heap.size 70 4 v ss.length (ss.flatMap cellsP) ∧ (v = .slice none 0 0 ↔ ss = [])
  L : W.heap[l]? = some (.loop (apRec fn sv Bs D .ready none))
  K : W.heap[D]? = some (.deferred (some []))
  below : Below w0.heap.size w0 W

theorem ap_abides (w0 : World) (fn : FuncId) (sv : Value) (Bs l D B : Nat) (hB : w0.heap.size ≤ B) : AbidesFrom B (ApAt w0 fn sv Bs l D) := fun s W W' row h hg hrow => by
  have hrow' : ∀ r, row = some r → ∃ o : Obj, W.heap[r]? = some o ∧ o.isWalk = true := fun r e => (hrow r e).2
  obtain ⟨v, hv, hr, hn⟩ := h.box
  exact ⟨⟨v, (grownBy_keeps hg hrow' hv rfl).trans hv, ownsRow_abides_a hr hg hrow', hn⟩, (grownBy_keeps hg hrow' h.L rfl).trans h.L, (grownBy_keeps hg hrow' h.K rfl).trans h.K,
    h.below.grown hg h.below.size (fun k e => Nat.le_trans hB (hrow k e).1)⟩

set_option maxRecDepth 100000 in
set_option maxHeartbeats 2000000 in
theorem apYield (F : Fence) (m : Nat) (w0 : World) (fn : FuncId) (hfn : F.fn fn) (sv : Value) (Bs l D : Nat) (hBl : Bs ≠ l) (hDl : D ≠ l) (hDB : D ≠ Bs) (h0B : w0.heap.size ≤ Bs) (h0l : w0.heap.size ≤ l)
    (N : Nat) (hN : N ≤ maxLen) (hNb : N * 48 ≤ 140737488355328) (ss : List SnapP) (x : SnapP) (W : World) (h : ApAt w0 fn sv Bs l D ss W) (hlen : ss.length < N) :
    YieldAt F m Tryz.prog l #[encP x] W fun e W' => e = .returned (.bool true) ∧ ApAt w0 fn sv Bs l D (ss ++ [x]) W' ∧ KeepsWalks W W' := by
  have hne : 159 ≠ 70 := by decide
  obtain ⟨i0, z0, ht0, hi, hz0, hz1, hz2, hz3, hz4⟩ := elem_snap.ex
  obtain ⟨v, hv, hrow, _⟩ := h.box
  refine ⟨fn, #[.slice none 0 0, sv, .pointer (some ⟨Bs, 0, none⟩), undef, .slice none 0 0, undef, sv, encP x, undef, undef, undef, undef, undef], apAssign, apBody, by simpa [apRec] using run_yield (P := Tryz.prog) (args := #[encP x]) h.L rfl, roundIn_of_wpIn hfn ?_⟩
  unfold apAssign
  gi_wp2_with gi_round_op_a
  have hq5 := boxP_quiet W x
  have hbx := boxP_new W x
  have hk5 := boxP_walks W x
  unfold boxP at hq5 hbx hk5
  generalize W.alloc (.cells #[.int .u64 (x.1.own : Int), .int .u64 (x.1.xmin : Int), .int .u64 (x.1.xmax : Int), .slice x.2.1 x.1.run.length x.2.2] 70) = W1 at *
  have hv1 := hq5.get hv (fun x => x)
  have hK1 := hq5.get h.K (fun x => x)
  have hL1 := hq5.get h.L (fun x => x)
  have hrow1 := hrow.kept (grown_of hq5 none) (Classical.em _)
  have hb1 := h.below.grown (grown_of hq5 none) h.below.size (fun k e => by cases e)
  have hlo : l < W.heap.size := (Array.getElem?_eq_some_iff.1 h.L).1
  have hl : l < W1.heap.size := (Array.getElem?_eq_some_iff.1 hL1).1
  have hbr := run_beginRound (P := Tryz.prog) hL1 rfl
  obtain ⟨W2, hW2⟩ : ∃ W2, W1.putObj l (.loop { apRec fn sv Bs D .ready none with state := .busy }) = W2 := ⟨_, rfl⟩
  rw [hW2] at hbr
  have hg2 : W1.grownBy W2 (some l) := by rw [← hW2]; exact grownBy_putObj_a _ _ _
  have hk2 : KeepsWalks W W2 := hk5.trans (by rw [← hW2]; exact KeepsWalks.putObj _ hL1 rfl)
  have hv2 : W2.heap[Bs]? = some (.cells #[v] 159 (0, 0)) := by rw [← hW2]; exact (World.putObj_heap_other hBl).trans hv1
  have hK2 : W2.heap[D]? = some (.deferred (some [])) := by rw [← hW2]; exact (World.putObj_heap_other hDl).trans hK1
  have hL2 : W2.heap[l]? = some (.loop { apRec fn sv Bs D .ready none with state := .busy }) := by rw [← hW2]; exact World.putObj_heap_same hl
  have hx2 : W2.heap[W.heap.size]? = some (.cells #[.int .u64 (x.1.own : Int), .int .u64 (x.1.xmin : Int), .int .u64 (x.1.xmax : Int), .slice x.2.1 x.1.run.length x.2.2] 70 (0, 0)) := by rw [← hW2]; exact (World.putObj_heap_other (by omega)).trans hbx
  have hrow2 : W2.ownsRow w0.heap.size 70 4 v ss.length (ss.flatMap cellsP) := hrow1.kept hg2 (ownsRow_ne_a hrow1 hL1 (fun cur e => by first | cases e | exact hne (Obj.cells.inj e).2.1))
  have hb2 : Below w0.heap.size w0 W2 := hb1.grown hg2 hb1.size (fun k e => by cases e; exact h0l)
  have b0 := cell_of hx2 0
  have b1 := cell_of hx2 1
  have b2 := cell_of hx2 2
  have b3 := cell_of hx2 3
  simp only [zGA, zGS, zGZ] at b0 b1 b2 b3
  obtain ⟨hc2, hf2⟩ := cell_of_box_a hv2
  have hBlt : Bs < W2.heap.size := (Array.getElem?_eq_some_iff.1 hv2).1
  have hl2 : l < W2.heap.size := (Array.getElem?_eq_some_iff.1 hL2).1
  have hDlt : D < W2.heap.size := (Array.getElem?_eq_some_iff.1 hK2).1
  have ne_of : ∀ {j : Nat} {o : Obj}, W2.heap[j]? = some o → (∀ cur, o ≠ .cells cur 70 (0, 0)) → some j ≠ v.ownBlock := fun hj hno => by
    rcases ownsRow_ne_a hrow2 hj hno with e | e
    · rw [e]; simp
    · exact fun e' => e e'.symm
  clear hW2 hx2 hbx
  refine ⟨W2, hbr, ?_⟩
  unfold apBody
  gi_wp2_with (first
    | (gi_at_builtin; refine wpListIn_append_own _ rfl _ _ 159 rfl w0.heap.size 70 i0 z0 4 48 ht0 hi hz0 hz1 hz2 hz3 hz4 _ _ _ rfl (hrow2.alloc _) ⟨W2.heap.size, 0, none⟩ 1 1 (cellsP x) rfl rfl (cells_new W2 (cellsP x) _) (cellsP_one x) (by omega) (by omega) (by have := hb2.size; simp; omega) ?_; intro v' w3 hown' hg3 hnil3
       have hv3 : w3.heap[Bs]? = some (.cells #[v] 159 (0, 0)) := (hg3.block Bs (by simp; omega) (ne_of hv2 (fun cur e => by first | cases e | exact hne (Obj.cells.inj e).2.1))).trans ((Below.heap_alloc _ _ Bs hBlt).trans hv2)
       obtain ⟨hc3, hf3⟩ := cell_of_box_a hv3
       obtain ⟨g', cap', cur', rfl, hbase', hgb', hr1, hr2, hr3, hr4⟩ : ∃ g' cap' cur', v' = .slice (some ⟨g', 0, none⟩) (ss.length + 1) cap' ∧ w0.heap.size ≤ g' ∧ w3.heap[g']? = some (.cells cur' 70 (0, 0)) ∧ ss.length + 1 ≤ cap' ∧ cap' ≤ maxLen ∧ cur'.size = cap' * 4 ∧ cur'.toList.take ((ss.length + 1) * 4) = ss.flatMap cellsP ++ cellsP x := by
         rcases hown'.2 with ⟨_, h0⟩ | h'
         · exact absurd h0 (by omega)
         · exact h'
       go_frame)
    | gi_round_op_a)
  have hg3' : (W2.alloc (.cells (cellsP x).toArray 70)).grownBy w3 v.ownBlock := hg3
  have hL3 : w3.heap[l]? = some (.loop { apRec fn sv Bs D .ready none with state := .busy }) := (hg3'.block l (by simp; omega) (ne_of hL2 (fun cur e => by first | cases e | exact hne (Obj.cells.inj e).2.1))).trans ((Below.heap_alloc _ _ l hl2).trans hL2)
  have hK3 : w3.heap[D]? = some (.deferred (some [])) := (hg3'.block D (by simp; omega) (ne_of hK2 (fun cur e => by first | cases e | exact hne (Obj.cells.inj e).2.1))).trans ((Below.heap_alloc _ _ D hDlt).trans hK2)
  obtain ⟨w4, hw4⟩ : ∃ w4, w3.setCell ⟨Bs, 0, none⟩ (.slice (some ⟨g', 0, none⟩) (ss.length + 1) cap') = w4 := ⟨_, rfl⟩
  rw [hw4]
  have hg4 : w3.grownBy w4 (some Bs) := by rw [← hw4]; exact grownBy_setCell0_a _ _ _
  have hv4 : w4.heap[Bs]? = some (.cells #[.slice (some ⟨g', 0, none⟩) (ss.length + 1) cap'] 159 (0, 0)) := by rw [← hw4]; exact heap_setCell_box_a _ hv3
  have hL4 : w4.heap[l]? = some (.loop { apRec fn sv Bs D .ready none with state := .busy }) := (hg4.block l (Array.getElem?_eq_some_iff.1 hL3).1 (fun e => hBl (by cases e; rfl))).trans hL3
  have hK4 : w4.heap[D]? = some (.deferred (some [])) := (hg4.block D (Array.getElem?_eq_some_iff.1 hK3).1 (fun e => hDB (by cases e; rfl))).trans hK3
  have hrow4 := hown'.kept hg4 (ownsRow_ne_a hown' hv3 (fun cur e => by first | cases e | exact hne (Obj.cells.inj e).2.1))
  have hl4 : l < w4.heap.size := (Array.getElem?_eq_some_iff.1 hL4).1
  have hb3 : Below w0.heap.size w0 w3 := (hb2.alloc hb2.size _).grown hg3' (by have := hb2.size; simp; omega) (fun k e => (hrow2.lt k e).1)
  have hb4 : Below w0.heap.size w0 w4 := hb3.grown hg4 hb3.size (fun k e => by cases e; exact h0B)
  have hk4 : KeepsWalks W w4 := ((hk2.trans (KeepsWalks.alloc _ _)).trans (KeepsWalks.of_grownBy hg3' (ownsRow_not_walk_a (hrow2.alloc _)))).trans (by rw [← hw4]; exact KeepsWalks.setCell _ _ _)
  clear hw4
  refine ⟨_, _, run_endRound none hL4, rfl, ⟨⟨_, (World.putObj_heap_other hBl).trans hv4, ?_, by simp⟩, World.putObj_heap_same hl4, (World.putObj_heap_other hDl).trans hK4, hb4.grown (grownBy_putObj_a _ _ _) hb4.size (fun k e => by cases e; exact h0l)⟩, hk4.trans (KeepsWalks.putObj _ hL4 rfl)⟩
  have := hrow4.kept (grownBy_putObj_a w4 l (.loop { { apRec fn sv Bs D .ready none with state := .busy } with state := if (none : Option Code).isNone then .ready else .done, pending := none })) (ownsRow_ne_a hrow4 hL4 (fun cur e => by first | cases e | exact hne (Obj.cells.inj e).2.1))
  simpa using this

set_option maxRecDepth 100000 in
set_option maxHeartbeats 2000000 in
/-- AppendSeq of whatever iterator: what it gives, in that order. -/
theorem appendSeq_in (F : Fence) (n : Nat) (h11 : F.fn 92) (hro : F.round = none) (hn : 2 ≤ n) (g : Nat) (lb : Array Value) (hFg : F.fn g) (eg : ∀ args w, (callFunc g args).run Tryz.prog w = .ok (.enter g args) w)
    (S : List SnapP → Prop) (N : Nat) (hN : N ≤ maxLen) (hNb : N * 48 ≤ 140737488355328) (w : World) (hseq : SeqGives F (n - 1) Tryz.prog g lb encP S N w) :
    CallsIn F n Tryz.prog 92 #[.slice none 0 0, .func (.func g) #[] lb] w fun e w' => ∃ (v : Value) (ss : List SnapP), e = .returned v ∧ S ss ∧ w'.ownsRow w.heap.size 70 4 v ss.length (ss.flatMap cellsP) ∧ (v = .slice none 0 0 ↔ ss = []) ∧ Below w.heap.size w w' := by
  have h1 : 1 ≤ n := by omega
  have hne : 159 ≠ 70 := by decide
  refine callsIn_of_wp_marks Tryz.func92 rfl h11 ?_ hro
  simp only [Tryz.ntmps92, List.size_toArray, List.length_cons, List.length_nil, Nat.reduceAdd, Nat.reduceSub, Array.replicate_succ, Array.replicate_zero, List.push_toArray, List.append_toArray, List.nil_append, List.cons_append]
  gi_wp2
  refine wpIn_rangeFunc ?_
  intro fn hfn
  rw [hro]
  obtain ⟨W0, hW0⟩ : ∃ W0, w.alloc (.cells #[.slice none 0 0] 159) = W0 := ⟨_, rfl⟩
  have hs0 : W0.heap.size = w.heap.size + 1 := by rw [← hW0]; simp
  have hv0 : W0.heap[w.heap.size]? = some (.cells #[.slice none 0 0] 159 (0, 0)) := by rw [← hW0]; exact World.alloc_heap_new w _
  have hb0 : Below w.heap.size w W0 := by rw [← hW0]; exact (Below.refl _ w).alloc (Nat.le_refl _) _
  rw [hW0]
  obtain ⟨W1, hW1⟩ : ∃ W1, (W0.alloc (.deferred (some []))).alloc (.loop (apRec fn (.func (.func g) #[] lb) w.heap.size W0.heap.size .ready none)) = W1 := ⟨_, rfl⟩
  have hold : ∀ k, k < W0.heap.size → W1.heap[k]? = W0.heap[k]? := fun k hk => by
    rw [← hW1]; exact (Below.heap_alloc _ _ k (by simp; omega)).trans (Below.heap_alloc _ _ k hk)
  have hb1 : Below w.heap.size w W1 := by rw [← hW1]; exact (hb0.alloc hb0.size _).alloc (by have := hb0.size; simp; omega) _
  have hs1 : W1.heap.size = W0.heap.size + 2 := by rw [← hW1]; simp
  have hM : ApAt w fn (.func (.func g) #[] lb) w.heap.size (W0.heap.size + 1) W0.heap.size [] W1 :=
    ⟨⟨_, (hold w.heap.size (by omega)).trans hv0, ⟨rfl, .inl ⟨rfl, rfl⟩⟩, by simp⟩,
     by rw [← hW1]; have := World.alloc_heap_new (W0.alloc (.deferred (some []))) (.loop (apRec fn (.func (.func g) #[] lb) w.heap.size W0.heap.size .ready none)); rwa [World.size_alloc] at this,
     by rw [← hW1]; exact (Below.heap_alloc _ _ _ (by simp)).trans (World.alloc_heap_new W0 _), hb1⟩
  refine ⟨W0.heap.size + 1, [{ target := .collected W0.heap.size, args := #[] }], W1, { target := .fn (.func g) lb, args := #[.func (.yield (W0.heap.size + 1)) #[] #[]] }, W1, g,
    #[.func (.yield (W0.heap.size + 1)) #[] #[]] ++ lb, W1, ?_, ?_, ?_, ?_, fun _ => h1, ?_⟩
  · rw [← hW1]; exact run_enterLoop_outer _ _ _ _ _
  · simp [resolve, go_sem]
  · intro f' hf'; simp [Target.leads] at hf'; subst hf'; exact hFg
  · simp [invoke, go_sem, eg]
  · refine (hseq (W0.heap.size + 1) (ApAt w fn (.func (.func g) #[] lb) w.heap.size (W0.heap.size + 1) W0.heap.size) W1 hb1 (ap_abides _ _ _ _ _ _ _ hb1.size)
      (fun pre x W hJ hl => apYield F (n - 1 - 1) w fn hfn _ w.heap.size (W0.heap.size + 1) W0.heap.size (by omega) (by omega) (by omega) (Nat.le_refl _) (by omega) N hN hNb pre x W hJ hl) hM).mono ?_
    rintro e W2 ⟨⟨v0, rfl⟩, ss, hS, h2⟩
    obtain ⟨v, hv, hrow, hnil⟩ := h2.box
    have hend := run_endLoop (P := Tryz.prog) h2.L (by simp [apRec])
    obtain ⟨W3, hW3⟩ : ∃ W3, W2.putObj (W0.heap.size + 1) (.loop { apRec fn (.func (.func g) #[] lb) w.heap.size W0.heap.size .ready none with state := .exhausted }) = W3 := ⟨_, rfl⟩
    rw [hW3] at hend
    have hg3 : W2.grownBy W3 (some (W0.heap.size + 1)) := by rw [← hW3]; exact grownBy_putObj_a _ _ _
    have hv3 : W3.heap[w.heap.size]? = some (.cells #[v] 159 (0, 0)) := by rw [← hW3]; exact (World.putObj_heap_other (by omega)).trans hv
    have hK3 : W3.heap[W0.heap.size]? = some (.deferred (some [])) := by rw [← hW3]; exact (World.putObj_heap_other (by omega)).trans h2.K
    have hrow3 := hrow.kept hg3 (ownsRow_ne_a hrow h2.L (fun cur e => by first | cases e | exact hne (Obj.cells.inj e).2.1))
    have hb3 : Below w.heap.size w W3 := h2.below.grown hg3 h2.below.size (fun k e => by cases e; omega)
    obtain ⟨hc3, hf3⟩ := cell_of_box_a hv3
    clear hW3
    refine ⟨none, W3, hend, ?_⟩
    gi_wp2
    rw [← hs0]
    refine ⟨by simp, .inl ⟨_, _, rfl, run_takeDeferred hK3, ?_⟩⟩
    exact ⟨_, results_tmp rfl _ _ _, v, ss, rfl, hS, hrow3.kept (grownBy_putObj_a _ _ _) (ownsRow_ne_a hrow3 hK3 (fun cur e => by first | cases e | exact hne (Obj.cells.inj e).2.1)), hnil, hb3.grown (grownBy_putObj_a _ _ _) hb3.size (fun k e => by cases e; omega)⟩

set_option maxHeartbeats 1000000 in
/-- Collect of whatever iterator. -/
theorem collect_in (F : Fence) (n : Nat) (h8 : F.fn 62) (h11 : F.fn 92) (hro : F.round = none) (hn : 3 ≤ n) (g : Nat) (lb : Array Value) (hFg : F.fn g) (eg : ∀ args w, (callFunc g args).run Tryz.prog w = .ok (.enter g args) w)
    (S : List SnapP → Prop) (N : Nat) (hN : N ≤ maxLen) (hNb : N * 48 ≤ 140737488355328) (w : World) (hseq : SeqGives F (n - 1 - 1) Tryz.prog g lb encP S N w) :
    CallsIn F n Tryz.prog 62 #[.func (.func g) #[] lb] w fun e w' => ∃ (v : Value) (ss : List SnapP), e = .returned v ∧ S ss ∧ w'.ownsRow w.heap.size 70 4 v ss.length (ss.flatMap cellsP) ∧ (v = .slice none 0 0 ↔ ss = []) ∧ Below w.heap.size w w' := by
  have h1 : 1 ≤ n := by omega
  have e11 : ∀ args w, (callFunc 92 args).run Tryz.prog w = .ok (.enter 92 args) w := enters_of Tryz.func92 (by kernel_rfl) rfl
  refine callsIn_of_wp Tryz.func62 rfl h8 ?_ hro
  simp only [Tryz.ntmps62, List.size_toArray, List.length_cons, List.length_nil, Nat.reduceAdd, Nat.reduceSub, Array.replicate_succ, Array.replicate_zero, List.push_toArray, List.append_toArray, List.nil_append, List.cons_append]
  gi_wp2_with (gi_at_fn 92; refine (appendSeq_in F (n - 1) h11 hro (by omega) g lb hFg eg S N hN hNb _ hseq).mono ?_; rintro e w' ⟨v, ss, rfl, hS, hrow, hnil, hb⟩)
  go_ret
  exact ⟨v, ss, rfl, hS, hrow, hnil, hb⟩

end Go.Proofs.YtmkaomglecfmfaaGreatDoor

namespace Go.Proofs.YtmkaomglecfmfaaGreatDoor
open Go.RowKit Go.Lap

/-- The least of them. -/
structure HorOf (nx : Nat) (ps : List SnapP) (hz : Nat) : Prop where
  none_ : ps = [] → hz = nx
  some_ : ps ≠ [] → ∃ p ∈ ps, hz = p.1.xmin
  least : ∀ p ∈ ps, hz ≤ p.1.xmin

theorem HorOf.start (nx : Nat) : HorOf nx [] nx := ⟨fun _ => rfl, fun h => absurd rfl h, fun p hp => by cases hp⟩

theorem HorOf.take_ {nx hz : Nat} {ps : List SnapP} {p : SnapP} (h : HorOf nx ps hz) (hl : ps = [] ∨ p.1.xmin < hz) : HorOf nx (ps ++ [p]) p.1.xmin :=
  ⟨fun e => by simp at e, fun _ => ⟨p, by simp, rfl⟩, fun q hq => by
    rcases List.mem_append.1 hq with x | x
    · rcases hl with y | y
      · rw [y] at x; cases x
      · exact Nat.le_of_lt (Nat.lt_of_lt_of_le y (h.least q x))
    · rw [List.mem_singleton] at x; rw [x]; exact Nat.le_refl _⟩

theorem HorOf.leave {nx hz : Nat} {ps : List SnapP} {p : SnapP} (h : HorOf nx ps hz) (hl : ps ≠ []) (hp : ¬ p.1.xmin < hz) : HorOf nx (ps ++ [p]) hz :=
  ⟨fun e => by simp at e, fun _ => by obtain ⟨q, hq, e⟩ := h.some_ hl; exact ⟨q, List.mem_append_left _ hq, e⟩, fun q hq => by
    rcases List.mem_append.1 hq with x | x
    · exact h.least q x
    · rw [List.mem_singleton] at x; rw [x]; omega⟩

theorem rowP_get : ∀ (ps : List SnapP) (i : Nat) (p : SnapP), ps[i]? = some p → (ps.flatMap cellsP)[i * 4]? = some (.int .u64 (p.1.own : Int)) ∧ (ps.flatMap cellsP)[i * 4 + 1]? = some (.int .u64 (p.1.xmin : Int)) ∧ (ps.flatMap cellsP)[i * 4 + 2]? = some (.int .u64 (p.1.xmax : Int)) ∧ (ps.flatMap cellsP)[i * 4 + 3]? = some (.slice p.2.1 p.1.run.length p.2.2)
  | [], i, p, h => by simp at h
  | x :: ps, 0, p, h => by
    simp at h
    subst h
    exact ⟨rfl, rfl, rfl, rfl⟩
  | x :: ps, i + 1, p, h => by
    have ih := rowP_get ps i p (by simpa using h)
    have e : (x :: ps).flatMap cellsP = .int .u64 (x.1.own : Int) :: .int .u64 (x.1.xmin : Int) :: .int .u64 (x.1.xmax : Int) :: .slice x.2.1 x.1.run.length x.2.2 :: ps.flatMap cellsP := rfl
    rw [e, show (i + 1) * 4 = i * 4 + 1 + 1 + 1 + 1 by omega]
    exact ih

def HorPost (w : World) (nx : Nat) (ps : List SnapP) (e : Ending) (w' : World) : Prop := ∃ hz : Nat, e = .returned (.int .u64 (hz : Int)) ∧ HorOf nx ps hz ∧ U64 hz ∧ Quiet w w'

set_option maxHeartbeats 1000000 in
set_option maxRecDepth 100000 in
theorem snap_horizon {w : World} {F S : Nat → Prop} {lb c : Nat} {L : List Nat} {A : Option Addr} {ps : List SnapP} (h : LogAt w F lb L) (hL : L.length < 1000000000) (hr : Rd w S 4 A ps.length (ps.flatMap cellsP)) (hn : ps.length ≤ 10000000) (hu : ∀ p ∈ ps, U64 p.1.xmin) :
    Calls Tryz.prog 61 #[.pointer (some ⟨lb, 0, none⟩), .slice A ps.length c] w (HorPost w (L.length + 1) ps) := by
  have HNX := Lib.hid (log_next h)
  have HR := Lib.hid hr
  have HU := Lib.hid hu
  obtain ⟨nx, hnx⟩ : ∃ nx, L.length + 1 = nx := ⟨_, rfl⟩
  have hnu : U64 nx := by unfold U64; omega
  have HNU := Lib.hid hnu
  rw [hnx]
  obtain ⟨n, hn2⟩ : ∃ n, ps.length = n := ⟨_, rfl⟩
  have HN := Lib.hid hn2
  rw [hn2] at hn ⊢
  obtain ⟨POST, hPOST⟩ : ∃ POST, HorPost w nx ps = POST := ⟨_, rfl⟩
  rw [hPOST]
  have HPOST := Lib.hid hPOST
  have HE : Hid (((L.length : Int) + 1) = (nx : Int)) := by show _ = _; omega
  clear h hL hr hu hn2 hPOST hnu hnx
  go_enter Tryz.func61, Tryz.ntmps61
  go_wp2_with fail
  refine HNX.out.mono ?_
  rintro e w1 ⟨rfl, m, rfl⟩
  rw [HE.out]
  have HQ1 : Hid (Quiet w (w.drewN m)) := (Only.refl (fun _ => False) w).drewN m
  clear HNX HE
  generalize w.drewN m = w1 at *
  go_wp2_with fail
  go_loopw [12, 5, 6, 7] (fun i v _ _ wr => ∃ (k hz : Nat), k ≤ n ∧ i = .int .i64 (k : Int) ∧ v = .int .u64 (hz : Int) ∧ HorOf nx (ps.take k) hz ∧ U64 hz ∧ Quiet w wr) (fun i _ _ _ _ => n - (intOf i).toNat)
  case atStart => exact ⟨0, nx, Nat.zero_le _, rfl, rfl, HorOf.start nx, HNU.out, HQ1.out⟩
  case round =>
    obtain ⟨k, hz, hk, rfl, rfl, hH, hz64, hq⟩ := hrel
    have HH := Lib.hid hH
    have HZ := Lib.hid hz64
    have HQ := Lib.hid hq
    clear hH hz64 hq
    by_cases hlt : k < n
    · obtain ⟨p, hp⟩ : ∃ p, ps[k]? = some p := ⟨_, List.getElem?_eq_getElem (by have := HN.out; omega)⟩
      obtain ⟨k0, k1, k2, k3⟩ := rowP_get ps k p hp
      have hlen := (List.getElem?_eq_some_iff.1 k0).1
      obtain ⟨b, off, rfl, _, hc⟩ := (HR.out.kept HQ.out (fun _ _ x => x)).cells (by omega)
      have c0 := hc _ _ k0
      have c1 := hc _ _ k1
      have c2 := hc _ _ k2
      have c3 := hc _ _ k3
      rw [← Nat.add_assoc] at c1 c2 c3
      have hlb := cell_lt c0
      dsimp only at hlb
      have HU2 : Hid (U64 p.1.xmin) := HU.out p (List.mem_of_getElem? hp)
      have HT : Hid (ps.take (k + 1) = ps.take k ++ [p]) := by show _ = _; rw [List.take_add_one, hp]; rfl
      have HTL : Hid ((ps.take k).length = k) := by show _ = _; rw [List.length_take]; have := HN.out; omega
      have HQ5 : Hid (Quiet w (wr.alloc (.cells #[.int .u64 (p.1.own : Int), .int .u64 (p.1.xmin : Int), .int .u64 (p.1.xmax : Int), .slice p.2.1 p.1.run.length p.2.2] 70))) := HQ.out.alloc _
      clear hc hlen k0 k1 k2 k3
      by_cases h0 : k = 0 ∨ p.1.xmin < hz
      · have HN1 : Hid (HorOf nx (ps.take (k + 1)) p.1.xmin) := by
          show HorOf _ _ _
          rw [HT.out]
          exact HH.out.take_ (by rcases h0 with x | x; left; subst x; rfl; right; exact x)
        clear HH HT HTL
        by_cases hk0 : k = 0
        · subst hk0
          simp only [Nat.zero_mul, Nat.add_zero] at c0 c1 c2 c3
          go_wp2
          go_roundw
          case rel => exact ⟨1, p.1.xmin, by omega, by go_num, rfl, HN1.out, HU2.out, HQ5.out⟩
          case measure => simp [intOf]; omega
        · have hx : (p.1.xmin : Int) < (hz : Int) := by rcases h0 with x | x; exact absurd x hk0; omega
          have hki : ¬ (k : Int) = 0 := by omega
          go_wp2
          go_roundw
          case rel => exact ⟨k + 1, p.1.xmin, by omega, by go_num, rfl, HN1.out, HU2.out, HQ5.out⟩
          case measure => simp [intOf]; omega
      · have hk0 : ¬ (k : Int) = 0 := by omega
        have hx : ¬ (p.1.xmin : Int) < (hz : Int) := by omega
        have HN1 : Hid (HorOf nx (ps.take (k + 1)) hz) := by
          show HorOf _ _ _
          rw [HT.out]
          exact HH.out.leave (fun e => by have := HTL.out; rw [e] at this; simp at this; omega) (by omega)
        clear HH HT HTL h0
        go_wp2
        go_roundw
        case rel => exact ⟨k + 1, hz, by omega, by go_num, rfl, HN1.out, HZ.out, HQ5.out⟩
        case measure => simp [intOf]; omega
    · obtain rfl : k = n := by omega
      have HEND : Hid (POST (.returned (.int .u64 (hz : Int))) wr) := by
        rw [← HPOST.out]
        have := HH.out
        rw [List.take_of_length_le (by have := HN.out; omega)] at this
        exact ⟨hz, rfl, this, HZ.out, HQ.out⟩
      clear HH
      go_wp2
      exact HEND.out

end Go.Proofs.YtmkaomglecfmfaaGreatDoor

namespace Go.Proofs.YtmkaomglecfmfaaGreatDoor
open Go.RowKit Go.Lap Go.Maps

/-- What the store's Horizon tells. -/
structure HorSt (s : St) (hz : Nat) : Prop where
  none_ : (∀ x, s.sn x = none) → hz = s.L.length + 1
  some_ : (∃ x y, s.sn x = some y) → ∃ x y, s.sn x = some y ∧ hz = y.xmin
  least : ∀ x y, s.sn x = some y → hz ≤ y.xmin
  num : U64 hz

def StoreHorPost (w : World) (s : St) (e : Ending) (w' : World) : Prop := ∃ hz : Nat, e = .returned (.int .u64 (hz : Int)) ∧ HorSt s hz ∧ Quiet w w'

theorem encP_inj {p : SnapP} {y : Snap} {A : Option Addr} {c : Nat} (h : encP p = snapV y A c) : p.1.xmin = y.xmin := by
  have h' : (#[Value.int .u64 (p.1.own : Int), .int .u64 (p.1.xmin : Int), .int .u64 (p.1.xmax : Int), .slice p.2.1 p.1.run.length p.2.2] : Array Value) = #[.int .u64 (y.own : Int), .int .u64 (y.xmin : Int), .int .u64 (y.xmax : Int), .slice A y.run.length c] := by injection h
  have h2 := congrArg (fun a : Array Value => a[1]?) h'
  simp at h2
  omega

/-- All that the iterator gives are the store's snapshots. -/
theorem hor_done {w : World} {o : Nat → Nat} {s : St} {fs : Nat → Option Value} {ps : List SnapP} {hz : Nat} (h : SnapsIn w o s.sn fs) (hv : ValsOf fs (ps.map encP)) (hh : HorOf (s.L.length + 1) ps hz) (hu : U64 hz) : HorSt s hz := by
  have back : ∀ p ∈ ps, ∃ x y, s.sn x = some y ∧ p.1.xmin = y.xmin := fun p hp => by
    obtain ⟨x, hx⟩ := hv.each (encP p) (List.mem_map_of_mem hp)
    cases hs : s.sn x with
    | none => rw [h.1 x hs] at hx; cases hx
    | some y =>
      obtain ⟨A, c, e, _⟩ := h.2 x y hs
      rw [e] at hx
      injection hx with hx
      exact ⟨x, y, hs, encP_inj hx.symm⟩
  have forth : ∀ x y, s.sn x = some y → ∃ p ∈ ps, p.1.xmin = y.xmin := fun x y hs => by
    obtain ⟨A, c, e, _⟩ := h.2 x y hs
    obtain ⟨p, hp, hpe⟩ := List.mem_map.1 (hv.all x _ e)
    exact ⟨p, hp, encP_inj hpe⟩
  refine ⟨fun hn => hh.none_ ?_, fun ⟨x, y, hs⟩ => ?_, fun x y hs => ?_, hu⟩
  · rcases ps with _ | ⟨p, ps⟩
    · rfl
    · obtain ⟨x, y, hs, _⟩ := back p (List.mem_cons_self ..)
      rw [hn x] at hs
      cases hs
  · obtain ⟨p, hp, _⟩ := forth x y hs
    obtain ⟨q, hq, e⟩ := hh.some_ (fun e => by rw [e] at hp; cases hp)
    obtain ⟨x', y', h1, h2⟩ := back q hq
    exact ⟨x', y', h1, e.trans h2⟩
  · obtain ⟨p, hp, e⟩ := forth x y hs
    rw [← e]
    exact hh.least p hp

set_option maxHeartbeats 400000 in
set_option maxRecDepth 100000 in
theorem maps_vals (ms : Nat) (w : World) : Calls Tryz.prog 63 #[.map (some ms)] w fun e w' => e = .returned (.func (.func 93) #[] #[.pointer (some ⟨w.heap.size, 0, none⟩)]) ∧ Quiet w w' ∧ w'.heap[w.heap.size]? = some (.cells #[.map (some ms)] 65 (0, 0)) := by
  go_enter Tryz.func63, Tryz.ntmps63
  go_wp2
  go_ret
  exact ⟨rfl, (Only.refl _ _).alloc _, alloc_new _ _⟩

theorem vals_gives {w : World} {o : Nat → Nat} {sn : Nat → Option Snap} {ms Bm N : Nat} {fs : Nat → Option Value} (hm : MapF w ms fs) (hs : SnapsIn w o sn fs) (hN : ∀ x y, sn x = some y → x ≤ N) (hN2 : N ≤ 2000000) (hB : w.heap[Bm]? = some (.cells #[.map (some ms)] 65 (0, 0))) :
    ∃ M, M ≤ N + 1 ∧ SeqGives Fence.wide 4 Tryz.prog 93 #[.pointer (some ⟨Bm, 0, none⟩)] encP (fun ps => ValsOf fs (ps.map encP) ∧ ps.length ≤ M) M w := by
  have hx : ∀ x v, fs x = some v → ∃ y A c, sn x = some y ∧ v = snapV y A c := fun x v h => by
    cases e : sn x with
    | none => rw [hs.1 x e] at h; cases h
    | some y =>
      obtain ⟨A, c, e2, _⟩ := hs.2 x y e
      rw [e2] at h
      injection h with h
      exact ⟨y, A, c, rfl, h.symm⟩
  obtain ⟨D, h1, h2, h3, h4⟩ := hm.owns Tryz.underlying28 (N := N) (fun x v h => by obtain ⟨y, A, c, e, _⟩ := hx x v h; exact hN x y e) (by unfold maxLen; omega)
  refine ⟨Maps.size D, h2, fun l J W hW hJ hY h0 => ?_⟩
  have hown' : W.ownsMap Tryz.prog 28 heldR ms (N + 1) D := by
    have hbl := h1.lt
    obtain ⟨es, clock, hb, Ft, hs', hD⟩ := h1
    exact ⟨es, clock, (hW.block ms hbl).trans hb, Ft, hs', hD⟩
  have hb2 : W.heap[Bm]? = some (.cells #[.map (some ms)] 65 (0, 0)) := (hW.block Bm (lt_of_get hB)).trans hB
  exact vals_in Fence.wide 4 trivial rfl (by omega) l Bm ms (N + 1) D fs h3 h4 (fun x v h => by obtain ⟨y, A, c, _, e⟩ := hx x v h; exact ⟨(y, A, c), e⟩) J hY W hJ (by rw [cell_of hb2]; rfl) hown' h0

def CollPost (w : World) (fs : Nat → Option Value) (N : Nat) (e : Ending) (w' : World) : Prop :=
  ∃ A c, ∃ ps : List SnapP, e = .returned (.slice A ps.length c) ∧ ValsOf fs (ps.map encP) ∧ ps.length ≤ N ∧ Quiet w w' ∧ Rd w' (fun _ => True) 4 A ps.length (ps.flatMap cellsP)

set_option maxRecDepth 100000 in
theorem collect_vals {w : World} {o : Nat → Nat} {sn : Nat → Option Snap} {ms Bm N : Nat} {fs : Nat → Option Value} (hm : MapF w ms fs) (hs : SnapsIn w o sn fs) (hN : ∀ x y, sn x = some y → x ≤ N) (hN2 : N ≤ 2000000) (hB : w.heap[Bm]? = some (.cells #[.map (some ms)] 65 (0, 0))) :
    Calls Tryz.prog 62 #[.func (.func 93) #[] #[.pointer (some ⟨Bm, 0, none⟩)]] w (CollPost w fs (N + 1)) := by
  obtain ⟨M, hM, hg⟩ := vals_gives hm hs hN hN2 hB
  have eg : ∀ args w, (callFunc 93 args).run Tryz.prog w = .ok (.enter 93 args) w := enters_of Tryz.func93 (by kernel_rfl) rfl
  refine (callsIn_wide.1 (collect_in Fence.wide 6 trivial trivial rfl (by omega) 93 #[.pointer (some ⟨Bm, 0, none⟩)] trivial eg _ M (by unfold maxLen; omega) (by omega) w hg)).mono ?_
  rintro e w' ⟨v, ps, rfl, ⟨hv, hl⟩, hrow, _, hb⟩
  obtain ⟨A, c, rfl, _, _, hrd⟩ := own_form (ownsRow_base_a hrow (Nat.zero_le _))
  exact ⟨A, c, ps, rfl, hv, by omega, ⟨hb.os, hb.tape, hb.output, hb.size, fun k hk _ => hb.block k hk⟩, hrd.mono (fun _ _ => trivial)⟩

set_option maxHeartbeats 1000000 in
set_option maxRecDepth 100000 in
theorem store_horizon {w : World} {sb N : Nat} {o : Nat → Nat} {s : St} (h : StoreAt w sb o s) (hL : s.L.length < 1000000000) (hN : ∀ x y, s.sn x = some y → x ≤ N) (hN2 : N ≤ 2000000) :
    Calls Tryz.prog 29 #[ptrV sb] w (StoreHorPost w s) := by
  obtain ⟨lb, bb, pb, mh, mt, ms, fh, ft, fs, h⟩ := h
  have HH := Lib.hid h
  have HN := Lib.hid (And.intro hN (And.intro hN2 hL))
  have HS3 : Hid (∀ W, Quiet w W → (fun w' => w'.cell? ⟨sb, 0, none⟩ = some (ptrV lb) ∧ w'.cell? ⟨sb, 5, none⟩ = some (.map (some ms))) W) := fun W hq => by
    have c := (HH.out.quietly hq).cells
    exact ⟨c.1, c.2.2.2.2.2.1⟩
  obtain ⟨POST, hPOST⟩ : ∃ POST, StoreHorPost w s = POST := ⟨_, rfl⟩
  rw [hPOST]
  have HPOST := Lib.hid hPOST
  clear h hL hN hN2 hPOST
  go_enter Tryz.func29, Tryz.ntmps29
  go_wp2_with fail
  refine wp_region_held_drew (S := (fun w' => w'.cell? ⟨sb, 0, none⟩ = some (ptrV lb) ∧ w'.cell? ⟨sb, 5, none⟩ = some (.map (some ms)))) (by kernel_rfl) (HS3.out _ ((Only.refl _ _).drew)) (fun hHeld => ?_)
  simp only [List.size_toArray, List.length_cons, List.length_nil, Nat.reduceAdd]
  have q0 : Quiet w w.drew := (Only.refl _ _).drew
  generalize w.drew = d0 at q0 hHeld ⊢
  (refine zTK 0 (oi := ?_) (v := ?_) ?_ ?_ (Or.inl ⟨?_, ?_⟩) ?_; rotate_left 2; (focus (simp only [zGA, zGZ, zGS] <;> rfl)); (focus (exact fun _ _ _ h => h)); (focus rfl); (focus (intro w hSw; (try dsimp only at hSw); go_simp; (try with_reducible rfl); done)); (try simp only [Act.put, zPA, zPZ, zPS]))
  (refine zTK 1 (oi := ?_) (v := ?_) ?_ ?_ (Or.inl ⟨?_, ?_⟩) ?_; rotate_left 2; (focus (simp only [zGA, zGZ, zGS] <;> rfl)); (focus (exact fun _ _ _ h => h)); (focus rfl); (focus (intro w hSw; (try dsimp only at hSw); go_simp; (try with_reducible rfl); done)); (try simp only [Act.put, zPA, zPZ, zPS]))
  (refine zTK 2 (oi := ?_) (v := ?_) ?_ ?_ (Or.inl ⟨?_, ?_⟩) ?_; rotate_left 2; (focus (simp only [zGA, zGZ, zGS] <;> rfl)); (focus (exact fun _ _ _ h => h)); (focus rfl); (focus (intro w hSw; (try dsimp only at hSw); go_simp; (try with_reducible rfl); done)); (try simp only [Act.put, zPA, zPZ, zPS]))
  (refine zTK 3 (oi := ?_) (v := ?_) ?_ ?_ (Or.inl ⟨?_, ?_⟩) ?_; rotate_left 2; (focus (simp only [zGA, zGZ, zGS] <;> rfl)); (focus (exact fun _ _ _ h => h)); (focus rfl); (focus (intro w hSw; (try dsimp only at hSw); go_simp; (try with_reducible rfl); done)); (try simp only [Act.put, zPA, zPZ, zPS]))
  (refine zTK 4 (oi := ?_) (v := ?_) ?_ ?_ (Or.inl ⟨?_, ?_⟩) ?_; rotate_left 2; (focus (simp only [zGA, zGZ, zGS] <;> rfl)); (focus (exact fun _ _ _ h => h)); (focus rfl); (focus (intro w hSw; (try dsimp only at hSw); go_simp; (try with_reducible rfl); done)); (try simp only [Act.put, zPA, zPZ, zPS]))
  (refine zTK 5 (oi := ?_) (v := ?_) ?_ ?_ (Or.inl ⟨?_, ?_⟩) ?_; rotate_left 2; (focus (simp only [zGA, zGZ, zGS] <;> rfl)); (focus (exact fun _ _ _ h => h)); (focus rfl); (focus (intro w hSw; (try dsimp only at hSw); go_simp; (try with_reducible rfl); done)); (try simp only [Act.put, zPA, zPZ, zPS]))
  (refine zTK 6 (oi := ?_) (v := ?_) ?_ ?_ (Or.inl ⟨?_, ?_⟩) ?_; rotate_left 2; (focus (simp only [zGA, zGZ, zGS] <;> rfl)); (focus (exact fun _ _ _ h => h)); (focus rfl); (focus (intro w hSw; (try dsimp only at hSw); go_simp; (try with_reducible rfl); done)); (try simp only [Act.put, zPA, zPZ, zPS]))
  (refine zTK 7 (oi := ?_) (v := ?_) ?_ ?_ (Or.inl ⟨?_, ?_⟩) ?_; rotate_left 2; (focus (simp only [zGA, zGZ, zGS] <;> rfl)); (focus (exact fun _ _ _ h => h)); (focus rfl); (focus (intro w hSw; (try dsimp only at hSw); go_simp; (try with_reducible rfl); done)); (try simp only [Act.put, zPA, zPZ, zPS]))
  refine wpAnyH_ready (rs := [8]) (by kernel_rfl) (by simp) ?_
  refine AllReadyH.cons (o := ?_) ?_ ?_ AllReadyH.nil
  rotate_left 1
  (focus (simp only [zGA, zGZ, zGS] <;> rfl))
  intro K hK
  go_simp
  go_at_call 63
  refine (maps_vals ms _).mono ?_
  rintro e d1 ⟨rfl, hq1, hb1⟩
  have q1 := q0.trans hq1
  dsimp only
  refine hK.out _ _ ?_ (fun hHeld => ?_)
  · exact HS3.out _ q1
  clear hK K
  (try simp only [Act.put, zPA, zPZ, zPS])
  obtain ⟨Bm, hBm⟩ : ∃ Bm, d0.heap.size = Bm := ⟨_, rfl⟩
  rw [hBm] at hb1
  (try rw [hBm])
  refine wpAnyH_ready (rs := [9]) (by kernel_rfl) (by simp) ?_
  refine AllReadyH.cons (o := ?_) ?_ ?_ AllReadyH.nil
  rotate_left 1
  (focus (simp only [zGA, zGZ, zGS] <;> rfl))
  intro K hK
  go_simp
  go_at_call 62
  refine (collect_vals (Bm := Bm) (HH.out.quietly q1).mS (HH.out.quietly q1).snaps HN.out.1 HN.out.2.1 hb1).mono ?_
  rintro e d2 ⟨A2, c2, ps, rfl, hv2, hl2, hq2, hr2⟩
  have q2 := q1.trans hq2
  dsimp only
  refine hK.out _ _ ?_ (fun hHeld => ?_)
  · exact HS3.out _ q2
  clear hK K
  (try simp only [Act.put, zPA, zPZ, zPS])
  refine wpAnyH_ready (rs := [10]) (by kernel_rfl) (by simp) ?_
  refine AllReadyH.cons (o := ?_) ?_ ?_ AllReadyH.nil
  rotate_left 1
  (focus (simp only [zGA, zGZ, zGS] <;> rfl))
  intro K hK
  go_simp
  go_at_call 61
  refine (snap_horizon (HH.out.quietly q2).log HN.out.2.2 hr2 (by have := HN.out.2.1; omega) (fun p hp => by
      obtain ⟨x, hx⟩ := hv2.each (encP p) (List.mem_map_of_mem hp)
      cases hs : s.sn x with
      | none => rw [HH.out.snaps.1 x hs] at hx; cases hx
      | some y =>
        obtain ⟨A, c, e, hsv⟩ := HH.out.snaps.2 x y hs
        rw [e] at hx
        injection hx with hx
        rw [encP_inj hx.symm]
        exact hsv.num.2.1)).mono ?_
  rintro e d3 ⟨hz, rfl, hh3, hu3, hq3⟩
  have q3 := q2.trans hq3
  dsimp only
  refine hK.out _ _ ?_ (fun hHeld => ?_)
  · exact HS3.out _ q3
  clear hK K
  (try simp only [Act.put, zPA, zPZ, zPS])
  (refine zTK 11 (oi := ?_) (v := ?_) ?_ ?_ (Or.inl ⟨?_, ?_⟩) ?_; rotate_left 2; (focus (simp only [zGA, zGZ, zGS] <;> rfl)); (focus (exact fun _ _ _ h => h)); (focus rfl); (focus (intro w hSw; (try dsimp only at hSw); go_simp; (try with_reducible rfl); done)); (try simp only [Act.put, zPA, zPZ, zPS]))
  refine wpAnyH_done (by kernel_rfl) ?_ _
  have HEND : Hid (POST (.returned (.int .u64 (hz : Int))) d3) := by
    rw [← HPOST.out]
    exact ⟨hz, rfl, hor_done HH.out.snaps hv2 hh3 hu3, q3⟩
  clear hHeld q0 q1 q2 q3 hq1 hq2 hq3 hb1 hv2 hl2 hr2 hh3 hu3 HS3
  go_wp2
  exact HEND.out

end Go.Proofs.YtmkaomglecfmfaaGreatDoor

namespace Go.Proofs.YtmkaomglecfmfaaGreatDoor
open Go.RowKit Go.Lap

section
variable {w w' : World} {sb : Nat} {o : Nat → Nat} {s : St} {lb bb pb mh mt ms : Nat} {fh ft fs : Nat → Option Value}

/-- A tree more. -/
theorem StoreRow.newTree {id tb B : Nat} {es : List Ent} (h : StoreRow w sb o s lb bb pb mh mt ms fh ft fs) (hB : ∀ k, B ≤ k → o k = 0) (hBw : B ≤ w.heap.size) (ho : Only (fun k => k = mt) w w') (hm : MapF w' mt (upd ft id (some (ptrV tb)))) (hl : TreeIs w' (fun k => B ≤ k) tb es) :
    StoreRow w' sb (grow o B w'.heap.size (11 + 2 * id)) { s with ts := upd s.ts id (some es) } lb bb pb mh mt ms fh (upd ft id (some (ptrV tb))) fs := by
  obtain ⟨t1, t2, t3, t4, t5⟩ := h.tags
  have hg : OwnOn o (grow o B w'.heap.size (11 + 2 * id)) := OwnOn.grow hB
  have hn : ∀ k, k = mt → o k = 7 := fun k x => by rw [x]; exact t4
  refine ⟨ho.get h.box (fun x => by have := hn _ x; omega), logK h.log ho hg (by omega) (fun k x => by have := hn _ x; omega), bookK h.book ho hg (by omega) (fun k x => by have := hn _ x; omega), h.pool.kept ho (fun x => by have := hn _ x; omega),
    h.mH.kept ho (fun x => by have := hn _ x; omega), hm, h.mS.kept ho (fun x => by have := hn _ x; omega), ⟨by rw [hg _ (by omega)]; exact t1, by rw [hg _ (by omega)]; exact t2, by rw [hg _ (by omega)]; exact t3, by rw [hg _ (by omega)]; exact t4, by rw [hg _ (by omega)]; exact t5⟩, fun k hk => grow_big hB (Nat.le_trans hBw ho.size) hk,
    heapsK h.heaps ho hg (fun k x i H _ => by have := hn _ x; omega), ⟨fun i hi => ?_, fun i es' hi => ?_⟩, snapsK h.snaps ho hg (fun k x => by have := hn _ x; omega), h.num⟩
  · by_cases e : i = id
    · subst e; simp [upd] at hi
    · have := h.trees.1 i (by simpa [upd, e] using hi)
      simpa [upd, e] using this
  · by_cases e : i = id
    · subst e
      have : es = es' := by simpa [upd] using hi
      subst this
      exact ⟨tb, by simp [upd], hl.mono (fun k hk hlt => grow_new hk hlt)⟩
    · obtain ⟨tb2, e2, h2⟩ := h.trees.2 i es' (by simpa [upd, e] using hi)
      exact ⟨tb2, by simpa [upd, e] using e2, treeK h2 ho hg (by omega) (fun k x => by have := hn _ x; omega)⟩
end

theorem elem_intE : Elem Tryz.prog 48 3 1 8 := Elem.mk' (.int .i64 0) Tryz.underlying48 (by kernel_rfl) rfl (by decide)

def intsV (l : List Nat) : List Value := l.map (fun (n : Nat) => .int .i64 (n : Int))

theorem one_intE (n : Nat) : ∀ u ∈ [Value.int .i64 (n : Int)], u.oneCell' = true := by
  intro u hu
  rw [List.mem_singleton] at hu
  rw [hu]
  rfl

/-- A row of numbers, on its way. -/
structure IntsW (w wr : World) (v : Value) (l : List Nat) : Prop where
  quiet : Quiet w wr
  new : ∀ k, v.ownBlock = some k → w.heap.size ≤ k
  own : wr.ownsRow 0 3 1 v l.length (intsV l)

theorem IntsW.start {w wr : World} (h : Quiet w wr) : IntsW w wr (.slice none 0 0) [] := ⟨h, (fun k e => by cases e), World.ownsRow_nil _ _ _ _⟩
theorem IntsW.quietly {w wr w' : World} {v : Value} {l : List Nat} (h : IntsW w wr v l) (hq : Quiet wr w') : IntsW w w' v l := ⟨h.quiet.trans hq, h.new, owns_kept h.own hq (fun _ _ x => x)⟩
theorem IntsW.from {w0 w wr : World} {v : Value} {l : List Nat} (h : IntsW w wr v l) (hq : Quiet w0 w) : IntsW w0 wr v l := ⟨hq.trans h.quiet, fun k e => Nat.le_trans hq.size (h.new k e), h.own⟩
theorem IntsW.push {w w3 w4 : World} {v v' : Value} {l : List Nat} {n : Nat} (h : IntsW w w3 v l) (hg : Grew w3 w4 3 1 v v' (l.length + 1) (intsV l ++ [.int .i64 (n : Int)])) : IntsW w w4 v' (l ++ [n]) := by
  have hsz := h.quiet.size
  refine ⟨h.quiet.trans' hg.only (fun k hk e => by have := h.new k e; omega), fun k e => ?_, ?_⟩
  · rcases hg.loc with y | y
    · rw [y] at e; exact h.new k e
    · rw [y] at e; injection e with e; omega
  · rw [List.length_append]
    have e1 : intsV (l ++ [n]) = intsV l ++ [.int .i64 (n : Int)] := by simp [intsV]
    rw [e1]
    exact hg.own

/-- What Used and Entries tell. -/
def IntsPost (w : World) (l : List Nat) (e : Ending) (w' : World) : Prop := ∃ v, e = .returned v ∧ IntsW w w' v l

theorem IdxsW.join {w wr w4 : World} {v v' : Value} {l m : List IE} (h : IdxsW w wr v l) (hg : Grew wr w4 80 6 v v' (l.length + m.length) (idxV l ++ idxV m)) : IdxsW w w4 v' (l ++ m) := by
  have hsz := h.quiet.size
  refine ⟨h.quiet.trans' hg.only (fun k hk e => by have := h.new k e; omega), fun k e => ?_, ?_⟩
  · rcases hg.loc with y | y
    · rw [y] at e; exact h.new k e
    · rw [y] at e; injection e with e; omega
  · rw [List.length_append, idxV_append]
    exact hg.own

theorem one_idxs (l : List IE) : ∀ u ∈ idxV l, u.oneCell' = true := by
  intro u hu
  obtain ⟨e, _, h⟩ := List.mem_flatMap.1 hu
  exact one_idx e u h

end Go.Proofs.YtmkaomglecfmfaaGreatDoor

namespace Go.Proofs.YtmkaomglecfmfaaGreatDoor
open Go.RowKit Go.Lap

/-- What table tells. -/
def TabvPost (w : World) (t : TE) (e : Ending) (w' : World) : Prop := ∃ A c, e = .returned (tabV t A c) ∧ Quiet w w' ∧ Rd w' (fun k => w.heap.size ≤ k) 2 A t.cols.length (colsV t.cols) ∧ t.cols.length ≤ c ∧ c ≤ maxLen

set_option maxHeartbeats 2000000 in
set_option maxRecDepth 100000 in
theorem store_table {w : World} {sb : Nat} {o : Nat → Nat} {s : St} {t : TE} (h : StoreAt w sb o s) (hT : s.T = [t]) :
    Calls Tryz.prog 28 #[ptrV sb, .int .u64 (t.id : Int)] w (TabvPost w t) := by
  obtain ⟨lb, bb, pb, mh, mt, ms, fh, ft, fs, h⟩ := h
  obtain ⟨_, c1, _⟩ := h.cells
  have hbk := h.book
  rw [hT] at hbk
  have lsb := cell_lt c1
  dsimp only at lsb
  have hq0 : Quiet w (w.alloc (.cells #[.int .u64 0, .string ⟨#[]⟩, .slice none 0 0, .int .u64 0, .int .u64 0] 86)) := (Only.refl _ _).alloc _
  have hb4 := alloc_new w (.cells #[.int .u64 0, .string ⟨#[]⟩, .slice none 0 0, .int .u64 0, .int .u64 0] 86)
  have HTB := Lib.hid (tables_one (hbk.kept hq0 (fun _ _ x => x)))
  obtain ⟨r4, hr4⟩ : ∃ r4, w.heap.size = r4 := ⟨_, rfl⟩
  rw [hr4] at hb4
  have HQ0 := Lib.hid hq0
  have HB4 := Lib.hid hb4
  have HR4 := Lib.hid hr4
  obtain ⟨POST, hPOST⟩ : ∃ POST, TabvPost w t = POST := ⟨_, rfl⟩
  rw [hPOST]
  have HPOST := Lib.hid hPOST
  have hne : ¬ sb = w.heap.size := by omega
  have hne4 : ¬ sb = r4 := by omega
  have lsb4 : sb < r4 := by omega
  clear h hbk hPOST
  go_enter Tryz.func28, Tryz.ntmps28
  go_wp2_with fail
  (try rw [hr4])
  generalize w.alloc (.cells #[.int .u64 0, .string ⟨#[]⟩, .slice none 0 0, .int .u64 0, .int .u64 0] 86) = w0 at *
  clear hq0 hb4 hr4
  refine HTB.out.mono ?_
  rintro e w1 ⟨b, cap, A, c, rfl, hO⟩
  have HO := Lib.hid hO
  obtain ⟨t0, t1, t2, t3, t4⟩ := hO.cells
  have lb1 := cell_lt t0
  dsimp only at lb1
  have hb4 := hO.quiet.get HB4.out (fun x => x)
  have z0 := cell_of hb4 0
  have z1 := cell_of hb4 1
  have z2 := cell_of hb4 2
  have z3 := cell_of hb4 3
  have z4 := cell_of hb4 4
  have zf := fun o => frozen_of hb4 o
  simp only [zGA, zGS, zGZ] at z0 z1 z2 z3 z4
  have lr4 := lt_of_get hb4
  have hEQ : ((t.id : Int) == (t.id : Int)) = true := by simp
  have HX := Lib.hid (alloc_old (fiveSet_same hb4 (.int .u64 (t.id : Int)) (.string t.name) (.slice A t.cols.length c) (.int .u64 (t.xmin : Int)) (.int .u64 (t.xmax : Int))) (.cells #[.int .u64 (t.id : Int), .string t.name, .slice A t.cols.length c, .int .u64 (t.xmin : Int), .int .u64 (t.xmax : Int)] 86))
  have HEND : Hid (POST (.returned (tabV t A c)) ((fiveSet w1 r4 (.int .u64 (t.id : Int)) (.string t.name) (.slice A t.cols.length c) (.int .u64 (t.xmin : Int)) (.int .u64 (t.xmax : Int))).alloc (.cells #[.int .u64 (t.id : Int), .string t.name, .slice A t.cols.length c, .int .u64 (t.xmin : Int), .int .u64 (t.xmax : Int)] 86))) := by
    rw [← HPOST.out]
    have ho := fiveSet_only w1 r4 (.int .u64 (t.id : Int)) (.string t.name) (.slice A t.cols.length c) (.int .u64 (t.xmin : Int)) (.int .u64 (t.xmax : Int))
    have hqa : Quiet (fiveSet w1 r4 (.int .u64 (t.id : Int)) (.string t.name) (.slice A t.cols.length c) (.int .u64 (t.xmin : Int)) (.int .u64 (t.xmax : Int))) ((fiveSet w1 r4 (.int .u64 (t.id : Int)) (.string t.name) (.slice A t.cols.length c) (.int .u64 (t.xmin : Int)) (.int .u64 (t.xmax : Int))).alloc (.cells #[.int .u64 (t.id : Int), .string t.name, .slice A t.cols.length c, .int .u64 (t.xmin : Int), .int .u64 (t.xmax : Int)] 86)) := (Only.refl _ _).alloc _
    have hz := HQ0.out.size
    have hl := lt_of_get HB4.out
    refine ⟨A, c, rfl, ((HQ0.out.trans HO.out.quiet).trans' ho (fun k hk e => by have := HR4.out; omega)).trans hqa, ((HO.out.cols.1.kept ho (fun k hk e => by have := hk.1; omega)).kept hqa (fun _ _ x => x)).mono (fun k hk => by have := hk.1; omega), HO.out.cols.2.1, HO.out.cols.2.2⟩
  unfold fiveSet at HX HEND
  unfold tabV at HEND
  clear hO hb4 HTB
  go_wp2
  refine wp_loop_rounds 1 ?_
  rw [rounds_succ]
  go_wp2
  exact bodyPost_ret (results_cellS Tryz.results28 _ _ r4 _ _ (0, 0) _ (by rfl) HX.out Tryz.underlying86 rfl info_tab) (by rfl) HEND.out

/-- What Book tells of one table. -/
def BookPost (w : World) (t : TE) (l : List IE) (e : Ending) (w' : World) : Prop := ∃ b cap A c v, e = .returned (.tuple #[.slice (some ⟨b, 0, none⟩) 1 cap, v]) ∧ OneTab w w' t b A c ∧ IdxsW w w' v l

set_option maxHeartbeats 4000000 in
set_option maxRecDepth 100000 in
theorem store_book {w : World} {sb : Nat} {o : Nat → Nat} {s : St} {t : TE} (h : StoreAt w sb o s) (hT : s.T = [t]) (hI : s.I.length ≤ 1000) :
    Calls Tryz.prog 43 #[ptrV sb] w (BookPost w t (keptI s.L t.id s.I)) := by
  obtain ⟨lb, bb, pb, mh, mt, ms, fh, ft, fs, h⟩ := h
  obtain ⟨c0, c1, _⟩ := h.cells
  have hbk := h.book
  rw [hT] at hbk
  have lsb := cell_lt c1
  dsimp only at lsb
  have HTB := Lib.hid (tables_one hbk)
  have HBK := Lib.hid hbk
  have HLG := Lib.hid h.log
  have HI := Lib.hid hI
  obtain ⟨POST, hPOST⟩ : ∃ POST, BookPost w t (keptI s.L t.id s.I) = POST := ⟨_, rfl⟩
  rw [hPOST]
  have HPOST := Lib.hid hPOST
  clear h hbk hPOST
  go_enter Tryz.func43, Tryz.ntmps43
  go_wp2_with fail
  refine HTB.out.mono ?_
  rintro e w1 ⟨b, cap, A, c, rfl, hO⟩
  obtain ⟨t0, t1, t2, t3, t4⟩ := hO.cells
  have lb1 := cell_lt t0
  dsimp only at lb1
  have hqa : Quiet w1 (w1.alloc (.cells #[.int .u64 (t.id : Int), .string t.name, .slice A t.cols.length c, .int .u64 (t.xmin : Int), .int .u64 (t.xmax : Int)] 86)) := (Only.refl _ _).alloc _
  have hba := alloc_new w1 (.cells #[.int .u64 (t.id : Int), .string t.name, .slice A t.cols.length c, .int .u64 (t.xmin : Int), .int .u64 (t.xmax : Int)] 86)
  obtain ⟨r7, hr7⟩ : ∃ r7, w1.heap.size = r7 := ⟨_, rfl⟩
  rw [hr7] at hba
  have HO := Lib.hid (hO.quietly hqa)
  have HBA := Lib.hid hba
  have HR7 := Lib.hid hr7
  have HC := Lib.hid (And.intro c0 c1)
  clear hO HTB hba c0
  go_wp2
  refine wp_loop_rounds 2 ?_
  rw [rounds_succ]
  go_wp2_with fail
  (try rw [hr7])
  generalize w1.alloc (.cells #[.int .u64 (t.id : Int), .string t.name, .slice A t.cols.length c, .int .u64 (t.xmin : Int), .int .u64 (t.xmax : Int)] 86) = w2 at *
  have hq2 := HO.out.quiet
  clear hqa hr7 t0 t1 t2 t3 t4 lb1
  have HS8 : Hid (∀ W, Quiet w2 W → (fun w' => w'.cell? ⟨sb, 1, none⟩ = some (ptrV bb) ∧ w'.cell? ⟨sb, 0, none⟩ = some (ptrV lb) ∧ w'.cell? ⟨r7, 0, none⟩ = some (.int .u64 (t.id : Int))) W) := fun W hq => ⟨(hq2.trans hq).cell HC.out.2 (fun x => x), (hq2.trans hq).cell HC.out.1 (fun x => x), by rw [cell_of (hq.get HBA.out (fun x => x))]; rfl⟩
  have HKEEP : Hid (∀ W, Quiet w2 W → Calls Tryz.prog 83 #[ptrV bb, ptrV lb, .int .u64 (t.id : Int)] W (KeepPost W (keptI s.L t.id s.I))) := fun W hq => book_keep (HBK.out.kept (hq2.trans hq) (fun _ _ x => x)) (HLG.out.kept (hq2.trans hq) (fun _ _ x => x)) HI.out
  have HLK : Hid ((keptI s.L t.id s.I).length ≤ 1000) := Nat.le_trans (List.length_filter_le _ _) HI.out
  obtain ⟨kl, hkl⟩ : ∃ kl, keptI s.L t.id s.I = kl := ⟨_, rfl⟩
  rw [hkl] at HKEEP HPOST HLK
  clear hkl
  obtain ⟨m, hm⟩ : ∃ m, kl.length = m := ⟨_, rfl⟩
  have HM := Lib.hid hm
  rw [hm] at HLK
  clear hm hq2 c1
  refine wp_region_held_drew (S := (fun w' => w'.cell? ⟨sb, 1, none⟩ = some (ptrV bb) ∧ w'.cell? ⟨sb, 0, none⟩ = some (ptrV lb) ∧ w'.cell? ⟨r7, 0, none⟩ = some (.int .u64 (t.id : Int)))) (by kernel_rfl) (HS8.out _ ((Only.refl _ _).drew)) (fun hHeld => ?_)
  simp only [List.size_toArray, List.length_cons, List.length_nil, Nat.reduceAdd]
  have q0 : Quiet w2 w2.drew := (Only.refl _ _).drew
  generalize w2.drew = d0 at q0 hHeld ⊢
  (refine zTK 0 (oi := ?_) (v := ?_) ?_ ?_ (Or.inl ⟨?_, ?_⟩) ?_; rotate_left 2; (focus (simp only [zGA, zGZ, zGS] <;> rfl)); (focus (exact fun _ _ _ h => h)); (focus rfl); (focus (intro w hSw; (try dsimp only at hSw); go_simp; (try with_reducible rfl); done)); (try simp only [Act.put, zPA, zPZ, zPS]))
  (refine zTK 1 (oi := ?_) (v := ?_) ?_ ?_ (Or.inl ⟨?_, ?_⟩) ?_; rotate_left 2; (focus (simp only [zGA, zGZ, zGS] <;> rfl)); (focus (exact fun _ _ _ h => h)); (focus rfl); (focus (intro w hSw; (try dsimp only at hSw); go_simp; (try with_reducible rfl); done)); (try simp only [Act.put, zPA, zPZ, zPS]))
  (refine zTK 2 (oi := ?_) (v := ?_) ?_ ?_ (Or.inl ⟨?_, ?_⟩) ?_; rotate_left 2; (focus (simp only [zGA, zGZ, zGS] <;> rfl)); (focus (exact fun _ _ _ h => h)); (focus rfl); (focus (intro w hSw; (try dsimp only at hSw); go_simp; (try with_reducible rfl); done)); (try simp only [Act.put, zPA, zPZ, zPS]))
  (refine zTK 3 (oi := ?_) (v := ?_) ?_ ?_ (Or.inl ⟨?_, ?_⟩) ?_; rotate_left 2; (focus (simp only [zGA, zGZ, zGS] <;> rfl)); (focus (exact fun _ _ _ h => h)); (focus rfl); (focus (intro w hSw; (try dsimp only at hSw); go_simp; (try with_reducible rfl); done)); (try simp only [Act.put, zPA, zPZ, zPS]))
  (refine zTK 4 (oi := ?_) (v := ?_) ?_ ?_ (Or.inl ⟨?_, ?_⟩) ?_; rotate_left 2; (focus (simp only [zGA, zGZ, zGS] <;> rfl)); (focus (exact fun _ _ _ h => h)); (focus rfl); (focus (intro w hSw; (try dsimp only at hSw); go_simp; (try with_reducible rfl); done)); (try simp only [Act.put, zPA, zPZ, zPS]))
  (refine zTK 5 (oi := ?_) (v := ?_) ?_ ?_ (Or.inl ⟨?_, ?_⟩) ?_; rotate_left 2; (focus (simp only [zGA, zGZ, zGS] <;> rfl)); (focus (exact fun _ _ _ h => h)); (focus rfl); (focus (intro w hSw; (try dsimp only at hSw); go_simp; (try with_reducible rfl); done)); (try simp only [Act.put, zPA, zPZ, zPS]))
  (refine zTK 6 (oi := ?_) (v := ?_) ?_ ?_ (Or.inl ⟨?_, ?_⟩) ?_; rotate_left 2; (focus (simp only [zGA, zGZ, zGS] <;> rfl)); (focus (exact fun _ _ _ h => h)); (focus rfl); (focus (intro w hSw; (try dsimp only at hSw); go_simp; (try with_reducible rfl); done)); (try simp only [Act.put, zPA, zPZ, zPS]))
  (refine zTK 7 (oi := ?_) (v := ?_) ?_ ?_ (Or.inl ⟨?_, ?_⟩) ?_; rotate_left 2; (focus (simp only [zGA, zGZ, zGS] <;> rfl)); (focus (exact fun _ _ _ h => h)); (focus rfl); (focus (intro w hSw; (try dsimp only at hSw); go_simp; (try with_reducible rfl); done)); (try simp only [Act.put, zPA, zPZ, zPS]))
  (refine zTK 8 (oi := ?_) (v := ?_) ?_ ?_ (Or.inl ⟨?_, ?_⟩) ?_; rotate_left 2; (focus (simp only [zGA, zGZ, zGS] <;> rfl)); (focus (exact fun _ _ _ h => h)); (focus rfl); (focus (intro w hSw; (try dsimp only at hSw); go_simp; (try with_reducible rfl); done)); (try simp only [Act.put, zPA, zPZ, zPS]))
  (refine zTK 9 (oi := ?_) (v := ?_) ?_ ?_ (Or.inl ⟨?_, ?_⟩) ?_; rotate_left 2; (focus (simp only [zGA, zGZ, zGS] <;> rfl)); (focus (exact fun _ _ _ h => h)); (focus rfl); (focus (intro w hSw; (try dsimp only at hSw); go_simp; (try with_reducible rfl); done)); (try simp only [Act.put, zPA, zPZ, zPS]))
  (refine zTK 10 (oi := ?_) (v := ?_) ?_ ?_ (Or.inl ⟨?_, ?_⟩) ?_; rotate_left 2; (focus (simp only [zGA, zGZ, zGS] <;> rfl)); (focus (exact fun _ _ _ h => h)); (focus rfl); (focus (intro w hSw; (try dsimp only at hSw); go_simp; (try with_reducible rfl); done)); (try simp only [Act.put, zPA, zPZ, zPS]))
  refine wpAnyH_ready (rs := [11]) (by kernel_rfl) (by simp) ?_
  refine AllReadyH.cons (o := ?_) ?_ ?_ AllReadyH.nil
  rotate_left 1
  (focus (simp only [zGA, zGZ, zGS] <;> rfl))
  intro K hK
  go_simp
  go_at_call 83
  refine (HKEEP.out _ q0).mono ?_
  rintro e d1 ⟨vk, rfl, hkw⟩
  obtain ⟨Ak, ck, rfl, hck, hmk, hrk⟩ := own_form hkw.own
  have hkm := HM.out
  rw [hkm] at hck hrk ⊢
  have q1 := q0.trans hkw.quiet
  dsimp only
  refine hK.out _ _ ?_ (fun hHeld => ?_)
  · exact HS8.out _ q1
  clear hK K
  (try simp only [Act.put, zPA, zPZ, zPS])
  refine wpAnyH_ready (rs := [12]) (by kernel_rfl) (by simp) ?_
  refine AllReadyH.cons (o := ?_) ?_ ?_ AllReadyH.nil
  rotate_left 1
  (focus (simp only [zGA, zGZ, zGS] <;> rfl))
  intro K hK
  refine app_step elem_idx rfl (.tmp 21) (.tmp 32) rfl rfl (World.ownsRow_nil _ _ _ _) rfl hrk (one_idxs kl) (by have := HLK.out; unfold maxLen; omega) (by have := HLK.out; omega) ?_
  intro v3 d3 hg3
  have q3 : Quiet w2 d3 := q1.trans (hg3.only.mono (fun k _ e => by cases e))
  have hiw : IdxsW w d3 v3 kl := (IdxsW.start (HO.out.quiet.trans q1)).join (l := []) (by rw [hkm]; exact hg3)
  clear hg3
  refine hK.out _ _ ?_ (fun hHeld => ?_)
  · exact HS8.out _ q3
  clear hK K
  (try simp only [Act.put, zPA, zPZ, zPS])
  (refine zTK 13 (oi := ?_) (v := ?_) ?_ ?_ (Or.inl ⟨?_, ?_⟩) ?_; rotate_left 2; (focus (simp only [zGA, zGZ, zGS] <;> rfl)); (focus (exact fun _ _ _ h => h)); (focus rfl); (focus (intro w hSw; (try dsimp only at hSw); go_simp; (try with_reducible rfl); done)); (try simp only [Act.put, zPA, zPZ, zPS]))
  refine wpAnyH_done (by kernel_rfl) ?_ _
  have HOB := Lib.hid ((HO.out.quietly q3))
  have HIW := Lib.hid hiw
  clear hHeld q0 q1 q3 hiw HS8 HKEEP
  go_wp2
  rw [rounds_succ]
  have HEND : Hid (POST (.returned (.tuple #[.slice (some ⟨b, 0, none⟩) 1 cap, v3])) d3) := by
    rw [← HPOST.out]
    exact ⟨b, cap, A, c, v3, rfl, HOB.out, HIW.out⟩
  go_wp2
  exact HEND.out

set_option maxHeartbeats 4000000 in
set_option maxRecDepth 100000 in
theorem store_used {w : World} {sb : Nat} {o : Nat → Nat} {s : St} {t : TE} {H : List (List (Option Tup))} (h : StoreAt w sb o s) (hT : s.T = [t]) (hI : s.I.length ≤ 1000) (hid : U64 t.id) (hH : s.hs t.id = some H) :
    Calls Tryz.prog 15 #[ptrV sb] w (IntsPost w [usedH H]) := by
  have HBK := Lib.hid (store_book h hT hI)
  obtain ⟨lb, bb, pb, mh, mt, ms, fh, ft, fs, h⟩ := h
  obtain ⟨_, _, _, c3, _⟩ := h.cells
  have lsb := cell_lt c3
  dsimp only at lsb
  obtain ⟨hb, hf, hp⟩ := h.heaps.2 t.id H hH
  have HH := Lib.hid h
  have HF := Lib.hid hf
  have HP := Lib.hid hp
  have HID := Lib.hid hid
  obtain ⟨un, hun⟩ : ∃ un, usedH H = un := ⟨_, rfl⟩
  have HUN := Lib.hid hun
  rw [hun]
  obtain ⟨POST, hPOST⟩ : ∃ POST, IntsPost w [un] = POST := ⟨_, rfl⟩
  rw [hPOST]
  have HPOST := Lib.hid hPOST
  clear h hf hp hid hPOST hun
  go_enter Tryz.func15, Tryz.ntmps15
  go_wp2_with fail
  refine HBK.out.mono ?_
  rintro e w1 ⟨b, cap, A, c, v, rfl, hO, _⟩
  obtain ⟨t0, t1, t2, t3, t4⟩ := hO.cells
  have lb1 := cell_lt t0
  dsimp only at lb1
  have hqa : Quiet w1 (w1.alloc (.cells #[.int .u64 (t.id : Int), .string t.name, .slice A t.cols.length c, .int .u64 (t.xmin : Int), .int .u64 (t.xmax : Int)] 86)) := (Only.refl _ _).alloc _
  have hba := alloc_new w1 (.cells #[.int .u64 (t.id : Int), .string t.name, .slice A t.cols.length c, .int .u64 (t.xmin : Int), .int .u64 (t.xmax : Int)] 86)
  obtain ⟨r7, hr7⟩ : ∃ r7, w1.heap.size = r7 := ⟨_, rfl⟩
  rw [hr7] at hba
  have HQ2 := Lib.hid (hO.quiet.trans hqa)
  have HBA := Lib.hid hba
  have HC := Lib.hid c3
  clear hO HBK hba c3
  go_wp2
  refine wp_loop_rounds 2 ?_
  rw [rounds_succ]
  go_wp2_with fail
  (try rw [hr7])
  generalize w1.alloc (.cells #[.int .u64 (t.id : Int), .string t.name, .slice A t.cols.length c, .int .u64 (t.xmin : Int), .int .u64 (t.xmax : Int)] 86) = w2 at *
  clear hqa hr7 t0 t1 t2 t3 t4 lb1
  have HS6 : Hid (∀ W, Quiet w2 W → (fun w' => w'.cell? ⟨sb, 3, none⟩ = some (.map (some mh)) ∧ w'.cell? ⟨r7, 0, none⟩ = some (.int .u64 (t.id : Int)) ∧ (Instr.lookup 63 (.map (some mh)) (.int .u64 (t.id : Int)) false).run Tryz.prog w' = .ok (ptrV hb) w') W) := fun W hq => ⟨(HQ2.out.trans hq).cell HC.out (fun x => x), by rw [cell_of (hq.get HBA.out (fun x => x))]; rfl, look_heap (HH.out.mH.kept (HQ2.out.trans hq) (fun x => x)) HF.out HID.out⟩
  have HUSE : Hid (∀ W, Quiet w2 W → Calls Tryz.prog 44 #[ptrV hb] W (fun e w' => e = .returned (.int .i64 (un : Int)) ∧ Quiet W w')) := fun W hq => by
    refine (heap_used (HP.out.kept (HQ2.out.trans hq) (fun _ _ x => x))).mono ?_
    rintro e w' ⟨rfl, n, rfl⟩
    rw [HUN.out]
    exact ⟨rfl, (Only.refl _ _).drewN n⟩
  refine wp_region_held_drew (S := (fun w' => w'.cell? ⟨sb, 3, none⟩ = some (.map (some mh)) ∧ w'.cell? ⟨r7, 0, none⟩ = some (.int .u64 (t.id : Int)) ∧ (Instr.lookup 63 (.map (some mh)) (.int .u64 (t.id : Int)) false).run Tryz.prog w' = .ok (ptrV hb) w')) (by kernel_rfl) (HS6.out _ ((Only.refl _ _).drew)) (fun hHeld => ?_)
  simp only [List.size_toArray, List.length_cons, List.length_nil, Nat.reduceAdd]
  have q0 : Quiet w2 w2.drew := (Only.refl _ _).drew
  generalize w2.drew = d0 at q0 hHeld ⊢
  (refine zTK 0 (oi := ?_) (v := ?_) ?_ ?_ (Or.inl ⟨?_, ?_⟩) ?_; rotate_left 2; (focus (simp only [zGA, zGZ, zGS] <;> rfl)); (focus (exact fun _ _ _ h => h)); (focus rfl); (focus (intro w hSw; (try dsimp only at hSw); go_simp; (try with_reducible rfl); done)); (try simp only [Act.put, zPA, zPZ, zPS]))
  (refine zTK 1 (oi := ?_) (v := ?_) ?_ ?_ (Or.inl ⟨?_, ?_⟩) ?_; rotate_left 2; (focus (simp only [zGA, zGZ, zGS] <;> rfl)); (focus (exact fun _ _ _ h => h)); (focus rfl); (focus (intro w hSw; (try dsimp only at hSw); go_simp; (try with_reducible rfl); done)); (try simp only [Act.put, zPA, zPZ, zPS]))
  (refine zTK 2 (oi := ?_) (v := ?_) ?_ ?_ (Or.inl ⟨?_, ?_⟩) ?_; rotate_left 2; (focus (simp only [zGA, zGZ, zGS] <;> rfl)); (focus (exact fun _ _ _ h => h)); (focus rfl); (focus (intro w hSw; (try dsimp only at hSw); go_simp; (try with_reducible rfl); done)); (try simp only [Act.put, zPA, zPZ, zPS]))
  (refine zTK 3 (oi := ?_) (v := ?_) ?_ ?_ (Or.inl ⟨?_, ?_⟩) ?_; rotate_left 2; (focus (simp only [zGA, zGZ, zGS] <;> rfl)); (focus (exact fun _ _ _ h => h)); (focus rfl); (focus (intro w hSw; (try dsimp only at hSw); go_simp; (try with_reducible rfl); done)); (try simp only [Act.put, zPA, zPZ, zPS]))
  (refine zTK 4 (oi := ?_) (v := ?_) ?_ ?_ (Or.inl ⟨?_, ?_⟩) ?_; rotate_left 2; (focus (simp only [zGA, zGZ, zGS] <;> rfl)); (focus (exact fun _ _ _ h => h)); (focus rfl); (focus (intro w hSw; (try dsimp only at hSw); go_simp; (try with_reducible rfl); done)); (try simp only [Act.put, zPA, zPZ, zPS]))
  (refine zTK 5 (oi := ?_) (v := ?_) ?_ ?_ (Or.inl ⟨?_, ?_⟩) ?_; rotate_left 2; (focus (simp only [zGA, zGZ, zGS] <;> rfl)); (focus (exact fun _ _ _ h => h)); (focus rfl); (focus (intro w hSw; (try dsimp only at hSw); go_simp; (try with_reducible rfl); done)); (try simp only [Act.put, zPA, zPZ, zPS]))
  (refine zTK 6 (oi := ?_) (v := ?_) ?_ ?_ (Or.inl ⟨?_, ?_⟩) ?_; rotate_left 2; (focus (simp only [zGA, zGZ, zGS] <;> rfl)); (focus (exact fun _ _ _ h => h)); (focus rfl); (focus (intro w hSw; (try dsimp only at hSw); go_simp; (try with_reducible rfl); done)); (try simp only [Act.put, zPA, zPZ, zPS]))
  (refine zTK 7 (oi := ?_) (v := ?_) ?_ ?_ (Or.inl ⟨?_, ?_⟩) ?_; rotate_left 2; (focus (simp only [zGA, zGZ, zGS] <;> rfl)); (focus (exact fun _ _ _ h => h)); (focus rfl); (focus (intro w hSw; (try dsimp only at hSw); go_simp; (try with_reducible rfl); done)); (try simp only [Act.put, zPA, zPZ, zPS]))
  refine wpAnyH_ready (rs := [8]) (by kernel_rfl) (by simp) ?_
  refine AllReadyH.cons (o := ?_) ?_ ?_ AllReadyH.nil
  rotate_left 1
  (focus (simp only [zGA, zGZ, zGS] <;> rfl))
  intro K hK
  go_simp
  go_at_call 44
  refine (HUSE.out _ q0).mono ?_
  rintro e d1 ⟨rfl, hq1⟩
  have q1 := q0.trans hq1
  clear hq1
  dsimp only
  refine hK.out _ _ ?_ (fun hHeld => ?_)
  · exact HS6.out _ q1
  clear hK K
  (try simp only [Act.put, zPA, zPZ, zPS])
  refine wpAnyH_ready (rs := [9]) (by kernel_rfl) (by simp) ?_
  refine AllReadyH.cons (o := ?_) ?_ ?_ AllReadyH.nil
  rotate_left 1
  (focus (simp only [zGA, zGZ, zGS] <;> rfl))
  intro K hK
  go_simp
  refine hK.out _ _ ?_ (fun hHeld => ?_)
  · exact HS6.out _ ((q1.alloc _))
  clear hK K
  (try simp only [Act.put, zPA, zPZ, zPS])
  have q2 : Quiet w2 (d1.alloc (.cells #[.int .i64 (un : Int)] 3)) := q1.alloc _
  have hrd := Rd.one d1 (.int .i64 (un : Int)) 3 (0, 0) (S := fun _ => True) trivial
  obtain ⟨bu, hbu⟩ : ∃ bu, d1.heap.size = bu := ⟨_, rfl⟩
  rw [hbu] at hrd
  (try rw [hbu])
  generalize d1.alloc (.cells #[.int .i64 (un : Int)] 3) = d2 at *
  clear hbu
  refine wpAnyH_ready (rs := [10]) (by kernel_rfl) (by simp) ?_
  refine AllReadyH.cons (o := ?_) ?_ ?_ AllReadyH.nil
  rotate_left 1
  (focus (simp only [zGA, zGZ, zGS] <;> rfl))
  intro K hK
  refine app_step elem_intE rfl (.tmp 19) (.tmp 28) rfl rfl (World.ownsRow_nil _ _ _ _) rfl hrd (one_intE un) (by unfold maxLen; omega) (by omega) ?_
  intro v4 d4 hg4
  have q4 : Quiet w2 d4 := q2.trans (hg4.only.mono (fun k _ e => by cases e))
  have hiw : IntsW w2 d4 v4 [un] := (IntsW.start q2).push (l := []) hg4
  clear hg4 hrd
  refine hK.out _ _ ?_ (fun hHeld => ?_)
  · exact HS6.out _ q4
  clear hK K
  (try simp only [Act.put, zPA, zPZ, zPS])
  (refine zTK 11 (oi := ?_) (v := ?_) ?_ ?_ (Or.inl ⟨?_, ?_⟩) ?_; rotate_left 2; (focus (simp only [zGA, zGZ, zGS] <;> rfl)); (focus (exact fun _ _ _ h => h)); (focus rfl); (focus (intro w hSw; (try dsimp only at hSw); go_simp; (try with_reducible rfl); done)); (try simp only [Act.put, zPA, zPZ, zPS]))
  refine wpAnyH_done (by kernel_rfl) ?_ _
  have HEND : Hid (POST (.returned v4) d4) := by
    rw [← HPOST.out]
    exact ⟨v4, rfl, hiw.from HQ2.out⟩
  clear hHeld q0 q1 q2 q4 hiw HS6 HUSE
  go_wp2
  rw [rounds_succ]
  go_wp2
  exact HEND.out

set_option maxHeartbeats 4000000 in
set_option maxRecDepth 100000 in
theorem store_entries {w : World} {sb : Nat} {o : Nat → Nat} {s : St} {t : TE} (h : StoreAt w sb o s) (hT : s.T = [t]) (hI : s.I.length ≤ 1000) (hid : U64 t.id) (hx : ∀ e ∈ keptI s.L t.id s.I, U64 e.id ∧ ∃ es, s.ts e.id = some es) :
    Calls Tryz.prog 16 #[ptrV sb] w (IntsPost w ((keptI s.L t.id s.I).map (fun e => ((s.ts e.id).getD []).length))) := by
  have HBK := Lib.hid (store_book h hT hI)
  have HLK : Hid ((keptI s.L t.id s.I).length ≤ 1000) := Nat.le_trans (List.length_filter_le _ _) hI
  obtain ⟨lb, bb, pb, mh, mt, ms, fh, ft, fs, h⟩ := h
  obtain ⟨_, _, _, _, c4, _⟩ := h.cells
  have lsb := cell_lt c4
  dsimp only at lsb
  have HH := Lib.hid h
  have HX := Lib.hid hx
  obtain ⟨kl, hkl⟩ : ∃ kl, keptI s.L t.id s.I = kl := ⟨_, rfl⟩
  rw [hkl] at HBK HX HLK ⊢
  obtain ⟨m, hm⟩ : ∃ m, kl.length = m := ⟨_, rfl⟩
  rw [hm] at HLK
  have HM := Lib.hid hm
  have HC := Lib.hid c4
  obtain ⟨POST, hPOST⟩ : ∃ POST, IntsPost w (kl.map (fun e => ((s.ts e.id).getD []).length)) = POST := ⟨_, rfl⟩
  rw [hPOST]
  have HPOST := Lib.hid hPOST
  clear h hx hid hPOST hkl hm c4
  go_enter Tryz.func16, Tryz.ntmps16
  go_wp2_with fail
  refine HBK.out.mono ?_
  rintro e w1 ⟨b, cap, A, c, v, rfl, _, hW⟩
  obtain ⟨Ak, ck, rfl, hck, hmk, hrk⟩ := own_form hW.own
  have HQ1 := Lib.hid hW.quiet
  have HRK := Lib.hid hrk
  have hkm := HM.out
  rw [hkm] at hck ⊢
  unfold maxLen at hmk
  clear hW HBK hrk hkm
  go_wp2
  go_loopw [15, 3, 7] (fun i v _ wr => ∃ (k : Nat) (v' : Value), k ≤ m ∧ i = .int .i64 (k : Int) ∧ v = v' ∧ IntsW w1 wr v' ((kl.take k).map (fun e => ((s.ts e.id).getD []).length))) (fun i _ _ _ => m - (intOf i).toNat)
  case atStart => exact ⟨0, _, Nat.zero_le _, rfl, rfl, IntsW.start (Only.refl _ _)⟩
  case round =>
    obtain ⟨k, v', hk, rfl, rfl, hW⟩ := hrel
    have HW := Lib.hid hW
    clear hW
    by_cases hlt : k < m
    · obtain ⟨x, hx⟩ : ∃ x, kl[k]? = some x := ⟨_, List.getElem?_eq_getElem (by have := HM.out; omega)⟩
      obtain ⟨hxu, es, hes⟩ := HX.out x (List.mem_of_getElem? hx)
      obtain ⟨tb, hft, htr⟩ := HH.out.trees.2 x.id es hes
      have hrk := HRK.out.kept HW.out.quiet (fun _ _ x => x)
      obtain ⟨bk, ofk, rfl, _, hcc⟩ := hrk.cells (by rw [idxV_length]; have := HM.out; omega)
      obtain ⟨i0, i1, i2, i3, i4, i5⟩ := idxV_get kl k x hx
      have y0 := hcc _ _ i0
      have y1 := hcc _ _ i1
      have y2 := hcc _ _ i2
      have y3 := hcc _ _ i3
      have y4 := hcc _ _ i4
      have y5 := hcc _ _ i5
      rw [← Nat.add_assoc] at y1 y2 y3 y4 y5
      have ly := cell_lt y0
      dsimp only at ly
      have HX1 := Lib.hid hx
      have HES := Lib.hid hes
      have HXU := Lib.hid hxu
      have HFT := Lib.hid hft
      have HTR := Lib.hid htr
      have hqa : Quiet wr (wr.alloc (.cells #[.int .u64 (x.id : Int), .string x.name, .int .u64 (x.table : Int), .int .i64 (x.column : Int), .int .u64 (x.xmin : Int), .int .u64 (x.xmax : Int)] 80)) := (Only.refl _ _).alloc _
      have hba := alloc_new wr (.cells #[.int .u64 (x.id : Int), .string x.name, .int .u64 (x.table : Int), .int .i64 (x.column : Int), .int .u64 (x.xmin : Int), .int .u64 (x.xmax : Int)] 80)
      obtain ⟨r7, hr7⟩ : ∃ r7, wr.heap.size = r7 := ⟨_, rfl⟩
      rw [hr7] at hba
      have HQ2 := Lib.hid ((HQ1.out.trans HW.out.quiet).trans hqa)
      have HON : Hid (∀ k, u3.ownBlock = some k → w1.heap.size ≤ k ∧ k < r7) := fun k e => ⟨HW.out.new k e, by rw [← hr7]; exact (HW.out.own.lt k e).2⟩
      have HW2 := Lib.hid (HW.out.quietly hqa)
      have HBA := Lib.hid hba
      clear hx hes hxu hft htr hrk hcc i0 i1 i2 i3 i4 i5 hba
      go_wp2_with fail
      (try rw [hr7])
      generalize wr.alloc (.cells #[.int .u64 (x.id : Int), .string x.name, .int .u64 (x.table : Int), .int .i64 (x.column : Int), .int .u64 (x.xmin : Int), .int .u64 (x.xmax : Int)] 80) = w2 at *
      clear hqa hr7 y0 y1 y2 y3 y4 y5 ly
      have HS6 : Hid (∀ W, Only (fun k => u3.ownBlock = some k) w2 W → (fun w' => w'.cell? ⟨sb, 4, none⟩ = some (.map (some mt)) ∧ w'.cell? ⟨r7, 0, none⟩ = some (.int .u64 (x.id : Int)) ∧ (Instr.lookup 64 (.map (some mt)) (.int .u64 (x.id : Int)) false).run Tryz.prog w' = .ok (ptrV tb) w') W) := fun W ho => by
        have hlt : ∀ k, k < w.heap.size → ¬ (u3.ownBlock = some k) := fun k hk e => by
          have := (HON.out k e).1
          have := HQ1.out.size
          omega
        refine ⟨ho.cell (HQ2.out.cell HC.out (fun x => x)) (hlt sb lsb), by rw [cell_of (ho.get HBA.out (fun e => by have := (HON.out _ e).2; omega))]; rfl, look_tree ((HH.out.mT.kept HQ2.out (fun x => x)).kept ho (hlt mt HH.out.mT.lt)) HFT.out HXU.out⟩
      have HLEN : Hid (∀ W, Quiet w2 W → Calls Tryz.prog 45 #[ptrV tb] W (fun e w' => e = .returned (.int .i64 (es.length : Int)) ∧ W = w')) := fun W hq => tree_len (HTR.out.kept (HQ2.out.trans hq) (fun _ _ x => x))
      have HTK : Hid ((kl.take (k + 1)).map (fun e => ((s.ts e.id).getD []).length) = (kl.take k).map (fun e => ((s.ts e.id).getD []).length) ++ [es.length]) := by
        show _ = _
        rw [List.take_add_one, HX1.out, Option.toList_some, List.map_append]
        simp [HES.out]
      obtain ⟨un, hun⟩ : ∃ un, es.length = un := ⟨_, rfl⟩
      rw [hun] at HLEN HTK
      have HLL : Hid (((kl.take k).map (fun e => ((s.ts e.id).getD []).length)).length ≤ 1000) := by
        unfold Hid
        rw [List.length_map, List.length_take]
        have := HLK.out
        omega
      clear hun
      generalize (kl.take k).map (fun e => ((s.ts e.id).getD []).length) = pl at HW2 HTK HLL
      refine wp_region_held_drew (S := (fun w' => w'.cell? ⟨sb, 4, none⟩ = some (.map (some mt)) ∧ w'.cell? ⟨r7, 0, none⟩ = some (.int .u64 (x.id : Int)) ∧ (Instr.lookup 64 (.map (some mt)) (.int .u64 (x.id : Int)) false).run Tryz.prog w' = .ok (ptrV tb) w')) (by kernel_rfl) (HS6.out _ ((Only.refl _ _).drew)) (fun hHeld => ?_)
      simp only [List.size_toArray, List.length_cons, List.length_nil, Nat.reduceAdd]
      have q0 : Quiet w2 w2.drew := (Only.refl _ _).drew
      generalize w2.drew = d0 at q0 hHeld ⊢
      (refine zTK 0 (oi := ?_) (v := ?_) ?_ ?_ (Or.inl ⟨?_, ?_⟩) ?_; rotate_left 2; (focus (simp only [zGA, zGZ, zGS] <;> rfl)); (focus (exact fun _ _ _ h => h)); (focus rfl); (focus (intro w hSw; (try dsimp only at hSw); go_simp; (try with_reducible rfl); done)); (try simp only [Act.put, zPA, zPZ, zPS]))
      (refine zTK 1 (oi := ?_) (v := ?_) ?_ ?_ (Or.inl ⟨?_, ?_⟩) ?_; rotate_left 2; (focus (simp only [zGA, zGZ, zGS] <;> rfl)); (focus (exact fun _ _ _ h => h)); (focus rfl); (focus (intro w hSw; (try dsimp only at hSw); go_simp; (try with_reducible rfl); done)); (try simp only [Act.put, zPA, zPZ, zPS]))
      (refine zTK 2 (oi := ?_) (v := ?_) ?_ ?_ (Or.inl ⟨?_, ?_⟩) ?_; rotate_left 2; (focus (simp only [zGA, zGZ, zGS] <;> rfl)); (focus (exact fun _ _ _ h => h)); (focus rfl); (focus (intro w hSw; (try dsimp only at hSw); go_simp; (try with_reducible rfl); done)); (try simp only [Act.put, zPA, zPZ, zPS]))
      (refine zTK 3 (oi := ?_) (v := ?_) ?_ ?_ (Or.inl ⟨?_, ?_⟩) ?_; rotate_left 2; (focus (simp only [zGA, zGZ, zGS] <;> rfl)); (focus (exact fun _ _ _ h => h)); (focus rfl); (focus (intro w hSw; (try dsimp only at hSw); go_simp; (try with_reducible rfl); done)); (try simp only [Act.put, zPA, zPZ, zPS]))
      (refine zTK 4 (oi := ?_) (v := ?_) ?_ ?_ (Or.inl ⟨?_, ?_⟩) ?_; rotate_left 2; (focus (simp only [zGA, zGZ, zGS] <;> rfl)); (focus (exact fun _ _ _ h => h)); (focus rfl); (focus (intro w hSw; (try dsimp only at hSw); go_simp; (try with_reducible rfl); done)); (try simp only [Act.put, zPA, zPZ, zPS]))
      (refine zTK 5 (oi := ?_) (v := ?_) ?_ ?_ (Or.inl ⟨?_, ?_⟩) ?_; rotate_left 2; (focus (simp only [zGA, zGZ, zGS] <;> rfl)); (focus (exact fun _ _ _ h => h)); (focus rfl); (focus (intro w hSw; (try dsimp only at hSw); go_simp; (try with_reducible rfl); done)); (try simp only [Act.put, zPA, zPZ, zPS]))
      (refine zTK 6 (oi := ?_) (v := ?_) ?_ ?_ (Or.inl ⟨?_, ?_⟩) ?_; rotate_left 2; (focus (simp only [zGA, zGZ, zGS] <;> rfl)); (focus (exact fun _ _ _ h => h)); (focus rfl); (focus (intro w hSw; (try dsimp only at hSw); go_simp; (try with_reducible rfl); done)); (try simp only [Act.put, zPA, zPZ, zPS]))
      (refine zTK 7 (oi := ?_) (v := ?_) ?_ ?_ (Or.inl ⟨?_, ?_⟩) ?_; rotate_left 2; (focus (simp only [zGA, zGZ, zGS] <;> rfl)); (focus (exact fun _ _ _ h => h)); (focus rfl); (focus (intro w hSw; (try dsimp only at hSw); go_simp; (try with_reducible rfl); done)); (try simp only [Act.put, zPA, zPZ, zPS]))
      refine wpAnyH_ready (rs := [8]) (by kernel_rfl) (by simp) ?_
      refine AllReadyH.cons (o := ?_) ?_ ?_ AllReadyH.nil
      rotate_left 1
      (focus (simp only [zGA, zGZ, zGS] <;> rfl))
      intro K hK
      go_simp
      go_at_call 45
      refine (HLEN.out _ q0).mono ?_
      rintro e d1 ⟨rfl, rfl⟩
      have q1 := q0
      dsimp only
      refine hK.out _ _ ?_ (fun hHeld => ?_)
      · exact HS6.out _ (q1.mono (fun _ _ x => x.elim))
      clear hK K
      (try simp only [Act.put, zPA, zPZ, zPS])
      refine wpAnyH_ready (rs := [9]) (by kernel_rfl) (by simp) ?_
      refine AllReadyH.cons (o := ?_) ?_ ?_ AllReadyH.nil
      rotate_left 1
      (focus (simp only [zGA, zGZ, zGS] <;> rfl))
      intro K hK
      go_simp
      refine hK.out _ _ ?_ (fun hHeld => ?_)
      · exact HS6.out _ ((q1.alloc _).mono (fun _ _ x => x.elim))
      clear hK K
      (try simp only [Act.put, zPA, zPZ, zPS])
      have q2 : Quiet w2 (d0.alloc (.cells #[.int .i64 (un : Int)] 3)) := q1.alloc _
      have hrd := Rd.one d0 (.int .i64 (un : Int)) 3 (0, 0) (S := fun _ => True) trivial
      obtain ⟨bu, hbu⟩ : ∃ bu, d0.heap.size = bu := ⟨_, rfl⟩
      rw [hbu] at hrd
      (try rw [hbu])
      generalize d0.alloc (.cells #[.int .i64 (un : Int)] 3) = d2 at *
      clear hbu
      refine wpAnyH_ready (rs := [10]) (by kernel_rfl) (by simp) ?_
      refine AllReadyH.cons (o := ?_) ?_ ?_ AllReadyH.nil
      rotate_left 1
      (focus (simp only [zGA, zGZ, zGS] <;> rfl))
      intro K hK
      refine app_step elem_intE rfl (.tmp 19) (.tmp 28) rfl rfl (HW2.out.quietly q2).own rfl hrd (one_intE un) (by have := HLL.out; unfold maxLen; omega) (by have := HLL.out; omega) ?_
      intro v4 d4 hg4
      have hiw := (HW2.out.quietly q2).push hg4
      have q4 : Quiet w1 d4 := hiw.quiet
      have ho4 := (q2.mono (T := fun k => u3.ownBlock = some k) (fun _ _ x => x.elim)).trans hg4.only
      clear hg4 hrd
      refine hK.out _ _ ?_ (fun hHeld => ?_)
      · exact HS6.out _ ho4
      clear hK K
      (try simp only [Act.put, zPA, zPZ, zPS])
      (refine zTK 11 (oi := ?_) (v := ?_) ?_ ?_ (Or.inl ⟨?_, ?_⟩) ?_; rotate_left 2; (focus (simp only [zGA, zGZ, zGS] <;> rfl)); (focus (exact fun _ _ _ h => h)); (focus rfl); (focus (intro w hSw; (try dsimp only at hSw); go_simp; (try with_reducible rfl); done)); (try simp only [Act.put, zPA, zPZ, zPS]))
      refine wpAnyH_done (by kernel_rfl) ?_ _
      rw [← HTK.out] at hiw
      have HIW := Lib.hid hiw
      clear hHeld q0 q1 q2 q4 hiw HS6 HLEN HW HW2
      go_wp2
      go_roundw
      case rel => exact ⟨k + 1, _, by omega, by go_num, rfl, HIW.out⟩
      case measure => simp [intOf]; omega
    · obtain rfl : k = m := by omega
      have HEND : Hid (POST (.returned u3) wr) := by
        rw [← HPOST.out]
        have := HW.out
        rw [List.take_of_length_le (by have := HM.out; omega)] at this
        exact ⟨u3, rfl, this.from HQ1.out⟩
      go_wp2
      exact HEND.out

end Go.Proofs.YtmkaomglecfmfaaGreatDoor
