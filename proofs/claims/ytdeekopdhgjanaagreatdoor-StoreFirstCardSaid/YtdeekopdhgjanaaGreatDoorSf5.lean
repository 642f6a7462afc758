/- store.Update of a version that is there, to a row of one small number. store.Scan of a table whose rows are small numbers. store.CreateTable of an empty book. A store in a law's world: what it holds, and what each call leaves. StoreFirst's plain part: one page of versions of one row; who may end it. StoreFirst's plain invariants. The laws' own small functions: num, one. The store laws' awake: the document's example. StoreFirst: of those that change the same row the first one does. How arguments of the laws are opened: slices of any element. How the arguments of the laws on trees are opened: bytes, places, entries. StoreFirst's arguments opened. No condition. -/
import Derived.Test.YtdeekopdhgjanaaGreatDoorSf4
import Derived.ProofKit
import Derived.OpenShut
import Derived.Deep.Slices
import Derived.Deep.Fields
import Derived.ChangeSame
import Derived.Carry
import Derived.Laws.Rows
namespace Go.Proofs.YtdeekopdhgjanaaGreatDoor
open Go.RowKit Go.Lap

theorem upd_upd {α : Type} (f : Nat → α) (i : Nat) (a b : α) : upd (upd f i a) i b = upd f i b := by
  funext k
  by_cases e : k = i <;> simp [upd, e]

/-- What Update tells: of a version that may not be ended its code, and nothing has turned; else the row has another version. -/
def UpdPost (w : World) (sb : Nat) (o : Nat → Nat) (s s' : St) (code : Nat) (z : Int) (e : Ending) (w' : World) : Prop :=
  if code = 0 then e = .returned (.int .i64 z) ∧ StepTo w sb o s' w' else e = .returned (.int .i64 (code : Int)) ∧ StepTo w sb o s w'

set_option maxHeartbeats 4000000 in
set_option maxRecDepth 100000 in
theorem store_update {w : World} {sb x i c3 n left' nr cr code : Nat} {o : Nat → Nat} {s : St} {y : Snap} {t : TE} {name nm : ByteArray} {Sv : Nat → Prop} {A3 Ar : Option Addr} {H H1 H2 : List (List (Option Tup))} {p q pg sl z : Int} {v : Tup} (h : StoreAt w sb o s) (hx : U64 x) (hy : s.sn x = some y) (hf : findT s.L y name s.T = some i) (ht : s.T[i]? = some t) (hc : t.cols = [(nm, 1)]) (hid : U64 t.id)
    (hI : s.I = []) (hH : s.hs t.id = some H) (hle : H.length + s.left ≤ 256) (hn : n < 256) (hv : Rd w Sv 4 A3 1 (intRow n)) (hc3 : 1 ≤ c3) (hm3 : c3 ≤ maxLen) (hg : hGet H pg sl = some v) (hx1 : U64 v.xmin) (hx2 : U64 v.xmax) (hcode : freeS s.L y v.xmin v.xmax = code)
    (hins : code = 0 → hIns H s.left ⟨v.row, x, 0, -1, -1, rowI n⟩ = ((p, q, 0), H1, left')) (hst : hStamp H1 pg sl x p q = (z, H2)) :
    Calls Tryz.prog 13 #[ptrV sb, .int .u64 (x : Int), .string name, .agg #[.int .u64 v.row, .int .i64 pg, .int .i64 sl, .slice Ar nr cr], .slice A3 1 c3] w (UpdPost w sb o s (putSt s t.id H2 left') code z) := by
  have hq0 : Quiet w (w.alloc (.cells #[.int .u64 v.row, .int .i64 pg, .int .i64 sl, .slice Ar nr cr] 44)) := (Only.refl _ _).alloc _
  have HO := Lib.hid (store_open (h.quietly hq0) hx hy hf ht)
  have HB8 := Lib.hid (alloc_new w (.cells #[.int .u64 v.row, .int .i64 pg, .int .i64 sl, .slice Ar nr cr] 44))
  have HQ0 := Lib.hid hq0
  obtain ⟨r8, hr8⟩ : ∃ r8, w.heap.size = r8 := ⟨_, rfl⟩
  rw [hr8] at HB8
  have HR8 := Lib.hid hr8
  have HH := Lib.hid h
  have HC := Lib.hid hc
  have HID := Lib.hid hid
  have HI := Lib.hid (And.intro hI (And.intro hH hle))
  have HN := Lib.hid hn
  have HV := Lib.hid hv
  have HC3 := Lib.hid (And.intro hc3 hm3)
  have HG := Lib.hid (And.intro hg (And.intro hx1 (And.intro hx2 hcode)))
  have HIN := Lib.hid hins
  have HST := Lib.hid hst
  obtain ⟨POST, hPOST⟩ : ∃ POST, UpdPost w sb o s (putSt s t.id H2 left') code z = POST := ⟨_, rfl⟩
  rw [hPOST]
  have HPOST := Lib.hid hPOST
  clear h hx hy hf ht hc hid hI hH hle hn hv hc3 hm3 hg hx1 hx2 hcode hins hst hq0 hPOST hr8
  go_enter Tryz.func13, Tryz.ntmps13
  go_wp2_with fail
  rw [HR8.out]
  generalize w.alloc (.cells #[.int .u64 v.row, .int .i64 pg, .int .i64 sl, .slice Ar nr cr] 44) = w0 at *
  refine HO.out.mono ?_
  rintro e w1 ⟨A, c, A2, c2, rfl, hq1, hs1, hf1, hc2, hm2⟩
  clear HO
  have HQ1 := Lib.hid (HQ0.out.trans hq1)
  have HF1 := Lib.hid hf1
  have HS1 := Lib.hid hs1
  have HC2 := Lib.hid (And.intro hc2 hm2)
  have HB81 := Lib.hid (hq1.get HB8.out (fun x => x))
  have q2 : Quiet w1 ((w1.alloc (.cells (snapCells y A c) 65)).alloc (.cells #[.int .u64 (t.id : Int), .string t.name, .slice A2 t.cols.length c2, .int .u64 (t.xmin : Int), .int .u64 (t.xmax : Int)] 75)) := ((Only.refl _ _).alloc _).alloc _
  have b12 := two_new w1 (.cells (snapCells y A c) 65) (.cells #[.int .u64 (t.id : Int), .string t.name, .slice A2 t.cols.length c2, .int .u64 (t.xmin : Int), .int .u64 (t.xmax : Int)] 75)
  have b11 := alloc_old (alloc_new w1 (.cells (snapCells y A c) 65)) (.cells #[.int .u64 (t.id : Int), .string t.name, .slice A2 t.cols.length c2, .int .u64 (t.xmin : Int), .int .u64 (t.xmax : Int)] 75)
  have HQ2 := Lib.hid q2
  have HB12 := Lib.hid b12
  have HB11 := Lib.hid b11
  obtain ⟨r11, hr11⟩ : ∃ r11, w1.heap.size = r11 := ⟨_, rfl⟩
  obtain ⟨r12, hr12⟩ : ∃ r12, r11 + 1 = r12 := ⟨_, rfl⟩
  rw [hr11] at HB12 HB11
  rw [hr12] at HB12
  have HR12 : Hid (w1.heap.size ≤ r12) := by show _ ≤ _; omega
  have HE11 := Lib.hid hr11
  have HE12 := Lib.hid hr12
  clear hq1 hs1 hf1 hc2 hm2 q2 b12 b11 hr11 hr12
  unfold snapV tabV
  go_wp2_with fail
  (try simp only [World.size_alloc])
  rw [HE11.out, HE12.out]
  generalize (w1.alloc (.cells #[.int .u64 (y.own : Int), .int .u64 (y.xmin : Int), .int .u64 (y.xmax : Int), .slice A y.run.length c] 65)).alloc (.cells #[.int .u64 (t.id : Int), .string t.name, .slice A2 t.cols.length c2, .int .u64 (t.xmin : Int), .int .u64 (t.xmax : Int)] 75) = w2 at *
  have HKND : Hid (Calls Tryz.prog 25 #[tabV t A2 c2] w2 (KindsPost w2 1)) := by
    obtain ⟨A', c', e', h1, h2, h3⟩ := own_form HF1.out.own
    injection e' with e1 _ e2
    subst e1 e2
    have h4 := h3.kept HQ2.out (fun _ _ x => x)
    have h5 := HC2.out
    rw [HC.out] at h4 h5
    exact store_kinds HC.out h4 h5.1 h5.2
  unfold tabV at HKND
  refine HKND.out.mono ?_
  rintro e w3 ⟨v3, rfl, hf3⟩
  obtain ⟨A9, c9, rfl, hc9, hm9, hrd9⟩ := own_form hf3.own
  have HQ3 : Hid (Quiet w2 w3) := hf3.quiet
  have HQV : Hid (Quiet w w3) := (HQ1.out.trans HQ2.out).trans HQ3.out
  have HRB := Lib.hid (row_bytes_int HN.out (by exact hrd9) (HV.out.kept HQV.out (fun _ _ x => x)) hc9 hm9 HC3.out.1 HC3.out.2)
  clear hf3 hc9 hm9 hrd9 HKND
  go_wp2_with fail
  refine HRB.out.mono ?_
  rintro e w4 ⟨v5, rfl, hf5⟩
  obtain ⟨A5, c5, rfl, hc5, hm5, hrd5⟩ := own_form hf5.own
  have h9 : (rowI n).length = 9 := rowI_length n
  have HQ4 : Hid (Quiet w w4) := HQV.out.trans hf5.quiet
  have HQ24 : Hid (Quiet w2 w4) := HQ3.out.trans hf5.quiet
  have HRD5 := Lib.hid hrd5
  have HNEW5 : Hid (∀ k, (Value.slice A5 (rowI n).length c5).ownBlock = some k → w.heap.size ≤ k) := fun k e => Nat.le_trans HQV.out.size (hf5.new k e)
  have HHW := Lib.hid (HH.out.quietly HQ4.out)
  have HSW := Lib.hid (HS1.out.kept (HQ2.out.trans HQ24.out) (fun _ _ x => x))
  have HVE : Hid (Calls Tryz.prog 31 #[ptrV sb, snapV y A c, tabV t A2 c2, .agg #[.int .u64 v.row, .int .i64 pg, .int .i64 sl, .slice Ar nr cr]] w4 (VersPost w4 v code)) := by
    have hv := store_version (A2 := A2) (c2 := c2) (A3 := Ar) (n3 := nr) (c3 := cr) HHW.out HSW.out HID.out HI.out.2.1 HG.out.1 HG.out.2.1 HG.out.2.2.1
    rw [HG.out.2.2.2] at hv
    exact hv
  unfold snapV tabV at HVE
  have b12 := tabBox_cells (HQ24.out.get HB12.out (fun x => x))
  have b11 := snapBox_cells (HQ24.out.get HB11.out (fun x => x))
  have hb8 := (HQ2.out.trans HQ24.out).get HB81.out (fun x => x)
  have x0 : w4.cell? ⟨r8, 0, none⟩ = some (.int .u64 v.row) := by rw [cell_of hb8]; rfl
  have x1 : w4.cell? ⟨r8, 1, none⟩ = some (.int .i64 pg) := by rw [cell_of hb8]; rfl
  have x2 : w4.cell? ⟨r8, 2, none⟩ = some (.int .i64 sl) := by rw [cell_of hb8]; rfl
  have x3 : w4.cell? ⟨r8, 3, none⟩ = some (.slice Ar nr cr) := by rw [cell_of hb8]; rfl
  have HB8W := Lib.hid hb8
  have HB12W := Lib.hid (HQ24.out.get HB12.out (fun x => x))
  clear hf5 hrd5 hc5 hm5 HRB hb8
  go_wp2_with fail
  refine HVE.out.mono ?_
  rintro e w5 ⟨A6, c6, rfl, hq5⟩
  have HQB : Hid (Quiet w4 (w5.alloc (.cells #[.int .u64 v.row, .int .u64 v.xmin, .int .u64 v.xmax, .int .i64 v.pg, .int .i64 v.sl, .slice A6 v.data.length c6] 86))) := hq5.alloc _
  clear hq5 x0 x1 x2 x3 b11 b12 HVE
  unfold tupV
  by_cases hz : code = 0
  · subst hz
    go_wp2_with fail
    generalize w5.alloc (.cells #[.int .u64 v.row, .int .u64 v.xmin, .int .u64 v.xmax, .int .i64 v.pg, .int .i64 v.sl, .slice A6 v.data.length c6] 86) = wb at *
    have HHB := Lib.hid (HHW.out.quietly HQB.out)
    have HQWB : Hid (Quiet w wb) := HQ4.out.trans HQB.out
    have HB8b := Lib.hid (HQB.out.get HB8W.out (fun x => x))
    have HB12b := Lib.hid (HQB.out.get HB12W.out (fun x => x))
    have HBZ : Hid (∀ k, wb.heap.size ≤ k → o k = 0) := HHB.out.big
    have HBG : Hid (∀ k, wb.heap.size ≤ k → ¬ o k ≠ 0) := fun k hk e => e (HBZ.out k hk)
    have HX12 : Hid (¬ o r12 ≠ 0) := fun e => e (HH.out.big r12 (by have := HQ1.out.size; have := HR12.out; omega))
    have HX8 : Hid (¬ o r8 ≠ 0) := fun e => e (HH.out.big r8 (by have := HR8.out; omega))
    have HS7 : Hid (∀ W, Only (fun k => o k ≠ 0) wb W → (fun w' => w'.cell? ⟨r8, 0, none⟩ = some (.int .u64 (v.row : Int)) ∧ w'.cell? ⟨r12, 0, none⟩ = some (.int .u64 (t.id : Int)) ∧ w'.cell? ⟨r12, 1, none⟩ = some (.string t.name) ∧ w'.cell? ⟨r12, 2, none⟩ = some (.slice A2 t.cols.length c2) ∧ w'.cell? ⟨r12, 3, none⟩ = some (.int .u64 (t.xmin : Int)) ∧ w'.cell? ⟨r12, 4, none⟩ = some (.int .u64 (t.xmax : Int))) W) := fun W hq => by
      have b := tabBox_cells (hq.get HB12b.out HX12.out)
      have b8 := hq.get HB8b.out HX8.out
      exact ⟨by rw [cell_of b8]; rfl, b⟩
    have HPUT : Hid (∀ W, Quiet wb W → Calls Tryz.prog 26 #[ptrV sb, .agg #[.int .u64 (t.id : Int), .string t.name, .slice A2 t.cols.length c2, .int .u64 (t.xmin : Int), .int .u64 (t.xmax : Int)], .agg #[.int .u64 (v.row : Int), .int .u64 (x : Int), .int .u64 0, .int .i64 (-1), .int .i64 (-1), .slice A5 9 c5]] W (PutPost W sb o (putSt s t.id H1 left') p q)) := fun W hq => by
      have hi := HI.out
      have hp := store_put0 (v := ⟨v.row, x, 0, -1, -1, rowI n⟩) (cd := c5) (A2 := A2) (c2 := c2) (HHB.out.quietly hq) hi.1 HID.out hi.2.1 hi.2.2 (rowI_bytes HN.out) (HRD5.out.kept (HQB.out.trans hq) (fun _ _ x => x)) (fun k hk => HH.out.big k (HNEW5.out k hk)) (HIN.out (by trivial))
      unfold tabV tupV at hp
      dsimp only at hp
      rw [rowI_length] at hp
      exact hp
    apply ins_key (wb := wb) (sb := sb) (p := p) (q := q) (o := o) (s' := putSt s t.id H1 left')
    case main =>
        intro KEY
        refine wp_region_held_drew (S := (fun w' => w'.cell? ⟨r8, 0, none⟩ = some (.int .u64 (v.row : Int)) ∧ w'.cell? ⟨r12, 0, none⟩ = some (.int .u64 (t.id : Int)) ∧ w'.cell? ⟨r12, 1, none⟩ = some (.string t.name) ∧ w'.cell? ⟨r12, 2, none⟩ = some (.slice A2 t.cols.length c2) ∧ w'.cell? ⟨r12, 3, none⟩ = some (.int .u64 (t.xmin : Int)) ∧ w'.cell? ⟨r12, 4, none⟩ = some (.int .u64 (t.xmax : Int)))) (by kernel_rfl) (HS7.out _ ((Only.refl _ _).drew)) (fun hHeld => ?_)
        simp only [List.size_toArray, List.length_cons, List.length_nil, Nat.reduceAdd]
        have q0 : Quiet wb wb.drew := (Only.refl _ _).drew
        generalize wb.drew = d0 at q0 hHeld ⊢
        (refine wpAnyH_take (i := 0) (oi := ?_) (v := ?_) ?_ (by kernel_rfl) (by decide +kernel) (by decide +kernel) ?_ (Or.inl ⟨?_, ?_⟩) (by first | assumption | exact trivial) ?_; rotate_left 2; (focus (simp only [List.getElem?_toArray, List.getElem?_cons_zero, List.getElem?_cons_succ] <;> rfl)); (focus (exact fun _ _ _ h => h)); (focus rfl); (focus (intro w hSw; (try dsimp only at hSw); go_simp; (try with_reducible rfl); done)); (try simp only [Act.put, List.setIfInBounds_toArray, List.set_cons_zero, List.set_cons_succ]))
        (refine wpAnyH_take (i := 1) (oi := ?_) (v := ?_) ?_ (by kernel_rfl) (by decide +kernel) (by decide +kernel) ?_ (Or.inl ⟨?_, ?_⟩) (by first | assumption | exact trivial) ?_; rotate_left 2; (focus (simp only [List.getElem?_toArray, List.getElem?_cons_zero, List.getElem?_cons_succ] <;> rfl)); (focus (exact fun _ _ _ h => h)); (focus rfl); (focus (intro w hSw; (try dsimp only at hSw); go_simp; (try with_reducible rfl); done)); (try simp only [Act.put, List.setIfInBounds_toArray, List.set_cons_zero, List.set_cons_succ]))
        (refine wpAnyH_take (i := 2) (oi := ?_) (v := ?_) ?_ (by kernel_rfl) (by decide +kernel) (by decide +kernel) ?_ (Or.inl ⟨?_, ?_⟩) (by first | assumption | exact trivial) ?_; rotate_left 2; (focus (simp only [List.getElem?_toArray, List.getElem?_cons_zero, List.getElem?_cons_succ] <;> rfl)); (focus (exact fun _ _ _ h => h)); (focus rfl); (focus (intro w hSw; (try dsimp only at hSw); go_simp; (try with_reducible rfl); done)); (try simp only [Act.put, List.setIfInBounds_toArray, List.set_cons_zero, List.set_cons_succ]))
        (refine wpAnyH_take (i := 3) (oi := ?_) (v := ?_) ?_ (by kernel_rfl) (by decide +kernel) (by decide +kernel) ?_ (Or.inl ⟨?_, ?_⟩) (by first | assumption | exact trivial) ?_; rotate_left 2; (focus (simp only [List.getElem?_toArray, List.getElem?_cons_zero, List.getElem?_cons_succ] <;> rfl)); (focus (exact fun _ _ _ h => h)); (focus rfl); (focus (intro w hSw; (try dsimp only at hSw); go_simp; (try with_reducible rfl); done)); (try simp only [Act.put, List.setIfInBounds_toArray, List.set_cons_zero, List.set_cons_succ]))
        (refine wpAnyH_take (i := 4) (oi := ?_) (v := ?_) ?_ (by kernel_rfl) (by decide +kernel) (by decide +kernel) ?_ (Or.inl ⟨?_, ?_⟩) (by first | assumption | exact trivial) ?_; rotate_left 2; (focus (simp only [List.getElem?_toArray, List.getElem?_cons_zero, List.getElem?_cons_succ] <;> rfl)); (focus (exact fun _ _ _ h => h)); (focus rfl); (focus (intro w hSw; (try dsimp only at hSw); go_simp; (try with_reducible rfl); done)); (try simp only [Act.put, List.setIfInBounds_toArray, List.set_cons_zero, List.set_cons_succ]))
        (refine wpAnyH_take (i := 6) (oi := ?_) (v := ?_) ?_ (by kernel_rfl) (by decide +kernel) (by decide +kernel) ?_ (Or.inl ⟨?_, ?_⟩) (by first | assumption | exact trivial) ?_; rotate_left 2; (focus (simp only [List.getElem?_toArray, List.getElem?_cons_zero, List.getElem?_cons_succ] <;> rfl)); (focus (exact fun _ _ _ h => h)); (focus rfl); (focus (intro w hSw; (try dsimp only at hSw); go_simp; (try with_reducible rfl); done)); (try simp only [Act.put, List.setIfInBounds_toArray, List.set_cons_zero, List.set_cons_succ]))
        refine wpAnyH_ready (rs := [5, 12]) (by kernel_rfl) (by simp) ?_
        refine AllReadyH.cons (o := ?_) ?_ ?_ ?_
        rotate_left 1
        (focus (simp only [List.getElem?_toArray, List.getElem?_cons_zero, List.getElem?_cons_succ] <;> rfl))
        · intro K hK
          go_simp
          go_at_call 27
          refine (store_nowhere _).mono ?_
          rintro e d1 ⟨rfl, hqn⟩
          have q1 := q0.trans hqn
          clear hqn
          dsimp only
          refine hK.out _ _ ?_ (fun hHeld => ?_)
          · exact HS7.out _ (q1.mono (fun _ _ x => x.elim))
          clear hK K
          (try simp only [Act.put, List.setIfInBounds_toArray, List.set_cons_zero, List.set_cons_succ])
          (refine wpAnyH_take (i := 7) (oi := ?_) (v := ?_) ?_ (by kernel_rfl) (by decide +kernel) (by decide +kernel) ?_ (Or.inl ⟨?_, ?_⟩) (by first | assumption | exact trivial) ?_; rotate_left 2; (focus (simp only [List.getElem?_toArray, List.getElem?_cons_zero, List.getElem?_cons_succ] <;> rfl)); (focus (exact fun _ _ _ h => h)); (focus rfl); (focus (intro w hSw; (try dsimp only at hSw); go_simp; (try with_reducible rfl); done)); (try simp only [Act.put, List.setIfInBounds_toArray, List.set_cons_zero, List.set_cons_succ]))
          refine wpAnyH_ready (rs := [8, 12]) (by kernel_rfl) (by simp) ?_
          refine AllReadyH.cons (o := ?_) ?_ ?_ ?_
          rotate_left 1
          (focus (simp only [List.getElem?_toArray, List.getElem?_cons_zero, List.getElem?_cons_succ] <;> rfl))
          · intro K hK
            go_simp
            go_at_call 26
            refine (HPUT.out _ q1).mono ?_
            rintro e d2 ⟨rfl, o2, ho2, hw2, hst2⟩
            have q2 := (q1.mono (T := (fun k => o k ≠ 0)) (fun _ _ x => x.elim)).trans hw2
            have hz2 := q1.size
            have ho3 : ∀ k, k < wb.heap.size → o2 k = o k := fun k hk => ho2 k (by omega)
            clear ho2 hw2 hz2
            dsimp only
            refine hK.out _ _ ?_ (fun hHeld => ?_)
            · exact HS7.out _ q2
            clear hK K
            (try simp only [Act.put, List.setIfInBounds_toArray, List.set_cons_zero, List.set_cons_succ])
            (refine wpAnyH_take (i := 9) (oi := ?_) (v := ?_) ?_ (by kernel_rfl) (by decide +kernel) (by decide +kernel) ?_ (Or.inl ⟨?_, ?_⟩) (by first | assumption | exact trivial) ?_; rotate_left 2; (focus (simp only [List.getElem?_toArray, List.getElem?_cons_zero, List.getElem?_cons_succ] <;> rfl)); (focus (exact fun _ _ _ h => h)); (focus rfl); (focus (intro w hSw; (try dsimp only at hSw); go_simp; (try with_reducible rfl); done)); (try simp only [Act.put, List.setIfInBounds_toArray, List.set_cons_zero, List.set_cons_succ]))
            (refine wpAnyH_take (i := 10) (oi := ?_) (v := ?_) ?_ (by kernel_rfl) (by decide +kernel) (by decide +kernel) ?_ (Or.inl ⟨?_, ?_⟩) (by first | assumption | exact trivial) ?_; rotate_left 2; (focus (simp only [List.getElem?_toArray, List.getElem?_cons_zero, List.getElem?_cons_succ] <;> rfl)); (focus (exact fun _ _ _ h => h)); (focus rfl); (focus (intro w hSw; (try dsimp only at hSw); go_simp; (try with_reducible rfl); done)); (try simp only [Act.put, List.setIfInBounds_toArray, List.set_cons_zero, List.set_cons_succ]))
            (refine wpAnyH_take (i := 11) (oi := ?_) (v := ?_) ?_ (by kernel_rfl) (by decide +kernel) (by decide +kernel) ?_ (Or.inl ⟨?_, ?_⟩) (by first | assumption | exact trivial) ?_; rotate_left 2; (focus (simp only [List.getElem?_toArray, List.getElem?_cons_zero, List.getElem?_cons_succ] <;> rfl)); (focus (exact fun _ _ _ h => h)); (focus rfl); (focus (intro w hSw; (try dsimp only at hSw); go_simp; (try with_reducible rfl); done)); (try simp only [Act.put, List.setIfInBounds_toArray, List.set_cons_zero, List.set_cons_succ]))
            refine wpAnyH_ready (rs := [12]) (by kernel_rfl) (by simp) ?_
            refine AllReadyH.cons (o := ?_) ?_ ?_ AllReadyH.nil
            rotate_left 1
            (focus (simp only [List.getElem?_toArray, List.getElem?_cons_zero, List.getElem?_cons_succ] <;> rfl))
            intro K hK
            go_simp
            refine hK.out _ _ ?_ (fun hHeld => ?_)
            · exact HS7.out _ (q2.alloc _)
            clear hK K
            (try simp only [Act.put, List.setIfInBounds_toArray, List.set_cons_zero, List.set_cons_succ])
            have hbig2 := StoreAt.big hst2
            have qe2 := q2.alloc (.cells #[.int .i64 0, .int .i64 0] 42)
            have hb1 := alloc_new d2 (.cells #[.int .i64 0, .int .i64 0] 42)
            have hnp : wb.heap.size ≤ d2.heap.size := q2.size
            have hst2 := hst2.quietly ((Only.refl (fun _ => False) d2).alloc (.cells #[.int .i64 0, .int .i64 0] 42))
            have hop : o2 d2.heap.size = 0 := hbig2 _ (Nat.le_refl _)
            obtain ⟨pt, hpt⟩ : ∃ pt, d2.heap.size = pt := ⟨_, rfl⟩
            (try rw [hpt] at hb1)
            (try rw [hpt] at hnp)
            (try rw [hpt])
            (try rw [hpt] at hop)
            generalize d2.alloc (.cells #[.int .i64 0, .int .i64 0] 42) = e2 at *
            clear hpt
            have z0 := cell_of hb1 0
            have z1 := cell_of hb1 1
            have zf := fun o => frozen_of hb1 o
            simp only [List.getElem?_toArray, List.getElem?_cons_succ, List.getElem?_cons_zero] at z0 z1
            refine wpAnyH_ready (rs := [13]) (by kernel_rfl) (by simp) ?_
            refine AllReadyH.cons (o := ?_) ?_ ?_ AllReadyH.nil
            rotate_left 1
            (focus (simp only [List.getElem?_toArray, List.getElem?_cons_zero, List.getElem?_cons_succ] <;> rfl))
            intro K hK
            go_simp
            refine hK.out _ _ ?_ (fun hHeld => ?_)
            · exact HS7.out _ (ins_leaf qe2 hnp hb1 hst2 hop ho3 (p := p) (q := q)).only
            clear hK K
            (try simp only [Act.put, List.setIfInBounds_toArray, List.set_cons_zero, List.set_cons_succ])
            have HG := (ins_leaf qe2 hnp hb1 hst2 hop ho3 (p := p) (q := q))
            (refine wpAnyH_take (i := 14) (oi := ?_) (v := ?_) ?_ (by kernel_rfl) (by decide +kernel) (by decide +kernel) ?_ (Or.inl ⟨?_, ?_⟩) (by first | assumption | exact trivial) ?_; rotate_left 2; (focus (simp only [List.getElem?_toArray, List.getElem?_cons_zero, List.getElem?_cons_succ] <;> rfl)); (focus (exact fun _ _ _ h => h)); (focus rfl); (focus (intro w hSw; (try dsimp only at hSw); go_simp; (try with_reducible rfl); done)); (try simp only [Act.put, List.setIfInBounds_toArray, List.set_cons_zero, List.set_cons_succ]))
            refine wpAnyH_done (by kernel_rfl) ?_ _
            generalize (e2.setCell ⟨pt, 0, none⟩ (.int .i64 p)).setCell ⟨pt, 1, none⟩ (.int .i64 q) = WF at HG ⊢
            exact KEY _ _ HG
          refine AllReadyH.cons (o := ?_) ?_ ?_ AllReadyH.nil
          rotate_left 1
          (focus (simp only [List.getElem?_toArray, List.getElem?_cons_zero, List.getElem?_cons_succ] <;> rfl))
          intro K hK
          go_simp
          refine hK.out _ _ ?_ (fun hHeld => ?_)
          · exact HS7.out _ ((q1.alloc _).mono (fun _ _ x => x.elim))
          clear hK K
          (try simp only [Act.put, List.setIfInBounds_toArray, List.set_cons_zero, List.set_cons_succ])
          have qe1 := q1.alloc (.cells #[.int .i64 0, .int .i64 0] 42)
          have hb1 := alloc_new d1 (.cells #[.int .i64 0, .int .i64 0] 42)
          have hnp : wb.heap.size ≤ d1.heap.size := q1.size
          obtain ⟨pt, hpt⟩ : ∃ pt, d1.heap.size = pt := ⟨_, rfl⟩
          (try rw [hpt] at hb1)
          (try rw [hpt] at hnp)
          (try rw [hpt])
          generalize d1.alloc (.cells #[.int .i64 0, .int .i64 0] 42) = e1 at *
          clear hpt
          refine wpAnyH_ready (rs := [8]) (by kernel_rfl) (by simp) ?_
          refine AllReadyH.cons (o := ?_) ?_ ?_ AllReadyH.nil
          rotate_left 1
          (focus (simp only [List.getElem?_toArray, List.getElem?_cons_zero, List.getElem?_cons_succ] <;> rfl))
          intro K hK
          go_simp
          go_at_call 26
          refine (HPUT.out _ qe1).mono ?_
          rintro e d2 ⟨rfl, o2, ho2, hw2, hst2⟩
          have q2 := (qe1.mono (T := (fun k => o k ≠ 0)) (fun _ _ x => x.elim)).trans hw2
          have hz2 := qe1.size
          have hb2 := hw2.get hb1 (HBG.out _ hnp)
          have hop : o2 pt = 0 := by rw [ho2 pt (lt_of_get hb1)]; exact HBZ.out _ hnp
          have ho3 : ∀ k, k < wb.heap.size → o2 k = o k := fun k hk => ho2 k (by omega)
          clear ho2 hw2 hz2
          dsimp only
          refine hK.out _ _ ?_ (fun hHeld => ?_)
          · exact HS7.out _ q2
          clear hK K
          (try simp only [Act.put, List.setIfInBounds_toArray, List.set_cons_zero, List.set_cons_succ])
          have z0 := cell_of hb2 0
          have z1 := cell_of hb2 1
          have zf := fun o => frozen_of hb2 o
          simp only [List.getElem?_toArray, List.getElem?_cons_succ, List.getElem?_cons_zero] at z0 z1
          (refine wpAnyH_take (i := 9) (oi := ?_) (v := ?_) ?_ (by kernel_rfl) (by decide +kernel) (by decide +kernel) ?_ (Or.inl ⟨?_, ?_⟩) (by first | assumption | exact trivial) ?_; rotate_left 2; (focus (simp only [List.getElem?_toArray, List.getElem?_cons_zero, List.getElem?_cons_succ] <;> rfl)); (focus (exact fun _ _ _ h => h)); (focus rfl); (focus (intro w hSw; (try dsimp only at hSw); go_simp; (try with_reducible rfl); done)); (try simp only [Act.put, List.setIfInBounds_toArray, List.set_cons_zero, List.set_cons_succ]))
          (refine wpAnyH_take (i := 10) (oi := ?_) (v := ?_) ?_ (by kernel_rfl) (by decide +kernel) (by decide +kernel) ?_ (Or.inl ⟨?_, ?_⟩) (by first | assumption | exact trivial) ?_; rotate_left 2; (focus (simp only [List.getElem?_toArray, List.getElem?_cons_zero, List.getElem?_cons_succ] <;> rfl)); (focus (exact fun _ _ _ h => h)); (focus rfl); (focus (intro w hSw; (try dsimp only at hSw); go_simp; (try with_reducible rfl); done)); (try simp only [Act.put, List.setIfInBounds_toArray, List.set_cons_zero, List.set_cons_succ]))
          (refine wpAnyH_take (i := 11) (oi := ?_) (v := ?_) ?_ (by kernel_rfl) (by decide +kernel) (by decide +kernel) ?_ (Or.inl ⟨?_, ?_⟩) (by first | assumption | exact trivial) ?_; rotate_left 2; (focus (simp only [List.getElem?_toArray, List.getElem?_cons_zero, List.getElem?_cons_succ] <;> rfl)); (focus (exact fun _ _ _ h => h)); (focus rfl); (focus (intro w hSw; (try dsimp only at hSw); go_simp; (try with_reducible rfl); done)); (try simp only [Act.put, List.setIfInBounds_toArray, List.set_cons_zero, List.set_cons_succ]))
          refine wpAnyH_ready (rs := [13]) (by kernel_rfl) (by simp) ?_
          refine AllReadyH.cons (o := ?_) ?_ ?_ AllReadyH.nil
          rotate_left 1
          (focus (simp only [List.getElem?_toArray, List.getElem?_cons_zero, List.getElem?_cons_succ] <;> rfl))
          intro K hK
          go_simp
          refine hK.out _ _ ?_ (fun hHeld => ?_)
          · exact HS7.out _ (ins_leaf q2 hnp hb2 hst2 hop ho3 (p := p) (q := q)).only
          clear hK K
          (try simp only [Act.put, List.setIfInBounds_toArray, List.set_cons_zero, List.set_cons_succ])
          have HG := (ins_leaf q2 hnp hb2 hst2 hop ho3 (p := p) (q := q))
          (refine wpAnyH_take (i := 14) (oi := ?_) (v := ?_) ?_ (by kernel_rfl) (by decide +kernel) (by decide +kernel) ?_ (Or.inl ⟨?_, ?_⟩) (by first | assumption | exact trivial) ?_; rotate_left 2; (focus (simp only [List.getElem?_toArray, List.getElem?_cons_zero, List.getElem?_cons_succ] <;> rfl)); (focus (exact fun _ _ _ h => h)); (focus rfl); (focus (intro w hSw; (try dsimp only at hSw); go_simp; (try with_reducible rfl); done)); (try simp only [Act.put, List.setIfInBounds_toArray, List.set_cons_zero, List.set_cons_succ]))
          refine wpAnyH_done (by kernel_rfl) ?_ _
          generalize (d2.setCell ⟨pt, 0, none⟩ (.int .i64 p)).setCell ⟨pt, 1, none⟩ (.int .i64 q) = WF at HG ⊢
          exact KEY _ _ HG
        refine AllReadyH.cons (o := ?_) ?_ ?_ AllReadyH.nil
        rotate_left 1
        (focus (simp only [List.getElem?_toArray, List.getElem?_cons_zero, List.getElem?_cons_succ] <;> rfl))
        intro K hK
        go_simp
        refine hK.out _ _ ?_ (fun hHeld => ?_)
        · exact HS7.out _ ((q0.alloc _).mono (fun _ _ x => x.elim))
        clear hK K
        (try simp only [Act.put, List.setIfInBounds_toArray, List.set_cons_zero, List.set_cons_succ])
        have qe0 := q0.alloc (.cells #[.int .i64 0, .int .i64 0] 42)
        have hb1 := alloc_new d0 (.cells #[.int .i64 0, .int .i64 0] 42)
        have hnp : wb.heap.size ≤ d0.heap.size := q0.size
        obtain ⟨pt, hpt⟩ : ∃ pt, d0.heap.size = pt := ⟨_, rfl⟩
        (try rw [hpt] at hb1)
        (try rw [hpt] at hnp)
        (try rw [hpt])
        generalize d0.alloc (.cells #[.int .i64 0, .int .i64 0] 42) = e0 at *
        clear hpt
        refine wpAnyH_ready (rs := [5]) (by kernel_rfl) (by simp) ?_
        refine AllReadyH.cons (o := ?_) ?_ ?_ AllReadyH.nil
        rotate_left 1
        (focus (simp only [List.getElem?_toArray, List.getElem?_cons_zero, List.getElem?_cons_succ] <;> rfl))
        intro K hK
        go_simp
        go_at_call 27
        refine (store_nowhere _).mono ?_
        rintro e d1 ⟨rfl, hqn⟩
        have q1 := qe0.trans hqn
        have hbq := hqn.get hb1 (fun x => x)
        clear hb1
        have hb1 := hbq
        clear hbq
        clear hqn
        dsimp only
        refine hK.out _ _ ?_ (fun hHeld => ?_)
        · exact HS7.out _ (q1.mono (fun _ _ x => x.elim))
        clear hK K
        (try simp only [Act.put, List.setIfInBounds_toArray, List.set_cons_zero, List.set_cons_succ])
        (refine wpAnyH_take (i := 7) (oi := ?_) (v := ?_) ?_ (by kernel_rfl) (by decide +kernel) (by decide +kernel) ?_ (Or.inl ⟨?_, ?_⟩) (by first | assumption | exact trivial) ?_; rotate_left 2; (focus (simp only [List.getElem?_toArray, List.getElem?_cons_zero, List.getElem?_cons_succ] <;> rfl)); (focus (exact fun _ _ _ h => h)); (focus rfl); (focus (intro w hSw; (try dsimp only at hSw); go_simp; (try with_reducible rfl); done)); (try simp only [Act.put, List.setIfInBounds_toArray, List.set_cons_zero, List.set_cons_succ]))
        refine wpAnyH_ready (rs := [8]) (by kernel_rfl) (by simp) ?_
        refine AllReadyH.cons (o := ?_) ?_ ?_ AllReadyH.nil
        rotate_left 1
        (focus (simp only [List.getElem?_toArray, List.getElem?_cons_zero, List.getElem?_cons_succ] <;> rfl))
        intro K hK
        go_simp
        go_at_call 26
        refine (HPUT.out _ q1).mono ?_
        rintro e d2 ⟨rfl, o2, ho2, hw2, hst2⟩
        have q2 := (q1.mono (T := (fun k => o k ≠ 0)) (fun _ _ x => x.elim)).trans hw2
        have hz2 := q1.size
        have hb2 := hw2.get hb1 (HBG.out _ hnp)
        have hop : o2 pt = 0 := by rw [ho2 pt (lt_of_get hb1)]; exact HBZ.out _ hnp
        have ho3 : ∀ k, k < wb.heap.size → o2 k = o k := fun k hk => ho2 k (by omega)
        clear ho2 hw2 hz2
        dsimp only
        refine hK.out _ _ ?_ (fun hHeld => ?_)
        · exact HS7.out _ q2
        clear hK K
        (try simp only [Act.put, List.setIfInBounds_toArray, List.set_cons_zero, List.set_cons_succ])
        have z0 := cell_of hb2 0
        have z1 := cell_of hb2 1
        have zf := fun o => frozen_of hb2 o
        simp only [List.getElem?_toArray, List.getElem?_cons_succ, List.getElem?_cons_zero] at z0 z1
        (refine wpAnyH_take (i := 9) (oi := ?_) (v := ?_) ?_ (by kernel_rfl) (by decide +kernel) (by decide +kernel) ?_ (Or.inl ⟨?_, ?_⟩) (by first | assumption | exact trivial) ?_; rotate_left 2; (focus (simp only [List.getElem?_toArray, List.getElem?_cons_zero, List.getElem?_cons_succ] <;> rfl)); (focus (exact fun _ _ _ h => h)); (focus rfl); (focus (intro w hSw; (try dsimp only at hSw); go_simp; (try with_reducible rfl); done)); (try simp only [Act.put, List.setIfInBounds_toArray, List.set_cons_zero, List.set_cons_succ]))
        (refine wpAnyH_take (i := 10) (oi := ?_) (v := ?_) ?_ (by kernel_rfl) (by decide +kernel) (by decide +kernel) ?_ (Or.inl ⟨?_, ?_⟩) (by first | assumption | exact trivial) ?_; rotate_left 2; (focus (simp only [List.getElem?_toArray, List.getElem?_cons_zero, List.getElem?_cons_succ] <;> rfl)); (focus (exact fun _ _ _ h => h)); (focus rfl); (focus (intro w hSw; (try dsimp only at hSw); go_simp; (try with_reducible rfl); done)); (try simp only [Act.put, List.setIfInBounds_toArray, List.set_cons_zero, List.set_cons_succ]))
        (refine wpAnyH_take (i := 11) (oi := ?_) (v := ?_) ?_ (by kernel_rfl) (by decide +kernel) (by decide +kernel) ?_ (Or.inl ⟨?_, ?_⟩) (by first | assumption | exact trivial) ?_; rotate_left 2; (focus (simp only [List.getElem?_toArray, List.getElem?_cons_zero, List.getElem?_cons_succ] <;> rfl)); (focus (exact fun _ _ _ h => h)); (focus rfl); (focus (intro w hSw; (try dsimp only at hSw); go_simp; (try with_reducible rfl); done)); (try simp only [Act.put, List.setIfInBounds_toArray, List.set_cons_zero, List.set_cons_succ]))
        refine wpAnyH_ready (rs := [13]) (by kernel_rfl) (by simp) ?_
        refine AllReadyH.cons (o := ?_) ?_ ?_ AllReadyH.nil
        rotate_left 1
        (focus (simp only [List.getElem?_toArray, List.getElem?_cons_zero, List.getElem?_cons_succ] <;> rfl))
        intro K hK
        go_simp
        refine hK.out _ _ ?_ (fun hHeld => ?_)
        · exact HS7.out _ (ins_leaf q2 hnp hb2 hst2 hop ho3 (p := p) (q := q)).only
        clear hK K
        (try simp only [Act.put, List.setIfInBounds_toArray, List.set_cons_zero, List.set_cons_succ])
        have HG := (ins_leaf q2 hnp hb2 hst2 hop ho3 (p := p) (q := q))
        (refine wpAnyH_take (i := 14) (oi := ?_) (v := ?_) ?_ (by kernel_rfl) (by decide +kernel) (by decide +kernel) ?_ (Or.inl ⟨?_, ?_⟩) (by first | assumption | exact trivial) ?_; rotate_left 2; (focus (simp only [List.getElem?_toArray, List.getElem?_cons_zero, List.getElem?_cons_succ] <;> rfl)); (focus (exact fun _ _ _ h => h)); (focus rfl); (focus (intro w hSw; (try dsimp only at hSw); go_simp; (try with_reducible rfl); done)); (try simp only [Act.put, List.setIfInBounds_toArray, List.set_cons_zero, List.set_cons_succ]))
        refine wpAnyH_done (by kernel_rfl) ?_ _
        generalize (d2.setCell ⟨pt, 0, none⟩ (.int .i64 p)).setCell ⟨pt, 1, none⟩ (.int .i64 q) = WF at HG ⊢
        exact KEY _ _ HG
    case key =>
      intro pt W HL0
      have HL := Lib.hid HL0
      obtain ⟨o', ho', hst, hop⟩ := HL0.st
      have HOW := Lib.hid HL0.only
      obtain ⟨lb, bb, pb, mh, mt, ms, fh, ft, fs, h'⟩ := hst
      obtain ⟨hb, hf, hp⟩ := h'.heaps.2 t.id H1 (by simp [putSt, upd])
      have HR := Lib.hid h'
      have HF := Lib.hid hf
      have HP := Lib.hid hp
      have HOP := Lib.hid hop
      have HO' := Lib.hid ho'
      have h8 : o' r8 = 0 := by rw [ho' r8 (lt_of_get HB8b.out)]; have := HX8.out; omega
      have h12 : o' r12 = 0 := by rw [ho' r12 (lt_of_get HB12b.out)]; have := HX12.out; omega
      have HO8 := Lib.hid (And.intro h8 h12)
      clear HL0 HS7 HPUT hop ho' h' hf hp h8 h12
      have HS13 : Hid (∀ W', Only (fun k => o' k = 10 + 2 * t.id) W W' → (fun w' => w'.cell? ⟨sb, 3, none⟩ = some (.map (some mh)) ∧ w'.cell? ⟨r12, 0, none⟩ = some (.int .u64 (t.id : Int)) ∧ w'.cell? ⟨r8, 1, none⟩ = some (.int .i64 pg) ∧ w'.cell? ⟨r8, 2, none⟩ = some (.int .i64 sl) ∧ w'.cell? ⟨pt, 0, none⟩ = some (.int .i64 p) ∧ w'.cell? ⟨pt, 1, none⟩ = some (.int .i64 q) ∧ (Instr.lookup 58 (.map (some mh)) (.int .u64 (t.id : Int)) false).run Tryz.prog w' = .ok (ptrV hb) w') W') := fun W' hq => by
        have b12 := tabBox_cells (hq.get (HOW.out.get HB12b.out HX12.out) (fun e => by have := HO8.out.2; (try dsimp only at e); omega))
        have b8 := hq.get (HOW.out.get HB8b.out HX8.out) (fun e => by have := HO8.out.1; (try dsimp only at e); omega)
        have bp := hq.get HL.out.box (fun e => by have := HOP.out; (try dsimp only at e); omega)
        have t1 := HR.out.tags
        have c3 := hq.cell HR.out.cells.2.2.2.1 (fun e => by (try dsimp only at e); omega)
        have hm := HR.out.mH.kept hq (fun e => by (try dsimp only at e); omega)
        exact ⟨c3, b12.1, by rw [cell_of b8]; rfl, by rw [cell_of b8]; rfl, by rw [cell_of bp]; rfl, by rw [cell_of bp]; rfl, look_heap hm HF.out HID.out⟩
      have HSTAMP : Hid (∀ W', Quiet W W' → Calls Tryz.prog 32 #[ptrV hb, .agg #[.int .i64 pg, .int .i64 sl], .int .u64 (x : Int), .agg #[.int .i64 p, .int .i64 q]] W' (fun e w' => e = .returned (.int .i64 z) ∧ Only (fun k => o' k = 10 + 2 * t.id) W' w' ∧ HeapIs w' hb pb (fun k => o' k = 10 + 2 * t.id) H2)) := fun W' hq => by
        have := heap_stamp pg sl x p q (HP.out.kept hq (fun _ _ x => x))
        rw [HST.out] at this
        exact this
      go_wp2_with fail
      refine wp_region_held_drew (S := (fun w' => w'.cell? ⟨sb, 3, none⟩ = some (.map (some mh)) ∧ w'.cell? ⟨r12, 0, none⟩ = some (.int .u64 (t.id : Int)) ∧ w'.cell? ⟨r8, 1, none⟩ = some (.int .i64 pg) ∧ w'.cell? ⟨r8, 2, none⟩ = some (.int .i64 sl) ∧ w'.cell? ⟨pt, 0, none⟩ = some (.int .i64 p) ∧ w'.cell? ⟨pt, 1, none⟩ = some (.int .i64 q) ∧ (Instr.lookup 58 (.map (some mh)) (.int .u64 (t.id : Int)) false).run Tryz.prog w' = .ok (ptrV hb) w')) (by kernel_rfl) (HS13.out _ ((Only.refl _ _).drew)) (fun hHeld => ?_)
      simp only [List.size_toArray, List.length_cons, List.length_nil, Nat.reduceAdd]
      have q6 : Quiet W W.drew := (Only.refl _ _).drew
      generalize W.drew = d6 at q6 hHeld ⊢
      (refine wpAnyH_take (i := 0) (oi := ?_) (v := ?_) ?_ (by kernel_rfl) (by decide +kernel) (by decide +kernel) ?_ (Or.inl ⟨?_, ?_⟩) (by first | assumption | exact trivial) ?_; rotate_left 2; (focus (simp only [List.getElem?_toArray, List.getElem?_cons_zero, List.getElem?_cons_succ] <;> rfl)); (focus (exact fun _ _ _ h => h)); (focus rfl); (focus (intro w hSw; (try dsimp only at hSw); go_simp; (try with_reducible rfl); done)); (try simp only [Act.put, List.setIfInBounds_toArray, List.set_cons_zero, List.set_cons_succ]))
      (refine wpAnyH_take (i := 1) (oi := ?_) (v := ?_) ?_ (by kernel_rfl) (by decide +kernel) (by decide +kernel) ?_ (Or.inl ⟨?_, ?_⟩) (by first | assumption | exact trivial) ?_; rotate_left 2; (focus (simp only [List.getElem?_toArray, List.getElem?_cons_zero, List.getElem?_cons_succ] <;> rfl)); (focus (exact fun _ _ _ h => h)); (focus rfl); (focus (intro w hSw; (try dsimp only at hSw); go_simp; (try with_reducible rfl); done)); (try simp only [Act.put, List.setIfInBounds_toArray, List.set_cons_zero, List.set_cons_succ]))
      (refine wpAnyH_take (i := 2) (oi := ?_) (v := ?_) ?_ (by kernel_rfl) (by decide +kernel) (by decide +kernel) ?_ (Or.inl ⟨?_, ?_⟩) (by first | assumption | exact trivial) ?_; rotate_left 2; (focus (simp only [List.getElem?_toArray, List.getElem?_cons_zero, List.getElem?_cons_succ] <;> rfl)); (focus (exact fun _ _ _ h => h)); (focus rfl); (focus (intro w hSw; (try dsimp only at hSw); go_simp; (try with_reducible rfl); done)); (try simp only [Act.put, List.setIfInBounds_toArray, List.set_cons_zero, List.set_cons_succ]))
      (refine wpAnyH_take (i := 3) (oi := ?_) (v := ?_) ?_ (by kernel_rfl) (by decide +kernel) (by decide +kernel) ?_ (Or.inl ⟨?_, ?_⟩) (by first | assumption | exact trivial) ?_; rotate_left 2; (focus (simp only [List.getElem?_toArray, List.getElem?_cons_zero, List.getElem?_cons_succ] <;> rfl)); (focus (exact fun _ _ _ h => h)); (focus rfl); (focus (intro w hSw; (try dsimp only at hSw); go_simp; (try with_reducible rfl); done)); (try simp only [Act.put, List.setIfInBounds_toArray, List.set_cons_zero, List.set_cons_succ]))
      (refine wpAnyH_take (i := 4) (oi := ?_) (v := ?_) ?_ (by kernel_rfl) (by decide +kernel) (by decide +kernel) ?_ (Or.inl ⟨?_, ?_⟩) (by first | assumption | exact trivial) ?_; rotate_left 2; (focus (simp only [List.getElem?_toArray, List.getElem?_cons_zero, List.getElem?_cons_succ] <;> rfl)); (focus (exact fun _ _ _ h => h)); (focus rfl); (focus (intro w hSw; (try dsimp only at hSw); go_simp; (try with_reducible rfl); done)); (try simp only [Act.put, List.setIfInBounds_toArray, List.set_cons_zero, List.set_cons_succ]))
      (refine wpAnyH_take (i := 5) (oi := ?_) (v := ?_) ?_ (by kernel_rfl) (by decide +kernel) (by decide +kernel) ?_ (Or.inl ⟨?_, ?_⟩) (by first | assumption | exact trivial) ?_; rotate_left 2; (focus (simp only [List.getElem?_toArray, List.getElem?_cons_zero, List.getElem?_cons_succ] <;> rfl)); (focus (exact fun _ _ _ h => h)); (focus rfl); (focus (intro w hSw; (try dsimp only at hSw); go_simp; (try with_reducible rfl); done)); (try simp only [Act.put, List.setIfInBounds_toArray, List.set_cons_zero, List.set_cons_succ]))
      (refine wpAnyH_take (i := 6) (oi := ?_) (v := ?_) ?_ (by kernel_rfl) (by decide +kernel) (by decide +kernel) ?_ (Or.inl ⟨?_, ?_⟩) (by first | assumption | exact trivial) ?_; rotate_left 2; (focus (simp only [List.getElem?_toArray, List.getElem?_cons_zero, List.getElem?_cons_succ] <;> rfl)); (focus (exact fun _ _ _ h => h)); (focus rfl); (focus (intro w hSw; (try dsimp only at hSw); go_simp; (try with_reducible rfl); done)); (try simp only [Act.put, List.setIfInBounds_toArray, List.set_cons_zero, List.set_cons_succ]))
      (refine wpAnyH_take (i := 7) (oi := ?_) (v := ?_) ?_ (by kernel_rfl) (by decide +kernel) (by decide +kernel) ?_ (Or.inl ⟨?_, ?_⟩) (by first | assumption | exact trivial) ?_; rotate_left 2; (focus (simp only [List.getElem?_toArray, List.getElem?_cons_zero, List.getElem?_cons_succ] <;> rfl)); (focus (exact fun _ _ _ h => h)); (focus rfl); (focus (intro w hSw; (try dsimp only at hSw); go_simp; (try with_reducible rfl); done)); (try simp only [Act.put, List.setIfInBounds_toArray, List.set_cons_zero, List.set_cons_succ]))
      (refine wpAnyH_take (i := 8) (oi := ?_) (v := ?_) ?_ (by kernel_rfl) (by decide +kernel) (by decide +kernel) ?_ (Or.inl ⟨?_, ?_⟩) (by first | assumption | exact trivial) ?_; rotate_left 2; (focus (simp only [List.getElem?_toArray, List.getElem?_cons_zero, List.getElem?_cons_succ] <;> rfl)); (focus (exact fun _ _ _ h => h)); (focus rfl); (focus (intro w hSw; (try dsimp only at hSw); go_simp; (try with_reducible rfl); done)); (try simp only [Act.put, List.setIfInBounds_toArray, List.set_cons_zero, List.set_cons_succ]))
      (refine wpAnyH_take (i := 9) (oi := ?_) (v := ?_) ?_ (by kernel_rfl) (by decide +kernel) (by decide +kernel) ?_ (Or.inl ⟨?_, ?_⟩) (by first | assumption | exact trivial) ?_; rotate_left 2; (focus (simp only [List.getElem?_toArray, List.getElem?_cons_zero, List.getElem?_cons_succ] <;> rfl)); (focus (exact fun _ _ _ h => h)); (focus rfl); (focus (intro w hSw; (try dsimp only at hSw); go_simp; (try with_reducible rfl); done)); (try simp only [Act.put, List.setIfInBounds_toArray, List.set_cons_zero, List.set_cons_succ]))
      (refine wpAnyH_take (i := 10) (oi := ?_) (v := ?_) ?_ (by kernel_rfl) (by decide +kernel) (by decide +kernel) ?_ (Or.inl ⟨?_, ?_⟩) (by first | assumption | exact trivial) ?_; rotate_left 2; (focus (simp only [List.getElem?_toArray, List.getElem?_cons_zero, List.getElem?_cons_succ] <;> rfl)); (focus (exact fun _ _ _ h => h)); (focus rfl); (focus (intro w hSw; (try dsimp only at hSw); go_simp; (try with_reducible rfl); done)); (try simp only [Act.put, List.setIfInBounds_toArray, List.set_cons_zero, List.set_cons_succ]))
      refine wpAnyH_ready (rs := [11]) (by kernel_rfl) (by simp) ?_
      refine AllReadyH.cons (o := ?_) ?_ ?_ AllReadyH.nil
      rotate_left 1
      (focus (simp only [List.getElem?_toArray, List.getElem?_cons_zero, List.getElem?_cons_succ] <;> rfl))
      intro K hK
      go_simp
      go_at_call 32
      refine (HSTAMP.out _ q6).mono ?_
      rintro e d7 ⟨rfl, ho7, hh7⟩
      dsimp only
      refine hK.out _ _ ?_ (fun hHeld => ?_)
      · exact HS13.out _ ((q6.mono (T := fun k => o' k = 10 + 2 * t.id) (fun _ _ x => x.elim)).trans ho7)
      clear hK K
      (try simp only [Act.put, List.setIfInBounds_toArray, List.set_cons_zero, List.set_cons_succ])
      (refine wpAnyH_take (i := 12) (oi := ?_) (v := ?_) ?_ (by kernel_rfl) (by decide +kernel) (by decide +kernel) ?_ (Or.inl ⟨?_, ?_⟩) (by first | assumption | exact trivial) ?_; rotate_left 2; (focus (simp only [List.getElem?_toArray, List.getElem?_cons_zero, List.getElem?_cons_succ] <;> rfl)); (focus (exact fun _ _ _ h => h)); (focus rfl); (focus (intro w hSw; (try dsimp only at hSw); go_simp; (try with_reducible rfl); done)); (try simp only [Act.put, List.setIfInBounds_toArray, List.set_cons_zero, List.set_cons_succ]))
      refine wpAnyH_done (by kernel_rfl) ?_ _
      have HEND : Hid (POST (.returned (.int .i64 z)) d7) := by
        rw [← HPOST.out]
        unfold UpdPost
        rw [if_pos rfl]
        have ho := (q6.mono (T := fun k => o' k = 10 + 2 * t.id) (fun _ _ x => x.elim)).trans ho7
        have tg := HR.out.tags
        have hpo := (HR.out.pool.kept q6 (fun x => x)).kept ho7 (fun e => by (try dsimp only at e); omega)
        have h9 := HR.out.setHeap (id := t.id) HF.out (ho.mono (fun k _ x => Or.inl x)) hpo (hh7.mono (fun k x => Or.inl x))
        have hsz := HOW.out.size
        have hzz := HQWB.out.size
        have e1 : ({ putSt s t.id H1 left' with left := (putSt s t.id H1 left').left, hs := upd (putSt s t.id H1 left').hs t.id (some H2) } : St) = putSt s t.id H2 left' := by
          simp only [putSt, upd_upd]
        rw [e1] at h9
        have hon : Only (fun k => o k ≠ 0) w d7 := ((HQWB.out.mono (fun _ _ x => x.elim)).trans' HOW.out (fun k _ x => x)).trans' ho (fun k hk x => by
          rw [← HO'.out k (by omega)]
          omega)
        exact ⟨rfl, _, fun k hk => by rw [grow_old (by omega)]; exact HO'.out k (by omega), hon, lb, bb, pb, mh, mt, ms, fh, ft, fs, h9⟩
      clear hHeld q6 ho7 hh7 HS13 HSTAMP
      go_wp2
      exact HEND.out
  · have hne : ¬ (code : Int) = 0 := by omega
    have HEND : Hid (POST (.returned (.int .i64 (code : Int))) (w5.alloc (.cells #[.int .u64 v.row, .int .u64 v.xmin, .int .u64 v.xmax, .int .i64 v.pg, .int .i64 v.sl, .slice A6 v.data.length c6] 86))) := by
      rw [← HPOST.out]
      unfold UpdPost
      rw [if_neg hz]
      have hq := HQ4.out.trans HQB.out
      exact ⟨rfl, o, fun _ _ => rfl, hq.mono (fun _ _ x => x.elim), HH.out.quietly hq⟩
    go_wp2
    exact HEND.out

end Go.Proofs.YtdeekopdhgjanaaGreatDoor

namespace Go.Proofs.YtdeekopdhgjanaaGreatDoor
open Go.RowKit Go.Lap

def StoreScanPost (w : World) (R : List RowR) (e : Ending) (w' : World) : Prop :=
  ∃ v M, e = .returned (.tuple #[v, .int .i64 0]) ∧ RowsW w w' v M ∧ (M.map RowM.told).Perm R ∧ M.Pairwise (fun a b => a.id ≤ b.id)

/-- All versions of a heap are rows of small numbers. -/
def IntHeap (H : List (List (Option Tup))) : Prop := ∀ pg sl v, hGet H pg sl = some v → U64 v.xmin ∧ U64 v.xmax ∧ ∃ n, n < 256 ∧ v.data = rowI n

theorem placesTo_get {p : Int} {T : List (Option Tup)} {k : Nat} {a : Int × Int} (h : a ∈ placesTo p T k) : a.1 = p ∧ ∃ j, j < k ∧ a.2 = (j : Int) ∧ ∃ v, T[j]? = some (some v) := by
  unfold placesTo at h
  obtain ⟨j, hj, e⟩ := List.mem_filterMap.1 h
  split at e
  · rename_i hs
    injection e with e
    subst e
    obtain ⟨v, hv⟩ := Option.isSome_iff_exists.1 hs
    refine ⟨rfl, j, List.mem_range.1 hj, rfl, v, ?_⟩
    cases hT : T[j]? with
    | none => rw [hT] at hv; cases hv
    | some u => rw [hT] at hv; cases u with
      | none => cases hv
      | some u => simpa using hv
  · cases e

theorem placesH_get {H : List (List (Option Tup))} {a : Int × Int} {k : Nat} (h : a ∈ placesH H k) : ∃ v, hGet H a.1 a.2 = some v := by
  induction k with
  | zero => cases h
  | succ k ih =>
    rcases List.mem_append.1 h with h | h
    · exact ih h
    · obtain ⟨h1, j, _, h2, v, h3⟩ := placesTo_get h
      refine ⟨v, ?_⟩
      unfold hGet
      rw [h1, if_neg (by omega), h2]
      unfold tupAt
      rw [if_neg (by omega)]
      show ((H.getD k [])[((j : Nat) : Int).toNat]?).join = some v
      rw [Int.toNat_natCast, h3]
      rfl

set_option maxHeartbeats 4000000 in
set_option maxRecDepth 100000 in
theorem store_scan {w : World} {sb x i : Nat} {o : Nat → Nat} {s : St} {y : Snap} {t : TE} {name nm : ByteArray} {H : List (List (Option Tup))} (h : StoreAt w sb o s) (hx : U64 x) (hy : s.sn x = some y) (hf : findT s.L y name s.T = some i) (ht : s.T[i]? = some t) (hc : t.cols = [(nm, 1)]) (hid : U64 t.id)
    (hH : s.hs t.id = some H) (hN : ∀ k, k ≤ H.length → (placesH H k).length ≤ 1000000) (hI : IntHeap H) :
    Calls Tryz.prog 12 #[ptrV sb, .int .u64 (x : Int), .string name] w (StoreScanPost w (seenR H s.L y (placesH H H.length))) := by
  have HO := Lib.hid (store_open h hx hy hf ht)
  have HH := Lib.hid h
  have HC := Lib.hid hc
  have HID := Lib.hid hid
  have HHH := Lib.hid (And.intro hH (And.intro hN hI))
  obtain ⟨POST, hPOST⟩ : ∃ POST, StoreScanPost w (seenR H s.L y (placesH H H.length)) = POST := ⟨_, rfl⟩
  rw [hPOST]
  have HPOST := Lib.hid hPOST
  clear h hx hy hf ht hc hid hH hN hI hPOST
  go_enter Tryz.func12, Tryz.ntmps12
  go_wp2_with fail
  refine HO.out.mono ?_
  rintro e w1 ⟨A, c, A2, c2, rfl, hq1, hs1, hf1, hc2, hm2⟩
  clear HO
  have HQ1 := Lib.hid hq1
  have HF1 := Lib.hid hf1
  have HS1 := Lib.hid hs1
  have HC2 := Lib.hid (And.intro hc2 hm2)
  have q2 : Quiet w1 ((w1.alloc (.cells (snapCells y A c) 65)).alloc (.cells #[.int .u64 (t.id : Int), .string t.name, .slice A2 t.cols.length c2, .int .u64 (t.xmin : Int), .int .u64 (t.xmax : Int)] 75)) := ((Only.refl _ _).alloc _).alloc _
  have b9 := two_new w1 (.cells (snapCells y A c) 65) (.cells #[.int .u64 (t.id : Int), .string t.name, .slice A2 t.cols.length c2, .int .u64 (t.xmin : Int), .int .u64 (t.xmax : Int)] 75)
  have b8 := alloc_old (alloc_new w1 (.cells (snapCells y A c) 65)) (.cells #[.int .u64 (t.id : Int), .string t.name, .slice A2 t.cols.length c2, .int .u64 (t.xmin : Int), .int .u64 (t.xmax : Int)] 75)
  have HQ2 := Lib.hid q2
  have HB9 := Lib.hid b9
  have HB8 := Lib.hid b8
  obtain ⟨r8, hr8⟩ : ∃ r8, w1.heap.size = r8 := ⟨_, rfl⟩
  obtain ⟨r9, hr9⟩ : ∃ r9, r8 + 1 = r9 := ⟨_, rfl⟩
  rw [hr8] at HB9 HB8
  rw [hr9] at HB9
  have HE8 := Lib.hid hr8
  have HE9 := Lib.hid hr9
  clear hq1 hs1 hf1 hc2 hm2 q2 b9 b8 hr8 hr9
  unfold snapV tabV
  go_wp2_with fail
  (try simp only [World.size_alloc])
  rw [HE8.out, HE9.out]
  generalize (w1.alloc (.cells #[.int .u64 (y.own : Int), .int .u64 (y.xmin : Int), .int .u64 (y.xmax : Int), .slice A y.run.length c] 65)).alloc (.cells #[.int .u64 (t.id : Int), .string t.name, .slice A2 t.cols.length c2, .int .u64 (t.xmin : Int), .int .u64 (t.xmax : Int)] 75) = w2 at *
  have HQW : Hid (Quiet w w2) := HQ1.out.trans HQ2.out
  have HHW := Lib.hid (HH.out.quietly HQW.out)
  have HS4 : Hid (∀ W, Quiet w2 W → (fun w' => w'.cell? ⟨r8, 0, none⟩ = some (.int .u64 (y.own : Int)) ∧ w'.cell? ⟨r8, 1, none⟩ = some (.int .u64 (y.xmin : Int)) ∧ w'.cell? ⟨r8, 2, none⟩ = some (.int .u64 (y.xmax : Int)) ∧ w'.cell? ⟨r8, 3, none⟩ = some (.slice A y.run.length c) ∧ w'.cell? ⟨r9, 0, none⟩ = some (.int .u64 (t.id : Int)) ∧ w'.cell? ⟨r9, 1, none⟩ = some (.string t.name) ∧ w'.cell? ⟨r9, 2, none⟩ = some (.slice A2 t.cols.length c2) ∧ w'.cell? ⟨r9, 3, none⟩ = some (.int .u64 (t.xmin : Int)) ∧ w'.cell? ⟨r9, 4, none⟩ = some (.int .u64 (t.xmax : Int))) W) := fun W hq => by
    have b9 := tabBox_cells (hq.get HB9.out (fun x => x))
    have b8 := snapBox_cells (hq.get HB8.out (fun x => x))
    exact ⟨b8.1, b8.2.1, b8.2.2.1, b8.2.2.2, b9⟩
  have HPL : Hid (∀ W, Quiet w2 W → Calls Tryz.prog 30 #[ptrV sb, .int .u64 (t.id : Int)] W (ChainPost W (placesH H H.length))) := fun W hq => store_places (HHW.out.quietly hq) HID.out HHH.out.1 HHH.out.2.1
  have HRW : Hid (∀ W, Quiet w2 W → ∀ A3 c3 (Sl : Nat → Prop), Rd W Sl 2 A3 (placesH H H.length).length (tidsV (placesH H H.length)) → Calls Tryz.prog 29 #[ptrV sb, snapV y A c, tabV t A2 c2, .slice A3 (placesH H H.length).length c3] W (RowsPost W (seenR H s.L y (placesH H H.length)))) := fun W hq A3 c3 Sl hr => by
    obtain ⟨A', c', e', h1, h2, h3⟩ := own_form HF1.out.own
    injection e' with e1 _ e2
    subst e1 e2
    exact store_rows (HHW.out.quietly hq) ((HS1.out.kept HQ2.out (fun _ _ x => x)).kept hq (fun _ _ x => x)) HC.out HID.out ((h3.kept HQ2.out (fun _ _ x => x)).kept hq (fun _ _ x => x)) HC2.out.1 HC2.out.2 HHH.out.1 hr (HHH.out.2.1 _ (Nat.le_refl _)) (fun a ha => by
      obtain ⟨v, hv⟩ := placesH_get ha
      obtain ⟨i1, i2, i3⟩ := HHH.out.2.2 _ _ _ hv
      exact ⟨v, hv, i1, i2, fun _ => i3⟩)
  unfold snapV tabV at HRW
  refine wp_region_held_drew (S := (fun w' => w'.cell? ⟨r8, 0, none⟩ = some (.int .u64 (y.own : Int)) ∧ w'.cell? ⟨r8, 1, none⟩ = some (.int .u64 (y.xmin : Int)) ∧ w'.cell? ⟨r8, 2, none⟩ = some (.int .u64 (y.xmax : Int)) ∧ w'.cell? ⟨r8, 3, none⟩ = some (.slice A y.run.length c) ∧ w'.cell? ⟨r9, 0, none⟩ = some (.int .u64 (t.id : Int)) ∧ w'.cell? ⟨r9, 1, none⟩ = some (.string t.name) ∧ w'.cell? ⟨r9, 2, none⟩ = some (.slice A2 t.cols.length c2) ∧ w'.cell? ⟨r9, 3, none⟩ = some (.int .u64 (t.xmin : Int)) ∧ w'.cell? ⟨r9, 4, none⟩ = some (.int .u64 (t.xmax : Int)))) (by kernel_rfl) (HS4.out _ ((Only.refl _ _).drew)) (fun hHeld => ?_)
  simp only [List.size_toArray, List.length_cons, List.length_nil, Nat.reduceAdd]
  have q0 : Quiet w2 w2.drew := (Only.refl _ _).drew
  generalize w2.drew = d0 at q0 hHeld ⊢
  (refine wpAnyH_take (i := 0) (oi := ?_) (v := ?_) ?_ (by kernel_rfl) (by decide +kernel) (by decide +kernel) ?_ (Or.inl ⟨?_, ?_⟩) (by first | assumption | exact trivial) ?_; rotate_left 2; (focus (simp only [List.getElem?_toArray, List.getElem?_cons_zero, List.getElem?_cons_succ] <;> rfl)); (focus (exact fun _ _ _ h => h)); (focus rfl); (focus (intro w hSw; (try dsimp only at hSw); go_simp; (try with_reducible rfl); done)); (try simp only [Act.put, List.setIfInBounds_toArray, List.set_cons_zero, List.set_cons_succ]))
  (refine wpAnyH_take (i := 1) (oi := ?_) (v := ?_) ?_ (by kernel_rfl) (by decide +kernel) (by decide +kernel) ?_ (Or.inl ⟨?_, ?_⟩) (by first | assumption | exact trivial) ?_; rotate_left 2; (focus (simp only [List.getElem?_toArray, List.getElem?_cons_zero, List.getElem?_cons_succ] <;> rfl)); (focus (exact fun _ _ _ h => h)); (focus rfl); (focus (intro w hSw; (try dsimp only at hSw); go_simp; (try with_reducible rfl); done)); (try simp only [Act.put, List.setIfInBounds_toArray, List.set_cons_zero, List.set_cons_succ]))
  (refine wpAnyH_take (i := 2) (oi := ?_) (v := ?_) ?_ (by kernel_rfl) (by decide +kernel) (by decide +kernel) ?_ (Or.inl ⟨?_, ?_⟩) (by first | assumption | exact trivial) ?_; rotate_left 2; (focus (simp only [List.getElem?_toArray, List.getElem?_cons_zero, List.getElem?_cons_succ] <;> rfl)); (focus (exact fun _ _ _ h => h)); (focus rfl); (focus (intro w hSw; (try dsimp only at hSw); go_simp; (try with_reducible rfl); done)); (try simp only [Act.put, List.setIfInBounds_toArray, List.set_cons_zero, List.set_cons_succ]))
  (refine wpAnyH_take (i := 3) (oi := ?_) (v := ?_) ?_ (by kernel_rfl) (by decide +kernel) (by decide +kernel) ?_ (Or.inl ⟨?_, ?_⟩) (by first | assumption | exact trivial) ?_; rotate_left 2; (focus (simp only [List.getElem?_toArray, List.getElem?_cons_zero, List.getElem?_cons_succ] <;> rfl)); (focus (exact fun _ _ _ h => h)); (focus rfl); (focus (intro w hSw; (try dsimp only at hSw); go_simp; (try with_reducible rfl); done)); (try simp only [Act.put, List.setIfInBounds_toArray, List.set_cons_zero, List.set_cons_succ]))
  (refine wpAnyH_take (i := 4) (oi := ?_) (v := ?_) ?_ (by kernel_rfl) (by decide +kernel) (by decide +kernel) ?_ (Or.inl ⟨?_, ?_⟩) (by first | assumption | exact trivial) ?_; rotate_left 2; (focus (simp only [List.getElem?_toArray, List.getElem?_cons_zero, List.getElem?_cons_succ] <;> rfl)); (focus (exact fun _ _ _ h => h)); (focus rfl); (focus (intro w hSw; (try dsimp only at hSw); go_simp; (try with_reducible rfl); done)); (try simp only [Act.put, List.setIfInBounds_toArray, List.set_cons_zero, List.set_cons_succ]))
  (refine wpAnyH_take (i := 5) (oi := ?_) (v := ?_) ?_ (by kernel_rfl) (by decide +kernel) (by decide +kernel) ?_ (Or.inl ⟨?_, ?_⟩) (by first | assumption | exact trivial) ?_; rotate_left 2; (focus (simp only [List.getElem?_toArray, List.getElem?_cons_zero, List.getElem?_cons_succ] <;> rfl)); (focus (exact fun _ _ _ h => h)); (focus rfl); (focus (intro w hSw; (try dsimp only at hSw); go_simp; (try with_reducible rfl); done)); (try simp only [Act.put, List.setIfInBounds_toArray, List.set_cons_zero, List.set_cons_succ]))
  refine wpAnyH_ready (rs := [6]) (by kernel_rfl) (by simp) ?_
  refine AllReadyH.cons (o := ?_) ?_ ?_ AllReadyH.nil
  rotate_left 1
  (focus (simp only [List.getElem?_toArray, List.getElem?_cons_zero, List.getElem?_cons_succ] <;> rfl))
  intro K hK
  go_simp
  go_at_call 30
  refine (HPL.out _ q0).mono ?_
  rintro e d1 ⟨v3, rfl, hq3, _, ht3⟩
  obtain ⟨A3, c3, rfl, hc3, hm3, hrd3⟩ := own_form ht3
  have q1 := q0.trans hq3
  clear hq3 ht3
  dsimp only
  refine hK.out _ _ ?_ (fun hHeld => ?_)
  · exact HS4.out _ q1
  clear hK K
  (try simp only [Act.put, List.setIfInBounds_toArray, List.set_cons_zero, List.set_cons_succ])
  refine wpAnyH_ready (rs := [7]) (by kernel_rfl) (by simp) ?_
  refine AllReadyH.cons (o := ?_) ?_ ?_ AllReadyH.nil
  rotate_left 1
  (focus (simp only [List.getElem?_toArray, List.getElem?_cons_zero, List.getElem?_cons_succ] <;> rfl))
  intro K hK
  go_simp
  go_at_call 29
  refine (HRW.out _ q1 A3 c3 _ hrd3).mono ?_
  rintro e d2 ⟨v4, M, rfl, hrw, hpm, hpw⟩
  have q2 := q1.trans hrw.quiet
  dsimp only
  refine hK.out _ _ ?_ (fun hHeld => ?_)
  · exact HS4.out _ q2
  clear hK K
  (try simp only [Act.put, List.setIfInBounds_toArray, List.set_cons_zero, List.set_cons_succ])
  (refine wpAnyH_take (i := 8) (oi := ?_) (v := ?_) ?_ (by kernel_rfl) (by decide +kernel) (by decide +kernel) ?_ (Or.inl ⟨?_, ?_⟩) (by first | assumption | exact trivial) ?_; rotate_left 2; (focus (simp only [List.getElem?_toArray, List.getElem?_cons_zero, List.getElem?_cons_succ] <;> rfl)); (focus (exact fun _ _ _ h => h)); (focus rfl); (focus (intro w hSw; (try dsimp only at hSw); go_simp; (try with_reducible rfl); done)); (try simp only [Act.put, List.setIfInBounds_toArray, List.set_cons_zero, List.set_cons_succ]))
  (refine wpAnyH_take (i := 9) (oi := ?_) (v := ?_) ?_ (by kernel_rfl) (by decide +kernel) (by decide +kernel) ?_ (Or.inl ⟨?_, ?_⟩) (by first | assumption | exact trivial) ?_; rotate_left 2; (focus (simp only [List.getElem?_toArray, List.getElem?_cons_zero, List.getElem?_cons_succ] <;> rfl)); (focus (exact fun _ _ _ h => h)); (focus rfl); (focus (intro w hSw; (try dsimp only at hSw); go_simp; (try with_reducible rfl); done)); (try simp only [Act.put, List.setIfInBounds_toArray, List.set_cons_zero, List.set_cons_succ]))
  refine wpAnyH_done (by kernel_rfl) ?_ _
  have HEND : Hid (POST (.returned (.tuple #[v4, .int .i64 0])) d2) := by
    rw [← HPOST.out]
    exact ⟨v4, M, rfl, hrw.from (HQW.out.trans q1), hpm, hpw⟩
  clear hHeld q0 q1 q2 hrw hpm hpw HS4 HPL HRW hrd3 hc3 hm3
  go_wp2
  exact HEND.out

end Go.Proofs.YtdeekopdhgjanaaGreatDoor

namespace Go.Proofs.YtdeekopdhgjanaaGreatDoor
open Go.RowKit Go.Lap

/-- A first table. -/
def makeSt (s : St) (name nm : ByteArray) (kd own : Nat) : St := { s with T := [⟨s.blast + 1, name, [(nm, kd)], own, 0⟩], I := [], blast := s.blast + 1, hs := upd s.hs (s.blast + 1) (some []) }

def StoreMakePost (w : World) (sb : Nat) (o : Nat → Nat) (s' : St) (e : Ending) (w' : World) : Prop := e = .returned (.int .i64 0) ∧ StepTo w sb o s' w'

theorem storeMake_done {w w2 w3 w5 w6 : World} {sb lb bb pb mh mt ms hb kd own : Nat} {o : Nat → Nat} {s : St} {fh ft fs : Nat → Option Value} {name nm : ByteArray} (h : StoreRow w sb o s lb bb pb mh mt ms fh ft fs) (_hT : s.T = []) (_hI : s.I = []) (hid : s.hs (s.blast + 1) = none) (hq2 : Quiet w w2)
    (ho3 : Only (fun k => o k = 3) w2 w3) (hb3 : BookIs w3 (fun k => o k = 3 ∨ w2.heap.size ≤ k) bb [⟨s.blast + 1, name, [(nm, kd)], own, 0⟩] [] (s.blast + 1)) (hq5 : Quiet w3 w5) (hh5 : HeapIs w5 hb pb (fun k => w3.heap.size ≤ k) [])
    (ho6 : Only (fun k => k = mh) w5 w6) (hm : MapF w6 mh (upd fh (s.blast + 1) (some (ptrV hb)))) : StepTo w sb o (makeSt s name nm kd own) w6 := by
  have h2 := h.quietly hq2
  have h3 := h2.setBook ho3 hb3
  have hbig := h3.big
  have h5 := h3.quietly hq5
  have tm : grow o w2.heap.size w3.heap.size 3 mh = 6 := h3.tags.2.2.1
  have hnm : ¬ w3.heap.size ≤ mh := fun x => by have := hbig mh x; omega
  have h6 := h5.newHeap (B := w3.heap.size) (id := s.blast + 1) (hb := hb) (H' := []) hbig hq5.size hid ho6 hm (hh5.kept ho6 (fun k hk e => by omega))
  have s1 := ho3.size
  have s2 := hq5.size
  have s0 := hq2.size
  have e6 : o mh = 6 := h.tags.2.2.1
  refine ⟨_, fun k hk => ?_, (((hq2.mono (T := fun k => o k ≠ 0) (fun _ _ x => x.elim)).trans' ho3 (fun k _ e => by omega)).trans' hq5 (fun k _ e => e.elim)).trans' ho6 (fun k _ e => by rw [e, e6]; omega), _, _, _, _, _, _, _, _, _, h6⟩
  rw [grow_old (by omega), grow_old (by omega)]

set_option maxHeartbeats 4000000 in
set_option maxRecDepth 100000 in
theorem store_make {w : World} {sb x kd c2 : Nat} {o : Nat → Nat} {s : St} {y : Snap} {name nm : ByteArray} {S2 : Nat → Prop} {A2 : Option Addr} (h : StoreAt w sb o s) (hx : U64 x) (hy : s.sn x = some y) (hT : s.T = []) (hI : s.I = []) (hid : s.hs (s.blast + 1) = none) (hl : s.blast < 1000000) (hu : U64 y.own)
    (hnm : Small name) (hcn : Small nm) (hk : 1 ≤ kd ∧ kd ≤ 3) (hr : Rd w S2 2 A2 1 (colsV [(nm, kd)])) (hS : ∀ k, S2 k → o k ≠ 3) (hc2 : 1 ≤ c2) (hm2 : c2 ≤ maxLen) :
    Calls Tryz.prog 7 #[ptrV sb, .int .u64 (x : Int), .string name, .slice A2 1 c2] w (StoreMakePost w sb o (makeSt s name nm kd y.own)) := by
  have HRU := Lib.hid (store_runs h hx)
  obtain ⟨lb, bb, pb, mh, mt, ms, fh, ft, fs, h⟩ := h
  have HH := Lib.hid h
  have HR := Lib.hid hr
  unfold RunsPost at HRU
  rw [hy] at HRU
  clear hr
  go_enter Tryz.func7, Tryz.ntmps7
  go_wp2_with fail
  refine HRU.out.mono ?_
  rintro e w1 ⟨hq1, A, c, rfl, hs1⟩
  clear HRU
  have hq2 : Quiet w (w1.alloc (.cells (snapCells y A c) 65)) := hq1.alloc _
  have hpb := alloc_new w1 (.cells (snapCells y A c) 65)
  have hs2 := hs1.kept ((Only.refl (fun _ => False) w1).alloc (.cells (snapCells y A c) 65)) (fun _ _ x => x)
  have hz1 := hq1.size
  obtain ⟨pv, hpv⟩ : ∃ pv, w1.heap.size = pv := ⟨_, rfl⟩
  unfold snapV
  go_wp2_with fail
  rw [hpv] at hpb hz1
  have hpo : o pv = 0 := h.big pv hz1
  obtain ⟨t1, t2, t3, t4, t5⟩ := h.tags
  generalize w1.alloc (.cells (snapCells y A c) 65) = w2 at *
  obtain ⟨c0, c1, q2, q3, _, _, _⟩ := (h.quietly hq2).cells
  obtain ⟨p0, p1, p2, p3⟩ : w2.cell? ⟨pv, 0, none⟩ = some (.int .u64 (y.own : Int)) ∧ w2.cell? ⟨pv, 1, none⟩ = some (.int .u64 (y.xmin : Int)) ∧ w2.cell? ⟨pv, 2, none⟩ = some (.int .u64 (y.xmax : Int)) ∧ w2.cell? ⟨pv, 3, none⟩ = some (.slice A y.run.length c) :=
    ⟨by rw [cell_of hpb]; rfl, by rw [cell_of hpb]; rfl, by rw [cell_of hpb]; rfl, by rw [cell_of hpb]; rfl⟩
  have hs3 : ¬ o sb = 3 := by omega
  have hp3 : ¬ o pv = 3 := by omega
  have HBK : Hid (Calls Tryz.prog 21 #[ptrV bb, ptrV lb, snapV y A c, .string name, .slice A2 1 c2] w2.drew (FirstPost w2.drew (fun k => o k = 3) bb s.blast ⟨s.blast + 1, name, [(nm, kd)], y.own, 0⟩)) := by
    have hbk := (h.quietly hq2).book
    rw [hT, hI] at hbk
    exact book_first (S := fun _ => False) (hbk.kept ((Only.refl (fun _ => False) w2).drew) (fun _ _ x => x)) hl hnm hcn hk hu (HR.out.kept hq2.drew (fun _ _ x => x)) hS hc2 hm2
  have HQ2 := Lib.hid hq2
  have lsb := cell_lt c0
  have lpv := cell_lt p0
  dsimp only at lsb lpv
  unfold snapV at HBK
  clear hq1 hs1 hs2 hpb hz1 hpo hq2 HR h t1 t2 t3 t4 t5
  refine wp_region_held_drew (S := fun w' => w'.cell? ⟨sb, 1, none⟩ = some (ptrV bb) ∧ w'.cell? ⟨sb, 0, none⟩ = some (ptrV lb) ∧ w'.cell? ⟨pv, 0, none⟩ = some (.int .u64 (y.own : Int)) ∧ w'.cell? ⟨pv, 1, none⟩ = some (.int .u64 (y.xmin : Int)) ∧ w'.cell? ⟨pv, 2, none⟩ = some (.int .u64 (y.xmax : Int)) ∧ w'.cell? ⟨pv, 3, none⟩ = some (.slice A y.run.length c)) (by kernel_rfl) (⟨c1, c0, p0, p1, p2, p3⟩) (fun hHeld => ?_)
  simp only [List.size_toArray, List.length_cons, List.length_nil, Nat.reduceAdd]
  (refine wpAnyH_take (i := 0) (oi := ?_) (v := ?_) ?_ (by kernel_rfl) (by decide +kernel) (by decide +kernel) ?_ (Or.inl ⟨?_, ?_⟩) (by first | assumption | exact trivial) ?_; rotate_left 2; (focus (simp only [List.getElem?_toArray, List.getElem?_cons_zero, List.getElem?_cons_succ] <;> rfl)); (focus (exact fun _ _ _ h => h)); (focus rfl); (focus (intro w hSw; (try dsimp only at hSw); go_simp; (try with_reducible rfl); done)); (try simp only [Act.put, List.setIfInBounds_toArray, List.set_cons_zero, List.set_cons_succ]))
  (refine wpAnyH_take (i := 1) (oi := ?_) (v := ?_) ?_ (by kernel_rfl) (by decide +kernel) (by decide +kernel) ?_ (Or.inl ⟨?_, ?_⟩) (by first | assumption | exact trivial) ?_; rotate_left 2; (focus (simp only [List.getElem?_toArray, List.getElem?_cons_zero, List.getElem?_cons_succ] <;> rfl)); (focus (exact fun _ _ _ h => h)); (focus rfl); (focus (intro w hSw; (try dsimp only at hSw); go_simp; (try with_reducible rfl); done)); (try simp only [Act.put, List.setIfInBounds_toArray, List.set_cons_zero, List.set_cons_succ]))
  (refine wpAnyH_take (i := 2) (oi := ?_) (v := ?_) ?_ (by kernel_rfl) (by decide +kernel) (by decide +kernel) ?_ (Or.inl ⟨?_, ?_⟩) (by first | assumption | exact trivial) ?_; rotate_left 2; (focus (simp only [List.getElem?_toArray, List.getElem?_cons_zero, List.getElem?_cons_succ] <;> rfl)); (focus (exact fun _ _ _ h => h)); (focus rfl); (focus (intro w hSw; (try dsimp only at hSw); go_simp; (try with_reducible rfl); done)); (try simp only [Act.put, List.setIfInBounds_toArray, List.set_cons_zero, List.set_cons_succ]))
  (refine wpAnyH_take (i := 3) (oi := ?_) (v := ?_) ?_ (by kernel_rfl) (by decide +kernel) (by decide +kernel) ?_ (Or.inl ⟨?_, ?_⟩) (by first | assumption | exact trivial) ?_; rotate_left 2; (focus (simp only [List.getElem?_toArray, List.getElem?_cons_zero, List.getElem?_cons_succ] <;> rfl)); (focus (exact fun _ _ _ h => h)); (focus rfl); (focus (intro w hSw; (try dsimp only at hSw); go_simp; (try with_reducible rfl); done)); (try simp only [Act.put, List.setIfInBounds_toArray, List.set_cons_zero, List.set_cons_succ]))
  (refine wpAnyH_take (i := 4) (oi := ?_) (v := ?_) ?_ (by kernel_rfl) (by decide +kernel) (by decide +kernel) ?_ (Or.inl ⟨?_, ?_⟩) (by first | assumption | exact trivial) ?_; rotate_left 2; (focus (simp only [List.getElem?_toArray, List.getElem?_cons_zero, List.getElem?_cons_succ] <;> rfl)); (focus (exact fun _ _ _ h => h)); (focus rfl); (focus (intro w hSw; (try dsimp only at hSw); go_simp; (try with_reducible rfl); done)); (try simp only [Act.put, List.setIfInBounds_toArray, List.set_cons_zero, List.set_cons_succ]))
  (refine wpAnyH_take (i := 5) (oi := ?_) (v := ?_) ?_ (by kernel_rfl) (by decide +kernel) (by decide +kernel) ?_ (Or.inl ⟨?_, ?_⟩) (by first | assumption | exact trivial) ?_; rotate_left 2; (focus (simp only [List.getElem?_toArray, List.getElem?_cons_zero, List.getElem?_cons_succ] <;> rfl)); (focus (exact fun _ _ _ h => h)); (focus rfl); (focus (intro w hSw; (try dsimp only at hSw); go_simp; (try with_reducible rfl); done)); (try simp only [Act.put, List.setIfInBounds_toArray, List.set_cons_zero, List.set_cons_succ]))
  (refine wpAnyH_take (i := 6) (oi := ?_) (v := ?_) ?_ (by kernel_rfl) (by decide +kernel) (by decide +kernel) ?_ (Or.inl ⟨?_, ?_⟩) (by first | assumption | exact trivial) ?_; rotate_left 2; (focus (simp only [List.getElem?_toArray, List.getElem?_cons_zero, List.getElem?_cons_succ] <;> rfl)); (focus (exact fun _ _ _ h => h)); (focus rfl); (focus (intro w hSw; (try dsimp only at hSw); go_simp; (try with_reducible rfl); done)); (try simp only [Act.put, List.setIfInBounds_toArray, List.set_cons_zero, List.set_cons_succ]))
  (refine wpAnyH_take (i := 7) (oi := ?_) (v := ?_) ?_ (by kernel_rfl) (by decide +kernel) (by decide +kernel) ?_ (Or.inl ⟨?_, ?_⟩) (by first | assumption | exact trivial) ?_; rotate_left 2; (focus (simp only [List.getElem?_toArray, List.getElem?_cons_zero, List.getElem?_cons_succ] <;> rfl)); (focus (exact fun _ _ _ h => h)); (focus rfl); (focus (intro w hSw; (try dsimp only at hSw); go_simp; (try with_reducible rfl); done)); (try simp only [Act.put, List.setIfInBounds_toArray, List.set_cons_zero, List.set_cons_succ]))
  (refine wpAnyH_take (i := 8) (oi := ?_) (v := ?_) ?_ (by kernel_rfl) (by decide +kernel) (by decide +kernel) ?_ (Or.inl ⟨?_, ?_⟩) (by first | assumption | exact trivial) ?_; rotate_left 2; (focus (simp only [List.getElem?_toArray, List.getElem?_cons_zero, List.getElem?_cons_succ] <;> rfl)); (focus (exact fun _ _ _ h => h)); (focus rfl); (focus (intro w hSw; (try dsimp only at hSw); go_simp; (try with_reducible rfl); done)); (try simp only [Act.put, List.setIfInBounds_toArray, List.set_cons_zero, List.set_cons_succ]))
  (refine wpAnyH_take (i := 9) (oi := ?_) (v := ?_) ?_ (by kernel_rfl) (by decide +kernel) (by decide +kernel) ?_ (Or.inl ⟨?_, ?_⟩) (by first | assumption | exact trivial) ?_; rotate_left 2; (focus (simp only [List.getElem?_toArray, List.getElem?_cons_zero, List.getElem?_cons_succ] <;> rfl)); (focus (exact fun _ _ _ h => h)); (focus rfl); (focus (intro w hSw; (try dsimp only at hSw); go_simp; (try with_reducible rfl); done)); (try simp only [Act.put, List.setIfInBounds_toArray, List.set_cons_zero, List.set_cons_succ]))
  (refine wpAnyH_take (i := 10) (oi := ?_) (v := ?_) ?_ (by kernel_rfl) (by decide +kernel) (by decide +kernel) ?_ (Or.inl ⟨?_, ?_⟩) (by first | assumption | exact trivial) ?_; rotate_left 2; (focus (simp only [List.getElem?_toArray, List.getElem?_cons_zero, List.getElem?_cons_succ] <;> rfl)); (focus (exact fun _ _ _ h => h)); (focus rfl); (focus (intro w hSw; (try dsimp only at hSw); go_simp; (try with_reducible rfl); done)); (try simp only [Act.put, List.setIfInBounds_toArray, List.set_cons_zero, List.set_cons_succ]))
  refine wpAnyH_ready (rs := [11]) (by kernel_rfl) (by simp) ?_
  refine AllReadyH.cons (o := ?_) ?_ ?_ AllReadyH.nil
  rotate_left 1
  (focus (simp only [List.getElem?_toArray, List.getElem?_cons_zero, List.getElem?_cons_succ] <;> rfl))
  intro K hK
  go_simp
  go_at_call 21
  refine (HBK.out).mono ?_
  rintro e w3 ⟨rfl, ho3, hb3⟩
  dsimp only
  refine hK.out _ _ ?_ (fun hHeld => ?_)
  · exact ⟨ho3.cell hHeld.1 hs3, ho3.cell hHeld.2.1 hs3, ho3.cell hHeld.2.2.1 hp3, ho3.cell hHeld.2.2.2.1 hp3, ho3.cell hHeld.2.2.2.2.1 hp3, ho3.cell hHeld.2.2.2.2.2 hp3⟩
  clear hK K
  (try simp only [Act.put, List.setIfInBounds_toArray, List.set_cons_zero, List.set_cons_succ])
  (refine wpAnyH_take (i := 12) (oi := ?_) (v := ?_) ?_ (by kernel_rfl) (by decide +kernel) (by decide +kernel) ?_ (Or.inl ⟨?_, ?_⟩) (by first | assumption | exact trivial) ?_; rotate_left 2; (focus (simp only [List.getElem?_toArray, List.getElem?_cons_zero, List.getElem?_cons_succ] <;> rfl)); (focus (exact fun _ _ _ h => h)); (focus rfl); (focus (intro w hSw; (try dsimp only at hSw); go_simp; (try with_reducible rfl); done)); (try simp only [Act.put, List.setIfInBounds_toArray, List.set_cons_zero, List.set_cons_succ]))
  (refine wpAnyH_take (i := 13) (oi := ?_) (v := ?_) ?_ (by kernel_rfl) (by decide +kernel) (by decide +kernel) ?_ (Or.inl ⟨?_, ?_⟩) (by first | assumption | exact trivial) ?_; rotate_left 2; (focus (simp only [List.getElem?_toArray, List.getElem?_cons_zero, List.getElem?_cons_succ] <;> rfl)); (focus (exact fun _ _ _ h => h)); (focus rfl); (focus (intro w hSw; (try dsimp only at hSw); go_simp; (try with_reducible rfl); done)); (try simp only [Act.put, List.setIfInBounds_toArray, List.set_cons_zero, List.set_cons_succ]))
  (refine wpAnyH_take (i := 14) (oi := ?_) (v := ?_) ?_ (by kernel_rfl) (by decide +kernel) (by decide +kernel) ?_ (Or.inl ⟨?_, ?_⟩) (by first | assumption | exact trivial) ?_; rotate_left 2; (focus (simp only [List.getElem?_toArray, List.getElem?_cons_zero, List.getElem?_cons_succ] <;> rfl)); (focus (exact fun _ _ _ h => h)); (focus rfl); (focus (intro w hSw; (try dsimp only at hSw); go_simp; (try with_reducible rfl); done)); (try simp only [Act.put, List.setIfInBounds_toArray, List.set_cons_zero, List.set_cons_succ]))
  (refine wpAnyH_take (i := 15) (oi := ?_) (v := ?_) ?_ (by kernel_rfl) (by decide +kernel) (by decide +kernel) ?_ (Or.inl ⟨?_, ?_⟩) (by first | assumption | exact trivial) ?_; rotate_left 2; (focus (simp only [List.getElem?_toArray, List.getElem?_cons_zero, List.getElem?_cons_succ] <;> rfl)); (focus (exact fun _ _ _ h => h)); (focus rfl); (focus (intro w hSw; (try dsimp only at hSw); go_simp; (try with_reducible rfl); done)); (try simp only [Act.put, List.setIfInBounds_toArray, List.set_cons_zero, List.set_cons_succ]))
  (refine wpAnyH_take (i := 16) (oi := ?_) (v := ?_) ?_ (by kernel_rfl) (by decide +kernel) (by decide +kernel) ?_ (Or.inl ⟨?_, ?_⟩) (by first | assumption | exact trivial) ?_; rotate_left 2; (focus (simp only [List.getElem?_toArray, List.getElem?_cons_zero, List.getElem?_cons_succ] <;> rfl)); (focus (exact fun _ _ _ h => h)); (focus rfl); (focus (intro w hSw; (try dsimp only at hSw); go_simp; (try with_reducible rfl); done)); (try simp only [Act.put, List.setIfInBounds_toArray, List.set_cons_zero, List.set_cons_succ]))
  refine wpAnyH_done (by kernel_rfl) ?_ _
  have HO3 : Hid (Only (fun k => o k = 3) w2 w3) := ((Only.refl _ w2).drew).trans ho3
  have HB3 := Lib.hid hb3
  have d3 := HO3.out.cell q3 hs3
  have d2 := HO3.out.cell q2 hs3
  have HMH : Hid (MapF w3 mh fh) := ((HH.out.mH.kept HQ2.out (fun x => x)).kept HO3.out (by have := HH.out.tags.2.2.1; omega))
  have HX : Hid (U64 (s.blast + 1)) := by unfold Hid U64; omega
  have en : ((s.blast : Int) + 1) = ((s.blast + 1 : Nat) : Int) := by omega
  have lsb3 := cell_lt d3
  dsimp only at lsb3
  rw [en]
  clear ho3 hb3 hHeld c0 c1 p0 p1 p2 p3 q2 q3 HBK lsb lpv en
  go_wp2_with fail
  refine wp_region_last (S := fun w' => w'.cell? ⟨sb, 3, none⟩ = some (.map (some mh)) ∧ w'.cell? ⟨sb, 2, none⟩ = some (ptrV pb) ∧ Quiet w3 w') (by kernel_rfl) (by kernel_rfl) (by simp) (⟨d3, d2, (Only.refl _ _).drew⟩) (fun hHeld => ?_)
  simp only [List.pop_toArray, List.dropLast, List.size_toArray, List.length_cons, List.length_nil, Nat.reduceAdd, Nat.reduceSub]
  (refine wpAnyH_take (i := 0) (oi := ?_) (v := ?_) ?_ (by kernel_rfl) (by decide +kernel) (by decide +kernel) ?_ (Or.inl ⟨?_, ?_⟩) (by assumption) ?_; rotate_left 2; (focus (simp only [List.getElem?_toArray, List.getElem?_cons_zero, List.getElem?_cons_succ] <;> rfl)); (focus (exact fun _ _ _ => last_panic (fun h => h))); (focus rfl); (focus (intro w hSw; (try dsimp only at hSw); go_simp; (try with_reducible rfl); done)); (try simp only [Act.put, List.setIfInBounds_toArray, List.set_cons_zero, List.set_cons_succ]))
  (refine wpAnyH_take (i := 1) (oi := ?_) (v := ?_) ?_ (by kernel_rfl) (by decide +kernel) (by decide +kernel) ?_ (Or.inl ⟨?_, ?_⟩) (by assumption) ?_; rotate_left 2; (focus (simp only [List.getElem?_toArray, List.getElem?_cons_zero, List.getElem?_cons_succ] <;> rfl)); (focus (exact fun _ _ _ => last_panic (fun h => h))); (focus rfl); (focus (intro w hSw; (try dsimp only at hSw); go_simp; (try with_reducible rfl); done)); (try simp only [Act.put, List.setIfInBounds_toArray, List.set_cons_zero, List.set_cons_succ]))
  (refine wpAnyH_take (i := 2) (oi := ?_) (v := ?_) ?_ (by kernel_rfl) (by decide +kernel) (by decide +kernel) ?_ (Or.inl ⟨?_, ?_⟩) (by assumption) ?_; rotate_left 2; (focus (simp only [List.getElem?_toArray, List.getElem?_cons_zero, List.getElem?_cons_succ] <;> rfl)); (focus (exact fun _ _ _ => last_panic (fun h => h))); (focus rfl); (focus (intro w hSw; (try dsimp only at hSw); go_simp; (try with_reducible rfl); done)); (try simp only [Act.put, List.setIfInBounds_toArray, List.set_cons_zero, List.set_cons_succ]))
  (refine wpAnyH_take (i := 3) (oi := ?_) (v := ?_) ?_ (by kernel_rfl) (by decide +kernel) (by decide +kernel) ?_ (Or.inl ⟨?_, ?_⟩) (by assumption) ?_; rotate_left 2; (focus (simp only [List.getElem?_toArray, List.getElem?_cons_zero, List.getElem?_cons_succ] <;> rfl)); (focus (exact fun _ _ _ => last_panic (fun h => h))); (focus rfl); (focus (intro w hSw; (try dsimp only at hSw); go_simp; (try with_reducible rfl); done)); (try simp only [Act.put, List.setIfInBounds_toArray, List.set_cons_zero, List.set_cons_succ]))
  (refine wpAnyH_take (i := 4) (oi := ?_) (v := ?_) ?_ (by kernel_rfl) (by decide +kernel) (by decide +kernel) ?_ (Or.inl ⟨?_, ?_⟩) (by assumption) ?_; rotate_left 2; (focus (simp only [List.getElem?_toArray, List.getElem?_cons_zero, List.getElem?_cons_succ] <;> rfl)); (focus (exact fun _ _ _ => last_panic (fun h => h))); (focus rfl); (focus (intro w hSw; (try dsimp only at hSw); go_simp; (try with_reducible rfl); done)); (try simp only [Act.put, List.setIfInBounds_toArray, List.set_cons_zero, List.set_cons_succ]))
  (refine wpAnyH_take (i := 5) (oi := ?_) (v := ?_) ?_ (by kernel_rfl) (by decide +kernel) (by decide +kernel) ?_ (Or.inl ⟨?_, ?_⟩) (by assumption) ?_; rotate_left 2; (focus (simp only [List.getElem?_toArray, List.getElem?_cons_zero, List.getElem?_cons_succ] <;> rfl)); (focus (exact fun _ _ _ => last_panic (fun h => h))); (focus rfl); (focus (intro w hSw; (try dsimp only at hSw); go_simp; (try with_reducible rfl); done)); (try simp only [Act.put, List.setIfInBounds_toArray, List.set_cons_zero, List.set_cons_succ]))
  (refine wpAnyH_take (i := 6) (oi := ?_) (v := ?_) ?_ (by kernel_rfl) (by decide +kernel) (by decide +kernel) ?_ (Or.inl ⟨?_, ?_⟩) (by assumption) ?_; rotate_left 2; (focus (simp only [List.getElem?_toArray, List.getElem?_cons_zero, List.getElem?_cons_succ] <;> rfl)); (focus (exact fun _ _ _ => last_panic (fun h => h))); (focus rfl); (focus (intro w hSw; (try dsimp only at hSw); go_simp; (try with_reducible rfl); done)); (try simp only [Act.put, List.setIfInBounds_toArray, List.set_cons_zero, List.set_cons_succ]))
  (refine wpAnyH_take (i := 7) (oi := ?_) (v := ?_) ?_ (by kernel_rfl) (by decide +kernel) (by decide +kernel) ?_ (Or.inl ⟨?_, ?_⟩) (by assumption) ?_; rotate_left 2; (focus (simp only [List.getElem?_toArray, List.getElem?_cons_zero, List.getElem?_cons_succ] <;> rfl)); (focus (exact fun _ _ _ => last_panic (fun h => h))); (focus rfl); (focus (intro w hSw; (try dsimp only at hSw); go_simp; (try with_reducible rfl); done)); (try simp only [Act.put, List.setIfInBounds_toArray, List.set_cons_zero, List.set_cons_succ]))
  (refine wpAnyH_take (i := 8) (oi := ?_) (v := ?_) ?_ (by kernel_rfl) (by decide +kernel) (by decide +kernel) ?_ (Or.inl ⟨?_, ?_⟩) (by assumption) ?_; rotate_left 2; (focus (simp only [List.getElem?_toArray, List.getElem?_cons_zero, List.getElem?_cons_succ] <;> rfl)); (focus (exact fun _ _ _ => last_panic (fun h => h))); (focus rfl); (focus (intro w hSw; (try dsimp only at hSw); go_simp; (try with_reducible rfl); done)); (try simp only [Act.put, List.setIfInBounds_toArray, List.set_cons_zero, List.set_cons_succ]))
  refine wpAnyH_ready (rs := [9]) (by kernel_rfl) (by simp) ?_
  refine AllReadyH.cons (o := ?_) ?_ ?_ ?_
  rotate_left 1
  (focus (simp only [List.getElem?_toArray, List.getElem?_cons_zero, List.getElem?_cons_succ] <;> rfl))
  · intro K hK
    go_simp
    go_at_call 22
    refine (heap_new pb _).mono ?_
    rintro e w5 ⟨hb, rfl, hq5, hh5⟩
    dsimp only
    refine hK.out _ _ ?_ (fun hHeld => ?_)
    · exact ⟨hq5.cell hHeld.1 (fun x => x), hq5.cell hHeld.2.1 (fun x => x), hHeld.2.2.trans hq5⟩
    clear hK K
    (try simp only [Act.put, List.setIfInBounds_toArray, List.set_cons_zero, List.set_cons_succ])
    refine wpAnyH_done (by kernel_rfl) ?_ _
    refine last_step (o := ?_) ?_ ?_
    rotate_left 1
    (focus (simp only [List.getElem?_toArray, List.getElem?_cons_zero, List.getElem?_cons_succ] <;> rfl))
    intro K hK
    refine wp_put (.tmp 41) (.tmp 42) (.tmp 47) rfl (HMH.out.kept hHeld.2.2 (fun x => x)) Tryz.underlying58 Tryz.underlying28 rfl rfl rfl HX.out ?_
    intro w6 hm6 ho6
    refine hK.out _ _ ?_
    clear hK K
    have hm7 : MapF w6 mh (upd fh (s.blast + 1) (some (ptrV hb))) := hm6
    have HD : Hid (StepTo w sb o (makeSt s name nm kd y.own) w6) := storeMake_done HH.out hT hI hid HQ2.out HO3.out HB3.out hHeld.2.2 hh5 ho6 hm7
    clear hm6 hm7 ho6 hHeld hh5 hq5 HH HMH HQ2 HO3 HB3
    dsimp only [Act.put]
    go_wp2
    go_ret
    exact ⟨rfl, HD.out⟩
  exact AllReadyH.nil

end Go.Proofs.YtdeekopdhgjanaaGreatDoor

namespace Go.Proofs.YtdeekopdhgjanaaGreatDoor
open Go.RowKit Go.Lap

/-- Block sb is a store; all that is its own is new since w0, and none of it is the law's (K). -/
def LawSt (w0 w : World) (sb : Nat) (K : Nat → Prop) (s : St) : Prop := ∃ o, StoreAt w sb o s ∧ Quiet w0 w ∧ (∀ k, k < w0.heap.size → o k = 0) ∧ ∀ k, K k → o k = 0 ∧ k < w.heap.size

/-- What a call on it leaves. -/
def LawTo (w0 w : World) (sb : Nat) (K : Nat → Prop) (s' : St) (w' : World) : Prop := LawSt w0 w' sb K s' ∧ Only (fun k => w0.heap.size ≤ k ∧ ¬ K k) w w'

section
variable {w0 w w' w1 : World} {sb : Nat} {K K' : Nat → Prop} {s s' : St} {o : Nat → Nat}

theorem LawSt.quietly (h : LawSt w0 w sb K s) (hq : Quiet w w1) : LawSt w0 w1 sb (fun k => K k ∨ (w.heap.size ≤ k ∧ k < w1.heap.size)) s := by
  obtain ⟨o, h1, h2, h3, h4⟩ := h
  refine ⟨o, h1.quietly hq, h2.trans hq, h3, fun k hk => ?_⟩
  rcases hk with x | x
  · exact ⟨(h4 k x).1, Nat.lt_of_lt_of_le (h4 k x).2 hq.size⟩
  · exact ⟨h1.big k x.1, x.2⟩

theorem LawSt.mono (h : LawSt w0 w sb K s) (hk : ∀ k, K' k → K k) : LawSt w0 w sb K' s := by
  obtain ⟨o, h1, h2, h3, h4⟩ := h
  exact ⟨o, h1, h2, h3, fun k x => h4 k (hk k x)⟩

theorem LawSt.same (h : LawSt w0 w sb K s) (hq : Quiet w w1) : LawSt w0 w1 sb K s := (h.quietly hq).mono (fun _ x => Or.inl x)

/-- Where only what is the law's own turns. -/
theorem LawSt.turn (h : LawSt w0 w sb K s) (ho : Only K w w1) (hK : ∀ k, K k → w0.heap.size ≤ k) : LawSt w0 w1 sb K s := by
  obtain ⟨o, h1, h2, h3, h4⟩ := h
  exact ⟨o, h1.kept ho (fun k x => (h4 k x).1), h2.trans' ho (fun k hk x => by have := hK k x; omega), h3, fun k x => ⟨(h4 k x).1, Nat.lt_of_lt_of_le (h4 k x).2 ho.size⟩⟩

theorem LawSt.quiet (h : LawSt w0 w sb K s) : Quiet w0 w := by
  obtain ⟨o, h1, h2, h3, h4⟩ := h
  exact h2

theorem LawSt.lt (h : LawSt w0 w sb K s) {k : Nat} (hk : K k) : k < w.heap.size := by
  obtain ⟨o, h1, h2, h3, h4⟩ := h
  exact (h4 k hk).2

theorem law_step (h1 : StoreAt w sb o s) (h2 : Quiet w0 w) (h3 : ∀ k, k < w0.heap.size → o k = 0) (h4 : ∀ k, K k → o k = 0 ∧ k < w.heap.size) (hst : StepTo w sb o s' w') : LawTo w0 w sb K s' w' := by
  obtain ⟨o', a, b, c⟩ := hst
  have hs := h2.size
  refine ⟨⟨o', c, h2.trans' b (fun k hk x => x (h3 k hk)), fun k hk => by rw [a k (by omega)]; exact h3 k hk, fun k x => ?_⟩, b.mono (fun k hk x => ?_)⟩
  · obtain ⟨y1, y2⟩ := h4 k x
    exact ⟨by rw [a k y2]; exact y1, Nat.lt_of_lt_of_le y2 b.size⟩
  · refine ⟨?_, fun y => x (h4 k y).1⟩
    rcases Nat.lt_or_ge k w0.heap.size with y | y
    · exact absurd (h3 k y) x
    · exact y

theorem LawTo.st (h : LawTo w0 w sb K s' w') : LawSt w0 w' sb K s' := h.1

theorem law_new (n : Nat) (hn : n ≤ 256) (w : World) :
    Calls Tryz.prog 5 #[.int .i64 (n : Int)] w fun e w' => ∃ sb, e = .returned (.tuple #[ptrV sb, .int .i64 0]) ∧ LawSt w w' sb (fun _ => False) (st0 n) := by
  refine (store_new n hn w).mono ?_
  rintro e w' ⟨sb, o, rfl, hq, h0, hst⟩
  exact ⟨sb, rfl, o, hst, hq, h0, fun _ x => x.elim⟩

theorem law_begin (h : LawSt w0 w sb K s) (hl : s.L.length < 1000000) :
    Calls Tryz.prog 6 #[ptrV sb] w fun e w' => e = .returned (.tuple #[.int .u64 ((s.L.length : Int) + 1), .int .i64 0]) ∧ LawTo w0 w sb K (begSt s) w' := by
  obtain ⟨o, h1, h2, h3, h4⟩ := h
  refine (store_begin h1 hl).mono ?_
  rintro e w' ⟨rfl, hst⟩
  exact ⟨rfl, law_step h1 h2 h3 h4 hst⟩

theorem law_commit {x : Nat} (h : LawSt w0 w sb K s) (hx : U64 x) :
    Calls Tryz.prog 11 #[ptrV sb, .int .u64 (x : Int)] w fun e w' => e = .returned (.int .i64 ((endL s.L x 2).1 : Int)) ∧ LawTo w0 w sb K (endSt s x 2) w' := by
  obtain ⟨o, h1, h2, h3, h4⟩ := h
  refine (store_commit h1 hx).mono ?_
  rintro e w' ⟨rfl, hst⟩
  exact ⟨rfl, law_step h1 h2 h3 h4 hst⟩

theorem law_abort {x : Nat} (h : LawSt w0 w sb K s) (hx : U64 x) :
    Calls Tryz.prog 14 #[ptrV sb, .int .u64 (x : Int)] w fun e w' => e = .returned (.int .i64 ((endL s.L x 3).1 : Int)) ∧ LawTo w0 w sb K (endSt s x 3) w' := by
  obtain ⟨o, h1, h2, h3, h4⟩ := h
  refine (store_abort h1 hx).mono ?_
  rintro e w' ⟨rfl, hst⟩
  exact ⟨rfl, law_step h1 h2 h3 h4 hst⟩

theorem law_make {x kd c2 : Nat} {y : Snap} {name nm : ByteArray} {A2 : Option Addr} (h : LawSt w0 w sb K s) (hx : U64 x) (hy : s.sn x = some y) (hT : s.T = []) (hI : s.I = []) (hid : s.hs (s.blast + 1) = none) (hl : s.blast < 1000000) (hu : U64 y.own)
    (hnm : Small name) (hcn : Small nm) (hk : 1 ≤ kd ∧ kd ≤ 3) (hr : Rd w K 2 A2 1 (colsV [(nm, kd)])) (hc2 : 1 ≤ c2) (hm2 : c2 ≤ maxLen) :
    Calls Tryz.prog 7 #[ptrV sb, .int .u64 (x : Int), .string name, .slice A2 1 c2] w fun e w' => e = .returned (.int .i64 0) ∧ LawTo w0 w sb K (makeSt s name nm kd y.own) w' := by
  obtain ⟨o, h1, h2, h3, h4⟩ := h
  refine (store_make h1 hx hy hT hI hid hl hu hnm hcn hk hr (fun k hk => by have := (h4 k hk).1; omega) hc2 hm2).mono ?_
  rintro e w' ⟨rfl, hst⟩
  exact ⟨rfl, law_step h1 h2 h3 h4 hst⟩

theorem law_insert {x i c3 n left' : Nat} {y : Snap} {t : TE} {name nm : ByteArray} {Sv : Nat → Prop} {A3 : Option Addr} {H H' : List (List (Option Tup))} {p q : Int} (h : LawSt w0 w sb K s) (hx : U64 x) (hy : s.sn x = some y) (hf : findT s.L y name s.T = some i) (ht : s.T[i]? = some t) (hc : t.cols = [(nm, 1)]) (hid : U64 t.id)
    (hI : s.I = []) (hH : s.hs t.id = some H) (hle : H.length + s.left ≤ 256) (hn : n < 256) (hv : Rd w Sv 4 A3 1 (intRow n)) (hc3 : 1 ≤ c3) (hm3 : c3 ≤ maxLen) (hlast : s.last + 1 < 18446744073709551616) (hins : hIns H s.left ⟨s.last + 1, x, 0, -1, -1, rowI n⟩ = ((p, q, 0), H', left')) :
    Calls Tryz.prog 9 #[ptrV sb, .int .u64 (x : Int), .string name, .slice A3 1 c3] w fun e w' => e = .returned (.int .i64 0) ∧ LawTo w0 w sb K (insSt s t.id H' left') w' := by
  obtain ⟨o, h1, h2, h3, h4⟩ := h
  refine (store_insert h1 hx hy hf ht hc hid hI hH hle hn hv hc3 hm3 hlast hins).mono ?_
  rintro e w' ⟨rfl, hst⟩
  exact ⟨rfl, law_step h1 h2 h3 h4 hst⟩

theorem law_update {x i c3 n left' nr cr code : Nat} {y : Snap} {t : TE} {name nm : ByteArray} {Sv : Nat → Prop} {A3 Ar : Option Addr} {H H1 H2 : List (List (Option Tup))} {p q pg sl z : Int} {v : Tup} (h : LawSt w0 w sb K s) (hx : U64 x) (hy : s.sn x = some y) (hf : findT s.L y name s.T = some i) (ht : s.T[i]? = some t) (hc : t.cols = [(nm, 1)]) (hid : U64 t.id)
    (hI : s.I = []) (hH : s.hs t.id = some H) (hle : H.length + s.left ≤ 256) (hn : n < 256) (hv : Rd w Sv 4 A3 1 (intRow n)) (hc3 : 1 ≤ c3) (hm3 : c3 ≤ maxLen) (hg : hGet H pg sl = some v) (hx1 : U64 v.xmin) (hx2 : U64 v.xmax) (hcode : freeS s.L y v.xmin v.xmax = code)
    (hins : code = 0 → hIns H s.left ⟨v.row, x, 0, -1, -1, rowI n⟩ = ((p, q, 0), H1, left')) (hst : hStamp H1 pg sl x p q = (z, H2)) :
    Calls Tryz.prog 13 #[ptrV sb, .int .u64 (x : Int), .string name, .agg #[.int .u64 v.row, .int .i64 pg, .int .i64 sl, .slice Ar nr cr], .slice A3 1 c3] w fun e w' => if code = 0 then e = .returned (.int .i64 z) ∧ LawTo w0 w sb K (putSt s t.id H2 left') w' else e = .returned (.int .i64 (code : Int)) ∧ LawTo w0 w sb K s w' := by
  obtain ⟨o, h1, h2, h3, h4⟩ := h
  refine (store_update h1 hx hy hf ht hc hid hI hH hle hn hv hc3 hm3 hg hx1 hx2 hcode hins hst).mono ?_
  intro e w' hp
  unfold UpdPost at hp
  split at hp
  · rename_i hz
    rw [if_pos hz]
    exact ⟨hp.1, law_step h1 h2 h3 h4 hp.2⟩
  · rename_i hz
    rw [if_neg hz]
    exact ⟨hp.1, law_step h1 h2 h3 h4 hp.2⟩

theorem law_scan {x i : Nat} {y : Snap} {t : TE} {name nm : ByteArray} {H : List (List (Option Tup))} (h : LawSt w0 w sb K s) (hx : U64 x) (hy : s.sn x = some y) (hf : findT s.L y name s.T = some i) (ht : s.T[i]? = some t) (hc : t.cols = [(nm, 1)]) (hid : U64 t.id)
    (hH : s.hs t.id = some H) (hN : ∀ k, k ≤ H.length → (placesH H k).length ≤ 1000000) (hI : IntHeap H) :
    Calls Tryz.prog 12 #[ptrV sb, .int .u64 (x : Int), .string name] w (StoreScanPost w (seenR H s.L y (placesH H H.length))) := by
  obtain ⟨o, h1, h2, h3, h4⟩ := h
  exact store_scan h1 hx hy hf ht hc hid hH hN hI
end

/-- A row in a block that is new. -/
def LitRow (w : World) (size : Nat) (xs : List Value) (e : Ending) (w' : World) : Prop := ∃ b, e = .returned (.slice (some ⟨b, 0, none⟩) 1 1) ∧ Quiet w w' ∧ w.heap.size ≤ b ∧ b < w'.heap.size ∧ Rd w' (fun k => k = b) size (some ⟨b, 0, none⟩) 1 xs

end Go.Proofs.YtdeekopdhgjanaaGreatDoor

namespace Go.Proofs.YtdeekopdhgjanaaGreatDoor
open Go.RowKit Go.Lap

/-- The law's one table. -/
def tabA : TE := ⟨1, ⟨#[116]⟩, [(⟨#[97]⟩, 1)], 1, 0⟩

/-- A store of that table alone. -/
def stA (L : List Nat) (H : List (List (Option Tup))) (left last : Nat) (sn : Nat → Option Snap) : St := ⟨L, [tabA], [], 1, left, upd (fun _ => none) 1 (some H), fun _ => none, sn, last⟩

section
variable {L : List Nat} {H H' : List (List (Option Tup))} {left left' last x v : Nat} {sn : Nat → Option Snap}

theorem stA_make : makeSt (begSt (st0 left)) ⟨#[116]⟩ ⟨#[97]⟩ 1 1 = stA [1] [] left 0 (upd (fun _ => none) 1 (some (takeS [1] 1))) := rfl
theorem stA_beg : begSt (stA L H left last sn) = stA (L ++ [1]) H left last (upd sn (L.length + 1) (some (takeS (L ++ [1]) (L.length + 1)))) := rfl
theorem stA_end : endSt (stA L H left last sn) x v = stA (endL L x v).2 H left last (upd sn x none) := rfl
theorem stA_ins : insSt (stA L H left last sn) tabA.id H' left' = stA L H' left' (last + 1) sn := by
  show insSt (stA L H left last sn) 1 H' left' = _
  simp only [insSt, stA, upd_upd]
theorem stA_put : putSt (stA L H left last sn) tabA.id H' left' = stA L H' left' last sn := by
  show putSt (stA L H left last sn) 1 H' left' = _
  simp only [putSt, stA, upd_upd]
theorem stA_heap : (stA L H left last sn).hs tabA.id = some H := rfl
theorem stA_tab : (stA L H left last sn).T[0]? = some tabA := rfl
end

/-- The table is seen by whoever sees transaction 1. -/
theorem tabA_found {L : List Nat} {y : Snap} (h : seesS L y 1 = true) : findT L y ⟨#[116]⟩ [tabA] = some 0 := by
  unfold findT
  rw [List.findIdx?_cons]
  have : isTE L y ⟨#[116]⟩ tabA = true := by
    unfold isTE visS
    show ((⟨#[116]⟩ : ByteArray).toList == (⟨#[116]⟩ : ByteArray).toList && (seesS L y 1 && (decide ((0 : Nat) = 0) || !seesS L y 0))) = true
    rw [h]
    simp
  rw [if_pos this]

/-- A version of nine bytes. -/
def Nine (s : Option Tup) : Prop := ∃ v, s = some v ∧ v.data.length = 9

theorem nine_spent {T : List (Option Tup)} (h : ∀ s ∈ T, Nine s) : spentT T = 43 * T.length := by
  induction T with
  | nil => rfl
  | cons s T ih =>
    obtain ⟨v, rfl, hv⟩ := h s (List.mem_cons_self ..)
    have := ih (fun s hs => h s (List.mem_cons_of_mem _ hs))
    unfold spentT at this ⊢
    rw [List.map_cons, List.sum_cons, this, List.length_cons]
    show 4 + v.size + _ = _
    unfold Tup.size
    omega

theorem nine_free {T : List (Option Tup)} (h : ∀ s ∈ T, Nine s) : freeT T = T.length := by
  unfold freeT
  rw [List.findIdx?_eq_none_iff.2 (fun s hs => by obtain ⟨v, rfl, _⟩ := h s hs; rfl)]
  rfl

theorem nine_room {T : List (Option Tup)} (h : ∀ s ∈ T, Nine s) (hm : T.length ≤ 10) : 9 ≤ roomT T := by
  unfold roomT
  rw [nine_spent h, nine_free h, if_pos rfl]
  omega

theorem nine_ins {T : List (Option Tup)} {t : Tup} {left : Nat} (h : ∀ s ∈ T, Nine s) (hm : T.length ≤ 10) (ht : t.rightB = true) (hd : t.data.length = 9) : hIns [T] left t = (((0 : Int), (T.length : Int), 0), [T ++ [some t]], left) := by
  unfold hIns
  rw [if_neg (by rw [ht]; decide), hd]
  have : findH [T] 9 = some 0 := by
    unfold findH
    rw [List.findIdx?_cons, if_pos (by simpa using nine_room h hm)]
  rw [this]
  show (((0 : Int), ((freeT T : Nat) : Int), 0), [insT T t], left) = _
  unfold insT
  rw [nine_free h, if_pos rfl]

theorem nine_first {t : Tup} {left : Nat} (ht : t.rightB = true) (hl : left ≠ 0) : hIns [] left t = (((0 : Int), 0, 0), [[some t]], left - 1) := by
  unfold hIns
  rw [if_neg (by rw [ht]; decide)]
  show (if left = 0 then _ else _) = _
  rw [if_neg hl]
  rfl

theorem nine_right {r x n : Nat} (hr : r ≤ 1099511627776) (hx : x ≤ 1099511627776) : (⟨r, x, 0, -1, -1, rowI n⟩ : Tup).rightB = true := by
  unfold Tup.rightB
  refine decide_eq_true ⟨hr, hx, Nat.zero_le _, (by show farB (-1) (-1) = false; decide), ?_⟩
  show (rowI n).length ≤ 200
  rw [rowI_length]
  omega

/-- The first version of a page, stamped. -/
theorem nine_stamp {v : Tup} {T : List (Option Tup)} {x : Nat} {p q : Int} (hx : x ≤ 1099511627776) (hf : farB p q = false) : hStamp [some v :: T] 0 0 x p q = (0, [some (v.stamp x p q) :: T]) := by
  unfold hStamp
  rw [if_neg (by simp)]
  have : pStampT (some v :: T) 0 x p q = (0, some (v.stamp x p q) :: T) := by
    unfold pStampT
    rw [if_neg (by rw [hf]; simp; omega)]
    rfl
  show ((pStampT (some v :: T) 0 x p q).1, [(pStampT (some v :: T) 0 x p q).2]) = _
  rw [this]

end Go.Proofs.YtdeekopdhgjanaaGreatDoor

namespace Go.Proofs.YtdeekopdhgjanaaGreatDoor
open Go.RowKit Go.Lap

/-- The row's first version. -/
def vR (xm : Nat) (p q : Int) : Tup := ⟨1, 1, xm, p, q, rowI 0⟩

theorem vR_stamp (xm x : Nat) (p q p' q' : Int) : (vR xm p q).stamp x p' q' = vR x p' q' := rfl

/-- What the snapshots of those that are to come are. -/
def FirstSn (k j : Nat) (sn : Nat → Option Snap) : Prop := ∀ x, j + 2 ≤ x → x ≤ k + 1 → ∃ y, sn x = some y ∧ y.own = x ∧ 2 ≤ y.xmax ∧ 1 ∉ y.run

theorem sees_one {L : List Nat} {y : Snap} (h1 : stateL L 1 = 2) (h2 : 2 ≤ y.xmax) (h3 : 1 ∉ y.run) : seesS L y 1 = true := by
  unfold seesS
  simp [h1, h3]
  omega

theorem stateL_app {L : List Nat} {s x : Nat} (h : x ≤ L.length) : stateL (L ++ [s]) x = stateL L x := by
  unfold stateL
  split
  · rw [getD_snoc_lt (by omega)]
  · rfl

theorem stateL_last {L : List Nat} {s : Nat} : stateL (L ++ [s]) (L.length + 1) = s := by
  unfold stateL
  rw [if_pos (by omega), Nat.add_sub_cancel]
  simp

theorem stateL_set {L : List Nat} {s x y : Nat} (hx : 1 ≤ x) (hl : x ≤ L.length) : stateL (L.set (x - 1) s) y = if y = x then s else stateL L y := by
  unfold stateL
  by_cases hy : 1 ≤ y
  · rw [if_pos hy, if_pos hy]
    by_cases e : y = x
    · subst e
      rw [if_pos rfl, getD_set_self (by omega)]
    · rw [if_neg e]
      have hne : x - 1 ≠ y - 1 := by omega
      simp [List.getD_eq_getElem?_getD, List.getElem?_set_ne hne]
  · rw [if_neg hy, if_neg hy, if_neg (by omega)]

/-- One more begins. -/
theorem firstSn_begin {L : List Nat} {sn : Nat → Option Snap} {i : Nat} (h : FirstSn i 0 sn) (hl : L.length = i + 1) (h1 : stateL L 1 = 2) :
    FirstSn (i + 1) 0 (upd sn (L.length + 1) (some (takeS (L ++ [1]) (L.length + 1)))) := by
  intro x hx hk
  by_cases e : x = L.length + 1
  · subst e
    refine ⟨takeS (L ++ [1]) (L.length + 1), by simp [upd], rfl, ?_, fun hr => ?_⟩
    · show 2 ≤ (L ++ [1]).length + 1
      simp
    · have := mem_runsL.1 (mem_others.1 hr).1
      rw [stateL_app (by omega), h1] at this
      cases this
  · obtain ⟨y, hy, r⟩ := h x hx (by omega)
    exact ⟨y, by simpa [upd, e] using hy, r⟩

/-- Ahead of the i-th of k that change the row. -/
structure FirstSt (k i : Nat) (free : Bool) (s : St) (L : List Nat) (T : List (Option Tup)) (xm : Nat) (p q : Int) (sn : Nat → Option Snap) : Prop where
  st : s = stA L [some (vR xm p q) :: T] 9 1 sn
  len : L.length = k + 1
  one : stateL L 1 = 2
  run : ∀ x, i + 2 ≤ x → x ≤ k + 1 → stateL L x = 1
  snap : FirstSn k i sn
  few : T.length ≤ i
  nine : ∀ s ∈ T, Nine s
  xlt : xm < i + 2
  fr : free = true → xm = 0 ∨ stateL L xm = 3
  no : free = false → xm ≠ 0 ∧ stateL L xm ≠ 3

section
variable {k i : Nat} {free : Bool} {s : St} {L : List Nat} {T : List (Option Tup)} {xm : Nat} {p q : Int} {sn : Nat → Option Snap}

theorem FirstSt.get (_h : FirstSt k i free s L T xm p q sn) : hGet [some (vR xm p q) :: T] 0 0 = some (vR xm p q) := rfl

theorem FirstSt.code (h : FirstSt k i free s L T xm p q sn) {y : Snap} (hy : y.own = i + 2) (h2 : 2 ≤ y.xmax) (h3 : 1 ∉ y.run) : freeS L y 1 xm = if free then 0 else 11 := by
  have hs := sees_one h.one h2 h3
  cases hf : free with
  | true =>
    have hx := h.fr hf
    have hlt := h.xlt
    unfold freeS
    rw [if_neg (by rintro ⟨a, b, c⟩; rcases hx with e | e; exact a e; exact c e)]
    have hv : visS L y 1 xm = true := by
      unfold visS
      rw [hs, Bool.true_and]
      rcases hx with e | e
      · simp [e]
      · have : seesS L y xm = false := by
          unfold seesS
          rw [hy]
          simp [e]
          omega
        simp [this]
    rw [if_neg (by rw [hv]; decide)]
    rfl
  | false =>
    obtain ⟨a, b⟩ := h.no hf
    have hlt := h.xlt
    unfold freeS
    rw [if_pos ⟨a, by omega, b⟩]
    rfl

theorem FirstSt.ins (h : FirstSt k i free s L T xm p q sn) (hi : i ≤ 8) : hIns [some (vR xm p q) :: T] 9 ⟨1, i + 2, 0, -1, -1, rowI (i + 2)⟩ = (((0 : Int), ((T.length + 1 : Nat) : Int), 0), [some (vR xm p q) :: (T ++ [some ⟨1, i + 2, 0, -1, -1, rowI (i + 2)⟩])], 9) := by
  have := nine_ins (T := some (vR xm p q) :: T) (t := ⟨1, i + 2, 0, -1, -1, rowI (i + 2)⟩) (left := 9) (fun s hs => by
    rcases List.mem_cons.1 hs with e | e
    · exact ⟨_, e, rowI_length 0⟩
    · exact h.nine s e) (by have := h.few; simp; omega) (nine_right (by omega) (by omega)) (rowI_length _)
  exact this

theorem far_ok {m : Nat} (h : m ≤ 60000) : farB 0 ((m : Nat) : Int) = false := by
  unfold farB
  rw [if_neg (by omega)]
  rw [decide_eq_false_iff_not]
  omega

theorem FirstSt.stamp (h : FirstSt k i free s L T xm p q sn) (hi : i ≤ 8) : hStamp [some (vR xm p q) :: (T ++ [some ⟨1, i + 2, 0, -1, -1, rowI (i + 2)⟩])] 0 0 (i + 2) 0 ((T.length + 1 : Nat) : Int) = (0, [some (vR (i + 2) 0 ((T.length + 1 : Nat) : Int)) :: (T ++ [some ⟨1, i + 2, 0, -1, -1, rowI (i + 2)⟩])]) := by
  rw [nine_stamp (by omega) (far_ok (by have := h.few; omega)), vR_stamp]

/-- It is told of the one ahead: nothing turns. -/
theorem FirstSt.told (h : FirstSt k i false s L T xm p q sn) : FirstSt k (i + 1) false s L T xm p q sn :=
  ⟨h.st, h.len, h.one, fun x a b => h.run x (by omega) b, fun x a b => h.snap x (by omega) b, by have := h.few; omega, h.nine, by have := h.xlt; omega, fun e => (by cases e), h.no⟩

/-- It is the first one, and goes on. -/
theorem FirstSt.goes (h : FirstSt k i true s L T xm p q sn) (hk : i < k) : FirstSt k (i + 1) false (stA L [some (vR (i + 2) 0 ((T.length + 1 : Nat) : Int)) :: (T ++ [some ⟨1, i + 2, 0, -1, -1, rowI (i + 2)⟩])] 9 1 sn) L (T ++ [some ⟨1, i + 2, 0, -1, -1, rowI (i + 2)⟩]) (i + 2) 0 ((T.length + 1 : Nat) : Int) sn :=
  ⟨rfl, h.len, h.one, fun x a b => h.run x (by omega) b, fun x a b => h.snap x (by omega) b, by have := h.few; simp; omega, fun s hs => by
    rcases List.mem_append.1 hs with e | e
    · exact h.nine s e
    · rw [List.mem_singleton] at e
      exact ⟨_, e, rowI_length _⟩, by omega, fun e => (by cases e), fun _ => ⟨by omega, by rw [h.run (i + 2) (by omega) (by omega)]; decide⟩⟩

/-- It is over. -/
theorem FirstSt.ends (h : FirstSt k (i + 1) false s L T (i + 2) p q sn) (hk : i < k) {v : Nat} (hrun : stateL L (i + 2) = 1) (hv : v = 2 ∨ v = 3) : FirstSt k (i + 1) (decide (v = 3)) (endSt s (i + 2) v) (L.set (i + 1) v) T (i + 2) p q (upd sn (i + 2) none) := by
  have hset : ∀ y, stateL (L.set (i + 2 - 1) v) y = if y = i + 2 then v else stateL L y := fun y => stateL_set (by omega) (by have := h.len; omega)
  rw [show i + 2 - 1 = i + 1 by omega] at hset
  refine ⟨?_, by rw [List.length_set]; exact h.len, by rw [hset, if_neg (by omega)]; exact h.one, fun x a b => by rw [hset, if_neg (by omega)]; exact h.run x a b, fun x a b => ?_, h.few, h.nine, h.xlt, fun e => Or.inr (by rw [hset, if_pos rfl]; exact of_decide_eq_true e), fun e => ⟨by omega, by rw [hset, if_pos rfl]; exact of_decide_eq_false e⟩⟩
  · rw [h.st, stA_end]
    have : endL L (i + 2) v = (0, L.set (i + 1) v) := by
      unfold endL
      rw [if_pos hrun]
      rfl
    rw [this]
  · obtain ⟨y, hy, r⟩ := h.snap x a b
    refine ⟨y, ?_, r⟩
    have : ¬ x = i + 2 := by omega
    simpa [upd, this] using hy
end

end Go.Proofs.YtdeekopdhgjanaaGreatDoor

namespace Go.Proofs.YtdeekopdhgjanaaGreatDoor
open Go.RowKit Go.Lap

set_option maxRecDepth 100000 in
theorem law_num (n : Int) (w : World) : Calls Tryz.prog 10 #[.int .i64 n] w (LitRow w 4 (intRow n)) := by
  have hN : LitRow w 4 (intRow n) (.returned (.slice (some ⟨w.heap.size, 0, none⟩) 1 1)) (w.alloc (.cells #[.int .u8 1, .int .i64 n, .string ⟨#[]⟩, .bool false] 49)) := ⟨w.heap.size, rfl, (Only.refl _ _).alloc _, Nat.le_refl _, by simp, Rd.new w 4 1 (intRow n) _ _ rfl rfl⟩
  have HN := Lib.hid hN
  clear hN
  obtain ⟨POST, hPOST⟩ : ∃ POST, LitRow w 4 (intRow n) = POST := ⟨_, rfl⟩
  rw [hPOST] at HN ⊢
  clear hPOST
  go_enter Tryz.func10, Tryz.ntmps10
  go_wp2
  exact HN.out

set_option maxRecDepth 100000 in
theorem law_one (w : World) : Calls Tryz.prog 8 #[] w (LitRow w 2 (colsV [(⟨#[97]⟩, 1)])) := by
  have hN : LitRow w 2 (colsV [(⟨#[97]⟩, 1)]) (.returned (.slice (some ⟨w.heap.size, 0, none⟩) 1 1)) (w.alloc (.cells #[.string ⟨#[97]⟩, .int .u8 1] 73)) := ⟨w.heap.size, rfl, (Only.refl _ _).alloc _, Nat.le_refl _, by simp, Rd.new w 2 1 (colsV [(⟨#[97]⟩, 1)]) _ _ rfl rfl⟩
  have HN := Lib.hid hN
  clear hN
  obtain ⟨POST, hPOST⟩ : ∃ POST, LitRow w 2 (colsV [(⟨#[97]⟩, 1)]) = POST := ⟨_, rfl⟩
  rw [hPOST] at HN ⊢
  clear hPOST
  go_enter Tryz.func8, Tryz.ntmps8
  go_wp2
  exact HN.out

end Go.Proofs.YtdeekopdhgjanaaGreatDoor

namespace Go.Proofs.YtdeekopdhgjanaaGreatDoor
open Go.RowKit Go.Lap

/-- One row that is told: where it lies. -/
structure OneRow (w wr : World) (v : Value) (id : Nat) (pg sl : Int) (n b c b2 c2 : Nat) : Prop where
  form : v = .slice (some ⟨b, 0, none⟩) 1 c
  quiet : Quiet w wr
  nb : w.heap.size ≤ b ∧ b < wr.heap.size
  nb2 : w.heap.size ≤ b2 ∧ b2 < wr.heap.size
  c0 : wr.cell? ⟨b, 0, none⟩ = some (.int .u64 (id : Int))
  c1 : wr.cell? ⟨b, 1, none⟩ = some (.int .i64 pg)
  c2' : wr.cell? ⟨b, 2, none⟩ = some (.int .i64 sl)
  c3 : wr.cell? ⟨b, 3, none⟩ = some (.slice (some ⟨b2, 0, none⟩) 1 c2)
  cv : wr.cell? ⟨b2, 1, none⟩ = some (.int .i64 (n : Int))

theorem RowsW.one {w wr : World} {v : Value} {M : List RowM} {id : Nat} {pg sl : Int} {n : Nat} (h : RowsW w wr v M) (hp : (M.map RowM.told).Perm [(id, pg, sl, n)]) : ∃ b c b2 c2, OneRow w wr v id pg sl n b c b2 c2 := by
  have hm := List.perm_singleton.1 hp
  rcases M with _ | ⟨m, _ | ⟨m2, M⟩⟩
  · cases hm
  rotate_left 1
  · cases hm
  injection hm with hm _
  obtain ⟨i, p, s, k, A, c'⟩ := m
  injection hm with e1 hm
  injection hm with e2 hm
  injection hm with e3 e4
  subst e1 e2 e3 e4
  have hown := h.own
  rcases owns_cases hown with ⟨_, e⟩ | ⟨b, c, rfl, _, _⟩
  · cases e
  obtain ⟨hn, hv⟩ := h.vals _ (List.mem_singleton_self _)
  rcases owns_cases hv with ⟨_, e⟩ | ⟨b2, c2, e, _, _⟩
  · cases e
  injection e with eA _ ec
  dsimp only at eA ec
  subst eA
  first | subst ec | skip
  obtain ⟨cb, hcb⟩ := own_blk hown (k := b) rfl
  obtain ⟨cb2, hcb2⟩ := own_blk hv (k := b2) rfl
  have k0 := hown.cells (by rfl) 0 (.int .u64 (i : Int)) rfl
  have k1 := hown.cells (by rfl) 1 (.int .i64 p) rfl
  have k2 := hown.cells (by rfl) 2 (.int .i64 s) rfl
  have k3 := hown.cells (by rfl) 3 (.slice (some ⟨b2, 0, none⟩) 1 c') rfl
  have kv := hv.cells (by rfl) 1 (.int .i64 (k : Int)) rfl
  exact ⟨b, c, b2, c', rfl, h.quiet, ⟨h.new b rfl, lt_of_get hcb⟩, ⟨hn b2 rfl, lt_of_get hcb2⟩, k0, k1, k2, k3, kv⟩

theorem OneRow.kept {w wr wn : World} {v : Value} {id n b c b2 c2 : Nat} {pg sl : Int} {S : Nat → Prop} (h : OneRow w wr v id pg sl n b c b2 c2) (ho : Only S wr wn) (h1 : ¬ S b) (h2 : ¬ S b2) :
    wn.cell? ⟨b, 0, none⟩ = some (.int .u64 (id : Int)) ∧ wn.cell? ⟨b, 1, none⟩ = some (.int .i64 pg) ∧ wn.cell? ⟨b, 2, none⟩ = some (.int .i64 sl) ∧ wn.cell? ⟨b, 3, none⟩ = some (.slice (some ⟨b2, 0, none⟩) 1 c2) ∧ wn.cell? ⟨b2, 1, none⟩ = some (.int .i64 (n : Int)) :=
  ⟨ho.cell h.c0 h1, ho.cell h.c1 h1, ho.cell h.c2' h1, ho.cell h.c3 h1, ho.cell h.cv h2⟩

/-- The example's heaps. -/
def t7 : Tup := ⟨1, 1, 0, -1, -1, rowI 7⟩
def t8 : Tup := ⟨1, 2, 0, -1, -1, rowI 8⟩
def sn3 : Nat → Option Snap := upd (upd (upd (upd (fun _ => none) 1 (some (takeS [1] 1))) 1 none) 2 (some (takeS [2, 1] 2))) 3 (some (takeS [2, 1, 1] 3))

theorem int_one {T : List (Option Tup)} (h : ∀ s ∈ T, ∃ v, s = some v ∧ U64 v.xmin ∧ U64 v.xmax ∧ ∃ n, n < 256 ∧ v.data = rowI n) : IntHeap [T] := by
  intro pg sl v hv
  unfold hGet at hv
  split at hv
  · cases hv
  · unfold tupAt at hv
    split at hv
    · cases hv
    · rcases hp : pg.toNat with _ | k
      · rw [hp] at hv
        have e : ([T] : List (List (Option Tup))).getD 0 [] = T := rfl
        rw [e] at hv
        cases hx : T[sl.toNat]? with
        | none => rw [hx] at hv; cases hv
        | some u =>
          rw [hx] at hv
          obtain ⟨v', rfl, h1, h2, h3⟩ := h u (List.mem_of_getElem? hx)
          have : v' = v := by simpa using hv
          subst this
          exact ⟨h1, h2, h3⟩
      · rw [hp] at hv
        have e : ([T] : List (List (Option Tup))).getD (k + 1) [] = [] := rfl
        rw [e] at hv
        simp at hv

theorem places_small {T : List (Option Tup)} (h : T.length ≤ 1000000) : ∀ k, k ≤ [T].length → (placesH [T] k).length ≤ 1000000 := by
  intro k hk
  have hl : ∀ (p : Int) (m : Nat), (placesTo p T m).length ≤ m := fun p m => by
    unfold placesTo
    have := List.length_filterMap_le (fun s : Nat => if ((T[s]?).join).isSome then some (p, (s : Int)) else none) (List.range m)
    simpa using this
  rcases k with _ | _ | k
  · exact Nat.zero_le _
  · show ([] ++ placesTo ((0 : Nat) : Int) T T.length).length ≤ 1000000
    rw [List.nil_append]
    exact Nat.le_trans (hl _ _) h
  · simp at hk

theorem small_t : Small ⟨#[116]⟩ := ⟨by decide, by decide, fun i h => by
  obtain rfl : i = 0 := by have : i < 1 := h; omega
  decide +revert⟩
theorem small_a : Small ⟨#[97]⟩ := ⟨by decide, by decide, fun i h => by
  obtain rfl : i = 0 := by have : i < 1 := h; omega
  decide +revert⟩

set_option maxHeartbeats 4000000 in
set_option maxRecDepth 100000 in
theorem awake12 (w : World) : Calls Tryz.prog 4 #[] w fun e w' => e = .returned (.bool true) ∧ Quiet w w' := by
  obtain ⟨POST, hPOST⟩ : ∃ POST : Ending → World → Prop, (fun e w' => e = .returned (.bool true) ∧ Quiet w w') = POST := ⟨_, rfl⟩
  rw [hPOST]
  have HPOST := Lib.hid hPOST
  clear hPOST
  go_enter Tryz.func4, Tryz.ntmps4
  go_wp2_with fail
  refine (law_new 10 (by omega) _).mono ?_
  rintro e w1 ⟨sb, rfl, h1⟩
  have H1 := Lib.hid h1
  clear h1
  go_wp2_with fail
  refine (law_begin H1.out (by decide)).mono ?_
  rintro e w2 ⟨rfl, h2⟩
  have H2 := Lib.hid h2.st
  clear h2
  go_wp2_with fail
  refine (law_one _).mono ?_
  rintro e w3 ⟨b3, rfl, hq3, hn3, hl3, hr3⟩
  have H3 := Lib.hid (H2.out.quietly hq3)
  have HMK : Hid (Calls Tryz.prog 7 #[ptrV sb, .int .u64 1, .string ⟨#[116]⟩, .slice (some ⟨b3, 0, none⟩) 1 1] w3 (fun e w' => e = .returned (.int .i64 0) ∧ LawSt w w' sb (fun _ => False) (stA [1] [] 10 0 (upd (fun _ => none) 1 (some (takeS [1] 1)))))) := by
    refine (law_make (x := 1) (y := takeS [1] 1) (name := ⟨#[116]⟩) (nm := ⟨#[97]⟩) (kd := 1) H3.out (by unfold U64; omega) rfl rfl rfl rfl (by decide) (by unfold U64; decide) small_t small_a ⟨by omega, by omega⟩ (hr3.mono (fun k e => Or.inr ⟨by omega, by omega⟩)) (by omega) (by unfold maxLen; omega)).mono ?_
    rintro e w' ⟨rfl, h⟩
    exact ⟨rfl, h.st.mono (fun _ x => x.elim)⟩
  clear hq3 hn3 hl3 hr3
  go_wp2_with fail
  refine HMK.out.mono ?_
  rintro e w4 ⟨rfl, h4⟩
  have H4 := Lib.hid h4
  clear h4 HMK
  go_wp2_with fail
  refine (law_num 7 _).mono ?_
  rintro e w5 ⟨b5, rfl, hq5, hn5, hl5, hr5⟩
  have HIN : Hid (Calls Tryz.prog 9 #[ptrV sb, .int .u64 1, .string ⟨#[116]⟩, .slice (some ⟨b5, 0, none⟩) 1 1] w5 (fun e w' => e = .returned (.int .i64 0) ∧ LawSt w w' sb (fun _ => False) (stA [1] [[some t7]] 9 1 (upd (fun _ => none) 1 (some (takeS [1] 1)))))) := by
    refine (law_insert (x := 1) (n := 7) (y := takeS [1] 1) (t := tabA) (i := 0) (H' := [[some t7]]) (left' := 9) (p := 0) (q := 0) (H4.out.same hq5) (by unfold U64; omega) rfl (tabA_found rfl) rfl rfl (by unfold U64; decide) rfl rfl (by decide) (by omega) hr5 (by omega) (by unfold maxLen; omega) (by decide) (nine_first (nine_right (by decide) (by decide)) (by decide))).mono ?_
    rintro e w' ⟨rfl, h⟩
    exact ⟨rfl, by have := h.st; rw [stA_ins] at this; exact this⟩
  clear hq5 hn5 hl5 hr5
  go_wp2_with fail
  refine HIN.out.mono ?_
  rintro e w6 ⟨rfl, h6⟩
  have H6 := Lib.hid h6
  clear h6 HIN
  have HCO : Hid (Calls Tryz.prog 11 #[ptrV sb, .int .u64 1] w6 (fun e w' => e = .returned (.int .i64 0) ∧ LawSt w w' sb (fun _ => False) (stA [2] [[some t7]] 9 1 (upd (upd (fun _ => none) 1 (some (takeS [1] 1))) 1 none)))) := by
    refine (law_commit (x := 1) H6.out (by unfold U64; omega)).mono ?_
    rintro e w' ⟨rfl, h⟩
    exact ⟨rfl, h.st⟩
  go_wp2_with fail
  refine HCO.out.mono ?_
  rintro e w7 ⟨rfl, h7⟩
  have H7 := Lib.hid h7
  clear h7 HCO
  go_wp2_with fail
  refine (law_begin H7.out (by decide)).mono ?_
  rintro e w8 ⟨rfl, h8⟩
  have H8 := Lib.hid h8.st
  clear h8
  go_wp2_with fail
  refine (law_begin H8.out (by decide)).mono ?_
  rintro e w9 ⟨rfl, h9⟩
  have H9 : Hid (LawSt w w9 sb (fun _ => False) (stA [2, 1, 1] [[some t7]] 9 1 sn3)) := h9.st
  clear h9
  have HSC : Hid (Calls Tryz.prog 12 #[ptrV sb, .int .u64 2, .string ⟨#[116]⟩] w9 (StoreScanPost w9 [(1, 0, 0, 7)])) :=
    law_scan (x := 2) (y := takeS [2, 1] 2) (t := tabA) (i := 0) (H := [[some t7]]) H9.out (by unfold U64; omega) rfl (tabA_found rfl) rfl rfl (by unfold U64; decide) rfl (places_small (by decide)) (int_one (fun s hs => by
      rw [List.mem_singleton] at hs
      exact ⟨t7, hs, by unfold U64; decide, by unfold U64; decide, 7, by omega, rfl⟩))
  go_wp2_with fail
  refine HSC.out.mono ?_
  rintro e wa ⟨va, M, rfl, hrw, hpm, _⟩
  obtain ⟨b, c, b2, c2, hone⟩ := hrw.one hpm
  obtain rfl := hone.form
  have HONE := Lib.hid hone
  have HA : Hid (LawSt w wa sb (fun k => k = b ∨ k = b2) (stA [2, 1, 1] [[some t7]] 9 1 sn3)) := (H9.out.quietly hrw.quiet).mono (fun k x => Or.inr (by have := hone.nb; have := hone.nb2; omega))
  clear hrw hpm hone HSC
  have HS10 : Hid (∀ W, Only (fun k => ¬ (k = b ∨ k = b2)) wa W → (fun w' => w'.cell? ⟨b, 0, none⟩ = some (.int .u64 1) ∧ w'.cell? ⟨b, 1, none⟩ = some (.int .i64 0) ∧ w'.cell? ⟨b, 2, none⟩ = some (.int .i64 0) ∧ w'.cell? ⟨b, 3, none⟩ = some (.slice (some ⟨b2, 0, none⟩) 1 c2)) W) := fun W ho => by
    obtain ⟨k0, k1, k2, k3, _⟩ := HONE.out.kept ho (fun x => x (Or.inl rfl)) (fun x => x (Or.inr rfl))
    exact ⟨k0, k1, k2, k3⟩
  have HU10 : Hid (∀ W, Quiet wa W → ∀ bn, Rd W (fun k => k = bn) 4 (some ⟨bn, 0, none⟩) 1 (intRow 8) → Calls Tryz.prog 13 #[ptrV sb, .int .u64 2, .string ⟨#[116]⟩, .agg #[.int .u64 1, .int .i64 0, .int .i64 0, .slice (some ⟨b2, 0, none⟩) 1 c2], .slice (some ⟨bn, 0, none⟩) 1 1] W (fun e w' => e = .returned (.int .i64 0) ∧ LawTo w W sb (fun k => k = b ∨ k = b2) (stA [2, 1, 1] [[some (t7.stamp 2 0 1), some t8]] 9 1 sn3) w')) := fun W hq bn hr => by
    refine (law_update (x := 2) (n := 8) (y := takeS [2, 1] 2) (t := tabA) (i := 0) (H := [[some t7]]) (H1 := [[some t7, some t8]]) (H2 := [[some (t7.stamp 2 0 1), some t8]]) (p := 0) (q := 1) (pg := 0) (sl := 0) (z := 0) (v := t7) (code := 0) (left' := 9) (HA.out.same hq) (by unfold U64; omega) rfl (tabA_found rfl) rfl rfl (by unfold U64; decide) rfl rfl (by decide) (by omega) hr (by omega) (by unfold maxLen; omega) rfl (by unfold U64; decide) (by unfold U64; decide) rfl (fun _ => nine_ins (T := [some t7]) (fun s hs => by rw [List.mem_singleton] at hs; exact ⟨t7, hs, rowI_length 7⟩) (by decide) (nine_right (by decide) (by decide)) (rowI_length 8)) (nine_stamp (by decide) (by decide))).mono ?_
    intro e w' hp
    rw [if_pos rfl] at hp
    refine ⟨hp.1, ?_⟩
    have := hp.2
    rw [stA_put] at this
    exact this
  go_wp2_with fail
  refine wp_region_held_drew (S := (fun w' => w'.cell? ⟨b, 0, none⟩ = some (.int .u64 1) ∧ w'.cell? ⟨b, 1, none⟩ = some (.int .i64 0) ∧ w'.cell? ⟨b, 2, none⟩ = some (.int .i64 0) ∧ w'.cell? ⟨b, 3, none⟩ = some (.slice (some ⟨b2, 0, none⟩) 1 c2))) (by kernel_rfl) (HS10.out _ ((Only.refl _ _).drew)) (fun hHeld => ?_)
  simp only [List.size_toArray, List.length_cons, List.length_nil, Nat.reduceAdd]
  have q0 : Quiet wa wa.drew := (Only.refl _ _).drew
  generalize wa.drew = d0 at q0 hHeld ⊢
  (refine wpAnyH_take (i := 0) (oi := ?_) (v := ?_) ?_ (by kernel_rfl) (by decide +kernel) (by decide +kernel) ?_ (Or.inl ⟨?_, ?_⟩) (by first | assumption | exact trivial) ?_; rotate_left 2; (focus (simp only [List.getElem?_toArray, List.getElem?_cons_zero, List.getElem?_cons_succ] <;> rfl)); (focus (exact fun _ _ _ h => h)); (focus rfl); (focus (intro w hSw; (try dsimp only at hSw); go_simp; (try with_reducible rfl); done)); (try simp only [Act.put, List.setIfInBounds_toArray, List.set_cons_zero, List.set_cons_succ]))
  (refine wpAnyH_take (i := 1) (oi := ?_) (v := ?_) ?_ (by kernel_rfl) (by decide +kernel) (by decide +kernel) ?_ (Or.inl ⟨?_, ?_⟩) (by first | assumption | exact trivial) ?_; rotate_left 2; (focus (simp only [List.getElem?_toArray, List.getElem?_cons_zero, List.getElem?_cons_succ] <;> rfl)); (focus (exact fun _ _ _ h => h)); (focus rfl); (focus (intro w hSw; (try dsimp only at hSw); go_simp; (try with_reducible rfl); done)); (try simp only [Act.put, List.setIfInBounds_toArray, List.set_cons_zero, List.set_cons_succ]))
  (refine wpAnyH_take (i := 2) (oi := ?_) (v := ?_) ?_ (by kernel_rfl) (by decide +kernel) (by decide +kernel) ?_ (Or.inl ⟨?_, ?_⟩) (by first | assumption | exact trivial) ?_; rotate_left 2; (focus (simp only [List.getElem?_toArray, List.getElem?_cons_zero, List.getElem?_cons_succ] <;> rfl)); (focus (exact fun _ _ _ h => h)); (focus rfl); (focus (intro w hSw; (try dsimp only at hSw); go_simp; (try with_reducible rfl); done)); (try simp only [Act.put, List.setIfInBounds_toArray, List.set_cons_zero, List.set_cons_succ]))
  (refine wpAnyH_take (i := 3) (oi := ?_) (v := ?_) ?_ (by kernel_rfl) (by decide +kernel) (by decide +kernel) ?_ (Or.inl ⟨?_, ?_⟩) (by first | assumption | exact trivial) ?_; rotate_left 2; (focus (simp only [List.getElem?_toArray, List.getElem?_cons_zero, List.getElem?_cons_succ] <;> rfl)); (focus (exact fun _ _ _ h => h)); (focus rfl); (focus (intro w hSw; (try dsimp only at hSw); go_simp; (try with_reducible rfl); done)); (try simp only [Act.put, List.setIfInBounds_toArray, List.set_cons_zero, List.set_cons_succ]))
  (refine wpAnyH_take (i := 4) (oi := ?_) (v := ?_) ?_ (by kernel_rfl) (by decide +kernel) (by decide +kernel) ?_ (Or.inl ⟨?_, ?_⟩) (by first | assumption | exact trivial) ?_; rotate_left 2; (focus (simp only [List.getElem?_toArray, List.getElem?_cons_zero, List.getElem?_cons_succ] <;> rfl)); (focus (exact fun _ _ _ h => h)); (focus rfl); (focus (intro w hSw; (try dsimp only at hSw); go_simp; (try with_reducible rfl); done)); (try simp only [Act.put, List.setIfInBounds_toArray, List.set_cons_zero, List.set_cons_succ]))
  (refine wpAnyH_take (i := 5) (oi := ?_) (v := ?_) ?_ (by kernel_rfl) (by decide +kernel) (by decide +kernel) ?_ (Or.inl ⟨?_, ?_⟩) (by first | assumption | exact trivial) ?_; rotate_left 2; (focus (simp only [List.getElem?_toArray, List.getElem?_cons_zero, List.getElem?_cons_succ] <;> rfl)); (focus (exact fun _ _ _ h => h)); (focus rfl); (focus (intro w hSw; (try dsimp only at hSw); go_simp; (try with_reducible rfl); done)); (try simp only [Act.put, List.setIfInBounds_toArray, List.set_cons_zero, List.set_cons_succ]))
  (refine wpAnyH_take (i := 6) (oi := ?_) (v := ?_) ?_ (by kernel_rfl) (by decide +kernel) (by decide +kernel) ?_ (Or.inl ⟨?_, ?_⟩) (by first | assumption | exact trivial) ?_; rotate_left 2; (focus (simp only [List.getElem?_toArray, List.getElem?_cons_zero, List.getElem?_cons_succ] <;> rfl)); (focus (exact fun _ _ _ h => h)); (focus rfl); (focus (intro w hSw; (try dsimp only at hSw); go_simp; (try with_reducible rfl); done)); (try simp only [Act.put, List.setIfInBounds_toArray, List.set_cons_zero, List.set_cons_succ]))
  (refine wpAnyH_take (i := 7) (oi := ?_) (v := ?_) ?_ (by kernel_rfl) (by decide +kernel) (by decide +kernel) ?_ (Or.inl ⟨?_, ?_⟩) (by first | assumption | exact trivial) ?_; rotate_left 2; (focus (simp only [List.getElem?_toArray, List.getElem?_cons_zero, List.getElem?_cons_succ] <;> rfl)); (focus (exact fun _ _ _ h => h)); (focus rfl); (focus (intro w hSw; (try dsimp only at hSw); go_simp; (try with_reducible rfl); done)); (try simp only [Act.put, List.setIfInBounds_toArray, List.set_cons_zero, List.set_cons_succ]))
  refine wpAnyH_ready (rs := [8]) (by kernel_rfl) (by simp) ?_
  refine AllReadyH.cons (o := ?_) ?_ ?_ AllReadyH.nil
  rotate_left 1
  (focus (simp only [List.getElem?_toArray, List.getElem?_cons_zero, List.getElem?_cons_succ] <;> rfl))
  intro K hK
  go_simp
  go_at_call 10
  refine (law_num 8 _).mono ?_
  rintro e d1 ⟨bn, rfl, hqn, _, _, hrn⟩
  have q1 := q0.trans hqn
  clear hqn
  dsimp only
  refine hK.out _ _ ?_ (fun hHeld => ?_)
  · exact HS10.out _ (q1.mono (fun _ _ x => x.elim))
  clear hK K
  (try simp only [Act.put, List.setIfInBounds_toArray, List.set_cons_zero, List.set_cons_succ])
  refine wpAnyH_ready (rs := [9]) (by kernel_rfl) (by simp) ?_
  refine AllReadyH.cons (o := ?_) ?_ ?_ AllReadyH.nil
  rotate_left 1
  (focus (simp only [List.getElem?_toArray, List.getElem?_cons_zero, List.getElem?_cons_succ] <;> rfl))
  intro K hK
  go_simp
  go_at_call 13
  refine (HU10.out _ q1 bn hrn).mono ?_
  rintro e d2 ⟨rfl, hlt⟩
  have q2 : Only (fun k => ¬ (k = b ∨ k = b2)) _ d2 := (q1.mono (T := fun k => ¬ (k = b ∨ k = b2)) (fun _ _ x => x.elim)).trans' hlt.2 (fun k _ x => x.2)
  dsimp only
  refine hK.out _ _ ?_ (fun hHeld => ?_)
  · exact HS10.out _ q2
  clear hK K
  (try simp only [Act.put, List.setIfInBounds_toArray, List.set_cons_zero, List.set_cons_succ])
  (refine wpAnyH_take (i := 10) (oi := ?_) (v := ?_) ?_ (by kernel_rfl) (by decide +kernel) (by decide +kernel) ?_ (Or.inl ⟨?_, ?_⟩) (by first | assumption | exact trivial) ?_; rotate_left 2; (focus (simp only [List.getElem?_toArray, List.getElem?_cons_zero, List.getElem?_cons_succ] <;> rfl)); (focus (exact fun _ _ _ h => h)); (focus rfl); (focus (intro w hSw; (try dsimp only at hSw); go_simp; (try with_reducible rfl); done)); (try simp only [Act.put, List.setIfInBounds_toArray, List.set_cons_zero, List.set_cons_succ]))
  (refine wpAnyH_take (i := 11) (oi := ?_) (v := ?_) ?_ (by kernel_rfl) (by decide +kernel) (by decide +kernel) ?_ (Or.inl ⟨?_, ?_⟩) (by first | assumption | exact trivial) ?_; rotate_left 2; (focus (simp only [List.getElem?_toArray, List.getElem?_cons_zero, List.getElem?_cons_succ] <;> rfl)); (focus (exact fun _ _ _ h => h)); (focus rfl); (focus (intro w hSw; (try dsimp only at hSw); go_simp; (try with_reducible rfl); done)); (try simp only [Act.put, List.setIfInBounds_toArray, List.set_cons_zero, List.set_cons_succ]))
  refine wpAnyH_done (by kernel_rfl) ?_ _
  have HB : Hid (LawSt w d2 sb (fun k => k = b ∨ k = b2) (stA [2, 1, 1] [[some (t7.stamp 2 0 1), some t8]] 9 1 sn3)) := hlt.st
  clear hHeld q0 q1 q2 hlt hrn HS10 HU10
  have HSC : Hid (Calls Tryz.prog 12 #[ptrV sb, .int .u64 3, .string ⟨#[116]⟩] d2 (StoreScanPost d2 [(1, 0, 0, 7)])) :=
    law_scan (x := 3) (y := takeS [2, 1, 1] 3) (t := tabA) (i := 0) (H := [[some (t7.stamp 2 0 1), some t8]]) HB.out (by unfold U64; omega) rfl (tabA_found rfl) rfl rfl (by unfold U64; decide) rfl (places_small (by decide)) (int_one (fun s hs => by
      rcases List.mem_cons.1 hs with e | hs
      · exact ⟨_, e, by unfold U64; decide, by unfold U64; decide, 7, by omega, rfl⟩
      · rw [List.mem_singleton] at hs
        exact ⟨_, hs, by unfold U64; decide, by unfold U64; decide, 8, by omega, rfl⟩))
  clear HONE
  go_wp2_with fail
  refine HSC.out.mono ?_
  rintro e wc ⟨va, M, rfl, hrw, hpm, _⟩
  obtain ⟨b, c, b2, c2, hone⟩ := hrw.one hpm
  obtain rfl := hone.form
  have HONE := Lib.hid hone
  have HA2 : Hid (LawSt w wc sb (fun k => k = b ∨ k = b2) (stA [2, 1, 1] [[some (t7.stamp 2 0 1), some t8]] 9 1 sn3)) := (HB.out.quietly hrw.quiet).mono (fun k x => Or.inr (by have := hone.nb; have := hone.nb2; omega))
  clear hrw hpm hone HSC HB HA
  have HS13 : Hid (∀ W, Only (fun k => ¬ (k = b ∨ k = b2)) wc W → (fun w' => w'.cell? ⟨b, 0, none⟩ = some (.int .u64 1) ∧ w'.cell? ⟨b, 1, none⟩ = some (.int .i64 0) ∧ w'.cell? ⟨b, 2, none⟩ = some (.int .i64 0) ∧ w'.cell? ⟨b, 3, none⟩ = some (.slice (some ⟨b2, 0, none⟩) 1 c2) ∧ w'.cell? ⟨b2, 1, none⟩ = some (.int .i64 7)) W) := fun W ho => by
    obtain ⟨k0, k1, k2, k3, k4⟩ := HONE.out.kept ho (fun x => x (Or.inl rfl)) (fun x => x (Or.inr rfl))
    exact ⟨k0, k1, k2, k3, k4⟩
  have HU13 : Hid (∀ W, Quiet wc W → ∀ bn, Rd W (fun k => k = bn) 4 (some ⟨bn, 0, none⟩) 1 (intRow 9) → Calls Tryz.prog 13 #[ptrV sb, .int .u64 3, .string ⟨#[116]⟩, .agg #[.int .u64 1, .int .i64 0, .int .i64 0, .slice (some ⟨b2, 0, none⟩) 1 c2], .slice (some ⟨bn, 0, none⟩) 1 1] W (fun e w' => e = .returned (.int .i64 11) ∧ LawTo w W sb (fun k => k = b ∨ k = b2) (stA [2, 1, 1] [[some (t7.stamp 2 0 1), some t8]] 9 1 sn3) w')) := fun W hq bn hr => by
    refine (law_update (x := 3) (n := 9) (y := takeS [2, 1, 1] 3) (t := tabA) (i := 0) (H := [[some (t7.stamp 2 0 1), some t8]]) (H1 := []) (p := 0) (q := 0) (pg := 0) (sl := 0) (v := t7.stamp 2 0 1) (code := 11) (left' := 0) (HA2.out.same hq) (by unfold U64; omega) rfl (tabA_found rfl) rfl rfl (by unfold U64; decide) rfl rfl (by decide) (by omega) hr (by omega) (by unfold maxLen; omega) rfl (by unfold U64; decide) (by unfold U64; decide) rfl (fun e => by cases e) rfl).mono ?_
    intro e w' hp
    rw [if_neg (by decide)] at hp
    exact hp
  go_wp2_with fail
  refine wp_region_held_drew (S := (fun w' => w'.cell? ⟨b, 0, none⟩ = some (.int .u64 1) ∧ w'.cell? ⟨b, 1, none⟩ = some (.int .i64 0) ∧ w'.cell? ⟨b, 2, none⟩ = some (.int .i64 0) ∧ w'.cell? ⟨b, 3, none⟩ = some (.slice (some ⟨b2, 0, none⟩) 1 c2) ∧ w'.cell? ⟨b2, 1, none⟩ = some (.int .i64 7))) (by kernel_rfl) (HS13.out _ ((Only.refl _ _).drew)) (fun hHeld => ?_)
  simp only [List.size_toArray, List.length_cons, List.length_nil, Nat.reduceAdd]
  have q0 : Quiet wc wc.drew := (Only.refl _ _).drew
  generalize wc.drew = d0 at q0 hHeld ⊢
  (refine wpAnyH_take (i := 0) (oi := ?_) (v := ?_) ?_ (by kernel_rfl) (by decide +kernel) (by decide +kernel) ?_ (Or.inl ⟨?_, ?_⟩) (by first | assumption | exact trivial) ?_; rotate_left 2; (focus (simp only [List.getElem?_toArray, List.getElem?_cons_zero, List.getElem?_cons_succ] <;> rfl)); (focus (exact fun _ _ _ h => h)); (focus rfl); (focus (intro w hSw; (try dsimp only at hSw); go_simp; (try with_reducible rfl); done)); (try simp only [Act.put, List.setIfInBounds_toArray, List.set_cons_zero, List.set_cons_succ]))
  (refine wpAnyH_take (i := 1) (oi := ?_) (v := ?_) ?_ (by kernel_rfl) (by decide +kernel) (by decide +kernel) ?_ (Or.inl ⟨?_, ?_⟩) (by first | assumption | exact trivial) ?_; rotate_left 2; (focus (simp only [List.getElem?_toArray, List.getElem?_cons_zero, List.getElem?_cons_succ] <;> rfl)); (focus (exact fun _ _ _ h => h)); (focus rfl); (focus (intro w hSw; (try dsimp only at hSw); go_simp; (try with_reducible rfl); done)); (try simp only [Act.put, List.setIfInBounds_toArray, List.set_cons_zero, List.set_cons_succ]))
  (refine wpAnyH_take (i := 2) (oi := ?_) (v := ?_) ?_ (by kernel_rfl) (by decide +kernel) (by decide +kernel) ?_ (Or.inl ⟨?_, ?_⟩) (by first | assumption | exact trivial) ?_; rotate_left 2; (focus (simp only [List.getElem?_toArray, List.getElem?_cons_zero, List.getElem?_cons_succ] <;> rfl)); (focus (exact fun _ _ _ h => h)); (focus rfl); (focus (intro w hSw; (try dsimp only at hSw); go_simp; (try with_reducible rfl); done)); (try simp only [Act.put, List.setIfInBounds_toArray, List.set_cons_zero, List.set_cons_succ]))
  (refine wpAnyH_take (i := 3) (oi := ?_) (v := ?_) ?_ (by kernel_rfl) (by decide +kernel) (by decide +kernel) ?_ (Or.inl ⟨?_, ?_⟩) (by first | assumption | exact trivial) ?_; rotate_left 2; (focus (simp only [List.getElem?_toArray, List.getElem?_cons_zero, List.getElem?_cons_succ] <;> rfl)); (focus (exact fun _ _ _ h => h)); (focus rfl); (focus (intro w hSw; (try dsimp only at hSw); go_simp; (try with_reducible rfl); done)); (try simp only [Act.put, List.setIfInBounds_toArray, List.set_cons_zero, List.set_cons_succ]))
  (refine wpAnyH_take (i := 4) (oi := ?_) (v := ?_) ?_ (by kernel_rfl) (by decide +kernel) (by decide +kernel) ?_ (Or.inl ⟨?_, ?_⟩) (by first | assumption | exact trivial) ?_; rotate_left 2; (focus (simp only [List.getElem?_toArray, List.getElem?_cons_zero, List.getElem?_cons_succ] <;> rfl)); (focus (exact fun _ _ _ h => h)); (focus rfl); (focus (intro w hSw; (try dsimp only at hSw); go_simp; (try with_reducible rfl); done)); (try simp only [Act.put, List.setIfInBounds_toArray, List.set_cons_zero, List.set_cons_succ]))
  (refine wpAnyH_take (i := 5) (oi := ?_) (v := ?_) ?_ (by kernel_rfl) (by decide +kernel) (by decide +kernel) ?_ (Or.inl ⟨?_, ?_⟩) (by first | assumption | exact trivial) ?_; rotate_left 2; (focus (simp only [List.getElem?_toArray, List.getElem?_cons_zero, List.getElem?_cons_succ] <;> rfl)); (focus (exact fun _ _ _ h => h)); (focus rfl); (focus (intro w hSw; (try dsimp only at hSw); go_simp; (try with_reducible rfl); done)); (try simp only [Act.put, List.setIfInBounds_toArray, List.set_cons_zero, List.set_cons_succ]))
  (refine wpAnyH_take (i := 6) (oi := ?_) (v := ?_) ?_ (by kernel_rfl) (by decide +kernel) (by decide +kernel) ?_ (Or.inl ⟨?_, ?_⟩) (by first | assumption | exact trivial) ?_; rotate_left 2; (focus (simp only [List.getElem?_toArray, List.getElem?_cons_zero, List.getElem?_cons_succ] <;> rfl)); (focus (exact fun _ _ _ h => h)); (focus rfl); (focus (intro w hSw; (try dsimp only at hSw); go_simp; (try with_reducible rfl); done)); (try simp only [Act.put, List.setIfInBounds_toArray, List.set_cons_zero, List.set_cons_succ]))
  (refine wpAnyH_take (i := 7) (oi := ?_) (v := ?_) ?_ (by kernel_rfl) (by decide +kernel) (by decide +kernel) ?_ (Or.inl ⟨?_, ?_⟩) (by first | assumption | exact trivial) ?_; rotate_left 2; (focus (simp only [List.getElem?_toArray, List.getElem?_cons_zero, List.getElem?_cons_succ] <;> rfl)); (focus (exact fun _ _ _ h => h)); (focus rfl); (focus (intro w hSw; (try dsimp only at hSw); go_simp; (try with_reducible rfl); done)); (try simp only [Act.put, List.setIfInBounds_toArray, List.set_cons_zero, List.set_cons_succ]))
  (refine wpAnyH_take (i := 8) (oi := ?_) (v := ?_) ?_ (by kernel_rfl) (by decide +kernel) (by decide +kernel) ?_ (Or.inl ⟨?_, ?_⟩) (by first | assumption | exact trivial) ?_; rotate_left 2; (focus (simp only [List.getElem?_toArray, List.getElem?_cons_zero, List.getElem?_cons_succ] <;> rfl)); (focus (exact fun _ _ _ h => h)); (focus rfl); (focus (intro w hSw; (try dsimp only at hSw); go_simp; (try with_reducible rfl); done)); (try simp only [Act.put, List.setIfInBounds_toArray, List.set_cons_zero, List.set_cons_succ]))
  (refine wpAnyH_take (i := 9) (oi := ?_) (v := ?_) ?_ (by kernel_rfl) (by decide +kernel) (by decide +kernel) ?_ (Or.inl ⟨?_, ?_⟩) (by first | assumption | exact trivial) ?_; rotate_left 2; (focus (simp only [List.getElem?_toArray, List.getElem?_cons_zero, List.getElem?_cons_succ] <;> rfl)); (focus (exact fun _ _ _ h => h)); (focus rfl); (focus (intro w hSw; (try dsimp only at hSw); go_simp; (try with_reducible rfl); done)); (try simp only [Act.put, List.setIfInBounds_toArray, List.set_cons_zero, List.set_cons_succ]))
  (refine wpAnyH_take (i := 10) (oi := ?_) (v := ?_) ?_ (by kernel_rfl) (by decide +kernel) (by decide +kernel) ?_ (Or.inl ⟨?_, ?_⟩) (by first | assumption | exact trivial) ?_; rotate_left 2; (focus (simp only [List.getElem?_toArray, List.getElem?_cons_zero, List.getElem?_cons_succ] <;> rfl)); (focus (exact fun _ _ _ h => h)); (focus rfl); (focus (intro w hSw; (try dsimp only at hSw); go_simp; (try with_reducible rfl); done)); (try simp only [Act.put, List.setIfInBounds_toArray, List.set_cons_zero, List.set_cons_succ]))
  (refine wpAnyH_take (i := 11) (oi := ?_) (v := ?_) ?_ (by kernel_rfl) (by decide +kernel) (by decide +kernel) ?_ (Or.inl ⟨?_, ?_⟩) (by first | assumption | exact trivial) ?_; rotate_left 2; (focus (simp only [List.getElem?_toArray, List.getElem?_cons_zero, List.getElem?_cons_succ] <;> rfl)); (focus (exact fun _ _ _ h => h)); (focus rfl); (focus (intro w hSw; (try dsimp only at hSw); go_simp; (try with_reducible rfl); done)); (try simp only [Act.put, List.setIfInBounds_toArray, List.set_cons_zero, List.set_cons_succ]))
  (refine wpAnyH_take (i := 12) (oi := ?_) (v := ?_) ?_ (by kernel_rfl) (by decide +kernel) (by decide +kernel) ?_ (Or.inl ⟨?_, ?_⟩) (by first | assumption | exact trivial) ?_; rotate_left 2; (focus (simp only [List.getElem?_toArray, List.getElem?_cons_zero, List.getElem?_cons_succ] <;> rfl)); (focus (exact fun _ _ _ h => h)); (focus rfl); (focus (intro w hSw; (try dsimp only at hSw); go_simp; (try with_reducible rfl); done)); (try simp only [Act.put, List.setIfInBounds_toArray, List.set_cons_zero, List.set_cons_succ]))
  (refine wpAnyH_take (i := 13) (oi := ?_) (v := ?_) ?_ (by kernel_rfl) (by decide +kernel) (by decide +kernel) ?_ (Or.inl ⟨?_, ?_⟩) (by first | assumption | exact trivial) ?_; rotate_left 2; (focus (simp only [List.getElem?_toArray, List.getElem?_cons_zero, List.getElem?_cons_succ] <;> rfl)); (focus (exact fun _ _ _ h => h)); (focus rfl); (focus (intro w hSw; (try dsimp only at hSw); go_simp; (try with_reducible rfl); done)); (try simp only [Act.put, List.setIfInBounds_toArray, List.set_cons_zero, List.set_cons_succ]))
  (refine wpAnyH_take (i := 14) (oi := ?_) (v := ?_) ?_ (by kernel_rfl) (by decide +kernel) (by decide +kernel) ?_ (Or.inl ⟨?_, ?_⟩) (by first | assumption | exact trivial) ?_; rotate_left 2; (focus (simp only [List.getElem?_toArray, List.getElem?_cons_zero, List.getElem?_cons_succ] <;> rfl)); (focus (exact fun _ _ _ h => h)); (focus rfl); (focus (intro w hSw; (try dsimp only at hSw); go_simp; (try with_reducible rfl); done)); (try simp only [Act.put, List.setIfInBounds_toArray, List.set_cons_zero, List.set_cons_succ]))
  (refine wpAnyH_take (i := 15) (oi := ?_) (v := ?_) ?_ (by kernel_rfl) (by decide +kernel) (by decide +kernel) ?_ (Or.inl ⟨?_, ?_⟩) (by first | assumption | exact trivial) ?_; rotate_left 2; (focus (simp only [List.getElem?_toArray, List.getElem?_cons_zero, List.getElem?_cons_succ] <;> rfl)); (focus (exact fun _ _ _ h => h)); (focus rfl); (focus (intro w hSw; (try dsimp only at hSw); go_simp; (try with_reducible rfl); done)); (try simp only [Act.put, List.setIfInBounds_toArray, List.set_cons_zero, List.set_cons_succ]))
  (refine wpAnyH_take (i := 16) (oi := ?_) (v := ?_) ?_ (by kernel_rfl) (by decide +kernel) (by decide +kernel) ?_ (Or.inl ⟨?_, ?_⟩) (by first | assumption | exact trivial) ?_; rotate_left 2; (focus (simp only [List.getElem?_toArray, List.getElem?_cons_zero, List.getElem?_cons_succ] <;> rfl)); (focus (exact fun _ _ _ h => h)); (focus rfl); (focus (intro w hSw; (try dsimp only at hSw); go_simp; (try with_reducible rfl); done)); (try simp only [Act.put, List.setIfInBounds_toArray, List.set_cons_zero, List.set_cons_succ]))
  (refine wpAnyH_take (i := 17) (oi := ?_) (v := ?_) ?_ (by kernel_rfl) (by decide +kernel) (by decide +kernel) ?_ (Or.inl ⟨?_, ?_⟩) (by first | assumption | exact trivial) ?_; rotate_left 2; (focus (simp only [List.getElem?_toArray, List.getElem?_cons_zero, List.getElem?_cons_succ] <;> rfl)); (focus (exact fun _ _ _ h => h)); (focus rfl); (focus (intro w hSw; (try dsimp only at hSw); go_simp; (try with_reducible rfl); done)); (try simp only [Act.put, List.setIfInBounds_toArray, List.set_cons_zero, List.set_cons_succ]))
  refine wpAnyH_ready (rs := [18]) (by kernel_rfl) (by simp) ?_
  refine AllReadyH.cons (o := ?_) ?_ ?_ AllReadyH.nil
  rotate_left 1
  (focus (simp only [List.getElem?_toArray, List.getElem?_cons_zero, List.getElem?_cons_succ] <;> rfl))
  intro K hK
  go_simp
  go_at_call 10
  refine (law_num 9 _).mono ?_
  rintro e d1 ⟨bn, rfl, hqn, _, _, hrn⟩
  have q1 := q0.trans hqn
  clear hqn
  dsimp only
  refine hK.out _ _ ?_ (fun hHeld => ?_)
  · exact HS13.out _ (q1.mono (fun _ _ x => x.elim))
  clear hK K
  (try simp only [Act.put, List.setIfInBounds_toArray, List.set_cons_zero, List.set_cons_succ])
  refine wpAnyH_ready (rs := [19]) (by kernel_rfl) (by simp) ?_
  refine AllReadyH.cons (o := ?_) ?_ ?_ AllReadyH.nil
  rotate_left 1
  (focus (simp only [List.getElem?_toArray, List.getElem?_cons_zero, List.getElem?_cons_succ] <;> rfl))
  intro K hK
  go_simp
  go_at_call 13
  refine (HU13.out _ q1 bn hrn).mono ?_
  rintro e d2 ⟨rfl, hlt⟩
  have q2 : Only (fun k => ¬ (k = b ∨ k = b2)) _ d2 := (q1.mono (T := fun k => ¬ (k = b ∨ k = b2)) (fun _ _ x => x.elim)).trans' hlt.2 (fun k _ x => x.2)
  dsimp only
  refine hK.out _ _ ?_ (fun hHeld => ?_)
  · exact HS13.out _ q2
  clear hK K
  (try simp only [Act.put, List.setIfInBounds_toArray, List.set_cons_zero, List.set_cons_succ])
  (refine wpAnyH_take (i := 20) (oi := ?_) (v := ?_) ?_ (by kernel_rfl) (by decide +kernel) (by decide +kernel) ?_ (Or.inl ⟨?_, ?_⟩) (by first | assumption | exact trivial) ?_; rotate_left 2; (focus (simp only [List.getElem?_toArray, List.getElem?_cons_zero, List.getElem?_cons_succ] <;> rfl)); (focus (exact fun _ _ _ h => h)); (focus rfl); (focus (intro w hSw; (try dsimp only at hSw); go_simp; (try with_reducible rfl); done)); (try simp only [Act.put, List.setIfInBounds_toArray, List.set_cons_zero, List.set_cons_succ]))
  (refine wpAnyH_take (i := 21) (oi := ?_) (v := ?_) ?_ (by kernel_rfl) (by decide +kernel) (by decide +kernel) ?_ (Or.inl ⟨?_, ?_⟩) (by first | assumption | exact trivial) ?_; rotate_left 2; (focus (simp only [List.getElem?_toArray, List.getElem?_cons_zero, List.getElem?_cons_succ] <;> rfl)); (focus (exact fun _ _ _ h => h)); (focus rfl); (focus (intro w hSw; (try dsimp only at hSw); go_simp; (try with_reducible rfl); done)); (try simp only [Act.put, List.setIfInBounds_toArray, List.set_cons_zero, List.set_cons_succ]))
  (refine wpAnyH_take (i := 22) (oi := ?_) (v := ?_) ?_ (by kernel_rfl) (by decide +kernel) (by decide +kernel) ?_ (Or.inl ⟨?_, ?_⟩) (by first | assumption | exact trivial) ?_; rotate_left 2; (focus (simp only [List.getElem?_toArray, List.getElem?_cons_zero, List.getElem?_cons_succ] <;> rfl)); (focus (exact fun _ _ _ h => h)); (focus rfl); (focus (intro w hSw; (try dsimp only at hSw); go_simp; (try with_reducible rfl); done)); (try simp only [Act.put, List.setIfInBounds_toArray, List.set_cons_zero, List.set_cons_succ]))
  refine wpAnyH_done (by kernel_rfl) ?_ _
  have HEND : Hid (POST (.returned (.bool true)) d2) := by
    rw [← HPOST.out]
    exact ⟨rfl, hlt.st.quiet⟩
  clear hHeld q0 q1 q2 hlt hrn HS13 HU13 HONE
  go_wp2
  exact HEND.out

end Go.Proofs.YtdeekopdhgjanaaGreatDoor

namespace Go.Proofs.YtdeekopdhgjanaaGreatDoor
open Go.RowKit Go.Lap

/-- Where what is the law's own turns, and grows. -/
theorem LawSt.grows {w0 w3 w4 : World} {sb : Nat} {K : Nat → Prop} {s : St} (h : LawSt w0 w3 sb K s) (ho : Only K w3 w4) (hK : ∀ k, K k → w0.heap.size ≤ k) : LawSt w0 w4 sb (fun k => K k ∨ (w3.heap.size ≤ k ∧ k < w4.heap.size)) s := by
  obtain ⟨o, h1, h2, h3, h4⟩ := h
  refine ⟨o, h1.kept ho (fun k x => (h4 k x).1), h2.trans' ho (fun k hk x => by have := hK k x; omega), h3, fun k x => ?_⟩
  rcases x with x | x
  · exact ⟨(h4 k x).1, Nat.lt_of_lt_of_le (h4 k x).2 ho.size⟩
  · exact ⟨h1.big k x.1, x.2⟩

/-- The rows that the law keeps: each is the one row. -/
structure KeepW (w0 wr : World) (v : Value) (M : List RowM) (sb : Nat) (s : St) : Prop where
  law : LawSt w0 wr sb (fun k => v.ownBlock = some k) s
  new : ∀ k, v.ownBlock = some k → w0.heap.size ≤ k
  own : wr.ownsRow 0 44 4 v M.length (rowsV M)
  same : ∀ m ∈ M, m.id = 1 ∧ m.pg = 0 ∧ m.sl = 0

section
variable {w0 wr w1 w3 w4 : World} {v v' : Value} {M : List RowM} {sb : Nat} {s s' : St}

theorem KeepW.start (h : LawSt w0 wr sb (fun _ => False) s) : KeepW w0 wr (.slice none 0 0) [] sb s := ⟨h.mono (fun k e => by cases e), (fun k e => by cases e), World.ownsRow_nil _ _ _ _, (fun m hm => by cases hm)⟩

theorem KeepW.quietly (h : KeepW w0 wr v M sb s) (hq : Quiet wr w1) : KeepW w0 w1 v M sb s := ⟨h.law.same hq, h.new, owns_kept h.own hq (fun _ _ x => x), h.same⟩

theorem KeepW.to (h : KeepW w0 wr v M sb s) (ht : LawTo w0 wr sb (fun k => v.ownBlock = some k) s' w1) : KeepW w0 w1 v M sb s' := ⟨ht.st, h.new, owns_kept h.own ht.2 (fun k e x => x.2 e), h.same⟩

theorem KeepW.push {m : RowM} (h : KeepW w0 w3 v M sb s) (hm : m.id = 1 ∧ m.pg = 0 ∧ m.sl = 0) (hg : Grew w3 w4 44 4 v v' (M.length + 1) (rowsV M ++ rowE m)) : KeepW w0 w4 v' (M ++ [m]) sb s := by
  have hq := h.law.quiet.size
  have hown := hg.own
  refine ⟨(h.law.grows hg.only h.new).mono (fun k e => ?_), fun k e => ?_, ?_, fun x hx => ?_⟩
  · rcases hg.loc with y | y
    · rw [y] at e; exact Or.inl e
    · obtain ⟨cs, hcs⟩ := own_blk hown e
      rw [y] at e; injection e with e
      exact Or.inr ⟨by omega, lt_of_get hcs⟩
  · rcases hg.loc with y | y
    · rw [y] at e; exact h.new k e
    · rw [y] at e; injection e with e; omega
  · rw [List.length_append, rowsV_append]
    have e1 : rowsV [m] = rowE m := by simp [rowsV]
    rw [e1]
    exact hown
  · rcases List.mem_append.1 hx with y | y
    · exact h.same x y
    · simp at y
      subst y
      exact hm

theorem rowsV_get : ∀ (M : List RowM) (i : Nat) (m : RowM), M[i]? = some m → (rowsV M)[i * 4]? = some (.int .u64 (m.id : Int)) ∧ (rowsV M)[i * 4 + 1]? = some (.int .i64 m.pg) ∧ (rowsV M)[i * 4 + 2]? = some (.int .i64 m.sl) ∧ (rowsV M)[i * 4 + 3]? = some (.slice m.A 1 m.c)
  | [], i, m, h => by simp at h
  | x :: M, 0, m, h => by
    simp at h
    subst h
    exact ⟨rfl, rfl, rfl, rfl⟩
  | x :: M, i + 1, m, h => by
    have ih := rowsV_get M i m (by simpa using h)
    have e : rowsV (x :: M) = .int .u64 (x.id : Int) :: .int .i64 x.pg :: .int .i64 x.sl :: .slice x.A 1 x.c :: rowsV M := rfl
    rw [e, show (i + 1) * 4 = i * 4 + 1 + 1 + 1 + 1 by omega]
    exact ih

theorem KeepW.row (h : KeepW w0 wr v M sb s) {i : Nat} (hi : i < M.length) : ∃ b c A c2, v = .slice (some ⟨b, 0, none⟩) M.length c ∧ wr.cell? ⟨b, i * 4, none⟩ = some (.int .u64 1) ∧ wr.cell? ⟨b, i * 4 + 1, none⟩ = some (.int .i64 0) ∧ wr.cell? ⟨b, i * 4 + 2, none⟩ = some (.int .i64 0) ∧ wr.cell? ⟨b, i * 4 + 3, none⟩ = some (.slice A 1 c2) := by
  rcases owns_cases h.own with ⟨_, e⟩ | ⟨b, c, rfl, _, _⟩
  · omega
  obtain ⟨m, hm⟩ : ∃ m, M[i]? = some m := ⟨_, List.getElem?_eq_getElem hi⟩
  obtain ⟨k0, k1, k2, k3⟩ := rowsV_get M i m hm
  obtain ⟨s1, s2, s3⟩ := h.same m (List.mem_of_getElem? hm)
  have c0 := h.own.cells (by rfl) _ _ k0
  have c1 := h.own.cells (by rfl) _ _ k1
  have c2 := h.own.cells (by rfl) _ _ k2
  have c3 := h.own.cells (by rfl) _ _ k3
  rw [add_none, Nat.zero_add] at c0 c1 c2 c3
  rw [s1] at c0
  rw [s2] at c1
  rw [s3] at c2
  exact ⟨b, c, m.A, m.c, rfl, c0, c1, c2, c3⟩
end

/-- What is seen of the one version. -/
theorem seen_first {L : List Nat} {y : Snap} (h : seesS L y 1 = true) : seenR [[some (vR 0 (-1) (-1))]] L y (placesH [[some (vR 0 (-1) (-1))]] [[some (vR 0 (-1) (-1))]].length) = [(1, 0, 0, 0)] := by
  have e : placesH [[some (vR 0 (-1) (-1))]] [[some (vR 0 (-1) (-1))]].length = [(0, 0)] := rfl
  rw [e]
  have : seenAt [[some (vR 0 (-1) (-1))]] L y (0, 0) = some (1, 0, 0, 0) := by
    show (if visS L y 1 0 then some ((1 : Nat), (0 : Int), (0 : Int), numOf (rowI 0)) else none) = _
    have hv : visS L y 1 0 = true := by unfold visS; rw [h]; simp
    rw [hv, if_pos rfl, numOf_row]
  unfold seenR
  simp [this]

/-- It was the first one, and is over. -/
theorem FirstSt.over {k j x : Nat} {s s' : St} {L : List Nat} {T T' : List (Option Tup)} {xm : Nat} {p q p' q' : Int} {sn : Nat → Option Snap} (hlt : j < k) (hx : j + 2 = x) (h0 : FirstSt k j true s L T xm p q sn) (h : FirstSt k (j + 1) false s' L T' x p' q' sn) {v : Nat} (hv : v = 2 ∨ v = 3) : FirstSt k (j + 1) (decide (v = 3)) (endSt s' x v) (L.set (j + 1) v) T' x p' q' (upd sn x none) := by
  subst hx
  exact h.ends hlt (h0.run (j + 2) (Nat.le_refl _) (by omega)) hv

/-- The log while they begin. -/
structure BegL (j : Nat) (L : List Nat) : Prop where
  len : L.length = j + 1
  one : stateL L 1 = 2
  run : ∀ x, 2 ≤ x → x ≤ j + 1 → stateL L x = 1

theorem BegL.next {j : Nat} {L : List Nat} (h : BegL j L) : BegL (j + 1) (L ++ [1]) :=
  ⟨by have := h.len; simp; omega, by rw [stateL_app (by have := h.len; omega)]; exact h.one, fun x a b => by
    by_cases e : x = L.length + 1
    · rw [e]; exact stateL_last
    · have := h.len
      rw [stateL_app (by omega)]; exact h.run x a (by omega)⟩

set_option maxHeartbeats 4000000 in
set_option maxRecDepth 100000 in
theorem first_walk (n : Nat) (hn : n < 256) (A : Option Addr) (cap : Nat) (l : List Nat) (hb : ∀ x ∈ l, x < 256) (w : World) (hr : Rd w (fun _ => True) 1 A l.length (bytesV l)) :
    Calls Tryz.prog 3 #[.int .u8 (n : Int), .slice A l.length cap] w fun e w' => e = .returned (.bool true) ∧ Quiet w w' := by
  obtain ⟨POST, hPOST⟩ : ∃ POST : Ending → World → Prop, (fun e w' => e = .returned (.bool true) ∧ Quiet w w') = POST := ⟨_, rfl⟩
  rw [hPOST]
  have HPOST := Lib.hid hPOST
  have HR := Lib.hid hr
  have HB := Lib.hid hb
  clear hPOST hr hb
  obtain ⟨len, hlen⟩ : ∃ len, l.length = len := ⟨_, rfl⟩
  rw [hlen]
  have HLEN := Lib.hid hlen
  clear hlen
  go_enter Tryz.func3, Tryz.ntmps3
  go_wp2_with fail
  refine (awake12 _).mono ?_
  rintro e w0 ⟨rfl, hq0⟩
  have HQ0 := Lib.hid hq0
  clear hq0
  go_wp2_with fail
  refine (law_new 10 (by omega) _).mono ?_
  rintro e w1 ⟨sb, rfl, h1⟩
  have H1 := Lib.hid h1
  clear h1
  go_wp2_with fail
  refine (law_begin H1.out (by decide)).mono ?_
  rintro e w2 ⟨rfl, h2⟩
  have H2 := Lib.hid h2.st
  clear h2
  go_wp2_with fail
  refine (law_one _).mono ?_
  rintro e w3 ⟨b3, rfl, hq3, hn3, hl3, hr3⟩
  have H3 := Lib.hid (H2.out.quietly hq3)
  have HMK : Hid (Calls Tryz.prog 7 #[ptrV sb, .int .u64 1, .string ⟨#[116]⟩, .slice (some ⟨b3, 0, none⟩) 1 1] w3 (fun e w' => e = .returned (.int .i64 0) ∧ LawSt w0 w' sb (fun _ => False) (stA [1] [] 10 0 (upd (fun _ => none) 1 (some (takeS [1] 1)))))) := by
    refine (law_make (x := 1) (y := takeS [1] 1) (name := ⟨#[116]⟩) (nm := ⟨#[97]⟩) (kd := 1) H3.out (by unfold U64; omega) rfl rfl rfl rfl (by decide) (by unfold U64; decide) small_t small_a ⟨by omega, by omega⟩ (hr3.mono (fun k e => Or.inr ⟨by omega, by omega⟩)) (by omega) (by unfold maxLen; omega)).mono ?_
    rintro e w' ⟨rfl, h⟩
    exact ⟨rfl, h.st.mono (fun _ x => x.elim)⟩
  clear hq3 hn3 hl3 hr3
  go_wp2_with fail
  refine HMK.out.mono ?_
  rintro e w4 ⟨rfl, h4⟩
  have H4 := Lib.hid h4
  clear h4 HMK
  go_wp2_with fail
  refine (law_num 0 _).mono ?_
  rintro e w5 ⟨b5, rfl, hq5, hn5, hl5, hr5⟩
  have HIN : Hid (Calls Tryz.prog 9 #[ptrV sb, .int .u64 1, .string ⟨#[116]⟩, .slice (some ⟨b5, 0, none⟩) 1 1] w5 (fun e w' => e = .returned (.int .i64 0) ∧ LawSt w0 w' sb (fun _ => False) (stA [1] [[some (vR 0 (-1) (-1))]] 9 1 (upd (fun _ => none) 1 (some (takeS [1] 1)))))) := by
    refine (law_insert (x := 1) (n := 0) (y := takeS [1] 1) (t := tabA) (i := 0) (H' := [[some (vR 0 (-1) (-1))]]) (left' := 9) (p := 0) (q := 0) (H4.out.same hq5) (by unfold U64; omega) rfl (tabA_found rfl) rfl rfl (by unfold U64; decide) rfl rfl (by decide) (by omega) hr5 (by omega) (by unfold maxLen; omega) (by decide) (nine_first (nine_right (by decide) (by decide)) (by decide))).mono ?_
    rintro e w' ⟨rfl, h⟩
    exact ⟨rfl, by have := h.st; rw [stA_ins] at this; exact this⟩
  clear hq5 hn5 hl5 hr5
  go_wp2_with fail
  refine HIN.out.mono ?_
  rintro e w6 ⟨rfl, h6⟩
  have H6 := Lib.hid h6
  clear h6 HIN
  have HCO : Hid (Calls Tryz.prog 11 #[ptrV sb, .int .u64 1] w6 (fun e w' => e = .returned (.int .i64 0) ∧ LawSt w0 w' sb (fun _ => False) (stA [2] [[some (vR 0 (-1) (-1))]] 9 1 (upd (upd (fun _ => none) 1 (some (takeS [1] 1))) 1 none)))) := by
    refine (law_commit (x := 1) H6.out (by unfold U64; omega)).mono ?_
    rintro e w' ⟨rfl, h⟩
    exact ⟨rfl, h.st⟩
  go_wp2_with fail
  refine HCO.out.mono ?_
  rintro e w7 ⟨rfl, h7⟩
  have H7 := Lib.hid h7
  clear h7 HCO
  obtain ⟨k, hk⟩ : ∃ k : Nat, 2 + (n : Int) % 8 = (k : Int) := ⟨n % 8 + 2, by omega⟩
  have hk8 : 2 ≤ k ∧ k ≤ 9 := by omega
  have HK := Lib.hid hk
  have HK8 := Lib.hid hk8
  go_wp2_with fail
  (try rw [hk])
  clear hk hk8
  go_loopw [39, 8, 9, 10, 11, 12, 13] (fun i r _ _ _ _ _ wr => ∃ (j : Nat) (v : Value) (M : List RowM) (L : List Nat) (sn : Nat → Option Snap), j ≤ k ∧ i = .int .i64 (j : Int) ∧ r = v ∧ KeepW w0 wr v M sb (stA L [[some (vR 0 (-1) (-1))]] 9 1 sn) ∧ M.length = j ∧ BegL j L ∧ FirstSn j 0 sn) (fun i _ _ _ _ _ _ _ => k - (intOf i).toNat)
  case atStart => exact ⟨0, _, [], [2], _, Nat.zero_le _, rfl, rfl, KeepW.start H7.out, rfl, ⟨rfl, rfl, fun x a b => by omega⟩, fun x a b => by omega⟩
  case round =>
    obtain ⟨j, v, M, L, sn, hj, rfl, rfl, hW, hM, hL, hsn⟩ := hrel
    have HW := Lib.hid hW
    have HM := Lib.hid hM
    have HL := Lib.hid hL
    have HSN := Lib.hid hsn
    clear hW hM hL hsn
    have h9 := HK8.out
    by_cases hlt : j < k
    · have HBEG : Hid (Calls Tryz.prog 6 #[ptrV sb] wr (fun e w' => e = .returned (.tuple #[.int .u64 ((j : Int) + 2), .int .i64 0]) ∧ KeepW w0 w' u8 M sb (stA (L ++ [1]) [[some (vR 0 (-1) (-1))]] 9 1 (upd sn (L.length + 1) (some (takeS (L ++ [1]) (L.length + 1))))))) := by
        have hlen := HL.out.len
        refine (law_begin HW.out.law (by show L.length < 1000000; omega)).mono ?_
        rintro e w' ⟨rfl, h⟩
        refine ⟨?_, HW.out.to h⟩
        show Ending.returned (.tuple #[.int .u64 ((L.length : Int) + 1), .int .i64 0]) = _
        rw [hlen]
        rw [show (((j + 1 : Nat) : Int) + 1) = (j : Int) + 2 by omega]
      go_wp2_with fail
      refine HBEG.out.mono ?_
      rintro e w8 ⟨rfl, h8⟩
      have H8 := Lib.hid h8
      clear h8 HBEG
      have HSC : Hid (Calls Tryz.prog 12 #[ptrV sb, .int .u64 ((j : Int) + 2), .string ⟨#[116]⟩] w8 (StoreScanPost w8 [(1, 0, 0, 0)])) := by
        have hlen := HL.out.len
        have hy : seesS (L ++ [1]) (takeS (L ++ [1]) (L.length + 1)) 1 = true := sees_one (by rw [stateL_app (by omega)]; exact HL.out.one) (by show 2 ≤ (L ++ [1]).length + 1; simp) (fun hr => by
          have := mem_runsL.1 (mem_others.1 hr).1
          rw [stateL_app (by omega), HL.out.one] at this
          cases this)
        have h := law_scan (x := j + 2) (y := takeS (L ++ [1]) (L.length + 1)) (t := tabA) (i := 0) (nm := ⟨#[97]⟩) (H := [[some (vR 0 (-1) (-1))]]) H8.out.law (by unfold U64; omega) (by show upd sn (L.length + 1) (some _) (j + 2) = some _; rw [hlen]; simp [upd]) (tabA_found hy) rfl rfl (by unfold U64; decide) rfl (places_small (by decide)) (int_one (fun s hs => by
          rw [List.mem_singleton] at hs
          exact ⟨_, hs, by unfold U64; decide, by unfold U64; decide, 0, by omega, rfl⟩))
        rw [show (stA (L ++ [1]) [[some (vR 0 (-1) (-1))]] 9 1 (upd sn (L.length + 1) (some (takeS (L ++ [1]) (L.length + 1))))).L = L ++ [1] from rfl, seen_first hy, show (((j + 2 : Nat) : Int)) = (j : Int) + 2 by omega] at h
        exact h
      go_wp2_with fail
      refine HSC.out.mono ?_
      rintro e w9 ⟨vs, Ms, rfl, hrw, hpm, _⟩
      obtain ⟨b, c, b2, c2, hone⟩ := hrw.one hpm
      obtain rfl := hone.form
      obtain ⟨k0, k1, k2, k3, _⟩ := hone.kept (Only.refl (fun _ => False) w9) (fun x => x) (fun x => x)
      have k0' : w9.cell? ⟨b, 0, none⟩ = some (.int .u64 1) := k0
      have H9 := Lib.hid (H8.out.quietly hrw.quiet)
      have HRD := Lib.hid (Rd.new w9 4 1 (rowE ⟨1, 0, 0, 0, some ⟨b2, 0, none⟩, c2⟩) 44 (fun _ => True) rfl trivial)
      have H10 := Lib.hid (H9.out.quietly ((Only.refl (fun _ => False) w9).alloc (.cells (rowE ⟨1, 0, 0, 0, some ⟨b2, 0, none⟩, c2⟩).toArray 44)))
      have hml : M.length ≤ 10 := by have := HM.out; omega
      obtain ⟨ml, hml2⟩ : ∃ ml, M.length = ml := ⟨_, rfl⟩
      have HML := Lib.hid hml2
      have hown := H10.out.own
      rw [hml2] at hml hown
      have HOWN := Lib.hid hown
      have nj : ¬ ((j : Int) + 2 < 0) := by omega
      clear hrw hpm hone HSC k0 hml2 hown
      go_wp2_with (at_builtin; refine app elem_row rfl (.tmp 67) (.tmp 71) rfl rfl HOWN.out rfl HRD.out (rowE_one ⟨1, 0, 0, 0, some ⟨b2, 0, none⟩, c2⟩) (by unfold maxLen; omega) (by omega) ?_)
      intro v11 w11 hg11
      rw [← HML.out] at hg11
      have HP := Lib.hid (H10.out.push (m := ⟨1, 0, 0, 0, some ⟨b2, 0, none⟩, c2⟩) ⟨rfl, rfl, rfl⟩ hg11)
      clear hg11 H10 HRD HOWN H9 k0' k1 k2 k3
      go_wp2
      go_roundw
      case rel => exact ⟨j + 1, _, _, L ++ [1], _, by omega, by go_num, rfl, HP.out, by simp [HM.out], HL.out.next, firstSn_begin HSN.out HL.out.len HL.out.one⟩
      case measure => simp [intOf]; omega
    · obtain rfl : k = j := by omega
      have HKM : Hid (M.length = k) := HM.out
      have hst0 : FirstSt k 0 true (stA L [[some (vR 0 (-1) (-1))]] 9 1 sn) L [] 0 (-1) (-1) sn := ⟨rfl, HL.out.len, HL.out.one, fun x a b => HL.out.run x a b, HSN.out, Nat.le_refl _, (fun s hs => by cases hs), by omega, fun _ => Or.inl rfl, fun e => by cases e⟩
      have HST0 := Lib.hid hst0
      clear hst0 hlt
      go_wp2_with fail
      go_loopw [75, 14, 15, 16, 17, 108, 121] (fun i f _ _ _ _ _ wr => ∃ (j : Nat) (free : Bool) (s : St) (L : List Nat) (T : List (Option Tup)) (xm : Nat) (p q : Int) (sn : Nat → Option Snap), j ≤ k ∧ i = .int .i64 (j : Int) ∧ f = .bool free ∧ FirstSt k j free s L T xm p q sn ∧ KeepW w0 wr u8 M sb s) (fun i _ _ _ _ _ _ _ => k - (intOf i).toNat)
      case atStart => exact ⟨0, true, _, L, [], 0, -1, -1, sn, Nat.zero_le _, rfl, rfl, HST0.out, HW.out⟩
      case round =>
        clear HW HM HL HSN HST0
        clear hj
        rename_i wrOld _
        obtain ⟨j, free, s, L, T, xm, p, q, sn, hj, rfl, rfl, hF, hW⟩ := hrel
        obtain rfl := hF.st
        have HF := Lib.hid hF
        have HW := Lib.hid hW
        by_cases hlt : j < k
        · obtain ⟨x, hx⟩ : ∃ x, j + 2 = x := ⟨_, rfl⟩
          have en : ((j : Int) + 2) = (x : Int) := by omega
          have hw1 : IntKind.u64.wrap (x : Int) = (x : Int) := wrapU_of x (by omega)
          have hw2 : IntKind.i64.wrap (x : Int) = (x : Int) := wrap_i64_of _ (by omega) (by omega)
          obtain ⟨y, hy, hy1, hy2, hy3⟩ := hF.snap (j + 2) (Nat.le_refl _) (by omega)
          obtain ⟨b, c, Ar, cr, hv8, k0, k1, k2, k3⟩ := hW.row (i := j) (by rw [HKM.out]; exact hlt)
          rw [HKM.out] at hv8
          subst hv8
          obtain ⟨cd, hcd⟩ : ∃ cd : Nat, (if free then 0 else 11) = cd := ⟨_, rfl⟩
          obtain ⟨s2, hs2⟩ : ∃ s2 : St, (if free then stA L [some (vR x 0 ((T.length + 1 : Nat) : Int)) :: (T ++ [some ⟨1, x, 0, -1, -1, rowI x⟩])] 9 1 sn else stA L [some (vR xm p q) :: T] 9 1 sn) = s2 := ⟨_, rfl⟩
          have HX := Lib.hid hx
          have HCD := Lib.hid hcd
          have HS2 := Lib.hid hs2
          have HUPD : Hid (∀ W, Quiet wr W → ∀ bn, Rd W (fun k => k = bn) 4 (some ⟨bn, 0, none⟩) 1 (intRow (x : Int)) → Calls Tryz.prog 13 #[ptrV sb, .int .u64 (x : Int), .string ⟨#[116]⟩, .agg #[.int .u64 1, .int .i64 0, .int .i64 0, .slice Ar 1 cr], .slice (some ⟨bn, 0, none⟩) 1 1] W (fun e w' => e = .returned (.int .i64 (cd : Int)) ∧ LawTo w0 W sb (fun k => (Value.slice (some ⟨b, 0, none⟩) k c).ownBlock = some k) s2 w')) := fun W hq bn hr => by
            have hcode := hF.code hy1 hy2 hy3
            rw [hcd] at hcode
            have hins := hF.ins (by omega)
            have hsta := hF.stamp (by omega)
            rw [hx] at hins hsta hy
            have hxl := hF.xlt
            refine (law_update (x := x) (n := x) (y := y) (t := tabA) (i := 0) (nm := ⟨#[97]⟩) (v := vR xm p q) (code := cd) (hW.law.same hq) (by unfold U64; omega) hy (tabA_found (sees_one hF.one hy2 hy3)) rfl rfl (by unfold U64; decide) rfl rfl (by show 1 + 9 ≤ 256; omega) (by omega) hr (by omega) (by unfold maxLen; omega) hF.get (by unfold U64; show 1 < _; omega) (by unfold U64; show xm < _; omega) hcode (fun _ => hins) hsta).mono ?_
            intro e w' hp
            cases hf : free with
            | true =>
              rw [hf] at hcd hs2
              obtain rfl : 0 = cd := hcd
              obtain rfl := hs2
              rw [if_pos rfl] at hp
              refine ⟨hp.1, ?_⟩
              have := hp.2
              rw [stA_put] at this
              exact this
            | false =>
              rw [hf] at hcd hs2
              obtain rfl : 11 = cd := hcd
              obtain rfl := hs2
              rw [if_neg (by decide)] at hp
              exact hp
          have HS24 : Hid (∀ W, Only (fun k => k ≠ b) wr W → (fun w' => w'.cell? ⟨b, j * 4, none⟩ = some (.int .u64 1) ∧ w'.cell? ⟨b, j * 4 + 1, none⟩ = some (.int .i64 0) ∧ w'.cell? ⟨b, j * 4 + 2, none⟩ = some (.int .i64 0) ∧ w'.cell? ⟨b, j * 4 + 3, none⟩ = some (.slice Ar 1 cr)) W) := fun W ho => ⟨ho.cell k0 (fun x => x rfl), ho.cell k1 (fun x => x rfl), ho.cell k2 (fun x => x rfl), ho.cell k3 (fun x => x rfl)⟩
          clear hy hy1 hy2 hy3 k0 k1 k2 k3 hcd hs2 hF hW
          go_wp2_with fail
          refine wp_region_held_drew (S := (fun w' => w'.cell? ⟨b, j * 4, none⟩ = some (.int .u64 1) ∧ w'.cell? ⟨b, j * 4 + 1, none⟩ = some (.int .i64 0) ∧ w'.cell? ⟨b, j * 4 + 2, none⟩ = some (.int .i64 0) ∧ w'.cell? ⟨b, j * 4 + 3, none⟩ = some (.slice Ar 1 cr))) (by kernel_rfl) (HS24.out _ ((Only.refl _ _).drew)) (fun hHeld => ?_)
          simp only [List.size_toArray, List.length_cons, List.length_nil, Nat.reduceAdd]
          have q0 : Quiet wr wr.drew := (Only.refl _ _).drew
          generalize wr.drew = d0 at q0 hHeld ⊢
          (refine wpAnyH_take (i := 0) (oi := ?_) (v := ?_) ?_ (by kernel_rfl) (by decide +kernel) (by decide +kernel) ?_ (Or.inl ⟨?_, ?_⟩) (by first | assumption | exact trivial) ?_; rotate_left 2; (focus (simp only [List.getElem?_toArray, List.getElem?_cons_zero, List.getElem?_cons_succ] <;> rfl)); (focus (exact fun _ _ _ h => h)); (focus rfl); (focus (intro w hSw; (try dsimp only at hSw); go_simp; (try with_reducible rfl); done)); (try simp only [Act.put, List.setIfInBounds_toArray, List.set_cons_zero, List.set_cons_succ]))
          (refine wpAnyH_take (i := 1) (oi := ?_) (v := ?_) ?_ (by kernel_rfl) (by decide +kernel) (by decide +kernel) ?_ (Or.inl ⟨?_, ?_⟩) (by first | assumption | exact trivial) ?_; rotate_left 2; (focus (simp only [List.getElem?_toArray, List.getElem?_cons_zero, List.getElem?_cons_succ] <;> rfl)); (focus (exact fun _ _ _ h => h)); (focus rfl); (focus (intro w hSw; (try dsimp only at hSw); go_simp; (try with_reducible rfl); done)); (try simp only [Act.put, List.setIfInBounds_toArray, List.set_cons_zero, List.set_cons_succ]))
          (refine wpAnyH_take (i := 2) (oi := ?_) (v := ?_) ?_ (by kernel_rfl) (by decide +kernel) (by decide +kernel) ?_ (Or.inl ⟨?_, ?_⟩) (by first | assumption | exact trivial) ?_; rotate_left 2; (focus (simp only [List.getElem?_toArray, List.getElem?_cons_zero, List.getElem?_cons_succ] <;> rfl)); (focus (exact fun _ _ _ h => h)); (focus rfl); (focus (intro w hSw; (try dsimp only at hSw); go_simp; (try with_reducible rfl); done)); (try simp only [Act.put, List.setIfInBounds_toArray, List.set_cons_zero, List.set_cons_succ]))
          (refine wpAnyH_take (i := 3) (oi := ?_) (v := ?_) ?_ (by kernel_rfl) (by decide +kernel) (by decide +kernel) ?_ (Or.inl ⟨?_, ?_⟩) (by first | assumption | exact trivial) ?_; rotate_left 2; (focus (simp only [List.getElem?_toArray, List.getElem?_cons_zero, List.getElem?_cons_succ] <;> rfl)); (focus (exact fun _ _ _ h => h)); (focus rfl); (focus (intro w hSw; (try dsimp only at hSw); go_simp; (try with_reducible rfl); done)); (try simp only [Act.put, List.setIfInBounds_toArray, List.set_cons_zero, List.set_cons_succ]))
          (refine wpAnyH_take (i := 4) (oi := ?_) (v := ?_) ?_ (by kernel_rfl) (by decide +kernel) (by decide +kernel) ?_ (Or.inl ⟨?_, ?_⟩) (by first | assumption | exact trivial) ?_; rotate_left 2; (focus (simp only [List.getElem?_toArray, List.getElem?_cons_zero, List.getElem?_cons_succ] <;> rfl)); (focus (exact fun _ _ _ h => h)); (focus rfl); (focus (intro w hSw; (try dsimp only at hSw); go_simp; (try with_reducible rfl); done)); (try simp only [Act.put, List.setIfInBounds_toArray, List.set_cons_zero, List.set_cons_succ]))
          (refine wpAnyH_take (i := 5) (oi := ?_) (v := ?_) ?_ (by kernel_rfl) (by decide +kernel) (by decide +kernel) ?_ (Or.inl ⟨?_, ?_⟩) (by first | assumption | exact trivial) ?_; rotate_left 2; (focus (simp only [List.getElem?_toArray, List.getElem?_cons_zero, List.getElem?_cons_succ] <;> rfl)); (focus (exact fun _ _ _ h => h)); (focus rfl); (focus (intro w hSw; (try dsimp only at hSw); go_simp; (try with_reducible rfl); done)); (try simp only [Act.put, List.setIfInBounds_toArray, List.set_cons_zero, List.set_cons_succ]))
          (refine wpAnyH_take (i := 6) (oi := ?_) (v := ?_) ?_ (by kernel_rfl) (by decide +kernel) (by decide +kernel) ?_ (Or.inl ⟨?_, ?_⟩) (by first | assumption | exact trivial) ?_; rotate_left 2; (focus (simp only [List.getElem?_toArray, List.getElem?_cons_zero, List.getElem?_cons_succ] <;> rfl)); (focus (exact fun _ _ _ h => h)); (focus rfl); (focus (intro w hSw; (try dsimp only at hSw); go_simp; (try with_reducible rfl); done)); (try simp only [Act.put, List.setIfInBounds_toArray, List.set_cons_zero, List.set_cons_succ]))
          (refine wpAnyH_take (i := 7) (oi := ?_) (v := ?_) ?_ (by kernel_rfl) (by decide +kernel) (by decide +kernel) ?_ (Or.inl ⟨?_, ?_⟩) (by first | assumption | exact trivial) ?_; rotate_left 2; (focus (simp only [List.getElem?_toArray, List.getElem?_cons_zero, List.getElem?_cons_succ] <;> rfl)); (focus (exact fun _ _ _ h => h)); (focus rfl); (focus (intro w hSw; (try dsimp only at hSw); go_simp; (try with_reducible rfl); done)); (try simp only [Act.put, List.setIfInBounds_toArray, List.set_cons_zero, List.set_cons_succ]))
          refine wpAnyH_ready (rs := [8]) (by kernel_rfl) (by simp) ?_
          refine AllReadyH.cons (o := ?_) ?_ ?_ AllReadyH.nil
          rotate_left 1
          (focus (simp only [List.getElem?_toArray, List.getElem?_cons_zero, List.getElem?_cons_succ] <;> rfl))
          intro K hK
          go_simp
          go_at_call 10
          refine (law_num (x : Int) _).mono ?_
          rintro e d1 ⟨bn, rfl, hqn, _, _, hrn⟩
          have q1 := q0.trans hqn
          clear hqn
          dsimp only
          refine hK.out _ _ ?_ (fun hHeld => ?_)
          · exact HS24.out _ (q1.mono (fun _ _ x => x.elim))
          clear hK K
          (try simp only [Act.put, List.setIfInBounds_toArray, List.set_cons_zero, List.set_cons_succ])
          refine wpAnyH_ready (rs := [9]) (by kernel_rfl) (by simp) ?_
          refine AllReadyH.cons (o := ?_) ?_ ?_ AllReadyH.nil
          rotate_left 1
          (focus (simp only [List.getElem?_toArray, List.getElem?_cons_zero, List.getElem?_cons_succ] <;> rfl))
          intro K hK
          go_simp
          go_at_call 13
          refine (HUPD.out _ q1 bn hrn).mono ?_
          rintro e d2 ⟨rfl, hlt2⟩
          have q2 := (q1.mono (T := fun k => k ≠ b) (fun _ _ x => x.elim)).trans' hlt2.2 (fun k _ x e => x.2 (by rw [e]; rfl))
          dsimp only
          refine hK.out _ _ ?_ (fun hHeld => ?_)
          · exact HS24.out _ q2
          clear hK K
          (try simp only [Act.put, List.setIfInBounds_toArray, List.set_cons_zero, List.set_cons_succ])
          (refine wpAnyH_take (i := 10) (oi := ?_) (v := ?_) ?_ (by kernel_rfl) (by decide +kernel) (by decide +kernel) ?_ (Or.inl ⟨?_, ?_⟩) (by first | assumption | exact trivial) ?_; rotate_left 2; (focus (simp only [List.getElem?_toArray, List.getElem?_cons_zero, List.getElem?_cons_succ] <;> rfl)); (focus (exact fun _ _ _ h => h)); (focus rfl); (focus (intro w hSw; (try dsimp only at hSw); go_simp; (try with_reducible rfl); done)); (try simp only [Act.put, List.setIfInBounds_toArray, List.set_cons_zero, List.set_cons_succ]))
          refine wpAnyH_done (by kernel_rfl) ?_ _
          have HW2 := Lib.hid ((HW.out.quietly q1).to hlt2)
          clear hHeld q0 q1 q2 hlt2 hrn HS24 HUPD
          cases hfree : free with
          | false =>
            rw [hfree] at HCD HS2 HF
            have hcd : cd = 11 := HCD.out.symm
            subst hcd
            have HEND : Hid (KeepW w0 d2 (.slice (some ⟨b, 0, none⟩) k c) M sb (stA L [some (vR xm p q) :: T] 9 1 sn)) := by
              have := HW2.out
              rw [← HS2.out] at this
              exact this
            clear hfree
            go_wp2
            go_roundw
            case rel => exact ⟨j + 1, false, _, L, T, xm, p, q, sn, by omega, by go_num, rfl, HF.out.told, HEND.out⟩
            case measure => simp [intOf]; omega
          | true =>
            rw [hfree] at HCD HS2 HF
            have hcd : cd = 0 := HCD.out.symm
            subst hcd
            have HEND : Hid (KeepW w0 d2 (.slice (some ⟨b, 0, none⟩) k c) M sb (stA L [some (vR x 0 ((T.length + 1 : Nat) : Int)) :: (T ++ [some ⟨1, x, 0, -1, -1, rowI x⟩])] 9 1 sn)) := by
              have := HW2.out
              rw [← HS2.out] at this
              exact this
            have hgo := HF.out.goes hlt
            rw [HX.out] at hgo
            have HGO := Lib.hid hgo
            clear hfree hgo
            by_cases hl : j < len
            · obtain ⟨e0, he0⟩ : ∃ e0, l[j]? = some e0 := ⟨_, List.getElem?_eq_getElem (by have := HLEN.out; omega)⟩
              have he256 := HB.out e0 (List.mem_of_getElem? he0)
              obtain ⟨ab, off, rfl, _, hc⟩ := (HR.out.kept (HQ0.out.trans HEND.out.law.quiet) (fun _ _ x => x)).cells (by rw [bytes_len]; have := HLEN.out; omega)
              have hce := hc j (.int .u8 (e0 : Int)) (by simp [bytesV, he0])
              have hle := cell_lt hce
              dsimp only at hle
              have HE0 := Lib.hid he256
              have h3 : e0 % 3 = 0 ∨ e0 % 3 = 1 ∨ e0 % 3 = 2 := by omega
              clear hc he0
              rcases h3 with h3 | h3 | h3
              · have h3i : (e0 : Int) % 3 = 0 := by omega
                clear h3
                go_wp2
                go_roundw
                case rel => exact ⟨j + 1, false, _, L, _, x, 0, _, sn, by omega, by go_num, rfl, HGO.out, HEND.out⟩
                case measure => simp [intOf]; omega
              · have h3i : (e0 : Int) % 3 = 1 := by omega
                have HCO : Hid (Calls Tryz.prog 11 #[ptrV sb, .int .u64 (x : Int)] d2 (fun e w' => (∃ z : Int, e = .returned (.int .i64 z)) ∧ KeepW w0 w' (.slice (some ⟨b, 0, none⟩) k c) M sb (endSt (stA L [some (vR x 0 ((T.length + 1 : Nat) : Int)) :: (T ++ [some ⟨1, x, 0, -1, -1, rowI x⟩])] 9 1 sn) x 2))) := by
                  refine (law_commit HEND.out.law (by unfold U64; omega)).mono ?_
                  rintro e w' ⟨rfl, h⟩
                  exact ⟨⟨_, rfl⟩, HEND.out.to h⟩
                have HNX := Lib.hid (FirstSt.over hlt HX.out HF.out HGO.out (v := 2) (Or.inl rfl))
                clear h3
                go_wp2_with fail
                refine HCO.out.mono ?_
                rintro e d3 ⟨⟨z, rfl⟩, h3w⟩
                have H3W := Lib.hid h3w
                clear h3w HCO
                go_wp2
                go_roundw
                case rel => exact ⟨j + 1, false, _, _, _, x, 0, _, _, by omega, by go_num, rfl, HNX.out, H3W.out⟩
                case measure => simp [intOf]; omega
              · have h3i : (e0 : Int) % 3 = 2 := by omega
                have HCO : Hid (Calls Tryz.prog 14 #[ptrV sb, .int .u64 (x : Int)] d2 (fun e w' => (∃ z : Int, e = .returned (.int .i64 z)) ∧ KeepW w0 w' (.slice (some ⟨b, 0, none⟩) k c) M sb (endSt (stA L [some (vR x 0 ((T.length + 1 : Nat) : Int)) :: (T ++ [some ⟨1, x, 0, -1, -1, rowI x⟩])] 9 1 sn) x 3))) := by
                  refine (law_abort HEND.out.law (by unfold U64; omega)).mono ?_
                  rintro e w' ⟨rfl, h⟩
                  exact ⟨⟨_, rfl⟩, HEND.out.to h⟩
                have HNX := Lib.hid (FirstSt.over hlt HX.out HF.out HGO.out (v := 3) (Or.inr rfl))
                clear h3
                go_wp2_with fail
                refine HCO.out.mono ?_
                rintro e d3 ⟨⟨z, rfl⟩, h3w⟩
                have H3W := Lib.hid h3w
                clear h3w HCO
                go_wp2
                go_roundw
                case rel => exact ⟨j + 1, true, _, _, _, x, 0, _, _, by omega, by go_num, rfl, HNX.out, H3W.out⟩
                case measure => simp [intOf]; omega
            · go_wp2
              go_roundw
              case rel => exact ⟨j + 1, false, _, L, _, x, 0, _, sn, by omega, by go_num, rfl, HGO.out, HEND.out⟩
              case measure => simp [intOf]; omega
        · obtain rfl : k = j := by omega
          have HEND : Hid (POST (.returned (.bool true)) wr) := by
            rw [← HPOST.out]
            exact ⟨rfl, HQ0.out.trans hW.law.quiet⟩
          clear hF hW
          go_wp2
          exact HEND.out

end Go.Proofs.YtdeekopdhgjanaaGreatDoor

namespace Go.Lap
open Go.ChangeShapes Go.WideShapes Go.ChangeAt Go.RowKit Go.Deep

section
variable {H : Type} {enc : TypeId × Value → H} {P : Program} {W : World} {r : Reach} {base : Nat} {v : Value} {d : DataW H} {p : List MemPlace}

theorem open_slice_of {t e : TypeId} {size : Nat} (ht : P.underlying t = some (.slice e)) (hC : P.cellsOf e = size) (hs : 0 < size) (hv : Value.okWide P W r base t v) (h : DataW.Trod enc P W 0 (fun _ => true) true t v d p) :
    ∃ A n cap, v = .slice A n cap ∧ n ≤ cap ∧ cap ≤ maxLen ∧ ∀ i, i < n → ∃ b off, A = some ⟨b, off, none⟩ ∧ b < W.heap.size ∧
      ∃ cs m x, cs.length = size ∧ (∀ f, f < size → W.cell? ⟨b, off + i * size + f, none⟩ = cs[f]?) ∧ DataW.trod enc P W 0 (fun _ => true) true m e cs = some x := by
  obtain ⟨A, n, cap, rfl⟩ := okWide_slice ht hv
  refine ⟨A, n, cap, rfl, ?_⟩
  obtain ⟨fuel, hf⟩ := h
  rcases open_slice ht hf with ⟨h0, _⟩ | ⟨a, len, cap', m, k, D, Pl, hcs, hb, hl, hm, hmm, _, hi⟩
  · simp [Value.cells] at h0
    obtain ⟨rfl, rfl, rfl⟩ := h0
    exact ⟨Nat.le_refl _, Nat.zero_le _, fun i hi => absurd hi (by omega)⟩
  · simp [Value.cells] at hcs
    obtain ⟨rfl, rfl, rfl⟩ := hcs
    refine ⟨hl, hm, fun i hin => ?_⟩
    simp only [if_true] at hmm
    obtain ⟨cs, hc, htr⟩ := hi i (by omega)
    rw [hC] at hc
    obtain ⟨_, hlen, hcell⟩ := World.cells?_some hc
    have h0 := hcell 0 hs
    rw [List.getElem?_eq_getElem (by omega)] at h0
    obtain ⟨b, off, spot⟩ := a
    have hlt := cell_lt h0
    have hspot : spot = none := by
      obtain ⟨cs0, hc0, _⟩ := hi 0 (by omega)
      rw [hC] at hc0
      obtain ⟨_, hlen0, hcell0⟩ := World.cells?_some hc0
      have h1 := hcell0 0 hs
      rw [List.getElem?_eq_getElem (by omega)] at h1
      simpa [Addr.add] using World.cell?_spot h1
    subst hspot
    refine ⟨b, off, rfl, ?_, cs, _, _, hlen, fun f hf => ?_, htr⟩
    · rw [add_none, add_none] at hlt; exact hlt
    · rw [← hcell f hf, add_none, add_none]

/-- A struct's cells, field by field. -/
theorem open_fields {t : TypeId} {fs : Array Field} {m : Nat} {cs : List Value} {x : DataW H × List MemPlace} (ht : P.underlying t = some (.struct fs)) (h : DataW.trod enc P W 0 (fun _ => true) true m t cs = some x) :
    ∃ n, ∀ (j : Nat) (f : Field), fs[j]? = some f → ∃ y, DataW.trod enc P W 0 (fun _ => true) true n f.type ((cs.drop f.offset).take (P.cellsOf f.type)) = some y := by
  obtain ⟨xs, n, _, _, _, hlen, hf⟩ := DataW.trod_struct ht h
  refine ⟨n, fun j f hj => ?_⟩
  have hjl : j < fs.size := (Array.getElem?_eq_some_iff.1 hj).1
  exact ⟨xs[j]'(by omega), by rw [hf j f hj]; exact List.getElem?_eq_getElem (by omega)⟩

/-- One field, its type and its place typed out. -/
theorem open_field {t : TypeId} {fs : Array Field} {m : Nat} {cs : List Value} {x : DataW H × List MemPlace} (ht : P.underlying t = some (.struct fs)) (h : DataW.trod enc P W 0 (fun _ => true) true m t cs = some x)
    (j : Nat) (ty : TypeId) (o sz : Nat) (hf : (fs[j]?).map (fun f => (f.type, f.offset)) = some (ty, o)) (hc : P.cellsOf ty = sz) : ∃ n y, DataW.trod enc P W 0 (fun _ => true) true n ty ((cs.drop o).take sz) = some y := by
  obtain ⟨n, hn⟩ := open_fields ht h
  obtain ⟨f, h1, h2⟩ := Option.map_eq_some_iff.1 hf
  simp only [Prod.mk.injEq] at h2
  obtain ⟨rfl, rfl⟩ := h2
  obtain ⟨y, hy⟩ := hn j f h1
  exact ⟨n, y, by rw [← hc]; exact hy⟩

/-- One field that is an integer. -/
theorem open_field_int {t : TypeId} {fs : Array Field} {m : Nat} {cs : List Value} {x : DataW H × List MemPlace} (ht : P.underlying t = some (.struct fs)) (h : DataW.trod enc P W 0 (fun _ => true) true m t cs = some x)
    (j : Nat) (ty : TypeId) (o : Nat) (k : IntKind) (hf : (fs[j]?).map (fun f => (f.type, f.offset)) = some (ty, o)) (hc : P.cellsOf ty = 1) (hu : P.underlying ty = some (.int k)) : ∃ z, cs[o]? = some (.int k z) ∧ (Lit.int k z).wf = true := by
  obtain ⟨n, y, hy⟩ := open_field ht h j ty o 1 hf hc
  obtain ⟨z, e, _, hz⟩ := DataW.trod_int hu hy
  refine ⟨z, ?_, hz⟩
  have : ((cs.drop o).take 1)[0]? = some (.int k z) := by rw [e]; rfl
  simpa using this

/-- A slice of integers. -/
theorem open_slice_int {t e : TypeId} {k : IntKind} (ht : P.underlying t = some (.slice e)) (he : P.underlying e = some (.int k)) (hC : P.cellsOf e = 1) (hv : Value.okWide P W r base t v) (h : DataW.Trod enc P W 0 (fun _ => true) true t v d p) :
    ∃ A n cap, v = .slice A n cap ∧ n ≤ cap ∧ cap ≤ maxLen ∧ ∀ i, i < n → ∃ b off z, A = some ⟨b, off, none⟩ ∧ b < W.heap.size ∧ W.cell? ⟨b, off + i, none⟩ = some (.int k z) ∧ (Lit.int k z).wf = true := by
  obtain ⟨A, n, cap, hvv, h1, h2, h3⟩ := open_slice_of ht hC (by omega) hv h
  refine ⟨A, n, cap, hvv, h1, h2, fun i hi => ?_⟩
  obtain ⟨b, off, hA, hb, cs, m, x, hl, hc, htr⟩ := h3 i hi
  obtain ⟨z, rfl, _, hz⟩ := DataW.trod_int he htr
  refine ⟨b, off, z, hA, hb, ?_, hz⟩
  have := hc 0 (by omega)
  rw [Nat.mul_one, Nat.add_zero] at this
  exact this

end
end Go.Lap

namespace Go.Lap
open Go.ChangeShapes Go.WideShapes Go.ChangeAt Go.RowKit Go.Deep

section
variable {H : Type} {enc : TypeId × Value → H} {P : Program} {W : World} {r : Reach} {base : Nat} {v : Value} {d : DataW H} {p : List MemPlace}

/-- A slice told by its cells. -/
theorem open_slice_in {t e : TypeId} {size fuel : Nat} {cs0 : List Value} {x : DataW H × List MemPlace} (ht : P.underlying t = some (.slice e)) (hC : P.cellsOf e = size) (hs : 0 < size) (hf : DataW.trod enc P W 0 (fun _ => true) true fuel t cs0 = some x) :
    ∃ A n cap, cs0 = [.slice A n cap] ∧ n ≤ cap ∧ cap ≤ maxLen ∧ ∀ i, i < n → ∃ b off, A = some ⟨b, off, none⟩ ∧ b < W.heap.size ∧
      ∃ cs m x, cs.length = size ∧ (∀ f, f < size → W.cell? ⟨b, off + i * size + f, none⟩ = cs[f]?) ∧ DataW.trod enc P W 0 (fun _ => true) true m e cs = some x := by
  rcases open_slice ht hf with ⟨h0, _⟩ | ⟨a, len, cap', m, k, D, Pl, hcs, hb, hl, hm, hmm, _, hi⟩
  · exact ⟨none, 0, 0, h0, Nat.le_refl _, Nat.zero_le _, fun i hi => absurd hi (by omega)⟩
  · refine ⟨some a, len, cap', hcs, hl, hm, fun i hin => ?_⟩
    simp only [if_true] at hmm
    obtain ⟨cs, hc, htr⟩ := hi i (by omega)
    rw [hC] at hc
    obtain ⟨_, hlen, hcell⟩ := World.cells?_some hc
    have h0 := hcell 0 hs
    rw [List.getElem?_eq_getElem (by omega)] at h0
    obtain ⟨b, off, spot⟩ := a
    have hlt := cell_lt h0
    have hspot : spot = none := by
      obtain ⟨cs0, hc0, _⟩ := hi 0 (by omega)
      rw [hC] at hc0
      obtain ⟨_, hlen0, hcell0⟩ := World.cells?_some hc0
      have h1 := hcell0 0 hs
      rw [List.getElem?_eq_getElem (by omega)] at h1
      simpa [Addr.add] using World.cell?_spot h1
    subst hspot
    refine ⟨b, off, rfl, ?_, cs, _, _, hlen, fun f hf => ?_, htr⟩
    · rw [add_none, add_none] at hlt; exact hlt
    · rw [← hcell f hf, add_none, add_none]
end

theorem nat_u8 {z : Int} (h : (Lit.int .u8 z).wf = true) : ∃ n : Nat, z = n ∧ n < 256 := by
  simp [Lit.wf, show IntKind.u8.min = 0 from rfl, show IntKind.u8.max = 255 from rfl] at h
  obtain ⟨h1, h2⟩ := h
  exact ⟨z.toNat, by omega, by omega⟩

end Go.Lap
namespace Go.Proofs.YtdeekopdhgjanaaGreatDoor
open Go.RowKit Go.Lap

/-- Bytes that came in, as one list. -/
theorem reads_bytes {W : World} {A : Option Addr} {n : Nat} (h : ∀ i, i < n → ∃ b off z, A = some ⟨b, off, none⟩ ∧ b < W.heap.size ∧ W.cell? ⟨b, off + i, none⟩ = some (.int .u8 z) ∧ (Lit.int .u8 z).wf = true) :
    ∃ l : List Nat, l.length = n ∧ (∀ x ∈ l, x < 256) ∧ Rd W (· < W.heap.size) 1 A n (bytesV l) := by
  rcases n with _ | n
  · exact ⟨[], rfl, fun x hx => (List.not_mem_nil hx).elim, ⟨rfl, fun h => absurd h (by simp [bytesV])⟩⟩
  obtain ⟨b, off, _, rfl, hb, _⟩ := h 0 (by omega)
  have h' : ∀ i, ∃ m : Nat, i < n + 1 → W.cell? ⟨b, off + i, none⟩ = some (.int .u8 m) ∧ m < 256 := by
    intro i
    by_cases hi : i < n + 1
    · obtain ⟨b', off', z, e, _, hc, hz⟩ := h i hi
      obtain ⟨m, rfl, hm⟩ := nat_u8 hz
      simp only [Option.some.injEq, Addr.mk.injEq] at e
      obtain ⟨rfl, rfl, _⟩ := e
      exact ⟨m, fun _ => ⟨hc, hm⟩⟩
    · exact ⟨0, fun x => absurd x hi⟩
  obtain ⟨g, hg⟩ := Classical.axiomOfChoice h'
  refine ⟨(List.range (n + 1)).map g, by simp, fun x hx => ?_, ⟨by simp [bytesV], fun _ => ⟨b, off, rfl, hb, fun j u hj => ?_⟩⟩⟩
  · obtain ⟨i, hi, rfl⟩ := List.mem_map.1 hx
    exact (hg i (List.mem_range.1 hi)).2
  · simp only [bytesV, List.map_map, List.getElem?_map] at hj
    by_cases hjn : j < n + 1
    · rw [List.getElem?_range hjn] at hj
      simp at hj
      subst hj
      exact (hg j hjn).1
    · rw [List.getElem?_eq_none (by simp; omega)] at hj
      simp at hj

theorem cells_u8o : Tryz.prog.cellsOf 5 = 1 := by kernel_rfl
theorem cells_into : Tryz.prog.cellsOf 3 = 1 := by kernel_rfl
theorem cells_tid : Tryz.prog.cellsOf 42 = 2 := by kernel_rfl
theorem cells_u8s : Tryz.prog.cellsOf 22 = 1 := by kernel_rfl

open Go.ChangeShapes Go.WideShapes in
set_option maxRecDepth 100000 in
/-- A place told by its cells. -/
theorem tid_in {H : Type} {enc : TypeId × Value → H} {W : World} {m : Nat} {cs : List Value} {x : DataW H × List MemPlace} (h : DataW.trod enc Tryz.prog W 0 (fun _ => true) true m 42 cs = some x) :
    ∃ pg sl : Int, cs[0]? = some (.int .i64 pg) ∧ cs[1]? = some (.int .i64 sl) ∧ (Lit.int .i64 pg).wf = true ∧ (Lit.int .i64 sl).wf = true := by
  obtain ⟨z0, e0, g0⟩ := open_field_int Tryz.underlying42 h 0 3 0 .i64 rfl cells_into Tryz.underlying3
  obtain ⟨z1, e1, g1⟩ := open_field_int Tryz.underlying42 h 1 3 1 .i64 rfl cells_into Tryz.underlying3
  exact ⟨z0, z1, e0, e1, g0, g1⟩

open Go.ChangeShapes Go.WideShapes in
set_option maxRecDepth 100000 in
/-- A place by value. -/
theorem open_tid {H : Type} {enc : TypeId × Value → H} {W : World} {r : Reach} {base : Nat} {v : Value} {d : DataW H} {p : List MemPlace} (hv : Value.okWide Tryz.prog W r base 42 v) (h : DataW.Trod enc Tryz.prog W 0 (fun _ => true) true 42 v d p) :
    ∃ pg sl : Int, v = .agg #[.int .i64 pg, .int .i64 sl] ∧ (Lit.int .i64 pg).wf = true ∧ (Lit.int .i64 sl).wf = true := by
  obtain ⟨cs, rfl, hcs⟩ := okWide_struct Tryz.underlying42 hv
  obtain ⟨m, hm⟩ := h
  rw [cells_tid] at hcs
  obtain ⟨pg, sl, e0, e1, g⟩ := tid_in hm
  refine ⟨pg, sl, ?_, g⟩
  obtain ⟨cs⟩ := cs
  match cs, hcs with
  | [x0, x1], _ =>
    simp [Value.cells] at e0 e1
    rw [e0, e1]

open Go.ChangeShapes Go.WideShapes in
set_option maxRecDepth 100000 in
/-- Bytes that came in. -/
theorem open_bytes {H : Type} {enc : TypeId × Value → H} {W : World} {r : Reach} {base : Nat} {v : Value} {d : DataW H} {p : List MemPlace} (hv : Value.okWide Tryz.prog W r base 22 v) (h : DataW.Trod enc Tryz.prog W 0 (fun _ => true) true 22 v d p) :
    ∃ (l : List Nat) (A : Option Addr) (cap : Nat), v = .slice A l.length cap ∧ l.length ≤ cap ∧ cap ≤ maxLen ∧ (∀ x ∈ l, x < 256) ∧ Rd W (· < W.heap.size) 1 A l.length (bytesV l) := by
  obtain ⟨A, n, cap, hvv, h1, h2, h3⟩ := open_slice_of Tryz.underlying22 cells_u8o (by omega) hv h
  obtain ⟨l, rfl, hb, hr⟩ := reads_bytes (A := A) (n := n) (W := W) (fun i hi => by
    obtain ⟨b, off, hA, hb, cs', m', x', _, hc, htr⟩ := h3 i hi
    obtain ⟨z, rfl, _, hz⟩ := DataW.trod_int Tryz.underlying5 htr
    refine ⟨b, off, z, hA, hb, ?_, hz⟩
    have := hc 0 (by omega)
    rw [Nat.mul_one, Nat.add_zero] at this
    exact this)
  exact ⟨l, A, cap, hvv, h1, h2, hb, hr⟩

/-- Entries that came in, each three cells, below block B. -/
def EntsIn (w : World) (B : Nat) (A : Option Addr) (n : Nat) : Prop :=
  ∀ k, k < n → ∃ (b off : Nat) (key : List Nat) (pg sl : Int) (A' : Option Addr) (cap' : Nat), A = some ⟨b, off, none⟩ ∧ b < B ∧ key.length ≤ cap' ∧ cap' ≤ maxLen ∧ (∀ x ∈ key, x < 256) ∧ Rd w (· < B) 1 A' key.length (bytesV key) ∧ ((Lit.int .i64 pg).wf = true ∧ (Lit.int .i64 sl).wf = true) ∧
    w.cell? ⟨b, off + k * 3, none⟩ = some (.slice A' key.length cap') ∧ w.cell? ⟨b, off + k * 3 + 1, none⟩ = some (.int .i64 pg) ∧ w.cell? ⟨b, off + k * 3 + 2, none⟩ = some (.int .i64 sl)

theorem EntsIn.kept {w w' : World} {B : Nat} {A : Option Addr} {n : Nat} (h : EntsIn w B A n) (hb : Below B w w') : EntsIn w' B A n := by
  intro k hk
  obtain ⟨b, off, key, pg, sl, A', cap', e, h1, h2, h3, h4, h5, h6, c0, c1, c2⟩ := h k hk
  exact ⟨b, off, key, pg, sl, A', cap', e, h1, h2, h3, h4, h5.kept (Only.ofBelow hb) (fun k x y => by omega), h6, by rw [hb.cell (p := ⟨b, _, none⟩) h1]; exact c0, by rw [hb.cell (p := ⟨b, _, none⟩) h1]; exact c1, by rw [hb.cell (p := ⟨b, _, none⟩) h1]; exact c2⟩

end Go.Proofs.YtdeekopdhgjanaaGreatDoor

namespace Go.Proofs.YtdeekopdhgjanaaGreatDoor
open Go.ChangeShapes Go.WideShapes Go.ChangeAt Go.RowKit Go.Lap

set_option maxRecDepth 100000 in
theorem storeFirst_walk {H : Type} {enc : TypeId × Value → H} {r : Reach} {base : Nat} {d0 d1 : DataW H} {p0 p1 : List MemPlace} (v0 v1 : Value) (W : World)
    (o0 : Value.okWide Tryz.prog W r base 5 v0) (h0 : DataW.Trod enc Tryz.prog W 0 (fun _ => true) true 5 v0 d0 p0)
    (o1 : Value.okWide Tryz.prog W r base 22 v1) (h1 : DataW.Trod enc Tryz.prog W 0 (fun _ => true) true 22 v1 d1 p1) :
    Calls Tryz.prog 3 #[v0, v1] W fun e w' => e = .returned (.bool true) ∧ Below W.heap.size W w' := by
  obtain ⟨x, rfl, _, _, wx⟩ := open_int Tryz.underlying5 o0 h0
  have hx := bounds_u8 wx
  obtain ⟨n, rfl⟩ : ∃ n : Nat, x = n := ⟨x.toNat, by omega⟩
  obtain ⟨l, A, cap, rfl, _, _, hb, hr⟩ := open_bytes o1 h1
  refine (first_walk n (by omega) A cap l hb W (hr.mono (fun _ _ => trivial))).mono fun e w' ⟨he, hq⟩ => ⟨he, hq.os, hq.tape, hq.output, hq.size, fun k hk => hq.block k hk (fun x => x)⟩

end Go.Proofs.YtdeekopdhgjanaaGreatDoor
