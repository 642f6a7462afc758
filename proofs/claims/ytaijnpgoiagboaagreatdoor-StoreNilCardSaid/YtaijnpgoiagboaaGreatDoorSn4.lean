/- store.Update of a version that is there, to a row of one small number. store.Scan of a table whose rows are small numbers. store.CreateTable of an empty book. A store in a law's world: what it holds, and what each call leaves. StoreFirst's plain part: one page of versions of one row; who may end it. The laws' own small functions: num, one. The store laws' awake: the document's example. A store in which nobody runs, and a nil one: what each call tells. A store in which nobody runs, or a nil one, in a law's world. The calls of StoreNil on a store in which nobody runs. few: a string's beginning. StoreNil: a nil store, and one in which nobody runs. How arguments of the laws are opened: slices of any element. How the arguments of the laws on trees are opened: bytes, places, entries. StoreNil's arguments opened. No condition. -/
import Derived.Test.YtaijnpgoiagboaaGreatDoorSn3
import Derived.ProofKit
import Derived.OpenShut
import Derived.Deep.Slices
import Derived.Deep.Fields
import Derived.ChangeSame
import Derived.Carry
import Derived.Laws.Rows
import Derived.ChangeMaps5
namespace Go.Proofs.YtaijnpgoiagboaaGreatDoor
open Go.RowKit Go.Lap

theorem upd_upd {α : Type} (f : Nat → α) (i : Nat) (a b : α) : upd (upd f i a) i b = upd f i b := by
  funext k
  by_cases e : k = i <;> simp [upd, e]

/-- What Update tells: of a version that may not be ended its code, and nothing has turned; else the row has another version. -/
def UpdPost (w : World) (sb : Nat) (o : Nat → Nat) (s s' : St) (code : Nat) (z : Int) (e : Ending) (w' : World) : Prop :=
  if code = 0 then e = .returned (.int .i64 z) ∧ StepTo w sb o s' w' else e = .returned (.int .i64 (code : Int)) ∧ StepTo w sb o s w'

set_option maxHeartbeats 4000000 in
set_option maxRecDepth 100000 in
theorem store_update_of {w : World} {sb x i c3 n nr cr code : Nat} {o : Nat → Nat} {s s1 : St} {y : Snap} {t : TE} {name nm : ByteArray} {Sv : Nat → Prop} {A3 Ar : Option Addr} {H H1 H2 : List (List (Option Tup))} {p q pg sl z : Int} {v : Tup} (h : StoreAt w sb o s) (hx : U64 x) (hy : s.sn x = some y) (hf : findT s.L y name s.T = some i) (ht : s.T[i]? = some t) (hc : t.cols = [(nm, 1)]) (hid : U64 t.id)
    (hH : s.hs t.id = some H) (hn : n < 256) (hv : Rd w Sv 4 A3 1 (intRow n)) (hc3 : 1 ≤ c3) (hm3 : c3 ≤ maxLen) (hg : hGet H pg sl = some v) (hx1 : U64 v.xmin) (hx2 : U64 v.xmax) (hcode : freeS s.L y v.xmin v.xmax = code)
    (hs1 : s1.hs t.id = some H1) (hst : hStamp H1 pg sl x p q = (z, H2))
    (hput : code = 0 → ∀ (W : World) (A2 : Option Addr) (c2 : Nat) (A5 : Option Addr) (c5 : Nat), Quiet w W → Rd W (fun k => w.heap.size ≤ k) 2 A2 t.cols.length (colsV t.cols) → t.cols.length ≤ c2 → c2 ≤ maxLen → Rd W (fun k => w.heap.size ≤ k) 1 A5 9 (bytesV (rowI n)) → 9 ≤ c5 → c5 ≤ maxLen →
      Calls Tryz.prog 61 #[ptrV sb, tabV t A2 c2, tupV ⟨v.row, x, 0, -1, -1, rowI n⟩ A5 c5] W (PutPost W sb o s1 p q)) :
    Calls Tryz.prog 19 #[ptrV sb, .int .u64 (x : Int), .string name, .agg #[.int .u64 v.row, .int .i64 pg, .int .i64 sl, .slice Ar nr cr], .slice A3 1 c3] w (UpdPost w sb o s { s1 with hs := upd s1.hs t.id (some H2) } code z) := by
  have hq0 : Quiet w (w.alloc (.cells #[.int .u64 v.row, .int .i64 pg, .int .i64 sl, .slice Ar nr cr] 52)) := (Only.refl _ _).alloc _
  have HO := Lib.hid (store_open (h.quietly hq0) hx hy hf ht)
  have HB8 := Lib.hid (alloc_new w (.cells #[.int .u64 v.row, .int .i64 pg, .int .i64 sl, .slice Ar nr cr] 52))
  have HQ0 := Lib.hid hq0
  obtain ⟨r8, hr8⟩ : ∃ r8, w.heap.size = r8 := ⟨_, rfl⟩
  rw [hr8] at HB8
  have HR8 := Lib.hid hr8
  have HH := Lib.hid h
  have HC := Lib.hid hc
  have HID := Lib.hid hid
  have HH0 := Lib.hid hH
  have HS1' := Lib.hid hs1
  have HN := Lib.hid hn
  have HV := Lib.hid hv
  have HC3 := Lib.hid (And.intro hc3 hm3)
  have HG := Lib.hid (And.intro hg (And.intro hx1 (And.intro hx2 hcode)))
  have HPU := Lib.hid hput
  have HST := Lib.hid hst
  obtain ⟨POST, hPOST⟩ : ∃ POST, UpdPost w sb o s { s1 with hs := upd s1.hs t.id (some H2) } code z = POST := ⟨_, rfl⟩
  rw [hPOST]
  have HPOST := Lib.hid hPOST
  clear h hx hy hf ht hc hid hH hn hv hc3 hm3 hg hx1 hx2 hcode hput hs1 hst hq0 hPOST hr8
  go_enter Tryz.func19, Tryz.ntmps19
  go_wp2_with fail
  rw [HR8.out]
  generalize w.alloc (.cells #[.int .u64 v.row, .int .i64 pg, .int .i64 sl, .slice Ar nr cr] 52) = w0 at *
  refine HO.out.mono ?_
  rintro e w1 ⟨A, c, A2, c2, rfl, hq1, hs1, hf1, hc2, hm2⟩
  clear HO
  have HQ1 := Lib.hid (HQ0.out.trans hq1)
  have HF1 := Lib.hid hf1
  have HS1 := Lib.hid hs1
  have HC2 := Lib.hid (And.intro hc2 hm2)
  have HB81 := Lib.hid (hq1.get HB8.out (fun x => x))
  have q2 : Quiet w1 ((w1.alloc (.cells (snapCells y A c) 88)).alloc (.cells #[.int .u64 (t.id : Int), .string t.name, .slice A2 t.cols.length c2, .int .u64 (t.xmin : Int), .int .u64 (t.xmax : Int)] 37)) := ((Only.refl _ _).alloc _).alloc _
  have b12 := two_new w1 (.cells (snapCells y A c) 88) (.cells #[.int .u64 (t.id : Int), .string t.name, .slice A2 t.cols.length c2, .int .u64 (t.xmin : Int), .int .u64 (t.xmax : Int)] 37)
  have b11 := alloc_old (alloc_new w1 (.cells (snapCells y A c) 88)) (.cells #[.int .u64 (t.id : Int), .string t.name, .slice A2 t.cols.length c2, .int .u64 (t.xmin : Int), .int .u64 (t.xmax : Int)] 37)
  have HQ2 := Lib.hid q2
  have HB12 := Lib.hid b12
  have HB11 := Lib.hid b11
  obtain ⟨r11, hr11⟩ : ∃ r11, w1.heap.size = r11 := ⟨_, rfl⟩
  obtain ⟨r12, hr12⟩ : ∃ r12, r11 + 1 = r12 := ⟨_, rfl⟩
  rw [hr11] at HB12 HB11
  rw [hr12] at HB12
  have HR12 : Hid (w1.heap.size ≤ r12) := by show _ ≤ _; omega
  have HE11 := Lib.hid hr11
  have HE12 := Lib.hid hr12
  clear hq1 hs1 hf1 hc2 hm2 q2 b12 b11 hr11 hr12
  unfold snapV tabV
  go_wp2_with fail
  (try simp only [World.size_alloc])
  rw [HE11.out, HE12.out]
  generalize (w1.alloc (.cells #[.int .u64 (y.own : Int), .int .u64 (y.xmin : Int), .int .u64 (y.xmax : Int), .slice A y.run.length c] 88)).alloc (.cells #[.int .u64 (t.id : Int), .string t.name, .slice A2 t.cols.length c2, .int .u64 (t.xmin : Int), .int .u64 (t.xmax : Int)] 37) = w2 at *
  have HKND : Hid (Calls Tryz.prog 60 #[tabV t A2 c2] w2 (KindsPost w2 1)) := by
    obtain ⟨A', c', e', h1, h2, h3⟩ := own_form HF1.out.own
    injection e' with e1 _ e2
    subst e1 e2
    have h4 := h3.kept HQ2.out (fun _ _ x => x)
    have h5 := HC2.out
    rw [HC.out] at h4 h5
    exact store_kinds HC.out h4 h5.1 h5.2
  unfold tabV at HKND
  refine HKND.out.mono ?_
  rintro e w3 ⟨v3, rfl, hf3⟩
  obtain ⟨A9, c9, rfl, hc9, hm9, hrd9⟩ := own_form hf3.own
  have HQ3 : Hid (Quiet w2 w3) := hf3.quiet
  have HQV : Hid (Quiet w w3) := (HQ1.out.trans HQ2.out).trans HQ3.out
  have HRB := Lib.hid (row_bytes_int HN.out (by exact hrd9) (HV.out.kept HQV.out (fun _ _ x => x)) hc9 hm9 HC3.out.1 HC3.out.2)
  clear hf3 hc9 hm9 hrd9 HKND
  go_wp2_with fail
  refine HRB.out.mono ?_
  rintro e w4 ⟨v5, rfl, hf5⟩
  obtain ⟨A5, c5, rfl, hc5, hm5, hrd5⟩ := own_form hf5.own
  have h9 : (rowI n).length = 9 := rowI_length n
  have HQ4 : Hid (Quiet w w4) := HQV.out.trans hf5.quiet
  have HQ24 : Hid (Quiet w2 w4) := HQ3.out.trans hf5.quiet
  have HRD5 := Lib.hid hrd5
  have HNEW5 : Hid (∀ k, (Value.slice A5 (rowI n).length c5).ownBlock = some k → w.heap.size ≤ k) := fun k e => Nat.le_trans HQV.out.size (hf5.new k e)
  have HHW := Lib.hid (HH.out.quietly HQ4.out)
  have HSW := Lib.hid (HS1.out.kept (HQ2.out.trans HQ24.out) (fun _ _ x => x))
  have HVE : Hid (Calls Tryz.prog 63 #[ptrV sb, snapV y A c, tabV t A2 c2, .agg #[.int .u64 v.row, .int .i64 pg, .int .i64 sl, .slice Ar nr cr]] w4 (VersPost w4 v code)) := by
    have hv := store_version (A2 := A2) (c2 := c2) (A3 := Ar) (n3 := nr) (c3 := cr) HHW.out HSW.out HID.out HH0.out HG.out.1 HG.out.2.1 HG.out.2.2.1
    rw [HG.out.2.2.2] at hv
    exact hv
  unfold snapV tabV at HVE
  have b12 := tabBox_cells (HQ24.out.get HB12.out (fun x => x))
  have b11 := snapBox_cells (HQ24.out.get HB11.out (fun x => x))
  have hb8 := (HQ2.out.trans HQ24.out).get HB81.out (fun x => x)
  have x0 : w4.cell? ⟨r8, 0, none⟩ = some (.int .u64 v.row) := by rw [cell_of hb8]; rfl
  have x1 : w4.cell? ⟨r8, 1, none⟩ = some (.int .i64 pg) := by rw [cell_of hb8]; rfl
  have x2 : w4.cell? ⟨r8, 2, none⟩ = some (.int .i64 sl) := by rw [cell_of hb8]; rfl
  have x3 : w4.cell? ⟨r8, 3, none⟩ = some (.slice Ar nr cr) := by rw [cell_of hb8]; rfl
  have HB8W := Lib.hid hb8
  have HB12W := Lib.hid (HQ24.out.get HB12.out (fun x => x))
  have HC5 : Hid (9 ≤ c5 ∧ c5 ≤ maxLen) := ⟨by rw [rowI_length] at hc5; exact hc5, hm5⟩
  clear hf5 hrd5 hc5 hm5 HRB hb8
  go_wp2_with fail
  refine HVE.out.mono ?_
  rintro e w5 ⟨A6, c6, rfl, hq5⟩
  have HQB : Hid (Quiet w4 (w5.alloc (.cells #[.int .u64 v.row, .int .u64 v.xmin, .int .u64 v.xmax, .int .i64 v.pg, .int .i64 v.sl, .slice A6 v.data.length c6] 106))) := hq5.alloc _
  clear hq5 x0 x1 x2 x3 b11 b12 HVE
  unfold tupV
  by_cases hz : code = 0
  · subst hz
    go_wp2_with fail
    generalize w5.alloc (.cells #[.int .u64 v.row, .int .u64 v.xmin, .int .u64 v.xmax, .int .i64 v.pg, .int .i64 v.sl, .slice A6 v.data.length c6] 106) = wb at *
    have HHB := Lib.hid (HHW.out.quietly HQB.out)
    have HQWB : Hid (Quiet w wb) := HQ4.out.trans HQB.out
    have HB8b := Lib.hid (HQB.out.get HB8W.out (fun x => x))
    have HB12b := Lib.hid (HQB.out.get HB12W.out (fun x => x))
    have HBZ : Hid (∀ k, wb.heap.size ≤ k → o k = 0) := HHB.out.big
    have HBG : Hid (∀ k, wb.heap.size ≤ k → ¬ o k ≠ 0) := fun k hk e => e (HBZ.out k hk)
    have HX12 : Hid (¬ o r12 ≠ 0) := fun e => e (HH.out.big r12 (by have := HQ1.out.size; have := HR12.out; omega))
    have HX8 : Hid (¬ o r8 ≠ 0) := fun e => e (HH.out.big r8 (by have := HR8.out; omega))
    have HS7 : Hid (∀ W, Only (fun k => o k ≠ 0) wb W → (fun w' => w'.cell? ⟨r8, 0, none⟩ = some (.int .u64 (v.row : Int)) ∧ w'.cell? ⟨r12, 0, none⟩ = some (.int .u64 (t.id : Int)) ∧ w'.cell? ⟨r12, 1, none⟩ = some (.string t.name) ∧ w'.cell? ⟨r12, 2, none⟩ = some (.slice A2 t.cols.length c2) ∧ w'.cell? ⟨r12, 3, none⟩ = some (.int .u64 (t.xmin : Int)) ∧ w'.cell? ⟨r12, 4, none⟩ = some (.int .u64 (t.xmax : Int))) W) := fun W hq => by
      have b := tabBox_cells (hq.get HB12b.out HX12.out)
      have b8 := hq.get HB8b.out HX8.out
      exact ⟨by rw [cell_of b8]; rfl, b⟩
    have HPUT : Hid (∀ W, Quiet wb W → Calls Tryz.prog 61 #[ptrV sb, .agg #[.int .u64 (t.id : Int), .string t.name, .slice A2 t.cols.length c2, .int .u64 (t.xmin : Int), .int .u64 (t.xmax : Int)], .agg #[.int .u64 (v.row : Int), .int .u64 (x : Int), .int .u64 0, .int .i64 (-1), .int .i64 (-1), .slice A5 9 c5]] W (PutPost W sb o s1 p q)) := fun W hq => by
      obtain ⟨A', c', e', h1, h2, h3⟩ := own_form HF1.out.own
      injection e' with e1 _ e2
      subst e1 e2
      have hp := HPU.out (by trivial) W A2 c2 A5 c5 (HQWB.out.trans hq) ((((h3.kept (HQ2.out.trans HQ24.out) (fun _ _ x => x)).kept (HQB.out.trans hq) (fun _ _ x => x))).mono (fun k e => Nat.le_trans HQ0.out.size (HF1.out.new k e))) HC2.out.1 HC2.out.2 (by have := (HRD5.out.kept (HQB.out.trans hq) (fun _ _ x => x)).mono (T := fun k => w.heap.size ≤ k) (fun k e => HNEW5.out k e); rw [rowI_length] at this; exact this) HC5.out.1 HC5.out.2
      unfold tabV tupV at hp
      dsimp only at hp
      rw [rowI_length] at hp
      exact hp
    apply ins_key (wb := wb) (sb := sb) (p := p) (q := q) (o := o) (s' := s1)
    case main =>
        intro KEY
        refine wp_region_held_drew (S := (fun w' => w'.cell? ⟨r8, 0, none⟩ = some (.int .u64 (v.row : Int)) ∧ w'.cell? ⟨r12, 0, none⟩ = some (.int .u64 (t.id : Int)) ∧ w'.cell? ⟨r12, 1, none⟩ = some (.string t.name) ∧ w'.cell? ⟨r12, 2, none⟩ = some (.slice A2 t.cols.length c2) ∧ w'.cell? ⟨r12, 3, none⟩ = some (.int .u64 (t.xmin : Int)) ∧ w'.cell? ⟨r12, 4, none⟩ = some (.int .u64 (t.xmax : Int)))) (by kernel_rfl) (HS7.out _ ((Only.refl _ _).drew)) (fun hHeld => ?_)
        simp only [List.size_toArray, List.length_cons, List.length_nil, Nat.reduceAdd]
        have q0 : Quiet wb wb.drew := (Only.refl _ _).drew
        generalize wb.drew = d0 at q0 hHeld ⊢
        (refine zTK 0 (oi := ?_) (v := ?_) ?_ ?_ (Or.inl ⟨?_, ?_⟩) ?_; rotate_left 2; (focus (simp only [zGA, zGZ, zGS] <;> rfl)); (focus (exact fun _ _ _ h => h)); (focus rfl); (focus (intro w hSw; (try dsimp only at hSw); go_simp; (try with_reducible rfl); done)); (try simp only [Act.put, zPA, zPZ, zPS]))
        (refine zTK 1 (oi := ?_) (v := ?_) ?_ ?_ (Or.inl ⟨?_, ?_⟩) ?_; rotate_left 2; (focus (simp only [zGA, zGZ, zGS] <;> rfl)); (focus (exact fun _ _ _ h => h)); (focus rfl); (focus (intro w hSw; (try dsimp only at hSw); go_simp; (try with_reducible rfl); done)); (try simp only [Act.put, zPA, zPZ, zPS]))
        (refine zTK 2 (oi := ?_) (v := ?_) ?_ ?_ (Or.inl ⟨?_, ?_⟩) ?_; rotate_left 2; (focus (simp only [zGA, zGZ, zGS] <;> rfl)); (focus (exact fun _ _ _ h => h)); (focus rfl); (focus (intro w hSw; (try dsimp only at hSw); go_simp; (try with_reducible rfl); done)); (try simp only [Act.put, zPA, zPZ, zPS]))
        (refine zTK 3 (oi := ?_) (v := ?_) ?_ ?_ (Or.inl ⟨?_, ?_⟩) ?_; rotate_left 2; (focus (simp only [zGA, zGZ, zGS] <;> rfl)); (focus (exact fun _ _ _ h => h)); (focus rfl); (focus (intro w hSw; (try dsimp only at hSw); go_simp; (try with_reducible rfl); done)); (try simp only [Act.put, zPA, zPZ, zPS]))
        (refine zTK 4 (oi := ?_) (v := ?_) ?_ ?_ (Or.inl ⟨?_, ?_⟩) ?_; rotate_left 2; (focus (simp only [zGA, zGZ, zGS] <;> rfl)); (focus (exact fun _ _ _ h => h)); (focus rfl); (focus (intro w hSw; (try dsimp only at hSw); go_simp; (try with_reducible rfl); done)); (try simp only [Act.put, zPA, zPZ, zPS]))
        (refine zTK 6 (oi := ?_) (v := ?_) ?_ ?_ (Or.inl ⟨?_, ?_⟩) ?_; rotate_left 2; (focus (simp only [zGA, zGZ, zGS] <;> rfl)); (focus (exact fun _ _ _ h => h)); (focus rfl); (focus (intro w hSw; (try dsimp only at hSw); go_simp; (try with_reducible rfl); done)); (try simp only [Act.put, zPA, zPZ, zPS]))
        refine wpAnyH_ready (rs := [5, 12]) (by kernel_rfl) (by simp) ?_
        refine AllReadyH.cons (o := ?_) ?_ ?_ ?_
        rotate_left 1
        (focus (simp only [zGA, zGZ, zGS] <;> rfl))
        · intro K hK
          go_simp
          go_at_call 62
          refine (store_nowhere _).mono ?_
          rintro e d1 ⟨rfl, hqn⟩
          have q1 := q0.trans hqn
          clear hqn
          dsimp only
          refine hK.out _ _ ?_ (fun hHeld => ?_)
          · exact HS7.out _ (q1.mono (fun _ _ x => x.elim))
          clear hK K
          (try simp only [Act.put, zPA, zPZ, zPS])
          (refine zTK 7 (oi := ?_) (v := ?_) ?_ ?_ (Or.inl ⟨?_, ?_⟩) ?_; rotate_left 2; (focus (simp only [zGA, zGZ, zGS] <;> rfl)); (focus (exact fun _ _ _ h => h)); (focus rfl); (focus (intro w hSw; (try dsimp only at hSw); go_simp; (try with_reducible rfl); done)); (try simp only [Act.put, zPA, zPZ, zPS]))
          refine wpAnyH_ready (rs := [8, 12]) (by kernel_rfl) (by simp) ?_
          refine AllReadyH.cons (o := ?_) ?_ ?_ ?_
          rotate_left 1
          (focus (simp only [zGA, zGZ, zGS] <;> rfl))
          · intro K hK
            go_simp
            go_at_call 61
            refine (HPUT.out _ q1).mono ?_
            rintro e d2 ⟨rfl, o2, ho2, hw2, hst2⟩
            have q2 := (q1.mono (T := (fun k => o k ≠ 0)) (fun _ _ x => x.elim)).trans hw2
            have hz2 := q1.size
            have ho3 : ∀ k, k < wb.heap.size → o2 k = o k := fun k hk => ho2 k (by omega)
            clear ho2 hw2 hz2
            dsimp only
            refine hK.out _ _ ?_ (fun hHeld => ?_)
            · exact HS7.out _ q2
            clear hK K
            (try simp only [Act.put, zPA, zPZ, zPS])
            (refine zTK 9 (oi := ?_) (v := ?_) ?_ ?_ (Or.inl ⟨?_, ?_⟩) ?_; rotate_left 2; (focus (simp only [zGA, zGZ, zGS] <;> rfl)); (focus (exact fun _ _ _ h => h)); (focus rfl); (focus (intro w hSw; (try dsimp only at hSw); go_simp; (try with_reducible rfl); done)); (try simp only [Act.put, zPA, zPZ, zPS]))
            (refine zTK 10 (oi := ?_) (v := ?_) ?_ ?_ (Or.inl ⟨?_, ?_⟩) ?_; rotate_left 2; (focus (simp only [zGA, zGZ, zGS] <;> rfl)); (focus (exact fun _ _ _ h => h)); (focus rfl); (focus (intro w hSw; (try dsimp only at hSw); go_simp; (try with_reducible rfl); done)); (try simp only [Act.put, zPA, zPZ, zPS]))
            (refine zTK 11 (oi := ?_) (v := ?_) ?_ ?_ (Or.inl ⟨?_, ?_⟩) ?_; rotate_left 2; (focus (simp only [zGA, zGZ, zGS] <;> rfl)); (focus (exact fun _ _ _ h => h)); (focus rfl); (focus (intro w hSw; (try dsimp only at hSw); go_simp; (try with_reducible rfl); done)); (try simp only [Act.put, zPA, zPZ, zPS]))
            refine wpAnyH_ready (rs := [12]) (by kernel_rfl) (by simp) ?_
            refine AllReadyH.cons (o := ?_) ?_ ?_ AllReadyH.nil
            rotate_left 1
            (focus (simp only [zGA, zGZ, zGS] <;> rfl))
            intro K hK
            go_simp
            refine hK.out _ _ ?_ (fun hHeld => ?_)
            · exact HS7.out _ (q2.alloc _)
            clear hK K
            (try simp only [Act.put, zPA, zPZ, zPS])
            have hbig2 := StoreAt.big hst2
            have qe2 := q2.alloc (.cells #[.int .i64 0, .int .i64 0] 50)
            have hb1 := alloc_new d2 (.cells #[.int .i64 0, .int .i64 0] 50)
            have hnp : wb.heap.size ≤ d2.heap.size := q2.size
            have hst2 := hst2.quietly ((Only.refl (fun _ => False) d2).alloc (.cells #[.int .i64 0, .int .i64 0] 50))
            have hop : o2 d2.heap.size = 0 := hbig2 _ (Nat.le_refl _)
            obtain ⟨pt, hpt⟩ : ∃ pt, d2.heap.size = pt := ⟨_, rfl⟩
            (try rw [hpt] at hb1)
            (try rw [hpt] at hnp)
            (try rw [hpt])
            (try rw [hpt] at hop)
            generalize d2.alloc (.cells #[.int .i64 0, .int .i64 0] 50) = e2 at *
            clear hpt
            have z0 := cell_of hb1 0
            have z1 := cell_of hb1 1
            have zf := fun o => frozen_of hb1 o
            simp only [zGA, zGS, zGZ] at z0 z1
            refine wpAnyH_ready (rs := [13]) (by kernel_rfl) (by simp) ?_
            refine AllReadyH.cons (o := ?_) ?_ ?_ AllReadyH.nil
            rotate_left 1
            (focus (simp only [zGA, zGZ, zGS] <;> rfl))
            intro K hK
            go_simp
            refine hK.out _ _ ?_ (fun hHeld => ?_)
            · exact HS7.out _ (ins_leaf qe2 hnp hb1 hst2 hop ho3 (p := p) (q := q)).only
            clear hK K
            (try simp only [Act.put, zPA, zPZ, zPS])
            have HG := (ins_leaf qe2 hnp hb1 hst2 hop ho3 (p := p) (q := q))
            (refine zTK 14 (oi := ?_) (v := ?_) ?_ ?_ (Or.inl ⟨?_, ?_⟩) ?_; rotate_left 2; (focus (simp only [zGA, zGZ, zGS] <;> rfl)); (focus (exact fun _ _ _ h => h)); (focus rfl); (focus (intro w hSw; (try dsimp only at hSw); go_simp; (try with_reducible rfl); done)); (try simp only [Act.put, zPA, zPZ, zPS]))
            refine wpAnyH_done (by kernel_rfl) ?_ _
            generalize (e2.setCell ⟨pt, 0, none⟩ (.int .i64 p)).setCell ⟨pt, 1, none⟩ (.int .i64 q) = WF at HG ⊢
            exact KEY _ _ HG
          refine AllReadyH.cons (o := ?_) ?_ ?_ AllReadyH.nil
          rotate_left 1
          (focus (simp only [zGA, zGZ, zGS] <;> rfl))
          intro K hK
          go_simp
          refine hK.out _ _ ?_ (fun hHeld => ?_)
          · exact HS7.out _ ((q1.alloc _).mono (fun _ _ x => x.elim))
          clear hK K
          (try simp only [Act.put, zPA, zPZ, zPS])
          have qe1 := q1.alloc (.cells #[.int .i64 0, .int .i64 0] 50)
          have hb1 := alloc_new d1 (.cells #[.int .i64 0, .int .i64 0] 50)
          have hnp : wb.heap.size ≤ d1.heap.size := q1.size
          obtain ⟨pt, hpt⟩ : ∃ pt, d1.heap.size = pt := ⟨_, rfl⟩
          (try rw [hpt] at hb1)
          (try rw [hpt] at hnp)
          (try rw [hpt])
          generalize d1.alloc (.cells #[.int .i64 0, .int .i64 0] 50) = e1 at *
          clear hpt
          refine wpAnyH_ready (rs := [8]) (by kernel_rfl) (by simp) ?_
          refine AllReadyH.cons (o := ?_) ?_ ?_ AllReadyH.nil
          rotate_left 1
          (focus (simp only [zGA, zGZ, zGS] <;> rfl))
          intro K hK
          go_simp
          go_at_call 61
          refine (HPUT.out _ qe1).mono ?_
          rintro e d2 ⟨rfl, o2, ho2, hw2, hst2⟩
          have q2 := (qe1.mono (T := (fun k => o k ≠ 0)) (fun _ _ x => x.elim)).trans hw2
          have hz2 := qe1.size
          have hb2 := hw2.get hb1 (HBG.out _ hnp)
          have hop : o2 pt = 0 := by rw [ho2 pt (lt_of_get hb1)]; exact HBZ.out _ hnp
          have ho3 : ∀ k, k < wb.heap.size → o2 k = o k := fun k hk => ho2 k (by omega)
          clear ho2 hw2 hz2
          dsimp only
          refine hK.out _ _ ?_ (fun hHeld => ?_)
          · exact HS7.out _ q2
          clear hK K
          (try simp only [Act.put, zPA, zPZ, zPS])
          have z0 := cell_of hb2 0
          have z1 := cell_of hb2 1
          have zf := fun o => frozen_of hb2 o
          simp only [zGA, zGS, zGZ] at z0 z1
          (refine zTK 9 (oi := ?_) (v := ?_) ?_ ?_ (Or.inl ⟨?_, ?_⟩) ?_; rotate_left 2; (focus (simp only [zGA, zGZ, zGS] <;> rfl)); (focus (exact fun _ _ _ h => h)); (focus rfl); (focus (intro w hSw; (try dsimp only at hSw); go_simp; (try with_reducible rfl); done)); (try simp only [Act.put, zPA, zPZ, zPS]))
          (refine zTK 10 (oi := ?_) (v := ?_) ?_ ?_ (Or.inl ⟨?_, ?_⟩) ?_; rotate_left 2; (focus (simp only [zGA, zGZ, zGS] <;> rfl)); (focus (exact fun _ _ _ h => h)); (focus rfl); (focus (intro w hSw; (try dsimp only at hSw); go_simp; (try with_reducible rfl); done)); (try simp only [Act.put, zPA, zPZ, zPS]))
          (refine zTK 11 (oi := ?_) (v := ?_) ?_ ?_ (Or.inl ⟨?_, ?_⟩) ?_; rotate_left 2; (focus (simp only [zGA, zGZ, zGS] <;> rfl)); (focus (exact fun _ _ _ h => h)); (focus rfl); (focus (intro w hSw; (try dsimp only at hSw); go_simp; (try with_reducible rfl); done)); (try simp only [Act.put, zPA, zPZ, zPS]))
          refine wpAnyH_ready (rs := [13]) (by kernel_rfl) (by simp) ?_
          refine AllReadyH.cons (o := ?_) ?_ ?_ AllReadyH.nil
          rotate_left 1
          (focus (simp only [zGA, zGZ, zGS] <;> rfl))
          intro K hK
          go_simp
          refine hK.out _ _ ?_ (fun hHeld => ?_)
          · exact HS7.out _ (ins_leaf q2 hnp hb2 hst2 hop ho3 (p := p) (q := q)).only
          clear hK K
          (try simp only [Act.put, zPA, zPZ, zPS])
          have HG := (ins_leaf q2 hnp hb2 hst2 hop ho3 (p := p) (q := q))
          (refine zTK 14 (oi := ?_) (v := ?_) ?_ ?_ (Or.inl ⟨?_, ?_⟩) ?_; rotate_left 2; (focus (simp only [zGA, zGZ, zGS] <;> rfl)); (focus (exact fun _ _ _ h => h)); (focus rfl); (focus (intro w hSw; (try dsimp only at hSw); go_simp; (try with_reducible rfl); done)); (try simp only [Act.put, zPA, zPZ, zPS]))
          refine wpAnyH_done (by kernel_rfl) ?_ _
          generalize (d2.setCell ⟨pt, 0, none⟩ (.int .i64 p)).setCell ⟨pt, 1, none⟩ (.int .i64 q) = WF at HG ⊢
          exact KEY _ _ HG
        refine AllReadyH.cons (o := ?_) ?_ ?_ AllReadyH.nil
        rotate_left 1
        (focus (simp only [zGA, zGZ, zGS] <;> rfl))
        intro K hK
        go_simp
        refine hK.out _ _ ?_ (fun hHeld => ?_)
        · exact HS7.out _ ((q0.alloc _).mono (fun _ _ x => x.elim))
        clear hK K
        (try simp only [Act.put, zPA, zPZ, zPS])
        have qe0 := q0.alloc (.cells #[.int .i64 0, .int .i64 0] 50)
        have hb1 := alloc_new d0 (.cells #[.int .i64 0, .int .i64 0] 50)
        have hnp : wb.heap.size ≤ d0.heap.size := q0.size
        obtain ⟨pt, hpt⟩ : ∃ pt, d0.heap.size = pt := ⟨_, rfl⟩
        (try rw [hpt] at hb1)
        (try rw [hpt] at hnp)
        (try rw [hpt])
        generalize d0.alloc (.cells #[.int .i64 0, .int .i64 0] 50) = e0 at *
        clear hpt
        refine wpAnyH_ready (rs := [5]) (by kernel_rfl) (by simp) ?_
        refine AllReadyH.cons (o := ?_) ?_ ?_ AllReadyH.nil
        rotate_left 1
        (focus (simp only [zGA, zGZ, zGS] <;> rfl))
        intro K hK
        go_simp
        go_at_call 62
        refine (store_nowhere _).mono ?_
        rintro e d1 ⟨rfl, hqn⟩
        have q1 := qe0.trans hqn
        have hbq := hqn.get hb1 (fun x => x)
        clear hb1
        have hb1 := hbq
        clear hbq
        clear hqn
        dsimp only
        refine hK.out _ _ ?_ (fun hHeld => ?_)
        · exact HS7.out _ (q1.mono (fun _ _ x => x.elim))
        clear hK K
        (try simp only [Act.put, zPA, zPZ, zPS])
        (refine zTK 7 (oi := ?_) (v := ?_) ?_ ?_ (Or.inl ⟨?_, ?_⟩) ?_; rotate_left 2; (focus (simp only [zGA, zGZ, zGS] <;> rfl)); (focus (exact fun _ _ _ h => h)); (focus rfl); (focus (intro w hSw; (try dsimp only at hSw); go_simp; (try with_reducible rfl); done)); (try simp only [Act.put, zPA, zPZ, zPS]))
        refine wpAnyH_ready (rs := [8]) (by kernel_rfl) (by simp) ?_
        refine AllReadyH.cons (o := ?_) ?_ ?_ AllReadyH.nil
        rotate_left 1
        (focus (simp only [zGA, zGZ, zGS] <;> rfl))
        intro K hK
        go_simp
        go_at_call 61
        refine (HPUT.out _ q1).mono ?_
        rintro e d2 ⟨rfl, o2, ho2, hw2, hst2⟩
        have q2 := (q1.mono (T := (fun k => o k ≠ 0)) (fun _ _ x => x.elim)).trans hw2
        have hz2 := q1.size
        have hb2 := hw2.get hb1 (HBG.out _ hnp)
        have hop : o2 pt = 0 := by rw [ho2 pt (lt_of_get hb1)]; exact HBZ.out _ hnp
        have ho3 : ∀ k, k < wb.heap.size → o2 k = o k := fun k hk => ho2 k (by omega)
        clear ho2 hw2 hz2
        dsimp only
        refine hK.out _ _ ?_ (fun hHeld => ?_)
        · exact HS7.out _ q2
        clear hK K
        (try simp only [Act.put, zPA, zPZ, zPS])
        have z0 := cell_of hb2 0
        have z1 := cell_of hb2 1
        have zf := fun o => frozen_of hb2 o
        simp only [zGA, zGS, zGZ] at z0 z1
        (refine zTK 9 (oi := ?_) (v := ?_) ?_ ?_ (Or.inl ⟨?_, ?_⟩) ?_; rotate_left 2; (focus (simp only [zGA, zGZ, zGS] <;> rfl)); (focus (exact fun _ _ _ h => h)); (focus rfl); (focus (intro w hSw; (try dsimp only at hSw); go_simp; (try with_reducible rfl); done)); (try simp only [Act.put, zPA, zPZ, zPS]))
        (refine zTK 10 (oi := ?_) (v := ?_) ?_ ?_ (Or.inl ⟨?_, ?_⟩) ?_; rotate_left 2; (focus (simp only [zGA, zGZ, zGS] <;> rfl)); (focus (exact fun _ _ _ h => h)); (focus rfl); (focus (intro w hSw; (try dsimp only at hSw); go_simp; (try with_reducible rfl); done)); (try simp only [Act.put, zPA, zPZ, zPS]))
        (refine zTK 11 (oi := ?_) (v := ?_) ?_ ?_ (Or.inl ⟨?_, ?_⟩) ?_; rotate_left 2; (focus (simp only [zGA, zGZ, zGS] <;> rfl)); (focus (exact fun _ _ _ h => h)); (focus rfl); (focus (intro w hSw; (try dsimp only at hSw); go_simp; (try with_reducible rfl); done)); (try simp only [Act.put, zPA, zPZ, zPS]))
        refine wpAnyH_ready (rs := [13]) (by kernel_rfl) (by simp) ?_
        refine AllReadyH.cons (o := ?_) ?_ ?_ AllReadyH.nil
        rotate_left 1
        (focus (simp only [zGA, zGZ, zGS] <;> rfl))
        intro K hK
        go_simp
        refine hK.out _ _ ?_ (fun hHeld => ?_)
        · exact HS7.out _ (ins_leaf q2 hnp hb2 hst2 hop ho3 (p := p) (q := q)).only
        clear hK K
        (try simp only [Act.put, zPA, zPZ, zPS])
        have HG := (ins_leaf q2 hnp hb2 hst2 hop ho3 (p := p) (q := q))
        (refine zTK 14 (oi := ?_) (v := ?_) ?_ ?_ (Or.inl ⟨?_, ?_⟩) ?_; rotate_left 2; (focus (simp only [zGA, zGZ, zGS] <;> rfl)); (focus (exact fun _ _ _ h => h)); (focus rfl); (focus (intro w hSw; (try dsimp only at hSw); go_simp; (try with_reducible rfl); done)); (try simp only [Act.put, zPA, zPZ, zPS]))
        refine wpAnyH_done (by kernel_rfl) ?_ _
        generalize (d2.setCell ⟨pt, 0, none⟩ (.int .i64 p)).setCell ⟨pt, 1, none⟩ (.int .i64 q) = WF at HG ⊢
        exact KEY _ _ HG
    case key =>
      intro pt W HL0
      have HL := Lib.hid HL0
      obtain ⟨o', ho', hst, hop⟩ := HL0.st
      have HOW := Lib.hid HL0.only
      obtain ⟨lb, bb, pb, mh, mt, ms, fh, ft, fs, h'⟩ := hst
      obtain ⟨hb, hf, hp⟩ := h'.heaps.2 t.id H1 HS1'.out
      have HR := Lib.hid h'
      have HF := Lib.hid hf
      have HP := Lib.hid hp
      have HOP := Lib.hid hop
      have HO' := Lib.hid ho'
      have h8 : o' r8 = 0 := by rw [ho' r8 (lt_of_get HB8b.out)]; have := HX8.out; omega
      have h12 : o' r12 = 0 := by rw [ho' r12 (lt_of_get HB12b.out)]; have := HX12.out; omega
      have HO8 := Lib.hid (And.intro h8 h12)
      clear HL0 HS7 HPUT hop ho' h' hf hp h8 h12
      have HS13 : Hid (∀ W', Only (fun k => o' k = 10 + 2 * t.id) W W' → (fun w' => w'.cell? ⟨sb, 3, none⟩ = some (.map (some mh)) ∧ w'.cell? ⟨r12, 0, none⟩ = some (.int .u64 (t.id : Int)) ∧ w'.cell? ⟨r8, 1, none⟩ = some (.int .i64 pg) ∧ w'.cell? ⟨r8, 2, none⟩ = some (.int .i64 sl) ∧ w'.cell? ⟨pt, 0, none⟩ = some (.int .i64 p) ∧ w'.cell? ⟨pt, 1, none⟩ = some (.int .i64 q) ∧ (Instr.lookup 82 (.map (some mh)) (.int .u64 (t.id : Int)) false).run Tryz.prog w' = .ok (ptrV hb) w') W') := fun W' hq => by
        have b12 := tabBox_cells (hq.get (HOW.out.get HB12b.out HX12.out) (fun e => by have := HO8.out.2; (try dsimp only at e); omega))
        have b8 := hq.get (HOW.out.get HB8b.out HX8.out) (fun e => by have := HO8.out.1; (try dsimp only at e); omega)
        have bp := hq.get HL.out.box (fun e => by have := HOP.out; (try dsimp only at e); omega)
        have t1 := HR.out.tags
        have c3 := hq.cell HR.out.cells.2.2.2.1 (fun e => by (try dsimp only at e); omega)
        have hm := HR.out.mH.kept hq (fun e => by (try dsimp only at e); omega)
        exact ⟨c3, b12.1, by rw [cell_of b8]; rfl, by rw [cell_of b8]; rfl, by rw [cell_of bp]; rfl, by rw [cell_of bp]; rfl, look_heap hm HF.out HID.out⟩
      have HSTAMP : Hid (∀ W', Quiet W W' → Calls Tryz.prog 64 #[ptrV hb, .agg #[.int .i64 pg, .int .i64 sl], .int .u64 (x : Int), .agg #[.int .i64 p, .int .i64 q]] W' (fun e w' => e = .returned (.int .i64 z) ∧ Only (fun k => o' k = 10 + 2 * t.id) W' w' ∧ HeapIs w' hb pb (fun k => o' k = 10 + 2 * t.id) H2)) := fun W' hq => by
        have := heap_stamp pg sl x p q (HP.out.kept hq (fun _ _ x => x))
        rw [HST.out] at this
        exact this
      go_wp2_with fail
      refine wp_region_held_drew (S := (fun w' => w'.cell? ⟨sb, 3, none⟩ = some (.map (some mh)) ∧ w'.cell? ⟨r12, 0, none⟩ = some (.int .u64 (t.id : Int)) ∧ w'.cell? ⟨r8, 1, none⟩ = some (.int .i64 pg) ∧ w'.cell? ⟨r8, 2, none⟩ = some (.int .i64 sl) ∧ w'.cell? ⟨pt, 0, none⟩ = some (.int .i64 p) ∧ w'.cell? ⟨pt, 1, none⟩ = some (.int .i64 q) ∧ (Instr.lookup 82 (.map (some mh)) (.int .u64 (t.id : Int)) false).run Tryz.prog w' = .ok (ptrV hb) w')) (by kernel_rfl) (HS13.out _ ((Only.refl _ _).drew)) (fun hHeld => ?_)
      simp only [List.size_toArray, List.length_cons, List.length_nil, Nat.reduceAdd]
      have q6 : Quiet W W.drew := (Only.refl _ _).drew
      generalize W.drew = d6 at q6 hHeld ⊢
      (refine zTK 0 (oi := ?_) (v := ?_) ?_ ?_ (Or.inl ⟨?_, ?_⟩) ?_; rotate_left 2; (focus (simp only [zGA, zGZ, zGS] <;> rfl)); (focus (exact fun _ _ _ h => h)); (focus rfl); (focus (intro w hSw; (try dsimp only at hSw); go_simp; (try with_reducible rfl); done)); (try simp only [Act.put, zPA, zPZ, zPS]))
      (refine zTK 1 (oi := ?_) (v := ?_) ?_ ?_ (Or.inl ⟨?_, ?_⟩) ?_; rotate_left 2; (focus (simp only [zGA, zGZ, zGS] <;> rfl)); (focus (exact fun _ _ _ h => h)); (focus rfl); (focus (intro w hSw; (try dsimp only at hSw); go_simp; (try with_reducible rfl); done)); (try simp only [Act.put, zPA, zPZ, zPS]))
      (refine zTK 2 (oi := ?_) (v := ?_) ?_ ?_ (Or.inl ⟨?_, ?_⟩) ?_; rotate_left 2; (focus (simp only [zGA, zGZ, zGS] <;> rfl)); (focus (exact fun _ _ _ h => h)); (focus rfl); (focus (intro w hSw; (try dsimp only at hSw); go_simp; (try with_reducible rfl); done)); (try simp only [Act.put, zPA, zPZ, zPS]))
      (refine zTK 3 (oi := ?_) (v := ?_) ?_ ?_ (Or.inl ⟨?_, ?_⟩) ?_; rotate_left 2; (focus (simp only [zGA, zGZ, zGS] <;> rfl)); (focus (exact fun _ _ _ h => h)); (focus rfl); (focus (intro w hSw; (try dsimp only at hSw); go_simp; (try with_reducible rfl); done)); (try simp only [Act.put, zPA, zPZ, zPS]))
      (refine zTK 4 (oi := ?_) (v := ?_) ?_ ?_ (Or.inl ⟨?_, ?_⟩) ?_; rotate_left 2; (focus (simp only [zGA, zGZ, zGS] <;> rfl)); (focus (exact fun _ _ _ h => h)); (focus rfl); (focus (intro w hSw; (try dsimp only at hSw); go_simp; (try with_reducible rfl); done)); (try simp only [Act.put, zPA, zPZ, zPS]))
      (refine zTK 5 (oi := ?_) (v := ?_) ?_ ?_ (Or.inl ⟨?_, ?_⟩) ?_; rotate_left 2; (focus (simp only [zGA, zGZ, zGS] <;> rfl)); (focus (exact fun _ _ _ h => h)); (focus rfl); (focus (intro w hSw; (try dsimp only at hSw); go_simp; (try with_reducible rfl); done)); (try simp only [Act.put, zPA, zPZ, zPS]))
      (refine zTK 6 (oi := ?_) (v := ?_) ?_ ?_ (Or.inl ⟨?_, ?_⟩) ?_; rotate_left 2; (focus (simp only [zGA, zGZ, zGS] <;> rfl)); (focus (exact fun _ _ _ h => h)); (focus rfl); (focus (intro w hSw; (try dsimp only at hSw); go_simp; (try with_reducible rfl); done)); (try simp only [Act.put, zPA, zPZ, zPS]))
      (refine zTK 7 (oi := ?_) (v := ?_) ?_ ?_ (Or.inl ⟨?_, ?_⟩) ?_; rotate_left 2; (focus (simp only [zGA, zGZ, zGS] <;> rfl)); (focus (exact fun _ _ _ h => h)); (focus rfl); (focus (intro w hSw; (try dsimp only at hSw); go_simp; (try with_reducible rfl); done)); (try simp only [Act.put, zPA, zPZ, zPS]))
      (refine zTK 8 (oi := ?_) (v := ?_) ?_ ?_ (Or.inl ⟨?_, ?_⟩) ?_; rotate_left 2; (focus (simp only [zGA, zGZ, zGS] <;> rfl)); (focus (exact fun _ _ _ h => h)); (focus rfl); (focus (intro w hSw; (try dsimp only at hSw); go_simp; (try with_reducible rfl); done)); (try simp only [Act.put, zPA, zPZ, zPS]))
      (refine zTK 9 (oi := ?_) (v := ?_) ?_ ?_ (Or.inl ⟨?_, ?_⟩) ?_; rotate_left 2; (focus (simp only [zGA, zGZ, zGS] <;> rfl)); (focus (exact fun _ _ _ h => h)); (focus rfl); (focus (intro w hSw; (try dsimp only at hSw); go_simp; (try with_reducible rfl); done)); (try simp only [Act.put, zPA, zPZ, zPS]))
      (refine zTK 10 (oi := ?_) (v := ?_) ?_ ?_ (Or.inl ⟨?_, ?_⟩) ?_; rotate_left 2; (focus (simp only [zGA, zGZ, zGS] <;> rfl)); (focus (exact fun _ _ _ h => h)); (focus rfl); (focus (intro w hSw; (try dsimp only at hSw); go_simp; (try with_reducible rfl); done)); (try simp only [Act.put, zPA, zPZ, zPS]))
      refine wpAnyH_ready (rs := [11]) (by kernel_rfl) (by simp) ?_
      refine AllReadyH.cons (o := ?_) ?_ ?_ AllReadyH.nil
      rotate_left 1
      (focus (simp only [zGA, zGZ, zGS] <;> rfl))
      intro K hK
      go_simp
      go_at_call 64
      refine (HSTAMP.out _ q6).mono ?_
      rintro e d7 ⟨rfl, ho7, hh7⟩
      dsimp only
      refine hK.out _ _ ?_ (fun hHeld => ?_)
      · exact HS13.out _ ((q6.mono (T := fun k => o' k = 10 + 2 * t.id) (fun _ _ x => x.elim)).trans ho7)
      clear hK K
      (try simp only [Act.put, zPA, zPZ, zPS])
      (refine zTK 12 (oi := ?_) (v := ?_) ?_ ?_ (Or.inl ⟨?_, ?_⟩) ?_; rotate_left 2; (focus (simp only [zGA, zGZ, zGS] <;> rfl)); (focus (exact fun _ _ _ h => h)); (focus rfl); (focus (intro w hSw; (try dsimp only at hSw); go_simp; (try with_reducible rfl); done)); (try simp only [Act.put, zPA, zPZ, zPS]))
      refine wpAnyH_done (by kernel_rfl) ?_ _
      have HEND : Hid (POST (.returned (.int .i64 z)) d7) := by
        rw [← HPOST.out]
        unfold UpdPost
        rw [if_pos rfl]
        have ho := (q6.mono (T := fun k => o' k = 10 + 2 * t.id) (fun _ _ x => x.elim)).trans ho7
        have tg := HR.out.tags
        have hpo := (HR.out.pool.kept q6 (fun x => x)).kept ho7 (fun e => by (try dsimp only at e); omega)
        have h9 := HR.out.setHeap (id := t.id) HF.out (ho.mono (fun k _ x => Or.inl x)) hpo (hh7.mono (fun k x => Or.inl x))
        have hsz := HOW.out.size
        have hzz := HQWB.out.size
        have hon : Only (fun k => o k ≠ 0) w d7 := ((HQWB.out.mono (fun _ _ x => x.elim)).trans' HOW.out (fun k _ x => x)).trans' ho (fun k hk x => by
          rw [← HO'.out k (by omega)]
          omega)
        exact ⟨rfl, _, fun k hk => by rw [grow_old (by omega)]; exact HO'.out k (by omega), hon, lb, bb, pb, mh, mt, ms, fh, ft, fs, h9⟩
      clear hHeld q6 ho7 hh7 HS13 HSTAMP
      go_wp2
      exact HEND.out
  · have hne : ¬ (code : Int) = 0 := by omega
    have HEND : Hid (POST (.returned (.int .i64 (code : Int))) (w5.alloc (.cells #[.int .u64 v.row, .int .u64 v.xmin, .int .u64 v.xmax, .int .i64 v.pg, .int .i64 v.sl, .slice A6 v.data.length c6] 106))) := by
      rw [← HPOST.out]
      unfold UpdPost
      rw [if_neg hz]
      have hq := HQ4.out.trans HQB.out
      exact ⟨rfl, o, fun _ _ => rfl, hq.mono (fun _ _ x => x.elim), HH.out.quietly hq⟩
    go_wp2
    exact HEND.out

/-- Where there is no index. -/
theorem store_update {w : World} {sb x i c3 n left' nr cr code : Nat} {o : Nat → Nat} {s : St} {y : Snap} {t : TE} {name nm : ByteArray} {Sv : Nat → Prop} {A3 Ar : Option Addr} {H H1 H2 : List (List (Option Tup))} {p q pg sl z : Int} {v : Tup} (h : StoreAt w sb o s) (hx : U64 x) (hy : s.sn x = some y) (hf : findT s.L y name s.T = some i) (ht : s.T[i]? = some t) (hc : t.cols = [(nm, 1)]) (hid : U64 t.id)
    (hI : s.I = []) (hH : s.hs t.id = some H) (hle : H.length + s.left ≤ 256) (hn : n < 256) (hv : Rd w Sv 4 A3 1 (intRow n)) (hc3 : 1 ≤ c3) (hm3 : c3 ≤ maxLen) (hg : hGet H pg sl = some v) (hx1 : U64 v.xmin) (hx2 : U64 v.xmax) (hcode : freeS s.L y v.xmin v.xmax = code)
    (hins : code = 0 → hIns H s.left ⟨v.row, x, 0, -1, -1, rowI n⟩ = ((p, q, 0), H1, left')) (hst : hStamp H1 pg sl x p q = (z, H2)) :
    Calls Tryz.prog 19 #[ptrV sb, .int .u64 (x : Int), .string name, .agg #[.int .u64 v.row, .int .i64 pg, .int .i64 sl, .slice Ar nr cr], .slice A3 1 c3] w (UpdPost w sb o s (putSt s t.id H2 left') code z) := by
  have e1 : ({ putSt s t.id H1 left' with hs := upd (putSt s t.id H1 left').hs t.id (some H2) } : St) = putSt s t.id H2 left' := by
    simp only [putSt, upd_upd]
  rw [← e1]
  exact store_update_of (s1 := putSt s t.id H1 left') h hx hy hf ht hc hid hH hn hv hc3 hm3 hg hx1 hx2 hcode (by simp [putSt, upd]) hst (fun hz W A2 c2 A5 c5 hq _ _ _ hd _ _ => store_put0 (v := ⟨v.row, x, 0, -1, -1, rowI n⟩) (cd := c5) (A2 := A2) (c2 := c2) (h.quietly hq) hI hid hH hle (rowI_bytes hn) (by show Rd W _ 1 A5 (rowI n).length _; rw [rowI_length]; exact hd) (fun k hk => h.big k hk) (hins hz))

end Go.Proofs.YtaijnpgoiagboaaGreatDoor

namespace Go.Proofs.YtaijnpgoiagboaaGreatDoor
open Go.RowKit Go.Lap

def StoreScanPost (w : World) (R : List RowR) (e : Ending) (w' : World) : Prop :=
  ∃ v M, e = .returned (.tuple #[v, .int .i64 0]) ∧ RowsW w w' v M ∧ (M.map RowM.told).Perm R ∧ M.Pairwise (fun a b => a.id ≤ b.id)

/-- All versions of a heap are rows of small numbers. -/
def IntHeap (H : List (List (Option Tup))) : Prop := ∀ pg sl v, hGet H pg sl = some v → U64 v.xmin ∧ U64 v.xmax ∧ ∃ n, n < 256 ∧ v.data = rowI n

theorem placesTo_get {p : Int} {T : List (Option Tup)} {k : Nat} {a : Int × Int} (h : a ∈ placesTo p T k) : a.1 = p ∧ ∃ j, j < k ∧ a.2 = (j : Int) ∧ ∃ v, T[j]? = some (some v) := by
  unfold placesTo at h
  obtain ⟨j, hj, e⟩ := List.mem_filterMap.1 h
  split at e
  · rename_i hs
    injection e with e
    subst e
    obtain ⟨v, hv⟩ := Option.isSome_iff_exists.1 hs
    refine ⟨rfl, j, List.mem_range.1 hj, rfl, v, ?_⟩
    cases hT : T[j]? with
    | none => rw [hT] at hv; cases hv
    | some u => rw [hT] at hv; cases u with
      | none => cases hv
      | some u => simpa using hv
  · cases e

theorem placesH_get {H : List (List (Option Tup))} {a : Int × Int} {k : Nat} (h : a ∈ placesH H k) : ∃ v, hGet H a.1 a.2 = some v := by
  induction k with
  | zero => cases h
  | succ k ih =>
    rcases List.mem_append.1 h with h | h
    · exact ih h
    · obtain ⟨h1, j, _, h2, v, h3⟩ := placesTo_get h
      refine ⟨v, ?_⟩
      unfold hGet
      rw [h1, if_neg (by omega), h2]
      unfold tupAt
      rw [if_neg (by omega)]
      show ((H.getD k [])[((j : Nat) : Int).toNat]?).join = some v
      rw [Int.toNat_natCast, h3]
      rfl

set_option maxHeartbeats 4000000 in
set_option maxRecDepth 100000 in
theorem store_scan {w : World} {sb x i : Nat} {o : Nat → Nat} {s : St} {y : Snap} {t : TE} {name nm : ByteArray} {H : List (List (Option Tup))} (h : StoreAt w sb o s) (hx : U64 x) (hy : s.sn x = some y) (hf : findT s.L y name s.T = some i) (ht : s.T[i]? = some t) (hc : t.cols = [(nm, 1)]) (hid : U64 t.id)
    (hH : s.hs t.id = some H) (hN : ∀ k, k ≤ H.length → (placesH H k).length ≤ 1000000) (hI : IntHeap H) :
    Calls Tryz.prog 7 #[ptrV sb, .int .u64 (x : Int), .string name] w (StoreScanPost w (seenR H s.L y (placesH H H.length))) := by
  have HO := Lib.hid (store_open h hx hy hf ht)
  have HH := Lib.hid h
  have HC := Lib.hid hc
  have HID := Lib.hid hid
  have HHH := Lib.hid (And.intro hH (And.intro hN hI))
  obtain ⟨POST, hPOST⟩ : ∃ POST, StoreScanPost w (seenR H s.L y (placesH H H.length)) = POST := ⟨_, rfl⟩
  rw [hPOST]
  have HPOST := Lib.hid hPOST
  clear h hx hy hf ht hc hid hH hN hI hPOST
  go_enter Tryz.func7, Tryz.ntmps7
  go_wp2_with fail
  refine HO.out.mono ?_
  rintro e w1 ⟨A, c, A2, c2, rfl, hq1, hs1, hf1, hc2, hm2⟩
  clear HO
  have HQ1 := Lib.hid hq1
  have HF1 := Lib.hid hf1
  have HS1 := Lib.hid hs1
  have HC2 := Lib.hid (And.intro hc2 hm2)
  have q2 : Quiet w1 ((w1.alloc (.cells (snapCells y A c) 88)).alloc (.cells #[.int .u64 (t.id : Int), .string t.name, .slice A2 t.cols.length c2, .int .u64 (t.xmin : Int), .int .u64 (t.xmax : Int)] 37)) := ((Only.refl _ _).alloc _).alloc _
  have b9 := two_new w1 (.cells (snapCells y A c) 88) (.cells #[.int .u64 (t.id : Int), .string t.name, .slice A2 t.cols.length c2, .int .u64 (t.xmin : Int), .int .u64 (t.xmax : Int)] 37)
  have b8 := alloc_old (alloc_new w1 (.cells (snapCells y A c) 88)) (.cells #[.int .u64 (t.id : Int), .string t.name, .slice A2 t.cols.length c2, .int .u64 (t.xmin : Int), .int .u64 (t.xmax : Int)] 37)
  have HQ2 := Lib.hid q2
  have HB9 := Lib.hid b9
  have HB8 := Lib.hid b8
  obtain ⟨r8, hr8⟩ : ∃ r8, w1.heap.size = r8 := ⟨_, rfl⟩
  obtain ⟨r9, hr9⟩ : ∃ r9, r8 + 1 = r9 := ⟨_, rfl⟩
  rw [hr8] at HB9 HB8
  rw [hr9] at HB9
  have HE8 := Lib.hid hr8
  have HE9 := Lib.hid hr9
  clear hq1 hs1 hf1 hc2 hm2 q2 b9 b8 hr8 hr9
  unfold snapV tabV
  go_wp2_with fail
  (try simp only [World.size_alloc])
  rw [HE8.out, HE9.out]
  generalize (w1.alloc (.cells #[.int .u64 (y.own : Int), .int .u64 (y.xmin : Int), .int .u64 (y.xmax : Int), .slice A y.run.length c] 88)).alloc (.cells #[.int .u64 (t.id : Int), .string t.name, .slice A2 t.cols.length c2, .int .u64 (t.xmin : Int), .int .u64 (t.xmax : Int)] 37) = w2 at *
  have HQW : Hid (Quiet w w2) := HQ1.out.trans HQ2.out
  have HHW := Lib.hid (HH.out.quietly HQW.out)
  have HS4 : Hid (∀ W, Quiet w2 W → (fun w' => w'.cell? ⟨r8, 0, none⟩ = some (.int .u64 (y.own : Int)) ∧ w'.cell? ⟨r8, 1, none⟩ = some (.int .u64 (y.xmin : Int)) ∧ w'.cell? ⟨r8, 2, none⟩ = some (.int .u64 (y.xmax : Int)) ∧ w'.cell? ⟨r8, 3, none⟩ = some (.slice A y.run.length c) ∧ w'.cell? ⟨r9, 0, none⟩ = some (.int .u64 (t.id : Int)) ∧ w'.cell? ⟨r9, 1, none⟩ = some (.string t.name) ∧ w'.cell? ⟨r9, 2, none⟩ = some (.slice A2 t.cols.length c2) ∧ w'.cell? ⟨r9, 3, none⟩ = some (.int .u64 (t.xmin : Int)) ∧ w'.cell? ⟨r9, 4, none⟩ = some (.int .u64 (t.xmax : Int))) W) := fun W hq => by
    have b9 := tabBox_cells (hq.get HB9.out (fun x => x))
    have b8 := snapBox_cells (hq.get HB8.out (fun x => x))
    exact ⟨b8.1, b8.2.1, b8.2.2.1, b8.2.2.2, b9⟩
  have HPL : Hid (∀ W, Quiet w2 W → Calls Tryz.prog 39 #[ptrV sb, .int .u64 (t.id : Int)] W (ChainPost W (placesH H H.length))) := fun W hq => store_places (HHW.out.quietly hq) HID.out HHH.out.1 HHH.out.2.1
  have HRW : Hid (∀ W, Quiet w2 W → ∀ A3 c3 (Sl : Nat → Prop), Rd W Sl 2 A3 (placesH H H.length).length (tidsV (placesH H H.length)) → Calls Tryz.prog 38 #[ptrV sb, snapV y A c, tabV t A2 c2, .slice A3 (placesH H H.length).length c3] W (RowsPost W (seenR H s.L y (placesH H H.length)))) := fun W hq A3 c3 Sl hr => by
    obtain ⟨A', c', e', h1, h2, h3⟩ := own_form HF1.out.own
    injection e' with e1 _ e2
    subst e1 e2
    exact store_rows (HHW.out.quietly hq) ((HS1.out.kept HQ2.out (fun _ _ x => x)).kept hq (fun _ _ x => x)) HC.out HID.out ((h3.kept HQ2.out (fun _ _ x => x)).kept hq (fun _ _ x => x)) HC2.out.1 HC2.out.2 HHH.out.1 hr (HHH.out.2.1 _ (Nat.le_refl _)) (fun a ha => by
      obtain ⟨v, hv⟩ := placesH_get ha
      obtain ⟨i1, i2, i3⟩ := HHH.out.2.2 _ _ _ hv
      exact ⟨v, hv, i1, i2, fun _ => i3⟩)
  unfold snapV tabV at HRW
  refine wp_region_held_drew (S := (fun w' => w'.cell? ⟨r8, 0, none⟩ = some (.int .u64 (y.own : Int)) ∧ w'.cell? ⟨r8, 1, none⟩ = some (.int .u64 (y.xmin : Int)) ∧ w'.cell? ⟨r8, 2, none⟩ = some (.int .u64 (y.xmax : Int)) ∧ w'.cell? ⟨r8, 3, none⟩ = some (.slice A y.run.length c) ∧ w'.cell? ⟨r9, 0, none⟩ = some (.int .u64 (t.id : Int)) ∧ w'.cell? ⟨r9, 1, none⟩ = some (.string t.name) ∧ w'.cell? ⟨r9, 2, none⟩ = some (.slice A2 t.cols.length c2) ∧ w'.cell? ⟨r9, 3, none⟩ = some (.int .u64 (t.xmin : Int)) ∧ w'.cell? ⟨r9, 4, none⟩ = some (.int .u64 (t.xmax : Int)))) (by kernel_rfl) (HS4.out _ ((Only.refl _ _).drew)) (fun hHeld => ?_)
  simp only [List.size_toArray, List.length_cons, List.length_nil, Nat.reduceAdd]
  have q0 : Quiet w2 w2.drew := (Only.refl _ _).drew
  generalize w2.drew = d0 at q0 hHeld ⊢
  (refine zTK 0 (oi := ?_) (v := ?_) ?_ ?_ (Or.inl ⟨?_, ?_⟩) ?_; rotate_left 2; (focus (simp only [zGA, zGZ, zGS] <;> rfl)); (focus (exact fun _ _ _ h => h)); (focus rfl); (focus (intro w hSw; (try dsimp only at hSw); go_simp; (try with_reducible rfl); done)); (try simp only [Act.put, zPA, zPZ, zPS]))
  (refine zTK 1 (oi := ?_) (v := ?_) ?_ ?_ (Or.inl ⟨?_, ?_⟩) ?_; rotate_left 2; (focus (simp only [zGA, zGZ, zGS] <;> rfl)); (focus (exact fun _ _ _ h => h)); (focus rfl); (focus (intro w hSw; (try dsimp only at hSw); go_simp; (try with_reducible rfl); done)); (try simp only [Act.put, zPA, zPZ, zPS]))
  (refine zTK 2 (oi := ?_) (v := ?_) ?_ ?_ (Or.inl ⟨?_, ?_⟩) ?_; rotate_left 2; (focus (simp only [zGA, zGZ, zGS] <;> rfl)); (focus (exact fun _ _ _ h => h)); (focus rfl); (focus (intro w hSw; (try dsimp only at hSw); go_simp; (try with_reducible rfl); done)); (try simp only [Act.put, zPA, zPZ, zPS]))
  (refine zTK 3 (oi := ?_) (v := ?_) ?_ ?_ (Or.inl ⟨?_, ?_⟩) ?_; rotate_left 2; (focus (simp only [zGA, zGZ, zGS] <;> rfl)); (focus (exact fun _ _ _ h => h)); (focus rfl); (focus (intro w hSw; (try dsimp only at hSw); go_simp; (try with_reducible rfl); done)); (try simp only [Act.put, zPA, zPZ, zPS]))
  (refine zTK 4 (oi := ?_) (v := ?_) ?_ ?_ (Or.inl ⟨?_, ?_⟩) ?_; rotate_left 2; (focus (simp only [zGA, zGZ, zGS] <;> rfl)); (focus (exact fun _ _ _ h => h)); (focus rfl); (focus (intro w hSw; (try dsimp only at hSw); go_simp; (try with_reducible rfl); done)); (try simp only [Act.put, zPA, zPZ, zPS]))
  (refine zTK 5 (oi := ?_) (v := ?_) ?_ ?_ (Or.inl ⟨?_, ?_⟩) ?_; rotate_left 2; (focus (simp only [zGA, zGZ, zGS] <;> rfl)); (focus (exact fun _ _ _ h => h)); (focus rfl); (focus (intro w hSw; (try dsimp only at hSw); go_simp; (try with_reducible rfl); done)); (try simp only [Act.put, zPA, zPZ, zPS]))
  refine wpAnyH_ready (rs := [6]) (by kernel_rfl) (by simp) ?_
  refine AllReadyH.cons (o := ?_) ?_ ?_ AllReadyH.nil
  rotate_left 1
  (focus (simp only [zGA, zGZ, zGS] <;> rfl))
  intro K hK
  go_simp
  go_at_call 39
  refine (HPL.out _ q0).mono ?_
  rintro e d1 ⟨v3, rfl, hq3, _, ht3⟩
  obtain ⟨A3, c3, rfl, hc3, hm3, hrd3⟩ := own_form ht3
  have q1 := q0.trans hq3
  clear hq3 ht3
  dsimp only
  refine hK.out _ _ ?_ (fun hHeld => ?_)
  · exact HS4.out _ q1
  clear hK K
  (try simp only [Act.put, zPA, zPZ, zPS])
  refine wpAnyH_ready (rs := [7]) (by kernel_rfl) (by simp) ?_
  refine AllReadyH.cons (o := ?_) ?_ ?_ AllReadyH.nil
  rotate_left 1
  (focus (simp only [zGA, zGZ, zGS] <;> rfl))
  intro K hK
  go_simp
  go_at_call 38
  refine (HRW.out _ q1 A3 c3 _ hrd3).mono ?_
  rintro e d2 ⟨v4, M, rfl, hrw, hpm, hpw⟩
  have q2 := q1.trans hrw.quiet
  dsimp only
  refine hK.out _ _ ?_ (fun hHeld => ?_)
  · exact HS4.out _ q2
  clear hK K
  (try simp only [Act.put, zPA, zPZ, zPS])
  (refine zTK 8 (oi := ?_) (v := ?_) ?_ ?_ (Or.inl ⟨?_, ?_⟩) ?_; rotate_left 2; (focus (simp only [zGA, zGZ, zGS] <;> rfl)); (focus (exact fun _ _ _ h => h)); (focus rfl); (focus (intro w hSw; (try dsimp only at hSw); go_simp; (try with_reducible rfl); done)); (try simp only [Act.put, zPA, zPZ, zPS]))
  (refine zTK 9 (oi := ?_) (v := ?_) ?_ ?_ (Or.inl ⟨?_, ?_⟩) ?_; rotate_left 2; (focus (simp only [zGA, zGZ, zGS] <;> rfl)); (focus (exact fun _ _ _ h => h)); (focus rfl); (focus (intro w hSw; (try dsimp only at hSw); go_simp; (try with_reducible rfl); done)); (try simp only [Act.put, zPA, zPZ, zPS]))
  refine wpAnyH_done (by kernel_rfl) ?_ _
  have HEND : Hid (POST (.returned (.tuple #[v4, .int .i64 0])) d2) := by
    rw [← HPOST.out]
    exact ⟨v4, M, rfl, hrw.from (HQW.out.trans q1), hpm, hpw⟩
  clear hHeld q0 q1 q2 hrw hpm hpw HS4 HPL HRW hrd3 hc3 hm3
  go_wp2
  exact HEND.out

end Go.Proofs.YtaijnpgoiagboaaGreatDoor

namespace Go.Proofs.YtaijnpgoiagboaaGreatDoor
open Go.RowKit Go.Lap

/-- A first table. -/
def makeSt (s : St) (name nm : ByteArray) (kd own : Nat) : St := { s with T := [⟨s.blast + 1, name, [(nm, kd)], own, 0⟩], I := [], blast := s.blast + 1, hs := upd s.hs (s.blast + 1) (some []) }

def StoreMakePost (w : World) (sb : Nat) (o : Nat → Nat) (s' : St) (e : Ending) (w' : World) : Prop := e = .returned (.int .i64 0) ∧ StepTo w sb o s' w'

theorem storeMake_done {w w2 w3 w5 w6 : World} {sb lb bb pb mh mt ms hb kd own : Nat} {o : Nat → Nat} {s : St} {fh ft fs : Nat → Option Value} {name nm : ByteArray} (h : StoreRow w sb o s lb bb pb mh mt ms fh ft fs) (_hT : s.T = []) (_hI : s.I = []) (hid : s.hs (s.blast + 1) = none) (hq2 : Quiet w w2)
    (ho3 : Only (fun k => o k = 3) w2 w3) (hb3 : BookIs w3 (fun k => o k = 3 ∨ w2.heap.size ≤ k) bb [⟨s.blast + 1, name, [(nm, kd)], own, 0⟩] [] (s.blast + 1)) (hq5 : Quiet w3 w5) (hh5 : HeapIs w5 hb pb (fun k => w3.heap.size ≤ k) [])
    (ho6 : Only (fun k => k = mh) w5 w6) (hm : MapF w6 mh (upd fh (s.blast + 1) (some (ptrV hb)))) : StepTo w sb o (makeSt s name nm kd own) w6 := by
  have h2 := h.quietly hq2
  have h3 := h2.setBook ho3 hb3
  have hbig := h3.big
  have h5 := h3.quietly hq5
  have tm : grow o w2.heap.size w3.heap.size 3 mh = 6 := h3.tags.2.2.1
  have hnm : ¬ w3.heap.size ≤ mh := fun x => by have := hbig mh x; omega
  have h6 := h5.newHeap (B := w3.heap.size) (id := s.blast + 1) (hb := hb) (H' := []) hbig hq5.size hid ho6 hm (hh5.kept ho6 (fun k hk e => by omega))
  have s1 := ho3.size
  have s2 := hq5.size
  have s0 := hq2.size
  have e6 : o mh = 6 := h.tags.2.2.1
  refine ⟨_, fun k hk => ?_, (((hq2.mono (T := fun k => o k ≠ 0) (fun _ _ x => x.elim)).trans' ho3 (fun k _ e => by omega)).trans' hq5 (fun k _ e => e.elim)).trans' ho6 (fun k _ e => by rw [e, e6]; omega), _, _, _, _, _, _, _, _, _, h6⟩
  rw [grow_old (by omega), grow_old (by omega)]

set_option maxHeartbeats 4000000 in
set_option maxRecDepth 100000 in
theorem store_make {w : World} {sb x kd c2 : Nat} {o : Nat → Nat} {s : St} {y : Snap} {name nm : ByteArray} {S2 : Nat → Prop} {A2 : Option Addr} (h : StoreAt w sb o s) (hx : U64 x) (hy : s.sn x = some y) (hT : s.T = []) (hI : s.I = []) (hid : s.hs (s.blast + 1) = none) (hl : s.blast < 1000000) (hu : U64 y.own)
    (hnm : Small name) (hcn : Small nm) (hk : 1 ≤ kd ∧ kd ≤ 3) (hr : Rd w S2 2 A2 1 (colsV [(nm, kd)])) (hS : ∀ k, S2 k → o k ≠ 3) (hc2 : 1 ≤ c2) (hm2 : c2 ≤ maxLen) :
    Calls Tryz.prog 13 #[ptrV sb, .int .u64 (x : Int), .string name, .slice A2 1 c2] w (StoreMakePost w sb o (makeSt s name nm kd y.own)) := by
  have HRU := Lib.hid (store_runs h hx)
  obtain ⟨lb, bb, pb, mh, mt, ms, fh, ft, fs, h⟩ := h
  have HH := Lib.hid h
  have HR := Lib.hid hr
  unfold RunsPost at HRU
  rw [hy] at HRU
  clear hr
  go_enter Tryz.func13, Tryz.ntmps13
  go_wp2_with fail
  refine HRU.out.mono ?_
  rintro e w1 ⟨hq1, A, c, rfl, hs1⟩
  clear HRU
  have hq2 : Quiet w (w1.alloc (.cells (snapCells y A c) 88)) := hq1.alloc _
  have hpb := alloc_new w1 (.cells (snapCells y A c) 88)
  have hs2 := hs1.kept ((Only.refl (fun _ => False) w1).alloc (.cells (snapCells y A c) 88)) (fun _ _ x => x)
  have hz1 := hq1.size
  obtain ⟨pv, hpv⟩ : ∃ pv, w1.heap.size = pv := ⟨_, rfl⟩
  unfold snapV
  go_wp2_with fail
  rw [hpv] at hpb hz1
  have hpo : o pv = 0 := h.big pv hz1
  obtain ⟨t1, t2, t3, t4, t5⟩ := h.tags
  generalize w1.alloc (.cells (snapCells y A c) 88) = w2 at *
  obtain ⟨c0, c1, q2, q3, _, _, _⟩ := (h.quietly hq2).cells
  obtain ⟨p0, p1, p2, p3⟩ : w2.cell? ⟨pv, 0, none⟩ = some (.int .u64 (y.own : Int)) ∧ w2.cell? ⟨pv, 1, none⟩ = some (.int .u64 (y.xmin : Int)) ∧ w2.cell? ⟨pv, 2, none⟩ = some (.int .u64 (y.xmax : Int)) ∧ w2.cell? ⟨pv, 3, none⟩ = some (.slice A y.run.length c) :=
    ⟨by rw [cell_of hpb]; rfl, by rw [cell_of hpb]; rfl, by rw [cell_of hpb]; rfl, by rw [cell_of hpb]; rfl⟩
  have hs3 : ¬ o sb = 3 := by omega
  have hp3 : ¬ o pv = 3 := by omega
  have HBK : Hid (Calls Tryz.prog 50 #[ptrV bb, ptrV lb, snapV y A c, .string name, .slice A2 1 c2] w2.drew (FirstPost w2.drew (fun k => o k = 3) bb s.blast ⟨s.blast + 1, name, [(nm, kd)], y.own, 0⟩)) := by
    have hbk := (h.quietly hq2).book
    rw [hT, hI] at hbk
    exact book_first (S := fun _ => False) (hbk.kept ((Only.refl (fun _ => False) w2).drew) (fun _ _ x => x)) hl hnm hcn hk hu (HR.out.kept hq2.drew (fun _ _ x => x)) hS hc2 hm2
  have HQ2 := Lib.hid hq2
  have lsb := cell_lt c0
  have lpv := cell_lt p0
  dsimp only at lsb lpv
  unfold snapV at HBK
  clear hq1 hs1 hs2 hpb hz1 hpo hq2 HR h t1 t2 t3 t4 t5
  refine wp_region_held_drew (S := fun w' => w'.cell? ⟨sb, 1, none⟩ = some (ptrV bb) ∧ w'.cell? ⟨sb, 0, none⟩ = some (ptrV lb) ∧ w'.cell? ⟨pv, 0, none⟩ = some (.int .u64 (y.own : Int)) ∧ w'.cell? ⟨pv, 1, none⟩ = some (.int .u64 (y.xmin : Int)) ∧ w'.cell? ⟨pv, 2, none⟩ = some (.int .u64 (y.xmax : Int)) ∧ w'.cell? ⟨pv, 3, none⟩ = some (.slice A y.run.length c)) (by kernel_rfl) (⟨c1, c0, p0, p1, p2, p3⟩) (fun hHeld => ?_)
  simp only [List.size_toArray, List.length_cons, List.length_nil, Nat.reduceAdd]
  (refine zTK 0 (oi := ?_) (v := ?_) ?_ ?_ (Or.inl ⟨?_, ?_⟩) ?_; rotate_left 2; (focus (simp only [zGA, zGZ, zGS] <;> rfl)); (focus (exact fun _ _ _ h => h)); (focus rfl); (focus (intro w hSw; (try dsimp only at hSw); go_simp; (try with_reducible rfl); done)); (try simp only [Act.put, zPA, zPZ, zPS]))
  (refine zTK 1 (oi := ?_) (v := ?_) ?_ ?_ (Or.inl ⟨?_, ?_⟩) ?_; rotate_left 2; (focus (simp only [zGA, zGZ, zGS] <;> rfl)); (focus (exact fun _ _ _ h => h)); (focus rfl); (focus (intro w hSw; (try dsimp only at hSw); go_simp; (try with_reducible rfl); done)); (try simp only [Act.put, zPA, zPZ, zPS]))
  (refine zTK 2 (oi := ?_) (v := ?_) ?_ ?_ (Or.inl ⟨?_, ?_⟩) ?_; rotate_left 2; (focus (simp only [zGA, zGZ, zGS] <;> rfl)); (focus (exact fun _ _ _ h => h)); (focus rfl); (focus (intro w hSw; (try dsimp only at hSw); go_simp; (try with_reducible rfl); done)); (try simp only [Act.put, zPA, zPZ, zPS]))
  (refine zTK 3 (oi := ?_) (v := ?_) ?_ ?_ (Or.inl ⟨?_, ?_⟩) ?_; rotate_left 2; (focus (simp only [zGA, zGZ, zGS] <;> rfl)); (focus (exact fun _ _ _ h => h)); (focus rfl); (focus (intro w hSw; (try dsimp only at hSw); go_simp; (try with_reducible rfl); done)); (try simp only [Act.put, zPA, zPZ, zPS]))
  (refine zTK 4 (oi := ?_) (v := ?_) ?_ ?_ (Or.inl ⟨?_, ?_⟩) ?_; rotate_left 2; (focus (simp only [zGA, zGZ, zGS] <;> rfl)); (focus (exact fun _ _ _ h => h)); (focus rfl); (focus (intro w hSw; (try dsimp only at hSw); go_simp; (try with_reducible rfl); done)); (try simp only [Act.put, zPA, zPZ, zPS]))
  (refine zTK 5 (oi := ?_) (v := ?_) ?_ ?_ (Or.inl ⟨?_, ?_⟩) ?_; rotate_left 2; (focus (simp only [zGA, zGZ, zGS] <;> rfl)); (focus (exact fun _ _ _ h => h)); (focus rfl); (focus (intro w hSw; (try dsimp only at hSw); go_simp; (try with_reducible rfl); done)); (try simp only [Act.put, zPA, zPZ, zPS]))
  (refine zTK 6 (oi := ?_) (v := ?_) ?_ ?_ (Or.inl ⟨?_, ?_⟩) ?_; rotate_left 2; (focus (simp only [zGA, zGZ, zGS] <;> rfl)); (focus (exact fun _ _ _ h => h)); (focus rfl); (focus (intro w hSw; (try dsimp only at hSw); go_simp; (try with_reducible rfl); done)); (try simp only [Act.put, zPA, zPZ, zPS]))
  (refine zTK 7 (oi := ?_) (v := ?_) ?_ ?_ (Or.inl ⟨?_, ?_⟩) ?_; rotate_left 2; (focus (simp only [zGA, zGZ, zGS] <;> rfl)); (focus (exact fun _ _ _ h => h)); (focus rfl); (focus (intro w hSw; (try dsimp only at hSw); go_simp; (try with_reducible rfl); done)); (try simp only [Act.put, zPA, zPZ, zPS]))
  (refine zTK 8 (oi := ?_) (v := ?_) ?_ ?_ (Or.inl ⟨?_, ?_⟩) ?_; rotate_left 2; (focus (simp only [zGA, zGZ, zGS] <;> rfl)); (focus (exact fun _ _ _ h => h)); (focus rfl); (focus (intro w hSw; (try dsimp only at hSw); go_simp; (try with_reducible rfl); done)); (try simp only [Act.put, zPA, zPZ, zPS]))
  (refine zTK 9 (oi := ?_) (v := ?_) ?_ ?_ (Or.inl ⟨?_, ?_⟩) ?_; rotate_left 2; (focus (simp only [zGA, zGZ, zGS] <;> rfl)); (focus (exact fun _ _ _ h => h)); (focus rfl); (focus (intro w hSw; (try dsimp only at hSw); go_simp; (try with_reducible rfl); done)); (try simp only [Act.put, zPA, zPZ, zPS]))
  (refine zTK 10 (oi := ?_) (v := ?_) ?_ ?_ (Or.inl ⟨?_, ?_⟩) ?_; rotate_left 2; (focus (simp only [zGA, zGZ, zGS] <;> rfl)); (focus (exact fun _ _ _ h => h)); (focus rfl); (focus (intro w hSw; (try dsimp only at hSw); go_simp; (try with_reducible rfl); done)); (try simp only [Act.put, zPA, zPZ, zPS]))
  refine wpAnyH_ready (rs := [11]) (by kernel_rfl) (by simp) ?_
  refine AllReadyH.cons (o := ?_) ?_ ?_ AllReadyH.nil
  rotate_left 1
  (focus (simp only [zGA, zGZ, zGS] <;> rfl))
  intro K hK
  go_simp
  go_at_call 50
  refine (HBK.out).mono ?_
  rintro e w3 ⟨rfl, ho3, hb3⟩
  dsimp only
  refine hK.out _ _ ?_ (fun hHeld => ?_)
  · exact ⟨ho3.cell hHeld.1 hs3, ho3.cell hHeld.2.1 hs3, ho3.cell hHeld.2.2.1 hp3, ho3.cell hHeld.2.2.2.1 hp3, ho3.cell hHeld.2.2.2.2.1 hp3, ho3.cell hHeld.2.2.2.2.2 hp3⟩
  clear hK K
  (try simp only [Act.put, zPA, zPZ, zPS])
  (refine zTK 12 (oi := ?_) (v := ?_) ?_ ?_ (Or.inl ⟨?_, ?_⟩) ?_; rotate_left 2; (focus (simp only [zGA, zGZ, zGS] <;> rfl)); (focus (exact fun _ _ _ h => h)); (focus rfl); (focus (intro w hSw; (try dsimp only at hSw); go_simp; (try with_reducible rfl); done)); (try simp only [Act.put, zPA, zPZ, zPS]))
  (refine zTK 13 (oi := ?_) (v := ?_) ?_ ?_ (Or.inl ⟨?_, ?_⟩) ?_; rotate_left 2; (focus (simp only [zGA, zGZ, zGS] <;> rfl)); (focus (exact fun _ _ _ h => h)); (focus rfl); (focus (intro w hSw; (try dsimp only at hSw); go_simp; (try with_reducible rfl); done)); (try simp only [Act.put, zPA, zPZ, zPS]))
  (refine zTK 14 (oi := ?_) (v := ?_) ?_ ?_ (Or.inl ⟨?_, ?_⟩) ?_; rotate_left 2; (focus (simp only [zGA, zGZ, zGS] <;> rfl)); (focus (exact fun _ _ _ h => h)); (focus rfl); (focus (intro w hSw; (try dsimp only at hSw); go_simp; (try with_reducible rfl); done)); (try simp only [Act.put, zPA, zPZ, zPS]))
  (refine zTK 15 (oi := ?_) (v := ?_) ?_ ?_ (Or.inl ⟨?_, ?_⟩) ?_; rotate_left 2; (focus (simp only [zGA, zGZ, zGS] <;> rfl)); (focus (exact fun _ _ _ h => h)); (focus rfl); (focus (intro w hSw; (try dsimp only at hSw); go_simp; (try with_reducible rfl); done)); (try simp only [Act.put, zPA, zPZ, zPS]))
  (refine zTK 16 (oi := ?_) (v := ?_) ?_ ?_ (Or.inl ⟨?_, ?_⟩) ?_; rotate_left 2; (focus (simp only [zGA, zGZ, zGS] <;> rfl)); (focus (exact fun _ _ _ h => h)); (focus rfl); (focus (intro w hSw; (try dsimp only at hSw); go_simp; (try with_reducible rfl); done)); (try simp only [Act.put, zPA, zPZ, zPS]))
  refine wpAnyH_done (by kernel_rfl) ?_ _
  have HO3 : Hid (Only (fun k => o k = 3) w2 w3) := ((Only.refl _ w2).drew).trans ho3
  have HB3 := Lib.hid hb3
  have d3 := HO3.out.cell q3 hs3
  have d2 := HO3.out.cell q2 hs3
  have HMH : Hid (MapF w3 mh fh) := ((HH.out.mH.kept HQ2.out (fun x => x)).kept HO3.out (by have := HH.out.tags.2.2.1; omega))
  have HX : Hid (U64 (s.blast + 1)) := by unfold Hid U64; omega
  have en : ((s.blast : Int) + 1) = ((s.blast + 1 : Nat) : Int) := by omega
  have lsb3 := cell_lt d3
  dsimp only at lsb3
  rw [en]
  clear ho3 hb3 hHeld c0 c1 p0 p1 p2 p3 q2 q3 HBK lsb lpv en
  go_wp2_with fail
  refine wp_region_last (S := fun w' => w'.cell? ⟨sb, 3, none⟩ = some (.map (some mh)) ∧ w'.cell? ⟨sb, 2, none⟩ = some (ptrV pb) ∧ Quiet w3 w') (by kernel_rfl) (by kernel_rfl) (by simp) (⟨d3, d2, (Only.refl _ _).drew⟩) (fun hHeld => ?_)
  simp only [List.pop_toArray, List.dropLast, List.size_toArray, List.length_cons, List.length_nil, Nat.reduceAdd, Nat.reduceSub]
  (refine zTK 0 (oi := ?_) (v := ?_) ?_ ?_ (Or.inl ⟨?_, ?_⟩) ?_; rotate_left 2; (focus (simp only [zGA, zGZ, zGS] <;> rfl)); (focus (exact fun _ _ _ => last_panic (fun h => h))); (focus rfl); (focus (intro w hSw; (try dsimp only at hSw); go_simp; (try with_reducible rfl); done)); (try simp only [Act.put, zPA, zPZ, zPS]))
  (refine zTK 1 (oi := ?_) (v := ?_) ?_ ?_ (Or.inl ⟨?_, ?_⟩) ?_; rotate_left 2; (focus (simp only [zGA, zGZ, zGS] <;> rfl)); (focus (exact fun _ _ _ => last_panic (fun h => h))); (focus rfl); (focus (intro w hSw; (try dsimp only at hSw); go_simp; (try with_reducible rfl); done)); (try simp only [Act.put, zPA, zPZ, zPS]))
  (refine zTK 2 (oi := ?_) (v := ?_) ?_ ?_ (Or.inl ⟨?_, ?_⟩) ?_; rotate_left 2; (focus (simp only [zGA, zGZ, zGS] <;> rfl)); (focus (exact fun _ _ _ => last_panic (fun h => h))); (focus rfl); (focus (intro w hSw; (try dsimp only at hSw); go_simp; (try with_reducible rfl); done)); (try simp only [Act.put, zPA, zPZ, zPS]))
  (refine zTK 3 (oi := ?_) (v := ?_) ?_ ?_ (Or.inl ⟨?_, ?_⟩) ?_; rotate_left 2; (focus (simp only [zGA, zGZ, zGS] <;> rfl)); (focus (exact fun _ _ _ => last_panic (fun h => h))); (focus rfl); (focus (intro w hSw; (try dsimp only at hSw); go_simp; (try with_reducible rfl); done)); (try simp only [Act.put, zPA, zPZ, zPS]))
  (refine zTK 4 (oi := ?_) (v := ?_) ?_ ?_ (Or.inl ⟨?_, ?_⟩) ?_; rotate_left 2; (focus (simp only [zGA, zGZ, zGS] <;> rfl)); (focus (exact fun _ _ _ => last_panic (fun h => h))); (focus rfl); (focus (intro w hSw; (try dsimp only at hSw); go_simp; (try with_reducible rfl); done)); (try simp only [Act.put, zPA, zPZ, zPS]))
  (refine zTK 5 (oi := ?_) (v := ?_) ?_ ?_ (Or.inl ⟨?_, ?_⟩) ?_; rotate_left 2; (focus (simp only [zGA, zGZ, zGS] <;> rfl)); (focus (exact fun _ _ _ => last_panic (fun h => h))); (focus rfl); (focus (intro w hSw; (try dsimp only at hSw); go_simp; (try with_reducible rfl); done)); (try simp only [Act.put, zPA, zPZ, zPS]))
  (refine zTK 6 (oi := ?_) (v := ?_) ?_ ?_ (Or.inl ⟨?_, ?_⟩) ?_; rotate_left 2; (focus (simp only [zGA, zGZ, zGS] <;> rfl)); (focus (exact fun _ _ _ => last_panic (fun h => h))); (focus rfl); (focus (intro w hSw; (try dsimp only at hSw); go_simp; (try with_reducible rfl); done)); (try simp only [Act.put, zPA, zPZ, zPS]))
  (refine zTK 7 (oi := ?_) (v := ?_) ?_ ?_ (Or.inl ⟨?_, ?_⟩) ?_; rotate_left 2; (focus (simp only [zGA, zGZ, zGS] <;> rfl)); (focus (exact fun _ _ _ => last_panic (fun h => h))); (focus rfl); (focus (intro w hSw; (try dsimp only at hSw); go_simp; (try with_reducible rfl); done)); (try simp only [Act.put, zPA, zPZ, zPS]))
  (refine zTK 8 (oi := ?_) (v := ?_) ?_ ?_ (Or.inl ⟨?_, ?_⟩) ?_; rotate_left 2; (focus (simp only [zGA, zGZ, zGS] <;> rfl)); (focus (exact fun _ _ _ => last_panic (fun h => h))); (focus rfl); (focus (intro w hSw; (try dsimp only at hSw); go_simp; (try with_reducible rfl); done)); (try simp only [Act.put, zPA, zPZ, zPS]))
  refine wpAnyH_ready (rs := [9]) (by kernel_rfl) (by simp) ?_
  refine AllReadyH.cons (o := ?_) ?_ ?_ ?_
  rotate_left 1
  (focus (simp only [zGA, zGZ, zGS] <;> rfl))
  · intro K hK
    go_simp
    go_at_call 51
    refine (heap_new pb _).mono ?_
    rintro e w5 ⟨hb, rfl, hq5, hh5⟩
    dsimp only
    refine hK.out _ _ ?_ (fun hHeld => ?_)
    · exact ⟨hq5.cell hHeld.1 (fun x => x), hq5.cell hHeld.2.1 (fun x => x), hHeld.2.2.trans hq5⟩
    clear hK K
    (try simp only [Act.put, zPA, zPZ, zPS])
    refine wpAnyH_done (by kernel_rfl) ?_ _
    refine last_step (o := ?_) ?_ ?_
    rotate_left 1
    (focus (simp only [zGA, zGZ, zGS] <;> rfl))
    intro K hK
    refine wp_put (.tmp 41) (.tmp 42) (.tmp 47) rfl (HMH.out.kept hHeld.2.2 (fun x => x)) Tryz.underlying82 Tryz.underlying22 rfl rfl rfl HX.out ?_
    intro w6 hm6 ho6
    refine hK.out _ _ ?_
    clear hK K
    have hm7 : MapF w6 mh (upd fh (s.blast + 1) (some (ptrV hb))) := hm6
    have HD : Hid (StepTo w sb o (makeSt s name nm kd y.own) w6) := storeMake_done HH.out hT hI hid HQ2.out HO3.out HB3.out hHeld.2.2 hh5 ho6 hm7
    clear hm6 hm7 ho6 hHeld hh5 hq5 HH HMH HQ2 HO3 HB3
    dsimp only [Act.put]
    go_wp2
    go_ret
    exact ⟨rfl, HD.out⟩
  exact AllReadyH.nil

end Go.Proofs.YtaijnpgoiagboaaGreatDoor

namespace Go.Proofs.YtaijnpgoiagboaaGreatDoor
open Go.RowKit Go.Lap

/-- Block sb is a store; all that is its own is new since w0, and none of it is the law's (K). -/
def LawSt (w0 w : World) (sb : Nat) (K : Nat → Prop) (s : St) : Prop := ∃ o, StoreAt w sb o s ∧ Quiet w0 w ∧ (∀ k, k < w0.heap.size → o k = 0) ∧ ∀ k, K k → o k = 0 ∧ k < w.heap.size

/-- What a call on it leaves. -/
def LawTo (w0 w : World) (sb : Nat) (K : Nat → Prop) (s' : St) (w' : World) : Prop := LawSt w0 w' sb K s' ∧ Only (fun k => w0.heap.size ≤ k ∧ ¬ K k) w w'

section
variable {w0 w w' w1 : World} {sb : Nat} {K K' : Nat → Prop} {s s' : St} {o : Nat → Nat}

theorem LawSt.quietly (h : LawSt w0 w sb K s) (hq : Quiet w w1) : LawSt w0 w1 sb (fun k => K k ∨ (w.heap.size ≤ k ∧ k < w1.heap.size)) s := by
  obtain ⟨o, h1, h2, h3, h4⟩ := h
  refine ⟨o, h1.quietly hq, h2.trans hq, h3, fun k hk => ?_⟩
  rcases hk with x | x
  · exact ⟨(h4 k x).1, Nat.lt_of_lt_of_le (h4 k x).2 hq.size⟩
  · exact ⟨h1.big k x.1, x.2⟩

theorem LawSt.mono (h : LawSt w0 w sb K s) (hk : ∀ k, K' k → K k) : LawSt w0 w sb K' s := by
  obtain ⟨o, h1, h2, h3, h4⟩ := h
  exact ⟨o, h1, h2, h3, fun k x => h4 k (hk k x)⟩

theorem LawSt.same (h : LawSt w0 w sb K s) (hq : Quiet w w1) : LawSt w0 w1 sb K s := (h.quietly hq).mono (fun _ x => Or.inl x)

/-- Where only what is the law's own turns. -/
theorem LawSt.turn (h : LawSt w0 w sb K s) (ho : Only K w w1) (hK : ∀ k, K k → w0.heap.size ≤ k) : LawSt w0 w1 sb K s := by
  obtain ⟨o, h1, h2, h3, h4⟩ := h
  exact ⟨o, h1.kept ho (fun k x => (h4 k x).1), h2.trans' ho (fun k hk x => by have := hK k x; omega), h3, fun k x => ⟨(h4 k x).1, Nat.lt_of_lt_of_le (h4 k x).2 ho.size⟩⟩

theorem LawSt.quiet (h : LawSt w0 w sb K s) : Quiet w0 w := by
  obtain ⟨o, h1, h2, h3, h4⟩ := h
  exact h2

theorem LawSt.lt (h : LawSt w0 w sb K s) {k : Nat} (hk : K k) : k < w.heap.size := by
  obtain ⟨o, h1, h2, h3, h4⟩ := h
  exact (h4 k hk).2

theorem law_step (h1 : StoreAt w sb o s) (h2 : Quiet w0 w) (h3 : ∀ k, k < w0.heap.size → o k = 0) (h4 : ∀ k, K k → o k = 0 ∧ k < w.heap.size) (hst : StepTo w sb o s' w') : LawTo w0 w sb K s' w' := by
  obtain ⟨o', a, b, c⟩ := hst
  have hs := h2.size
  refine ⟨⟨o', c, h2.trans' b (fun k hk x => x (h3 k hk)), fun k hk => by rw [a k (by omega)]; exact h3 k hk, fun k x => ?_⟩, b.mono (fun k hk x => ?_)⟩
  · obtain ⟨y1, y2⟩ := h4 k x
    exact ⟨by rw [a k y2]; exact y1, Nat.lt_of_lt_of_le y2 b.size⟩
  · refine ⟨?_, fun y => x (h4 k y).1⟩
    rcases Nat.lt_or_ge k w0.heap.size with y | y
    · exact absurd (h3 k y) x
    · exact y

theorem LawTo.st (h : LawTo w0 w sb K s' w') : LawSt w0 w' sb K s' := h.1

theorem law_new (n : Nat) (hn : n ≤ 256) (w : World) :
    Calls Tryz.prog 6 #[.int .i64 (n : Int)] w fun e w' => ∃ sb, e = .returned (.tuple #[ptrV sb, .int .i64 0]) ∧ LawSt w w' sb (fun _ => False) (st0 n) := by
  refine (store_new n hn w).mono ?_
  rintro e w' ⟨sb, o, rfl, hq, h0, hst⟩
  exact ⟨sb, rfl, o, hst, hq, h0, fun _ x => x.elim⟩

theorem law_begin (h : LawSt w0 w sb K s) (hl : s.L.length < 1000000) :
    Calls Tryz.prog 25 #[ptrV sb] w fun e w' => e = .returned (.tuple #[.int .u64 ((s.L.length : Int) + 1), .int .i64 0]) ∧ LawTo w0 w sb K (begSt s) w' := by
  obtain ⟨o, h1, h2, h3, h4⟩ := h
  refine (store_begin h1 hl).mono ?_
  rintro e w' ⟨rfl, hst⟩
  exact ⟨rfl, law_step h1 h2 h3 h4 hst⟩

theorem law_commit {x : Nat} (h : LawSt w0 w sb K s) (hx : U64 x) :
    Calls Tryz.prog 11 #[ptrV sb, .int .u64 (x : Int)] w fun e w' => e = .returned (.int .i64 ((endL s.L x 2).1 : Int)) ∧ LawTo w0 w sb K (endSt s x 2) w' := by
  obtain ⟨o, h1, h2, h3, h4⟩ := h
  refine (store_commit h1 hx).mono ?_
  rintro e w' ⟨rfl, hst⟩
  exact ⟨rfl, law_step h1 h2 h3 h4 hst⟩

theorem law_abort {x : Nat} (h : LawSt w0 w sb K s) (hx : U64 x) :
    Calls Tryz.prog 12 #[ptrV sb, .int .u64 (x : Int)] w fun e w' => e = .returned (.int .i64 ((endL s.L x 3).1 : Int)) ∧ LawTo w0 w sb K (endSt s x 3) w' := by
  obtain ⟨o, h1, h2, h3, h4⟩ := h
  refine (store_abort h1 hx).mono ?_
  rintro e w' ⟨rfl, hst⟩
  exact ⟨rfl, law_step h1 h2 h3 h4 hst⟩

theorem law_make {x kd c2 : Nat} {y : Snap} {name nm : ByteArray} {A2 : Option Addr} (h : LawSt w0 w sb K s) (hx : U64 x) (hy : s.sn x = some y) (hT : s.T = []) (hI : s.I = []) (hid : s.hs (s.blast + 1) = none) (hl : s.blast < 1000000) (hu : U64 y.own)
    (hnm : Small name) (hcn : Small nm) (hk : 1 ≤ kd ∧ kd ≤ 3) (hr : Rd w K 2 A2 1 (colsV [(nm, kd)])) (hc2 : 1 ≤ c2) (hm2 : c2 ≤ maxLen) :
    Calls Tryz.prog 13 #[ptrV sb, .int .u64 (x : Int), .string name, .slice A2 1 c2] w fun e w' => e = .returned (.int .i64 0) ∧ LawTo w0 w sb K (makeSt s name nm kd y.own) w' := by
  obtain ⟨o, h1, h2, h3, h4⟩ := h
  refine (store_make h1 hx hy hT hI hid hl hu hnm hcn hk hr (fun k hk => by have := (h4 k hk).1; omega) hc2 hm2).mono ?_
  rintro e w' ⟨rfl, hst⟩
  exact ⟨rfl, law_step h1 h2 h3 h4 hst⟩

theorem law_insert {x i c3 n left' : Nat} {y : Snap} {t : TE} {name nm : ByteArray} {Sv : Nat → Prop} {A3 : Option Addr} {H H' : List (List (Option Tup))} {p q : Int} (h : LawSt w0 w sb K s) (hx : U64 x) (hy : s.sn x = some y) (hf : findT s.L y name s.T = some i) (ht : s.T[i]? = some t) (hc : t.cols = [(nm, 1)]) (hid : U64 t.id)
    (hI : s.I = []) (hH : s.hs t.id = some H) (hle : H.length + s.left ≤ 256) (hn : n < 256) (hv : Rd w Sv 4 A3 1 (intRow n)) (hc3 : 1 ≤ c3) (hm3 : c3 ≤ maxLen) (hlast : s.last + 1 < 18446744073709551616) (hins : hIns H s.left ⟨s.last + 1, x, 0, -1, -1, rowI n⟩ = ((p, q, 0), H', left')) :
    Calls Tryz.prog 18 #[ptrV sb, .int .u64 (x : Int), .string name, .slice A3 1 c3] w fun e w' => e = .returned (.int .i64 0) ∧ LawTo w0 w sb K (insSt s t.id H' left') w' := by
  obtain ⟨o, h1, h2, h3, h4⟩ := h
  refine (store_insert h1 hx hy hf ht hc hid hI hH hle hn hv hc3 hm3 hlast hins).mono ?_
  rintro e w' ⟨rfl, hst⟩
  exact ⟨rfl, law_step h1 h2 h3 h4 hst⟩

theorem law_update {x i c3 n left' nr cr code : Nat} {y : Snap} {t : TE} {name nm : ByteArray} {Sv : Nat → Prop} {A3 Ar : Option Addr} {H H1 H2 : List (List (Option Tup))} {p q pg sl z : Int} {v : Tup} (h : LawSt w0 w sb K s) (hx : U64 x) (hy : s.sn x = some y) (hf : findT s.L y name s.T = some i) (ht : s.T[i]? = some t) (hc : t.cols = [(nm, 1)]) (hid : U64 t.id)
    (hI : s.I = []) (hH : s.hs t.id = some H) (hle : H.length + s.left ≤ 256) (hn : n < 256) (hv : Rd w Sv 4 A3 1 (intRow n)) (hc3 : 1 ≤ c3) (hm3 : c3 ≤ maxLen) (hg : hGet H pg sl = some v) (hx1 : U64 v.xmin) (hx2 : U64 v.xmax) (hcode : freeS s.L y v.xmin v.xmax = code)
    (hins : code = 0 → hIns H s.left ⟨v.row, x, 0, -1, -1, rowI n⟩ = ((p, q, 0), H1, left')) (hst : hStamp H1 pg sl x p q = (z, H2)) :
    Calls Tryz.prog 19 #[ptrV sb, .int .u64 (x : Int), .string name, .agg #[.int .u64 v.row, .int .i64 pg, .int .i64 sl, .slice Ar nr cr], .slice A3 1 c3] w fun e w' => if code = 0 then e = .returned (.int .i64 z) ∧ LawTo w0 w sb K (putSt s t.id H2 left') w' else e = .returned (.int .i64 (code : Int)) ∧ LawTo w0 w sb K s w' := by
  obtain ⟨o, h1, h2, h3, h4⟩ := h
  refine (store_update h1 hx hy hf ht hc hid hI hH hle hn hv hc3 hm3 hg hx1 hx2 hcode hins hst).mono ?_
  intro e w' hp
  unfold UpdPost at hp
  split at hp
  · rename_i hz
    rw [if_pos hz]
    exact ⟨hp.1, law_step h1 h2 h3 h4 hp.2⟩
  · rename_i hz
    rw [if_neg hz]
    exact ⟨hp.1, law_step h1 h2 h3 h4 hp.2⟩

theorem law_scan {x i : Nat} {y : Snap} {t : TE} {name nm : ByteArray} {H : List (List (Option Tup))} (h : LawSt w0 w sb K s) (hx : U64 x) (hy : s.sn x = some y) (hf : findT s.L y name s.T = some i) (ht : s.T[i]? = some t) (hc : t.cols = [(nm, 1)]) (hid : U64 t.id)
    (hH : s.hs t.id = some H) (hN : ∀ k, k ≤ H.length → (placesH H k).length ≤ 1000000) (hI : IntHeap H) :
    Calls Tryz.prog 7 #[ptrV sb, .int .u64 (x : Int), .string name] w (StoreScanPost w (seenR H s.L y (placesH H H.length))) := by
  obtain ⟨o, h1, h2, h3, h4⟩ := h
  exact store_scan h1 hx hy hf ht hc hid hH hN hI
end

/-- A row in a block that is new. -/
def LitRow (w : World) (size : Nat) (xs : List Value) (e : Ending) (w' : World) : Prop := ∃ b, e = .returned (.slice (some ⟨b, 0, none⟩) 1 1) ∧ Quiet w w' ∧ w.heap.size ≤ b ∧ b < w'.heap.size ∧ Rd w' (fun k => k = b) size (some ⟨b, 0, none⟩) 1 xs

end Go.Proofs.YtaijnpgoiagboaaGreatDoor

namespace Go.Proofs.YtaijnpgoiagboaaGreatDoor
open Go.RowKit Go.Lap

/-- The law's one table. -/
def tabA : TE := ⟨1, ⟨#[116]⟩, [(⟨#[97]⟩, 1)], 1, 0⟩

/-- A store of that table alone. -/
def stA (L : List Nat) (H : List (List (Option Tup))) (left last : Nat) (sn : Nat → Option Snap) : St := ⟨L, [tabA], [], 1, left, upd (fun _ => none) 1 (some H), fun _ => none, sn, last⟩

section
variable {L : List Nat} {H H' : List (List (Option Tup))} {left left' last x v : Nat} {sn : Nat → Option Snap}

theorem stA_ins : insSt (stA L H left last sn) tabA.id H' left' = stA L H' left' (last + 1) sn := by
  show insSt (stA L H left last sn) 1 H' left' = _
  simp only [insSt, stA, upd_upd]
theorem stA_put : putSt (stA L H left last sn) tabA.id H' left' = stA L H' left' last sn := by
  show putSt (stA L H left last sn) 1 H' left' = _
  simp only [putSt, stA, upd_upd]
end

/-- The table is seen by whoever sees transaction 1. -/
theorem tabA_found {L : List Nat} {y : Snap} (h : seesS L y 1 = true) : findT L y ⟨#[116]⟩ [tabA] = some 0 := by
  unfold findT
  rw [List.findIdx?_cons]
  have : isTE L y ⟨#[116]⟩ tabA = true := by
    unfold isTE visS
    show ((⟨#[116]⟩ : ByteArray).toList == (⟨#[116]⟩ : ByteArray).toList && (seesS L y 1 && (decide ((0 : Nat) = 0) || !seesS L y 0))) = true
    rw [h]
    simp
  rw [if_pos this]

/-- A version of nine bytes. -/
def Nine (s : Option Tup) : Prop := ∃ v, s = some v ∧ v.data.length = 9

theorem nine_spent {T : List (Option Tup)} (h : ∀ s ∈ T, Nine s) : spentT T = 43 * T.length := by
  induction T with
  | nil => rfl
  | cons s T ih =>
    obtain ⟨v, rfl, hv⟩ := h s (List.mem_cons_self ..)
    have := ih (fun s hs => h s (List.mem_cons_of_mem _ hs))
    unfold spentT at this ⊢
    rw [List.map_cons, List.sum_cons, this, List.length_cons]
    show 4 + v.size + _ = _
    unfold Tup.size
    omega

theorem nine_free {T : List (Option Tup)} (h : ∀ s ∈ T, Nine s) : freeT T = T.length := by
  unfold freeT
  rw [List.findIdx?_eq_none_iff.2 (fun s hs => by obtain ⟨v, rfl, _⟩ := h s hs; rfl)]
  rfl

theorem nine_room {T : List (Option Tup)} (h : ∀ s ∈ T, Nine s) (hm : T.length ≤ 10) : 9 ≤ roomT T := by
  unfold roomT
  rw [nine_spent h, nine_free h, if_pos rfl]
  omega

theorem nine_ins {T : List (Option Tup)} {t : Tup} {left : Nat} (h : ∀ s ∈ T, Nine s) (hm : T.length ≤ 10) (ht : t.rightB = true) (hd : t.data.length = 9) : hIns [T] left t = (((0 : Int), (T.length : Int), 0), [T ++ [some t]], left) := by
  unfold hIns
  rw [if_neg (by rw [ht]; decide), hd]
  have : findH [T] 9 = some 0 := by
    unfold findH
    rw [List.findIdx?_cons, if_pos (by simpa using nine_room h hm)]
  rw [this]
  show (((0 : Int), ((freeT T : Nat) : Int), 0), [insT T t], left) = _
  unfold insT
  rw [nine_free h, if_pos rfl]

theorem nine_first {t : Tup} {left : Nat} (ht : t.rightB = true) (hl : left ≠ 0) : hIns [] left t = (((0 : Int), 0, 0), [[some t]], left - 1) := by
  unfold hIns
  rw [if_neg (by rw [ht]; decide)]
  show (if left = 0 then _ else _) = _
  rw [if_neg hl]
  rfl

theorem nine_right {r x n : Nat} (hr : r ≤ 1099511627776) (hx : x ≤ 1099511627776) : (⟨r, x, 0, -1, -1, rowI n⟩ : Tup).rightB = true := by
  unfold Tup.rightB
  refine decide_eq_true ⟨hr, hx, Nat.zero_le _, (by show farB (-1) (-1) = false; decide), ?_⟩
  show (rowI n).length ≤ 200
  rw [rowI_length]
  omega

/-- The first version of a page, stamped. -/
theorem nine_stamp {v : Tup} {T : List (Option Tup)} {x : Nat} {p q : Int} (hx : x ≤ 1099511627776) (hf : farB p q = false) : hStamp [some v :: T] 0 0 x p q = (0, [some (v.stamp x p q) :: T]) := by
  unfold hStamp
  rw [if_neg (by simp)]
  have : pStampT (some v :: T) 0 x p q = (0, some (v.stamp x p q) :: T) := by
    unfold pStampT
    rw [if_neg (by rw [hf]; simp; omega)]
    rfl
  show ((pStampT (some v :: T) 0 x p q).1, [(pStampT (some v :: T) 0 x p q).2]) = _
  rw [this]

end Go.Proofs.YtaijnpgoiagboaaGreatDoor

namespace Go.Proofs.YtaijnpgoiagboaaGreatDoor
open Go.RowKit Go.Lap

set_option maxRecDepth 100000 in
theorem law_num (n : Int) (w : World) : Calls Tryz.prog 33 #[.int .i64 n] w (LitRow w 4 (intRow n)) := by
  have hN : LitRow w 4 (intRow n) (.returned (.slice (some ⟨w.heap.size, 0, none⟩) 1 1)) (w.alloc (.cells #[.int .u8 1, .int .i64 n, .string ⟨#[]⟩, .bool false] 73)) := ⟨w.heap.size, rfl, (Only.refl _ _).alloc _, Nat.le_refl _, by simp, Rd.new w 4 1 (intRow n) _ _ rfl rfl⟩
  have HN := Lib.hid hN
  clear hN
  obtain ⟨POST, hPOST⟩ : ∃ POST, LitRow w 4 (intRow n) = POST := ⟨_, rfl⟩
  rw [hPOST] at HN ⊢
  clear hPOST
  go_enter Tryz.func33, Tryz.ntmps33
  go_wp2
  exact HN.out

set_option maxRecDepth 100000 in
theorem law_one (w : World) : Calls Tryz.prog 14 #[] w (LitRow w 2 (colsV [(⟨#[97]⟩, 1)])) := by
  have hN : LitRow w 2 (colsV [(⟨#[97]⟩, 1)]) (.returned (.slice (some ⟨w.heap.size, 0, none⟩) 1 1)) (w.alloc (.cells #[.string ⟨#[97]⟩, .int .u8 1] 116)) := ⟨w.heap.size, rfl, (Only.refl _ _).alloc _, Nat.le_refl _, by simp, Rd.new w 2 1 (colsV [(⟨#[97]⟩, 1)]) _ _ rfl rfl⟩
  have HN := Lib.hid hN
  clear hN
  obtain ⟨POST, hPOST⟩ : ∃ POST, LitRow w 2 (colsV [(⟨#[97]⟩, 1)]) = POST := ⟨_, rfl⟩
  rw [hPOST] at HN ⊢
  clear hPOST
  go_enter Tryz.func14, Tryz.ntmps14
  go_wp2
  exact HN.out

end Go.Proofs.YtaijnpgoiagboaaGreatDoor

namespace Go.Proofs.YtaijnpgoiagboaaGreatDoor
open Go.RowKit Go.Lap

/-- One row that is told: where it lies. -/
structure OneRow (w wr : World) (v : Value) (id : Nat) (pg sl : Int) (n b c b2 c2 : Nat) : Prop where
  form : v = .slice (some ⟨b, 0, none⟩) 1 c
  quiet : Quiet w wr
  nb : w.heap.size ≤ b ∧ b < wr.heap.size
  nb2 : w.heap.size ≤ b2 ∧ b2 < wr.heap.size
  c0 : wr.cell? ⟨b, 0, none⟩ = some (.int .u64 (id : Int))
  c1 : wr.cell? ⟨b, 1, none⟩ = some (.int .i64 pg)
  c2' : wr.cell? ⟨b, 2, none⟩ = some (.int .i64 sl)
  c3 : wr.cell? ⟨b, 3, none⟩ = some (.slice (some ⟨b2, 0, none⟩) 1 c2)
  cv : wr.cell? ⟨b2, 1, none⟩ = some (.int .i64 (n : Int))

theorem RowsW.one {w wr : World} {v : Value} {M : List RowM} {id : Nat} {pg sl : Int} {n : Nat} (h : RowsW w wr v M) (hp : (M.map RowM.told).Perm [(id, pg, sl, n)]) : ∃ b c b2 c2, OneRow w wr v id pg sl n b c b2 c2 := by
  have hm := List.perm_singleton.1 hp
  rcases M with _ | ⟨m, _ | ⟨m2, M⟩⟩
  · cases hm
  rotate_left 1
  · cases hm
  injection hm with hm _
  obtain ⟨i, p, s, k, A, c'⟩ := m
  injection hm with e1 hm
  injection hm with e2 hm
  injection hm with e3 e4
  subst e1 e2 e3 e4
  have hown := h.own
  rcases owns_cases hown with ⟨_, e⟩ | ⟨b, c, rfl, _, _⟩
  · cases e
  obtain ⟨hn, hv⟩ := h.vals _ (List.mem_singleton_self _)
  rcases owns_cases hv with ⟨_, e⟩ | ⟨b2, c2, e, _, _⟩
  · cases e
  injection e with eA _ ec
  dsimp only at eA ec
  subst eA
  first | subst ec | skip
  obtain ⟨cb, hcb⟩ := own_blk hown (k := b) rfl
  obtain ⟨cb2, hcb2⟩ := own_blk hv (k := b2) rfl
  have k0 := hown.cells (by rfl) 0 (.int .u64 (i : Int)) rfl
  have k1 := hown.cells (by rfl) 1 (.int .i64 p) rfl
  have k2 := hown.cells (by rfl) 2 (.int .i64 s) rfl
  have k3 := hown.cells (by rfl) 3 (.slice (some ⟨b2, 0, none⟩) 1 c') rfl
  have kv := hv.cells (by rfl) 1 (.int .i64 (k : Int)) rfl
  exact ⟨b, c, b2, c', rfl, h.quiet, ⟨h.new b rfl, lt_of_get hcb⟩, ⟨hn b2 rfl, lt_of_get hcb2⟩, k0, k1, k2, k3, kv⟩

theorem OneRow.kept {w wr wn : World} {v : Value} {id n b c b2 c2 : Nat} {pg sl : Int} {S : Nat → Prop} (h : OneRow w wr v id pg sl n b c b2 c2) (ho : Only S wr wn) (h1 : ¬ S b) (h2 : ¬ S b2) :
    wn.cell? ⟨b, 0, none⟩ = some (.int .u64 (id : Int)) ∧ wn.cell? ⟨b, 1, none⟩ = some (.int .i64 pg) ∧ wn.cell? ⟨b, 2, none⟩ = some (.int .i64 sl) ∧ wn.cell? ⟨b, 3, none⟩ = some (.slice (some ⟨b2, 0, none⟩) 1 c2) ∧ wn.cell? ⟨b2, 1, none⟩ = some (.int .i64 (n : Int)) :=
  ⟨ho.cell h.c0 h1, ho.cell h.c1 h1, ho.cell h.c2' h1, ho.cell h.c3 h1, ho.cell h.cv h2⟩

/-- The example's heaps. -/
def t7 : Tup := ⟨1, 1, 0, -1, -1, rowI 7⟩
def t8 : Tup := ⟨1, 2, 0, -1, -1, rowI 8⟩
def sn3 : Nat → Option Snap := upd (upd (upd (upd (fun _ => none) 1 (some (takeS [1] 1))) 1 none) 2 (some (takeS [2, 1] 2))) 3 (some (takeS [2, 1, 1] 3))

theorem int_one {T : List (Option Tup)} (h : ∀ s ∈ T, ∃ v, s = some v ∧ U64 v.xmin ∧ U64 v.xmax ∧ ∃ n, n < 256 ∧ v.data = rowI n) : IntHeap [T] := by
  intro pg sl v hv
  unfold hGet at hv
  split at hv
  · cases hv
  · unfold tupAt at hv
    split at hv
    · cases hv
    · rcases hp : pg.toNat with _ | k
      · rw [hp] at hv
        have e : ([T] : List (List (Option Tup))).getD 0 [] = T := rfl
        rw [e] at hv
        cases hx : T[sl.toNat]? with
        | none => rw [hx] at hv; cases hv
        | some u =>
          rw [hx] at hv
          obtain ⟨v', rfl, h1, h2, h3⟩ := h u (List.mem_of_getElem? hx)
          have : v' = v := by simpa using hv
          subst this
          exact ⟨h1, h2, h3⟩
      · rw [hp] at hv
        have e : ([T] : List (List (Option Tup))).getD (k + 1) [] = [] := rfl
        rw [e] at hv
        simp at hv

theorem places_small {T : List (Option Tup)} (h : T.length ≤ 1000000) : ∀ k, k ≤ [T].length → (placesH [T] k).length ≤ 1000000 := by
  intro k hk
  have hl : ∀ (p : Int) (m : Nat), (placesTo p T m).length ≤ m := fun p m => by
    unfold placesTo
    have := List.length_filterMap_le (fun s : Nat => if ((T[s]?).join).isSome then some (p, (s : Int)) else none) (List.range m)
    simpa using this
  rcases k with _ | _ | k
  · exact Nat.zero_le _
  · show ([] ++ placesTo ((0 : Nat) : Int) T T.length).length ≤ 1000000
    rw [List.nil_append]
    exact Nat.le_trans (hl _ _) h
  · simp at hk

theorem small_t : Small ⟨#[116]⟩ := ⟨by decide, by decide, fun i h => by
  obtain rfl : i = 0 := by have : i < 1 := h; omega
  decide +revert⟩
theorem small_a : Small ⟨#[97]⟩ := ⟨by decide, by decide, fun i h => by
  obtain rfl : i = 0 := by have : i < 1 := h; omega
  decide +revert⟩

set_option maxHeartbeats 4000000 in
set_option maxRecDepth 100000 in
theorem awake12 (w : World) : Calls Tryz.prog 4 #[] w fun e w' => e = .returned (.bool true) ∧ Quiet w w' := by
  obtain ⟨POST, hPOST⟩ : ∃ POST : Ending → World → Prop, (fun e w' => e = .returned (.bool true) ∧ Quiet w w') = POST := ⟨_, rfl⟩
  rw [hPOST]
  have HPOST := Lib.hid hPOST
  clear hPOST
  go_enter Tryz.func4, Tryz.ntmps4
  go_wp2_with fail
  refine (law_new 10 (by omega) _).mono ?_
  rintro e w1 ⟨sb, rfl, h1⟩
  have H1 := Lib.hid h1
  clear h1
  go_wp2_with fail
  refine (law_begin H1.out (by decide)).mono ?_
  rintro e w2 ⟨rfl, h2⟩
  have H2 := Lib.hid h2.st
  clear h2
  go_wp2_with fail
  refine (law_one _).mono ?_
  rintro e w3 ⟨b3, rfl, hq3, hn3, hl3, hr3⟩
  have H3 := Lib.hid (H2.out.quietly hq3)
  have HMK : Hid (Calls Tryz.prog 13 #[ptrV sb, .int .u64 1, .string ⟨#[116]⟩, .slice (some ⟨b3, 0, none⟩) 1 1] w3 (fun e w' => e = .returned (.int .i64 0) ∧ LawSt w w' sb (fun _ => False) (stA [1] [] 10 0 (upd (fun _ => none) 1 (some (takeS [1] 1)))))) := by
    refine (law_make (x := 1) (y := takeS [1] 1) (name := ⟨#[116]⟩) (nm := ⟨#[97]⟩) (kd := 1) H3.out (by unfold U64; omega) rfl rfl rfl rfl (by decide) (by unfold U64; decide) small_t small_a ⟨by omega, by omega⟩ (hr3.mono (fun k e => Or.inr ⟨by omega, by omega⟩)) (by omega) (by unfold maxLen; omega)).mono ?_
    rintro e w' ⟨rfl, h⟩
    exact ⟨rfl, h.st.mono (fun _ x => x.elim)⟩
  clear hq3 hn3 hl3 hr3
  go_wp2_with fail
  refine HMK.out.mono ?_
  rintro e w4 ⟨rfl, h4⟩
  have H4 := Lib.hid h4
  clear h4 HMK
  go_wp2_with fail
  refine (law_num 7 _).mono ?_
  rintro e w5 ⟨b5, rfl, hq5, hn5, hl5, hr5⟩
  have HIN : Hid (Calls Tryz.prog 18 #[ptrV sb, .int .u64 1, .string ⟨#[116]⟩, .slice (some ⟨b5, 0, none⟩) 1 1] w5 (fun e w' => e = .returned (.int .i64 0) ∧ LawSt w w' sb (fun _ => False) (stA [1] [[some t7]] 9 1 (upd (fun _ => none) 1 (some (takeS [1] 1)))))) := by
    refine (law_insert (x := 1) (n := 7) (y := takeS [1] 1) (t := tabA) (i := 0) (H' := [[some t7]]) (left' := 9) (p := 0) (q := 0) (H4.out.same hq5) (by unfold U64; omega) rfl (tabA_found rfl) rfl rfl (by unfold U64; decide) rfl rfl (by decide) (by omega) hr5 (by omega) (by unfold maxLen; omega) (by decide) (nine_first (nine_right (by decide) (by decide)) (by decide))).mono ?_
    rintro e w' ⟨rfl, h⟩
    exact ⟨rfl, by have := h.st; rw [stA_ins] at this; exact this⟩
  clear hq5 hn5 hl5 hr5
  go_wp2_with fail
  refine HIN.out.mono ?_
  rintro e w6 ⟨rfl, h6⟩
  have H6 := Lib.hid h6
  clear h6 HIN
  have HCO : Hid (Calls Tryz.prog 11 #[ptrV sb, .int .u64 1] w6 (fun e w' => e = .returned (.int .i64 0) ∧ LawSt w w' sb (fun _ => False) (stA [2] [[some t7]] 9 1 (upd (upd (fun _ => none) 1 (some (takeS [1] 1))) 1 none)))) := by
    refine (law_commit (x := 1) H6.out (by unfold U64; omega)).mono ?_
    rintro e w' ⟨rfl, h⟩
    exact ⟨rfl, h.st⟩
  go_wp2_with fail
  refine HCO.out.mono ?_
  rintro e w7 ⟨rfl, h7⟩
  have H7 := Lib.hid h7
  clear h7 HCO
  go_wp2_with fail
  refine (law_begin H7.out (by decide)).mono ?_
  rintro e w8 ⟨rfl, h8⟩
  have H8 := Lib.hid h8.st
  clear h8
  go_wp2_with fail
  refine (law_begin H8.out (by decide)).mono ?_
  rintro e w9 ⟨rfl, h9⟩
  have H9 : Hid (LawSt w w9 sb (fun _ => False) (stA [2, 1, 1] [[some t7]] 9 1 sn3)) := h9.st
  clear h9
  have HSC : Hid (Calls Tryz.prog 7 #[ptrV sb, .int .u64 2, .string ⟨#[116]⟩] w9 (StoreScanPost w9 [(1, 0, 0, 7)])) :=
    law_scan (x := 2) (y := takeS [2, 1] 2) (t := tabA) (i := 0) (H := [[some t7]]) H9.out (by unfold U64; omega) rfl (tabA_found rfl) rfl rfl (by unfold U64; decide) rfl (places_small (by decide)) (int_one (fun s hs => by
      rw [List.mem_singleton] at hs
      exact ⟨t7, hs, by unfold U64; decide, by unfold U64; decide, 7, by omega, rfl⟩))
  go_wp2_with fail
  refine HSC.out.mono ?_
  rintro e wa ⟨va, M, rfl, hrw, hpm, _⟩
  obtain ⟨b, c, b2, c2, hone⟩ := hrw.one hpm
  obtain rfl := hone.form
  have HONE := Lib.hid hone
  have HA : Hid (LawSt w wa sb (fun k => k = b ∨ k = b2) (stA [2, 1, 1] [[some t7]] 9 1 sn3)) := (H9.out.quietly hrw.quiet).mono (fun k x => Or.inr (by have := hone.nb; have := hone.nb2; omega))
  clear hrw hpm hone HSC
  have HS10 : Hid (∀ W, Only (fun k => ¬ (k = b ∨ k = b2)) wa W → (fun w' => w'.cell? ⟨b, 0, none⟩ = some (.int .u64 1) ∧ w'.cell? ⟨b, 1, none⟩ = some (.int .i64 0) ∧ w'.cell? ⟨b, 2, none⟩ = some (.int .i64 0) ∧ w'.cell? ⟨b, 3, none⟩ = some (.slice (some ⟨b2, 0, none⟩) 1 c2)) W) := fun W ho => by
    obtain ⟨k0, k1, k2, k3, _⟩ := HONE.out.kept ho (fun x => x (Or.inl rfl)) (fun x => x (Or.inr rfl))
    exact ⟨k0, k1, k2, k3⟩
  have HU10 : Hid (∀ W, Quiet wa W → ∀ bn, Rd W (fun k => k = bn) 4 (some ⟨bn, 0, none⟩) 1 (intRow 8) → Calls Tryz.prog 19 #[ptrV sb, .int .u64 2, .string ⟨#[116]⟩, .agg #[.int .u64 1, .int .i64 0, .int .i64 0, .slice (some ⟨b2, 0, none⟩) 1 c2], .slice (some ⟨bn, 0, none⟩) 1 1] W (fun e w' => e = .returned (.int .i64 0) ∧ LawTo w W sb (fun k => k = b ∨ k = b2) (stA [2, 1, 1] [[some (t7.stamp 2 0 1), some t8]] 9 1 sn3) w')) := fun W hq bn hr => by
    refine (law_update (x := 2) (n := 8) (y := takeS [2, 1] 2) (t := tabA) (i := 0) (H := [[some t7]]) (H1 := [[some t7, some t8]]) (H2 := [[some (t7.stamp 2 0 1), some t8]]) (p := 0) (q := 1) (pg := 0) (sl := 0) (z := 0) (v := t7) (code := 0) (left' := 9) (HA.out.same hq) (by unfold U64; omega) rfl (tabA_found rfl) rfl rfl (by unfold U64; decide) rfl rfl (by decide) (by omega) hr (by omega) (by unfold maxLen; omega) rfl (by unfold U64; decide) (by unfold U64; decide) rfl (fun _ => nine_ins (T := [some t7]) (fun s hs => by rw [List.mem_singleton] at hs; exact ⟨t7, hs, rowI_length 7⟩) (by decide) (nine_right (by decide) (by decide)) (rowI_length 8)) (nine_stamp (by decide) (by decide))).mono ?_
    intro e w' hp
    rw [if_pos rfl] at hp
    refine ⟨hp.1, ?_⟩
    have := hp.2
    rw [stA_put] at this
    exact this
  go_wp2_with fail
  refine wp_region_held_drew (S := (fun w' => w'.cell? ⟨b, 0, none⟩ = some (.int .u64 1) ∧ w'.cell? ⟨b, 1, none⟩ = some (.int .i64 0) ∧ w'.cell? ⟨b, 2, none⟩ = some (.int .i64 0) ∧ w'.cell? ⟨b, 3, none⟩ = some (.slice (some ⟨b2, 0, none⟩) 1 c2))) (by kernel_rfl) (HS10.out _ ((Only.refl _ _).drew)) (fun hHeld => ?_)
  simp only [List.size_toArray, List.length_cons, List.length_nil, Nat.reduceAdd]
  have q0 : Quiet wa wa.drew := (Only.refl _ _).drew
  generalize wa.drew = d0 at q0 hHeld ⊢
  (refine zTK 0 (oi := ?_) (v := ?_) ?_ ?_ (Or.inl ⟨?_, ?_⟩) ?_; rotate_left 2; (focus (simp only [zGA, zGZ, zGS] <;> rfl)); (focus (exact fun _ _ _ h => h)); (focus rfl); (focus (intro w hSw; (try dsimp only at hSw); go_simp; (try with_reducible rfl); done)); (try simp only [Act.put, zPA, zPZ, zPS]))
  (refine zTK 1 (oi := ?_) (v := ?_) ?_ ?_ (Or.inl ⟨?_, ?_⟩) ?_; rotate_left 2; (focus (simp only [zGA, zGZ, zGS] <;> rfl)); (focus (exact fun _ _ _ h => h)); (focus rfl); (focus (intro w hSw; (try dsimp only at hSw); go_simp; (try with_reducible rfl); done)); (try simp only [Act.put, zPA, zPZ, zPS]))
  (refine zTK 2 (oi := ?_) (v := ?_) ?_ ?_ (Or.inl ⟨?_, ?_⟩) ?_; rotate_left 2; (focus (simp only [zGA, zGZ, zGS] <;> rfl)); (focus (exact fun _ _ _ h => h)); (focus rfl); (focus (intro w hSw; (try dsimp only at hSw); go_simp; (try with_reducible rfl); done)); (try simp only [Act.put, zPA, zPZ, zPS]))
  (refine zTK 3 (oi := ?_) (v := ?_) ?_ ?_ (Or.inl ⟨?_, ?_⟩) ?_; rotate_left 2; (focus (simp only [zGA, zGZ, zGS] <;> rfl)); (focus (exact fun _ _ _ h => h)); (focus rfl); (focus (intro w hSw; (try dsimp only at hSw); go_simp; (try with_reducible rfl); done)); (try simp only [Act.put, zPA, zPZ, zPS]))
  (refine zTK 4 (oi := ?_) (v := ?_) ?_ ?_ (Or.inl ⟨?_, ?_⟩) ?_; rotate_left 2; (focus (simp only [zGA, zGZ, zGS] <;> rfl)); (focus (exact fun _ _ _ h => h)); (focus rfl); (focus (intro w hSw; (try dsimp only at hSw); go_simp; (try with_reducible rfl); done)); (try simp only [Act.put, zPA, zPZ, zPS]))
  (refine zTK 5 (oi := ?_) (v := ?_) ?_ ?_ (Or.inl ⟨?_, ?_⟩) ?_; rotate_left 2; (focus (simp only [zGA, zGZ, zGS] <;> rfl)); (focus (exact fun _ _ _ h => h)); (focus rfl); (focus (intro w hSw; (try dsimp only at hSw); go_simp; (try with_reducible rfl); done)); (try simp only [Act.put, zPA, zPZ, zPS]))
  (refine zTK 6 (oi := ?_) (v := ?_) ?_ ?_ (Or.inl ⟨?_, ?_⟩) ?_; rotate_left 2; (focus (simp only [zGA, zGZ, zGS] <;> rfl)); (focus (exact fun _ _ _ h => h)); (focus rfl); (focus (intro w hSw; (try dsimp only at hSw); go_simp; (try with_reducible rfl); done)); (try simp only [Act.put, zPA, zPZ, zPS]))
  (refine zTK 7 (oi := ?_) (v := ?_) ?_ ?_ (Or.inl ⟨?_, ?_⟩) ?_; rotate_left 2; (focus (simp only [zGA, zGZ, zGS] <;> rfl)); (focus (exact fun _ _ _ h => h)); (focus rfl); (focus (intro w hSw; (try dsimp only at hSw); go_simp; (try with_reducible rfl); done)); (try simp only [Act.put, zPA, zPZ, zPS]))
  refine wpAnyH_ready (rs := [8]) (by kernel_rfl) (by simp) ?_
  refine AllReadyH.cons (o := ?_) ?_ ?_ AllReadyH.nil
  rotate_left 1
  (focus (simp only [zGA, zGZ, zGS] <;> rfl))
  intro K hK
  go_simp
  go_at_call 33
  refine (law_num 8 _).mono ?_
  rintro e d1 ⟨bn, rfl, hqn, _, _, hrn⟩
  have q1 := q0.trans hqn
  clear hqn
  dsimp only
  refine hK.out _ _ ?_ (fun hHeld => ?_)
  · exact HS10.out _ (q1.mono (fun _ _ x => x.elim))
  clear hK K
  (try simp only [Act.put, zPA, zPZ, zPS])
  refine wpAnyH_ready (rs := [9]) (by kernel_rfl) (by simp) ?_
  refine AllReadyH.cons (o := ?_) ?_ ?_ AllReadyH.nil
  rotate_left 1
  (focus (simp only [zGA, zGZ, zGS] <;> rfl))
  intro K hK
  go_simp
  go_at_call 19
  refine (HU10.out _ q1 bn hrn).mono ?_
  rintro e d2 ⟨rfl, hlt⟩
  have q2 : Only (fun k => ¬ (k = b ∨ k = b2)) _ d2 := (q1.mono (T := fun k => ¬ (k = b ∨ k = b2)) (fun _ _ x => x.elim)).trans' hlt.2 (fun k _ x => x.2)
  dsimp only
  refine hK.out _ _ ?_ (fun hHeld => ?_)
  · exact HS10.out _ q2
  clear hK K
  (try simp only [Act.put, zPA, zPZ, zPS])
  (refine zTK 10 (oi := ?_) (v := ?_) ?_ ?_ (Or.inl ⟨?_, ?_⟩) ?_; rotate_left 2; (focus (simp only [zGA, zGZ, zGS] <;> rfl)); (focus (exact fun _ _ _ h => h)); (focus rfl); (focus (intro w hSw; (try dsimp only at hSw); go_simp; (try with_reducible rfl); done)); (try simp only [Act.put, zPA, zPZ, zPS]))
  (refine zTK 11 (oi := ?_) (v := ?_) ?_ ?_ (Or.inl ⟨?_, ?_⟩) ?_; rotate_left 2; (focus (simp only [zGA, zGZ, zGS] <;> rfl)); (focus (exact fun _ _ _ h => h)); (focus rfl); (focus (intro w hSw; (try dsimp only at hSw); go_simp; (try with_reducible rfl); done)); (try simp only [Act.put, zPA, zPZ, zPS]))
  refine wpAnyH_done (by kernel_rfl) ?_ _
  have HB : Hid (LawSt w d2 sb (fun k => k = b ∨ k = b2) (stA [2, 1, 1] [[some (t7.stamp 2 0 1), some t8]] 9 1 sn3)) := hlt.st
  clear hHeld q0 q1 q2 hlt hrn HS10 HU10
  have HSC : Hid (Calls Tryz.prog 7 #[ptrV sb, .int .u64 3, .string ⟨#[116]⟩] d2 (StoreScanPost d2 [(1, 0, 0, 7)])) :=
    law_scan (x := 3) (y := takeS [2, 1, 1] 3) (t := tabA) (i := 0) (H := [[some (t7.stamp 2 0 1), some t8]]) HB.out (by unfold U64; omega) rfl (tabA_found rfl) rfl rfl (by unfold U64; decide) rfl (places_small (by decide)) (int_one (fun s hs => by
      rcases List.mem_cons.1 hs with e | hs
      · exact ⟨_, e, by unfold U64; decide, by unfold U64; decide, 7, by omega, rfl⟩
      · rw [List.mem_singleton] at hs
        exact ⟨_, hs, by unfold U64; decide, by unfold U64; decide, 8, by omega, rfl⟩))
  clear HONE
  go_wp2_with fail
  refine HSC.out.mono ?_
  rintro e wc ⟨va, M, rfl, hrw, hpm, _⟩
  obtain ⟨b, c, b2, c2, hone⟩ := hrw.one hpm
  obtain rfl := hone.form
  have HONE := Lib.hid hone
  have HA2 : Hid (LawSt w wc sb (fun k => k = b ∨ k = b2) (stA [2, 1, 1] [[some (t7.stamp 2 0 1), some t8]] 9 1 sn3)) := (HB.out.quietly hrw.quiet).mono (fun k x => Or.inr (by have := hone.nb; have := hone.nb2; omega))
  clear hrw hpm hone HSC HB HA
  have HS13 : Hid (∀ W, Only (fun k => ¬ (k = b ∨ k = b2)) wc W → (fun w' => w'.cell? ⟨b, 0, none⟩ = some (.int .u64 1) ∧ w'.cell? ⟨b, 1, none⟩ = some (.int .i64 0) ∧ w'.cell? ⟨b, 2, none⟩ = some (.int .i64 0) ∧ w'.cell? ⟨b, 3, none⟩ = some (.slice (some ⟨b2, 0, none⟩) 1 c2) ∧ w'.cell? ⟨b2, 1, none⟩ = some (.int .i64 7)) W) := fun W ho => by
    obtain ⟨k0, k1, k2, k3, k4⟩ := HONE.out.kept ho (fun x => x (Or.inl rfl)) (fun x => x (Or.inr rfl))
    exact ⟨k0, k1, k2, k3, k4⟩
  have HU13 : Hid (∀ W, Quiet wc W → ∀ bn, Rd W (fun k => k = bn) 4 (some ⟨bn, 0, none⟩) 1 (intRow 9) → Calls Tryz.prog 19 #[ptrV sb, .int .u64 3, .string ⟨#[116]⟩, .agg #[.int .u64 1, .int .i64 0, .int .i64 0, .slice (some ⟨b2, 0, none⟩) 1 c2], .slice (some ⟨bn, 0, none⟩) 1 1] W (fun e w' => e = .returned (.int .i64 11) ∧ LawTo w W sb (fun k => k = b ∨ k = b2) (stA [2, 1, 1] [[some (t7.stamp 2 0 1), some t8]] 9 1 sn3) w')) := fun W hq bn hr => by
    refine (law_update (x := 3) (n := 9) (y := takeS [2, 1, 1] 3) (t := tabA) (i := 0) (H := [[some (t7.stamp 2 0 1), some t8]]) (H1 := []) (p := 0) (q := 0) (pg := 0) (sl := 0) (v := t7.stamp 2 0 1) (code := 11) (left' := 0) (HA2.out.same hq) (by unfold U64; omega) rfl (tabA_found rfl) rfl rfl (by unfold U64; decide) rfl rfl (by decide) (by omega) hr (by omega) (by unfold maxLen; omega) rfl (by unfold U64; decide) (by unfold U64; decide) rfl (fun e => by cases e) rfl).mono ?_
    intro e w' hp
    rw [if_neg (by decide)] at hp
    exact hp
  go_wp2_with fail
  refine wp_region_held_drew (S := (fun w' => w'.cell? ⟨b, 0, none⟩ = some (.int .u64 1) ∧ w'.cell? ⟨b, 1, none⟩ = some (.int .i64 0) ∧ w'.cell? ⟨b, 2, none⟩ = some (.int .i64 0) ∧ w'.cell? ⟨b, 3, none⟩ = some (.slice (some ⟨b2, 0, none⟩) 1 c2) ∧ w'.cell? ⟨b2, 1, none⟩ = some (.int .i64 7))) (by kernel_rfl) (HS13.out _ ((Only.refl _ _).drew)) (fun hHeld => ?_)
  simp only [List.size_toArray, List.length_cons, List.length_nil, Nat.reduceAdd]
  have q0 : Quiet wc wc.drew := (Only.refl _ _).drew
  generalize wc.drew = d0 at q0 hHeld ⊢
  (refine zTK 0 (oi := ?_) (v := ?_) ?_ ?_ (Or.inl ⟨?_, ?_⟩) ?_; rotate_left 2; (focus (simp only [zGA, zGZ, zGS] <;> rfl)); (focus (exact fun _ _ _ h => h)); (focus rfl); (focus (intro w hSw; (try dsimp only at hSw); go_simp; (try with_reducible rfl); done)); (try simp only [Act.put, zPA, zPZ, zPS]))
  (refine zTK 1 (oi := ?_) (v := ?_) ?_ ?_ (Or.inl ⟨?_, ?_⟩) ?_; rotate_left 2; (focus (simp only [zGA, zGZ, zGS] <;> rfl)); (focus (exact fun _ _ _ h => h)); (focus rfl); (focus (intro w hSw; (try dsimp only at hSw); go_simp; (try with_reducible rfl); done)); (try simp only [Act.put, zPA, zPZ, zPS]))
  (refine zTK 2 (oi := ?_) (v := ?_) ?_ ?_ (Or.inl ⟨?_, ?_⟩) ?_; rotate_left 2; (focus (simp only [zGA, zGZ, zGS] <;> rfl)); (focus (exact fun _ _ _ h => h)); (focus rfl); (focus (intro w hSw; (try dsimp only at hSw); go_simp; (try with_reducible rfl); done)); (try simp only [Act.put, zPA, zPZ, zPS]))
  (refine zTK 3 (oi := ?_) (v := ?_) ?_ ?_ (Or.inl ⟨?_, ?_⟩) ?_; rotate_left 2; (focus (simp only [zGA, zGZ, zGS] <;> rfl)); (focus (exact fun _ _ _ h => h)); (focus rfl); (focus (intro w hSw; (try dsimp only at hSw); go_simp; (try with_reducible rfl); done)); (try simp only [Act.put, zPA, zPZ, zPS]))
  (refine zTK 4 (oi := ?_) (v := ?_) ?_ ?_ (Or.inl ⟨?_, ?_⟩) ?_; rotate_left 2; (focus (simp only [zGA, zGZ, zGS] <;> rfl)); (focus (exact fun _ _ _ h => h)); (focus rfl); (focus (intro w hSw; (try dsimp only at hSw); go_simp; (try with_reducible rfl); done)); (try simp only [Act.put, zPA, zPZ, zPS]))
  (refine zTK 5 (oi := ?_) (v := ?_) ?_ ?_ (Or.inl ⟨?_, ?_⟩) ?_; rotate_left 2; (focus (simp only [zGA, zGZ, zGS] <;> rfl)); (focus (exact fun _ _ _ h => h)); (focus rfl); (focus (intro w hSw; (try dsimp only at hSw); go_simp; (try with_reducible rfl); done)); (try simp only [Act.put, zPA, zPZ, zPS]))
  (refine zTK 6 (oi := ?_) (v := ?_) ?_ ?_ (Or.inl ⟨?_, ?_⟩) ?_; rotate_left 2; (focus (simp only [zGA, zGZ, zGS] <;> rfl)); (focus (exact fun _ _ _ h => h)); (focus rfl); (focus (intro w hSw; (try dsimp only at hSw); go_simp; (try with_reducible rfl); done)); (try simp only [Act.put, zPA, zPZ, zPS]))
  (refine zTK 7 (oi := ?_) (v := ?_) ?_ ?_ (Or.inl ⟨?_, ?_⟩) ?_; rotate_left 2; (focus (simp only [zGA, zGZ, zGS] <;> rfl)); (focus (exact fun _ _ _ h => h)); (focus rfl); (focus (intro w hSw; (try dsimp only at hSw); go_simp; (try with_reducible rfl); done)); (try simp only [Act.put, zPA, zPZ, zPS]))
  (refine zTK 8 (oi := ?_) (v := ?_) ?_ ?_ (Or.inl ⟨?_, ?_⟩) ?_; rotate_left 2; (focus (simp only [zGA, zGZ, zGS] <;> rfl)); (focus (exact fun _ _ _ h => h)); (focus rfl); (focus (intro w hSw; (try dsimp only at hSw); go_simp; (try with_reducible rfl); done)); (try simp only [Act.put, zPA, zPZ, zPS]))
  (refine zTK 9 (oi := ?_) (v := ?_) ?_ ?_ (Or.inl ⟨?_, ?_⟩) ?_; rotate_left 2; (focus (simp only [zGA, zGZ, zGS] <;> rfl)); (focus (exact fun _ _ _ h => h)); (focus rfl); (focus (intro w hSw; (try dsimp only at hSw); go_simp; (try with_reducible rfl); done)); (try simp only [Act.put, zPA, zPZ, zPS]))
  (refine zTK 10 (oi := ?_) (v := ?_) ?_ ?_ (Or.inl ⟨?_, ?_⟩) ?_; rotate_left 2; (focus (simp only [zGA, zGZ, zGS] <;> rfl)); (focus (exact fun _ _ _ h => h)); (focus rfl); (focus (intro w hSw; (try dsimp only at hSw); go_simp; (try with_reducible rfl); done)); (try simp only [Act.put, zPA, zPZ, zPS]))
  (refine zTK 11 (oi := ?_) (v := ?_) ?_ ?_ (Or.inl ⟨?_, ?_⟩) ?_; rotate_left 2; (focus (simp only [zGA, zGZ, zGS] <;> rfl)); (focus (exact fun _ _ _ h => h)); (focus rfl); (focus (intro w hSw; (try dsimp only at hSw); go_simp; (try with_reducible rfl); done)); (try simp only [Act.put, zPA, zPZ, zPS]))
  (refine zTK 12 (oi := ?_) (v := ?_) ?_ ?_ (Or.inl ⟨?_, ?_⟩) ?_; rotate_left 2; (focus (simp only [zGA, zGZ, zGS] <;> rfl)); (focus (exact fun _ _ _ h => h)); (focus rfl); (focus (intro w hSw; (try dsimp only at hSw); go_simp; (try with_reducible rfl); done)); (try simp only [Act.put, zPA, zPZ, zPS]))
  (refine zTK 13 (oi := ?_) (v := ?_) ?_ ?_ (Or.inl ⟨?_, ?_⟩) ?_; rotate_left 2; (focus (simp only [zGA, zGZ, zGS] <;> rfl)); (focus (exact fun _ _ _ h => h)); (focus rfl); (focus (intro w hSw; (try dsimp only at hSw); go_simp; (try with_reducible rfl); done)); (try simp only [Act.put, zPA, zPZ, zPS]))
  (refine zTK 14 (oi := ?_) (v := ?_) ?_ ?_ (Or.inl ⟨?_, ?_⟩) ?_; rotate_left 2; (focus (simp only [zGA, zGZ, zGS] <;> rfl)); (focus (exact fun _ _ _ h => h)); (focus rfl); (focus (intro w hSw; (try dsimp only at hSw); go_simp; (try with_reducible rfl); done)); (try simp only [Act.put, zPA, zPZ, zPS]))
  (refine zTK 15 (oi := ?_) (v := ?_) ?_ ?_ (Or.inl ⟨?_, ?_⟩) ?_; rotate_left 2; (focus (simp only [zGA, zGZ, zGS] <;> rfl)); (focus (exact fun _ _ _ h => h)); (focus rfl); (focus (intro w hSw; (try dsimp only at hSw); go_simp; (try with_reducible rfl); done)); (try simp only [Act.put, zPA, zPZ, zPS]))
  (refine zTK 16 (oi := ?_) (v := ?_) ?_ ?_ (Or.inl ⟨?_, ?_⟩) ?_; rotate_left 2; (focus (simp only [zGA, zGZ, zGS] <;> rfl)); (focus (exact fun _ _ _ h => h)); (focus rfl); (focus (intro w hSw; (try dsimp only at hSw); go_simp; (try with_reducible rfl); done)); (try simp only [Act.put, zPA, zPZ, zPS]))
  (refine zTK 17 (oi := ?_) (v := ?_) ?_ ?_ (Or.inl ⟨?_, ?_⟩) ?_; rotate_left 2; (focus (simp only [zGA, zGZ, zGS] <;> rfl)); (focus (exact fun _ _ _ h => h)); (focus rfl); (focus (intro w hSw; (try dsimp only at hSw); go_simp; (try with_reducible rfl); done)); (try simp only [Act.put, zPA, zPZ, zPS]))
  refine wpAnyH_ready (rs := [18]) (by kernel_rfl) (by simp) ?_
  refine AllReadyH.cons (o := ?_) ?_ ?_ AllReadyH.nil
  rotate_left 1
  (focus (simp only [zGA, zGZ, zGS] <;> rfl))
  intro K hK
  go_simp
  go_at_call 33
  refine (law_num 9 _).mono ?_
  rintro e d1 ⟨bn, rfl, hqn, _, _, hrn⟩
  have q1 := q0.trans hqn
  clear hqn
  dsimp only
  refine hK.out _ _ ?_ (fun hHeld => ?_)
  · exact HS13.out _ (q1.mono (fun _ _ x => x.elim))
  clear hK K
  (try simp only [Act.put, zPA, zPZ, zPS])
  refine wpAnyH_ready (rs := [19]) (by kernel_rfl) (by simp) ?_
  refine AllReadyH.cons (o := ?_) ?_ ?_ AllReadyH.nil
  rotate_left 1
  (focus (simp only [zGA, zGZ, zGS] <;> rfl))
  intro K hK
  go_simp
  go_at_call 19
  refine (HU13.out _ q1 bn hrn).mono ?_
  rintro e d2 ⟨rfl, hlt⟩
  have q2 : Only (fun k => ¬ (k = b ∨ k = b2)) _ d2 := (q1.mono (T := fun k => ¬ (k = b ∨ k = b2)) (fun _ _ x => x.elim)).trans' hlt.2 (fun k _ x => x.2)
  dsimp only
  refine hK.out _ _ ?_ (fun hHeld => ?_)
  · exact HS13.out _ q2
  clear hK K
  (try simp only [Act.put, zPA, zPZ, zPS])
  (refine zTK 20 (oi := ?_) (v := ?_) ?_ ?_ (Or.inl ⟨?_, ?_⟩) ?_; rotate_left 2; (focus (simp only [zGA, zGZ, zGS] <;> rfl)); (focus (exact fun _ _ _ h => h)); (focus rfl); (focus (intro w hSw; (try dsimp only at hSw); go_simp; (try with_reducible rfl); done)); (try simp only [Act.put, zPA, zPZ, zPS]))
  (refine zTK 21 (oi := ?_) (v := ?_) ?_ ?_ (Or.inl ⟨?_, ?_⟩) ?_; rotate_left 2; (focus (simp only [zGA, zGZ, zGS] <;> rfl)); (focus (exact fun _ _ _ h => h)); (focus rfl); (focus (intro w hSw; (try dsimp only at hSw); go_simp; (try with_reducible rfl); done)); (try simp only [Act.put, zPA, zPZ, zPS]))
  (refine zTK 22 (oi := ?_) (v := ?_) ?_ ?_ (Or.inl ⟨?_, ?_⟩) ?_; rotate_left 2; (focus (simp only [zGA, zGZ, zGS] <;> rfl)); (focus (exact fun _ _ _ h => h)); (focus rfl); (focus (intro w hSw; (try dsimp only at hSw); go_simp; (try with_reducible rfl); done)); (try simp only [Act.put, zPA, zPZ, zPS]))
  refine wpAnyH_done (by kernel_rfl) ?_ _
  have HEND : Hid (POST (.returned (.bool true)) d2) := by
    rw [← HPOST.out]
    exact ⟨rfl, hlt.st.quiet⟩
  clear hHeld q0 q1 q2 hlt hrn HS13 HU13 HONE
  go_wp2
  exact HEND.out

end Go.Proofs.YtaijnpgoiagboaaGreatDoor

namespace Go.Proofs.YtaijnpgoiagboaaGreatDoor
open Go.RowKit Go.Lap

/-- Nobody runs. -/
def NoneRuns (w : World) (sv : Value) : Prop := ∀ W, Quiet w W → ∀ x : Nat, U64 x → Calls Tryz.prog 40 #[sv, .int .u64 (x : Int)] W (fun e w' => e = .returned (.tuple #[.agg #[.int .u64 0, .int .u64 0, .int .u64 0, .slice none 0 0], .bool false]) ∧ Quiet W w')

theorem NoneRuns.quietly {w w' : World} {sv : Value} (h : NoneRuns w sv) (hq : Quiet w w') : NoneRuns w' sv := fun W q x hx => h W (hq.trans q) x hx

set_option maxHeartbeats 400000 in
set_option maxRecDepth 100000 in
theorem runs_nil (w : World) : NoneRuns w (.pointer none) := fun W _ x _ => by
  have HX := Lib.hid (alloc_new W (.cells #[.int .u64 0, .int .u64 0, .int .u64 0, .slice none 0 0] 88))
  go_enter Tryz.func40, Tryz.ntmps40
  go_wp2_with fail
  exact bodyPost_ret (results_cell_tmp Tryz.results40 _ _ W.heap.size _ _ (0, 0) _ (by rfl) HX.out Tryz.underlying88 rfl info_snap) (by rfl) ⟨rfl, (Only.refl _ _).alloc _⟩

theorem runs_none {w : World} {sb : Nat} {o : Nat → Nat} {s : St} (h : StoreAt w sb o s) (hs : ∀ x, s.sn x = none) : NoneRuns w (ptrV sb) := fun W hq x hx => by
  have := store_runs (h.quietly hq) hx
  unfold RunsPost at this
  rw [hs x] at this
  exact this.mono (fun e w' h => ⟨h.2, h.1⟩)

set_option maxHeartbeats 800000 in
set_option maxRecDepth 100000 in
theorem open_none {w : World} {sv : Value} {x : Nat} {name : ByteArray} (h : NoneRuns w sv) (hx : U64 x) :
    Calls Tryz.prog 37 #[sv, .int .u64 (x : Int), .string name] w (fun e w' => e = .returned (.tuple #[.agg #[.int .u64 0, .int .u64 0, .int .u64 0, .slice none 0 0], .agg #[.int .u64 0, .string ⟨#[]⟩, .slice none 0 0, .int .u64 0, .int .u64 0], .int .i64 15]) ∧ Quiet w w') := by
  obtain ⟨POST, hPOST⟩ : ∃ POST : Ending → World → Prop, (fun e w' => e = .returned (.tuple #[.agg #[.int .u64 0, .int .u64 0, .int .u64 0, .slice none 0 0], .agg #[.int .u64 0, .string ⟨#[]⟩, .slice none 0 0, .int .u64 0, .int .u64 0], .int .i64 15]) ∧ Quiet w w') = POST := ⟨_, rfl⟩
  rw [hPOST]
  have HPOST := Lib.hid hPOST
  have hq0 : Quiet w ((w.alloc (.cells #[.int .u64 0, .int .u64 0, .int .u64 0, .slice none 0 0] 88)).alloc (.cells #[.int .u64 0, .string ⟨#[]⟩, .slice none 0 0, .int .u64 0, .int .u64 0] 37)) := ((Only.refl _ _).alloc _).alloc _
  have hb6 := alloc_old (alloc_new w (.cells #[.int .u64 0, .int .u64 0, .int .u64 0, .slice none 0 0] 88)) (.cells #[.int .u64 0, .string ⟨#[]⟩, .slice none 0 0, .int .u64 0, .int .u64 0] 37)
  have hb7 := two_new w (.cells #[.int .u64 0, .int .u64 0, .int .u64 0, .slice none 0 0] 88) (.cells #[.int .u64 0, .string ⟨#[]⟩, .slice none 0 0, .int .u64 0, .int .u64 0] 37)
  obtain ⟨r6, hr6⟩ : ∃ r6, w.heap.size = r6 := ⟨_, rfl⟩
  obtain ⟨r7, hr7⟩ : ∃ r7, r6 + 1 = r7 := ⟨_, rfl⟩
  rw [hr6] at hb6 hb7
  rw [hr7] at hb7
  have HR6 := Lib.hid (And.intro hr6 hr7)
  have HR := Lib.hid h
  have HX := Lib.hid hx
  clear h hPOST hx
  go_enter Tryz.func37, Tryz.ntmps37
  go_wp2_with fail
  (try simp only [World.size_alloc])
  (try rw [hr6]); (try rw [hr7])
  generalize (w.alloc (.cells #[.int .u64 0, .int .u64 0, .int .u64 0, .slice none 0 0] 88)).alloc (.cells #[.int .u64 0, .string ⟨#[]⟩, .slice none 0 0, .int .u64 0, .int .u64 0] 37) = w0 at *
  refine (HR.out _ hq0 x HX.out).mono ?_
  rintro e w1 ⟨rfl, hq1⟩
  have b6 := hq1.get hb6 (fun x => x)
  have b7 := hq1.get hb7 (fun x => x)
  have x0 := cell_of b6 0
  have x1 := cell_of b6 1
  have x2 := cell_of b6 2
  have x3 := cell_of b6 3
  have y0 := cell_of b7 0
  have y1 := cell_of b7 1
  have y2 := cell_of b7 2
  have y3 := cell_of b7 3
  have y4 := cell_of b7 4
  have fx := fun o => frozen_of b6 o
  have fy := fun o => frozen_of b7 o
  simp only [zGA, zGS, zGZ] at x0 x1 x2 x3 y0 y1 y2 y3 y4
  have hl6 := lt_of_get b6
  have hl7 := lt_of_get b7
  have hne : r6 ≠ r7 := by omega
  have hn6 : ¬ r6 = w1.heap.size := by omega
  have hn7 : ¬ r7 = w1.heap.size := by omega
  obtain ⟨X6, X7, hO⟩ := openEnd_facts b6 b7 hne (.int .u64 0) (.int .u64 0) (.int .u64 0) (.slice none 0 0) (.int .u64 0) (.string ⟨#[]⟩) (.slice none 0 0) (.int .u64 0) (.int .u64 0)
  have HX6 := Lib.hid (alloc_old X6 (.cells #[.int .u64 0, .int .u64 0, .int .u64 0, .slice none 0 0] 88))
  have HX7 := Lib.hid (alloc_old X7 (.cells #[.int .u64 0, .int .u64 0, .int .u64 0, .slice none 0 0] 88))
  have HOUT : Hid (POST (.returned (.tuple #[.agg #[.int .u64 0, .int .u64 0, .int .u64 0, .slice none 0 0], .agg #[.int .u64 0, .string ⟨#[]⟩, .slice none 0 0, .int .u64 0, .int .u64 0], .int .i64 15])) ((openEnd w1 r6 r7 (.int .u64 0) (.int .u64 0) (.int .u64 0) (.slice none 0 0) (.int .u64 0) (.string ⟨#[]⟩) (.slice none 0 0) (.int .u64 0) (.int .u64 0)).alloc (.cells #[.int .u64 0, .int .u64 0, .int .u64 0, .slice none 0 0] 88))) := by
    rw [← HPOST.out]
    have hr := HR6.out
    have hz := hq0.size
    exact ⟨rfl, ((hq0.trans hq1).trans' hO (fun k hk e => by rcases e with e | e <;> omega)).alloc _⟩
  unfold openEnd fiveSet fourSet at HX6 HX7 HOUT
  clear X6 X7 hO b6 b7 hq0 hq1 hb6 hb7 hr6 hr7
  go_wp2
  exact bodyPost_ret (results_two_tmp Tryz.results37 _ _ r6 r7 _ _ _ _ (0, 0) (0, 0) _ _ (by rfl) HX6.out (by rfl) HX7.out Tryz.underlying88 rfl info_snap Tryz.underlying37 rfl info_tab) (by rfl) HOUT.out

set_option maxHeartbeats 800000 in
set_option maxRecDepth 100000 in
theorem scan_none {w : World} {sv : Value} {x : Nat} {name : ByteArray} (h : NoneRuns w sv) (hx : U64 x) :
    Calls Tryz.prog 7 #[sv, .int .u64 (x : Int), .string name] w (fun e w' => e = .returned (.tuple #[.slice none 0 0, .int .i64 15]) ∧ Quiet w w') := by
  obtain ⟨POST, hPOST⟩ : ∃ POST : Ending → World → Prop, (fun e w' => e = .returned (.tuple #[.slice none 0 0, .int .i64 15]) ∧ Quiet w w') = POST := ⟨_, rfl⟩
  rw [hPOST]
  have HPOST := Lib.hid hPOST
  have HR := Lib.hid h
  clear h hPOST
  go_enter Tryz.func7, Tryz.ntmps7
  go_wp2_with fail
  refine (open_none (HR.out.quietly (by first | exact Only.refl _ _ | exact (Only.refl _ _).alloc _ | exact ((Only.refl _ _).alloc _).alloc _ | exact (((Only.refl _ _).alloc _).alloc _).alloc _)) hx).mono ?_
  rintro e w1 ⟨rfl, hq1⟩
  have HQ1 := Lib.hid hq1
  clear hq1
  go_wp2
  rw [← HPOST.out]
  have hq1 := HQ1.out
  have hr : ∀ w9 : World, Quiet w9 w9 := fun w9 => Only.refl _ _
  first | exact ⟨rfl, hq1⟩ | exact ⟨rfl, hq1.alloc _⟩ | exact ⟨rfl, (hq1.alloc _).alloc _⟩ | exact ⟨rfl, ((hr w).alloc _).trans hq1⟩ | exact ⟨rfl, (((hr w).alloc _).trans hq1).alloc _⟩ | exact ⟨rfl, ((((hr w).alloc _).trans hq1).alloc _).alloc _⟩ | exact ⟨rfl, (((hr w).alloc _).alloc _).trans hq1⟩ | exact ⟨rfl, ((((hr w).alloc _).alloc _).trans hq1).alloc _⟩ | exact ⟨rfl, (((((hr w).alloc _).alloc _).trans hq1).alloc _).alloc _⟩

set_option maxHeartbeats 800000 in
set_option maxRecDepth 100000 in
theorem seek_none {w : World} {sv : Value} {x : Nat} {y : Nat} (h : NoneRuns w sv) (hx : U64 x) :
    Calls Tryz.prog 8 #[sv, .int .u64 (x : Int), .int .u64 (y : Int), .slice none 0 0, .slice none 0 0] w (fun e w' => e = .returned (.tuple #[.slice none 0 0, .int .i64 15]) ∧ Quiet w w') := by
  obtain ⟨POST, hPOST⟩ : ∃ POST : Ending → World → Prop, (fun e w' => e = .returned (.tuple #[.slice none 0 0, .int .i64 15]) ∧ Quiet w w') = POST := ⟨_, rfl⟩
  rw [hPOST]
  have HPOST := Lib.hid hPOST
  have HR := Lib.hid h
  clear h hPOST
  go_enter Tryz.func8, Tryz.ntmps8
  go_wp2_with fail
  refine (HR.out _ (by first | exact Only.refl _ _ | exact (Only.refl _ _).alloc _ | exact ((Only.refl _ _).alloc _).alloc _ | exact (((Only.refl _ _).alloc _).alloc _).alloc _) x hx).mono ?_
  rintro e w1 ⟨rfl, hq1⟩
  have HQ1 := Lib.hid hq1
  clear hq1
  go_wp2
  rw [← HPOST.out]
  have hq1 := HQ1.out
  have hr : ∀ w9 : World, Quiet w9 w9 := fun w9 => Only.refl _ _
  first | exact ⟨rfl, hq1⟩ | exact ⟨rfl, hq1.alloc _⟩ | exact ⟨rfl, (hq1.alloc _).alloc _⟩ | exact ⟨rfl, ((hr w).alloc _).trans hq1⟩ | exact ⟨rfl, (((hr w).alloc _).trans hq1).alloc _⟩ | exact ⟨rfl, ((((hr w).alloc _).trans hq1).alloc _).alloc _⟩ | exact ⟨rfl, (((hr w).alloc _).alloc _).trans hq1⟩ | exact ⟨rfl, ((((hr w).alloc _).alloc _).trans hq1).alloc _⟩ | exact ⟨rfl, (((((hr w).alloc _).alloc _).trans hq1).alloc _).alloc _⟩

set_option maxHeartbeats 800000 in
set_option maxRecDepth 100000 in
theorem table_none {w : World} {sv : Value} {x : Nat} {name : ByteArray} (h : NoneRuns w sv) (hx : U64 x) :
    Calls Tryz.prog 9 #[sv, .int .u64 (x : Int), .string name] w (fun e w' => e = .returned (.tuple #[.agg #[.int .u64 0, .string ⟨#[]⟩, .slice none 0 0, .int .u64 0, .int .u64 0], .bool false]) ∧ Quiet w w') := by
  obtain ⟨POST, hPOST⟩ : ∃ POST : Ending → World → Prop, (fun e w' => e = .returned (.tuple #[.agg #[.int .u64 0, .string ⟨#[]⟩, .slice none 0 0, .int .u64 0, .int .u64 0], .bool false]) ∧ Quiet w w') = POST := ⟨_, rfl⟩
  rw [hPOST]
  have HPOST := Lib.hid hPOST
  have hq0 : Quiet w (w.alloc (.cells #[.int .u64 0, .string ⟨#[]⟩, .slice none 0 0, .int .u64 0, .int .u64 0] 37)) := (Only.refl _ _).alloc _
  have hb6 := alloc_new w (.cells #[.int .u64 0, .string ⟨#[]⟩, .slice none 0 0, .int .u64 0, .int .u64 0] 37)
  obtain ⟨r6, hr6⟩ : ∃ r6, w.heap.size = r6 := ⟨_, rfl⟩
  rw [hr6] at hb6
  have HR6 := Lib.hid hr6
  have HR := Lib.hid h
  have HX := Lib.hid hx
  clear h hPOST hx
  go_enter Tryz.func9, Tryz.ntmps9
  go_wp2_with fail
  (try rw [hr6])
  generalize w.alloc (.cells #[.int .u64 0, .string ⟨#[]⟩, .slice none 0 0, .int .u64 0, .int .u64 0] 37) = w0 at *
  refine (HR.out _ hq0 x HX.out).mono ?_
  rintro e w1 ⟨rfl, hq1⟩
  have b6 := hq1.get hb6 (fun x => x)
  have x0 := cell_of b6 0
  have x1 := cell_of b6 1
  have x2 := cell_of b6 2
  have x3 := cell_of b6 3
  have x4 := cell_of b6 4
  have fx := fun o => frozen_of b6 o
  simp only [zGA, zGS, zGZ] at x0 x1 x2 x3 x4
  have hl6 := lt_of_get b6
  have hn6 : ¬ r6 = w1.heap.size := by omega
  have hO := fiveSet_only w1 r6 (.int .u64 0) (.string ⟨#[]⟩) (.slice none 0 0) (.int .u64 0) (.int .u64 0)
  have HX6 := Lib.hid (alloc_old (fiveSet_same b6 (.int .u64 0) (.string ⟨#[]⟩) (.slice none 0 0) (.int .u64 0) (.int .u64 0)) (.cells #[.int .u64 0, .int .u64 0, .int .u64 0, .slice none 0 0] 88))
  have HOUT : Hid (POST (.returned (.tuple #[.agg #[.int .u64 0, .string ⟨#[]⟩, .slice none 0 0, .int .u64 0, .int .u64 0], .bool false])) ((fiveSet w1 r6 (.int .u64 0) (.string ⟨#[]⟩) (.slice none 0 0) (.int .u64 0) (.int .u64 0)).alloc (.cells #[.int .u64 0, .int .u64 0, .int .u64 0, .slice none 0 0] 88))) := by
    rw [← HPOST.out]
    have hr := HR6.out
    exact ⟨rfl, ((hq0.trans hq1).trans' hO (fun k hk e => by omega)).alloc _⟩
  unfold fiveSet at HX6 HOUT
  clear hO b6 hq0 hq1 hb6 hr6
  go_wp2
  exact bodyPost_ret (results_cell_tmp Tryz.results9 _ _ r6 _ _ (0, 0) _ (by rfl) HX6.out Tryz.underlying37 rfl info_tab) (by rfl) HOUT.out

set_option maxHeartbeats 800000 in
set_option maxRecDepth 100000 in
theorem indexes_none {w : World} {sv : Value} {x : Nat} {name : ByteArray} (h : NoneRuns w sv) (hx : U64 x) :
    Calls Tryz.prog 10 #[sv, .int .u64 (x : Int), .string name] w (fun e w' => e = .returned (.slice none 0 0) ∧ Quiet w w') := by
  obtain ⟨POST, hPOST⟩ : ∃ POST : Ending → World → Prop, (fun e w' => e = .returned (.slice none 0 0) ∧ Quiet w w') = POST := ⟨_, rfl⟩
  rw [hPOST]
  have HPOST := Lib.hid hPOST
  have HR := Lib.hid h
  clear h hPOST
  go_enter Tryz.func10, Tryz.ntmps10
  go_wp2_with fail
  refine (table_none (HR.out.quietly (by first | exact Only.refl _ _ | exact (Only.refl _ _).alloc _ | exact ((Only.refl _ _).alloc _).alloc _ | exact (((Only.refl _ _).alloc _).alloc _).alloc _)) hx).mono ?_
  rintro e w1 ⟨rfl, hq1⟩
  have HQ1 := Lib.hid hq1
  clear hq1
  go_wp2
  rw [← HPOST.out]
  have hq1 := HQ1.out
  have hr : ∀ w9 : World, Quiet w9 w9 := fun w9 => Only.refl _ _
  first | exact ⟨rfl, hq1⟩ | exact ⟨rfl, hq1.alloc _⟩ | exact ⟨rfl, (hq1.alloc _).alloc _⟩ | exact ⟨rfl, ((hr w).alloc _).trans hq1⟩ | exact ⟨rfl, (((hr w).alloc _).trans hq1).alloc _⟩ | exact ⟨rfl, ((((hr w).alloc _).trans hq1).alloc _).alloc _⟩ | exact ⟨rfl, (((hr w).alloc _).alloc _).trans hq1⟩ | exact ⟨rfl, ((((hr w).alloc _).alloc _).trans hq1).alloc _⟩ | exact ⟨rfl, (((((hr w).alloc _).alloc _).trans hq1).alloc _).alloc _⟩

set_option maxHeartbeats 800000 in
set_option maxRecDepth 100000 in
theorem make_none {w : World} {sv : Value} {x : Nat} {name : ByteArray} {A2 : Option Addr} {n2 c2 : Nat} (h : NoneRuns w sv) (hx : U64 x) :
    Calls Tryz.prog 13 #[sv, .int .u64 (x : Int), .string name, .slice A2 n2 c2] w (fun e w' => e = .returned (.int .i64 15) ∧ Quiet w w') := by
  obtain ⟨POST, hPOST⟩ : ∃ POST : Ending → World → Prop, (fun e w' => e = .returned (.int .i64 15) ∧ Quiet w w') = POST := ⟨_, rfl⟩
  rw [hPOST]
  have HPOST := Lib.hid hPOST
  have HR := Lib.hid h
  clear h hPOST
  go_enter Tryz.func13, Tryz.ntmps13
  go_wp2_with fail
  refine (HR.out _ (by first | exact Only.refl _ _ | exact (Only.refl _ _).alloc _ | exact ((Only.refl _ _).alloc _).alloc _ | exact (((Only.refl _ _).alloc _).alloc _).alloc _) x hx).mono ?_
  rintro e w1 ⟨rfl, hq1⟩
  have HQ1 := Lib.hid hq1
  clear hq1
  go_wp2
  rw [← HPOST.out]
  have hq1 := HQ1.out
  have hr : ∀ w9 : World, Quiet w9 w9 := fun w9 => Only.refl _ _
  first | exact ⟨rfl, hq1⟩ | exact ⟨rfl, hq1.alloc _⟩ | exact ⟨rfl, (hq1.alloc _).alloc _⟩ | exact ⟨rfl, ((hr w).alloc _).trans hq1⟩ | exact ⟨rfl, (((hr w).alloc _).trans hq1).alloc _⟩ | exact ⟨rfl, ((((hr w).alloc _).trans hq1).alloc _).alloc _⟩ | exact ⟨rfl, (((hr w).alloc _).alloc _).trans hq1⟩ | exact ⟨rfl, ((((hr w).alloc _).alloc _).trans hq1).alloc _⟩ | exact ⟨rfl, (((((hr w).alloc _).alloc _).trans hq1).alloc _).alloc _⟩

set_option maxHeartbeats 800000 in
set_option maxRecDepth 100000 in
theorem dropTable_none {w : World} {sv : Value} {x : Nat} {name : ByteArray} (h : NoneRuns w sv) (hx : U64 x) :
    Calls Tryz.prog 15 #[sv, .int .u64 (x : Int), .string name] w (fun e w' => e = .returned (.int .i64 15) ∧ Quiet w w') := by
  obtain ⟨POST, hPOST⟩ : ∃ POST : Ending → World → Prop, (fun e w' => e = .returned (.int .i64 15) ∧ Quiet w w') = POST := ⟨_, rfl⟩
  rw [hPOST]
  have HPOST := Lib.hid hPOST
  have HR := Lib.hid h
  clear h hPOST
  go_enter Tryz.func15, Tryz.ntmps15
  go_wp2_with fail
  refine (HR.out _ (by first | exact Only.refl _ _ | exact (Only.refl _ _).alloc _ | exact ((Only.refl _ _).alloc _).alloc _ | exact (((Only.refl _ _).alloc _).alloc _).alloc _) x hx).mono ?_
  rintro e w1 ⟨rfl, hq1⟩
  have HQ1 := Lib.hid hq1
  clear hq1
  go_wp2
  rw [← HPOST.out]
  have hq1 := HQ1.out
  have hr : ∀ w9 : World, Quiet w9 w9 := fun w9 => Only.refl _ _
  first | exact ⟨rfl, hq1⟩ | exact ⟨rfl, hq1.alloc _⟩ | exact ⟨rfl, (hq1.alloc _).alloc _⟩ | exact ⟨rfl, ((hr w).alloc _).trans hq1⟩ | exact ⟨rfl, (((hr w).alloc _).trans hq1).alloc _⟩ | exact ⟨rfl, ((((hr w).alloc _).trans hq1).alloc _).alloc _⟩ | exact ⟨rfl, (((hr w).alloc _).alloc _).trans hq1⟩ | exact ⟨rfl, ((((hr w).alloc _).alloc _).trans hq1).alloc _⟩ | exact ⟨rfl, (((((hr w).alloc _).alloc _).trans hq1).alloc _).alloc _⟩

set_option maxHeartbeats 800000 in
set_option maxRecDepth 100000 in
theorem makeIndex_none {w : World} {sv : Value} {x : Nat} {name of_ col : ByteArray} (h : NoneRuns w sv) (hx : U64 x) :
    Calls Tryz.prog 16 #[sv, .int .u64 (x : Int), .string name, .string of_, .string col] w (fun e w' => e = .returned (.int .i64 15) ∧ Quiet w w') := by
  obtain ⟨POST, hPOST⟩ : ∃ POST : Ending → World → Prop, (fun e w' => e = .returned (.int .i64 15) ∧ Quiet w w') = POST := ⟨_, rfl⟩
  rw [hPOST]
  have HPOST := Lib.hid hPOST
  have HR := Lib.hid h
  clear h hPOST
  go_enter Tryz.func16, Tryz.ntmps16
  go_wp2_with fail
  refine (HR.out _ (by first | exact Only.refl _ _ | exact (Only.refl _ _).alloc _ | exact ((Only.refl _ _).alloc _).alloc _ | exact (((Only.refl _ _).alloc _).alloc _).alloc _) x hx).mono ?_
  rintro e w1 ⟨rfl, hq1⟩
  have HQ1 := Lib.hid hq1
  clear hq1
  go_wp2
  rw [← HPOST.out]
  have hq1 := HQ1.out
  have hr : ∀ w9 : World, Quiet w9 w9 := fun w9 => Only.refl _ _
  first | exact ⟨rfl, hq1⟩ | exact ⟨rfl, hq1.alloc _⟩ | exact ⟨rfl, (hq1.alloc _).alloc _⟩ | exact ⟨rfl, ((hr w).alloc _).trans hq1⟩ | exact ⟨rfl, (((hr w).alloc _).trans hq1).alloc _⟩ | exact ⟨rfl, ((((hr w).alloc _).trans hq1).alloc _).alloc _⟩ | exact ⟨rfl, (((hr w).alloc _).alloc _).trans hq1⟩ | exact ⟨rfl, ((((hr w).alloc _).alloc _).trans hq1).alloc _⟩ | exact ⟨rfl, (((((hr w).alloc _).alloc _).trans hq1).alloc _).alloc _⟩

set_option maxHeartbeats 800000 in
set_option maxRecDepth 100000 in
theorem dropIndex_none {w : World} {sv : Value} {x : Nat} {name : ByteArray} (h : NoneRuns w sv) (hx : U64 x) :
    Calls Tryz.prog 17 #[sv, .int .u64 (x : Int), .string name] w (fun e w' => e = .returned (.int .i64 15) ∧ Quiet w w') := by
  obtain ⟨POST, hPOST⟩ : ∃ POST : Ending → World → Prop, (fun e w' => e = .returned (.int .i64 15) ∧ Quiet w w') = POST := ⟨_, rfl⟩
  rw [hPOST]
  have HPOST := Lib.hid hPOST
  have HR := Lib.hid h
  clear h hPOST
  go_enter Tryz.func17, Tryz.ntmps17
  go_wp2_with fail
  refine (HR.out _ (by first | exact Only.refl _ _ | exact (Only.refl _ _).alloc _ | exact ((Only.refl _ _).alloc _).alloc _ | exact (((Only.refl _ _).alloc _).alloc _).alloc _) x hx).mono ?_
  rintro e w1 ⟨rfl, hq1⟩
  have HQ1 := Lib.hid hq1
  clear hq1
  go_wp2
  rw [← HPOST.out]
  have hq1 := HQ1.out
  have hr : ∀ w9 : World, Quiet w9 w9 := fun w9 => Only.refl _ _
  first | exact ⟨rfl, hq1⟩ | exact ⟨rfl, hq1.alloc _⟩ | exact ⟨rfl, (hq1.alloc _).alloc _⟩ | exact ⟨rfl, ((hr w).alloc _).trans hq1⟩ | exact ⟨rfl, (((hr w).alloc _).trans hq1).alloc _⟩ | exact ⟨rfl, ((((hr w).alloc _).trans hq1).alloc _).alloc _⟩ | exact ⟨rfl, (((hr w).alloc _).alloc _).trans hq1⟩ | exact ⟨rfl, ((((hr w).alloc _).alloc _).trans hq1).alloc _⟩ | exact ⟨rfl, (((((hr w).alloc _).alloc _).trans hq1).alloc _).alloc _⟩

set_option maxHeartbeats 800000 in
set_option maxRecDepth 100000 in
theorem insert_none {w : World} {sv : Value} {x : Nat} {name : ByteArray} {A2 : Option Addr} {n2 c2 : Nat} (h : NoneRuns w sv) (hx : U64 x) :
    Calls Tryz.prog 18 #[sv, .int .u64 (x : Int), .string name, .slice A2 n2 c2] w (fun e w' => e = .returned (.int .i64 15) ∧ Quiet w w') := by
  obtain ⟨POST, hPOST⟩ : ∃ POST : Ending → World → Prop, (fun e w' => e = .returned (.int .i64 15) ∧ Quiet w w') = POST := ⟨_, rfl⟩
  rw [hPOST]
  have HPOST := Lib.hid hPOST
  have HR := Lib.hid h
  clear h hPOST
  go_enter Tryz.func18, Tryz.ntmps18
  go_wp2_with fail
  refine (open_none (HR.out.quietly (by first | exact Only.refl _ _ | exact (Only.refl _ _).alloc _ | exact ((Only.refl _ _).alloc _).alloc _ | exact (((Only.refl _ _).alloc _).alloc _).alloc _)) hx).mono ?_
  rintro e w1 ⟨rfl, hq1⟩
  have HQ1 := Lib.hid hq1
  clear hq1
  go_wp2
  rw [← HPOST.out]
  have hq1 := HQ1.out
  have hr : ∀ w9 : World, Quiet w9 w9 := fun w9 => Only.refl _ _
  first | exact ⟨rfl, hq1⟩ | exact ⟨rfl, hq1.alloc _⟩ | exact ⟨rfl, (hq1.alloc _).alloc _⟩ | exact ⟨rfl, ((hr w).alloc _).trans hq1⟩ | exact ⟨rfl, (((hr w).alloc _).trans hq1).alloc _⟩ | exact ⟨rfl, ((((hr w).alloc _).trans hq1).alloc _).alloc _⟩ | exact ⟨rfl, (((hr w).alloc _).alloc _).trans hq1⟩ | exact ⟨rfl, ((((hr w).alloc _).alloc _).trans hq1).alloc _⟩ | exact ⟨rfl, (((((hr w).alloc _).alloc _).trans hq1).alloc _).alloc _⟩

set_option maxHeartbeats 800000 in
set_option maxRecDepth 100000 in
theorem update_none {w : World} {sv : Value} {x : Nat} {name : ByteArray} {A2 : Option Addr} {n2 c2 : Nat} (h : NoneRuns w sv) (hx : U64 x) :
    Calls Tryz.prog 19 #[sv, .int .u64 (x : Int), .string name, .agg #[.int .u64 0, .int .i64 0, .int .i64 0, .slice none 0 0], .slice A2 n2 c2] w (fun e w' => e = .returned (.int .i64 15) ∧ Quiet w w') := by
  obtain ⟨POST, hPOST⟩ : ∃ POST : Ending → World → Prop, (fun e w' => e = .returned (.int .i64 15) ∧ Quiet w w') = POST := ⟨_, rfl⟩
  rw [hPOST]
  have HPOST := Lib.hid hPOST
  have HR := Lib.hid h
  clear h hPOST
  go_enter Tryz.func19, Tryz.ntmps19
  go_wp2_with fail
  refine (open_none (HR.out.quietly (by first | exact Only.refl _ _ | exact (Only.refl _ _).alloc _ | exact ((Only.refl _ _).alloc _).alloc _ | exact (((Only.refl _ _).alloc _).alloc _).alloc _)) hx).mono ?_
  rintro e w1 ⟨rfl, hq1⟩
  have HQ1 := Lib.hid hq1
  clear hq1
  go_wp2
  rw [← HPOST.out]
  have hq1 := HQ1.out
  have hr : ∀ w9 : World, Quiet w9 w9 := fun w9 => Only.refl _ _
  first | exact ⟨rfl, hq1⟩ | exact ⟨rfl, hq1.alloc _⟩ | exact ⟨rfl, (hq1.alloc _).alloc _⟩ | exact ⟨rfl, ((hr w).alloc _).trans hq1⟩ | exact ⟨rfl, (((hr w).alloc _).trans hq1).alloc _⟩ | exact ⟨rfl, ((((hr w).alloc _).trans hq1).alloc _).alloc _⟩ | exact ⟨rfl, (((hr w).alloc _).alloc _).trans hq1⟩ | exact ⟨rfl, ((((hr w).alloc _).alloc _).trans hq1).alloc _⟩ | exact ⟨rfl, (((((hr w).alloc _).alloc _).trans hq1).alloc _).alloc _⟩

set_option maxHeartbeats 800000 in
set_option maxRecDepth 100000 in
theorem delete_none {w : World} {sv : Value} {x : Nat} {name : ByteArray} (h : NoneRuns w sv) (hx : U64 x) :
    Calls Tryz.prog 20 #[sv, .int .u64 (x : Int), .string name, .agg #[.int .u64 0, .int .i64 0, .int .i64 0, .slice none 0 0]] w (fun e w' => e = .returned (.int .i64 15) ∧ Quiet w w') := by
  obtain ⟨POST, hPOST⟩ : ∃ POST : Ending → World → Prop, (fun e w' => e = .returned (.int .i64 15) ∧ Quiet w w') = POST := ⟨_, rfl⟩
  rw [hPOST]
  have HPOST := Lib.hid hPOST
  have HR := Lib.hid h
  clear h hPOST
  go_enter Tryz.func20, Tryz.ntmps20
  go_wp2_with fail
  refine (open_none (HR.out.quietly (by first | exact Only.refl _ _ | exact (Only.refl _ _).alloc _ | exact ((Only.refl _ _).alloc _).alloc _ | exact (((Only.refl _ _).alloc _).alloc _).alloc _)) hx).mono ?_
  rintro e w1 ⟨rfl, hq1⟩
  have HQ1 := Lib.hid hq1
  clear hq1
  go_wp2
  rw [← HPOST.out]
  have hq1 := HQ1.out
  have hr : ∀ w9 : World, Quiet w9 w9 := fun w9 => Only.refl _ _
  first | exact ⟨rfl, hq1⟩ | exact ⟨rfl, hq1.alloc _⟩ | exact ⟨rfl, (hq1.alloc _).alloc _⟩ | exact ⟨rfl, ((hr w).alloc _).trans hq1⟩ | exact ⟨rfl, (((hr w).alloc _).trans hq1).alloc _⟩ | exact ⟨rfl, ((((hr w).alloc _).trans hq1).alloc _).alloc _⟩ | exact ⟨rfl, (((hr w).alloc _).alloc _).trans hq1⟩ | exact ⟨rfl, ((((hr w).alloc _).alloc _).trans hq1).alloc _⟩ | exact ⟨rfl, (((((hr w).alloc _).alloc _).trans hq1).alloc _).alloc _⟩

set_option maxHeartbeats 400000 in
set_option maxRecDepth 100000 in
theorem nil_running (w : World) : Calls Tryz.prog 21 #[.pointer none] w (fun e w' => e = .returned (.slice none 0 0) ∧ Quiet w w') := by
  go_enter Tryz.func21, Tryz.ntmps21
  go_wp2
  go_ret
  exact ⟨rfl, Only.refl _ _⟩

set_option maxHeartbeats 400000 in
set_option maxRecDepth 100000 in
theorem nil_begin (w : World) : Calls Tryz.prog 25 #[.pointer none] w (fun e w' => e = .returned (.tuple #[.int .u64 0, .int .i64 15]) ∧ Quiet w w') := by
  go_enter Tryz.func25, Tryz.ntmps25
  go_wp2
  go_ret2
  exact ⟨rfl, Only.refl _ _⟩

set_option maxHeartbeats 400000 in
set_option maxRecDepth 100000 in
theorem nil_left (w : World) : Calls Tryz.prog 26 #[.pointer none] w (fun e w' => e = .returned (.int .i64 0) ∧ Quiet w w') := by
  go_enter Tryz.func26, Tryz.ntmps26
  go_wp2
  go_ret
  exact ⟨rfl, Only.refl _ _⟩

set_option maxHeartbeats 400000 in
set_option maxRecDepth 100000 in
theorem nil_horizon (w : World) : Calls Tryz.prog 27 #[.pointer none] w (fun e w' => e = .returned (.int .u64 0) ∧ Quiet w w') := by
  go_enter Tryz.func27, Tryz.ntmps27
  go_wp2
  go_ret
  exact ⟨rfl, Only.refl _ _⟩

set_option maxHeartbeats 400000 in
set_option maxRecDepth 100000 in
theorem nil_prune (w : World) : Calls Tryz.prog 28 #[.pointer none] w (fun e w' => e = .returned (.int .i64 0) ∧ Quiet w w') := by
  go_enter Tryz.func28, Tryz.ntmps28
  go_wp2
  go_ret
  exact ⟨rfl, Only.refl _ _⟩

set_option maxHeartbeats 400000 in
set_option maxRecDepth 100000 in
theorem nil_gather (w : World) : Calls Tryz.prog 29 #[.pointer none, .int .u64 1, .int .i64 0] w (fun e w' => e = .returned (.slice none 0 0) ∧ Quiet w w') := by
  go_enter Tryz.func29, Tryz.ntmps29
  go_wp2
  go_ret
  exact ⟨rfl, Only.refl _ _⟩

set_option maxHeartbeats 400000 in
set_option maxRecDepth 100000 in
theorem nil_unlink (w : World) : Calls Tryz.prog 30 #[.pointer none, .int .u64 1, .slice none 0 0] w (fun e w' => e = .returned (.int .i64 0) ∧ Quiet w w') := by
  go_enter Tryz.func30, Tryz.ntmps30
  go_wp2
  go_ret
  exact ⟨rfl, Only.refl _ _⟩

set_option maxHeartbeats 400000 in
set_option maxRecDepth 100000 in
theorem nil_release (w : World) : Calls Tryz.prog 31 #[.pointer none, .int .u64 1, .slice none 0 0] w (fun e w' => e = .returned (.int .i64 0) ∧ Quiet w w') := by
  go_enter Tryz.func31, Tryz.ntmps31
  go_wp2
  go_ret
  exact ⟨rfl, Only.refl _ _⟩

set_option maxHeartbeats 400000 in
set_option maxRecDepth 100000 in
theorem nil_pages (w : World) : Calls Tryz.prog 32 #[.pointer none, .int .u64 1] w (fun e w' => e = .returned (.int .i64 0) ∧ Quiet w w') := by
  go_enter Tryz.func32, Tryz.ntmps32
  go_wp2
  go_ret
  exact ⟨rfl, Only.refl _ _⟩

set_option maxHeartbeats 400000 in
set_option maxRecDepth 100000 in
theorem nil_book (w : World) : Calls Tryz.prog 24 #[.pointer none] w (fun e w' => e = .returned (.tuple #[.slice none 0 0, .slice none 0 0]) ∧ Quiet w w') := by
  go_enter Tryz.func24, Tryz.ntmps24
  go_wp2
  go_ret2
  exact ⟨rfl, Only.refl _ _⟩

set_option maxHeartbeats 400000 in
set_option maxRecDepth 100000 in
theorem nil_commit (w : World) (x : Nat) : Calls Tryz.prog 11 #[.pointer none, .int .u64 (x : Int)] w (fun e w' => e = .returned (.int .i64 15) ∧ Quiet w w') := by
  go_enter Tryz.func11, Tryz.ntmps11
  go_wp2
  go_ret
  exact ⟨rfl, Only.refl _ _⟩

set_option maxHeartbeats 400000 in
set_option maxRecDepth 100000 in
theorem nil_abort (w : World) (x : Nat) : Calls Tryz.prog 12 #[.pointer none, .int .u64 (x : Int)] w (fun e w' => e = .returned (.int .i64 15) ∧ Quiet w w') := by
  go_enter Tryz.func12, Tryz.ntmps12
  go_wp2
  go_ret
  exact ⟨rfl, Only.refl _ _⟩

end Go.Proofs.YtaijnpgoiagboaaGreatDoor

namespace Go.Proofs.YtaijnpgoiagboaaGreatDoor
open Go.RowKit Go.Lap

theorem endL_nil (x v : Nat) : endL [] x v = (15, []) := by
  unfold endL
  rw [if_neg]
  unfold stateL
  split <;> simp

theorem st0_end (n x v : Nat) : endSt (st0 n) x v = st0 n := by
  unfold endSt
  show ({ st0 n with L := (endL [] x v).2, sn := upd (fun _ => none) x none } : St) = st0 n
  rw [endL_nil]
  have : upd (fun _ => (none : Option Snap)) x none = fun _ => none := by
    funext k
    simp [upd]
  rw [this]
  rfl

section
variable {w0 w w' : World} {sb x : Nat} {K : Nat → Prop} {sv : Value} {n : Nat}

theorem nil_to (h : LawSt w0 w sb K (st0 n)) (hq : Quiet w w') : LawTo w0 w sb K (st0 n) w' := ⟨h.same hq, hq.mono (fun _ _ x => x.elim)⟩

theorem sv_runs (hs : sv = .pointer none ∨ sv = ptrV sb) (h : LawSt w0 w sb K (st0 n)) : NoneRuns w sv := by
  rcases hs with rfl | rfl
  · exact runs_nil w
  · obtain ⟨o, h1, _⟩ := h
    exact runs_none h1 (fun _ => rfl)

theorem sv_commit (hs : sv = .pointer none ∨ sv = ptrV sb) (h : LawSt w0 w sb K (st0 n)) (hx : U64 x) :
    Calls Tryz.prog 11 #[sv, .int .u64 (x : Int)] w (fun e w' => e = .returned (.int .i64 15) ∧ LawTo w0 w sb K (st0 n) w') := by
  rcases hs with rfl | rfl
  · refine (nil_commit w x).mono ?_
    rintro e w' ⟨rfl, hq⟩
    exact ⟨rfl, nil_to h hq⟩
  · refine (law_commit h hx).mono ?_
    rintro e w' ⟨rfl, ht⟩
    rw [st0_end] at ht
    refine ⟨?_, ht⟩
    show Ending.returned (.int .i64 ((endL [] x 2).1 : Int)) = _
    rw [endL_nil]
    rfl

theorem sv_abort (hs : sv = .pointer none ∨ sv = ptrV sb) (h : LawSt w0 w sb K (st0 n)) (hx : U64 x) :
    Calls Tryz.prog 12 #[sv, .int .u64 (x : Int)] w (fun e w' => e = .returned (.int .i64 15) ∧ LawTo w0 w sb K (st0 n) w') := by
  rcases hs with rfl | rfl
  · refine (nil_abort w x).mono ?_
    rintro e w' ⟨rfl, hq⟩
    exact ⟨rfl, nil_to h hq⟩
  · refine (law_abort h hx).mono ?_
    rintro e w' ⟨rfl, ht⟩
    rw [st0_end] at ht
    refine ⟨?_, ht⟩
    show Ending.returned (.int .i64 ((endL [] x 3).1 : Int)) = _
    rw [endL_nil]
    rfl
end

/-- A row of nothing. -/
def NonePost (w : World) (e : Ending) (w' : World) : Prop := (∃ A c, e = .returned (.slice A 0 c)) ∧ Quiet w w'

set_option maxHeartbeats 400000 in
set_option maxRecDepth 100000 in
theorem running_none {w : World} {sb : Nat} {o : Nat → Nat} {s : St} (h : StoreAt w sb o s) (hL : s.L = []) :
    Calls Tryz.prog 21 #[ptrV sb] w (NonePost w) := by
  obtain ⟨lb, bb, pb, mh, mt, ms, fh, ft, fs, h⟩ := h
  obtain ⟨c0, _⟩ := h.cells
  have hl := h.log
  rw [hL] at hl
  have HA := Lib.hid (log_all hl (by simp))
  obtain ⟨POST, hPOST⟩ : ∃ POST, NonePost w = POST := ⟨_, rfl⟩
  rw [hPOST]
  have HPOST := Lib.hid hPOST
  have lsb := cell_lt c0
  dsimp only at lsb
  clear h hl hPOST
  go_enter Tryz.func21, Tryz.ntmps21
  go_wp2_with fail
  refine HA.out.mono ?_
  rintro e w1 ⟨v, rfl, hv⟩
  obtain ⟨A, c, rfl, _⟩ := own_form hv.row
  have HEND : Hid (POST (.returned (.slice A (runsL []).length c)) w1) := by
    rw [← HPOST.out]
    exact ⟨⟨A, c, rfl⟩, hv.quiet⟩
  clear hv HA
  go_wp2
  exact HEND.out

set_option maxHeartbeats 400000 in
set_option maxRecDepth 100000 in
theorem tables_none {w : World} {F : Nat → Prop} {bb last : Nat} (h : BookIs w F bb [] [] last) :
    Calls Tryz.prog 41 #[ptrV bb] w (fun e w' => e = .returned (.slice none 0 0) ∧ Quiet w w') := by
  obtain ⟨vT, tps, vI, ips, h, h2, h3⟩ := h
  obtain ⟨c0, _, _⟩ := h.cells
  obtain ⟨A, c, hv, hc, hm, _⟩ := ptr_form h.rowT
  subst hv
  rw [List.length_nil] at c0
  clear h h2 h3 hc
  unfold maxLen at hm
  have lbb := cell_lt c0
  dsimp only at lbb
  go_enter Tryz.func41, Tryz.ntmps41
  go_wp2
  refine wp_loop_rounds 1 ?_
  rw [rounds_succ]
  go_wp2
  go_ret
  exact ⟨rfl, Only.refl _ _⟩

set_option maxHeartbeats 800000 in
set_option maxRecDepth 100000 in
theorem book_none {w : World} {sb : Nat} {o : Nat → Nat} {s : St} (h : StoreAt w sb o s) (hT : s.T = []) (hI : s.I = []) :
    Calls Tryz.prog 24 #[ptrV sb] w (fun e w' => e = .returned (.tuple #[.slice none 0 0, .slice none 0 0]) ∧ Quiet w w') := by
  obtain ⟨lb, bb, pb, mh, mt, ms, fh, ft, fs, h⟩ := h
  obtain ⟨_, c1, _⟩ := h.cells
  have hbk := h.book
  rw [hT, hI] at hbk
  have HTB := Lib.hid (tables_none hbk)
  obtain ⟨POST, hPOST⟩ : ∃ POST : Ending → World → Prop, (fun e w' => e = .returned (.tuple #[.slice none 0 0, .slice none 0 0]) ∧ Quiet w w') = POST := ⟨_, rfl⟩
  rw [hPOST]
  have HPOST := Lib.hid hPOST
  have lsb := cell_lt c1
  dsimp only at lsb
  clear h hbk hPOST
  go_enter Tryz.func24, Tryz.ntmps24
  go_wp2_with fail
  refine HTB.out.mono ?_
  rintro e w1 ⟨rfl, hq1⟩
  have HEND : Hid (POST (.returned (.tuple #[.slice none 0 0, .slice none 0 0])) w1) := by
    rw [← HPOST.out]
    exact ⟨rfl, hq1⟩
  clear hq1 HTB
  go_wp2
  refine wp_loop_rounds 1 ?_
  rw [rounds_succ]
  go_wp2
  exact HEND.out

def BookNone (w : World) (sv : Value) : Prop := Calls Tryz.prog 24 #[sv] w (fun e w' => e = .returned (.tuple #[.slice none 0 0, .slice none 0 0]) ∧ Quiet w w')

set_option maxHeartbeats 400000 in
set_option maxRecDepth 100000 in
theorem usedS_none {w : World} {sv : Value} (h : BookNone w sv) : Calls Tryz.prog 22 #[sv] w (NonePost w) := by
  unfold BookNone at h
  have HB := Lib.hid h
  obtain ⟨POST, hPOST⟩ : ∃ POST, NonePost w = POST := ⟨_, rfl⟩
  rw [hPOST]
  have HPOST := Lib.hid hPOST
  clear h hPOST
  go_enter Tryz.func22, Tryz.ntmps22
  go_wp2_with fail
  refine HB.out.mono ?_
  rintro e w1 ⟨rfl, hq1⟩
  have HEND : Hid (POST (.returned (.slice none 0 0)) w1) := by
    rw [← HPOST.out]
    exact ⟨⟨none, 0, rfl⟩, hq1⟩
  clear hq1 HB
  go_wp2
  refine wp_loop_rounds 1 ?_
  rw [rounds_succ]
  go_wp2
  exact HEND.out

set_option maxHeartbeats 400000 in
set_option maxRecDepth 100000 in
theorem entriesS_none {w : World} {sv : Value} (h : BookNone w sv) : Calls Tryz.prog 23 #[sv] w (NonePost w) := by
  unfold BookNone at h
  have HB := Lib.hid h
  obtain ⟨POST, hPOST⟩ : ∃ POST, NonePost w = POST := ⟨_, rfl⟩
  rw [hPOST]
  have HPOST := Lib.hid hPOST
  clear h hPOST
  go_enter Tryz.func23, Tryz.ntmps23
  go_wp2_with fail
  refine HB.out.mono ?_
  rintro e w1 ⟨rfl, hq1⟩
  have HEND : Hid (POST (.returned (.slice none 0 0)) w1) := by
    rw [← HPOST.out]
    exact ⟨⟨none, 0, rfl⟩, hq1⟩
  clear hq1 HB
  go_wp2
  refine wp_loop_rounds 1 ?_
  rw [rounds_succ]
  go_wp2
  exact HEND.out

section
variable {w0 w w' : World} {sb x : Nat} {K : Nat → Prop} {sv : Value} {n : Nat}

theorem sv_book (hs : sv = .pointer none ∨ sv = ptrV sb) (h : LawSt w0 w sb K (st0 n)) : BookNone w sv := by
  rcases hs with rfl | rfl
  · exact nil_book w
  · obtain ⟨o, h1, _⟩ := h
    exact book_none h1 rfl rfl

theorem sv_running (hs : sv = .pointer none ∨ sv = ptrV sb) (h : LawSt w0 w sb K (st0 n)) : Calls Tryz.prog 21 #[sv] w (NonePost w) := by
  rcases hs with rfl | rfl
  · refine (nil_running w).mono ?_
    rintro e w' ⟨rfl, hq⟩
    exact ⟨⟨none, 0, rfl⟩, hq⟩
  · obtain ⟨o, h1, _⟩ := h
    exact running_none h1 rfl
end

set_option maxHeartbeats 400000 in
set_option maxRecDepth 100000 in
theorem store_left {w : World} {sb : Nat} {o : Nat → Nat} {s : St} (h : StoreAt w sb o s) :
    Calls Tryz.prog 26 #[ptrV sb] w (fun e w' => e = .returned (.int .i64 (s.left : Int)) ∧ Quiet w w') := by
  obtain ⟨lb, bb, pb, mh, mt, ms, fh, ft, fs, h⟩ := h
  obtain ⟨_, _, c2, _⟩ := h.cells
  have HP := Lib.hid (pool_left pb s.left w h.pool)
  have lsb := cell_lt c2
  dsimp only at lsb
  clear h
  go_enter Tryz.func26, Tryz.ntmps26
  go_wp2_with fail
  refine HP.out.mono ?_
  rintro e w1 ⟨rfl, rfl⟩
  go_wp2
  go_ret
  exact ⟨rfl, Only.refl _ _⟩

theorem horizon_none {w : World} {sb n : Nat} {o : Nat → Nat} (h : StoreAt w sb o (st0 n)) :
    Calls Tryz.prog 27 #[ptrV sb] w (fun e w' => e = .returned (.int .u64 1) ∧ Quiet w w') := by
  refine (store_horizon (N := 0) h (by show 0 < _; omega) (fun x y e => by cases e) (by omega)).mono ?_
  rintro e w' ⟨hz, rfl, hh, hq⟩
  have := hh.none_ (fun _ => rfl)
  have h1 : hz = 1 := this
  subst h1
  exact ⟨rfl, hq⟩

end Go.Proofs.YtaijnpgoiagboaaGreatDoor

namespace Go.Proofs.YtaijnpgoiagboaaGreatDoor
open Go.RowKit Go.Lap

/-- The law's store, and the row of the two. -/
structure NS (w0 W : World) (sb rb : Nat) : Prop where
  law : LawSt w0 W sb (· = rb) (st0 5)
  row : W.heap[rb]? = some (.cells #[.pointer none, ptrV sb] 26 (0, 0))

section
variable {w0 W W' : World} {sb rb x : Nat} {sv : Value} {name : ByteArray} {A2 : Option Addr} {n2 c2 : Nat}

theorem NS.quietly (h : NS w0 W sb rb) (hq : Quiet W W') : NS w0 W' sb rb := ⟨h.law.same hq, hq.get h.row (fun x => x)⟩
theorem NS.to (h : NS w0 W sb rb) (ht : LawTo w0 W sb (· = rb) (st0 5) W') : NS w0 W' sb rb := ⟨ht.st, ht.2.get h.row (fun x => x.2 rfl)⟩

theorem ns_scan (hs : sv = .pointer none ∨ sv = ptrV sb) (h : NS w0 W sb rb) (hx : U64 x) : Calls Tryz.prog 7 #[sv, .int .u64 (x : Int), .string name] W (fun e w' => e = .returned (.tuple #[.slice none 0 0, .int .i64 15]) ∧ NS w0 w' sb rb) :=
  (scan_none (sv_runs hs h.law) hx).mono (fun _ _ q => ⟨q.1, h.quietly q.2⟩)

theorem ns_seek (hs : sv = .pointer none ∨ sv = ptrV sb) (h : NS w0 W sb rb) (hx : U64 x) : Calls Tryz.prog 8 #[sv, .int .u64 (x : Int), .int .u64 1, .slice none 0 0, .slice none 0 0] W (fun e w' => e = .returned (.tuple #[.slice none 0 0, .int .i64 15]) ∧ NS w0 w' sb rb) :=
  (seek_none (y := 1) (sv_runs hs h.law) hx).mono (fun _ _ q => ⟨q.1, h.quietly q.2⟩)

theorem ns_table (hs : sv = .pointer none ∨ sv = ptrV sb) (h : NS w0 W sb rb) (hx : U64 x) : Calls Tryz.prog 9 #[sv, .int .u64 (x : Int), .string name] W (fun e w' => e = .returned (.tuple #[.agg #[.int .u64 0, .string ⟨#[]⟩, .slice none 0 0, .int .u64 0, .int .u64 0], .bool false]) ∧ NS w0 w' sb rb) :=
  (table_none (sv_runs hs h.law) hx).mono (fun _ _ q => ⟨q.1, h.quietly q.2⟩)

theorem ns_indexes (hs : sv = .pointer none ∨ sv = ptrV sb) (h : NS w0 W sb rb) (hx : U64 x) : Calls Tryz.prog 10 #[sv, .int .u64 (x : Int), .string name] W (fun e w' => e = .returned (.slice none 0 0) ∧ NS w0 w' sb rb) :=
  (indexes_none (sv_runs hs h.law) hx).mono (fun _ _ q => ⟨q.1, h.quietly q.2⟩)

theorem ns_make (hs : sv = .pointer none ∨ sv = ptrV sb) (h : NS w0 W sb rb) (hx : U64 x) : Calls Tryz.prog 13 #[sv, .int .u64 (x : Int), .string name, .slice A2 n2 c2] W (fun e w' => e = .returned (.int .i64 15) ∧ NS w0 w' sb rb) :=
  (make_none (sv_runs hs h.law) hx).mono (fun _ _ q => ⟨q.1, h.quietly q.2⟩)

theorem ns_dropTable (hs : sv = .pointer none ∨ sv = ptrV sb) (h : NS w0 W sb rb) (hx : U64 x) : Calls Tryz.prog 15 #[sv, .int .u64 (x : Int), .string name] W (fun e w' => e = .returned (.int .i64 15) ∧ NS w0 w' sb rb) :=
  (dropTable_none (sv_runs hs h.law) hx).mono (fun _ _ q => ⟨q.1, h.quietly q.2⟩)

theorem ns_makeIndex (hs : sv = .pointer none ∨ sv = ptrV sb) (h : NS w0 W sb rb) (hx : U64 x) : Calls Tryz.prog 16 #[sv, .int .u64 (x : Int), .string name, .string name, .string name] W (fun e w' => e = .returned (.int .i64 15) ∧ NS w0 w' sb rb) :=
  (makeIndex_none (sv_runs hs h.law) hx).mono (fun _ _ q => ⟨q.1, h.quietly q.2⟩)

theorem ns_dropIndex (hs : sv = .pointer none ∨ sv = ptrV sb) (h : NS w0 W sb rb) (hx : U64 x) : Calls Tryz.prog 17 #[sv, .int .u64 (x : Int), .string name] W (fun e w' => e = .returned (.int .i64 15) ∧ NS w0 w' sb rb) :=
  (dropIndex_none (sv_runs hs h.law) hx).mono (fun _ _ q => ⟨q.1, h.quietly q.2⟩)

theorem ns_insert (hs : sv = .pointer none ∨ sv = ptrV sb) (h : NS w0 W sb rb) (hx : U64 x) : Calls Tryz.prog 18 #[sv, .int .u64 (x : Int), .string name, .slice A2 n2 c2] W (fun e w' => e = .returned (.int .i64 15) ∧ NS w0 w' sb rb) :=
  (insert_none (sv_runs hs h.law) hx).mono (fun _ _ q => ⟨q.1, h.quietly q.2⟩)

theorem ns_update (hs : sv = .pointer none ∨ sv = ptrV sb) (h : NS w0 W sb rb) (hx : U64 x) : Calls Tryz.prog 19 #[sv, .int .u64 (x : Int), .string name, .agg #[.int .u64 0, .int .i64 0, .int .i64 0, .slice none 0 0], .slice A2 n2 c2] W (fun e w' => e = .returned (.int .i64 15) ∧ NS w0 w' sb rb) :=
  (update_none (sv_runs hs h.law) hx).mono (fun _ _ q => ⟨q.1, h.quietly q.2⟩)

theorem ns_delete (hs : sv = .pointer none ∨ sv = ptrV sb) (h : NS w0 W sb rb) (hx : U64 x) : Calls Tryz.prog 20 #[sv, .int .u64 (x : Int), .string name, .agg #[.int .u64 0, .int .i64 0, .int .i64 0, .slice none 0 0]] W (fun e w' => e = .returned (.int .i64 15) ∧ NS w0 w' sb rb) :=
  (delete_none (sv_runs hs h.law) hx).mono (fun _ _ q => ⟨q.1, h.quietly q.2⟩)

theorem ns_commit (hs : sv = .pointer none ∨ sv = ptrV sb) (h : NS w0 W sb rb) (hx : U64 x) : Calls Tryz.prog 11 #[sv, .int .u64 (x : Int)] W (fun e w' => e = .returned (.int .i64 15) ∧ NS w0 w' sb rb) :=
  (sv_commit hs h.law hx).mono (fun _ _ q => ⟨q.1, h.to q.2⟩)

theorem ns_abort (hs : sv = .pointer none ∨ sv = ptrV sb) (h : NS w0 W sb rb) (hx : U64 x) : Calls Tryz.prog 12 #[sv, .int .u64 (x : Int)] W (fun e w' => e = .returned (.int .i64 15) ∧ NS w0 w' sb rb) :=
  (sv_abort hs h.law hx).mono (fun _ _ q => ⟨q.1, h.to q.2⟩)

theorem ns_running (hs : sv = .pointer none ∨ sv = ptrV sb) (h : NS w0 W sb rb) : Calls Tryz.prog 21 #[sv] W (fun e w' => (∃ A c, e = .returned (.slice A 0 c)) ∧ NS w0 w' sb rb) :=
  (sv_running hs h.law).mono (fun _ _ q => ⟨q.1, h.quietly q.2⟩)

theorem ns_used (hs : sv = .pointer none ∨ sv = ptrV sb) (h : NS w0 W sb rb) : Calls Tryz.prog 22 #[sv] W (fun e w' => (∃ A c, e = .returned (.slice A 0 c)) ∧ NS w0 w' sb rb) :=
  (usedS_none (sv_book hs h.law)).mono (fun _ _ q => ⟨q.1, h.quietly q.2⟩)

theorem ns_entries (hs : sv = .pointer none ∨ sv = ptrV sb) (h : NS w0 W sb rb) : Calls Tryz.prog 23 #[sv] W (fun e w' => (∃ A c, e = .returned (.slice A 0 c)) ∧ NS w0 w' sb rb) :=
  (entriesS_none (sv_book hs h.law)).mono (fun _ _ q => ⟨q.1, h.quietly q.2⟩)

end

end Go.Proofs.YtaijnpgoiagboaaGreatDoor

namespace Go.Proofs.YtaijnpgoiagboaaGreatDoor
open Go.RowKit Go.Lap

set_option maxHeartbeats 400000 in
set_option maxRecDepth 100000 in
theorem few_str (s : ByteArray) (w : World) (hs : s.size ≤ maxLen) : Calls Tryz.prog 5 #[.string s] w (fun e w' => (∃ s' : ByteArray, e = .returned (.string s')) ∧ w = w') := by
  go_enter Tryz.func5, Tryz.ntmps5
  go_wp2_with fail
  go_ret
  exact ⟨⟨_, rfl⟩, rfl⟩

end Go.Proofs.YtaijnpgoiagboaaGreatDoor

namespace Go.Proofs.YtaijnpgoiagboaaGreatDoor
open Go.RowKit Go.Lap

set_option maxHeartbeats 8000000 in
set_option maxRecDepth 100000 in
theorem nil_walk (x : Nat) (hx : U64 x) (name : ByteArray) (hname : name.size ≤ maxLen) (A : Option Addr) (n cap : Nat) (hn : n ≤ cap) (hcap : cap ≤ maxLen) (w : World) :
    Calls Tryz.prog 3 #[.int .u64 (x : Int), .string name, .slice A n cap] w fun e w' => e = .returned (.bool true) ∧ Quiet w w' := by
  obtain ⟨POST, hPOST⟩ : ∃ POST : Ending → World → Prop, (fun e w' => e = .returned (.bool true) ∧ Quiet w w') = POST := ⟨_, rfl⟩
  rw [hPOST]
  have HPOST := Lib.hid hPOST
  clear hPOST
  obtain ⟨k, hk⟩ : ∃ k : Nat, min (n : Int) 10 = (k : Int) := ⟨min n 10, by omega⟩
  have hkn : k ≤ n := by omega
  have hkc : k ≤ cap := by omega
  unfold maxLen at hcap
  go_enter Tryz.func3, Tryz.ntmps3
  go_wp2_with fail
  refine (awake12 _).mono ?_
  rintro e w1 ⟨rfl, hq1⟩
  have HQ1 := Lib.hid hq1
  clear hq1
  go_wp2_with fail
  refine wp_region_held_drew (S := (fun _ => True)) (by kernel_rfl) (trivial) (fun hHeld => ?_)
  simp only [List.size_toArray, List.length_cons, List.length_nil, Nat.reduceAdd]
  have q0 : Quiet w1 w1.drew := (Only.refl _ _).drew
  generalize w1.drew = d0 at q0 hHeld ⊢
  (refine zTK 0 (oi := ?_) (v := ?_) ?_ ?_ (Or.inl ⟨?_, ?_⟩) ?_; rotate_left 2; (focus (simp only [zGA, zGZ, zGS] <;> rfl)); (focus (exact fun _ _ _ h => h)); (focus rfl); (focus (intro w hSw; (try dsimp only at hSw); go_simp; (try with_reducible rfl); done)); (try simp only [Act.put, zPA, zPZ, zPS]))
  (refine zTK 2 (oi := ?_) (v := ?_) ?_ ?_ (Or.inl ⟨?_, ?_⟩) ?_; rotate_left 2; (focus (simp only [zGA, zGZ, zGS] <;> rfl)); (focus (exact fun _ _ _ h => h)); (focus rfl); (focus (intro w hSw; (try dsimp only at hSw); go_simp; (try with_reducible rfl); done)); (try simp only [Act.put, zPA, zPZ, zPS]))
  (refine zTK 3 (oi := ?_) (v := ?_) ?_ ?_ (Or.inl ⟨?_, ?_⟩) ?_; rotate_left 2; (focus (simp only [zGA, zGZ, zGS] <;> rfl)); (focus (exact fun _ _ _ h => h)); (focus rfl); (focus (intro w hSw; (try dsimp only at hSw); go_simp; (try with_reducible rfl); done)); (try simp only [Act.put, zPA, zPZ, zPS]))
  (refine zTK 4 (oi := ?_) (v := ?_) ?_ ?_ (Or.inl ⟨?_, ?_⟩) ?_; rotate_left 2; (focus (simp only [zGA, zGZ, zGS] <;> rfl)); (focus (exact fun _ _ _ h => h)); (focus rfl); (focus (intro w hSw; (try dsimp only at hSw); go_simp; (try with_reducible rfl); done)); (try simp only [Act.put, zPA, zPZ, zPS]))
  (refine zTK 5 (oi := ?_) (v := ?_) ?_ ?_ (Or.inl ⟨?_, ?_⟩) ?_; rotate_left 2; (focus (simp only [zGA, zGZ, zGS] <;> rfl)); (focus (exact fun _ _ _ h => h)); (focus rfl); (focus (intro w hSw; (try dsimp only at hSw); go_simp; (try with_reducible rfl); done)); (try simp only [Act.put, zPA, zPZ, zPS]))
  (refine zTK 6 (oi := ?_) (v := ?_) ?_ ?_ (Or.inl ⟨?_, ?_⟩) ?_; rotate_left 2; (focus (simp only [zGA, zGZ, zGS] <;> rfl)); (focus (exact fun _ _ _ h => h)); (focus rfl); (focus (intro w hSw; (try dsimp only at hSw); go_simp; (try with_reducible rfl); done)); (try simp only [Act.put, zPA, zPZ, zPS]))
  refine wpAnyH_ready (rs := [1]) (by kernel_rfl) (by simp) ?_
  refine AllReadyH.cons (o := ?_) ?_ ?_ AllReadyH.nil
  rotate_left 1
  (focus (simp only [zGA, zGZ, zGS] <;> rfl))
  intro K hK
  go_simp
  go_at_call 5
  refine (few_str name _ hname).mono ?_
  rintro e d1 ⟨⟨nm, rfl⟩, rfl⟩
  dsimp only
  refine hK.out _ _ ?_ (fun hHeld => ?_)
  · exact trivial
  clear hK K
  (try simp only [Act.put, zPA, zPZ, zPS])
  (refine zTK 7 (oi := ?_) (v := ?_) ?_ ?_ (Or.inl ⟨?_, ?_⟩) ?_; rotate_left 2; (focus (simp only [zGA, zGZ, zGS] <;> rfl)); (focus (exact fun _ _ _ h => h)); (focus rfl); (focus (intro w hSw; (try dsimp only at hSw); go_simp; (try with_reducible rfl); done)); (try simp only [Act.put, zPA, zPZ, zPS]))
  (refine zTK 8 (oi := ?_) (v := ?_) ?_ ?_ (Or.inl ⟨?_, ?_⟩) ?_; rotate_left 2; (focus (simp only [zGA, zGZ, zGS] <;> rfl)); (focus (exact fun _ _ _ h => h)); (focus rfl); (focus (intro w hSw; (try dsimp only at hSw); go_simp; (try with_reducible rfl); done)); (try simp only [Act.put, zPA, zPZ, zPS]))
  refine wpAnyH_done (by kernel_rfl) ?_ _
  have HQ2 : Hid (Quiet w d0) := HQ1.out.trans q0
  clear hHeld q0
  go_wp2_with fail
  refine (law_new 5 (by omega) _).mono ?_
  rintro e w2 ⟨sb, rfl, h2⟩
  have hq3 : Quiet w2 (w2.alloc (.cells #[.pointer none, ptrV sb] 26)) := (Only.refl _ _).alloc _
  have hb3 := alloc_new w2 (.cells #[.pointer none, ptrV sb] 26)
  have hns := (show NS d0 (w2.alloc (.cells #[.pointer none, ptrV sb] 26)) sb w2.heap.size from ⟨(h2.quietly hq3).mono (fun k e => Or.inr ⟨by rw [e]; exact Nat.le_refl _, by rw [e]; simp⟩), hb3⟩)
  obtain ⟨rb, hrb⟩ : ∃ rb, w2.heap.size = rb := ⟨_, rfl⟩
  rw [hrb] at hns
  have HNS := Lib.hid hns
  clear h2 hq3 hb3 hns
  go_wp2_with fail
  (try rw [hrb])
  generalize w2.alloc (.cells #[.pointer none, ptrV sb] 26) = w3 at *
  clear hrb
  go_loopw [38, 10, 11, 12, 13, 14, 15, 16] (fun i _ _ _ _ _ _ _ wr => ∃ j : Nat, j ≤ 2 ∧ i = .int .i64 (j : Int) ∧ NS d0 wr sb rb) (fun i _ _ _ _ _ _ _ _ => 2 - (intOf i).toNat)
  case atStart => exact ⟨0, by omega, rfl, HNS.out⟩
  case round =>
    obtain ⟨j, hj, rfl, h0⟩ := hrel
    by_cases hlt : j < 2
    · obtain ⟨sv, hsv, hcell⟩ : ∃ sv, (sv = .pointer none ∨ sv = ptrV sb) ∧ wr.cell? ⟨rb, j, none⟩ = some sv := by
        rcases Nat.lt_or_ge j 1 with a | a
        · obtain rfl : j = 0 := by omega
          exact ⟨_, Or.inl rfl, by rw [cell_of h0.row]; rfl⟩
        · obtain rfl : j = 1 := by omega
          exact ⟨_, Or.inr rfl, by rw [cell_of h0.row]; rfl⟩
      have hlr := cell_lt hcell
      dsimp only at hlr
      go_wp2_with fail
      refine (ns_scan hsv (h0.quietly (by first | exact Only.refl _ _ | exact (Only.refl _ _).alloc _ | exact ((Only.refl _ _).alloc _).alloc _)) hx).mono ?_
      rintro e w11 ⟨rfl, h1⟩
      go_wp2_with fail
      refine (ns_seek hsv (h1.quietly (by first | exact Only.refl _ _ | exact (Only.refl _ _).alloc _ | exact ((Only.refl _ _).alloc _).alloc _)) hx).mono ?_
      rintro e w12 ⟨rfl, h2⟩
      go_wp2_with fail
      refine (ns_table hsv (h2.quietly (by first | exact Only.refl _ _ | exact (Only.refl _ _).alloc _ | exact ((Only.refl _ _).alloc _).alloc _)) hx).mono ?_
      rintro e w13 ⟨rfl, h3⟩
      go_wp2_with fail
      refine (ns_indexes hsv (h3.quietly (by first | exact Only.refl _ _ | exact (Only.refl _ _).alloc _ | exact ((Only.refl _ _).alloc _).alloc _)) hx).mono ?_
      rintro e w14 ⟨rfl, h4⟩
      go_wp2_with fail
      refine (ns_commit hsv (h4.quietly (by first | exact Only.refl _ _ | exact (Only.refl _ _).alloc _ | exact ((Only.refl _ _).alloc _).alloc _)) hx).mono ?_
      rintro e w15 ⟨rfl, h5⟩
      go_wp2_with fail
      refine (ns_abort hsv (h5.quietly (by first | exact Only.refl _ _ | exact (Only.refl _ _).alloc _ | exact ((Only.refl _ _).alloc _).alloc _)) hx).mono ?_
      rintro e w16 ⟨rfl, h6⟩
      go_wp2_with fail
      refine (law_one _).mono ?_
      rintro e wo ⟨bo, rfl, hqo, _, _, _⟩
      have h7 := h6.quietly hqo
      go_wp2_with fail
      refine (ns_make hsv (h7.quietly (by first | exact Only.refl _ _ | exact (Only.refl _ _).alloc _ | exact ((Only.refl _ _).alloc _).alloc _)) hx).mono ?_
      rintro e w18 ⟨rfl, h8⟩
      go_wp2_with fail
      refine (ns_dropTable hsv (h8.quietly (by first | exact Only.refl _ _ | exact (Only.refl _ _).alloc _ | exact ((Only.refl _ _).alloc _).alloc _)) hx).mono ?_
      rintro e w19 ⟨rfl, h9⟩
      go_wp2_with fail
      refine (ns_makeIndex hsv (h9.quietly (by first | exact Only.refl _ _ | exact (Only.refl _ _).alloc _ | exact ((Only.refl _ _).alloc _).alloc _)) hx).mono ?_
      rintro e w20 ⟨rfl, h10⟩
      go_wp2_with fail
      refine (ns_dropIndex hsv (h10.quietly (by first | exact Only.refl _ _ | exact (Only.refl _ _).alloc _ | exact ((Only.refl _ _).alloc _).alloc _)) hx).mono ?_
      rintro e w21 ⟨rfl, h11⟩
      go_wp2_with fail
      refine (ns_insert hsv (h11.quietly (by first | exact Only.refl _ _ | exact (Only.refl _ _).alloc _ | exact ((Only.refl _ _).alloc _).alloc _)) hx).mono ?_
      rintro e w22 ⟨rfl, h12⟩
      go_wp2_with fail
      refine (ns_update hsv (h12.quietly (by first | exact Only.refl _ _ | exact (Only.refl _ _).alloc _ | exact ((Only.refl _ _).alloc _).alloc _)) hx).mono ?_
      rintro e w23 ⟨rfl, h13⟩
      go_wp2_with fail
      refine (ns_delete hsv (h13.quietly (by first | exact Only.refl _ _ | exact (Only.refl _ _).alloc _ | exact ((Only.refl _ _).alloc _).alloc _)) hx).mono ?_
      rintro e w24 ⟨rfl, h14⟩
      go_wp2_with fail
      refine (ns_running hsv (h14.quietly (by first | exact Only.refl _ _ | exact (Only.refl _ _).alloc _ | exact ((Only.refl _ _).alloc _).alloc _))).mono ?_
      rintro e w25 ⟨⟨A15, c15, rfl⟩, h15⟩
      go_wp2_with fail
      refine (ns_used hsv (h15.quietly (by first | exact Only.refl _ _ | exact (Only.refl _ _).alloc _ | exact ((Only.refl _ _).alloc _).alloc _))).mono ?_
      rintro e w26 ⟨⟨A16, c16, rfl⟩, h16⟩
      go_wp2_with fail
      refine (ns_entries hsv (h16.quietly (by first | exact Only.refl _ _ | exact (Only.refl _ _).alloc _ | exact ((Only.refl _ _).alloc _).alloc _))).mono ?_
      rintro e w27 ⟨⟨A17, c17, rfl⟩, h17⟩
      have HN := Lib.hid h17
      clear h1 h2 h3 h4 h5 h6 h7 h8 h9 h10 h11 h12 h13 h14 h15 h16 h17
      go_wp2
      go_roundw
      case rel => exact ⟨j + 1, by omega, by go_num, HN.out⟩
      case measure => simp [intOf]; omega
    · obtain rfl : j = 2 := by omega
      clear hlt
      obtain ⟨o, hst, _, _, _⟩ := h0.law
      have HST := Lib.hid hst
      have HQF : Hid (Quiet w wr) := HQ2.out.trans h0.law.quiet
      clear hst h0
      go_wp2_with fail
      have QQ0 : Hid (Quiet wr wr) := Only.refl _ _
      refine (nil_book _).mono ?_
      rintro e v1 ⟨rfl, q1⟩
      have QQ1 := Lib.hid (QQ0.out.trans q1)
      clear q1 QQ0
      go_wp2_with fail
      refine (nil_begin _).mono ?_
      rintro e v2 ⟨rfl, q2⟩
      have QQ2 := Lib.hid (QQ1.out.trans q2)
      clear q2 QQ1
      go_wp2_with fail
      refine (nil_left _).mono ?_
      rintro e v3 ⟨rfl, q3⟩
      have QQ3 := Lib.hid (QQ2.out.trans q3)
      clear q3 QQ2
      go_wp2_with fail
      refine (nil_horizon _).mono ?_
      rintro e v4 ⟨rfl, q4⟩
      have QQ4 := Lib.hid (QQ3.out.trans q4)
      clear q4 QQ3
      go_wp2_with fail
      refine (nil_prune _).mono ?_
      rintro e v5 ⟨rfl, q5⟩
      have QQ5 := Lib.hid (QQ4.out.trans q5)
      clear q5 QQ4
      go_wp2_with fail
      refine (nil_gather _).mono ?_
      rintro e v6 ⟨rfl, q6⟩
      have QQ6 := Lib.hid (QQ5.out.trans q6)
      clear q6 QQ5
      go_wp2_with fail
      refine (nil_unlink _).mono ?_
      rintro e v7 ⟨rfl, q7⟩
      have QQ7 := Lib.hid (QQ6.out.trans q7)
      clear q7 QQ6
      go_wp2_with fail
      refine (nil_release _).mono ?_
      rintro e v8 ⟨rfl, q8⟩
      have QQ8 := Lib.hid (QQ7.out.trans q8)
      clear q8 QQ7
      go_wp2_with fail
      refine (nil_pages _).mono ?_
      rintro e v9 ⟨rfl, q9⟩
      have QQ9 := Lib.hid (QQ8.out.trans q9)
      clear q9 QQ8
      go_wp2_with fail
      have HLF : Hid (Calls Tryz.prog 26 #[ptrV sb] v9 (fun e w' => e = .returned (.int .i64 5) ∧ Quiet v9 w')) := store_left (HST.out.quietly QQ9.out)
      refine HLF.out.mono ?_
      rintro e v10 ⟨rfl, q10⟩
      have QQ10 := Lib.hid (QQ9.out.trans q10)
      clear q10 QQ9 HLF
      go_wp2_with fail
      refine (horizon_none (HST.out.quietly QQ10.out)).mono ?_
      rintro e v11 ⟨rfl, q11⟩
      have HEND : Hid (POST (.returned (.bool true)) v11) := by
        rw [← HPOST.out]
        exact ⟨rfl, (HQF.out.trans QQ10.out).trans q11⟩
      clear q11 QQ10 HST HQF
      go_wp2
      exact HEND.out

end Go.Proofs.YtaijnpgoiagboaaGreatDoor

namespace Go.Lap
open Go.ChangeShapes Go.WideShapes Go.ChangeAt Go.RowKit Go.Deep

section
variable {H : Type} {enc : TypeId × Value → H} {P : Program} {W : World} {r : Reach} {base : Nat} {v : Value} {d : DataW H} {p : List MemPlace}

theorem open_slice_of {t e : TypeId} {size : Nat} (ht : P.underlying t = some (.slice e)) (hC : P.cellsOf e = size) (hs : 0 < size) (hv : Value.okWide P W r base t v) (h : DataW.Trod enc P W 0 (fun _ => true) true t v d p) :
    ∃ A n cap, v = .slice A n cap ∧ n ≤ cap ∧ cap ≤ maxLen ∧ ∀ i, i < n → ∃ b off, A = some ⟨b, off, none⟩ ∧ b < W.heap.size ∧
      ∃ cs m x, cs.length = size ∧ (∀ f, f < size → W.cell? ⟨b, off + i * size + f, none⟩ = cs[f]?) ∧ DataW.trod enc P W 0 (fun _ => true) true m e cs = some x := by
  obtain ⟨A, n, cap, rfl⟩ := okWide_slice ht hv
  refine ⟨A, n, cap, rfl, ?_⟩
  obtain ⟨fuel, hf⟩ := h
  rcases open_slice ht hf with ⟨h0, _⟩ | ⟨a, len, cap', m, k, D, Pl, hcs, hb, hl, hm, hmm, _, hi⟩
  · simp [Value.cells] at h0
    obtain ⟨rfl, rfl, rfl⟩ := h0
    exact ⟨Nat.le_refl _, Nat.zero_le _, fun i hi => absurd hi (by omega)⟩
  · simp [Value.cells] at hcs
    obtain ⟨rfl, rfl, rfl⟩ := hcs
    refine ⟨hl, hm, fun i hin => ?_⟩
    simp only [if_true] at hmm
    obtain ⟨cs, hc, htr⟩ := hi i (by omega)
    rw [hC] at hc
    obtain ⟨_, hlen, hcell⟩ := World.cells?_some hc
    have h0 := hcell 0 hs
    rw [List.getElem?_eq_getElem (by omega)] at h0
    obtain ⟨b, off, spot⟩ := a
    have hlt := cell_lt h0
    have hspot : spot = none := by
      obtain ⟨cs0, hc0, _⟩ := hi 0 (by omega)
      rw [hC] at hc0
      obtain ⟨_, hlen0, hcell0⟩ := World.cells?_some hc0
      have h1 := hcell0 0 hs
      rw [List.getElem?_eq_getElem (by omega)] at h1
      simpa [Addr.add] using World.cell?_spot h1
    subst hspot
    refine ⟨b, off, rfl, ?_, cs, _, _, hlen, fun f hf => ?_, htr⟩
    · rw [add_none, add_none] at hlt; exact hlt
    · rw [← hcell f hf, add_none, add_none]

end
end Go.Lap

namespace Go.Lap
open Go.ChangeShapes Go.WideShapes Go.ChangeAt Go.RowKit Go.Deep

section
variable {H : Type} {enc : TypeId × Value → H} {P : Program} {W : World} {r : Reach} {base : Nat} {v : Value} {d : DataW H} {p : List MemPlace}

end

end Go.Lap
namespace Go.Proofs.YtaijnpgoiagboaaGreatDoor
open Go.RowKit Go.Lap

end Go.Proofs.YtaijnpgoiagboaaGreatDoor

namespace Go.Proofs.YtaijnpgoiagboaaGreatDoor
open Go.ChangeShapes Go.WideShapes Go.ChangeAt Go.RowKit Go.Lap

theorem cells_valN : Tryz.prog.cellsOf 73 = 4 := by kernel_rfl

set_option maxRecDepth 100000 in
theorem storeNil_walk {H : Type} {enc : TypeId × Value → H} {r : Reach} {base : Nat} {d0 d1 d2 : DataW H} {p0 p1 p2 : List MemPlace} (v0 v1 v2 : Value) (W : World)
    (o0 : Value.okWide Tryz.prog W r base 22 v0) (h0 : DataW.Trod enc Tryz.prog W 0 (fun _ => true) true 22 v0 d0 p0)
    (o1 : Value.okWide Tryz.prog W r base 9 v1) (h1 : DataW.Trod enc Tryz.prog W 0 (fun _ => true) true 9 v1 d1 p1)
    (o2 : Value.okWide Tryz.prog W r base 23 v2) (h2 : DataW.Trod enc Tryz.prog W 0 (fun _ => true) true 23 v2 d2 p2) :
    Calls Tryz.prog 3 #[v0, v1, v2] W fun e w' => e = .returned (.bool true) ∧ Below W.heap.size W w' := by
  obtain ⟨x, rfl, _, _, wx⟩ := open_int Tryz.underlying22 o0 h0
  have hx := bounds_u64 wx
  obtain ⟨n, rfl⟩ : ∃ n : Nat, x = n := ⟨x.toNat, by omega⟩
  obtain ⟨s, rfl, _, _, hs⟩ := Go.ChangeMaps.open_string Tryz.underlying9 o1 h1
  obtain ⟨A, k, cap, rfl, hk, hc, _⟩ := open_slice_of Tryz.underlying23 cells_valN (by omega) o2 h2
  refine (nil_walk n (by unfold U64; omega) s hs A k cap hk hc W).mono fun e W' ⟨he, hq⟩ => ⟨he, hq.os, hq.tape, hq.output, hq.size, fun k hk => hq.block k hk (fun x => x)⟩

end Go.Proofs.YtaijnpgoiagboaaGreatDoor
