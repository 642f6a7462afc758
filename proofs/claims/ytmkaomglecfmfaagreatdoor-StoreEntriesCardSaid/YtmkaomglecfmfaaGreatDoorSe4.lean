/- store.open. store.kinds of a table of one column. store.places. A version that is got and put into a variable: what is left; rows as they are told. The rows that store.rows tells, by their IDs: the order, and the sort. store.rows. store.version of a version that is there. store.put where there is no index. store.Insert of a row of one small number. store.Update of a version that is there, to a row of one small number. store.Scan of a table whose rows are small numbers. Plain: what a stamp leaves at every place; the places of a heap. store.CreateTable of an empty book. A store in a law's world: what it holds, and what each call leaves. StoreFirst's plain part: one page of versions of one row; who may end it. The book's indexes: told, Keep. No condition. -/
import Derived.Test.YtmkaomglecfmfaaGreatDoorSe3
namespace Go.Proofs.YtmkaomglecfmfaaGreatDoor
open Go.RowKit Go.Lap

theorem drew_get6 {w : World} {b : Nat} {x : Option Obj} (h : w.heap[b]? = x) : w.drew.heap[b]? = x := h

set_option maxHeartbeats 1000000 in
set_option maxRecDepth 100000 in
theorem store_open {w : World} {sb x i : Nat} {o : Nat → Nat} {s : St} {y : Snap} {t : TE} {name : ByteArray} (h : StoreAt w sb o s) (hx : U64 x) (hy : s.sn x = some y) (hf : findT s.L y name s.T = some i) (ht : s.T[i]? = some t) :
    Calls Tryz.prog 35 #[ptrV sb, .int .u64 (x : Int), .string name] w (OpenPost w o y t) := by
  have hq0 : Quiet w ((w.alloc (.cells #[.int .u64 0, .int .u64 0, .int .u64 0, .slice none 0 0] 70)).alloc (.cells #[.int .u64 0, .string ⟨#[]⟩, .slice none 0 0, .int .u64 0, .int .u64 0] 86)) := ((Only.refl _ _).alloc _).alloc _
  have HRU := Lib.hid (store_runs (h.quietly hq0) hx)
  have HQ0 := Lib.hid hq0
  have HR := Lib.hid (two_new w (.cells #[.int .u64 0, .int .u64 0, .int .u64 0, .slice none 0 0] 70) (.cells #[.int .u64 0, .string ⟨#[]⟩, .slice none 0 0, .int .u64 0, .int .u64 0] 86))
  have HN := Lib.hid (alloc_old (alloc_new w (.cells #[.int .u64 0, .int .u64 0, .int .u64 0, .slice none 0 0] 70)) (.cells #[.int .u64 0, .string ⟨#[]⟩, .slice none 0 0, .int .u64 0, .int .u64 0] 86))
  obtain ⟨lb, bb, pb, mh, mt, ms, fh, ft, fs, h⟩ := h
  have HH := Lib.hid h
  unfold RunsPost at HRU
  rw [hy] at HRU
  obtain ⟨r6, hr6⟩ : ∃ r6, w.heap.size = r6 := ⟨_, rfl⟩
  obtain ⟨r7, hr7⟩ : ∃ r7, r6 + 1 = r7 := ⟨_, rfl⟩
  rw [hr6] at HN HR
  rw [hr7] at HR
  clear hq0 h
  go_enter Tryz.func35, Tryz.ntmps35
  go_wp2_with fail
  refine HRU.out.mono ?_
  rintro e w1 ⟨hq1, A, c, rfl, hs1⟩
  clear HRU
  have hq01 : Quiet w w1 := HQ0.out.trans hq1
  have b6 := hq1.get HN.out (fun x => x)
  have b7 := hq1.get HR.out (fun x => x)
  have hq2 : Quiet w1 (w1.alloc (.cells (snapCells y A c) 70)) := (Only.refl _ _).alloc _
  have hpb := alloc_new w1 (.cells (snapCells y A c) 70)
  have l7 := lt_of_get b7
  obtain ⟨pv, hpv⟩ : ∃ pv, w1.heap.size = pv := ⟨_, rfl⟩
  have hz1 := hq01.size
  unfold snapV
  go_wp2_with fail
  rw [hpv] at hpb l7
  have hs2 := hs1.kept hq2 (fun _ _ x => x)
  have b6' := hq2.get b6 (fun x => x)
  have b7' := hq2.get b7 (fun x => x)
  have hq02 := hq01.trans hq2
  generalize w1.alloc (.cells (snapCells y A c) 70) = w2 at *
  obtain ⟨c0, c1, _⟩ := (HH.out.quietly hq02).cells
  obtain ⟨p0, p1, p2, p3⟩ : w2.cell? ⟨pv, 0, none⟩ = some (.int .u64 (y.own : Int)) ∧ w2.cell? ⟨pv, 1, none⟩ = some (.int .u64 (y.xmin : Int)) ∧ w2.cell? ⟨pv, 2, none⟩ = some (.int .u64 (y.xmax : Int)) ∧ w2.cell? ⟨pv, 3, none⟩ = some (.slice A y.run.length c) :=
    ⟨by rw [cell_of hpb]; rfl, by rw [cell_of hpb]; rfl, by rw [cell_of hpb]; rfl, by rw [cell_of hpb]; rfl⟩
  have HTB : Hid (∀ W, Quiet w2 W → Calls Tryz.prog 75 #[ptrV bb, ptrV lb, snapV y A c, .string name] W (TablePost W t)) := fun W hq => by
    have h2 := (HH.out.quietly hq02).quietly hq
    obtain ⟨vT, tps, vI, ips, hb1, _, _⟩ := h2.book
    exact book_Table name hb1 h2.log (hs2.kept hq (fun _ _ x => x)) hf ht
  have HSQ : Hid (∀ W, Quiet w2 W → (fun w' => w'.cell? ⟨sb, 1, none⟩ = some (ptrV bb) ∧ w'.cell? ⟨sb, 0, none⟩ = some (ptrV lb) ∧ w'.cell? ⟨pv, 0, none⟩ = some (.int .u64 (y.own : Int)) ∧ w'.cell? ⟨pv, 1, none⟩ = some (.int .u64 (y.xmin : Int)) ∧ w'.cell? ⟨pv, 2, none⟩ = some (.int .u64 (y.xmax : Int)) ∧ w'.cell? ⟨pv, 3, none⟩ = some (.slice A y.run.length c)) W) := fun W hq => ⟨hq.cell c1 (fun x => x), hq.cell c0 (fun x => x), hq.cell p0 (fun x => x), hq.cell p1 (fun x => x), hq.cell p2 (fun x => x), hq.cell p3 (fun x => x)⟩
  have lsb := cell_lt c0
  have lpv := cell_lt p0
  dsimp only at lsb lpv
  have HB6 := Lib.hid b6'
  have HB7 := Lib.hid b7'
  have HPV := Lib.hid hpb
  have HQ2 := Lib.hid hq02
  have HS2 := Lib.hid hs2
  unfold snapV at HTB
  clear hq1 hs1 b6 b7 hq2 hpb hq01 hs2 b6' b7' hq02 HN HR c0 c1 p0 p1 p2 p3
  refine wp_region_held_drew (S := (fun w' => w'.cell? ⟨sb, 1, none⟩ = some (ptrV bb) ∧ w'.cell? ⟨sb, 0, none⟩ = some (ptrV lb) ∧ w'.cell? ⟨pv, 0, none⟩ = some (.int .u64 (y.own : Int)) ∧ w'.cell? ⟨pv, 1, none⟩ = some (.int .u64 (y.xmin : Int)) ∧ w'.cell? ⟨pv, 2, none⟩ = some (.int .u64 (y.xmax : Int)) ∧ w'.cell? ⟨pv, 3, none⟩ = some (.slice A y.run.length c))) (by kernel_rfl) (HSQ.out _ ((Only.refl _ _).drew)) (fun hHeld => ?_)
  simp only [List.size_toArray, List.length_cons, List.length_nil, Nat.reduceAdd]
  (refine zTK 0 (oi := ?_) (v := ?_) ?_ ?_ (Or.inl ⟨?_, ?_⟩) ?_; rotate_left 2; (focus (simp only [zGA, zGZ, zGS] <;> rfl)); (focus (exact fun _ _ _ h => h)); (focus rfl); (focus (intro w hSw; (try dsimp only at hSw); go_simp; (try with_reducible rfl); done)); (try simp only [Act.put, zPA, zPZ, zPS]))
  (refine zTK 1 (oi := ?_) (v := ?_) ?_ ?_ (Or.inl ⟨?_, ?_⟩) ?_; rotate_left 2; (focus (simp only [zGA, zGZ, zGS] <;> rfl)); (focus (exact fun _ _ _ h => h)); (focus rfl); (focus (intro w hSw; (try dsimp only at hSw); go_simp; (try with_reducible rfl); done)); (try simp only [Act.put, zPA, zPZ, zPS]))
  (refine zTK 2 (oi := ?_) (v := ?_) ?_ ?_ (Or.inl ⟨?_, ?_⟩) ?_; rotate_left 2; (focus (simp only [zGA, zGZ, zGS] <;> rfl)); (focus (exact fun _ _ _ h => h)); (focus rfl); (focus (intro w hSw; (try dsimp only at hSw); go_simp; (try with_reducible rfl); done)); (try simp only [Act.put, zPA, zPZ, zPS]))
  (refine zTK 3 (oi := ?_) (v := ?_) ?_ ?_ (Or.inl ⟨?_, ?_⟩) ?_; rotate_left 2; (focus (simp only [zGA, zGZ, zGS] <;> rfl)); (focus (exact fun _ _ _ h => h)); (focus rfl); (focus (intro w hSw; (try dsimp only at hSw); go_simp; (try with_reducible rfl); done)); (try simp only [Act.put, zPA, zPZ, zPS]))
  (refine zTK 4 (oi := ?_) (v := ?_) ?_ ?_ (Or.inl ⟨?_, ?_⟩) ?_; rotate_left 2; (focus (simp only [zGA, zGZ, zGS] <;> rfl)); (focus (exact fun _ _ _ h => h)); (focus rfl); (focus (intro w hSw; (try dsimp only at hSw); go_simp; (try with_reducible rfl); done)); (try simp only [Act.put, zPA, zPZ, zPS]))
  (refine zTK 5 (oi := ?_) (v := ?_) ?_ ?_ (Or.inl ⟨?_, ?_⟩) ?_; rotate_left 2; (focus (simp only [zGA, zGZ, zGS] <;> rfl)); (focus (exact fun _ _ _ h => h)); (focus rfl); (focus (intro w hSw; (try dsimp only at hSw); go_simp; (try with_reducible rfl); done)); (try simp only [Act.put, zPA, zPZ, zPS]))
  (refine zTK 6 (oi := ?_) (v := ?_) ?_ ?_ (Or.inl ⟨?_, ?_⟩) ?_; rotate_left 2; (focus (simp only [zGA, zGZ, zGS] <;> rfl)); (focus (exact fun _ _ _ h => h)); (focus rfl); (focus (intro w hSw; (try dsimp only at hSw); go_simp; (try with_reducible rfl); done)); (try simp only [Act.put, zPA, zPZ, zPS]))
  (refine zTK 7 (oi := ?_) (v := ?_) ?_ ?_ (Or.inl ⟨?_, ?_⟩) ?_; rotate_left 2; (focus (simp only [zGA, zGZ, zGS] <;> rfl)); (focus (exact fun _ _ _ h => h)); (focus rfl); (focus (intro w hSw; (try dsimp only at hSw); go_simp; (try with_reducible rfl); done)); (try simp only [Act.put, zPA, zPZ, zPS]))
  (refine zTK 8 (oi := ?_) (v := ?_) ?_ ?_ (Or.inl ⟨?_, ?_⟩) ?_; rotate_left 2; (focus (simp only [zGA, zGZ, zGS] <;> rfl)); (focus (exact fun _ _ _ h => h)); (focus rfl); (focus (intro w hSw; (try dsimp only at hSw); go_simp; (try with_reducible rfl); done)); (try simp only [Act.put, zPA, zPZ, zPS]))
  (refine zTK 9 (oi := ?_) (v := ?_) ?_ ?_ (Or.inl ⟨?_, ?_⟩) ?_; rotate_left 2; (focus (simp only [zGA, zGZ, zGS] <;> rfl)); (focus (exact fun _ _ _ h => h)); (focus rfl); (focus (intro w hSw; (try dsimp only at hSw); go_simp; (try with_reducible rfl); done)); (try simp only [Act.put, zPA, zPZ, zPS]))
  refine wpAnyH_ready (rs := [10, 14]) (by kernel_rfl) (by simp) ?_
  refine AllReadyH.cons (o := ?_) ?_ ?_ ?_
  rotate_left 1
  (focus (simp only [zGA, zGZ, zGS] <;> rfl))
  · intro K hK
    go_simp
    go_at_call 75
    refine (HTB.out _ ((Only.refl (fun _ => False) w2).drew)).mono ?_
    rintro e w4 ⟨A5, c5, rfl, hf5, hc5, hm5⟩
    have hq4 : Quiet w2 w4 := ((Only.refl (fun _ => False) w2).drew).trans hf5.quiet
    unfold tabV
    dsimp only
    refine hK.out _ _ ?_ (fun hHeld => ?_)
    · exact HSQ.out _ hq4
    clear hK K
    (try simp only [Act.put, zPA, zPZ, zPS])
    (refine zTK 11 (oi := ?_) (v := ?_) ?_ ?_ (Or.inl ⟨?_, ?_⟩) ?_; rotate_left 2; (focus (simp only [zGA, zGZ, zGS] <;> rfl)); (focus (exact fun _ _ _ h => h)); (focus rfl); (focus (intro w hSw; (try dsimp only at hSw); go_simp; (try with_reducible rfl); done)); (try simp only [Act.put, zPA, zPZ, zPS]))
    (refine zTK 12 (oi := ?_) (v := ?_) ?_ ?_ (Or.inl ⟨?_, ?_⟩) ?_; rotate_left 2; (focus (simp only [zGA, zGZ, zGS] <;> rfl)); (focus (exact fun _ _ _ h => h)); (focus rfl); (focus (intro w hSw; (try dsimp only at hSw); go_simp; (try with_reducible rfl); done)); (try simp only [Act.put, zPA, zPZ, zPS]))
    (refine zTK 13 (oi := ?_) (v := ?_) ?_ ?_ (Or.inl ⟨?_, ?_⟩) ?_; rotate_left 2; (focus (simp only [zGA, zGZ, zGS] <;> rfl)); (focus (exact fun _ _ _ h => h)); (focus rfl); (focus (intro w hSw; (try dsimp only at hSw); go_simp; (try with_reducible rfl); done)); (try simp only [Act.put, zPA, zPZ, zPS]))
    refine wpAnyH_ready (rs := [14]) (by kernel_rfl) (by simp) ?_
    refine AllReadyH.cons (o := ?_) ?_ ?_ AllReadyH.nil
    rotate_left 1
    (focus (simp only [zGA, zGZ, zGS] <;> rfl))
    intro K hK
    go_simp
    refine hK.out _ _ ?_ (fun hHeld => ?_)
    · exact HSQ.out _ (hq4.alloc _)
    clear hK K
    (try simp only [Act.put, zPA, zPZ, zPS])
    refine wpAnyH_ready (rs := [15]) (by kernel_rfl) (by simp) ?_
    refine AllReadyH.cons (o := ?_) ?_ ?_ AllReadyH.nil
    rotate_left 1
    (focus (simp only [zGA, zGZ, zGS] <;> rfl))
    intro K hK
    go_simp
    refine hK.out _ _ ?_ (fun hHeld => ?_)
    · exact HSQ.out _ ((hq4.alloc _))
    clear hK K
    (try simp only [Act.put, zPA, zPZ, zPS])
    (refine zTK 16 (oi := ?_) (v := ?_) ?_ ?_ (Or.inl ⟨?_, ?_⟩) ?_; rotate_left 2; (focus (simp only [zGA, zGZ, zGS] <;> rfl)); (focus (exact fun _ _ _ h => h)); (focus rfl); (focus (intro w hSw; (try dsimp only at hSw); go_simp; (try with_reducible rfl); done)); (try simp only [Act.put, zPA, zPZ, zPS]))
    refine wpAnyH_done (by kernel_rfl) ?_ _
    have hW : Quiet w2 (w4.alloc (.cells #[.int .u64 (t.id : Int), .string t.name, .slice A5 t.cols.length c5, .int .u64 (t.xmin : Int), .int .u64 (t.xmax : Int)] 86)) := hq4.alloc _
    have hbt := alloc_new w4 (.cells #[.int .u64 (t.id : Int), .string t.name, .slice A5 t.cols.length c5, .int .u64 (t.xmin : Int), .int .u64 (t.xmax : Int)] 86)
    have hfn : ∀ k, (Value.slice A5 t.cols.length c5).ownBlock = some k → w2.heap.size ≤ k := hf5.new
    have hown := owns_kept hf5.own ((Only.refl (fun _ => False) w4).alloc (.cells #[.int .u64 (t.id : Int), .string t.name, .slice A5 t.cols.length c5, .int .u64 (t.xmin : Int), .int .u64 (t.xmax : Int)] 86)) (fun _ _ x => x)
    have hpt : w2.heap.size ≤ w4.heap.size := hq4.size
    obtain ⟨pt, hpt2⟩ : ∃ pt, w4.heap.size = pt := ⟨_, rfl⟩
    rw [hpt2] at hbt hpt ⊢
    clear hf5
    generalize w4.alloc (.cells #[.int .u64 (t.id : Int), .string t.name, .slice A5 t.cols.length c5, .int .u64 (t.xmin : Int), .int .u64 (t.xmax : Int)] 86) = W at *
    have b6 := hW.get HB6.out (fun x => x)
    have b7 := hW.get HB7.out (fun x => x)
    have bp := hW.get HPV.out (fun x => x)
    have x0 := cell_of b6 0
    have x1 := cell_of b6 1
    have x2 := cell_of b6 2
    have x3 := cell_of b6 3
    have y0 := cell_of b7 0
    have y1 := cell_of b7 1
    have y2 := cell_of b7 2
    have y3 := cell_of b7 3
    have y4 := cell_of b7 4
    have u0 := cell_of bp 0
    have u1 := cell_of bp 1
    have u2 := cell_of bp 2
    have u3 := cell_of bp 3
    have z0 := cell_of hbt 0
    have z1 := cell_of hbt 1
    have z2 := cell_of hbt 2
    have z3 := cell_of hbt 3
    have z4 := cell_of hbt 4
    have fx := fun o => frozen_of b6 o
    have fy := fun o => frozen_of b7 o
    simp only [zGA, zGS, zGZ] at x0 x1 x2 x3 y0 y1 y2 y3 y4 u0 u1 u2 u3 z0 z1 z2 z3 z4
    have hne : r6 ≠ r7 := by omega
    have hn6 : r6 ≠ pt := by omega
    have hn7 : r7 ≠ pt := by omega
    have hn8 : r6 ≠ pv := by omega
    have hn9 : r7 ≠ pv := by omega
    obtain ⟨X6, X7, hO⟩ := openEnd_facts b6 b7 hne (.int .u64 (y.own : Int)) (.int .u64 (y.xmin : Int)) (.int .u64 (y.xmax : Int)) (.slice A y.run.length c) (.int .u64 (t.id : Int)) (.string t.name) (.slice A5 t.cols.length c5) (.int .u64 (t.xmin : Int)) (.int .u64 (t.xmax : Int))
    have HOUT := Lib.hid (open_done hr6 hr7 (HQ2.out.trans hW) hO (HS2.out.kept hW (fun _ _ x => x)) HH.out.big hown (fun k e => by have := hfn k e; omega) hc5 hm5)
    have HX6 : Hid ((openEnd W r6 r7 (.int .u64 (y.own : Int)) (.int .u64 (y.xmin : Int)) (.int .u64 (y.xmax : Int)) (.slice A y.run.length c) (.int .u64 (t.id : Int)) (.string t.name) (.slice A5 t.cols.length c5) (.int .u64 (t.xmin : Int)) (.int .u64 (t.xmax : Int))).drew.heap[r6]? = some (.cells (snapCells y A c) 70 (0, 0))) := drew_get6 X6
    have HX7 : Hid ((openEnd W r6 r7 (.int .u64 (y.own : Int)) (.int .u64 (y.xmin : Int)) (.int .u64 (y.xmax : Int)) (.slice A y.run.length c) (.int .u64 (t.id : Int)) (.string t.name) (.slice A5 t.cols.length c5) (.int .u64 (t.xmin : Int)) (.int .u64 (t.xmax : Int))).drew.heap[r7]? = some (.cells #[.int .u64 (t.id : Int), .string t.name, .slice A5 t.cols.length c5, .int .u64 (t.xmin : Int), .int .u64 (t.xmax : Int)] 86 (0, 0))) := drew_get6 X7
    unfold openEnd fiveSet fourSet at HX6 HX7 HOUT
    clear X6 X7 hO b6 b7 bp hbt hown hW HB6 HB7 HPV HQ2 HS2 HSQ HTB hHeld hr6 hr7 HH
    go_wp2_with fail
    go_region
    go_wp2
    generalize (((((((((W.setCell ⟨r6, 0, none⟩ (.int .u64 (y.own : Int))).setCell ⟨r6, 1, none⟩ (.int .u64 (y.xmin : Int))).setCell ⟨r6, 2, none⟩ (.int .u64 (y.xmax : Int))).setCell ⟨r6, 3, none⟩ (.slice A y.run.length c)).setCell ⟨r7, 0, none⟩ (.int .u64 (t.id : Int))).setCell ⟨r7, 1, none⟩ (.string t.name)).setCell ⟨r7, 2, none⟩ (.slice A5 t.cols.length c5)).setCell ⟨r7, 3, none⟩ (.int .u64 (t.xmin : Int))).setCell ⟨r7, 4, none⟩ (.int .u64 (t.xmax : Int))).drew = WF at HX6 HX7 HOUT ⊢
    exact bodyPost_ret (results_two_tmp Tryz.results35 _ _ r6 r7 _ _ _ _ (0, 0) (0, 0) _ _ (by rfl) HX6.out (by rfl) HX7.out Tryz.underlying70 rfl info_snap Tryz.underlying86 rfl info_tab) (by rfl) HOUT.out
  refine AllReadyH.cons (o := ?_) ?_ ?_ ?_
  rotate_left 1
  (focus (simp only [zGA, zGZ, zGS] <;> rfl))
  · intro K hK
    go_simp
    refine hK.out _ _ ?_ (fun hHeld => ?_)
    · exact HSQ.out _ ((Only.refl (fun _ => False) w2).drew.alloc _)
    clear hK K
    (try simp only [Act.put, zPA, zPZ, zPS])
    refine wpAnyH_ready (rs := [10]) (by kernel_rfl) (by simp) ?_
    refine AllReadyH.cons (o := ?_) ?_ ?_ AllReadyH.nil
    rotate_left 1
    (focus (simp only [zGA, zGZ, zGS] <;> rfl))
    intro K hK
    go_simp
    go_at_call 75
    refine (HTB.out _ ((Only.refl (fun _ => False) w2).drew.alloc _)).mono ?_
    rintro e w4 ⟨A5, c5, rfl, hf5, hc5, hm5⟩
    have hq4 : Quiet w2 w4 := ((Only.refl (fun _ => False) w2).drew.alloc _).trans hf5.quiet
    have hb4 : w4.heap[w2.heap.size]? = some (.cells #[.int .u64 0, .string ⟨#[]⟩, .slice none 0 0, .int .u64 0, .int .u64 0] 86 (0, 0)) := hf5.quiet.get (alloc_new w2.drew (.cells #[.int .u64 0, .string ⟨#[]⟩, .slice none 0 0, .int .u64 0, .int .u64 0] 86)) (fun x => x)
    have z0 := cell_of hb4 0
    have z1 := cell_of hb4 1
    have z2 := cell_of hb4 2
    have z3 := cell_of hb4 3
    have z4 := cell_of hb4 4
    have zf := fun o => frozen_of hb4 o
    simp only [zGA, zGS, zGZ] at z0 z1 z2 z3 z4
    unfold tabV
    dsimp only
    refine hK.out _ _ ?_ (fun hHeld => ?_)
    · exact HSQ.out _ hq4
    clear hK K
    (try simp only [Act.put, zPA, zPZ, zPS])
    (refine zTK 11 (oi := ?_) (v := ?_) ?_ ?_ (Or.inl ⟨?_, ?_⟩) ?_; rotate_left 2; (focus (simp only [zGA, zGZ, zGS] <;> rfl)); (focus (exact fun _ _ _ h => h)); (focus rfl); (focus (intro w hSw; (try dsimp only at hSw); go_simp; (try with_reducible rfl); done)); (try simp only [Act.put, zPA, zPZ, zPS]))
    (refine zTK 12 (oi := ?_) (v := ?_) ?_ ?_ (Or.inl ⟨?_, ?_⟩) ?_; rotate_left 2; (focus (simp only [zGA, zGZ, zGS] <;> rfl)); (focus (exact fun _ _ _ h => h)); (focus rfl); (focus (intro w hSw; (try dsimp only at hSw); go_simp; (try with_reducible rfl); done)); (try simp only [Act.put, zPA, zPZ, zPS]))
    (refine zTK 13 (oi := ?_) (v := ?_) ?_ ?_ (Or.inl ⟨?_, ?_⟩) ?_; rotate_left 2; (focus (simp only [zGA, zGZ, zGS] <;> rfl)); (focus (exact fun _ _ _ h => h)); (focus rfl); (focus (intro w hSw; (try dsimp only at hSw); go_simp; (try with_reducible rfl); done)); (try simp only [Act.put, zPA, zPZ, zPS]))
    refine wpAnyH_ready (rs := [15]) (by kernel_rfl) (by simp) ?_
    refine AllReadyH.cons (o := ?_) ?_ ?_ AllReadyH.nil
    rotate_left 1
    (focus (simp only [zGA, zGZ, zGS] <;> rfl))
    intro K hK
    go_simp
    refine hK.out _ _ ?_ (fun hHeld => ?_)
    · exact HSQ.out _ (hq4.trans' (fiveSet_only w4 w2.heap.size (.int .u64 (t.id : Int)) (.string t.name) (.slice A5 t.cols.length c5) (.int .u64 (t.xmin : Int)) (.int .u64 (t.xmax : Int))) (fun k hk e => by omega))
    clear hK K
    (try simp only [Act.put, zPA, zPZ, zPS])
    (refine zTK 16 (oi := ?_) (v := ?_) ?_ ?_ (Or.inl ⟨?_, ?_⟩) ?_; rotate_left 2; (focus (simp only [zGA, zGZ, zGS] <;> rfl)); (focus (exact fun _ _ _ h => h)); (focus rfl); (focus (intro w hSw; (try dsimp only at hSw); go_simp; (try with_reducible rfl); done)); (try simp only [Act.put, zPA, zPZ, zPS]))
    refine wpAnyH_done (by kernel_rfl) ?_ _
    have hO4 := fiveSet_only w4 w2.heap.size (.int .u64 (t.id : Int)) (.string t.name) (.slice A5 t.cols.length c5) (.int .u64 (t.xmin : Int)) (.int .u64 (t.xmax : Int))
    have hW : Quiet w2 (fiveSet w4 w2.heap.size (.int .u64 (t.id : Int)) (.string t.name) (.slice A5 t.cols.length c5) (.int .u64 (t.xmin : Int)) (.int .u64 (t.xmax : Int))) := hq4.trans' hO4 (fun k hk e => by omega)
    have hbt := fiveSet_same hb4 (.int .u64 (t.id : Int)) (.string t.name) (.slice A5 t.cols.length c5) (.int .u64 (t.xmin : Int)) (.int .u64 (t.xmax : Int))
    have hfn' : ∀ k, (Value.slice A5 t.cols.length c5).ownBlock = some k → w2.heap.size < k := fun k e => by have := hf5.new k e; rw [World.size_alloc] at this; exact this
    have hfn : ∀ k, (Value.slice A5 t.cols.length c5).ownBlock = some k → w2.heap.size ≤ k := fun k e => Nat.le_of_lt (hfn' k e)
    have hown := owns_kept hf5.own hO4 (fun k e1 e2 => by have := hfn' k e1; omega)
    unfold fiveSet at hW hbt hown hO4
    clear hf5 hfn' hb4 hO4 z0 z1 z2 z3 z4 zf
    have hpt : w2.heap.size ≤ w2.heap.size := Nat.le_refl _
    obtain ⟨pt, hpt2⟩ : ∃ pt, w2.heap.size = pt := ⟨_, rfl⟩
    generalize ((((w4.setCell ⟨w2.heap.size, 0, none⟩ (.int .u64 (t.id : Int))).setCell ⟨w2.heap.size, 1, none⟩ (.string t.name)).setCell ⟨w2.heap.size, 2, none⟩ (.slice A5 t.cols.length c5)).setCell ⟨w2.heap.size, 3, none⟩ (.int .u64 (t.xmin : Int))).setCell ⟨w2.heap.size, 4, none⟩ (.int .u64 (t.xmax : Int)) = W at *
    rw [hpt2] at hbt ⊢
    have b6 := hW.get HB6.out (fun x => x)
    have b7 := hW.get HB7.out (fun x => x)
    have bp := hW.get HPV.out (fun x => x)
    have x0 := cell_of b6 0
    have x1 := cell_of b6 1
    have x2 := cell_of b6 2
    have x3 := cell_of b6 3
    have y0 := cell_of b7 0
    have y1 := cell_of b7 1
    have y2 := cell_of b7 2
    have y3 := cell_of b7 3
    have y4 := cell_of b7 4
    have u0 := cell_of bp 0
    have u1 := cell_of bp 1
    have u2 := cell_of bp 2
    have u3 := cell_of bp 3
    have z0 := cell_of hbt 0
    have z1 := cell_of hbt 1
    have z2 := cell_of hbt 2
    have z3 := cell_of hbt 3
    have z4 := cell_of hbt 4
    have fx := fun o => frozen_of b6 o
    have fy := fun o => frozen_of b7 o
    simp only [zGA, zGS, zGZ] at x0 x1 x2 x3 y0 y1 y2 y3 y4 u0 u1 u2 u3 z0 z1 z2 z3 z4
    have hne : r6 ≠ r7 := by omega
    have hn6 : r6 ≠ pt := by omega
    have hn7 : r7 ≠ pt := by omega
    have hn8 : r6 ≠ pv := by omega
    have hn9 : r7 ≠ pv := by omega
    obtain ⟨X6, X7, hO⟩ := openEnd_facts b6 b7 hne (.int .u64 (y.own : Int)) (.int .u64 (y.xmin : Int)) (.int .u64 (y.xmax : Int)) (.slice A y.run.length c) (.int .u64 (t.id : Int)) (.string t.name) (.slice A5 t.cols.length c5) (.int .u64 (t.xmin : Int)) (.int .u64 (t.xmax : Int))
    have HOUT := Lib.hid (open_done hr6 hr7 (HQ2.out.trans hW) hO (HS2.out.kept hW (fun _ _ x => x)) HH.out.big hown (fun k e => by have := hfn k e; omega) hc5 hm5)
    have HX6 : Hid ((openEnd W r6 r7 (.int .u64 (y.own : Int)) (.int .u64 (y.xmin : Int)) (.int .u64 (y.xmax : Int)) (.slice A y.run.length c) (.int .u64 (t.id : Int)) (.string t.name) (.slice A5 t.cols.length c5) (.int .u64 (t.xmin : Int)) (.int .u64 (t.xmax : Int))).drew.heap[r6]? = some (.cells (snapCells y A c) 70 (0, 0))) := drew_get6 X6
    have HX7 : Hid ((openEnd W r6 r7 (.int .u64 (y.own : Int)) (.int .u64 (y.xmin : Int)) (.int .u64 (y.xmax : Int)) (.slice A y.run.length c) (.int .u64 (t.id : Int)) (.string t.name) (.slice A5 t.cols.length c5) (.int .u64 (t.xmin : Int)) (.int .u64 (t.xmax : Int))).drew.heap[r7]? = some (.cells #[.int .u64 (t.id : Int), .string t.name, .slice A5 t.cols.length c5, .int .u64 (t.xmin : Int), .int .u64 (t.xmax : Int)] 86 (0, 0))) := drew_get6 X7
    unfold openEnd fiveSet fourSet at HX6 HX7 HOUT
    clear X6 X7 hO b6 b7 bp hbt hown hW HB6 HB7 HPV HQ2 HS2 HSQ HTB hHeld hr6 hr7 HH
    go_wp2_with fail
    go_region
    go_wp2
    generalize (((((((((W.setCell ⟨r6, 0, none⟩ (.int .u64 (y.own : Int))).setCell ⟨r6, 1, none⟩ (.int .u64 (y.xmin : Int))).setCell ⟨r6, 2, none⟩ (.int .u64 (y.xmax : Int))).setCell ⟨r6, 3, none⟩ (.slice A y.run.length c)).setCell ⟨r7, 0, none⟩ (.int .u64 (t.id : Int))).setCell ⟨r7, 1, none⟩ (.string t.name)).setCell ⟨r7, 2, none⟩ (.slice A5 t.cols.length c5)).setCell ⟨r7, 3, none⟩ (.int .u64 (t.xmin : Int))).setCell ⟨r7, 4, none⟩ (.int .u64 (t.xmax : Int))).drew = WF at HX6 HX7 HOUT ⊢
    exact bodyPost_ret (results_two_tmp Tryz.results35 _ _ r6 r7 _ _ _ _ (0, 0) (0, 0) _ _ (by rfl) HX6.out (by rfl) HX7.out Tryz.underlying70 rfl info_snap Tryz.underlying86 rfl info_tab) (by rfl) HOUT.out
  exact AllReadyH.nil

end Go.Proofs.YtmkaomglecfmfaaGreatDoor

namespace Go.Proofs.YtmkaomglecfmfaaGreatDoor
open Go.RowKit Go.Lap

theorem elem_kind : Elem Tryz.prog 105 52 1 1 := Elem.mk' (.int .u8 0) Tryz.underlying105 (by kernel_rfl) rfl (by decide)

/-- New kinds. -/
structure FreshK (w w' : World) (v : Value) (k : Nat) : Prop where
  quiet : Quiet w w'
  new : ∀ j, v.ownBlock = some j → w.heap.size ≤ j
  own : w'.ownsRow 0 52 1 v 1 [.int .u8 (k : Int)]

def KindsPost (w : World) (k : Nat) (e : Ending) (w' : World) : Prop := ∃ v, e = .returned v ∧ FreshK w w' v k

set_option maxHeartbeats 1000000 in
set_option maxRecDepth 100000 in
theorem store_kinds {w : World} {S : Nat → Prop} {t : TE} {nm : ByteArray} {kd c : Nat} {A : Option Addr} (ht : t.cols = [(nm, kd)]) (hr : Rd w S 2 A 1 (colsV [(nm, kd)])) (hc : 1 ≤ c) (hm : c ≤ maxLen) :
    Calls Tryz.prog 38 #[tabV t A c] w (KindsPost w kd) := by
  obtain ⟨b, off, rfl, _, hcs⟩ := hr.at_ (k := 0) (by omega) (by omega)
  obtain ⟨u0, h0, c0⟩ := hcs 0 (by omega)
  obtain ⟨u1, h1, c1⟩ := hcs 1 (by omega)
  obtain rfl : Value.string nm = u0 := Option.some.inj h0
  obtain rfl : Value.int .u8 (kd : Int) = u1 := Option.some.inj h1
  simp only [Nat.zero_mul, Nat.add_zero, Nat.zero_add] at c0 c1
  have l0 := cell_lt c0
  dsimp only at l0
  unfold maxLen at hm
  unfold tabV
  rw [ht]
  show Calls Tryz.prog 38 #[.agg #[.int .u64 (t.id : Int), .string t.name, .slice (some ⟨b, off, none⟩) 1 c, .int .u64 (t.xmin : Int), .int .u64 (t.xmax : Int)]] w (KindsPost w kd)
  have HRD : Hid (∀ W : World, Rd (W.alloc (.cells #[.int .u8 (kd : Int)] 52)) (fun _ => True) 1 (some ⟨W.heap.size, 0, none⟩) 1 [.int .u8 (kd : Int)]) := fun W => Rd.new W 1 1 [.int .u8 (kd : Int)] _ _ rfl trivial
  have HONE : Hid (∀ u ∈ [Value.int .u8 (kd : Int)], u.oneCell' = true) := fun u hu => by simp only [List.mem_singleton] at hu; subst hu; rfl
  have HQ : Hid (Quiet w ((w.alloc (.cells #[.int .u64 (t.id : Int), .string t.name, .slice (some ⟨b, off, none⟩) 1 c, .int .u64 (t.xmin : Int), .int .u64 (t.xmax : Int)] 86)).alloc (.cells #[.string nm, .int .u8 (kd : Int)] 78))) := ((Only.refl _ _).alloc _).alloc _
  have HRD2 := Lib.hid (HRD.out ((w.alloc (.cells #[.int .u64 (t.id : Int), .string t.name, .slice (some ⟨b, off, none⟩) 1 c, .int .u64 (t.xmin : Int), .int .u64 (t.xmax : Int)] 86)).alloc (.cells #[.string nm, .int .u8 (kd : Int)] 78)))
  simp only [World.size_alloc] at HRD2
  clear hr hcs h0 h1 HRD ht
  go_enter Tryz.func38, Tryz.ntmps38
  go_wp2
  refine wp_loop_rounds 2 ?_
  rw [rounds_succ]
  go_wp2_with (at_builtin; refine app elem_kind rfl (.tmp 13) (.tmp 16) rfl rfl (World.ownsRow_nil _ _ _ _) rfl HRD2.out HONE.out (by unfold maxLen; omega) (by omega) ?_)
  intro v4 w4 hg4
  have HF : Hid (FreshK w w4 v4 kd) := by
    refine ⟨(HQ.out.alloc _).trans' hg4.only (fun k hk e => by cases e), fun k e => ?_, hg4.own⟩
    rcases hg4.loc with y | y
    · rw [y] at e; cases e
    · rw [y] at e; injection e with e; simp only [World.size_alloc] at e; omega
  clear hg4 HRD2 HONE HQ c0 c1 l0
  go_wp2
  rw [rounds_succ]
  go_wp2
  go_ret
  exact ⟨v4, rfl, HF.out⟩

end Go.Proofs.YtmkaomglecfmfaaGreatDoor

namespace Go.Proofs.YtmkaomglecfmfaaGreatDoor
open Go.RowKit Go.Lap

/-- The places of the first k pages. -/
def placesH (H : List (List (Option Tup))) : Nat → List (Int × Int)
  | 0 => []
  | k + 1 => placesH H k ++ placesTo (k : Int) (H.getD k []) (H.getD k []).length

theorem TidsW.join {w wr w4 : World} {v v' : Value} {l m : List (Int × Int)} (h : TidsW w wr v l) (hg : Grew wr w4 41 2 v v' (l.length + m.length) (tidsV l ++ tidsV m)) : TidsW w w4 v' (l ++ m) := by
  have hsz := h.quiet.size
  refine ⟨h.quiet.trans' hg.only (fun k hk e => by have := h.own k e; omega), ?_, fun k e => ?_⟩
  · unfold TidsAt
    rw [List.length_append, tidsV_append]
    exact hg.own
  · rcases hg.loc with x | x
    · rw [x] at e; exact h.own k e
    · rw [x] at e; injection e with e; omega

theorem zero_heapP (w : World) : (zeroValue 75).run Tryz.prog w = .ok (.pointer none) w := by kernel_rfl

set_option maxHeartbeats 1000000 in
set_option maxRecDepth 100000 in
theorem store_places {w : World} {sb id : Nat} {o : Nat → Nat} {s : St} {H : List (List (Option Tup))} (h : StoreAt w sb o s) (hid : U64 id) (hH : s.hs id = some H) (hN : ∀ k, k ≤ H.length → (placesH H k).length ≤ 1000000) :
    Calls Tryz.prog 30 #[ptrV sb, .int .u64 (id : Int)] w (ChainPost w (placesH H H.length)) := by
  obtain ⟨lb, bb, pb, mh, mt, ms, fh, ft, fs, h⟩ := h
  obtain ⟨_, _, _, c3, _⟩ := h.cells
  have lsb := cell_lt c3
  dsimp only at lsb
  obtain ⟨hb, hf, hp⟩ := h.heaps.2 id H hH
  have hlk := h.mH.lookup Tryz.underlying63 Tryz.underlying28 false (zero_heapP _) hid
  rw [hf] at hlk
  simp only [Bool.false_eq_true, if_false, Option.getD_some] at hlk
  have HP := Lib.hid hp
  have HPG := Lib.hid (heap_pages hp)
  have HNN := Lib.hid hN
  have hm : H.length ≤ 1000000 := by have := hp.most; omega
  obtain ⟨n, hn⟩ : ∃ n, H.length = n := ⟨_, rfl⟩
  have HLN := Lib.hid hn
  rw [hn] at HPG hm
  clear h hp hf hN hn
  go_enter Tryz.func30, Tryz.ntmps30
  go_wp2_with fail
  refine HPG.out.mono ?_
  rintro e w1 ⟨rfl, rfl⟩
  rw [HLN.out]
  go_wp2_with fail
  go_loopw [16, 5, 7] (fun i v _ wr => ∃ (k : Nat) (v' : Value), k ≤ n ∧ i = .int .i64 (k : Int) ∧ v = v' ∧ TidsW w wr v' (placesH H k)) (fun i _ _ _ => n - (intOf i).toNat)
  case atStart => exact ⟨0, _, Nat.zero_le _, rfl, rfl, TidsW.start (Only.refl _ _)⟩
  case round =>
    obtain ⟨k, v', hk, rfl, rfl, hW⟩ := hrel
    have HW := Lib.hid hW
    by_cases hlt : k < n
    · have hT : H[k]? = some (H.getD k []) := by rw [List.getD_eq_getElem?_getD, List.getElem?_eq_getElem (by rw [HLN.out]; exact hlt)]; rfl
      have HPL := Lib.hid (heap_plist k _ (HP.out.kept hW.quiet (fun _ _ x => x)) hT)
      have HS : Hid (placesH H (k + 1) = placesH H k ++ placesTo (k : Int) (H.getD k []) (H.getD k []).length) := rfl
      have hl1 := HNN.out (k + 1) (by rw [HLN.out]; omega)
      rw [HS.out, List.length_append] at hl1
      generalize placesTo (k : Int) (H.getD k []) (H.getD k []).length = m at HPL HS hl1
      clear hW hT
      go_wp2_with fail
      refine HPL.out.mono ?_
      rintro e w2 ⟨v2, rfl, hq2, hn2, ht2⟩
      obtain ⟨A2, c2, rfl, _, _, hrd⟩ := own_form ht2
      have HW2 := Lib.hid (HW.out.quietly hq2)
      have HRD := Lib.hid hrd
      clear hq2 hn2 ht2 hrd HW HPL
      go_wp2_with (at_builtin; refine app elem_tid rfl (.tmp 19) (.tmp 22) rfl rfl HW2.out.row rfl HRD.out (one_tids m) (by unfold maxLen; omega) (by omega) ?_)
      intro v4 w4 hg4
      have HST := Lib.hid (HW2.out.join hg4)
      rw [← HS.out] at HST
      clear hg4 HW2 HRD HS
      go_wp2
      go_roundw
      case rel => exact ⟨k + 1, _, by omega, by go_num, rfl, HST.out⟩
      case measure => simp [intOf]; omega
    · obtain rfl : k = n := by omega
      have HC : Hid (ChainPost w (placesH H H.length) (.returned u5) wr) := ⟨u5, rfl, hW.quiet, hW.own, by rw [HLN.out]; exact hW.row⟩
      clear hW HW
      go_wp2
      go_ret
      exact HC.out

end Go.Proofs.YtmkaomglecfmfaaGreatDoor

namespace Go.Lap

/-- A row as it is told: its ID, its place, its values (of one number, in a row of their own). -/
structure RowM where
  id : Nat
  pg : Int
  sl : Int
  n : Nat
  A : Option Addr
  c : Nat
instance : Inhabited RowM := ⟨⟨0, 0, 0, 0, none, 0⟩⟩
def rowE (x : RowM) : List Value := [.int .u64 (x.id : Int), .int .i64 x.pg, .int .i64 x.sl, .slice x.A 1 x.c]
def rowC (x y : RowM) : Int := if x.id < y.id then -1 else if y.id < x.id then 1 else 0
abbrev rowsV (l : List RowM) : List Value := l.flatMap rowE
/-- A row, told. -/
abbrev RowR := Nat × Int × Int × Nat
def RowM.told (x : RowM) : RowR := (x.id, x.pg, x.sl, x.n)

theorem rowE_len (x : RowM) : (rowE x).length = 4 := rfl
theorem rowE_one (x : RowM) : ∀ v ∈ rowE x, v.oneCell' = true := by
  intro v hv
  simp [rowE] at hv
  rcases hv with rfl | rfl | rfl | rfl <;> rfl

theorem rowsV_append (l m : List RowM) : rowsV (l ++ m) = rowsV l ++ rowsV m := List.flatMap_append

end Go.Lap
namespace Go.Proofs.YtmkaomglecfmfaaGreatDoor
open Go.RowKit Go.Lap

/-- The number of a row of one number. -/
def numOf (d : List Nat) : Nat := d.getD 1 0
theorem numOf_row (n : Nat) : numOf (rowI n) = n := by simp [numOf, rowI, smallN, List.range_succ]
theorem rowI_length (n : Nat) : (rowI n).length = 9 := by simp [rowI, smallN_length]

/-- What a snapshot sees of a version at a place. -/
def seenAt (H : List (List (Option Tup))) (L : List Nat) (y : Snap) (a : Int × Int) : Option RowR :=
  match hGet H a.1 a.2 with
  | some t => if visS L y t.xmin t.xmax then some (t.row, a.1, a.2, numOf t.data) else none
  | none => none
def seenR (H : List (List (Option Tup))) (L : List Nat) (y : Snap) (l : List (Int × Int)) : List RowR := l.filterMap (seenAt H L y)

theorem seenR_snoc (H : List (List (Option Tup))) (L : List Nat) (y : Snap) (l : List (Int × Int)) (a : Int × Int) : seenR H L y (l ++ [a]) = seenR H L y l ++ (seenAt H L y a).toList := by
  unfold seenR
  rw [List.filterMap_append]
  cases h : seenAt H L y a <;> simp [h]

structure GotLeaf (wb W : World) (pt : Nat) (A : Option Addr) (c : Nat) (t : Tup) : Prop where
  quiet : Quiet wb W
  box : W.heap[pt]? = some (.cells (tupCells t A c) 92 (0, 0))
  new : wb.heap.size ≤ pt
  own : W.ownsRow 0 5 1 (.slice A t.data.length c) t.data.length (bytesV t.data)
  fresh : ∀ k, (Value.slice A t.data.length c).ownBlock = some k → wb.heap.size ≤ k

theorem GotLeaf.cells {wb W : World} {pt : Nat} {A : Option Addr} {c : Nat} {t : Tup} (h : GotLeaf wb W pt A c t) : W.cell? ⟨pt, 0, none⟩ = some (.int .u64 t.row) ∧ W.cell? ⟨pt, 1, none⟩ = some (.int .u64 t.xmin) ∧ W.cell? ⟨pt, 2, none⟩ = some (.int .u64 t.xmax) ∧ W.cell? ⟨pt, 3, none⟩ = some (.int .i64 t.pg) ∧ W.cell? ⟨pt, 4, none⟩ = some (.int .i64 t.sl) ∧ W.cell? ⟨pt, 5, none⟩ = some (.slice A t.data.length c) :=
  ⟨by rw [cell_of h.box]; rfl, by rw [cell_of h.box]; rfl, by rw [cell_of h.box]; rfl, by rw [cell_of h.box]; rfl, by rw [cell_of h.box]; rfl, by rw [cell_of h.box]; rfl⟩

/-- One proof for both orders: what is left there (G) is found at the first of them. -/
theorem got_key {goal : Prop} {wb : World} {t : Tup} {G : Option Addr → Nat → Nat → World → Prop} (main : (∀ A c pt W, GotLeaf wb W pt A c t → G A c pt W) → goal) (key : ∀ A c pt W, GotLeaf wb W pt A c t → G A c pt W) : goal := main key

/-- The variable's block is stored into: the version lies there. -/
theorem got_leaf {wb w1 : World} {pt c : Nat} {A : Option Addr} {t : Tup} {c0 c1 c2 c3 c4 c5 : Value} (hq : Quiet wb w1) (hb : w1.heap[pt]? = some (.cells #[c0, c1, c2, c3, c4, c5] 92 (0, 0))) (hn : wb.heap.size ≤ pt)
    (ho : w1.ownsRow 0 5 1 (.slice A t.data.length c) t.data.length (bytesV t.data)) (hf : ∀ k, (Value.slice A t.data.length c).ownBlock = some k → wb.heap.size ≤ k) :
    GotLeaf wb (sixSet w1 pt (.int .u64 t.row) (.int .u64 t.xmin) (.int .u64 t.xmax) (.int .i64 t.pg) (.int .i64 t.sl) (.slice A t.data.length c)) pt A c t := by
  have h1 := sixSet_only w1 pt (.int .u64 t.row) (.int .u64 t.xmin) (.int .u64 t.xmax) (.int .i64 t.pg) (.int .i64 t.sl) (.slice A t.data.length c)
  refine ⟨hq.trans' h1 (fun k hk e => by omega), sixSet_same hb _ _ _ _ _ _, hn, owns_kept ho h1 (fun k e x => ?_), hf⟩
  obtain ⟨cs, hcs⟩ := own_blk ho e
  exact ne_type hcs hb (by decide) x

/-- The rows that are told, on their way. -/
structure RowsW (w wr : World) (v : Value) (M : List RowM) : Prop where
  quiet : Quiet w wr
  new : ∀ k, v.ownBlock = some k → w.heap.size ≤ k
  own : wr.ownsRow 0 44 4 v M.length (rowsV M)
  vals : ∀ m ∈ M, (∀ k, (Value.slice m.A 1 m.c).ownBlock = some k → w.heap.size ≤ k) ∧ wr.ownsRow 0 54 4 (.slice m.A 1 m.c) 1 (intRow m.n)

section
variable {w wr w' w3 w4 : World} {v v' : Value} {M : List RowM} {m : RowM}

theorem RowsW.start (h : Quiet w wr) : RowsW w wr (.slice none 0 0) [] := ⟨h, (fun k e => by cases e), World.ownsRow_nil _ _ _ _, (fun m hm => by cases hm)⟩

theorem RowsW.quietly (h : RowsW w wr v M) (hq : Quiet wr w') : RowsW w w' v M :=
  ⟨h.quiet.trans hq, h.new, owns_kept h.own hq (fun _ _ x => x), fun m hm => ⟨(h.vals m hm).1, owns_kept (h.vals m hm).2 hq (fun _ _ x => x)⟩⟩

theorem RowsW.from (h : RowsW w wr v M) {w0 : World} (hq : Quiet w0 w) : RowsW w0 wr v M :=
  ⟨hq.trans h.quiet, fun k e => Nat.le_trans hq.size (h.new k e), h.own, fun m hm => ⟨fun k e => Nat.le_trans hq.size ((h.vals m hm).1 k e), (h.vals m hm).2⟩⟩

/-- Where only the rows' own block turns the values stay. -/
theorem RowsW.valsOn (h : RowsW w wr v M) (ho : Only (fun k => v.ownBlock = some k) wr w') : ∀ m ∈ M, (∀ k, (Value.slice m.A 1 m.c).ownBlock = some k → w.heap.size ≤ k) ∧ w'.ownsRow 0 54 4 (.slice m.A 1 m.c) 1 (intRow m.n) := fun m hm =>
  ⟨(h.vals m hm).1, owns_kept (h.vals m hm).2 ho (fun k e x => by
    obtain ⟨c1, h1⟩ := own_blk (h.vals m hm).2 e
    obtain ⟨c2, h2⟩ := own_blk h.own x
    exact ne_type h1 h2 (by decide) rfl)⟩

theorem RowsW.push (h : RowsW w w3 v M) (hm : (∀ k, (Value.slice m.A 1 m.c).ownBlock = some k → w.heap.size ≤ k) ∧ w3.ownsRow 0 54 4 (.slice m.A 1 m.c) 1 (intRow m.n))
    (hg : Grew w3 w4 44 4 v v' (M.length + 1) (rowsV M ++ rowE m)) : RowsW w w4 v' (M ++ [m]) := by
  have hsz := h.quiet.size
  refine ⟨h.quiet.trans' hg.only (fun k hk e => by have := h.new k e; omega), fun k e => ?_, ?_, fun x hx => ?_⟩
  · rcases hg.loc with y | y
    · rw [y] at e; exact h.new k e
    · rw [y] at e; injection e with e; omega
  · have := hg.own
    rw [List.length_append, rowsV_append]
    have e1 : rowsV [m] = rowE m := by simp [rowsV]
    rw [e1]
    exact this
  · rcases List.mem_append.1 hx with y | y
    · exact h.valsOn hg.only x y
    · simp at y
      subst y
      exact ⟨hm.1, owns_kept hm.2 hg.only (fun k e z => by
        obtain ⟨c1, h1⟩ := own_blk hm.2 e
        obtain ⟨c2, h2⟩ := own_blk h.own z
        exact ne_type h1 h2 (by decide) rfl)⟩

theorem RowsW.sorted {M' : List RowM} (h : RowsW w wr v M) (hp : M'.Perm M) (ho : Only (fun k => v.ownBlock = some k) wr w') (hw : w'.ownsRow 0 44 4 v M.length (rowsV M')) : RowsW w w' v M' := by
  have hsz := h.quiet.size
  refine ⟨h.quiet.trans' ho (fun k hk e => by have := h.new k e; omega), h.new, ?_, fun m hm => h.valsOn ho m (hp.mem_iff.1 hm)⟩
  rw [hp.length_eq]
  exact hw
end

/-- What rows tells. -/
def RowsPost (w : World) (R : List RowR) (e : Ending) (w' : World) : Prop :=
  ∃ v M, e = .returned v ∧ RowsW w w' v M ∧ (M.map RowM.told).Perm R ∧ M.Pairwise (fun a b => a.id ≤ b.id)

theorem elem_row : Elem Tryz.prog 35 44 4 48 := Elem.mk' (.agg #[.int .u64 0, .int .i64 0, .int .i64 0, .slice none 0 0]) Tryz.underlying35 (by kernel_rfl) rfl (by decide)

end Go.Proofs.YtmkaomglecfmfaaGreatDoor

namespace Go.Lap

theorem rowLt (x y : RowM) : Go.Proofs.ltOf rowC x y = decide (x.id < y.id) := by
  unfold Go.Proofs.ltOf rowC
  rw [decide_eq_decide]
  split
  · omega
  · split <;> omega

theorem rowSwo : Go.Sort.SWO (Go.Proofs.ltOf rowC) where
  irrefl x := by rw [rowLt]; simp
  trans x y z h1 h2 := by rw [rowLt] at *; simp at *; omega
  ntrans x y z h1 h2 := by rw [rowLt] at *; simp at *; omega

end Go.Lap
namespace Go.Proofs.YtmkaomglecfmfaaGreatDoor
open Go.RowKit Go.Lap Go.Sort Go.Shelf

set_option maxRecDepth 100000 in
theorem nan_u64 (x : Nat) (w : World) : Calls Tryz.prog 112 #[.int .u64 (x : Int)] w fun e w' => e = .returned (.bool false) ∧ w = w' := by
  go_enter Tryz.func112, Tryz.ntmps112
  go_wp2
  go_ret
  exact ⟨by simp, rfl⟩

set_option maxRecDepth 100000 in
theorem compare_u64 (x y : Nat) (w : World) : Calls Tryz.prog 79 #[.int .u64 (x : Int), .int .u64 (y : Int)] w fun e w' => e = .returned (.int .i64 (if x < y then -1 else if y < x then 1 else 0)) ∧ w = w' := by
  by_cases h1 : x < y
  · rw [if_pos h1]
    go_enter Tryz.func79, Tryz.ntmps79
    go_wp2_with fail
    refine (nan_u64 _ _).mono ?_
    rintro e w1 ⟨rfl, rfl⟩
    go_wp2_with fail
    refine (nan_u64 _ _).mono ?_
    rintro e w1 ⟨rfl, rfl⟩
    go_wp2
    go_ret
    exact ⟨rfl, rfl⟩
  · rw [if_neg h1]
    by_cases h2 : y < x
    · rw [if_pos h2]
      go_enter Tryz.func79, Tryz.ntmps79
      go_wp2_with fail
      refine (nan_u64 _ _).mono ?_
      rintro e w1 ⟨rfl, rfl⟩
      go_wp2_with fail
      refine (nan_u64 _ _).mono ?_
      rintro e w1 ⟨rfl, rfl⟩
      go_wp2
      go_ret
      exact ⟨rfl, rfl⟩
    · rw [if_neg h2]
      obtain rfl : x = y := by omega
      go_enter Tryz.func79, Tryz.ntmps79
      go_wp2_with fail
      refine (nan_u64 _ _).mono ?_
      rintro e w1 ⟨rfl, rfl⟩
      go_wp2_with fail
      refine (nan_u64 _ _).mono ?_
      rintro e w1 ⟨rfl, rfl⟩
      go_wp2
      go_ret
      exact ⟨rfl, rfl⟩

set_option maxHeartbeats 1000000 in
set_option maxRecDepth 100000 in
/-- What the sort asks of two rows. -/
theorem row_cmp (x y : RowM) (W : World) : Calls Tryz.prog 78 #[.agg (rowE x).toArray, .agg (rowE y).toArray] W fun e w' => e = .returned (.int .i64 (rowC x y)) ∧ ∃ q os', w' = Go.Sort.grow (W.drewN q) os' := by
  show Calls Tryz.prog 78 #[.agg #[.int .u64 (x.id : Int), .int .i64 x.pg, .int .i64 x.sl, .slice x.A 1 x.c], .agg #[.int .u64 (y.id : Int), .int .i64 y.pg, .int .i64 y.sl, .slice y.A 1 y.c]] W fun e w' => e = .returned (.int .i64 (rowC x y)) ∧ ∃ q os', w' = Go.Sort.grow (W.drewN q) os'
  obtain ⟨z, hz⟩ : ∃ z, rowC x y = z := ⟨_, rfl⟩
  rw [hz]
  have HC : Hid (z = if x.id < y.id then -1 else if y.id < x.id then 1 else 0) := hz.symm
  clear hz
  go_enter Tryz.func78, Tryz.ntmps78
  go_wp2_with fail
  refine (compare_u64 _ _ _).mono ?_
  rintro e w1 ⟨rfl, rfl⟩
  rw [← HC.out]
  go_wp2
  go_ret
  exact ⟨rfl, 0, _, by rw [alloc_eq_grow, alloc_eq_grow, grow_grow]; rfl⟩

/-- The rows sorted. -/
theorem sort_rows (v : Value) (l : List RowM) (w : World) (hown : w.ownsRow 0 44 4 v l.length (rowsV l)) (hl : l.length < 4611686018427387904) :
    Calls Tryz.prog 77 #[v, .func (.func 78) #[] #[]] w fun e w' => e = .returned (.tuple #[]) ∧ ∃ l' : List RowM, l'.Perm l ∧ l'.Pairwise (fun a b => a.id ≤ b.id) ∧ w'.ownsRow 0 44 4 v l.length (rowsV l') ∧ Only (fun k => v.ownBlock = some k) w w' := by
  have eg : ∀ args w, (callFunc 78 args).run Tryz.prog w = .ok (.enter 78 args) w := enters_of Tryz.func78 (by kernel_rfl) rfl
  have h := sort_own Tryz.sortRows 4 Tryz.isAgg44 Tryz.sizeOf44 rowE rowE_len rowE_one rowC rowSwo 78 eg row_cmp 44 v l w hown hl
  change Calls Tryz.prog 77 _ _ _ at h
  refine h.mono ?_
  rintro e w' ⟨rfl, l', hp, hs, ho, hon⟩
  refine ⟨rfl, l', hp, hs.imp ?_, ho, hon⟩
  intro a b hab
  rw [rowLt] at hab
  have := of_decide_eq_false hab
  omega
end Go.Proofs.YtmkaomglecfmfaaGreatDoor

namespace Go.Proofs.YtmkaomglecfmfaaGreatDoor
open Go.RowKit Go.Lap

/-- The cells of a place of a row that reads. -/
theorem place_cells {w : World} {S : Nat → Prop} {A : Option Addr} {n i : Nat} {ps : List (Int × Int)} {p : Int × Int} (h : Rd w S 2 A n (tidsV ps)) (hi : ps[i]? = some p) :
    ∃ b off, A = some ⟨b, off, none⟩ ∧ S b ∧ w.cell? ⟨b, off + i * 2, none⟩ = some (.int .i64 p.1) ∧ w.cell? ⟨b, off + i * 2 + 1, none⟩ = some (.int .i64 p.2) := by
  obtain ⟨h1, h2⟩ := tidsV_get hi
  have hl := (List.getElem?_eq_some_iff.1 h1).1
  obtain ⟨b, off, e, hs, hc⟩ := h.cells (by omega)
  exact ⟨b, off, e, hs, hc _ _ h1, by have := hc _ _ h2; rw [← Nat.add_assoc] at this; exact this⟩

theorem FreshV.from9 {W w9 w10 : World} {v : Value} {n : Nat} (hq : Quiet W w9) (hf : FreshV w9 w10 v n) : FreshV W w10 v n := ⟨hq.trans hf.quiet, fun k e => Nat.le_trans hq.size (hf.new k e), hf.own⟩

theorem look_heap {W : World} {mh hb id : Nat} {fh : Nat → Option Value} (h : MapF W mh fh) (hf : fh id = some (ptrV hb)) (hid : U64 id) : (Instr.lookup 63 (.map (some mh)) (.int .u64 (id : Int)) false).run Tryz.prog W = .ok (ptrV hb) W := by
  have := h.lookup Tryz.underlying63 Tryz.underlying28 false (zero_heapP _) hid
  rw [hf] at this
  simpa using this

theorem tabBox_cells {w : World} {b c : Nat} {t : TE} {A : Option Addr} (h : w.heap[b]? = some (.cells #[.int .u64 (t.id : Int), .string t.name, .slice A t.cols.length c, .int .u64 (t.xmin : Int), .int .u64 (t.xmax : Int)] 86 (0, 0))) :
    w.cell? ⟨b, 0, none⟩ = some (.int .u64 (t.id : Int)) ∧ w.cell? ⟨b, 1, none⟩ = some (.string t.name) ∧ w.cell? ⟨b, 2, none⟩ = some (.slice A t.cols.length c) ∧ w.cell? ⟨b, 3, none⟩ = some (.int .u64 (t.xmin : Int)) ∧ w.cell? ⟨b, 4, none⟩ = some (.int .u64 (t.xmax : Int)) :=
  ⟨by rw [cell_of h]; rfl, by rw [cell_of h]; rfl, by rw [cell_of h]; rfl, by rw [cell_of h]; rfl, by rw [cell_of h]; rfl⟩

theorem seen_take {H : List (List (Option Tup))} {L : List Nat} {y : Snap} {l : List (Int × Int)} {k : Nat} {a : Int × Int} (h : l[k]? = some a) : seenR H L y (l.take (k + 1)) = seenR H L y (l.take k) ++ (seenAt H L y a).toList := by
  rw [List.take_add_one, h]
  exact seenR_snoc H L y (l.take k) a

set_option maxHeartbeats 4000000 in
set_option maxRecDepth 100000 in
theorem store_rows {w : World} {sb cy c2 c3 : Nat} {o : Nat → Nat} {s : St} {y : Snap} {t : TE} {nm : ByteArray} {Sy Sc Sl : Nat → Prop} {A A2 A3 : Option Addr} {H : List (List (Option Tup))} {l : List (Int × Int)} (h : StoreAt w sb o s) (hs : SnapV w Sy A cy y) (ht : t.cols = [(nm, 1)]) (hid : U64 t.id)
    (hr : Rd w Sc 2 A2 t.cols.length (colsV t.cols)) (hc2 : t.cols.length ≤ c2) (hm2 : c2 ≤ maxLen) (hH : s.hs t.id = some H) (hl : Rd w Sl 2 A3 l.length (tidsV l)) (hlm : l.length ≤ 1000000)
    (hg : ∀ a ∈ l, ∃ v, hGet H a.1 a.2 = some v ∧ U64 v.xmin ∧ U64 v.xmax ∧ (visS s.L y v.xmin v.xmax = true → ∃ n, n < 256 ∧ v.data = rowI n)) :
    Calls Tryz.prog 36 #[ptrV sb, snapV y A cy, tabV t A2 c2, .slice A3 l.length c3] w (RowsPost w (seenR H s.L y l)) := by
  obtain ⟨lb, bb, pb, mh, mt, ms, fh, ft, fs, h⟩ := h
  obtain ⟨hb, hf, hp⟩ := h.heaps.2 t.id H hH
  have HH := Lib.hid h
  have HP := Lib.hid hp
  have HF := Lib.hid hf
  have HS := Lib.hid hs
  have HR := Lib.hid hr
  have HLD := Lib.hid hl
  have HG := Lib.hid hg
  have HID := Lib.hid hid
  have HC2 := Lib.hid (And.intro hc2 hm2)
  have HT := Lib.hid ht
  have HQ0 : Hid (Quiet w ((w.alloc (.cells (snapCells y A cy) 70)).alloc (.cells #[.int .u64 (t.id : Int), .string t.name, .slice A2 t.cols.length c2, .int .u64 (t.xmin : Int), .int .u64 (t.xmax : Int)] 86))) := ((Only.refl _ _).alloc _).alloc _
  have HB5 := Lib.hid (alloc_old (alloc_new w (.cells (snapCells y A cy) 70)) (.cells #[.int .u64 (t.id : Int), .string t.name, .slice A2 t.cols.length c2, .int .u64 (t.xmin : Int), .int .u64 (t.xmax : Int)] 86))
  have HB6 := Lib.hid (two_new w (.cells (snapCells y A cy) 70) (.cells #[.int .u64 (t.id : Int), .string t.name, .slice A2 t.cols.length c2, .int .u64 (t.xmin : Int), .int .u64 (t.xmax : Int)] 86))
  have hsz : ((w.alloc (.cells (snapCells y A cy) 70)).alloc (.cells #[.int .u64 (t.id : Int), .string t.name, .slice A2 t.cols.length c2, .int .u64 (t.xmin : Int), .int .u64 (t.xmax : Int)] 86)).heap.size = w.heap.size + 1 + 1 := by simp
  obtain ⟨r5, hr5⟩ : ∃ r5, w.heap.size = r5 := ⟨_, rfl⟩
  obtain ⟨r6, hr6⟩ : ∃ r6, r5 + 1 = r6 := ⟨_, rfl⟩
  rw [hr5] at HB5 HB6 hsz
  rw [hr6] at HB6 hsz
  obtain ⟨n, hn⟩ : ∃ n, l.length = n := ⟨_, rfl⟩
  have HN := Lib.hid hn
  obtain ⟨POST, hPOST⟩ : ∃ POST, RowsPost w (seenR H s.L y l) = POST := ⟨_, rfl⟩
  rw [hPOST, hn]
  have HPOST := Lib.hid hPOST
  have hnm : n ≤ 1000000 := by omega
  clear h hs hr hl hg hp hf hH hc2 hm2 ht hid hlm hn hPOST
  unfold snapV tabV
  go_enter Tryz.func36, Tryz.ntmps36
  go_wp2_with fail
  (try simp only [World.size_alloc] at *)
  (try rw [hr5]); (try rw [hr6])
  generalize (w.alloc (.cells #[.int .u64 (y.own : Int), .int .u64 (y.xmin : Int), .int .u64 (y.xmax : Int), .slice A y.run.length cy] 70)).alloc (.cells #[.int .u64 (t.id : Int), .string t.name, .slice A2 t.cols.length c2, .int .u64 (t.xmin : Int), .int .u64 (t.xmax : Int)] 86) = W0 at *
  go_loopw [18, 9, 11, 12, 13, 14, 15] (fun i v _ _ _ _ _ wr => ∃ (k : Nat) (v' : Value) (M : List RowM), k ≤ n ∧ i = .int .i64 (k : Int) ∧ v = v' ∧ RowsW W0 wr v' M ∧ M.map RowM.told = seenR H s.L y (l.take k)) (fun i _ _ _ _ _ _ _ => n - (intOf i).toNat)
  case atStart => exact ⟨0, _, [], Nat.zero_le _, rfl, rfl, RowsW.start (Only.refl _ _), rfl⟩
  case round =>
    obtain ⟨k, v', M, hk, rfl, rfl, hW, hM⟩ := hrel
    have HW := Lib.hid hW
    have HM := Lib.hid hM
    clear hW hM
    by_cases hlt : k < n
    · obtain ⟨⟨pg, sl⟩, ha⟩ : ∃ a, l[k]? = some a := ⟨_, List.getElem?_eq_getElem (by have := HN.out; omega)⟩
      obtain ⟨v, hgv, hx1, hx2, hvis⟩ := HG.out (pg, sl) (List.mem_of_getElem? ha)
      have HQr : Hid (Quiet w wr) := HQ0.out.trans HW.out.quiet
      obtain ⟨bl, ofl, rfl, _, la, lb2⟩ := place_cells (HLD.out.kept HQr.out (fun _ _ x => x)) ha
      have HV1 := Lib.hid (And.intro hx1 hx2)
      have HVIS0 := Lib.hid hvis
      have HGV := Lib.hid hgv
      have HA := Lib.hid ha
      have hqb : Quiet wr (wr.alloc (.cells #[.int .i64 pg, .int .i64 sl] 41)) := (Only.refl _ _).alloc _
      have hat := alloc_new wr (.cells #[.int .i64 pg, .int .i64 sl] 41)
      obtain ⟨at_, hat_⟩ : ∃ at_, wr.heap.size = at_ := ⟨_, rfl⟩
      dsimp only at la lb2
      clear ha hgv hx1 hx2 hvis
      go_wp2_with fail
      (try rw [hat_] at hat)
      (try rw [hat_])
      generalize wr.alloc (.cells #[.int .i64 pg, .int .i64 sl] 41) = wb at *
      have HQb : Hid (Quiet w wb) := HQr.out.trans hqb
      have HWb := Lib.hid (HW.out.quietly hqb)
      have HAT := Lib.hid hat
      clear la lb2 hat hqb hat_
      have HS5 : Hid (∀ W, Quiet wb W → (fun w' => w'.cell? ⟨sb, 3, none⟩ = some (.map (some mh)) ∧ w'.cell? ⟨r6, 0, none⟩ = some (.int .u64 (t.id : Int)) ∧ w'.cell? ⟨at_, 0, none⟩ = some (.int .i64 pg) ∧ w'.cell? ⟨at_, 1, none⟩ = some (.int .i64 sl) ∧ (Instr.lookup 63 (.map (some mh)) (.int .u64 (t.id : Int)) false).run Tryz.prog w' = .ok (ptrV hb) w') W) := fun W hq => by
        have hq2 := HQb.out.trans hq
        have h2 := HH.out.quietly hq2
        have b6 := hq.get (HWb.out.quiet.get HB6.out (fun x => x)) (fun x => x)
        have b7 := hq.get HAT.out (fun x => x)
        exact ⟨h2.cells.2.2.2.1, (tabBox_cells b6).1, by rw [cell_of b7]; rfl, by rw [cell_of b7]; rfl, look_heap h2.mH HF.out HID.out⟩
      have HGET : Hid (∀ W, Quiet wb W → Calls Tryz.prog 31 #[ptrV hb, .agg #[.int .i64 pg, .int .i64 sl]] W (GetSome W v)) := fun W hq => heap_get_some pg sl v (HP.out.kept (HQb.out.trans hq) (fun _ _ x => x)) HGV.out
      apply got_key (wb := wb) (t := v)
      case main =>
            intro KEY
            refine wp_region_held_drew (S := (fun w' => w'.cell? ⟨sb, 3, none⟩ = some (.map (some mh)) ∧ w'.cell? ⟨r6, 0, none⟩ = some (.int .u64 (t.id : Int)) ∧ w'.cell? ⟨at_, 0, none⟩ = some (.int .i64 pg) ∧ w'.cell? ⟨at_, 1, none⟩ = some (.int .i64 sl) ∧ (Instr.lookup 63 (.map (some mh)) (.int .u64 (t.id : Int)) false).run Tryz.prog w' = .ok (ptrV hb) w')) (by kernel_rfl) (HS5.out _ (Only.refl _ _).drew) (fun hHeld => ?_)
            simp only [List.size_toArray, List.length_cons, List.length_nil, Nat.reduceAdd]
            have q0 : Quiet wb wb.drew := (Only.refl _ _).drew
            generalize wb.drew = d0 at q0 hHeld ⊢
            (refine zTK 0 (oi := ?_) (v := ?_) ?_ ?_ (Or.inl ⟨?_, ?_⟩) ?_; rotate_left 2; (focus (simp only [zGA, zGZ, zGS] <;> rfl)); (focus (exact fun _ _ _ h => h)); (focus rfl); (focus (intro w hSw; (try dsimp only at hSw); go_simp; (try with_reducible rfl); done)); (try simp only [Act.put, zPA, zPZ, zPS]))
            (refine zTK 1 (oi := ?_) (v := ?_) ?_ ?_ (Or.inl ⟨?_, ?_⟩) ?_; rotate_left 2; (focus (simp only [zGA, zGZ, zGS] <;> rfl)); (focus (exact fun _ _ _ h => h)); (focus rfl); (focus (intro w hSw; (try dsimp only at hSw); go_simp; (try with_reducible rfl); done)); (try simp only [Act.put, zPA, zPZ, zPS]))
            (refine zTK 2 (oi := ?_) (v := ?_) ?_ ?_ (Or.inl ⟨?_, ?_⟩) ?_; rotate_left 2; (focus (simp only [zGA, zGZ, zGS] <;> rfl)); (focus (exact fun _ _ _ h => h)); (focus rfl); (focus (intro w hSw; (try dsimp only at hSw); go_simp; (try with_reducible rfl); done)); (try simp only [Act.put, zPA, zPZ, zPS]))
            (refine zTK 3 (oi := ?_) (v := ?_) ?_ ?_ (Or.inl ⟨?_, ?_⟩) ?_; rotate_left 2; (focus (simp only [zGA, zGZ, zGS] <;> rfl)); (focus (exact fun _ _ _ h => h)); (focus rfl); (focus (intro w hSw; (try dsimp only at hSw); go_simp; (try with_reducible rfl); done)); (try simp only [Act.put, zPA, zPZ, zPS]))
            (refine zTK 4 (oi := ?_) (v := ?_) ?_ ?_ (Or.inl ⟨?_, ?_⟩) ?_; rotate_left 2; (focus (simp only [zGA, zGZ, zGS] <;> rfl)); (focus (exact fun _ _ _ h => h)); (focus rfl); (focus (intro w hSw; (try dsimp only at hSw); go_simp; (try with_reducible rfl); done)); (try simp only [Act.put, zPA, zPZ, zPS]))
            (refine zTK 5 (oi := ?_) (v := ?_) ?_ ?_ (Or.inl ⟨?_, ?_⟩) ?_; rotate_left 2; (focus (simp only [zGA, zGZ, zGS] <;> rfl)); (focus (exact fun _ _ _ h => h)); (focus rfl); (focus (intro w hSw; (try dsimp only at hSw); go_simp; (try with_reducible rfl); done)); (try simp only [Act.put, zPA, zPZ, zPS]))
            (refine zTK 6 (oi := ?_) (v := ?_) ?_ ?_ (Or.inl ⟨?_, ?_⟩) ?_; rotate_left 2; (focus (simp only [zGA, zGZ, zGS] <;> rfl)); (focus (exact fun _ _ _ h => h)); (focus rfl); (focus (intro w hSw; (try dsimp only at hSw); go_simp; (try with_reducible rfl); done)); (try simp only [Act.put, zPA, zPZ, zPS]))
            (refine zTK 7 (oi := ?_) (v := ?_) ?_ ?_ (Or.inl ⟨?_, ?_⟩) ?_; rotate_left 2; (focus (simp only [zGA, zGZ, zGS] <;> rfl)); (focus (exact fun _ _ _ h => h)); (focus rfl); (focus (intro w hSw; (try dsimp only at hSw); go_simp; (try with_reducible rfl); done)); (try simp only [Act.put, zPA, zPZ, zPS]))
            refine wpAnyH_ready (rs := [8, 12]) (by kernel_rfl) (by simp) ?_
            refine AllReadyH.cons (o := ?_) ?_ ?_ ?_
            rotate_left 1
            (focus (simp only [zGA, zGZ, zGS] <;> rfl))
            · intro K hK
              go_simp
              go_at_call 31
              refine (HGET.out _ q0).mono ?_
              rintro e d2 ⟨A4, c4, rfl, hf4⟩
              have q2 := q0.trans hf4.quiet
              have hown := hf4.own
              have hfn : ∀ k, (Value.slice A4 v.data.length c4).ownBlock = some k → wb.heap.size ≤ k := fun k e => Nat.le_trans (q0).size (hf4.new k e)
              clear hf4
              unfold tupV
              dsimp only
              refine hK.out _ _ ?_ (fun hHeld => ?_)
              · exact HS5.out _ q2
              clear hK K
              (try simp only [Act.put, zPA, zPZ, zPS])
              (refine zTK 9 (oi := ?_) (v := ?_) ?_ ?_ (Or.inl ⟨?_, ?_⟩) ?_; rotate_left 2; (focus (simp only [zGA, zGZ, zGS] <;> rfl)); (focus (exact fun _ _ _ h => h)); (focus rfl); (focus (intro w hSw; (try dsimp only at hSw); go_simp; (try with_reducible rfl); done)); (try simp only [Act.put, zPA, zPZ, zPS]))
              (refine zTK 10 (oi := ?_) (v := ?_) ?_ ?_ (Or.inl ⟨?_, ?_⟩) ?_; rotate_left 2; (focus (simp only [zGA, zGZ, zGS] <;> rfl)); (focus (exact fun _ _ _ h => h)); (focus rfl); (focus (intro w hSw; (try dsimp only at hSw); go_simp; (try with_reducible rfl); done)); (try simp only [Act.put, zPA, zPZ, zPS]))
              (refine zTK 11 (oi := ?_) (v := ?_) ?_ ?_ (Or.inl ⟨?_, ?_⟩) ?_; rotate_left 2; (focus (simp only [zGA, zGZ, zGS] <;> rfl)); (focus (exact fun _ _ _ h => h)); (focus rfl); (focus (intro w hSw; (try dsimp only at hSw); go_simp; (try with_reducible rfl); done)); (try simp only [Act.put, zPA, zPZ, zPS]))
              refine wpAnyH_ready (rs := [12]) (by kernel_rfl) (by simp) ?_
              refine AllReadyH.cons (o := ?_) ?_ ?_ AllReadyH.nil
              rotate_left 1
              (focus (simp only [zGA, zGZ, zGS] <;> rfl))
              intro K hK
              go_simp
              refine hK.out _ _ ?_ (fun hHeld => ?_)
              · exact HS5.out _ (q2.alloc _)
              clear hK K
              (try simp only [Act.put, zPA, zPZ, zPS])
              have qd3 : Quiet wb (d2.alloc (.cells #[.int .u64 0, .int .u64 0, .int .u64 0, .int .i64 0, .int .i64 0, .slice none 0 0] 92)) := q2.alloc _
              have hb1 := alloc_new d2 (.cells #[.int .u64 0, .int .u64 0, .int .u64 0, .int .i64 0, .int .i64 0, .slice none 0 0] 92)
              have hnp : wb.heap.size ≤ d2.heap.size := q2.size
              have hown := owns_kept hown ((Only.refl (fun _ => False) d2).alloc (.cells #[.int .u64 0, .int .u64 0, .int .u64 0, .int .i64 0, .int .i64 0, .slice none 0 0] 92)) (fun _ _ x => x)
              obtain ⟨pt, hpt⟩ : ∃ pt, d2.heap.size = pt := ⟨_, rfl⟩
              rw [hpt] at hb1 hnp ⊢
              generalize d2.alloc (.cells #[.int .u64 0, .int .u64 0, .int .u64 0, .int .i64 0, .int .i64 0, .slice none 0 0] 92) = d3 at *
              clear hpt
              have z0 := cell_of hb1 0
              have z1 := cell_of hb1 1
              have z2 := cell_of hb1 2
              have z3 := cell_of hb1 3
              have z4 := cell_of hb1 4
              have z5 := cell_of hb1 5
              have zf := fun o => frozen_of hb1 o
              simp only [zGA, zGS, zGZ] at z0 z1 z2 z3 z4 z5
              refine wpAnyH_ready (rs := [13]) (by kernel_rfl) (by simp) ?_
              refine AllReadyH.cons (o := ?_) ?_ ?_ AllReadyH.nil
              rotate_left 1
              (focus (simp only [zGA, zGZ, zGS] <;> rfl))
              intro K hK
              go_simp
              refine hK.out _ _ ?_ (fun hHeld => ?_)
              · exact HS5.out _ (got_leaf qd3 hb1 hnp hown hfn).quiet
              clear hK K
              (try simp only [Act.put, zPA, zPZ, zPS])
              have HG := got_leaf qd3 hb1 hnp hown hfn
              unfold sixSet at HG
              (refine zTK 14 (oi := ?_) (v := ?_) ?_ ?_ (Or.inl ⟨?_, ?_⟩) ?_; rotate_left 2; (focus (simp only [zGA, zGZ, zGS] <;> rfl)); (focus (exact fun _ _ _ h => h)); (focus rfl); (focus (intro w hSw; (try dsimp only at hSw); go_simp; (try with_reducible rfl); done)); (try simp only [Act.put, zPA, zPZ, zPS]))
              refine wpAnyH_done (by kernel_rfl) ?_ _
              generalize ((((((d3.setCell ⟨pt, 0, none⟩ (.int .u64 v.row)).setCell ⟨pt, 1, none⟩ (.int .u64 v.xmin)).setCell ⟨pt, 2, none⟩ (.int .u64 v.xmax)).setCell ⟨pt, 3, none⟩ (.int .i64 v.pg)).setCell ⟨pt, 4, none⟩ (.int .i64 v.sl)).setCell ⟨pt, 5, none⟩ (.slice A4 v.data.length c4)) = WF at HG ⊢
              exact KEY _ _ _ _ HG
            refine AllReadyH.cons (o := ?_) ?_ ?_ AllReadyH.nil
            rotate_left 1
            (focus (simp only [zGA, zGZ, zGS] <;> rfl))
            intro K hK
            go_simp
            refine hK.out _ _ ?_ (fun hHeld => ?_)
            · exact HS5.out _ (q0.alloc _)
            clear hK K
            (try simp only [Act.put, zPA, zPZ, zPS])
            have qd1 : Quiet wb (d0.alloc (.cells #[.int .u64 0, .int .u64 0, .int .u64 0, .int .i64 0, .int .i64 0, .slice none 0 0] 92)) := q0.alloc _
            have hb1 := alloc_new d0 (.cells #[.int .u64 0, .int .u64 0, .int .u64 0, .int .i64 0, .int .i64 0, .slice none 0 0] 92)
            have hnp : wb.heap.size ≤ d0.heap.size := q0.size
            obtain ⟨pt, hpt⟩ : ∃ pt, d0.heap.size = pt := ⟨_, rfl⟩
            rw [hpt] at hb1 hnp ⊢
            generalize d0.alloc (.cells #[.int .u64 0, .int .u64 0, .int .u64 0, .int .i64 0, .int .i64 0, .slice none 0 0] 92) = d1 at *
            clear hpt
            refine wpAnyH_ready (rs := [8]) (by kernel_rfl) (by simp) ?_
            refine AllReadyH.cons (o := ?_) ?_ ?_ AllReadyH.nil
            rotate_left 1
            (focus (simp only [zGA, zGZ, zGS] <;> rfl))
            intro K hK
            go_simp
            go_at_call 31
            refine (HGET.out _ qd1).mono ?_
            rintro e d2 ⟨A4, c4, rfl, hf4⟩
            have q2 := qd1.trans hf4.quiet
            have hb2 := hf4.quiet.get hb1 (fun x => x)
            have hown := hf4.own
            have hfn : ∀ k, (Value.slice A4 v.data.length c4).ownBlock = some k → wb.heap.size ≤ k := fun k e => Nat.le_trans (qd1).size (hf4.new k e)
            clear hf4
            unfold tupV
            dsimp only
            refine hK.out _ _ ?_ (fun hHeld => ?_)
            · exact HS5.out _ q2
            clear hK K
            (try simp only [Act.put, zPA, zPZ, zPS])
            have z0 := cell_of hb2 0
            have z1 := cell_of hb2 1
            have z2 := cell_of hb2 2
            have z3 := cell_of hb2 3
            have z4 := cell_of hb2 4
            have z5 := cell_of hb2 5
            have zf := fun o => frozen_of hb2 o
            simp only [zGA, zGS, zGZ] at z0 z1 z2 z3 z4 z5
            (refine zTK 9 (oi := ?_) (v := ?_) ?_ ?_ (Or.inl ⟨?_, ?_⟩) ?_; rotate_left 2; (focus (simp only [zGA, zGZ, zGS] <;> rfl)); (focus (exact fun _ _ _ h => h)); (focus rfl); (focus (intro w hSw; (try dsimp only at hSw); go_simp; (try with_reducible rfl); done)); (try simp only [Act.put, zPA, zPZ, zPS]))
            (refine zTK 10 (oi := ?_) (v := ?_) ?_ ?_ (Or.inl ⟨?_, ?_⟩) ?_; rotate_left 2; (focus (simp only [zGA, zGZ, zGS] <;> rfl)); (focus (exact fun _ _ _ h => h)); (focus rfl); (focus (intro w hSw; (try dsimp only at hSw); go_simp; (try with_reducible rfl); done)); (try simp only [Act.put, zPA, zPZ, zPS]))
            (refine zTK 11 (oi := ?_) (v := ?_) ?_ ?_ (Or.inl ⟨?_, ?_⟩) ?_; rotate_left 2; (focus (simp only [zGA, zGZ, zGS] <;> rfl)); (focus (exact fun _ _ _ h => h)); (focus rfl); (focus (intro w hSw; (try dsimp only at hSw); go_simp; (try with_reducible rfl); done)); (try simp only [Act.put, zPA, zPZ, zPS]))
            refine wpAnyH_ready (rs := [13]) (by kernel_rfl) (by simp) ?_
            refine AllReadyH.cons (o := ?_) ?_ ?_ AllReadyH.nil
            rotate_left 1
            (focus (simp only [zGA, zGZ, zGS] <;> rfl))
            intro K hK
            go_simp
            refine hK.out _ _ ?_ (fun hHeld => ?_)
            · exact HS5.out _ (got_leaf q2 hb2 hnp hown hfn).quiet
            clear hK K
            (try simp only [Act.put, zPA, zPZ, zPS])
            have HG := got_leaf q2 hb2 hnp hown hfn
            unfold sixSet at HG
            (refine zTK 14 (oi := ?_) (v := ?_) ?_ ?_ (Or.inl ⟨?_, ?_⟩) ?_; rotate_left 2; (focus (simp only [zGA, zGZ, zGS] <;> rfl)); (focus (exact fun _ _ _ h => h)); (focus rfl); (focus (intro w hSw; (try dsimp only at hSw); go_simp; (try with_reducible rfl); done)); (try simp only [Act.put, zPA, zPZ, zPS]))
            refine wpAnyH_done (by kernel_rfl) ?_ _
            generalize ((((((d2.setCell ⟨pt, 0, none⟩ (.int .u64 v.row)).setCell ⟨pt, 1, none⟩ (.int .u64 v.xmin)).setCell ⟨pt, 2, none⟩ (.int .u64 v.xmax)).setCell ⟨pt, 3, none⟩ (.int .i64 v.pg)).setCell ⟨pt, 4, none⟩ (.int .i64 v.sl)).setCell ⟨pt, 5, none⟩ (.slice A4 v.data.length c4)) = WF at HG ⊢
            exact KEY _ _ _ _ HG
      case key =>
        intro A4 c4 pt W HL0
        have HL := Lib.hid HL0
        clear HL0 HS5 HGET
        have HQW : Hid (Quiet w W) := HQb.out.trans HL.out.quiet
        have HWW := Lib.hid (HWb.out.quietly HL.out.quiet)
        have HS6 : Hid (∀ W', Quiet W W' → (fun w' => w'.cell? ⟨sb, 0, none⟩ = some (ptrV lb) ∧ w'.cell? ⟨r5, 0, none⟩ = some (.int .u64 (y.own : Int)) ∧ w'.cell? ⟨r5, 1, none⟩ = some (.int .u64 (y.xmin : Int)) ∧ w'.cell? ⟨r5, 2, none⟩ = some (.int .u64 (y.xmax : Int)) ∧ w'.cell? ⟨r5, 3, none⟩ = some (.slice A y.run.length cy) ∧ w'.cell? ⟨pt, 0, none⟩ = some (.int .u64 v.row) ∧ w'.cell? ⟨pt, 1, none⟩ = some (.int .u64 v.xmin) ∧ w'.cell? ⟨pt, 2, none⟩ = some (.int .u64 v.xmax) ∧ w'.cell? ⟨pt, 3, none⟩ = some (.int .i64 v.pg) ∧ w'.cell? ⟨pt, 4, none⟩ = some (.int .i64 v.sl) ∧ w'.cell? ⟨pt, 5, none⟩ = some (.slice A4 v.data.length c4)) W') := fun W' hq => by
          have b5 := hq.get (HWW.out.quiet.get HB5.out (fun x => x)) (fun x => x)
          have bt := hq.get HL.out.box (fun x => x)
          have hsn := snapBox_cells b5
          refine ⟨((HH.out.quietly HQW.out).quietly hq).cells.1, hsn.1, hsn.2.1, hsn.2.2.1, hsn.2.2.2, ?_, ?_, ?_, ?_, ?_, ?_⟩ <;> (rw [cell_of bt]; rfl)
        obtain ⟨r, hrv⟩ : ∃ r, visS s.L y v.xmin v.xmax = r := ⟨_, rfl⟩
        have HRV := Lib.hid hrv
        have HVIS : Hid (∀ W', Quiet W W' → Calls Tryz.prog 76 #[ptrV lb, snapV y A cy, tupV v A4 c4] W' (BoolQ W' r)) := fun W' hq => by
          rw [← HRV.out]
          have hq2 := HQW.out.trans hq
          exact snap_visible v A4 c4 (HH.out.quietly hq2).log (HS.out.kept hq2 (fun _ _ x => x)) HV1.out.1 HV1.out.2
        unfold snapV tupV at HVIS
        clear hrv
        go_wp2_with fail
        refine wp_region_held_drew (S := (fun w' => w'.cell? ⟨sb, 0, none⟩ = some (ptrV lb) ∧ w'.cell? ⟨r5, 0, none⟩ = some (.int .u64 (y.own : Int)) ∧ w'.cell? ⟨r5, 1, none⟩ = some (.int .u64 (y.xmin : Int)) ∧ w'.cell? ⟨r5, 2, none⟩ = some (.int .u64 (y.xmax : Int)) ∧ w'.cell? ⟨r5, 3, none⟩ = some (.slice A y.run.length cy) ∧ w'.cell? ⟨pt, 0, none⟩ = some (.int .u64 v.row) ∧ w'.cell? ⟨pt, 1, none⟩ = some (.int .u64 v.xmin) ∧ w'.cell? ⟨pt, 2, none⟩ = some (.int .u64 v.xmax) ∧ w'.cell? ⟨pt, 3, none⟩ = some (.int .i64 v.pg) ∧ w'.cell? ⟨pt, 4, none⟩ = some (.int .i64 v.sl) ∧ w'.cell? ⟨pt, 5, none⟩ = some (.slice A4 v.data.length c4))) (by kernel_rfl) (HS6.out _ (Only.refl _ _).drew) (fun hHeld => ?_)
        simp only [List.size_toArray, List.length_cons, List.length_nil, Nat.reduceAdd]
        have q6 : Quiet W W.drew := (Only.refl _ _).drew
        generalize W.drew = d6 at q6 hHeld ⊢
        (refine zTK 0 (oi := ?_) (v := ?_) ?_ ?_ (Or.inl ⟨?_, ?_⟩) ?_; rotate_left 2; (focus (simp only [zGA, zGZ, zGS] <;> rfl)); (focus (exact fun _ _ _ h => h)); (focus rfl); (focus (intro w hSw; (try dsimp only at hSw); go_simp; (try with_reducible rfl); done)); (try simp only [Act.put, zPA, zPZ, zPS]))
        (refine zTK 1 (oi := ?_) (v := ?_) ?_ ?_ (Or.inl ⟨?_, ?_⟩) ?_; rotate_left 2; (focus (simp only [zGA, zGZ, zGS] <;> rfl)); (focus (exact fun _ _ _ h => h)); (focus rfl); (focus (intro w hSw; (try dsimp only at hSw); go_simp; (try with_reducible rfl); done)); (try simp only [Act.put, zPA, zPZ, zPS]))
        (refine zTK 2 (oi := ?_) (v := ?_) ?_ ?_ (Or.inl ⟨?_, ?_⟩) ?_; rotate_left 2; (focus (simp only [zGA, zGZ, zGS] <;> rfl)); (focus (exact fun _ _ _ h => h)); (focus rfl); (focus (intro w hSw; (try dsimp only at hSw); go_simp; (try with_reducible rfl); done)); (try simp only [Act.put, zPA, zPZ, zPS]))
        (refine zTK 3 (oi := ?_) (v := ?_) ?_ ?_ (Or.inl ⟨?_, ?_⟩) ?_; rotate_left 2; (focus (simp only [zGA, zGZ, zGS] <;> rfl)); (focus (exact fun _ _ _ h => h)); (focus rfl); (focus (intro w hSw; (try dsimp only at hSw); go_simp; (try with_reducible rfl); done)); (try simp only [Act.put, zPA, zPZ, zPS]))
        (refine zTK 4 (oi := ?_) (v := ?_) ?_ ?_ (Or.inl ⟨?_, ?_⟩) ?_; rotate_left 2; (focus (simp only [zGA, zGZ, zGS] <;> rfl)); (focus (exact fun _ _ _ h => h)); (focus rfl); (focus (intro w hSw; (try dsimp only at hSw); go_simp; (try with_reducible rfl); done)); (try simp only [Act.put, zPA, zPZ, zPS]))
        (refine zTK 5 (oi := ?_) (v := ?_) ?_ ?_ (Or.inl ⟨?_, ?_⟩) ?_; rotate_left 2; (focus (simp only [zGA, zGZ, zGS] <;> rfl)); (focus (exact fun _ _ _ h => h)); (focus rfl); (focus (intro w hSw; (try dsimp only at hSw); go_simp; (try with_reducible rfl); done)); (try simp only [Act.put, zPA, zPZ, zPS]))
        (refine zTK 6 (oi := ?_) (v := ?_) ?_ ?_ (Or.inl ⟨?_, ?_⟩) ?_; rotate_left 2; (focus (simp only [zGA, zGZ, zGS] <;> rfl)); (focus (exact fun _ _ _ h => h)); (focus rfl); (focus (intro w hSw; (try dsimp only at hSw); go_simp; (try with_reducible rfl); done)); (try simp only [Act.put, zPA, zPZ, zPS]))
        (refine zTK 7 (oi := ?_) (v := ?_) ?_ ?_ (Or.inl ⟨?_, ?_⟩) ?_; rotate_left 2; (focus (simp only [zGA, zGZ, zGS] <;> rfl)); (focus (exact fun _ _ _ h => h)); (focus rfl); (focus (intro w hSw; (try dsimp only at hSw); go_simp; (try with_reducible rfl); done)); (try simp only [Act.put, zPA, zPZ, zPS]))
        refine wpAnyH_ready (rs := [8]) (by kernel_rfl) (by simp) ?_
        refine AllReadyH.cons (o := ?_) ?_ ?_ AllReadyH.nil
        rotate_left 1
        (focus (simp only [zGA, zGZ, zGS] <;> rfl))
        intro K hK
        go_simp
        go_at_call 76
        refine (HVIS.out _ q6).mono ?_
        rintro e d7 ⟨rfl, hq7⟩
        have q7 := q6.trans hq7
        clear hq7
        dsimp only
        refine hK.out _ _ ?_ (fun hHeld => ?_)
        · exact HS6.out _ q7
        clear hK K
        (try simp only [Act.put, zPA, zPZ, zPS])
        (refine zTK 9 (oi := ?_) (v := ?_) ?_ ?_ (Or.inl ⟨?_, ?_⟩) ?_; rotate_left 2; (focus (simp only [zGA, zGZ, zGS] <;> rfl)); (focus (exact fun _ _ _ h => h)); (focus rfl); (focus (intro w hSw; (try dsimp only at hSw); go_simp; (try with_reducible rfl); done)); (try simp only [Act.put, zPA, zPZ, zPS]))
        refine wpAnyH_done (by kernel_rfl) ?_ _
        clear hHeld
        rcases r with _ | _
        · have HTK : Hid (M.map RowM.told = seenR H s.L y (l.take (k + 1))) := by
            show _ = _
            rw [seen_take HA.out, HM.out]
            have : seenAt H s.L y (pg, sl) = none := by
              unfold seenAt
              rw [HGV.out]
              simp [HRV.out]
            rw [this]
            simp
          have HEND := Lib.hid (HWW.out.quietly q7)
          clear q7 q6
          go_wp2
          go_roundw
          case rel => exact ⟨k + 1, _, M, by omega, by go_num, rfl, HEND.out, HTK.out⟩
          case measure => simp [intOf]; omega
        · obtain ⟨x, hx, hdat⟩ := HVIS0.out HRV.out
          have hd9 : v.data.length = 9 := by rw [hdat]; exact rowI_length x
          have HTK : Hid (seenAt H s.L y (pg, sl) = some (v.row, pg, sl, x)) := by
            unfold Hid seenAt
            rw [HGV.out]
            simp only [HRV.out, if_true]
            rw [hdat, numOf_row]
          have HW7 := Lib.hid (HWW.out.quietly q7)
          have HQ7 : Hid (Quiet w d7) := HQW.out.trans q7
          have HBT := Lib.hid (q7.get HL.out.box (fun x => x))
          have HAT7 := Lib.hid (q7.get (HL.out.quiet.get HAT.out (fun x => x)) (fun x => x))
          obtain ⟨A', c', e', hc4, hm4, hrd4⟩ := own_form HL.out.own
          injection e' with e1 _ e2
          subst e1 e2
          rw [hd9] at hc4
          have HDC := Lib.hid (And.intro hc4 hm4)
          have HDAT : Hid (∀ W', Quiet d7 W' → Rd W' (fun _ => True) 1 A4 9 (bytesV (rowI x))) := fun W' hq => by
            have := (hrd4.kept (q7.trans hq) (fun _ _ x => x)).mono (T := fun _ => True) (fun _ _ => trivial)
            rw [hd9, hdat] at this
            exact this
          have HKND : Hid (∀ W', Quiet d7 W' → Calls Tryz.prog 38 #[tabV t A2 c2] W' (KindsPost W' 1)) := fun W' hq => by
            have h2 := HR.out.kept (HQ7.out.trans hq) (fun _ _ x => x)
            have h3 := HC2.out
            rw [HT.out] at h2 h3
            exact store_kinds HT.out h2 h3.1 h3.2
          have HS7 : Hid (∀ W', Quiet d7 W' → (fun w' => w'.cell? ⟨r6, 0, none⟩ = some (.int .u64 (t.id : Int)) ∧ w'.cell? ⟨r6, 1, none⟩ = some (.string t.name) ∧ w'.cell? ⟨r6, 2, none⟩ = some (.slice A2 t.cols.length c2) ∧ w'.cell? ⟨r6, 3, none⟩ = some (.int .u64 (t.xmin : Int)) ∧ w'.cell? ⟨r6, 4, none⟩ = some (.int .u64 (t.xmax : Int)) ∧ w'.cell? ⟨pt, 5, none⟩ = some (.slice A4 v.data.length c4)) W') := fun W' hq => by
            have b6 := tabBox_cells (hq.get (HW7.out.quiet.get HB6.out (fun x => x)) (fun x => x))
            have bt := hq.get HBT.out (fun x => x)
            exact ⟨b6.1, b6.2.1, b6.2.2.1, b6.2.2.2.1, b6.2.2.2.2, by rw [cell_of bt]; rfl⟩
          unfold tabV at HKND
          have HX := Lib.hid hx
          have HD9 := Lib.hid hd9
          clear hc4 hm4 hrd4 hdat q7 q6 hx HS6 HVIS
          go_wp2_with fail
          refine wp_region_held_drew (S := (fun w' => w'.cell? ⟨r6, 0, none⟩ = some (.int .u64 (t.id : Int)) ∧ w'.cell? ⟨r6, 1, none⟩ = some (.string t.name) ∧ w'.cell? ⟨r6, 2, none⟩ = some (.slice A2 t.cols.length c2) ∧ w'.cell? ⟨r6, 3, none⟩ = some (.int .u64 (t.xmin : Int)) ∧ w'.cell? ⟨r6, 4, none⟩ = some (.int .u64 (t.xmax : Int)) ∧ w'.cell? ⟨pt, 5, none⟩ = some (.slice A4 v.data.length c4))) (by kernel_rfl) (HS7.out _ (Only.refl _ _).drew) (fun hHeld => ?_)
          simp only [List.size_toArray, List.length_cons, List.length_nil, Nat.reduceAdd]
          have q8 : Quiet d7 d7.drew := (Only.refl _ _).drew
          generalize d7.drew = d8 at q8 hHeld ⊢
          (refine zTK 0 (oi := ?_) (v := ?_) ?_ ?_ (Or.inl ⟨?_, ?_⟩) ?_; rotate_left 2; (focus (simp only [zGA, zGZ, zGS] <;> rfl)); (focus (exact fun _ _ _ h => h)); (focus rfl); (focus (intro w hSw; (try dsimp only at hSw); go_simp; (try with_reducible rfl); done)); (try simp only [Act.put, zPA, zPZ, zPS]))
          (refine zTK 2 (oi := ?_) (v := ?_) ?_ ?_ (Or.inl ⟨?_, ?_⟩) ?_; rotate_left 2; (focus (simp only [zGA, zGZ, zGS] <;> rfl)); (focus (exact fun _ _ _ h => h)); (focus rfl); (focus (intro w hSw; (try dsimp only at hSw); go_simp; (try with_reducible rfl); done)); (try simp only [Act.put, zPA, zPZ, zPS]))
          (refine zTK 3 (oi := ?_) (v := ?_) ?_ ?_ (Or.inl ⟨?_, ?_⟩) ?_; rotate_left 2; (focus (simp only [zGA, zGZ, zGS] <;> rfl)); (focus (exact fun _ _ _ h => h)); (focus rfl); (focus (intro w hSw; (try dsimp only at hSw); go_simp; (try with_reducible rfl); done)); (try simp only [Act.put, zPA, zPZ, zPS]))
          refine wpAnyH_ready (rs := [1]) (by kernel_rfl) (by simp) ?_
          refine AllReadyH.cons (o := ?_) ?_ ?_ AllReadyH.nil
          rotate_left 1
          (focus (simp only [zGA, zGZ, zGS] <;> rfl))
          intro K hK
          go_simp
          go_at_call 38
          refine (HKND.out _ q8).mono ?_
          rintro e d9 ⟨v9, rfl, hf9⟩
          have q9 := q8.trans hf9.quiet
          obtain ⟨A9, c9, rfl, hc9, hm9, hrd9⟩ := own_form hf9.own
          clear hf9
          dsimp only
          refine hK.out _ _ ?_ (fun hHeld => ?_)
          · exact HS7.out _ q9
          clear hK K
          (try simp only [Act.put, zPA, zPZ, zPS])
          refine wpAnyH_ready (rs := [4]) (by kernel_rfl) (by simp) ?_
          refine AllReadyH.cons (o := ?_) ?_ ?_ AllReadyH.nil
          rotate_left 1
          (focus (simp only [zGA, zGZ, zGS] <;> rfl))
          intro K hK
          go_simp
          go_at_call 73
          (try rw [HD9.out])
          refine (row_read_int HX.out (by exact hrd9) (HDAT.out _ q9) hc9 hm9 HDC.out.1 HDC.out.2).mono ?_
          rintro e d10 ⟨v10, rfl, hf10⟩
          have q10 := q9.trans hf10.quiet
          have hfv := FreshV.from9 q9 hf10
          clear hf10
          dsimp only
          refine hK.out _ _ ?_ (fun hHeld => ?_)
          · exact HS7.out _ q10
          clear hK K
          (try simp only [Act.put, zPA, zPZ, zPS])
          (refine zTK 5 (oi := ?_) (v := ?_) ?_ ?_ (Or.inl ⟨?_, ?_⟩) ?_; rotate_left 2; (focus (simp only [zGA, zGZ, zGS] <;> rfl)); (focus (exact fun _ _ _ h => h)); (focus rfl); (focus (intro w hSw; (try dsimp only at hSw); go_simp; (try with_reducible rfl); done)); (try simp only [Act.put, zPA, zPZ, zPS]))
          (refine zTK 6 (oi := ?_) (v := ?_) ?_ ?_ (Or.inl ⟨?_, ?_⟩) ?_; rotate_left 2; (focus (simp only [zGA, zGZ, zGS] <;> rfl)); (focus (exact fun _ _ _ h => h)); (focus rfl); (focus (intro w hSw; (try dsimp only at hSw); go_simp; (try with_reducible rfl); done)); (try simp only [Act.put, zPA, zPZ, zPS]))
          (refine zTK 7 (oi := ?_) (v := ?_) ?_ ?_ (Or.inl ⟨?_, ?_⟩) ?_; rotate_left 2; (focus (simp only [zGA, zGZ, zGS] <;> rfl)); (focus (exact fun _ _ _ h => h)); (focus rfl); (focus (intro w hSw; (try dsimp only at hSw); go_simp; (try with_reducible rfl); done)); (try simp only [Act.put, zPA, zPZ, zPS]))
          (refine zTK 8 (oi := ?_) (v := ?_) ?_ ?_ (Or.inl ⟨?_, ?_⟩) ?_; rotate_left 2; (focus (simp only [zGA, zGZ, zGS] <;> rfl)); (focus (exact fun _ _ _ h => h)); (focus rfl); (focus (intro w hSw; (try dsimp only at hSw); go_simp; (try with_reducible rfl); done)); (try simp only [Act.put, zPA, zPZ, zPS]))
          (refine zTK 9 (oi := ?_) (v := ?_) ?_ ?_ (Or.inl ⟨?_, ?_⟩) ?_; rotate_left 2; (focus (simp only [zGA, zGZ, zGS] <;> rfl)); (focus (exact fun _ _ _ h => h)); (focus rfl); (focus (intro w hSw; (try dsimp only at hSw); go_simp; (try with_reducible rfl); done)); (try simp only [Act.put, zPA, zPZ, zPS]))
          refine wpAnyH_done (by kernel_rfl) ?_ _
          clear hHeld q8 q9 q10 hrd9 hc9 hm9
          obtain ⟨A10, c10, rfl, hc10, hm10, _⟩ := own_form hfv.own
          have HW10 := Lib.hid (HW7.out.quietly hfv.quiet)
          have HRD := Lib.hid (Rd.new d10 4 1 (rowE ⟨v.row, pg, sl, x, A10, c10⟩) 44 (fun _ => True) rfl trivial)
          have HW11 := Lib.hid (HW10.out.quietly ((Only.refl (fun _ => False) d10).alloc (.cells (rowE ⟨v.row, pg, sl, x, A10, c10⟩).toArray 44)))
          have HVAL : Hid ((∀ k, (Value.slice A10 1 c10).ownBlock = some k → W0.heap.size ≤ k) ∧ (d10.alloc (.cells (rowE ⟨v.row, pg, sl, x, A10, c10⟩).toArray 44)).ownsRow 0 54 4 (.slice A10 1 c10) 1 (intRow x)) :=
            ⟨fun k e => Nat.le_trans HW7.out.quiet.size (hfv.new k e), owns_kept hfv.own ((Only.refl (fun _ => False) d10).alloc _) (fun _ _ x => x)⟩
          have hml : M.length ≤ n := by
            have e1 : (M.map RowM.told).length ≤ (l.take k).length := by rw [HM.out]; exact List.length_filterMap_le _ _
            rw [List.length_map, List.length_take] at e1
            omega
          have x0 : d10.cell? ⟨pt, 0, none⟩ = some (.int .u64 v.row) := by rw [cell_of (hfv.quiet.get HBT.out (fun x => x))]; rfl
          have x1 : d10.cell? ⟨at_, 0, none⟩ = some (.int .i64 pg) := by rw [cell_of (hfv.quiet.get HAT7.out (fun x => x))]; rfl
          have x2 : d10.cell? ⟨at_, 1, none⟩ = some (.int .i64 sl) := by rw [cell_of (hfv.quiet.get HAT7.out (fun x => x))]; rfl
          obtain ⟨ml, hml2⟩ : ∃ ml, M.length = ml := ⟨_, rfl⟩
          have HML := Lib.hid hml2
          rw [hml2] at hml
          have hown := HW11.out.own
          rw [hml2] at hown
          have HOWN := Lib.hid hown
          clear hfv hc10 hm10 hml2 hown HDAT HKND HS7 HBT
          go_wp2_with (at_builtin; refine app elem_row rfl (.tmp 52) (.tmp 58) rfl rfl HOWN.out rfl HRD.out (rowE_one ⟨v.row, pg, sl, x, A10, c10⟩) (by unfold maxLen; omega) (by omega) ?_)
          intro v11 w11 hg11
          rw [← HML.out] at hg11
          have HPU := Lib.hid (RowsW.push (m := ⟨v.row, pg, sl, x, A10, c10⟩) HW11.out HVAL.out hg11)
          have HTK2 : Hid ((M ++ [(⟨v.row, pg, sl, x, A10, c10⟩ : RowM)]).map RowM.told = seenR H s.L y (l.take (k + 1))) := by
            show _ = _
            rw [List.map_append, HM.out, seen_take HA.out, HTK.out]
            rfl
          clear hg11 HW11 HVAL HRD HOWN HW10 x0 x1 x2
          go_wp2
          go_roundw
          case rel => exact ⟨k + 1, _, _, by omega, by go_num, rfl, HPU.out, HTK2.out⟩
          case measure => simp [intOf]; omega
    · obtain rfl : k = n := by omega
      have hml : M.length ≤ k := by
        have e1 : (M.map RowM.told).length ≤ (l.take k).length := by rw [HM.out]; exact List.length_filterMap_le _ _
        rw [List.length_map, List.length_take] at e1
        omega
      have HSO := Lib.hid (sort_rows u9 M wr HW.out.own (by omega))
      clear hml
      go_wp2_with fail
      refine HSO.out.mono ?_
      rintro e w9 ⟨rfl, M', hp, hsd, ho, hon⟩
      have HEND : Hid (POST (.returned u9) w9) := by
        rw [← HPOST.out]
        refine ⟨u9, M', rfl, (HW.out.sorted hp hon ho).from HQ0.out, ?_, hsd⟩
        have := hp.map RowM.told
        rw [HM.out, List.take_of_length_le (by have := HN.out; omega)] at this
        exact this
      clear hp hsd ho hon HSO
      go_wp2
      exact HEND.out

end Go.Proofs.YtmkaomglecfmfaaGreatDoor

namespace Go.Proofs.YtmkaomglecfmfaaGreatDoor
open Go.RowKit Go.Lap

/-- What version tells of a version that is there. -/
def VersPost (w : World) (v : Tup) (code : Nat) (e : Ending) (w' : World) : Prop := ∃ A c, e = .returned (.tuple #[tupV v A c, .int .i64 (code : Int)]) ∧ Quiet w w'

theorem four_new (w : World) (a b c d : Obj) : Quiet w ((((w.alloc a).alloc b).alloc c).alloc d) ∧ ((((w.alloc a).alloc b).alloc c).alloc d).heap[w.heap.size]? = some a ∧ ((((w.alloc a).alloc b).alloc c).alloc d).heap[w.heap.size + 1]? = some b ∧ ((((w.alloc a).alloc b).alloc c).alloc d).heap[w.heap.size + 1 + 1]? = some c ∧ ((((w.alloc a).alloc b).alloc c).alloc d).heap[w.heap.size + 1 + 1 + 1]? = some d := by
  refine ⟨((((Only.refl _ _).alloc _).alloc _).alloc _).alloc _, alloc_old (alloc_old (alloc_old (alloc_new w a) b) c) d, alloc_old (alloc_old (two_new w a b) c) d, ?_, ?_⟩
  · have := alloc_new ((w.alloc a).alloc b) c
    simp only [World.size_alloc] at this
    exact alloc_old this d
  · have := alloc_new (((w.alloc a).alloc b).alloc c) d
    simp only [World.size_alloc] at this
    exact this

set_option maxHeartbeats 4000000 in
set_option maxRecDepth 100000 in
theorem store_version {w : World} {sb cy c2 n3 c3 : Nat} {o : Nat → Nat} {s : St} {y : Snap} {t : TE} {Sy : Nat → Prop} {A A2 A3 : Option Addr} {H : List (List (Option Tup))} {pg sl : Int} {v : Tup} (h : StoreAt w sb o s) (hs : SnapV w Sy A cy y) (hid : U64 t.id)
    (hH : s.hs t.id = some H) (hg : hGet H pg sl = some v) (hx1 : U64 v.xmin) (hx2 : U64 v.xmax) :
    Calls Tryz.prog 39 #[ptrV sb, snapV y A cy, tabV t A2 c2, .agg #[.int .u64 v.row, .int .i64 pg, .int .i64 sl, .slice A3 n3 c3]] w (VersPost w v (freeS s.L y v.xmin v.xmax)) := by
  obtain ⟨lb, bb, pb, mh, mt, ms, fh, ft, fs, h⟩ := h
  obtain ⟨hb, hf, hp⟩ := h.heaps.2 t.id H hH
  have HH := Lib.hid h
  have HP := Lib.hid hp
  have HF := Lib.hid hf
  have HS := Lib.hid hs
  have HID := Lib.hid hid
  have HGV := Lib.hid hg
  have HV1 := Lib.hid (And.intro hx1 hx2)
  obtain ⟨q0, b5, b6, b7, b8⟩ := four_new w (.cells (snapCells y A cy) 70) (.cells #[.int .u64 (t.id : Int), .string t.name, .slice A2 t.cols.length c2, .int .u64 (t.xmin : Int), .int .u64 (t.xmax : Int)] 86) (.cells #[.int .u64 v.row, .int .i64 pg, .int .i64 sl, .slice A3 n3 c3] 44) (.cells #[.int .u64 0, .int .u64 0, .int .u64 0, .int .i64 0, .int .i64 0, .slice none 0 0] 92)
  have HQ0 := Lib.hid q0
  have HB5 := Lib.hid b5
  have HB6 := Lib.hid b6
  have HB7 := Lib.hid b7
  have HB8 := Lib.hid b8
  obtain ⟨r5, hr5⟩ : ∃ r5, w.heap.size = r5 := ⟨_, rfl⟩
  obtain ⟨r6, hr6⟩ : ∃ r6, r5 + 1 = r6 := ⟨_, rfl⟩
  obtain ⟨r7, hr7⟩ : ∃ r7, r6 + 1 = r7 := ⟨_, rfl⟩
  obtain ⟨r8, hr8⟩ : ∃ r8, r7 + 1 = r8 := ⟨_, rfl⟩
  rw [hr5] at HB5 HB6 HB7 HB8
  rw [hr6] at HB6 HB7 HB8
  rw [hr7] at HB7 HB8
  rw [hr8] at HB8
  obtain ⟨code, hcode⟩ : ∃ code, freeS s.L y v.xmin v.xmax = code := ⟨_, rfl⟩
  rw [hcode]
  have HCODE := Lib.hid hcode
  have HNE : Hid (r5 ≠ r8 ∧ w.heap.size ≤ r8) := ⟨by omega, by omega⟩
  clear h hs hp hf hH hid hg hx1 hx2 q0 b5 b6 b7 b8 hcode
  unfold snapV tabV
  go_enter Tryz.func39, Tryz.ntmps39
  go_wp2_with fail
  (try simp only [World.size_alloc] at *)
  (try rw [hr5]); (try rw [hr6]); (try rw [hr7]); (try rw [hr8])
  generalize (((w.alloc (.cells #[.int .u64 (y.own : Int), .int .u64 (y.xmin : Int), .int .u64 (y.xmax : Int), .slice A y.run.length cy] 70)).alloc (.cells #[.int .u64 (t.id : Int), .string t.name, .slice A2 t.cols.length c2, .int .u64 (t.xmin : Int), .int .u64 (t.xmax : Int)] 86)).alloc (.cells #[.int .u64 v.row, .int .i64 pg, .int .i64 sl, .slice A3 n3 c3] 44)).alloc (.cells #[.int .u64 0, .int .u64 0, .int .u64 0, .int .i64 0, .int .i64 0, .slice none 0 0] 92) = wb at *
  have HS5 : Hid (∀ W, Quiet wb W → (fun w' => w'.cell? ⟨sb, 3, none⟩ = some (.map (some mh)) ∧ w'.cell? ⟨r6, 0, none⟩ = some (.int .u64 (t.id : Int)) ∧ w'.cell? ⟨r7, 1, none⟩ = some (.int .i64 pg) ∧ w'.cell? ⟨r7, 2, none⟩ = some (.int .i64 sl) ∧ (Instr.lookup 63 (.map (some mh)) (.int .u64 (t.id : Int)) false).run Tryz.prog w' = .ok (ptrV hb) w') W) := fun W hq => by
    have h2 := HH.out.quietly (HQ0.out.trans hq)
    have b6 := hq.get HB6.out (fun x => x)
    have b7 := hq.get HB7.out (fun x => x)
    exact ⟨h2.cells.2.2.2.1, (tabBox_cells b6).1, by rw [cell_of b7]; rfl, by rw [cell_of b7]; rfl, look_heap h2.mH HF.out HID.out⟩
  have HGET : Hid (∀ W, Quiet wb W → Calls Tryz.prog 31 #[ptrV hb, .agg #[.int .i64 pg, .int .i64 sl]] W (GetSome W v)) := fun W hq => heap_get_some pg sl v (HP.out.kept (HQ0.out.trans hq) (fun _ _ x => x)) HGV.out
  clear hr5 hr6 hr7 hr8
  apply got_key (wb := wb) (t := v)
  case main =>
      intro KEY
      refine wp_region_held_drew (S := (fun w' => w'.cell? ⟨sb, 3, none⟩ = some (.map (some mh)) ∧ w'.cell? ⟨r6, 0, none⟩ = some (.int .u64 (t.id : Int)) ∧ w'.cell? ⟨r7, 1, none⟩ = some (.int .i64 pg) ∧ w'.cell? ⟨r7, 2, none⟩ = some (.int .i64 sl) ∧ (Instr.lookup 63 (.map (some mh)) (.int .u64 (t.id : Int)) false).run Tryz.prog w' = .ok (ptrV hb) w')) (by kernel_rfl) (HS5.out _ (Only.refl _ _).drew) (fun hHeld => ?_)
      simp only [List.size_toArray, List.length_cons, List.length_nil, Nat.reduceAdd]
      have q0 : Quiet wb wb.drew := (Only.refl _ _).drew
      generalize wb.drew = d0 at q0 hHeld ⊢
      (refine zTK 0 (oi := ?_) (v := ?_) ?_ ?_ (Or.inl ⟨?_, ?_⟩) ?_; rotate_left 2; (focus (simp only [zGA, zGZ, zGS] <;> rfl)); (focus (exact fun _ _ _ h => h)); (focus rfl); (focus (intro w hSw; (try dsimp only at hSw); go_simp; (try with_reducible rfl); done)); (try simp only [Act.put, zPA, zPZ, zPS]))
      (refine zTK 1 (oi := ?_) (v := ?_) ?_ ?_ (Or.inl ⟨?_, ?_⟩) ?_; rotate_left 2; (focus (simp only [zGA, zGZ, zGS] <;> rfl)); (focus (exact fun _ _ _ h => h)); (focus rfl); (focus (intro w hSw; (try dsimp only at hSw); go_simp; (try with_reducible rfl); done)); (try simp only [Act.put, zPA, zPZ, zPS]))
      (refine zTK 2 (oi := ?_) (v := ?_) ?_ ?_ (Or.inl ⟨?_, ?_⟩) ?_; rotate_left 2; (focus (simp only [zGA, zGZ, zGS] <;> rfl)); (focus (exact fun _ _ _ h => h)); (focus rfl); (focus (intro w hSw; (try dsimp only at hSw); go_simp; (try with_reducible rfl); done)); (try simp only [Act.put, zPA, zPZ, zPS]))
      (refine zTK 3 (oi := ?_) (v := ?_) ?_ ?_ (Or.inl ⟨?_, ?_⟩) ?_; rotate_left 2; (focus (simp only [zGA, zGZ, zGS] <;> rfl)); (focus (exact fun _ _ _ h => h)); (focus rfl); (focus (intro w hSw; (try dsimp only at hSw); go_simp; (try with_reducible rfl); done)); (try simp only [Act.put, zPA, zPZ, zPS]))
      (refine zTK 4 (oi := ?_) (v := ?_) ?_ ?_ (Or.inl ⟨?_, ?_⟩) ?_; rotate_left 2; (focus (simp only [zGA, zGZ, zGS] <;> rfl)); (focus (exact fun _ _ _ h => h)); (focus rfl); (focus (intro w hSw; (try dsimp only at hSw); go_simp; (try with_reducible rfl); done)); (try simp only [Act.put, zPA, zPZ, zPS]))
      (refine zTK 5 (oi := ?_) (v := ?_) ?_ ?_ (Or.inl ⟨?_, ?_⟩) ?_; rotate_left 2; (focus (simp only [zGA, zGZ, zGS] <;> rfl)); (focus (exact fun _ _ _ h => h)); (focus rfl); (focus (intro w hSw; (try dsimp only at hSw); go_simp; (try with_reducible rfl); done)); (try simp only [Act.put, zPA, zPZ, zPS]))
      (refine zTK 6 (oi := ?_) (v := ?_) ?_ ?_ (Or.inl ⟨?_, ?_⟩) ?_; rotate_left 2; (focus (simp only [zGA, zGZ, zGS] <;> rfl)); (focus (exact fun _ _ _ h => h)); (focus rfl); (focus (intro w hSw; (try dsimp only at hSw); go_simp; (try with_reducible rfl); done)); (try simp only [Act.put, zPA, zPZ, zPS]))
      (refine zTK 7 (oi := ?_) (v := ?_) ?_ ?_ (Or.inl ⟨?_, ?_⟩) ?_; rotate_left 2; (focus (simp only [zGA, zGZ, zGS] <;> rfl)); (focus (exact fun _ _ _ h => h)); (focus rfl); (focus (intro w hSw; (try dsimp only at hSw); go_simp; (try with_reducible rfl); done)); (try simp only [Act.put, zPA, zPZ, zPS]))
      (refine zTK 8 (oi := ?_) (v := ?_) ?_ ?_ (Or.inl ⟨?_, ?_⟩) ?_; rotate_left 2; (focus (simp only [zGA, zGZ, zGS] <;> rfl)); (focus (exact fun _ _ _ h => h)); (focus rfl); (focus (intro w hSw; (try dsimp only at hSw); go_simp; (try with_reducible rfl); done)); (try simp only [Act.put, zPA, zPZ, zPS]))
      refine wpAnyH_ready (rs := [9, 13]) (by kernel_rfl) (by simp) ?_
      refine AllReadyH.cons (o := ?_) ?_ ?_ ?_
      rotate_left 1
      (focus (simp only [zGA, zGZ, zGS] <;> rfl))
      · intro K hK
        go_simp
        go_at_call 31
        refine (HGET.out _ q0).mono ?_
        rintro e d2 ⟨A4, c4, rfl, hf4⟩
        have q2 := q0.trans hf4.quiet
        have hown := hf4.own
        have hfn : ∀ k, (Value.slice A4 v.data.length c4).ownBlock = some k → wb.heap.size ≤ k := fun k e => Nat.le_trans (q0).size (hf4.new k e)
        clear hf4
        unfold tupV
        dsimp only
        refine hK.out _ _ ?_ (fun hHeld => ?_)
        · exact HS5.out _ q2
        clear hK K
        (try simp only [Act.put, zPA, zPZ, zPS])
        (refine zTK 10 (oi := ?_) (v := ?_) ?_ ?_ (Or.inl ⟨?_, ?_⟩) ?_; rotate_left 2; (focus (simp only [zGA, zGZ, zGS] <;> rfl)); (focus (exact fun _ _ _ h => h)); (focus rfl); (focus (intro w hSw; (try dsimp only at hSw); go_simp; (try with_reducible rfl); done)); (try simp only [Act.put, zPA, zPZ, zPS]))
        (refine zTK 11 (oi := ?_) (v := ?_) ?_ ?_ (Or.inl ⟨?_, ?_⟩) ?_; rotate_left 2; (focus (simp only [zGA, zGZ, zGS] <;> rfl)); (focus (exact fun _ _ _ h => h)); (focus rfl); (focus (intro w hSw; (try dsimp only at hSw); go_simp; (try with_reducible rfl); done)); (try simp only [Act.put, zPA, zPZ, zPS]))
        (refine zTK 12 (oi := ?_) (v := ?_) ?_ ?_ (Or.inl ⟨?_, ?_⟩) ?_; rotate_left 2; (focus (simp only [zGA, zGZ, zGS] <;> rfl)); (focus (exact fun _ _ _ h => h)); (focus rfl); (focus (intro w hSw; (try dsimp only at hSw); go_simp; (try with_reducible rfl); done)); (try simp only [Act.put, zPA, zPZ, zPS]))
        refine wpAnyH_ready (rs := [13]) (by kernel_rfl) (by simp) ?_
        refine AllReadyH.cons (o := ?_) ?_ ?_ AllReadyH.nil
        rotate_left 1
        (focus (simp only [zGA, zGZ, zGS] <;> rfl))
        intro K hK
        go_simp
        refine hK.out _ _ ?_ (fun hHeld => ?_)
        · exact HS5.out _ (q2.alloc _)
        clear hK K
        (try simp only [Act.put, zPA, zPZ, zPS])
        have qd3 : Quiet wb (d2.alloc (.cells #[.int .u64 0, .int .u64 0, .int .u64 0, .int .i64 0, .int .i64 0, .slice none 0 0] 92)) := q2.alloc _
        have hb1 := alloc_new d2 (.cells #[.int .u64 0, .int .u64 0, .int .u64 0, .int .i64 0, .int .i64 0, .slice none 0 0] 92)
        have hnp : wb.heap.size ≤ d2.heap.size := q2.size
        have hown := owns_kept hown ((Only.refl (fun _ => False) d2).alloc (.cells #[.int .u64 0, .int .u64 0, .int .u64 0, .int .i64 0, .int .i64 0, .slice none 0 0] 92)) (fun _ _ x => x)
        obtain ⟨pt, hpt⟩ : ∃ pt, d2.heap.size = pt := ⟨_, rfl⟩
        rw [hpt] at hb1 hnp ⊢
        generalize d2.alloc (.cells #[.int .u64 0, .int .u64 0, .int .u64 0, .int .i64 0, .int .i64 0, .slice none 0 0] 92) = d3 at *
        clear hpt
        have z0 := cell_of hb1 0
        have z1 := cell_of hb1 1
        have z2 := cell_of hb1 2
        have z3 := cell_of hb1 3
        have z4 := cell_of hb1 4
        have z5 := cell_of hb1 5
        have zf := fun o => frozen_of hb1 o
        simp only [zGA, zGS, zGZ] at z0 z1 z2 z3 z4 z5
        refine wpAnyH_ready (rs := [14]) (by kernel_rfl) (by simp) ?_
        refine AllReadyH.cons (o := ?_) ?_ ?_ AllReadyH.nil
        rotate_left 1
        (focus (simp only [zGA, zGZ, zGS] <;> rfl))
        intro K hK
        go_simp
        refine hK.out _ _ ?_ (fun hHeld => ?_)
        · exact HS5.out _ (got_leaf qd3 hb1 hnp hown hfn).quiet
        clear hK K
        (try simp only [Act.put, zPA, zPZ, zPS])
        have HG := got_leaf qd3 hb1 hnp hown hfn
        unfold sixSet at HG
        (refine zTK 15 (oi := ?_) (v := ?_) ?_ ?_ (Or.inl ⟨?_, ?_⟩) ?_; rotate_left 2; (focus (simp only [zGA, zGZ, zGS] <;> rfl)); (focus (exact fun _ _ _ h => h)); (focus rfl); (focus (intro w hSw; (try dsimp only at hSw); go_simp; (try with_reducible rfl); done)); (try simp only [Act.put, zPA, zPZ, zPS]))
        refine wpAnyH_done (by kernel_rfl) ?_ _
        generalize ((((((d3.setCell ⟨pt, 0, none⟩ (.int .u64 v.row)).setCell ⟨pt, 1, none⟩ (.int .u64 v.xmin)).setCell ⟨pt, 2, none⟩ (.int .u64 v.xmax)).setCell ⟨pt, 3, none⟩ (.int .i64 v.pg)).setCell ⟨pt, 4, none⟩ (.int .i64 v.sl)).setCell ⟨pt, 5, none⟩ (.slice A4 v.data.length c4)) = WF at HG ⊢
        exact KEY _ _ _ _ HG
      refine AllReadyH.cons (o := ?_) ?_ ?_ AllReadyH.nil
      rotate_left 1
      (focus (simp only [zGA, zGZ, zGS] <;> rfl))
      intro K hK
      go_simp
      refine hK.out _ _ ?_ (fun hHeld => ?_)
      · exact HS5.out _ (q0.alloc _)
      clear hK K
      (try simp only [Act.put, zPA, zPZ, zPS])
      have qd1 : Quiet wb (d0.alloc (.cells #[.int .u64 0, .int .u64 0, .int .u64 0, .int .i64 0, .int .i64 0, .slice none 0 0] 92)) := q0.alloc _
      have hb1 := alloc_new d0 (.cells #[.int .u64 0, .int .u64 0, .int .u64 0, .int .i64 0, .int .i64 0, .slice none 0 0] 92)
      have hnp : wb.heap.size ≤ d0.heap.size := q0.size
      obtain ⟨pt, hpt⟩ : ∃ pt, d0.heap.size = pt := ⟨_, rfl⟩
      rw [hpt] at hb1 hnp ⊢
      generalize d0.alloc (.cells #[.int .u64 0, .int .u64 0, .int .u64 0, .int .i64 0, .int .i64 0, .slice none 0 0] 92) = d1 at *
      clear hpt
      refine wpAnyH_ready (rs := [9]) (by kernel_rfl) (by simp) ?_
      refine AllReadyH.cons (o := ?_) ?_ ?_ AllReadyH.nil
      rotate_left 1
      (focus (simp only [zGA, zGZ, zGS] <;> rfl))
      intro K hK
      go_simp
      go_at_call 31
      refine (HGET.out _ qd1).mono ?_
      rintro e d2 ⟨A4, c4, rfl, hf4⟩
      have q2 := qd1.trans hf4.quiet
      have hb2 := hf4.quiet.get hb1 (fun x => x)
      have hown := hf4.own
      have hfn : ∀ k, (Value.slice A4 v.data.length c4).ownBlock = some k → wb.heap.size ≤ k := fun k e => Nat.le_trans (qd1).size (hf4.new k e)
      clear hf4
      unfold tupV
      dsimp only
      refine hK.out _ _ ?_ (fun hHeld => ?_)
      · exact HS5.out _ q2
      clear hK K
      (try simp only [Act.put, zPA, zPZ, zPS])
      have z0 := cell_of hb2 0
      have z1 := cell_of hb2 1
      have z2 := cell_of hb2 2
      have z3 := cell_of hb2 3
      have z4 := cell_of hb2 4
      have z5 := cell_of hb2 5
      have zf := fun o => frozen_of hb2 o
      simp only [zGA, zGS, zGZ] at z0 z1 z2 z3 z4 z5
      (refine zTK 10 (oi := ?_) (v := ?_) ?_ ?_ (Or.inl ⟨?_, ?_⟩) ?_; rotate_left 2; (focus (simp only [zGA, zGZ, zGS] <;> rfl)); (focus (exact fun _ _ _ h => h)); (focus rfl); (focus (intro w hSw; (try dsimp only at hSw); go_simp; (try with_reducible rfl); done)); (try simp only [Act.put, zPA, zPZ, zPS]))
      (refine zTK 11 (oi := ?_) (v := ?_) ?_ ?_ (Or.inl ⟨?_, ?_⟩) ?_; rotate_left 2; (focus (simp only [zGA, zGZ, zGS] <;> rfl)); (focus (exact fun _ _ _ h => h)); (focus rfl); (focus (intro w hSw; (try dsimp only at hSw); go_simp; (try with_reducible rfl); done)); (try simp only [Act.put, zPA, zPZ, zPS]))
      (refine zTK 12 (oi := ?_) (v := ?_) ?_ ?_ (Or.inl ⟨?_, ?_⟩) ?_; rotate_left 2; (focus (simp only [zGA, zGZ, zGS] <;> rfl)); (focus (exact fun _ _ _ h => h)); (focus rfl); (focus (intro w hSw; (try dsimp only at hSw); go_simp; (try with_reducible rfl); done)); (try simp only [Act.put, zPA, zPZ, zPS]))
      refine wpAnyH_ready (rs := [14]) (by kernel_rfl) (by simp) ?_
      refine AllReadyH.cons (o := ?_) ?_ ?_ AllReadyH.nil
      rotate_left 1
      (focus (simp only [zGA, zGZ, zGS] <;> rfl))
      intro K hK
      go_simp
      refine hK.out _ _ ?_ (fun hHeld => ?_)
      · exact HS5.out _ (got_leaf q2 hb2 hnp hown hfn).quiet
      clear hK K
      (try simp only [Act.put, zPA, zPZ, zPS])
      have HG := got_leaf q2 hb2 hnp hown hfn
      unfold sixSet at HG
      (refine zTK 15 (oi := ?_) (v := ?_) ?_ ?_ (Or.inl ⟨?_, ?_⟩) ?_; rotate_left 2; (focus (simp only [zGA, zGZ, zGS] <;> rfl)); (focus (exact fun _ _ _ h => h)); (focus rfl); (focus (intro w hSw; (try dsimp only at hSw); go_simp; (try with_reducible rfl); done)); (try simp only [Act.put, zPA, zPZ, zPS]))
      refine wpAnyH_done (by kernel_rfl) ?_ _
      generalize ((((((d2.setCell ⟨pt, 0, none⟩ (.int .u64 v.row)).setCell ⟨pt, 1, none⟩ (.int .u64 v.xmin)).setCell ⟨pt, 2, none⟩ (.int .u64 v.xmax)).setCell ⟨pt, 3, none⟩ (.int .i64 v.pg)).setCell ⟨pt, 4, none⟩ (.int .i64 v.sl)).setCell ⟨pt, 5, none⟩ (.slice A4 v.data.length c4)) = WF at HG ⊢
      exact KEY _ _ _ _ HG
  case key =>
    intro A4 c4 pt W HL0
    have HL := Lib.hid HL0
    clear HL0 HS5 HGET
    have HQW : Hid (Quiet w W) := HQ0.out.trans HL.out.quiet
    have HNP : Hid (pt ≠ r8) := fun e => by have := HL.out.new; have := lt_of_get HB8.out; omega
    have HS4 : Hid (∀ W', Only (fun k => k = r8) W W' → (fun w' => w'.cell? ⟨sb, 0, none⟩ = some (ptrV lb) ∧ w'.cell? ⟨r5, 0, none⟩ = some (.int .u64 (y.own : Int)) ∧ w'.cell? ⟨r5, 1, none⟩ = some (.int .u64 (y.xmin : Int)) ∧ w'.cell? ⟨r5, 2, none⟩ = some (.int .u64 (y.xmax : Int)) ∧ w'.cell? ⟨r5, 3, none⟩ = some (.slice A y.run.length cy) ∧ w'.cell? ⟨pt, 0, none⟩ = some (.int .u64 v.row) ∧ w'.cell? ⟨pt, 1, none⟩ = some (.int .u64 v.xmin) ∧ w'.cell? ⟨pt, 2, none⟩ = some (.int .u64 v.xmax) ∧ w'.cell? ⟨pt, 3, none⟩ = some (.int .i64 v.pg) ∧ w'.cell? ⟨pt, 4, none⟩ = some (.int .i64 v.sl) ∧ w'.cell? ⟨pt, 5, none⟩ = some (.slice A4 v.data.length c4)) W') := fun W' hq => by
      have b5 := hq.get (HL.out.quiet.get HB5.out (fun x => x)) (fun x => HNE.out.1 x)
      have bt := hq.get HL.out.box (fun x => HNP.out x)
      have hsn := snapBox_cells b5
      have c0 := hq.cell ((HH.out.quietly HQW.out).cells.1) (fun x => by have := lt_of_get HH.out.box; have := HNE.out.2; simp only at x; omega)
      refine ⟨c0, hsn.1, hsn.2.1, hsn.2.2.1, hsn.2.2.2, ?_, ?_, ?_, ?_, ?_, ?_⟩ <;> (rw [cell_of bt]; rfl)
    have HFREE : Hid (∀ W', Quiet W W' → Calls Tryz.prog 81 #[ptrV lb, snapV y A cy, tupV v A4 c4] W' (fun e w' => e = .returned (.int .i64 (code : Int)) ∧ Quiet W' w')) := fun W' hq => by
      rw [← HCODE.out]
      have hq2 := HQW.out.trans hq
      exact snap_free v A4 c4 (HH.out.quietly hq2).log (HS.out.kept hq2 (fun _ _ x => x)) HV1.out.1 HV1.out.2
    unfold snapV tupV at HFREE
    have HB8' := Lib.hid (HL.out.quiet.get HB8.out (fun x => x))
    have t0 := HL.out.cells.1
    have r0 : W.cell? ⟨r7, 0, none⟩ = some (.int .u64 v.row) := by rw [cell_of (HL.out.quiet.get HB7.out (fun x => x))]; rfl
    clear HB8
    have HB8 := HB8'
    clear HB8'
    go_wp2_with fail
    clear t0 r0
    refine wp_region_held_drew (S := (fun w' => w'.cell? ⟨sb, 0, none⟩ = some (ptrV lb) ∧ w'.cell? ⟨r5, 0, none⟩ = some (.int .u64 (y.own : Int)) ∧ w'.cell? ⟨r5, 1, none⟩ = some (.int .u64 (y.xmin : Int)) ∧ w'.cell? ⟨r5, 2, none⟩ = some (.int .u64 (y.xmax : Int)) ∧ w'.cell? ⟨r5, 3, none⟩ = some (.slice A y.run.length cy) ∧ w'.cell? ⟨pt, 0, none⟩ = some (.int .u64 v.row) ∧ w'.cell? ⟨pt, 1, none⟩ = some (.int .u64 v.xmin) ∧ w'.cell? ⟨pt, 2, none⟩ = some (.int .u64 v.xmax) ∧ w'.cell? ⟨pt, 3, none⟩ = some (.int .i64 v.pg) ∧ w'.cell? ⟨pt, 4, none⟩ = some (.int .i64 v.sl) ∧ w'.cell? ⟨pt, 5, none⟩ = some (.slice A4 v.data.length c4))) (by kernel_rfl) (HS4.out _ (Only.refl _ _).drew) (fun hHeld => ?_)
    simp only [List.size_toArray, List.length_cons, List.length_nil, Nat.reduceAdd]
    have q6 : Quiet W W.drew := (Only.refl _ _).drew
    generalize W.drew = d6 at q6 hHeld ⊢
    (refine zTK 0 (oi := ?_) (v := ?_) ?_ ?_ (Or.inl ⟨?_, ?_⟩) ?_; rotate_left 2; (focus (simp only [zGA, zGZ, zGS] <;> rfl)); (focus (exact fun _ _ _ h => h)); (focus rfl); (focus (intro w hSw; (try dsimp only at hSw); go_simp; (try with_reducible rfl); done)); (try simp only [Act.put, zPA, zPZ, zPS]))
    (refine zTK 1 (oi := ?_) (v := ?_) ?_ ?_ (Or.inl ⟨?_, ?_⟩) ?_; rotate_left 2; (focus (simp only [zGA, zGZ, zGS] <;> rfl)); (focus (exact fun _ _ _ h => h)); (focus rfl); (focus (intro w hSw; (try dsimp only at hSw); go_simp; (try with_reducible rfl); done)); (try simp only [Act.put, zPA, zPZ, zPS]))
    (refine zTK 2 (oi := ?_) (v := ?_) ?_ ?_ (Or.inl ⟨?_, ?_⟩) ?_; rotate_left 2; (focus (simp only [zGA, zGZ, zGS] <;> rfl)); (focus (exact fun _ _ _ h => h)); (focus rfl); (focus (intro w hSw; (try dsimp only at hSw); go_simp; (try with_reducible rfl); done)); (try simp only [Act.put, zPA, zPZ, zPS]))
    (refine zTK 3 (oi := ?_) (v := ?_) ?_ ?_ (Or.inl ⟨?_, ?_⟩) ?_; rotate_left 2; (focus (simp only [zGA, zGZ, zGS] <;> rfl)); (focus (exact fun _ _ _ h => h)); (focus rfl); (focus (intro w hSw; (try dsimp only at hSw); go_simp; (try with_reducible rfl); done)); (try simp only [Act.put, zPA, zPZ, zPS]))
    (refine zTK 4 (oi := ?_) (v := ?_) ?_ ?_ (Or.inl ⟨?_, ?_⟩) ?_; rotate_left 2; (focus (simp only [zGA, zGZ, zGS] <;> rfl)); (focus (exact fun _ _ _ h => h)); (focus rfl); (focus (intro w hSw; (try dsimp only at hSw); go_simp; (try with_reducible rfl); done)); (try simp only [Act.put, zPA, zPZ, zPS]))
    (refine zTK 5 (oi := ?_) (v := ?_) ?_ ?_ (Or.inl ⟨?_, ?_⟩) ?_; rotate_left 2; (focus (simp only [zGA, zGZ, zGS] <;> rfl)); (focus (exact fun _ _ _ h => h)); (focus rfl); (focus (intro w hSw; (try dsimp only at hSw); go_simp; (try with_reducible rfl); done)); (try simp only [Act.put, zPA, zPZ, zPS]))
    (refine zTK 6 (oi := ?_) (v := ?_) ?_ ?_ (Or.inl ⟨?_, ?_⟩) ?_; rotate_left 2; (focus (simp only [zGA, zGZ, zGS] <;> rfl)); (focus (exact fun _ _ _ h => h)); (focus rfl); (focus (intro w hSw; (try dsimp only at hSw); go_simp; (try with_reducible rfl); done)); (try simp only [Act.put, zPA, zPZ, zPS]))
    refine wpAnyH_ready (rs := [7]) (by kernel_rfl) (by simp) ?_
    refine AllReadyH.cons (o := ?_) ?_ ?_ AllReadyH.nil
    rotate_left 1
    (focus (simp only [zGA, zGZ, zGS] <;> rfl))
    intro K hK
    go_simp
    go_at_call 81
    refine (HFREE.out _ q6).mono ?_
    rintro e d7 ⟨rfl, hq7⟩
    have q7 := q6.trans hq7
    clear hq7
    have h8 := q7.get HB8.out (fun x => x)
    have e0 := cell_of h8 0
    have e1 := cell_of h8 1
    have e2 := cell_of h8 2
    have e3 := cell_of h8 3
    have e4 := cell_of h8 4
    have e5 := cell_of h8 5
    have ef := fun o => frozen_of h8 o
    simp only [zGA, zGS, zGZ] at e0 e1 e2 e3 e4 e5
    dsimp only
    refine hK.out _ _ ?_ (fun hHeld => ?_)
    · exact HS4.out _ (q7.mono (fun _ _ x => x.elim))
    clear hK K
    (try simp only [Act.put, zPA, zPZ, zPS])
    refine wpAnyH_ready (rs := [8]) (by kernel_rfl) (by simp) ?_
    refine AllReadyH.cons (o := ?_) ?_ ?_ AllReadyH.nil
    rotate_left 1
    (focus (simp only [zGA, zGZ, zGS] <;> rfl))
    intro K hK
    go_simp
    refine hK.out _ _ ?_ (fun hHeld => ?_)
    · exact HS4.out _ ((q7.mono (T := fun k => k = r8) (fun _ _ x => x.elim)).trans' (sixSet_only d7 r8 (.int .u64 v.row) (.int .u64 v.xmin) (.int .u64 v.xmax) (.int .i64 v.pg) (.int .i64 v.sl) (.slice A4 v.data.length c4)) (fun k _ e => e))
    clear hK K
    (try simp only [Act.put, zPA, zPZ, zPS])
    (refine zTK 9 (oi := ?_) (v := ?_) ?_ ?_ (Or.inl ⟨?_, ?_⟩) ?_; rotate_left 2; (focus (simp only [zGA, zGZ, zGS] <;> rfl)); (focus (exact fun _ _ _ h => h)); (focus rfl); (focus (intro w hSw; (try dsimp only at hSw); go_simp; (try with_reducible rfl); done)); (try simp only [Act.put, zPA, zPZ, zPS]))
    refine wpAnyH_done (by kernel_rfl) ?_ _
    have HX : Hid ((sixSet d7 r8 (.int .u64 v.row) (.int .u64 v.xmin) (.int .u64 v.xmax) (.int .i64 v.pg) (.int .i64 v.sl) (.slice A4 v.data.length c4)).heap[r8]? = some (.cells #[.int .u64 v.row, .int .u64 v.xmin, .int .u64 v.xmax, .int .i64 v.pg, .int .i64 v.sl, .slice A4 v.data.length c4] 92 (0, 0))) := sixSet_same h8 _ _ _ _ _ _
    have HP : Hid (VersPost w v code (.returned (.tuple #[tupV v A4 c4, .int .i64 (code : Int)])) (sixSet d7 r8 (.int .u64 v.row) (.int .u64 v.xmin) (.int .u64 v.xmax) (.int .i64 v.pg) (.int .i64 v.sl) (.slice A4 v.data.length c4))) := ⟨A4, c4, rfl, (HQW.out.trans q7).trans' (sixSet_only d7 r8 (.int .u64 v.row) (.int .u64 v.xmin) (.int .u64 v.xmax) (.int .i64 v.pg) (.int .i64 v.sl) (.slice A4 v.data.length c4)) (fun k hk e => by have := HNE.out.2; omega)⟩
    unfold sixSet at HX HP
    clear hHeld q6 q7 h8 e0 e1 e2 e3 e4 e5 ef
    unfold tupV at HP
    go_wp2
    exact bodyPost_ret (results_cell_tmp Tryz.results39 _ _ r8 _ _ (0, 0) _ (by rfl) HX.out Tryz.underlying92 rfl info_tup) (by rfl) HP.out

end Go.Proofs.YtmkaomglecfmfaaGreatDoor

namespace Go.Proofs.YtmkaomglecfmfaaGreatDoor
open Go.RowKit Go.Lap

/-- A heap turned. -/
def putSt (s : St) (id : Nat) (H' : List (List (Option Tup))) (left' : Nat) : St := { s with left := left', hs := upd s.hs id (some H') }

/-- What put tells. -/
def PutPost (w : World) (sb : Nat) (o : Nat → Nat) (s' : St) (p q : Int) (e : Ending) (w' : World) : Prop := e = .returned (.tuple #[.agg #[.int .i64 p, .int .i64 q], .int .i64 0]) ∧ StepTo w sb o s' w'

structure PutLeaf (wb W : World) (pt hb pb left' : Nat) (p q : Int) (G : Nat → Prop) (H' : List (List (Option Tup))) : Prop where
  only : Only (fun k => G k ∨ k = pb) wb W
  box : W.heap[pt]? = some (.cells #[.int .i64 p, .int .i64 q] 41 (0, 0))
  new : wb.heap.size ≤ pt
  pool : PoolAt W pb left'
  heap : HeapIs W hb pb (fun k => G k ∨ (wb.heap.size ≤ k ∧ k ≠ pt)) H'

theorem put_leaf {wb w1 : World} {pt hb pb left' : Nat} {p q : Int} {G : Nat → Prop} {H' : List (List (Option Tup))} {c0 c1 : Value} (hq : Only (fun k => G k ∨ k = pb) wb w1) (h1 : w1.heap[pt]? = some (.cells #[c0, c1] 41 (0, 0))) (hn : wb.heap.size ≤ pt)
    (hp : PoolAt w1 pb left') (hh : HeapIs w1 hb pb (fun k => G k ∨ (wb.heap.size ≤ k ∧ k ≠ pt)) H') (hG : ∀ k, wb.heap.size ≤ k → ¬ (G k ∨ k = pb)) :
    PutLeaf wb ((w1.setCell ⟨pt, 0, none⟩ (.int .i64 p)).setCell ⟨pt, 1, none⟩ (.int .i64 q)) pt hb pb left' p q G H' := by
  have ho := two_only w1 pt (.int .i64 p) (.int .i64 q)
  refine ⟨hq.trans' ho (fun k hk e => by omega), two_set h1 _ _, hn, hp.kept ho (fun e => hG _ hn (Or.inr e.symm)), hh.kept ho (fun k x e => ?_)⟩
  rcases x with x | x
  · exact hG k (by omega) (Or.inl x)
  · exact x.2 e

theorem put_key {goal : Prop} {wb : World} {hb pb left' : Nat} {p q : Int} {Gw : Nat → Prop} {H' : List (List (Option Tup))} {G : Nat → World → Prop} (main : (∀ pt W, PutLeaf wb W pt hb pb left' p q Gw H' → G pt W) → goal) (key : ∀ pt W, PutLeaf wb W pt hb pb left' p q Gw H' → G pt W) : goal := main key

theorem put_new3 (w : World) (a b c : Obj) : Quiet w (((w.alloc a).alloc b).alloc c) ∧ (((w.alloc a).alloc b).alloc c).heap[w.heap.size]? = some a ∧ (((w.alloc a).alloc b).alloc c).heap[w.heap.size + 1]? = some b ∧ (((w.alloc a).alloc b).alloc c).heap[w.heap.size + 1 + 1]? = some c := by
  refine ⟨(((Only.refl _ _).alloc _).alloc _).alloc _, alloc_old (alloc_old (alloc_new w a) b) c, alloc_old (two_new w a b) c, ?_⟩
  have := alloc_new ((w.alloc a).alloc b) c
  simp only [World.size_alloc] at this
  exact this

set_option maxHeartbeats 4000000 in
set_option maxRecDepth 100000 in
theorem store_put0 {w : World} {sb c2 cd left' : Nat} {o : Nat → Nat} {s : St} {t : TE} {Sd : Nat → Prop} {A A2 : Option Addr} {H H' : List (List (Option Tup))} {p q : Int} {v : Tup} (h : StoreAt w sb o s) (hI : s.I = []) (hid : U64 t.id) (hH : s.hs t.id = some H) (hle : H.length + s.left ≤ 256)
    (hby : ∀ x ∈ v.data, x < 256) (hd : Rd w Sd 1 A v.data.length (bytesV v.data)) (hS : ∀ k, Sd k → o k = 0) (hins : hIns H s.left v = ((p, q, 0), H', left')) :
    Calls Tryz.prog 40 #[ptrV sb, tabV t A2 c2, tupV v A cd] w (PutPost w sb o (putSt s t.id H' left') p q) := by
  obtain ⟨lb, bb, pb, mh, mt, ms, fh, ft, fs, h⟩ := h
  obtain ⟨hb, hf, hp⟩ := h.heaps.2 t.id H hH
  have HH := Lib.hid h
  have HP := Lib.hid hp
  have HF := Lib.hid hf
  have HID := Lib.hid hid
  have HD := Lib.hid hd
  have HI := Lib.hid hI
  have HIN := Lib.hid hins
  have HBY := Lib.hid hby
  have HSD := Lib.hid hS
  have HLE := Lib.hid hle
  obtain ⟨q0, b4, b5, b6⟩ := put_new3 w (.cells #[.int .u64 (t.id : Int), .string t.name, .slice A2 t.cols.length c2, .int .u64 (t.xmin : Int), .int .u64 (t.xmax : Int)] 86) (.cells #[.int .u64 v.row, .int .u64 v.xmin, .int .u64 v.xmax, .int .i64 v.pg, .int .i64 v.sl, .slice A v.data.length cd] 92) (.cells #[.int .i64 0, .int .i64 0] 41)
  have HQ0 := Lib.hid q0
  have HB4 := Lib.hid b4
  have HB5 := Lib.hid b5
  have HB6 := Lib.hid b6
  obtain ⟨r4, hr4⟩ : ∃ r4, w.heap.size = r4 := ⟨_, rfl⟩
  obtain ⟨r5, hr5⟩ : ∃ r5, r4 + 1 = r5 := ⟨_, rfl⟩
  obtain ⟨r6, hr6⟩ : ∃ r6, r5 + 1 = r6 := ⟨_, rfl⟩
  rw [hr4] at HB4 HB5 HB6
  rw [hr5] at HB5 HB6
  rw [hr6] at HB6
  have HR6 : Hid (w.heap.size ≤ r6 ∧ w.heap.size ≤ r4 ∧ w.heap.size ≤ r5) := ⟨by omega, by omega, by omega⟩
  clear h hp hf hid hd hI hins hby hS hH q0 b4 b5 b6 hle
  unfold tabV tupV
  go_enter Tryz.func40, Tryz.ntmps40
  go_wp2_with fail
  (try simp only [World.size_alloc] at *)
  (try rw [hr4]); (try rw [hr5]); (try rw [hr6])
  generalize ((w.alloc (.cells #[.int .u64 (t.id : Int), .string t.name, .slice A2 t.cols.length c2, .int .u64 (t.xmin : Int), .int .u64 (t.xmax : Int)] 86)).alloc (.cells #[.int .u64 v.row, .int .u64 v.xmin, .int .u64 v.xmax, .int .i64 v.pg, .int .i64 v.sl, .slice A v.data.length cd] 92)).alloc (.cells #[.int .i64 0, .int .i64 0] 41) = wb at *
  have HBIG : Hid (∀ k, w.heap.size ≤ k → o k = 0) := HH.out.big
  have HPB : Hid (pb < w.heap.size) := HH.out.pool.lt
  have HGN : Hid (∀ k, wb.heap.size ≤ k → ¬ (o k = 10 + 2 * t.id ∨ k = pb)) := fun k hk x => by
    have := HBIG.out k (by have := HQ0.out.size; omega)
    have := HPB.out
    have := HQ0.out.size
    rcases x with x | x <;> omega
  have HS5 : Hid (∀ W, Only (fun k => o k = 10 + 2 * t.id ∨ k = pb) wb W → (fun w' => w'.cell? ⟨sb, 3, none⟩ = some (.map (some mh)) ∧ w'.cell? ⟨r4, 0, none⟩ = some (.int .u64 (t.id : Int)) ∧ w'.cell? ⟨r5, 0, none⟩ = some (.int .u64 v.row) ∧ w'.cell? ⟨r5, 1, none⟩ = some (.int .u64 v.xmin) ∧ w'.cell? ⟨r5, 2, none⟩ = some (.int .u64 v.xmax) ∧ w'.cell? ⟨r5, 3, none⟩ = some (.int .i64 v.pg) ∧ w'.cell? ⟨r5, 4, none⟩ = some (.int .i64 v.sl) ∧ w'.cell? ⟨r5, 5, none⟩ = some (.slice A v.data.length cd) ∧ (Instr.lookup 63 (.map (some mh)) (.int .u64 (t.id : Int)) false).run Tryz.prog w' = .ok (ptrV hb) w') W) := fun W hq => by
    have h2 := HH.out.quietly HQ0.out
    obtain ⟨t1, t2, t3, t4, t5⟩ := h2.tags
    have b4 := hq.get HB4.out (fun x => by have := HBIG.out r4 HR6.out.2.1; have := HPB.out; have := HR6.out; rcases x with x | x <;> omega)
    have b5 := hq.get HB5.out (fun x => by have := HBIG.out r5 HR6.out.2.2; have := HPB.out; have := HR6.out; rcases x with x | x <;> omega)
    have c3 := hq.cell h2.cells.2.2.2.1 (fun x => by dsimp only at x; rcases x with x | x; omega; rw [x] at t1; omega)
    have hm := h2.mH.kept hq (fun x => by rcases x with x | x; omega; rw [x] at t3; omega)
    refine ⟨c3, (tabBox_cells b4).1, ?_, ?_, ?_, ?_, ?_, ?_, look_heap hm HF.out HID.out⟩ <;> (rw [cell_of b5]; rfl)
  have HINS : Hid (∀ W, Quiet wb W → Calls Tryz.prog 82 #[ptrV hb, .agg #[.int .u64 v.row, .int .u64 v.xmin, .int .u64 v.xmax, .int .i64 v.pg, .int .i64 v.sl, .slice A v.data.length cd]] W (fun e w' => e = .returned (.tuple #[.agg #[.int .i64 p, .int .i64 q], .int .i64 0]) ∧ Only (fun k => o k = 10 + 2 * t.id ∨ k = pb) W w' ∧ PoolAt w' pb left' ∧ HeapIs w' hb pb (fun k => o k = 10 + 2 * t.id ∨ W.heap.size ≤ k) H')) := fun W hq => by
    have hq2 := HQ0.out.trans hq
    have := heap_insert s.left v A cd Sd (HP.out.kept hq2 (fun _ _ x => x)) (HH.out.pool.kept hq2 (fun x => x)) HLE.out HBY.out (HD.out.kept hq2 (fun _ _ x => x)) (fun k hk => ⟨fun x => by have := HSD.out k hk; omega, fun x => by have := HSD.out k hk; have := HH.out.tags.2.1; rw [x] at *; omega⟩)
    rw [HIN.out] at this
    exact this
  clear hr4 hr5 hr6
  apply put_key (wb := wb) (hb := hb) (pb := pb) (left' := left') (p := p) (q := q) (Gw := fun k => o k = 10 + 2 * t.id) (H' := H')
  case main =>
      intro KEY
      refine wp_region_held_drew (S := (fun w' => w'.cell? ⟨sb, 3, none⟩ = some (.map (some mh)) ∧ w'.cell? ⟨r4, 0, none⟩ = some (.int .u64 (t.id : Int)) ∧ w'.cell? ⟨r5, 0, none⟩ = some (.int .u64 v.row) ∧ w'.cell? ⟨r5, 1, none⟩ = some (.int .u64 v.xmin) ∧ w'.cell? ⟨r5, 2, none⟩ = some (.int .u64 v.xmax) ∧ w'.cell? ⟨r5, 3, none⟩ = some (.int .i64 v.pg) ∧ w'.cell? ⟨r5, 4, none⟩ = some (.int .i64 v.sl) ∧ w'.cell? ⟨r5, 5, none⟩ = some (.slice A v.data.length cd) ∧ (Instr.lookup 63 (.map (some mh)) (.int .u64 (t.id : Int)) false).run Tryz.prog w' = .ok (ptrV hb) w')) (by kernel_rfl) (HS5.out _ ((Only.refl _ _).drew)) (fun hHeld => ?_)
      simp only [List.size_toArray, List.length_cons, List.length_nil, Nat.reduceAdd]
      have q0 : Quiet wb wb.drew := (Only.refl _ _).drew
      generalize wb.drew = d0 at q0 hHeld ⊢
      (refine zTK 0 (oi := ?_) (v := ?_) ?_ ?_ (Or.inl ⟨?_, ?_⟩) ?_; rotate_left 2; (focus (simp only [zGA, zGZ, zGS] <;> rfl)); (focus (exact fun _ _ _ h => h)); (focus rfl); (focus (intro w hSw; (try dsimp only at hSw); go_simp; (try with_reducible rfl); done)); (try simp only [Act.put, zPA, zPZ, zPS]))
      (refine zTK 1 (oi := ?_) (v := ?_) ?_ ?_ (Or.inl ⟨?_, ?_⟩) ?_; rotate_left 2; (focus (simp only [zGA, zGZ, zGS] <;> rfl)); (focus (exact fun _ _ _ h => h)); (focus rfl); (focus (intro w hSw; (try dsimp only at hSw); go_simp; (try with_reducible rfl); done)); (try simp only [Act.put, zPA, zPZ, zPS]))
      (refine zTK 2 (oi := ?_) (v := ?_) ?_ ?_ (Or.inl ⟨?_, ?_⟩) ?_; rotate_left 2; (focus (simp only [zGA, zGZ, zGS] <;> rfl)); (focus (exact fun _ _ _ h => h)); (focus rfl); (focus (intro w hSw; (try dsimp only at hSw); go_simp; (try with_reducible rfl); done)); (try simp only [Act.put, zPA, zPZ, zPS]))
      (refine zTK 3 (oi := ?_) (v := ?_) ?_ ?_ (Or.inl ⟨?_, ?_⟩) ?_; rotate_left 2; (focus (simp only [zGA, zGZ, zGS] <;> rfl)); (focus (exact fun _ _ _ h => h)); (focus rfl); (focus (intro w hSw; (try dsimp only at hSw); go_simp; (try with_reducible rfl); done)); (try simp only [Act.put, zPA, zPZ, zPS]))
      (refine zTK 4 (oi := ?_) (v := ?_) ?_ ?_ (Or.inl ⟨?_, ?_⟩) ?_; rotate_left 2; (focus (simp only [zGA, zGZ, zGS] <;> rfl)); (focus (exact fun _ _ _ h => h)); (focus rfl); (focus (intro w hSw; (try dsimp only at hSw); go_simp; (try with_reducible rfl); done)); (try simp only [Act.put, zPA, zPZ, zPS]))
      (refine zTK 5 (oi := ?_) (v := ?_) ?_ ?_ (Or.inl ⟨?_, ?_⟩) ?_; rotate_left 2; (focus (simp only [zGA, zGZ, zGS] <;> rfl)); (focus (exact fun _ _ _ h => h)); (focus rfl); (focus (intro w hSw; (try dsimp only at hSw); go_simp; (try with_reducible rfl); done)); (try simp only [Act.put, zPA, zPZ, zPS]))
      (refine zTK 6 (oi := ?_) (v := ?_) ?_ ?_ (Or.inl ⟨?_, ?_⟩) ?_; rotate_left 2; (focus (simp only [zGA, zGZ, zGS] <;> rfl)); (focus (exact fun _ _ _ h => h)); (focus rfl); (focus (intro w hSw; (try dsimp only at hSw); go_simp; (try with_reducible rfl); done)); (try simp only [Act.put, zPA, zPZ, zPS]))
      (refine zTK 7 (oi := ?_) (v := ?_) ?_ ?_ (Or.inl ⟨?_, ?_⟩) ?_; rotate_left 2; (focus (simp only [zGA, zGZ, zGS] <;> rfl)); (focus (exact fun _ _ _ h => h)); (focus rfl); (focus (intro w hSw; (try dsimp only at hSw); go_simp; (try with_reducible rfl); done)); (try simp only [Act.put, zPA, zPZ, zPS]))
      refine wpAnyH_ready (rs := [8, 12]) (by kernel_rfl) (by simp) ?_
      refine AllReadyH.cons (o := ?_) ?_ ?_ ?_
      rotate_left 1
      (focus (simp only [zGA, zGZ, zGS] <;> rfl))
      · intro K hK
        go_simp
        go_at_call 82
        refine (HINS.out _ q0).mono ?_
        rintro e d2 ⟨rfl, hi1, hi2, hi3⟩
        have q2 := (q0.mono (T := (fun k => o k = 10 + 2 * t.id ∨ k = pb)) (fun _ _ x => x.elim)).trans hi1
        have hheap := hi3.lim
        have hpool := hi2
        clear hi1 hi2 hi3
        dsimp only
        refine hK.out _ _ ?_ (fun hHeld => ?_)
        · exact HS5.out _ q2
        clear hK K
        (try simp only [Act.put, zPA, zPZ, zPS])
        (refine zTK 9 (oi := ?_) (v := ?_) ?_ ?_ (Or.inl ⟨?_, ?_⟩) ?_; rotate_left 2; (focus (simp only [zGA, zGZ, zGS] <;> rfl)); (focus (exact fun _ _ _ h => h)); (focus rfl); (focus (intro w hSw; (try dsimp only at hSw); go_simp; (try with_reducible rfl); done)); (try simp only [Act.put, zPA, zPZ, zPS]))
        (refine zTK 10 (oi := ?_) (v := ?_) ?_ ?_ (Or.inl ⟨?_, ?_⟩) ?_; rotate_left 2; (focus (simp only [zGA, zGZ, zGS] <;> rfl)); (focus (exact fun _ _ _ h => h)); (focus rfl); (focus (intro w hSw; (try dsimp only at hSw); go_simp; (try with_reducible rfl); done)); (try simp only [Act.put, zPA, zPZ, zPS]))
        (refine zTK 11 (oi := ?_) (v := ?_) ?_ ?_ (Or.inl ⟨?_, ?_⟩) ?_; rotate_left 2; (focus (simp only [zGA, zGZ, zGS] <;> rfl)); (focus (exact fun _ _ _ h => h)); (focus rfl); (focus (intro w hSw; (try dsimp only at hSw); go_simp; (try with_reducible rfl); done)); (try simp only [Act.put, zPA, zPZ, zPS]))
        refine wpAnyH_ready (rs := [12]) (by kernel_rfl) (by simp) ?_
        refine AllReadyH.cons (o := ?_) ?_ ?_ AllReadyH.nil
        rotate_left 1
        (focus (simp only [zGA, zGZ, zGS] <;> rfl))
        intro K hK
        go_simp
        refine hK.out _ _ ?_ (fun hHeld => ?_)
        · exact HS5.out _ (q2.alloc _)
        clear hK K
        (try simp only [Act.put, zPA, zPZ, zPS])
        have qd3 := q2.alloc (.cells #[.int .i64 0, .int .i64 0] 41)
        have hb1 := alloc_new d2 (.cells #[.int .i64 0, .int .i64 0] 41)
        have hnp : wb.heap.size ≤ d2.heap.size := q2.size
        have hpool := hpool.kept ((Only.refl (fun _ => False) d2).alloc (.cells #[.int .i64 0, .int .i64 0] 41)) (fun x => x)
        have hheap := hheap.kept ((Only.refl (fun _ => False) d2).alloc (.cells #[.int .i64 0, .int .i64 0] 41)) (fun _ _ x => x)
        obtain ⟨pt, hpt⟩ : ∃ pt, d2.heap.size = pt := ⟨_, rfl⟩
        (try rw [hpt] at hb1)
        (try rw [hpt] at hnp)
        (try rw [hpt])
        (try rw [hpt] at hheap)
        have hheap : HeapIs (d2.alloc (.cells #[.int .i64 0, .int .i64 0] 41)) hb pb (fun k => o k = 10 + 2 * t.id ∨ (wb.heap.size ≤ k ∧ k ≠ pt)) H' := hheap.mono (fun k x => by rcases x.1 with y | y; exact Or.inl y; exact Or.inr ⟨by have := q0.size; omega, by omega⟩)
        generalize d2.alloc (.cells #[.int .i64 0, .int .i64 0] 41) = d3 at *
        clear hpt
        have z0 := cell_of hb1 0
        have z1 := cell_of hb1 1
        have zf := fun o => frozen_of hb1 o
        simp only [zGA, zGS, zGZ] at z0 z1
        refine wpAnyH_ready (rs := [13]) (by kernel_rfl) (by simp) ?_
        refine AllReadyH.cons (o := ?_) ?_ ?_ AllReadyH.nil
        rotate_left 1
        (focus (simp only [zGA, zGZ, zGS] <;> rfl))
        intro K hK
        go_simp
        refine hK.out _ _ ?_ (fun hHeld => ?_)
        · exact HS5.out _ (put_leaf qd3 hb1 hnp hpool hheap HGN.out (p := p) (q := q)).only
        clear hK K
        (try simp only [Act.put, zPA, zPZ, zPS])
        have HG := (put_leaf qd3 hb1 hnp hpool hheap HGN.out (p := p) (q := q))
        (refine zTK 14 (oi := ?_) (v := ?_) ?_ ?_ (Or.inl ⟨?_, ?_⟩) ?_; rotate_left 2; (focus (simp only [zGA, zGZ, zGS] <;> rfl)); (focus (exact fun _ _ _ h => h)); (focus rfl); (focus (intro w hSw; (try dsimp only at hSw); go_simp; (try with_reducible rfl); done)); (try simp only [Act.put, zPA, zPZ, zPS]))
        refine wpAnyH_done (by kernel_rfl) ?_ _
        generalize (d3.setCell ⟨pt, 0, none⟩ (.int .i64 p)).setCell ⟨pt, 1, none⟩ (.int .i64 q) = WF at HG ⊢
        exact KEY _ _ HG
      refine AllReadyH.cons (o := ?_) ?_ ?_ AllReadyH.nil
      rotate_left 1
      (focus (simp only [zGA, zGZ, zGS] <;> rfl))
      intro K hK
      go_simp
      refine hK.out _ _ ?_ (fun hHeld => ?_)
      · exact HS5.out _ ((q0.alloc _).mono (fun _ _ x => x.elim))
      clear hK K
      (try simp only [Act.put, zPA, zPZ, zPS])
      have qd1 := q0.alloc (.cells #[.int .i64 0, .int .i64 0] 41)
      have hb1 := alloc_new d0 (.cells #[.int .i64 0, .int .i64 0] 41)
      have hnp : wb.heap.size ≤ d0.heap.size := q0.size
      have hnz : (d0.alloc (.cells #[.int .i64 0, .int .i64 0] 41)).heap.size = d0.heap.size + 1 := by simp
      obtain ⟨pt, hpt⟩ : ∃ pt, d0.heap.size = pt := ⟨_, rfl⟩
      (try rw [hpt] at hb1)
      (try rw [hpt] at hnp)
      (try rw [hpt])
      (try rw [hpt] at hnz)
      generalize d0.alloc (.cells #[.int .i64 0, .int .i64 0] 41) = d1 at *
      clear hpt
      refine wpAnyH_ready (rs := [8]) (by kernel_rfl) (by simp) ?_
      refine AllReadyH.cons (o := ?_) ?_ ?_ AllReadyH.nil
      rotate_left 1
      (focus (simp only [zGA, zGZ, zGS] <;> rfl))
      intro K hK
      go_simp
      go_at_call 82
      refine (HINS.out _ qd1).mono ?_
      rintro e d2 ⟨rfl, hi1, hi2, hi3⟩
      have q2 := (qd1.mono (T := (fun k => o k = 10 + 2 * t.id ∨ k = pb)) (fun _ _ x => x.elim)).trans hi1
      have hb2 := hi1.get hb1 (fun x => HGN.out _ hnp x)
      have hheap : HeapIs d2 hb pb (fun k => o k = 10 + 2 * t.id ∨ (wb.heap.size ≤ k ∧ k ≠ pt)) H' := hi3.mono (fun k x => by rcases x with x | x; exact Or.inl x; exact Or.inr ⟨by omega, by omega⟩)
      have hpool := hi2
      clear hi1 hi2 hi3
      dsimp only
      refine hK.out _ _ ?_ (fun hHeld => ?_)
      · exact HS5.out _ q2
      clear hK K
      (try simp only [Act.put, zPA, zPZ, zPS])
      have z0 := cell_of hb2 0
      have z1 := cell_of hb2 1
      have zf := fun o => frozen_of hb2 o
      simp only [zGA, zGS, zGZ] at z0 z1
      (refine zTK 9 (oi := ?_) (v := ?_) ?_ ?_ (Or.inl ⟨?_, ?_⟩) ?_; rotate_left 2; (focus (simp only [zGA, zGZ, zGS] <;> rfl)); (focus (exact fun _ _ _ h => h)); (focus rfl); (focus (intro w hSw; (try dsimp only at hSw); go_simp; (try with_reducible rfl); done)); (try simp only [Act.put, zPA, zPZ, zPS]))
      (refine zTK 10 (oi := ?_) (v := ?_) ?_ ?_ (Or.inl ⟨?_, ?_⟩) ?_; rotate_left 2; (focus (simp only [zGA, zGZ, zGS] <;> rfl)); (focus (exact fun _ _ _ h => h)); (focus rfl); (focus (intro w hSw; (try dsimp only at hSw); go_simp; (try with_reducible rfl); done)); (try simp only [Act.put, zPA, zPZ, zPS]))
      (refine zTK 11 (oi := ?_) (v := ?_) ?_ ?_ (Or.inl ⟨?_, ?_⟩) ?_; rotate_left 2; (focus (simp only [zGA, zGZ, zGS] <;> rfl)); (focus (exact fun _ _ _ h => h)); (focus rfl); (focus (intro w hSw; (try dsimp only at hSw); go_simp; (try with_reducible rfl); done)); (try simp only [Act.put, zPA, zPZ, zPS]))
      refine wpAnyH_ready (rs := [13]) (by kernel_rfl) (by simp) ?_
      refine AllReadyH.cons (o := ?_) ?_ ?_ AllReadyH.nil
      rotate_left 1
      (focus (simp only [zGA, zGZ, zGS] <;> rfl))
      intro K hK
      go_simp
      refine hK.out _ _ ?_ (fun hHeld => ?_)
      · exact HS5.out _ (put_leaf q2 hb2 hnp hpool hheap HGN.out (p := p) (q := q)).only
      clear hK K
      (try simp only [Act.put, zPA, zPZ, zPS])
      have HG := (put_leaf q2 hb2 hnp hpool hheap HGN.out (p := p) (q := q))
      (refine zTK 14 (oi := ?_) (v := ?_) ?_ ?_ (Or.inl ⟨?_, ?_⟩) ?_; rotate_left 2; (focus (simp only [zGA, zGZ, zGS] <;> rfl)); (focus (exact fun _ _ _ h => h)); (focus rfl); (focus (intro w hSw; (try dsimp only at hSw); go_simp; (try with_reducible rfl); done)); (try simp only [Act.put, zPA, zPZ, zPS]))
      refine wpAnyH_done (by kernel_rfl) ?_ _
      generalize (d2.setCell ⟨pt, 0, none⟩ (.int .i64 p)).setCell ⟨pt, 1, none⟩ (.int .i64 q) = WF at HG ⊢
      exact KEY _ _ HG
  case key =>
    intro pt W HL0
    have HL := Lib.hid HL0
    clear HL0 HS5 HINS
    have HOW : Hid (Only (fun k => o k = 10 + 2 * t.id ∨ k = pb) w W) := (HQ0.out.mono (fun _ _ x => x.elim)).trans' HL.out.only (fun k _ x => x)
    have HBW : Hid (∀ k, (o k = 10 + 2 * t.id ∨ k = pb) → o k = 10 + 2 * t.id ∨ o k = 4) := fun k x => by rcases x with x | x; exact Or.inl x; rw [x]; exact Or.inr HH.out.tags.2.1
    have HS4 : Hid (∀ W', Quiet W W' → (fun w' => w'.cell? ⟨sb, 1, none⟩ = some (ptrV bb) ∧ w'.cell? ⟨sb, 0, none⟩ = some (ptrV lb) ∧ w'.cell? ⟨r4, 0, none⟩ = some (.int .u64 (t.id : Int))) W') := fun W' hq => by
      have ho := HOW.out.trans' hq (fun k _ x => x.elim)
      have b4 := hq.get (HL.out.only.get HB4.out (fun x => by have := HBIG.out r4 HR6.out.2.1; have := HPB.out; have := HR6.out; rcases x with x | x <;> omega)) (fun x => x)
      have t1 := HH.out.tags.1
      have c := HH.out.cells
      exact ⟨ho.cell c.2.1 (fun x => by have := HBW.out _ x; dsimp only at this; omega), ho.cell c.1 (fun x => by have := HBW.out _ x; dsimp only at this; omega), (tabBox_cells b4).1⟩
    have HKEEP : Hid (∀ W', Quiet W W' → Calls Tryz.prog 83 #[ptrV bb, ptrV lb, .int .u64 (t.id : Int)] W' (NilPost W')) := fun W' hq => by
      have ho := HOW.out.trans' hq (fun k _ x => x.elim)
      have hbk := bookK HH.out.book ho (OwnOn.refl) (by omega) (fun k x => by have := HBW.out _ x; omega)
      rw [HI.out] at hbk
      exact keep_none hbk
    have z0 := cell_of HL.out.box 0
    have z1 := cell_of HL.out.box 1
    have z6 := cell_of (HL.out.only.get HB6.out (fun x => by have := HBIG.out r6 HR6.out.1; have := HPB.out; have := HR6.out; rcases x with x | x <;> omega))
    have y0 := z6 0
    have y1 := z6 1
    have HB6W := Lib.hid (HL.out.only.get HB6.out (fun x => by have := HBIG.out r6 HR6.out.1; have := HPB.out; have := HR6.out; rcases x with x | x <;> omega))
    have yf := fun o => frozen_of HB6W.out o
    simp only [zGA, zGS, zGZ] at z0 z1 y0 y1
    have hlp := lt_of_get HL.out.box
    have hlr := lt_of_get HB6W.out
    have hnr : pt ≠ r6 := fun e => by have := HL.out.new; have := lt_of_get HB6.out; omega
    clear z6
    go_wp2_with fail
    refine wp_region_held_drew (S := (fun w' => w'.cell? ⟨sb, 1, none⟩ = some (ptrV bb) ∧ w'.cell? ⟨sb, 0, none⟩ = some (ptrV lb) ∧ w'.cell? ⟨r4, 0, none⟩ = some (.int .u64 (t.id : Int)))) (by kernel_rfl) (HS4.out _ ((Only.refl _ _).drew)) (fun hHeld => ?_)
    simp only [List.size_toArray, List.length_cons, List.length_nil, Nat.reduceAdd]
    have q6 : Quiet W W.drew := (Only.refl _ _).drew
    generalize W.drew = d6 at q6 hHeld ⊢
    (refine zTK 0 (oi := ?_) (v := ?_) ?_ ?_ (Or.inl ⟨?_, ?_⟩) ?_; rotate_left 2; (focus (simp only [zGA, zGZ, zGS] <;> rfl)); (focus (exact fun _ _ _ h => h)); (focus rfl); (focus (intro w hSw; (try dsimp only at hSw); go_simp; (try with_reducible rfl); done)); (try simp only [Act.put, zPA, zPZ, zPS]))
    (refine zTK 1 (oi := ?_) (v := ?_) ?_ ?_ (Or.inl ⟨?_, ?_⟩) ?_; rotate_left 2; (focus (simp only [zGA, zGZ, zGS] <;> rfl)); (focus (exact fun _ _ _ h => h)); (focus rfl); (focus (intro w hSw; (try dsimp only at hSw); go_simp; (try with_reducible rfl); done)); (try simp only [Act.put, zPA, zPZ, zPS]))
    (refine zTK 2 (oi := ?_) (v := ?_) ?_ ?_ (Or.inl ⟨?_, ?_⟩) ?_; rotate_left 2; (focus (simp only [zGA, zGZ, zGS] <;> rfl)); (focus (exact fun _ _ _ h => h)); (focus rfl); (focus (intro w hSw; (try dsimp only at hSw); go_simp; (try with_reducible rfl); done)); (try simp only [Act.put, zPA, zPZ, zPS]))
    (refine zTK 3 (oi := ?_) (v := ?_) ?_ ?_ (Or.inl ⟨?_, ?_⟩) ?_; rotate_left 2; (focus (simp only [zGA, zGZ, zGS] <;> rfl)); (focus (exact fun _ _ _ h => h)); (focus rfl); (focus (intro w hSw; (try dsimp only at hSw); go_simp; (try with_reducible rfl); done)); (try simp only [Act.put, zPA, zPZ, zPS]))
    (refine zTK 4 (oi := ?_) (v := ?_) ?_ ?_ (Or.inl ⟨?_, ?_⟩) ?_; rotate_left 2; (focus (simp only [zGA, zGZ, zGS] <;> rfl)); (focus (exact fun _ _ _ h => h)); (focus rfl); (focus (intro w hSw; (try dsimp only at hSw); go_simp; (try with_reducible rfl); done)); (try simp only [Act.put, zPA, zPZ, zPS]))
    (refine zTK 5 (oi := ?_) (v := ?_) ?_ ?_ (Or.inl ⟨?_, ?_⟩) ?_; rotate_left 2; (focus (simp only [zGA, zGZ, zGS] <;> rfl)); (focus (exact fun _ _ _ h => h)); (focus rfl); (focus (intro w hSw; (try dsimp only at hSw); go_simp; (try with_reducible rfl); done)); (try simp only [Act.put, zPA, zPZ, zPS]))
    (refine zTK 6 (oi := ?_) (v := ?_) ?_ ?_ (Or.inl ⟨?_, ?_⟩) ?_; rotate_left 2; (focus (simp only [zGA, zGZ, zGS] <;> rfl)); (focus (exact fun _ _ _ h => h)); (focus rfl); (focus (intro w hSw; (try dsimp only at hSw); go_simp; (try with_reducible rfl); done)); (try simp only [Act.put, zPA, zPZ, zPS]))
    (refine zTK 7 (oi := ?_) (v := ?_) ?_ ?_ (Or.inl ⟨?_, ?_⟩) ?_; rotate_left 2; (focus (simp only [zGA, zGZ, zGS] <;> rfl)); (focus (exact fun _ _ _ h => h)); (focus rfl); (focus (intro w hSw; (try dsimp only at hSw); go_simp; (try with_reducible rfl); done)); (try simp only [Act.put, zPA, zPZ, zPS]))
    (refine zTK 8 (oi := ?_) (v := ?_) ?_ ?_ (Or.inl ⟨?_, ?_⟩) ?_; rotate_left 2; (focus (simp only [zGA, zGZ, zGS] <;> rfl)); (focus (exact fun _ _ _ h => h)); (focus rfl); (focus (intro w hSw; (try dsimp only at hSw); go_simp; (try with_reducible rfl); done)); (try simp only [Act.put, zPA, zPZ, zPS]))
    (refine zTK 9 (oi := ?_) (v := ?_) ?_ ?_ (Or.inl ⟨?_, ?_⟩) ?_; rotate_left 2; (focus (simp only [zGA, zGZ, zGS] <;> rfl)); (focus (exact fun _ _ _ h => h)); (focus rfl); (focus (intro w hSw; (try dsimp only at hSw); go_simp; (try with_reducible rfl); done)); (try simp only [Act.put, zPA, zPZ, zPS]))
    (refine zTK 12 (oi := ?_) (v := ?_) ?_ ?_ (Or.inl ⟨?_, ?_⟩) ?_; rotate_left 2; (focus (simp only [zGA, zGZ, zGS] <;> rfl)); (focus (exact fun _ _ _ h => h)); (focus rfl); (focus (intro w hSw; (try dsimp only at hSw); go_simp; (try with_reducible rfl); done)); (try simp only [Act.put, zPA, zPZ, zPS]))
    refine wpAnyH_ready (rs := [10]) (by kernel_rfl) (by simp) ?_
    refine AllReadyH.cons (o := ?_) ?_ ?_ AllReadyH.nil
    rotate_left 1
    (focus (simp only [zGA, zGZ, zGS] <;> rfl))
    intro K hK
    go_simp
    go_at_call 83
    refine (HKEEP.out _ q6).mono ?_
    rintro e d7 ⟨rfl, rfl⟩
    dsimp only
    refine hK.out _ _ ?_ (fun hHeld => ?_)
    · exact HS4.out _ q6
    clear hK K
    (try simp only [Act.put, zPA, zPZ, zPS])
    (refine zTK 11 (oi := ?_) (v := ?_) ?_ ?_ (Or.inl ⟨?_, ?_⟩) ?_; rotate_left 2; (focus (simp only [zGA, zGZ, zGS] <;> rfl)); (focus (exact fun _ _ _ h => h)); (focus rfl); (focus (intro w hSw; (try dsimp only at hSw); go_simp; (try with_reducible rfl); done)); (try simp only [Act.put, zPA, zPZ, zPS]))
    refine wpAnyH_done (by kernel_rfl) ?_ _
    have HD6 : Hid (Quiet W d6) := q6
    have y0' := q6.cell y0 (fun x => x)
    have y1' := q6.cell y1 (fun x => x)
    have z0' := q6.cell z0 (fun x => x)
    have z1' := q6.cell z1 (fun x => x)
    have yf' := fun o => frozen_of (q6.get HB6W.out (fun x => x)) o
    have HX : Hid (((d6.setCell ⟨r6, 0, none⟩ (.int .i64 p)).setCell ⟨r6, 1, none⟩ (.int .i64 q)).heap[r6]? = some (.cells #[.int .i64 p, .int .i64 q] 41 (0, 0))) := two_set (q6.get HB6W.out (fun x => x)) _ _
    have HPO : Hid (PutPost w sb o (putSt s t.id H' left') p q (.returned (.tuple #[.agg #[.int .i64 p, .int .i64 q], .int .i64 0])) ((d6.setCell ⟨r6, 0, none⟩ (.int .i64 p)).setCell ⟨r6, 1, none⟩ (.int .i64 q))) := by
      have h2 := two_only d6 r6 (.int .i64 p) (.int .i64 q)
      have ho := (HOW.out.trans' q6 (fun k _ x => x.elim)).trans' h2 (fun k hk x => by have := HR6.out.1; omega)
      have hpo := (HL.out.pool.kept q6 (fun x => x)).kept h2 (fun x => by have := HPB.out; have := HR6.out.1; omega)
      have hhe := (HL.out.heap.kept q6 (fun _ _ x => x)).kept h2 (fun k x e => by
        have := HBIG.out r6 HR6.out.1
        have := lt_of_get HB6.out
        rcases x with x | x
        · rw [e] at x; omega
        · have := x.1; omega)
      have h3 := HH.out.setHeap (id := t.id) HF.out ho hpo (hhe.mono (fun k x => by
        rcases x with x | x
        · exact Or.inl x
        · exact Or.inr (by have := HQ0.out.size; omega)))
      exact ⟨rfl, _, fun k hk => grow_old hk, ho.mono (fun k _ x => by have := HBW.out k x; omega), _, _, _, _, _, _, _, _, _, h3⟩
    clear hHeld q6 y0 y1 z0 z1 yf HKEEP HS4
    go_wp2_with fail
    refine wp_loop_rounds 1 ?_
    rw [rounds_succ]
    go_wp2
    exact bodyPost_ret (results_cell_tmp Tryz.results40 _ _ r6 _ _ (0, 0) _ (by rfl) HX.out Tryz.underlying41 rfl info_tid) (by rfl) HPO.out

end Go.Proofs.YtmkaomglecfmfaaGreatDoor

namespace Go.Proofs.YtmkaomglecfmfaaGreatDoor
open Go.RowKit Go.Lap

theorem StoreAt.big {w : World} {sb : Nat} {o : Nat → Nat} {s : St} (h : StoreAt w sb o s) : ∀ k, w.heap.size ≤ k → o k = 0 := by
  obtain ⟨lb, bb, pb, mh, mt, ms, fh, ft, fs, h⟩ := h
  exact h.big

theorem StoreAt.cell6 {w : World} {sb : Nat} {o : Nat → Nat} {s : St} (h : StoreAt w sb o s) : w.cell? ⟨sb, 6, none⟩ = some (.int .u64 (s.last : Int)) ∧ o sb = 1 := by
  obtain ⟨lb, bb, pb, mh, mt, ms, fh, ft, fs, h⟩ := h
  exact ⟨h.cells.2.2.2.2.2.2, h.tags.1⟩

set_option maxRecDepth 100000 in
theorem store_nowhere (w : World) : Calls Tryz.prog 41 #[] w fun e w' => e = .returned (.agg #[.int .i64 (-1), .int .i64 (-1)]) ∧ Quiet w w' := by
  go_enter Tryz.func41, Tryz.ntmps41
  go_wp2
  exact bodyPost_ret (v := .agg #[.int .i64 (-1), .int .i64 (-1)]) (by simp [results, Tryz.results41, go_sem]) rfl ⟨rfl, (Only.refl _ _).alloc _⟩

theorem wrapU_of (n : Nat) (h : n < 18446744073709551616) : IntKind.u64.wrap (n : Int) = (n : Int) := by
  simp [IntKind.wrap, IntKind.bits, IntKind.signed]
  omega

theorem rowI_bytes {n : Nat} (hn : n < 256) : ∀ x ∈ rowI n, x < 256 := by
  intro x hx
  unfold rowI smallN at hx
  rcases List.mem_cons.1 hx with e | e
  · omega
  · obtain ⟨i, _, e⟩ := List.mem_map.1 e
    split at e <;> omega

structure InsLeaf (wb W : World) (sb pt : Nat) (p q : Int) (o : Nat → Nat) (s' : St) : Prop where
  only : Only (fun k => o k ≠ 0) wb W
  st : ∃ o', (∀ k, k < wb.heap.size → o' k = o k) ∧ StoreAt W sb o' s' ∧ o' pt = 0
  new : wb.heap.size ≤ pt
  box : W.heap[pt]? = some (.cells #[.int .i64 p, .int .i64 q] 41 (0, 0))

theorem ins_leaf {wb w1 : World} {pt sb : Nat} {p q : Int} {c0 c1 : Value} {o o2 : Nat → Nat} {s' : St} (hq : Only (fun k => o k ≠ 0) wb w1) (hn : wb.heap.size ≤ pt) (h1 : w1.heap[pt]? = some (.cells #[c0, c1] 41 (0, 0))) (hst : StoreAt w1 sb o2 s') (hop : o2 pt = 0) (ho : ∀ k, k < wb.heap.size → o2 k = o k) :
    InsLeaf wb ((w1.setCell ⟨pt, 0, none⟩ (.int .i64 p)).setCell ⟨pt, 1, none⟩ (.int .i64 q)) sb pt p q o s' := by
  have h2 := two_only w1 pt (.int .i64 p) (.int .i64 q)
  exact ⟨hq.trans' h2 (fun k hk e => by omega), ⟨o2, ho, hst.kept h2 (fun k e => by rw [e]; exact hop), hop⟩, hn, two_set h1 _ _⟩

theorem last_cell {W : World} {sb a b : Nat} (h : a = b) (x : W.cell? ⟨sb, 6, none⟩ = some (.int .u64 (a : Int))) : W.cell? ⟨sb, 6, none⟩ = some (.int .u64 (b : Int)) := by rw [← h]; exact x

theorem InsLeaf.cell6 {wb W : World} {sb pt : Nat} {p q : Int} {o : Nat → Nat} {s' : St} (h : InsLeaf wb W sb pt p q o s') : W.cell? ⟨sb, 6, none⟩ = some (.int .u64 (s'.last : Int)) := by
  obtain ⟨o', _, h1, _⟩ := h.st
  exact h1.cell6.1

theorem ins_key {goal : Prop} {wb : World} {sb : Nat} {p q : Int} {o : Nat → Nat} {s' : St} {G : Nat → World → Prop} (main : (∀ pt W, InsLeaf wb W sb pt p q o s' → G pt W) → goal) (key : ∀ pt W, InsLeaf wb W sb pt p q o s' → G pt W) : goal := main key

/-- A row more. -/
def insSt (s : St) (id : Nat) (H' : List (List (Option Tup))) (left' : Nat) : St := { s with left := left', hs := upd s.hs id (some H'), last := s.last + 1 }

def StoreInsPost (w : World) (sb : Nat) (o : Nat → Nat) (s' : St) (e : Ending) (w' : World) : Prop := e = .returned (.int .i64 0) ∧ StepTo w sb o s' w'

set_option maxHeartbeats 4000000 in
set_option maxRecDepth 100000 in
theorem store_insert_of {w : World} {sb x i c3 n : Nat} {o : Nat → Nat} {s s1 : St} {y : Snap} {t : TE} {name nm : ByteArray} {Sv : Nat → Prop} {A3 : Option Addr} {p q : Int} (h : StoreAt w sb o s) (hx : U64 x) (hy : s.sn x = some y) (hf : findT s.L y name s.T = some i) (ht : s.T[i]? = some t) (hc : t.cols = [(nm, 1)])
    (hn : n < 256) (hv : Rd w Sv 4 A3 1 (intRow n)) (hc3 : 1 ≤ c3) (hm3 : c3 ≤ maxLen) (hlast : s.last + 1 < 18446744073709551616) (hl1 : s1.last = s.last)
    (hput : ∀ (W : World) (A2 : Option Addr) (c2 : Nat) (A5 : Option Addr) (c5 : Nat), Quiet w W → Rd W (fun k => w.heap.size ≤ k) 2 A2 t.cols.length (colsV t.cols) → t.cols.length ≤ c2 → c2 ≤ maxLen → Rd W (fun k => w.heap.size ≤ k) 1 A5 9 (bytesV (rowI n)) → 9 ≤ c5 → c5 ≤ maxLen →
      Calls Tryz.prog 40 #[ptrV sb, tabV t A2 c2, tupV ⟨s.last + 1, x, 0, -1, -1, rowI n⟩ A5 c5] W (PutPost W sb o s1 p q)) :
    Calls Tryz.prog 14 #[ptrV sb, .int .u64 (x : Int), .string name, .slice A3 1 c3] w (StoreInsPost w sb o { s1 with last := s.last + 1 }) := by
  have HO := Lib.hid (store_open h hx hy hf ht)
  have HH := Lib.hid h
  have HC := Lib.hid hc
  have HL1 := Lib.hid hl1
  have HPU := Lib.hid hput
  have HN := Lib.hid hn
  have HV := Lib.hid hv
  have HC3 := Lib.hid (And.intro hc3 hm3)
  obtain ⟨ln, hln⟩ : ∃ ln, s.last + 1 = ln := ⟨_, rfl⟩
  rw [hln] at hlast
  have HLN := Lib.hid hln
  have HLA := Lib.hid hlast
  have en : ((s.last : Int) + 1) = (ln : Int) := by rw [← hln]; omega
  have hw : IntKind.u64.wrap (ln : Int) = (ln : Int) := wrapU_of ln hlast
  have HW := Lib.hid hw
  have HEN := Lib.hid en
  clear h hx hy hf ht hc hn hv hc3 hm3 hlast hln hw en hl1 hput
  go_enter Tryz.func14, Tryz.ntmps14
  go_wp2_with fail
  refine HO.out.mono ?_
  rintro e w1 ⟨A, c, A2, c2, rfl, hq1, hs1, hf1, hc2, hm2⟩
  clear HO
  have HQ1 := Lib.hid hq1
  have HF1 := Lib.hid hf1
  have HC2 := Lib.hid (And.intro hc2 hm2)
  have q2 : Quiet w1 ((w1.alloc (.cells (snapCells y A c) 70)).alloc (.cells #[.int .u64 (t.id : Int), .string t.name, .slice A2 t.cols.length c2, .int .u64 (t.xmin : Int), .int .u64 (t.xmax : Int)] 86)) := ((Only.refl _ _).alloc _).alloc _
  have b10 := two_new w1 (.cells (snapCells y A c) 70) (.cells #[.int .u64 (t.id : Int), .string t.name, .slice A2 t.cols.length c2, .int .u64 (t.xmin : Int), .int .u64 (t.xmax : Int)] 86)
  have HQ2 := Lib.hid q2
  have HB10 := Lib.hid b10
  obtain ⟨r9, hr9⟩ : ∃ r9, w1.heap.size = r9 := ⟨_, rfl⟩
  obtain ⟨r10, hr10⟩ : ∃ r10, r9 + 1 = r10 := ⟨_, rfl⟩
  rw [hr9] at HB10
  rw [hr10] at HB10
  have HR10 : Hid (w1.heap.size ≤ r10) := by show _ ≤ _; omega
  have HE9 := Lib.hid hr9
  have HE10 := Lib.hid hr10
  clear hq1 hs1 hf1 hc2 hm2 q2 b10 hr9 hr10
  unfold snapV tabV
  go_wp2_with fail
  (try simp only [World.size_alloc])
  rw [HE9.out, HE10.out]
  generalize (w1.alloc (.cells #[.int .u64 (y.own : Int), .int .u64 (y.xmin : Int), .int .u64 (y.xmax : Int), .slice A y.run.length c] 70)).alloc (.cells #[.int .u64 (t.id : Int), .string t.name, .slice A2 t.cols.length c2, .int .u64 (t.xmin : Int), .int .u64 (t.xmax : Int)] 86) = w2 at *
  have HKND : Hid (Calls Tryz.prog 38 #[tabV t A2 c2] w2 (KindsPost w2 1)) := by
    obtain ⟨A', c', e', h1, h2, h3⟩ := own_form HF1.out.own
    injection e' with e1 _ e2
    subst e1 e2
    have h4 := h3.kept HQ2.out (fun _ _ x => x)
    have h5 := HC2.out
    rw [HC.out] at h4 h5
    exact store_kinds HC.out h4 h5.1 h5.2
  unfold tabV at HKND
  refine HKND.out.mono ?_
  rintro e w3 ⟨v3, rfl, hf3⟩
  obtain ⟨A9, c9, rfl, hc9, hm9, hrd9⟩ := own_form hf3.own
  have HQ3 : Hid (Quiet w2 w3) := hf3.quiet
  have HQV : Hid (Quiet w w3) := (HQ1.out.trans HQ2.out).trans HQ3.out
  have HRB := Lib.hid (row_bytes_int HN.out (by exact hrd9) (HV.out.kept HQV.out (fun _ _ x => x)) hc9 hm9 HC3.out.1 HC3.out.2)
  clear hf3 hc9 hm9 hrd9 HKND
  go_wp2_with fail
  refine HRB.out.mono ?_
  rintro e wb ⟨v5, rfl, hf5⟩
  obtain ⟨A5, c5, rfl, hc5, hm5, hrd5⟩ := own_form hf5.own
  have h9 : (rowI n).length = 9 := rowI_length n
  have HQB : Hid (Quiet w wb) := HQV.out.trans hf5.quiet
  have HQ35 : Hid (Quiet w3 wb) := hf5.quiet
  have HB10b := Lib.hid (hf5.quiet.get (HQ3.out.get HB10.out (fun x => x)) (fun x => x))
  have HRD5 := Lib.hid hrd5
  have HNEW5 : Hid (∀ k, (Value.slice A5 (rowI n).length c5).ownBlock = some k → w.heap.size ≤ k) := fun k e => Nat.le_trans HQV.out.size (hf5.new k e)
  have HHB := Lib.hid (HH.out.quietly HQB.out)
  have HBZ : Hid (∀ k, wb.heap.size ≤ k → o k = 0) := HHB.out.big
  have HBG : Hid (∀ k, wb.heap.size ≤ k → ¬ o k ≠ 0) := fun k hk e => e (HBZ.out k hk)
  have hx10 : o r10 = 0 := HH.out.big r10 (by have := HQ1.out.size; have := HR10.out; omega)
  have HX10 : Hid (¬ o r10 ≠ 0) := fun e => e hx10
  have HS7 : Hid (∀ W, Only (fun k => o k ≠ 0) wb W → W.cell? ⟨sb, 6, none⟩ = some (.int .u64 (s.last : Int)) → (fun w' => w'.cell? ⟨sb, 6, none⟩ = some (.int .u64 (s.last : Int)) ∧ w'.cell? ⟨r10, 0, none⟩ = some (.int .u64 (t.id : Int)) ∧ w'.cell? ⟨r10, 1, none⟩ = some (.string t.name) ∧ w'.cell? ⟨r10, 2, none⟩ = some (.slice A2 t.cols.length c2) ∧ w'.cell? ⟨r10, 3, none⟩ = some (.int .u64 (t.xmin : Int)) ∧ w'.cell? ⟨r10, 4, none⟩ = some (.int .u64 (t.xmax : Int))) W) := fun W hq h6 => by
    have b := tabBox_cells (hq.get HB10b.out HX10.out)
    exact ⟨h6, b⟩
  have HC6 := Lib.hid HHB.out.cell6.1
  have HPUT : Hid (∀ W, Quiet wb W → Calls Tryz.prog 40 #[ptrV sb, .agg #[.int .u64 (t.id : Int), .string t.name, .slice A2 t.cols.length c2, .int .u64 (t.xmin : Int), .int .u64 (t.xmax : Int)], .agg #[.int .u64 (ln : Int), .int .u64 (x : Int), .int .u64 0, .int .i64 (-1), .int .i64 (-1), .slice A5 9 c5]] W (PutPost W sb o s1 p q)) := fun W hq => by
    obtain ⟨A', c', e', h1, h2, h3⟩ := own_form HF1.out.own
    injection e' with e1 _ e2
    subst e1 e2
    have hp := HPU.out W A2 c2 A5 c5 (HQB.out.trans hq) ((((h3.kept HQ2.out (fun _ _ x => x)).kept (HQ3.out.trans HQ35.out) (fun _ _ x => x)).kept hq (fun _ _ x => x)).mono (fun k e => HF1.out.new k e)) HC2.out.1 HC2.out.2 (by have := (HRD5.out.kept hq (fun _ _ x => x)).mono (T := fun k => w.heap.size ≤ k) (fun k e => HNEW5.out k e); rw [rowI_length] at this; exact this) (by have := hc5; rw [rowI_length] at this; exact this) hm5
    rw [HLN.out] at hp
    unfold tabV tupV at hp
    dsimp only at hp
    rw [rowI_length] at hp
    exact hp
  clear hf5 hrd5 hc5 hm5 hx10 HRB
  go_wp2_with fail
  apply ins_key (wb := wb) (sb := sb) (p := p) (q := q) (o := o) (s' := s1)
  case main =>
      intro KEY
      have hw := HW.out
      have en := HEN.out
      refine wp_region_held_drew (S := (fun w' => w'.cell? ⟨sb, 6, none⟩ = some (.int .u64 (s.last : Int)) ∧ w'.cell? ⟨r10, 0, none⟩ = some (.int .u64 (t.id : Int)) ∧ w'.cell? ⟨r10, 1, none⟩ = some (.string t.name) ∧ w'.cell? ⟨r10, 2, none⟩ = some (.slice A2 t.cols.length c2) ∧ w'.cell? ⟨r10, 3, none⟩ = some (.int .u64 (t.xmin : Int)) ∧ w'.cell? ⟨r10, 4, none⟩ = some (.int .u64 (t.xmax : Int)))) (by kernel_rfl) (HS7.out _ ((Only.refl _ _).drew) (((Only.refl (fun _ => False) wb).drew).cell HC6.out (fun x => x))) (fun hHeld => ?_)
      simp only [List.size_toArray, List.length_cons, List.length_nil, Nat.reduceAdd]
      have q0 : Quiet wb wb.drew := (Only.refl _ _).drew
      generalize wb.drew = d0 at q0 hHeld ⊢
      (refine zTK 0 (oi := ?_) (v := ?_) ?_ ?_ (Or.inl ⟨?_, ?_⟩) ?_; rotate_left 2; (focus (simp only [zGA, zGZ, zGS] <;> rfl)); (focus (exact fun _ _ _ h => h)); (focus rfl); (focus (intro w hSw; (try dsimp only at hSw); go_simp; (try with_reducible rfl); done)); (try simp only [Act.put, zPA, zPZ, zPS]))
      (refine zTK 1 (oi := ?_) (v := ?_) ?_ ?_ (Or.inl ⟨?_, ?_⟩) ?_; rotate_left 2; (focus (simp only [zGA, zGZ, zGS] <;> rfl)); (focus (exact fun _ _ _ h => h)); (focus rfl); (focus (intro w hSw; (try dsimp only at hSw); go_simp; (try with_reducible rfl); done)); (try simp only [Act.put, zPA, zPZ, zPS]))
      (refine zTK 2 (oi := ?_) (v := ?_) ?_ ?_ (Or.inl ⟨?_, ?_⟩) ?_; rotate_left 2; (focus (simp only [zGA, zGZ, zGS] <;> rfl)); (focus (exact fun _ _ _ h => h)); (focus rfl); (focus (intro w hSw; (try dsimp only at hSw); go_simp; (try with_reducible rfl); done)); (try simp only [Act.put, zPA, zPZ, zPS]))
      (refine zTK 3 (oi := ?_) (v := ?_) ?_ ?_ (Or.inl ⟨?_, ?_⟩) ?_; rotate_left 2; (focus (simp only [zGA, zGZ, zGS] <;> rfl)); (focus (exact fun _ _ _ h => h)); (focus rfl); (focus (intro w hSw; (try dsimp only at hSw); go_simp; (try with_reducible rfl); done)); (try simp only [Act.put, zPA, zPZ, zPS]))
      (refine zTK 4 (oi := ?_) (v := ?_) ?_ ?_ (Or.inl ⟨?_, ?_⟩) ?_; rotate_left 2; (focus (simp only [zGA, zGZ, zGS] <;> rfl)); (focus (exact fun _ _ _ h => h)); (focus rfl); (focus (intro w hSw; (try dsimp only at hSw); go_simp; (try with_reducible rfl); done)); (try simp only [Act.put, zPA, zPZ, zPS]))
      (refine zTK 5 (oi := ?_) (v := ?_) ?_ ?_ (Or.inl ⟨?_, ?_⟩) ?_; rotate_left 2; (focus (simp only [zGA, zGZ, zGS] <;> rfl)); (focus (exact fun _ _ _ h => h)); (focus rfl); (focus (intro w hSw; (try dsimp only at hSw); go_simp; (try with_reducible rfl); done)); (try simp only [Act.put, zPA, zPZ, zPS]))
      (refine zTK 6 (oi := ?_) (v := ?_) ?_ ?_ (Or.inl ⟨?_, ?_⟩) ?_; rotate_left 2; (focus (simp only [zGA, zGZ, zGS] <;> rfl)); (focus (exact fun _ _ _ h => h)); (focus rfl); (focus (intro w hSw; (try dsimp only at hSw); go_simp; (try with_reducible rfl); done)); (try simp only [Act.put, zPA, zPZ, zPS]))
      (refine zTK 7 (oi := ?_) (v := ?_) ?_ ?_ (Or.inl ⟨?_, ?_⟩) ?_; rotate_left 2; (focus (simp only [zGA, zGZ, zGS] <;> rfl)); (focus (exact fun _ _ _ h => h)); (focus rfl); (focus (intro w hSw; (try dsimp only at hSw); go_simp; (try with_reducible rfl); done)); (try simp only [Act.put, zPA, zPZ, zPS]))
      (refine zTK 9 (oi := ?_) (v := ?_) ?_ ?_ (Or.inl ⟨?_, ?_⟩) ?_; rotate_left 2; (focus (simp only [zGA, zGZ, zGS] <;> rfl)); (focus (exact fun _ _ _ h => h)); (focus rfl); (focus (intro w hSw; (try dsimp only at hSw); go_simp; (try with_reducible rfl); done)); (try simp only [Act.put, zPA, zPZ, zPS]))
      refine wpAnyH_ready (rs := [8, 15]) (by kernel_rfl) (by simp) ?_
      refine AllReadyH.cons (o := ?_) ?_ ?_ ?_
      rotate_left 1
      (focus (simp only [zGA, zGZ, zGS] <;> rfl))
      · intro K hK
        go_simp
        go_at_call 41
        refine (store_nowhere _).mono ?_
        rintro e d1 ⟨rfl, hqn⟩
        have q1 := q0.trans hqn
        clear hqn
        dsimp only
        refine hK.out _ _ ?_ (fun hHeld => ?_)
        · exact HS7.out _ (q1.mono (fun _ _ x => x.elim)) (q1.cell HC6.out (fun x => x))
        clear hK K
        (try simp only [Act.put, zPA, zPZ, zPS])
        (refine zTK 10 (oi := ?_) (v := ?_) ?_ ?_ (Or.inl ⟨?_, ?_⟩) ?_; rotate_left 2; (focus (simp only [zGA, zGZ, zGS] <;> rfl)); (focus (exact fun _ _ _ h => h)); (focus rfl); (focus (intro w hSw; (try dsimp only at hSw); go_simp; (try with_reducible rfl); done)); (try simp only [Act.put, zPA, zPZ, zPS]))
        refine wpAnyH_ready (rs := [11, 15]) (by kernel_rfl) (by simp) ?_
        refine AllReadyH.cons (o := ?_) ?_ ?_ ?_
        rotate_left 1
        (focus (simp only [zGA, zGZ, zGS] <;> rfl))
        · intro K hK
          go_simp
          go_at_call 40
          refine (HPUT.out _ q1).mono ?_
          rintro e d2 ⟨rfl, o2, ho2, hw2, hst2⟩
          have q2 := (q1.mono (T := (fun k => o k ≠ 0)) (fun _ _ x => x.elim)).trans hw2
          have hz2 := q1.size
          have ho3 : ∀ k, k < wb.heap.size → o2 k = o k := fun k hk => ho2 k (by omega)
          clear ho2 hw2 hz2
          dsimp only
          refine hK.out _ _ ?_ (fun hHeld => ?_)
          · exact HS7.out _ q2 (last_cell HL1.out hst2.cell6.1)
          clear hK K
          (try simp only [Act.put, zPA, zPZ, zPS])
          (refine zTK 12 (oi := ?_) (v := ?_) ?_ ?_ (Or.inl ⟨?_, ?_⟩) ?_; rotate_left 2; (focus (simp only [zGA, zGZ, zGS] <;> rfl)); (focus (exact fun _ _ _ h => h)); (focus rfl); (focus (intro w hSw; (try dsimp only at hSw); go_simp; (try with_reducible rfl); done)); (try simp only [Act.put, zPA, zPZ, zPS]))
          (refine zTK 13 (oi := ?_) (v := ?_) ?_ ?_ (Or.inl ⟨?_, ?_⟩) ?_; rotate_left 2; (focus (simp only [zGA, zGZ, zGS] <;> rfl)); (focus (exact fun _ _ _ h => h)); (focus rfl); (focus (intro w hSw; (try dsimp only at hSw); go_simp; (try with_reducible rfl); done)); (try simp only [Act.put, zPA, zPZ, zPS]))
          (refine zTK 14 (oi := ?_) (v := ?_) ?_ ?_ (Or.inl ⟨?_, ?_⟩) ?_; rotate_left 2; (focus (simp only [zGA, zGZ, zGS] <;> rfl)); (focus (exact fun _ _ _ h => h)); (focus rfl); (focus (intro w hSw; (try dsimp only at hSw); go_simp; (try with_reducible rfl); done)); (try simp only [Act.put, zPA, zPZ, zPS]))
          refine wpAnyH_ready (rs := [15]) (by kernel_rfl) (by simp) ?_
          refine AllReadyH.cons (o := ?_) ?_ ?_ AllReadyH.nil
          rotate_left 1
          (focus (simp only [zGA, zGZ, zGS] <;> rfl))
          intro K hK
          go_simp
          refine hK.out _ _ ?_ (fun hHeld => ?_)
          · exact HS7.out _ (q2.alloc _) (((Only.refl (fun _ => False) d2).alloc _).cell (last_cell HL1.out hst2.cell6.1) (fun x => x))
          clear hK K
          (try simp only [Act.put, zPA, zPZ, zPS])
          have hbig2 := StoreAt.big hst2
          have qe2 := q2.alloc (.cells #[.int .i64 0, .int .i64 0] 41)
          have hb1 := alloc_new d2 (.cells #[.int .i64 0, .int .i64 0] 41)
          have hnp : wb.heap.size ≤ d2.heap.size := q2.size
          have hst2 := hst2.quietly ((Only.refl (fun _ => False) d2).alloc (.cells #[.int .i64 0, .int .i64 0] 41))
          have hop : o2 d2.heap.size = 0 := hbig2 _ (Nat.le_refl _)
          obtain ⟨pt, hpt⟩ : ∃ pt, d2.heap.size = pt := ⟨_, rfl⟩
          (try rw [hpt] at hb1)
          (try rw [hpt] at hnp)
          (try rw [hpt])
          (try rw [hpt] at hop)
          generalize d2.alloc (.cells #[.int .i64 0, .int .i64 0] 41) = e2 at *
          clear hpt
          have z0 := cell_of hb1 0
          have z1 := cell_of hb1 1
          have zf := fun o => frozen_of hb1 o
          simp only [zGA, zGS, zGZ] at z0 z1
          refine wpAnyH_ready (rs := [16]) (by kernel_rfl) (by simp) ?_
          refine AllReadyH.cons (o := ?_) ?_ ?_ AllReadyH.nil
          rotate_left 1
          (focus (simp only [zGA, zGZ, zGS] <;> rfl))
          intro K hK
          go_simp
          refine hK.out _ _ ?_ (fun hHeld => ?_)
          · exact HS7.out _ (ins_leaf qe2 hnp hb1 hst2 hop ho3 (p := p) (q := q)).only (last_cell HL1.out (ins_leaf qe2 hnp hb1 hst2 hop ho3 (p := p) (q := q)).cell6)
          clear hK K
          (try simp only [Act.put, zPA, zPZ, zPS])
          have HG := (ins_leaf qe2 hnp hb1 hst2 hop ho3 (p := p) (q := q))
          (refine zTK 17 (oi := ?_) (v := ?_) ?_ ?_ (Or.inl ⟨?_, ?_⟩) ?_; rotate_left 2; (focus (simp only [zGA, zGZ, zGS] <;> rfl)); (focus (exact fun _ _ _ h => h)); (focus rfl); (focus (intro w hSw; (try dsimp only at hSw); go_simp; (try with_reducible rfl); done)); (try simp only [Act.put, zPA, zPZ, zPS]))
          refine wpAnyH_done (by kernel_rfl) ?_ _
          generalize (e2.setCell ⟨pt, 0, none⟩ (.int .i64 p)).setCell ⟨pt, 1, none⟩ (.int .i64 q) = WF at HG ⊢
          exact KEY _ _ HG
        refine AllReadyH.cons (o := ?_) ?_ ?_ AllReadyH.nil
        rotate_left 1
        (focus (simp only [zGA, zGZ, zGS] <;> rfl))
        intro K hK
        go_simp
        refine hK.out _ _ ?_ (fun hHeld => ?_)
        · exact HS7.out _ ((q1.alloc _).mono (fun _ _ x => x.elim)) ((q1.alloc _).cell HC6.out (fun x => x))
        clear hK K
        (try simp only [Act.put, zPA, zPZ, zPS])
        have qe1 := q1.alloc (.cells #[.int .i64 0, .int .i64 0] 41)
        have hb1 := alloc_new d1 (.cells #[.int .i64 0, .int .i64 0] 41)
        have hnp : wb.heap.size ≤ d1.heap.size := q1.size
        obtain ⟨pt, hpt⟩ : ∃ pt, d1.heap.size = pt := ⟨_, rfl⟩
        (try rw [hpt] at hb1)
        (try rw [hpt] at hnp)
        (try rw [hpt])
        generalize d1.alloc (.cells #[.int .i64 0, .int .i64 0] 41) = e1 at *
        clear hpt
        refine wpAnyH_ready (rs := [11]) (by kernel_rfl) (by simp) ?_
        refine AllReadyH.cons (o := ?_) ?_ ?_ AllReadyH.nil
        rotate_left 1
        (focus (simp only [zGA, zGZ, zGS] <;> rfl))
        intro K hK
        go_simp
        go_at_call 40
        refine (HPUT.out _ qe1).mono ?_
        rintro e d2 ⟨rfl, o2, ho2, hw2, hst2⟩
        have q2 := (qe1.mono (T := (fun k => o k ≠ 0)) (fun _ _ x => x.elim)).trans hw2
        have hz2 := qe1.size
        have hb2 := hw2.get hb1 (HBG.out _ hnp)
        have hop : o2 pt = 0 := by rw [ho2 pt (lt_of_get hb1)]; exact HBZ.out _ hnp
        have ho3 : ∀ k, k < wb.heap.size → o2 k = o k := fun k hk => ho2 k (by omega)
        clear ho2 hw2 hz2
        dsimp only
        refine hK.out _ _ ?_ (fun hHeld => ?_)
        · exact HS7.out _ q2 (last_cell HL1.out hst2.cell6.1)
        clear hK K
        (try simp only [Act.put, zPA, zPZ, zPS])
        have z0 := cell_of hb2 0
        have z1 := cell_of hb2 1
        have zf := fun o => frozen_of hb2 o
        simp only [zGA, zGS, zGZ] at z0 z1
        (refine zTK 12 (oi := ?_) (v := ?_) ?_ ?_ (Or.inl ⟨?_, ?_⟩) ?_; rotate_left 2; (focus (simp only [zGA, zGZ, zGS] <;> rfl)); (focus (exact fun _ _ _ h => h)); (focus rfl); (focus (intro w hSw; (try dsimp only at hSw); go_simp; (try with_reducible rfl); done)); (try simp only [Act.put, zPA, zPZ, zPS]))
        (refine zTK 13 (oi := ?_) (v := ?_) ?_ ?_ (Or.inl ⟨?_, ?_⟩) ?_; rotate_left 2; (focus (simp only [zGA, zGZ, zGS] <;> rfl)); (focus (exact fun _ _ _ h => h)); (focus rfl); (focus (intro w hSw; (try dsimp only at hSw); go_simp; (try with_reducible rfl); done)); (try simp only [Act.put, zPA, zPZ, zPS]))
        (refine zTK 14 (oi := ?_) (v := ?_) ?_ ?_ (Or.inl ⟨?_, ?_⟩) ?_; rotate_left 2; (focus (simp only [zGA, zGZ, zGS] <;> rfl)); (focus (exact fun _ _ _ h => h)); (focus rfl); (focus (intro w hSw; (try dsimp only at hSw); go_simp; (try with_reducible rfl); done)); (try simp only [Act.put, zPA, zPZ, zPS]))
        refine wpAnyH_ready (rs := [16]) (by kernel_rfl) (by simp) ?_
        refine AllReadyH.cons (o := ?_) ?_ ?_ AllReadyH.nil
        rotate_left 1
        (focus (simp only [zGA, zGZ, zGS] <;> rfl))
        intro K hK
        go_simp
        refine hK.out _ _ ?_ (fun hHeld => ?_)
        · exact HS7.out _ (ins_leaf q2 hnp hb2 hst2 hop ho3 (p := p) (q := q)).only (last_cell HL1.out (ins_leaf q2 hnp hb2 hst2 hop ho3 (p := p) (q := q)).cell6)
        clear hK K
        (try simp only [Act.put, zPA, zPZ, zPS])
        have HG := (ins_leaf q2 hnp hb2 hst2 hop ho3 (p := p) (q := q))
        (refine zTK 17 (oi := ?_) (v := ?_) ?_ ?_ (Or.inl ⟨?_, ?_⟩) ?_; rotate_left 2; (focus (simp only [zGA, zGZ, zGS] <;> rfl)); (focus (exact fun _ _ _ h => h)); (focus rfl); (focus (intro w hSw; (try dsimp only at hSw); go_simp; (try with_reducible rfl); done)); (try simp only [Act.put, zPA, zPZ, zPS]))
        refine wpAnyH_done (by kernel_rfl) ?_ _
        generalize (d2.setCell ⟨pt, 0, none⟩ (.int .i64 p)).setCell ⟨pt, 1, none⟩ (.int .i64 q) = WF at HG ⊢
        exact KEY _ _ HG
      refine AllReadyH.cons (o := ?_) ?_ ?_ AllReadyH.nil
      rotate_left 1
      (focus (simp only [zGA, zGZ, zGS] <;> rfl))
      intro K hK
      go_simp
      refine hK.out _ _ ?_ (fun hHeld => ?_)
      · exact HS7.out _ ((q0.alloc _).mono (fun _ _ x => x.elim)) ((q0.alloc _).cell HC6.out (fun x => x))
      clear hK K
      (try simp only [Act.put, zPA, zPZ, zPS])
      have qe0 := q0.alloc (.cells #[.int .i64 0, .int .i64 0] 41)
      have hb1 := alloc_new d0 (.cells #[.int .i64 0, .int .i64 0] 41)
      have hnp : wb.heap.size ≤ d0.heap.size := q0.size
      obtain ⟨pt, hpt⟩ : ∃ pt, d0.heap.size = pt := ⟨_, rfl⟩
      (try rw [hpt] at hb1)
      (try rw [hpt] at hnp)
      (try rw [hpt])
      generalize d0.alloc (.cells #[.int .i64 0, .int .i64 0] 41) = e0 at *
      clear hpt
      refine wpAnyH_ready (rs := [8]) (by kernel_rfl) (by simp) ?_
      refine AllReadyH.cons (o := ?_) ?_ ?_ AllReadyH.nil
      rotate_left 1
      (focus (simp only [zGA, zGZ, zGS] <;> rfl))
      intro K hK
      go_simp
      go_at_call 41
      refine (store_nowhere _).mono ?_
      rintro e d1 ⟨rfl, hqn⟩
      have q1 := qe0.trans hqn
      have hbq := hqn.get hb1 (fun x => x)
      clear hb1
      have hb1 := hbq
      clear hbq
      clear hqn
      dsimp only
      refine hK.out _ _ ?_ (fun hHeld => ?_)
      · exact HS7.out _ (q1.mono (fun _ _ x => x.elim)) (q1.cell HC6.out (fun x => x))
      clear hK K
      (try simp only [Act.put, zPA, zPZ, zPS])
      (refine zTK 10 (oi := ?_) (v := ?_) ?_ ?_ (Or.inl ⟨?_, ?_⟩) ?_; rotate_left 2; (focus (simp only [zGA, zGZ, zGS] <;> rfl)); (focus (exact fun _ _ _ h => h)); (focus rfl); (focus (intro w hSw; (try dsimp only at hSw); go_simp; (try with_reducible rfl); done)); (try simp only [Act.put, zPA, zPZ, zPS]))
      refine wpAnyH_ready (rs := [11]) (by kernel_rfl) (by simp) ?_
      refine AllReadyH.cons (o := ?_) ?_ ?_ AllReadyH.nil
      rotate_left 1
      (focus (simp only [zGA, zGZ, zGS] <;> rfl))
      intro K hK
      go_simp
      go_at_call 40
      refine (HPUT.out _ q1).mono ?_
      rintro e d2 ⟨rfl, o2, ho2, hw2, hst2⟩
      have q2 := (q1.mono (T := (fun k => o k ≠ 0)) (fun _ _ x => x.elim)).trans hw2
      have hz2 := q1.size
      have hb2 := hw2.get hb1 (HBG.out _ hnp)
      have hop : o2 pt = 0 := by rw [ho2 pt (lt_of_get hb1)]; exact HBZ.out _ hnp
      have ho3 : ∀ k, k < wb.heap.size → o2 k = o k := fun k hk => ho2 k (by omega)
      clear ho2 hw2 hz2
      dsimp only
      refine hK.out _ _ ?_ (fun hHeld => ?_)
      · exact HS7.out _ q2 (last_cell HL1.out hst2.cell6.1)
      clear hK K
      (try simp only [Act.put, zPA, zPZ, zPS])
      have z0 := cell_of hb2 0
      have z1 := cell_of hb2 1
      have zf := fun o => frozen_of hb2 o
      simp only [zGA, zGS, zGZ] at z0 z1
      (refine zTK 12 (oi := ?_) (v := ?_) ?_ ?_ (Or.inl ⟨?_, ?_⟩) ?_; rotate_left 2; (focus (simp only [zGA, zGZ, zGS] <;> rfl)); (focus (exact fun _ _ _ h => h)); (focus rfl); (focus (intro w hSw; (try dsimp only at hSw); go_simp; (try with_reducible rfl); done)); (try simp only [Act.put, zPA, zPZ, zPS]))
      (refine zTK 13 (oi := ?_) (v := ?_) ?_ ?_ (Or.inl ⟨?_, ?_⟩) ?_; rotate_left 2; (focus (simp only [zGA, zGZ, zGS] <;> rfl)); (focus (exact fun _ _ _ h => h)); (focus rfl); (focus (intro w hSw; (try dsimp only at hSw); go_simp; (try with_reducible rfl); done)); (try simp only [Act.put, zPA, zPZ, zPS]))
      (refine zTK 14 (oi := ?_) (v := ?_) ?_ ?_ (Or.inl ⟨?_, ?_⟩) ?_; rotate_left 2; (focus (simp only [zGA, zGZ, zGS] <;> rfl)); (focus (exact fun _ _ _ h => h)); (focus rfl); (focus (intro w hSw; (try dsimp only at hSw); go_simp; (try with_reducible rfl); done)); (try simp only [Act.put, zPA, zPZ, zPS]))
      refine wpAnyH_ready (rs := [16]) (by kernel_rfl) (by simp) ?_
      refine AllReadyH.cons (o := ?_) ?_ ?_ AllReadyH.nil
      rotate_left 1
      (focus (simp only [zGA, zGZ, zGS] <;> rfl))
      intro K hK
      go_simp
      refine hK.out _ _ ?_ (fun hHeld => ?_)
      · exact HS7.out _ (ins_leaf q2 hnp hb2 hst2 hop ho3 (p := p) (q := q)).only (last_cell HL1.out (ins_leaf q2 hnp hb2 hst2 hop ho3 (p := p) (q := q)).cell6)
      clear hK K
      (try simp only [Act.put, zPA, zPZ, zPS])
      have HG := (ins_leaf q2 hnp hb2 hst2 hop ho3 (p := p) (q := q))
      (refine zTK 17 (oi := ?_) (v := ?_) ?_ ?_ (Or.inl ⟨?_, ?_⟩) ?_; rotate_left 2; (focus (simp only [zGA, zGZ, zGS] <;> rfl)); (focus (exact fun _ _ _ h => h)); (focus rfl); (focus (intro w hSw; (try dsimp only at hSw); go_simp; (try with_reducible rfl); done)); (try simp only [Act.put, zPA, zPZ, zPS]))
      refine wpAnyH_done (by kernel_rfl) ?_ _
      generalize (d2.setCell ⟨pt, 0, none⟩ (.int .i64 p)).setCell ⟨pt, 1, none⟩ (.int .i64 q) = WF at HG ⊢
      exact KEY _ _ HG
  case key =>
    intro pt W HL0
    have HL := Lib.hid HL0
    obtain ⟨o', ho', hst, hop⟩ := HL0.st
    have hq := HL0.only
    clear HL0 HS7 HPUT HC6
    have HPO : Hid (StoreInsPost w sb o { s1 with last := s.last + 1 } (.returned (.int .i64 0)) (W.setCell ⟨sb, 6, none⟩ (.int .u64 (ln : Int)))) := by
      obtain ⟨lb, bb, pb, mh, mt, ms, fh, ft, fs, h⟩ := hst
      have h2 := h.setLast (z := (ln : Int)) rfl HLA.out
      have hs1 := HHB.out.cell6.2
      have h3 : StoreRow (W.setCell ⟨sb, 6, none⟩ (.int .u64 (ln : Int))) sb o' { s1 with last := s.last + 1 } lb bb pb mh mt ms fh ft fs := by
        rw [HLN.out]
        exact h2
      refine ⟨rfl, o', fun k hk => ho' k (Nat.lt_of_lt_of_le hk HQB.out.size), ?_, _, _, _, _, _, _, _, _, _, h3⟩
      exact ((HQB.out.mono (fun _ _ x => x.elim)).trans' hq (fun k _ x => x)).setCell (fun _ => by show o sb ≠ 0; omega) _
    have c6 : W.cell? ⟨sb, 6, none⟩ = some (.int .u64 (s.last : Int)) := last_cell HL1.out hst.cell6.1
    have f6 : W.frozen? ⟨sb, 6, none⟩ = false := by
      obtain ⟨lb, bb, pb, mh, mt, ms, fh, ft, fs, h⟩ := hst
      exact frozen_of h.box 6
    have hw := HW.out
    have en := HEN.out
    clear hst hop hq
    go_wp2
    go_ret
    exact HPO.out

/-- Where there is no index. -/
theorem store_insert {w : World} {sb x i c3 n left' : Nat} {o : Nat → Nat} {s : St} {y : Snap} {t : TE} {name nm : ByteArray} {Sv : Nat → Prop} {A3 : Option Addr} {H H' : List (List (Option Tup))} {p q : Int} (h : StoreAt w sb o s) (hx : U64 x) (hy : s.sn x = some y) (hf : findT s.L y name s.T = some i) (ht : s.T[i]? = some t) (hc : t.cols = [(nm, 1)]) (hid : U64 t.id)
    (hI : s.I = []) (hH : s.hs t.id = some H) (hle : H.length + s.left ≤ 256) (hn : n < 256) (hv : Rd w Sv 4 A3 1 (intRow n)) (hc3 : 1 ≤ c3) (hm3 : c3 ≤ maxLen) (hlast : s.last + 1 < 18446744073709551616) (hins : hIns H s.left ⟨s.last + 1, x, 0, -1, -1, rowI n⟩ = ((p, q, 0), H', left')) :
    Calls Tryz.prog 14 #[ptrV sb, .int .u64 (x : Int), .string name, .slice A3 1 c3] w (StoreInsPost w sb o (insSt s t.id H' left')) :=
  store_insert_of (s1 := putSt s t.id H' left') h hx hy hf ht hc hn hv hc3 hm3 hlast rfl (fun W A2 c2 A5 c5 hq _ _ _ hd h9 _ => store_put0 (v := ⟨s.last + 1, x, 0, -1, -1, rowI n⟩) (cd := c5) (A2 := A2) (c2 := c2) (h.quietly hq) hI hid hH hle (rowI_bytes hn) (by show Rd W _ 1 A5 (rowI n).length _; rw [rowI_length]; exact hd) (fun k hk => h.big k hk) hins)

end Go.Proofs.YtmkaomglecfmfaaGreatDoor

namespace Go.Proofs.YtmkaomglecfmfaaGreatDoor
open Go.RowKit Go.Lap

theorem upd_upd {α : Type} (f : Nat → α) (i : Nat) (a b : α) : upd (upd f i a) i b = upd f i b := by
  funext k
  by_cases e : k = i <;> simp [upd, e]

/-- What Update tells: of a version that may not be ended its code, and nothing has turned; else the row has another version. -/
def UpdPost (w : World) (sb : Nat) (o : Nat → Nat) (s s' : St) (code : Nat) (z : Int) (e : Ending) (w' : World) : Prop :=
  if code = 0 then e = .returned (.int .i64 z) ∧ StepTo w sb o s' w' else e = .returned (.int .i64 (code : Int)) ∧ StepTo w sb o s w'

set_option maxHeartbeats 4000000 in
set_option maxRecDepth 100000 in
theorem store_update_of {w : World} {sb x i c3 n nr cr code : Nat} {o : Nat → Nat} {s s1 : St} {y : Snap} {t : TE} {name nm : ByteArray} {Sv : Nat → Prop} {A3 Ar : Option Addr} {H H1 H2 : List (List (Option Tup))} {p q pg sl z : Int} {v : Tup} (h : StoreAt w sb o s) (hx : U64 x) (hy : s.sn x = some y) (hf : findT s.L y name s.T = some i) (ht : s.T[i]? = some t) (hc : t.cols = [(nm, 1)]) (hid : U64 t.id)
    (hH : s.hs t.id = some H) (hn : n < 256) (hv : Rd w Sv 4 A3 1 (intRow n)) (hc3 : 1 ≤ c3) (hm3 : c3 ≤ maxLen) (hg : hGet H pg sl = some v) (hx1 : U64 v.xmin) (hx2 : U64 v.xmax) (hcode : freeS s.L y v.xmin v.xmax = code)
    (hs1 : s1.hs t.id = some H1) (hst : hStamp H1 pg sl x p q = (z, H2))
    (hput : code = 0 → ∀ (W : World) (A2 : Option Addr) (c2 : Nat) (A5 : Option Addr) (c5 : Nat), Quiet w W → Rd W (fun k => w.heap.size ≤ k) 2 A2 t.cols.length (colsV t.cols) → t.cols.length ≤ c2 → c2 ≤ maxLen → Rd W (fun k => w.heap.size ≤ k) 1 A5 9 (bytesV (rowI n)) → 9 ≤ c5 → c5 ≤ maxLen →
      Calls Tryz.prog 40 #[ptrV sb, tabV t A2 c2, tupV ⟨v.row, x, 0, -1, -1, rowI n⟩ A5 c5] W (PutPost W sb o s1 p q)) :
    Calls Tryz.prog 11 #[ptrV sb, .int .u64 (x : Int), .string name, .agg #[.int .u64 v.row, .int .i64 pg, .int .i64 sl, .slice Ar nr cr], .slice A3 1 c3] w (UpdPost w sb o s { s1 with hs := upd s1.hs t.id (some H2) } code z) := by
  have hq0 : Quiet w (w.alloc (.cells #[.int .u64 v.row, .int .i64 pg, .int .i64 sl, .slice Ar nr cr] 44)) := (Only.refl _ _).alloc _
  have HO := Lib.hid (store_open (h.quietly hq0) hx hy hf ht)
  have HB8 := Lib.hid (alloc_new w (.cells #[.int .u64 v.row, .int .i64 pg, .int .i64 sl, .slice Ar nr cr] 44))
  have HQ0 := Lib.hid hq0
  obtain ⟨r8, hr8⟩ : ∃ r8, w.heap.size = r8 := ⟨_, rfl⟩
  rw [hr8] at HB8
  have HR8 := Lib.hid hr8
  have HH := Lib.hid h
  have HC := Lib.hid hc
  have HID := Lib.hid hid
  have HH0 := Lib.hid hH
  have HS1' := Lib.hid hs1
  have HN := Lib.hid hn
  have HV := Lib.hid hv
  have HC3 := Lib.hid (And.intro hc3 hm3)
  have HG := Lib.hid (And.intro hg (And.intro hx1 (And.intro hx2 hcode)))
  have HPU := Lib.hid hput
  have HST := Lib.hid hst
  obtain ⟨POST, hPOST⟩ : ∃ POST, UpdPost w sb o s { s1 with hs := upd s1.hs t.id (some H2) } code z = POST := ⟨_, rfl⟩
  rw [hPOST]
  have HPOST := Lib.hid hPOST
  clear h hx hy hf ht hc hid hH hn hv hc3 hm3 hg hx1 hx2 hcode hput hs1 hst hq0 hPOST hr8
  go_enter Tryz.func11, Tryz.ntmps11
  go_wp2_with fail
  rw [HR8.out]
  generalize w.alloc (.cells #[.int .u64 v.row, .int .i64 pg, .int .i64 sl, .slice Ar nr cr] 44) = w0 at *
  refine HO.out.mono ?_
  rintro e w1 ⟨A, c, A2, c2, rfl, hq1, hs1, hf1, hc2, hm2⟩
  clear HO
  have HQ1 := Lib.hid (HQ0.out.trans hq1)
  have HF1 := Lib.hid hf1
  have HS1 := Lib.hid hs1
  have HC2 := Lib.hid (And.intro hc2 hm2)
  have HB81 := Lib.hid (hq1.get HB8.out (fun x => x))
  have q2 : Quiet w1 ((w1.alloc (.cells (snapCells y A c) 70)).alloc (.cells #[.int .u64 (t.id : Int), .string t.name, .slice A2 t.cols.length c2, .int .u64 (t.xmin : Int), .int .u64 (t.xmax : Int)] 86)) := ((Only.refl _ _).alloc _).alloc _
  have b12 := two_new w1 (.cells (snapCells y A c) 70) (.cells #[.int .u64 (t.id : Int), .string t.name, .slice A2 t.cols.length c2, .int .u64 (t.xmin : Int), .int .u64 (t.xmax : Int)] 86)
  have b11 := alloc_old (alloc_new w1 (.cells (snapCells y A c) 70)) (.cells #[.int .u64 (t.id : Int), .string t.name, .slice A2 t.cols.length c2, .int .u64 (t.xmin : Int), .int .u64 (t.xmax : Int)] 86)
  have HQ2 := Lib.hid q2
  have HB12 := Lib.hid b12
  have HB11 := Lib.hid b11
  obtain ⟨r11, hr11⟩ : ∃ r11, w1.heap.size = r11 := ⟨_, rfl⟩
  obtain ⟨r12, hr12⟩ : ∃ r12, r11 + 1 = r12 := ⟨_, rfl⟩
  rw [hr11] at HB12 HB11
  rw [hr12] at HB12
  have HR12 : Hid (w1.heap.size ≤ r12) := by show _ ≤ _; omega
  have HE11 := Lib.hid hr11
  have HE12 := Lib.hid hr12
  clear hq1 hs1 hf1 hc2 hm2 q2 b12 b11 hr11 hr12
  unfold snapV tabV
  go_wp2_with fail
  (try simp only [World.size_alloc])
  rw [HE11.out, HE12.out]
  generalize (w1.alloc (.cells #[.int .u64 (y.own : Int), .int .u64 (y.xmin : Int), .int .u64 (y.xmax : Int), .slice A y.run.length c] 70)).alloc (.cells #[.int .u64 (t.id : Int), .string t.name, .slice A2 t.cols.length c2, .int .u64 (t.xmin : Int), .int .u64 (t.xmax : Int)] 86) = w2 at *
  have HKND : Hid (Calls Tryz.prog 38 #[tabV t A2 c2] w2 (KindsPost w2 1)) := by
    obtain ⟨A', c', e', h1, h2, h3⟩ := own_form HF1.out.own
    injection e' with e1 _ e2
    subst e1 e2
    have h4 := h3.kept HQ2.out (fun _ _ x => x)
    have h5 := HC2.out
    rw [HC.out] at h4 h5
    exact store_kinds HC.out h4 h5.1 h5.2
  unfold tabV at HKND
  refine HKND.out.mono ?_
  rintro e w3 ⟨v3, rfl, hf3⟩
  obtain ⟨A9, c9, rfl, hc9, hm9, hrd9⟩ := own_form hf3.own
  have HQ3 : Hid (Quiet w2 w3) := hf3.quiet
  have HQV : Hid (Quiet w w3) := (HQ1.out.trans HQ2.out).trans HQ3.out
  have HRB := Lib.hid (row_bytes_int HN.out (by exact hrd9) (HV.out.kept HQV.out (fun _ _ x => x)) hc9 hm9 HC3.out.1 HC3.out.2)
  clear hf3 hc9 hm9 hrd9 HKND
  go_wp2_with fail
  refine HRB.out.mono ?_
  rintro e w4 ⟨v5, rfl, hf5⟩
  obtain ⟨A5, c5, rfl, hc5, hm5, hrd5⟩ := own_form hf5.own
  have h9 : (rowI n).length = 9 := rowI_length n
  have HQ4 : Hid (Quiet w w4) := HQV.out.trans hf5.quiet
  have HQ24 : Hid (Quiet w2 w4) := HQ3.out.trans hf5.quiet
  have HRD5 := Lib.hid hrd5
  have HNEW5 : Hid (∀ k, (Value.slice A5 (rowI n).length c5).ownBlock = some k → w.heap.size ≤ k) := fun k e => Nat.le_trans HQV.out.size (hf5.new k e)
  have HHW := Lib.hid (HH.out.quietly HQ4.out)
  have HSW := Lib.hid (HS1.out.kept (HQ2.out.trans HQ24.out) (fun _ _ x => x))
  have HVE : Hid (Calls Tryz.prog 39 #[ptrV sb, snapV y A c, tabV t A2 c2, .agg #[.int .u64 v.row, .int .i64 pg, .int .i64 sl, .slice Ar nr cr]] w4 (VersPost w4 v code)) := by
    have hv := store_version (A2 := A2) (c2 := c2) (A3 := Ar) (n3 := nr) (c3 := cr) HHW.out HSW.out HID.out HH0.out HG.out.1 HG.out.2.1 HG.out.2.2.1
    rw [HG.out.2.2.2] at hv
    exact hv
  unfold snapV tabV at HVE
  have b12 := tabBox_cells (HQ24.out.get HB12.out (fun x => x))
  have b11 := snapBox_cells (HQ24.out.get HB11.out (fun x => x))
  have hb8 := (HQ2.out.trans HQ24.out).get HB81.out (fun x => x)
  have x0 : w4.cell? ⟨r8, 0, none⟩ = some (.int .u64 v.row) := by rw [cell_of hb8]; rfl
  have x1 : w4.cell? ⟨r8, 1, none⟩ = some (.int .i64 pg) := by rw [cell_of hb8]; rfl
  have x2 : w4.cell? ⟨r8, 2, none⟩ = some (.int .i64 sl) := by rw [cell_of hb8]; rfl
  have x3 : w4.cell? ⟨r8, 3, none⟩ = some (.slice Ar nr cr) := by rw [cell_of hb8]; rfl
  have HB8W := Lib.hid hb8
  have HB12W := Lib.hid (HQ24.out.get HB12.out (fun x => x))
  have HC5 : Hid (9 ≤ c5 ∧ c5 ≤ maxLen) := ⟨by rw [rowI_length] at hc5; exact hc5, hm5⟩
  clear hf5 hrd5 hc5 hm5 HRB hb8
  go_wp2_with fail
  refine HVE.out.mono ?_
  rintro e w5 ⟨A6, c6, rfl, hq5⟩
  have HQB : Hid (Quiet w4 (w5.alloc (.cells #[.int .u64 v.row, .int .u64 v.xmin, .int .u64 v.xmax, .int .i64 v.pg, .int .i64 v.sl, .slice A6 v.data.length c6] 92))) := hq5.alloc _
  clear hq5 x0 x1 x2 x3 b11 b12 HVE
  unfold tupV
  by_cases hz : code = 0
  · subst hz
    go_wp2_with fail
    generalize w5.alloc (.cells #[.int .u64 v.row, .int .u64 v.xmin, .int .u64 v.xmax, .int .i64 v.pg, .int .i64 v.sl, .slice A6 v.data.length c6] 92) = wb at *
    have HHB := Lib.hid (HHW.out.quietly HQB.out)
    have HQWB : Hid (Quiet w wb) := HQ4.out.trans HQB.out
    have HB8b := Lib.hid (HQB.out.get HB8W.out (fun x => x))
    have HB12b := Lib.hid (HQB.out.get HB12W.out (fun x => x))
    have HBZ : Hid (∀ k, wb.heap.size ≤ k → o k = 0) := HHB.out.big
    have HBG : Hid (∀ k, wb.heap.size ≤ k → ¬ o k ≠ 0) := fun k hk e => e (HBZ.out k hk)
    have HX12 : Hid (¬ o r12 ≠ 0) := fun e => e (HH.out.big r12 (by have := HQ1.out.size; have := HR12.out; omega))
    have HX8 : Hid (¬ o r8 ≠ 0) := fun e => e (HH.out.big r8 (by have := HR8.out; omega))
    have HS7 : Hid (∀ W, Only (fun k => o k ≠ 0) wb W → (fun w' => w'.cell? ⟨r8, 0, none⟩ = some (.int .u64 (v.row : Int)) ∧ w'.cell? ⟨r12, 0, none⟩ = some (.int .u64 (t.id : Int)) ∧ w'.cell? ⟨r12, 1, none⟩ = some (.string t.name) ∧ w'.cell? ⟨r12, 2, none⟩ = some (.slice A2 t.cols.length c2) ∧ w'.cell? ⟨r12, 3, none⟩ = some (.int .u64 (t.xmin : Int)) ∧ w'.cell? ⟨r12, 4, none⟩ = some (.int .u64 (t.xmax : Int))) W) := fun W hq => by
      have b := tabBox_cells (hq.get HB12b.out HX12.out)
      have b8 := hq.get HB8b.out HX8.out
      exact ⟨by rw [cell_of b8]; rfl, b⟩
    have HPUT : Hid (∀ W, Quiet wb W → Calls Tryz.prog 40 #[ptrV sb, .agg #[.int .u64 (t.id : Int), .string t.name, .slice A2 t.cols.length c2, .int .u64 (t.xmin : Int), .int .u64 (t.xmax : Int)], .agg #[.int .u64 (v.row : Int), .int .u64 (x : Int), .int .u64 0, .int .i64 (-1), .int .i64 (-1), .slice A5 9 c5]] W (PutPost W sb o s1 p q)) := fun W hq => by
      obtain ⟨A', c', e', h1, h2, h3⟩ := own_form HF1.out.own
      injection e' with e1 _ e2
      subst e1 e2
      have hp := HPU.out (by trivial) W A2 c2 A5 c5 (HQWB.out.trans hq) ((((h3.kept (HQ2.out.trans HQ24.out) (fun _ _ x => x)).kept (HQB.out.trans hq) (fun _ _ x => x))).mono (fun k e => Nat.le_trans HQ0.out.size (HF1.out.new k e))) HC2.out.1 HC2.out.2 (by have := (HRD5.out.kept (HQB.out.trans hq) (fun _ _ x => x)).mono (T := fun k => w.heap.size ≤ k) (fun k e => HNEW5.out k e); rw [rowI_length] at this; exact this) HC5.out.1 HC5.out.2
      unfold tabV tupV at hp
      dsimp only at hp
      rw [rowI_length] at hp
      exact hp
    apply ins_key (wb := wb) (sb := sb) (p := p) (q := q) (o := o) (s' := s1)
    case main =>
        intro KEY
        refine wp_region_held_drew (S := (fun w' => w'.cell? ⟨r8, 0, none⟩ = some (.int .u64 (v.row : Int)) ∧ w'.cell? ⟨r12, 0, none⟩ = some (.int .u64 (t.id : Int)) ∧ w'.cell? ⟨r12, 1, none⟩ = some (.string t.name) ∧ w'.cell? ⟨r12, 2, none⟩ = some (.slice A2 t.cols.length c2) ∧ w'.cell? ⟨r12, 3, none⟩ = some (.int .u64 (t.xmin : Int)) ∧ w'.cell? ⟨r12, 4, none⟩ = some (.int .u64 (t.xmax : Int)))) (by kernel_rfl) (HS7.out _ ((Only.refl _ _).drew)) (fun hHeld => ?_)
        simp only [List.size_toArray, List.length_cons, List.length_nil, Nat.reduceAdd]
        have q0 : Quiet wb wb.drew := (Only.refl _ _).drew
        generalize wb.drew = d0 at q0 hHeld ⊢
        (refine zTK 0 (oi := ?_) (v := ?_) ?_ ?_ (Or.inl ⟨?_, ?_⟩) ?_; rotate_left 2; (focus (simp only [zGA, zGZ, zGS] <;> rfl)); (focus (exact fun _ _ _ h => h)); (focus rfl); (focus (intro w hSw; (try dsimp only at hSw); go_simp; (try with_reducible rfl); done)); (try simp only [Act.put, zPA, zPZ, zPS]))
        (refine zTK 1 (oi := ?_) (v := ?_) ?_ ?_ (Or.inl ⟨?_, ?_⟩) ?_; rotate_left 2; (focus (simp only [zGA, zGZ, zGS] <;> rfl)); (focus (exact fun _ _ _ h => h)); (focus rfl); (focus (intro w hSw; (try dsimp only at hSw); go_simp; (try with_reducible rfl); done)); (try simp only [Act.put, zPA, zPZ, zPS]))
        (refine zTK 2 (oi := ?_) (v := ?_) ?_ ?_ (Or.inl ⟨?_, ?_⟩) ?_; rotate_left 2; (focus (simp only [zGA, zGZ, zGS] <;> rfl)); (focus (exact fun _ _ _ h => h)); (focus rfl); (focus (intro w hSw; (try dsimp only at hSw); go_simp; (try with_reducible rfl); done)); (try simp only [Act.put, zPA, zPZ, zPS]))
        (refine zTK 3 (oi := ?_) (v := ?_) ?_ ?_ (Or.inl ⟨?_, ?_⟩) ?_; rotate_left 2; (focus (simp only [zGA, zGZ, zGS] <;> rfl)); (focus (exact fun _ _ _ h => h)); (focus rfl); (focus (intro w hSw; (try dsimp only at hSw); go_simp; (try with_reducible rfl); done)); (try simp only [Act.put, zPA, zPZ, zPS]))
        (refine zTK 4 (oi := ?_) (v := ?_) ?_ ?_ (Or.inl ⟨?_, ?_⟩) ?_; rotate_left 2; (focus (simp only [zGA, zGZ, zGS] <;> rfl)); (focus (exact fun _ _ _ h => h)); (focus rfl); (focus (intro w hSw; (try dsimp only at hSw); go_simp; (try with_reducible rfl); done)); (try simp only [Act.put, zPA, zPZ, zPS]))
        (refine zTK 6 (oi := ?_) (v := ?_) ?_ ?_ (Or.inl ⟨?_, ?_⟩) ?_; rotate_left 2; (focus (simp only [zGA, zGZ, zGS] <;> rfl)); (focus (exact fun _ _ _ h => h)); (focus rfl); (focus (intro w hSw; (try dsimp only at hSw); go_simp; (try with_reducible rfl); done)); (try simp only [Act.put, zPA, zPZ, zPS]))
        refine wpAnyH_ready (rs := [5, 12]) (by kernel_rfl) (by simp) ?_
        refine AllReadyH.cons (o := ?_) ?_ ?_ ?_
        rotate_left 1
        (focus (simp only [zGA, zGZ, zGS] <;> rfl))
        · intro K hK
          go_simp
          go_at_call 41
          refine (store_nowhere _).mono ?_
          rintro e d1 ⟨rfl, hqn⟩
          have q1 := q0.trans hqn
          clear hqn
          dsimp only
          refine hK.out _ _ ?_ (fun hHeld => ?_)
          · exact HS7.out _ (q1.mono (fun _ _ x => x.elim))
          clear hK K
          (try simp only [Act.put, zPA, zPZ, zPS])
          (refine zTK 7 (oi := ?_) (v := ?_) ?_ ?_ (Or.inl ⟨?_, ?_⟩) ?_; rotate_left 2; (focus (simp only [zGA, zGZ, zGS] <;> rfl)); (focus (exact fun _ _ _ h => h)); (focus rfl); (focus (intro w hSw; (try dsimp only at hSw); go_simp; (try with_reducible rfl); done)); (try simp only [Act.put, zPA, zPZ, zPS]))
          refine wpAnyH_ready (rs := [8, 12]) (by kernel_rfl) (by simp) ?_
          refine AllReadyH.cons (o := ?_) ?_ ?_ ?_
          rotate_left 1
          (focus (simp only [zGA, zGZ, zGS] <;> rfl))
          · intro K hK
            go_simp
            go_at_call 40
            refine (HPUT.out _ q1).mono ?_
            rintro e d2 ⟨rfl, o2, ho2, hw2, hst2⟩
            have q2 := (q1.mono (T := (fun k => o k ≠ 0)) (fun _ _ x => x.elim)).trans hw2
            have hz2 := q1.size
            have ho3 : ∀ k, k < wb.heap.size → o2 k = o k := fun k hk => ho2 k (by omega)
            clear ho2 hw2 hz2
            dsimp only
            refine hK.out _ _ ?_ (fun hHeld => ?_)
            · exact HS7.out _ q2
            clear hK K
            (try simp only [Act.put, zPA, zPZ, zPS])
            (refine zTK 9 (oi := ?_) (v := ?_) ?_ ?_ (Or.inl ⟨?_, ?_⟩) ?_; rotate_left 2; (focus (simp only [zGA, zGZ, zGS] <;> rfl)); (focus (exact fun _ _ _ h => h)); (focus rfl); (focus (intro w hSw; (try dsimp only at hSw); go_simp; (try with_reducible rfl); done)); (try simp only [Act.put, zPA, zPZ, zPS]))
            (refine zTK 10 (oi := ?_) (v := ?_) ?_ ?_ (Or.inl ⟨?_, ?_⟩) ?_; rotate_left 2; (focus (simp only [zGA, zGZ, zGS] <;> rfl)); (focus (exact fun _ _ _ h => h)); (focus rfl); (focus (intro w hSw; (try dsimp only at hSw); go_simp; (try with_reducible rfl); done)); (try simp only [Act.put, zPA, zPZ, zPS]))
            (refine zTK 11 (oi := ?_) (v := ?_) ?_ ?_ (Or.inl ⟨?_, ?_⟩) ?_; rotate_left 2; (focus (simp only [zGA, zGZ, zGS] <;> rfl)); (focus (exact fun _ _ _ h => h)); (focus rfl); (focus (intro w hSw; (try dsimp only at hSw); go_simp; (try with_reducible rfl); done)); (try simp only [Act.put, zPA, zPZ, zPS]))
            refine wpAnyH_ready (rs := [12]) (by kernel_rfl) (by simp) ?_
            refine AllReadyH.cons (o := ?_) ?_ ?_ AllReadyH.nil
            rotate_left 1
            (focus (simp only [zGA, zGZ, zGS] <;> rfl))
            intro K hK
            go_simp
            refine hK.out _ _ ?_ (fun hHeld => ?_)
            · exact HS7.out _ (q2.alloc _)
            clear hK K
            (try simp only [Act.put, zPA, zPZ, zPS])
            have hbig2 := StoreAt.big hst2
            have qe2 := q2.alloc (.cells #[.int .i64 0, .int .i64 0] 41)
            have hb1 := alloc_new d2 (.cells #[.int .i64 0, .int .i64 0] 41)
            have hnp : wb.heap.size ≤ d2.heap.size := q2.size
            have hst2 := hst2.quietly ((Only.refl (fun _ => False) d2).alloc (.cells #[.int .i64 0, .int .i64 0] 41))
            have hop : o2 d2.heap.size = 0 := hbig2 _ (Nat.le_refl _)
            obtain ⟨pt, hpt⟩ : ∃ pt, d2.heap.size = pt := ⟨_, rfl⟩
            (try rw [hpt] at hb1)
            (try rw [hpt] at hnp)
            (try rw [hpt])
            (try rw [hpt] at hop)
            generalize d2.alloc (.cells #[.int .i64 0, .int .i64 0] 41) = e2 at *
            clear hpt
            have z0 := cell_of hb1 0
            have z1 := cell_of hb1 1
            have zf := fun o => frozen_of hb1 o
            simp only [zGA, zGS, zGZ] at z0 z1
            refine wpAnyH_ready (rs := [13]) (by kernel_rfl) (by simp) ?_
            refine AllReadyH.cons (o := ?_) ?_ ?_ AllReadyH.nil
            rotate_left 1
            (focus (simp only [zGA, zGZ, zGS] <;> rfl))
            intro K hK
            go_simp
            refine hK.out _ _ ?_ (fun hHeld => ?_)
            · exact HS7.out _ (ins_leaf qe2 hnp hb1 hst2 hop ho3 (p := p) (q := q)).only
            clear hK K
            (try simp only [Act.put, zPA, zPZ, zPS])
            have HG := (ins_leaf qe2 hnp hb1 hst2 hop ho3 (p := p) (q := q))
            (refine zTK 14 (oi := ?_) (v := ?_) ?_ ?_ (Or.inl ⟨?_, ?_⟩) ?_; rotate_left 2; (focus (simp only [zGA, zGZ, zGS] <;> rfl)); (focus (exact fun _ _ _ h => h)); (focus rfl); (focus (intro w hSw; (try dsimp only at hSw); go_simp; (try with_reducible rfl); done)); (try simp only [Act.put, zPA, zPZ, zPS]))
            refine wpAnyH_done (by kernel_rfl) ?_ _
            generalize (e2.setCell ⟨pt, 0, none⟩ (.int .i64 p)).setCell ⟨pt, 1, none⟩ (.int .i64 q) = WF at HG ⊢
            exact KEY _ _ HG
          refine AllReadyH.cons (o := ?_) ?_ ?_ AllReadyH.nil
          rotate_left 1
          (focus (simp only [zGA, zGZ, zGS] <;> rfl))
          intro K hK
          go_simp
          refine hK.out _ _ ?_ (fun hHeld => ?_)
          · exact HS7.out _ ((q1.alloc _).mono (fun _ _ x => x.elim))
          clear hK K
          (try simp only [Act.put, zPA, zPZ, zPS])
          have qe1 := q1.alloc (.cells #[.int .i64 0, .int .i64 0] 41)
          have hb1 := alloc_new d1 (.cells #[.int .i64 0, .int .i64 0] 41)
          have hnp : wb.heap.size ≤ d1.heap.size := q1.size
          obtain ⟨pt, hpt⟩ : ∃ pt, d1.heap.size = pt := ⟨_, rfl⟩
          (try rw [hpt] at hb1)
          (try rw [hpt] at hnp)
          (try rw [hpt])
          generalize d1.alloc (.cells #[.int .i64 0, .int .i64 0] 41) = e1 at *
          clear hpt
          refine wpAnyH_ready (rs := [8]) (by kernel_rfl) (by simp) ?_
          refine AllReadyH.cons (o := ?_) ?_ ?_ AllReadyH.nil
          rotate_left 1
          (focus (simp only [zGA, zGZ, zGS] <;> rfl))
          intro K hK
          go_simp
          go_at_call 40
          refine (HPUT.out _ qe1).mono ?_
          rintro e d2 ⟨rfl, o2, ho2, hw2, hst2⟩
          have q2 := (qe1.mono (T := (fun k => o k ≠ 0)) (fun _ _ x => x.elim)).trans hw2
          have hz2 := qe1.size
          have hb2 := hw2.get hb1 (HBG.out _ hnp)
          have hop : o2 pt = 0 := by rw [ho2 pt (lt_of_get hb1)]; exact HBZ.out _ hnp
          have ho3 : ∀ k, k < wb.heap.size → o2 k = o k := fun k hk => ho2 k (by omega)
          clear ho2 hw2 hz2
          dsimp only
          refine hK.out _ _ ?_ (fun hHeld => ?_)
          · exact HS7.out _ q2
          clear hK K
          (try simp only [Act.put, zPA, zPZ, zPS])
          have z0 := cell_of hb2 0
          have z1 := cell_of hb2 1
          have zf := fun o => frozen_of hb2 o
          simp only [zGA, zGS, zGZ] at z0 z1
          (refine zTK 9 (oi := ?_) (v := ?_) ?_ ?_ (Or.inl ⟨?_, ?_⟩) ?_; rotate_left 2; (focus (simp only [zGA, zGZ, zGS] <;> rfl)); (focus (exact fun _ _ _ h => h)); (focus rfl); (focus (intro w hSw; (try dsimp only at hSw); go_simp; (try with_reducible rfl); done)); (try simp only [Act.put, zPA, zPZ, zPS]))
          (refine zTK 10 (oi := ?_) (v := ?_) ?_ ?_ (Or.inl ⟨?_, ?_⟩) ?_; rotate_left 2; (focus (simp only [zGA, zGZ, zGS] <;> rfl)); (focus (exact fun _ _ _ h => h)); (focus rfl); (focus (intro w hSw; (try dsimp only at hSw); go_simp; (try with_reducible rfl); done)); (try simp only [Act.put, zPA, zPZ, zPS]))
          (refine zTK 11 (oi := ?_) (v := ?_) ?_ ?_ (Or.inl ⟨?_, ?_⟩) ?_; rotate_left 2; (focus (simp only [zGA, zGZ, zGS] <;> rfl)); (focus (exact fun _ _ _ h => h)); (focus rfl); (focus (intro w hSw; (try dsimp only at hSw); go_simp; (try with_reducible rfl); done)); (try simp only [Act.put, zPA, zPZ, zPS]))
          refine wpAnyH_ready (rs := [13]) (by kernel_rfl) (by simp) ?_
          refine AllReadyH.cons (o := ?_) ?_ ?_ AllReadyH.nil
          rotate_left 1
          (focus (simp only [zGA, zGZ, zGS] <;> rfl))
          intro K hK
          go_simp
          refine hK.out _ _ ?_ (fun hHeld => ?_)
          · exact HS7.out _ (ins_leaf q2 hnp hb2 hst2 hop ho3 (p := p) (q := q)).only
          clear hK K
          (try simp only [Act.put, zPA, zPZ, zPS])
          have HG := (ins_leaf q2 hnp hb2 hst2 hop ho3 (p := p) (q := q))
          (refine zTK 14 (oi := ?_) (v := ?_) ?_ ?_ (Or.inl ⟨?_, ?_⟩) ?_; rotate_left 2; (focus (simp only [zGA, zGZ, zGS] <;> rfl)); (focus (exact fun _ _ _ h => h)); (focus rfl); (focus (intro w hSw; (try dsimp only at hSw); go_simp; (try with_reducible rfl); done)); (try simp only [Act.put, zPA, zPZ, zPS]))
          refine wpAnyH_done (by kernel_rfl) ?_ _
          generalize (d2.setCell ⟨pt, 0, none⟩ (.int .i64 p)).setCell ⟨pt, 1, none⟩ (.int .i64 q) = WF at HG ⊢
          exact KEY _ _ HG
        refine AllReadyH.cons (o := ?_) ?_ ?_ AllReadyH.nil
        rotate_left 1
        (focus (simp only [zGA, zGZ, zGS] <;> rfl))
        intro K hK
        go_simp
        refine hK.out _ _ ?_ (fun hHeld => ?_)
        · exact HS7.out _ ((q0.alloc _).mono (fun _ _ x => x.elim))
        clear hK K
        (try simp only [Act.put, zPA, zPZ, zPS])
        have qe0 := q0.alloc (.cells #[.int .i64 0, .int .i64 0] 41)
        have hb1 := alloc_new d0 (.cells #[.int .i64 0, .int .i64 0] 41)
        have hnp : wb.heap.size ≤ d0.heap.size := q0.size
        obtain ⟨pt, hpt⟩ : ∃ pt, d0.heap.size = pt := ⟨_, rfl⟩
        (try rw [hpt] at hb1)
        (try rw [hpt] at hnp)
        (try rw [hpt])
        generalize d0.alloc (.cells #[.int .i64 0, .int .i64 0] 41) = e0 at *
        clear hpt
        refine wpAnyH_ready (rs := [5]) (by kernel_rfl) (by simp) ?_
        refine AllReadyH.cons (o := ?_) ?_ ?_ AllReadyH.nil
        rotate_left 1
        (focus (simp only [zGA, zGZ, zGS] <;> rfl))
        intro K hK
        go_simp
        go_at_call 41
        refine (store_nowhere _).mono ?_
        rintro e d1 ⟨rfl, hqn⟩
        have q1 := qe0.trans hqn
        have hbq := hqn.get hb1 (fun x => x)
        clear hb1
        have hb1 := hbq
        clear hbq
        clear hqn
        dsimp only
        refine hK.out _ _ ?_ (fun hHeld => ?_)
        · exact HS7.out _ (q1.mono (fun _ _ x => x.elim))
        clear hK K
        (try simp only [Act.put, zPA, zPZ, zPS])
        (refine zTK 7 (oi := ?_) (v := ?_) ?_ ?_ (Or.inl ⟨?_, ?_⟩) ?_; rotate_left 2; (focus (simp only [zGA, zGZ, zGS] <;> rfl)); (focus (exact fun _ _ _ h => h)); (focus rfl); (focus (intro w hSw; (try dsimp only at hSw); go_simp; (try with_reducible rfl); done)); (try simp only [Act.put, zPA, zPZ, zPS]))
        refine wpAnyH_ready (rs := [8]) (by kernel_rfl) (by simp) ?_
        refine AllReadyH.cons (o := ?_) ?_ ?_ AllReadyH.nil
        rotate_left 1
        (focus (simp only [zGA, zGZ, zGS] <;> rfl))
        intro K hK
        go_simp
        go_at_call 40
        refine (HPUT.out _ q1).mono ?_
        rintro e d2 ⟨rfl, o2, ho2, hw2, hst2⟩
        have q2 := (q1.mono (T := (fun k => o k ≠ 0)) (fun _ _ x => x.elim)).trans hw2
        have hz2 := q1.size
        have hb2 := hw2.get hb1 (HBG.out _ hnp)
        have hop : o2 pt = 0 := by rw [ho2 pt (lt_of_get hb1)]; exact HBZ.out _ hnp
        have ho3 : ∀ k, k < wb.heap.size → o2 k = o k := fun k hk => ho2 k (by omega)
        clear ho2 hw2 hz2
        dsimp only
        refine hK.out _ _ ?_ (fun hHeld => ?_)
        · exact HS7.out _ q2
        clear hK K
        (try simp only [Act.put, zPA, zPZ, zPS])
        have z0 := cell_of hb2 0
        have z1 := cell_of hb2 1
        have zf := fun o => frozen_of hb2 o
        simp only [zGA, zGS, zGZ] at z0 z1
        (refine zTK 9 (oi := ?_) (v := ?_) ?_ ?_ (Or.inl ⟨?_, ?_⟩) ?_; rotate_left 2; (focus (simp only [zGA, zGZ, zGS] <;> rfl)); (focus (exact fun _ _ _ h => h)); (focus rfl); (focus (intro w hSw; (try dsimp only at hSw); go_simp; (try with_reducible rfl); done)); (try simp only [Act.put, zPA, zPZ, zPS]))
        (refine zTK 10 (oi := ?_) (v := ?_) ?_ ?_ (Or.inl ⟨?_, ?_⟩) ?_; rotate_left 2; (focus (simp only [zGA, zGZ, zGS] <;> rfl)); (focus (exact fun _ _ _ h => h)); (focus rfl); (focus (intro w hSw; (try dsimp only at hSw); go_simp; (try with_reducible rfl); done)); (try simp only [Act.put, zPA, zPZ, zPS]))
        (refine zTK 11 (oi := ?_) (v := ?_) ?_ ?_ (Or.inl ⟨?_, ?_⟩) ?_; rotate_left 2; (focus (simp only [zGA, zGZ, zGS] <;> rfl)); (focus (exact fun _ _ _ h => h)); (focus rfl); (focus (intro w hSw; (try dsimp only at hSw); go_simp; (try with_reducible rfl); done)); (try simp only [Act.put, zPA, zPZ, zPS]))
        refine wpAnyH_ready (rs := [13]) (by kernel_rfl) (by simp) ?_
        refine AllReadyH.cons (o := ?_) ?_ ?_ AllReadyH.nil
        rotate_left 1
        (focus (simp only [zGA, zGZ, zGS] <;> rfl))
        intro K hK
        go_simp
        refine hK.out _ _ ?_ (fun hHeld => ?_)
        · exact HS7.out _ (ins_leaf q2 hnp hb2 hst2 hop ho3 (p := p) (q := q)).only
        clear hK K
        (try simp only [Act.put, zPA, zPZ, zPS])
        have HG := (ins_leaf q2 hnp hb2 hst2 hop ho3 (p := p) (q := q))
        (refine zTK 14 (oi := ?_) (v := ?_) ?_ ?_ (Or.inl ⟨?_, ?_⟩) ?_; rotate_left 2; (focus (simp only [zGA, zGZ, zGS] <;> rfl)); (focus (exact fun _ _ _ h => h)); (focus rfl); (focus (intro w hSw; (try dsimp only at hSw); go_simp; (try with_reducible rfl); done)); (try simp only [Act.put, zPA, zPZ, zPS]))
        refine wpAnyH_done (by kernel_rfl) ?_ _
        generalize (d2.setCell ⟨pt, 0, none⟩ (.int .i64 p)).setCell ⟨pt, 1, none⟩ (.int .i64 q) = WF at HG ⊢
        exact KEY _ _ HG
    case key =>
      intro pt W HL0
      have HL := Lib.hid HL0
      obtain ⟨o', ho', hst, hop⟩ := HL0.st
      have HOW := Lib.hid HL0.only
      obtain ⟨lb, bb, pb, mh, mt, ms, fh, ft, fs, h'⟩ := hst
      obtain ⟨hb, hf, hp⟩ := h'.heaps.2 t.id H1 HS1'.out
      have HR := Lib.hid h'
      have HF := Lib.hid hf
      have HP := Lib.hid hp
      have HOP := Lib.hid hop
      have HO' := Lib.hid ho'
      have h8 : o' r8 = 0 := by rw [ho' r8 (lt_of_get HB8b.out)]; have := HX8.out; omega
      have h12 : o' r12 = 0 := by rw [ho' r12 (lt_of_get HB12b.out)]; have := HX12.out; omega
      have HO8 := Lib.hid (And.intro h8 h12)
      clear HL0 HS7 HPUT hop ho' h' hf hp h8 h12
      have HS13 : Hid (∀ W', Only (fun k => o' k = 10 + 2 * t.id) W W' → (fun w' => w'.cell? ⟨sb, 3, none⟩ = some (.map (some mh)) ∧ w'.cell? ⟨r12, 0, none⟩ = some (.int .u64 (t.id : Int)) ∧ w'.cell? ⟨r8, 1, none⟩ = some (.int .i64 pg) ∧ w'.cell? ⟨r8, 2, none⟩ = some (.int .i64 sl) ∧ w'.cell? ⟨pt, 0, none⟩ = some (.int .i64 p) ∧ w'.cell? ⟨pt, 1, none⟩ = some (.int .i64 q) ∧ (Instr.lookup 63 (.map (some mh)) (.int .u64 (t.id : Int)) false).run Tryz.prog w' = .ok (ptrV hb) w') W') := fun W' hq => by
        have b12 := tabBox_cells (hq.get (HOW.out.get HB12b.out HX12.out) (fun e => by have := HO8.out.2; (try dsimp only at e); omega))
        have b8 := hq.get (HOW.out.get HB8b.out HX8.out) (fun e => by have := HO8.out.1; (try dsimp only at e); omega)
        have bp := hq.get HL.out.box (fun e => by have := HOP.out; (try dsimp only at e); omega)
        have t1 := HR.out.tags
        have c3 := hq.cell HR.out.cells.2.2.2.1 (fun e => by (try dsimp only at e); omega)
        have hm := HR.out.mH.kept hq (fun e => by (try dsimp only at e); omega)
        exact ⟨c3, b12.1, by rw [cell_of b8]; rfl, by rw [cell_of b8]; rfl, by rw [cell_of bp]; rfl, by rw [cell_of bp]; rfl, look_heap hm HF.out HID.out⟩
      have HSTAMP : Hid (∀ W', Quiet W W' → Calls Tryz.prog 42 #[ptrV hb, .agg #[.int .i64 pg, .int .i64 sl], .int .u64 (x : Int), .agg #[.int .i64 p, .int .i64 q]] W' (fun e w' => e = .returned (.int .i64 z) ∧ Only (fun k => o' k = 10 + 2 * t.id) W' w' ∧ HeapIs w' hb pb (fun k => o' k = 10 + 2 * t.id) H2)) := fun W' hq => by
        have := heap_stamp pg sl x p q (HP.out.kept hq (fun _ _ x => x))
        rw [HST.out] at this
        exact this
      go_wp2_with fail
      refine wp_region_held_drew (S := (fun w' => w'.cell? ⟨sb, 3, none⟩ = some (.map (some mh)) ∧ w'.cell? ⟨r12, 0, none⟩ = some (.int .u64 (t.id : Int)) ∧ w'.cell? ⟨r8, 1, none⟩ = some (.int .i64 pg) ∧ w'.cell? ⟨r8, 2, none⟩ = some (.int .i64 sl) ∧ w'.cell? ⟨pt, 0, none⟩ = some (.int .i64 p) ∧ w'.cell? ⟨pt, 1, none⟩ = some (.int .i64 q) ∧ (Instr.lookup 63 (.map (some mh)) (.int .u64 (t.id : Int)) false).run Tryz.prog w' = .ok (ptrV hb) w')) (by kernel_rfl) (HS13.out _ ((Only.refl _ _).drew)) (fun hHeld => ?_)
      simp only [List.size_toArray, List.length_cons, List.length_nil, Nat.reduceAdd]
      have q6 : Quiet W W.drew := (Only.refl _ _).drew
      generalize W.drew = d6 at q6 hHeld ⊢
      (refine zTK 0 (oi := ?_) (v := ?_) ?_ ?_ (Or.inl ⟨?_, ?_⟩) ?_; rotate_left 2; (focus (simp only [zGA, zGZ, zGS] <;> rfl)); (focus (exact fun _ _ _ h => h)); (focus rfl); (focus (intro w hSw; (try dsimp only at hSw); go_simp; (try with_reducible rfl); done)); (try simp only [Act.put, zPA, zPZ, zPS]))
      (refine zTK 1 (oi := ?_) (v := ?_) ?_ ?_ (Or.inl ⟨?_, ?_⟩) ?_; rotate_left 2; (focus (simp only [zGA, zGZ, zGS] <;> rfl)); (focus (exact fun _ _ _ h => h)); (focus rfl); (focus (intro w hSw; (try dsimp only at hSw); go_simp; (try with_reducible rfl); done)); (try simp only [Act.put, zPA, zPZ, zPS]))
      (refine zTK 2 (oi := ?_) (v := ?_) ?_ ?_ (Or.inl ⟨?_, ?_⟩) ?_; rotate_left 2; (focus (simp only [zGA, zGZ, zGS] <;> rfl)); (focus (exact fun _ _ _ h => h)); (focus rfl); (focus (intro w hSw; (try dsimp only at hSw); go_simp; (try with_reducible rfl); done)); (try simp only [Act.put, zPA, zPZ, zPS]))
      (refine zTK 3 (oi := ?_) (v := ?_) ?_ ?_ (Or.inl ⟨?_, ?_⟩) ?_; rotate_left 2; (focus (simp only [zGA, zGZ, zGS] <;> rfl)); (focus (exact fun _ _ _ h => h)); (focus rfl); (focus (intro w hSw; (try dsimp only at hSw); go_simp; (try with_reducible rfl); done)); (try simp only [Act.put, zPA, zPZ, zPS]))
      (refine zTK 4 (oi := ?_) (v := ?_) ?_ ?_ (Or.inl ⟨?_, ?_⟩) ?_; rotate_left 2; (focus (simp only [zGA, zGZ, zGS] <;> rfl)); (focus (exact fun _ _ _ h => h)); (focus rfl); (focus (intro w hSw; (try dsimp only at hSw); go_simp; (try with_reducible rfl); done)); (try simp only [Act.put, zPA, zPZ, zPS]))
      (refine zTK 5 (oi := ?_) (v := ?_) ?_ ?_ (Or.inl ⟨?_, ?_⟩) ?_; rotate_left 2; (focus (simp only [zGA, zGZ, zGS] <;> rfl)); (focus (exact fun _ _ _ h => h)); (focus rfl); (focus (intro w hSw; (try dsimp only at hSw); go_simp; (try with_reducible rfl); done)); (try simp only [Act.put, zPA, zPZ, zPS]))
      (refine zTK 6 (oi := ?_) (v := ?_) ?_ ?_ (Or.inl ⟨?_, ?_⟩) ?_; rotate_left 2; (focus (simp only [zGA, zGZ, zGS] <;> rfl)); (focus (exact fun _ _ _ h => h)); (focus rfl); (focus (intro w hSw; (try dsimp only at hSw); go_simp; (try with_reducible rfl); done)); (try simp only [Act.put, zPA, zPZ, zPS]))
      (refine zTK 7 (oi := ?_) (v := ?_) ?_ ?_ (Or.inl ⟨?_, ?_⟩) ?_; rotate_left 2; (focus (simp only [zGA, zGZ, zGS] <;> rfl)); (focus (exact fun _ _ _ h => h)); (focus rfl); (focus (intro w hSw; (try dsimp only at hSw); go_simp; (try with_reducible rfl); done)); (try simp only [Act.put, zPA, zPZ, zPS]))
      (refine zTK 8 (oi := ?_) (v := ?_) ?_ ?_ (Or.inl ⟨?_, ?_⟩) ?_; rotate_left 2; (focus (simp only [zGA, zGZ, zGS] <;> rfl)); (focus (exact fun _ _ _ h => h)); (focus rfl); (focus (intro w hSw; (try dsimp only at hSw); go_simp; (try with_reducible rfl); done)); (try simp only [Act.put, zPA, zPZ, zPS]))
      (refine zTK 9 (oi := ?_) (v := ?_) ?_ ?_ (Or.inl ⟨?_, ?_⟩) ?_; rotate_left 2; (focus (simp only [zGA, zGZ, zGS] <;> rfl)); (focus (exact fun _ _ _ h => h)); (focus rfl); (focus (intro w hSw; (try dsimp only at hSw); go_simp; (try with_reducible rfl); done)); (try simp only [Act.put, zPA, zPZ, zPS]))
      (refine zTK 10 (oi := ?_) (v := ?_) ?_ ?_ (Or.inl ⟨?_, ?_⟩) ?_; rotate_left 2; (focus (simp only [zGA, zGZ, zGS] <;> rfl)); (focus (exact fun _ _ _ h => h)); (focus rfl); (focus (intro w hSw; (try dsimp only at hSw); go_simp; (try with_reducible rfl); done)); (try simp only [Act.put, zPA, zPZ, zPS]))
      refine wpAnyH_ready (rs := [11]) (by kernel_rfl) (by simp) ?_
      refine AllReadyH.cons (o := ?_) ?_ ?_ AllReadyH.nil
      rotate_left 1
      (focus (simp only [zGA, zGZ, zGS] <;> rfl))
      intro K hK
      go_simp
      go_at_call 42
      refine (HSTAMP.out _ q6).mono ?_
      rintro e d7 ⟨rfl, ho7, hh7⟩
      dsimp only
      refine hK.out _ _ ?_ (fun hHeld => ?_)
      · exact HS13.out _ ((q6.mono (T := fun k => o' k = 10 + 2 * t.id) (fun _ _ x => x.elim)).trans ho7)
      clear hK K
      (try simp only [Act.put, zPA, zPZ, zPS])
      (refine zTK 12 (oi := ?_) (v := ?_) ?_ ?_ (Or.inl ⟨?_, ?_⟩) ?_; rotate_left 2; (focus (simp only [zGA, zGZ, zGS] <;> rfl)); (focus (exact fun _ _ _ h => h)); (focus rfl); (focus (intro w hSw; (try dsimp only at hSw); go_simp; (try with_reducible rfl); done)); (try simp only [Act.put, zPA, zPZ, zPS]))
      refine wpAnyH_done (by kernel_rfl) ?_ _
      have HEND : Hid (POST (.returned (.int .i64 z)) d7) := by
        rw [← HPOST.out]
        unfold UpdPost
        rw [if_pos rfl]
        have ho := (q6.mono (T := fun k => o' k = 10 + 2 * t.id) (fun _ _ x => x.elim)).trans ho7
        have tg := HR.out.tags
        have hpo := (HR.out.pool.kept q6 (fun x => x)).kept ho7 (fun e => by (try dsimp only at e); omega)
        have h9 := HR.out.setHeap (id := t.id) HF.out (ho.mono (fun k _ x => Or.inl x)) hpo (hh7.mono (fun k x => Or.inl x))
        have hsz := HOW.out.size
        have hzz := HQWB.out.size
        have hon : Only (fun k => o k ≠ 0) w d7 := ((HQWB.out.mono (fun _ _ x => x.elim)).trans' HOW.out (fun k _ x => x)).trans' ho (fun k hk x => by
          rw [← HO'.out k (by omega)]
          omega)
        exact ⟨rfl, _, fun k hk => by rw [grow_old (by omega)]; exact HO'.out k (by omega), hon, lb, bb, pb, mh, mt, ms, fh, ft, fs, h9⟩
      clear hHeld q6 ho7 hh7 HS13 HSTAMP
      go_wp2
      exact HEND.out
  · have hne : ¬ (code : Int) = 0 := by omega
    have HEND : Hid (POST (.returned (.int .i64 (code : Int))) (w5.alloc (.cells #[.int .u64 v.row, .int .u64 v.xmin, .int .u64 v.xmax, .int .i64 v.pg, .int .i64 v.sl, .slice A6 v.data.length c6] 92))) := by
      rw [← HPOST.out]
      unfold UpdPost
      rw [if_neg hz]
      have hq := HQ4.out.trans HQB.out
      exact ⟨rfl, o, fun _ _ => rfl, hq.mono (fun _ _ x => x.elim), HH.out.quietly hq⟩
    go_wp2
    exact HEND.out

/-- Where there is no index. -/
theorem store_update {w : World} {sb x i c3 n left' nr cr code : Nat} {o : Nat → Nat} {s : St} {y : Snap} {t : TE} {name nm : ByteArray} {Sv : Nat → Prop} {A3 Ar : Option Addr} {H H1 H2 : List (List (Option Tup))} {p q pg sl z : Int} {v : Tup} (h : StoreAt w sb o s) (hx : U64 x) (hy : s.sn x = some y) (hf : findT s.L y name s.T = some i) (ht : s.T[i]? = some t) (hc : t.cols = [(nm, 1)]) (hid : U64 t.id)
    (hI : s.I = []) (hH : s.hs t.id = some H) (hle : H.length + s.left ≤ 256) (hn : n < 256) (hv : Rd w Sv 4 A3 1 (intRow n)) (hc3 : 1 ≤ c3) (hm3 : c3 ≤ maxLen) (hg : hGet H pg sl = some v) (hx1 : U64 v.xmin) (hx2 : U64 v.xmax) (hcode : freeS s.L y v.xmin v.xmax = code)
    (hins : code = 0 → hIns H s.left ⟨v.row, x, 0, -1, -1, rowI n⟩ = ((p, q, 0), H1, left')) (hst : hStamp H1 pg sl x p q = (z, H2)) :
    Calls Tryz.prog 11 #[ptrV sb, .int .u64 (x : Int), .string name, .agg #[.int .u64 v.row, .int .i64 pg, .int .i64 sl, .slice Ar nr cr], .slice A3 1 c3] w (UpdPost w sb o s (putSt s t.id H2 left') code z) := by
  have e1 : ({ putSt s t.id H1 left' with hs := upd (putSt s t.id H1 left').hs t.id (some H2) } : St) = putSt s t.id H2 left' := by
    simp only [putSt, upd_upd]
  rw [← e1]
  exact store_update_of (s1 := putSt s t.id H1 left') h hx hy hf ht hc hid hH hn hv hc3 hm3 hg hx1 hx2 hcode (by simp [putSt, upd]) hst (fun hz W A2 c2 A5 c5 hq _ _ _ hd _ _ => store_put0 (v := ⟨v.row, x, 0, -1, -1, rowI n⟩) (cd := c5) (A2 := A2) (c2 := c2) (h.quietly hq) hI hid hH hle (rowI_bytes hn) (by show Rd W _ 1 A5 (rowI n).length _; rw [rowI_length]; exact hd) (fun k hk => h.big k hk) (hins hz))

end Go.Proofs.YtmkaomglecfmfaaGreatDoor

namespace Go.Proofs.YtmkaomglecfmfaaGreatDoor
open Go.RowKit Go.Lap

def StoreScanPost (w : World) (R : List RowR) (e : Ending) (w' : World) : Prop :=
  ∃ v M, e = .returned (.tuple #[v, .int .i64 0]) ∧ RowsW w w' v M ∧ (M.map RowM.told).Perm R ∧ M.Pairwise (fun a b => a.id ≤ b.id)

/-- All versions of a heap are rows of small numbers. -/
def IntHeap (H : List (List (Option Tup))) : Prop := ∀ pg sl v, hGet H pg sl = some v → U64 v.xmin ∧ U64 v.xmax ∧ ∃ n, n < 256 ∧ v.data = rowI n

theorem placesTo_get {p : Int} {T : List (Option Tup)} {k : Nat} {a : Int × Int} (h : a ∈ placesTo p T k) : a.1 = p ∧ ∃ j, j < k ∧ a.2 = (j : Int) ∧ ∃ v, T[j]? = some (some v) := by
  unfold placesTo at h
  obtain ⟨j, hj, e⟩ := List.mem_filterMap.1 h
  split at e
  · rename_i hs
    injection e with e
    subst e
    obtain ⟨v, hv⟩ := Option.isSome_iff_exists.1 hs
    refine ⟨rfl, j, List.mem_range.1 hj, rfl, v, ?_⟩
    cases hT : T[j]? with
    | none => rw [hT] at hv; cases hv
    | some u => rw [hT] at hv; cases u with
      | none => cases hv
      | some u => simpa using hv
  · cases e

theorem placesH_get {H : List (List (Option Tup))} {a : Int × Int} {k : Nat} (h : a ∈ placesH H k) : ∃ v, hGet H a.1 a.2 = some v := by
  induction k with
  | zero => cases h
  | succ k ih =>
    rcases List.mem_append.1 h with h | h
    · exact ih h
    · obtain ⟨h1, j, _, h2, v, h3⟩ := placesTo_get h
      refine ⟨v, ?_⟩
      unfold hGet
      rw [h1, if_neg (by omega), h2]
      unfold tupAt
      rw [if_neg (by omega)]
      show ((H.getD k [])[((j : Nat) : Int).toNat]?).join = some v
      rw [Int.toNat_natCast, h3]
      rfl

set_option maxHeartbeats 4000000 in
set_option maxRecDepth 100000 in
theorem store_scan {w : World} {sb x i : Nat} {o : Nat → Nat} {s : St} {y : Snap} {t : TE} {name nm : ByteArray} {H : List (List (Option Tup))} (h : StoreAt w sb o s) (hx : U64 x) (hy : s.sn x = some y) (hf : findT s.L y name s.T = some i) (ht : s.T[i]? = some t) (hc : t.cols = [(nm, 1)]) (hid : U64 t.id)
    (hH : s.hs t.id = some H) (hN : ∀ k, k ≤ H.length → (placesH H k).length ≤ 1000000) (hI : IntHeap H) :
    Calls Tryz.prog 10 #[ptrV sb, .int .u64 (x : Int), .string name] w (StoreScanPost w (seenR H s.L y (placesH H H.length))) := by
  have HO := Lib.hid (store_open h hx hy hf ht)
  have HH := Lib.hid h
  have HC := Lib.hid hc
  have HID := Lib.hid hid
  have HHH := Lib.hid (And.intro hH (And.intro hN hI))
  obtain ⟨POST, hPOST⟩ : ∃ POST, StoreScanPost w (seenR H s.L y (placesH H H.length)) = POST := ⟨_, rfl⟩
  rw [hPOST]
  have HPOST := Lib.hid hPOST
  clear h hx hy hf ht hc hid hH hN hI hPOST
  go_enter Tryz.func10, Tryz.ntmps10
  go_wp2_with fail
  refine HO.out.mono ?_
  rintro e w1 ⟨A, c, A2, c2, rfl, hq1, hs1, hf1, hc2, hm2⟩
  clear HO
  have HQ1 := Lib.hid hq1
  have HF1 := Lib.hid hf1
  have HS1 := Lib.hid hs1
  have HC2 := Lib.hid (And.intro hc2 hm2)
  have q2 : Quiet w1 ((w1.alloc (.cells (snapCells y A c) 70)).alloc (.cells #[.int .u64 (t.id : Int), .string t.name, .slice A2 t.cols.length c2, .int .u64 (t.xmin : Int), .int .u64 (t.xmax : Int)] 86)) := ((Only.refl _ _).alloc _).alloc _
  have b9 := two_new w1 (.cells (snapCells y A c) 70) (.cells #[.int .u64 (t.id : Int), .string t.name, .slice A2 t.cols.length c2, .int .u64 (t.xmin : Int), .int .u64 (t.xmax : Int)] 86)
  have b8 := alloc_old (alloc_new w1 (.cells (snapCells y A c) 70)) (.cells #[.int .u64 (t.id : Int), .string t.name, .slice A2 t.cols.length c2, .int .u64 (t.xmin : Int), .int .u64 (t.xmax : Int)] 86)
  have HQ2 := Lib.hid q2
  have HB9 := Lib.hid b9
  have HB8 := Lib.hid b8
  obtain ⟨r8, hr8⟩ : ∃ r8, w1.heap.size = r8 := ⟨_, rfl⟩
  obtain ⟨r9, hr9⟩ : ∃ r9, r8 + 1 = r9 := ⟨_, rfl⟩
  rw [hr8] at HB9 HB8
  rw [hr9] at HB9
  have HE8 := Lib.hid hr8
  have HE9 := Lib.hid hr9
  clear hq1 hs1 hf1 hc2 hm2 q2 b9 b8 hr8 hr9
  unfold snapV tabV
  go_wp2_with fail
  (try simp only [World.size_alloc])
  rw [HE8.out, HE9.out]
  generalize (w1.alloc (.cells #[.int .u64 (y.own : Int), .int .u64 (y.xmin : Int), .int .u64 (y.xmax : Int), .slice A y.run.length c] 70)).alloc (.cells #[.int .u64 (t.id : Int), .string t.name, .slice A2 t.cols.length c2, .int .u64 (t.xmin : Int), .int .u64 (t.xmax : Int)] 86) = w2 at *
  have HQW : Hid (Quiet w w2) := HQ1.out.trans HQ2.out
  have HHW := Lib.hid (HH.out.quietly HQW.out)
  have HS4 : Hid (∀ W, Quiet w2 W → (fun w' => w'.cell? ⟨r8, 0, none⟩ = some (.int .u64 (y.own : Int)) ∧ w'.cell? ⟨r8, 1, none⟩ = some (.int .u64 (y.xmin : Int)) ∧ w'.cell? ⟨r8, 2, none⟩ = some (.int .u64 (y.xmax : Int)) ∧ w'.cell? ⟨r8, 3, none⟩ = some (.slice A y.run.length c) ∧ w'.cell? ⟨r9, 0, none⟩ = some (.int .u64 (t.id : Int)) ∧ w'.cell? ⟨r9, 1, none⟩ = some (.string t.name) ∧ w'.cell? ⟨r9, 2, none⟩ = some (.slice A2 t.cols.length c2) ∧ w'.cell? ⟨r9, 3, none⟩ = some (.int .u64 (t.xmin : Int)) ∧ w'.cell? ⟨r9, 4, none⟩ = some (.int .u64 (t.xmax : Int))) W) := fun W hq => by
    have b9 := tabBox_cells (hq.get HB9.out (fun x => x))
    have b8 := snapBox_cells (hq.get HB8.out (fun x => x))
    exact ⟨b8.1, b8.2.1, b8.2.2.1, b8.2.2.2, b9⟩
  have HPL : Hid (∀ W, Quiet w2 W → Calls Tryz.prog 30 #[ptrV sb, .int .u64 (t.id : Int)] W (ChainPost W (placesH H H.length))) := fun W hq => store_places (HHW.out.quietly hq) HID.out HHH.out.1 HHH.out.2.1
  have HRW : Hid (∀ W, Quiet w2 W → ∀ A3 c3 (Sl : Nat → Prop), Rd W Sl 2 A3 (placesH H H.length).length (tidsV (placesH H H.length)) → Calls Tryz.prog 36 #[ptrV sb, snapV y A c, tabV t A2 c2, .slice A3 (placesH H H.length).length c3] W (RowsPost W (seenR H s.L y (placesH H H.length)))) := fun W hq A3 c3 Sl hr => by
    obtain ⟨A', c', e', h1, h2, h3⟩ := own_form HF1.out.own
    injection e' with e1 _ e2
    subst e1 e2
    exact store_rows (HHW.out.quietly hq) ((HS1.out.kept HQ2.out (fun _ _ x => x)).kept hq (fun _ _ x => x)) HC.out HID.out ((h3.kept HQ2.out (fun _ _ x => x)).kept hq (fun _ _ x => x)) HC2.out.1 HC2.out.2 HHH.out.1 hr (HHH.out.2.1 _ (Nat.le_refl _)) (fun a ha => by
      obtain ⟨v, hv⟩ := placesH_get ha
      obtain ⟨i1, i2, i3⟩ := HHH.out.2.2 _ _ _ hv
      exact ⟨v, hv, i1, i2, fun _ => i3⟩)
  unfold snapV tabV at HRW
  refine wp_region_held_drew (S := (fun w' => w'.cell? ⟨r8, 0, none⟩ = some (.int .u64 (y.own : Int)) ∧ w'.cell? ⟨r8, 1, none⟩ = some (.int .u64 (y.xmin : Int)) ∧ w'.cell? ⟨r8, 2, none⟩ = some (.int .u64 (y.xmax : Int)) ∧ w'.cell? ⟨r8, 3, none⟩ = some (.slice A y.run.length c) ∧ w'.cell? ⟨r9, 0, none⟩ = some (.int .u64 (t.id : Int)) ∧ w'.cell? ⟨r9, 1, none⟩ = some (.string t.name) ∧ w'.cell? ⟨r9, 2, none⟩ = some (.slice A2 t.cols.length c2) ∧ w'.cell? ⟨r9, 3, none⟩ = some (.int .u64 (t.xmin : Int)) ∧ w'.cell? ⟨r9, 4, none⟩ = some (.int .u64 (t.xmax : Int)))) (by kernel_rfl) (HS4.out _ ((Only.refl _ _).drew)) (fun hHeld => ?_)
  simp only [List.size_toArray, List.length_cons, List.length_nil, Nat.reduceAdd]
  have q0 : Quiet w2 w2.drew := (Only.refl _ _).drew
  generalize w2.drew = d0 at q0 hHeld ⊢
  (refine zTK 0 (oi := ?_) (v := ?_) ?_ ?_ (Or.inl ⟨?_, ?_⟩) ?_; rotate_left 2; (focus (simp only [zGA, zGZ, zGS] <;> rfl)); (focus (exact fun _ _ _ h => h)); (focus rfl); (focus (intro w hSw; (try dsimp only at hSw); go_simp; (try with_reducible rfl); done)); (try simp only [Act.put, zPA, zPZ, zPS]))
  (refine zTK 1 (oi := ?_) (v := ?_) ?_ ?_ (Or.inl ⟨?_, ?_⟩) ?_; rotate_left 2; (focus (simp only [zGA, zGZ, zGS] <;> rfl)); (focus (exact fun _ _ _ h => h)); (focus rfl); (focus (intro w hSw; (try dsimp only at hSw); go_simp; (try with_reducible rfl); done)); (try simp only [Act.put, zPA, zPZ, zPS]))
  (refine zTK 2 (oi := ?_) (v := ?_) ?_ ?_ (Or.inl ⟨?_, ?_⟩) ?_; rotate_left 2; (focus (simp only [zGA, zGZ, zGS] <;> rfl)); (focus (exact fun _ _ _ h => h)); (focus rfl); (focus (intro w hSw; (try dsimp only at hSw); go_simp; (try with_reducible rfl); done)); (try simp only [Act.put, zPA, zPZ, zPS]))
  (refine zTK 3 (oi := ?_) (v := ?_) ?_ ?_ (Or.inl ⟨?_, ?_⟩) ?_; rotate_left 2; (focus (simp only [zGA, zGZ, zGS] <;> rfl)); (focus (exact fun _ _ _ h => h)); (focus rfl); (focus (intro w hSw; (try dsimp only at hSw); go_simp; (try with_reducible rfl); done)); (try simp only [Act.put, zPA, zPZ, zPS]))
  (refine zTK 4 (oi := ?_) (v := ?_) ?_ ?_ (Or.inl ⟨?_, ?_⟩) ?_; rotate_left 2; (focus (simp only [zGA, zGZ, zGS] <;> rfl)); (focus (exact fun _ _ _ h => h)); (focus rfl); (focus (intro w hSw; (try dsimp only at hSw); go_simp; (try with_reducible rfl); done)); (try simp only [Act.put, zPA, zPZ, zPS]))
  (refine zTK 5 (oi := ?_) (v := ?_) ?_ ?_ (Or.inl ⟨?_, ?_⟩) ?_; rotate_left 2; (focus (simp only [zGA, zGZ, zGS] <;> rfl)); (focus (exact fun _ _ _ h => h)); (focus rfl); (focus (intro w hSw; (try dsimp only at hSw); go_simp; (try with_reducible rfl); done)); (try simp only [Act.put, zPA, zPZ, zPS]))
  refine wpAnyH_ready (rs := [6]) (by kernel_rfl) (by simp) ?_
  refine AllReadyH.cons (o := ?_) ?_ ?_ AllReadyH.nil
  rotate_left 1
  (focus (simp only [zGA, zGZ, zGS] <;> rfl))
  intro K hK
  go_simp
  go_at_call 30
  refine (HPL.out _ q0).mono ?_
  rintro e d1 ⟨v3, rfl, hq3, _, ht3⟩
  obtain ⟨A3, c3, rfl, hc3, hm3, hrd3⟩ := own_form ht3
  have q1 := q0.trans hq3
  clear hq3 ht3
  dsimp only
  refine hK.out _ _ ?_ (fun hHeld => ?_)
  · exact HS4.out _ q1
  clear hK K
  (try simp only [Act.put, zPA, zPZ, zPS])
  refine wpAnyH_ready (rs := [7]) (by kernel_rfl) (by simp) ?_
  refine AllReadyH.cons (o := ?_) ?_ ?_ AllReadyH.nil
  rotate_left 1
  (focus (simp only [zGA, zGZ, zGS] <;> rfl))
  intro K hK
  go_simp
  go_at_call 36
  refine (HRW.out _ q1 A3 c3 _ hrd3).mono ?_
  rintro e d2 ⟨v4, M, rfl, hrw, hpm, hpw⟩
  have q2 := q1.trans hrw.quiet
  dsimp only
  refine hK.out _ _ ?_ (fun hHeld => ?_)
  · exact HS4.out _ q2
  clear hK K
  (try simp only [Act.put, zPA, zPZ, zPS])
  (refine zTK 8 (oi := ?_) (v := ?_) ?_ ?_ (Or.inl ⟨?_, ?_⟩) ?_; rotate_left 2; (focus (simp only [zGA, zGZ, zGS] <;> rfl)); (focus (exact fun _ _ _ h => h)); (focus rfl); (focus (intro w hSw; (try dsimp only at hSw); go_simp; (try with_reducible rfl); done)); (try simp only [Act.put, zPA, zPZ, zPS]))
  (refine zTK 9 (oi := ?_) (v := ?_) ?_ ?_ (Or.inl ⟨?_, ?_⟩) ?_; rotate_left 2; (focus (simp only [zGA, zGZ, zGS] <;> rfl)); (focus (exact fun _ _ _ h => h)); (focus rfl); (focus (intro w hSw; (try dsimp only at hSw); go_simp; (try with_reducible rfl); done)); (try simp only [Act.put, zPA, zPZ, zPS]))
  refine wpAnyH_done (by kernel_rfl) ?_ _
  have HEND : Hid (POST (.returned (.tuple #[v4, .int .i64 0])) d2) := by
    rw [← HPOST.out]
    exact ⟨v4, M, rfl, hrw.from (HQW.out.trans q1), hpm, hpw⟩
  clear hHeld q0 q1 q2 hrw hpm hpw HS4 HPL HRW hrd3 hc3 hm3
  go_wp2
  exact HEND.out

end Go.Proofs.YtmkaomglecfmfaaGreatDoor

namespace Go.Proofs.YtmkaomglecfmfaaGreatDoor
open Go.RowKit Go.Lap

/-- What a stamp leaves at every place. -/
structure StampAt (H H' : List (List (Option Tup))) (pg sl : Int) (v u : Tup) : Prop where
  get : ∀ p s, hGet H' p s = if p = pg ∧ s = sl then some u else hGet H p s
  used : usedH H' = usedH H
  fit : ∀ T ∈ H', Fits T
  len : H'.length = H.length

theorem stamp_size (v : Tup) (x : Nat) (p q : Int) : (v.stamp x p q).size = v.size := rfl

theorem hStamp_goes {H : List (List (Option Tup))} {pg sl p q : Int} {x : Nat} {v : Tup} (hfit : ∀ T ∈ H, Fits T) (h : hGet H pg sl = some v) (hx : x ≤ 1099511627776) (hf : farB p q = false) : ∃ H', hStamp H pg sl x p q = (0, H') ∧ StampAt H H' pg sl v (v.stamp x p q) := by
  have h0 : ¬ (pg < 0 ∨ (H.length : Int) ≤ pg) := fun x => by rw [hGet_out x] at h; cases h
  obtain ⟨k, rfl⟩ := Int.eq_ofNat_of_zero_le (show 0 ≤ pg by omega)
  have hk : k < H.length := by omega
  obtain ⟨T, hT⟩ : ∃ T, H[k]? = some T := ⟨_, List.getElem?_eq_getElem hk⟩
  have hg : tupAt T sl = some v := by rw [← hGet_in sl hT]; exact h
  obtain ⟨s0, hs⟩ := tupAt_some hg
  obtain ⟨j, rfl⟩ := Int.eq_ofNat_of_zero_le s0
  rw [Int.toNat_natCast] at hs
  have hj : j < T.length := (List.getElem?_eq_some_iff.1 hs).1
  have hgd : H.getD k [] = T := by rw [List.getD_eq_getElem?_getD, hT]; rfl
  have hp : pStampT T (j : Int) x p q = (0, T.set j (some (v.stamp x p q))) := by
    unfold pStampT
    rw [if_neg (by rw [hf]; simp; omega), hg]
    rfl
  refine ⟨H.set k (T.set j (some (v.stamp x p q))), ?_, ⟨fun a b => ?_, ?_, fun T' hT' => ?_, by simp⟩⟩
  · unfold hStamp
    rw [if_neg h0, Int.toNat_natCast, hgd, hp]
  · rw [hGet_set H k hk]
    by_cases e : a = (k : Int)
    · subst e
      rw [if_pos rfl, tupAt_set T j hj]
      by_cases e2 : b = (j : Int)
      · rw [if_pos e2, if_pos ⟨rfl, e2⟩]
      · rw [if_neg e2, if_neg (fun z => e2 z.2), hGet_in b hT]
    · rw [if_neg e, if_neg (fun z => e z.1)]
  · have h1 := usedH_set (T' := T.set j (some (v.stamp x p q))) hT
    have h2 := used_set (u := some (v.stamp x p q)) hs
    simp at h2
    omega
  · rcases List.mem_or_eq_of_mem_set hT' with y | y
    · exact hfit T' y
    · rw [y]
      have := hfit T (List.mem_of_getElem? hT)
      unfold Fits at this ⊢
      have h3 := sum_set sizeT T j (some v) (some (v.stamp x p q)) hs
      have e : sizeT (some (v.stamp x p q)) = sizeT (some v) := rfl
      rw [List.length_set]
      omega

/-- The places of a page are as many as its versions. -/
theorem placesTo_used (p : Int) (T : List (Option Tup)) : (placesTo p T T.length).length = usedT T := by
  have h : ∀ (n : Nat), n ≤ T.length → (placesTo p T n).length = usedT (T.take n) := by
    intro n
    induction n with
    | zero => intro _; rfl
    | succ n ih =>
      intro hn
      obtain ⟨s, hs⟩ : ∃ s, T[n]? = some s := ⟨_, List.getElem?_eq_getElem (by omega)⟩
      have hi := ih (by omega)
      have ht : T.take (n + 1) = T.take n ++ [s] := by rw [List.take_add_one, hs]; rfl
      rw [ht, used_append]
      cases s with
      | none => rw [placesTo_none (by rw [hs]; rfl), hi]; rfl
      | some t => rw [placesTo_some (t := t) (by rw [hs]; rfl), List.length_append, hi]; rfl
  rw [h T.length (Nat.le_refl _), List.take_length]

theorem placesH_length (H : List (List (Option Tup))) : ∀ k, k ≤ H.length → (placesH H k).length = usedH (H.take k) := by
  intro k
  induction k with
  | zero => intro _; rfl
  | succ k ih =>
    intro hk
    obtain ⟨T, hT⟩ : ∃ T, H[k]? = some T := ⟨_, List.getElem?_eq_getElem (by omega)⟩
    show (placesH H k ++ placesTo (k : Int) (H.getD k []) (H.getD k []).length).length = _
    have hg : H.getD k [] = T := by rw [List.getD_eq_getElem?_getD, hT]; rfl
    rw [List.length_append, hg, placesTo_used, ih (by omega), usedH_take hT]

theorem placesTo_nodup (p : Int) (T : List (Option Tup)) (n : Nat) : (placesTo p T n).Nodup := by
  unfold placesTo
  refine List.Pairwise.filterMap _ (fun a a' hne b hb b' hb' e => ?_) List.nodup_range
  simp at hb hb'
  subst e
  have := hb.2.trans hb'.2.symm
  simp at this
  omega

theorem placesH_nodup (H : List (List (Option Tup))) (k : Nat) : (placesH H k).Nodup := by
  induction k with
  | zero => exact List.nodup_nil
  | succ k ih =>
    show (placesH H k ++ placesTo (k : Int) (H.getD k []) (H.getD k []).length).Nodup
    rw [List.nodup_append]
    refine ⟨ih, placesTo_nodup _ _ _, fun a ha b hb e => ?_⟩
    subst e
    obtain ⟨h1, _⟩ := placesTo_get hb
    have : ∀ j, j ≤ k → ∀ x ∈ placesH H j, x.1 < (j : Int) := by
      intro j
      induction j with
      | zero => intro _ x hx; cases hx
      | succ j ihj =>
        intro hj x hx
        rcases List.mem_append.1 hx with y | y
        · have := ihj (by omega) x y; omega
        · obtain ⟨h, _⟩ := placesTo_get y; omega
    have := this k (Nat.le_refl _) a ha
    omega

end Go.Proofs.YtmkaomglecfmfaaGreatDoor

namespace Go.Proofs.YtmkaomglecfmfaaGreatDoor
open Go.RowKit Go.Lap

/-- A first table. -/
def makeSt (s : St) (name nm : ByteArray) (kd own : Nat) : St := { s with T := [⟨s.blast + 1, name, [(nm, kd)], own, 0⟩], I := [], blast := s.blast + 1, hs := upd s.hs (s.blast + 1) (some []) }

def StoreMakePost (w : World) (sb : Nat) (o : Nat → Nat) (s' : St) (e : Ending) (w' : World) : Prop := e = .returned (.int .i64 0) ∧ StepTo w sb o s' w'

theorem storeMake_done {w w2 w3 w5 w6 : World} {sb lb bb pb mh mt ms hb kd own : Nat} {o : Nat → Nat} {s : St} {fh ft fs : Nat → Option Value} {name nm : ByteArray} (h : StoreRow w sb o s lb bb pb mh mt ms fh ft fs) (_hT : s.T = []) (_hI : s.I = []) (hid : s.hs (s.blast + 1) = none) (hq2 : Quiet w w2)
    (ho3 : Only (fun k => o k = 3) w2 w3) (hb3 : BookIs w3 (fun k => o k = 3 ∨ w2.heap.size ≤ k) bb [⟨s.blast + 1, name, [(nm, kd)], own, 0⟩] [] (s.blast + 1)) (hq5 : Quiet w3 w5) (hh5 : HeapIs w5 hb pb (fun k => w3.heap.size ≤ k) [])
    (ho6 : Only (fun k => k = mh) w5 w6) (hm : MapF w6 mh (upd fh (s.blast + 1) (some (ptrV hb)))) : StepTo w sb o (makeSt s name nm kd own) w6 := by
  have h2 := h.quietly hq2
  have h3 := h2.setBook ho3 hb3
  have hbig := h3.big
  have h5 := h3.quietly hq5
  have tm : grow o w2.heap.size w3.heap.size 3 mh = 6 := h3.tags.2.2.1
  have hnm : ¬ w3.heap.size ≤ mh := fun x => by have := hbig mh x; omega
  have h6 := h5.newHeap (B := w3.heap.size) (id := s.blast + 1) (hb := hb) (H' := []) hbig hq5.size hid ho6 hm (hh5.kept ho6 (fun k hk e => by omega))
  have s1 := ho3.size
  have s2 := hq5.size
  have s0 := hq2.size
  have e6 : o mh = 6 := h.tags.2.2.1
  refine ⟨_, fun k hk => ?_, (((hq2.mono (T := fun k => o k ≠ 0) (fun _ _ x => x.elim)).trans' ho3 (fun k _ e => by omega)).trans' hq5 (fun k _ e => e.elim)).trans' ho6 (fun k _ e => by rw [e, e6]; omega), _, _, _, _, _, _, _, _, _, h6⟩
  rw [grow_old (by omega), grow_old (by omega)]

set_option maxHeartbeats 4000000 in
set_option maxRecDepth 100000 in
theorem store_make {w : World} {sb x kd c2 : Nat} {o : Nat → Nat} {s : St} {y : Snap} {name nm : ByteArray} {S2 : Nat → Prop} {A2 : Option Addr} (h : StoreAt w sb o s) (hx : U64 x) (hy : s.sn x = some y) (hT : s.T = []) (hI : s.I = []) (hid : s.hs (s.blast + 1) = none) (hl : s.blast < 1000000) (hu : U64 y.own)
    (hnm : Small name) (hcn : Small nm) (hk : 1 ≤ kd ∧ kd ≤ 3) (hr : Rd w S2 2 A2 1 (colsV [(nm, kd)])) (hS : ∀ k, S2 k → o k ≠ 3) (hc2 : 1 ≤ c2) (hm2 : c2 ≤ maxLen) :
    Calls Tryz.prog 7 #[ptrV sb, .int .u64 (x : Int), .string name, .slice A2 1 c2] w (StoreMakePost w sb o (makeSt s name nm kd y.own)) := by
  have HRU := Lib.hid (store_runs h hx)
  obtain ⟨lb, bb, pb, mh, mt, ms, fh, ft, fs, h⟩ := h
  have HH := Lib.hid h
  have HR := Lib.hid hr
  unfold RunsPost at HRU
  rw [hy] at HRU
  clear hr
  go_enter Tryz.func7, Tryz.ntmps7
  go_wp2_with fail
  refine HRU.out.mono ?_
  rintro e w1 ⟨hq1, A, c, rfl, hs1⟩
  clear HRU
  have hq2 : Quiet w (w1.alloc (.cells (snapCells y A c) 70)) := hq1.alloc _
  have hpb := alloc_new w1 (.cells (snapCells y A c) 70)
  have hs2 := hs1.kept ((Only.refl (fun _ => False) w1).alloc (.cells (snapCells y A c) 70)) (fun _ _ x => x)
  have hz1 := hq1.size
  obtain ⟨pv, hpv⟩ : ∃ pv, w1.heap.size = pv := ⟨_, rfl⟩
  unfold snapV
  go_wp2_with fail
  rw [hpv] at hpb hz1
  have hpo : o pv = 0 := h.big pv hz1
  obtain ⟨t1, t2, t3, t4, t5⟩ := h.tags
  generalize w1.alloc (.cells (snapCells y A c) 70) = w2 at *
  obtain ⟨c0, c1, q2, q3, _, _, _⟩ := (h.quietly hq2).cells
  obtain ⟨p0, p1, p2, p3⟩ : w2.cell? ⟨pv, 0, none⟩ = some (.int .u64 (y.own : Int)) ∧ w2.cell? ⟨pv, 1, none⟩ = some (.int .u64 (y.xmin : Int)) ∧ w2.cell? ⟨pv, 2, none⟩ = some (.int .u64 (y.xmax : Int)) ∧ w2.cell? ⟨pv, 3, none⟩ = some (.slice A y.run.length c) :=
    ⟨by rw [cell_of hpb]; rfl, by rw [cell_of hpb]; rfl, by rw [cell_of hpb]; rfl, by rw [cell_of hpb]; rfl⟩
  have hs3 : ¬ o sb = 3 := by omega
  have hp3 : ¬ o pv = 3 := by omega
  have HBK : Hid (Calls Tryz.prog 24 #[ptrV bb, ptrV lb, snapV y A c, .string name, .slice A2 1 c2] w2.drew (FirstPost w2.drew (fun k => o k = 3) bb s.blast ⟨s.blast + 1, name, [(nm, kd)], y.own, 0⟩)) := by
    have hbk := (h.quietly hq2).book
    rw [hT, hI] at hbk
    exact book_first (S := fun _ => False) (hbk.kept ((Only.refl (fun _ => False) w2).drew) (fun _ _ x => x)) hl hnm hcn hk hu (HR.out.kept hq2.drew (fun _ _ x => x)) hS hc2 hm2
  have HQ2 := Lib.hid hq2
  have lsb := cell_lt c0
  have lpv := cell_lt p0
  dsimp only at lsb lpv
  unfold snapV at HBK
  clear hq1 hs1 hs2 hpb hz1 hpo hq2 HR h t1 t2 t3 t4 t5
  refine wp_region_held_drew (S := fun w' => w'.cell? ⟨sb, 1, none⟩ = some (ptrV bb) ∧ w'.cell? ⟨sb, 0, none⟩ = some (ptrV lb) ∧ w'.cell? ⟨pv, 0, none⟩ = some (.int .u64 (y.own : Int)) ∧ w'.cell? ⟨pv, 1, none⟩ = some (.int .u64 (y.xmin : Int)) ∧ w'.cell? ⟨pv, 2, none⟩ = some (.int .u64 (y.xmax : Int)) ∧ w'.cell? ⟨pv, 3, none⟩ = some (.slice A y.run.length c)) (by kernel_rfl) (⟨c1, c0, p0, p1, p2, p3⟩) (fun hHeld => ?_)
  simp only [List.size_toArray, List.length_cons, List.length_nil, Nat.reduceAdd]
  (refine zTK 0 (oi := ?_) (v := ?_) ?_ ?_ (Or.inl ⟨?_, ?_⟩) ?_; rotate_left 2; (focus (simp only [zGA, zGZ, zGS] <;> rfl)); (focus (exact fun _ _ _ h => h)); (focus rfl); (focus (intro w hSw; (try dsimp only at hSw); go_simp; (try with_reducible rfl); done)); (try simp only [Act.put, zPA, zPZ, zPS]))
  (refine zTK 1 (oi := ?_) (v := ?_) ?_ ?_ (Or.inl ⟨?_, ?_⟩) ?_; rotate_left 2; (focus (simp only [zGA, zGZ, zGS] <;> rfl)); (focus (exact fun _ _ _ h => h)); (focus rfl); (focus (intro w hSw; (try dsimp only at hSw); go_simp; (try with_reducible rfl); done)); (try simp only [Act.put, zPA, zPZ, zPS]))
  (refine zTK 2 (oi := ?_) (v := ?_) ?_ ?_ (Or.inl ⟨?_, ?_⟩) ?_; rotate_left 2; (focus (simp only [zGA, zGZ, zGS] <;> rfl)); (focus (exact fun _ _ _ h => h)); (focus rfl); (focus (intro w hSw; (try dsimp only at hSw); go_simp; (try with_reducible rfl); done)); (try simp only [Act.put, zPA, zPZ, zPS]))
  (refine zTK 3 (oi := ?_) (v := ?_) ?_ ?_ (Or.inl ⟨?_, ?_⟩) ?_; rotate_left 2; (focus (simp only [zGA, zGZ, zGS] <;> rfl)); (focus (exact fun _ _ _ h => h)); (focus rfl); (focus (intro w hSw; (try dsimp only at hSw); go_simp; (try with_reducible rfl); done)); (try simp only [Act.put, zPA, zPZ, zPS]))
  (refine zTK 4 (oi := ?_) (v := ?_) ?_ ?_ (Or.inl ⟨?_, ?_⟩) ?_; rotate_left 2; (focus (simp only [zGA, zGZ, zGS] <;> rfl)); (focus (exact fun _ _ _ h => h)); (focus rfl); (focus (intro w hSw; (try dsimp only at hSw); go_simp; (try with_reducible rfl); done)); (try simp only [Act.put, zPA, zPZ, zPS]))
  (refine zTK 5 (oi := ?_) (v := ?_) ?_ ?_ (Or.inl ⟨?_, ?_⟩) ?_; rotate_left 2; (focus (simp only [zGA, zGZ, zGS] <;> rfl)); (focus (exact fun _ _ _ h => h)); (focus rfl); (focus (intro w hSw; (try dsimp only at hSw); go_simp; (try with_reducible rfl); done)); (try simp only [Act.put, zPA, zPZ, zPS]))
  (refine zTK 6 (oi := ?_) (v := ?_) ?_ ?_ (Or.inl ⟨?_, ?_⟩) ?_; rotate_left 2; (focus (simp only [zGA, zGZ, zGS] <;> rfl)); (focus (exact fun _ _ _ h => h)); (focus rfl); (focus (intro w hSw; (try dsimp only at hSw); go_simp; (try with_reducible rfl); done)); (try simp only [Act.put, zPA, zPZ, zPS]))
  (refine zTK 7 (oi := ?_) (v := ?_) ?_ ?_ (Or.inl ⟨?_, ?_⟩) ?_; rotate_left 2; (focus (simp only [zGA, zGZ, zGS] <;> rfl)); (focus (exact fun _ _ _ h => h)); (focus rfl); (focus (intro w hSw; (try dsimp only at hSw); go_simp; (try with_reducible rfl); done)); (try simp only [Act.put, zPA, zPZ, zPS]))
  (refine zTK 8 (oi := ?_) (v := ?_) ?_ ?_ (Or.inl ⟨?_, ?_⟩) ?_; rotate_left 2; (focus (simp only [zGA, zGZ, zGS] <;> rfl)); (focus (exact fun _ _ _ h => h)); (focus rfl); (focus (intro w hSw; (try dsimp only at hSw); go_simp; (try with_reducible rfl); done)); (try simp only [Act.put, zPA, zPZ, zPS]))
  (refine zTK 9 (oi := ?_) (v := ?_) ?_ ?_ (Or.inl ⟨?_, ?_⟩) ?_; rotate_left 2; (focus (simp only [zGA, zGZ, zGS] <;> rfl)); (focus (exact fun _ _ _ h => h)); (focus rfl); (focus (intro w hSw; (try dsimp only at hSw); go_simp; (try with_reducible rfl); done)); (try simp only [Act.put, zPA, zPZ, zPS]))
  (refine zTK 10 (oi := ?_) (v := ?_) ?_ ?_ (Or.inl ⟨?_, ?_⟩) ?_; rotate_left 2; (focus (simp only [zGA, zGZ, zGS] <;> rfl)); (focus (exact fun _ _ _ h => h)); (focus rfl); (focus (intro w hSw; (try dsimp only at hSw); go_simp; (try with_reducible rfl); done)); (try simp only [Act.put, zPA, zPZ, zPS]))
  refine wpAnyH_ready (rs := [11]) (by kernel_rfl) (by simp) ?_
  refine AllReadyH.cons (o := ?_) ?_ ?_ AllReadyH.nil
  rotate_left 1
  (focus (simp only [zGA, zGZ, zGS] <;> rfl))
  intro K hK
  go_simp
  go_at_call 24
  refine (HBK.out).mono ?_
  rintro e w3 ⟨rfl, ho3, hb3⟩
  dsimp only
  refine hK.out _ _ ?_ (fun hHeld => ?_)
  · exact ⟨ho3.cell hHeld.1 hs3, ho3.cell hHeld.2.1 hs3, ho3.cell hHeld.2.2.1 hp3, ho3.cell hHeld.2.2.2.1 hp3, ho3.cell hHeld.2.2.2.2.1 hp3, ho3.cell hHeld.2.2.2.2.2 hp3⟩
  clear hK K
  (try simp only [Act.put, zPA, zPZ, zPS])
  (refine zTK 12 (oi := ?_) (v := ?_) ?_ ?_ (Or.inl ⟨?_, ?_⟩) ?_; rotate_left 2; (focus (simp only [zGA, zGZ, zGS] <;> rfl)); (focus (exact fun _ _ _ h => h)); (focus rfl); (focus (intro w hSw; (try dsimp only at hSw); go_simp; (try with_reducible rfl); done)); (try simp only [Act.put, zPA, zPZ, zPS]))
  (refine zTK 13 (oi := ?_) (v := ?_) ?_ ?_ (Or.inl ⟨?_, ?_⟩) ?_; rotate_left 2; (focus (simp only [zGA, zGZ, zGS] <;> rfl)); (focus (exact fun _ _ _ h => h)); (focus rfl); (focus (intro w hSw; (try dsimp only at hSw); go_simp; (try with_reducible rfl); done)); (try simp only [Act.put, zPA, zPZ, zPS]))
  (refine zTK 14 (oi := ?_) (v := ?_) ?_ ?_ (Or.inl ⟨?_, ?_⟩) ?_; rotate_left 2; (focus (simp only [zGA, zGZ, zGS] <;> rfl)); (focus (exact fun _ _ _ h => h)); (focus rfl); (focus (intro w hSw; (try dsimp only at hSw); go_simp; (try with_reducible rfl); done)); (try simp only [Act.put, zPA, zPZ, zPS]))
  (refine zTK 15 (oi := ?_) (v := ?_) ?_ ?_ (Or.inl ⟨?_, ?_⟩) ?_; rotate_left 2; (focus (simp only [zGA, zGZ, zGS] <;> rfl)); (focus (exact fun _ _ _ h => h)); (focus rfl); (focus (intro w hSw; (try dsimp only at hSw); go_simp; (try with_reducible rfl); done)); (try simp only [Act.put, zPA, zPZ, zPS]))
  (refine zTK 16 (oi := ?_) (v := ?_) ?_ ?_ (Or.inl ⟨?_, ?_⟩) ?_; rotate_left 2; (focus (simp only [zGA, zGZ, zGS] <;> rfl)); (focus (exact fun _ _ _ h => h)); (focus rfl); (focus (intro w hSw; (try dsimp only at hSw); go_simp; (try with_reducible rfl); done)); (try simp only [Act.put, zPA, zPZ, zPS]))
  refine wpAnyH_done (by kernel_rfl) ?_ _
  have HO3 : Hid (Only (fun k => o k = 3) w2 w3) := ((Only.refl _ w2).drew).trans ho3
  have HB3 := Lib.hid hb3
  have d3 := HO3.out.cell q3 hs3
  have d2 := HO3.out.cell q2 hs3
  have HMH : Hid (MapF w3 mh fh) := ((HH.out.mH.kept HQ2.out (fun x => x)).kept HO3.out (by have := HH.out.tags.2.2.1; omega))
  have HX : Hid (U64 (s.blast + 1)) := by unfold Hid U64; omega
  have en : ((s.blast : Int) + 1) = ((s.blast + 1 : Nat) : Int) := by omega
  have lsb3 := cell_lt d3
  dsimp only at lsb3
  rw [en]
  clear ho3 hb3 hHeld c0 c1 p0 p1 p2 p3 q2 q3 HBK lsb lpv en
  go_wp2_with fail
  refine wp_region_last (S := fun w' => w'.cell? ⟨sb, 3, none⟩ = some (.map (some mh)) ∧ w'.cell? ⟨sb, 2, none⟩ = some (ptrV pb) ∧ Quiet w3 w') (by kernel_rfl) (by kernel_rfl) (by simp) (⟨d3, d2, (Only.refl _ _).drew⟩) (fun hHeld => ?_)
  simp only [List.pop_toArray, List.dropLast, List.size_toArray, List.length_cons, List.length_nil, Nat.reduceAdd, Nat.reduceSub]
  (refine zTK 0 (oi := ?_) (v := ?_) ?_ ?_ (Or.inl ⟨?_, ?_⟩) ?_; rotate_left 2; (focus (simp only [zGA, zGZ, zGS] <;> rfl)); (focus (exact fun _ _ _ => last_panic (fun h => h))); (focus rfl); (focus (intro w hSw; (try dsimp only at hSw); go_simp; (try with_reducible rfl); done)); (try simp only [Act.put, zPA, zPZ, zPS]))
  (refine zTK 1 (oi := ?_) (v := ?_) ?_ ?_ (Or.inl ⟨?_, ?_⟩) ?_; rotate_left 2; (focus (simp only [zGA, zGZ, zGS] <;> rfl)); (focus (exact fun _ _ _ => last_panic (fun h => h))); (focus rfl); (focus (intro w hSw; (try dsimp only at hSw); go_simp; (try with_reducible rfl); done)); (try simp only [Act.put, zPA, zPZ, zPS]))
  (refine zTK 2 (oi := ?_) (v := ?_) ?_ ?_ (Or.inl ⟨?_, ?_⟩) ?_; rotate_left 2; (focus (simp only [zGA, zGZ, zGS] <;> rfl)); (focus (exact fun _ _ _ => last_panic (fun h => h))); (focus rfl); (focus (intro w hSw; (try dsimp only at hSw); go_simp; (try with_reducible rfl); done)); (try simp only [Act.put, zPA, zPZ, zPS]))
  (refine zTK 3 (oi := ?_) (v := ?_) ?_ ?_ (Or.inl ⟨?_, ?_⟩) ?_; rotate_left 2; (focus (simp only [zGA, zGZ, zGS] <;> rfl)); (focus (exact fun _ _ _ => last_panic (fun h => h))); (focus rfl); (focus (intro w hSw; (try dsimp only at hSw); go_simp; (try with_reducible rfl); done)); (try simp only [Act.put, zPA, zPZ, zPS]))
  (refine zTK 4 (oi := ?_) (v := ?_) ?_ ?_ (Or.inl ⟨?_, ?_⟩) ?_; rotate_left 2; (focus (simp only [zGA, zGZ, zGS] <;> rfl)); (focus (exact fun _ _ _ => last_panic (fun h => h))); (focus rfl); (focus (intro w hSw; (try dsimp only at hSw); go_simp; (try with_reducible rfl); done)); (try simp only [Act.put, zPA, zPZ, zPS]))
  (refine zTK 5 (oi := ?_) (v := ?_) ?_ ?_ (Or.inl ⟨?_, ?_⟩) ?_; rotate_left 2; (focus (simp only [zGA, zGZ, zGS] <;> rfl)); (focus (exact fun _ _ _ => last_panic (fun h => h))); (focus rfl); (focus (intro w hSw; (try dsimp only at hSw); go_simp; (try with_reducible rfl); done)); (try simp only [Act.put, zPA, zPZ, zPS]))
  (refine zTK 6 (oi := ?_) (v := ?_) ?_ ?_ (Or.inl ⟨?_, ?_⟩) ?_; rotate_left 2; (focus (simp only [zGA, zGZ, zGS] <;> rfl)); (focus (exact fun _ _ _ => last_panic (fun h => h))); (focus rfl); (focus (intro w hSw; (try dsimp only at hSw); go_simp; (try with_reducible rfl); done)); (try simp only [Act.put, zPA, zPZ, zPS]))
  (refine zTK 7 (oi := ?_) (v := ?_) ?_ ?_ (Or.inl ⟨?_, ?_⟩) ?_; rotate_left 2; (focus (simp only [zGA, zGZ, zGS] <;> rfl)); (focus (exact fun _ _ _ => last_panic (fun h => h))); (focus rfl); (focus (intro w hSw; (try dsimp only at hSw); go_simp; (try with_reducible rfl); done)); (try simp only [Act.put, zPA, zPZ, zPS]))
  (refine zTK 8 (oi := ?_) (v := ?_) ?_ ?_ (Or.inl ⟨?_, ?_⟩) ?_; rotate_left 2; (focus (simp only [zGA, zGZ, zGS] <;> rfl)); (focus (exact fun _ _ _ => last_panic (fun h => h))); (focus rfl); (focus (intro w hSw; (try dsimp only at hSw); go_simp; (try with_reducible rfl); done)); (try simp only [Act.put, zPA, zPZ, zPS]))
  refine wpAnyH_ready (rs := [9]) (by kernel_rfl) (by simp) ?_
  refine AllReadyH.cons (o := ?_) ?_ ?_ ?_
  rotate_left 1
  (focus (simp only [zGA, zGZ, zGS] <;> rfl))
  · intro K hK
    go_simp
    go_at_call 25
    refine (heap_new pb _).mono ?_
    rintro e w5 ⟨hb, rfl, hq5, hh5⟩
    dsimp only
    refine hK.out _ _ ?_ (fun hHeld => ?_)
    · exact ⟨hq5.cell hHeld.1 (fun x => x), hq5.cell hHeld.2.1 (fun x => x), hHeld.2.2.trans hq5⟩
    clear hK K
    (try simp only [Act.put, zPA, zPZ, zPS])
    refine wpAnyH_done (by kernel_rfl) ?_ _
    refine last_step (o := ?_) ?_ ?_
    rotate_left 1
    (focus (simp only [zGA, zGZ, zGS] <;> rfl))
    intro K hK
    refine wp_put (.tmp 41) (.tmp 42) (.tmp 47) rfl (HMH.out.kept hHeld.2.2 (fun x => x)) Tryz.underlying63 Tryz.underlying28 rfl rfl rfl HX.out ?_
    intro w6 hm6 ho6
    refine hK.out _ _ ?_
    clear hK K
    have hm7 : MapF w6 mh (upd fh (s.blast + 1) (some (ptrV hb))) := hm6
    have HD : Hid (StepTo w sb o (makeSt s name nm kd y.own) w6) := storeMake_done HH.out hT hI hid HQ2.out HO3.out HB3.out hHeld.2.2 hh5 ho6 hm7
    clear hm6 hm7 ho6 hHeld hh5 hq5 HH HMH HQ2 HO3 HB3
    dsimp only [Act.put]
    go_wp2
    go_ret
    exact ⟨rfl, HD.out⟩
  exact AllReadyH.nil

end Go.Proofs.YtmkaomglecfmfaaGreatDoor

namespace Go.Proofs.YtmkaomglecfmfaaGreatDoor
open Go.RowKit Go.Lap

/-- Block sb is a store; all that is its own is new since w0, and none of it is the law's (K). -/
def LawSt (w0 w : World) (sb : Nat) (K : Nat → Prop) (s : St) : Prop := ∃ o, StoreAt w sb o s ∧ Quiet w0 w ∧ (∀ k, k < w0.heap.size → o k = 0) ∧ ∀ k, K k → o k = 0 ∧ k < w.heap.size

/-- What a call on it leaves. -/
def LawTo (w0 w : World) (sb : Nat) (K : Nat → Prop) (s' : St) (w' : World) : Prop := LawSt w0 w' sb K s' ∧ Only (fun k => w0.heap.size ≤ k ∧ ¬ K k) w w'

section
variable {w0 w w' w1 : World} {sb : Nat} {K K' : Nat → Prop} {s s' : St} {o : Nat → Nat}

theorem LawSt.quietly (h : LawSt w0 w sb K s) (hq : Quiet w w1) : LawSt w0 w1 sb (fun k => K k ∨ (w.heap.size ≤ k ∧ k < w1.heap.size)) s := by
  obtain ⟨o, h1, h2, h3, h4⟩ := h
  refine ⟨o, h1.quietly hq, h2.trans hq, h3, fun k hk => ?_⟩
  rcases hk with x | x
  · exact ⟨(h4 k x).1, Nat.lt_of_lt_of_le (h4 k x).2 hq.size⟩
  · exact ⟨h1.big k x.1, x.2⟩

theorem LawSt.mono (h : LawSt w0 w sb K s) (hk : ∀ k, K' k → K k) : LawSt w0 w sb K' s := by
  obtain ⟨o, h1, h2, h3, h4⟩ := h
  exact ⟨o, h1, h2, h3, fun k x => h4 k (hk k x)⟩

theorem LawSt.same (h : LawSt w0 w sb K s) (hq : Quiet w w1) : LawSt w0 w1 sb K s := (h.quietly hq).mono (fun _ x => Or.inl x)

/-- Where only what is the law's own turns. -/
theorem LawSt.turn (h : LawSt w0 w sb K s) (ho : Only K w w1) (hK : ∀ k, K k → w0.heap.size ≤ k) : LawSt w0 w1 sb K s := by
  obtain ⟨o, h1, h2, h3, h4⟩ := h
  exact ⟨o, h1.kept ho (fun k x => (h4 k x).1), h2.trans' ho (fun k hk x => by have := hK k x; omega), h3, fun k x => ⟨(h4 k x).1, Nat.lt_of_lt_of_le (h4 k x).2 ho.size⟩⟩

theorem LawSt.quiet (h : LawSt w0 w sb K s) : Quiet w0 w := by
  obtain ⟨o, h1, h2, h3, h4⟩ := h
  exact h2

theorem LawSt.lt (h : LawSt w0 w sb K s) {k : Nat} (hk : K k) : k < w.heap.size := by
  obtain ⟨o, h1, h2, h3, h4⟩ := h
  exact (h4 k hk).2

theorem law_step (h1 : StoreAt w sb o s) (h2 : Quiet w0 w) (h3 : ∀ k, k < w0.heap.size → o k = 0) (h4 : ∀ k, K k → o k = 0 ∧ k < w.heap.size) (hst : StepTo w sb o s' w') : LawTo w0 w sb K s' w' := by
  obtain ⟨o', a, b, c⟩ := hst
  have hs := h2.size
  refine ⟨⟨o', c, h2.trans' b (fun k hk x => x (h3 k hk)), fun k hk => by rw [a k (by omega)]; exact h3 k hk, fun k x => ?_⟩, b.mono (fun k hk x => ?_)⟩
  · obtain ⟨y1, y2⟩ := h4 k x
    exact ⟨by rw [a k y2]; exact y1, Nat.lt_of_lt_of_le y2 b.size⟩
  · refine ⟨?_, fun y => x (h4 k y).1⟩
    rcases Nat.lt_or_ge k w0.heap.size with y | y
    · exact absurd (h3 k y) x
    · exact y

theorem LawTo.st (h : LawTo w0 w sb K s' w') : LawSt w0 w' sb K s' := h.1

theorem law_new (n : Nat) (hn : n ≤ 256) (w : World) :
    Calls Tryz.prog 5 #[.int .i64 (n : Int)] w fun e w' => ∃ sb, e = .returned (.tuple #[ptrV sb, .int .i64 0]) ∧ LawSt w w' sb (fun _ => False) (st0 n) := by
  refine (store_new n hn w).mono ?_
  rintro e w' ⟨sb, o, rfl, hq, h0, hst⟩
  exact ⟨sb, rfl, o, hst, hq, h0, fun _ x => x.elim⟩

theorem law_begin (h : LawSt w0 w sb K s) (hl : s.L.length < 1000000) :
    Calls Tryz.prog 6 #[ptrV sb] w fun e w' => e = .returned (.tuple #[.int .u64 ((s.L.length : Int) + 1), .int .i64 0]) ∧ LawTo w0 w sb K (begSt s) w' := by
  obtain ⟨o, h1, h2, h3, h4⟩ := h
  refine (store_begin h1 hl).mono ?_
  rintro e w' ⟨rfl, hst⟩
  exact ⟨rfl, law_step h1 h2 h3 h4 hst⟩

theorem law_commit {x : Nat} (h : LawSt w0 w sb K s) (hx : U64 x) :
    Calls Tryz.prog 17 #[ptrV sb, .int .u64 (x : Int)] w fun e w' => e = .returned (.int .i64 ((endL s.L x 2).1 : Int)) ∧ LawTo w0 w sb K (endSt s x 2) w' := by
  obtain ⟨o, h1, h2, h3, h4⟩ := h
  refine (store_commit h1 hx).mono ?_
  rintro e w' ⟨rfl, hst⟩
  exact ⟨rfl, law_step h1 h2 h3 h4 hst⟩

theorem law_make {x kd c2 : Nat} {y : Snap} {name nm : ByteArray} {A2 : Option Addr} (h : LawSt w0 w sb K s) (hx : U64 x) (hy : s.sn x = some y) (hT : s.T = []) (hI : s.I = []) (hid : s.hs (s.blast + 1) = none) (hl : s.blast < 1000000) (hu : U64 y.own)
    (hnm : Small name) (hcn : Small nm) (hk : 1 ≤ kd ∧ kd ≤ 3) (hr : Rd w K 2 A2 1 (colsV [(nm, kd)])) (hc2 : 1 ≤ c2) (hm2 : c2 ≤ maxLen) :
    Calls Tryz.prog 7 #[ptrV sb, .int .u64 (x : Int), .string name, .slice A2 1 c2] w fun e w' => e = .returned (.int .i64 0) ∧ LawTo w0 w sb K (makeSt s name nm kd y.own) w' := by
  obtain ⟨o, h1, h2, h3, h4⟩ := h
  refine (store_make h1 hx hy hT hI hid hl hu hnm hcn hk hr (fun k hk => by have := (h4 k hk).1; omega) hc2 hm2).mono ?_
  rintro e w' ⟨rfl, hst⟩
  exact ⟨rfl, law_step h1 h2 h3 h4 hst⟩

theorem law_insert {x i c3 n left' : Nat} {y : Snap} {t : TE} {name nm : ByteArray} {Sv : Nat → Prop} {A3 : Option Addr} {H H' : List (List (Option Tup))} {p q : Int} (h : LawSt w0 w sb K s) (hx : U64 x) (hy : s.sn x = some y) (hf : findT s.L y name s.T = some i) (ht : s.T[i]? = some t) (hc : t.cols = [(nm, 1)]) (hid : U64 t.id)
    (hI : s.I = []) (hH : s.hs t.id = some H) (hle : H.length + s.left ≤ 256) (hn : n < 256) (hv : Rd w Sv 4 A3 1 (intRow n)) (hc3 : 1 ≤ c3) (hm3 : c3 ≤ maxLen) (hlast : s.last + 1 < 18446744073709551616) (hins : hIns H s.left ⟨s.last + 1, x, 0, -1, -1, rowI n⟩ = ((p, q, 0), H', left')) :
    Calls Tryz.prog 14 #[ptrV sb, .int .u64 (x : Int), .string name, .slice A3 1 c3] w fun e w' => e = .returned (.int .i64 0) ∧ LawTo w0 w sb K (insSt s t.id H' left') w' := by
  obtain ⟨o, h1, h2, h3, h4⟩ := h
  refine (store_insert h1 hx hy hf ht hc hid hI hH hle hn hv hc3 hm3 hlast hins).mono ?_
  rintro e w' ⟨rfl, hst⟩
  exact ⟨rfl, law_step h1 h2 h3 h4 hst⟩

theorem law_update {x i c3 n left' nr cr code : Nat} {y : Snap} {t : TE} {name nm : ByteArray} {Sv : Nat → Prop} {A3 Ar : Option Addr} {H H1 H2 : List (List (Option Tup))} {p q pg sl z : Int} {v : Tup} (h : LawSt w0 w sb K s) (hx : U64 x) (hy : s.sn x = some y) (hf : findT s.L y name s.T = some i) (ht : s.T[i]? = some t) (hc : t.cols = [(nm, 1)]) (hid : U64 t.id)
    (hI : s.I = []) (hH : s.hs t.id = some H) (hle : H.length + s.left ≤ 256) (hn : n < 256) (hv : Rd w Sv 4 A3 1 (intRow n)) (hc3 : 1 ≤ c3) (hm3 : c3 ≤ maxLen) (hg : hGet H pg sl = some v) (hx1 : U64 v.xmin) (hx2 : U64 v.xmax) (hcode : freeS s.L y v.xmin v.xmax = code)
    (hins : code = 0 → hIns H s.left ⟨v.row, x, 0, -1, -1, rowI n⟩ = ((p, q, 0), H1, left')) (hst : hStamp H1 pg sl x p q = (z, H2)) :
    Calls Tryz.prog 11 #[ptrV sb, .int .u64 (x : Int), .string name, .agg #[.int .u64 v.row, .int .i64 pg, .int .i64 sl, .slice Ar nr cr], .slice A3 1 c3] w fun e w' => if code = 0 then e = .returned (.int .i64 z) ∧ LawTo w0 w sb K (putSt s t.id H2 left') w' else e = .returned (.int .i64 (code : Int)) ∧ LawTo w0 w sb K s w' := by
  obtain ⟨o, h1, h2, h3, h4⟩ := h
  refine (store_update h1 hx hy hf ht hc hid hI hH hle hn hv hc3 hm3 hg hx1 hx2 hcode hins hst).mono ?_
  intro e w' hp
  unfold UpdPost at hp
  split at hp
  · rename_i hz
    rw [if_pos hz]
    exact ⟨hp.1, law_step h1 h2 h3 h4 hp.2⟩
  · rename_i hz
    rw [if_neg hz]
    exact ⟨hp.1, law_step h1 h2 h3 h4 hp.2⟩

theorem law_scan {x i : Nat} {y : Snap} {t : TE} {name nm : ByteArray} {H : List (List (Option Tup))} (h : LawSt w0 w sb K s) (hx : U64 x) (hy : s.sn x = some y) (hf : findT s.L y name s.T = some i) (ht : s.T[i]? = some t) (hc : t.cols = [(nm, 1)]) (hid : U64 t.id)
    (hH : s.hs t.id = some H) (hN : ∀ k, k ≤ H.length → (placesH H k).length ≤ 1000000) (hI : IntHeap H) :
    Calls Tryz.prog 10 #[ptrV sb, .int .u64 (x : Int), .string name] w (StoreScanPost w (seenR H s.L y (placesH H H.length))) := by
  obtain ⟨o, h1, h2, h3, h4⟩ := h
  exact store_scan h1 hx hy hf ht hc hid hH hN hI
end

/-- A row in a block that is new. -/
def LitRow (w : World) (size : Nat) (xs : List Value) (e : Ending) (w' : World) : Prop := ∃ b, e = .returned (.slice (some ⟨b, 0, none⟩) 1 1) ∧ Quiet w w' ∧ w.heap.size ≤ b ∧ b < w'.heap.size ∧ Rd w' (fun k => k = b) size (some ⟨b, 0, none⟩) 1 xs

end Go.Proofs.YtmkaomglecfmfaaGreatDoor

namespace Go.Proofs.YtmkaomglecfmfaaGreatDoor
open Go.RowKit Go.Lap

/-- The law's one table. -/
def tabA : TE := ⟨1, ⟨#[116]⟩, [(⟨#[97]⟩, 1)], 1, 0⟩

/-- A store of that table alone. -/
def stA (L : List Nat) (H : List (List (Option Tup))) (left last : Nat) (sn : Nat → Option Snap) : St := ⟨L, [tabA], [], 1, left, upd (fun _ => none) 1 (some H), fun _ => none, sn, last⟩

section
variable {L : List Nat} {H H' : List (List (Option Tup))} {left left' last x v : Nat} {sn : Nat → Option Snap}

theorem stA_ins : insSt (stA L H left last sn) tabA.id H' left' = stA L H' left' (last + 1) sn := by
  show insSt (stA L H left last sn) 1 H' left' = _
  simp only [insSt, stA, upd_upd]
theorem stA_put : putSt (stA L H left last sn) tabA.id H' left' = stA L H' left' last sn := by
  show putSt (stA L H left last sn) 1 H' left' = _
  simp only [putSt, stA, upd_upd]
end

/-- The table is seen by whoever sees transaction 1. -/
theorem tabA_found {L : List Nat} {y : Snap} (h : seesS L y 1 = true) : findT L y ⟨#[116]⟩ [tabA] = some 0 := by
  unfold findT
  rw [List.findIdx?_cons]
  have : isTE L y ⟨#[116]⟩ tabA = true := by
    unfold isTE visS
    show ((⟨#[116]⟩ : ByteArray).toList == (⟨#[116]⟩ : ByteArray).toList && (seesS L y 1 && (decide ((0 : Nat) = 0) || !seesS L y 0))) = true
    rw [h]
    simp
  rw [if_pos this]

/-- A version of nine bytes. -/
def Nine (s : Option Tup) : Prop := ∃ v, s = some v ∧ v.data.length = 9

theorem nine_spent {T : List (Option Tup)} (h : ∀ s ∈ T, Nine s) : spentT T = 43 * T.length := by
  induction T with
  | nil => rfl
  | cons s T ih =>
    obtain ⟨v, rfl, hv⟩ := h s (List.mem_cons_self ..)
    have := ih (fun s hs => h s (List.mem_cons_of_mem _ hs))
    unfold spentT at this ⊢
    rw [List.map_cons, List.sum_cons, this, List.length_cons]
    show 4 + v.size + _ = _
    unfold Tup.size
    omega

theorem nine_free {T : List (Option Tup)} (h : ∀ s ∈ T, Nine s) : freeT T = T.length := by
  unfold freeT
  rw [List.findIdx?_eq_none_iff.2 (fun s hs => by obtain ⟨v, rfl, _⟩ := h s hs; rfl)]
  rfl

theorem nine_room {T : List (Option Tup)} (h : ∀ s ∈ T, Nine s) (hm : T.length ≤ 10) : 9 ≤ roomT T := by
  unfold roomT
  rw [nine_spent h, nine_free h, if_pos rfl]
  omega

theorem nine_ins {T : List (Option Tup)} {t : Tup} {left : Nat} (h : ∀ s ∈ T, Nine s) (hm : T.length ≤ 10) (ht : t.rightB = true) (hd : t.data.length = 9) : hIns [T] left t = (((0 : Int), (T.length : Int), 0), [T ++ [some t]], left) := by
  unfold hIns
  rw [if_neg (by rw [ht]; decide), hd]
  have : findH [T] 9 = some 0 := by
    unfold findH
    rw [List.findIdx?_cons, if_pos (by simpa using nine_room h hm)]
  rw [this]
  show (((0 : Int), ((freeT T : Nat) : Int), 0), [insT T t], left) = _
  unfold insT
  rw [nine_free h, if_pos rfl]

theorem nine_first {t : Tup} {left : Nat} (ht : t.rightB = true) (hl : left ≠ 0) : hIns [] left t = (((0 : Int), 0, 0), [[some t]], left - 1) := by
  unfold hIns
  rw [if_neg (by rw [ht]; decide)]
  show (if left = 0 then _ else _) = _
  rw [if_neg hl]
  rfl

theorem nine_right {r x n : Nat} (hr : r ≤ 1099511627776) (hx : x ≤ 1099511627776) : (⟨r, x, 0, -1, -1, rowI n⟩ : Tup).rightB = true := by
  unfold Tup.rightB
  refine decide_eq_true ⟨hr, hx, Nat.zero_le _, (by show farB (-1) (-1) = false; decide), ?_⟩
  show (rowI n).length ≤ 200
  rw [rowI_length]
  omega

/-- The first version of a page, stamped. -/
theorem nine_stamp {v : Tup} {T : List (Option Tup)} {x : Nat} {p q : Int} (hx : x ≤ 1099511627776) (hf : farB p q = false) : hStamp [some v :: T] 0 0 x p q = (0, [some (v.stamp x p q) :: T]) := by
  unfold hStamp
  rw [if_neg (by simp)]
  have : pStampT (some v :: T) 0 x p q = (0, some (v.stamp x p q) :: T) := by
    unfold pStampT
    rw [if_neg (by rw [hf]; simp; omega)]
    rfl
  show ((pStampT (some v :: T) 0 x p q).1, [(pStampT (some v :: T) 0 x p q).2]) = _
  rw [this]

end Go.Proofs.YtmkaomglecfmfaaGreatDoor

namespace Go.Lap

/-- An index's cells, as it is told. -/
def idxE (e : IE) : List Value := [.int .u64 (e.id : Int), .string e.name, .int .u64 (e.table : Int), .int .i64 (e.column : Int), .int .u64 (e.xmin : Int), .int .u64 (e.xmax : Int)]
abbrev idxV (l : List IE) : List Value := l.flatMap idxE
/-- Those of a table that must be kept up. -/
def keptI (L : List Nat) (id : Nat) (I : List IE) : List IE := I.filter (fun x => decide (x.table = id) && !decide (stateL L x.xmin = 3))

theorem idxV_length : ∀ (l : List IE), (idxV l).length = l.length * 6
  | [] => rfl
  | x :: l => by unfold idxV; rw [List.flatMap_cons, List.length_append]; have := idxV_length l; unfold idxV at this; rw [this, List.length_cons]; show 6 + _ = _; omega
theorem idxV_append (l m : List IE) : idxV (l ++ m) = idxV l ++ idxV m := List.flatMap_append
theorem one_idx (e : IE) : ∀ u ∈ idxE e, u.oneCell' = true := by
  intro u hu
  simp [idxE] at hu
  rcases hu with rfl | rfl | rfl | rfl | rfl | rfl <;> rfl

theorem keptI_take {L : List Nat} {id : Nat} {I : List IE} {k : Nat} {e : IE} (h : I[k]? = some e) : keptI L id (I.take (k + 1)) = keptI L id (I.take k) ++ (if (decide (e.table = id) && !decide (stateL L e.xmin = 3)) = true then [e] else []) := by
  unfold keptI
  rw [List.take_add_one, h, Option.toList_some, List.filter_append]
  congr 1
  rw [List.filter_cons, List.filter_nil]

end Go.Lap
namespace Go.Proofs.YtmkaomglecfmfaaGreatDoor
open Go.RowKit Go.Lap

theorem info_idx : (Tryz.prog.info? 80).map (·.size) = some 6 := by kernel_rfl
theorem elem_idx : Elem Tryz.prog 114 80 6 56 := Elem.mk' (.agg #[.int .u64 0, .string ⟨#[]⟩, .int .u64 0, .int .i64 0, .int .u64 0, .int .u64 0]) Tryz.underlying114 (by kernel_rfl) rfl (by decide)

def IdxTold (w : World) (e : IE) (r : Ending) (w' : World) : Prop := r = .returned (.agg #[.int .u64 (e.id : Int), .string e.name, .int .u64 (e.table : Int), .int .i64 (e.column : Int), .int .u64 (e.xmin : Int), .int .u64 (e.xmax : Int)]) ∧ Quiet w w'

theorem IdxAt.cells {w : World} {F : Nat → Prop} {xb : Nat} {e : IE} (h : IdxAt w F xb e) : w.cell? ⟨xb, 0, none⟩ = some (.int .u64 (e.id : Int)) ∧ w.cell? ⟨xb, 1, none⟩ = some (.string e.name) ∧ w.cell? ⟨xb, 2, none⟩ = some (.int .u64 (e.xmin : Int)) ∧ w.cell? ⟨xb, 3, none⟩ = some (.int .u64 (e.xmax : Int)) ∧ w.cell? ⟨xb, 4, none⟩ = some (.int .u64 (e.table : Int)) ∧ w.cell? ⟨xb, 5, none⟩ = some (.int .i64 (e.column : Int)) :=
  ⟨by rw [cell_of h.box]; rfl, by rw [cell_of h.box]; rfl, by rw [cell_of h.box]; rfl, by rw [cell_of h.box]; rfl, by rw [cell_of h.box]; rfl, by rw [cell_of h.box]; rfl⟩

set_option maxHeartbeats 1000000 in
set_option maxRecDepth 100000 in
theorem index_told {w : World} {F : Nat → Prop} {xb : Nat} {e : IE} (h : IdxAt w F xb e) :
    Calls Tryz.prog 59 #[ptrV xb] w (IdxTold w e) := by
  have HQ0 : Hid (Quiet w (w.alloc (.cells #[.int .u64 0, .string ⟨#[]⟩, .int .u64 0, .int .i64 0, .int .u64 0, .int .u64 0] 80))) := (Only.refl _ _).alloc _
  have HB2 := Lib.hid (alloc_new w (.cells #[.int .u64 0, .string ⟨#[]⟩, .int .u64 0, .int .i64 0, .int .u64 0, .int .u64 0] 80))
  have hlx := lt_of_get h.box
  obtain ⟨r2, hr2⟩ : ∃ r2, w.heap.size = r2 := ⟨_, rfl⟩
  rw [hr2] at HB2
  have HR2 : Hid (xb ≠ r2 ∧ w.heap.size ≤ r2) := ⟨by omega, by omega⟩
  have HH := Lib.hid h
  clear h hlx
  go_enter Tryz.func59, Tryz.ntmps59
  go_wp2_with fail
  (try rw [hr2])
  generalize w.alloc (.cells #[.int .u64 0, .string ⟨#[]⟩, .int .u64 0, .int .i64 0, .int .u64 0, .int .u64 0] 80) = w1 at *
  have HS : Hid (∀ W, Only (fun k => k = r2) w1 W → (fun w' => w'.cell? ⟨xb, 0, none⟩ = some (.int .u64 (e.id : Int)) ∧ w'.cell? ⟨xb, 1, none⟩ = some (.string e.name) ∧ w'.cell? ⟨xb, 2, none⟩ = some (.int .u64 (e.xmin : Int)) ∧ w'.cell? ⟨xb, 3, none⟩ = some (.int .u64 (e.xmax : Int)) ∧ w'.cell? ⟨xb, 4, none⟩ = some (.int .u64 (e.table : Int)) ∧ w'.cell? ⟨xb, 5, none⟩ = some (.int .i64 (e.column : Int))) W) := fun W ho => by
    obtain ⟨c0, c1, c2, c3, c4, c5⟩ := (HH.out.kept HQ0.out (fun _ _ x => x)).cells
    exact ⟨ho.cell c0 (fun x => HR2.out.1 x), ho.cell c1 (fun x => HR2.out.1 x), ho.cell c2 (fun x => HR2.out.1 x), ho.cell c3 (fun x => HR2.out.1 x), ho.cell c4 (fun x => HR2.out.1 x), ho.cell c5 (fun x => HR2.out.1 x)⟩
  clear hr2
  refine wp_region_held_drew (S := (fun w' => w'.cell? ⟨xb, 0, none⟩ = some (.int .u64 (e.id : Int)) ∧ w'.cell? ⟨xb, 1, none⟩ = some (.string e.name) ∧ w'.cell? ⟨xb, 2, none⟩ = some (.int .u64 (e.xmin : Int)) ∧ w'.cell? ⟨xb, 3, none⟩ = some (.int .u64 (e.xmax : Int)) ∧ w'.cell? ⟨xb, 4, none⟩ = some (.int .u64 (e.table : Int)) ∧ w'.cell? ⟨xb, 5, none⟩ = some (.int .i64 (e.column : Int)))) (by kernel_rfl) (HS.out _ ((Only.refl _ _).drew)) (fun hHeld => ?_)
  simp only [List.size_toArray, List.length_cons, List.length_nil, Nat.reduceAdd]
  have q0 : Quiet w1 w1.drew := (Only.refl _ _).drew
  generalize w1.drew = d0 at q0 hHeld ⊢
  (refine zTK 0 (oi := ?_) (v := ?_) ?_ ?_ (Or.inl ⟨?_, ?_⟩) ?_; rotate_left 2; (focus (simp only [zGA, zGZ, zGS] <;> rfl)); (focus (exact fun _ _ _ h => h)); (focus rfl); (focus (intro w hSw; (try dsimp only at hSw); go_simp; (try with_reducible rfl); done)); (try simp only [Act.put, zPA, zPZ, zPS]))
  (refine zTK 1 (oi := ?_) (v := ?_) ?_ ?_ (Or.inl ⟨?_, ?_⟩) ?_; rotate_left 2; (focus (simp only [zGA, zGZ, zGS] <;> rfl)); (focus (exact fun _ _ _ h => h)); (focus rfl); (focus (intro w hSw; (try dsimp only at hSw); go_simp; (try with_reducible rfl); done)); (try simp only [Act.put, zPA, zPZ, zPS]))
  (refine zTK 2 (oi := ?_) (v := ?_) ?_ ?_ (Or.inl ⟨?_, ?_⟩) ?_; rotate_left 2; (focus (simp only [zGA, zGZ, zGS] <;> rfl)); (focus (exact fun _ _ _ h => h)); (focus rfl); (focus (intro w hSw; (try dsimp only at hSw); go_simp; (try with_reducible rfl); done)); (try simp only [Act.put, zPA, zPZ, zPS]))
  (refine zTK 3 (oi := ?_) (v := ?_) ?_ ?_ (Or.inl ⟨?_, ?_⟩) ?_; rotate_left 2; (focus (simp only [zGA, zGZ, zGS] <;> rfl)); (focus (exact fun _ _ _ h => h)); (focus rfl); (focus (intro w hSw; (try dsimp only at hSw); go_simp; (try with_reducible rfl); done)); (try simp only [Act.put, zPA, zPZ, zPS]))
  (refine zTK 4 (oi := ?_) (v := ?_) ?_ ?_ (Or.inl ⟨?_, ?_⟩) ?_; rotate_left 2; (focus (simp only [zGA, zGZ, zGS] <;> rfl)); (focus (exact fun _ _ _ h => h)); (focus rfl); (focus (intro w hSw; (try dsimp only at hSw); go_simp; (try with_reducible rfl); done)); (try simp only [Act.put, zPA, zPZ, zPS]))
  (refine zTK 5 (oi := ?_) (v := ?_) ?_ ?_ (Or.inl ⟨?_, ?_⟩) ?_; rotate_left 2; (focus (simp only [zGA, zGZ, zGS] <;> rfl)); (focus (exact fun _ _ _ h => h)); (focus rfl); (focus (intro w hSw; (try dsimp only at hSw); go_simp; (try with_reducible rfl); done)); (try simp only [Act.put, zPA, zPZ, zPS]))
  (refine zTK 6 (oi := ?_) (v := ?_) ?_ ?_ (Or.inl ⟨?_, ?_⟩) ?_; rotate_left 2; (focus (simp only [zGA, zGZ, zGS] <;> rfl)); (focus (exact fun _ _ _ h => h)); (focus rfl); (focus (intro w hSw; (try dsimp only at hSw); go_simp; (try with_reducible rfl); done)); (try simp only [Act.put, zPA, zPZ, zPS]))
  (refine zTK 7 (oi := ?_) (v := ?_) ?_ ?_ (Or.inl ⟨?_, ?_⟩) ?_; rotate_left 2; (focus (simp only [zGA, zGZ, zGS] <;> rfl)); (focus (exact fun _ _ _ h => h)); (focus rfl); (focus (intro w hSw; (try dsimp only at hSw); go_simp; (try with_reducible rfl); done)); (try simp only [Act.put, zPA, zPZ, zPS]))
  (refine zTK 8 (oi := ?_) (v := ?_) ?_ ?_ (Or.inl ⟨?_, ?_⟩) ?_; rotate_left 2; (focus (simp only [zGA, zGZ, zGS] <;> rfl)); (focus (exact fun _ _ _ h => h)); (focus rfl); (focus (intro w hSw; (try dsimp only at hSw); go_simp; (try with_reducible rfl); done)); (try simp only [Act.put, zPA, zPZ, zPS]))
  (refine zTK 9 (oi := ?_) (v := ?_) ?_ ?_ (Or.inl ⟨?_, ?_⟩) ?_; rotate_left 2; (focus (simp only [zGA, zGZ, zGS] <;> rfl)); (focus (exact fun _ _ _ h => h)); (focus rfl); (focus (intro w hSw; (try dsimp only at hSw); go_simp; (try with_reducible rfl); done)); (try simp only [Act.put, zPA, zPZ, zPS]))
  (refine zTK 10 (oi := ?_) (v := ?_) ?_ ?_ (Or.inl ⟨?_, ?_⟩) ?_; rotate_left 2; (focus (simp only [zGA, zGZ, zGS] <;> rfl)); (focus (exact fun _ _ _ h => h)); (focus rfl); (focus (intro w hSw; (try dsimp only at hSw); go_simp; (try with_reducible rfl); done)); (try simp only [Act.put, zPA, zPZ, zPS]))
  (refine zTK 11 (oi := ?_) (v := ?_) ?_ ?_ (Or.inl ⟨?_, ?_⟩) ?_; rotate_left 2; (focus (simp only [zGA, zGZ, zGS] <;> rfl)); (focus (exact fun _ _ _ h => h)); (focus rfl); (focus (intro w hSw; (try dsimp only at hSw); go_simp; (try with_reducible rfl); done)); (try simp only [Act.put, zPA, zPZ, zPS]))
  (refine zTK 12 (oi := ?_) (v := ?_) ?_ ?_ (Or.inl ⟨?_, ?_⟩) ?_; rotate_left 2; (focus (simp only [zGA, zGZ, zGS] <;> rfl)); (focus (exact fun _ _ _ h => h)); (focus rfl); (focus (intro w hSw; (try dsimp only at hSw); go_simp; (try with_reducible rfl); done)); (try simp only [Act.put, zPA, zPZ, zPS]))
  (refine zTK 13 (oi := ?_) (v := ?_) ?_ ?_ (Or.inl ⟨?_, ?_⟩) ?_; rotate_left 2; (focus (simp only [zGA, zGZ, zGS] <;> rfl)); (focus (exact fun _ _ _ h => h)); (focus rfl); (focus (intro w hSw; (try dsimp only at hSw); go_simp; (try with_reducible rfl); done)); (try simp only [Act.put, zPA, zPZ, zPS]))
  (refine zTK 14 (oi := ?_) (v := ?_) ?_ ?_ (Or.inl ⟨?_, ?_⟩) ?_; rotate_left 2; (focus (simp only [zGA, zGZ, zGS] <;> rfl)); (focus (exact fun _ _ _ h => h)); (focus rfl); (focus (intro w hSw; (try dsimp only at hSw); go_simp; (try with_reducible rfl); done)); (try simp only [Act.put, zPA, zPZ, zPS]))
  (refine zTK 15 (oi := ?_) (v := ?_) ?_ ?_ (Or.inl ⟨?_, ?_⟩) ?_; rotate_left 2; (focus (simp only [zGA, zGZ, zGS] <;> rfl)); (focus (exact fun _ _ _ h => h)); (focus rfl); (focus (intro w hSw; (try dsimp only at hSw); go_simp; (try with_reducible rfl); done)); (try simp only [Act.put, zPA, zPZ, zPS]))
  (refine zTK 16 (oi := ?_) (v := ?_) ?_ ?_ (Or.inl ⟨?_, ?_⟩) ?_; rotate_left 2; (focus (simp only [zGA, zGZ, zGS] <;> rfl)); (focus (exact fun _ _ _ h => h)); (focus rfl); (focus (intro w hSw; (try dsimp only at hSw); go_simp; (try with_reducible rfl); done)); (try simp only [Act.put, zPA, zPZ, zPS]))
  (refine zTK 17 (oi := ?_) (v := ?_) ?_ ?_ (Or.inl ⟨?_, ?_⟩) ?_; rotate_left 2; (focus (simp only [zGA, zGZ, zGS] <;> rfl)); (focus (exact fun _ _ _ h => h)); (focus rfl); (focus (intro w hSw; (try dsimp only at hSw); go_simp; (try with_reducible rfl); done)); (try simp only [Act.put, zPA, zPZ, zPS]))
  (refine zTK 18 (oi := ?_) (v := ?_) ?_ ?_ (Or.inl ⟨?_, ?_⟩) ?_; rotate_left 2; (focus (simp only [zGA, zGZ, zGS] <;> rfl)); (focus (exact fun _ _ _ h => h)); (focus rfl); (focus (intro w hSw; (try dsimp only at hSw); go_simp; (try with_reducible rfl); done)); (try simp only [Act.put, zPA, zPZ, zPS]))
  (refine zTK 19 (oi := ?_) (v := ?_) ?_ ?_ (Or.inl ⟨?_, ?_⟩) ?_; rotate_left 2; (focus (simp only [zGA, zGZ, zGS] <;> rfl)); (focus (exact fun _ _ _ h => h)); (focus rfl); (focus (intro w hSw; (try dsimp only at hSw); go_simp; (try with_reducible rfl); done)); (try simp only [Act.put, zPA, zPZ, zPS]))
  (refine zTK 20 (oi := ?_) (v := ?_) ?_ ?_ (Or.inl ⟨?_, ?_⟩) ?_; rotate_left 2; (focus (simp only [zGA, zGZ, zGS] <;> rfl)); (focus (exact fun _ _ _ h => h)); (focus rfl); (focus (intro w hSw; (try dsimp only at hSw); go_simp; (try with_reducible rfl); done)); (try simp only [Act.put, zPA, zPZ, zPS]))
  (refine zTK 21 (oi := ?_) (v := ?_) ?_ ?_ (Or.inl ⟨?_, ?_⟩) ?_; rotate_left 2; (focus (simp only [zGA, zGZ, zGS] <;> rfl)); (focus (exact fun _ _ _ h => h)); (focus rfl); (focus (intro w hSw; (try dsimp only at hSw); go_simp; (try with_reducible rfl); done)); (try simp only [Act.put, zPA, zPZ, zPS]))
  (refine zTK 22 (oi := ?_) (v := ?_) ?_ ?_ (Or.inl ⟨?_, ?_⟩) ?_; rotate_left 2; (focus (simp only [zGA, zGZ, zGS] <;> rfl)); (focus (exact fun _ _ _ h => h)); (focus rfl); (focus (intro w hSw; (try dsimp only at hSw); go_simp; (try with_reducible rfl); done)); (try simp only [Act.put, zPA, zPZ, zPS]))
  (refine zTK 23 (oi := ?_) (v := ?_) ?_ ?_ (Or.inl ⟨?_, ?_⟩) ?_; rotate_left 2; (focus (simp only [zGA, zGZ, zGS] <;> rfl)); (focus (exact fun _ _ _ h => h)); (focus rfl); (focus (intro w hSw; (try dsimp only at hSw); go_simp; (try with_reducible rfl); done)); (try simp only [Act.put, zPA, zPZ, zPS]))
  (refine zTK 24 (oi := ?_) (v := ?_) ?_ ?_ (Or.inl ⟨?_, ?_⟩) ?_; rotate_left 2; (focus (simp only [zGA, zGZ, zGS] <;> rfl)); (focus (exact fun _ _ _ h => h)); (focus rfl); (focus (intro w hSw; (try dsimp only at hSw); go_simp; (try with_reducible rfl); done)); (try simp only [Act.put, zPA, zPZ, zPS]))
  (refine zTK 25 (oi := ?_) (v := ?_) ?_ ?_ (Or.inl ⟨?_, ?_⟩) ?_; rotate_left 2; (focus (simp only [zGA, zGZ, zGS] <;> rfl)); (focus (exact fun _ _ _ h => h)); (focus rfl); (focus (intro w hSw; (try dsimp only at hSw); go_simp; (try with_reducible rfl); done)); (try simp only [Act.put, zPA, zPZ, zPS]))
  (refine zTK 26 (oi := ?_) (v := ?_) ?_ ?_ (Or.inl ⟨?_, ?_⟩) ?_; rotate_left 2; (focus (simp only [zGA, zGZ, zGS] <;> rfl)); (focus (exact fun _ _ _ h => h)); (focus rfl); (focus (intro w hSw; (try dsimp only at hSw); go_simp; (try with_reducible rfl); done)); (try simp only [Act.put, zPA, zPZ, zPS]))
  (refine zTK 27 (oi := ?_) (v := ?_) ?_ ?_ (Or.inl ⟨?_, ?_⟩) ?_; rotate_left 2; (focus (simp only [zGA, zGZ, zGS] <;> rfl)); (focus (exact fun _ _ _ h => h)); (focus rfl); (focus (intro w hSw; (try dsimp only at hSw); go_simp; (try with_reducible rfl); done)); (try simp only [Act.put, zPA, zPZ, zPS]))
  (refine zTK 28 (oi := ?_) (v := ?_) ?_ ?_ (Or.inl ⟨?_, ?_⟩) ?_; rotate_left 2; (focus (simp only [zGA, zGZ, zGS] <;> rfl)); (focus (exact fun _ _ _ h => h)); (focus rfl); (focus (intro w hSw; (try dsimp only at hSw); go_simp; (try with_reducible rfl); done)); (try simp only [Act.put, zPA, zPZ, zPS]))
  refine wpAnyH_ready (rs := [29]) (by kernel_rfl) (by simp) ?_
  refine AllReadyH.cons (o := ?_) ?_ ?_ AllReadyH.nil
  rotate_left 1
  (focus (simp only [zGA, zGZ, zGS] <;> rfl))
  intro K hK
  have h2 := q0.get HB2.out (fun x => x)
  have z0 := cell_of h2 0
  have z1 := cell_of h2 1
  have z2 := cell_of h2 2
  have z3 := cell_of h2 3
  have z4 := cell_of h2 4
  have z5 := cell_of h2 5
  have zf := fun o => frozen_of h2 o
  simp only [zGA, zGS, zGZ] at z0 z1 z2 z3 z4 z5
  go_simp
  refine hK.out _ _ ?_ (fun hHeld => ?_)
  · exact HS.out _ ((q0.mono (T := fun k => k = r2) (fun _ _ x => x.elim)).trans' (sixSet_only d0 r2 (.int .u64 (e.id : Int)) (.string e.name) (.int .u64 (e.table : Int)) (.int .i64 (e.column : Int)) (.int .u64 (e.xmin : Int)) (.int .u64 (e.xmax : Int))) (fun k _ e => e))
  clear hK K
  (try simp only [Act.put, zPA, zPZ, zPS])
  refine wpAnyH_done (by kernel_rfl) ?_ _
  have HX : Hid ((sixSet d0 r2 (.int .u64 (e.id : Int)) (.string e.name) (.int .u64 (e.table : Int)) (.int .i64 (e.column : Int)) (.int .u64 (e.xmin : Int)) (.int .u64 (e.xmax : Int))).heap[r2]? = some (.cells #[.int .u64 (e.id : Int), .string e.name, .int .u64 (e.table : Int), .int .i64 (e.column : Int), .int .u64 (e.xmin : Int), .int .u64 (e.xmax : Int)] 80 (0, 0))) := sixSet_same h2 _ _ _ _ _ _
  have HP : Hid (IdxTold w e (.returned (.agg #[.int .u64 (e.id : Int), .string e.name, .int .u64 (e.table : Int), .int .i64 (e.column : Int), .int .u64 (e.xmin : Int), .int .u64 (e.xmax : Int)])) (sixSet d0 r2 (.int .u64 (e.id : Int)) (.string e.name) (.int .u64 (e.table : Int)) (.int .i64 (e.column : Int)) (.int .u64 (e.xmin : Int)) (.int .u64 (e.xmax : Int)))) := ⟨rfl, (HQ0.out.trans q0).trans' (sixSet_only d0 r2 (.int .u64 (e.id : Int)) (.string e.name) (.int .u64 (e.table : Int)) (.int .i64 (e.column : Int)) (.int .u64 (e.xmin : Int)) (.int .u64 (e.xmax : Int))) (fun k hk e => by have := HR2.out.2; omega)⟩
  unfold sixSet at HX HP
  clear hHeld q0 h2 z0 z1 z2 z3 z4 z5 zf
  go_wp2
  exact bodyPost_ret (results_cellS Tryz.results59 _ _ r2 _ _ (0, 0) _ (by rfl) HX.out Tryz.underlying80 rfl info_idx) (by rfl) HP.out

/-- The indexes that are told, on their way. -/
structure IdxsW (w wr : World) (v : Value) (l : List IE) : Prop where
  quiet : Quiet w wr
  new : ∀ k, v.ownBlock = some k → w.heap.size ≤ k
  own : wr.ownsRow 0 80 6 v l.length (idxV l)

theorem IdxsW.start {w wr : World} (h : Quiet w wr) : IdxsW w wr (.slice none 0 0) [] := ⟨h, (fun k e => by cases e), World.ownsRow_nil _ _ _ _⟩
theorem IdxsW.quietly {w wr w' : World} {v : Value} {l : List IE} (h : IdxsW w wr v l) (hq : Quiet wr w') : IdxsW w w' v l := ⟨h.quiet.trans hq, h.new, owns_kept h.own hq (fun _ _ x => x)⟩
theorem IdxsW.push {w w3 w4 : World} {v v' : Value} {l : List IE} {e : IE} (h : IdxsW w w3 v l) (hg : Grew w3 w4 80 6 v v' (l.length + 1) (idxV l ++ idxE e)) : IdxsW w w4 v' (l ++ [e]) := by
  have hsz := h.quiet.size
  refine ⟨h.quiet.trans' hg.only (fun k hk e => by have := h.new k e; omega), fun k e => ?_, ?_⟩
  · rcases hg.loc with y | y
    · rw [y] at e; exact h.new k e
    · rw [y] at e; injection e with e; omega
  · rw [List.length_append, idxV_append]
    have e1 : idxV [e] = idxE e := by simp [idxV]
    rw [e1]
    exact hg.own

def KeepPost (w : World) (l : List IE) (e : Ending) (w' : World) : Prop := ∃ v, e = .returned v ∧ IdxsW w w' v l

set_option maxHeartbeats 2000000 in
set_option maxRecDepth 100000 in
theorem book_keep {w : World} {F Fl : Nat → Prop} {bb lb last id : Nat} {T : List TE} {I : List IE} {L : List Nat} (h : BookIs w F bb T I last) (hl : LogAt w Fl lb L) (hI : I.length ≤ 1000) :
    Calls Tryz.prog 83 #[ptrV bb, ptrV lb, .int .u64 (id : Int)] w (KeepPost w (keptI L id I)) := by
  obtain ⟨vT, tps, vI, ips, h, h2, h3⟩ := h
  obtain ⟨_, c1, _⟩ := h.cells
  obtain ⟨A, c, hv, hc, hm, hf⟩ := ptr_form h.rowI
  subst hv
  have HF := Lib.hid hf
  have HX := Lib.hid h3
  have HL := Lib.hid hl
  have lbb := lt_of_get h.box
  obtain ⟨n, hn⟩ : ∃ n, I.length = n := ⟨_, rfl⟩
  have hin : ips.length = n := h2.trans hn
  rw [hin] at c1 hc
  have HIN := Lib.hid hin
  have HN := Lib.hid hn
  rw [hn] at hI
  obtain ⟨POST, hPOST⟩ : ∃ POST, KeepPost w (keptI L id I) = POST := ⟨_, rfl⟩
  rw [hPOST]
  have HPOST := Lib.hid hPOST
  unfold maxLen at hm
  clear h h2 h3 hf hl hn hin hPOST
  go_enter Tryz.func83, Tryz.ntmps83
  go_wp2
  go_loopw [17, 7, 9] (fun i v _ wr => ∃ (k : Nat) (v' : Value), k ≤ n ∧ i = .int .i64 (k : Int) ∧ v = v' ∧ IdxsW w wr v' (keptI L id (I.take k))) (fun i _ _ _ => n - (intOf i).toNat)
  case atStart => exact ⟨0, _, Nat.zero_le _, rfl, rfl, IdxsW.start (Only.refl _ _)⟩
  case round =>
    obtain ⟨k, v', hk, rfl, rfl, hW⟩ := hrel
    have HW := Lib.hid hW
    clear hW
    by_cases hlt : k < n
    · obtain ⟨e, he⟩ : ∃ e, I[k]? = some e := ⟨_, List.getElem?_eq_getElem (by have := HN.out; omega)⟩
      obtain ⟨p, hp, hix⟩ := HX.out k e he
      obtain ⟨g, rfl, hg⟩ := HF.out k p hp
      have hg2 := HW.out.quiet.cell hg (fun x => x)
      have hix2 := hix.kept HW.out.quiet (fun _ _ x => x)
      obtain ⟨e0, e1, e2, e3, e4, e5⟩ := hix2.cells
      have HT := Lib.hid (keptI_take (L := L) (id := id) he)
      have HIX := Lib.hid hix2
      have HST : Hid (Calls Tryz.prog 68 #[ptrV lb, .int .u64 (e.xmin : Int)] wr (fun r w' => r = .returned (.int .i64 (stateL L e.xmin : Int)) ∧ ∃ m, w' = wr.drewN m)) := log_state (HL.out.kept HW.out.quiet (fun _ _ x => x)) hix.num.2.1
      clear he hp hg hix hix2
      by_cases ht : e.table = id
      · obtain ⟨sx, hsx⟩ : ∃ sx, stateL L e.xmin = sx := ⟨_, rfl⟩
        rw [hsx] at HST HT
        have htb : ((e.table : Int) == (id : Int)) = true := by simp [ht]
        have htd : decide (e.table = id) = true := decide_eq_true ht
        rw [htd] at HT
        by_cases h3 : sx = 3
        · have HEQ : Hid (keptI L id (I.take (k + 1)) = keptI L id (I.take k)) := by
            show _ = _
            rw [HT.out, h3]
            simp
          subst ht
          subst h3
          clear htb htd HT
          go_wp2_with fail
          refine HST.out.mono ?_
          rintro r w2 ⟨rfl, m, rfl⟩
          have HW2 := Lib.hid (HW.out.quietly ((Only.refl (fun _ => False) wr).drewN m))
          rw [← HEQ.out] at HW2
          clear HST
          go_wp2
          go_roundw
          case rel => exact ⟨k + 1, _, by omega, by go_num, rfl, HW2.out⟩
          case measure => simp [intOf]; omega
        · have HEQ : Hid (keptI L id (I.take (k + 1)) = keptI L id (I.take k) ++ [e]) := by
            show _ = _
            rw [HT.out]
            simp [h3]
          have h3i : ¬ (sx : Int) = 3 := by omega
          subst ht
          clear htb htd HT h3
          go_wp2_with fail
          refine HST.out.mono ?_
          rintro r w2 ⟨rfl, m, rfl⟩
          have hqd : Quiet wr (wr.drewN m) := (Only.refl (fun _ => False) wr).drewN m
          have HW2 := Lib.hid (HW.out.quietly hqd)
          have HTO := Lib.hid (index_told (HIX.out.kept hqd (fun _ _ x => x)))
          clear HST hqd
          go_wp2_with fail
          refine HTO.out.mono ?_
          rintro r w3 ⟨rfl, hq3⟩
          have HW3 := Lib.hid (HW2.out.quietly hq3)
          have HRD := Lib.hid (Rd.new w3 6 1 (idxE e) 80 (fun _ => True) rfl trivial)
          have HW4 := Lib.hid (HW3.out.quietly ((Only.refl (fun _ => False) w3).alloc (.cells (idxE e).toArray 80)))
          have hml : (keptI L e.table (I.take k)).length ≤ n := by
            have e1 : (keptI L e.table (I.take k)).length ≤ (I.take k).length := List.length_filter_le _ _
            rw [List.length_take] at e1
            omega
          obtain ⟨ml, hml2⟩ : ∃ ml, (keptI L e.table (I.take k)).length = ml := ⟨_, rfl⟩
          have HML := Lib.hid hml2
          have hown := HW4.out.own
          rw [hml2] at hml hown
          have HOWN := Lib.hid hown
          clear hq3 HTO hml2 hown e0 e1 e2 e3 e4 e5 hg2
          go_wp2_with (at_builtin; refine app elem_idx rfl (.tmp 37) (.tmp 40) rfl rfl HOWN.out rfl HRD.out (one_idx e) (by unfold maxLen; omega) (by omega) ?_)
          intro v5 w5 hg5
          rw [← HML.out] at hg5
          have HP := Lib.hid (HW4.out.push hg5)
          rw [← HEQ.out] at HP
          clear hg5 HW4 HRD HOWN HW3
          go_wp2
          go_roundw
          case rel => exact ⟨k + 1, _, by omega, by go_num, rfl, HP.out⟩
          case measure => simp [intOf]; omega
      · have htb : ((e.table : Int) == (id : Int)) = false := by simp; omega
        have HEQ : Hid (keptI L id (I.take (k + 1)) = keptI L id (I.take k)) := by
          show _ = _
          rw [HT.out]
          simp [ht]
        have hti : ¬ (e.table : Int) = (id : Int) := by omega
        have HW2 := HW.out
        rw [← HEQ.out] at HW2
        have HW3 := Lib.hid HW2
        clear ht HT HST HW2
        go_wp2
        go_roundw
        case rel => exact ⟨k + 1, _, by omega, by go_num, rfl, HW3.out⟩
        case measure => simp [intOf]; omega
    · obtain rfl : k = n := by omega
      have HEND : Hid (POST (.returned u7) wr) := by
        rw [← HPOST.out]
        have := HW.out
        rw [List.take_of_length_le (by have := HN.out; omega)] at this
        exact ⟨u7, rfl, this⟩
      go_wp2
      exact HEND.out

end Go.Proofs.YtmkaomglecfmfaaGreatDoor
