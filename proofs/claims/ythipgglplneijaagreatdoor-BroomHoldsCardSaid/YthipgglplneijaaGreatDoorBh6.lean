/- The broom's other steps: the first one, at an index, the release. The broom's Pass, over a store of one table. BroomHolds' plain part: versions round by round. The laws' own small functions (law 13): num, one. store.CreateIndex of a store of one table that has no index. StoreEntries: CreateIndex, Used and Entries in the law's world. The broom laws' awake: the document's example. BroomHolds: what the law's store holds, and what each call leaves. BroomHolds: the broom beside rows that the law keeps; the last passes. StoreEntries: an index has an entry for every version of its table. No condition. -/
import Derived.Test.YthipgglplneijaaGreatDoorBh5
import Derived.Deep.CutBlock
import Derived.ProofKit
import Derived.OpenShut
import Derived.Deep.Slices
import Derived.Deep.Fields
import Derived.ChangeSame
import Derived.Carry
import Derived.Laws.Rows
set_option maxRecDepth 100000
namespace Go.Proofs.YthipgglplneijaaGreatDoor
open Go.RowKit Go.Lap
set_option maxHeartbeats 4000000 in
theorem step_begin {w0 : BaseW} {w : World} {sb rb ps hz N : Nat} {s : St} {t : TE} (h : BrIdle w0 w sb rb ps s) (hT : s.T = [t]) (hI : s.I.length <= 1000) (hh : HorSt s hz) (hlv : BookLives s hz) (hL : s.L.length < 1000000000) (hN : ∀ x y, s.sn x = some y -> x <= N) (hN2 : N <= 2000000) :
  Calls Tryz.prog 37 #[ptrV rb] w (fun e w' => EvKind 0 e /\ BrJob w0 w' sb rb ps s t.id 0 0 0 false [] []) := by
 obtain ⟨vj, hl, hb, hr⟩ := h
 obtain ⟨POST, hPOST⟩ : ∃ POST : Ending -> World -> Prop, (fun e w' => EvKind 0 e /\ BrJob w0 w' sb rb ps s t.id 0 0 0 false [] []) = POST := ⟨_, rfl⟩
 rw [hPOST]
 have HPOST := Lib.hid hPOST
 have hq : Quiet w (w.alloc (.cells #[.int .i64 0, .int .u64 0, .int .u64 0, .int .i64 0] 103)) := (Only.refl _ _).alloc _
 have h2 := alloc_new w (.cells #[.int .i64 0, .int .u64 0, .int .u64 0, .int .i64 0] 103)
 have hbl := lt_of_get hb.box
 obtain ⟨r2, hr2⟩ : ∃ r2, w.heap.size = r2 := ⟨_, rfl⟩
 rw [hr2] at h2 hbl
 have hrn : w0.w.heap.size <= r2 := by have := hl.quiet.size; omega
 have hl1 : LawB w0 (w.alloc (.cells #[.int .i64 0, .int .u64 0, .int .u64 0, .int .i64 0] 103)) sb (fun k => k = rb ∨ k = r2) s := (hl.quietly hq).mono (fun k e => by
   rcases e with e | e
   · exact Or.inl e
   · exact Or.inr ⟨by omega, by have := lt_of_get h2; omega⟩)
 have hb1 : BrAt (w.alloc (.cells #[.int .i64 0, .int .u64 0, .int .u64 0, .int .i64 0] 103)) rb sb false vj ps := ⟨hq.get hb.box (fun x => x)⟩
 have HBE := Lib.hid (broom_begin hl1 hb1 ⟨hr, hrn, by omega⟩ h2 hT hI hh hlv hL hN hN2)
 have HRN := Lib.hid hrn
 have b0 := cell_of hb1.box 0
 have b1 := cell_of hb1.box 1
 simp only [zGA, zGS, zGZ] at b0 b1
 have lb := lt_of_get hb1.box
 clear hPOST hl hb hr hT hI hh hlv hL hN hN2 hq h2 hl1 hb1 hrn
 go_enter Tryz.func37, Tryz.ntmps37
 go_wp2_with fail
 (try rw [hr2])
 refine HBE.out.mono ?_
 rintro e w2 ⟨rfl, ⟨jr, jb, cj, vi, vd, hj, hq⟩, h2⟩
 have e0 := cell_of h2 0
 have e1 := cell_of h2 1
 have e2 := cell_of h2 2
 have e3 := cell_of h2 3
 have ef := fun o => frozen_of h2 o
 simp only [zGA, zGS, zGZ] at e0 e1 e2 e3
 have l2 := lt_of_get h2
 have HX := Lib.hid (fourSet_same h2 (.int .i64 0) (.int .u64 0) (.int .u64 0) (.int .i64 0))
 have HEND : Hid (POST (.returned (.agg #[.int .i64 0, .int .u64 0, .int .u64 0, .int .i64 0])) (fourSet w2 r2 (.int .i64 0) (.int .u64 0) (.int .u64 0) (.int .i64 0))) := by
  rw [<- HPOST.out]
  exact ⟨⟨_, _, _, rfl⟩, jr, jb, cj, vi, vd, hj.other hq h2 (fourSet_only _ _ _ _ _ _) HRN.out⟩
 unfold fourSet at HX HEND
 clear h2 hj hq HBE b0 b1 lb
 go_wp2
 exact bodyPost_ret (results_cellS Tryz.results37 _ _ r2 _ _ (0, 0) _ (by rfl) HX.out Tryz.underlying103 rfl info_event) (by rfl) HEND.out
section
variable {w0 : BaseW} {w w' : World} {sb rb ps tid n k i n' k' i' q : Nat} {s s' : St} {known known' : Bool} {ids ids' : List Nat} {D : List (Int × Int)} {jr jb cj : Nat} {vi vi' vd : Value}
theorem BrJobAt.turnedI (h : BrJobAt w0 w sb rb ps s tid n k i known ids D jr jb cj vi vd) (hl : LawB w0 w sb (fun k => BrK rb jr jb vi vd k ∨ k = q) s) (hq : w0.w.heap.size <= q) (ho : Only (fun k => k = jb) w w') (hj : JobAt w' jb tid n' k' i' known' vi' vd) (hi : w'.ownsRow 0 29 1 vi' ids'.length (u64sV ids')) (hloc : ∀ k, vi'.ownBlock = some k -> vi.ownBlock = some k ∨ w.heap.size <= k) :
  BrJobAt w0 w' sb rb ps s tid n' k' i' known' ids' D jr jb cj vi' vd /\ LawB w0 w' sb (fun k => BrK rb jr jb vi' vd k ∨ k = q) s := by
 obtain ⟨a1, a2, a3, a4, a5⟩ := h.apart
 obtain ⟨cs, hr⟩ := h.row
 have hz := h.law.quiet.size
 have hQ : LawB w0 w' sb (fun k => BrK rb jr jb vi' vd k ∨ k = q) s := by
  refine hl.turnTo (ho.mono (fun k _ e => Or.inl (Or.inr (Or.inr (Or.inl e))))) (fun k e => ?_) (fun k e => ?_)
  ·rcases e with e | e
   ·exact h.new k e
   ·omega
  ·rcases e with (e | e | e | e | e) | e
   ·exact Or.inl (Or.inl (Or.inl e))
   ·exact Or.inl (Or.inl (Or.inr (Or.inl e)))
   ·exact Or.inl (Or.inl (Or.inr (Or.inr (Or.inl e))))
   ·rcases hloc k e with x | x
    ·exact Or.inl (Or.inl (Or.inr (Or.inr (Or.inr (Or.inl x)))))
    ·obtain ⟨c, hh⟩ := own_blk hi e
     exact Or.inr ⟨x, lt_of_get hh⟩
   ·exact Or.inl (Or.inl (Or.inr (Or.inr (Or.inr (Or.inr e)))))
   ·exact Or.inl (Or.inr e)
 refine ⟨⟨hQ.mono (fun k e => Or.inl e), ⟨ho.get h.br.box a2⟩, ⟨cs, ho.get hr a3⟩, hj, hi, owns_kept h.dead ho (fun k e x => (a4 k e).2.2.1 x), fun k e => ?_, h.cap⟩, hQ⟩
 rcases e with e | e | e | e | e
 ·exact h.new k (Or.inl e)
 ·exact h.new k (Or.inr (Or.inl e))
 ·exact h.new k (Or.inr (Or.inr (Or.inl e)))
 ·rcases hloc k e with x | x
  ·exact h.new k (Or.inr (Or.inr (Or.inr (Or.inl x))))
  ·omega
 ·exact h.new k (Or.inr (Or.inr (Or.inr (Or.inr e))))
theorem BrJobAt.lawTo (h : BrJobAt w0 w sb rb ps s tid n k i known ids D jr jb cj vi vd) (ht : ToB w0 w sb (fun k => BrK rb jr jb vi vd k ∨ k = q) s' w') : BrJobAt w0 w' sb rb ps s' tid n k i known ids D jr jb cj vi vd := by
 obtain ⟨cs, hr⟩ := h.row
 exact ⟨ht.st.mono (fun _ e => Or.inl e), ⟨ht.2.get h.br.box (fun x => x.2 (Or.inl (Or.inl rfl)))⟩, ⟨cs, ht.2.get hr (fun x => x.2 (Or.inl (Or.inr (Or.inl rfl))))⟩, ⟨ht.2.get h.job.box (fun x => x.2 (Or.inl (Or.inr (Or.inr (Or.inl rfl)))))⟩, owns_kept h.idx ht.2 (fun k e x => x.2 (Or.inl (Or.inr (Or.inr (Or.inr (Or.inl e)))))), owns_kept h.dead ht.2 (fun k e x => x.2 (Or.inl (Or.inr (Or.inr (Or.inr (Or.inr e)))))), h.new, h.cap⟩
end
theorem law_unlink {w0 : BaseW} {w : World} {sb id : Nat} {K : Nat -> Prop} {s : St} {es : List Ent} {ps : List (Int × Int)} {v : Value} (h : LawB w0 w sb K s) (hid : U64 id) (hts : s.ts id = some es) (hr : w.ownsRow 0 43 2 v ps.length (tidsV ps)) (hwp : ∀ p ∈ ps, Wf p) (hwe : ∀ e ∈ es, Wf (e.pg, e.sl)) (hm : ps.length <= 10000) (hn : es.length <= 10000) :
  Calls Tryz.prog 78 #[ptrV sb, .int .u64 (id : Int), v] w (fun e w' => (∃ z : Int, e = .returned (.int .i64 z)) /\ ToB w0 w sb K { s with ts := upd s.ts id (some (prunE ps es)) } w') := by
 obtain ⟨A, c, rfl, hc, hcm, hrd⟩ := own_form hr
 have hB := h
 obtain ⟨⟨o, h1, h2, h3, h4⟩, _⟩ := h
 refine (store_unlink h1 hid hts hrd rfl hwp hwe hm hn).mono ?_
 rintro e w' ⟨rfl, hst⟩
 exact ⟨⟨_, rfl⟩, hB.call (law_step h1 h2 h3 h4 hst)⟩
theorem law_release {w0 : BaseW} {w : World} {sb id hz N : Nat} {K : Nat -> Prop} {s : St} {H : List (List (Option Tup))} {ps : List (Int × Int)} {v : Value} (h : LawB w0 w sb K s) (hid : U64 id) (hH : s.hs id = some H) (hfit : ∀ T ∈ H, Fits T) (hnum : NumHeap H) (hr : w.ownsRow 0 43 2 v ps.length (tidsV ps)) (hv : ∀ k, v.ownBlock = some k -> K k) (hnd : ps.Nodup) (hg : ∀ a ∈ ps, ∃ v, hGet H a.1 a.2 = some v)
  (hh : HorSt s hz) (hL : s.L.length < 1000000000) (hN : ∀ x y, s.sn x = some y -> x <= N) (hN2 : N <= 2000000) :
  Calls Tryz.prog 79 #[ptrV sb, .int .u64 (id : Int), v] w (fun e w' => (∃ z : Int, e = .returned (.int .i64 z)) /\ ToB w0 w sb K { s with hs := upd s.hs id (some (relH s.L hz H ps)) } w') := by
 obtain ⟨A, c, rfl, hc, hcm, hrd⟩ := own_form hr
 have hB := h
 obtain ⟨⟨o, h1, h2, h3, h4⟩, _⟩ := h
 refine (store_release h1 hid hH hfit hnum hrd (fun k e => (h4 k (Or.inl (hv k e))).1) rfl hc hcm hnd hg hh hL hN hN2).mono ?_
 rintro e w' ⟨⟨z, rfl⟩, hst⟩
 exact ⟨⟨z, rfl⟩, hB.call (law_step h1 h2 h3 h4 hst)⟩
set_option maxHeartbeats 8000000 in
theorem step_unlink {w0 : BaseW} {w : World} {sb rb ps tid n : Nat} {s : St} {t : TE} {x : IE} {es : List Ent} {D : List (Int × Int)} (h : BrJob w0 w sb rb ps s tid n n 0 true [] D) (hk2 : n <= 256) (hT : s.T = [t]) (hI : s.I.length <= 1000) (htid : t.id = tid) (hkI : keptI s.L t.id s.I = [x]) (hxt : x.table = tid) (hid : U64 x.id) (hts : s.ts x.id = some es) (hwp : ∀ p ∈ D, Wf p) (hwe : ∀ e ∈ es, Wf (e.pg, e.sl)) (hm : D.length <= 10000) (hn : es.length <= 10000) :
  Calls Tryz.prog 37 #[ptrV rb] w (fun e w' => EvKind 2 e /\ BrJob w0 w' sb rb ps { s with ts := upd s.ts x.id (some (prunE D es)) } tid n n 1 true [x.id] D) := by
 obtain ⟨jr, jb, cj, vi, vd, h⟩ := h
 obtain ⟨POST, hPOST⟩ : ∃ POST : Ending -> World -> Prop, (fun e w' => EvKind 2 e /\ BrJob w0 w' sb rb ps { s with ts := upd s.ts x.id (some (prunE D es)) } tid n n 1 true [x.id] D) = POST := ⟨_, rfl⟩
 have HXT := Lib.hid hxt
 have HBK0 : Hid (∀ W, LawB w0 W sb (fun _ => False) s -> Calls Tryz.prog 38 #[ptrV sb] W (BookPost W t [x])) := fun W hl => by rw [<- hkI]; exact law_book hl hT hI
 have HUN0 : Hid (∀ W K (v : Value), LawB w0 W sb K s -> W.ownsRow 0 43 2 v D.length (tidsV D) -> Calls Tryz.prog 78 #[ptrV sb, .int .u64 (x.id : Int), v] W (fun e w' => (∃ z : Int, e = .returned (.int .i64 z)) /\ ToB w0 W sb K { s with ts := upd s.ts x.id (some (prunE D es)) } w')) := fun W K v hl hr => law_unlink hl hid hts hr hwp hwe hm hn
 rw [hPOST]
 have HPOST := Lib.hid hPOST
 have hq : Quiet w (w.alloc (.cells #[.int .i64 0, .int .u64 0, .int .u64 0, .int .i64 0] 103)) := (Only.refl _ _).alloc _
 have h2 := alloc_new w (.cells #[.int .i64 0, .int .u64 0, .int .u64 0, .int .i64 0] 103)
 obtain ⟨r2, hr2⟩ : ∃ r2, w.heap.size = r2 := ⟨_, rfl⟩
 have hrn : w0.w.heap.size <= r2 := by have := h.law.quiet.size; omega
 rw [hr2] at h2
 have HR2 := Lib.hid hr2
 have HRN := Lib.hid hrn
 have HL1 : Hid (LawB w0 (w.alloc (.cells #[.int .i64 0, .int .u64 0, .int .u64 0, .int .i64 0] 103)) sb (fun k => BrK rb jr jb vi vd k ∨ k = r2) s) := (h.law.quietly hq).mono (fun k e => by
   rcases e with e | e
   · exact Or.inl e
   · exact Or.inr ⟨by omega, by have := lt_of_get h2; omega⟩)
 have HJ := Lib.hid h
 have hcj := h.cap
 unfold maxLen at hcj
 clear h hPOST hrn hxt hT hI htid hkI hid hts hwp hwe hm hn
 go_enter Tryz.func37, Tryz.ntmps37
 go_upto_block 0 with (fail)
 (try rw [hr2])
 generalize w.alloc (.cells #[.int .i64 0, .int .u64 0, .int .u64 0, .int .i64 0] 103) = w1 at *
 have HQ1 := Lib.hid hq
 have H21 := Lib.hid h2
 have h1 := HJ.out.quietly hq
 have b0 := cell_of h1.br.box 0
 have b1 := cell_of h1.br.box 1
 have b2 := cell_of h1.br.box 2
 obtain ⟨cs, hrow⟩ := h1.row
 have j0 : w1.cell? ⟨jr, 0, none⟩ = some (ptrV jb) := by rw [cell_of hrow]; rfl
 have k0 := cell_of h1.job.box 0
 have k3 := cell_of h1.job.box 3
 simp only [zGA, zGS, zGZ] at b0 b1 b2 k0 k3
 have lb := lt_of_get h1.br.box
 have lr := lt_of_get hrow
 have ljb := lt_of_get h1.job.box
 have HJ1 := Lib.hid h1
 clear hq h2 hr2 hrow h1
 go_upto_region 12 with fail
 have HS12 : Hid (∀ W, Quiet w1 W -> (fun w' => w'.cell? ⟨jb, 4, none⟩ = some (.int .i64 (n : Int)) /\ w'.cell? ⟨jb, 1, none⟩ = some (.int .i64 (n : Int))) W) := fun W hq => by
  have b := (HJ1.out.quietly hq).job.box
  exact ⟨by rw [cell_of b]; rfl, by rw [cell_of b]; rfl⟩
 refine zH HS12 ((Only.refl _ _).drew) (fun hHeld => ?_)
 simp only [List.size_toArray, List.length_cons, List.length_nil, Nat.reduceAdd]
 have q0 : Quiet w1 w1.drew := (Only.refl _ _).drew
 generalize w1.drew = d0 at q0 hHeld ⊢
 refine zT 0 ?_
 refine zT 1 ?_
 refine zT 2 ?_
 refine zT 3 ?_
 refine zT 4 ?_
 refine zT 5 ?_
 refine zT 6 ?_
 refine zT 7 ?_
 refine zT 8 ?_
 refine wpAnyH_done (by kernel_rfl) ?_ _
 clear hHeld b0 b1 b2 j0 k0 k3 lb lr ljb HS12
 have HQ12 : Hid (Quiet w1 d0) := q0
 have hj := HJ1.out.quietly q0
 have c5 : d0.cell? ⟨jb, 5, none⟩ = some (.int .i64 0) := by rw [cell_of hj.job.box]; rfl
 have b0 := cell_of hj.br.box 0
 simp only [zGA, zGS, zGZ] at b0
 have lb := lt_of_get hj.br.box
 have lj := lt_of_get hj.job.box
 clear hj
 have HBK : Hid (∀ W, Quiet w1 W -> Calls Tryz.prog 38 #[ptrV sb] W (BookPost W t [x])) := fun W hq => HBK0.out W ((HL1.out.same hq).mono (fun _ e => e.elim))
 go_wp2_with fail
 refine (HBK.out _ q0).mono ?_
 rintro e d1 ⟨b, cap, A, c, v, rfl, hO, hX⟩
 have q1 : Quiet w1 d1 := q0.trans hO.quiet
 have HOF : Hid (∀ W, Quiet d1 W -> Calls Tryz.prog 77 #[.int .u64 (tid : Int), v] W (OfPost W [x.id])) := fun W hq => by
  have e1 := of_one (hX.quietly hq)
  rw [HXT.out] at e1
  exact e1
 have hj := HJ1.out.quietly q1
 have k0 := cell_of hj.job.box 0
 simp only [zGA, zGS, zGZ] at k0
 have HLD : Hid (LawB w0 d1 sb (fun k => BrK rb jr jb vi vd k ∨ k = r2) s) := HL1.out.same q1
 have HJD := Lib.hid hj
 have H2D := Lib.hid (q1.get H21.out (fun x => x))
 clear hj hO hX b0 c5 lb lj
 have lj := lt_of_get HJD.out.job.box
 go_wp2_with fail
 refine (HOF.out _ (Only.refl _ _)).mono ?_
 rintro e d2 ⟨v2, rfl, hq2, hn2, hi2⟩
 have hi3 : World.ownsRow d2 0 29 1 v2 1 [.int .u64 (x.id : Int)] := hi2
 rcases owns_cases hi3 with ⟨_, e⟩ | ⟨g, c2, rfl, hc1, hc2⟩
 ·exact absurd e (by decide)
 have hg0 := hi3.cells (by rfl) 0 (.int .u64 (x.id : Int)) rfl
 rw [add_none, Nat.zero_add] at hg0
 have hgn := hn2 g rfl
 clear hi3
 have hjd := HJD.out.quietly hq2
 have k2 := cell_of hjd.job.box 2
 have kf := fun o => frozen_of hjd.job.box o
 simp only [zGA, zGS, zGZ] at k2
 have hb4 := (seven_set hjd.job.box (.slice (some ⟨g, 0, none⟩) 1 c2)).2.2.2.2.1
 have ho4 : Only (fun x => x = jb) d2 (d2.setCell ⟨jb, 2, none⟩ (.slice (some ⟨g, 0, none⟩) 1 c2)) := (Only.refl (fun x => x = jb) d2).setCell (p := ⟨jb, 2, none⟩) (fun _ => rfl) _
 have lj2 := lt_of_get hjd.job.box
 have HN2 := Lib.hid hn2
 have HI2 := Lib.hid hi2
 have HQ2 := Lib.hid hq2
 clear hjd lj k0 hn2 hi2 hq2
 go_upto_region 20 with fail
 generalize d2.setCell ⟨jb, 2, none⟩ (.slice (some ⟨g, 0, none⟩) 1 c2) = w4 at *
 clear k2 kf lj2
 have hgj : ¬ g = jb := fun e => by have := lt_of_get HJD.out.job.box; omega
 have HS20 : Hid (∀ W, Quiet w4 W -> (fun w' => w'.cell? ⟨jb, 5, none⟩ = some (.int .i64 0) /\ w'.cell? ⟨jb, 2, none⟩ = some (.slice (some ⟨g, 0, none⟩) 1 c2) /\ w'.cell? ⟨g, 0, none⟩ = some (.int .u64 (x.id : Int))) W) := fun W hq => by
  have b := hq.get hb4 (fun x => x)
  exact ⟨by rw [cell_of b]; rfl, by rw [cell_of b]; rfl, hq.cell (ho4.cell hg0 hgj) (fun x => x)⟩
 refine zH HS20 ((Only.refl _ _).drew) (fun hHeld => ?_)
 simp only [List.size_toArray, List.length_cons, List.length_nil, Nat.reduceAdd]
 have q4 : Quiet w4 w4.drew := (Only.refl _ _).drew
 generalize w4.drew = d4 at q4 hHeld ⊢
 refine zT 0 ?_
 refine zT 1 ?_
 refine zT 2 ?_
 refine zT 3 ?_
 refine zT 4 ?_
 refine zT 5 ?_
 refine zT 6 ?_
 refine zT 7 ?_
 refine zT 8 ?_
 refine zT 9 ?_
 refine wpAnyH_done (by kernel_rfl) ?_ _
 clear hHeld
 go_wp2_with fail
 refine zH HS20 q4.drew (fun hHeld => ?_)
 simp only [List.size_toArray, List.length_cons, List.length_nil, Nat.reduceAdd]
 have q5 : Quiet w4 d4.drew := q4.drew
 generalize d4.drew = d5 at q5 hHeld ⊢
 refine zT 0 ?_
 refine zT 1 ?_
 refine zT 2 ?_
 refine zT 3 ?_
 refine zT 4 ?_
 refine zT 5 ?_
 refine zT 6 ?_
 refine zT 7 ?_
 refine zT 8 ?_
 refine zT 9 ?_
 refine zT 10 ?_
 refine wpAnyH_done (by kernel_rfl) ?_ _
 clear hHeld
 have hb5 := q5.get hb4 (fun x => x)
 have c5 : d5.cell? ⟨jb, 5, none⟩ = some (.int .i64 0) := by rw [cell_of hb5]; rfl
 have kf := fun o => frozen_of hb5 o
 have lj := lt_of_get hb5
 have hb6 := (seven_set hb5 (.int .i64 1)).2.2.2.2.2
 have ho6 : Only (fun x => x = jb) d5 (d5.setCell ⟨jb, 5, none⟩ (.int .i64 1)) := (Only.refl (fun x => x = jb) d5).setCell (p := ⟨jb, 5, none⟩) (fun _ => rfl) _
 go_upto_region 23 with fail
 generalize d5.setCell ⟨jb, 5, none⟩ (.int .i64 1) = w6 at *
 clear c5 kf lj
 have how : Only (fun k => k = jb) d1 w6 := (((HQ2.out.mono (fun _ _ x => x.elim)).trans ho4).trans (q5.mono (fun _ _ x => x.elim))).trans ho6
 have hz2 := HQ2.out.size
 have HJ6 := Lib.hid (HJD.out.turnedI (n' := n) (k' := n) (i' := 1) (known' := true) (ids' := [x.id]) HLD.out HRN.out how ⟨hb6⟩ (owns_kept (owns_kept (owns_kept HI2.out ho4 (fun k e e2 => hgj ((Option.some.inj e).trans e2))) q5 (fun _ _ x => x)) ho6 (fun k e e2 => hgj ((Option.some.inj e).trans e2))) (fun k e => Or.inr (HN2.out k e)))
 have H26 := Lib.hid (how.get H2D.out (fun e => by have := HR2.out; have := lt_of_get HJ.out.job.box; omega))
 clear how hz2 hb4 hb5 hb6 ho4 ho6 q4 q5 hg0 hgn hgj HS20
 have HS23 : Hid (∀ W s', BrJobAt w0 W sb rb ps s' tid n n 1 true [x.id] D jr jb cj (.slice (some ⟨g, 0, none⟩) 1 c2) vd -> (fun w' => w'.cell? ⟨jb, 0, none⟩ = some (.int .u64 (tid : Int)) /\ w'.cell? ⟨rb, 0, none⟩ = some (ptrV sb) /\ w'.cell? ⟨jb, 6, none⟩ = some vd) W) := fun W s' hj => ⟨by rw [cell_of hj.job.box]; rfl, by rw [cell_of hj.br.box]; rfl, by rw [cell_of hj.job.box]; rfl⟩
 have HUN : Hid (∀ W, Quiet w6 W -> Calls Tryz.prog 78 #[ptrV sb, .int .u64 (x.id : Int), vd] W (fun e w' => (∃ z : Int, e = .returned (.int .i64 z)) /\ ToB w0 W sb (fun k => BrK rb jr jb (.slice (some ⟨g, 0, none⟩) 1 c2) vd k ∨ k = r2) { s with ts := upd s.ts x.id (some (prunE D es)) } w')) := fun W hq => HUN0.out W _ vd (HJ6.out.2.same hq) (owns_kept HJ6.out.1.dead hq (fun _ _ x => x))
 refine wp_region_held_drew (S := (fun w' => w'.cell? ⟨jb, 0, none⟩ = some (.int .u64 (tid : Int)) /\ w'.cell? ⟨rb, 0, none⟩ = some (ptrV sb) /\ w'.cell? ⟨jb, 6, none⟩ = some vd)) (by kernel_rfl) (HS23.out _ _ (HJ6.out.1.quietly (Only.refl _ _).drew)) (fun hHeld => ?_)
 simp only [List.size_toArray, List.length_cons, List.length_nil, Nat.reduceAdd]
 have q7 : Quiet w6 w6.drew := (Only.refl _ _).drew
 generalize w6.drew = d7 at q7 hHeld ⊢
 refine zT 0 ?_
 refine zT 1 ?_
 refine zT 2 ?_
 refine zT 3 ?_
 refine zT 4 ?_
 refine zT 5 ?_
 refine zT 6 ?_
 refine zT 7 ?_
 refine zT 8 ?_
 refine zT 9 ?_
 refine zT 10 ?_
 refine zT 11 ?_
 refine zT 12 ?_
 refine zT 13 ?_
 refine zR 14 ?_
 intro K hK
 go_simp
 go_at_call 78
 refine (HUN.out _ q7).mono ?_
 rintro e d8 ⟨⟨z, rfl⟩, hl8⟩
 have hj8 := (HJ6.out.1.quietly q7).lawTo hl8
 dsimp only
 refine hK.out _ _ ?_ (fun hHeld => ?_)
 ·exact HS23.out _ _ hj8
 clear hK K
 (try simp only [Act.put, zPA, zPZ, zPS])
 refine zT 15 ?_
 refine zR 16 ?_
 intro K hK
 have h28 := hl8.2.get (q7.get H26.out (fun x => x)) (fun x => x.2 (Or.inr rfl))
 have e0 := cell_of h28 0
 have e1 := cell_of h28 1
 have e2 := cell_of h28 2
 have e3 := cell_of h28 3
 have ef := fun o => frozen_of h28 o
 simp only [zGA, zGS, zGZ] at e0 e1 e2 e3
 have l2 := lt_of_get h28
 go_simp
 refine hK.out _ _ ?_ (fun hHeld => ?_)
 ·exact HS23.out _ _ (hj8.other hl8.st h28 (fourSet_only d8 r2 (.int .i64 2) (.int .u64 (tid : Int)) (.int .u64 (x.id : Int)) (.int .i64 z)) HRN.out)
 clear hK K
 (try simp only [Act.put, zPA, zPZ, zPS])
 refine wpAnyH_done (by kernel_rfl) ?_ _
 have HX := Lib.hid (fourSet_same h28 (.int .i64 2) (.int .u64 (tid : Int)) (.int .u64 (x.id : Int)) (.int .i64 z))
 have HEND : Hid (POST (.returned (.agg #[(.int .i64 2), (.int .u64 (tid : Int)), (.int .u64 (x.id : Int)), (.int .i64 z)])) (fourSet d8 r2 (.int .i64 2) (.int .u64 (tid : Int)) (.int .u64 (x.id : Int)) (.int .i64 z))) := by
  rw [<- HPOST.out]
  exact ⟨⟨_, _, _, rfl⟩, jr, jb, cj, _, vd, hj8.other hl8.st h28 (fourSet_only d8 r2 (.int .i64 2) (.int .u64 (tid : Int)) (.int .u64 (x.id : Int)) (.int .i64 z)) HRN.out⟩
 unfold fourSet at HX HEND
 clear hHeld h28 hj8 hl8 HUN HS23 e0 e1 e2 e3 ef l2
 go_wp2 <;> exact bodyPost_ret (results_cellS Tryz.results37 _ _ r2 _ _ (0, 0) _ (by rfl) HX.out Tryz.underlying103 rfl info_event) (by rfl) HEND.out
set_option maxHeartbeats 8000000 in
theorem step_release0 {w0 : BaseW} {w : World} {sb rb ps tid n hz N : Nat} {s : St} {t : TE} {H : List (List (Option Tup))} {D : List (Int × Int)} (h : BrJob w0 w sb rb ps s tid n n 0 true [] D) (hk2 : n <= 256) (hT : s.T = [t]) (hI : s.I.length <= 1000) (hkI : keptI s.L t.id s.I = []) (hid : U64 tid) (hH : s.hs tid = some H) (hfit : ∀ T ∈ H, Fits T) (hnum : NumHeap H) (hnd : D.Nodup) (hg : ∀ a ∈ D, ∃ v, hGet H a.1 a.2 = some v) (hh : HorSt s hz) (hL : s.L.length < 1000000000) (hN : ∀ x y, s.sn x = some y -> x <= N) (hN2 : N <= 2000000) :
  Calls Tryz.prog 37 #[ptrV rb] w (fun e w' => EvKind 3 e /\ BrDone w0 w' sb rb ps { s with hs := upd s.hs tid (some (relH s.L hz H D)) }) := by
 obtain ⟨jr, jb, cj, vi, vd, h⟩ := h
 obtain ⟨POST, hPOST⟩ : ∃ POST : Ending -> World -> Prop, (fun e w' => EvKind 3 e /\ BrDone w0 w' sb rb ps { s with hs := upd s.hs tid (some (relH s.L hz H D)) }) = POST := ⟨_, rfl⟩
 have HBK0 : Hid (∀ W, LawB w0 W sb (fun _ => False) s -> Calls Tryz.prog 38 #[ptrV sb] W (BookPost W t [])) := fun W hl => by rw [<- hkI]; exact law_book hl hT hI
 have HRL0 : Hid (∀ W K (v : Value), LawB w0 W sb K s -> W.ownsRow 0 43 2 v D.length (tidsV D) -> (∀ k, v.ownBlock = some k -> K k) -> Calls Tryz.prog 79 #[ptrV sb, .int .u64 (tid : Int), v] W (fun e w' => (∃ z : Int, e = .returned (.int .i64 z)) /\ ToB w0 W sb K { s with hs := upd s.hs tid (some (relH s.L hz H D)) } w')) := fun W K v hl hr hv => law_release hl hid hH hfit hnum hr hv hnd hg hh hL hN hN2
 rw [hPOST]
 have HPOST := Lib.hid hPOST
 have hq : Quiet w (w.alloc (.cells #[.int .i64 0, .int .u64 0, .int .u64 0, .int .i64 0] 103)) := (Only.refl _ _).alloc _
 have h2 := alloc_new w (.cells #[.int .i64 0, .int .u64 0, .int .u64 0, .int .i64 0] 103)
 obtain ⟨r2, hr2⟩ : ∃ r2, w.heap.size = r2 := ⟨_, rfl⟩
 have hrn : w0.w.heap.size <= r2 := by have := h.law.quiet.size; omega
 rw [hr2] at h2
 have HR2 := Lib.hid hr2
 have HRN := Lib.hid hrn
 have HL1 : Hid (LawB w0 (w.alloc (.cells #[.int .i64 0, .int .u64 0, .int .u64 0, .int .i64 0] 103)) sb (fun k => BrK rb jr jb vi vd k ∨ k = r2) s) := (h.law.quietly hq).mono (fun k e => by
   rcases e with e | e
   · exact Or.inl e
   · exact Or.inr ⟨by omega, by have := lt_of_get h2; omega⟩)
 have HJ := Lib.hid h
 have hcj := h.cap
 unfold maxLen at hcj
 clear h hPOST hrn hT hI hkI hid hH hfit hnum hnd hg hh hL hN hN2
 go_enter Tryz.func37, Tryz.ntmps37
 go_upto_block 0 with (fail)
 (try rw [hr2])
 generalize w.alloc (.cells #[.int .i64 0, .int .u64 0, .int .u64 0, .int .i64 0] 103) = w1 at *
 have HQ1 := Lib.hid hq
 have H21 := Lib.hid h2
 have h1 := HJ.out.quietly hq
 have b0 := cell_of h1.br.box 0
 have b1 := cell_of h1.br.box 1
 have b2 := cell_of h1.br.box 2
 obtain ⟨cs, hrow⟩ := h1.row
 have j0 : w1.cell? ⟨jr, 0, none⟩ = some (ptrV jb) := by rw [cell_of hrow]; rfl
 have k0 := cell_of h1.job.box 0
 have k3 := cell_of h1.job.box 3
 simp only [zGA, zGS, zGZ] at b0 b1 b2 k0 k3
 have lb := lt_of_get h1.br.box
 have lr := lt_of_get hrow
 have ljb := lt_of_get h1.job.box
 have HJ1 := Lib.hid h1
 clear hq h2 hr2 hrow h1
 go_upto_region 12 with fail
 have HS12 : Hid (∀ W, Quiet w1 W -> (fun w' => w'.cell? ⟨jb, 4, none⟩ = some (.int .i64 (n : Int)) /\ w'.cell? ⟨jb, 1, none⟩ = some (.int .i64 (n : Int))) W) := fun W hq => by
  have b := (HJ1.out.quietly hq).job.box
  exact ⟨by rw [cell_of b]; rfl, by rw [cell_of b]; rfl⟩
 refine zH HS12 ((Only.refl _ _).drew) (fun hHeld => ?_)
 simp only [List.size_toArray, List.length_cons, List.length_nil, Nat.reduceAdd]
 have q0 : Quiet w1 w1.drew := (Only.refl _ _).drew
 generalize w1.drew = d0 at q0 hHeld ⊢
 refine zT 0 ?_
 refine zT 1 ?_
 refine zT 2 ?_
 refine zT 3 ?_
 refine zT 4 ?_
 refine zT 5 ?_
 refine zT 6 ?_
 refine zT 7 ?_
 refine zT 8 ?_
 refine wpAnyH_done (by kernel_rfl) ?_ _
 clear hHeld b0 b1 b2 j0 k0 k3 lb lr ljb HS12
 have HQ12 : Hid (Quiet w1 d0) := q0
 have hj := HJ1.out.quietly q0
 have c5 : d0.cell? ⟨jb, 5, none⟩ = some (.int .i64 0) := by rw [cell_of hj.job.box]; rfl
 have b0 := cell_of hj.br.box 0
 simp only [zGA, zGS, zGZ] at b0
 have lb := lt_of_get hj.br.box
 have lj := lt_of_get hj.job.box
 clear hj
 have HBK : Hid (∀ W, Quiet w1 W -> Calls Tryz.prog 38 #[ptrV sb] W (BookPost W t [])) := fun W hq => HBK0.out W ((HL1.out.same hq).mono (fun _ e => e.elim))
 go_wp2_with fail
 refine (HBK.out _ q0).mono ?_
 rintro e d1 ⟨b, cap, A, c, v, rfl, hO, hX⟩
 have q1 : Quiet w1 d1 := q0.trans hO.quiet
 obtain ⟨A1, c1, rfl, _, _, _⟩ := own_form (show World.ownsRow d1 0 111 6 v 0 [] from hX.own)
 have HOF : Hid (∀ W, Quiet d1 W -> Calls Tryz.prog 77 #[.int .u64 (tid : Int), .slice A1 0 c1] W (OfPost W [])) := fun W hq => of_nil
 have hj := HJ1.out.quietly q1
 have k0 := cell_of hj.job.box 0
 simp only [zGA, zGS, zGZ] at k0
 have HLD : Hid (LawB w0 d1 sb (fun k => BrK rb jr jb vi vd k ∨ k = r2) s) := HL1.out.same q1
 have HJD := Lib.hid hj
 have H2D := Lib.hid (q1.get H21.out (fun x => x))
 clear hj hO hX b0 c5 lb lj
 have lj := lt_of_get HJD.out.job.box
 go_wp2_with fail
 refine (HOF.out _ (Only.refl _ _)).mono ?_
 rintro e d2 ⟨v2, rfl, hq2, hn2, hi2⟩
 obtain ⟨A2, c2, rfl, _, _, _⟩ := own_form (show World.ownsRow d2 0 29 1 v2 0 [] from hi2)
 have hjd := HJD.out.quietly hq2
 have k2 := cell_of hjd.job.box 2
 have kf := fun o => frozen_of hjd.job.box o
 simp only [zGA, zGS, zGZ] at k2
 have hb4 := (seven_set hjd.job.box (.slice A2 0 c2)).2.2.2.2.1
 have ho4 : Only (fun x => x = jb) d2 (d2.setCell ⟨jb, 2, none⟩ (.slice A2 0 c2)) := (Only.refl (fun x => x = jb) d2).setCell (p := ⟨jb, 2, none⟩) (fun _ => rfl) _
 have lj2 := lt_of_get hjd.job.box
 have HN2 := Lib.hid hn2
 have HI2 := Lib.hid hi2
 have HQ2 := Lib.hid hq2
 clear hjd lj k0 hn2 hi2 hq2
 go_upto_region 20 with fail
 generalize d2.setCell ⟨jb, 2, none⟩ (.slice A2 0 c2) = w4 at *
 clear k2 kf lj2
 have HS20 : Hid (∀ W, Quiet w4 W -> (fun w' => w'.cell? ⟨jb, 5, none⟩ = some (.int .i64 0) /\ w'.cell? ⟨jb, 2, none⟩ = some (.slice A2 0 c2)) W) := fun W hq => by
  have b := hq.get hb4 (fun x => x)
  exact ⟨by rw [cell_of b]; rfl, by rw [cell_of b]; rfl⟩
 refine zH HS20 ((Only.refl _ _).drew) (fun hHeld => ?_)
 simp only [List.size_toArray, List.length_cons, List.length_nil, Nat.reduceAdd]
 have q4 : Quiet w4 w4.drew := (Only.refl _ _).drew
 generalize w4.drew = d4 at q4 hHeld ⊢
 refine zT 0 ?_
 refine zT 1 ?_
 refine zT 2 ?_
 refine zT 3 ?_
 refine zT 4 ?_
 refine zT 5 ?_
 refine zT 6 ?_
 refine zT 7 ?_
 refine zT 8 ?_
 refine zT 9 ?_
 refine wpAnyH_done (by kernel_rfl) ?_ _
 clear hHeld HS20
 have how : Only (fun k => k = jb) d1 d4 := ((HQ2.out.mono (fun _ _ x => x.elim)).trans ho4).trans (q4.mono (fun _ _ x => x.elim))
 have HJ4 := Lib.hid (HJD.out.turnedI (n' := n) (k' := n) (i' := 0) (known' := true) (ids' := []) HLD.out HRN.out how ⟨q4.get hb4 (fun x => x)⟩ (owns_kept (owns_kept HI2.out ho4 (fun k e e2 => by have := HN2.out k e; have := lt_of_get HJD.out.job.box; omega)) q4 (fun _ _ x => x)) (fun k e => Or.inr (HN2.out k e)))
 have H24 := Lib.hid (how.get H2D.out (fun e => by have := HR2.out; have := lt_of_get HJ.out.job.box; omega))
 clear how hb4 ho4 q4
 have b2 := cell_of HJ4.out.1.br.box 2
 have bf := fun o => frozen_of HJ4.out.1.br.box o
 simp only [zGA, zGS, zGZ] at b2
 have lb := lt_of_get HJ4.out.1.br.box
 have HB6 : Hid ((d4.setCell ⟨rb, 2, none⟩ (.slice (if cj = 1 then some ⟨jr, 0, none⟩ else some ⟨jr, 1, none⟩) 0 (cj - 1))).heap[rb]? = some (.cells #[ptrV sb, .bool true, (.slice (if cj = 1 then some ⟨jr, 0, none⟩ else some ⟨jr, 1, none⟩) 0 (cj - 1)), .int .i64 (ps : Int)] 70 (0, 0))) := by
  show _ = _
  rw [set_same HJ4.out.1.br.box _ _]
  rfl
 have ho6 : Only (fun x => x = rb) d4 (d4.setCell ⟨rb, 2, none⟩ (.slice (if cj = 1 then some ⟨jr, 0, none⟩ else some ⟨jr, 1, none⟩) 0 (cj - 1))) := (Only.refl (fun x => x = rb) d4).setCell (p := ⟨rb, 2, none⟩) (fun _ => rfl) _
 go_upto_region 25 with fail
 generalize d4.setCell ⟨rb, 2, none⟩ (.slice (if cj = 1 then some ⟨jr, 0, none⟩ else some ⟨jr, 1, none⟩) 0 (cj - 1)) = w6 at *
 clear b2 bf lb
 have HL6 : Hid (LawB w0 w6 sb (fun k => BrK rb jr jb (.slice A2 0 c2) vd k ∨ k = r2) s) := HJ4.out.2.turn (ho6.mono (fun k _ e => Or.inl (Or.inl e))) (fun k e => by
   rcases e with e | e
   · exact HJ4.out.1.new k e
   · rw [e]; exact HRN.out)
 have HJB : Hid (w6.heap[jb]? = some (.cells #[.int .u64 (tid : Int), .int .i64 (n : Int), (.slice A2 0 c2), .bool true, .int .i64 (n : Int), .int .i64 ((0 : Nat) : Int), vd] 170 (0, 0))) := ho6.get HJ4.out.1.job.box (fun e => HJ4.out.1.apart.2.1 e.symm)
 have H26 := Lib.hid (ho6.get H24.out (fun e => by have := HR2.out; have := lt_of_get HJ.out.br.box; omega))
 have HDD : Hid (w6.ownsRow 0 43 2 vd D.length (tidsV D)) := owns_kept HJ4.out.1.dead ho6 (fun k e => (HJ4.out.1.apart.2.2.2.1 k e).1)
 clear ho6
 have HS25 : Hid (∀ W : World, W.heap[jb]? = some (.cells #[.int .u64 (tid : Int), .int .i64 (n : Int), (.slice A2 0 c2), .bool true, .int .i64 (n : Int), .int .i64 ((0 : Nat) : Int), vd] 170 (0, 0)) -> W.heap[rb]? = some (.cells #[ptrV sb, .bool true, (.slice (if cj = 1 then some ⟨jr, 0, none⟩ else some ⟨jr, 1, none⟩) 0 (cj - 1)), .int .i64 (ps : Int)] 70 (0, 0)) -> (fun w' => w'.cell? ⟨jb, 0, none⟩ = some (.int .u64 (tid : Int)) /\ w'.cell? ⟨rb, 0, none⟩ = some (ptrV sb) /\ w'.cell? ⟨jb, 6, none⟩ = some vd) W) := fun W a b => ⟨by rw [cell_of a]; rfl, by rw [cell_of b]; rfl, by rw [cell_of a]; rfl⟩
 have HRL : Hid (∀ W, Quiet w6 W -> Calls Tryz.prog 79 #[ptrV sb, .int .u64 (tid : Int), vd] W (fun e w' => (∃ z : Int, e = .returned (.int .i64 z)) /\ ToB w0 W sb (fun k => BrK rb jr jb (.slice A2 0 c2) vd k ∨ k = r2) { s with hs := upd s.hs tid (some (relH s.L hz H D)) } w')) := fun W hq => HRL0.out W _ vd (HL6.out.same hq) (owns_kept HDD.out hq (fun _ _ x => x)) (fun k e => Or.inl (Or.inr (Or.inr (Or.inr (Or.inr e)))))
 refine wp_region_held_drew (S := (fun w' => w'.cell? ⟨jb, 0, none⟩ = some (.int .u64 (tid : Int)) /\ w'.cell? ⟨rb, 0, none⟩ = some (ptrV sb) /\ w'.cell? ⟨jb, 6, none⟩ = some vd)) (by kernel_rfl) (HS25.out _ ((Only.refl (fun _ => False) w6).drew.get HJB.out (fun x => x)) ((Only.refl (fun _ => False) w6).drew.get HB6.out (fun x => x))) (fun hHeld => ?_)
 simp only [List.size_toArray, List.length_cons, List.length_nil, Nat.reduceAdd]
 have q7 : Quiet w6 w6.drew := (Only.refl _ _).drew
 generalize w6.drew = d7 at q7 hHeld ⊢
 refine zT 0 ?_
 refine zT 1 ?_
 refine zT 2 ?_
 refine zT 3 ?_
 refine zT 4 ?_
 refine zT 5 ?_
 refine zT 6 ?_
 refine zT 7 ?_
 refine zT 8 ?_
 refine zT 9 ?_
 refine zT 10 ?_
 refine zT 11 ?_
 refine zT 12 ?_
 refine zT 13 ?_
 refine zT 14 ?_
 refine zT 15 ?_
 refine zR 16 ?_
 intro K hK
 go_simp
 go_at_call 79
 refine (HRL.out _ q7).mono ?_
 rintro e d8 ⟨⟨z, rfl⟩, hl8⟩
 have hj8 := hl8.2.get (q7.get HJB.out (fun x => x)) (fun x => x.2 (Or.inl (Or.inr (Or.inr (Or.inl rfl)))))
 have hb8 := hl8.2.get (q7.get HB6.out (fun x => x)) (fun x => x.2 (Or.inl (Or.inl rfl)))
 dsimp only
 refine hK.out _ _ ?_ (fun hHeld => ?_)
 ·exact HS25.out _ hj8 hb8
 clear hK K
 (try simp only [Act.put, zPA, zPZ, zPS])
 refine zT 17 ?_
 refine zR 18 ?_
 intro K hK
 have h28 := hl8.2.get (q7.get H26.out (fun x => x)) (fun x => x.2 (Or.inr rfl))
 have e0 := cell_of h28 0
 have e1 := cell_of h28 1
 have e2 := cell_of h28 2
 have e3 := cell_of h28 3
 have ef := fun o => frozen_of h28 o
 simp only [zGA, zGS, zGZ] at e0 e1 e2 e3
 have l2 := lt_of_get h28
 have ho9 := fourSet_only d8 r2 (.int .i64 3) (.int .u64 (tid : Int)) (.int .u64 0) (.int .i64 z)
 have hj9 := ho9.get hj8 (fun e => by have := HR2.out; have := lt_of_get HJ.out.job.box; omega)
 have hb9 := ho9.get hb8 (fun e => by have := HR2.out; have := lt_of_get HJ.out.br.box; omega)
 have HO9 := Lib.hid ho9
 have HB9 := Lib.hid hb9
 clear ho9
 go_simp
 refine hK.out _ _ ?_ (fun hHeld => ?_)
 ·exact HS25.out _ hj9 hb9
 clear hK K
 (try simp only [Act.put, zPA, zPZ, zPS])
 refine wpAnyH_done (by kernel_rfl) ?_ _
 have HX := Lib.hid (fourSet_same h28 (.int .i64 3) (.int .u64 (tid : Int)) (.int .u64 0) (.int .i64 z))
 have HEND : Hid (POST (.returned (.agg #[(.int .i64 3), (.int .u64 (tid : Int)), (.int .u64 0), (.int .i64 z)])) (fourSet d8 r2 (.int .i64 3) (.int .u64 (tid : Int)) (.int .u64 0) (.int .i64 z))) := by
  rw [<- HPOST.out]
  refine ⟨⟨_, _, _, rfl⟩, _, cj - 1, (hl8.st.turn (HO9.out.mono (fun k _ e => Or.inr e)) (fun k e => ?_)).mono (fun k e => Or.inl (Or.inl e)), ⟨HB9.out⟩, HJ.out.new rb (Or.inl rfl), by unfold maxLen; omega⟩
  rcases e with e | e
  ·exact HJ4.out.1.new k e
  ·rw [e]; exact HRN.out
 unfold fourSet at HX HEND
 clear hHeld h28 hj8 hb8 hj9 hb9 hl8 HRL HS25 e0 e1 e2 e3 ef l2
 go_wp2 <;> exact bodyPost_ret (results_cellS Tryz.results37 _ _ r2 _ _ (0, 0) _ (by rfl) HX.out Tryz.underlying103 rfl info_event) (by rfl) HEND.out
set_option maxHeartbeats 8000000 in
theorem step_release {w0 : BaseW} {w : World} {sb rb ps tid n hz N : Nat} {s : St} {xid : Nat} {H : List (List (Option Tup))} {D : List (Int × Int)} (h : BrJob w0 w sb rb ps s tid n n 1 true [xid] D) (hk2 : n <= 256) (hid : U64 tid) (hH : s.hs tid = some H) (hfit : ∀ T ∈ H, Fits T) (hnum : NumHeap H) (hnd : D.Nodup) (hg : ∀ a ∈ D, ∃ v, hGet H a.1 a.2 = some v) (hh : HorSt s hz) (hL : s.L.length < 1000000000) (hN : ∀ x y, s.sn x = some y -> x <= N) (hN2 : N <= 2000000) :
  Calls Tryz.prog 37 #[ptrV rb] w (fun e w' => EvKind 3 e /\ BrDone w0 w' sb rb ps { s with hs := upd s.hs tid (some (relH s.L hz H D)) }) := by
 obtain ⟨jr, jb, cj, vi, vd, h⟩ := h
 obtain ⟨POST, hPOST⟩ : ∃ POST : Ending -> World -> Prop, (fun e w' => EvKind 3 e /\ BrDone w0 w' sb rb ps { s with hs := upd s.hs tid (some (relH s.L hz H D)) }) = POST := ⟨_, rfl⟩
 have HRL0 : Hid (∀ W K (v : Value), LawB w0 W sb K s -> W.ownsRow 0 43 2 v D.length (tidsV D) -> (∀ k, v.ownBlock = some k -> K k) -> Calls Tryz.prog 79 #[ptrV sb, .int .u64 (tid : Int), v] W (fun e w' => (∃ z : Int, e = .returned (.int .i64 z)) /\ ToB w0 W sb K { s with hs := upd s.hs tid (some (relH s.L hz H D)) } w')) := fun W K v hl hr hv => law_release hl hid hH hfit hnum hr hv hnd hg hh hL hN hN2
 rw [hPOST]
 have HPOST := Lib.hid hPOST
 have hq : Quiet w (w.alloc (.cells #[.int .i64 0, .int .u64 0, .int .u64 0, .int .i64 0] 103)) := (Only.refl _ _).alloc _
 have h2 := alloc_new w (.cells #[.int .i64 0, .int .u64 0, .int .u64 0, .int .i64 0] 103)
 obtain ⟨r2, hr2⟩ : ∃ r2, w.heap.size = r2 := ⟨_, rfl⟩
 have hrn : w0.w.heap.size <= r2 := by have := h.law.quiet.size; omega
 rw [hr2] at h2
 have HR2 := Lib.hid hr2
 have HRN := Lib.hid hrn
 have HL1 : Hid (LawB w0 (w.alloc (.cells #[.int .i64 0, .int .u64 0, .int .u64 0, .int .i64 0] 103)) sb (fun k => BrK rb jr jb vi vd k ∨ k = r2) s) := (h.law.quietly hq).mono (fun k e => by
   rcases e with e | e
   · exact Or.inl e
   · exact Or.inr ⟨by omega, by have := lt_of_get h2; omega⟩)
 have HJ := Lib.hid h
 have hcj := h.cap
 unfold maxLen at hcj
 clear h hPOST hrn hid hH hfit hnum hnd hg hh hL hN hN2
 go_enter Tryz.func37, Tryz.ntmps37
 go_upto_block 0 with (fail)
 (try rw [hr2])
 generalize w.alloc (.cells #[.int .i64 0, .int .u64 0, .int .u64 0, .int .i64 0] 103) = w1 at *
 have HQ1 := Lib.hid hq
 have H21 := Lib.hid h2
 have h1 := HJ.out.quietly hq
 have b0 := cell_of h1.br.box 0
 have b1 := cell_of h1.br.box 1
 have b2 := cell_of h1.br.box 2
 obtain ⟨cs, hrow⟩ := h1.row
 have j0 : w1.cell? ⟨jr, 0, none⟩ = some (ptrV jb) := by rw [cell_of hrow]; rfl
 have k0 := cell_of h1.job.box 0
 have k3 := cell_of h1.job.box 3
 simp only [zGA, zGS, zGZ] at b0 b1 b2 k0 k3
 have lb := lt_of_get h1.br.box
 have lr := lt_of_get hrow
 have ljb := lt_of_get h1.job.box
 have HJ1 := Lib.hid h1
 clear hq h2 hr2 hrow h1
 go_upto_region 12 with fail
 have HS12 : Hid (∀ W, Quiet w1 W -> (fun w' => w'.cell? ⟨jb, 4, none⟩ = some (.int .i64 (n : Int)) /\ w'.cell? ⟨jb, 1, none⟩ = some (.int .i64 (n : Int))) W) := fun W hq => by
  have b := (HJ1.out.quietly hq).job.box
  exact ⟨by rw [cell_of b]; rfl, by rw [cell_of b]; rfl⟩
 refine zH HS12 ((Only.refl _ _).drew) (fun hHeld => ?_)
 simp only [List.size_toArray, List.length_cons, List.length_nil, Nat.reduceAdd]
 have q0 : Quiet w1 w1.drew := (Only.refl _ _).drew
 generalize w1.drew = d0 at q0 hHeld ⊢
 refine zT 0 ?_
 refine zT 1 ?_
 refine zT 2 ?_
 refine zT 3 ?_
 refine zT 4 ?_
 refine zT 5 ?_
 refine zT 6 ?_
 refine zT 7 ?_
 refine zT 8 ?_
 refine wpAnyH_done (by kernel_rfl) ?_ _
 clear hHeld b0 b1 b2 j0 k0 k3 lb lr ljb HS12
 have HQ12 : Hid (Quiet w1 d0) := q0
 have hj := HJ1.out.quietly q0
 have c5 : d0.cell? ⟨jb, 5, none⟩ = some (.int .i64 1) := by rw [cell_of hj.job.box]; rfl
 have b0 := cell_of hj.br.box 0
 simp only [zGA, zGS, zGZ] at b0
 have lb := lt_of_get hj.br.box
 have lj := lt_of_get hj.job.box
 clear hj
 go_upto_region 20 with fail
 clear b0 c5 lb lj
 have hix := HJ.out.idx
 obtain ⟨A2, c2, rfl, _, _, _⟩ := own_form (show World.ownsRow w 0 29 1 vi 1 [.int .u64 (xid : Int)] from hix)
 clear hix
 have HS20 : Hid (∀ W, Quiet d0 W -> (fun w' => w'.cell? ⟨jb, 5, none⟩ = some (.int .i64 1) /\ w'.cell? ⟨jb, 2, none⟩ = some (.slice A2 1 c2)) W) := fun W hq => by
  have b := (HJ1.out.quietly (HQ12.out.trans hq)).job.box
  exact ⟨by rw [cell_of b]; rfl, by rw [cell_of b]; rfl⟩
 refine zH HS20 ((Only.refl _ _).drew) (fun hHeld => ?_)
 simp only [List.size_toArray, List.length_cons, List.length_nil, Nat.reduceAdd]
 have q4 : Quiet d0 d0.drew := (Only.refl _ _).drew
 generalize d0.drew = d4 at q4 hHeld ⊢
 refine zT 0 ?_
 refine zT 1 ?_
 refine zT 2 ?_
 refine zT 3 ?_
 refine zT 4 ?_
 refine zT 5 ?_
 refine zT 6 ?_
 refine zT 7 ?_
 refine zT 8 ?_
 refine zT 9 ?_
 refine wpAnyH_done (by kernel_rfl) ?_ _
 clear hHeld HS20
 have q14 := HQ12.out.trans q4
 have HJ4 : Hid (BrJobAt w0 d4 sb rb ps s tid n n 1 true [xid] D jr jb cj (.slice A2 1 c2) vd /\ LawB w0 d4 sb (fun k => BrK rb jr jb (.slice A2 1 c2) vd k ∨ k = r2) s) := ⟨HJ1.out.quietly q14, HL1.out.same q14⟩
 have H24 := Lib.hid (q14.get H21.out (fun x => x))
 clear q14 q4
 have b2 := cell_of HJ4.out.1.br.box 2
 have bf := fun o => frozen_of HJ4.out.1.br.box o
 simp only [zGA, zGS, zGZ] at b2
 have lb := lt_of_get HJ4.out.1.br.box
 have HB6 : Hid ((d4.setCell ⟨rb, 2, none⟩ (.slice (if cj = 1 then some ⟨jr, 0, none⟩ else some ⟨jr, 1, none⟩) 0 (cj - 1))).heap[rb]? = some (.cells #[ptrV sb, .bool true, (.slice (if cj = 1 then some ⟨jr, 0, none⟩ else some ⟨jr, 1, none⟩) 0 (cj - 1)), .int .i64 (ps : Int)] 70 (0, 0))) := by
  show _ = _
  rw [set_same HJ4.out.1.br.box _ _]
  rfl
 have ho6 : Only (fun x => x = rb) d4 (d4.setCell ⟨rb, 2, none⟩ (.slice (if cj = 1 then some ⟨jr, 0, none⟩ else some ⟨jr, 1, none⟩) 0 (cj - 1))) := (Only.refl (fun x => x = rb) d4).setCell (p := ⟨rb, 2, none⟩) (fun _ => rfl) _
 go_upto_region 25 with fail
 generalize d4.setCell ⟨rb, 2, none⟩ (.slice (if cj = 1 then some ⟨jr, 0, none⟩ else some ⟨jr, 1, none⟩) 0 (cj - 1)) = w6 at *
 clear b2 bf lb
 have HL6 : Hid (LawB w0 w6 sb (fun k => BrK rb jr jb (.slice A2 1 c2) vd k ∨ k = r2) s) := HJ4.out.2.turn (ho6.mono (fun k _ e => Or.inl (Or.inl e))) (fun k e => by
   rcases e with e | e
   · exact HJ4.out.1.new k e
   · rw [e]; exact HRN.out)
 have HJB : Hid (w6.heap[jb]? = some (.cells #[.int .u64 (tid : Int), .int .i64 (n : Int), (.slice A2 1 c2), .bool true, .int .i64 (n : Int), .int .i64 ((1 : Nat) : Int), vd] 170 (0, 0))) := ho6.get HJ4.out.1.job.box (fun e => HJ4.out.1.apart.2.1 e.symm)
 have H26 := Lib.hid (ho6.get H24.out (fun e => by have := HR2.out; have := lt_of_get HJ.out.br.box; omega))
 have HDD : Hid (w6.ownsRow 0 43 2 vd D.length (tidsV D)) := owns_kept HJ4.out.1.dead ho6 (fun k e => (HJ4.out.1.apart.2.2.2.1 k e).1)
 clear ho6
 have HS25 : Hid (∀ W : World, W.heap[jb]? = some (.cells #[.int .u64 (tid : Int), .int .i64 (n : Int), (.slice A2 1 c2), .bool true, .int .i64 (n : Int), .int .i64 ((1 : Nat) : Int), vd] 170 (0, 0)) -> W.heap[rb]? = some (.cells #[ptrV sb, .bool true, (.slice (if cj = 1 then some ⟨jr, 0, none⟩ else some ⟨jr, 1, none⟩) 0 (cj - 1)), .int .i64 (ps : Int)] 70 (0, 0)) -> (fun w' => w'.cell? ⟨jb, 0, none⟩ = some (.int .u64 (tid : Int)) /\ w'.cell? ⟨rb, 0, none⟩ = some (ptrV sb) /\ w'.cell? ⟨jb, 6, none⟩ = some vd) W) := fun W a b => ⟨by rw [cell_of a]; rfl, by rw [cell_of b]; rfl, by rw [cell_of a]; rfl⟩
 have HRL : Hid (∀ W, Quiet w6 W -> Calls Tryz.prog 79 #[ptrV sb, .int .u64 (tid : Int), vd] W (fun e w' => (∃ z : Int, e = .returned (.int .i64 z)) /\ ToB w0 W sb (fun k => BrK rb jr jb (.slice A2 1 c2) vd k ∨ k = r2) { s with hs := upd s.hs tid (some (relH s.L hz H D)) } w')) := fun W hq => HRL0.out W _ vd (HL6.out.same hq) (owns_kept HDD.out hq (fun _ _ x => x)) (fun k e => Or.inl (Or.inr (Or.inr (Or.inr (Or.inr e)))))
 refine wp_region_held_drew (S := (fun w' => w'.cell? ⟨jb, 0, none⟩ = some (.int .u64 (tid : Int)) /\ w'.cell? ⟨rb, 0, none⟩ = some (ptrV sb) /\ w'.cell? ⟨jb, 6, none⟩ = some vd)) (by kernel_rfl) (HS25.out _ ((Only.refl (fun _ => False) w6).drew.get HJB.out (fun x => x)) ((Only.refl (fun _ => False) w6).drew.get HB6.out (fun x => x))) (fun hHeld => ?_)
 simp only [List.size_toArray, List.length_cons, List.length_nil, Nat.reduceAdd]
 have q7 : Quiet w6 w6.drew := (Only.refl _ _).drew
 generalize w6.drew = d7 at q7 hHeld ⊢
 refine zT 0 ?_
 refine zT 1 ?_
 refine zT 2 ?_
 refine zT 3 ?_
 refine zT 4 ?_
 refine zT 5 ?_
 refine zT 6 ?_
 refine zT 7 ?_
 refine zT 8 ?_
 refine zT 9 ?_
 refine zT 10 ?_
 refine zT 11 ?_
 refine zT 12 ?_
 refine zT 13 ?_
 refine zT 14 ?_
 refine zT 15 ?_
 refine zR 16 ?_
 intro K hK
 go_simp
 go_at_call 79
 refine (HRL.out _ q7).mono ?_
 rintro e d8 ⟨⟨z, rfl⟩, hl8⟩
 have hj8 := hl8.2.get (q7.get HJB.out (fun x => x)) (fun x => x.2 (Or.inl (Or.inr (Or.inr (Or.inl rfl)))))
 have hb8 := hl8.2.get (q7.get HB6.out (fun x => x)) (fun x => x.2 (Or.inl (Or.inl rfl)))
 dsimp only
 refine hK.out _ _ ?_ (fun hHeld => ?_)
 ·exact HS25.out _ hj8 hb8
 clear hK K
 (try simp only [Act.put, zPA, zPZ, zPS])
 refine zT 17 ?_
 refine zR 18 ?_
 intro K hK
 have h28 := hl8.2.get (q7.get H26.out (fun x => x)) (fun x => x.2 (Or.inr rfl))
 have e0 := cell_of h28 0
 have e1 := cell_of h28 1
 have e2 := cell_of h28 2
 have e3 := cell_of h28 3
 have ef := fun o => frozen_of h28 o
 simp only [zGA, zGS, zGZ] at e0 e1 e2 e3
 have l2 := lt_of_get h28
 have ho9 := fourSet_only d8 r2 (.int .i64 3) (.int .u64 (tid : Int)) (.int .u64 0) (.int .i64 z)
 have hj9 := ho9.get hj8 (fun e => by have := HR2.out; have := lt_of_get HJ.out.job.box; omega)
 have hb9 := ho9.get hb8 (fun e => by have := HR2.out; have := lt_of_get HJ.out.br.box; omega)
 have HO9 := Lib.hid ho9
 have HB9 := Lib.hid hb9
 clear ho9
 go_simp
 refine hK.out _ _ ?_ (fun hHeld => ?_)
 ·exact HS25.out _ hj9 hb9
 clear hK K
 (try simp only [Act.put, zPA, zPZ, zPS])
 refine wpAnyH_done (by kernel_rfl) ?_ _
 have HX := Lib.hid (fourSet_same h28 (.int .i64 3) (.int .u64 (tid : Int)) (.int .u64 0) (.int .i64 z))
 have HEND : Hid (POST (.returned (.agg #[(.int .i64 3), (.int .u64 (tid : Int)), (.int .u64 0), (.int .i64 z)])) (fourSet d8 r2 (.int .i64 3) (.int .u64 (tid : Int)) (.int .u64 0) (.int .i64 z))) := by
  rw [<- HPOST.out]
  refine ⟨⟨_, _, _, rfl⟩, _, cj - 1, (hl8.st.turn (HO9.out.mono (fun k _ e => Or.inr e)) (fun k e => ?_)).mono (fun k e => Or.inl (Or.inl e)), ⟨HB9.out⟩, HJ.out.new rb (Or.inl rfl), by unfold maxLen; omega⟩
  rcases e with e | e
  ·exact HJ4.out.1.new k e
  ·rw [e]; exact HRN.out
 unfold fourSet at HX HEND
 clear hHeld h28 hj8 hb8 hj9 hb9 hl8 HRL HS25 e0 e1 e2 e3 ef l2
 go_wp2 <;> exact bodyPost_ret (results_cellS Tryz.results37 _ _ r2 _ _ (0, 0) _ (by rfl) HX.out Tryz.underlying103 rfl info_event) (by rfl) HEND.out
def StepsTo (rb sb : Nat) (P : World -> Prop) : Nat -> World -> Prop
 | 0, w => w.cell? ⟨rb, 0, none⟩ = some (ptrV sb) /\ Calls Tryz.prog 37 #[ptrV rb] w (fun e w' => EvKind 4 e /\ P w')
 | m + 1, w => w.cell? ⟨rb, 0, none⟩ = some (ptrV sb) /\ Calls Tryz.prog 37 #[ptrV rb] w (fun e w' => (∃ z : Int, z ≠ 4 /\ EvKind z e) /\ StepsTo rb sb P m w')
theorem event_field (z : Int) (a b c : Value) (W : World) : (Instr.field 103 (.agg #[.int .i64 z, a, b, c]) 0).run Tryz.prog W = .ok (.int .i64 z) W := by kernel_rfl
set_option maxHeartbeats 2000000 in
theorem broom_pass {w : World} {rb sb m most : Nat} {P : World -> Prop} (h : StepsTo rb sb P m w) (hm : m < most) (hmo : most <= 10000) :
  Calls Tryz.prog 15 #[ptrV rb, .int .i64 (most : Int)] w (fun e w' => (∃ z : Int, e = .returned (.int .i64 z)) /\ P w') := by
 obtain ⟨POST, hPOST⟩ : ∃ POST : Ending -> World -> Prop, (fun e w' => (∃ z : Int, e = .returned (.int .i64 z)) /\ P w') = POST := ⟨_, rfl⟩
 rw [hPOST]
 have HPOST := Lib.hid hPOST
 have HST := Lib.hid h
 clear h hPOST
 go_enter Tryz.func15, Tryz.ntmps15
 go_wp2
 go_loopw [5] (fun n wr => ∃ k : Nat, k <= m /\ n = .int .i64 (k : Int) /\ StepsTo rb sb P (m - k) wr) (fun n _ => m + 1 - (intOf n).toNat)
 case atStart => exact ⟨0, Nat.zero_le _, rfl, HST.out⟩
 case round =>
  obtain ⟨k, hk, rfl, hs⟩ := hrel
  have hlt : k < most := by omega
  have hw1 : IntKind.i64.wrap ((k : Int) + 1) = ((k + 1 : Nat) : Int) := by rw [wrap_i64_of _ (by omega) (by omega)]; rfl
  rcases hd : m - k with _ | d
  ·rw [hd] at hs
   obtain ⟨hc, hcall⟩ := hs
   have HC := Lib.hid hcall
   have lb := cell_lt hc
   dsimp only at lb
   clear hcall hd HST
   go_wp2_with fail
   refine HC.out.mono ?_
   rintro e w2 ⟨⟨a, b, c, rfl⟩, hp⟩
   have HEND : Hid (POST (.returned (.int .i64 ((k + 1 : Nat) : Int))) w2) := by
    rw [<- HPOST.out]
    exact ⟨⟨_, rfl⟩, hp⟩
   clear hp HC hc lb
   have hf := event_field 4 a b c w2
   go_wp2
   exact HEND.out
  ·rw [hd] at hs
   obtain ⟨hc, hcall⟩ := hs
   have HC := Lib.hid hcall
   have lb := cell_lt hc
   dsimp only at lb
   have HD := Lib.hid hd
   clear hcall hd HST
   go_wp2_with fail
   refine HC.out.mono ?_
   rintro e w2 ⟨⟨z, hz, a, b, c, rfl⟩, hp⟩
   have HP := Lib.hid hp
   have hz2 : (z == 4) = false := by simpa using hz
   clear hp HC hc lb
   have hf := event_field z a b c w2
   go_wp2
   go_roundw
   case rel => exact ⟨k + 1, by have := HD.out; omega, by first | rfl | go_num, by have h1 : m - (k + 1) = d := by have := HD.out; omega
                                                                                   rw [h1]; exact HP.out⟩
   case measure => simp [intOf]; omega
theorem BrIdle.cell0 {w0 : BaseW} {w : World} {sb rb ps : Nat} {s : St} (h : BrIdle w0 w sb rb ps s) : w.cell? ⟨rb, 0, none⟩ = some (ptrV sb) := by
 obtain ⟨vj, _, hb, _⟩ := h
 exact hb.cells.1
theorem BrDone.cell0 {w0 : BaseW} {w : World} {sb rb ps : Nat} {s : St} (h : BrDone w0 w sb rb ps s) : w.cell? ⟨rb, 0, none⟩ = some (ptrV sb) := by
 obtain ⟨A, c, _, hb, _⟩ := h
 exact hb.cells.1
theorem BrJob.cell0 {w0 : BaseW} {w : World} {sb rb ps tid n k i : Nat} {s : St} {known : Bool} {ids : List Nat} {D : List (Int × Int)} (h : BrJob w0 w sb rb ps s tid n k i known ids D) : w.cell? ⟨rb, 0, none⟩ = some (ptrV sb) := by
 obtain ⟨jr, jb, cj, vi, vd, h⟩ := h
 exact h.br.cells.1
def deadTo (s : St) (hz : Nat) (H : List (List (Option Tup))) (k : Nat) : List (Int × Int) := (placesH H k).filter (deadA s.L H hz)
theorem deadTo_succ {s : St} {hz k : Nat} {H : List (List (Option Tup))} {T : List (Option Tup)} (hT : H[k]? = some T) : deadTo s hz H (k + 1) = deadTo s hz H k ++ (placesTo (k : Int) T T.length).filter (deadA s.L H hz) := by
 unfold deadTo
 rw [placesH, List.filter_append, List.getD_eq_getElem?_getD, hT]
 rfl
theorem fits_len {T : List (Option Tup)} (h : Fits T) : T.length <= 127 := by
 unfold Fits at h
 omega
theorem placesTo_len (p : Int) (T : List (Option Tup)) (k : Nat) : (placesTo p T k).length <= k := by
 unfold placesTo
 refine Nat.le_trans (List.length_filterMap_le _ _) ?_
 rw [List.length_range]
 exact Nat.le_refl _
structure PassOk (s : St) (t : TE) (H : List (List (Option Tup))) (hz N : Nat) : Prop where
 tab : s.T = [t]
 idx : s.I.length <= 1000
 hor : HorSt s hz
 lives : BookLives s hz
 log : s.L.length < 1000000000
 few : ∀ x y, s.sn x = some y -> x <= N
 few2 : N <= 2000000
 heap : s.hs t.id = some H
 num : U64 t.id
 fit : ∀ T ∈ H, Fits T
 nums : NumHeap H
 some_ : 0 < H.length
 most : H.length <= 256
theorem PassOk.dead_len {s : St} {t : TE} {H : List (List (Option Tup))} {hz N : Nat} (h : PassOk s t H hz N) (k : Nat) (hk : k <= H.length) : (deadTo s hz H k).length <= 127 * k := by
 induction k with
 | zero => exact Nat.le_refl _
 | succ k ih =>
  obtain ⟨T, hT⟩ : ∃ T, H[k]? = some T := ⟨_, List.getElem?_eq_getElem (by omega)⟩
  rw [deadTo_succ hT, List.length_append]
  have h1 := ih (by omega)
  have h2 := List.length_filter_le (deadA s.L H hz) (placesTo (k : Int) T T.length)
  have h3 := placesTo_len (k : Int) T T.length
  have h4 := fits_len (h.fit T (List.mem_of_getElem? hT))
  omega
section
variable {w0 : BaseW} {w : World} {sb rb ps hz N : Nat} {s : St} {t : TE} {H : List (List (Option Tup))} {P : World -> Prop}
theorem pages_steps (ho : PassOk s t H hz N) {d : Nat} (hd : ∀ w', BrJob w0 w' sb rb ps s t.id H.length H.length 0 true [] (deadTo s hz H H.length) -> StepsTo rb sb P d w') (j : Nat) : ∀ (k : Nat) (w : World), k + j = H.length -> BrJob w0 w sb rb ps s t.id H.length k 0 true [] (deadTo s hz H k) -> StepsTo rb sb P (j + d) w := by
 induction j with
 | zero =>
  intro k w hk h
  obtain rfl : k = H.length := by omega
  rw [Nat.zero_add]
  exact hd w h
 | succ j ih =>
  intro k w hk h
  obtain ⟨T, hT⟩ : ∃ T, H[k]? = some T := ⟨_, List.getElem?_eq_getElem (by omega)⟩
  rw [show j + 1 + d = (j + d) + 1 by omega]
  have h4 := fits_len (ho.fit T (List.mem_of_getElem? hT))
  have h3 := placesTo_len (k : Int) T T.length
  have h5 := ho.dead_len k (by omega)
  have h6 := ho.most
  refine ⟨h.cell0, (step_gather h rfl (by omega) ho.most ho.num ho.heap hT ho.nums ho.hor ho.log ho.few ho.few2 (by omega) (by omega)).mono ?_⟩
  rintro e w' ⟨he, hj⟩
  refine ⟨⟨1, by decide, he⟩, ih (k + 1) w' (by omega) ?_⟩
  rw [deadTo_succ hT]
  exact hj
theorem begin_steps (ho : PassOk s t H hz N) {d : Nat} (hd : ∀ w', BrJob w0 w' sb rb ps s t.id H.length H.length 0 true [] (deadTo s hz H H.length) -> StepsTo rb sb P d w') (h : BrIdle w0 w sb rb ps s) : StepsTo rb sb P (H.length + d + 1) w := by
 refine ⟨h.cell0, (step_begin h ho.tab ho.idx ho.hor ho.lives ho.log ho.few ho.few2).mono ?_⟩
 rintro e w1 ⟨he, hj⟩
 refine ⟨⟨0, by decide, he⟩, ?_⟩
 obtain ⟨T, hT⟩ : ∃ T, H[0]? = some T := ⟨_, List.getElem?_eq_getElem ho.some_⟩
 have h4 := fits_len (ho.fit T (List.mem_of_getElem? hT))
 have h3 := placesTo_len ((0 : Nat) : Int) T T.length
 have h6 := ho.some_
 rw [show H.length + d = (H.length - 1 + d) + 1 by omega]
 refine ⟨hj.cell0, (step_gather0 hj rfl ho.some_ ho.most ho.num ho.heap hT ho.nums ho.hor ho.log ho.few ho.few2 (by omega) (by show 0 <= 1000000; omega)).mono ?_⟩
 rintro e w2 ⟨he2, hj2⟩
 refine ⟨⟨1, by decide, he2⟩, pages_steps ho hd (H.length - 1) 1 w2 (by omega) ?_⟩
 rw [deadTo_succ hT]
 exact hj2
theorem dead_nodup (H : List (List (Option Tup))) (hz k : Nat) (s : St) : (deadTo s hz H k).Nodup := (placesH_nodup H k).filter _
theorem dead_get {k : Nat} {a : Int × Int} (h : a ∈ deadTo s hz H k) : ∃ v, hGet H a.1 a.2 = some v := placesH_get (List.mem_filter.1 h).1
def sweptS (s : St) (id hz : Nat) (H : List (List (Option Tup))) : St := { s with hs := upd s.hs id (some (relH s.L hz H (deadTo s hz H H.length))) }
def sweptX (s : St) (id hz xid : Nat) (H : List (List (Option Tup))) (es : List Ent) : St := { s with hs := upd s.hs id (some (relH s.L hz H (deadTo s hz H H.length))), ts := upd s.ts xid (some (prunE (deadTo s hz H H.length) es)) }
theorem law_pass0 {most : Nat} (ho : PassOk s t H hz N) (hkI : keptI s.L t.id s.I = []) (h : BrIdle w0 w sb rb ps s) (hp : ps < 1000000) (hm : H.length + 3 <= most) (hmo : most <= 10000) :
  Calls Tryz.prog 15 #[ptrV rb, .int .i64 (most : Int)] w (fun e w' => (∃ z : Int, e = .returned (.int .i64 z)) /\ BrIdle w0 w' sb rb (ps + 1) (sweptS s t.id hz H)) := by
 refine broom_pass (m := H.length + 1 + 1) (begin_steps ho (d := 1) (fun w' hj => ?_) h) (by omega) hmo
 refine ⟨hj.cell0, (step_release0 hj ho.most ho.tab ho.idx hkI ho.num ho.heap ho.fit ho.nums (dead_nodup _ _ _ _) (fun a ha => dead_get ha) ho.hor ho.log ho.few ho.few2).mono ?_⟩
 rintro e w2 ⟨he, hd⟩
 refine ⟨⟨3, by decide, he⟩, hd.cell0, (step_end hd hp).mono ?_⟩
 rintro e w3 ⟨he, hi⟩
 exact ⟨he, hi⟩
theorem law_pass1 {most : Nat} {x : IE} {es : List Ent} (ho : PassOk s t H hz N) (hkI : keptI s.L t.id s.I = [x]) (hxt : x.table = t.id) (hid : U64 x.id) (hts : s.ts x.id = some es) (hwp : ∀ p ∈ deadTo s hz H H.length, Wf p) (hwe : ∀ e ∈ es, Wf (e.pg, e.sl)) (hlp : (deadTo s hz H H.length).length <= 10000) (hle : es.length <= 10000) (h : BrIdle w0 w sb rb ps s) (hp : ps < 1000000) (hm : H.length + 4 <= most) (hmo : most <= 10000) :
  Calls Tryz.prog 15 #[ptrV rb, .int .i64 (most : Int)] w (fun e w' => (∃ z : Int, e = .returned (.int .i64 z)) /\ BrIdle w0 w' sb rb (ps + 1) (sweptX s t.id hz x.id H es)) := by
 refine broom_pass (m := H.length + 2 + 1) (begin_steps ho (d := 2) (fun w' hj => ?_) h) (by omega) hmo
 refine ⟨hj.cell0, (step_unlink hj ho.most ho.tab ho.idx rfl hkI hxt hid hts hwp hwe hlp hle).mono ?_⟩
 rintro e w2 ⟨he, hj2⟩
 have hh := ho.hor
 refine ⟨⟨2, by decide, he⟩, hj2.cell0, (step_release (s := { s with ts := upd s.ts x.id (some (prunE (deadTo s hz H H.length) es)) }) (hz := hz) (N := N) (H := H) hj2 ho.most ho.num ho.heap ho.fit ho.nums (dead_nodup _ _ _ _) (fun a ha => dead_get ha) ⟨hh.none_, hh.some_, hh.least, hh.num⟩ ho.log ho.few ho.few2).mono ?_⟩
 rintro e w3 ⟨he, hd⟩
 refine ⟨⟨3, by decide, he⟩, hd.cell0, (step_end hd hp).mono ?_⟩
 rintro e w4 ⟨he, hi⟩
 exact ⟨he, hi⟩
end
theorem perm_of_sub {α : Type} [DecidableEq α] : ∀ (a b : List α), a.Nodup -> (∀ x ∈ a, x ∈ b) -> b.length <= a.length -> b.Perm a
 | [], b, _, _, h => by
  have : b = [] := List.eq_nil_of_length_eq_zero (by simpa using h)
  rw [this]
 | x :: a, b, hn, hs, hl => by
  obtain ⟨h1, h2⟩ := List.nodup_cons.1 hn
  have hx := hs x (List.mem_cons_self ..)
  have ih := perm_of_sub a (b.erase x) h2 (fun z hz => (List.mem_erase_of_ne (fun e => h1 (by rw [<- e]; exact hz))).2 (hs z (List.mem_cons_of_mem _ hz))) (by
    rw [List.length_erase_of_mem hx]
    simp at hl
    omega)
  exact (List.perm_cons_erase hx).trans (ih.cons x)
theorem filterMap_same {α β : Type} {f g : α -> Option β} : ∀ {l : List α}, (∀ x ∈ l, f x = g x) -> l.filterMap f = l.filterMap g
 | [], _ => rfl
 | a :: l, h => by
  rw [List.filterMap_cons, List.filterMap_cons, h a (List.mem_cons_self ..), filterMap_same (fun x hx => h x (List.mem_cons_of_mem _ hx))]
theorem place_in {p : Int} {T : List (Option Tup)} {s : Int} {v : Tup} (h : tupAt T s = some v) : (p, s) ∈ placesTo p T T.length := by
 obtain ⟨h0, hs⟩ := tupAt_some h
 have hl := (List.getElem?_eq_some_iff.1 hs).1
 unfold placesTo
 refine List.mem_filterMap.2 ⟨s.toNat, List.mem_range.2 hl, ?_⟩
 rw [hs]
 show some (p, ((s.toNat : Nat) : Int)) = some (p, s)
 rw [Int.toNat_of_nonneg h0]
theorem mem_placesH {H : List (List (Option Tup))} {p s : Int} {v : Tup} (h : hGet H p s = some v) : (p, s) ∈ placesH H H.length := by
 have h0 : ¬ (p < 0 ∨ (H.length : Int) <= p) := fun x => by rw [hGet_out x] at h; cases h
 obtain ⟨k, rfl⟩ := Int.eq_ofNat_of_zero_le (show 0 <= p by omega)
 obtain ⟨T, hT⟩ : ∃ T, H[k]? = some T := ⟨_, List.getElem?_eq_getElem (by omega)⟩
 rw [hGet_in s hT] at h
 have h1 := place_in (p := (k : Int)) h
 have key : ∀ j, k < j -> ((k : Int), s) ∈ placesH H j := by
  intro j
  induction j with
  | zero => intro hk; omega
  | succ j ih =>
   intro hk
   rw [placesH]
   by_cases e : k = j
   ·subst e
    rw [List.getD_eq_getElem?_getD, hT]
    exact List.mem_append_right _ h1
   ·exact List.mem_append_left _ (ih (by omega))
 exact key _ (by omega)
section
variable {H H' : List (List (Option Tup))} {l : List ((Int × Int) × Tup)}
theorem Inv.places (h : Inv H l) : (placesH H H.length).Perm (l.map (·.1)) := by
 refine perm_of_sub _ _ h.nd (fun a ha => ?_) ?_
 ·obtain ⟨x, hx, rfl⟩ := List.mem_map.1 ha
  exact mem_placesH (h.got x hx)
 ·rw [placesH_length H H.length (Nat.le_refl _), List.take_length, h.used, List.length_map]
  exact Nat.le_refl _
theorem Inv.inj (h : Inv H l) {i j : Nat} {x y : (Int × Int) × Tup} (hi : l[i]? = some x) (hj : l[j]? = some y) (he : x.1 = y.1) : i = j := by
 have h1 : (l.map (·.1))[i]? = some x.1 := by rw [List.getElem?_map, hi]; rfl
 have h2 : (l.map (·.1))[j]? = some y.1 := by rw [List.getElem?_map, hj]; rfl
 exact (List.getElem?_inj (List.getElem?_eq_some_iff.1 h1).1 h.nd).1 (by rw [h1, h2, he])
theorem Inv.stamp (h : Inv H l) {j : Nat} {p : Int × Int} {v u : Tup} (hj : l[j]? = some (p, v)) (hs : StampAt H H' p.1 p.2 v u) : Inv H' (l.set j (p, u)) := by
 have hlt := (List.getElem?_eq_some_iff.1 hj).1
 have he := (List.getElem?_eq_some_iff.1 hj).2
 refine ⟨by rw [hs.used, h.used, List.length_set], ?_, fun x hx => ?_, hs.fit⟩
 ·have : (l.set j (p, u)).map (·.1) = l.map (·.1) := by
   rw [List.map_set]
   apply List.ext_getElem?
   intro i
   rw [List.getElem?_set]
   by_cases e : j = i
   ·subst e
    rw [if_pos rfl, if_pos (by simpa using hlt), List.getElem?_map, hj]
    rfl
   ·rw [if_neg e]
  rw [this]
  exact h.nd
 ·obtain ⟨i, hi⟩ := List.mem_iff_getElem?.1 hx
  rw [List.getElem?_set] at hi
  by_cases e : j = i
  ·subst e
   rw [if_pos rfl, if_pos hlt] at hi
   injection hi with hi
   subst hi
   rw [hs.get, if_pos ⟨rfl, rfl⟩]
  ·rw [if_neg e] at hi
   rw [hs.get, if_neg (fun y => e (h.inj hj hi (by exact (Prod.ext y.1 y.2).symm)))]
   exact h.got x (List.mem_of_getElem? hi)
def tellR (x : (Int × Int) × Tup) : RowR := (x.2.row, x.1.1, x.1.2, numOf x.2.data)
def rowOf (L : List Nat) (y : Snap) (x : (Int × Int) × Tup) : Option RowR := if visS L y x.2.xmin x.2.xmax then some (tellR x) else none
theorem Inv.seen (h : Inv H l) (L : List Nat) (y : Snap) : (seenR H L y (placesH H H.length)).Perm (l.filterMap (rowOf L y)) := by
 refine (h.places.filterMap (seenAt H L y)).trans ?_
 rw [List.filterMap_map]
 have : List.filterMap (seenAt H L y ∘ fun x => x.1) l = l.filterMap (rowOf L y) := by
  refine filterMap_same fun x hx => ?_
  show seenAt H L y x.1 = _
  unfold seenAt rowOf
  rw [h.got x hx]
  rfl
 rw [this]
theorem Inv.dead (h : Inv H l) (L : List Nat) (hz : Nat) : ((placesH H H.length).filter (deadA L H hz)).length = (l.filter (fun x => deadS L x.2.xmin x.2.xmax hz)).length := by
 rw [(h.places.filter (deadA L H hz)).length_eq, List.filter_map, List.length_map]
 have : List.filter (deadA L H hz ∘ fun x => x.1) l = l.filter (fun x => deadS L x.2.xmin x.2.xmax hz) := by
  apply List.filter_congr
  intro x hx
  show deadA L H hz x.1 = _
  unfold deadA
  rw [h.got x hx]
 rw [this]
end
structure VerIs (k len m : Nat) (v : Tup) : Prop where
 row : v.row = m % k + 1
 xmin : v.xmin = if m < k then 1 else m / k + 2
 xmax : v.xmax = if m + k < len then m / k + 3 else 0
 data : v.data = rowI (if m < k then m else 99)
structure HoldH (k len : Nat) (H : List (List (Option Tup))) (left : Nat) (l : List ((Int × Int) × Tup)) : Prop where
 inv : Inv H l
 cnt : l.length = len
 left : H.length + left = 256
 few : H.length <= len
 vers : ∀ m x, l[m]? = some x -> VerIs k len m x.2
theorem HoldH.start (k : Nat) : HoldH k 0 [] 256 [] := ⟨Inv.start, rfl, rfl, Nat.le_refl _, fun m x h => by simp at h⟩
section
variable {k len left : Nat} {H : List (List (Option Tup))} {l : List ((Int × Int) × Tup)}
theorem HoldH.at_ (h : HoldH k len H left l) {p s : Int} {v : Tup} (hg : hGet H p s = some v) : ∃ m, m < len /\ l[m]? = some ((p, s), v) /\ VerIs k len m v := by
 have h1 := (h.inv.places.mem_iff).1 (mem_placesH hg)
 obtain ⟨x, hx, he⟩ := List.mem_map.1 h1
 have h2 := h.inv.got x hx
 rw [he, hg] at h2
 injection h2 with h2
 obtain ⟨m, hm⟩ := List.mem_iff_getElem?.1 hx
 have hx2 : x = ((p, s), v) := Prod.ext he h2.symm
 rw [hx2] at hm
 exact ⟨m, by rw [<- h.cnt]; exact (List.getElem?_eq_some_iff.1 hm).1, hm, h.vers m _ hm⟩
theorem VerIs.small {m : Nat} {v : Tup} (h : VerIs k len m v) (hm : m < len) (hk : 0 < k) (hl : len <= 100) : v.row <= 101 /\ v.xmin <= 103 /\ v.xmax <= 103 := by
 have h1 := h.row
 have h2 := h.xmin
 have h3 := h.xmax
 have h4 : m / k <= m := Nat.div_le_self _ _
 have h5 : m % k <= m := Nat.mod_le _ _
 refine ⟨by omega, ?_, ?_⟩
 ·rw [h2]; split <;> omega
 ·rw [h3]; split <;> omega
theorem HoldH.int (h : HoldH k len H left l) (hk : 0 < k) (hk2 : k <= 100) (hl : len <= 100) : IntHeap H := fun pg sl v hv => by
 obtain ⟨m, hm, _, hV⟩ := h.at_ hv
 obtain ⟨_, a, b⟩ := hV.small hm hk hl
 refine ⟨by unfold U64; omega, by unfold U64; omega, _, ?_, hV.data⟩
 split <;> omega
theorem HoldH.nums (h : HoldH k len H left l) (hk : 0 < k) (hl : len <= 100) : NumHeap H := fun pg sl v hv => by
 obtain ⟨m, hm, _, hV⟩ := h.at_ hv
 obtain ⟨_, a, b⟩ := hV.small hm hk hl
 exact ⟨by unfold U64; omega, by unfold U64; omega⟩
theorem HoldH.ins (h : HoldH k len H left l) (hlen : len < k) (hk : k <= 8) : ∃ p q H' left' l', hIns H left ⟨len + 1, 1, 0, -1, -1, rowI len⟩ = ((p, q, 0), H', left') /\ HoldH k (len + 1) H' left' l' := by
 have hl := h.left
 have hf := h.few
 obtain ⟨p, q, H', left', h1, h2, _, h4⟩ := hIns_goes (left := left) h.inv.fit (nine_right (r := len + 1) (x := 1) (n := len) (by omega) (by omega)) (Or.inl (by omega))
 refine ⟨p, q, H', left', _, h1, ⟨h.inv.ins h2, by simp [h.cnt], by omega, by have := h2.len; omega, fun m x hx => ?_⟩⟩
 rcases Nat.lt_trichotomy m len with y | y | y
 ·rw [List.getElem?_append_left (by rw [h.cnt]; exact y)] at hx
  obtain ⟨a, b, c, d⟩ := h.vers m x hx
  refine ⟨a, b, ?_, d⟩
  rw [c, if_neg (by omega), if_neg (by omega)]
 ·subst y
  rw [List.getElem?_append_right (by rw [h.cnt]; exact Nat.le_refl _), h.cnt] at hx
  simp at hx
  subst hx
  refine ⟨?_, by rw [if_pos hlen], by rw [if_neg (by omega)], by rw [if_pos hlen]⟩
  show m + 1 = m % k + 1
  rw [Nat.mod_eq_of_lt hlen]
 ·rw [List.getElem?_eq_none (by rw [List.length_append, h.cnt]; show len + 1 <= m; omega)] at hx
  cases hx
theorem HoldH.upd (h : HoldH k len H left l) (hlen : k <= len) (hk : 0 < k) (hk2 : k <= 8) (hl40 : len <= 80) {x : (Int × Int) × Tup} (hx : l[len - k]? = some x) :
  ∃ p q H1 left1 H2 l', hIns H left ⟨x.2.row, len / k + 2, 0, -1, -1, rowI 99⟩ = ((p, q, 0), H1, left1) /\ hStamp H1 x.1.1 x.1.2 (len / k + 2) p q = (0, H2) /\ HoldH k (len + 1) H2 left1 l' /\ (∀ m, m ≠ len - k -> m < len -> (l'[m]?).map (·.1) = (l[m]?).map (·.1)) /\ ∀ m, len - k < m -> m < len -> l'[m]? = l[m]? := by
 have hl := h.left
 have hf := h.few
 have hV := h.vers _ x hx
 have hd1 : len / k = (len - k) / k + 1 := Nat.div_eq_sub_div hk hlen
 have hd2 : len % k = (len - k) % k := Nat.mod_eq_sub_mod hlen
 have hd3 : len / k <= len := Nat.div_le_self _ _
 obtain ⟨hr, _, _⟩ := hV.small (by omega) hk (by omega)
 obtain ⟨p, q, H1, left1, h1, h2, _, h4⟩ := hIns_goes (left := left) h.inv.fit (nine_right (r := x.2.row) (x := len / k + 2) (n := 99) (by omega) (by omega)) (Or.inl (by omega))
 have hi := h.inv.ins h2
 have hgx : hGet H1 x.1.1 x.1.2 = some x.2 := hi.got x (List.mem_append_left _ (List.mem_of_getElem? hx))
 have hpos := h2.pos
 have hp1 : hGet H1 p q = some ⟨x.2.row, len / k + 2, 0, -1, -1, rowI 99⟩ := by rw [h2.get, if_pos ⟨rfl, rfl⟩]
 have hfar : farB p q = false := by
  have h0 : ¬ (p < 0 ∨ (H1.length : Int) <= p) := fun x => by rw [hGet_out x] at hp1; cases hp1
  obtain ⟨k', rfl⟩ := Int.eq_ofNat_of_zero_le (show 0 <= p by omega)
  obtain ⟨T, hT⟩ : ∃ T, H1[k']? = some T := ⟨_, List.getElem?_eq_getElem (by omega)⟩
  rw [hGet_in q hT] at hp1
  obtain ⟨s0, hs⟩ := tupAt_some hp1
  have hl := (List.getElem?_eq_some_iff.1 hs).1
  have hf := h2.fit T (List.mem_of_getElem? hT)
  have := h2.len
  unfold Fits at hf
  unfold farB
  rw [if_neg (by omega), decide_eq_false_iff_not]
  omega
 obtain ⟨H2, h5, h6⟩ := hStamp_goes (x := len / k + 2) h2.fit hgx (by omega) hfar
 have hx1 : (l ++ [((p, q), (⟨x.2.row, len / k + 2, 0, -1, -1, rowI 99⟩ : Tup))])[len - k]? = some (x.1, x.2) := by
  rw [List.getElem?_append_left (by rw [h.cnt]; omega)]
  exact hx
 refine ⟨p, q, H1, left1, H2, _, h1, h5, ⟨hi.stamp hx1 h6, by simp [h.cnt], by rw [h6.len]; omega, by rw [h6.len]; have := h2.len; omega, fun m z hz => ?_⟩, fun m hm hm2 => ?_, fun m hm hm2 => ?_⟩
 ·rw [List.getElem?_set] at hz
  by_cases e : len - k = m
  ·subst e
   rw [if_pos rfl, if_pos (by simp [h.cnt]; omega)] at hz
   injection hz with hz
   subst hz
   refine ⟨hV.row, hV.xmin, ?_, hV.data⟩
   show len / k + 2 = _
   rw [if_pos (by omega)]
   omega
  ·rw [if_neg e] at hz
   rcases Nat.lt_trichotomy m len with y | y | y
   ·rw [List.getElem?_append_left (by rw [h.cnt]; exact y)] at hz
    obtain ⟨a, b, c, d⟩ := h.vers m z hz
    refine ⟨a, b, ?_, d⟩
    rw [c]
    by_cases e2 : m + k < len
    ·rw [if_pos e2, if_pos (by omega)]
    ·rw [if_neg e2, if_neg (by omega)]
   ·subst y
    rw [List.getElem?_append_right (by rw [h.cnt]; exact Nat.le_refl _), h.cnt] at hz
    simp at hz
    subst hz
    refine ⟨?_, by rw [if_neg (by omega)], by rw [if_neg (by omega)], by rw [if_neg (by omega)]⟩
    show x.2.row = _
    rw [hV.row, hd2]
   ·rw [List.getElem?_eq_none (by rw [List.length_append, h.cnt]; show len + 1 <= m; omega)] at hz
    cases hz
 ·rw [List.getElem?_set, if_neg (by omega), List.getElem?_append_left (by rw [h.cnt]; exact hm2)]
 ·rw [List.getElem?_set, if_neg (by omega), List.getElem?_append_left (by rw [h.cnt]; exact hm2)]
theorem told_order {M : List RowM} {R : List RowR} (hp : (M.map RowM.told).Perm R) (hs : M.Pairwise (fun a b => a.id <= b.id)) (hr : R.Pairwise (fun a b => a.1 < b.1)) : M.map RowM.told = R := by
 refine List.Perm.eq_of_pairwise (le := fun a b : RowR => a.1 <= b.1) (fun a b ha hb h1 h2 => ?_) ?_ (hr.imp (fun h => Nat.le_of_lt h)) hp
 ·obtain ⟨i, hi⟩ := List.mem_iff_getElem?.1 (hp.mem_iff.1 ha)
  obtain ⟨j, hj⟩ := List.mem_iff_getElem?.1 hb
  have hh : a.1 = b.1 := Nat.le_antisymm h1 h2
  obtain ⟨li, ei⟩ := List.getElem?_eq_some_iff.1 hi
  obtain ⟨lj, ej⟩ := List.getElem?_eq_some_iff.1 hj
  rcases Nat.lt_trichotomy i j with y | y | y
  ·have := List.pairwise_iff_getElem.1 hr i j li lj y
   rw [ei, ej] at this
   omega
  ·subst y
   rw [<- ei, <- ej]
  ·have := List.pairwise_iff_getElem.1 hr j i lj li y
   rw [ei, ej] at this
   omega
 ·rw [List.pairwise_map]
  exact hs
end
theorem num13 (n : Int) (w : World) : Calls Tryz.prog 11 #[.int .i64 n] w (LitRow w 4 (intRow n)) := by
 have hN : LitRow w 4 (intRow n) (.returned (.slice (some ⟨w.heap.size, 0, none⟩) 1 1)) (w.alloc (.cells #[.int .u8 1, .int .i64 n, .string ⟨#[]⟩, .bool false] 50)) := ⟨w.heap.size, rfl, (Only.refl _ _).alloc _, Nat.le_refl _, by simp, Rd.new w 4 1 (intRow n) _ _ rfl rfl⟩
 have HN := Lib.hid hN
 clear hN
 obtain ⟨POST, hPOST⟩ : ∃ POST, LitRow w 4 (intRow n) = POST := ⟨_, rfl⟩
 rw [hPOST] at HN ⊢
 clear hPOST
 go_enter Tryz.func11, Tryz.ntmps11
 go_wp2
 exact HN.out
theorem one13 (w : World) : Calls Tryz.prog 9 #[] w (LitRow w 2 (colsV [(⟨#[97]⟩, 1)])) := by
 have hN : LitRow w 2 (colsV [(⟨#[97]⟩, 1)]) (.returned (.slice (some ⟨w.heap.size, 0, none⟩) 1 1)) (w.alloc (.cells #[.string ⟨#[97]⟩, .int .u8 1] 81)) := ⟨w.heap.size, rfl, (Only.refl _ _).alloc _, Nat.le_refl _, by simp, Rd.new w 2 1 (colsV [(⟨#[97]⟩, 1)]) _ _ rfl rfl⟩
 have HN := Lib.hid hN
 clear hN
 obtain ⟨POST, hPOST⟩ : ∃ POST, LitRow w 2 (colsV [(⟨#[97]⟩, 1)]) = POST := ⟨_, rfl⟩
 rw [hPOST] at HN ⊢
 clear hPOST
 go_enter Tryz.func9, Tryz.ntmps9
 go_wp2
 exact HN.out
def idxSt (s : St) (t : TE) (name : ByteArray) (own : Nat) (es : List Ent) : St := { s with T := [t], I := [⟨s.blast + 1, name, t.id, 0, own, 0⟩], blast := s.blast + 1, ts := upd s.ts (s.blast + 1) (some es) }
def StoreIdxPost (w : World) (sb : Nat) (o : Nat -> Nat) (s : St) (t : TE) (H : List (List (Option Tup))) (name : ByteArray) (own : Nat) (e : Ending) (w' : World) : Prop := ∃ hz0 : Nat, e = .returned (.int .i64 0) /\ StepTo w sb o (idxSt s t name own (buildE H s.L hz0 (placesH H H.length))) w'
structure MixLeaf (o : Nat -> Nat) (wb W : World) (bb xi last : Nat) (t : TE) (x : IE) : Prop where
 only : Only (fun k => o k = 3) wb W
 book : BookIs W (fun k => o k = 3 ∨ wb.heap.size <= k) bb [t] [x] last
 box : W.heap[xi]? = some (.cells #[.int .u64 (x.id : Int), .string x.name, .int .u64 (x.table : Int), .int .i64 (x.column : Int), .int .u64 (x.xmin : Int), .int .u64 (x.xmax : Int)] 111 (0, 0))
 new : wb.heap.size <= xi
theorem mix_leaf {o : Nat -> Nat} {wb w1 : World} {bb xi last : Nat} {t : TE} {x : IE} {c0 c1 c2 c3 c4 c5 v0 v1 v2 v3 v4 v5 : Value} (hv : idxE x = [v0, v1, v2, v3, v4, v5]) (ho : Only (fun k => o k = 3) wb w1) (hb : BookIs w1 (fun k => (o k = 3 ∨ wb.heap.size <= k) /\ k ≠ xi) bb [t] [x] last) (hx : w1.heap[xi]? = some (.cells #[c0, c1, c2, c3, c4, c5] 111 (0, 0))) (hn : wb.heap.size <= xi) :
  MixLeaf o wb (sixSet w1 xi v0 v1 v2 v3 v4 v5) bb xi last t x := by
 simp only [idxE, List.cons.injEq, and_true] at hv
 obtain ⟨rfl, rfl, rfl, rfl, rfl, rfl⟩ := hv
 have h1 := sixSet_only w1 xi (.int .u64 (x.id : Int)) (.string x.name) (.int .u64 (x.table : Int)) (.int .i64 (x.column : Int)) (.int .u64 (x.xmin : Int)) (.int .u64 (x.xmax : Int))
 exact ⟨ho.trans' h1 (fun k hk e => by omega), (hb.kept h1 (fun k hk e => hk.2 e)).mono (fun k hk => hk.1), sixSet_same hx _ _ _ _ _ _, hn⟩
theorem mix_key {goal : Prop} {o : Nat -> Nat} {wb : World} {bb last : Nat} {t : TE} {x : IE} {G : Nat -> World -> Prop} (main : (∀ xi W, MixLeaf o wb W bb xi last t x -> G xi W) -> goal) (key : ∀ xi W, MixLeaf o wb W bb xi last t x -> G xi W) : goal := main key
structure NewLeaf (wb W : World) (nb tq B1 : Nat) (A : Option Addr) (c : Nat) (t : TE) : Prop where
 quiet : Quiet wb W
 tree : TreeIs W (fun k => wb.heap.size <= k /\ k < B1 /\ k ≠ tq) nb []
 box : W.heap[tq]? = some (.cells #[.int .u64 (t.id : Int), .string t.name, .slice A t.cols.length c, .int .u64 (t.xmin : Int), .int .u64 (t.xmax : Int)] 83 (0, 0))
 new : wb.heap.size <= tq
 cols : Rd W (fun k => B1 <= k /\ k ≠ tq) 2 A t.cols.length (colsV t.cols) /\ t.cols.length <= c /\ c <= maxLen
 big : wb.heap.size <= B1 /\ B1 <= W.heap.size
theorem new_leaf {wb w1 : World} {nb tq B1 c : Nat} {A : Option Addr} {t : TE} {D S : Nat -> Prop} {c0 c1 c2 c3 c4 : Value} (hq : Quiet wb w1) (ht : TreeIs w1 D nb []) (hd : ∀ k, D k -> wb.heap.size <= k /\ k < B1 /\ k ≠ tq) (hx : w1.heap[tq]? = some (.cells #[c0, c1, c2, c3, c4] 83 (0, 0))) (hn : wb.heap.size <= tq)
  (hr : Rd w1 S 2 A t.cols.length (colsV t.cols)) (hs : ∀ k, S k -> B1 <= k /\ k ≠ tq) (hc : t.cols.length <= c /\ c <= maxLen) (hB : wb.heap.size <= B1 /\ B1 <= w1.heap.size) :
  NewLeaf wb (fiveSet w1 tq (.int .u64 (t.id : Int)) (.string t.name) (.slice A t.cols.length c) (.int .u64 (t.xmin : Int)) (.int .u64 (t.xmax : Int))) nb tq B1 A c t := by
 have h1 := fiveSet_only w1 tq (.int .u64 (t.id : Int)) (.string t.name) (.slice A t.cols.length c) (.int .u64 (t.xmin : Int)) (.int .u64 (t.xmax : Int))
 exact ⟨hq.trans' h1 (fun k hk e => by omega), (ht.mono (fun k a _ => hd k a)).kept h1 (fun k hk e => hk.2.2 e), fiveSet_same hx _ _ _ _ _, hn, ⟨(hr.mono hs).kept h1 (fun k hk e => hk.2 e), hc⟩, hB.1, Nat.le_trans hB.2 h1.size⟩
theorem new_key {goal : Prop} {wb : World} {t : TE} {G : Nat -> Nat -> Nat -> Option Addr -> Nat -> World -> Prop} (main : (∀ nb tq B1 A c W, NewLeaf wb W nb tq B1 A c t -> G nb tq B1 A c W) -> goal) (key : ∀ nb tq B1 A c W, NewLeaf wb W nb tq B1 A c t -> G nb tq B1 A c W) : goal := main key
theorem idx_done {w w2 W1 wr w6 : World} {sb lb bb pb mh mt ms nb xi own : Nat} {o : Nat -> Nat} {s : St} {t : TE} {name : ByteArray} {es : List Ent} {fh ft fs : Nat -> Option Value} (h : StoreRow w sb o s lb bb pb mh mt ms fh ft fs) (hq2 : Quiet w w2) (hL : MixLeaf o w2 W1 bb xi (s.blast + 1) t ⟨s.blast + 1, name, t.id, 0, own, 0⟩)
  (ho : Only (fun k => W1.heap.size <= k) W1 wr) (ht : TreeIs wr (fun k => W1.heap.size <= k) nb es) (ho6 : Only (fun k => k = mt) wr w6) (hm : MapF w6 mt (upd ft (s.blast + 1) (some (ptrV nb)))) : StepTo w sb o (idxSt s t name own es) w6 := by
 have h1 := (h.quietly hq2).setBook hL.only hL.book
 have hz2 := hq2.size
 have hz1 := hL.only.size
 have hzr := ho.size
 have hmt : o mt = 7 := h.tags.2.2.2.1
 have hml := h.mT.lt
 have hor := h1.kept ho (fun k x => h1.big k x)
 have hn := hor.newTree (B := W1.heap.size) (id := s.blast + 1) (tb := nb) (es := es) h1.big hzr ho6 hm (ht.kept ho6 (fun k x e => by omega))
 refine ⟨_, fun k hk => ?_, (((hq2.mono (T := fun k => o k ≠ 0) (fun _ _ x => x.elim)).trans' hL.only (fun k _ x => by omega)).trans' ho (fun k hk x => by omega)).trans' ho6 (fun k _ x => by rw [x, hmt]; omega), _, _, _, _, _, _, _, _, _, hn⟩
 rw [grow_old (by omega), grow_old (by omega)]
set_option maxHeartbeats 8000000 in
theorem store_index {w : World} {sb x N : Nat} {o : Nat -> Nat} {s : St} {y : Snap} {t : TE} {name of_ nm : ByteArray} {H : List (List (Option Tup))} (h : StoreAt w sb o s) (hx : U64 x) (hy : s.sn x = some y) (hT : s.T = [t]) (hI : s.I = []) (hc : t.cols = [(nm, 1)]) (hf : findT s.L y of_ s.T = some 0) (hH : s.hs t.id = some H) (hid : U64 t.id)
  (hl : s.blast < 1000000) (hu : U64 y.own) (hnm : Small name) (hne : (t.name.toList == name.toList) = false) (hL : s.L.length < 1000000000) (hN : ∀ x y, s.sn x = some y -> x <= N) (hN2 : N <= 2000000) (hp : ∀ k, k <= H.length -> (placesH H k).length <= 10000) (hint : IntHeap H) :
  Calls Tryz.prog 17 #[ptrV sb, .int .u64 (x : Int), .string name, .string of_, .string nm] w (StoreIdxPost w sb o s t H name y.own) := by
 have HRU := Lib.hid (store_runs h hx)
 obtain ⟨lb, bb, pb, mh, mt, ms, fh, ft, fs, h⟩ := h
 have HH := Lib.hid h
 obtain ⟨hb, hfh, hhp⟩ := h.heaps.2 t.id H hH
 have HHP := Lib.hid hhp
 have HFH := Lib.hid hfh
 have HHH := Lib.hid hH
 have HCC := Lib.hid hc
 have HID := Lib.hid hid
 have HTI := Lib.hid (And.intro hT hI)
 have HLU := Lib.hid (And.intro hl hu)
 have HNM := Lib.hid (And.intro hnm hne)
 have HNN := Lib.hid (And.intro hL (And.intro hN hN2))
 have HPL := Lib.hid hp
 have HINT := Lib.hid hint
 have HFT := Lib.hid hf
 have HBIG : Hid (∀ k, w.heap.size <= k -> o k = 0) := h.big
 have HTG := Lib.hid h.tags
 unfold RunsPost at HRU
 rw [hy] at HRU
 obtain ⟨POST, hPOST⟩ : ∃ POST, StoreIdxPost w sb o s t H name y.own = POST := ⟨_, rfl⟩
 rw [hPOST]
 have HPOST := Lib.hid hPOST
 clear h hx hT hI hc hf hH hid hl hu hnm hne hL hN hN2 hp hint hfh hhp hPOST
 go_enter Tryz.func17, Tryz.ntmps17
 go_wp2_with fail
 refine HRU.out.mono ?_
 rintro e w1 ⟨hq1, A, c, rfl, hs1⟩
 clear HRU
 have hq2 : Quiet w (w1.alloc (.cells (snapCells y A c) 73)) := hq1.alloc _
 have hpb := alloc_new w1 (.cells (snapCells y A c) 73)
 have hs2 := hs1.kept ((Only.refl (fun _ => False) w1).alloc (.cells (snapCells y A c) 73)) (fun _ _ x => x)
 have hz1 := hq1.size
 obtain ⟨ps, hps⟩ : ∃ ps, w1.heap.size = ps := ⟨_, rfl⟩
 unfold snapV
 go_wp2_with fail
 rw [hps] at hpb hz1
 (try rw [hps])
 generalize w1.alloc (.cells (snapCells y A c) 73) = w2 at *
 have HQ2 := Lib.hid hq2
 have HPS := Lib.hid (And.intro hpb hz1)
 have HSN := Lib.hid hs2
 have HS4 : Hid (∀ W, Only (fun k => o k = 3) w2 W -> (fun w' => w'.cell? ⟨sb, 1, none⟩ = some (ptrV bb) /\ w'.cell? ⟨sb, 0, none⟩ = some (ptrV lb) /\ w'.cell? ⟨ps, 0, none⟩ = some (.int .u64 (y.own : Int)) /\ w'.cell? ⟨ps, 1, none⟩ = some (.int .u64 (y.xmin : Int)) /\ w'.cell? ⟨ps, 2, none⟩ = some (.int .u64 (y.xmax : Int)) /\ w'.cell? ⟨ps, 3, none⟩ = some (.slice A y.run.length c)) W) := fun W ho => by
  have tg := HTG.out
  have c := (HH.out.quietly HQ2.out).cells
  have hz := HBIG.out ps HPS.out.2
  obtain ⟨s0, s1, s2, s3⟩ := snapBox_cells (ho.get HPS.out.1 (fun x => by omega))
  exact ⟨ho.cell c.2.1 (fun x => by dsimp only at x; omega), ho.cell c.1 (fun x => by dsimp only at x; omega), s0, s1, s2, s3⟩
 obtain ⟨nid, hnid⟩ : ∃ nid, s.blast + 1 = nid := ⟨_, rfl⟩
 have HNID := Lib.hid hnid
 have HBI : Hid (∀ W, Quiet w2 W -> Calls Tryz.prog 40 #[ptrV bb, ptrV lb, .agg #[.int .u64 (y.own : Int), .int .u64 (y.xmin : Int), .int .u64 (y.xmax : Int), .slice A y.run.length c], .string name, .string of_, .string nm] W (fun e w' => e = .returned (.tuple #[.agg #[.int .u64 (nid : Int), .string name, .int .u64 (t.id : Int), .int .i64 0, .int .u64 (y.own : Int), .int .u64 0], .int .i64 0]) /\ Only (fun k => o k = 3) W w' /\ BookIs w' (fun k => o k = 3 ∨ W.heap.size <= k) bb [t] [⟨nid, name, t.id, 0, y.own, 0⟩] nid)) := fun W hq => by
  subst hnid
  have h2 := (HH.out.quietly HQ2.out).quietly hq
  have hbk := h2.book
  rw [HTI.out.1, HTI.out.2] at hbk
  have hf := HFT.out
  rw [HTI.out.1] at hf
  exact book_index hbk h2.log (HSN.out.kept hq (fun _ _ x => x)) HLU.out.1 HCC.out hf HNM.out.1 HNM.out.2 HID.out HLU.out.2 (fun k hk => by rcases Nat.lt_or_ge k W.heap.size with a | a; exact a; have := h2.big k a; omega)
 clear hq1 hs1 hs2 hpb hz1 hq2 hps hy hnid
 apply mix_key (o := o) (wb := w2) (bb := bb) (last := nid) (t := t) (x := ⟨nid, name, t.id, 0, y.own, 0⟩)
 case main =>
   intro KEY
   refine zH HS4 ((Only.refl _ _).drew) (fun hHeld => ?_)
   simp only [List.size_toArray, List.length_cons, List.length_nil, Nat.reduceAdd]
   have q0 : Quiet w2 w2.drew := (Only.refl _ _).drew
   generalize w2.drew = d0 at q0 hHeld ⊢
   refine zT 0 ?_
   refine zT 1 ?_
   refine zT 2 ?_
   refine zT 3 ?_
   refine zT 4 ?_
   refine zT 5 ?_
   refine zT 6 ?_
   refine zT 7 ?_
   refine zT 8 ?_
   refine zT 9 ?_
   refine zT 10 ?_
   refine zT 11 ?_
   refine wpAnyH_ready (rs := [12, 16]) (by kernel_rfl) (by simp) ?_
   refine zA ?_ ?_
   ·intro K hK
    go_simp
    go_at_call 40
    refine (HBI.out _ q0).mono ?_
    rintro e d2 ⟨rfl, ho2, hb2⟩
    have hO := (q0.mono (T := fun k => o k = 3) (fun _ _ x => x.elim)).trans ho2
    have hzq := q0.size
    have hbl := hb2.lim
    dsimp only
    refine hK.out _ _ ?_ (fun hHeld => ?_)
    ·exact HS4.out _ hO
    clear hK K
    (try simp only [Act.put, zPA, zPZ, zPS])
    refine zT 13 ?_
    refine zT 14 ?_
    refine zT 15 ?_
    refine zR 16 ?_
    intro K hK
    go_simp
    refine hK.out _ _ ?_ (fun hHeld => ?_)
    ·exact HS4.out _ (hO.alloc _)
    clear hK K
    (try simp only [Act.put, zPA, zPZ, zPS])
    have hO3 := hO.alloc (.cells #[.int .u64 0, .string ⟨#[]⟩, .int .u64 0, .int .i64 0, .int .u64 0, .int .u64 0] 111)
    have hx1 := alloc_new d2 (.cells #[.int .u64 0, .string ⟨#[]⟩, .int .u64 0, .int .i64 0, .int .u64 0, .int .u64 0] 111)
    have hnp : w2.heap.size <= d2.heap.size := hO.size
    have hB := (hbl.kept ((Only.refl (fun _ => False) d2).alloc (.cells #[.int .u64 0, .string ⟨#[]⟩, .int .u64 0, .int .i64 0, .int .u64 0, .int .u64 0] 111)) (fun _ _ x => x)).mono (G := fun k => (o k = 3 ∨ w2.heap.size <= k) /\ k ≠ d2.heap.size) (fun k hk => ⟨by rcases hk.1 with a | a; exact Or.inl a; exact Or.inr (by omega), by omega⟩)
    obtain ⟨xi, hxi⟩ : ∃ xi, d2.heap.size = xi := ⟨_, rfl⟩
    rw [hxi] at hx1 hnp hB ⊢
    generalize d2.alloc (.cells #[.int .u64 0, .string ⟨#[]⟩, .int .u64 0, .int .i64 0, .int .u64 0, .int .u64 0] 111) = d3 at *
    clear hxi hO
    have hO := hO3
    have z0 := cell_of hx1 0
    have z1 := cell_of hx1 1
    have z2 := cell_of hx1 2
    have z3 := cell_of hx1 3
    have z4 := cell_of hx1 4
    have z5 := cell_of hx1 5
    have zf := fun o => frozen_of hx1 o
    simp only [zGA, zGS, zGZ] at z0 z1 z2 z3 z4 z5
    refine zR 17 ?_
    intro K hK
    go_simp
    refine hK.out _ _ ?_ (fun hHeld => ?_)
    ·exact HS4.out _ (mix_leaf (x := ⟨nid, name, t.id, 0, y.own, 0⟩) (v0 := .int .u64 (nid : Int)) (v1 := .string name) (v2 := .int .u64 (t.id : Int)) (v3 := .int .i64 0) (v4 := .int .u64 (y.own : Int)) (v5 := .int .u64 0) rfl hO hB hx1 hnp).only
    clear hK K
    (try simp only [Act.put, zPA, zPZ, zPS])
    have HG := mix_leaf (x := ⟨nid, name, t.id, 0, y.own, 0⟩) (v0 := .int .u64 (nid : Int)) (v1 := .string name) (v2 := .int .u64 (t.id : Int)) (v3 := .int .i64 0) (v4 := .int .u64 (y.own : Int)) (v5 := .int .u64 0) rfl hO hB hx1 hnp
    unfold sixSet at HG
    refine zT 18 ?_
    refine wpAnyH_done (by kernel_rfl) ?_ _
    generalize ((((((d3.setCell ⟨xi, 0, none⟩ (.int .u64 (nid : Int))).setCell ⟨xi, 1, none⟩ (.string name)).setCell ⟨xi, 2, none⟩ (.int .u64 (t.id : Int))).setCell ⟨xi, 3, none⟩ (.int .i64 0)).setCell ⟨xi, 4, none⟩ (.int .u64 (y.own : Int))).setCell ⟨xi, 5, none⟩ (.int .u64 0)) = WF at HG ⊢
    exact KEY _ _ HG
   refine zA ?_ AllReadyH.nil
   intro K hK
   go_simp
   refine hK.out _ _ ?_ (fun hHeld => ?_)
   ·exact HS4.out _ ((q0.alloc _).mono (fun _ _ x => x.elim))
   clear hK K
   (try simp only [Act.put, zPA, zPZ, zPS])
   have q1 : Quiet w2 (d0.alloc (.cells #[.int .u64 0, .string ⟨#[]⟩, .int .u64 0, .int .i64 0, .int .u64 0, .int .u64 0] 111)) := q0.alloc _
   have hb1 := alloc_new d0 (.cells #[.int .u64 0, .string ⟨#[]⟩, .int .u64 0, .int .i64 0, .int .u64 0, .int .u64 0] 111)
   have hnp : w2.heap.size <= d0.heap.size := q0.size
   obtain ⟨xi, hxi⟩ : ∃ xi, d0.heap.size = xi := ⟨_, rfl⟩
   rw [hxi] at hb1 hnp ⊢
   generalize d0.alloc (.cells #[.int .u64 0, .string ⟨#[]⟩, .int .u64 0, .int .i64 0, .int .u64 0, .int .u64 0] 111) = d1 at *
   clear hxi
   refine zR 12 ?_
   intro K hK
   go_simp
   go_at_call 40
   refine (HBI.out _ q1).mono ?_
   rintro e d2 ⟨rfl, ho2, hb2⟩
   have hO := (q1.mono (T := fun k => o k = 3) (fun _ _ x => x.elim)).trans ho2
   have hzq := q1.size
   have hox := HBIG.out xi (Nat.le_trans HQ2.out.size hnp)
   have hx1 := ho2.get hb1 (fun x => by omega)
   have hlx := lt_of_get hb1
   have hB := hb2.mono (G := fun k => (o k = 3 ∨ w2.heap.size <= k) /\ k ≠ xi) (fun k hk => by rcases hk with a | a; exact ⟨Or.inl a, fun e => by rw [e] at a; omega⟩; exact ⟨Or.inr (by omega), by omega⟩)
   dsimp only
   refine hK.out _ _ ?_ (fun hHeld => ?_)
   ·exact HS4.out _ hO
   clear hK K
   (try simp only [Act.put, zPA, zPZ, zPS])
   have z0 := cell_of hx1 0
   have z1 := cell_of hx1 1
   have z2 := cell_of hx1 2
   have z3 := cell_of hx1 3
   have z4 := cell_of hx1 4
   have z5 := cell_of hx1 5
   have zf := fun o => frozen_of hx1 o
   simp only [zGA, zGS, zGZ] at z0 z1 z2 z3 z4 z5
   refine zT 13 ?_
   refine zT 14 ?_
   refine zT 15 ?_
   refine zR 17 ?_
   intro K hK
   go_simp
   refine hK.out _ _ ?_ (fun hHeld => ?_)
   ·exact HS4.out _ (mix_leaf (x := ⟨nid, name, t.id, 0, y.own, 0⟩) (v0 := .int .u64 (nid : Int)) (v1 := .string name) (v2 := .int .u64 (t.id : Int)) (v3 := .int .i64 0) (v4 := .int .u64 (y.own : Int)) (v5 := .int .u64 0) rfl hO hB hx1 hnp).only
   clear hK K
   (try simp only [Act.put, zPA, zPZ, zPS])
   have HG := mix_leaf (x := ⟨nid, name, t.id, 0, y.own, 0⟩) (v0 := .int .u64 (nid : Int)) (v1 := .string name) (v2 := .int .u64 (t.id : Int)) (v3 := .int .i64 0) (v4 := .int .u64 (y.own : Int)) (v5 := .int .u64 0) rfl hO hB hx1 hnp
   unfold sixSet at HG
   refine zT 18 ?_
   refine wpAnyH_done (by kernel_rfl) ?_ _
   generalize ((((((d2.setCell ⟨xi, 0, none⟩ (.int .u64 (nid : Int))).setCell ⟨xi, 1, none⟩ (.string name)).setCell ⟨xi, 2, none⟩ (.int .u64 (t.id : Int))).setCell ⟨xi, 3, none⟩ (.int .i64 0)).setCell ⟨xi, 4, none⟩ (.int .u64 (y.own : Int))).setCell ⟨xi, 5, none⟩ (.int .u64 0)) = WF at HG ⊢
   exact KEY _ _ HG
 case key =>
  intro xi W1 HL0
  have HL := Lib.hid HL0
  clear HL0 HS4 HBI
  have hst := (HH.out.quietly HQ2.out).setBook HL.out.only HL.out.book
  obtain ⟨o1, ho1⟩ : ∃ o1, grow o w2.heap.size W1.heap.size 3 = o1 := ⟨_, rfl⟩
  rw [ho1] at hst
  have HST := Lib.hid hst
  have HSA : Hid (StoreAt W1 sb o1 { s with T := [t], I := [⟨nid, name, t.id, 0, y.own, 0⟩], blast := nid }) := ⟨_, _, _, _, _, _, _, _, _, hst⟩
  have HBX := Lib.hid HL.out.box
  clear hst ho1
  have HS7 : Hid (∀ W, Quiet W1 W -> (fun w' => w'.cell? ⟨xi, 2, none⟩ = some (.int .u64 (t.id : Int))) W) := fun W hq => by
   show W.cell? _ = _
   rw [cell_of (hq.get HBX.out (fun x => x))]
   rfl
  have HTBL : Hid (∀ W, Quiet W1 W -> Calls Tryz.prog 42 #[ptrV sb, .int .u64 (t.id : Int)] W (TabvPost W t)) := fun W hq => store_table (HSA.out.quietly hq) rfl
  go_wp2_with fail
  apply new_key (wb := W1) (t := t)
  case main =>
    intro KEY
    refine zH HS7 ((Only.refl _ _).drew) (fun hHeld => ?_)
    simp only [List.size_toArray, List.length_cons, List.length_nil, Nat.reduceAdd]
    have q0 : Quiet W1 W1.drew := (Only.refl _ _).drew
    generalize W1.drew = d0 at q0 hHeld ⊢
    refine zT 1 ?_
    refine zT 2 ?_
    refine zT 3 ?_
    refine wpAnyH_ready (rs := [0, 5]) (by kernel_rfl) (by simp) ?_
    refine zA ?_ ?_
    ·intro K hK
     go_simp
     go_at_call 41
     refine (new_any _).mono ?_
     rintro e dN ⟨rfl, hqN, hN0, hN1⟩
     have qN := q0.trans hqN
     have htl := (tree_new hqN hN0 hN1).mono (D' := fun k => d0.heap.size <= k /\ k < dN.heap.size) (fun k a b => ⟨a, b⟩)
     have hzN := hqN.size
     have hzn := q0.size
     obtain ⟨nb, hnb⟩ : ∃ nb, d0.heap.size + 1 = nb := ⟨_, rfl⟩
     rw [hnb] at htl ⊢
     clear hqN hN0 hN1 hnb
     dsimp only
     refine hK.out _ _ ?_ (fun hHeld => ?_)
     ·exact HS7.out _ qN
     clear hK K
     (try simp only [Act.put, zPA, zPZ, zPS])
     refine wpAnyH_ready (rs := [4, 5]) (by kernel_rfl) (by simp) ?_
     refine zA ?_ ?_
     ·intro K hK
      go_simp
      go_at_call 42
      refine (HTBL.out _ qN).mono ?_
      rintro e dT ⟨A2, c2, rfl, hqT, hrT, hcT⟩
      have qT := qN.trans hqT
      have htl := htl.kept hqT (fun _ _ x => x)
      have hrl := rd_in hrT
      have hzT := hqT.size
      clear hqT hrT
      unfold tabV
      dsimp only
      refine hK.out _ _ ?_ (fun hHeld => ?_)
      ·exact HS7.out _ qT
      clear hK K
      (try simp only [Act.put, zPA, zPZ, zPS])
      refine zR 5 ?_
      intro K hK
      go_simp
      refine hK.out _ _ ?_ (fun hHeld => ?_)
      ·exact HS7.out _ (qT.alloc _)
      clear hK K
      (try simp only [Act.put, zPA, zPZ, zPS])
      have qA : Quiet W1 (dT.alloc (.cells #[.int .u64 0, .string ⟨#[]⟩, .slice none 0 0, .int .u64 0, .int .u64 0] 83)) := qT.alloc _
      have hb1 := alloc_new dT (.cells #[.int .u64 0, .string ⟨#[]⟩, .slice none 0 0, .int .u64 0, .int .u64 0] 83)
      have hnp : W1.heap.size <= dT.heap.size := qT.size
      have htl := htl.kept ((Only.refl (fun _ => False) dT).alloc (.cells #[.int .u64 0, .string ⟨#[]⟩, .slice none 0 0, .int .u64 0, .int .u64 0] 83)) (fun _ _ x => x)
      have hrl := hrl.kept ((Only.refl (fun _ => False) dT).alloc (.cells #[.int .u64 0, .string ⟨#[]⟩, .slice none 0 0, .int .u64 0, .int .u64 0] 83)) (fun _ _ x => x)
      have hzA := lt_of_get hb1
      obtain ⟨tq, htq⟩ : ∃ tq, dT.heap.size = tq := ⟨_, rfl⟩
      rw [htq] at hb1 hnp hzA ⊢
      generalize dT.alloc (.cells #[.int .u64 0, .string ⟨#[]⟩, .slice none 0 0, .int .u64 0, .int .u64 0] 83) = dA at *
      have z0 := cell_of hb1 0
      have z1 := cell_of hb1 1
      have z2 := cell_of hb1 2
      have z3 := cell_of hb1 3
      have z4 := cell_of hb1 4
      have zf := fun o => frozen_of hb1 o
      simp only [zGA, zGS, zGZ] at z0 z1 z2 z3 z4
      refine zT 6 ?_
      refine zR 7 ?_
      intro K hK
      go_simp
      refine hK.out _ _ ?_ (fun hHeld => ?_)
      ·exact HS7.out _ (new_leaf (B1 := dN.heap.size) (t := t) qA htl (fun k hk => by omega) hb1 hnp hrl (fun k hk => by omega) hcT ⟨by omega, by omega⟩).quiet
      clear hK K
      (try simp only [Act.put, zPA, zPZ, zPS])
      have HG := new_leaf (B1 := dN.heap.size) (t := t) qA htl (fun k hk => by omega) hb1 hnp hrl (fun k hk => by omega) hcT ⟨by omega, by omega⟩
      unfold fiveSet at HG
      refine wpAnyH_done (by kernel_rfl) ?_ _
      generalize (((((dA.setCell ⟨tq, 0, none⟩ (.int .u64 (t.id : Int))).setCell ⟨tq, 1, none⟩ (.string t.name)).setCell ⟨tq, 2, none⟩ (.slice A2 t.cols.length c2)).setCell ⟨tq, 3, none⟩ (.int .u64 (t.xmin : Int))).setCell ⟨tq, 4, none⟩ (.int .u64 (t.xmax : Int))) = WF at HG ⊢
      generalize dN.heap.size = BN at HG
      exact KEY _ _ _ _ _ _ HG
     refine zA ?_ AllReadyH.nil
     intro K hK
     go_simp
     refine hK.out _ _ ?_ (fun hHeld => ?_)
     ·exact HS7.out _ (qN.alloc _)
     clear hK K
     (try simp only [Act.put, zPA, zPZ, zPS])
     have qA : Quiet W1 (dN.alloc (.cells #[.int .u64 0, .string ⟨#[]⟩, .slice none 0 0, .int .u64 0, .int .u64 0] 83)) := qN.alloc _
     have hb1 := alloc_new dN (.cells #[.int .u64 0, .string ⟨#[]⟩, .slice none 0 0, .int .u64 0, .int .u64 0] 83)
     have hnp : W1.heap.size <= dN.heap.size := qN.size
     have htl := htl.kept ((Only.refl (fun _ => False) dN).alloc (.cells #[.int .u64 0, .string ⟨#[]⟩, .slice none 0 0, .int .u64 0, .int .u64 0] 83)) (fun _ _ x => x)
     have hzA := lt_of_get hb1
     obtain ⟨tq, htq⟩ : ∃ tq, dN.heap.size = tq := ⟨_, rfl⟩
     rw [htq] at hb1 hnp hzA ⊢
     generalize dN.alloc (.cells #[.int .u64 0, .string ⟨#[]⟩, .slice none 0 0, .int .u64 0, .int .u64 0] 83) = dA at *
     refine zR 4 ?_
     intro K hK
     go_simp
     go_at_call 42
     refine (HTBL.out _ qA).mono ?_
     rintro e dT ⟨A2, c2, rfl, hqT, hrT, hcT⟩
     have qT := qA.trans hqT
     have htl := htl.kept hqT (fun _ _ x => x)
     have hrl := rd_in hrT
     have hzT := hqT.size
     have hb1 := hqT.get hb1 (fun x => x)
     clear hqT hrT
     unfold tabV
     dsimp only
     refine hK.out _ _ ?_ (fun hHeld => ?_)
     ·exact HS7.out _ qT
     clear hK K
     (try simp only [Act.put, zPA, zPZ, zPS])
     have z0 := cell_of hb1 0
     have z1 := cell_of hb1 1
     have z2 := cell_of hb1 2
     have z3 := cell_of hb1 3
     have z4 := cell_of hb1 4
     have zf := fun o => frozen_of hb1 o
     simp only [zGA, zGS, zGZ] at z0 z1 z2 z3 z4
     refine zT 6 ?_
     refine zR 7 ?_
     intro K hK
     go_simp
     refine hK.out _ _ ?_ (fun hHeld => ?_)
     ·exact HS7.out _ (new_leaf (B1 := dN.heap.size) (t := t) qT htl (fun k hk => by omega) hb1 hnp hrl (fun k hk => by omega) hcT ⟨by omega, by omega⟩).quiet
     clear hK K
     (try simp only [Act.put, zPA, zPZ, zPS])
     have HG := new_leaf (B1 := dN.heap.size) (t := t) qT htl (fun k hk => by omega) hb1 hnp hrl (fun k hk => by omega) hcT ⟨by omega, by omega⟩
     unfold fiveSet at HG
     refine wpAnyH_done (by kernel_rfl) ?_ _
     generalize (((((dT.setCell ⟨tq, 0, none⟩ (.int .u64 (t.id : Int))).setCell ⟨tq, 1, none⟩ (.string t.name)).setCell ⟨tq, 2, none⟩ (.slice A2 t.cols.length c2)).setCell ⟨tq, 3, none⟩ (.int .u64 (t.xmin : Int))).setCell ⟨tq, 4, none⟩ (.int .u64 (t.xmax : Int))) = WF at HG ⊢
     generalize dN.heap.size = BN at HG
     exact KEY _ _ _ _ _ _ HG
    refine zA ?_ AllReadyH.nil
    intro K hK
    go_simp
    refine hK.out _ _ ?_ (fun hHeld => ?_)
    ·exact HS7.out _ (q0.alloc _)
    clear hK K
    (try simp only [Act.put, zPA, zPZ, zPS])
    have qA : Quiet W1 (d0.alloc (.cells #[.int .u64 0, .string ⟨#[]⟩, .slice none 0 0, .int .u64 0, .int .u64 0] 83)) := q0.alloc _
    have hb1 := alloc_new d0 (.cells #[.int .u64 0, .string ⟨#[]⟩, .slice none 0 0, .int .u64 0, .int .u64 0] 83)
    have hnp : W1.heap.size <= d0.heap.size := q0.size
    have hzA := lt_of_get hb1
    obtain ⟨tq, htq⟩ : ∃ tq, d0.heap.size = tq := ⟨_, rfl⟩
    rw [htq] at hb1 hnp hzA ⊢
    generalize d0.alloc (.cells #[.int .u64 0, .string ⟨#[]⟩, .slice none 0 0, .int .u64 0, .int .u64 0] 83) = dA at *
    refine zR 0 ?_
    intro K hK
    go_simp
    go_at_call 41
    refine (new_any _).mono ?_
    rintro e dN ⟨rfl, hqN, hN0, hN1⟩
    have qN := qA.trans hqN
    have htl := (tree_new hqN hN0 hN1).mono (D' := fun k => dA.heap.size <= k /\ k < dN.heap.size) (fun k a b => ⟨a, b⟩)
    have hzN := hqN.size
    have hzn := qA.size
    obtain ⟨nb, hnb⟩ : ∃ nb, dA.heap.size + 1 = nb := ⟨_, rfl⟩
    rw [hnb] at htl ⊢
    have hb1 := hqN.get hb1 (fun x => x)
    clear hqN hN0 hN1 hnb
    dsimp only
    refine hK.out _ _ ?_ (fun hHeld => ?_)
    ·exact HS7.out _ qN
    clear hK K
    (try simp only [Act.put, zPA, zPZ, zPS])
    refine zR 4 ?_
    intro K hK
    go_simp
    go_at_call 42
    refine (HTBL.out _ qN).mono ?_
    rintro e dT ⟨A2, c2, rfl, hqT, hrT, hcT⟩
    have qT := qN.trans hqT
    have htl := htl.kept hqT (fun _ _ x => x)
    have hrl := rd_in hrT
    have hzT := hqT.size
    have hb1 := hqT.get hb1 (fun x => x)
    clear hqT hrT
    unfold tabV
    dsimp only
    refine hK.out _ _ ?_ (fun hHeld => ?_)
    ·exact HS7.out _ qT
    clear hK K
    (try simp only [Act.put, zPA, zPZ, zPS])
    have z0 := cell_of hb1 0
    have z1 := cell_of hb1 1
    have z2 := cell_of hb1 2
    have z3 := cell_of hb1 3
    have z4 := cell_of hb1 4
    have zf := fun o => frozen_of hb1 o
    simp only [zGA, zGS, zGZ] at z0 z1 z2 z3 z4
    refine zT 6 ?_
    refine zR 7 ?_
    intro K hK
    go_simp
    refine hK.out _ _ ?_ (fun hHeld => ?_)
    ·exact HS7.out _ (new_leaf (B1 := dN.heap.size) (t := t) qT htl (fun k hk => by omega) hb1 hnp hrl (fun k hk => by omega) hcT ⟨by omega, by omega⟩).quiet
    clear hK K
    (try simp only [Act.put, zPA, zPZ, zPS])
    have HG := new_leaf (B1 := dN.heap.size) (t := t) qT htl (fun k hk => by omega) hb1 hnp hrl (fun k hk => by omega) hcT ⟨by omega, by omega⟩
    unfold fiveSet at HG
    refine wpAnyH_done (by kernel_rfl) ?_ _
    generalize (((((dT.setCell ⟨tq, 0, none⟩ (.int .u64 (t.id : Int))).setCell ⟨tq, 1, none⟩ (.string t.name)).setCell ⟨tq, 2, none⟩ (.slice A2 t.cols.length c2)).setCell ⟨tq, 3, none⟩ (.int .u64 (t.xmin : Int))).setCell ⟨tq, 4, none⟩ (.int .u64 (t.xmax : Int))) = WF at HG ⊢
    generalize dN.heap.size = BN at HG
    exact KEY _ _ _ _ _ _ HG
  case key =>
   intro nb tq B1 A2 c2 W HN0
   have HNL := Lib.hid HN0
   clear HN0 HS7 HTBL
   have HHZ : Hid (Calls Tryz.prog 43 #[ptrV sb] W (StoreHorPost W { s with T := [t], I := [⟨nid, name, t.id, 0, y.own, 0⟩], blast := nid })) := store_horizon (HSA.out.quietly HNL.out.quiet) HNN.out.1 HNN.out.2.1 HNN.out.2.2
   go_wp2_with fail
   refine HHZ.out.mono ?_
   rintro e W2 ⟨hz0, rfl, _, hqz⟩
   have HQZ : Hid (Quiet W1 W2) := HNL.out.quiet.trans hqz
   have HPLC : Hid (Calls Tryz.prog 34 #[ptrV sb, .int .u64 (t.id : Int)] W2 (ChainPost W2 (placesH H H.length))) := store_places (HSA.out.quietly HQZ.out) HID.out HHH.out (fun k hk => by have := HPL.out k hk; omega)
   have hx2 := HQZ.out.get HBX.out (fun x => x)
   have xc2 : W2.cell? ⟨xi, 2, none⟩ = some (.int .u64 (t.id : Int)) := by rw [cell_of hx2]; rfl
   have lxi := lt_of_get hx2
   clear hx2 HHZ
   go_wp2_with fail
   refine HPLC.out.mono ?_
   rintro e W3 ⟨vp, rfl, hqp, hnp, hrp⟩
   obtain ⟨A3, c3, rfl, hc3, hm3, hrd3⟩ := own_form hrp
   have HQ3 : Hid (Quiet W1 W3) := HQZ.out.trans hqp
   have HNQ : Hid (Quiet W W3) := hqz.trans hqp
   obtain ⟨pl, hpl⟩ : ∃ pl, placesH H H.length = pl := ⟨_, rfl⟩
   have HPN : Hid (∀ a ∈ pl, ∃ v, hGet H a.1 a.2 = some v) := by rw [<- hpl]; exact fun a ha => placesH_get ha
   have HLEN : Hid (pl.length <= 10000) := by rw [<- hpl]; exact HPL.out H.length (Nat.le_refl _)
   rw [hpl] at hrd3 hc3 ⊢
   have HPLE := Lib.hid hpl
   obtain ⟨m, hm⟩ : ∃ m, pl.length = m := ⟨_, rfl⟩
   rw [hm] at HLEN hc3
   have HM := Lib.hid hm
   have HRP : Hid (Rd W3 (fun k => W2.heap.size <= k /\ k < W3.heap.size) 2 A3 pl.length (tidsV pl)) := (rd_in hrd3).mono (fun k hk => ⟨by rw [hpl] at hnp; exact hnp k hk.1, hk.2⟩)
   rw [hm]
   unfold maxLen at hm3
   obtain ⟨D0, hD0⟩ : ∃ D0 : Nat -> Prop, (fun k => W1.heap.size <= k /\ k < B1 /\ k ≠ tq) = D0 := ⟨_, rfl⟩
   have HD0 : Hid (∀ k, D0 k -> W1.heap.size <= k /\ k < B1 /\ k ≠ tq) := by rw [<- hD0]; exact fun k hk => hk
   have HT3 : Hid (TreeIs W3 (fun j => D0 j ∨ W3.heap.size <= j) nb (buildE H s.L hz0 (pl.take 0))) := by
    have h1 := HNL.out.tree.kept HNQ.out (fun _ _ x => x)
    rw [hD0] at h1
    exact h1.mono (fun k a _ => Or.inl a)
   have HB3 : Hid (W3.heap[tq]? = some (.cells #[.int .u64 (t.id : Int), .string t.name, .slice A2 t.cols.length c2, .int .u64 (t.xmin : Int), .int .u64 (t.xmax : Int)] 83 (0, 0)) /\ W3.heap[xi]? = some (.cells #[.int .u64 (nid : Int), .string name, .int .u64 (t.id : Int), .int .i64 0, .int .u64 (y.own : Int), .int .u64 0] 111 (0, 0))) := ⟨HNQ.out.get HNL.out.box (fun x => x), HQ3.out.get HBX.out (fun x => x)⟩
   have HCL3 : Hid (Rd W3 (fun k => B1 <= k /\ k ≠ tq) 2 A2 t.cols.length (colsV t.cols)) := HNL.out.cols.1.kept HNQ.out (fun _ _ x => x)
   have HZ : Hid (xi < W1.heap.size /\ W1.heap.size <= tq /\ tq < W3.heap.size /\ W1.heap.size <= W3.heap.size /\ B1 <= W2.heap.size /\ W2.heap.size <= W3.heap.size) := ⟨lt_of_get HBX.out, HNL.out.new, lt_of_get HB3.out.1, HQ3.out.size, Nat.le_trans HNL.out.big.2 hqz.size, hqp.size⟩
   clear hqz hqp hnp hrp hrd3 hpl hm HPLC xc2 lxi hD0
   go_wp2_with fail
   go_loopw [61, 19, 20, 21] (fun i _ _ _ wr => ∃ k : Nat, k <= m /\ i = .int .i64 (k : Int) /\ Only D0 W3 wr /\ TreeIs wr (fun j => D0 j ∨ W3.heap.size <= j) nb (buildE H s.L hz0 (pl.take k))) (fun i _ _ _ _ => m - (intOf i).toNat)
   case atStart => exact ⟨0, Nat.zero_le _, rfl, Only.refl _ _, HT3.out⟩
   case round =>
    obtain ⟨k, hk, rfl, ho, htr⟩ := hrel
    have HO := Lib.hid ho
    have HTR := Lib.hid htr
    clear ho htr
    have HOW : Hid (Only D0 W1 wr) := (HQ3.out.mono (fun _ _ x => x.elim)).trans HO.out
    have HSR : Hid (StoreRow wr sb o1 { s with T := [t], I := [⟨nid, name, t.id, 0, y.own, 0⟩], blast := nid } lb bb pb mh mt ms fh ft fs) := HST.out.kept HOW.out (fun k x => HST.out.big k (HD0.out k x).1)
    by_cases hlt : k < m
    ·obtain ⟨⟨pg, sl⟩, ha⟩ : ∃ a, pl[k]? = some a := ⟨_, List.getElem?_eq_getElem (by have := HM.out; omega)⟩
     obtain ⟨v, hgv⟩ := HPN.out (pg, sl) (List.mem_of_getElem? ha)
     obtain ⟨hx1, hx2, n, hn, hdat⟩ := HINT.out pg sl v hgv
     obtain ⟨bl, ofl, rfl, _, la, lb2⟩ := place_cells (HRP.out.kept HO.out (fun k hk e => by have := HD0.out k e; have := HZ.out; omega)) ha
     have HV1 := Lib.hid (And.intro hx1 hx2)
     have HNV := Lib.hid (And.intro hn hdat)
     obtain ⟨es, hes⟩ : ∃ es, buildE H s.L hz0 (pl.take k) = es := ⟨_, rfl⟩
     have HEL : Hid (es.length <= 10000) := by
      rw [<- hes]
      have h1 := buildE_len H s.L hz0 (pl.take k)
      rw [List.length_take] at h1
      have := HLEN.out
      show (buildE H s.L hz0 (pl.take k)).length <= 10000
      omega
     have HBS : Hid (buildE H s.L hz0 (pl.take (k + 1)) = if deadS s.L v.xmin v.xmax hz0 then es else putE ⟨keyI n, pg, sl⟩ es) := by
      show _ = _
      rw [List.take_add_one, ha, Option.toList_some, buildE_snoc, hes]
      show (match hGet H pg sl with | some v => if deadS s.L v.xmin v.xmax hz0 then es else putE ⟨keyI (numOf v.data), pg, sl⟩ es | none => es) = _
      rw [hgv]
      show (if deadS s.L v.xmin v.xmax hz0 then es else putE ⟨keyI (numOf v.data), pg, sl⟩ es) = _
      rw [hdat, numOf_row]
     rw [hes] at HTR
     have HGV := Lib.hid hgv
     have hqb : Quiet wr (wr.alloc (.cells #[.int .i64 pg, .int .i64 sl] 43)) := (Only.refl _ _).alloc _
     have hat := alloc_new wr (.cells #[.int .i64 pg, .int .i64 sl] 43)
     obtain ⟨at_, hat_⟩ : ∃ at_, wr.heap.size = at_ := ⟨_, rfl⟩
     have HAT_ := Lib.hid hat_
     dsimp only at la lb2
     clear ha hgv hx1 hx2 hn hdat hes
     go_wp2_with fail
     (try rw [hat_] at hat)
     (try rw [hat_])
     generalize wr.alloc (.cells #[.int .i64 pg, .int .i64 sl] 43) = wb at *
     have HQB := Lib.hid hqb
     have HAT := Lib.hid hat
     clear la lb2 hat hqb hat_
     have hx3 : wr.heap[xi]? = _ := HO.out.get HB3.out.2 (fun x => by have := HD0.out _ x; have := HZ.out; omega)
     have HXR := Lib.hid hx3
     have HTQR := Lib.hid (HO.out.get HB3.out.1 (fun x => (HD0.out _ x).2.2 rfl))
     clear hx3
     have HS5 : Hid (∀ W, Quiet wb W -> (fun w' => w'.cell? ⟨sb, 3, none⟩ = some (.map (some mh)) /\ w'.cell? ⟨xi, 2, none⟩ = some (.int .u64 (t.id : Int)) /\ w'.cell? ⟨at_, 0, none⟩ = some (.int .i64 pg) /\ w'.cell? ⟨at_, 1, none⟩ = some (.int .i64 sl) /\ (Instr.lookup 63 (.map (some mh)) (.int .u64 (t.id : Int)) false).run Tryz.prog w' = .ok (ptrV hb) w') W) := fun W hq => by
      have hq2 := HQB.out.trans hq
      have h2 := HSR.out.quietly hq2
      have bx := hq2.get HXR.out (fun x => x)
      have b7 := hq.get HAT.out (fun x => x)
      exact ⟨h2.cells.2.2.2.1, by rw [cell_of bx]; rfl, by rw [cell_of b7]; rfl, by rw [cell_of b7]; rfl, look_heap h2.mH HFH.out HID.out⟩
     have HGET : Hid (∀ W, Quiet wb W -> Calls Tryz.prog 44 #[ptrV hb, .agg #[.int .i64 pg, .int .i64 sl]] W (GetSome W v)) := fun W hq => by
      have h2 := (HHP.out.kept (HQ2.out.mono (T := fun k => o k = 3) (fun _ _ x => x.elim)) (fun _ hk x => by omega)).kept HL.out.only (fun _ hk x => by omega)
      have h3 := h2.lim.kept HOW.out (fun k hk x => by have := (HD0.out k x).1; have := hk.2; omega)
      exact heap_get_some pg sl v ((h3.kept HQB.out (fun _ _ x => x)).kept hq (fun _ _ x => x)) HGV.out
     apply got_key (wb := wb) (t := v)
     case main =>
           intro KEY
           refine zH HS5 (Only.refl _ _).drew (fun hHeld => ?_)
           simp only [List.size_toArray, List.length_cons, List.length_nil, Nat.reduceAdd]
           have q0 : Quiet wb wb.drew := (Only.refl _ _).drew
           generalize wb.drew = d0 at q0 hHeld ⊢
           refine zT 0 ?_
           refine zT 1 ?_
           refine zT 2 ?_
           refine zT 3 ?_
           refine zT 4 ?_
           refine zT 5 ?_
           refine zT 6 ?_
           refine zT 7 ?_
           refine wpAnyH_ready (rs := [8, 12]) (by kernel_rfl) (by simp) ?_
           refine zA ?_ ?_
           · intro K hK
             go_simp
             go_at_call 44
             refine (HGET.out _ q0).mono ?_
             rintro e d2 ⟨A4, c4, rfl, hf4⟩
             have q2 := q0.trans hf4.quiet
             have hown := hf4.own
             have hfn : ∀ k, (Value.slice A4 v.data.length c4).ownBlock = some k -> wb.heap.size <= k := fun k e => Nat.le_trans (q0).size (hf4.new k e)
             clear hf4
             unfold tupV
             dsimp only
             refine hK.out _ _ ?_ (fun hHeld => ?_)
             · exact HS5.out _ q2
             clear hK K
             (try simp only [Act.put, zPA, zPZ, zPS])
             refine zT 9 ?_
             refine zT 10 ?_
             refine zT 11 ?_
             refine zR 12 ?_
             intro K hK
             go_simp
             refine hK.out _ _ ?_ (fun hHeld => ?_)
             · exact HS5.out _ (q2.alloc _)
             clear hK K
             (try simp only [Act.put, zPA, zPZ, zPS])
             have qd3 : Quiet wb (d2.alloc (.cells #[.int .u64 0, .int .u64 0, .int .u64 0, .int .i64 0, .int .i64 0, .slice none 0 0] 95)) := q2.alloc _
             have hb1 := alloc_new d2 (.cells #[.int .u64 0, .int .u64 0, .int .u64 0, .int .i64 0, .int .i64 0, .slice none 0 0] 95)
             have hnp : wb.heap.size <= d2.heap.size := q2.size
             have hown := owns_kept hown ((Only.refl (fun _ => False) d2).alloc (.cells #[.int .u64 0, .int .u64 0, .int .u64 0, .int .i64 0, .int .i64 0, .slice none 0 0] 95)) (fun _ _ x => x)
             obtain ⟨pt, hpt⟩ : ∃ pt, d2.heap.size = pt := ⟨_, rfl⟩
             rw [hpt] at hb1 hnp ⊢
             generalize d2.alloc (.cells #[.int .u64 0, .int .u64 0, .int .u64 0, .int .i64 0, .int .i64 0, .slice none 0 0] 95) = d3 at *
             clear hpt
             have z0 := cell_of hb1 0
             have z1 := cell_of hb1 1
             have z2 := cell_of hb1 2
             have z3 := cell_of hb1 3
             have z4 := cell_of hb1 4
             have z5 := cell_of hb1 5
             have zf := fun o => frozen_of hb1 o
             simp only [zGA, zGS, zGZ] at z0 z1 z2 z3 z4 z5
             refine zR 13 ?_
             intro K hK
             go_simp
             refine hK.out _ _ ?_ (fun hHeld => ?_)
             · exact HS5.out _ (got_leaf qd3 hb1 hnp hown hfn).quiet
             clear hK K
             (try simp only [Act.put, zPA, zPZ, zPS])
             have HG := got_leaf qd3 hb1 hnp hown hfn
             unfold sixSet at HG
             refine zT 14 ?_
             refine wpAnyH_done (by kernel_rfl) ?_ _
             generalize ((((((d3.setCell ⟨pt, 0, none⟩ (.int .u64 v.row)).setCell ⟨pt, 1, none⟩ (.int .u64 v.xmin)).setCell ⟨pt, 2, none⟩ (.int .u64 v.xmax)).setCell ⟨pt, 3, none⟩ (.int .i64 v.pg)).setCell ⟨pt, 4, none⟩ (.int .i64 v.sl)).setCell ⟨pt, 5, none⟩ (.slice A4 v.data.length c4)) = WF at HG ⊢
             exact KEY _ _ _ _ HG
           refine zA ?_ AllReadyH.nil
           intro K hK
           go_simp
           refine hK.out _ _ ?_ (fun hHeld => ?_)
           · exact HS5.out _ (q0.alloc _)
           clear hK K
           (try simp only [Act.put, zPA, zPZ, zPS])
           have qd1 : Quiet wb (d0.alloc (.cells #[.int .u64 0, .int .u64 0, .int .u64 0, .int .i64 0, .int .i64 0, .slice none 0 0] 95)) := q0.alloc _
           have hb1 := alloc_new d0 (.cells #[.int .u64 0, .int .u64 0, .int .u64 0, .int .i64 0, .int .i64 0, .slice none 0 0] 95)
           have hnp : wb.heap.size <= d0.heap.size := q0.size
           obtain ⟨pt, hpt⟩ : ∃ pt, d0.heap.size = pt := ⟨_, rfl⟩
           rw [hpt] at hb1 hnp ⊢
           generalize d0.alloc (.cells #[.int .u64 0, .int .u64 0, .int .u64 0, .int .i64 0, .int .i64 0, .slice none 0 0] 95) = d1 at *
           clear hpt
           refine zR 8 ?_
           intro K hK
           go_simp
           go_at_call 44
           refine (HGET.out _ qd1).mono ?_
           rintro e d2 ⟨A4, c4, rfl, hf4⟩
           have q2 := qd1.trans hf4.quiet
           have hb2 := hf4.quiet.get hb1 (fun x => x)
           have hown := hf4.own
           have hfn : ∀ k, (Value.slice A4 v.data.length c4).ownBlock = some k -> wb.heap.size <= k := fun k e => Nat.le_trans (qd1).size (hf4.new k e)
           clear hf4
           unfold tupV
           dsimp only
           refine hK.out _ _ ?_ (fun hHeld => ?_)
           · exact HS5.out _ q2
           clear hK K
           (try simp only [Act.put, zPA, zPZ, zPS])
           have z0 := cell_of hb2 0
           have z1 := cell_of hb2 1
           have z2 := cell_of hb2 2
           have z3 := cell_of hb2 3
           have z4 := cell_of hb2 4
           have z5 := cell_of hb2 5
           have zf := fun o => frozen_of hb2 o
           simp only [zGA, zGS, zGZ] at z0 z1 z2 z3 z4 z5
           refine zT 9 ?_
           refine zT 10 ?_
           refine zT 11 ?_
           refine zR 13 ?_
           intro K hK
           go_simp
           refine hK.out _ _ ?_ (fun hHeld => ?_)
           · exact HS5.out _ (got_leaf q2 hb2 hnp hown hfn).quiet
           clear hK K
           (try simp only [Act.put, zPA, zPZ, zPS])
           have HG := got_leaf q2 hb2 hnp hown hfn
           unfold sixSet at HG
           refine zT 14 ?_
           refine wpAnyH_done (by kernel_rfl) ?_ _
           generalize ((((((d2.setCell ⟨pt, 0, none⟩ (.int .u64 v.row)).setCell ⟨pt, 1, none⟩ (.int .u64 v.xmin)).setCell ⟨pt, 2, none⟩ (.int .u64 v.xmax)).setCell ⟨pt, 3, none⟩ (.int .i64 v.pg)).setCell ⟨pt, 4, none⟩ (.int .i64 v.sl)).setCell ⟨pt, 5, none⟩ (.slice A4 v.data.length c4)) = WF at HG ⊢
           exact KEY _ _ _ _ HG
     case key =>
      intro A4 c4 pt W4 HL0
      have HG4 := Lib.hid HL0
      clear HL0 HS5 HGET
      have HQW : Hid (Quiet wr W4) := HQB.out.trans HG4.out.quiet
      have HS6 : Hid (∀ W', Quiet W4 W' -> (fun w' => w'.cell? ⟨sb, 0, none⟩ = some (ptrV lb) /\ w'.cell? ⟨pt, 0, none⟩ = some (.int .u64 v.row) /\ w'.cell? ⟨pt, 1, none⟩ = some (.int .u64 v.xmin) /\ w'.cell? ⟨pt, 2, none⟩ = some (.int .u64 v.xmax) /\ w'.cell? ⟨pt, 3, none⟩ = some (.int .i64 v.pg) /\ w'.cell? ⟨pt, 4, none⟩ = some (.int .i64 v.sl) /\ w'.cell? ⟨pt, 5, none⟩ = some (.slice A4 v.data.length c4)) W') := fun W' hq => by
       have bt := hq.get HG4.out.box (fun x => x)
       refine ⟨((HSR.out.quietly HQW.out).quietly hq).cells.1, ?_, ?_, ?_, ?_, ?_, ?_⟩ <;> (rw [cell_of bt]; rfl)
      obtain ⟨r, hrv⟩ : ∃ r, deadS s.L v.xmin v.xmax hz0 = r := ⟨_, rfl⟩
      have HDEAD : Hid (∀ W', Quiet W4 W' -> Calls Tryz.prog 45 #[ptrV lb, tupV v A4 c4, .int .u64 (hz0 : Int)] W' (BoolQ W' r)) := fun W' hq => by
       rw [<- hrv]
       exact snap_dead v A4 c4 hz0 ((HSR.out.quietly HQW.out).quietly hq).log HV1.out.1 HV1.out.2
      rw [hrv] at HBS
      unfold tupV at HDEAD
      clear hrv
      go_wp2_with fail
      refine zH HS6 (Only.refl _ _).drew (fun hHeld => ?_)
      simp only [List.size_toArray, List.length_cons, List.length_nil, Nat.reduceAdd]
      have q6 : Quiet W4 W4.drew := (Only.refl _ _).drew
      generalize W4.drew = d6 at q6 hHeld ⊢
      refine zT 0 ?_
      refine zT 1 ?_
      refine zT 2 ?_
      refine zT 3 ?_
      refine zT 4 ?_
      refine zT 5 ?_
      refine zR 6 ?_
      intro K hK
      go_simp
      go_at_call 45
      refine (HDEAD.out _ q6).mono ?_
      rintro e d7 ⟨rfl, hq7⟩
      have q7 := q6.trans hq7
      clear hq7
      dsimp only
      refine hK.out _ _ ?_ (fun hHeld => ?_)
      ·exact HS6.out _ q7
      clear hK K
      (try simp only [Act.put, zPA, zPZ, zPS])
      refine wpAnyH_done (by kernel_rfl) ?_ _
      clear hHeld
      have HQ7 : Hid (Quiet wr d7) := HQW.out.trans q7
      rcases r with _ | _
      ·have HT7 : Hid (TreeIs d7 (fun j => D0 j ∨ (W3.heap.size <= j /\ j < wr.heap.size)) nb es) := by
        have h1 := HTR.out.mono (D' := fun j => D0 j ∨ (W3.heap.size <= j /\ j < wr.heap.size)) (fun k a b => by rcases a with a | a; exact Or.inl a; exact Or.inr ⟨a, b⟩)
        exact h1.kept HQ7.out (fun _ _ x => x)
       have HP7 : Hid (d7.heap[pt]? = some (.cells (tupCells v A4 c4) 95 (0, 0)) /\ d7.heap[at_]? = some (.cells #[.int .i64 pg, .int .i64 sl] 43 (0, 0)) /\ wr.heap.size <= pt /\ wr.heap.size <= at_) := ⟨q7.get HG4.out.box (fun x => x), q7.get (HG4.out.quiet.get HAT.out (fun x => x)) (fun x => x), Nat.le_trans HQB.out.size HG4.out.new, by rw [HAT_.out]; exact Nat.le_refl _⟩
       have HZR : Hid (W3.heap.size <= wr.heap.size) := HO.out.size
       have HS7 : Hid (∀ W', Only (fun j => D0 j ∨ (W3.heap.size <= j /\ j < wr.heap.size)) d7 W' -> (fun w' => w'.cell? ⟨tq, 0, none⟩ = some (.int .u64 (t.id : Int)) /\ w'.cell? ⟨tq, 1, none⟩ = some (.string t.name) /\ w'.cell? ⟨tq, 2, none⟩ = some (.slice A2 t.cols.length c2) /\ w'.cell? ⟨tq, 3, none⟩ = some (.int .u64 (t.xmin : Int)) /\ w'.cell? ⟨tq, 4, none⟩ = some (.int .u64 (t.xmax : Int)) /\ w'.cell? ⟨pt, 0, none⟩ = some (.int .u64 v.row) /\ w'.cell? ⟨pt, 1, none⟩ = some (.int .u64 v.xmin) /\ w'.cell? ⟨pt, 2, none⟩ = some (.int .u64 v.xmax) /\ w'.cell? ⟨pt, 3, none⟩ = some (.int .i64 v.pg) /\ w'.cell? ⟨pt, 4, none⟩ = some (.int .i64 v.sl) /\ w'.cell? ⟨pt, 5, none⟩ = some (.slice A4 v.data.length c4) /\ w'.cell? ⟨xi, 3, none⟩ = some (.int .i64 0) /\ w'.cell? ⟨at_, 0, none⟩ = some (.int .i64 pg) /\ w'.cell? ⟨at_, 1, none⟩ = some (.int .i64 sl)) W') := fun W' ho => by
        have hz := HZ.out
        have hzr := HZR.out
        have hp := HP7.out
        have b1 := tabBox_cells (ho.get (HQ7.out.get HTQR.out (fun x => x)) (fun e => by rcases e with e | e; exact (HD0.out _ e).2.2 rfl; omega))
        have b2 := ho.get hp.1 (fun e => by rcases e with e | e; (have := HD0.out _ e; omega); omega)
        have b3 := ho.get (HQ7.out.get HXR.out (fun x => x)) (fun e => by rcases e with e | e; (have := HD0.out _ e; omega); omega)
        have b4 := ho.get hp.2.1 (fun e => by rcases e with e | e; (have := HD0.out _ e; omega); omega)
        exact ⟨b1.1, b1.2.1, b1.2.2.1, b1.2.2.2.1, b1.2.2.2.2, by rw [cell_of b2]; rfl, by rw [cell_of b2]; rfl, by rw [cell_of b2]; rfl, by rw [cell_of b2]; rfl, by rw [cell_of b2]; rfl, by rw [cell_of b2]; rfl, by rw [cell_of b3]; rfl, by rw [cell_of b4]; rfl, by rw [cell_of b4]; rfl⟩
       have hd9 : v.data.length = 9 := by rw [HNV.out.2]; exact rowI_length n
       have HKEY : Hid (∀ W', Quiet d7 W' -> Calls Tryz.prog 47 #[.agg #[.int .u64 (t.id : Int), .string t.name, .slice A2 t.cols.length c2, .int .u64 (t.xmin : Int), .int .u64 (t.xmax : Int)], .agg #[.int .u64 v.row, .int .u64 v.xmin, .int .u64 v.xmax, .int .i64 v.pg, .int .i64 v.sl, .slice A4 v.data.length c4], .int .i64 0] W' (FreshPost W' (keyI n))) := fun W' hq => by
        obtain ⟨A', c', e', hc4, hm4, hrd4⟩ := own_form HG4.out.own
        injection e' with e1 _ e2
        subst e1 e2
        have hr4 := (hrd4.kept q7 (fun _ _ x => x)).kept hq (fun _ _ x => x)
        rw [hd9] at hc4 hr4 ⊢
        rw [HNV.out.2] at hr4
        have hcl := ((HCL3.out.kept HO.out (fun k hk e => by have := HD0.out k e; omega)).kept HQ7.out (fun _ _ x => x)).kept hq (fun _ _ x => x)
        have hk := store_key (v := v) HCC.out hcl HNL.out.cols.2.1 HNL.out.cols.2.2 HNV.out.1 HNV.out.2 hr4 hc4 hm4
        unfold tabV tupV at hk
        rw [hd9] at hk
        exact hk
       have HTIN : Hid (∀ W', Quiet d7 W' -> ∀ A9 c9 (S9 : Nat -> Prop), Rd W' S9 1 A9 (keyI n).length (bytesV (keyI n)) -> Calls Tryz.prog 46 #[ptrV nb, .agg #[.slice A9 (keyI n).length c9, .int .i64 pg, .int .i64 sl]] W' (fun e w' => (∃ z : Int, e = .returned (.int .i64 z)) /\ Only (fun j => D0 j ∨ (W3.heap.size <= j /\ j < wr.heap.size)) W' w' /\ TreeIs w' (fun k => (D0 k ∨ (W3.heap.size <= k /\ k < wr.heap.size)) ∨ W'.heap.size <= k) nb (putE ⟨keyI n, pg, sl⟩ es))) := fun W' hq A9 c9 S9 hr => by
        refine (tree_insert W' (fun j => D0 j ∨ (W3.heap.size <= j /\ j < wr.heap.size)) nb es ⟨keyI n, pg, sl⟩ A9 c9 S9 (HT7.out.kept hq (fun _ _ x => x)) hr (keyI_bytes HNV.out.1) (by show (keyI n).length <= 600; rw [keyI_length]; omega) HEL.out).mono ?_
        intro e w' hp
        unfold putE
        rcases hp with ⟨h1, h2, h3, h4⟩ | ⟨h1, h2, h3, h4⟩
        ·rw [if_pos h1]; exact ⟨⟨_, h2⟩, h3, h4⟩
        ·rw [if_neg h1]; exact ⟨⟨_, h2⟩, h3, h4⟩
       have HQ67 : Hid (Quiet W4 d7) := q7
       clear q6 q7 HS6 HDEAD hd9
       go_wp2_with fail
       refine zH HS7 ((Only.refl _ _).drew) (fun hHeld => ?_)
       simp only [List.size_toArray, List.length_cons, List.length_nil, Nat.reduceAdd]
       have q8 : Quiet d7 d7.drew := (Only.refl _ _).drew
       generalize d7.drew = d8 at q8 hHeld ⊢
       refine zT 0 ?_
       refine zT 1 ?_
       refine zT 2 ?_
       refine zT 3 ?_
       refine zT 4 ?_
       refine zT 6 ?_
       refine zR 5 ?_
       intro K hK
       go_simp
       go_at_call 47
       refine (HKEY.out _ q8).mono ?_
       rintro e d9 ⟨v9, rfl, hf9⟩
       obtain ⟨A9, c9, rfl, hc9, hm9, hrd9⟩ := own_form hf9.own
       have q9 := q8.trans hf9.quiet
       dsimp only
       refine hK.out _ _ ?_ (fun hHeld => ?_)
       ·exact HS7.out _ (q9.mono (fun _ _ x => x.elim))
       clear hK K
       (try simp only [Act.put, zPA, zPZ, zPS])
       refine zT 7 ?_
       refine zR 8 ?_
       intro K hK
       go_simp
       go_at_call 46
       refine (HTIN.out _ q9 A9 c9 _ (by exact hrd9)).mono ?_
       rintro e d10 ⟨⟨ze, rfl⟩, ho10, ht10⟩
       dsimp only
       refine hK.out _ _ ?_ (fun hHeld => ?_)
       ·exact HS7.out _ ((q9.mono (fun _ _ x => x.elim)).trans ho10)
       clear hK K
       (try simp only [Act.put, zPA, zPZ, zPS])
       refine wpAnyH_done (by kernel_rfl) ?_ _
       have hz9 := q9.size
       have hz7 := HQ7.out.size
       have HEND : Hid (Only D0 W3 d10 /\ TreeIs d10 (fun j => D0 j ∨ W3.heap.size <= j) nb (buildE H s.L hz0 (pl.take (k + 1)))) := by
        have hzr := HZR.out
        refine ⟨((HO.out.trans' HQ7.out (fun _ _ x => x.elim)).trans' q9 (fun _ _ x => x.elim)).trans' ho10 (fun j hj e => by rcases e with e | e; exact e; omega), ?_⟩
        rw [HBS.out]
        exact ht10.mono (fun j a _ => by rcases a with (a | a) | a; exact Or.inl a; exact Or.inr a.1; exact Or.inr (by omega))
       clear hHeld q8 q9 ho10 ht10 hf9 hc9 hm9 hrd9 HS7 HKEY HTIN hz9 hz7
       go_wp2
       go_roundw
       case rel => exact ⟨k + 1, by omega, by go_num, HEND.out.1, HEND.out.2⟩
       case measure => simp [intOf]; omega
      ·have HEND : Hid (Only D0 W3 d7 /\ TreeIs d7 (fun j => D0 j ∨ W3.heap.size <= j) nb (buildE H s.L hz0 (pl.take (k + 1)))) := by
        refine ⟨HO.out.trans' HQ7.out (fun _ _ x => x.elim), ?_⟩
        rw [HBS.out]
        exact HTR.out.kept HQ7.out (fun _ _ x => x)
       clear q6 q7 HS6 HDEAD
       go_wp2
       go_roundw
       case rel => exact ⟨k + 1, by omega, by go_num, HEND.out.1, HEND.out.2⟩
       case measure => simp [intOf]; omega
    ·obtain rfl : k = m := by omega
     have HMT : Hid (MapF wr mt ft) := HSR.out.mT
     have c4 := HSR.out.cells.2.2.2.2.1
     have x0 : wr.cell? ⟨xi, 0, none⟩ = some (.int .u64 (nid : Int)) := by
      rw [cell_of (HO.out.get HB3.out.2 (fun x => by have := HD0.out _ x; have := HZ.out; omega))]
      rfl
     have HX : Hid (U64 nid) := by have := HNID.out; have := HLU.out.1; unfold Hid U64; omega
     clear hlt hk
     go_wp2_with fail
     refine wp_region_last (S := (fun w' => w'.cell? ⟨sb, 4, none⟩ = some (.map (some mt)) /\ w'.cell? ⟨xi, 0, none⟩ = some (.int .u64 (nid : Int)) /\ Quiet wr w')) (by kernel_rfl) (by kernel_rfl) (by simp) (⟨c4, x0, (Only.refl _ _).drew⟩) (fun hHeld => ?_)
     simp only [List.pop_toArray, List.dropLast, List.size_toArray, List.length_cons, List.length_nil, Nat.reduceAdd, Nat.reduceSub]
     refine zT 0 ?_
     refine zT 1 ?_
     refine zT 2 ?_
     refine zT 3 ?_
     refine zT 4 ?_
     refine zT 5 ?_
     refine zT 6 ?_
     refine wpAnyH_done (by kernel_rfl) ?_ _
     refine last_step (o := ?_) ?_ ?_
     rotate_left 1
     (focus (simp only [zGA, zGZ, zGS] <;> rfl))
     intro K hK
     refine wp_put (.tmp 97) (.tmp 99) (.tmp 100) rfl (HMT.out.kept hHeld.2.2 (fun x => x)) Tryz.underlying64 Tryz.underlying29 rfl rfl rfl HX.out ?_
     intro w6 hm6 ho6
     refine hK.out _ _ ?_
     clear hK K
     have hm7 : MapF w6 mt (upd ft nid (some (ptrV nb))) := hm6
     have HEND : Hid (POST (.returned (.int .i64 0)) w6) := by
      rw [<- HPOST.out]
      have hn := HNID.out
      subst hn
      have hb := HTR.out
      rw [List.take_of_length_le (by have := HM.out; omega), <- HPLE.out] at hb
      have hz := HZ.out
      refine ⟨hz0, rfl, idx_done HH.out HQ2.out HL.out ((HOW.out.mono (fun k _ x => (HD0.out k x).1)).trans' hHeld.2.2 (fun _ _ x => x.elim)) ((hb.kept hHeld.2.2 (fun _ _ x => x)).mono (fun j a _ => by rcases a with a | a; exact (HD0.out j a).1; omega)) ho6 hm7⟩
     clear hm6 hm7 ho6 hHeld HMT
     dsimp only [Act.put]
     go_wp2
     exact HEND.out
theorem small_i : Small ⟨#[105]⟩ := ⟨by decide, by decide, fun i h => by
  obtain rfl : i = 0 := by have : i < 1 := h; omega
  decide +revert⟩
theorem name_ti : ((⟨#[116]⟩ : ByteArray).toList == (⟨#[105]⟩ : ByteArray).toList) = false := by
 rw [Lib.toList_data, Lib.toList_data]
 decide
section
variable {w0 w : World} {sb : Nat} {K : Nat -> Prop} {H : List (List (Option Tup))} {left last i c : Nat} {oi : Option (List Ent)}
end
def a0 : Tup := ⟨1, 1, 0, -1, -1, rowI 0⟩
def a1 : Tup := ⟨1, 1, 0, -1, -1, rowI 1⟩
def aH1 : List (List (Option Tup)) := [[some a0]]
def aH2 : List (List (Option Tup)) := [[some (a0.stamp 1 0 1), some a0]]
def aH3 : List (List (Option Tup)) := [[some (a0.stamp 1 0 1), some (a0.stamp 1 0 2), some a1]]
def aE1 : List Ent := putE ⟨keyI 0, 0, 0⟩ []
def aE2 : List Ent := putE ⟨keyI 0, 0, 1⟩ aE1
def aE3 : List Ent := putE ⟨keyI 1, 0, 2⟩ aE2
def stF (H : List (List (Option Tup))) (left last : Nat) (es : List Ent) : St := ⟨[2], [tabA], [idxA], 2, left, upd (fun _ => none) 1 (some H), upd (fun _ => none) 2 (some es), upd (upd (fun _ => none) 1 (some (takeS [1] 1))) 1 none, last⟩
theorem stF_sn (H : List (List (Option Tup))) (left last : Nat) (es : List Ent) (x : Nat) : (stF H left last es).sn x = none := by
 show upd (upd (fun _ => none) 1 (some (takeS [1] 1))) 1 none x = none
 by_cases e : x = 1
 ·rw [e]; simp [upd]
 ·simp [upd, e]
section
variable {w0 w : World} {sb : Nat} {K : Nat -> Prop}
theorem a_index (h : LawSt w0 w sb K (stE [] 10 0 none)) :
  Calls Tryz.prog 17 #[ptrV sb, .int .u64 1, .string ⟨#[105]⟩, .string ⟨#[116]⟩, .string ⟨#[97]⟩] w fun e w' => e = .returned (.int .i64 0) /\ LawTo w0 w sb K (stE [] 10 0 (some [])) w' := by
 obtain ⟨o, h1, h2, h3, h4⟩ := h
 have hz0 : ∀ k, k <= ([] : List (List (Option Tup))).length -> (placesH [] k).length <= 10000 := fun k hk => by
  obtain rfl : k = 0 := by simpa using hk
  exact Nat.zero_le _
 refine (store_index (x := 1) (y := takeS [1] 1) (t := tabA) (nm := ⟨#[97]⟩) (N := 1) (H := []) h1 (by unfold U64; omega) rfl rfl rfl rfl ent_found rfl (by unfold U64; decide) (by show 1 < 1000000; omega) (by unfold U64; decide) small_i name_ti (by show 1 < 1000000000; omega) (fun x y e => ?_) (by omega) hz0 (fun pg sl v hv => by rw [hGet_out (by simp; omega)] at hv; cases hv)).mono ?_
 ·rcases Nat.lt_or_ge 1 x with a | a
  ·have e' : upd (fun _ => none) 1 (some (takeS [1] 1)) x = some y := e
   rw [show upd (fun _ => none) 1 (some (takeS [1] 1)) x = (none : Option Snap) by simp [upd]; omega] at e'
   cases e'
  ·exact a
 ·rintro e w' ⟨hz, rfl, hst⟩
  exact ⟨rfl, law_step h1 h2 h3 h4 hst⟩
theorem a_insert {Sv : Nat -> Prop} {A3 : Option Addr} {c3 : Nat} (h : LawSt w0 w sb K (stE [] 10 0 (some []))) (hv : Rd w Sv 4 A3 1 (intRow 0)) (hc3 : 1 <= c3) (hm3 : c3 <= maxLen) :
  Calls Tryz.prog 10 #[ptrV sb, .int .u64 1, .string ⟨#[116]⟩, .slice A3 1 c3] w (fun e w' => e = .returned (.int .i64 0) /\ LawTo w0 w sb K (stE aH1 9 1 (some aE1)) w') := by
 refine (law_insertX (x := 1) (y := takeS [1] 1) (t := tabA) (i := 0) (nm := ⟨#[97]⟩) (name := ⟨#[116]⟩) (n := 0) (p := 0) (q := 0) (H' := aH1) (left' := 9) h (by unfold U64; omega) rfl ent_found rfl rfl (by unfold U64; decide) (stE_kept (fun es e => by injection e with e; rw [<- e]; decide)) rfl (by decide) (by omega) hv hc3 hm3 (by decide) (nine_first (nine_right (by decide) (by decide)) (by decide))).mono ?_
 rintro e w' ⟨rfl, ht⟩
 rw [stE_put] at ht
 exact ⟨rfl, ht⟩
theorem a_update0 {Sv : Nat -> Prop} {A3 Ar : Option Addr} {c3 nr cr : Nat} (h : LawSt w0 w sb K (stE aH1 9 1 (some aE1))) (hv : Rd w Sv 4 A3 1 (intRow 0)) (hc3 : 1 <= c3) (hm3 : c3 <= maxLen) :
  Calls Tryz.prog 14 #[ptrV sb, .int .u64 1, .string ⟨#[116]⟩, .agg #[.int .u64 1, .int .i64 0, .int .i64 0, .slice Ar nr cr], .slice A3 1 c3] w (fun e w' => e = .returned (.int .i64 0) /\ LawTo w0 w sb K (stE aH2 9 1 (some aE2)) w') := by
 refine (law_updateX (x := 1) (y := takeS [1] 1) (t := tabA) (i := 0) (nm := ⟨#[97]⟩) (name := ⟨#[116]⟩) (n := 0) (p := 0) (q := 1) (H := aH1) (H1 := [[some a0, some a0]]) (H2 := aH2) (left' := 9) (pg := 0) (sl := 0) (z := 0) (v := a0) (code := 0) h (by unfold U64; omega) rfl ent_found rfl rfl (by unfold U64; decide) (stE_kept (fun es e => by injection e with e; rw [<- e]; decide +kernel)) rfl (by decide) (by omega) hv hc3 hm3 rfl (by unfold U64; decide) (by unfold U64; decide) (by decide +kernel) (fun _ => nine_ins (T := [some a0]) (fun s hs => ⟨a0, List.mem_singleton.1 hs, rfl⟩) (by decide) (nine_right (by decide) (by decide)) rfl) (nine_stamp (v := a0) (T := [some a0]) (by decide) (by decide))).mono ?_
 intro e w' hp
 rw [if_pos rfl] at hp
 obtain ⟨rfl, ht⟩ := hp
 rw [stE_put] at ht
 exact ⟨rfl, ht⟩
theorem a_stamp1 : hStamp [[some (a0.stamp 1 0 1), some a0, some a1]] 0 1 1 0 2 = (0, aH3) := by
 unfold hStamp
 rw [if_neg (by decide)]
 have : pStampT [some (a0.stamp 1 0 1), some a0, some a1] 1 1 0 2 = (0, [some (a0.stamp 1 0 1), some (a0.stamp 1 0 2), some a1]) := by
  unfold pStampT
  rw [if_neg (by decide +kernel)]
  rfl
 show ((pStampT [some (a0.stamp 1 0 1), some a0, some a1] 1 1 0 2).1, [(pStampT [some (a0.stamp 1 0 1), some a0, some a1] 1 1 0 2).2]) = _
 rw [this]
 rfl
theorem a_update1 {Sv : Nat -> Prop} {A3 Ar : Option Addr} {c3 nr cr : Nat} (h : LawSt w0 w sb K (stE aH2 9 1 (some aE2))) (hv : Rd w Sv 4 A3 1 (intRow 1)) (hc3 : 1 <= c3) (hm3 : c3 <= maxLen) :
  Calls Tryz.prog 14 #[ptrV sb, .int .u64 1, .string ⟨#[116]⟩, .agg #[.int .u64 1, .int .i64 0, .int .i64 1, .slice Ar nr cr], .slice A3 1 c3] w (fun e w' => e = .returned (.int .i64 0) /\ LawTo w0 w sb K (stE aH3 9 1 (some aE3)) w') := by
 refine (law_updateX (x := 1) (y := takeS [1] 1) (t := tabA) (i := 0) (nm := ⟨#[97]⟩) (name := ⟨#[116]⟩) (n := 1) (p := 0) (q := 2) (H := aH2) (H1 := [[some (a0.stamp 1 0 1), some a0, some a1]]) (H2 := aH3) (left' := 9) (pg := 0) (sl := 1) (z := 0) (v := a0) (code := 0) h (by unfold U64; omega) rfl ent_found rfl rfl (by unfold U64; decide) (stE_kept (fun es e => by injection e with e; rw [<- e]; decide +kernel)) rfl (by decide) (by omega) hv hc3 hm3 rfl (by unfold U64; decide) (by unfold U64; decide) (by decide +kernel) (fun _ => nine_ins (T := [some (a0.stamp 1 0 1), some a0]) (fun s hs => by
   rcases List.mem_cons.1 hs with e | hs
   · exact ⟨_, e, rfl⟩
   · exact ⟨a0, List.mem_singleton.1 hs, rfl⟩) (by decide) (nine_right (by decide) (by decide)) rfl) a_stamp1).mono ?_
 intro e w' hp
 rw [if_pos rfl] at hp
 obtain ⟨rfl, ht⟩ := hp
 rw [stE_put] at ht
 exact ⟨rfl, ht⟩
theorem a_scan1 (h : LawSt w0 w sb K (stE aH1 9 1 (some aE1))) :
  Calls Tryz.prog 13 #[ptrV sb, .int .u64 1, .string ⟨#[116]⟩] w (StoreScanPost w [(1, 0, 0, 0)]) :=
 law_scan (x := 1) (y := takeS [1] 1) (t := tabA) (i := 0) (nm := ⟨#[97]⟩) (H := aH1) h (by unfold U64; omega) rfl ent_found rfl rfl (by unfold U64; decide) rfl (places_small (by decide)) (int_one (fun s hs => by
     rw [List.mem_singleton] at hs
     exact ⟨a0, hs, by unfold U64; decide, by unfold U64; decide, 0, by omega, rfl⟩))
theorem a_scan2 (h : LawSt w0 w sb K (stE aH2 9 1 (some aE2))) :
  Calls Tryz.prog 13 #[ptrV sb, .int .u64 1, .string ⟨#[116]⟩] w (StoreScanPost w [(1, 0, 1, 0)]) :=
 law_scan (x := 1) (y := takeS [1] 1) (t := tabA) (i := 0) (nm := ⟨#[97]⟩) (H := aH2) h (by unfold U64; omega) rfl ent_found rfl rfl (by unfold U64; decide) rfl (places_small (by decide)) (int_one (fun s hs => by
     rcases List.mem_cons.1 hs with e | hs
     · exact ⟨_, e, by unfold U64; decide, by unfold U64; decide, 0, by omega, rfl⟩
     · rw [List.mem_singleton] at hs
       exact ⟨a0, hs, by unfold U64; decide, by unfold U64; decide, 0, by omega, rfl⟩))
theorem aH3_int : IntHeap aH3 := int_one (fun s hs => by
  rcases List.mem_cons.1 hs with e | hs
  · exact ⟨_, e, by unfold U64; decide, by unfold U64; decide, 0, by omega, rfl⟩
  · rcases List.mem_cons.1 hs with e | hs
    · exact ⟨_, e, by unfold U64; decide, by unfold U64; decide, 0, by omega, rfl⟩
    · rw [List.mem_singleton] at hs
      exact ⟨a1, hs, by unfold U64; decide, by unfold U64; decide, 1, by omega, rfl⟩)
theorem a_hor : HorSt (stF aH3 9 1 aE3) 2 := by
 refine ⟨fun _ => rfl, ?_, ?_, by unfold U64; decide⟩
 ·rintro ⟨x, y, e⟩
  rw [stF_sn] at e
  cases e
 ·intro x y e
  rw [stF_sn] at e
  cases e
theorem a_lives : BookLives (stF aH3 9 1 aE3) 2 := by
 refine ⟨?_, ?_⟩
 ·intro t ht
  obtain rfl : t = tabA := List.mem_singleton.1 ht
  decide +kernel
 ·intro x hx
  obtain rfl : x = idxA := List.mem_singleton.1 hx
  decide +kernel
theorem a_fit : ∀ T ∈ aH3, Fits T := by
 intro T hT
 obtain rfl : T = [some (a0.stamp 1 0 1), some (a0.stamp 1 0 2), some a1] := List.mem_singleton.1 hT
 unfold Fits
 decide +kernel
theorem a_nums : NumHeap aH3 := fun pg sl v hv => by
 obtain ⟨x1, x2, _⟩ := aH3_int pg sl v hv
 exact ⟨x1, x2⟩
theorem a_pass : PassOk (stF aH3 9 1 aE3) tabA aH3 2 1 := by
 refine ⟨rfl, by decide, a_hor, a_lives, by decide, ?_, by decide, rfl, by unfold U64; decide, a_fit, a_nums, by decide, by decide⟩
 intro x y e
 rw [stF_sn] at e
 cases e
theorem a_dead : deadTo (stF aH3 9 1 aE3) 2 aH3 aH3.length = [(0, 0), (0, 1)] := by decide +kernel
theorem a_used : usedH (relH [2] 2 aH3 (deadTo (stF aH3 9 1 aE3) 2 aH3 aH3.length)) = 1 := by decide +kernel
theorem a_left : (prunE (deadTo (stF aH3 9 1 aE3) 2 aH3 aH3.length) aE3).length = 1 := by decide +kernel
theorem a_wf {a b : Int} (h1 : 0 <= a /\ a < 1000) (h2 : 0 <= b /\ b < 1000) : Wf (a, b) := by
 unfold Wf
 exact ⟨wf_i64' (by show _ <= a /\ a < _; omega), wf_i64' (by show _ <= b /\ b < _; omega)⟩
theorem law_used {s : St} {t : TE} {H : List (List (Option Tup))} (h : LawSt w0 w sb K s) (hT : s.T = [t]) (hI : s.I.length <= 1000) (hid : U64 t.id) (hH : s.hs t.id = some H) :
  Calls Tryz.prog 16 #[ptrV sb] w (IntsPost w [usedH H]) := by
 obtain ⟨o, h1, _⟩ := h
 exact store_used h1 hT hI hid hH
theorem law_entries {s : St} {t : TE} (h : LawSt w0 w sb K s) (hT : s.T = [t]) (hI : s.I.length <= 1000) (hid : U64 t.id) (hx : ∀ e ∈ keptI s.L t.id s.I, U64 e.id /\ ∃ es, s.ts e.id = some es) :
  Calls Tryz.prog 18 #[ptrV sb] w (IntsPost w ((keptI s.L t.id s.I).map (fun e => ((s.ts e.id).getD []).length))) := by
 obtain ⟨o, h1, _⟩ := h
 exact store_entries h1 hT hI hid hx
end
theorem ints_one' {w wr : World} {v : Value} {n : Nat} (h : IntsW w wr v [n]) : ∃ b c, v = .slice (some ⟨b, 0, none⟩) 1 c /\ wr.cell? ⟨b, 0, none⟩ = some (.int .i64 (n : Int)) := by
 rcases owns_cases h.own with ⟨_, e⟩ | ⟨b, c, rfl, _, _⟩
 ·cases e
 have c0 := h.own.cells (by rfl) 0 (.int .i64 (n : Int)) rfl
 rw [add_none, Nat.zero_add] at c0
 exact ⟨b, c, rfl, c0⟩
set_option maxHeartbeats 8000000 in
theorem awake13 (w : World) : Calls Tryz.prog 4 #[] w fun e w' => e = .returned (.bool true) /\ Quiet w w' := by
 obtain ⟨POST, hPOST⟩ : ∃ POST : Ending -> World -> Prop, (fun e w' => e = .returned (.bool true) /\ Quiet w w') = POST := ⟨_, rfl⟩
 rw [hPOST]
 have HPOST := Lib.hid hPOST
 clear hPOST
 go_enter Tryz.func4, Tryz.ntmps4
 go_wp2_with fail
 refine (law_new 10 (by omega) _).mono ?_
 rintro e w1 ⟨sb, rfl, h1⟩
 have H1 := Lib.hid h1
 clear h1
 go_wp2_with fail
 refine (law_begin H1.out (by decide)).mono ?_
 rintro e w2 ⟨rfl, h2⟩
 have H2 := Lib.hid h2.st
 clear h2
 go_wp2_with fail
 refine (one13 _).mono ?_
 rintro e w3 ⟨b3, rfl, hq3, hn3, hl3, hr3⟩
 have H3 := Lib.hid (H2.out.quietly hq3)
 have HMK : Hid (Calls Tryz.prog 8 #[ptrV sb, .int .u64 1, .string ⟨#[116]⟩, .slice (some ⟨b3, 0, none⟩) 1 1] w3 (fun e w' => e = .returned (.int .i64 0) /\ LawSt w w' sb (fun _ => False) (stE [] 10 0 none))) := by
  refine (law_make (x := 1) (y := takeS [1] 1) (name := ⟨#[116]⟩) (nm := ⟨#[97]⟩) (kd := 1) H3.out (by unfold U64; omega) rfl rfl rfl rfl (by decide) (by unfold U64; decide) small_t small_a ⟨by omega, by omega⟩ (hr3.mono (fun k e => Or.inr ⟨by omega, by omega⟩)) (by omega) (by unfold maxLen; omega)).mono ?_
  rintro e w' ⟨rfl, h⟩
  exact ⟨rfl, h.st.mono (fun _ x => x.elim)⟩
 clear hq3 hn3 hl3 hr3
 go_wp2_with fail
 refine HMK.out.mono ?_
 rintro e w4 ⟨rfl, h4⟩
 have HIX := Lib.hid (a_index h4)
 clear h4 HMK
 go_wp2_with fail
 refine HIX.out.mono ?_
 rintro e w5 ⟨rfl, h5⟩
 have H5 := Lib.hid h5.st
 clear h5 HIX
 go_wp2_with fail
 refine (num13 0 _).mono ?_
 rintro e w6 ⟨b6, rfl, hq6, hn6, hl6, hr6⟩
 have HIN := Lib.hid (a_insert (c3 := 1) (H5.out.same hq6) hr6 (by omega) (by unfold maxLen; omega))
 clear hq6 hn6 hl6 hr6
 go_wp2_with fail
 refine HIN.out.mono ?_
 rintro e w7 ⟨rfl, h7⟩
 have H7 := Lib.hid h7.st
 clear h7 HIN
 go_wp2
 refine wp_loop_rounds 3 ?_
 rw [rounds_succ]
 go_wp2_with fail
 refine (a_scan1 H7.out).mono ?_
 rintro e wa ⟨va, M, rfl, hrw, hpm, _⟩
 obtain ⟨b, c, b2, c2, hone⟩ := hrw.one hpm
 obtain rfl := hone.form
 have HONE := Lib.hid hone
 have HA : Hid (LawSt w wa sb (fun k => k = b ∨ k = b2) (stE aH1 9 1 (some aE1))) := (H7.out.quietly hrw.quiet).mono (fun k x => Or.inr (by have := hone.nb; have := hone.nb2; omega))
 clear hrw hpm hone
 have HS12 : Hid (∀ W, Only (fun k => ¬ (k = b ∨ k = b2)) wa W -> (fun w' => w'.cell? ⟨b, 0, none⟩ = some (.int .u64 1) /\ w'.cell? ⟨b, 1, none⟩ = some (.int .i64 0) /\ w'.cell? ⟨b, 2, none⟩ = some (.int .i64 0) /\ w'.cell? ⟨b, 3, none⟩ = some (.slice (some ⟨b2, 0, none⟩) 1 c2)) W) := fun W ho => by
  obtain ⟨k0, k1, k2, k3, _⟩ := HONE.out.kept ho (fun x => x (Or.inl rfl)) (fun x => x (Or.inr rfl))
  exact ⟨k0, k1, k2, k3⟩
 have HU12 : Hid (∀ W, Quiet wa W -> ∀ bn, Rd W (fun k => k = bn) 4 (some ⟨bn, 0, none⟩) 1 (intRow 0) -> Calls Tryz.prog 14 #[ptrV sb, .int .u64 1, .string ⟨#[116]⟩, .agg #[.int .u64 1, .int .i64 0, .int .i64 0, .slice (some ⟨b2, 0, none⟩) 1 c2], .slice (some ⟨bn, 0, none⟩) 1 1] W (fun e w' => e = .returned (.int .i64 0) /\ LawTo w W sb (fun k => k = b ∨ k = b2) (stE aH2 9 1 (some aE2)) w')) := fun W hq bn hr => a_update0 (c3 := 1) (HA.out.same hq) hr (by omega) (by unfold maxLen; omega)
 go_wp2_with fail
 refine zH HS12 ((Only.refl _ _).drew) (fun hHeld => ?_)
 simp only [List.size_toArray, List.length_cons, List.length_nil, Nat.reduceAdd]
 have q0 : Quiet wa wa.drew := (Only.refl _ _).drew
 generalize wa.drew = d0 at q0 hHeld ⊢
 refine zT 0 ?_
 refine zT 1 ?_
 refine zT 2 ?_
 refine zT 3 ?_
 refine zT 4 ?_
 refine zT 5 ?_
 refine zT 6 ?_
 refine zT 7 ?_
 refine zT 8 ?_
 refine zR 9 ?_
 intro K hK
 go_simp
 go_at_call 11
 refine (num13 0 _).mono ?_
 rintro e d1 ⟨bn, rfl, hqn, _, _, hrn⟩
 have q1 := q0.trans hqn
 clear hqn
 dsimp only
 refine hK.out _ _ ?_ (fun hHeld => ?_)
 ·exact HS12.out _ (q1.mono (fun _ _ x => x.elim))
 clear hK K
 (try simp only [Act.put, zPA, zPZ, zPS])
 refine zR 10 ?_
 intro K hK
 go_simp
 go_at_call 14
 refine (HU12.out _ q1 bn hrn).mono ?_
 rintro e d2 ⟨rfl, hlt⟩
 have q2 : Only (fun k => ¬ (k = b ∨ k = b2)) _ d2 := (q1.mono (T := fun k => ¬ (k = b ∨ k = b2)) (fun _ _ x => x.elim)).trans' hlt.2 (fun k _ x => x.2)
 dsimp only
 refine hK.out _ _ ?_ (fun hHeld => ?_)
 ·exact HS12.out _ q2
 clear hK K
 (try simp only [Act.put, zPA, zPZ, zPS])
 refine zT 11 ?_
 refine zT 12 ?_
 refine wpAnyH_done (by kernel_rfl) ?_ _
 have H8 : Hid (LawSt w d2 sb (fun _ => False) (stE aH2 9 1 (some aE2))) := hlt.st.mono (fun _ x => x.elim)
 clear hHeld q0 q1 q2 hlt hrn HS12 HU12 HA HONE
 go_wp2
 rw [rounds_succ]
 go_wp2_with fail
 refine (a_scan2 H8.out).mono ?_
 rintro e wa ⟨va, M, rfl, hrw, hpm, _⟩
 obtain ⟨b, c, b2, c2, hone⟩ := hrw.one hpm
 obtain rfl := hone.form
 have HONE := Lib.hid hone
 have HA : Hid (LawSt w wa sb (fun k => k = b ∨ k = b2) (stE aH2 9 1 (some aE2))) := (H8.out.quietly hrw.quiet).mono (fun k x => Or.inr (by have := hone.nb; have := hone.nb2; omega))
 clear hrw hpm hone
 have HS12 : Hid (∀ W, Only (fun k => ¬ (k = b ∨ k = b2)) wa W -> (fun w' => w'.cell? ⟨b, 0, none⟩ = some (.int .u64 1) /\ w'.cell? ⟨b, 1, none⟩ = some (.int .i64 0) /\ w'.cell? ⟨b, 2, none⟩ = some (.int .i64 1) /\ w'.cell? ⟨b, 3, none⟩ = some (.slice (some ⟨b2, 0, none⟩) 1 c2)) W) := fun W ho => by
  obtain ⟨k0, k1, k2, k3, _⟩ := HONE.out.kept ho (fun x => x (Or.inl rfl)) (fun x => x (Or.inr rfl))
  exact ⟨k0, k1, k2, k3⟩
 have HU12 : Hid (∀ W, Quiet wa W -> ∀ bn, Rd W (fun k => k = bn) 4 (some ⟨bn, 0, none⟩) 1 (intRow 1) -> Calls Tryz.prog 14 #[ptrV sb, .int .u64 1, .string ⟨#[116]⟩, .agg #[.int .u64 1, .int .i64 0, .int .i64 1, .slice (some ⟨b2, 0, none⟩) 1 c2], .slice (some ⟨bn, 0, none⟩) 1 1] W (fun e w' => e = .returned (.int .i64 0) /\ LawTo w W sb (fun k => k = b ∨ k = b2) (stE aH3 9 1 (some aE3)) w')) := fun W hq bn hr => a_update1 (c3 := 1) (HA.out.same hq) hr (by omega) (by unfold maxLen; omega)
 go_wp2_with fail
 refine zH HS12 ((Only.refl _ _).drew) (fun hHeld => ?_)
 simp only [List.size_toArray, List.length_cons, List.length_nil, Nat.reduceAdd]
 have q0 : Quiet wa wa.drew := (Only.refl _ _).drew
 generalize wa.drew = d0 at q0 hHeld ⊢
 refine zT 0 ?_
 refine zT 1 ?_
 refine zT 2 ?_
 refine zT 3 ?_
 refine zT 4 ?_
 refine zT 5 ?_
 refine zT 6 ?_
 refine zT 7 ?_
 refine zT 8 ?_
 refine zR 9 ?_
 intro K hK
 go_simp
 go_at_call 11
 refine (num13 1 _).mono ?_
 rintro e d1 ⟨bn, rfl, hqn, _, _, hrn⟩
 have q1 := q0.trans hqn
 clear hqn
 dsimp only
 refine hK.out _ _ ?_ (fun hHeld => ?_)
 ·exact HS12.out _ (q1.mono (fun _ _ x => x.elim))
 clear hK K
 (try simp only [Act.put, zPA, zPZ, zPS])
 refine zR 10 ?_
 intro K hK
 go_simp
 go_at_call 14
 refine (HU12.out _ q1 bn hrn).mono ?_
 rintro e d2 ⟨rfl, hlt⟩
 have q2 : Only (fun k => ¬ (k = b ∨ k = b2)) _ d2 := (q1.mono (T := fun k => ¬ (k = b ∨ k = b2)) (fun _ _ x => x.elim)).trans' hlt.2 (fun k _ x => x.2)
 dsimp only
 refine hK.out _ _ ?_ (fun hHeld => ?_)
 ·exact HS12.out _ q2
 clear hK K
 (try simp only [Act.put, zPA, zPZ, zPS])
 refine zT 11 ?_
 refine zT 12 ?_
 refine wpAnyH_done (by kernel_rfl) ?_ _
 have H9 : Hid (LawSt w d2 sb (fun _ => False) (stE aH3 9 1 (some aE3))) := hlt.st.mono (fun _ x => x.elim)
 clear hHeld q0 q1 q2 hlt hrn HS12 HU12 HA HONE
 have HCO : Hid (Calls Tryz.prog 12 #[ptrV sb, .int .u64 1] d2 (fun e w' => e = .returned (.int .i64 0) /\ LawSt w w' sb (fun _ => False) (stF aH3 9 1 aE3))) := by
  refine (law_commit (x := 1) H9.out (by unfold U64; omega)).mono ?_
  rintro e w' ⟨rfl, h⟩
  exact ⟨rfl, h.st⟩
 go_wp2
 rw [rounds_succ]
 go_wp2_with fail
 refine HCO.out.mono ?_
 rintro e wb ⟨rfl, hb⟩
 have HB := Lib.hid hb
 have HUS : Hid (Calls Tryz.prog 16 #[ptrV sb] wb (IntsPost wb [3])) := law_used (t := tabA) (H := aH3) hb rfl (by decide) (by unfold U64; decide) rfl
 clear hb HCO
 go_wp2_with fail
 refine HUS.out.mono ?_
 rintro e wc ⟨v, rfl, hi⟩
 have HC := Lib.hid (HB.out.same hi.quiet)
 obtain ⟨bu, cu, rfl, hbu⟩ := ints_one' hi
 have lbu := cell_lt hbu
 dsimp only at lbu
 clear hi HUS
 go_wp2_with fail
 refine (broom_new (LawB.start HC.out)).mono ?_
 rintro e wd ⟨rb, rfl, hbr⟩
 have HPA : Hid (Calls Tryz.prog 15 #[ptrV rb, .int .i64 100] wd (fun e w' => (∃ z : Int, e = .returned (.int .i64 z)) /\ BrIdle ⟨w, fun _ => False, wc⟩ w' sb rb 1 (sweptX (stF aH3 9 1 aE3) 1 2 2 aH3 aE3))) :=
  law_pass1 (t := tabA) (x := idxA) (hz := 2) (N := 1) (es := aE3) (ps := 0) (most := 100) a_pass rfl rfl (by unfold U64; decide) rfl (fun p hp => by
    rw [a_dead] at hp
    rcases List.mem_cons.1 hp with e | hp
    · rw [e]; exact a_wf (by omega) (by omega)
    · rw [List.mem_singleton.1 hp]; exact a_wf (by omega) (by omega)) (fun e he => by
    have h3 : e = ⟨keyI 1, 0, 2⟩ ∨ e = ⟨keyI 0, 0, 1⟩ ∨ e = ⟨keyI 0, 0, 0⟩ := by
      rcases mem_putE.1 he with y | y
      · exact Or.inl y
      · rcases mem_putE.1 y with y | y
        · exact Or.inr (Or.inl y)
        · rcases mem_putE.1 y with y | y
          · exact Or.inr (Or.inr y)
          · cases y
    rcases h3 with y | y | y <;> (rw [y]; exact a_wf (by decide) (by decide))) (by rw [a_dead]; decide) (by decide +kernel) hbr (by omega) (by decide) (by omega)
 clear hbr HC lbu hbu
 go_wp2_with fail
 refine HPA.out.mono ?_
 rintro e we ⟨⟨z, rfl⟩, vj, hl, _, _⟩
 have HL := Lib.hid hl.law
 have HU1 : Hid (∀ W, Quiet we W -> Calls Tryz.prog 16 #[ptrV sb] W (IntsPost W [1])) := fun W hq => by
  have := law_used (t := tabA) (HL.out.same hq) rfl (by decide) (by unfold U64; decide) (by rfl)
  rw [show usedH (relH (stF aH3 9 1 aE3).L 2 aH3 (deadTo (stF aH3 9 1 aE3) 2 aH3 aH3.length)) = 1 from a_used] at this
  exact this
 have HE1 : Hid (∀ W, Quiet we W -> Calls Tryz.prog 18 #[ptrV sb] W (IntsPost W [1])) := fun W hq => by
  have := law_entries (t := tabA) (HL.out.same hq) rfl (by decide) (by unfold U64; decide) (fun e he => by
    have : e = idxA := List.mem_singleton.1 he
    subst this
    exact ⟨by unfold U64; decide, _, rfl⟩)
  have e2 : (keptI (sweptX (stF aH3 9 1 aE3) 1 2 2 aH3 aE3).L tabA.id (sweptX (stF aH3 9 1 aE3) 1 2 2 aH3 aE3).I).map (fun e => (((sweptX (stF aH3 9 1 aE3) 1 2 2 aH3 aE3).ts e.id).getD []).length) = [1] := by
   show [(prunE (deadTo (stF aH3 9 1 aE3) 2 aH3 aH3.length) aE3).length] = [1]
   rw [a_left]
  rw [e2] at this
  exact this
 clear hl HPA
 go_wp2_with fail
 refine (HU1.out _ (Only.refl _ _)).mono ?_
 rintro e wf ⟨v, rfl, hi⟩
 obtain ⟨bu, cu, rfl, hbu⟩ := ints_one' hi
 have HQF := Lib.hid hi.quiet
 have HBU := Lib.hid hbu
 clear hi hbu
 go_wp2_with fail
 refine (HE1.out _ HQF.out).mono ?_
 rintro e wg ⟨v, rfl, hi⟩
 obtain ⟨bv, cv, rfl, hbv⟩ := ints_one' hi
 have hbu := hi.quiet.cell HBU.out (fun x => x)
 have lbu := cell_lt hbu
 have lbv := cell_lt hbv
 dsimp only at lbu lbv
 have HEND : Hid (POST (.returned (.bool true)) wg) := by
  rw [<- HPOST.out]
  exact ⟨rfl, (HL.out.quiet.trans HQF.out).trans hi.quiet⟩
 have hbu1 : wg.cell? ⟨bu, 0, none⟩ = some (.int .i64 1) := hbu
 have hbv1 : wg.cell? ⟨bv, 0, none⟩ = some (.int .i64 1) := hbv
 clear hi HU1 HE1 HBU hbu hbv HL H9 HB H8 H7 H5 H3 H2 H1 HQF
 go_wp2
 exact HEND.out
def LH (r : Nat) : List Nat := 2 :: 1 :: List.replicate r 2
theorem LH_len (r : Nat) : (LH r).length = r + 2 := by simp [LH]
theorem stateL_LH1 (r : Nat) (t : List Nat) : stateL (LH r ++ t) 1 = 2 := rfl
theorem stateL_LH (r : Nat) (t : List Nat) {x : Nat} (h1 : 3 <= x) (h2 : x <= r + 2) : stateL (LH r ++ t) x = 2 := by
 unfold stateL
 rw [if_pos (by omega), List.getD_eq_getElem?_getD, List.getElem?_append_left (by rw [LH_len]; omega)]
 obtain ⟨j, rfl⟩ : ∃ j, x = j + 3 := ⟨x - 3, by omega⟩
 show ((List.replicate r 2)[j]?).getD 0 = 2
 rw [List.getElem?_replicate, if_pos (by omega)]
 rfl
theorem stateL_LHn (r : Nat) : stateL (LH r ++ [1]) (r + 3) = 1 := by
 unfold stateL
 rw [if_pos (by omega), List.getD_eq_getElem?_getD, List.getElem?_append_right (by rw [LH_len]; omega), LH_len]
 have : r + 3 - 1 - (r + 2) = 0 := by omega
 rw [this]
 rfl
theorem LH_end (r : Nat) : endL (LH r ++ [1]) (r + 3) 2 = (0, LH (r + 1)) := by
 unfold endL
 rw [if_pos (stateL_LHn r)]
 have : (LH r ++ [1]).set (r + 3 - 1) 2 = LH (r + 1) := by
  have e : r + 3 - 1 = (LH r).length := by rw [LH_len]; omega
  rw [e, List.set_append_right _ _ (Nat.le_refl _), Nat.sub_self]
  show 2 :: 1 :: (List.replicate r 2 ++ [2]) = 2 :: 1 :: List.replicate (r + 1) 2
  rw [List.replicate_succ']
 rw [this]
theorem sees_done {L : List Nat} {own x : Nat} (h : stateL L x = 2) (hx : x <= L.length) : seesS L (takeS L own) x = true := by
 unfold seesS
 have h1 : (takeS L own).xmax = L.length + 1 := rfl
 have h2 : x ∉ (takeS L own).run := fun e => by
  have := (mem_others.1 (show x ∈ others own (runsL L) from e)).1
  rw [mem_runsL, h] at this
  cases this
 rw [h1, h, decide_eq_true (show x < L.length + 1 by omega), decide_eq_false h2]
 simp
def snO : Nat -> Option Snap := upd (fun _ => none) 2 (some (takeS [2, 1] 2))
def snapR (r : Nat) : Snap := takeS (LH r ++ [1]) (r + 3)
def snR (r : Nat) : Nat -> Option Snap := upd snO (r + 3) (some (snapR r))
theorem upd_gone {α : Type} {f : Nat -> Option α} {i : Nat} (h : f i = none) (a : Option α) : upd (upd f i a) i none = f := by
 funext k
 by_cases e : k = i
 ·subst e; simp [upd, h]
 ·simp [upd, e]
theorem snR_gone (r : Nat) : upd (snR r) (r + 3) none = snO := upd_gone (by unfold snO; simp [upd]) _
theorem snO_first : upd (upd (upd (fun _ => none) 1 (some (takeS [1] 1))) 1 none) 2 (some (takeS [2, 1] 2)) = snO := by
 rw [upd_gone (f := fun _ => none) (i := 1) rfl]
 rfl
section
variable {w0 w : World} {sb : Nat} {K : Nat -> Prop} {k r len left last : Nat} {H : List (List (Option Tup))} {l : List ((Int × Int) × Tup)}
theorem hold_first {left' : Nat} {H' : List (List (Option Tup))} {p q : Int} {Sv : Nat -> Prop} {A3 : Option Addr} {c3 : Nat} (h : LawSt w0 w sb K (stA [1] H left len (upd (fun _ => none) 1 (some (takeS [1] 1))))) (hh : HoldH k len H left l) (hlen : len < k) (hk : k <= 8) (hins : hIns H left ⟨len + 1, 1, 0, -1, -1, rowI len⟩ = ((p, q, 0), H', left')) (hv : Rd w Sv 4 A3 1 (intRow len)) (hc3 : 1 <= c3) (hm3 : c3 <= maxLen) :
  Calls Tryz.prog 10 #[ptrV sb, .int .u64 1, .string ⟨#[116]⟩, .slice A3 1 c3] w fun e w' => e = .returned (.int .i64 0) /\ LawTo w0 w sb K (stA [1] H' left' (len + 1) (upd (fun _ => none) 1 (some (takeS [1] 1)))) w' := by
 refine (law_insert (x := 1) (n := len) (y := takeS [1] 1) (t := tabA) (i := 0) (nm := ⟨#[97]⟩) (H := H) (H' := H') (left' := left') (p := p) (q := q) h (by unfold U64; omega) rfl (tabA_found rfl) rfl rfl (by unfold U64; decide) rfl rfl (by show H.length + left <= 256; have := hh.left; omega) (by omega) hv hc3 hm3 (by show len + 1 < _; omega) hins).mono ?_
 rintro e w' ⟨rfl, ht⟩
 rw [stA_ins] at ht
 exact ⟨rfl, ht⟩
theorem hold_begin (h : LawSt w0 w sb K (stA (LH r) H left k snO)) (hr : r <= 100) :
  Calls Tryz.prog 7 #[ptrV sb] w fun e w' => e = .returned (.tuple #[.int .u64 ((r : Int) + 3), .int .i64 0]) /\ LawTo w0 w sb K (stA (LH r ++ [1]) H left k (snR r)) w' := by
 refine (law_begin h (by show (LH r).length < _; rw [LH_len]; omega)).mono ?_
 rintro e w' ⟨rfl, ht⟩
 rw [stA_beg, LH_len] at ht
 refine ⟨?_, ht⟩
 show Ending.returned (.tuple #[.int .u64 (((LH r).length : Int) + 1), .int .i64 0]) = _
 rw [LH_len]
 have : ((r + 2 : Nat) : Int) + 1 = (r : Int) + 3 := by omega
 rw [this]
theorem hold_commit (h : LawSt w0 w sb K (stA (LH r ++ [1]) H left k (snR r))) (hr : r <= 100) :
  Calls Tryz.prog 12 #[ptrV sb, .int .u64 ((r : Int) + 3)] w fun e w' => e = .returned (.int .i64 0) /\ LawTo w0 w sb K (stA (LH (r + 1)) H left k snO) w' := by
 have h1 := law_commit (x := r + 3) h (by unfold U64; omega)
 have e1 : ((r + 3 : Nat) : Int) = (r : Int) + 3 := by omega
 rw [e1] at h1
 refine h1.mono ?_
 rintro e w' ⟨rfl, ht⟩
 rw [stA_end, snR_gone] at ht
 have e2 : endL (LH r ++ [1]) (r + 3) 2 = (0, LH (r + 1)) := LH_end r
 refine ⟨?_, by rw [e2] at ht; exact ht⟩
 show Ending.returned (.int .i64 ((endL (LH r ++ [1]) (r + 3) 2).1 : Int)) = _
 rw [e2]
 rfl
theorem HoldH.places_len (h : HoldH k len H left l) (hl : len <= 100) : ∀ j, j <= H.length -> (placesH H j).length <= 100 := fun j hj => by
 rw [placesH_length H j hj]
 have h1 : usedH (H.take j) <= usedH H := by
  conv => rhs; rw [<- List.take_append_drop j H]
  unfold usedH
  rw [List.map_append, List.sum_append]
  omega
 have := h.inv.used
 have := h.cnt
 omega
theorem filterMap_all {α β : Type} {f : α -> Option β} {g : α -> β} : ∀ {l : List α}, (∀ x ∈ l, f x = some (g x)) -> l.filterMap f = l.map g
 | [], _ => rfl
 | a :: l, h => by
  rw [List.filterMap_cons, h a (List.mem_cons_self ..), List.map_cons, filterMap_all (fun x hx => h x (List.mem_cons_of_mem _ hx))]
theorem filterMap_no {α β : Type} {f : α -> Option β} : ∀ {l : List α}, (∀ x ∈ l, f x = none) -> l.filterMap f = []
 | [], _ => rfl
 | a :: l, h => by
  rw [List.filterMap_cons, h a (List.mem_cons_self ..)]
  exact filterMap_no (fun x hx => h x (List.mem_cons_of_mem _ hx))
theorem mem_drop_at {α : Type} {l : List α} {n : Nat} {x : α} (h : x ∈ l.drop n) : ∃ m, n <= m /\ l[m]? = some x := by
 obtain ⟨i, hi⟩ := List.mem_iff_getElem?.1 h
 rw [List.getElem?_drop] at hi
 exact ⟨n + i, by omega, hi⟩
theorem mem_take_at {α : Type} {l : List α} {n : Nat} {x : α} (h : x ∈ l.take n) : ∃ m, m < n /\ l[m]? = some x := by
 obtain ⟨i, hi⟩ := List.mem_iff_getElem?.1 h
 have hl := (List.getElem?_eq_some_iff.1 hi).1
 rw [List.length_take] at hl
 rw [List.getElem?_take_of_lt (by omega)] at hi
 exact ⟨i, by omega, hi⟩
theorem seen_round (hh : HoldH k ((r + 1) * k) H left l) (hk : 0 < k) : l.filterMap (rowOf (LH r ++ [1]) (snapR r)) = (l.drop (r * k)).map tellR := by
 have hlen : (LH r ++ [1]).length = r + 3 := by rw [List.length_append, LH_len]; rfl
 have hs : ∀ x, 3 <= x -> x <= r + 2 -> seesS (LH r ++ [1]) (snapR r) x = true := fun x a b => sees_done (stateL_LH r _ a b) (by rw [hlen]; omega)
 have h1 : seesS (LH r ++ [1]) (snapR r) 1 = true := sees_done (stateL_LH1 r _) (by rw [hlen]; omega)
 have e1 : (r + 1) * k = r * k + k := by rw [Nat.add_mul, Nat.one_mul]
 conv => lhs; rw [<- List.take_append_drop (r * k) l]
 rw [List.filterMap_append, filterMap_no (fun x hx => ?_), List.nil_append]
 ·refine filterMap_all fun x hx => ?_
  obtain ⟨m, hm, hx⟩ := mem_drop_at hx
  have hml := (List.getElem?_eq_some_iff.1 hx).1
  rw [hh.cnt] at hml
  have hV := hh.vers m x hx
  unfold rowOf
  have : visS (LH r ++ [1]) (snapR r) x.2.xmin x.2.xmax = true := by
   unfold visS
   rw [hV.xmax, if_neg (by omega), hV.xmin]
   have h2 : seesS (LH r ++ [1]) (snapR r) (if m < k then 1 else m / k + 2) = true := by
    split
    ·exact h1
    ·have a : 1 <= m / k := (Nat.le_div_iff_mul_le hk).2 (by omega)
     have b : m / k < r + 1 := (Nat.div_lt_iff_lt_mul hk).2 hml
     exact hs _ (Nat.add_le_add_right a 2) (Nat.add_le_add_right (Nat.le_of_lt_succ b) 2)
   rw [h2]
   rfl
  rw [this]
  rfl
 ·obtain ⟨m, hm, hx⟩ := mem_take_at hx
  have hV := hh.vers m x hx
  unfold rowOf
  have : visS (LH r ++ [1]) (snapR r) x.2.xmin x.2.xmax = false := by
   unfold visS
   rw [hV.xmax, if_pos (by omega)]
   have b : m / k < r := (Nat.div_lt_iff_lt_mul hk).2 hm
   rw [hs (m / k + 3) (Nat.le_add_left 3 _) (Nat.add_le_add_right b 2)]
   simp
  rw [this]
  rfl
theorem rises_drop (hh : HoldH k ((r + 1) * k) H left l) (hk : 0 < k) : ((l.drop (r * k)).map tellR).Pairwise (fun a b => a.1 < b.1) := by
 rw [List.pairwise_iff_getElem]
 intro i j hi hj hij
 simp only [List.length_map, List.length_drop, hh.cnt] at hi hj
 have e1 : (r + 1) * k = r * k + k := by rw [Nat.add_mul, Nat.one_mul]
 have li : r * k + i < l.length := by rw [hh.cnt]; omega
 have lj : r * k + j < l.length := by rw [hh.cnt]; omega
 have hx : l[r * k + i]? = some l[r * k + i] := List.getElem?_eq_getElem li
 have hy : l[r * k + j]? = some l[r * k + j] := List.getElem?_eq_getElem lj
 have h1 := (hh.vers _ _ hx).row
 have h2 := (hh.vers _ _ hy).row
 rw [List.getElem_map, List.getElem_map, List.getElem_drop, List.getElem_drop]
 show l[r * k + i].2.row < l[r * k + j].2.row
 rw [h1, h2]
 have m1 : (r * k + i) % k = i := by rw [Nat.mul_comm, Nat.mul_add_mod, Nat.mod_eq_of_lt (by omega)]
 have m2 : (r * k + j) % k = j := by rw [Nat.mul_comm, Nat.mul_add_mod, Nat.mod_eq_of_lt (by omega)]
 omega
def HoldRows (w : World) (R : List RowR) (e : Ending) (w' : World) : Prop := ∃ v M, e = .returned (.tuple #[v, .int .i64 0]) /\ RowsW w w' v M /\ M.map RowM.told = R
theorem hold_scan (h : LawSt w0 w sb K (stA (LH r ++ [1]) H left k (snR r))) (hh : HoldH k ((r + 1) * k) H left l) (hk : 0 < k) (hk2 : k <= 8) (hr : r <= 8) :
  Calls Tryz.prog 13 #[ptrV sb, .int .u64 ((r : Int) + 3), .string ⟨#[116]⟩] w (HoldRows w ((l.drop (r * k)).map tellR)) := by
 have hb : (r + 1) * k <= 72 := Nat.mul_le_mul (show r + 1 <= 9 by omega) hk2
 have hlen : (LH r ++ [1]).length = r + 3 := by rw [List.length_append, LH_len]; rfl
 have h0 := law_scan (x := r + 3) (y := snapR r) (t := tabA) (i := 0) (nm := ⟨#[97]⟩) (name := ⟨#[116]⟩) (H := H) h (by unfold U64; omega) (by show snR r (r + 3) = _; unfold snR; simp [upd]) (tabA_found (sees_done (stateL_LH1 r _) (by show 1 <= (LH r ++ [1]).length; rw [hlen]; omega))) rfl rfl (by unfold U64; decide) rfl (fun j hj => by have := hh.places_len (by omega) j hj; omega) (hh.int hk (by omega) (by omega))
 have e1 : ((r + 3 : Nat) : Int) = (r : Int) + 3 := by omega
 rw [e1] at h0
 refine h0.mono ?_
 rintro e w' ⟨v, M, rfl, hW, hp, hs⟩
 refine ⟨v, M, rfl, hW, told_order (hp.trans ((hh.inv.seen _ _).trans ?_)) hs (rises_drop hh hk)⟩
 rw [show (stA (LH r ++ [1]) H left k (snR r)).L = LH r ++ [1] from rfl, seen_round hh hk]
theorem seen_old (hh : HoldH k ((r + 1) * k) H left l) (hk : 0 < k) (hr : 1 <= r) : l.filterMap (rowOf (LH r) (takeS [2, 1] 2)) = (l.take k).map tellR := by
 have h1 : seesS (LH r) (takeS [2, 1] 2) 1 = true := rfl
 have hs : ∀ x, 3 <= x -> seesS (LH r) (takeS [2, 1] 2) x = false := fun x a => by
  unfold seesS
  have e1 : (takeS [2, 1] 2).own = 2 := rfl
  have e2 : (takeS [2, 1] 2).xmax = 3 := rfl
  rw [e1, e2, decide_eq_false (show ¬ x = 2 by omega), decide_eq_false (show ¬ x < 3 by omega)]
  rfl
 have e1 : (r + 1) * k = r * k + k := by rw [Nat.add_mul, Nat.one_mul]
 have e2 : k <= r * k := Nat.le_mul_of_pos_left k hr
 conv => lhs; rw [<- List.take_append_drop k l]
 rw [List.filterMap_append, filterMap_no (l := l.drop k) (fun x hx => ?_), List.append_nil]
 ·refine filterMap_all fun x hx => ?_
  obtain ⟨m, hm, hx⟩ := mem_take_at hx
  have hV := hh.vers m x hx
  unfold rowOf
  have : visS (LH r) (takeS [2, 1] 2) x.2.xmin x.2.xmax = true := by
   unfold visS
   rw [hV.xmax, if_pos (by omega), hV.xmin, if_pos hm, h1, hs _ (Nat.le_add_left 3 _)]
   simp
  rw [this]
  rfl
 ·obtain ⟨m, hm, hx⟩ := mem_drop_at hx
  have hV := hh.vers m x hx
  unfold rowOf
  have : visS (LH r) (takeS [2, 1] 2) x.2.xmin x.2.xmax = false := by
   unfold visS
   have a : 1 <= m / k := (Nat.le_div_iff_mul_le hk).2 (by omega)
   rw [hV.xmin, if_neg (by omega), hs _ (Nat.add_le_add_right a 2)]
   rfl
  rw [this]
  rfl
theorem told_old (hh : HoldH k ((r + 1) * k) H left l) (hk : 0 < k) (hr : 1 <= r) {i : Nat} {x : (Int × Int) × Tup} (hi : i < k) (hx : l[i]? = some x) : tellR x = (i + 1, x.1.1, x.1.2, numOf (rowI i)) := by
 have hV := hh.vers i x hx
 unfold tellR
 rw [hV.row, hV.data, if_pos hi, Nat.mod_eq_of_lt hi]
theorem rises_take (hh : HoldH k ((r + 1) * k) H left l) (hk : 0 < k) (hr : 1 <= r) : ((l.take k).map tellR).Pairwise (fun a b => a.1 < b.1) := by
 rw [List.pairwise_iff_getElem]
 intro i j hi hj hij
 simp only [List.length_map, List.length_take, hh.cnt] at hi hj
 have li : i < l.length := by rw [hh.cnt]; omega
 have lj : j < l.length := by rw [hh.cnt]; omega
 have hx : l[i]? = some l[i] := List.getElem?_eq_getElem li
 have hy : l[j]? = some l[j] := List.getElem?_eq_getElem lj
 rw [List.getElem_map, List.getElem_map, List.getElem_take, List.getElem_take, told_old hh hk hr (by omega) hx, told_old hh hk hr (by omega) hy]
 show i + 1 < j + 1
 omega
theorem hold_old (h : LawSt w0 w sb K (stA (LH r) H left k snO)) (hh : HoldH k ((r + 1) * k) H left l) (hk : 0 < k) (hk2 : k <= 8) (hr : 1 <= r) (hr2 : r <= 8) :
  Calls Tryz.prog 13 #[ptrV sb, .int .u64 2, .string ⟨#[116]⟩] w (HoldRows w ((l.take k).map tellR)) := by
 have hb : (r + 1) * k <= 72 := Nat.mul_le_mul (show r + 1 <= 9 by omega) hk2
 refine (law_scan (x := 2) (y := takeS [2, 1] 2) (t := tabA) (i := 0) (nm := ⟨#[97]⟩) (name := ⟨#[116]⟩) (H := H) h (by unfold U64; omega) rfl (tabA_found rfl) rfl rfl (by unfold U64; decide) rfl (fun j hj => by have := hh.places_len (by omega) j hj; omega) (hh.int hk (by omega) (by omega))).mono ?_
 rintro e w' ⟨v, M, rfl, hW, hp, hs⟩
 refine ⟨v, M, rfl, hW, told_order (hp.trans ((hh.inv.seen _ _).trans ?_)) hs (rises_take hh hk hr)⟩
 rw [show (stA (LH r) H left k snO).L = LH r from rfl, seen_old hh hk hr]
theorem hold_upd {j c3 nr cr : Nat} {Sv : Nat -> Prop} {A3 Ar : Option Addr} {x : (Int × Int) × Tup} (h : LawSt w0 w sb K (stA (LH r ++ [1]) H left k (snR r))) (hh : HoldH k ((r + 1) * k + j) H left l) (hj : j < k) (hk2 : k <= 8) (hr : r <= 7) (hx : l[r * k + j]? = some x) (hv : Rd w Sv 4 A3 1 (intRow 99)) (hc3 : 1 <= c3) (hm3 : c3 <= maxLen) :
  Calls Tryz.prog 14 #[ptrV sb, .int .u64 ((r : Int) + 3), .string ⟨#[116]⟩, .agg #[.int .u64 ((j : Int) + 1), .int .i64 x.1.1, .int .i64 x.1.2, .slice Ar nr cr], .slice A3 1 c3] w
   fun e w' => e = .returned (.int .i64 0) /\ ∃ H2 left2 l2, LawTo w0 w sb K (stA (LH r ++ [1]) H2 left2 k (snR r)) w' /\ HoldH k ((r + 1) * k + (j + 1)) H2 left2 l2 /\ ∀ m, r * k + j < m -> m < (r + 1) * k -> l2[m]? = l[m]? := by
 have hk : 0 < k := by omega
 have e1 : (r + 1) * k = r * k + k := by rw [Nat.add_mul, Nat.one_mul]
 have hb : r * k <= 56 := Nat.mul_le_mul hr hk2
 have hlen : (LH r ++ [1]).length = r + 3 := by rw [List.length_append, LH_len]; rfl
 have e2 : (r + 1) * k + j - k = r * k + j := by omega
 have e3 : ((r + 1) * k + j) / k = r + 1 := by rw [Nat.mul_comm, Nat.mul_add_div hk, Nat.div_eq_of_lt hj, Nat.add_zero]
 have e4 : (r * k + j) / k = r := by rw [Nat.mul_comm, Nat.mul_add_div hk, Nat.div_eq_of_lt hj, Nat.add_zero]
 have e5 : (r * k + j) % k = j := by rw [Nat.mul_comm, Nat.mul_add_mod, Nat.mod_eq_of_lt hj]
 obtain ⟨p, q, H1, left1, H2, l2, g1, g2, g3, _, g4⟩ := hh.upd (x := x) (by omega) hk hk2 (by omega) (by rw [e2]; exact hx)
 rw [e3] at g1 g2
 have hV := hh.vers _ x hx
 have hrow : x.2.row = j + 1 := by rw [hV.row, e5]
 have hxm : x.2.xmax = 0 := by rw [hV.xmax, if_neg (by omega)]
 have hxn : x.2.xmin = if r * k + j < k then 1 else r + 2 := by rw [hV.xmin, e4]
 obtain ⟨_, s1, s2⟩ := hV.small (by omega) hk (by omega)
 have hcode : freeS (LH r ++ [1]) (snapR r) x.2.xmin x.2.xmax = 0 := by
  unfold freeS
  rw [hxm, if_neg (fun y => y.1 rfl)]
  have : visS (LH r ++ [1]) (snapR r) x.2.xmin 0 = true := by
   unfold visS
   have h2 : seesS (LH r ++ [1]) (snapR r) x.2.xmin = true := by
    rw [hxn]
    split
    ·exact sees_done (stateL_LH1 r _) (by rw [hlen]; omega)
    ·have : 1 <= r := by
      rcases Nat.eq_zero_or_pos r with z | z
      ·subst z; omega
      ·exact z
     exact sees_done (stateL_LH r _ (by omega) (by omega)) (by rw [hlen]; omega)
   rw [h2]
   rfl
  rw [this]
  rfl
 have h0 := law_update (x := r + 3) (n := 99) (y := snapR r) (t := tabA) (i := 0) (nm := ⟨#[97]⟩) (name := ⟨#[116]⟩) (H := H) (H1 := H1) (H2 := H2) (left' := left1) (p := p) (q := q) (pg := x.1.1) (sl := x.1.2) (z := 0) (v := x.2) (code := 0) (Ar := Ar) (nr := nr) (cr := cr) h (by unfold U64; omega) (by show snR r (r + 3) = _; unfold snR; simp [upd]) (tabA_found (sees_done (stateL_LH1 r _) (by show 1 <= (LH r ++ [1]).length; rw [hlen]; omega))) rfl rfl (by unfold U64; decide) rfl rfl (by show H.length + left <= 256; have := hh.left; omega) (by omega) hv hc3 hm3 (hh.inv.got x (List.mem_of_getElem? hx)) (by unfold U64; omega) (by unfold U64; omega) hcode (fun _ => g1) g2
 have e6 : ((r + 3 : Nat) : Int) = (r : Int) + 3 := by omega
 have e7 : (x.2.row : Int) = (j : Int) + 1 := by omega
 rw [e6, e7] at h0
 refine h0.mono ?_
 intro e w' hp
 rw [if_pos rfl] at hp
 obtain ⟨rfl, ht⟩ := hp
 rw [stA_put] at ht
 exact ⟨rfl, H2, left1, l2, ht, g3, fun m a b => g4 m (by omega) (by omega)⟩
theorem hold_hor : HorSt (stA (LH r) H left k snO) 3 := by
 refine ⟨fun h => ?_, fun _ => ⟨2, takeS [2, 1] 2, rfl, rfl⟩, fun x y e => ?_, by unfold U64; decide⟩
 ·have := h 2
  cases this
 ·have e' : snO x = some y := e
  unfold snO at e'
  by_cases h : x = 2
  ·subst h
   have : takeS [2, 1] 2 = y := by simpa [upd] using e'
   subst this
   decide
  ·simp [upd, h] at e'
theorem hold_lives {hz : Nat} {L : List Nat} {sn : Nat -> Option Snap} (h : stateL L 1 = 2) : BookLives (stA L H left k sn) hz := by
 refine ⟨fun t ht => ?_, fun x hx => by cases hx⟩
 obtain rfl : t = tabA := List.mem_singleton.1 ht
 show deadS L 1 0 hz = false
 unfold deadS
 rw [h]
 rfl
theorem hold_ok (hh : HoldH k len H left l) (hk : 0 < k) (hl : len <= 100) (hl0 : 0 < len) : PassOk (stA (LH r) H left k snO) tabA H 3 2 ∨ ¬ r <= 100 := by
 by_cases hr : r <= 100
 ·refine Or.inl ⟨rfl, by show 0 <= 1000; omega, hold_hor, hold_lives (by have := stateL_LH1 r []; rwa [List.append_nil] at this), by show (LH r).length < _; rw [LH_len]; omega, fun x y e => ?_, by decide, rfl, by unfold U64; decide, hh.inv.fit, hh.nums hk hl, ?_, by have := hh.left; omega⟩
  ·have e' : snO x = some y := e
   unfold snO at e'
   by_cases h : x = 2
   ·omega
   ·simp [upd, h] at e'
  ·rcases Nat.eq_zero_or_pos H.length with z | z
   ·have : H = [] := List.eq_nil_of_length_eq_zero z
    have hu := hh.inv.used
    rw [this, hh.cnt] at hu
    have : usedH [] = 0 := rfl
    omega
   ·exact z
 ·exact Or.inr hr
theorem hold_dead (hh : HoldH k len H left l) (hlr : len <= (r + 1) * k) (hk : 0 < k) : deadTo (stA (LH r) H left k snO) 3 H H.length = [] := by
 unfold deadTo
 rw [List.filter_eq_nil_iff]
 intro a ha hd
 obtain ⟨v, hv⟩ := placesH_get ha
 obtain ⟨m, hm, hx, hV⟩ := hh.at_ hv
 have hd' : deadA (LH r) H 3 a = true := hd
 unfold deadA at hd'
 rw [hv] at hd'
 have hx1 : stateL (LH r) v.xmin ≠ 3 := by
  have hst : ∀ x, x = 1 ∨ (3 <= x /\ x <= r + 2) -> stateL (LH r) x = 2 := fun x hx => by
   have := stateL_LH1 r []
   rw [List.append_nil] at this
   rcases hx with rfl | ⟨a, b⟩
   ·exact this
   ·have := stateL_LH r [] a b
    rwa [List.append_nil] at this
  have : v.xmin = 1 ∨ (3 <= v.xmin /\ v.xmin <= r + 2) := by
   rw [hV.xmin]
   split
   ·exact Or.inl rfl
   ·have a : 1 <= m / k := (Nat.le_div_iff_mul_le hk).2 (by omega)
    have b : m / k < r + 1 := (Nat.div_lt_iff_lt_mul hk).2 (by omega)
    exact Or.inr ⟨by omega, by omega⟩
  rw [hst _ this]
  decide
 have hx2 : ¬ (v.xmax ≠ 0 /\ v.xmax < 3) := by
  rw [hV.xmax]
  split
  ·exact fun y => absurd y.2 (Nat.not_lt.2 (Nat.le_add_left 3 _))
  ·exact fun y => y.1 rfl
 have hd2 : deadS (LH r) v.xmin v.xmax 3 = true := hd'
 unfold deadS at hd2
 rw [decide_eq_false hx1] at hd2
 simp at hd2
 exact hx2 ⟨hd2.1.1, hd2.2⟩
theorem upd_stay {α : Type} {f : Nat -> α} {i : Nat} {a : α} (h : f i = a) : upd f i a = f := by
 funext j
 by_cases e : j = i
 ·subst e; simp [upd, h]
 ·simp [upd, e]
theorem hold_pass {B : BaseW} {rb ps : Nat} (h : BrIdle B w sb rb ps (stA (LH r) H left k snO)) (hh : HoldH k ((r + 1) * k) H left l) (hk : 0 < k) (hk2 : k <= 8) (hr : r <= 8) (hp : ps < 1000) :
  Calls Tryz.prog 15 #[ptrV rb, .int .i64 1000] w (fun e w' => (∃ z : Int, e = .returned (.int .i64 z)) /\ BrIdle B w' sb rb (ps + 1) (stA (LH r) H left k snO)) := by
 have hb : (r + 1) * k <= 72 := Nat.mul_le_mul (show r + 1 <= 9 by omega) hk2
 have e1 : (r + 1) * k = r * k + k := by rw [Nat.add_mul, Nat.one_mul]
 have ho : PassOk (stA (LH r) H left k snO) tabA H 3 2 := by
  rcases hold_ok (r := r) hh hk (by omega) (by omega) with x | x
  ·exact x
  ·exact absurd (show r <= 100 by omega) x
 have hl := hh.left
 have h0 := law_pass0 (most := 1000) ho rfl h (by omega) (by omega) (by omega)
 unfold sweptS at h0
 rw [hold_dead hh (Nat.le_refl _) hk] at h0
 have e2 : ({ stA (LH r) H left k snO with hs := upd (stA (LH r) H left k snO).hs tabA.id (some (relH (stA (LH r) H left k snO).L 3 H [])) } : St) = stA (LH r) H left k snO := by
  show ({ stA (LH r) H left k snO with hs := upd (stA (LH r) H left k snO).hs tabA.id (some H) } : St) = _
  rw [upd_stay (show (stA (LH r) H left k snO).hs tabA.id = some H from rfl)]
 rw [e2] at h0
 exact h0
end
def BrX (w0 w : World) (sb rb ps : Nat) (K : Nat -> Prop) (s : St) : Prop := ∃ vj, LawSt w0 w sb (fun k => k = rb ∨ K k) s /\ BrAt w rb sb false vj ps /\ w0.heap.size <= rb /\ ¬ K rb
section
variable {w0 w w' : World} {sb rb ps : Nat} {K : Nat -> Prop} {s s' : St}
theorem BrX.to (h : BrX w0 w sb rb ps K s) (ht : LawTo w0 w sb (fun k => k = rb ∨ K k) s' w') : BrX w0 w' sb rb ps K s' := by
 obtain ⟨vj, hl, hb, hn⟩ := h
 exact ⟨vj, ht.st, ⟨ht.2.get hb.box (fun x => x.2 (Or.inl rfl))⟩, hn⟩
theorem BrX.quietly (h : BrX w0 w sb rb ps K s) (hq : Quiet w w') : BrX w0 w' sb rb ps (fun k => K k ∨ (w.heap.size <= k /\ k < w'.heap.size)) s := by
 obtain ⟨vj, hl, hb, hn, hk⟩ := h
 refine ⟨vj, (hl.quietly hq).mono (fun k e => by rcases e with e | e | e; exact Or.inl (Or.inl e); exact Or.inl (Or.inr e); exact Or.inr e), ⟨hq.get hb.box (fun x => x)⟩, hn, fun e => ?_⟩
 have := lt_of_get hb.box
 rcases e with e | e
 ·exact hk e
 ·omega
theorem BrX.mono {K' : Nat -> Prop} (h : BrX w0 w sb rb ps K s) (hk : ∀ k, K' k -> K k) : BrX w0 w sb rb ps K' s := by
 obtain ⟨vj, hl, hb, hn, hx⟩ := h
 exact ⟨vj, hl.mono (fun k e => e.imp id (hk k)), hb, hn, fun e => hx (hk _ e)⟩
theorem BrX.same (h : BrX w0 w sb rb ps K s) (hq : Quiet w w') : BrX w0 w' sb rb ps K s := (h.quietly hq).mono (fun _ x => Or.inl x)
theorem BrX.idle (h : BrX w0 w sb rb ps K s) : BrIdle ⟨w0, K, w⟩ w sb rb ps s := by
 obtain ⟨vj, hl, hb, hn, hk⟩ := h
 exact ⟨vj, ⟨hl, fun k x _ e => e, fun k e a => by have e' : k = rb := e; rw [e'] at a; exact hk a⟩, hb, hn⟩
theorem BrIdle.x {B : BaseW} (h : BrIdle B w sb rb ps s) : BrX B.w w sb rb ps B.X s /\ ∀ k x, B.X k -> B.at_.heap[k]? = some x -> w.heap[k]? = some x := by
 obtain ⟨vj, hl, hb, hn⟩ := h
 exact ⟨⟨vj, hl.1, hb, hn, hl.2.2 rb rfl⟩, hl.2.1⟩
theorem BrX.law (h : BrX w0 w sb rb ps K s) : LawSt w0 w sb (fun k => k = rb ∨ K k) s := by
 obtain ⟨vj, hl, hb, hn⟩ := h
 exact hl
end
structure AliveH (k n : Nat) (H : List (List (Option Tup))) (left : Nat) : Prop where
 fit : ∀ T ∈ H, Fits T
 used : usedH H = k
 left : H.length + left = 256
 some_ : 0 < H.length
 vers : ∀ p s v, hGet H p s = some v -> 1 <= v.xmin /\ v.xmin <= n /\ v.xmax = 0
def stN (n : Nat) (H : List (List (Option Tup))) (left last : Nat) : St := stA (List.replicate n 2) H left last (fun _ => none)
theorem stateL_rep {n x : Nat} (h1 : 1 <= x) (h2 : x <= n) : stateL (List.replicate n 2) x = 2 := by
 unfold stateL
 rw [if_pos h1, List.getD_eq_getElem?_getD, List.getElem?_replicate, if_pos (by omega)]
 rfl
section
variable {w0 w : World} {B : BaseW} {sb : Nat} {K : Nat -> Prop} {k r n len left last rb ps : Nat} {H : List (List (Option Tup))} {l : List ((Int × Int) × Tup)}
theorem hold_over (h : LawSt w0 w sb K (stA (LH r) H left k snO)) :
  Calls Tryz.prog 12 #[ptrV sb, .int .u64 2] w fun e w' => e = .returned (.int .i64 0) /\ LawTo w0 w sb K (stN (r + 2) H left k) w' := by
 refine (law_commit (x := 2) h (by unfold U64; omega)).mono ?_
 rintro e w' ⟨rfl, ht⟩
 rw [stA_end] at ht
 have e1 : endL (LH r) 2 2 = (0, List.replicate (r + 2) 2) := rfl
 have e2 : upd snO 2 none = fun _ => none := upd_gone (f := fun _ => none) (i := 2) rfl _
 rw [e1, e2] at ht
 refine ⟨?_, ht⟩
 show Ending.returned (.int .i64 ((endL (LH r) 2 2).1 : Int)) = _
 rw [e1]
 rfl
theorem n_ok (hfit : ∀ T ∈ H, Fits T) (hnum : NumHeap H) (h0 : 0 < H.length) (hl : H.length + left = 256) (hn : 1 <= n) (hn2 : n <= 1000) : PassOk (stN n H left k) tabA H (n + 1) 0 := by
 refine ⟨rfl, by show 0 <= 1000; omega, ⟨fun _ => ?_, ?_, ?_, by unfold U64; omega⟩, hold_lives (stateL_rep (Nat.le_refl _) hn), ?_, ?_, by decide, rfl, by unfold U64; decide, hfit, hnum, h0, by omega⟩
 ·show n + 1 = (List.replicate n 2).length + 1
  rw [List.length_replicate]
 ·rintro ⟨x, y, e⟩
  cases e
 ·intro x y e
  cases e
 ·show (List.replicate n 2).length < _
  rw [List.length_replicate]
  omega
 ·intro x y e
  cases e
theorem n_last (hh : HoldH k ((r + 1) * k) H left l) (hk : 0 < k) (hk2 : k <= 8) (hr : 1 <= r) (hr2 : r <= 8) (h : BrIdle B w sb rb ps (stN (r + 2) H left k)) (hp : ps < 1000) :
  Calls Tryz.prog 15 #[ptrV rb, .int .i64 1000] w (fun e w' => (∃ z : Int, e = .returned (.int .i64 z)) /\ ∃ H', BrIdle B w' sb rb (ps + 1) (stN (r + 2) H' left k) /\ AliveH k (r + 2) H' left) := by
 have hb : (r + 1) * k <= 72 := Nat.mul_le_mul (show r + 1 <= 9 by omega) hk2
 have e1 : (r + 1) * k = r * k + k := by rw [Nat.add_mul, Nat.one_mul]
 have hH0 : 0 < H.length := by
  rcases Nat.eq_zero_or_pos H.length with z | z
  ·have hu := hh.inv.used
   rw [List.eq_nil_of_length_eq_zero z, hh.cnt] at hu
   have : usedH [] = 0 := rfl
   omega
  ·exact z
 have hl := hh.left
 have ho : PassOk (stN (r + 2) H left k) tabA H (r + 2 + 1) 0 := n_ok hh.inv.fit (hh.nums hk (by omega)) hH0 hl (by omega) (by omega)
 have h0 := law_pass0 (most := 1000) ho rfl h (by omega) (by omega) (by omega)
 refine h0.mono ?_
 rintro e w' ⟨he, hi⟩
 refine ⟨he, relH (List.replicate (r + 2) 2) (r + 2 + 1) H (deadTo (stN (r + 2) H left k) (r + 2 + 1) H H.length), ?_, ?_⟩
 ·have e2 : sweptS (stN (r + 2) H left k) tabA.id (r + 2 + 1) H = stN (r + 2) (relH (List.replicate (r + 2) 2) (r + 2 + 1) H (deadTo (stN (r + 2) H left k) (r + 2 + 1) H H.length)) left k := by
   unfold sweptS
   show ({ stN (r + 2) H left k with hs := upd (upd (fun _ => none) 1 (some H)) 1 (some _) } : St) = _
   rw [upd_upd]
   rfl
  rw [e2] at hi
  exact hi
 ·have hsw := relH_swept (L := List.replicate (r + 2) 2) (hz := r + 2 + 1) hh.inv.fit (deadTo (stN (r + 2) H left k) (r + 2 + 1) H H.length) (dead_nodup _ _ _ _)
  have hdead : ∀ m (x : (Int × Int) × Tup), l[m]? = some x -> deadS (List.replicate (r + 2) 2) x.2.xmin x.2.xmax (r + 2 + 1) = decide (m < r * k) := by
   intro m x hx
   have hml := (List.getElem?_eq_some_iff.1 hx).1
   rw [hh.cnt] at hml
   have hV := hh.vers m x hx
   have b : m / k < r + 1 := (Nat.div_lt_iff_lt_mul hk).2 hml
   unfold deadS
   have h1 : stateL (List.replicate (r + 2) 2) x.2.xmin = 2 := by
    rw [hV.xmin]
    split
    ·exact stateL_rep (Nat.le_refl _) (by omega)
    ·exact stateL_rep (Nat.le_add_left 1 _) (Nat.add_le_add_right (Nat.le_of_lt_succ b) 2)
   rw [h1, hV.xmax]
   by_cases hm : m < r * k
   ·have b2 : m / k < r := (Nat.div_lt_iff_lt_mul hk).2 hm
    rw [if_pos (by omega), stateL_rep (Nat.le_trans (by omega) (Nat.le_add_left 3 _)) (Nat.add_le_add_right b2 2), decide_eq_true (show m / k + 3 ≠ 0 from Nat.succ_ne_zero _), decide_eq_true (show m / k + 3 < r + 2 + 1 from Nat.add_lt_add_right b2 3), decide_eq_true hm]
    rfl
   ·rw [if_neg (by omega), decide_eq_false hm]
    simp
  refine ⟨hsw.fit, ?_, by rw [hsw.len]; exact hl, by rw [hsw.len]; exact hH0, fun p s v hv => ?_⟩
  ·have hu := hsw.used
   have e3 : (deadTo (stN (r + 2) H left k) (r + 2 + 1) H H.length).filter (deadA (List.replicate (r + 2) 2) H (r + 2 + 1)) = deadTo (stN (r + 2) H left k) (r + 2 + 1) H H.length := by
    rw [List.filter_eq_self]
    intro a ha
    exact (List.mem_filter.1 ha).2
   rw [e3, hh.inv.used, hh.cnt] at hu
   have e4 : (deadTo (stN (r + 2) H left k) (r + 2 + 1) H H.length).length = (l.filter (fun x => deadS (List.replicate (r + 2) 2) x.2.xmin x.2.xmax (r + 2 + 1))).length := hh.inv.dead _ _
   have e5 : l.filter (fun x => deadS (List.replicate (r + 2) 2) x.2.xmin x.2.xmax (r + 2 + 1)) = l.take (r * k) := by
    conv => lhs; rw [<- List.take_append_drop (r * k) l]
    rw [List.filter_append, List.filter_eq_self.2 (fun x hx => ?_), List.filter_eq_nil_iff.2 (fun x hx => ?_), List.append_nil]
    ·obtain ⟨m, hm, hx⟩ := mem_drop_at hx
     rw [hdead m x hx, decide_eq_false (by omega)]
     decide
    ·obtain ⟨m, hm, hx⟩ := mem_take_at hx
     rw [hdead m x hx, decide_eq_true hm]
   rw [e4, e5, List.length_take, hh.cnt] at hu
   have : min (r * k) ((r + 1) * k) = r * k := Nat.min_eq_left (by omega)
   omega
  ·rw [hsw.get] at hv
   split at hv
   ·cases hv
   ·rename_i hnd
    obtain ⟨m, hm, hx, hV⟩ := hh.at_ hv
    have b : m / k < r + 1 := (Nat.div_lt_iff_lt_mul hk).2 hm
    have hd := hdead m _ hx
    refine ⟨?_, ?_, ?_⟩
    ·rw [hV.xmin]
     split
     ·exact Nat.le_refl _
     ·exact Nat.le_add_left 1 _
    ·rw [hV.xmin]
     split
     ·omega
     ·exact Nat.add_le_add_right (Nat.le_of_lt_succ b) 2
    ·rw [hV.xmax, if_neg]
     intro hmk
     rw [decide_eq_true (show m < r * k by omega)] at hd
     have hda : deadA (List.replicate (r + 2) 2) H (r + 2 + 1) (p, s) = true := by
      unfold deadA
      rw [hv]
      exact hd
     exact hnd ⟨List.mem_filter.2 ⟨mem_placesH hv, hda⟩, hda⟩
theorem n_again (hh : AliveH k n H left) (hn : 1 <= n) (hn2 : n <= 1000) (h : BrIdle B w sb rb ps (stN n H left last)) (hp : ps < 1000) :
  Calls Tryz.prog 15 #[ptrV rb, .int .i64 1000] w (fun e w' => (∃ z : Int, e = .returned (.int .i64 z)) /\ BrIdle B w' sb rb (ps + 1) (stN n H left last)) := by
 have hl := hh.left
 have hs := hh.some_
 have ho : PassOk (stN n H left last) tabA H (n + 1) 0 := n_ok hh.fit (fun p s v hv => by
   obtain ⟨a, b, c⟩ := hh.vers p s v hv
   exact ⟨by unfold U64; omega, by unfold U64; omega⟩) hs hl hn hn2
 have h0 := law_pass0 (most := 1000) ho rfl h (by omega) (by omega) (by omega)
 have hd : deadTo (stN n H left last) (n + 1) H H.length = [] := by
  unfold deadTo
  rw [List.filter_eq_nil_iff]
  intro a ha hd
  obtain ⟨v, hv⟩ := placesH_get ha
  obtain ⟨x1, x2, x3⟩ := hh.vers _ _ v hv
  have hd' : deadA (List.replicate n 2) H (n + 1) a = true := hd
  unfold deadA at hd'
  rw [hv] at hd'
  have hd2 : deadS (List.replicate n 2) v.xmin v.xmax (n + 1) = true := hd'
  unfold deadS at hd2
  rw [stateL_rep x1 x2, x3] at hd2
  simp at hd2
 unfold sweptS at h0
 rw [hd] at h0
 have e2 : ({ stN n H left last with hs := upd (stN n H left last).hs tabA.id (some (relH (stN n H left last).L (n + 1) H [])) } : St) = stN n H left last := by
  show ({ stN n H left last with hs := upd (stN n H left last).hs tabA.id (some H) } : St) = _
  rw [upd_stay (show (stN n H left last).hs tabA.id = some H from rfl)]
 rw [e2] at h0
 exact h0
theorem st_used {L : List Nat} {sn : Nat -> Option Snap} (h : LawSt w0 w sb K (stA L H left last sn)) :
  Calls Tryz.prog 16 #[ptrV sb] w (IntsPost w [usedH H]) := law_used (t := tabA) h rfl (by show 0 <= 1000; omega) (by unfold U64; decide) rfl
theorem row_val {w wr : World} {v : Value} {M : List RowM} {R : List RowR} {k i n : Nat} (h : RowsW w wr v M) (hm : M.map RowM.told = R) (hk : R.length = k) {id : Nat} {pg sl : Int} (hi : R[i]? = some (id, pg, sl, n)) :
  ∃ b c b2 c2, v = .slice (some ⟨b, 0, none⟩) k c /\ wr.cell? ⟨b, i * 4, none⟩ = some (.int .u64 (id : Int)) /\ wr.cell? ⟨b, i * 4 + 1, none⟩ = some (.int .i64 pg) /\ wr.cell? ⟨b, i * 4 + 2, none⟩ = some (.int .i64 sl) /\ wr.cell? ⟨b, i * 4 + 3, none⟩ = some (.slice (some ⟨b2, 0, none⟩) 1 c2) /\ wr.cell? ⟨b2, 1, none⟩ = some (.int .i64 (n : Int)) /\ b < wr.heap.size := by
 have hml : M.length = k := by rw [<- hk, <- hm, List.length_map]
 subst hm
 rw [List.getElem?_map] at hi
 obtain ⟨m, hmi, hme⟩ := Option.map_eq_some_iff.1 hi
 have hlt := (List.getElem?_eq_some_iff.1 hmi).1
 rcases owns_cases h.own with ⟨_, e⟩ | ⟨b, c, hv, _, _⟩
 ·omega
 obtain ⟨_, hvals⟩ := h.vals m (List.mem_of_getElem? hmi)
 rcases owns_cases hvals with ⟨_, e⟩ | ⟨b2, c2, e2, _, _⟩
 ·cases e
 obtain ⟨i', p', s', n', A', c'⟩ := m
 injection e2 with eA _ ec
 dsimp only at eA ec
 subst eA
 obtain ⟨e3, e4⟩ := Prod.mk.inj hme
 obtain ⟨e4, e5⟩ := Prod.mk.inj e4
 obtain ⟨e5, e6⟩ := Prod.mk.inj e5
 dsimp only at e3 e4 e5 e6
 subst e3 e4 e5 e6
 subst hv
 obtain ⟨k0, k1, k2, k3⟩ := rowsV_get M i _ hmi
 have hown := h.own
 have c0 := hown.cells (by rfl) _ _ k0
 have c1 := hown.cells (by rfl) _ _ k1
 have c2' := hown.cells (by rfl) _ _ k2
 have c3 := hown.cells (by rfl) _ _ k3
 have kv := hvals.cells (by rfl) 1 (.int .i64 (n' : Int)) rfl
 rw [add_none, Nat.zero_add] at c0 c1 c2' c3 kv
 exact ⟨b, c, b2, c', by rw [hml], c0, c1, c2', c3, kv, cell_lt c0⟩
end
theorem rows_at {w : World} {v : Value} {M : List RowM} {q n : Nat} {m : RowM} (hn : M.length = n) (h : w.ownsRow 0 45 4 v n (rowsV M)) (hm : M[q]? = some m) : ∃ b c, v = .slice (some ⟨b, 0, none⟩) n c /\ b < w.heap.size /\ w.cell? ⟨b, q * 4, none⟩ = some (.int .u64 (m.id : Int)) /\ w.cell? ⟨b, q * 4 + 1, none⟩ = some (.int .i64 m.pg) /\ w.cell? ⟨b, q * 4 + 2, none⟩ = some (.int .i64 m.sl) /\ w.cell? ⟨b, q * 4 + 3, none⟩ = some (.slice m.A 1 m.c) := by
 subst hn
 have hq := (List.getElem?_eq_some_iff.1 hm).1
 rcases owns_cases h with ⟨_, e⟩ | ⟨b, c, rfl, _, _⟩
 ·omega
 obtain ⟨k0, k1, k2, k3⟩ := rowsV_get M q m hm
 obtain ⟨cb, hcb⟩ := own_blk h (k := b) rfl
 have c0 := h.cells (by rfl) _ _ k0
 have c1 := h.cells (by rfl) _ _ k1
 have c2 := h.cells (by rfl) _ _ k2
 have c3 := h.cells (by rfl) _ _ k3
 rw [add_none, Nat.zero_add] at c0 c1 c2 c3
 exact ⟨b, c, rfl, lt_of_get hcb, c0, c1, c2, c3⟩
set_option maxHeartbeats 8000000 in
theorem holds_walk (rows changes : Nat) (hrows : rows < 256) (hch : changes < 256) (w : World) :
  Calls Tryz.prog 3 #[.int .u8 (rows : Int), .int .u8 (changes : Int)] w fun e w' => e = .returned (.bool true) /\ Quiet w w' := by
 obtain ⟨POST, hPOST⟩ : ∃ POST : Ending -> World -> Prop, (fun e w' => e = .returned (.bool true) /\ Quiet w w') = POST := ⟨_, rfl⟩
 rw [hPOST]
 have HPOST := Lib.hid hPOST
 clear hPOST
 obtain ⟨k, hk⟩ : ∃ k : Nat, 1 + (rows : Int) % 8 = (k : Int) := ⟨1 + rows % 8, by omega⟩
 have hk8 : 1 <= k /\ k <= 8 := by omega
 obtain ⟨R, hR⟩ : ∃ R : Nat, 1 + (changes : Int) % 4 = (R : Int) := ⟨1 + changes % 4, by omega⟩
 have hR4 : 1 <= R /\ R <= 4 := by omega
 have HR := Lib.hid hR
 have HR4 := Lib.hid hR4
 have HK8 := Lib.hid hk8
 clear hR hR4
 go_enter Tryz.func3, Tryz.ntmps3
 go_wp2_with fail
 refine (awake13 _).mono ?_
 rintro e w0 ⟨rfl, hq0⟩
 have HQ0 := Lib.hid hq0
 clear hq0
 go_wp2_with fail
 refine (law_new 256 (by omega) _).mono ?_
 rintro e w1 ⟨sb, rfl, h1⟩
 have HNB := Lib.hid (broom_new (LawB.start h1))
 clear h1
 go_wp2_with fail
 refine HNB.out.mono ?_
 rintro e w2 ⟨rb, rfl, h2⟩
 have H2 := Lib.hid h2.x.1
 clear h2 HNB
 have HBG : Hid (Calls Tryz.prog 7 #[ptrV sb] w2 (fun e w' => e = .returned (.tuple #[.int .u64 1, .int .i64 0]) /\ BrX w0 w' sb rb 0 (fun _ => False) (begSt (st0 256)))) := by
  refine (law_begin H2.out.law (by decide)).mono ?_
  rintro e w' ⟨rfl, h⟩
  exact ⟨rfl, H2.out.to h⟩
 go_wp2_with fail
 (try rw [hk])
 refine HBG.out.mono ?_
 rintro e w3 ⟨rfl, h3⟩
 have H3 := Lib.hid h3
 clear h3 HBG H2
 go_wp2_with fail
 refine (one13 _).mono ?_
 rintro e w4 ⟨b3, rfl, hq3, hn3, hl3, hr3⟩
 have HMK : Hid (Calls Tryz.prog 8 #[ptrV sb, .int .u64 1, .string ⟨#[116]⟩, .slice (some ⟨b3, 0, none⟩) 1 1] w4 (fun e w' => e = .returned (.int .i64 0) /\ BrX w0 w' sb rb 0 (fun _ => False) (stA [1] [] 256 0 (upd (fun _ => none) 1 (some (takeS [1] 1)))))) := by
  have hX := H3.out.quietly hq3
  refine (law_make (x := 1) (y := takeS [1] 1) (name := ⟨#[116]⟩) (nm := ⟨#[97]⟩) (kd := 1) hX.law (by unfold U64; omega) rfl rfl rfl rfl (by decide) (by unfold U64; decide) small_t small_a ⟨by omega, by omega⟩ (hr3.mono (fun k e => Or.inr (Or.inr ⟨by omega, by omega⟩))) (by omega) (by unfold maxLen; omega)).mono ?_
  rintro e w' ⟨rfl, h⟩
  exact ⟨rfl, (hX.to h).mono (fun _ x => x.elim)⟩
 clear hq3 hn3 hl3 hr3
 go_wp2_with fail
 refine HMK.out.mono ?_
 rintro e w5 ⟨rfl, h5⟩
 have H5 := Lib.hid h5
 clear h5 HMK H3
 go_wp2_with fail
 go_loopw [48, 11] (fun c _ wr => ∃ (len : Nat) (H : List (List (Option Tup))) (left : Nat) (l : List ((Int × Int) × Tup)), len <= k /\ c = .int .i64 (len : Int) /\ BrX w0 wr sb rb 0 (fun _ => False) (stA [1] H left len (upd (fun _ => none) 1 (some (takeS [1] 1)))) /\ HoldH k len H left l) (fun c _ _ => k - (intOf c).toNat)
 case atStart => exact ⟨0, [], 256, [], Nat.zero_le _, rfl, H5.out, HoldH.start k⟩
 case round =>
  obtain ⟨len, H, left, l, hlen, rfl, hX, hH⟩ := hrel
  have HX := Lib.hid hX
  have HH := Lib.hid hH
  clear hX hH H5
  by_cases hlt : len < k
  ·obtain ⟨p, q, H', left', l', hins, hH'⟩ := HH.out.ins hlt HK8.out.2
   have HH' := Lib.hid hH'
   have HIN : Hid (∀ W, Quiet wr W -> ∀ bn, Rd W (fun k => k = bn) 4 (some ⟨bn, 0, none⟩) 1 (intRow (len : Int)) -> Calls Tryz.prog 10 #[ptrV sb, .int .u64 1, .string ⟨#[116]⟩, .slice (some ⟨bn, 0, none⟩) 1 1] W (fun e w' => e = .returned (.int .i64 0) /\ BrX w0 w' sb rb 0 (fun _ => False) (stA [1] H' left' (len + 1) (upd (fun _ => none) 1 (some (takeS [1] 1)))))) := fun W hq bn hr => by
    refine (hold_first (c3 := 1) (HX.out.same hq).law HH.out hlt HK8.out.2 hins hr (by omega) (by unfold maxLen; omega)).mono ?_
    rintro e w' ⟨rfl, h⟩
    exact ⟨rfl, (HX.out.same hq).to h⟩
   have hw1 : IntKind.i64.wrap ((len : Int) + 1) = ((len + 1 : Nat) : Int) := by rw [wrap_i64_of _ (by omega) (by omega)]; rfl
   clear hins hH'
   go_wp2_with fail
   refine (num13 (len : Int) _).mono ?_
   rintro e w6 ⟨b6, rfl, hq6, hn6, hl6, hr6⟩
   have HI2 := Lib.hid (HIN.out _ hq6 b6 hr6)
   clear hq6 hn6 hl6 hr6 HIN
   go_wp2_with fail
   refine HI2.out.mono ?_
   rintro e w7 ⟨rfl, h7⟩
   have H7 := Lib.hid h7
   clear h7 HI2
   go_wp2
   go_roundw
   case rel => exact ⟨len + 1, H', left', l', by omega, by first | rfl | go_num, H7.out, HH'.out⟩
   case measure => simp [intOf]; omega
  ·obtain rfl : k = len := by omega
   have HH1 : Hid (HoldH k ((0 + 1) * k) H left l) := by
    show HoldH k ((0 + 1) * k) H left l
    rw [Nat.zero_add, Nat.one_mul]
    exact HH.out
   have HCO : Hid (Calls Tryz.prog 12 #[ptrV sb, .int .u64 1] wr (fun e w' => e = .returned (.int .i64 0) /\ BrX w0 w' sb rb 0 (fun _ => False) (stA [2] H left k (upd (upd (fun _ => none) 1 (some (takeS [1] 1))) 1 none)))) := by
    refine (law_commit (x := 1) HX.out.law (by unfold U64; omega)).mono ?_
    rintro e w' ⟨rfl, h⟩
    exact ⟨rfl, HX.out.to h⟩
   clear HH hlt hlen
   go_wp2_with fail
   refine HCO.out.mono ?_
   rintro e w8 ⟨rfl, h8⟩
   have HBG : Hid (Calls Tryz.prog 7 #[ptrV sb] w8 (fun e w' => e = .returned (.tuple #[.int .u64 2, .int .i64 0]) /\ BrX w0 w' sb rb 0 (fun _ => False) (stA (LH 0) H left k snO))) := by
    refine (law_begin h8.law (by show 1 < _; omega)).mono ?_
    rintro e w' ⟨rfl, h⟩
    refine ⟨rfl, ?_⟩
    have e9 : begSt (stA [2] H left k (upd (upd (fun _ => none) 1 (some (takeS [1] 1))) 1 none)) = stA (LH 0) H left k snO := by
     show stA [2, 1] H left k (upd (upd (upd (fun _ => none) 1 (some (takeS [1] 1))) 1 none) 2 (some (takeS [2, 1] 2))) = _
     rw [snO_first]
     rfl
    have := h8.to h
    rw [e9] at this
    exact this
   clear h8 HCO HX
   go_wp2_with fail
   refine HBG.out.mono ?_
   rintro e w9 ⟨rfl, h9⟩
   have H9 := Lib.hid h9
   clear h9 HBG
   have hR := HR.out
   go_wp2_with fail
   (try rw [hR])
   clear hR
   go_loopw [69] (fun c wr => ∃ (r : Nat) (H : List (List (Option Tup))) (left : Nat) (l : List ((Int × Int) × Tup)), r <= R /\ c = .int .i64 (r : Int) /\ BrX w0 wr sb rb r (fun _ => False) (stA (LH r) H left k snO) /\ HoldH k ((r + 1) * k) H left l) (fun c _ => R - (intOf c).toNat)
   case atStart => exact ⟨0, H, left, l, Nat.zero_le _, rfl, H9.out, HH1.out⟩
   case round =>
    clear HH1 H9
    rename_i wrOld _
    obtain ⟨r, H, left, l, hr, rfl, hX, hH⟩ := hrel
    have HX := Lib.hid hX
    have HH := Lib.hid hH
    clear hX hH
    have hR5 := HR4.out
    have hk9 := HK8.out
    by_cases hlt : r < R
    ·have HBG : Hid (Calls Tryz.prog 7 #[ptrV sb] wr (fun e w' => e = .returned (.tuple #[.int .u64 ((r : Int) + 3), .int .i64 0]) /\ BrX w0 w' sb rb r (fun _ => False) (stA (LH r ++ [1]) H left k (snR r)))) := by
      refine (hold_begin HX.out.law (by omega)).mono ?_
      rintro e w' ⟨rfl, h⟩
      exact ⟨rfl, HX.out.to h⟩
     clear hk
     go_wp2_with fail
     refine HBG.out.mono ?_
     rintro e wa ⟨rfl, ha⟩
     have HA := Lib.hid ha
     have HSC := Lib.hid (hold_scan ha.law HH.out (by omega) (by omega) (by omega))
     clear ha HBG HX
     go_wp2_with fail
     refine HSC.out.mono ?_
     rintro e wb ⟨v, M, rfl, hW, hM⟩
     have hml : M.length = k := by
      have e1 := congrArg List.length hM
      rw [List.length_map, List.length_map, List.length_drop, HH.out.cnt, Nat.add_mul, Nat.one_mul, Nat.add_sub_cancel_left] at e1
      exact e1
     have HB : Hid (BrX w0 wb sb rb r (fun k => wa.heap.size <= k /\ k < wb.heap.size) (stA (LH r ++ [1]) H left k (snR r))) := (HA.out.quietly hW.quiet).mono (fun k e => Or.inr e)
     have hown := hW.own
     rw [hml] at hown
     have HOWN := Lib.hid hown
     have HM := Lib.hid hM
     have HVN : Hid (∀ k, v.ownBlock = some k -> wa.heap.size <= k /\ k < wb.heap.size) := fun k e => ⟨hW.new k e, (hown.lt k e).2⟩
     have HML := Lib.hid hml
     obtain ⟨Av, cv, rfl, hcv, hmv, _⟩ := own_form hown
     unfold maxLen at hmv
     clear hW hM hml hown HSC HA
     go_wp2_with fail
     go_loopw [92] (fun c wr => ∃ (j : Nat) (H2 : List (List (Option Tup))) (left2 : Nat) (l2 : List ((Int × Int) × Tup)), j <= k /\ c = .int .i64 (j : Int) /\ BrX w0 wr sb rb r (fun k => wa.heap.size <= k /\ k < wb.heap.size) (stA (LH r ++ [1]) H2 left2 k (snR r)) /\ HoldH k ((r + 1) * k + j) H2 left2 l2 /\ (∀ m, r * k + j <= m -> m < (r + 1) * k -> l2[m]? = l[m]?) /\ wr.ownsRow 0 45 4 (.slice Av k cv) k (rowsV M)) (fun c _ => k - (intOf c).toNat)
     case atStart => exact ⟨0, H, left, l, Nat.zero_le _, rfl, HB.out, HH.out, fun m _ _ => rfl, HOWN.out⟩
     case round =>
      clear HB HOWN
      rename_i wrOld2 _
      obtain ⟨j, H2, left2, l2, hj, rfl, hX, hH2, hl2, hown⟩ := hrel
      have HX := Lib.hid hX
      have HH2 := Lib.hid hH2
      have HL2 := Lib.hid hl2
      have HOWN := Lib.hid hown
      clear hX hH2 hl2 hown
      by_cases hjk : j < k
      ·have hrk : (r + 1) * k = r * k + k := by rw [Nat.add_mul, Nat.one_mul]
       obtain ⟨x, hx⟩ : ∃ x, l[r * k + j]? = some x := ⟨_, List.getElem?_eq_getElem (by rw [HH.out.cnt]; omega)⟩
       have hx2 : l2[r * k + j]? = some x := by rw [HL2.out _ (Nat.le_refl _) (by omega)]; exact hx
       have hrow : x.2.row = j + 1 := by
        rw [(HH.out.vers _ x hx).row, Nat.mul_comm, Nat.mul_add_mod, Nat.mod_eq_of_lt hjk]
       obtain ⟨m, hm⟩ : ∃ m, M[j]? = some m := ⟨_, List.getElem?_eq_getElem (by have := HML.out; omega)⟩
       have hmt : m.told = tellR x := by
        have e1 := congrArg (fun z => z[j]?) HM.out
        simp only [List.getElem?_map, List.getElem?_drop, hm, hx, Option.map_some] at e1
        injection e1 with e1
       have hid : m.id = j + 1 := by
        have := congrArg Prod.fst hmt
        rw [<- hrow]
        exact this
       have hpg : m.pg = x.1.1 := congrArg (fun z : RowR => z.2.1) hmt
       have hsl : m.sl = x.1.2 := congrArg (fun z : RowR => z.2.2.1) hmt
       obtain ⟨ba, c0, hv0, lba, k0, k1, k2, k3⟩ := rows_at HML.out HOWN.out hm
       injection hv0 with ev _ ec
       subst ev ec
       rw [hid] at k0
       have k0' : wr.cell? ⟨ba, j * 4, none⟩ = some (.int .u64 ((j : Int) + 1)) := k0
       rw [hpg] at k1
       rw [hsl] at k2
       have hqr : Quiet wr (wr.alloc (.cells #[.int .u64 ((j : Int) + 1), .int .i64 x.1.1, .int .i64 x.1.2, .slice m.A 1 m.c] 45)) := (Only.refl _ _).alloc _
       have hbr := alloc_new wr (.cells #[.int .u64 ((j : Int) + 1), .int .i64 x.1.1, .int .i64 x.1.2, .slice m.A 1 m.c] 45)
       obtain ⟨r7, hr7⟩ : ∃ r7, wr.heap.size = r7 := ⟨_, rfl⟩
       rw [hr7] at hbr
       have HC := Lib.hid (HX.out.quietly hqr)
       have HBR := Lib.hid hbr
       have HOW2 := Lib.hid (owns_kept HOWN.out hqr (fun _ _ x => x))
       have HR7 := Lib.hid hr7
       have HLB : Hid (wa.heap.size <= ba /\ ba < wb.heap.size) := HVN.out ba rfl
       clear hm hmt hid hpg hsl k0 hrow hrk
       go_upto_region 24 with fail
       (try rw [hr7])
       generalize wr.alloc (.cells #[.int .u64 ((j : Int) + 1), .int .i64 x.1.1, .int .i64 x.1.2, .slice m.A 1 m.c] 45) = wc at *
       clear hqr hbr k0' k1 k2 k3 lba
       have HS24 : Hid (∀ W, Only (fun k => k ≠ r7) wc W -> (fun w' => w'.cell? ⟨r7, 0, none⟩ = some (.int .u64 ((j : Int) + 1)) /\ w'.cell? ⟨r7, 1, none⟩ = some (.int .i64 x.1.1) /\ w'.cell? ⟨r7, 2, none⟩ = some (.int .i64 x.1.2) /\ w'.cell? ⟨r7, 3, none⟩ = some (.slice m.A 1 m.c)) W) := fun W ho => by
        have b := ho.get HBR.out (fun x => x rfl)
        exact ⟨by rw [cell_of b]; rfl, by rw [cell_of b]; rfl, by rw [cell_of b]; rfl, by rw [cell_of b]; rfl⟩
       have HUPD : Hid (∀ W, Quiet wc W -> ∀ bn, Rd W (fun k => k = bn) 4 (some ⟨bn, 0, none⟩) 1 (intRow 99) -> Calls Tryz.prog 14 #[ptrV sb, .int .u64 ((r : Int) + 3), .string ⟨#[116]⟩, .agg #[.int .u64 ((j : Int) + 1), .int .i64 x.1.1, .int .i64 x.1.2, .slice m.A 1 m.c], .slice (some ⟨bn, 0, none⟩) 1 1] W
           (fun e w' => e = .returned (.int .i64 0) /\ Only (fun k => k ≠ r7) W w' /\ ∃ H3 left3 l3, BrX w0 w' sb rb r (fun k => wa.heap.size <= k /\ k < wb.heap.size) (stA (LH r ++ [1]) H3 left3 k (snR r)) /\ HoldH k ((r + 1) * k + (j + 1)) H3 left3 l3 /\ (∀ m, r * k + (j + 1) <= m -> m < (r + 1) * k -> l3[m]? = l[m]?) /\ w'.ownsRow 0 45 4 (.slice (some ⟨ba, 0, none⟩) k cv) k (rowsV M))) := fun W hq bn hr => by
        refine (hold_upd (c3 := 1) (Ar := m.A) (nr := 1) (cr := m.c) (HC.out.same hq).law HH2.out hjk hk9.2 (by omega) hx2 hr (by omega) (by unfold maxLen; omega)).mono ?_
        rintro e w' ⟨rfl, H3, left3, l3, ht, hh3, hl3⟩
        have hlb := HLB.out
        have hr7' := HR7.out
        have hbl := lt_of_get HBR.out
        refine ⟨rfl, ht.2.mono (fun k _ e e2 => e.2 (by rw [e2]; exact Or.inr (Or.inr ⟨by omega, by omega⟩))), H3, left3, l3, ((HC.out.same hq).to ht).mono (fun k e => Or.inl e), hh3, fun m a b => ?_, ?_⟩
        ·rw [hl3 m (by omega) b]
         exact HL2.out m (by omega) b
        ·exact owns_kept (owns_kept HOW2.out hq (fun _ _ x => x)) ht.2 (fun k e x => x.2 (Or.inr (Or.inl (HVN.out k e))))
       have hw1 : IntKind.i64.wrap ((j : Int) + 1) = ((j + 1 : Nat) : Int) := by rw [wrap_i64_of _ (by omega) (by omega)]; rfl
       clear hx hx2
       go_wp2_with fail
       refine zH HS24 ((Only.refl _ _).drew) (fun hHeld => ?_)
       simp only [List.size_toArray, List.length_cons, List.length_nil, Nat.reduceAdd]
       have q0 : Quiet wc wc.drew := (Only.refl _ _).drew
       generalize wc.drew = d0 at q0 hHeld ⊢
       refine zT 0 ?_
       refine zT 1 ?_
       refine zT 2 ?_
       refine zR 3 ?_
       intro K hK
       go_simp
       go_at_call 11
       refine (num13 99 _).mono ?_
       rintro e d1 ⟨bn, rfl, hqn, _, _, hrn⟩
       have q1 := q0.trans hqn
       clear hqn
       dsimp only
       refine hK.out _ _ ?_ (fun hHeld => ?_)
       ·exact HS24.out _ (q1.mono (fun _ _ x => x.elim))
       clear hK K
       (try simp only [Act.put, zPA, zPZ, zPS])
       refine zR 4 ?_
       intro K hK
       go_simp
       go_at_call 14
       refine (HUPD.out _ q1 bn hrn).mono ?_
       rintro e d2 ⟨rfl, hp2⟩
       have q2 : Only (fun k => k ≠ r7) _ d2 := (q1.mono (T := fun k => k ≠ r7) (fun _ _ x => x.elim)).trans hp2.1
       dsimp only
       refine hK.out _ _ ?_ (fun hHeld => ?_)
       ·exact HS24.out _ q2
       clear hK K
       (try simp only [Act.put, zPA, zPZ, zPS])
       refine zT 5 ?_
       refine wpAnyH_done (by kernel_rfl) ?_ _
       have H3X := Lib.hid hp2
       clear hHeld q0 q1 q2 hp2 hrn HS24 HUPD
       go_wp2
       go_roundw
       case rel =>
        obtain ⟨_, H3, left3, l3, a, b, c, d⟩ := H3X.out
        exact ⟨j + 1, H3, left3, l3, by omega, by first | rfl | go_num, a, b, c, d⟩
       case measure => simp [intOf]; omega
      ·obtain rfl : k = j := by omega
       have HH3 : Hid (HoldH k ((r + 1 + 1) * k) H2 left2 l2) := by
        have e1 : (r + 1 + 1) * k = (r + 1) * k + k := by rw [Nat.add_mul (r + 1), Nat.one_mul]
        show HoldH k ((r + 1 + 1) * k) H2 left2 l2
        rw [e1]
        exact HH2.out
       have HCO : Hid (Calls Tryz.prog 12 #[ptrV sb, .int .u64 ((r : Int) + 3)] wr (fun e w' => e = .returned (.int .i64 0) /\ BrX w0 w' sb rb r (fun k => wa.heap.size <= k /\ k < wb.heap.size) (stA (LH (r + 1)) H2 left2 k snO))) := by
        refine (hold_commit HX.out.law (by omega)).mono ?_
        rintro e w' ⟨rfl, h⟩
        exact ⟨rfl, HX.out.to h⟩
       clear HH2 HL2 HOWN hjk hj
       go_wp2_with fail
       refine HCO.out.mono ?_
       rintro e wd ⟨rfl, hd⟩
       have HPA := Lib.hid (hold_pass hd.idle HH3.out (by omega) hk9.2 (by omega) (by omega))
       clear hd HCO HX
       have hw1 : IntKind.i64.wrap ((r : Int) + 1) = ((r + 1 : Nat) : Int) := by rw [wrap_i64_of _ (by omega) (by omega)]; rfl
       go_wp2_with fail
       refine HPA.out.mono ?_
       rintro e we ⟨⟨z, rfl⟩, he⟩
       have HE := Lib.hid (he.x.1.mono (K' := fun _ => False) (fun _ x => x.elim))
       clear he HPA
       go_wp2
       go_roundw
       case rel => exact ⟨r + 1, H2, left2, l2, by omega, by first | rfl | go_num, HE.out, HH3.out⟩
       case measure => simp [intOf]; omega
    ·obtain rfl : R = r := by omega
     clear hr hlt
     have HSC := Lib.hid (hold_old HX.out.law HH.out (by omega) hk9.2 hR5.1 (by omega))
     clear hk
     go_wp2_with fail
     refine HSC.out.mono ?_
     rintro e wa ⟨v, M, rfl, hW, hM⟩
     have hRk : k <= (R + 1) * k := Nat.le_mul_of_pos_left k (by omega)
     have hRl : ((l.take k).map tellR).length = k := by
      rw [List.length_map, List.length_take, HH.out.cnt]
      omega
     have hml : M.length = k := by
      have e1 := congrArg List.length hM
      rw [List.length_map, hRl] at e1
      exact e1
     have HB := Lib.hid (HX.out.same hW.quiet)
     have hown := hW.own
     rw [hml] at hown
     have HM := Lib.hid hM
     have HW := Lib.hid hW
     have HRL := Lib.hid hRl
     obtain ⟨Av, cv, rfl, hcv, hmv, _⟩ := own_form hown
     unfold maxLen at hmv
     clear hW hM hml hown HSC HX hRk hRl
     go_wp2_with fail
     go_loopw [121] (fun c wr => ∃ j : Nat, j <= k /\ c = .int .i64 (j : Int) /\ Quiet wa wr) (fun c _ => k - (intOf c).toNat)
     case atStart => exact ⟨0, Nat.zero_le _, rfl, Only.refl _ _⟩
     case round =>
      rename_i wrOld2 _
      obtain ⟨j, hj, rfl, hq⟩ := hrel
      have HQ := Lib.hid hq
      clear hq
      by_cases hjk : j < k
      ·obtain ⟨x, hx⟩ : ∃ x, l[j]? = some x := ⟨_, List.getElem?_eq_getElem (by rw [HH.out.cnt]; have := Nat.le_mul_of_pos_left k (show 0 < R + 1 by omega); omega)⟩
       have hRi : ((l.take k).map tellR)[j]? = some (j + 1, x.1.1, x.1.2, j) := by
        rw [List.getElem?_map, List.getElem?_take_of_lt hjk, hx]
        show some (tellR x) = _
        rw [told_old HH.out (by omega) hR5.1 hjk hx, numOf_row]
       obtain ⟨b, c, b2, c2, hv0, k0, k1, k2, k3, kv, lb⟩ := row_val (HW.out.quietly HQ.out) HM.out HRL.out hRi
       injection hv0 with ev _ ec
       subst ev ec
       have k0' : wr.cell? ⟨b, j * 4, none⟩ = some (.int .u64 ((j : Int) + 1)) := k0
       have lb2 := cell_lt kv
       dsimp only at lb2
       have hqr : Quiet wr (wr.alloc (.cells #[.int .u64 ((j : Int) + 1), .int .i64 x.1.1, .int .i64 x.1.2, .slice (some ⟨b2, 0, none⟩) 1 c2] 45)) := (Only.refl _ _).alloc _
       have hbr := alloc_new wr (.cells #[.int .u64 ((j : Int) + 1), .int .i64 x.1.1, .int .i64 x.1.2, .slice (some ⟨b2, 0, none⟩) 1 c2] 45)
       obtain ⟨r7, hr7⟩ : ∃ r7, wr.heap.size = r7 := ⟨_, rfl⟩
       rw [hr7] at hbr
       have HQ2 := Lib.hid (HQ.out.trans hqr)
       clear hx hRi k0
       go_upto_region 36 with fail
       (try rw [hr7])
       generalize wr.alloc (.cells #[.int .u64 ((j : Int) + 1), .int .i64 x.1.1, .int .i64 x.1.2, .slice (some ⟨b2, 0, none⟩) 1 c2] 45) = wc at *
       have kv2 := hqr.cell kv (fun x => x)
       have b2c : wc.cell? ⟨r7, 2, none⟩ = some (.int .i64 x.1.2) := by rw [cell_of hbr]; rfl
       have b3c : wc.cell? ⟨r7, 3, none⟩ = some (.slice (some ⟨b2, 0, none⟩) 1 c2) := by rw [cell_of hbr]; rfl
       have l7 := lt_of_get hbr
       have l2 := cell_lt kv2
       dsimp only at l2
       have hw1 : IntKind.i64.wrap ((j : Int) + 1) = ((j + 1 : Nat) : Int) := by rw [wrap_i64_of _ (by omega) (by omega)]; rfl
       clear hqr hbr k0' k1 k2 k3 kv lb lb2 hr7
       go_wp2
       go_roundw
       case rel => exact ⟨j + 1, by omega, by first | rfl | go_num, HQ2.out⟩
       case measure => simp [intOf]; omega
      ·obtain rfl : k = j := by omega
       clear hjk hj
       have HXE : Hid (BrX w0 wr sb rb R (fun _ => False) (stA (LH R) H left k snO)) := HB.out.same HQ.out
       have HUS := Lib.hid (st_used HXE.out.law)
       obtain ⟨U, hU⟩ : ∃ U, usedH H = U := ⟨_, rfl⟩
       have hU2 : 2 * k <= U := by
        rw [<- hU, HH.out.inv.used, HH.out.cnt]
        exact Nat.mul_le_mul_right k (by omega)
       rw [hU] at HUS
       clear hU HB HQ HW HM HRL
       go_wp2_with fail
       refine HUS.out.mono ?_
       rintro e wb ⟨v, rfl, hi⟩
       have HXF := Lib.hid (HXE.out.quietly hi.quiet)
       obtain ⟨bu, cu, rfl, hbu⟩ := ints_one' hi
       have hun : wr.heap.size <= bu /\ bu < wb.heap.size := ⟨hi.new bu rfl, cell_lt hbu⟩
       have HBU := Lib.hid hbu
       have HUN := Lib.hid hun
       clear hi hbu hun HUS HXE
       have HCO : Hid (Calls Tryz.prog 12 #[ptrV sb, .int .u64 2] wb (fun e w' => e = .returned (.int .i64 0) /\ BrX w0 w' sb rb R (fun k => k = bu) (stN (R + 2) H left k) /\ w'.cell? ⟨bu, 0, none⟩ = some (.int .i64 (U : Int)))) := by
        have hX2 : BrX w0 wb sb rb R (fun k => k = bu) (stA (LH R) H left k snO) := HXF.out.mono (fun k e => Or.inr (by rw [e]; exact HUN.out))
        refine (hold_over hX2.law).mono ?_
        rintro e w' ⟨rfl, h⟩
        exact ⟨rfl, hX2.to h, h.2.cell HBU.out (fun x => x.2 (Or.inr rfl))⟩
       go_wp2_with fail
       refine HCO.out.mono ?_
       rintro e wc ⟨rfl, hc, hbu⟩
       have HBC := Lib.hid hbu
       have HPA := Lib.hid (n_last HH.out (by omega) hk9.2 hR5.1 (by omega) hc.idle (by omega))
       have HBX : Hid (∃ o, wc.heap[bu]? = some o /\ ∀ W : World, W.heap[bu]? = some o -> W.cell? ⟨bu, 0, none⟩ = some (.int .i64 (U : Int))) := by
        obtain ⟨o, ho⟩ : ∃ o, wc.heap[bu]? = some o := ⟨_, Array.getElem?_eq_getElem (cell_lt hbu)⟩
        refine ⟨o, ho, fun W hW => ?_⟩
        have e1 := hbu
        unfold World.cell? at e1 ⊢
        rw [ho] at e1
        rw [hW]
        exact e1
       clear hc hbu HCO HXF HBU
       go_wp2_with fail
       refine HPA.out.mono ?_
       rintro e wd ⟨⟨z, rfl⟩, H', hd, hA⟩
       have HD := Lib.hid hd.x
       have HAL := Lib.hid hA
       have HPB := Lib.hid (n_again hA (by omega) (by omega) hd.x.1.idle (by omega))
       clear hd hA HPA
       go_wp2_with fail
       refine HPB.out.mono ?_
       rintro e we ⟨⟨z2, rfl⟩, he⟩
       have HE := Lib.hid he.x
       have HUS := Lib.hid (st_used he.x.1.law)
       obtain ⟨o, ho, hoc⟩ := HBX.out
       have hbe : we.cell? ⟨bu, 0, none⟩ = some (.int .i64 (U : Int)) := hoc _ (HE.out.2 bu o rfl (HD.out.2 bu o rfl ho))
       have HBE := Lib.hid hbe
       rw [HAL.out.used] at HUS
       clear he HPB ho hoc hbe HBX
       go_wp2_with fail
       refine HUS.out.mono ?_
       rintro e wf ⟨v, rfl, hi⟩
       obtain ⟨bv, cv2, rfl, hbv⟩ := ints_one' hi
       have hbu := hi.quiet.cell HBE.out (fun x => x)
       have lbu := cell_lt hbu
       have lbv := cell_lt hbv
       dsimp only at lbu lbv
       have HEND : Hid (POST (.returned (.bool true)) wf) := by
        rw [<- HPOST.out]
        exact ⟨rfl, (HQ0.out.trans HE.out.1.law.quiet).trans hi.quiet⟩
       have hw2 : IntKind.i64.wrap (2 * (k : Int)) = 2 * (k : Int) := wrap_i64_of _ (by omega) (by omega)
       clear hi HUS HE HD HAL HBE
       go_wp2
       exact HEND.out
end Go.Proofs.YthipgglplneijaaGreatDoor
namespace Go.Lap
open Go.ChangeShapes Go.WideShapes Go.ChangeAt Go.RowKit Go.Deep
section
variable {H : Type} {enc : TypeId × Value -> H} {P : Program} {W : World} {r : Reach} {base : Nat} {v : Value} {d : DataW H} {p : List MemPlace}
end
end Go.Lap
namespace Go.Lap
open Go.ChangeShapes Go.WideShapes Go.ChangeAt Go.RowKit Go.Deep
section
variable {H : Type} {enc : TypeId × Value -> H} {P : Program} {W : World} {r : Reach} {base : Nat} {v : Value} {d : DataW H} {p : List MemPlace}
end
end Go.Lap
namespace Go.Proofs.YthipgglplneijaaGreatDoor
open Go.RowKit Go.Lap
end Go.Proofs.YthipgglplneijaaGreatDoor
namespace Go.Proofs.YthipgglplneijaaGreatDoor
open Go.ChangeShapes Go.WideShapes Go.ChangeAt Go.RowKit Go.Lap
theorem broomHolds_walk {H : Type} {enc : TypeId × Value -> H} {r : Reach} {base : Nat} {d0 d1 : DataW H} {p0 p1 : List MemPlace} (v0 v1 : Value) (W : World)
  (o0 : Value.okWide Tryz.prog W r base 5 v0) (h0 : DataW.Trod enc Tryz.prog W 0 (fun _ => true) true 5 v0 d0 p0)
  (o1 : Value.okWide Tryz.prog W r base 5 v1) (h1 : DataW.Trod enc Tryz.prog W 0 (fun _ => true) true 5 v1 d1 p1) :
  Calls Tryz.prog 3 #[v0, v1] W fun e w' => e = .returned (.bool true) /\ Below W.heap.size W w' := by
 obtain ⟨x, rfl, _, _, wx⟩ := open_int Tryz.underlying5 o0 h0
 have hx := bounds_u8 wx
 obtain ⟨n, rfl⟩ : ∃ n : Nat, x = n := ⟨x.toNat, by omega⟩
 obtain ⟨y, rfl, _, _, wy⟩ := open_int Tryz.underlying5 o1 h1
 have hy := bounds_u8 wy
 obtain ⟨m, rfl⟩ : ∃ m : Nat, y = m := ⟨y.toNat, by omega⟩
 refine (holds_walk n m (by omega) (by omega) W).mono fun e W' ⟨he, hq⟩ => ⟨he, hq.os, hq.tape, hq.output, hq.size, fun k hk => hq.block k hk (fun x => x)⟩
end Go.Proofs.YthipgglplneijaaGreatDoor
