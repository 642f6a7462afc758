/- The broom's other steps: the first one, at an index, the release. The broom's Pass, over a store of one table. BroomHolds' plain part: versions round by round. The laws' own small functions (law 13): num, one. store.CreateIndex of a store of one table that has no index. StoreEntries: CreateIndex, Used and Entries in the law's world. The broom laws' awake: the document's example. BroomHolds: what the law's store holds, and what each call leaves. BroomHolds: the broom beside rows that the law keeps; the last passes. book.DropTable, of any book: its walk. store.DropTable. No condition. -/
import Derived.Test.YtnidjfjkodingaaGreatDoorBd5
import Derived.ProofKit
import Derived.OpenShut
import Derived.Deep.Slices
import Derived.Deep.Fields
import Derived.ChangeSame
import Derived.Carry
import Derived.Laws.Rows
set_option linter.unusedVariables false
set_option linter.unusedSimpArgs false
set_option maxRecDepth 100000
set_option maxHeartbeats 8000000
namespace Go.Lap
section
open Go.ChangeShapes Go.WideShapes Go.ChangeAt Go.RowKit Go.Deep
section
variable {H : Type} {enc : TypeId × Value -> H} {P : Program} {W : World} {r : Reach} {base : Nat} {v : Value} {d : DataW H} {p : List MemPlace}
end
end
section
open Go.ChangeShapes Go.WideShapes Go.ChangeAt Go.RowKit Go.Deep
section
variable {H : Type} {enc : TypeId × Value -> H} {P : Program} {W : World} {r : Reach} {base : Nat} {v : Value} {d : DataW H} {p : List MemPlace}
end
end
end Go.Lap
namespace Go.Proofs.YtnidjfjkodingaaGreatDoor
open Go.RowKit Go.Lap
theorem ZeO {w0 : Z01} {w : World} {sb rb ps hz N : Nat} {s : St} {t : TE} (h : Z1o w0 w sb rb ps s) (hT : s.T = [t]) (hI : s.I.length <= 1000) (hh : Z19 s hz) (hlv : Z2v s hz) (hL : s.L.length < 1000000000) (hN : ∀ x y, s.sn x = some y -> x <= N) (hN2 : N <= 2000000) :
  Calls Tryz.prog 51 #[ptrV rb] w (fun e w' => Z1e 0 e /\ Z1z w0 w' sb rb ps s t.id 0 0 0 false [] []) := by
 obtain ⟨vj, hl, hb, hr⟩ := h
 obtain ⟨Z8, Z6⟩ : ∃ Z8 : Ending -> World -> Prop, (fun e w' => Z1e 0 e /\ Z1z w0 w' sb rb ps s t.id 0 0 0 false [] []) = Z8 := ⟨_, rfl⟩
 rw [Z6]
 have Zb := zh Z6
 have hq : Quiet w (w.alloc (.cells #[.int .i64 0, .int .u64 0, .int .u64 0, .int .i64 0] 126)) := (Z0.refl _ _).alloc _
 have h2 := Z5 w (.cells #[.int .i64 0, .int .u64 0, .int .u64 0, .int .i64 0] 126)
 have hbl := Z2 hb.box
 obtain ⟨r2, hr2⟩ : ∃ r2, w.heap.size = r2 := ⟨_, rfl⟩
 rw [hr2] at h2 hbl
 have hrn : w0.w.heap.size <= r2 := by have := hl.quiet.size; omega
 have hl1 : Zw w0 (w.alloc (.cells #[.int .i64 0, .int .u64 0, .int .u64 0, .int .i64 0] 126)) sb (fun k => k = rb ∨ k = r2) s := (hl.quietly hq).mono (fun k e => by
   rcases e with e | e
   · exact Or.inl e
   · exact Or.inr ⟨by omega, by have := Z2 h2; omega⟩)
 have hb1 : Z4a (w.alloc (.cells #[.int .i64 0, .int .u64 0, .int .u64 0, .int .i64 0] 126)) rb sb false vj ps := ⟨hq.get hb.box (fun x => x)⟩
 have HBE := zh (ZcT hl1 hb1 ⟨hr, hrn, by omega⟩ h2 hT hI hh hlv hL hN hN2)
 have HRN := zh hrn
 obtain ⟨b0, b1⟩ := zC2 hb1.box
 have lb := Z2 hb1.box
 clear Z6 hl hb hr hT hI hh hlv hL hN hN2 hq h2 hl1 hb1 hrn
 go_enter Tryz.func51, Tryz.ntmps51
 go_wp2_with fail
 (try rw [hr2])
 refine HBE.out.mono ?_
 rintro e w2 ⟨rfl, ⟨jr, jb, cj, vi, vd, hj, hq⟩, h2⟩
 obtain ⟨e0, e1, e2, e3⟩ := zC4 h2
 have ef := fun o => Z7 h2 o
 have l2 := Z2 h2
 have HX := zh (Z0g h2 (.int .i64 0) (.int .u64 0) (.int .u64 0) (.int .i64 0))
 have Zc : Hid (Z8 (.returned (.agg #[.int .i64 0, .int .u64 0, .int .u64 0, .int .i64 0])) (fourSet w2 r2 (.int .i64 0) (.int .u64 0) (.int .u64 0) (.int .i64 0))) := by
  rw [<- Zb.out]
  exact ⟨⟨_, _, _, rfl⟩, jr, jb, cj, vi, vd, hj.other hq h2 (Z02 _ _ _ _ _ _) HRN.out⟩
 unfold fourSet at HX Zc
 clear h2 hj hq HBE b0 b1 lb
 go_wp2
 exact bodyPost_ret (Z00 Tryz.results51 _ _ r2 _ _ (0, 0) _ (by rfl) HX.out Tryz.underlying126 rfl Z1k) (by rfl) Zc.out
section
variable {w0 : Z01} {w w' : World} {sb rb ps tid n k i n' k' i' q : Nat} {s s' : St} {known known' : Bool} {ids ids' : List Nat} {D : List (Int × Int)} {jr jb cj : Nat} {vi vi' vd : Value}
theorem Z0i.turnedI (h : Z0i w0 w sb rb ps s tid n k i known ids D jr jb cj vi vd) (hl : Zw w0 w sb (fun k => BrK rb jr jb vi vd k ∨ k = q) s) (hq : w0.w.heap.size <= q) (ho : Z0 (fun k => k = jb) w w') (hj : ZeV w' jb tid n' k' i' known' vi' vd) (hi : w'.ownsRow 0 34 1 vi' ids'.length (ZB ids')) (hloc : ∀ k, vi'.ownBlock = some k -> vi.ownBlock = some k ∨ w.heap.size <= k) :
  Z0i w0 w' sb rb ps s tid n' k' i' known' ids' D jr jb cj vi' vd /\ Zw w0 w' sb (fun k => BrK rb jr jb vi' vd k ∨ k = q) s := by
 obtain ⟨a1, a2, a3, a4, a5⟩ := h.apart
 obtain ⟨cs, hr⟩ := h.row
 have hz := h.law.quiet.size
 have hQ : Zw w0 w' sb (fun k => BrK rb jr jb vi' vd k ∨ k = q) s := by
  refine hl.turnTo (ho.mono (fun k _ e => Or.inl (Or.inr (Or.inr (Or.inl e))))) (fun k e => ?_) (fun k e => ?_)
  ·rcases e with e | e
   ·exact h.new k e
   ·omega
  ·rcases e with (e | e | e | e | e) | e
   ·exact Or.inl (Or.inl (Or.inl e))
   ·exact Or.inl (Or.inl (Or.inr (Or.inl e)))
   ·exact Or.inl (Or.inl (Or.inr (Or.inr (Or.inl e))))
   ·rcases hloc k e with x | x
    ·exact Or.inl (Or.inl (Or.inr (Or.inr (Or.inr (Or.inl x)))))
    ·obtain ⟨c, hh⟩ := Zj hi e
     exact Or.inr ⟨x, Z2 hh⟩
   ·exact Or.inl (Or.inl (Or.inr (Or.inr (Or.inr (Or.inr e)))))
   ·exact Or.inl (Or.inr e)
 refine ⟨⟨hQ.mono (fun k e => Or.inl e), ⟨ho.get h.br.box a2⟩, ⟨cs, ho.get hr a3⟩, hj, hi, Z4 h.dead ho (fun k e x => (a4 k e).2.2.1 x), fun k e => ?_, h.cap⟩, hQ⟩
 rcases e with e | e | e | e | e
 ·exact h.new k (Or.inl e)
 ·exact h.new k (Or.inr (Or.inl e))
 ·exact h.new k (Or.inr (Or.inr (Or.inl e)))
 ·rcases hloc k e with x | x
  ·exact h.new k (Or.inr (Or.inr (Or.inr (Or.inl x))))
  ·omega
 ·exact h.new k (Or.inr (Or.inr (Or.inr (Or.inr e))))
theorem Z0i.lawTo (h : Z0i w0 w sb rb ps s tid n k i known ids D jr jb cj vi vd) (ht : ToB w0 w sb (fun k => BrK rb jr jb vi vd k ∨ k = q) s' w') : Z0i w0 w' sb rb ps s' tid n k i known ids D jr jb cj vi vd := by
 obtain ⟨cs, hr⟩ := h.row
 exact ⟨ht.st.mono (fun _ e => Or.inl e), ⟨ht.2.get h.br.box (fun x => x.2 (Or.inl (Or.inl rfl)))⟩, ⟨cs, ht.2.get hr (fun x => x.2 (Or.inl (Or.inr (Or.inl rfl))))⟩, ⟨ht.2.get h.job.box (fun x => x.2 (Or.inl (Or.inr (Or.inr (Or.inl rfl)))))⟩, Z4 h.idx ht.2 (fun k e x => x.2 (Or.inl (Or.inr (Or.inr (Or.inr (Or.inl e)))))), Z4 h.dead ht.2 (fun k e x => x.2 (Or.inl (Or.inr (Or.inr (Or.inr (Or.inr e)))))), h.new, h.cap⟩
end
theorem ZeP {w0 : Z01} {w : World} {sb id : Nat} {K : Nat -> Prop} {s : St} {es : List Ent} {ps : List (Int × Int)} {v : Value} (h : Zw w0 w sb K s) (hid : U64 id) (hts : s.ts id = some es) (hr : w.ownsRow 0 48 2 v ps.length (ZM ps)) (hwp : ∀ p ∈ ps, Wf p) (hwe : ∀ e ∈ es, Wf (e.pg, e.sl)) (hm : ps.length <= 10000) (hn : es.length <= 10000) :
  Calls Tryz.prog 101 #[ptrV sb, .int .u64 (id : Int), v] w (fun e w' => (∃ z : Int, e = .returned (.int .i64 z)) /\ ToB w0 w sb K { s with ts := upd s.ts id (some (Z1w ps es)) } w') := by
 obtain ⟨A, c, rfl, hc, hcm, hrd⟩ := Z9 hr
 have hB := h
 obtain ⟨⟨o, h1, h2, h3, h4⟩, _⟩ := h
 refine (ZbQ h1 hid hts hrd rfl hwp hwe hm hn).mono ?_
 rintro e w' ⟨rfl, hst⟩
 exact ⟨⟨_, rfl⟩, hB.call (Z13 h1 h2 h3 h4 hst)⟩
theorem Z7s {w0 : Z01} {w : World} {sb id hz N : Nat} {K : Nat -> Prop} {s : St} {H : List (List (Option Tup))} {ps : List (Int × Int)} {v : Value} (h : Zw w0 w sb K s) (hid : U64 id) (hH : s.hs id = some H) (hfit : ∀ T ∈ H, Z0X T) (hnum : Z2m H) (hr : w.ownsRow 0 48 2 v ps.length (ZM ps)) (hv : ∀ k, v.ownBlock = some k -> K k) (hnd : ps.Nodup) (hg : ∀ a ∈ ps, ∃ v, ZR H a.1 a.2 = some v)
  (hh : Z19 s hz) (hL : s.L.length < 1000000000) (hN : ∀ x y, s.sn x = some y -> x <= N) (hN2 : N <= 2000000) :
  Calls Tryz.prog 102 #[ptrV sb, .int .u64 (id : Int), v] w (fun e w' => (∃ z : Int, e = .returned (.int .i64 z)) /\ ToB w0 w sb K { s with hs := upd s.hs id (some (Z0H s.L hz H ps)) } w') := by
 obtain ⟨A, c, rfl, hc, hcm, hrd⟩ := Z9 hr
 have hB := h
 obtain ⟨⟨o, h1, h2, h3, h4⟩, _⟩ := h
 refine (ZaK h1 hid hH hfit hnum hrd (fun k e => (h4 k (Or.inl (hv k e))).1) rfl hc hcm hnd hg hh hL hN hN2).mono ?_
 rintro e w' ⟨⟨z, rfl⟩, hst⟩
 exact ⟨⟨z, rfl⟩, hB.call (Z13 h1 h2 h3 h4 hst)⟩
theorem ZcV {w0 : Z01} {w : World} {sb rb ps tid n : Nat} {s : St} {t : TE} {x : IE} {es : List Ent} {D : List (Int × Int)} (h : Z1z w0 w sb rb ps s tid n n 0 true [] D) (hk2 : n <= 256) (hT : s.T = [t]) (hI : s.I.length <= 1000) (htid : t.id = tid) (hkI : ZQ s.L t.id s.I = [x]) (hxt : x.table = tid) (hid : U64 x.id) (hts : s.ts x.id = some es) (hwp : ∀ p ∈ D, Wf p) (hwe : ∀ e ∈ es, Wf (e.pg, e.sl)) (hm : D.length <= 10000) (hn : es.length <= 10000) :
  Calls Tryz.prog 51 #[ptrV rb] w (fun e w' => Z1e 2 e /\ Z1z w0 w' sb rb ps { s with ts := upd s.ts x.id (some (Z1w D es)) } tid n n 1 true [x.id] D) := by
 obtain ⟨jr, jb, cj, vi, vd, h⟩ := h
 obtain ⟨Z8, Z6⟩ : ∃ Z8 : Ending -> World -> Prop, (fun e w' => Z1e 2 e /\ Z1z w0 w' sb rb ps { s with ts := upd s.ts x.id (some (Z1w D es)) } tid n n 1 true [x.id] D) = Z8 := ⟨_, rfl⟩
 have HXT := zh hxt
 have HBK0 : Hid (∀ W, Zw w0 W sb (fun _ => False) s -> Calls Tryz.prog 23 #[ptrV sb] W (Z2Z W t [x])) := fun W hl => by rw [<- hkI]; exact Z7V hl hT hI
 have HUN0 : Hid (∀ W K (v : Value), Zw w0 W sb K s -> W.ownsRow 0 48 2 v D.length (ZM D) -> Calls Tryz.prog 101 #[ptrV sb, .int .u64 (x.id : Int), v] W (fun e w' => (∃ z : Int, e = .returned (.int .i64 z)) /\ ToB w0 W sb K { s with ts := upd s.ts x.id (some (Z1w D es)) } w')) := fun W K v hl hr => ZeP hl hid hts hr hwp hwe hm hn
 rw [Z6]
 have Zb := zh Z6
 have hq : Quiet w (w.alloc (.cells #[.int .i64 0, .int .u64 0, .int .u64 0, .int .i64 0] 126)) := (Z0.refl _ _).alloc _
 have h2 := Z5 w (.cells #[.int .i64 0, .int .u64 0, .int .u64 0, .int .i64 0] 126)
 obtain ⟨r2, hr2⟩ : ∃ r2, w.heap.size = r2 := ⟨_, rfl⟩
 have hrn : w0.w.heap.size <= r2 := by have := h.law.quiet.size; omega
 rw [hr2] at h2
 have HR2 := zh hr2
 have HRN := zh hrn
 have HL1 : Hid (Zw w0 (w.alloc (.cells #[.int .i64 0, .int .u64 0, .int .u64 0, .int .i64 0] 126)) sb (fun k => BrK rb jr jb vi vd k ∨ k = r2) s) := (h.law.quietly hq).mono (fun k e => by
   rcases e with e | e
   · exact Or.inl e
   · exact Or.inr ⟨by omega, by have := Z2 h2; omega⟩)
 have HJ := zh h
 have hcj := h.cap
 unfold maxLen at hcj
 clear h Z6 hrn hxt hT hI htid hkI hid hts hwp hwe hm hn
 go_enter Tryz.func51, Tryz.ntmps51
 go_upto_block 0 with (fail)
 (try rw [hr2])
 generalize w.alloc (.cells #[.int .i64 0, .int .u64 0, .int .u64 0, .int .i64 0] 126) = w1 at *
 have HQ1 := zh hq
 have H21 := zh h2
 have h1 := HJ.out.quietly hq
 obtain ⟨b0, b1, b2⟩ := zC3 h1.br.box
 obtain ⟨cs, hrow⟩ := h1.row
 have j0 : w1.cell? ⟨jr, 0, none⟩ = some (ptrV jb) := by rw [Z1 hrow]; rfl
 have k0 := Z1 h1.job.box 0
 have k3 := Z1 h1.job.box 3
 simp only [zGA, zGS, zGZ] at k0 k3
 have lb := Z2 h1.br.box
 have lr := Z2 hrow
 have ljb := Z2 h1.job.box
 have HJ1 := zh h1
 clear hq h2 hr2 hrow h1
 go_upto_region 12 with fail
 have HS12 : Hid (∀ W, Quiet w1 W -> (fun w' => w'.cell? ⟨jb, 4, none⟩ = some (.int .i64 (n : Int)) /\ w'.cell? ⟨jb, 1, none⟩ = some (.int .i64 (n : Int))) W) := fun W hq => by
  have b := (HJ1.out.quietly hq).job.box
  exact ⟨by rw [Z1 b]; rfl, by rw [Z1 b]; rfl⟩
 refine zH HS12 ((Z0.refl _ _).drew) (fun Z3 => ?_)
 have q0 : Quiet w1 w1.drew := (Z0.refl _ _).drew
 generalize w1.drew = d0 at q0 Z3 ⊢
 refine zT 0 ?_
 refine zT 1 ?_
 refine zT 2 ?_
 refine zT 3 ?_
 refine zT 4 ?_
 refine zT 5 ?_
 refine zT 6 ?_
 refine zT 7 ?_
 refine zT 8 ?_
 refine zD ?_
 clear Z3 b0 b1 b2 j0 k0 k3 lb lr ljb HS12
 have HQ12 : Hid (Quiet w1 d0) := q0
 have hj := HJ1.out.quietly q0
 have c5 : d0.cell? ⟨jb, 5, none⟩ = some (.int .i64 0) := by rw [Z1 hj.job.box]; rfl
 have b0 := Z1 hj.br.box 0
 simp only [zGA, zGS, zGZ] at b0
 have lb := Z2 hj.br.box
 have lj := Z2 hj.job.box
 clear hj
 have HBK : Hid (∀ W, Quiet w1 W -> Calls Tryz.prog 23 #[ptrV sb] W (Z2Z W t [x])) := fun W hq => HBK0.out W ((HL1.out.same hq).mono (fun _ e => e.elim))
 go_wp2_with fail
 refine (HBK.out _ q0).mono ?_
 rintro e d1 ⟨b, cap, A, c, v, rfl, hO, hX⟩
 have q1 : Quiet w1 d1 := q0.trans hO.quiet
 have HOF : Hid (∀ W, Quiet d1 W -> Calls Tryz.prog 100 #[.int .u64 (tid : Int), v] W (Z4H W [x.id])) := fun W hq => by
  have e1 := ZiX (hX.quietly hq)
  rw [HXT.out] at e1
  exact e1
 have hj := HJ1.out.quietly q1
 have k0 := Z1 hj.job.box 0
 simp only [zGA, zGS, zGZ] at k0
 have HLD : Hid (Zw w0 d1 sb (fun k => BrK rb jr jb vi vd k ∨ k = r2) s) := HL1.out.same q1
 have HJD := zh hj
 have H2D := zh (q1.get H21.out (fun x => x))
 clear hj hO hX b0 c5 lb lj
 have lj := Z2 HJD.out.job.box
 go_wp2_with fail
 refine (HOF.out _ (Z0.refl _ _)).mono ?_
 rintro e d2 ⟨v2, rfl, hq2, hn2, hi2⟩
 have hi3 : World.ownsRow d2 0 34 1 v2 1 [.int .u64 (x.id : Int)] := hi2
 rcases ZJ hi3 with ⟨_, e⟩ | ⟨g, c2, rfl, hc1, hc2⟩
 ·exact absurd e (by decide)
 have hg0 := hi3.cells (by rfl) 0 (.int .u64 (x.id : Int)) rfl
 rw [Zq, Nat.zero_add] at hg0
 have hgn := hn2 g rfl
 clear hi3
 have hjd := HJD.out.quietly hq2
 have k2 := Z1 hjd.job.box 2
 have kf := fun o => Z7 hjd.job.box o
 simp only [zGA, zGS, zGZ] at k2
 have hb4 := (Z1D hjd.job.box (.slice (some ⟨g, 0, none⟩) 1 c2)).2.2.2.2.1
 have ho4 : Z0 (fun x => x = jb) d2 (d2.setCell ⟨jb, 2, none⟩ (.slice (some ⟨g, 0, none⟩) 1 c2)) := (Z0.refl (fun x => x = jb) d2).setCell (p := ⟨jb, 2, none⟩) (fun _ => rfl) _
 have lj2 := Z2 hjd.job.box
 have HN2 := zh hn2
 have HI2 := zh hi2
 have HQ2 := zh hq2
 clear hjd lj k0 hn2 hi2 hq2
 go_upto_region 20 with fail
 generalize d2.setCell ⟨jb, 2, none⟩ (.slice (some ⟨g, 0, none⟩) 1 c2) = w4 at *
 clear k2 kf lj2
 have hgj : ¬ g = jb := fun e => by have := Z2 HJD.out.job.box; omega
 have HS20 : Hid (∀ W, Quiet w4 W -> (fun w' => w'.cell? ⟨jb, 5, none⟩ = some (.int .i64 0) /\ w'.cell? ⟨jb, 2, none⟩ = some (.slice (some ⟨g, 0, none⟩) 1 c2) /\ w'.cell? ⟨g, 0, none⟩ = some (.int .u64 (x.id : Int))) W) := fun W hq => by
  have b := hq.get hb4 (fun x => x)
  exact ⟨by rw [Z1 b]; rfl, by rw [Z1 b]; rfl, hq.cell (ho4.cell hg0 hgj) (fun x => x)⟩
 refine zH HS20 ((Z0.refl _ _).drew) (fun Z3 => ?_)
 have q4 : Quiet w4 w4.drew := (Z0.refl _ _).drew
 generalize w4.drew = d4 at q4 Z3 ⊢
 refine zT 0 ?_
 refine zT 1 ?_
 refine zT 2 ?_
 refine zT 3 ?_
 refine zT 4 ?_
 refine zT 5 ?_
 refine zT 6 ?_
 refine zT 7 ?_
 refine zT 8 ?_
 refine zT 9 ?_
 refine zD ?_
 clear Z3
 go_wp2_with fail
 refine zH HS20 q4.drew (fun Z3 => ?_)
 have q5 : Quiet w4 d4.drew := q4.drew
 generalize d4.drew = d5 at q5 Z3 ⊢
 refine zT 0 ?_
 refine zT 1 ?_
 refine zT 2 ?_
 refine zT 3 ?_
 refine zT 4 ?_
 refine zT 5 ?_
 refine zT 6 ?_
 refine zT 7 ?_
 refine zT 8 ?_
 refine zT 9 ?_
 refine zT 10 ?_
 refine zD ?_
 clear Z3
 have hb5 := q5.get hb4 (fun x => x)
 have c5 : d5.cell? ⟨jb, 5, none⟩ = some (.int .i64 0) := by rw [Z1 hb5]; rfl
 have kf := fun o => Z7 hb5 o
 have lj := Z2 hb5
 have hb6 := (Z1D hb5 (.int .i64 1)).2.2.2.2.2
 have ho6 : Z0 (fun x => x = jb) d5 (d5.setCell ⟨jb, 5, none⟩ (.int .i64 1)) := (Z0.refl (fun x => x = jb) d5).setCell (p := ⟨jb, 5, none⟩) (fun _ => rfl) _
 go_upto_region 23 with fail
 generalize d5.setCell ⟨jb, 5, none⟩ (.int .i64 1) = w6 at *
 clear c5 kf lj
 have how : Z0 (fun k => k = jb) d1 w6 := (((HQ2.out.mono (fun _ _ x => x.elim)).trans ho4).trans (q5.mono (fun _ _ x => x.elim))).trans ho6
 have hz2 := HQ2.out.size
 have HJ6 := zh (HJD.out.turnedI (n' := n) (k' := n) (i' := 1) (known' := true) (ids' := [x.id]) HLD.out HRN.out how ⟨hb6⟩ (Z4 (Z4 (Z4 HI2.out ho4 (fun k e e2 => hgj ((Option.some.inj e).trans e2))) q5 (fun _ _ x => x)) ho6 (fun k e e2 => hgj ((Option.some.inj e).trans e2))) (fun k e => Or.inr (HN2.out k e)))
 have H26 := zh (how.get H2D.out (fun e => by have := HR2.out; have := Z2 HJ.out.job.box; omega))
 clear how hz2 hb4 hb5 hb6 ho4 ho6 q4 q5 hg0 hgn hgj HS20
 have HS23 : Hid (∀ W s', Z0i w0 W sb rb ps s' tid n n 1 true [x.id] D jr jb cj (.slice (some ⟨g, 0, none⟩) 1 c2) vd -> (fun w' => w'.cell? ⟨jb, 0, none⟩ = some (.int .u64 (tid : Int)) /\ w'.cell? ⟨rb, 0, none⟩ = some (ptrV sb) /\ w'.cell? ⟨jb, 6, none⟩ = some vd) W) := fun W s' hj => ⟨by rw [Z1 hj.job.box]; rfl, by rw [Z1 hj.br.box]; rfl, by rw [Z1 hj.job.box]; rfl⟩
 have HUN : Hid (∀ W, Quiet w6 W -> Calls Tryz.prog 101 #[ptrV sb, .int .u64 (x.id : Int), vd] W (fun e w' => (∃ z : Int, e = .returned (.int .i64 z)) /\ ToB w0 W sb (fun k => BrK rb jr jb (.slice (some ⟨g, 0, none⟩) 1 c2) vd k ∨ k = r2) { s with ts := upd s.ts x.id (some (Z1w D es)) } w')) := fun W hq => HUN0.out W _ vd (HJ6.out.2.same hq) (Z4 HJ6.out.1.dead hq (fun _ _ x => x))
 refine wp_region_held_drew (S := (fun w' => w'.cell? ⟨jb, 0, none⟩ = some (.int .u64 (tid : Int)) /\ w'.cell? ⟨rb, 0, none⟩ = some (ptrV sb) /\ w'.cell? ⟨jb, 6, none⟩ = some vd)) (by kernel_rfl) (HS23.out _ _ (HJ6.out.1.quietly (Z0.refl _ _).drew)) (fun Z3 => ?_)
 simp only [List.size_toArray, List.length_cons, List.length_nil, Nat.reduceAdd]
 have q7 : Quiet w6 w6.drew := (Z0.refl _ _).drew
 generalize w6.drew = d7 at q7 Z3 ⊢
 refine zT 0 ?_
 refine zT 1 ?_
 refine zT 2 ?_
 refine zT 3 ?_
 refine zT 4 ?_
 refine zT 5 ?_
 refine zT 6 ?_
 refine zT 7 ?_
 refine zT 8 ?_
 refine zT 9 ?_
 refine zT 10 ?_
 refine zT 11 ?_
 refine zT 12 ?_
 refine zT 13 ?_
 refine zR 14 ?_
 intro K hK
 go_simp
 go_at_call 101
 refine (HUN.out _ q7).mono ?_
 rintro e d8 ⟨⟨z, rfl⟩, hl8⟩
 have hj8 := (HJ6.out.1.quietly q7).lawTo hl8
 dsimp only
 refine hK.out _ _ ?_ (fun Z3 => ?_)
 ·exact HS23.out _ _ hj8
 clear hK K
 (try simp only [Act.put, zPA, zPZ, zPS])
 refine zT 15 ?_
 refine zR 16 ?_
 intro K hK
 have h28 := hl8.2.get (q7.get H26.out (fun x => x)) (fun x => x.2 (Or.inr rfl))
 obtain ⟨e0, e1, e2, e3⟩ := zC4 h28
 have ef := fun o => Z7 h28 o
 have l2 := Z2 h28
 go_simp
 refine hK.out _ _ ?_ (fun Z3 => ?_)
 ·exact HS23.out _ _ (hj8.other hl8.st h28 (Z02 d8 r2 (.int .i64 2) (.int .u64 (tid : Int)) (.int .u64 (x.id : Int)) (.int .i64 z)) HRN.out)
 clear hK K
 (try simp only [Act.put, zPA, zPZ, zPS])
 refine zD ?_
 have HX := zh (Z0g h28 (.int .i64 2) (.int .u64 (tid : Int)) (.int .u64 (x.id : Int)) (.int .i64 z))
 have Zc : Hid (Z8 (.returned (.agg #[(.int .i64 2), (.int .u64 (tid : Int)), (.int .u64 (x.id : Int)), (.int .i64 z)])) (fourSet d8 r2 (.int .i64 2) (.int .u64 (tid : Int)) (.int .u64 (x.id : Int)) (.int .i64 z))) := by
  rw [<- Zb.out]
  exact ⟨⟨_, _, _, rfl⟩, jr, jb, cj, _, vd, hj8.other hl8.st h28 (Z02 d8 r2 (.int .i64 2) (.int .u64 (tid : Int)) (.int .u64 (x.id : Int)) (.int .i64 z)) HRN.out⟩
 unfold fourSet at HX Zc
 clear Z3 h28 hj8 hl8 HUN HS23 e0 e1 e2 e3 ef l2
 go_wp2 <;> exact bodyPost_ret (Z00 Tryz.results51 _ _ r2 _ _ (0, 0) _ (by rfl) HX.out Tryz.underlying126 rfl Z1k) (by rfl) Zc.out
theorem ZiL {w0 : Z01} {w : World} {sb rb ps tid n hz N : Nat} {s : St} {t : TE} {H : List (List (Option Tup))} {D : List (Int × Int)} (h : Z1z w0 w sb rb ps s tid n n 0 true [] D) (hk2 : n <= 256) (hT : s.T = [t]) (hI : s.I.length <= 1000) (hkI : ZQ s.L t.id s.I = []) (hid : U64 tid) (hH : s.hs tid = some H) (hfit : ∀ T ∈ H, Z0X T) (hnum : Z2m H) (hnd : D.Nodup) (hg : ∀ a ∈ D, ∃ v, ZR H a.1 a.2 = some v) (hh : Z19 s hz) (hL : s.L.length < 1000000000) (hN : ∀ x y, s.sn x = some y -> x <= N) (hN2 : N <= 2000000) :
  Calls Tryz.prog 51 #[ptrV rb] w (fun e w' => Z1e 3 e /\ Z3p w0 w' sb rb ps { s with hs := upd s.hs tid (some (Z0H s.L hz H D)) }) := by
 obtain ⟨jr, jb, cj, vi, vd, h⟩ := h
 obtain ⟨Z8, Z6⟩ : ∃ Z8 : Ending -> World -> Prop, (fun e w' => Z1e 3 e /\ Z3p w0 w' sb rb ps { s with hs := upd s.hs tid (some (Z0H s.L hz H D)) }) = Z8 := ⟨_, rfl⟩
 have HBK0 : Hid (∀ W, Zw w0 W sb (fun _ => False) s -> Calls Tryz.prog 23 #[ptrV sb] W (Z2Z W t [])) := fun W hl => by rw [<- hkI]; exact Z7V hl hT hI
 have HRL0 : Hid (∀ W K (v : Value), Zw w0 W sb K s -> W.ownsRow 0 48 2 v D.length (ZM D) -> (∀ k, v.ownBlock = some k -> K k) -> Calls Tryz.prog 102 #[ptrV sb, .int .u64 (tid : Int), v] W (fun e w' => (∃ z : Int, e = .returned (.int .i64 z)) /\ ToB w0 W sb K { s with hs := upd s.hs tid (some (Z0H s.L hz H D)) } w')) := fun W K v hl hr hv => Z7s hl hid hH hfit hnum hr hv hnd hg hh hL hN hN2
 rw [Z6]
 have Zb := zh Z6
 have hq : Quiet w (w.alloc (.cells #[.int .i64 0, .int .u64 0, .int .u64 0, .int .i64 0] 126)) := (Z0.refl _ _).alloc _
 have h2 := Z5 w (.cells #[.int .i64 0, .int .u64 0, .int .u64 0, .int .i64 0] 126)
 obtain ⟨r2, hr2⟩ : ∃ r2, w.heap.size = r2 := ⟨_, rfl⟩
 have hrn : w0.w.heap.size <= r2 := by have := h.law.quiet.size; omega
 rw [hr2] at h2
 have HR2 := zh hr2
 have HRN := zh hrn
 have HL1 : Hid (Zw w0 (w.alloc (.cells #[.int .i64 0, .int .u64 0, .int .u64 0, .int .i64 0] 126)) sb (fun k => BrK rb jr jb vi vd k ∨ k = r2) s) := (h.law.quietly hq).mono (fun k e => by
   rcases e with e | e
   · exact Or.inl e
   · exact Or.inr ⟨by omega, by have := Z2 h2; omega⟩)
 have HJ := zh h
 have hcj := h.cap
 unfold maxLen at hcj
 clear h Z6 hrn hT hI hkI hid hH hfit hnum hnd hg hh hL hN hN2
 go_enter Tryz.func51, Tryz.ntmps51
 go_upto_block 0 with (fail)
 (try rw [hr2])
 generalize w.alloc (.cells #[.int .i64 0, .int .u64 0, .int .u64 0, .int .i64 0] 126) = w1 at *
 have HQ1 := zh hq
 have H21 := zh h2
 have h1 := HJ.out.quietly hq
 obtain ⟨b0, b1, b2⟩ := zC3 h1.br.box
 obtain ⟨cs, hrow⟩ := h1.row
 have j0 : w1.cell? ⟨jr, 0, none⟩ = some (ptrV jb) := by rw [Z1 hrow]; rfl
 have k0 := Z1 h1.job.box 0
 have k3 := Z1 h1.job.box 3
 simp only [zGA, zGS, zGZ] at k0 k3
 have lb := Z2 h1.br.box
 have lr := Z2 hrow
 have ljb := Z2 h1.job.box
 have HJ1 := zh h1
 clear hq h2 hr2 hrow h1
 go_upto_region 12 with fail
 have HS12 : Hid (∀ W, Quiet w1 W -> (fun w' => w'.cell? ⟨jb, 4, none⟩ = some (.int .i64 (n : Int)) /\ w'.cell? ⟨jb, 1, none⟩ = some (.int .i64 (n : Int))) W) := fun W hq => by
  have b := (HJ1.out.quietly hq).job.box
  exact ⟨by rw [Z1 b]; rfl, by rw [Z1 b]; rfl⟩
 refine zH HS12 ((Z0.refl _ _).drew) (fun Z3 => ?_)
 have q0 : Quiet w1 w1.drew := (Z0.refl _ _).drew
 generalize w1.drew = d0 at q0 Z3 ⊢
 refine zT 0 ?_
 refine zT 1 ?_
 refine zT 2 ?_
 refine zT 3 ?_
 refine zT 4 ?_
 refine zT 5 ?_
 refine zT 6 ?_
 refine zT 7 ?_
 refine zT 8 ?_
 refine zD ?_
 clear Z3 b0 b1 b2 j0 k0 k3 lb lr ljb HS12
 have HQ12 : Hid (Quiet w1 d0) := q0
 have hj := HJ1.out.quietly q0
 have c5 : d0.cell? ⟨jb, 5, none⟩ = some (.int .i64 0) := by rw [Z1 hj.job.box]; rfl
 have b0 := Z1 hj.br.box 0
 simp only [zGA, zGS, zGZ] at b0
 have lb := Z2 hj.br.box
 have lj := Z2 hj.job.box
 clear hj
 have HBK : Hid (∀ W, Quiet w1 W -> Calls Tryz.prog 23 #[ptrV sb] W (Z2Z W t [])) := fun W hq => HBK0.out W ((HL1.out.same hq).mono (fun _ e => e.elim))
 go_wp2_with fail
 refine (HBK.out _ q0).mono ?_
 rintro e d1 ⟨b, cap, A, c, v, rfl, hO, hX⟩
 have q1 : Quiet w1 d1 := q0.trans hO.quiet
 obtain ⟨A1, c1, rfl, _, _, _⟩ := Z9 (show World.ownsRow d1 0 92 6 v 0 [] from hX.own)
 have HOF : Hid (∀ W, Quiet d1 W -> Calls Tryz.prog 100 #[.int .u64 (tid : Int), .slice A1 0 c1] W (Z4H W [])) := fun W hq => ZiW
 have hj := HJ1.out.quietly q1
 have k0 := Z1 hj.job.box 0
 simp only [zGA, zGS, zGZ] at k0
 have HLD : Hid (Zw w0 d1 sb (fun k => BrK rb jr jb vi vd k ∨ k = r2) s) := HL1.out.same q1
 have HJD := zh hj
 have H2D := zh (q1.get H21.out (fun x => x))
 clear hj hO hX b0 c5 lb lj
 have lj := Z2 HJD.out.job.box
 go_wp2_with fail
 refine (HOF.out _ (Z0.refl _ _)).mono ?_
 rintro e d2 ⟨v2, rfl, hq2, hn2, hi2⟩
 obtain ⟨A2, c2, rfl, _, _, _⟩ := Z9 (show World.ownsRow d2 0 34 1 v2 0 [] from hi2)
 have hjd := HJD.out.quietly hq2
 have k2 := Z1 hjd.job.box 2
 have kf := fun o => Z7 hjd.job.box o
 simp only [zGA, zGS, zGZ] at k2
 have hb4 := (Z1D hjd.job.box (.slice A2 0 c2)).2.2.2.2.1
 have ho4 : Z0 (fun x => x = jb) d2 (d2.setCell ⟨jb, 2, none⟩ (.slice A2 0 c2)) := (Z0.refl (fun x => x = jb) d2).setCell (p := ⟨jb, 2, none⟩) (fun _ => rfl) _
 have lj2 := Z2 hjd.job.box
 have HN2 := zh hn2
 have HI2 := zh hi2
 have HQ2 := zh hq2
 clear hjd lj k0 hn2 hi2 hq2
 go_upto_region 20 with fail
 generalize d2.setCell ⟨jb, 2, none⟩ (.slice A2 0 c2) = w4 at *
 clear k2 kf lj2
 have HS20 : Hid (∀ W, Quiet w4 W -> (fun w' => w'.cell? ⟨jb, 5, none⟩ = some (.int .i64 0) /\ w'.cell? ⟨jb, 2, none⟩ = some (.slice A2 0 c2)) W) := fun W hq => by
  have b := hq.get hb4 (fun x => x)
  exact ⟨by rw [Z1 b]; rfl, by rw [Z1 b]; rfl⟩
 refine zH HS20 ((Z0.refl _ _).drew) (fun Z3 => ?_)
 have q4 : Quiet w4 w4.drew := (Z0.refl _ _).drew
 generalize w4.drew = d4 at q4 Z3 ⊢
 refine zT 0 ?_
 refine zT 1 ?_
 refine zT 2 ?_
 refine zT 3 ?_
 refine zT 4 ?_
 refine zT 5 ?_
 refine zT 6 ?_
 refine zT 7 ?_
 refine zT 8 ?_
 refine zT 9 ?_
 refine zD ?_
 clear Z3 HS20
 have how : Z0 (fun k => k = jb) d1 d4 := ((HQ2.out.mono (fun _ _ x => x.elim)).trans ho4).trans (q4.mono (fun _ _ x => x.elim))
 have HJ4 := zh (HJD.out.turnedI (n' := n) (k' := n) (i' := 0) (known' := true) (ids' := []) HLD.out HRN.out how ⟨q4.get hb4 (fun x => x)⟩ (Z4 (Z4 HI2.out ho4 (fun k e e2 => by have := HN2.out k e; have := Z2 HJD.out.job.box; omega)) q4 (fun _ _ x => x)) (fun k e => Or.inr (HN2.out k e)))
 have H24 := zh (how.get H2D.out (fun e => by have := HR2.out; have := Z2 HJ.out.job.box; omega))
 clear how hb4 ho4 q4
 have b2 := Z1 HJ4.out.1.br.box 2
 have bf := fun o => Z7 HJ4.out.1.br.box o
 simp only [zGA, zGS, zGZ] at b2
 have lb := Z2 HJ4.out.1.br.box
 have HB6 : Hid ((d4.setCell ⟨rb, 2, none⟩ (.slice (if cj = 1 then some ⟨jr, 0, none⟩ else some ⟨jr, 1, none⟩) 0 (cj - 1))).heap[rb]? = some (.cells #[ptrV sb, .bool true, (.slice (if cj = 1 then some ⟨jr, 0, none⟩ else some ⟨jr, 1, none⟩) 0 (cj - 1)), .int .i64 (ps : Int)] 81 (0, 0))) := by
  show _ = _
  rw [Zf HJ4.out.1.br.box _ _]
  rfl
 have ho6 : Z0 (fun x => x = rb) d4 (d4.setCell ⟨rb, 2, none⟩ (.slice (if cj = 1 then some ⟨jr, 0, none⟩ else some ⟨jr, 1, none⟩) 0 (cj - 1))) := (Z0.refl (fun x => x = rb) d4).setCell (p := ⟨rb, 2, none⟩) (fun _ => rfl) _
 go_upto_region 25 with fail
 generalize d4.setCell ⟨rb, 2, none⟩ (.slice (if cj = 1 then some ⟨jr, 0, none⟩ else some ⟨jr, 1, none⟩) 0 (cj - 1)) = w6 at *
 clear b2 bf lb
 have HL6 : Hid (Zw w0 w6 sb (fun k => BrK rb jr jb (.slice A2 0 c2) vd k ∨ k = r2) s) := HJ4.out.2.turn (ho6.mono (fun k _ e => Or.inl (Or.inl e))) (fun k e => by
   rcases e with e | e
   · exact HJ4.out.1.new k e
   · rw [e]; exact HRN.out)
 have HJB : Hid (w6.heap[jb]? = some (.cells #[.int .u64 (tid : Int), .int .i64 (n : Int), (.slice A2 0 c2), .bool true, .int .i64 (n : Int), .int .i64 ((0 : Nat) : Int), vd] 202 (0, 0))) := ho6.get HJ4.out.1.job.box (fun e => HJ4.out.1.apart.2.1 e.symm)
 have H26 := zh (ho6.get H24.out (fun e => by have := HR2.out; have := Z2 HJ.out.br.box; omega))
 have HDD : Hid (w6.ownsRow 0 48 2 vd D.length (ZM D)) := Z4 HJ4.out.1.dead ho6 (fun k e => (HJ4.out.1.apart.2.2.2.1 k e).1)
 clear ho6
 have HS25 : Hid (∀ W : World, W.heap[jb]? = some (.cells #[.int .u64 (tid : Int), .int .i64 (n : Int), (.slice A2 0 c2), .bool true, .int .i64 (n : Int), .int .i64 ((0 : Nat) : Int), vd] 202 (0, 0)) -> W.heap[rb]? = some (.cells #[ptrV sb, .bool true, (.slice (if cj = 1 then some ⟨jr, 0, none⟩ else some ⟨jr, 1, none⟩) 0 (cj - 1)), .int .i64 (ps : Int)] 81 (0, 0)) -> (fun w' => w'.cell? ⟨jb, 0, none⟩ = some (.int .u64 (tid : Int)) /\ w'.cell? ⟨rb, 0, none⟩ = some (ptrV sb) /\ w'.cell? ⟨jb, 6, none⟩ = some vd) W) := fun W a b => ⟨by rw [Z1 a]; rfl, by rw [Z1 b]; rfl, by rw [Z1 a]; rfl⟩
 have HRL : Hid (∀ W, Quiet w6 W -> Calls Tryz.prog 102 #[ptrV sb, .int .u64 (tid : Int), vd] W (fun e w' => (∃ z : Int, e = .returned (.int .i64 z)) /\ ToB w0 W sb (fun k => BrK rb jr jb (.slice A2 0 c2) vd k ∨ k = r2) { s with hs := upd s.hs tid (some (Z0H s.L hz H D)) } w')) := fun W hq => HRL0.out W _ vd (HL6.out.same hq) (Z4 HDD.out hq (fun _ _ x => x)) (fun k e => Or.inl (Or.inr (Or.inr (Or.inr (Or.inr e)))))
 refine wp_region_held_drew (S := (fun w' => w'.cell? ⟨jb, 0, none⟩ = some (.int .u64 (tid : Int)) /\ w'.cell? ⟨rb, 0, none⟩ = some (ptrV sb) /\ w'.cell? ⟨jb, 6, none⟩ = some vd)) (by kernel_rfl) (HS25.out _ ((Z0.refl (fun _ => False) w6).drew.get HJB.out (fun x => x)) ((Z0.refl (fun _ => False) w6).drew.get HB6.out (fun x => x))) (fun Z3 => ?_)
 simp only [List.size_toArray, List.length_cons, List.length_nil, Nat.reduceAdd]
 have q7 : Quiet w6 w6.drew := (Z0.refl _ _).drew
 generalize w6.drew = d7 at q7 Z3 ⊢
 refine zT 0 ?_
 refine zT 1 ?_
 refine zT 2 ?_
 refine zT 3 ?_
 refine zT 4 ?_
 refine zT 5 ?_
 refine zT 6 ?_
 refine zT 7 ?_
 refine zT 8 ?_
 refine zT 9 ?_
 refine zT 10 ?_
 refine zT 11 ?_
 refine zT 12 ?_
 refine zT 13 ?_
 refine zT 14 ?_
 refine zT 15 ?_
 refine zR 16 ?_
 intro K hK
 go_simp
 go_at_call 102
 refine (HRL.out _ q7).mono ?_
 rintro e d8 ⟨⟨z, rfl⟩, hl8⟩
 have hj8 := hl8.2.get (q7.get HJB.out (fun x => x)) (fun x => x.2 (Or.inl (Or.inr (Or.inr (Or.inl rfl)))))
 have hb8 := hl8.2.get (q7.get HB6.out (fun x => x)) (fun x => x.2 (Or.inl (Or.inl rfl)))
 dsimp only
 refine hK.out _ _ ?_ (fun Z3 => ?_)
 ·exact HS25.out _ hj8 hb8
 clear hK K
 (try simp only [Act.put, zPA, zPZ, zPS])
 refine zT 17 ?_
 refine zR 18 ?_
 intro K hK
 have h28 := hl8.2.get (q7.get H26.out (fun x => x)) (fun x => x.2 (Or.inr rfl))
 obtain ⟨e0, e1, e2, e3⟩ := zC4 h28
 have ef := fun o => Z7 h28 o
 have l2 := Z2 h28
 have ho9 := Z02 d8 r2 (.int .i64 3) (.int .u64 (tid : Int)) (.int .u64 0) (.int .i64 z)
 have hj9 := ho9.get hj8 (fun e => by have := HR2.out; have := Z2 HJ.out.job.box; omega)
 have hb9 := ho9.get hb8 (fun e => by have := HR2.out; have := Z2 HJ.out.br.box; omega)
 have HO9 := zh ho9
 have HB9 := zh hb9
 clear ho9
 go_simp
 refine hK.out _ _ ?_ (fun Z3 => ?_)
 ·exact HS25.out _ hj9 hb9
 clear hK K
 (try simp only [Act.put, zPA, zPZ, zPS])
 refine zD ?_
 have HX := zh (Z0g h28 (.int .i64 3) (.int .u64 (tid : Int)) (.int .u64 0) (.int .i64 z))
 have Zc : Hid (Z8 (.returned (.agg #[(.int .i64 3), (.int .u64 (tid : Int)), (.int .u64 0), (.int .i64 z)])) (fourSet d8 r2 (.int .i64 3) (.int .u64 (tid : Int)) (.int .u64 0) (.int .i64 z))) := by
  rw [<- Zb.out]
  refine ⟨⟨_, _, _, rfl⟩, _, cj - 1, (hl8.st.turn (HO9.out.mono (fun k _ e => Or.inr e)) (fun k e => ?_)).mono (fun k e => Or.inl (Or.inl e)), ⟨HB9.out⟩, HJ.out.new rb (Or.inl rfl), by unfold maxLen; omega⟩
  rcases e with e | e
  ·exact HJ4.out.1.new k e
  ·rw [e]; exact HRN.out
 unfold fourSet at HX Zc
 clear Z3 h28 hj8 hb8 hj9 hb9 hl8 HRL HS25 e0 e1 e2 e3 ef l2
 go_wp2 <;> exact bodyPost_ret (Z00 Tryz.results51 _ _ r2 _ _ (0, 0) _ (by rfl) HX.out Tryz.underlying126 rfl Z1k) (by rfl) Zc.out
theorem Zc1 {w0 : Z01} {w : World} {sb rb ps tid n hz N : Nat} {s : St} {xid : Nat} {H : List (List (Option Tup))} {D : List (Int × Int)} (h : Z1z w0 w sb rb ps s tid n n 1 true [xid] D) (hk2 : n <= 256) (hid : U64 tid) (hH : s.hs tid = some H) (hfit : ∀ T ∈ H, Z0X T) (hnum : Z2m H) (hnd : D.Nodup) (hg : ∀ a ∈ D, ∃ v, ZR H a.1 a.2 = some v) (hh : Z19 s hz) (hL : s.L.length < 1000000000) (hN : ∀ x y, s.sn x = some y -> x <= N) (hN2 : N <= 2000000) :
  Calls Tryz.prog 51 #[ptrV rb] w (fun e w' => Z1e 3 e /\ Z3p w0 w' sb rb ps { s with hs := upd s.hs tid (some (Z0H s.L hz H D)) }) := by
 obtain ⟨jr, jb, cj, vi, vd, h⟩ := h
 obtain ⟨Z8, Z6⟩ : ∃ Z8 : Ending -> World -> Prop, (fun e w' => Z1e 3 e /\ Z3p w0 w' sb rb ps { s with hs := upd s.hs tid (some (Z0H s.L hz H D)) }) = Z8 := ⟨_, rfl⟩
 have HRL0 : Hid (∀ W K (v : Value), Zw w0 W sb K s -> W.ownsRow 0 48 2 v D.length (ZM D) -> (∀ k, v.ownBlock = some k -> K k) -> Calls Tryz.prog 102 #[ptrV sb, .int .u64 (tid : Int), v] W (fun e w' => (∃ z : Int, e = .returned (.int .i64 z)) /\ ToB w0 W sb K { s with hs := upd s.hs tid (some (Z0H s.L hz H D)) } w')) := fun W K v hl hr hv => Z7s hl hid hH hfit hnum hr hv hnd hg hh hL hN hN2
 rw [Z6]
 have Zb := zh Z6
 have hq : Quiet w (w.alloc (.cells #[.int .i64 0, .int .u64 0, .int .u64 0, .int .i64 0] 126)) := (Z0.refl _ _).alloc _
 have h2 := Z5 w (.cells #[.int .i64 0, .int .u64 0, .int .u64 0, .int .i64 0] 126)
 obtain ⟨r2, hr2⟩ : ∃ r2, w.heap.size = r2 := ⟨_, rfl⟩
 have hrn : w0.w.heap.size <= r2 := by have := h.law.quiet.size; omega
 rw [hr2] at h2
 have HR2 := zh hr2
 have HRN := zh hrn
 have HL1 : Hid (Zw w0 (w.alloc (.cells #[.int .i64 0, .int .u64 0, .int .u64 0, .int .i64 0] 126)) sb (fun k => BrK rb jr jb vi vd k ∨ k = r2) s) := (h.law.quietly hq).mono (fun k e => by
   rcases e with e | e
   · exact Or.inl e
   · exact Or.inr ⟨by omega, by have := Z2 h2; omega⟩)
 have HJ := zh h
 have hcj := h.cap
 unfold maxLen at hcj
 clear h Z6 hrn hid hH hfit hnum hnd hg hh hL hN hN2
 go_enter Tryz.func51, Tryz.ntmps51
 go_upto_block 0 with (fail)
 (try rw [hr2])
 generalize w.alloc (.cells #[.int .i64 0, .int .u64 0, .int .u64 0, .int .i64 0] 126) = w1 at *
 have HQ1 := zh hq
 have H21 := zh h2
 have h1 := HJ.out.quietly hq
 obtain ⟨b0, b1, b2⟩ := zC3 h1.br.box
 obtain ⟨cs, hrow⟩ := h1.row
 have j0 : w1.cell? ⟨jr, 0, none⟩ = some (ptrV jb) := by rw [Z1 hrow]; rfl
 have k0 := Z1 h1.job.box 0
 have k3 := Z1 h1.job.box 3
 simp only [zGA, zGS, zGZ] at k0 k3
 have lb := Z2 h1.br.box
 have lr := Z2 hrow
 have ljb := Z2 h1.job.box
 have HJ1 := zh h1
 clear hq h2 hr2 hrow h1
 go_upto_region 12 with fail
 have HS12 : Hid (∀ W, Quiet w1 W -> (fun w' => w'.cell? ⟨jb, 4, none⟩ = some (.int .i64 (n : Int)) /\ w'.cell? ⟨jb, 1, none⟩ = some (.int .i64 (n : Int))) W) := fun W hq => by
  have b := (HJ1.out.quietly hq).job.box
  exact ⟨by rw [Z1 b]; rfl, by rw [Z1 b]; rfl⟩
 refine zH HS12 ((Z0.refl _ _).drew) (fun Z3 => ?_)
 have q0 : Quiet w1 w1.drew := (Z0.refl _ _).drew
 generalize w1.drew = d0 at q0 Z3 ⊢
 refine zT 0 ?_
 refine zT 1 ?_
 refine zT 2 ?_
 refine zT 3 ?_
 refine zT 4 ?_
 refine zT 5 ?_
 refine zT 6 ?_
 refine zT 7 ?_
 refine zT 8 ?_
 refine zD ?_
 clear Z3 b0 b1 b2 j0 k0 k3 lb lr ljb HS12
 have HQ12 : Hid (Quiet w1 d0) := q0
 have hj := HJ1.out.quietly q0
 have c5 : d0.cell? ⟨jb, 5, none⟩ = some (.int .i64 1) := by rw [Z1 hj.job.box]; rfl
 have b0 := Z1 hj.br.box 0
 simp only [zGA, zGS, zGZ] at b0
 have lb := Z2 hj.br.box
 have lj := Z2 hj.job.box
 clear hj
 go_upto_region 20 with fail
 clear b0 c5 lb lj
 have hix := HJ.out.idx
 obtain ⟨A2, c2, rfl, _, _, _⟩ := Z9 (show World.ownsRow w 0 34 1 vi 1 [.int .u64 (xid : Int)] from hix)
 clear hix
 have HS20 : Hid (∀ W, Quiet d0 W -> (fun w' => w'.cell? ⟨jb, 5, none⟩ = some (.int .i64 1) /\ w'.cell? ⟨jb, 2, none⟩ = some (.slice A2 1 c2)) W) := fun W hq => by
  have b := (HJ1.out.quietly (HQ12.out.trans hq)).job.box
  exact ⟨by rw [Z1 b]; rfl, by rw [Z1 b]; rfl⟩
 refine zH HS20 ((Z0.refl _ _).drew) (fun Z3 => ?_)
 have q4 : Quiet d0 d0.drew := (Z0.refl _ _).drew
 generalize d0.drew = d4 at q4 Z3 ⊢
 refine zT 0 ?_
 refine zT 1 ?_
 refine zT 2 ?_
 refine zT 3 ?_
 refine zT 4 ?_
 refine zT 5 ?_
 refine zT 6 ?_
 refine zT 7 ?_
 refine zT 8 ?_
 refine zT 9 ?_
 refine zD ?_
 clear Z3 HS20
 have q14 := HQ12.out.trans q4
 have HJ4 : Hid (Z0i w0 d4 sb rb ps s tid n n 1 true [xid] D jr jb cj (.slice A2 1 c2) vd /\ Zw w0 d4 sb (fun k => BrK rb jr jb (.slice A2 1 c2) vd k ∨ k = r2) s) := ⟨HJ1.out.quietly q14, HL1.out.same q14⟩
 have H24 := zh (q14.get H21.out (fun x => x))
 clear q14 q4
 have b2 := Z1 HJ4.out.1.br.box 2
 have bf := fun o => Z7 HJ4.out.1.br.box o
 simp only [zGA, zGS, zGZ] at b2
 have lb := Z2 HJ4.out.1.br.box
 have HB6 : Hid ((d4.setCell ⟨rb, 2, none⟩ (.slice (if cj = 1 then some ⟨jr, 0, none⟩ else some ⟨jr, 1, none⟩) 0 (cj - 1))).heap[rb]? = some (.cells #[ptrV sb, .bool true, (.slice (if cj = 1 then some ⟨jr, 0, none⟩ else some ⟨jr, 1, none⟩) 0 (cj - 1)), .int .i64 (ps : Int)] 81 (0, 0))) := by
  show _ = _
  rw [Zf HJ4.out.1.br.box _ _]
  rfl
 have ho6 : Z0 (fun x => x = rb) d4 (d4.setCell ⟨rb, 2, none⟩ (.slice (if cj = 1 then some ⟨jr, 0, none⟩ else some ⟨jr, 1, none⟩) 0 (cj - 1))) := (Z0.refl (fun x => x = rb) d4).setCell (p := ⟨rb, 2, none⟩) (fun _ => rfl) _
 go_upto_region 25 with fail
 generalize d4.setCell ⟨rb, 2, none⟩ (.slice (if cj = 1 then some ⟨jr, 0, none⟩ else some ⟨jr, 1, none⟩) 0 (cj - 1)) = w6 at *
 clear b2 bf lb
 have HL6 : Hid (Zw w0 w6 sb (fun k => BrK rb jr jb (.slice A2 1 c2) vd k ∨ k = r2) s) := HJ4.out.2.turn (ho6.mono (fun k _ e => Or.inl (Or.inl e))) (fun k e => by
   rcases e with e | e
   · exact HJ4.out.1.new k e
   · rw [e]; exact HRN.out)
 have HJB : Hid (w6.heap[jb]? = some (.cells #[.int .u64 (tid : Int), .int .i64 (n : Int), (.slice A2 1 c2), .bool true, .int .i64 (n : Int), .int .i64 ((1 : Nat) : Int), vd] 202 (0, 0))) := ho6.get HJ4.out.1.job.box (fun e => HJ4.out.1.apart.2.1 e.symm)
 have H26 := zh (ho6.get H24.out (fun e => by have := HR2.out; have := Z2 HJ.out.br.box; omega))
 have HDD : Hid (w6.ownsRow 0 48 2 vd D.length (ZM D)) := Z4 HJ4.out.1.dead ho6 (fun k e => (HJ4.out.1.apart.2.2.2.1 k e).1)
 clear ho6
 have HS25 : Hid (∀ W : World, W.heap[jb]? = some (.cells #[.int .u64 (tid : Int), .int .i64 (n : Int), (.slice A2 1 c2), .bool true, .int .i64 (n : Int), .int .i64 ((1 : Nat) : Int), vd] 202 (0, 0)) -> W.heap[rb]? = some (.cells #[ptrV sb, .bool true, (.slice (if cj = 1 then some ⟨jr, 0, none⟩ else some ⟨jr, 1, none⟩) 0 (cj - 1)), .int .i64 (ps : Int)] 81 (0, 0)) -> (fun w' => w'.cell? ⟨jb, 0, none⟩ = some (.int .u64 (tid : Int)) /\ w'.cell? ⟨rb, 0, none⟩ = some (ptrV sb) /\ w'.cell? ⟨jb, 6, none⟩ = some vd) W) := fun W a b => ⟨by rw [Z1 a]; rfl, by rw [Z1 b]; rfl, by rw [Z1 a]; rfl⟩
 have HRL : Hid (∀ W, Quiet w6 W -> Calls Tryz.prog 102 #[ptrV sb, .int .u64 (tid : Int), vd] W (fun e w' => (∃ z : Int, e = .returned (.int .i64 z)) /\ ToB w0 W sb (fun k => BrK rb jr jb (.slice A2 1 c2) vd k ∨ k = r2) { s with hs := upd s.hs tid (some (Z0H s.L hz H D)) } w')) := fun W hq => HRL0.out W _ vd (HL6.out.same hq) (Z4 HDD.out hq (fun _ _ x => x)) (fun k e => Or.inl (Or.inr (Or.inr (Or.inr (Or.inr e)))))
 refine wp_region_held_drew (S := (fun w' => w'.cell? ⟨jb, 0, none⟩ = some (.int .u64 (tid : Int)) /\ w'.cell? ⟨rb, 0, none⟩ = some (ptrV sb) /\ w'.cell? ⟨jb, 6, none⟩ = some vd)) (by kernel_rfl) (HS25.out _ ((Z0.refl (fun _ => False) w6).drew.get HJB.out (fun x => x)) ((Z0.refl (fun _ => False) w6).drew.get HB6.out (fun x => x))) (fun Z3 => ?_)
 simp only [List.size_toArray, List.length_cons, List.length_nil, Nat.reduceAdd]
 have q7 : Quiet w6 w6.drew := (Z0.refl _ _).drew
 generalize w6.drew = d7 at q7 Z3 ⊢
 refine zT 0 ?_
 refine zT 1 ?_
 refine zT 2 ?_
 refine zT 3 ?_
 refine zT 4 ?_
 refine zT 5 ?_
 refine zT 6 ?_
 refine zT 7 ?_
 refine zT 8 ?_
 refine zT 9 ?_
 refine zT 10 ?_
 refine zT 11 ?_
 refine zT 12 ?_
 refine zT 13 ?_
 refine zT 14 ?_
 refine zT 15 ?_
 refine zR 16 ?_
 intro K hK
 go_simp
 go_at_call 102
 refine (HRL.out _ q7).mono ?_
 rintro e d8 ⟨⟨z, rfl⟩, hl8⟩
 have hj8 := hl8.2.get (q7.get HJB.out (fun x => x)) (fun x => x.2 (Or.inl (Or.inr (Or.inr (Or.inl rfl)))))
 have hb8 := hl8.2.get (q7.get HB6.out (fun x => x)) (fun x => x.2 (Or.inl (Or.inl rfl)))
 dsimp only
 refine hK.out _ _ ?_ (fun Z3 => ?_)
 ·exact HS25.out _ hj8 hb8
 clear hK K
 (try simp only [Act.put, zPA, zPZ, zPS])
 refine zT 17 ?_
 refine zR 18 ?_
 intro K hK
 have h28 := hl8.2.get (q7.get H26.out (fun x => x)) (fun x => x.2 (Or.inr rfl))
 obtain ⟨e0, e1, e2, e3⟩ := zC4 h28
 have ef := fun o => Z7 h28 o
 have l2 := Z2 h28
 have ho9 := Z02 d8 r2 (.int .i64 3) (.int .u64 (tid : Int)) (.int .u64 0) (.int .i64 z)
 have hj9 := ho9.get hj8 (fun e => by have := HR2.out; have := Z2 HJ.out.job.box; omega)
 have hb9 := ho9.get hb8 (fun e => by have := HR2.out; have := Z2 HJ.out.br.box; omega)
 have HO9 := zh ho9
 have HB9 := zh hb9
 clear ho9
 go_simp
 refine hK.out _ _ ?_ (fun Z3 => ?_)
 ·exact HS25.out _ hj9 hb9
 clear hK K
 (try simp only [Act.put, zPA, zPZ, zPS])
 refine zD ?_
 have HX := zh (Z0g h28 (.int .i64 3) (.int .u64 (tid : Int)) (.int .u64 0) (.int .i64 z))
 have Zc : Hid (Z8 (.returned (.agg #[(.int .i64 3), (.int .u64 (tid : Int)), (.int .u64 0), (.int .i64 z)])) (fourSet d8 r2 (.int .i64 3) (.int .u64 (tid : Int)) (.int .u64 0) (.int .i64 z))) := by
  rw [<- Zb.out]
  refine ⟨⟨_, _, _, rfl⟩, _, cj - 1, (hl8.st.turn (HO9.out.mono (fun k _ e => Or.inr e)) (fun k e => ?_)).mono (fun k e => Or.inl (Or.inl e)), ⟨HB9.out⟩, HJ.out.new rb (Or.inl rfl), by unfold maxLen; omega⟩
  rcases e with e | e
  ·exact HJ4.out.1.new k e
  ·rw [e]; exact HRN.out
 unfold fourSet at HX Zc
 clear Z3 h28 hj8 hb8 hj9 hb9 hl8 HRL HS25 e0 e1 e2 e3 ef l2
 go_wp2 <;> exact bodyPost_ret (Z00 Tryz.results51 _ _ r2 _ _ (0, 0) _ (by rfl) HX.out Tryz.underlying126 rfl Z1k) (by rfl) Zc.out
def Z3B (rb sb : Nat) (P : World -> Prop) : Nat -> World -> Prop
 | 0, w => w.cell? ⟨rb, 0, none⟩ = some (ptrV sb) /\ Calls Tryz.prog 51 #[ptrV rb] w (fun e w' => Z1e 4 e /\ P w')
 | m + 1, w => w.cell? ⟨rb, 0, none⟩ = some (ptrV sb) /\ Calls Tryz.prog 51 #[ptrV rb] w (fun e w' => (∃ z : Int, z ≠ 4 /\ Z1e z e) /\ Z3B rb sb P m w')
theorem Z7t (z : Int) (a b c : Value) (W : World) : (Instr.field 126 (.agg #[.int .i64 z, a, b, c]) 0).run Tryz.prog W = .ok (.int .i64 z) W := by kernel_rfl
theorem Z8S {w : World} {rb sb m most : Nat} {P : World -> Prop} (h : Z3B rb sb P m w) (hm : m < most) (hmo : most <= 10000) :
  Calls Tryz.prog 16 #[ptrV rb, .int .i64 (most : Int)] w (fun e w' => (∃ z : Int, e = .returned (.int .i64 z)) /\ P w') := by
 obtain ⟨Z8, Z6⟩ : ∃ Z8 : Ending -> World -> Prop, (fun e w' => (∃ z : Int, e = .returned (.int .i64 z)) /\ P w') = Z8 := ⟨_, rfl⟩
 rw [Z6]
 have Zb := zh Z6
 have HST := zh h
 clear h Z6
 go_enter Tryz.func16, Tryz.ntmps16
 go_wp2
 go_loopw [5] (fun n wr => ∃ k : Nat, k <= m /\ n = .int .i64 (k : Int) /\ Z3B rb sb P (m - k) wr) (fun n _ => m + 1 - (intOf n).toNat)
 case atStart => exact ⟨0, Nat.zero_le _, rfl, HST.out⟩
 case round =>
  obtain ⟨k, hk, rfl, hs⟩ := hrel
  have hlt : k < most := by omega
  have hw1 : IntKind.i64.wrap ((k : Int) + 1) = ((k + 1 : Nat) : Int) := by rw [ZE _ (by omega) (by omega)]; rfl
  rcases hd : m - k with _ | d
  ·rw [hd] at hs
   obtain ⟨hc, hcall⟩ := hs
   have HC := zh hcall
   have lb := Ze hc
   dsimp only at lb
   clear hcall hd HST
   go_wp2_with fail
   refine HC.out.mono ?_
   rintro e w2 ⟨⟨a, b, c, rfl⟩, hp⟩
   have Zc : Hid (Z8 (.returned (.int .i64 ((k + 1 : Nat) : Int))) w2) := by
    rw [<- Zb.out]
    exact ⟨⟨_, rfl⟩, hp⟩
   clear hp HC hc lb
   have hf := Z7t 4 a b c w2
   go_wp2
   exact Zc.out
  ·rw [hd] at hs
   obtain ⟨hc, hcall⟩ := hs
   have HC := zh hcall
   have lb := Ze hc
   dsimp only at lb
   have HD := zh hd
   clear hcall hd HST
   go_wp2_with fail
   refine HC.out.mono ?_
   rintro e w2 ⟨⟨z, hz, a, b, c, rfl⟩, hp⟩
   have HP := zh hp
   have hz2 : (z == 4) = false := by simpa using hz
   clear hp HC hc lb
   have hf := Z7t z a b c w2
   go_wp2
   go_roundw
   case rel => exact ⟨k + 1, by have := HD.out; omega, by first | rfl | go_num, by have h1 : m - (k + 1) = d := by have := HD.out; omega
                                                                                   rw [h1]; exact HP.out⟩
   case measure => simp [intOf]; omega
theorem Z1o.cell0 {w0 : Z01} {w : World} {sb rb ps : Nat} {s : St} (h : Z1o w0 w sb rb ps s) : w.cell? ⟨rb, 0, none⟩ = some (ptrV sb) := by
 obtain ⟨vj, _, hb, _⟩ := h
 exact hb.cells.1
theorem Z3p.cell0 {w0 : Z01} {w : World} {sb rb ps : Nat} {s : St} (h : Z3p w0 w sb rb ps s) : w.cell? ⟨rb, 0, none⟩ = some (ptrV sb) := by
 obtain ⟨A, c, _, hb, _⟩ := h
 exact hb.cells.1
theorem Z1z.cell0 {w0 : Z01} {w : World} {sb rb ps tid n k i : Nat} {s : St} {known : Bool} {ids : List Nat} {D : List (Int × Int)} (h : Z1z w0 w sb rb ps s tid n k i known ids D) : w.cell? ⟨rb, 0, none⟩ = some (ptrV sb) := by
 obtain ⟨jr, jb, cj, vi, vd, h⟩ := h
 exact h.br.cells.1
def Z16 (s : St) (hz : Nat) (H : List (List (Option Tup))) (k : Nat) : List (Int × Int) := (ZO H k).filter (Z0b s.L H hz)
theorem Z5f {s : St} {hz k : Nat} {H : List (List (Option Tup))} {T : List (Option Tup)} (hT : H[k]? = some T) : Z16 s hz H (k + 1) = Z16 s hz H k ++ (Zl (k : Int) T T.length).filter (Z0b s.L H hz) := by
 unfold Z16
 rw [ZO, List.filter_append, List.getD_eq_getElem?_getD, hT]
 rfl
theorem Z7W {T : List (Option Tup)} (h : Z0X T) : T.length <= 127 := by
 unfold Z0X at h
 omega
theorem Z4I (p : Int) (T : List (Option Tup)) (k : Nat) : (Zl p T k).length <= k := by
 unfold Zl
 refine Nat.le_trans (List.length_filterMap_le _ _) ?_
 rw [List.length_range]
 exact Nat.le_refl _
structure Z5w (s : St) (t : TE) (H : List (List (Option Tup))) (hz N : Nat) : Prop where
 tab : s.T = [t]
 idx : s.I.length <= 1000
 hor : Z19 s hz
 lives : Z2v s hz
 log : s.L.length < 1000000000
 few : ∀ x y, s.sn x = some y -> x <= N
 few2 : N <= 2000000
 heap : s.hs t.id = some H
 num : U64 t.id
 fit : ∀ T ∈ H, Z0X T
 nums : Z2m H
 some_ : 0 < H.length
 most : H.length <= 256
theorem Z5w.dead_len {s : St} {t : TE} {H : List (List (Option Tup))} {hz N : Nat} (h : Z5w s t H hz N) (k : Nat) (hk : k <= H.length) : (Z16 s hz H k).length <= 127 * k := by
 induction k with
 | zero => exact Nat.le_refl _
 | succ k ih =>
  obtain ⟨T, hT⟩ : ∃ T, H[k]? = some T := ⟨_, zg (by omega)⟩
  rw [Z5f hT, List.length_append]
  have h1 := ih (by omega)
  have h2 := List.length_filter_le (Z0b s.L H hz) (Zl (k : Int) T T.length)
  have h3 := Z4I (k : Int) T T.length
  have h4 := Z7W (h.fit T (List.mem_of_getElem? hT))
  omega
section
variable {w0 : Z01} {w : World} {sb rb ps hz N : Nat} {s : St} {t : TE} {H : List (List (Option Tup))} {P : World -> Prop}
theorem ZcW (ho : Z5w s t H hz N) {d : Nat} (hd : ∀ w', Z1z w0 w' sb rb ps s t.id H.length H.length 0 true [] (Z16 s hz H H.length) -> Z3B rb sb P d w') (j : Nat) : ∀ (k : Nat) (w : World), k + j = H.length -> Z1z w0 w sb rb ps s t.id H.length k 0 true [] (Z16 s hz H k) -> Z3B rb sb P (j + d) w := by
 induction j with
 | zero =>
  intro k w hk h
  obtain rfl : k = H.length := by omega
  rw [Nat.zero_add]
  exact hd w h
 | succ j ih =>
  intro k w hk h
  obtain ⟨T, hT⟩ : ∃ T, H[k]? = some T := ⟨_, zg (by omega)⟩
  rw [show j + 1 + d = (j + d) + 1 by omega]
  have h4 := Z7W (ho.fit T (List.mem_of_getElem? hT))
  have h3 := Z4I (k : Int) T T.length
  have h5 := ho.dead_len k (by omega)
  have h6 := ho.most
  refine ⟨h.cell0, (ZcU h rfl (by omega) ho.most ho.num ho.heap hT ho.nums ho.hor ho.log ho.few ho.few2 (by omega) (by omega)).mono ?_⟩
  rintro e w' ⟨he, hj⟩
  refine ⟨⟨1, by decide, he⟩, ih (k + 1) w' (by omega) ?_⟩
  rw [Z5f hT]
  exact hj
theorem ZcX (ho : Z5w s t H hz N) {d : Nat} (hd : ∀ w', Z1z w0 w' sb rb ps s t.id H.length H.length 0 true [] (Z16 s hz H H.length) -> Z3B rb sb P d w') (h : Z1o w0 w sb rb ps s) : Z3B rb sb P (H.length + d + 1) w := by
 refine ⟨h.cell0, (ZeO h ho.tab ho.idx ho.hor ho.lives ho.log ho.few ho.few2).mono ?_⟩
 rintro e w1 ⟨he, hj⟩
 refine ⟨⟨0, by decide, he⟩, ?_⟩
 obtain ⟨T, hT⟩ : ∃ T, H[0]? = some T := ⟨_, zg ho.some_⟩
 have h4 := Z7W (ho.fit T (List.mem_of_getElem? hT))
 have h3 := Z4I ((0 : Nat) : Int) T T.length
 have h6 := ho.some_
 rw [show H.length + d = (H.length - 1 + d) + 1 by omega]
 refine ⟨hj.cell0, (Zc0 hj rfl ho.some_ ho.most ho.num ho.heap hT ho.nums ho.hor ho.log ho.few ho.few2 (by omega) (by show 0 <= 1000000; omega)).mono ?_⟩
 rintro e w2 ⟨he2, hj2⟩
 refine ⟨⟨1, by decide, he2⟩, ZcW ho hd (H.length - 1) 1 w2 (by omega) ?_⟩
 rw [Z5f hT]
 exact hj2
theorem ZeQ (H : List (List (Option Tup))) (hz k : Nat) (s : St) : (Z16 s hz H k).Nodup := (ZaE H k).filter _
theorem ZhQ {k : Nat} {a : Int × Int} (h : a ∈ Z16 s hz H k) : ∃ v, ZR H a.1 a.2 = some v := Z5c (List.mem_filter.1 h).1
def Z6G (s : St) (id hz xid : Nat) (H : List (List (Option Tup))) (es : List Ent) : St := { s with hs := upd s.hs id (some (Z0H s.L hz H (Z16 s hz H H.length))), ts := upd s.ts xid (some (Z1w (Z16 s hz H H.length) es)) }
theorem Zgr {most : Nat} {x : IE} {es : List Ent} (ho : Z5w s t H hz N) (hkI : ZQ s.L t.id s.I = [x]) (hxt : x.table = t.id) (hid : U64 x.id) (hts : s.ts x.id = some es) (hwp : ∀ p ∈ Z16 s hz H H.length, Wf p) (hwe : ∀ e ∈ es, Wf (e.pg, e.sl)) (hlp : (Z16 s hz H H.length).length <= 10000) (hle : es.length <= 10000) (h : Z1o w0 w sb rb ps s) (hp : ps < 1000000) (hm : H.length + 4 <= most) (hmo : most <= 10000) :
  Calls Tryz.prog 16 #[ptrV rb, .int .i64 (most : Int)] w (fun e w' => (∃ z : Int, e = .returned (.int .i64 z)) /\ Z1o w0 w' sb rb (ps + 1) (Z6G s t.id hz x.id H es)) := by
 refine Z8S (m := H.length + 2 + 1) (ZcX ho (d := 2) (fun w' hj => ?_) h) (by omega) hmo
 refine ⟨hj.cell0, (ZcV hj ho.most ho.tab ho.idx rfl hkI hxt hid hts hwp hwe hlp hle).mono ?_⟩
 rintro e w2 ⟨he, hj2⟩
 have hh := ho.hor
 refine ⟨⟨2, by decide, he⟩, hj2.cell0, (Zc1 (s := { s with ts := upd s.ts x.id (some (Z1w (Z16 s hz H H.length) es)) }) (hz := hz) (N := N) (H := H) hj2 ho.most ho.num ho.heap ho.fit ho.nums (ZeQ _ _ _ _) (fun a ha => ZhQ ha) ⟨hh.none_, hh.some_, hh.least, hh.num⟩ ho.log ho.few ho.few2).mono ?_⟩
 rintro e w3 ⟨he, hd⟩
 refine ⟨⟨3, by decide, he⟩, hd.cell0, (ZbW hd hp).mono ?_⟩
 rintro e w4 ⟨he, hi⟩
 exact ⟨he, hi⟩
end
section
variable {H H' : List (List (Option Tup))} {l : List ((Int × Int) × Tup)}
end
section
variable {k len left : Nat} {H : List (List (Option Tup))} {l : List ((Int × Int) × Tup)}
end
theorem ZaQ (n : Int) (w : World) : Calls Tryz.prog 19 #[.int .i64 n] w (Z5p w 4 (intRow n)) := by
 have hN : Z5p w 4 (intRow n) (.returned (.slice (some ⟨w.heap.size, 0, none⟩) 1 1)) (w.alloc (.cells #[.int .u8 1, .int .i64 n, .string ⟨#[]⟩, .bool false] 32)) := ⟨w.heap.size, rfl, (Z0.refl _ _).alloc _, Nat.le_refl _, by simp, Rd.new w 4 1 (intRow n) _ _ rfl rfl⟩
 have HN := zh hN
 clear hN
 obtain ⟨Z8, Z6⟩ : ∃ Z8, Z5p w 4 (intRow n) = Z8 := ⟨_, rfl⟩
 rw [Z6] at HN ⊢
 clear Z6
 go_enter Tryz.func19, Tryz.ntmps19
 go_wp2
 exact HN.out
theorem Zi1 (w : World) : Calls Tryz.prog 18 #[] w (Z5p w 2 (ZP [(⟨#[97]⟩, 1)])) := by
 have hN : Z5p w 2 (ZP [(⟨#[97]⟩, 1)]) (.returned (.slice (some ⟨w.heap.size, 0, none⟩) 1 1)) (w.alloc (.cells #[.string ⟨#[97]⟩, .int .u8 1] 39)) := ⟨w.heap.size, rfl, (Z0.refl _ _).alloc _, Nat.le_refl _, by simp, Rd.new w 2 1 (ZP [(⟨#[97]⟩, 1)]) _ _ rfl rfl⟩
 have HN := zh hN
 clear hN
 obtain ⟨Z8, Z6⟩ : ∃ Z8, Z5p w 2 (ZP [(⟨#[97]⟩, 1)]) = Z8 := ⟨_, rfl⟩
 rw [Z6] at HN ⊢
 clear Z6
 go_enter Tryz.func18, Tryz.ntmps18
 go_wp2
 exact HN.out
def Zi2 (s : St) (t : TE) (name : ByteArray) (own : Nat) (es : List Ent) : St := { s with T := [t], I := [⟨s.blast + 1, name, t.id, 0, own, 0⟩], blast := s.blast + 1, ts := upd s.ts (s.blast + 1) (some es) }
def Z6H (w : World) (sb : Nat) (o : Nat -> Nat) (s : St) (t : TE) (H : List (List (Option Tup))) (name : ByteArray) (own : Nat) (e : Ending) (w' : World) : Prop := ∃ hz0 : Nat, e = .returned (.int .i64 0) /\ Z0E w sb o (Zi2 s t name own (Z1H H s.L hz0 (ZO H H.length))) w'
structure Z75 (o : Nat -> Nat) (wb W : World) (bb xi last : Nat) (t : TE) (x : IE) : Prop where
 only : Z0 (fun k => o k = 3) wb W
 book : ZG W (fun k => o k = 3 ∨ wb.heap.size <= k) bb [t] [x] last
 box : W.heap[xi]? = some (.cells #[.int .u64 (x.id : Int), .string x.name, .int .u64 (x.table : Int), .int .i64 (x.column : Int), .int .u64 (x.xmin : Int), .int .u64 (x.xmax : Int)] 92 (0, 0))
 new : wb.heap.size <= xi
theorem Z5Q {o : Nat -> Nat} {wb w1 : World} {bb xi last : Nat} {t : TE} {x : IE} {c0 c1 c2 c3 c4 c5 v0 v1 v2 v3 v4 v5 : Value} (hv : Z4F x = [v0, v1, v2, v3, v4, v5]) (ho : Z0 (fun k => o k = 3) wb w1) (hb : ZG w1 (fun k => (o k = 3 ∨ wb.heap.size <= k) /\ k ≠ xi) bb [t] [x] last) (hx : w1.heap[xi]? = some (.cells #[c0, c1, c2, c3, c4, c5] 92 (0, 0))) (hn : wb.heap.size <= xi) :
  Z75 o wb (sixSet w1 xi v0 v1 v2 v3 v4 v5) bb xi last t x := by
 simp only [Z4F, List.cons.injEq, and_true] at hv
 obtain ⟨rfl, rfl, rfl, rfl, rfl, rfl⟩ := hv
 have h1 := Z0A w1 xi (.int .u64 (x.id : Int)) (.string x.name) (.int .u64 (x.table : Int)) (.int .i64 (x.column : Int)) (.int .u64 (x.xmin : Int)) (.int .u64 (x.xmax : Int))
 exact ⟨ho.trans' h1 (fun k hk e => by omega), (hb.kept h1 (fun k hk e => hk.2 e)).mono (fun k hk => hk.1), Z0Z hx _ _ _ _ _ _, hn⟩
theorem Ziz {goal : Prop} {o : Nat -> Nat} {wb : World} {bb last : Nat} {t : TE} {x : IE} {G : Nat -> World -> Prop} (main : (∀ xi W, Z75 o wb W bb xi last t x -> G xi W) -> goal) (key : ∀ xi W, Z75 o wb W bb xi last t x -> G xi W) : goal := main key
structure Z9p (wb W : World) (nb tq B1 : Nat) (A : Option Addr) (c : Nat) (t : TE) : Prop where
 quiet : Quiet wb W
 tree : Z08 W (fun k => wb.heap.size <= k /\ k < B1 /\ k ≠ tq) nb []
 box : W.heap[tq]? = some (.cells #[.int .u64 (t.id : Int), .string t.name, .slice A t.cols.length c, .int .u64 (t.xmin : Int), .int .u64 (t.xmax : Int)] 98 (0, 0))
 new : wb.heap.size <= tq
 cols : Rd W (fun k => B1 <= k /\ k ≠ tq) 2 A t.cols.length (ZP t.cols) /\ t.cols.length <= c /\ c <= maxLen
 big : wb.heap.size <= B1 /\ B1 <= W.heap.size
theorem Z3C {wb w1 : World} {nb tq B1 c : Nat} {A : Option Addr} {t : TE} {D S : Nat -> Prop} {c0 c1 c2 c3 c4 : Value} (hq : Quiet wb w1) (ht : Z08 w1 D nb []) (hd : ∀ k, D k -> wb.heap.size <= k /\ k < B1 /\ k ≠ tq) (hx : w1.heap[tq]? = some (.cells #[c0, c1, c2, c3, c4] 98 (0, 0))) (hn : wb.heap.size <= tq)
  (hr : Rd w1 S 2 A t.cols.length (ZP t.cols)) (hs : ∀ k, S k -> B1 <= k /\ k ≠ tq) (hc : t.cols.length <= c /\ c <= maxLen) (hB : wb.heap.size <= B1 /\ B1 <= w1.heap.size) :
  Z9p wb (fiveSet w1 tq (.int .u64 (t.id : Int)) (.string t.name) (.slice A t.cols.length c) (.int .u64 (t.xmin : Int)) (.int .u64 (t.xmax : Int))) nb tq B1 A c t := by
 have h1 := Z1m w1 tq (.int .u64 (t.id : Int)) (.string t.name) (.slice A t.cols.length c) (.int .u64 (t.xmin : Int)) (.int .u64 (t.xmax : Int))
 exact ⟨hq.trans' h1 (fun k hk e => by omega), (ht.mono (fun k a _ => hd k a)).kept h1 (fun k hk e => hk.2.2 e), Z25 hx _ _ _ _ _, hn, ⟨(hr.mono hs).kept h1 (fun k hk e => hk.2 e), hc⟩, hB.1, Nat.le_trans hB.2 h1.size⟩
theorem ZiA {goal : Prop} {wb : World} {t : TE} {G : Nat -> Nat -> Nat -> Option Addr -> Nat -> World -> Prop} (main : (∀ nb tq B1 A c W, Z9p wb W nb tq B1 A c t -> G nb tq B1 A c W) -> goal) (key : ∀ nb tq B1 A c W, Z9p wb W nb tq B1 A c t -> G nb tq B1 A c W) : goal := main key
theorem ZhR {w w2 W1 wr w6 : World} {sb lb bb pb mh mt ms nb xi own : Nat} {o : Nat -> Nat} {s : St} {t : TE} {name : ByteArray} {es : List Ent} {fh ft fs : Nat -> Option Value} (h : Zh w sb o s lb bb pb mh mt ms fh ft fs) (hq2 : Quiet w w2) (hL : Z75 o w2 W1 bb xi (s.blast + 1) t ⟨s.blast + 1, name, t.id, 0, own, 0⟩)
  (ho : Z0 (fun k => W1.heap.size <= k) W1 wr) (ht : Z08 wr (fun k => W1.heap.size <= k) nb es) (ho6 : Z0 (fun k => k = mt) wr w6) (hm : Z09 w6 mt (upd ft (s.blast + 1) (some (ptrV nb)))) : Z0E w sb o (Zi2 s t name own es) w6 := by
 have h1 := (h.quietly hq2).setBook hL.only hL.book
 have hz2 := hq2.size
 have hz1 := hL.only.size
 have hzr := ho.size
 have hmt : o mt = 7 := h.tags.2.2.2.1
 have hml := h.mT.lt
 have hor := h1.kept ho (fun k x => h1.big k x)
 have hn := hor.newTree (B := W1.heap.size) (id := s.blast + 1) (tb := nb) (es := es) h1.big hzr ho6 hm (ht.kept ho6 (fun k x e => by omega))
 refine ⟨_, fun k hk => ?_, (((hq2.mono (T := fun k => o k ≠ 0) (fun _ _ x => x.elim)).trans' hL.only (fun k _ x => by omega)).trans' ho (fun k hk x => by omega)).trans' ho6 (fun k _ x => by rw [x, hmt]; omega), _, _, _, _, _, _, _, _, _, hn⟩
 rw [Z0s (by omega), Z0s (by omega)]
theorem Z7u {w : World} {sb x N : Nat} {o : Nat -> Nat} {s : St} {y : Zo} {t : TE} {name of_ nm : ByteArray} {H : List (List (Option Tup))} (h : Zm w sb o s) (hx : U64 x) (hy : s.sn x = some y) (hT : s.T = [t]) (hI : s.I = []) (hc : t.cols = [(nm, 1)]) (hf : Z0w s.L y of_ s.T = some 0) (hH : s.hs t.id = some H) (hid : U64 t.id)
  (hl : s.blast < 1000000) (hu : U64 y.own) (hnm : Z2D name) (hne : (t.name.toList == name.toList) = false) (hL : s.L.length < 1000000000) (hN : ∀ x y, s.sn x = some y -> x <= N) (hN2 : N <= 2000000) (hp : ∀ k, k <= H.length -> (ZO H k).length <= 10000) (hint : Z5o H) :
  Calls Tryz.prog 11 #[ptrV sb, .int .u64 (x : Int), .string name, .string of_, .string nm] w (Z6H w sb o s t H name y.own) := by
 have HRU := zh (Z4h h hx)
 obtain ⟨lb, bb, pb, mh, mt, ms, fh, ft, fs, h⟩ := h
 have HH := zh h
 obtain ⟨hb, hfh, hhp⟩ := h.heaps.2 t.id H hH
 have HHP := zh hhp
 have HFH := zh hfh
 have HHH := zh hH
 have HCC := zh hc
 have HID := zh hid
 have HTI := zh (And.intro hT hI)
 have HLU := zh (And.intro hl hu)
 have HNM := zh (And.intro hnm hne)
 have HNN := zh (And.intro hL (And.intro hN hN2))
 have HPL := zh hp
 have HINT := zh hint
 have HFT := zh hf
 have HBIG : Hid (∀ k, w.heap.size <= k -> o k = 0) := h.big
 have HTG := zh h.tags
 unfold Z2Y at HRU
 rw [hy] at HRU
 obtain ⟨Z8, Z6⟩ : ∃ Z8, Z6H w sb o s t H name y.own = Z8 := ⟨_, rfl⟩
 rw [Z6]
 have Zb := zh Z6
 clear h hx hT hI hc hf hH hid hl hu hnm hne hL hN hN2 hp hint hfh hhp Z6
 go_enter Tryz.func11, Tryz.ntmps11
 go_wp2_with fail
 refine HRU.out.mono ?_
 rintro e w1 ⟨hq1, A, c, rfl, hs1⟩
 clear HRU
 have hq2 : Quiet w (w1.alloc (.cells (snapCells y A c) 84)) := hq1.alloc _
 have hpb := Z5 w1 (.cells (snapCells y A c) 84)
 have hs2 := hs1.kept ((Z0.refl (fun _ => False) w1).alloc (.cells (snapCells y A c) 84)) (fun _ _ x => x)
 have hz1 := hq1.size
 obtain ⟨ps, hps⟩ : ∃ ps, w1.heap.size = ps := ⟨_, rfl⟩
 unfold Zk
 go_wp2_with fail
 rw [hps] at hpb hz1
 (try rw [hps])
 generalize w1.alloc (.cells (snapCells y A c) 84) = w2 at *
 have HQ2 := zh hq2
 have HPS := zh (And.intro hpb hz1)
 have HSN := zh hs2
 have HS4 : Hid (∀ W, Z0 (fun k => o k = 3) w2 W -> (fun w' => w'.cell? ⟨sb, 1, none⟩ = some (ptrV bb) /\ w'.cell? ⟨sb, 0, none⟩ = some (ptrV lb) /\ w'.cell? ⟨ps, 0, none⟩ = some (.int .u64 (y.own : Int)) /\ w'.cell? ⟨ps, 1, none⟩ = some (.int .u64 (y.xmin : Int)) /\ w'.cell? ⟨ps, 2, none⟩ = some (.int .u64 (y.xmax : Int)) /\ w'.cell? ⟨ps, 3, none⟩ = some (.slice A y.run.length c)) W) := fun W ho => by
  have tg := HTG.out
  have c := (HH.out.quietly HQ2.out).cells
  have hz := HBIG.out ps HPS.out.2
  obtain ⟨s0, s1, s2, s3⟩ := Zv (ho.get HPS.out.1 (fun x => by omega))
  exact ⟨ho.cell c.2.1 (fun x => by dsimp only at x; omega), ho.cell c.1 (fun x => by dsimp only at x; omega), s0, s1, s2, s3⟩
 obtain ⟨nid, hnid⟩ : ∃ nid, s.blast + 1 = nid := ⟨_, rfl⟩
 have HNID := zh hnid
 have HBI : Hid (∀ W, Quiet w2 W -> Calls Tryz.prog 33 #[ptrV bb, ptrV lb, .agg #[.int .u64 (y.own : Int), .int .u64 (y.xmin : Int), .int .u64 (y.xmax : Int), .slice A y.run.length c], .string name, .string of_, .string nm] W (fun e w' => e = .returned (.tuple #[.agg #[.int .u64 (nid : Int), .string name, .int .u64 (t.id : Int), .int .i64 0, .int .u64 (y.own : Int), .int .u64 0], .int .i64 0]) /\ Z0 (fun k => o k = 3) W w' /\ ZG w' (fun k => o k = 3 ∨ W.heap.size <= k) bb [t] [⟨nid, name, t.id, 0, y.own, 0⟩] nid)) := fun W hq => by
  subst hnid
  have h2 := (HH.out.quietly HQ2.out).quietly hq
  have hbk := h2.book
  rw [HTI.out.1, HTI.out.2] at hbk
  have hf := HFT.out
  rw [HTI.out.1] at hf
  exact ZeF hbk h2.log (HSN.out.kept hq (fun _ _ x => x)) HLU.out.1 HCC.out hf HNM.out.1 HNM.out.2 HID.out HLU.out.2 (fun k hk => by rcases Nat.lt_or_ge k W.heap.size with a | a; exact a; have := h2.big k a; omega)
 clear hq1 hs1 hs2 hpb hz1 hq2 hps hy hnid
 apply Ziz (o := o) (wb := w2) (bb := bb) (last := nid) (t := t) (x := ⟨nid, name, t.id, 0, y.own, 0⟩)
 case main =>
   intro KEY
   refine zH HS4 ((Z0.refl _ _).drew) (fun Z3 => ?_)
   have q0 : Quiet w2 w2.drew := (Z0.refl _ _).drew
   generalize w2.drew = d0 at q0 Z3 ⊢
   refine zT 0 ?_
   refine zT 1 ?_
   refine zT 2 ?_
   refine zT 3 ?_
   refine zT 4 ?_
   refine zT 5 ?_
   refine zT 6 ?_
   refine zT 7 ?_
   refine zT 8 ?_
   refine zT 9 ?_
   refine zT 10 ?_
   refine zT 11 ?_
   refine wpAnyH_ready (rs := [12, 16]) (by kernel_rfl) (by simp) ?_
   refine zA ?_ ?_
   ·intro K hK
    go_simp
    go_at_call 33
    refine (HBI.out _ q0).mono ?_
    rintro e d2 ⟨rfl, ho2, hb2⟩
    have hO := (q0.mono (T := fun k => o k = 3) (fun _ _ x => x.elim)).trans ho2
    have hzq := q0.size
    have hbl := hb2.lim
    dsimp only
    refine hK.out _ _ ?_ (fun Z3 => ?_)
    ·exact HS4.out _ hO
    clear hK K
    (try simp only [Act.put, zPA, zPZ, zPS])
    refine zT 13 ?_
    refine zT 14 ?_
    refine zT 15 ?_
    refine zR 16 ?_
    intro K hK
    go_simp
    refine hK.out _ _ ?_ (fun Z3 => ?_)
    ·exact HS4.out _ (hO.alloc _)
    clear hK K
    (try simp only [Act.put, zPA, zPZ, zPS])
    have hO3 := hO.alloc (.cells #[.int .u64 0, .string ⟨#[]⟩, .int .u64 0, .int .i64 0, .int .u64 0, .int .u64 0] 92)
    have hx1 := Z5 d2 (.cells #[.int .u64 0, .string ⟨#[]⟩, .int .u64 0, .int .i64 0, .int .u64 0, .int .u64 0] 92)
    have hnp : w2.heap.size <= d2.heap.size := hO.size
    have hB := (hbl.kept ((Z0.refl (fun _ => False) d2).alloc (.cells #[.int .u64 0, .string ⟨#[]⟩, .int .u64 0, .int .i64 0, .int .u64 0, .int .u64 0] 92)) (fun _ _ x => x)).mono (G := fun k => (o k = 3 ∨ w2.heap.size <= k) /\ k ≠ d2.heap.size) (fun k hk => ⟨by rcases hk.1 with a | a; exact Or.inl a; exact Or.inr (by omega), by omega⟩)
    obtain ⟨xi, hxi⟩ : ∃ xi, d2.heap.size = xi := ⟨_, rfl⟩
    rw [hxi] at hx1 hnp hB ⊢
    generalize d2.alloc (.cells #[.int .u64 0, .string ⟨#[]⟩, .int .u64 0, .int .i64 0, .int .u64 0, .int .u64 0] 92) = d3 at *
    clear hxi hO
    have hO := hO3
    obtain ⟨z0, z1, z2, z3, z4, z5⟩ := zC6 hx1
    have zf := fun o => Z7 hx1 o
    refine zR 17 ?_
    intro K hK
    go_simp
    refine hK.out _ _ ?_ (fun Z3 => ?_)
    ·exact HS4.out _ (Z5Q (x := ⟨nid, name, t.id, 0, y.own, 0⟩) (v0 := .int .u64 (nid : Int)) (v1 := .string name) (v2 := .int .u64 (t.id : Int)) (v3 := .int .i64 0) (v4 := .int .u64 (y.own : Int)) (v5 := .int .u64 0) rfl hO hB hx1 hnp).only
    clear hK K
    (try simp only [Act.put, zPA, zPZ, zPS])
    have HG := Z5Q (x := ⟨nid, name, t.id, 0, y.own, 0⟩) (v0 := .int .u64 (nid : Int)) (v1 := .string name) (v2 := .int .u64 (t.id : Int)) (v3 := .int .i64 0) (v4 := .int .u64 (y.own : Int)) (v5 := .int .u64 0) rfl hO hB hx1 hnp
    unfold sixSet at HG
    refine zT 18 ?_
    refine zD ?_
    generalize ((((((d3.setCell ⟨xi, 0, none⟩ (.int .u64 (nid : Int))).setCell ⟨xi, 1, none⟩ (.string name)).setCell ⟨xi, 2, none⟩ (.int .u64 (t.id : Int))).setCell ⟨xi, 3, none⟩ (.int .i64 0)).setCell ⟨xi, 4, none⟩ (.int .u64 (y.own : Int))).setCell ⟨xi, 5, none⟩ (.int .u64 0)) = WF at HG ⊢
    exact KEY _ _ HG
   refine zA ?_ AllReadyH.nil
   intro K hK
   go_simp
   refine hK.out _ _ ?_ (fun Z3 => ?_)
   ·exact HS4.out _ ((q0.alloc _).mono (fun _ _ x => x.elim))
   clear hK K
   (try simp only [Act.put, zPA, zPZ, zPS])
   have q1 : Quiet w2 (d0.alloc (.cells #[.int .u64 0, .string ⟨#[]⟩, .int .u64 0, .int .i64 0, .int .u64 0, .int .u64 0] 92)) := q0.alloc _
   have hb1 := Z5 d0 (.cells #[.int .u64 0, .string ⟨#[]⟩, .int .u64 0, .int .i64 0, .int .u64 0, .int .u64 0] 92)
   have hnp : w2.heap.size <= d0.heap.size := q0.size
   obtain ⟨xi, hxi⟩ : ∃ xi, d0.heap.size = xi := ⟨_, rfl⟩
   rw [hxi] at hb1 hnp ⊢
   generalize d0.alloc (.cells #[.int .u64 0, .string ⟨#[]⟩, .int .u64 0, .int .i64 0, .int .u64 0, .int .u64 0] 92) = d1 at *
   clear hxi
   refine zR 12 ?_
   intro K hK
   go_simp
   go_at_call 33
   refine (HBI.out _ q1).mono ?_
   rintro e d2 ⟨rfl, ho2, hb2⟩
   have hO := (q1.mono (T := fun k => o k = 3) (fun _ _ x => x.elim)).trans ho2
   have hzq := q1.size
   have hox := HBIG.out xi (Nat.le_trans HQ2.out.size hnp)
   have hx1 := ho2.get hb1 (fun x => by omega)
   have hlx := Z2 hb1
   have hB := hb2.mono (G := fun k => (o k = 3 ∨ w2.heap.size <= k) /\ k ≠ xi) (fun k hk => by rcases hk with a | a; exact ⟨Or.inl a, fun e => by rw [e] at a; omega⟩; exact ⟨Or.inr (by omega), by omega⟩)
   dsimp only
   refine hK.out _ _ ?_ (fun Z3 => ?_)
   ·exact HS4.out _ hO
   clear hK K
   (try simp only [Act.put, zPA, zPZ, zPS])
   obtain ⟨z0, z1, z2, z3, z4, z5⟩ := zC6 hx1
   have zf := fun o => Z7 hx1 o
   refine zT 13 ?_
   refine zT 14 ?_
   refine zT 15 ?_
   refine zR 17 ?_
   intro K hK
   go_simp
   refine hK.out _ _ ?_ (fun Z3 => ?_)
   ·exact HS4.out _ (Z5Q (x := ⟨nid, name, t.id, 0, y.own, 0⟩) (v0 := .int .u64 (nid : Int)) (v1 := .string name) (v2 := .int .u64 (t.id : Int)) (v3 := .int .i64 0) (v4 := .int .u64 (y.own : Int)) (v5 := .int .u64 0) rfl hO hB hx1 hnp).only
   clear hK K
   (try simp only [Act.put, zPA, zPZ, zPS])
   have HG := Z5Q (x := ⟨nid, name, t.id, 0, y.own, 0⟩) (v0 := .int .u64 (nid : Int)) (v1 := .string name) (v2 := .int .u64 (t.id : Int)) (v3 := .int .i64 0) (v4 := .int .u64 (y.own : Int)) (v5 := .int .u64 0) rfl hO hB hx1 hnp
   unfold sixSet at HG
   refine zT 18 ?_
   refine zD ?_
   generalize ((((((d2.setCell ⟨xi, 0, none⟩ (.int .u64 (nid : Int))).setCell ⟨xi, 1, none⟩ (.string name)).setCell ⟨xi, 2, none⟩ (.int .u64 (t.id : Int))).setCell ⟨xi, 3, none⟩ (.int .i64 0)).setCell ⟨xi, 4, none⟩ (.int .u64 (y.own : Int))).setCell ⟨xi, 5, none⟩ (.int .u64 0)) = WF at HG ⊢
   exact KEY _ _ HG
 case key =>
  intro xi W1 HL0
  have HL := zh HL0
  clear HL0 HS4 HBI
  have hst := (HH.out.quietly HQ2.out).setBook HL.out.only HL.out.book
  obtain ⟨o1, ho1⟩ : ∃ o1, grow o w2.heap.size W1.heap.size 3 = o1 := ⟨_, rfl⟩
  rw [ho1] at hst
  have HST := zh hst
  have HSA : Hid (Zm W1 sb o1 { s with T := [t], I := [⟨nid, name, t.id, 0, y.own, 0⟩], blast := nid }) := ⟨_, _, _, _, _, _, _, _, _, hst⟩
  have HBX := zh HL.out.box
  clear hst ho1
  have HS7 : Hid (∀ W, Quiet W1 W -> (fun w' => w'.cell? ⟨xi, 2, none⟩ = some (.int .u64 (t.id : Int))) W) := fun W hq => by
   show W.cell? _ = _
   rw [Z1 (hq.get HBX.out (fun x => x))]
   rfl
  have HTBL : Hid (∀ W, Quiet W1 W -> Calls Tryz.prog 35 #[ptrV sb, .int .u64 (t.id : Int)] W (Z7T W t)) := fun W hq => ZcN (HSA.out.quietly hq) rfl
  go_wp2_with fail
  apply ZiA (wb := W1) (t := t)
  case main =>
    intro KEY
    refine zH HS7 ((Z0.refl _ _).drew) (fun Z3 => ?_)
    have q0 : Quiet W1 W1.drew := (Z0.refl _ _).drew
    generalize W1.drew = d0 at q0 Z3 ⊢
    refine zT 1 ?_
    refine zT 2 ?_
    refine zT 3 ?_
    refine wpAnyH_ready (rs := [0, 5]) (by kernel_rfl) (by simp) ?_
    refine zA ?_ ?_
    ·intro K hK
     go_simp
     go_at_call 34
     refine (Zda _).mono ?_
     rintro e dN ⟨rfl, hqN, hN0, hN1⟩
     have qN := q0.trans hqN
     have htl := (Zbw hqN hN0 hN1).mono (D' := fun k => d0.heap.size <= k /\ k < dN.heap.size) (fun k a b => ⟨a, b⟩)
     have hzN := hqN.size
     have hzn := q0.size
     obtain ⟨nb, hnb⟩ : ∃ nb, d0.heap.size + 1 = nb := ⟨_, rfl⟩
     rw [hnb] at htl ⊢
     clear hqN hN0 hN1 hnb
     dsimp only
     refine hK.out _ _ ?_ (fun Z3 => ?_)
     ·exact HS7.out _ qN
     clear hK K
     (try simp only [Act.put, zPA, zPZ, zPS])
     refine wpAnyH_ready (rs := [4, 5]) (by kernel_rfl) (by simp) ?_
     refine zA ?_ ?_
     ·intro K hK
      go_simp
      go_at_call 35
      refine (HTBL.out _ qN).mono ?_
      rintro e dT ⟨A2, c2, rfl, hqT, hrT, hcT⟩
      have qT := qN.trans hqT
      have htl := htl.kept hqT (fun _ _ x => x)
      have hrl := Z8N hrT
      have hzT := hqT.size
      clear hqT hrT
      unfold Z06
      dsimp only
      refine hK.out _ _ ?_ (fun Z3 => ?_)
      ·exact HS7.out _ qT
      clear hK K
      (try simp only [Act.put, zPA, zPZ, zPS])
      refine zR 5 ?_
      intro K hK
      go_simp
      refine hK.out _ _ ?_ (fun Z3 => ?_)
      ·exact HS7.out _ (qT.alloc _)
      clear hK K
      (try simp only [Act.put, zPA, zPZ, zPS])
      have qA : Quiet W1 (dT.alloc (.cells #[.int .u64 0, .string ⟨#[]⟩, .slice none 0 0, .int .u64 0, .int .u64 0] 98)) := qT.alloc _
      have hb1 := Z5 dT (.cells #[.int .u64 0, .string ⟨#[]⟩, .slice none 0 0, .int .u64 0, .int .u64 0] 98)
      have hnp : W1.heap.size <= dT.heap.size := qT.size
      have htl := htl.kept ((Z0.refl (fun _ => False) dT).alloc (.cells #[.int .u64 0, .string ⟨#[]⟩, .slice none 0 0, .int .u64 0, .int .u64 0] 98)) (fun _ _ x => x)
      have hrl := hrl.kept ((Z0.refl (fun _ => False) dT).alloc (.cells #[.int .u64 0, .string ⟨#[]⟩, .slice none 0 0, .int .u64 0, .int .u64 0] 98)) (fun _ _ x => x)
      have hzA := Z2 hb1
      obtain ⟨tq, htq⟩ : ∃ tq, dT.heap.size = tq := ⟨_, rfl⟩
      rw [htq] at hb1 hnp hzA ⊢
      generalize dT.alloc (.cells #[.int .u64 0, .string ⟨#[]⟩, .slice none 0 0, .int .u64 0, .int .u64 0] 98) = dA at *
      obtain ⟨z0, z1, z2, z3, z4⟩ := zC5 hb1
      have zf := fun o => Z7 hb1 o
      refine zT 6 ?_
      refine zR 7 ?_
      intro K hK
      go_simp
      refine hK.out _ _ ?_ (fun Z3 => ?_)
      ·exact HS7.out _ (Z3C (B1 := dN.heap.size) (t := t) qA htl (fun k hk => by omega) hb1 hnp hrl (fun k hk => by omega) hcT ⟨by omega, by omega⟩).quiet
      clear hK K
      (try simp only [Act.put, zPA, zPZ, zPS])
      have HG := Z3C (B1 := dN.heap.size) (t := t) qA htl (fun k hk => by omega) hb1 hnp hrl (fun k hk => by omega) hcT ⟨by omega, by omega⟩
      unfold fiveSet at HG
      refine zD ?_
      generalize (((((dA.setCell ⟨tq, 0, none⟩ (.int .u64 (t.id : Int))).setCell ⟨tq, 1, none⟩ (.string t.name)).setCell ⟨tq, 2, none⟩ (.slice A2 t.cols.length c2)).setCell ⟨tq, 3, none⟩ (.int .u64 (t.xmin : Int))).setCell ⟨tq, 4, none⟩ (.int .u64 (t.xmax : Int))) = WF at HG ⊢
      generalize dN.heap.size = BN at HG
      exact KEY _ _ _ _ _ _ HG
     refine zA ?_ AllReadyH.nil
     intro K hK
     go_simp
     refine hK.out _ _ ?_ (fun Z3 => ?_)
     ·exact HS7.out _ (qN.alloc _)
     clear hK K
     (try simp only [Act.put, zPA, zPZ, zPS])
     have qA : Quiet W1 (dN.alloc (.cells #[.int .u64 0, .string ⟨#[]⟩, .slice none 0 0, .int .u64 0, .int .u64 0] 98)) := qN.alloc _
     have hb1 := Z5 dN (.cells #[.int .u64 0, .string ⟨#[]⟩, .slice none 0 0, .int .u64 0, .int .u64 0] 98)
     have hnp : W1.heap.size <= dN.heap.size := qN.size
     have htl := htl.kept ((Z0.refl (fun _ => False) dN).alloc (.cells #[.int .u64 0, .string ⟨#[]⟩, .slice none 0 0, .int .u64 0, .int .u64 0] 98)) (fun _ _ x => x)
     have hzA := Z2 hb1
     obtain ⟨tq, htq⟩ : ∃ tq, dN.heap.size = tq := ⟨_, rfl⟩
     rw [htq] at hb1 hnp hzA ⊢
     generalize dN.alloc (.cells #[.int .u64 0, .string ⟨#[]⟩, .slice none 0 0, .int .u64 0, .int .u64 0] 98) = dA at *
     refine zR 4 ?_
     intro K hK
     go_simp
     go_at_call 35
     refine (HTBL.out _ qA).mono ?_
     rintro e dT ⟨A2, c2, rfl, hqT, hrT, hcT⟩
     have qT := qA.trans hqT
     have htl := htl.kept hqT (fun _ _ x => x)
     have hrl := Z8N hrT
     have hzT := hqT.size
     have hb1 := hqT.get hb1 (fun x => x)
     clear hqT hrT
     unfold Z06
     dsimp only
     refine hK.out _ _ ?_ (fun Z3 => ?_)
     ·exact HS7.out _ qT
     clear hK K
     (try simp only [Act.put, zPA, zPZ, zPS])
     obtain ⟨z0, z1, z2, z3, z4⟩ := zC5 hb1
     have zf := fun o => Z7 hb1 o
     refine zT 6 ?_
     refine zR 7 ?_
     intro K hK
     go_simp
     refine hK.out _ _ ?_ (fun Z3 => ?_)
     ·exact HS7.out _ (Z3C (B1 := dN.heap.size) (t := t) qT htl (fun k hk => by omega) hb1 hnp hrl (fun k hk => by omega) hcT ⟨by omega, by omega⟩).quiet
     clear hK K
     (try simp only [Act.put, zPA, zPZ, zPS])
     have HG := Z3C (B1 := dN.heap.size) (t := t) qT htl (fun k hk => by omega) hb1 hnp hrl (fun k hk => by omega) hcT ⟨by omega, by omega⟩
     unfold fiveSet at HG
     refine zD ?_
     generalize (((((dT.setCell ⟨tq, 0, none⟩ (.int .u64 (t.id : Int))).setCell ⟨tq, 1, none⟩ (.string t.name)).setCell ⟨tq, 2, none⟩ (.slice A2 t.cols.length c2)).setCell ⟨tq, 3, none⟩ (.int .u64 (t.xmin : Int))).setCell ⟨tq, 4, none⟩ (.int .u64 (t.xmax : Int))) = WF at HG ⊢
     generalize dN.heap.size = BN at HG
     exact KEY _ _ _ _ _ _ HG
    refine zA ?_ AllReadyH.nil
    intro K hK
    go_simp
    refine hK.out _ _ ?_ (fun Z3 => ?_)
    ·exact HS7.out _ (q0.alloc _)
    clear hK K
    (try simp only [Act.put, zPA, zPZ, zPS])
    have qA : Quiet W1 (d0.alloc (.cells #[.int .u64 0, .string ⟨#[]⟩, .slice none 0 0, .int .u64 0, .int .u64 0] 98)) := q0.alloc _
    have hb1 := Z5 d0 (.cells #[.int .u64 0, .string ⟨#[]⟩, .slice none 0 0, .int .u64 0, .int .u64 0] 98)
    have hnp : W1.heap.size <= d0.heap.size := q0.size
    have hzA := Z2 hb1
    obtain ⟨tq, htq⟩ : ∃ tq, d0.heap.size = tq := ⟨_, rfl⟩
    rw [htq] at hb1 hnp hzA ⊢
    generalize d0.alloc (.cells #[.int .u64 0, .string ⟨#[]⟩, .slice none 0 0, .int .u64 0, .int .u64 0] 98) = dA at *
    refine zR 0 ?_
    intro K hK
    go_simp
    go_at_call 34
    refine (Zda _).mono ?_
    rintro e dN ⟨rfl, hqN, hN0, hN1⟩
    have qN := qA.trans hqN
    have htl := (Zbw hqN hN0 hN1).mono (D' := fun k => dA.heap.size <= k /\ k < dN.heap.size) (fun k a b => ⟨a, b⟩)
    have hzN := hqN.size
    have hzn := qA.size
    obtain ⟨nb, hnb⟩ : ∃ nb, dA.heap.size + 1 = nb := ⟨_, rfl⟩
    rw [hnb] at htl ⊢
    have hb1 := hqN.get hb1 (fun x => x)
    clear hqN hN0 hN1 hnb
    dsimp only
    refine hK.out _ _ ?_ (fun Z3 => ?_)
    ·exact HS7.out _ qN
    clear hK K
    (try simp only [Act.put, zPA, zPZ, zPS])
    refine zR 4 ?_
    intro K hK
    go_simp
    go_at_call 35
    refine (HTBL.out _ qN).mono ?_
    rintro e dT ⟨A2, c2, rfl, hqT, hrT, hcT⟩
    have qT := qN.trans hqT
    have htl := htl.kept hqT (fun _ _ x => x)
    have hrl := Z8N hrT
    have hzT := hqT.size
    have hb1 := hqT.get hb1 (fun x => x)
    clear hqT hrT
    unfold Z06
    dsimp only
    refine hK.out _ _ ?_ (fun Z3 => ?_)
    ·exact HS7.out _ qT
    clear hK K
    (try simp only [Act.put, zPA, zPZ, zPS])
    obtain ⟨z0, z1, z2, z3, z4⟩ := zC5 hb1
    have zf := fun o => Z7 hb1 o
    refine zT 6 ?_
    refine zR 7 ?_
    intro K hK
    go_simp
    refine hK.out _ _ ?_ (fun Z3 => ?_)
    ·exact HS7.out _ (Z3C (B1 := dN.heap.size) (t := t) qT htl (fun k hk => by omega) hb1 hnp hrl (fun k hk => by omega) hcT ⟨by omega, by omega⟩).quiet
    clear hK K
    (try simp only [Act.put, zPA, zPZ, zPS])
    have HG := Z3C (B1 := dN.heap.size) (t := t) qT htl (fun k hk => by omega) hb1 hnp hrl (fun k hk => by omega) hcT ⟨by omega, by omega⟩
    unfold fiveSet at HG
    refine zD ?_
    generalize (((((dT.setCell ⟨tq, 0, none⟩ (.int .u64 (t.id : Int))).setCell ⟨tq, 1, none⟩ (.string t.name)).setCell ⟨tq, 2, none⟩ (.slice A2 t.cols.length c2)).setCell ⟨tq, 3, none⟩ (.int .u64 (t.xmin : Int))).setCell ⟨tq, 4, none⟩ (.int .u64 (t.xmax : Int))) = WF at HG ⊢
    generalize dN.heap.size = BN at HG
    exact KEY _ _ _ _ _ _ HG
  case key =>
   intro nb tq B1 A2 c2 W HN0
   have HNL := zh HN0
   clear HN0 HS7 HTBL
   have HHZ : Hid (Calls Tryz.prog 36 #[ptrV sb] W (Z4G W { s with T := [t], I := [⟨nid, name, t.id, 0, y.own, 0⟩], blast := nid })) := Z2Q (HSA.out.quietly HNL.out.quiet) HNN.out.1 HNN.out.2.1 HNN.out.2.2
   go_wp2_with fail
   refine HHZ.out.mono ?_
   rintro e W2 ⟨hz0, rfl, _, hqz⟩
   have HQZ : Hid (Quiet W1 W2) := HNL.out.quiet.trans hqz
   have HPLC : Hid (Calls Tryz.prog 37 #[ptrV sb, .int .u64 (t.id : Int)] W2 (Z1b W2 (ZO H H.length))) := Z6w (HSA.out.quietly HQZ.out) HID.out HHH.out (fun k hk => by have := HPL.out k hk; omega)
   have hx2 := HQZ.out.get HBX.out (fun x => x)
   have xc2 : W2.cell? ⟨xi, 2, none⟩ = some (.int .u64 (t.id : Int)) := by rw [Z1 hx2]; rfl
   have lxi := Z2 hx2
   clear hx2 HHZ
   go_wp2_with fail
   refine HPLC.out.mono ?_
   rintro e W3 ⟨vp, rfl, hqp, hnp, hrp⟩
   obtain ⟨A3, c3, rfl, hc3, hm3, hrd3⟩ := Z9 hrp
   have HQ3 : Hid (Quiet W1 W3) := HQZ.out.trans hqp
   have HNQ : Hid (Quiet W W3) := hqz.trans hqp
   obtain ⟨pl, hpl⟩ : ∃ pl, ZO H H.length = pl := ⟨_, rfl⟩
   have HPN : Hid (∀ a ∈ pl, ∃ v, ZR H a.1 a.2 = some v) := by rw [<- hpl]; exact fun a ha => Z5c ha
   have HLEN : Hid (pl.length <= 10000) := by rw [<- hpl]; exact HPL.out H.length (Nat.le_refl _)
   rw [hpl] at hrd3 hc3 ⊢
   have HPLE := zh hpl
   obtain ⟨m, hm⟩ : ∃ m, pl.length = m := ⟨_, rfl⟩
   rw [hm] at HLEN hc3
   have HM := zh hm
   have HRP : Hid (Rd W3 (fun k => W2.heap.size <= k /\ k < W3.heap.size) 2 A3 pl.length (ZM pl)) := (Z8N hrd3).mono (fun k hk => ⟨by rw [hpl] at hnp; exact hnp k hk.1, hk.2⟩)
   rw [hm]
   unfold maxLen at hm3
   obtain ⟨D0, hD0⟩ : ∃ D0 : Nat -> Prop, (fun k => W1.heap.size <= k /\ k < B1 /\ k ≠ tq) = D0 := ⟨_, rfl⟩
   have HD0 : Hid (∀ k, D0 k -> W1.heap.size <= k /\ k < B1 /\ k ≠ tq) := by rw [<- hD0]; exact fun k hk => hk
   have HT3 : Hid (Z08 W3 (fun j => D0 j ∨ W3.heap.size <= j) nb (Z1H H s.L hz0 (pl.take 0))) := by
    have h1 := HNL.out.tree.kept HNQ.out (fun _ _ x => x)
    rw [hD0] at h1
    exact h1.mono (fun k a _ => Or.inl a)
   have HB3 : Hid (W3.heap[tq]? = some (.cells #[.int .u64 (t.id : Int), .string t.name, .slice A2 t.cols.length c2, .int .u64 (t.xmin : Int), .int .u64 (t.xmax : Int)] 98 (0, 0)) /\ W3.heap[xi]? = some (.cells #[.int .u64 (nid : Int), .string name, .int .u64 (t.id : Int), .int .i64 0, .int .u64 (y.own : Int), .int .u64 0] 92 (0, 0))) := ⟨HNQ.out.get HNL.out.box (fun x => x), HQ3.out.get HBX.out (fun x => x)⟩
   have HCL3 : Hid (Rd W3 (fun k => B1 <= k /\ k ≠ tq) 2 A2 t.cols.length (ZP t.cols)) := HNL.out.cols.1.kept HNQ.out (fun _ _ x => x)
   have HZ : Hid (xi < W1.heap.size /\ W1.heap.size <= tq /\ tq < W3.heap.size /\ W1.heap.size <= W3.heap.size /\ B1 <= W2.heap.size /\ W2.heap.size <= W3.heap.size) := ⟨Z2 HBX.out, HNL.out.new, Z2 HB3.out.1, HQ3.out.size, Nat.le_trans HNL.out.big.2 hqz.size, hqp.size⟩
   clear hqz hqp hnp hrp hrd3 hpl hm HPLC xc2 lxi hD0
   go_wp2_with fail
   go_loopw [61, 19, 20, 21] (fun i _ _ _ wr => ∃ k : Nat, k <= m /\ i = .int .i64 (k : Int) /\ Z0 D0 W3 wr /\ Z08 wr (fun j => D0 j ∨ W3.heap.size <= j) nb (Z1H H s.L hz0 (pl.take k))) (fun i _ _ _ _ => m - (intOf i).toNat)
   case atStart => exact ⟨0, Nat.zero_le _, rfl, Z0.refl _ _, HT3.out⟩
   case round =>
    obtain ⟨k, hk, rfl, ho, htr⟩ := hrel
    have HO := zh ho
    have HTR := zh htr
    clear ho htr
    have HOW : Hid (Z0 D0 W1 wr) := (HQ3.out.mono (fun _ _ x => x.elim)).trans HO.out
    have HSR : Hid (Zh wr sb o1 { s with T := [t], I := [⟨nid, name, t.id, 0, y.own, 0⟩], blast := nid } lb bb pb mh mt ms fh ft fs) := HST.out.kept HOW.out (fun k x => HST.out.big k (HD0.out k x).1)
    by_cases hlt : k < m
    ·obtain ⟨⟨pg, sl⟩, ha⟩ : ∃ a, pl[k]? = some a := ⟨_, zg (by have := HM.out; omega)⟩
     obtain ⟨v, hgv⟩ := HPN.out (pg, sl) (List.mem_of_getElem? ha)
     obtain ⟨hx1, hx2, n, hn, hdat⟩ := HINT.out pg sl v hgv
     obtain ⟨bl, ofl, rfl, _, la, lb2⟩ := Z3K (HRP.out.kept HO.out (fun k hk e => by have := HD0.out k e; have := HZ.out; omega)) ha
     have HV1 := zh (And.intro hx1 hx2)
     have HNV := zh (And.intro hn hdat)
     obtain ⟨es, hes⟩ : ∃ es, Z1H H s.L hz0 (pl.take k) = es := ⟨_, rfl⟩
     have HEL : Hid (es.length <= 10000) := by
      rw [<- hes]
      have h1 := Zex H s.L hz0 (pl.take k)
      rw [List.length_take] at h1
      have := HLEN.out
      show (Z1H H s.L hz0 (pl.take k)).length <= 10000
      omega
     have HBS : Hid (Z1H H s.L hz0 (pl.take (k + 1)) = if Z0v s.L v.xmin v.xmax hz0 then es else Z1j ⟨ZN n, pg, sl⟩ es) := by
      show _ = _
      rw [List.take_add_one, ha, Option.toList_some, Z7p, hes]
      show (match ZR H pg sl with | some v => if Z0v s.L v.xmin v.xmax hz0 then es else Z1j ⟨ZN (Z5K v.data), pg, sl⟩ es | none => es) = _
      rw [hgv]
      show (if Z0v s.L v.xmin v.xmax hz0 then es else Z1j ⟨ZN (Z5K v.data), pg, sl⟩ es) = _
      rw [hdat, Za6]
     rw [hes] at HTR
     have HGV := zh hgv
     have hqb : Quiet wr (wr.alloc (.cells #[.int .i64 pg, .int .i64 sl] 48)) := (Z0.refl _ _).alloc _
     have hat := Z5 wr (.cells #[.int .i64 pg, .int .i64 sl] 48)
     obtain ⟨at_, hat_⟩ : ∃ at_, wr.heap.size = at_ := ⟨_, rfl⟩
     have HAT_ := zh hat_
     dsimp only at la lb2
     clear ha hgv hx1 hx2 hn hdat hes
     go_wp2_with fail
     (try rw [hat_] at hat)
     (try rw [hat_])
     generalize wr.alloc (.cells #[.int .i64 pg, .int .i64 sl] 48) = wb at *
     have HQB := zh hqb
     have HAT := zh hat
     clear la lb2 hat hqb hat_
     have hx3 : wr.heap[xi]? = _ := HO.out.get HB3.out.2 (fun x => by have := HD0.out _ x; have := HZ.out; omega)
     have HXR := zh hx3
     have HTQR := zh (HO.out.get HB3.out.1 (fun x => (HD0.out _ x).2.2 rfl))
     clear hx3
     have HS5 : Hid (∀ W, Quiet wb W -> (fun w' => w'.cell? ⟨sb, 3, none⟩ = some (.map (some mh)) /\ w'.cell? ⟨xi, 2, none⟩ = some (.int .u64 (t.id : Int)) /\ w'.cell? ⟨at_, 0, none⟩ = some (.int .i64 pg) /\ w'.cell? ⟨at_, 1, none⟩ = some (.int .i64 sl) /\ (Instr.lookup 74 (.map (some mh)) (.int .u64 (t.id : Int)) false).run Tryz.prog w' = .ok (ptrV hb) w') W) := fun W hq => by
      have hq2 := HQB.out.trans hq
      have h2 := HSR.out.quietly hq2
      have bx := hq2.get HXR.out (fun x => x)
      have b7 := hq.get HAT.out (fun x => x)
      exact ⟨h2.cells.2.2.2.1, by rw [Z1 bx]; rfl, by rw [Z1 b7]; rfl, by rw [Z1 b7]; rfl, Z1n h2.mH HFH.out HID.out⟩
     have HGET : Hid (∀ W, Quiet wb W -> Calls Tryz.prog 38 #[ptrV hb, .agg #[.int .i64 pg, .int .i64 sl]] W (Z21 W v)) := fun W hq => by
      have h2 := (HHP.out.kept (HQ2.out.mono (T := fun k => o k = 3) (fun _ _ x => x.elim)) (fun _ hk x => by omega)).kept HL.out.only (fun _ hk x => by omega)
      have h3 := h2.lim.kept HOW.out (fun k hk x => by have := (HD0.out k x).1; have := hk.2; omega)
      exact Z2J pg sl v ((h3.kept HQB.out (fun _ _ x => x)).kept hq (fun _ _ x => x)) HGV.out
     apply Z73 (wb := wb) (t := v)
     case main =>
           intro KEY
           refine zH HS5 (Z0.refl _ _).drew (fun Z3 => ?_)
           have q0 : Quiet wb wb.drew := (Z0.refl _ _).drew
           generalize wb.drew = d0 at q0 Z3 ⊢
           refine zT 0 ?_
           refine zT 1 ?_
           refine zT 2 ?_
           refine zT 3 ?_
           refine zT 4 ?_
           refine zT 5 ?_
           refine zT 6 ?_
           refine zT 7 ?_
           refine wpAnyH_ready (rs := [8, 12]) (by kernel_rfl) (by simp) ?_
           refine zA ?_ ?_
           · intro K hK
             go_simp
             go_at_call 38
             refine (HGET.out _ q0).mono ?_
             rintro e d2 ⟨A4, c4, rfl, hf4⟩
             have q2 := q0.trans hf4.quiet
             have hown := hf4.own
             have hfn : ∀ k, (Value.slice A4 v.data.length c4).ownBlock = some k -> wb.heap.size <= k := fun k e => Nat.le_trans (q0).size (hf4.new k e)
             clear hf4
             unfold Zt
             dsimp only
             refine hK.out _ _ ?_ (fun Z3 => ?_)
             · exact HS5.out _ q2
             clear hK K
             (try simp only [Act.put, zPA, zPZ, zPS])
             refine zT 9 ?_
             refine zT 10 ?_
             refine zT 11 ?_
             refine zR 12 ?_
             intro K hK
             go_simp
             refine hK.out _ _ ?_ (fun Z3 => ?_)
             · exact HS5.out _ (q2.alloc _)
             clear hK K
             (try simp only [Act.put, zPA, zPZ, zPS])
             have qd3 : Quiet wb (d2.alloc (.cells #[.int .u64 0, .int .u64 0, .int .u64 0, .int .i64 0, .int .i64 0, .slice none 0 0] 104)) := q2.alloc _
             have hb1 := Z5 d2 (.cells #[.int .u64 0, .int .u64 0, .int .u64 0, .int .i64 0, .int .i64 0, .slice none 0 0] 104)
             have hnp : wb.heap.size <= d2.heap.size := q2.size
             have hown := Z4 hown ((Z0.refl (fun _ => False) d2).alloc (.cells #[.int .u64 0, .int .u64 0, .int .u64 0, .int .i64 0, .int .i64 0, .slice none 0 0] 104)) (fun _ _ x => x)
             obtain ⟨pt, hpt⟩ : ∃ pt, d2.heap.size = pt := ⟨_, rfl⟩
             rw [hpt] at hb1 hnp ⊢
             generalize d2.alloc (.cells #[.int .u64 0, .int .u64 0, .int .u64 0, .int .i64 0, .int .i64 0, .slice none 0 0] 104) = d3 at *
             clear hpt
             obtain ⟨z0, z1, z2, z3, z4, z5⟩ := zC6 hb1
             have zf := fun o => Z7 hb1 o
             refine zR 13 ?_
             intro K hK
             go_simp
             refine hK.out _ _ ?_ (fun Z3 => ?_)
             · exact HS5.out _ (Z0G qd3 hb1 hnp hown hfn).quiet
             clear hK K
             (try simp only [Act.put, zPA, zPZ, zPS])
             have HG := Z0G qd3 hb1 hnp hown hfn
             unfold sixSet at HG
             refine zT 14 ?_
             refine zD ?_
             generalize ((((((d3.setCell ⟨pt, 0, none⟩ (.int .u64 v.row)).setCell ⟨pt, 1, none⟩ (.int .u64 v.xmin)).setCell ⟨pt, 2, none⟩ (.int .u64 v.xmax)).setCell ⟨pt, 3, none⟩ (.int .i64 v.pg)).setCell ⟨pt, 4, none⟩ (.int .i64 v.sl)).setCell ⟨pt, 5, none⟩ (.slice A4 v.data.length c4)) = WF at HG ⊢
             exact KEY _ _ _ _ HG
           refine zA ?_ AllReadyH.nil
           intro K hK
           go_simp
           refine hK.out _ _ ?_ (fun Z3 => ?_)
           · exact HS5.out _ (q0.alloc _)
           clear hK K
           (try simp only [Act.put, zPA, zPZ, zPS])
           have qd1 : Quiet wb (d0.alloc (.cells #[.int .u64 0, .int .u64 0, .int .u64 0, .int .i64 0, .int .i64 0, .slice none 0 0] 104)) := q0.alloc _
           have hb1 := Z5 d0 (.cells #[.int .u64 0, .int .u64 0, .int .u64 0, .int .i64 0, .int .i64 0, .slice none 0 0] 104)
           have hnp : wb.heap.size <= d0.heap.size := q0.size
           obtain ⟨pt, hpt⟩ : ∃ pt, d0.heap.size = pt := ⟨_, rfl⟩
           rw [hpt] at hb1 hnp ⊢
           generalize d0.alloc (.cells #[.int .u64 0, .int .u64 0, .int .u64 0, .int .i64 0, .int .i64 0, .slice none 0 0] 104) = d1 at *
           clear hpt
           refine zR 8 ?_
           intro K hK
           go_simp
           go_at_call 38
           refine (HGET.out _ qd1).mono ?_
           rintro e d2 ⟨A4, c4, rfl, hf4⟩
           have q2 := qd1.trans hf4.quiet
           have hb2 := hf4.quiet.get hb1 (fun x => x)
           have hown := hf4.own
           have hfn : ∀ k, (Value.slice A4 v.data.length c4).ownBlock = some k -> wb.heap.size <= k := fun k e => Nat.le_trans (qd1).size (hf4.new k e)
           clear hf4
           unfold Zt
           dsimp only
           refine hK.out _ _ ?_ (fun Z3 => ?_)
           · exact HS5.out _ q2
           clear hK K
           (try simp only [Act.put, zPA, zPZ, zPS])
           obtain ⟨z0, z1, z2, z3, z4, z5⟩ := zC6 hb2
           have zf := fun o => Z7 hb2 o
           refine zT 9 ?_
           refine zT 10 ?_
           refine zT 11 ?_
           refine zR 13 ?_
           intro K hK
           go_simp
           refine hK.out _ _ ?_ (fun Z3 => ?_)
           · exact HS5.out _ (Z0G q2 hb2 hnp hown hfn).quiet
           clear hK K
           (try simp only [Act.put, zPA, zPZ, zPS])
           have HG := Z0G q2 hb2 hnp hown hfn
           unfold sixSet at HG
           refine zT 14 ?_
           refine zD ?_
           generalize ((((((d2.setCell ⟨pt, 0, none⟩ (.int .u64 v.row)).setCell ⟨pt, 1, none⟩ (.int .u64 v.xmin)).setCell ⟨pt, 2, none⟩ (.int .u64 v.xmax)).setCell ⟨pt, 3, none⟩ (.int .i64 v.pg)).setCell ⟨pt, 4, none⟩ (.int .i64 v.sl)).setCell ⟨pt, 5, none⟩ (.slice A4 v.data.length c4)) = WF at HG ⊢
           exact KEY _ _ _ _ HG
     case key =>
      intro A4 c4 pt W4 HL0
      have HG4 := zh HL0
      clear HL0 HS5 HGET
      have HQW : Hid (Quiet wr W4) := HQB.out.trans HG4.out.quiet
      have HS6 : Hid (∀ W', Quiet W4 W' -> (fun w' => w'.cell? ⟨sb, 0, none⟩ = some (ptrV lb) /\ w'.cell? ⟨pt, 0, none⟩ = some (.int .u64 v.row) /\ w'.cell? ⟨pt, 1, none⟩ = some (.int .u64 v.xmin) /\ w'.cell? ⟨pt, 2, none⟩ = some (.int .u64 v.xmax) /\ w'.cell? ⟨pt, 3, none⟩ = some (.int .i64 v.pg) /\ w'.cell? ⟨pt, 4, none⟩ = some (.int .i64 v.sl) /\ w'.cell? ⟨pt, 5, none⟩ = some (.slice A4 v.data.length c4)) W') := fun W' hq => by
       have bt := hq.get HG4.out.box (fun x => x)
       refine ⟨((HSR.out.quietly HQW.out).quietly hq).cells.1, ?_, ?_, ?_, ?_, ?_, ?_⟩ <;> (rw [Z1 bt]; rfl)
      obtain ⟨r, hrv⟩ : ∃ r, Z0v s.L v.xmin v.xmax hz0 = r := ⟨_, rfl⟩
      have HDEAD : Hid (∀ W', Quiet W4 W' -> Calls Tryz.prog 39 #[ptrV lb, Zt v A4 c4, .int .u64 (hz0 : Int)] W' (Z0p W' r)) := fun W' hq => by
       rw [<- hrv]
       exact Z6h v A4 c4 hz0 ((HSR.out.quietly HQW.out).quietly hq).log HV1.out.1 HV1.out.2
      rw [hrv] at HBS
      unfold Zt at HDEAD
      clear hrv
      go_wp2_with fail
      refine zH HS6 (Z0.refl _ _).drew (fun Z3 => ?_)
      have q6 : Quiet W4 W4.drew := (Z0.refl _ _).drew
      generalize W4.drew = d6 at q6 Z3 ⊢
      refine zT 0 ?_
      refine zT 1 ?_
      refine zT 2 ?_
      refine zT 3 ?_
      refine zT 4 ?_
      refine zT 5 ?_
      refine zR 6 ?_
      intro K hK
      go_simp
      go_at_call 39
      refine (HDEAD.out _ q6).mono ?_
      rintro e d7 ⟨rfl, hq7⟩
      have q7 := q6.trans hq7
      clear hq7
      dsimp only
      refine hK.out _ _ ?_ (fun Z3 => ?_)
      ·exact HS6.out _ q7
      clear hK K
      (try simp only [Act.put, zPA, zPZ, zPS])
      refine zD ?_
      clear Z3
      have HQ7 : Hid (Quiet wr d7) := HQW.out.trans q7
      rcases r with _ | _
      ·have HT7 : Hid (Z08 d7 (fun j => D0 j ∨ (W3.heap.size <= j /\ j < wr.heap.size)) nb es) := by
        have h1 := HTR.out.mono (D' := fun j => D0 j ∨ (W3.heap.size <= j /\ j < wr.heap.size)) (fun k a b => by rcases a with a | a; exact Or.inl a; exact Or.inr ⟨a, b⟩)
        exact h1.kept HQ7.out (fun _ _ x => x)
       have HP7 : Hid (d7.heap[pt]? = some (.cells (tupCells v A4 c4) 104 (0, 0)) /\ d7.heap[at_]? = some (.cells #[.int .i64 pg, .int .i64 sl] 48 (0, 0)) /\ wr.heap.size <= pt /\ wr.heap.size <= at_) := ⟨q7.get HG4.out.box (fun x => x), q7.get (HG4.out.quiet.get HAT.out (fun x => x)) (fun x => x), Nat.le_trans HQB.out.size HG4.out.new, by rw [HAT_.out]; exact Nat.le_refl _⟩
       have HZR : Hid (W3.heap.size <= wr.heap.size) := HO.out.size
       have HS7 : Hid (∀ W', Z0 (fun j => D0 j ∨ (W3.heap.size <= j /\ j < wr.heap.size)) d7 W' -> (fun w' => w'.cell? ⟨tq, 0, none⟩ = some (.int .u64 (t.id : Int)) /\ w'.cell? ⟨tq, 1, none⟩ = some (.string t.name) /\ w'.cell? ⟨tq, 2, none⟩ = some (.slice A2 t.cols.length c2) /\ w'.cell? ⟨tq, 3, none⟩ = some (.int .u64 (t.xmin : Int)) /\ w'.cell? ⟨tq, 4, none⟩ = some (.int .u64 (t.xmax : Int)) /\ w'.cell? ⟨pt, 0, none⟩ = some (.int .u64 v.row) /\ w'.cell? ⟨pt, 1, none⟩ = some (.int .u64 v.xmin) /\ w'.cell? ⟨pt, 2, none⟩ = some (.int .u64 v.xmax) /\ w'.cell? ⟨pt, 3, none⟩ = some (.int .i64 v.pg) /\ w'.cell? ⟨pt, 4, none⟩ = some (.int .i64 v.sl) /\ w'.cell? ⟨pt, 5, none⟩ = some (.slice A4 v.data.length c4) /\ w'.cell? ⟨xi, 3, none⟩ = some (.int .i64 0) /\ w'.cell? ⟨at_, 0, none⟩ = some (.int .i64 pg) /\ w'.cell? ⟨at_, 1, none⟩ = some (.int .i64 sl)) W') := fun W' ho => by
        have hz := HZ.out
        have hzr := HZR.out
        have hp := HP7.out
        have b1 := Z0h (ho.get (HQ7.out.get HTQR.out (fun x => x)) (fun e => by rcases e with e | e; exact (HD0.out _ e).2.2 rfl; omega))
        have b2 := ho.get hp.1 (fun e => by rcases e with e | e; (have := HD0.out _ e; omega); omega)
        have b3 := ho.get (HQ7.out.get HXR.out (fun x => x)) (fun e => by rcases e with e | e; (have := HD0.out _ e; omega); omega)
        have b4 := ho.get hp.2.1 (fun e => by rcases e with e | e; (have := HD0.out _ e; omega); omega)
        exact ⟨b1.1, b1.2.1, b1.2.2.1, b1.2.2.2.1, b1.2.2.2.2, by rw [Z1 b2]; rfl, by rw [Z1 b2]; rfl, by rw [Z1 b2]; rfl, by rw [Z1 b2]; rfl, by rw [Z1 b2]; rfl, by rw [Z1 b2]; rfl, by rw [Z1 b3]; rfl, by rw [Z1 b4]; rfl, by rw [Z1 b4]; rfl⟩
       have hd9 : v.data.length = 9 := by rw [HNV.out.2]; exact Z0j n
       have HKEY : Hid (∀ W', Quiet d7 W' -> Calls Tryz.prog 41 #[.agg #[.int .u64 (t.id : Int), .string t.name, .slice A2 t.cols.length c2, .int .u64 (t.xmin : Int), .int .u64 (t.xmax : Int)], .agg #[.int .u64 v.row, .int .u64 v.xmin, .int .u64 v.xmax, .int .i64 v.pg, .int .i64 v.sl, .slice A4 v.data.length c4], .int .i64 0] W' (Z33 W' (ZN n))) := fun W' hq => by
        obtain ⟨A', c', e', hc4, hm4, hrd4⟩ := Z9 HG4.out.own
        injection e' with e1 _ e2
        subst e1 e2
        have hr4 := (hrd4.kept q7 (fun _ _ x => x)).kept hq (fun _ _ x => x)
        rw [hd9] at hc4 hr4 ⊢
        rw [HNV.out.2] at hr4
        have hcl := ((HCL3.out.kept HO.out (fun k hk e => by have := HD0.out k e; omega)).kept HQ7.out (fun _ _ x => x)).kept hq (fun _ _ x => x)
        have hk := Zaa (v := v) HCC.out hcl HNL.out.cols.2.1 HNL.out.cols.2.2 HNV.out.1 HNV.out.2 hr4 hc4 hm4
        unfold Z06 Zt at hk
        rw [hd9] at hk
        exact hk
       have HTIN : Hid (∀ W', Quiet d7 W' -> ∀ A9 c9 (S9 : Nat -> Prop), Rd W' S9 1 A9 (ZN n).length (Zg (ZN n)) -> Calls Tryz.prog 40 #[ptrV nb, .agg #[.slice A9 (ZN n).length c9, .int .i64 pg, .int .i64 sl]] W' (fun e w' => (∃ z : Int, e = .returned (.int .i64 z)) /\ Z0 (fun j => D0 j ∨ (W3.heap.size <= j /\ j < wr.heap.size)) W' w' /\ Z08 w' (fun k => (D0 k ∨ (W3.heap.size <= k /\ k < wr.heap.size)) ∨ W'.heap.size <= k) nb (Z1j ⟨ZN n, pg, sl⟩ es))) := fun W' hq A9 c9 S9 hr => by
        refine (Z7k W' (fun j => D0 j ∨ (W3.heap.size <= j /\ j < wr.heap.size)) nb es ⟨ZN n, pg, sl⟩ A9 c9 S9 (HT7.out.kept hq (fun _ _ x => x)) hr (Z8F HNV.out.1) (by show (ZN n).length <= 600; rw [Z7m]; omega) HEL.out).mono ?_
        intro e w' hp
        unfold Z1j
        rcases hp with ⟨h1, h2, h3, h4⟩ | ⟨h1, h2, h3, h4⟩
        ·rw [if_pos h1]; exact ⟨⟨_, h2⟩, h3, h4⟩
        ·rw [if_neg h1]; exact ⟨⟨_, h2⟩, h3, h4⟩
       have HQ67 : Hid (Quiet W4 d7) := q7
       clear q6 q7 HS6 HDEAD hd9
       go_wp2_with fail
       refine zH HS7 ((Z0.refl _ _).drew) (fun Z3 => ?_)
       have q8 : Quiet d7 d7.drew := (Z0.refl _ _).drew
       generalize d7.drew = d8 at q8 Z3 ⊢
       refine zT 0 ?_
       refine zT 1 ?_
       refine zT 2 ?_
       refine zT 3 ?_
       refine zT 4 ?_
       refine zT 6 ?_
       refine zR 5 ?_
       intro K hK
       go_simp
       go_at_call 41
       refine (HKEY.out _ q8).mono ?_
       rintro e d9 ⟨v9, rfl, hf9⟩
       obtain ⟨A9, c9, rfl, hc9, hm9, hrd9⟩ := Z9 hf9.own
       have q9 := q8.trans hf9.quiet
       dsimp only
       refine hK.out _ _ ?_ (fun Z3 => ?_)
       ·exact HS7.out _ (q9.mono (fun _ _ x => x.elim))
       clear hK K
       (try simp only [Act.put, zPA, zPZ, zPS])
       refine zT 7 ?_
       refine zR 8 ?_
       intro K hK
       go_simp
       go_at_call 40
       refine (HTIN.out _ q9 A9 c9 _ (by exact hrd9)).mono ?_
       rintro e d10 ⟨⟨ze, rfl⟩, ho10, ht10⟩
       dsimp only
       refine hK.out _ _ ?_ (fun Z3 => ?_)
       ·exact HS7.out _ ((q9.mono (fun _ _ x => x.elim)).trans ho10)
       clear hK K
       (try simp only [Act.put, zPA, zPZ, zPS])
       refine zD ?_
       have hz9 := q9.size
       have hz7 := HQ7.out.size
       have Zc : Hid (Z0 D0 W3 d10 /\ Z08 d10 (fun j => D0 j ∨ W3.heap.size <= j) nb (Z1H H s.L hz0 (pl.take (k + 1)))) := by
        have hzr := HZR.out
        refine ⟨((HO.out.trans' HQ7.out (fun _ _ x => x.elim)).trans' q9 (fun _ _ x => x.elim)).trans' ho10 (fun j hj e => by rcases e with e | e; exact e; omega), ?_⟩
        rw [HBS.out]
        exact ht10.mono (fun j a _ => by rcases a with (a | a) | a; exact Or.inl a; exact Or.inr a.1; exact Or.inr (by omega))
       clear Z3 q8 q9 ho10 ht10 hf9 hc9 hm9 hrd9 HS7 HKEY HTIN hz9 hz7
       go_wp2
       go_roundw
       case rel => exact ⟨k + 1, by omega, by go_num, Zc.out.1, Zc.out.2⟩
       case measure => simp [intOf]; omega
      ·have Zc : Hid (Z0 D0 W3 d7 /\ Z08 d7 (fun j => D0 j ∨ W3.heap.size <= j) nb (Z1H H s.L hz0 (pl.take (k + 1)))) := by
        refine ⟨HO.out.trans' HQ7.out (fun _ _ x => x.elim), ?_⟩
        rw [HBS.out]
        exact HTR.out.kept HQ7.out (fun _ _ x => x)
       clear q6 q7 HS6 HDEAD
       go_wp2
       go_roundw
       case rel => exact ⟨k + 1, by omega, by go_num, Zc.out.1, Zc.out.2⟩
       case measure => simp [intOf]; omega
    ·obtain rfl : k = m := by omega
     have HMT : Hid (Z09 wr mt ft) := HSR.out.mT
     have c4 := HSR.out.cells.2.2.2.2.1
     have x0 : wr.cell? ⟨xi, 0, none⟩ = some (.int .u64 (nid : Int)) := by
      rw [Z1 (HO.out.get HB3.out.2 (fun x => by have := HD0.out _ x; have := HZ.out; omega))]
      rfl
     have HX : Hid (U64 nid) := by have := HNID.out; have := HLU.out.1; unfold Hid U64; omega
     clear hlt hk
     go_wp2_with fail
     refine Z0V (S := (fun w' => w'.cell? ⟨sb, 4, none⟩ = some (.map (some mt)) /\ w'.cell? ⟨xi, 0, none⟩ = some (.int .u64 (nid : Int)) /\ Quiet wr w')) (by kernel_rfl) (by kernel_rfl) (by simp) (⟨c4, x0, (Z0.refl _ _).drew⟩) (fun Z3 => ?_)
     simp only [List.pop_toArray, List.dropLast, List.size_toArray, List.length_cons, List.length_nil, Nat.reduceAdd, Nat.reduceSub]
     refine zT 0 ?_
     refine zT 1 ?_
     refine zT 2 ?_
     refine zT 3 ?_
     refine zT 4 ?_
     refine zT 5 ?_
     refine zT 6 ?_
     refine zD ?_
     refine Z29 (o := ?_) ?_ ?_
     rotate_left 1
     (focus (simp only [zGA, zGZ, zGS] <;> rfl))
     intro K hK
     refine Zbx (.tmp 97) (.tmp 99) (.tmp 100) rfl (HMT.out.kept Z3.2.2 (fun x => x)) Tryz.underlying75 Tryz.underlying34 rfl rfl rfl HX.out ?_
     intro w6 hm6 ho6
     refine hK.out _ _ ?_
     clear hK K
     have hm7 : Z09 w6 mt (upd ft nid (some (ptrV nb))) := hm6
     have Zc : Hid (Z8 (.returned (.int .i64 0)) w6) := by
      rw [<- Zb.out]
      have hn := HNID.out
      subst hn
      have hb := HTR.out
      rw [List.take_of_length_le (by have := HM.out; omega), <- HPLE.out] at hb
      have hz := HZ.out
      refine ⟨hz0, rfl, ZhR HH.out HQ2.out HL.out ((HOW.out.mono (fun k _ x => (HD0.out k x).1)).trans' Z3.2.2 (fun _ _ x => x.elim)) ((hb.kept Z3.2.2 (fun _ _ x => x)).mono (fun j a _ => by rcases a with a | a; exact (HD0.out j a).1; omega)) ho6 hm7⟩
     clear hm6 hm7 ho6 Z3 HMT
     dsimp only [Act.put]
     go_wp2
     exact Zc.out
theorem Zdo : Z2D ⟨#[105]⟩ := ⟨by decide, by decide, fun i h => by
  obtain rfl : i = 0 := by have : i < 1 := h; omega
  decide +revert⟩
theorem Zdp : ((⟨#[116]⟩ : ByteArray).toList == (⟨#[105]⟩ : ByteArray).toList) = false := by
 rw [Lib.toList_data, Lib.toList_data]
 decide
section
variable {w0 w : World} {sb : Nat} {K : Nat -> Prop} {H : List (List (Option Tup))} {left last i c : Nat} {oi : Option (List Ent)}
end
def a0 : Tup := ⟨1, 1, 0, -1, -1, rowI 0⟩
def a1 : Tup := ⟨1, 1, 0, -1, -1, rowI 1⟩
def aH1 : List (List (Option Tup)) := [[some a0]]
def aH2 : List (List (Option Tup)) := [[some (a0.stamp 1 0 1), some a0]]
def aH3 : List (List (Option Tup)) := [[some (a0.stamp 1 0 1), some (a0.stamp 1 0 2), some a1]]
def aE1 : List Ent := Z1j ⟨ZN 0, 0, 0⟩ []
def aE2 : List Ent := Z1j ⟨ZN 0, 0, 1⟩ aE1
def aE3 : List Ent := Z1j ⟨ZN 1, 0, 2⟩ aE2
def stF (H : List (List (Option Tup))) (left last : Nat) (es : List Ent) : St := ⟨[2], [tabA], [idxA], 2, left, upd (fun _ => none) 1 (some H), upd (fun _ => none) 2 (some es), upd (upd (fun _ => none) 1 (some (ZT [1] 1))) 1 none, last⟩
theorem Zc2 (H : List (List (Option Tup))) (left last : Nat) (es : List Ent) (x : Nat) : (stF H left last es).sn x = none := by
 show upd (upd (fun _ => none) 1 (some (ZT [1] 1))) 1 none x = none
 by_cases e : x = 1
 ·rw [e]; simp [upd]
 ·simp [upd, e]
section
variable {w0 w : World} {sb : Nat} {K : Nat -> Prop}
theorem ZiB (h : Zz w0 w sb K (stE [] 10 0 none)) :
  Calls Tryz.prog 11 #[ptrV sb, .int .u64 1, .string ⟨#[105]⟩, .string ⟨#[116]⟩, .string ⟨#[97]⟩] w fun e w' => e = .returned (.int .i64 0) /\ Z0L w0 w sb K (stE [] 10 0 (some [])) w' := by
 obtain ⟨o, h1, h2, h3, h4⟩ := h
 have hz0 : ∀ k, k <= ([] : List (List (Option Tup))).length -> (ZO [] k).length <= 10000 := fun k hk => by
  obtain rfl : k = 0 := by simpa using hk
  exact Nat.zero_le _
 refine (Z7u (x := 1) (y := ZT [1] 1) (t := tabA) (nm := ⟨#[97]⟩) (N := 1) (H := []) h1 (by unfold U64; omega) rfl rfl rfl rfl Z2c rfl (by unfold U64; decide) (by show 1 < 1000000; omega) (by unfold U64; decide) Zdo Zdp (by show 1 < 1000000000; omega) (fun x y e => ?_) (by omega) hz0 (fun pg sl v hv => by rw [Z1i (by simp; omega)] at hv; cases hv)).mono ?_
 ·rcases Nat.lt_or_ge 1 x with a | a
  ·have e' : upd (fun _ => none) 1 (some (ZT [1] 1)) x = some y := e
   rw [show upd (fun _ => none) 1 (some (ZT [1] 1)) x = (none : Option Zo) by simp [upd]; omega] at e'
   cases e'
  ·exact a
 ·rintro e w' ⟨hz, rfl, hst⟩
  exact ⟨rfl, Z13 h1 h2 h3 h4 hst⟩
theorem ZhS {Sv : Nat -> Prop} {A3 : Option Addr} {c3 : Nat} (h : Zz w0 w sb K (stE [] 10 0 (some []))) (hv : Rd w Sv 4 A3 1 (intRow 0)) (hc3 : 1 <= c3) (hm3 : c3 <= maxLen) :
  Calls Tryz.prog 12 #[ptrV sb, .int .u64 1, .string ⟨#[116]⟩, .slice A3 1 c3] w (fun e w' => e = .returned (.int .i64 0) /\ Z0L w0 w sb K (stE aH1 9 1 (some aE1)) w') := by
 refine (Z7n (x := 1) (y := ZT [1] 1) (t := tabA) (i := 0) (nm := ⟨#[97]⟩) (name := ⟨#[116]⟩) (n := 0) (p := 0) (q := 0) (H' := aH1) (left' := 9) h (by unfold U64; omega) rfl Z2c rfl rfl (by unfold U64; decide) (Z5O (fun es e => by injection e with e; rw [<- e]; decide)) rfl (by decide) (by omega) hv hc3 hm3 (by decide) (Zer (Z4i (by decide) (by decide)) (by decide))).mono ?_
 rintro e w' ⟨rfl, ht⟩
 rw [Z74] at ht
 exact ⟨rfl, ht⟩
theorem Zgs {Sv : Nat -> Prop} {A3 Ar : Option Addr} {c3 nr cr : Nat} (h : Zz w0 w sb K (stE aH1 9 1 (some aE1))) (hv : Rd w Sv 4 A3 1 (intRow 0)) (hc3 : 1 <= c3) (hm3 : c3 <= maxLen) :
  Calls Tryz.prog 15 #[ptrV sb, .int .u64 1, .string ⟨#[116]⟩, .agg #[.int .u64 1, .int .i64 0, .int .i64 0, .slice Ar nr cr], .slice A3 1 c3] w (fun e w' => e = .returned (.int .i64 0) /\ Z0L w0 w sb K (stE aH2 9 1 (some aE2)) w') := by
 refine (Z7o (x := 1) (y := ZT [1] 1) (t := tabA) (i := 0) (nm := ⟨#[97]⟩) (name := ⟨#[116]⟩) (n := 0) (p := 0) (q := 1) (H := aH1) (H1 := [[some a0, some a0]]) (H2 := aH2) (left' := 9) (pg := 0) (sl := 0) (z := 0) (v := a0) (code := 0) h (by unfold U64; omega) rfl Z2c rfl rfl (by unfold U64; decide) (Z5O (fun es e => by injection e with e; rw [<- e]; decide +kernel)) rfl (by decide) (by omega) hv hc3 hm3 rfl (by unfold U64; decide) (by unfold U64; decide) (by decide +kernel) (fun _ => ZbE (T := [some a0]) (fun s hs => ⟨a0, List.mem_singleton.1 hs, rfl⟩) (by decide) (Z4i (by decide) (by decide)) rfl) (Zes (v := a0) (T := [some a0]) (by decide) (by decide))).mono ?_
 intro e w' hp
 rw [if_pos rfl] at hp
 obtain ⟨rfl, ht⟩ := hp
 rw [Z74] at ht
 exact ⟨rfl, ht⟩
theorem ZhT : Z22 [[some (a0.stamp 1 0 1), some a0, some a1]] 0 1 1 0 2 = (0, aH3) := by
 unfold Z22
 rw [if_neg (by decide)]
 have : Z0a [some (a0.stamp 1 0 1), some a0, some a1] 1 1 0 2 = (0, [some (a0.stamp 1 0 1), some (a0.stamp 1 0 2), some a1]) := by
  unfold Z0a
  rw [if_neg (by decide +kernel)]
  rfl
 show ((Z0a [some (a0.stamp 1 0 1), some a0, some a1] 1 1 0 2).1, [(Z0a [some (a0.stamp 1 0 1), some a0, some a1] 1 1 0 2).2]) = _
 rw [this]
 rfl
theorem Zgt {Sv : Nat -> Prop} {A3 Ar : Option Addr} {c3 nr cr : Nat} (h : Zz w0 w sb K (stE aH2 9 1 (some aE2))) (hv : Rd w Sv 4 A3 1 (intRow 1)) (hc3 : 1 <= c3) (hm3 : c3 <= maxLen) :
  Calls Tryz.prog 15 #[ptrV sb, .int .u64 1, .string ⟨#[116]⟩, .agg #[.int .u64 1, .int .i64 0, .int .i64 1, .slice Ar nr cr], .slice A3 1 c3] w (fun e w' => e = .returned (.int .i64 0) /\ Z0L w0 w sb K (stE aH3 9 1 (some aE3)) w') := by
 refine (Z7o (x := 1) (y := ZT [1] 1) (t := tabA) (i := 0) (nm := ⟨#[97]⟩) (name := ⟨#[116]⟩) (n := 1) (p := 0) (q := 2) (H := aH2) (H1 := [[some (a0.stamp 1 0 1), some a0, some a1]]) (H2 := aH3) (left' := 9) (pg := 0) (sl := 1) (z := 0) (v := a0) (code := 0) h (by unfold U64; omega) rfl Z2c rfl rfl (by unfold U64; decide) (Z5O (fun es e => by injection e with e; rw [<- e]; decide +kernel)) rfl (by decide) (by omega) hv hc3 hm3 rfl (by unfold U64; decide) (by unfold U64; decide) (by decide +kernel) (fun _ => ZbE (T := [some (a0.stamp 1 0 1), some a0]) (fun s hs => by
   rcases List.mem_cons.1 hs with e | hs
   · exact ⟨_, e, rfl⟩
   · exact ⟨a0, List.mem_singleton.1 hs, rfl⟩) (by decide) (Z4i (by decide) (by decide)) rfl) ZhT).mono ?_
 intro e w' hp
 rw [if_pos rfl] at hp
 obtain ⟨rfl, ht⟩ := hp
 rw [Z74] at ht
 exact ⟨rfl, ht⟩
theorem ZiC (h : Zz w0 w sb K (stE aH1 9 1 (some aE1))) :
  Calls Tryz.prog 14 #[ptrV sb, .int .u64 1, .string ⟨#[116]⟩] w (Z2j w [(1, 0, 0, 0)]) :=
 ZbD (x := 1) (y := ZT [1] 1) (t := tabA) (i := 0) (nm := ⟨#[97]⟩) (H := aH1) h (by unfold U64; omega) rfl Z2c rfl rfl (by unfold U64; decide) rfl (Z6D (by decide)) (Z9j (fun s hs => by
     rw [List.mem_singleton] at hs
     exact ⟨a0, hs, by unfold U64; decide, by unfold U64; decide, 0, by omega, rfl⟩))
theorem ZiD (h : Zz w0 w sb K (stE aH2 9 1 (some aE2))) :
  Calls Tryz.prog 14 #[ptrV sb, .int .u64 1, .string ⟨#[116]⟩] w (Z2j w [(1, 0, 1, 0)]) :=
 ZbD (x := 1) (y := ZT [1] 1) (t := tabA) (i := 0) (nm := ⟨#[97]⟩) (H := aH2) h (by unfold U64; omega) rfl Z2c rfl rfl (by unfold U64; decide) rfl (Z6D (by decide)) (Z9j (fun s hs => by
     rcases List.mem_cons.1 hs with e | hs
     · exact ⟨_, e, by unfold U64; decide, by unfold U64; decide, 0, by omega, rfl⟩
     · rw [List.mem_singleton] at hs
       exact ⟨a0, hs, by unfold U64; decide, by unfold U64; decide, 0, by omega, rfl⟩))
theorem ZiE : Z5o aH3 := Z9j (fun s hs => by
  rcases List.mem_cons.1 hs with e | hs
  · exact ⟨_, e, by unfold U64; decide, by unfold U64; decide, 0, by omega, rfl⟩
  · rcases List.mem_cons.1 hs with e | hs
    · exact ⟨_, e, by unfold U64; decide, by unfold U64; decide, 0, by omega, rfl⟩
    · rw [List.mem_singleton] at hs
      exact ⟨a1, hs, by unfold U64; decide, by unfold U64; decide, 1, by omega, rfl⟩)
theorem Zj7 : Z19 (stF aH3 9 1 aE3) 2 := by
 refine ⟨fun _ => rfl, ?_, ?_, by unfold U64; decide⟩
 ·rintro ⟨x, y, e⟩
  rw [Zc2] at e
  cases e
 ·intro x y e
  rw [Zc2] at e
  cases e
theorem ZiF : Z2v (stF aH3 9 1 aE3) 2 := by
 refine ⟨?_, ?_⟩
 ·intro t ht
  obtain rfl : t = tabA := List.mem_singleton.1 ht
  decide +kernel
 ·intro x hx
  obtain rfl : x = idxA := List.mem_singleton.1 hx
  decide +kernel
theorem Zj8 : ∀ T ∈ aH3, Z0X T := by
 intro T hT
 obtain rfl : T = [some (a0.stamp 1 0 1), some (a0.stamp 1 0 2), some a1] := List.mem_singleton.1 hT
 unfold Z0X
 decide +kernel
theorem ZiY : Z2m aH3 := fun pg sl v hv => by
 obtain ⟨x1, x2, _⟩ := ZiE pg sl v hv
 exact ⟨x1, x2⟩
theorem ZiZ : Z5w (stF aH3 9 1 aE3) tabA aH3 2 1 := by
 refine ⟨rfl, by decide, Zj7, ZiF, by decide, ?_, by decide, rfl, by unfold U64; decide, Zj8, ZiY, by decide, by decide⟩
 intro x y e
 rw [Zc2] at e
 cases e
theorem Zgu : Z16 (stF aH3 9 1 aE3) 2 aH3 aH3.length = [(0, 0), (0, 1)] := by decide +kernel
theorem Zj0 : usedH (Z0H [2] 2 aH3 (Z16 (stF aH3 9 1 aE3) 2 aH3 aH3.length)) = 1 := by decide +kernel
theorem Zj1 : (Z1w (Z16 (stF aH3 9 1 aE3) 2 aH3 aH3.length) aE3).length = 1 := by decide +kernel
theorem ZhU {a b : Int} (h1 : 0 <= a /\ a < 1000) (h2 : 0 <= b /\ b < 1000) : Wf (a, b) := by
 unfold Wf
 exact ⟨Zd5 (by show _ <= a /\ a < _; omega), Zd5 (by show _ <= b /\ b < _; omega)⟩
theorem Zc3 {s : St} {t : TE} {H : List (List (Option Tup))} (h : Zz w0 w sb K s) (hT : s.T = [t]) (hI : s.I.length <= 1000) (hid : U64 t.id) (hH : s.hs t.id = some H) :
  Calls Tryz.prog 17 #[ptrV sb] w (Z2i w [usedH H]) := by
 obtain ⟨o, h1, _⟩ := h
 exact ZeG h1 hT hI hid hH
theorem ZcY {s : St} {t : TE} (h : Zz w0 w sb K s) (hT : s.T = [t]) (hI : s.I.length <= 1000) (hid : U64 t.id) (hx : ∀ e ∈ ZQ s.L t.id s.I, U64 e.id /\ ∃ es, s.ts e.id = some es) :
  Calls Tryz.prog 24 #[ptrV sb] w (Z2i w ((ZQ s.L t.id s.I).map (fun e => ((s.ts e.id).getD []).length))) := by
 obtain ⟨o, h1, _⟩ := h
 exact ZaJ h1 hT hI hid hx
end
theorem Z6I {w wr : World} {v : Value} {n : Nat} (h : Z1R w wr v [n]) : ∃ b c, v = .slice (some ⟨b, 0, none⟩) 1 c /\ wr.cell? ⟨b, 0, none⟩ = some (.int .i64 (n : Int)) := by
 rcases ZJ h.own with ⟨_, e⟩ | ⟨b, c, rfl, _, _⟩
 ·cases e
 have c0 := h.own.cells (by rfl) 0 (.int .i64 (n : Int)) rfl
 rw [Zq, Nat.zero_add] at c0
 exact ⟨b, c, rfl, c0⟩
theorem ZiG (w : World) : Calls Tryz.prog 6 #[] w fun e w' => e = .returned (.bool true) /\ Quiet w w' := by
 obtain ⟨Z8, Z6⟩ : ∃ Z8 : Ending -> World -> Prop, (fun e w' => e = .returned (.bool true) /\ Quiet w w') = Z8 := ⟨_, rfl⟩
 rw [Z6]
 have Zb := zh Z6
 clear Z6
 go_enter Tryz.func6, Tryz.ntmps6
 go_wp2_with fail
 refine (Zdc 10 (by omega) _).mono ?_
 rintro e w1 ⟨sb, rfl, h1⟩
 have H1 := zh h1
 clear h1
 go_wp2_with fail
 refine (Z6x H1.out (by decide)).mono ?_
 rintro e w2 ⟨rfl, h2⟩
 have H2 := zh h2.st
 clear h2
 go_wp2_with fail
 refine (Zi1 _).mono ?_
 rintro e w3 ⟨b3, rfl, hq3, hn3, hl3, hr3⟩
 have H3 := zh (H2.out.quietly hq3)
 have HMK : Hid (Calls Tryz.prog 10 #[ptrV sb, .int .u64 1, .string ⟨#[116]⟩, .slice (some ⟨b3, 0, none⟩) 1 1] w3 (fun e w' => e = .returned (.int .i64 0) /\ Zz w w' sb (fun _ => False) (stE [] 10 0 none))) := by
  refine (ZbC (x := 1) (y := ZT [1] 1) (name := ⟨#[116]⟩) (nm := ⟨#[97]⟩) (kd := 1) H3.out (by unfold U64; omega) rfl rfl rfl rfl (by decide) (by unfold U64; decide) Zdj Zdk ⟨by omega, by omega⟩ (hr3.mono (fun k e => Or.inr ⟨by omega, by omega⟩)) (by omega) (by unfold maxLen; omega)).mono ?_
  rintro e w' ⟨rfl, h⟩
  exact ⟨rfl, h.st.mono (fun _ x => x.elim)⟩
 clear hq3 hn3 hl3 hr3
 go_wp2_with fail
 refine HMK.out.mono ?_
 rintro e w4 ⟨rfl, h4⟩
 have HIX := zh (ZiB h4)
 clear h4 HMK
 go_wp2_with fail
 refine HIX.out.mono ?_
 rintro e w5 ⟨rfl, h5⟩
 have H5 := zh h5.st
 clear h5 HIX
 go_wp2_with fail
 refine (ZaQ 0 _).mono ?_
 rintro e w6 ⟨b6, rfl, hq6, hn6, hl6, hr6⟩
 have HIN := zh (ZhS (c3 := 1) (H5.out.same hq6) hr6 (by omega) (by unfold maxLen; omega))
 clear hq6 hn6 hl6 hr6
 go_wp2_with fail
 refine HIN.out.mono ?_
 rintro e w7 ⟨rfl, h7⟩
 have H7 := zh h7.st
 clear h7 HIN
 go_wp2
 refine wp_loop_rounds 3 ?_
 rw [rounds_succ]
 go_wp2_with fail
 refine (ZiC H7.out).mono ?_
 rintro e wa ⟨va, M, rfl, hrw, hpm, _⟩
 obtain ⟨b, c, b2, c2, hone⟩ := hrw.one hpm
 obtain rfl := hone.form
 have HONE := zh hone
 have HA : Hid (Zz w wa sb (fun k => k = b ∨ k = b2) (stE aH1 9 1 (some aE1))) := (H7.out.quietly hrw.quiet).mono (fun k x => Or.inr (by have := hone.nb; have := hone.nb2; omega))
 clear hrw hpm hone
 have HS12 : Hid (∀ W, Z0 (fun k => ¬ (k = b ∨ k = b2)) wa W -> (fun w' => w'.cell? ⟨b, 0, none⟩ = some (.int .u64 1) /\ w'.cell? ⟨b, 1, none⟩ = some (.int .i64 0) /\ w'.cell? ⟨b, 2, none⟩ = some (.int .i64 0) /\ w'.cell? ⟨b, 3, none⟩ = some (.slice (some ⟨b2, 0, none⟩) 1 c2)) W) := fun W ho => by
  obtain ⟨k0, k1, k2, k3, _⟩ := HONE.out.kept ho (fun x => x (Or.inl rfl)) (fun x => x (Or.inr rfl))
  exact ⟨k0, k1, k2, k3⟩
 have HU12 : Hid (∀ W, Quiet wa W -> ∀ bn, Rd W (fun k => k = bn) 4 (some ⟨bn, 0, none⟩) 1 (intRow 0) -> Calls Tryz.prog 15 #[ptrV sb, .int .u64 1, .string ⟨#[116]⟩, .agg #[.int .u64 1, .int .i64 0, .int .i64 0, .slice (some ⟨b2, 0, none⟩) 1 c2], .slice (some ⟨bn, 0, none⟩) 1 1] W (fun e w' => e = .returned (.int .i64 0) /\ Z0L w W sb (fun k => k = b ∨ k = b2) (stE aH2 9 1 (some aE2)) w')) := fun W hq bn hr => Zgs (c3 := 1) (HA.out.same hq) hr (by omega) (by unfold maxLen; omega)
 go_wp2_with fail
 refine zH HS12 ((Z0.refl _ _).drew) (fun Z3 => ?_)
 have q0 : Quiet wa wa.drew := (Z0.refl _ _).drew
 generalize wa.drew = d0 at q0 Z3 ⊢
 refine zT 0 ?_
 refine zT 1 ?_
 refine zT 2 ?_
 refine zT 3 ?_
 refine zT 4 ?_
 refine zT 5 ?_
 refine zT 6 ?_
 refine zT 7 ?_
 refine zT 8 ?_
 refine zR 9 ?_
 intro K hK
 go_simp
 go_at_call 19
 refine (ZaQ 0 _).mono ?_
 rintro e d1 ⟨bn, rfl, hqn, _, _, hrn⟩
 have q1 := q0.trans hqn
 clear hqn
 dsimp only
 refine hK.out _ _ ?_ (fun Z3 => ?_)
 ·exact HS12.out _ (q1.mono (fun _ _ x => x.elim))
 clear hK K
 (try simp only [Act.put, zPA, zPZ, zPS])
 refine zR 10 ?_
 intro K hK
 go_simp
 go_at_call 15
 refine (HU12.out _ q1 bn hrn).mono ?_
 rintro e d2 ⟨rfl, hlt⟩
 have q2 : Z0 (fun k => ¬ (k = b ∨ k = b2)) _ d2 := (q1.mono (T := fun k => ¬ (k = b ∨ k = b2)) (fun _ _ x => x.elim)).trans' hlt.2 (fun k _ x => x.2)
 dsimp only
 refine hK.out _ _ ?_ (fun Z3 => ?_)
 ·exact HS12.out _ q2
 clear hK K
 (try simp only [Act.put, zPA, zPZ, zPS])
 refine zT 11 ?_
 refine zT 12 ?_
 refine zD ?_
 have H8 : Hid (Zz w d2 sb (fun _ => False) (stE aH2 9 1 (some aE2))) := hlt.st.mono (fun _ x => x.elim)
 clear Z3 q0 q1 q2 hlt hrn HS12 HU12 HA HONE
 go_wp2
 rw [rounds_succ]
 go_wp2_with fail
 refine (ZiD H8.out).mono ?_
 rintro e wa ⟨va, M, rfl, hrw, hpm, _⟩
 obtain ⟨b, c, b2, c2, hone⟩ := hrw.one hpm
 obtain rfl := hone.form
 have HONE := zh hone
 have HA : Hid (Zz w wa sb (fun k => k = b ∨ k = b2) (stE aH2 9 1 (some aE2))) := (H8.out.quietly hrw.quiet).mono (fun k x => Or.inr (by have := hone.nb; have := hone.nb2; omega))
 clear hrw hpm hone
 have HS12 : Hid (∀ W, Z0 (fun k => ¬ (k = b ∨ k = b2)) wa W -> (fun w' => w'.cell? ⟨b, 0, none⟩ = some (.int .u64 1) /\ w'.cell? ⟨b, 1, none⟩ = some (.int .i64 0) /\ w'.cell? ⟨b, 2, none⟩ = some (.int .i64 1) /\ w'.cell? ⟨b, 3, none⟩ = some (.slice (some ⟨b2, 0, none⟩) 1 c2)) W) := fun W ho => by
  obtain ⟨k0, k1, k2, k3, _⟩ := HONE.out.kept ho (fun x => x (Or.inl rfl)) (fun x => x (Or.inr rfl))
  exact ⟨k0, k1, k2, k3⟩
 have HU12 : Hid (∀ W, Quiet wa W -> ∀ bn, Rd W (fun k => k = bn) 4 (some ⟨bn, 0, none⟩) 1 (intRow 1) -> Calls Tryz.prog 15 #[ptrV sb, .int .u64 1, .string ⟨#[116]⟩, .agg #[.int .u64 1, .int .i64 0, .int .i64 1, .slice (some ⟨b2, 0, none⟩) 1 c2], .slice (some ⟨bn, 0, none⟩) 1 1] W (fun e w' => e = .returned (.int .i64 0) /\ Z0L w W sb (fun k => k = b ∨ k = b2) (stE aH3 9 1 (some aE3)) w')) := fun W hq bn hr => Zgt (c3 := 1) (HA.out.same hq) hr (by omega) (by unfold maxLen; omega)
 go_wp2_with fail
 refine zH HS12 ((Z0.refl _ _).drew) (fun Z3 => ?_)
 have q0 : Quiet wa wa.drew := (Z0.refl _ _).drew
 generalize wa.drew = d0 at q0 Z3 ⊢
 refine zT 0 ?_
 refine zT 1 ?_
 refine zT 2 ?_
 refine zT 3 ?_
 refine zT 4 ?_
 refine zT 5 ?_
 refine zT 6 ?_
 refine zT 7 ?_
 refine zT 8 ?_
 refine zR 9 ?_
 intro K hK
 go_simp
 go_at_call 19
 refine (ZaQ 1 _).mono ?_
 rintro e d1 ⟨bn, rfl, hqn, _, _, hrn⟩
 have q1 := q0.trans hqn
 clear hqn
 dsimp only
 refine hK.out _ _ ?_ (fun Z3 => ?_)
 ·exact HS12.out _ (q1.mono (fun _ _ x => x.elim))
 clear hK K
 (try simp only [Act.put, zPA, zPZ, zPS])
 refine zR 10 ?_
 intro K hK
 go_simp
 go_at_call 15
 refine (HU12.out _ q1 bn hrn).mono ?_
 rintro e d2 ⟨rfl, hlt⟩
 have q2 : Z0 (fun k => ¬ (k = b ∨ k = b2)) _ d2 := (q1.mono (T := fun k => ¬ (k = b ∨ k = b2)) (fun _ _ x => x.elim)).trans' hlt.2 (fun k _ x => x.2)
 dsimp only
 refine hK.out _ _ ?_ (fun Z3 => ?_)
 ·exact HS12.out _ q2
 clear hK K
 (try simp only [Act.put, zPA, zPZ, zPS])
 refine zT 11 ?_
 refine zT 12 ?_
 refine zD ?_
 have H9 : Hid (Zz w d2 sb (fun _ => False) (stE aH3 9 1 (some aE3))) := hlt.st.mono (fun _ x => x.elim)
 clear Z3 q0 q1 q2 hlt hrn HS12 HU12 HA HONE
 have HCO : Hid (Calls Tryz.prog 13 #[ptrV sb, .int .u64 1] d2 (fun e w' => e = .returned (.int .i64 0) /\ Zz w w' sb (fun _ => False) (stF aH3 9 1 aE3))) := by
  refine (Z5M (x := 1) H9.out (by unfold U64; omega)).mono ?_
  rintro e w' ⟨rfl, h⟩
  exact ⟨rfl, h.st⟩
 go_wp2
 rw [rounds_succ]
 go_wp2_with fail
 refine HCO.out.mono ?_
 rintro e wb ⟨rfl, hb⟩
 have HB := zh hb
 have HUS : Hid (Calls Tryz.prog 17 #[ptrV sb] wb (Z2i wb [3])) := Zc3 (t := tabA) (H := aH3) hb rfl (by decide) (by unfold U64; decide) rfl
 clear hb HCO
 go_wp2_with fail
 refine HUS.out.mono ?_
 rintro e wc ⟨v, rfl, hi⟩
 have HC := zh (HB.out.same hi.quiet)
 obtain ⟨bu, cu, rfl, hbu⟩ := Z6I hi
 have lbu := Ze hbu
 dsimp only at lbu
 clear hi HUS
 go_wp2_with fail
 refine (Zak (Zw.start HC.out)).mono ?_
 rintro e wd ⟨rb, rfl, hbr⟩
 have HPA : Hid (Calls Tryz.prog 16 #[ptrV rb, .int .i64 100] wd (fun e w' => (∃ z : Int, e = .returned (.int .i64 z)) /\ Z1o ⟨w, fun _ => False, wc⟩ w' sb rb 1 (Z6G (stF aH3 9 1 aE3) 1 2 2 aH3 aE3))) :=
  Zgr (t := tabA) (x := idxA) (hz := 2) (N := 1) (es := aE3) (ps := 0) (most := 100) ZiZ rfl rfl (by unfold U64; decide) rfl (fun p hp => by
    rw [Zgu] at hp
    rcases List.mem_cons.1 hp with e | hp
    · rw [e]; exact ZhU (by omega) (by omega)
    · rw [List.mem_singleton.1 hp]; exact ZhU (by omega) (by omega)) (fun e he => by
    have h3 : e = ⟨ZN 1, 0, 2⟩ ∨ e = ⟨ZN 0, 0, 1⟩ ∨ e = ⟨ZN 0, 0, 0⟩ := by
      rcases Z7I.1 he with y | y
      · exact Or.inl y
      · rcases Z7I.1 y with y | y
        · exact Or.inr (Or.inl y)
        · rcases Z7I.1 y with y | y
          · exact Or.inr (Or.inr y)
          · cases y
    rcases h3 with y | y | y <;> (rw [y]; exact ZhU (by decide) (by decide))) (by rw [Zgu]; decide) (by decide +kernel) hbr (by omega) (by decide) (by omega)
 clear hbr HC lbu hbu
 go_wp2_with fail
 refine HPA.out.mono ?_
 rintro e we ⟨⟨z, rfl⟩, vj, hl, _, _⟩
 have HL := zh hl.law
 have HU1 : Hid (∀ W, Quiet we W -> Calls Tryz.prog 17 #[ptrV sb] W (Z2i W [1])) := fun W hq => by
  have := Zc3 (t := tabA) (HL.out.same hq) rfl (by decide) (by unfold U64; decide) (by rfl)
  rw [show usedH (Z0H (stF aH3 9 1 aE3).L 2 aH3 (Z16 (stF aH3 9 1 aE3) 2 aH3 aH3.length)) = 1 from Zj0] at this
  exact this
 have HE1 : Hid (∀ W, Quiet we W -> Calls Tryz.prog 24 #[ptrV sb] W (Z2i W [1])) := fun W hq => by
  have := ZcY (t := tabA) (HL.out.same hq) rfl (by decide) (by unfold U64; decide) (fun e he => by
    have : e = idxA := List.mem_singleton.1 he
    subst this
    exact ⟨by unfold U64; decide, _, rfl⟩)
  have e2 : (ZQ (Z6G (stF aH3 9 1 aE3) 1 2 2 aH3 aE3).L tabA.id (Z6G (stF aH3 9 1 aE3) 1 2 2 aH3 aE3).I).map (fun e => (((Z6G (stF aH3 9 1 aE3) 1 2 2 aH3 aE3).ts e.id).getD []).length) = [1] := by
   show [(Z1w (Z16 (stF aH3 9 1 aE3) 2 aH3 aH3.length) aE3).length] = [1]
   rw [Zj1]
  rw [e2] at this
  exact this
 clear hl HPA
 go_wp2_with fail
 refine (HU1.out _ (Z0.refl _ _)).mono ?_
 rintro e wf ⟨v, rfl, hi⟩
 obtain ⟨bu, cu, rfl, hbu⟩ := Z6I hi
 have HQF := zh hi.quiet
 have HBU := zh hbu
 clear hi hbu
 go_wp2_with fail
 refine (HE1.out _ HQF.out).mono ?_
 rintro e wg ⟨v, rfl, hi⟩
 obtain ⟨bv, cv, rfl, hbv⟩ := Z6I hi
 have hbu := hi.quiet.cell HBU.out (fun x => x)
 have lbu := Ze hbu
 have lbv := Ze hbv
 dsimp only at lbu lbv
 have Zc : Hid (Z8 (.returned (.bool true)) wg) := by
  rw [<- Zb.out]
  exact ⟨rfl, (HL.out.quiet.trans HQF.out).trans hi.quiet⟩
 have hbu1 : wg.cell? ⟨bu, 0, none⟩ = some (.int .i64 1) := hbu
 have hbv1 : wg.cell? ⟨bv, 0, none⟩ = some (.int .i64 1) := hbv
 clear hi HU1 HE1 HBU hbu hbv HL H9 HB H8 H7 H5 H3 H2 H1 HQF
 go_wp2
 exact Zc.out
theorem Zc4 {α : Type} {f : Nat -> Option α} {i : Nat} (h : f i = none) (a : Option α) : upd (upd f i a) i none = f := by
 funext k
 by_cases e : k = i
 ·subst e; simp [upd, h]
 ·simp [upd, e]
section
variable {w0 w : World} {sb : Nat} {K : Nat -> Prop} {k r len left last : Nat} {H : List (List (Option Tup))} {l : List ((Int × Int) × Tup)}
end
def BrX (w0 w : World) (sb rb ps : Nat) (K : Nat -> Prop) (s : St) : Prop := ∃ vj, Zz w0 w sb (fun k => k = rb ∨ K k) s /\ Z4a w rb sb false vj ps /\ w0.heap.size <= rb /\ ¬ K rb
section
variable {w0 w w' : World} {sb rb ps : Nat} {K : Nat -> Prop} {s s' : St}
theorem BrX.to (h : BrX w0 w sb rb ps K s) (ht : Z0L w0 w sb (fun k => k = rb ∨ K k) s' w') : BrX w0 w' sb rb ps K s' := by
 obtain ⟨vj, hl, hb, hn⟩ := h
 exact ⟨vj, ht.st, ⟨ht.2.get hb.box (fun x => x.2 (Or.inl rfl))⟩, hn⟩
theorem BrX.quietly (h : BrX w0 w sb rb ps K s) (hq : Quiet w w') : BrX w0 w' sb rb ps (fun k => K k ∨ (w.heap.size <= k /\ k < w'.heap.size)) s := by
 obtain ⟨vj, hl, hb, hn, hk⟩ := h
 refine ⟨vj, (hl.quietly hq).mono (fun k e => by rcases e with e | e | e; exact Or.inl (Or.inl e); exact Or.inl (Or.inr e); exact Or.inr e), ⟨hq.get hb.box (fun x => x)⟩, hn, fun e => ?_⟩
 have := Z2 hb.box
 rcases e with e | e
 ·exact hk e
 ·omega
theorem BrX.mono {K' : Nat -> Prop} (h : BrX w0 w sb rb ps K s) (hk : ∀ k, K' k -> K k) : BrX w0 w sb rb ps K' s := by
 obtain ⟨vj, hl, hb, hn, hx⟩ := h
 exact ⟨vj, hl.mono (fun k e => e.imp id (hk k)), hb, hn, fun e => hx (hk _ e)⟩
theorem BrX.same (h : BrX w0 w sb rb ps K s) (hq : Quiet w w') : BrX w0 w' sb rb ps K s := (h.quietly hq).mono (fun _ x => Or.inl x)
theorem BrX.idle (h : BrX w0 w sb rb ps K s) : Z1o ⟨w0, K, w⟩ w sb rb ps s := by
 obtain ⟨vj, hl, hb, hn, hk⟩ := h
 exact ⟨vj, ⟨hl, fun k x _ e => e, fun k e a => by have e' : k = rb := e; rw [e'] at a; exact hk a⟩, hb, hn⟩
theorem Z1o.x {B : Z01} (h : Z1o B w sb rb ps s) : BrX B.w w sb rb ps B.X s /\ ∀ k x, B.X k -> B.at_.heap[k]? = some x -> w.heap[k]? = some x := by
 obtain ⟨vj, hl, hb, hn⟩ := h
 exact ⟨⟨vj, hl.1, hb, hn, hl.2.2 rb rfl⟩, hl.2.1⟩
theorem BrX.law (h : BrX w0 w sb rb ps K s) : Zz w0 w sb (fun k => k = rb ∨ K k) s := by
 obtain ⟨vj, hl, hb, hn⟩ := h
 exact hl
end
section
variable {w0 w : World} {B : Z01} {sb : Nat} {K : Nat -> Prop} {k r n len left last rb ps : Nat} {H : List (List (Option Tup))} {l : List ((Int × Int) × Tup)}
end
theorem Z9m {w : World} {F Fl Sn : Nat -> Prop} {bb lb last cy : Nat} {T : List TE} {I : List IE} {L : List Nat} {y : Zo} {Ay : Option Addr} (name : ByteArray) (h : ZG w F bb T I last) (hl : Zy w Fl lb L) (hy : Z0q w Sn Ay cy y) (hu : U64 y.own) (hI : I.length <= 900) (hTn : (T.map (fun t => t.id)).Nodup) (hIn : (I.map (fun t => t.id)).Nodup) :
  Calls Tryz.prog 54 #[ptrV bb, ptrV lb, Zk y Ay cy, .string name] w (Z50 w F bb last T I L y name) := by
 obtain ⟨vT, tps, vI, ips, h, hil, hx⟩ := h
 have HQ0 : Hid (Quiet w (w.alloc (.cells (snapCells y Ay cy) 84))) := (Z0.refl _ _).alloc _
 have HB0 := zh (Z5 w (.cells (snapCells y Ay cy) 84))
 have HTB : Hid (∀ W, Quiet w W -> Calls Tryz.prog 68 #[.pointer (some ⟨bb, 0, none⟩), .pointer (some ⟨lb, 0, none⟩), Zk y Ay cy, .string name] W (Z5l W tps (Z0w L y name T))) := fun W hq => Z5G name (h.kept hq (fun _ _ x => x)) (hl.kept hq (fun _ _ x => x)) (hy.kept hq (fun _ _ x => x))
 obtain ⟨_, c1, _⟩ := h.cells
 obtain ⟨AI, cI, hvI, hcI, hmI, hfI⟩ := Z1G h.rowI
 subst hvI
 have HFI := zh hfI
 have HX := zh hx
 have HL := zh hl
 have HY := zh hy
 have HH := zh h
 have HU := zh hu
 have HIL := zh hil
 have HTN := zh hTn
 have HIN := zh hIn
 have hbl := Z2 h.box
 obtain ⟨n, hn⟩ : ∃ n, I.length = n := ⟨_, rfl⟩
 have hin : ips.length = n := hil.trans hn
 rw [hin] at c1 hcI
 have HN := zh hn
 rw [hn] at hI
 unfold maxLen at hmI
 have HC1 := zh c1
 have hnb : ¬ bb = w.heap.size := by omega
 obtain ⟨Z8, Z6⟩ : ∃ Z8, Z50 w F bb last T I L y name = Z8 := ⟨_, rfl⟩
 rw [Z6]
 have Zb := zh Z6
 unfold Z50 at Zb
 obtain ⟨oi, hoi⟩ : ∃ oi, Z0w L y name T = oi := ⟨_, rfl⟩
 rw [hoi] at HTB Zb
 unfold Zk at HTB ⊢
 obtain ⟨r6, hr6⟩ : ∃ r6, w.heap.size = r6 := ⟨_, rfl⟩
 rw [hr6] at HB0 hnb
 have HR6 := zh hr6
 clear h hl hy hx hu hil hTn hIn hfI hn hin Z6 hoi c1
 go_enter Tryz.func54, Tryz.ntmps54
 go_upto_region 3 with fail
 (try rw [hr6])
 generalize w.alloc (.cells (snapCells y Ay cy) 84) = w1 at *
 have c1 := HQ0.out.cell HC1.out (fun x => x)
 obtain ⟨b0, b1, b2, b3⟩ := Zv HB0.out
 clear hr6
 go_wp2_with fail
 refine (HTB.out _ HQ0.out).mono ?_
 rintro e w2 ⟨he, hq2⟩
 have HQ2 := zh (HQ0.out.trans hq2)
 have HB2 := zh (hq2.get HB0.out (fun x => x))
 have c1 := HQ2.out.cell HC1.out (fun x => x)
 obtain ⟨b0, b1, b2, b3⟩ := Zv HB2.out
 have lc1 := Ze c1
 dsimp only at lc1
 clear hq2 HTB HB0 HQ0
 cases oi with
 | none =>
  obtain rfl := he
  have Zc : Hid (Z8 (.returned (.tuple #[.int .u64 0, .int .i64 6])) w2) := by
   rw [<- Zb.out]
   exact ⟨rfl, HQ2.out⟩
  go_wp2
  exact Zc.out
 | some i =>
  obtain ⟨tp, htp, rfl⟩ := he
  obtain ⟨t, hti⟩ : ∃ t, T[i]? = some t := by
   have h1 := (zi.1 htp).1
   have h2 := HH.out.tlen
   exact ⟨_, zg (by omega)⟩
  obtain ⟨tp', a1, a2⟩ := HH.out.tbl i t hti
  rw [htp] at a1
  injection a1 with a1
  rw [<- a1] at a2
  obtain ⟨At, ct, heb, _⟩ := a2.eb
  have HEB := zh heb
  have HTP := zh htp
  have HTI := zh hti
  have HNT := zh a2.num
  clear a1 a2 htp hti heb
  have hqa : Quiet w2 (w2.alloc (.cells [ptrV tp].toArray 206)) := (Z0.refl _ _).alloc _
  have HW2 : Hid (Z55 w (w2.alloc (.cells [ptrV tp].toArray 206)) (.slice (some ⟨w2.heap.size, 0, none⟩) 1 1) [tp]) :=
   ⟨HQ2.out.trans hqa, fun k e => by have e2 := Option.some.inj e; have := HQ2.out.size; rw [<- e2]; exact this, World.ownsRow_lit w2 [ptrV tp].toArray 1 (Nat.zero_le _) (by unfold maxLen; omega) rfl⟩
  have HB3 := zh (hqa.get HB2.out (fun x => x))
  have c2 := hqa.cell c1 (fun x => x)
  obtain ⟨r11, hr11⟩ : ∃ r11, w2.heap.size = r11 := ⟨_, rfl⟩
  rw [hr11] at HW2
  have HR11 := zh hr11
  have HSZ := zh hqa.size
  clear hqa
  go_upto_region 7 with fail
  (try rw [hr11])
  generalize w2.alloc (.cells #[ptrV tp] 206) = w3 at *
  have lc2 := Ze c2
  dsimp only at lc2
  clear c1 b0 b1 b2 b3 lc1
  go_wp2
  have HLOOP : Hid (∀ k, k <= n -> (Z0z L y t.id I ips k).length <= k) := fun k hk => by
   unfold Z0z
   refine Nat.le_trans (List.length_filter_le _ _) ?_
   rw [List.length_take]
   exact Nat.min_le_left _ _
  go_loopw [33, 11] (fun c v wr => ∃ (k : Nat) (v' : Value), k <= n /\ c = .int .i64 (k : Int) /\ v = v' /\ Z55 w wr v' (tp :: (Z0z L y t.id I ips k).map (fun z => z.2)) /\ wr.heap[r6]? = some (.cells (snapCells y Ay cy) 84 (0, 0))) (fun c _ _ => n - (intOf c).toNat)
  case atStart => exact ⟨0, _, Nat.zero_le _, rfl, rfl, HW2.out, HB3.out⟩
  case round =>
   obtain ⟨k, v', hk, rfl, rfl, hW, hq⟩ := hrel
   obtain ⟨PL, hPL⟩ : ∃ PL, tp :: (Z0z L y t.id I ips k).map (fun z => z.2) = PL := ⟨_, rfl⟩
   rw [hPL] at hW
   have HPL := zh hPL
   have HW := zh hW
   have HBW := zh hq
   clear hW hq hPL
   by_cases hlt : k < n
   ·obtain ⟨x, hx⟩ : ∃ x, I[k]? = some x := ⟨_, zg (by have := HN.out; omega)⟩
    obtain ⟨p, hp, hix⟩ := HX.out k x hx
    obtain ⟨g, rfl, hg⟩ := HFI.out k p hp
    have hg2 := HW.out.quiet.cell hg (fun x => x)
    have hix2 := hix.kept HW.out.quiet (fun _ _ x => x)
    have lg := Ze hg2
    dsimp only at lg
    have HIX := zh hix2
    have HSU := zh (Zgn (L := L) (y := y) (tid := t.id) hx hp)
    have HEW := zh (HEB.out.kept HW.out.quiet (fun x => x))
    have HS : Hid (∀ W, Quiet wr W -> (fun w' => w'.cell? ⟨p, 4, none⟩ = some (.int .u64 (x.table : Int)) /\ w'.cell? ⟨tp, 0, none⟩ = some (.int .u64 (t.id : Int)) /\ w'.cell? ⟨r6, 0, none⟩ = some (.int .u64 (y.own : Int)) /\ w'.cell? ⟨r6, 1, none⟩ = some (.int .u64 (y.xmin : Int)) /\ w'.cell? ⟨r6, 2, none⟩ = some (.int .u64 (y.xmax : Int)) /\ w'.cell? ⟨r6, 3, none⟩ = some (.slice Ay y.run.length cy)) W) := fun W hq => by
     obtain ⟨b0, b1, b2, b3⟩ := Zv (hq.get HBW.out (fun x => x))
     exact ⟨by rw [Z1 (hq.get HIX.out.box (fun x => x))]; rfl, (HEW.out.kept hq (fun x => x)).ent.c0, b0, b1, b2, b3⟩
    have HVIS : Hid (∀ W, Quiet wr W -> Calls Tryz.prog 104 #[.pointer (some ⟨p, 0, none⟩), .pointer (some ⟨lb, 0, none⟩), Zk y Ay cy] W (Z0p W (Z1V L y x.xmin x.xmax))) := fun W hq => Z5V (Z0P.ent (e := ebI x) (HIX.out.kept hq (fun _ _ x => x)).box) (HL.out.kept (HW.out.quiet.trans hq) (fun _ _ x => x)) (HY.out.kept (HW.out.quiet.trans hq) (fun _ _ x => x)) hix.num.2.1 hix.num.2.2.1
    have hml := HLOOP.out k hk
    have hw1 : IntKind.i64.wrap ((k : Int) + 1) = ((k + 1 : Nat) : Int) := by rw [ZE _ (by omega) (by omega)]; rfl
    unfold Zk at HVIS
    clear hx hp hg hix hix2
    by_cases ht : x.table = t.id
    ·have hsv : Hid (Z3k L y t.id x = Z1V L y x.xmin x.xmax) := by
      show Z3k L y t.id x = _
      unfold Z3k
      rw [decide_eq_true ht, Bool.true_and]
     generalize Z1V L y x.xmin x.xmax = bv at HVIS hsv
     rw [hsv.out] at HSU
     rw [ht] at HS
     go_wp2_with fail
     refine zH HS ((Z0.refl _ _).drew) (fun Z3 => ?_)
     have q0 : Quiet wr wr.drew := (Z0.refl _ _).drew
     generalize wr.drew = d0 at q0 Z3 ⊢
     refine zT 0 ?_
     refine zT 1 ?_
     refine zT 2 ?_
     refine zT 3 ?_
     refine zT 4 ?_
     refine zT 5 ?_
     refine zT 6 ?_
     refine zT 7 ?_
     refine zT 8 ?_
     refine zT 9 ?_
     refine zT 10 ?_
     refine zT 11 ?_
     refine zT 12 ?_
     refine zT 13 ?_
     refine zT 14 ?_
     refine zT 15 ?_
     refine zR 16 ?_
     intro K hK
     go_simp
     go_at_call 104
     refine (HVIS.out _ q0).mono ?_
     rintro e d1 ⟨rfl, hq1⟩
     have q1 := q0.trans hq1
     clear hq1
     dsimp only
     refine hK.out _ _ ?_ (fun Z3 => ?_)
     ·exact HS.out _ q1
     clear hK K
     (try simp only [Act.put, zPA, zPZ, zPS])
     refine zT 17 ?_
     refine zD ?_
     have HW3 := zh (HW.out.quietly q1)
     have HQ3 := zh (q1.get HBW.out (fun x => x))
     clear Z3 q0 HS HVIS
     cases bv with
     | false =>
      have e1 : tp :: (Z0z L y t.id I ips (k + 1)).map (fun z => z.2) = PL := by rw [<- HPL.out, HSU.out]; simp
      rw [<- e1] at HW3
      clear e1 hsv
      go_wp2
      go_roundw
      case rel => exact ⟨k + 1, _, by omega, by first | rfl | go_num, rfl, HW3.out, HQ3.out⟩
      case measure => simp [intOf]; omega
     | true =>
      have HRD := zh (Rd.new d1 1 1 [ptrV p] 206 (fun _ => True) rfl trivial)
      have HW4 := zh (HW3.out.quietly ((Z0.refl (fun _ => False) d1).alloc (.cells [ptrV p].toArray 206)))
      obtain ⟨ml, hml2⟩ : ∃ ml, PL.length = ml := ⟨_, rfl⟩
      have hml3 : ml <= 1000 := by rw [<- hml2, <- HPL.out, List.length_cons, List.length_map]; omega
      have hown := HW4.out.own
      rw [hml2] at hown
      have HOWN := zh hown
      have HML := zh hml2
      clear hml hml2 hown hsv
      go_wp2_with (at_builtin; refine app Zah rfl (.tmp 55) (.tmp 59) rfl rfl HOWN.out rfl HRD.out (ZbR p) (by unfold maxLen; omega) (by omega) ?_)
      intro v5 w5 hg5
      rw [<- HML.out] at hg5
      have HP := zh (HW4.out.push hg5)
      have HQ5 := zh (hg5.only.get (((Z0.refl (fun _ => False) d1).alloc (.cells [ptrV p].toArray 206)).get HQ3.out (fun x => x)) (fun e => by obtain ⟨cc, hh⟩ := Zj HW4.out.own e; exact Za (((Z0.refl (fun _ => False) d1).alloc (.cells [ptrV p].toArray 206)).get HQ3.out (fun x => x)) hh (by decide) rfl))
      have e1 : tp :: (Z0z L y t.id I ips (k + 1)).map (fun z => z.2) = PL ++ [p] := by rw [<- HPL.out, HSU.out]; simp
      rw [<- e1] at HP
      clear hg5 HW4 HRD HOWN HW3 e1
      go_wp2
      go_roundw
      case rel => exact ⟨k + 1, _, by omega, by first | rfl | go_num, rfl, HP.out, HQ5.out⟩
      case measure => simp [intOf]; omega
    ·have hti : ¬ (x.table : Int) = (t.id : Int) := by omega
     have htb : ((x.table : Int) == (t.id : Int)) = false := by simp; omega
     have htd : decide ((x.table : Int) = (t.id : Int)) = false := decide_eq_false hti
     have e1 : tp :: (Z0z L y t.id I ips (k + 1)).map (fun z => z.2) = PL := by
      rw [<- HPL.out, HSU.out]
      have : Z3k L y t.id x = false := by unfold Z3k; rw [decide_eq_false ht, Bool.false_and]
      rw [this]
      simp
     go_wp2_with fail
     refine zH HS ((Z0.refl _ _).drew) (fun Z3 => ?_)
     have q0 : Quiet wr wr.drew := (Z0.refl _ _).drew
     generalize wr.drew = d0 at q0 Z3 ⊢
     refine zT 0 ?_
     refine zT 1 ?_
     refine zT 2 ?_
     refine zT 3 ?_
     refine zT 4 ?_
     refine zT 5 ?_
     refine zT 6 ?_
     refine zT 7 ?_
     refine zT 8 ?_
     refine zT 9 ?_
     refine zT 10 ?_
     refine zO 11 ?_
     refine zO 12 ?_
     refine zO 13 ?_
     refine zO 14 ?_
     refine zO 15 ?_
     refine zO 16 ?_
     refine zT 17 ?_
     refine zD ?_
     have HW3 := zh (HW.out.quietly q0)
     have HQ3 := zh (q0.get HBW.out (fun x => x))
     rw [<- e1] at HW3
     clear Z3 q0 HS HVIS e1
     go_wp2
     go_roundw
     case rel => exact ⟨k + 1, _, by omega, by first | rfl | go_num, rfl, HW3.out, HQ3.out⟩
     case measure => simp [intOf]; omega
   ·obtain rfl : k = n := by omega
    clear hlt hk HLOOP
    obtain ⟨Ap, cp, rfl, hcp, hmp, hrd⟩ := Z9 HW.out.own
    have hlen : PL.length <= 901 := by
     rw [<- HPL.out, List.length_cons, List.length_map]
     have h1 : (Z0z L y t.id I ips k).length <= k := by
      unfold Z0z
      refine Nat.le_trans (List.length_filter_le _ _) ?_
      rw [List.length_take]
      exact Nat.min_le_left _ _
     omega
    have hes : (ebT t At ct :: (Z0z L y t.id I ips k).map (fun z => ebI z.1)).length = PL.length := by rw [<- HPL.out]; simp
    have hent : ∀ (j p : Nat) (x : EB), PL[j]? = some p -> (ebT t At ct :: (Z0z L y t.id I ips k).map (fun z => ebI z.1))[j]? = some x -> Z0P wr p x := fun j p x hp hx => by
     rw [<- HPL.out] at hp
     cases j with
     | zero =>
      simp at hp hx
      subst hp hx
      exact HEB.out.kept HW.out.quiet (fun x => x)
     | succ j =>
      rw [List.getElem?_cons_succ, List.getElem?_map] at hp hx
      obtain ⟨z, hz, rfl⟩ := Option.map_eq_some_iff.1 hp
      rw [hz] at hx
      injection hx with hx
      subst hx
      obtain ⟨_, m, m1, m2⟩ := Z30 (List.mem_of_getElem? hz)
      obtain ⟨p, a, b⟩ := HX.out m z.1 m1
      rw [m2] at a
      injection a with a
      rw [<- a] at b
      exact (show Z0P w z.2 (ebI z.1) from b.box).kept HW.out.quiet (fun x => x)
    have hnumE : ∀ x ∈ (ebT t At ct :: (Z0z L y t.id I ips k).map (fun z => ebI z.1)), U64 x.xmin /\ U64 x.xmax := fun x hx => by
     rcases List.mem_cons.1 hx with e | e
     ·rw [e]; exact HNT.out.2
     ·obtain ⟨z, hz, rfl⟩ := List.mem_map.1 e
      obtain ⟨_, m, m1, _⟩ := Z30 hz
      obtain ⟨p, _, b⟩ := HX.out m z.1 m1
      exact ⟨b.num.2.1, b.num.2.2.1⟩
    have hold : ∀ p ∈ PL, p < w.heap.size := fun p hp => by
     obtain ⟨j, hj⟩ := List.mem_iff_getElem?.1 hp
     rw [<- HPL.out] at hj
     cases j with
     | zero =>
      simp at hj
      rw [<- hj]
      exact Z2 HEB.out
     | succ j =>
      rw [List.getElem?_cons_succ, List.getElem?_map] at hj
      obtain ⟨z, hz, rfl⟩ := Option.map_eq_some_iff.1 hj
      obtain ⟨_, m, m1, m2⟩ := Z30 (List.mem_of_getElem? hz)
      obtain ⟨p, a, b⟩ := HX.out m z.1 m1
      rw [m2] at a
      injection a with a
      rw [a]
      exact Z2 b.box
    have hnd : PL.Nodup := by
     rw [<- HPL.out, List.nodup_cons]
     refine ⟨fun hm => ?_, ZeM HIL.out (Zgo HX.out HIL.out HIN.out)⟩
     obtain ⟨z, hz, hz2⟩ := List.mem_map.1 hm
     obtain ⟨_, m, m1, m2⟩ := Z30 hz
     obtain ⟨p, a, b⟩ := HX.out m z.1 m1
     rw [m2] at a
     injection a with a
     rw [<- a, hz2] at b
     exact Za HEB.out b.box (by show 150 ≠ _; decide) rfl
    have HEN : Hid (Calls Tryz.prog 105 #[ptrV lb, Zk y Ay cy, .slice Ap PL.length cp] wr (Z6E wr PL (ebT t At ct :: (Z0z L y t.id I ips k).map (fun z => ebI z.1)) y.own (Z40 L y t I))) := by
     have e1 : (ebT t At ct :: (Z0z L y t.id I ips k).map (fun z => ebI z.1)).all (fun x => decide (freeS L y x.xmin x.xmax = 0)) = Z40 L y t I := by
      unfold Z40
      rw [<- ZhO HIL.out, HN.out, List.all_cons, List.all_map, List.all_map]
      rfl
     rw [<- e1]
     exact ZhM hrd rfl (by omega) hcp hmp (HL.out.kept HW.out.quiet (fun _ _ x => x)) (HY.out.kept HW.out.quiet (fun _ _ x => x)) hes hent hnumE (fun j e hm => by
       have := HW.out.new j e
       have := hold j hm
       omega) hnd
    obtain ⟨b0, b1, b2, b3⟩ := Zv HBW.out
    have HEW := zh (HEB.out.kept HW.out.quiet (fun x => x))
    unfold Zk at HEN
    obtain ⟨pl, hpl⟩ : ∃ pl, PL.length = pl := ⟨_, rfl⟩
    rw [hpl] at HEN ⊢
    clear hes hent hnumE hold hnd hrd hlen hcp hmp hpl
    obtain ⟨ok, hok⟩ : ∃ ok, Z40 L y t I = ok := ⟨_, rfl⟩
    rw [hok] at HEN
    have HOK := zh hok
    clear hok
    go_wp2_with fail
    refine HEN.out.mono ?_
    intro e w5 hE
    cases ok with
    | false =>
     unfold Z6E at hE
     rw [if_neg (by decide)] at hE
     obtain ⟨rfl, hq5⟩ := hE
     have Zc : Hid (Z8 (.returned (.tuple #[.int .u64 0, .int .i64 11])) w5) := by
      rw [<- Zb.out]
      refine ⟨t, HTI.out, ?_⟩
      rw [HOK.out, if_neg (by decide)]
      exact ⟨rfl, HW.out.quiet.trans hq5⟩
     clear hq5 HEN b0 b1 b2 b3
     go_wp2
     exact Zc.out
    | true =>
     unfold Z6E at hE
     rw [if_pos rfl] at hE
     obtain ⟨rfl, ho5, he5⟩ := hE
     rw [<- HPL.out] at ho5
     have he6 : ∀ (j p : Nat) (x : EB), (tp :: (Z0z L y t.id I ips I.length).map (fun z => z.2))[j]? = some p -> (ebT t At ct :: (Z0z L y t.id I ips I.length).map (fun z => ebI z.1))[j]? = some x -> Z0P w5 p { x with xmax := y.own } := by
      rw [HN.out, HPL.out]
      exact he5
     rw [<- HN.out] at ho5
     have hdone := Zgp HH.out HIL.out HX.out HTN.out HIN.out HTI.out HTP.out HW.out.quiet HU.out At ct HEB.out ho5 he6
     have t0 := (he6 0 tp (ebT t At ct) rfl rfl).ent.c0
     have t0' : w5.cell? ⟨tp, 0, none⟩ = some (.int .u64 (t.id : Int)) := t0
     have lt0 := Ze t0'
     dsimp only at lt0
     have Zc : Hid (Z8 (.returned (.tuple #[.int .u64 (t.id : Int), .int .i64 0])) w5) := by
      rw [<- Zb.out]
      refine ⟨t, HTI.out, ?_⟩
      rw [HOK.out, if_pos rfl]
      exact ⟨rfl, hdone⟩
     clear ho5 he5 he6 hdone t0 HEN b0 b1 b2 b3
     go_wp2
     exact Zc.out
def Zc5 (s : St) (i : Nat) (t : TE) (y : Zo) : St := { s with T := s.T.set i { t with xmax := y.own }, I := s.I.map (Z4Z s.L y t.id) }
def Z2l (w : World) (sb : Nat) (o : Nat -> Nat) (s : St) (y : Zo) (name : ByteArray) (e : Ending) (w' : World) : Prop :=
 match Z0w s.L y name s.T with
 | none => e = .returned (.int .i64 6) /\ Quiet w w'
 | some i => ∃ t, s.T[i]? = some t /\ if Z40 s.L y t s.I then e = .returned (.int .i64 0) /\ Z0E w sb o (Zc5 s i t y) w' else e = .returned (.int .i64 11) /\ Quiet w w'
theorem ZeR {w w' : World} {F : Nat -> Prop} {bb last : Nat} {T : List TE} {I : List IE} {L : List Nat} {y : Zo} {name : ByteArray} {e : Ending} (h : Z50 w F bb last T I L y name e w') : ∃ z1 z2 : Int, e = .returned (.tuple #[.int .u64 z1, .int .i64 z2]) /\ Z0 F w w' := by
 unfold Z50 at h
 split at h
 ·exact ⟨_, _, h.1, h.2.mono (fun _ _ x => x.elim)⟩
 ·obtain ⟨t, _, h⟩ := h
  split at h
  ·exact ⟨_, _, h.1, h.2.1⟩
  ·exact ⟨_, _, h.1, h.2.mono (fun _ _ x => x.elim)⟩
theorem Zc6 {z1 z2 a b : Int} (h : Ending.returned (.tuple #[.int .u64 z1, .int .i64 z2]) = Ending.returned (.tuple #[.int .u64 a, .int .i64 b])) : z2 = b := by
 simp only [Ending.returned.injEq, Value.tuple.injEq] at h
 have := congrArg (fun x => x.toList) h
 simp only [List.cons.injEq, Value.int.injEq] at this
 exact this.2.1.2
theorem Z9n {w w2 w' : World} {sb lb bb pb mh mt ms : Nat} {o : Nat -> Nat} {s : St} {y : Zo} {name : ByteArray} {z1 z2 : Int} {fh ft fs : Nat -> Option Value} (h : Zh w sb o s lb bb pb mh mt ms fh ft fs) (hq : Quiet w w2) (hd : Z50 w2 (fun k => o k = 3) bb s.blast s.T s.I s.L y name (.returned (.tuple #[.int .u64 z1, .int .i64 z2])) w') :
  Z2l w sb o s y name (.returned (.int .i64 z2)) w' := by
 unfold Z50 at hd
 unfold Z2l
 rcases hf : Z0w s.L y name s.T with _ | i
 ·rw [hf] at hd
  obtain ⟨e, h2⟩ := hd
  exact ⟨by rw [Zc6 e], hq.trans h2⟩
 ·rw [hf] at hd
  obtain ⟨t, ht, hd⟩ := hd
  refine ⟨t, ht, ?_⟩
  split at hd
  ·rename_i hok
   rw [if_pos hok]
   obtain ⟨e, ho, hb⟩ := hd
   have h1 := (h.quietly hq).setBook ho (hb.mono (fun k hk => Or.inl hk))
   have hz := hq.size
   exact ⟨by rw [Zc6 e], _, fun k hk => Z0s (by omega), (hq.mono (T := fun k => o k ≠ 0) (fun _ _ x => x.elim)).trans' ho (fun k _ x => by omega), _, _, _, _, _, _, _, _, _, h1⟩
  ·rename_i hok
   rw [if_neg hok]
   obtain ⟨e, h2⟩ := hd
   exact ⟨by rw [Zc6 e], hq.trans h2⟩
theorem Z8T {w : World} {sb x : Nat} {o : Nat -> Nat} {s : St} {y : Zo} (name : ByteArray) (h : Zm w sb o s) (hx : U64 x) (hy : s.sn x = some y) (hu : U64 y.own) (hI : s.I.length <= 900) (hTn : (s.T.map (fun t => t.id)).Nodup) (hIn : (s.I.map (fun t => t.id)).Nodup) :
  Calls Tryz.prog 21 #[ptrV sb, .int .u64 (x : Int), .string name] w (Z2l w sb o s y name) := by
 have HRU := zh (Z4h h hx)
 obtain ⟨lb, bb, pb, mh, mt, ms, fh, ft, fs, h⟩ := h
 have HH := zh h
 have HBIG : Hid (∀ k, w.heap.size <= k -> o k = 0) := h.big
 have HTG := zh h.tags
 have HU := zh (And.intro hu (And.intro hI (And.intro hTn hIn)))
 unfold Z2Y at HRU
 rw [hy] at HRU
 obtain ⟨Z8, Z6⟩ : ∃ Z8, Z2l w sb o s y name = Z8 := ⟨_, rfl⟩
 rw [Z6]
 have Zb := zh Z6
 clear h hx hu hI hTn hIn Z6
 go_enter Tryz.func21, Tryz.ntmps21
 go_wp2_with fail
 refine HRU.out.mono ?_
 rintro e w1 ⟨hq1, A, c, rfl, hs1⟩
 clear HRU
 have hq2 : Quiet w (w1.alloc (.cells (snapCells y A c) 84)) := hq1.alloc _
 have hpb := Z5 w1 (.cells (snapCells y A c) 84)
 have hs2 := hs1.kept ((Z0.refl (fun _ => False) w1).alloc (.cells (snapCells y A c) 84)) (fun _ _ x => x)
 have hz1 := hq1.size
 obtain ⟨ps, hps⟩ : ∃ ps, w1.heap.size = ps := ⟨_, rfl⟩
 unfold Zk
 go_wp2_with fail
 rw [hps] at hpb hz1
 (try rw [hps])
 generalize w1.alloc (.cells (snapCells y A c) 84) = w2 at *
 have HQ2 := zh hq2
 have HPS := zh (And.intro hpb hz1)
 have HSN := zh hs2
 have HS4 : Hid (∀ W, Z0 (fun k => o k = 3) w2 W -> (fun w' => w'.cell? ⟨sb, 1, none⟩ = some (ptrV bb) /\ w'.cell? ⟨sb, 0, none⟩ = some (ptrV lb) /\ w'.cell? ⟨ps, 0, none⟩ = some (.int .u64 (y.own : Int)) /\ w'.cell? ⟨ps, 1, none⟩ = some (.int .u64 (y.xmin : Int)) /\ w'.cell? ⟨ps, 2, none⟩ = some (.int .u64 (y.xmax : Int)) /\ w'.cell? ⟨ps, 3, none⟩ = some (.slice A y.run.length c)) W) := fun W ho => by
  have tg := HTG.out
  have c := (HH.out.quietly HQ2.out).cells
  have hz := HBIG.out ps HPS.out.2
  obtain ⟨s0, s1, s2, s3⟩ := Zv (ho.get HPS.out.1 (fun x => by omega))
  exact ⟨ho.cell c.2.1 (fun x => by dsimp only at x; omega), ho.cell c.1 (fun x => by dsimp only at x; omega), s0, s1, s2, s3⟩
 have HBD : Hid (∀ W, Quiet w2 W -> Calls Tryz.prog 54 #[ptrV bb, ptrV lb, .agg #[.int .u64 (y.own : Int), .int .u64 (y.xmin : Int), .int .u64 (y.xmax : Int), .slice A y.run.length c], .string name] W (Z50 W (fun k => o k = 3) bb s.blast s.T s.I s.L y name)) := fun W hq => by
  have h2 := (HH.out.quietly HQ2.out).quietly hq
  exact Z9m name h2.book h2.log (HSN.out.kept hq (fun _ _ x => x)) HU.out.1 HU.out.2.1 HU.out.2.2.1 HU.out.2.2.2
 clear hq1 hs1 hs2 hpb hz1 hq2 hps hy
 refine zH HS4 ((Z0.refl _ _).drew) (fun Z3 => ?_)
 have q0 : Quiet w2 w2.drew := (Z0.refl _ _).drew
 generalize w2.drew = d0 at q0 Z3 ⊢
 refine zT 0 ?_
 refine zT 1 ?_
 refine zT 2 ?_
 refine zT 3 ?_
 refine zT 4 ?_
 refine zT 5 ?_
 refine zT 6 ?_
 refine zT 7 ?_
 refine zT 8 ?_
 refine zT 9 ?_
 refine zR 10 ?_
 intro K hK
 go_simp
 go_at_call 54
 refine (HBD.out _ q0).mono ?_
 rintro e d2 hd2
 obtain ⟨z1, z2, rfl, ho2⟩ := ZeR hd2
 have hO := (q0.mono (T := fun k => o k = 3) (fun _ _ x => x.elim)).trans ho2
 dsimp only
 refine hK.out _ _ ?_ (fun Z3 => ?_)
 ·exact HS4.out _ hO
 clear hK K
 (try simp only [Act.put, zPA, zPZ, zPS])
 clear hO
 refine zT 11 ?_
 refine zT 12 ?_
 refine zT 13 ?_
 refine zT 14 ?_
 refine zT 15 ?_
 refine zD ?_
 have Zc : Hid (Z8 (.returned (.int .i64 z2)) d2) := by
  rw [<- Zb.out]
  exact Z9n HH.out (HQ2.out.trans q0) hd2
 clear Z3 q0 ho2 hd2 HBD HS4
 go_wp2
 exact Zc.out
theorem Zc7 {w : World} {F : Nat -> Prop} {bb last : Nat} {I : List IE} (h : ZG w F bb [] I last) :
  Calls Tryz.prog 56 #[ptrV bb] w (Zd6 w) := by
 obtain ⟨vT, tps, vI, ips, h, h2, h3⟩ := h
 obtain ⟨c0, _, _⟩ := h.cells
 obtain ⟨A, c, hv, hc, hm, hf⟩ := Z1G h.rowT
 subst hv
 have lbb := Z2 h.box
 rw [show ([] : List TE).length = 0 from rfl] at c0
 clear h h2 h3 hf
 go_enter Tryz.func56, Tryz.ntmps56
 go_wp2
 refine wp_loop_rounds 1 ?_
 rw [rounds_succ]
 go_wp2
 go_ret
 exact ⟨rfl, rfl⟩
def Zc8 (w : World) (e : Ending) (w' : World) : Prop := e = .returned (.tuple #[.slice none 0 0, .slice none 0 0]) /\ Quiet w w'
theorem Z8U {w : World} {sb : Nat} {o : Nat -> Nat} {s : St} (h : Zm w sb o s) (hT : s.T = []) :
  Calls Tryz.prog 23 #[ptrV sb] w (Zc8 w) := by
 obtain ⟨lb, bb, pb, mh, mt, ms, fh, ft, fs, h⟩ := h
 obtain ⟨c0, c1, _⟩ := h.cells
 have hbk := h.book
 rw [hT] at hbk
 have lsb := Ze c1
 dsimp only at lsb
 have HTB := zh (Zc7 hbk)
 obtain ⟨Z8, Z6⟩ : ∃ Z8, Zc8 w = Z8 := ⟨_, rfl⟩
 rw [Z6]
 have Zb := zh Z6
 clear h hbk Z6
 go_enter Tryz.func23, Tryz.ntmps23
 go_wp2_with fail
 refine HTB.out.mono ?_
 rintro e w1 ⟨rfl, rfl⟩
 have Zc : Hid (∀ W, Quiet w W -> Z8 (.returned (.tuple #[.slice none 0 0, .slice none 0 0])) W) := fun W hq => by
  rw [<- Zb.out]
  exact ⟨rfl, hq⟩
 go_wp2
 refine wp_loop_rounds 1 ?_
 rw [rounds_succ]
 go_wp2
 exact Zc.out _ (Z0.refl _ _)
theorem ZcZ {w : World} {sb : Nat} {o : Nat -> Nat} {s : St} (h : Zm w sb o s) :
  Calls Tryz.prog 22 #[ptrV sb] w (fun e w' => e = .returned (.int .i64 (s.left : Int)) /\ Quiet w w') := by
 obtain ⟨lb, bb, pb, mh, mt, ms, fh, ft, fs, h⟩ := h
 obtain ⟨_, _, c2, _⟩ := h.cells
 have lsb := Ze c2
 dsimp only at lsb
 have HPL := zh (Z6a pb s.left w h.pool)
 clear h
 go_enter Tryz.func22, Tryz.ntmps22
 go_wp2_with fail
 refine HPL.out.mono ?_
 rintro e w1 ⟨rfl, rfl⟩
 go_wp2
 go_ret
 exact ⟨rfl, Z0.refl _ _⟩
section
variable {w0 w w' : World} {sb : Nat} {K : Nat -> Prop} {s : St}
theorem Z51 (h : Zz w0 w sb K s) : Calls Tryz.prog 22 #[ptrV sb] w (fun e w' => e = .returned (.int .i64 (s.left : Int)) /\ Quiet w w') := by
 obtain ⟨o, h1, _⟩ := h
 exact ZcZ h1
theorem Z48 (h : Zz w0 w sb K s) (hT : s.T = []) : Calls Tryz.prog 23 #[ptrV sb] w (Zc8 w) := by
 obtain ⟨o, h1, _⟩ := h
 exact Z8U h1 hT
theorem ZaM {x i : Nat} {y : Zo} {t : TE} {name : ByteArray} (h : Zz w0 w sb K s) (hx : U64 x) (hy : s.sn x = some y) (hu : U64 y.own) (hI : s.I.length <= 900) (hTn : (s.T.map (fun t => t.id)).Nodup) (hIn : (s.I.map (fun t => t.id)).Nodup) (hf : Z0w s.L y name s.T = some i) (ht : s.T[i]? = some t) (hok : Z40 s.L y t s.I = true) :
  Calls Tryz.prog 21 #[ptrV sb, .int .u64 (x : Int), .string name] w (fun e w' => e = .returned (.int .i64 0) /\ Z0L w0 w sb K (Zc5 s i t y) w') := by
 obtain ⟨o, h1, h2, h3, h4⟩ := h
 refine (Z8T name h1 hx hy hu hI hTn hIn).mono ?_
 intro e w' hp
 unfold Z2l at hp
 rw [hf] at hp
 obtain ⟨t', ht', hp⟩ := hp
 rw [ht] at ht'
 injection ht' with ht'
 subst ht'
 rw [if_pos hok] at hp
 exact ⟨hp.1, Z13 h1 h2 h3 h4 hp.2⟩
end
theorem ZeS {w0 : Z01} {w : World} {sb hz N : Nat} {K : Nat -> Prop} {s : St} (h : Zw w0 w sb K s) (hh : Z19 s hz) (hL : s.L.length < 1000000000) (hN : ∀ x y, s.sn x = some y -> x <= N) (hN2 : N <= 2000000) (hTl : s.T.length <= 1000) (hIl : s.I.length <= 1000)
  (hnd : (Zn s.L hz s.T).Nodup) (hhp : ∀ id ∈ Zn s.L hz s.T, ∃ H, s.hs id = some H) (hleft : ∀ k, (((Zn s.L hz s.T).take k).foldl Z0I (Z0e s hz)).left <= 256) :
  Calls Tryz.prog 137 #[ptrV sb] w (fun e w' => (∃ z : Int, e = .returned (.int .i64 z)) /\ ToB w0 w sb K (Z0D s hz) w') := by
 have hB := h
 obtain ⟨⟨o, h1, h2, h3, h4⟩, _⟩ := h
 refine (Z7r h1 hh hL hN hN2 hTl hIl hnd hhp (fun k _ => hleft k)).mono ?_
 rintro e w' ⟨hz, hst⟩
 exact ⟨⟨_, hz⟩, hB.call (Z13 h1 h2 h3 h4 hst)⟩
structure Z76 (s : St) (hz N : Nat) : Prop where
 hor : Z19 s hz
 log : s.L.length < 1000000000
 few : ∀ x y, s.sn x = some y -> x <= N
 few2 : N <= 2000000
 tabs : s.T.length <= 1000
 idxs : s.I.length <= 1000
 once : (Zn s.L hz s.T).Nodup
 heaps : ∀ id ∈ Zn s.L hz s.T, ∃ H, s.hs id = some H
 left : ∀ k, (((Zn s.L hz s.T).take k).foldl Z0I (Z0e s hz)).left <= 256
 none_ : (Z0D s hz).T = []
theorem Z7X {w0 : Z01} {w : World} {sb rb q ps hz N : Nat} {s : St} {vj : Value} {obj : Obj} (hl : Zw w0 w sb (fun k => k = rb ∨ k = q) s) (hb : Z4a w rb sb false vj ps) (hr : w0.w.heap.size <= rb /\ w0.w.heap.size <= q /\ rb ≠ q) (hqo : w.heap[q]? = some obj) (hd : Z76 s hz N) :
  Calls Tryz.prog 97 #[ptrV rb] w (fun e w' => (∃ z : Int, e = .returned (.agg #[.int .i64 0, .int .u64 0, .int .u64 0, .int .i64 z])) /\ (Zw w0 w' sb (fun k => k = rb ∨ k = q) (Z0D s hz) /\ Z4a w' rb sb true (.slice none 0 0) ps) /\ w'.heap[q]? = some obj) := by
 obtain ⟨Z8, Z6⟩ : ∃ Z8 : Ending -> World -> Prop, (fun e w' => (∃ z : Int, e = .returned (.agg #[.int .i64 0, .int .u64 0, .int .u64 0, .int .i64 z])) /\ (Zw w0 w' sb (fun k => k = rb ∨ k = q) (Z0D s hz) /\ Z4a w' rb sb true (.slice none 0 0) ps) /\ w'.heap[q]? = some obj) = Z8 := ⟨_, rfl⟩
 rw [Z6]
 have Zb := zh Z6
 have hq : Quiet w (w.alloc (.cells #[.int .i64 0, .int .u64 0, .int .u64 0, .int .i64 0] 126)) := (Z0.refl _ _).alloc _
 have h2 := Z5 w (.cells #[.int .i64 0, .int .u64 0, .int .u64 0, .int .i64 0] 126)
 obtain ⟨r2, hr2⟩ : ∃ r2, w.heap.size = r2 := ⟨_, rfl⟩
 rw [hr2] at h2
 have HR2 := zh hr2
 have hbl := Z2 hb.box
 have hzl := hl.quiet.size
 have hlq := Z2 hqo
 have HRR : Hid (w0.w.heap.size <= rb /\ w0.w.heap.size <= r2 /\ rb ≠ r2 /\ w0.w.heap.size <= q /\ rb ≠ q /\ q ≠ r2) := ⟨hr.1, by omega, by omega, hr.2.1, hr.2.2, by omega⟩
 have HL1 : Hid (Zw w0 (w.alloc (.cells #[.int .i64 0, .int .u64 0, .int .u64 0, .int .i64 0] 126)) sb (fun k => k = rb ∨ k = q ∨ k = r2) s) := (hl.quietly hq).mono (fun k e => by
   rcases e with e | e | e
   · exact Or.inl (Or.inl e)
   · exact Or.inl (Or.inr e)
   · exact Or.inr ⟨by omega, by have := Z2 h2; omega⟩)
 have hb1 := hq.get hb.box (fun x => x)
 have HB1 := zh hb1
 have H21 := zh h2
 have HQ1 := zh (hq.get hqo (fun x => x))
 have HNO := zh hd.none_
 have HPR := zh (ZeS HL1.out hd.hor hd.log hd.few hd.few2 hd.tabs hd.idxs hd.once hd.heaps hd.left)
 obtain ⟨s', hs'⟩ : ∃ s', Z0D s hz = s' := ⟨_, rfl⟩
 rw [hs'] at Zb HNO HPR
 have b0 := Z1 hb1 0
 simp only [zGA, zGS, zGZ] at b0
 have lb1 := Z2 hb1
 clear Z6 hl hb hr hqo hd hzl hlq hs'
 go_enter Tryz.func97, Tryz.ntmps97
 go_upto_region 1 with fail
 (try rw [hr2])
 generalize w.alloc (.cells #[.int .i64 0, .int .u64 0, .int .u64 0, .int .i64 0] 126) = w1 at *
 clear hq h2 hr2 hb1
 go_wp2_with fail
 refine HPR.out.mono ?_
 rintro e w2 ⟨⟨zn, rfl⟩, hl2⟩
 have HL2 := zh hl2.st
 have HO2 := zh hl2.2
 have hb2 := hl2.2.get HB1.out (fun x => x.2 (Or.inl rfl))
 have HB2 := zh hb2
 have H22 := zh (hl2.2.get H21.out (fun x => x.2 (Or.inr (Or.inr rfl))))
 have HQ2 := zh (hl2.2.get HQ1.out (fun x => x.2 (Or.inr (Or.inl rfl))))
 have HBK := zh (Z48 HL2.out.law HNO.out)
 have b0 := Z1 hb2 0
 simp only [zGA, zGS, zGZ] at b0
 have lb2 := Z2 hb2
 clear hl2 hb2 HPR lb1
 go_wp2_with fail
 refine HBK.out.mono ?_
 rintro e w3 ⟨rfl, hO⟩
 have HO3 := zh hO
 have hb3 := hO.get HB2.out (fun x => x)
 have c1 := Z1 hb3 1
 have c2 := Z1 hb3 2
 have cf := fun o => Z7 hb3 o
 simp only [zGA, zGS, zGZ] at c1 c2
 have lb3 := Z2 hb3
 have HB4 : Hid (((w3.setCell ⟨rb, 1, none⟩ (.bool true)).setCell ⟨rb, 2, none⟩ (.slice none 0 0)).heap[rb]? = some (.cells #[ptrV sb, .bool true, .slice none 0 0, .int .i64 (ps : Int)] 81 (0, 0))) := by
  show _ = _
  rw [Zf (Zf hb3 _ _) _ _]
  rfl
 have HO4 : Hid (Z0 (fun k => k = rb) w3 ((w3.setCell ⟨rb, 1, none⟩ (.bool true)).setCell ⟨rb, 2, none⟩ (.slice none 0 0))) := ((Z0.refl (fun k => k = rb) w3).setCell (p := ⟨rb, 1, none⟩) (fun _ => rfl) _).setCell (p := ⟨rb, 2, none⟩) (fun _ => rfl) _
 clear hO hb3 HBK lb2 b0
 go_upto_region 4 with fail
 generalize (w3.setCell ⟨rb, 1, none⟩ (.bool true)).setCell ⟨rb, 2, none⟩ (.slice none 0 0) = w4 at *
 clear c1 c2 cf lb3
 have HW24 : Hid (Z0 (fun k => k = rb) w2 w4) := (HO3.out.mono (fun _ _ x => x.elim)).trans HO4.out
 have h28 := HW24.out.get H22.out (fun e => HRR.out.2.2.1 e.symm)
 obtain ⟨e0, e1, e2, e3⟩ := zC4 h28
 have ef := fun o => Z7 h28 o
 have hl8 := Z2 h28
 have HX := zh (Z0g h28 (.int .i64 0) (.int .u64 0) (.int .u64 0) (.int .i64 zn))
 have ho4 := Z02 w4 r2 (.int .i64 0) (.int .u64 0) (.int .u64 0) (.int .i64 zn)
 have Zc : Hid (Z8 (.returned (.agg #[.int .i64 0, .int .u64 0, .int .u64 0, .int .i64 zn])) (fourSet w4 r2 (.int .i64 0) (.int .u64 0) (.int .u64 0) (.int .i64 zn))) := by
  rw [<- Zb.out]
  have hrr := HRR.out
  have hw : Z0 (fun k => k = rb ∨ k = q ∨ k = r2) w2 (fourSet w4 r2 (.int .i64 0) (.int .u64 0) (.int .u64 0) (.int .i64 zn)) := (HW24.out.mono (fun k _ e => Or.inl e)).trans (ho4.mono (fun k _ e => Or.inr (Or.inr e)))
  refine ⟨⟨_, rfl⟩, ⟨(HL2.out.turn hw (fun k e => by rcases e with e | e | e <;> omega)).mono (fun k e => e.imp id Or.inl), ⟨ho4.get HB4.out (fun e => hrr.2.2.1 e)⟩⟩, ?_⟩
  exact ho4.get (HW24.out.get HQ2.out (fun e => hrr.2.2.2.2.1 e.symm)) (fun e => hrr.2.2.2.2.2 e)
 unfold fourSet at HX Zc
 clear ho4 h28
 go_wp2
 refine wp_loop_rounds 1 ?_
 rw [rounds_succ]
 go_wp2
 exact bodyPost_ret (Z00 Tryz.results97 _ _ r2 _ _ (0, 0) _ (by rfl) HX.out Tryz.underlying126 rfl Z1k) (by rfl) Zc.out
theorem Z8V {w0 : Z01} {w : World} {sb rb ps hz N : Nat} {s : St} (h : Z1o w0 w sb rb ps s) (hd : Z76 s hz N) :
  Calls Tryz.prog 51 #[ptrV rb] w (fun e w' => Z1e 0 e /\ Z3p w0 w' sb rb ps (Z0D s hz)) := by
 obtain ⟨vj, hl, hb, hr⟩ := h
 obtain ⟨Z8, Z6⟩ : ∃ Z8 : Ending -> World -> Prop, (fun e w' => Z1e 0 e /\ Z3p w0 w' sb rb ps (Z0D s hz)) = Z8 := ⟨_, rfl⟩
 rw [Z6]
 have Zb := zh Z6
 have hq : Quiet w (w.alloc (.cells #[.int .i64 0, .int .u64 0, .int .u64 0, .int .i64 0] 126)) := (Z0.refl _ _).alloc _
 have h2 := Z5 w (.cells #[.int .i64 0, .int .u64 0, .int .u64 0, .int .i64 0] 126)
 have hbl := Z2 hb.box
 obtain ⟨r2, hr2⟩ : ∃ r2, w.heap.size = r2 := ⟨_, rfl⟩
 rw [hr2] at h2 hbl
 have hrn : w0.w.heap.size <= r2 := by have := hl.quiet.size; omega
 have hl1 : Zw w0 (w.alloc (.cells #[.int .i64 0, .int .u64 0, .int .u64 0, .int .i64 0] 126)) sb (fun k => k = rb ∨ k = r2) s := (hl.quietly hq).mono (fun k e => by
   rcases e with e | e
   · exact Or.inl e
   · exact Or.inr ⟨by omega, by have := Z2 h2; omega⟩)
 have hb1 : Z4a (w.alloc (.cells #[.int .i64 0, .int .u64 0, .int .u64 0, .int .i64 0] 126)) rb sb false vj ps := ⟨hq.get hb.box (fun x => x)⟩
 have HBE := zh (Z7X hl1 hb1 ⟨hr, hrn, by omega⟩ h2 hd)
 have HRN := zh (And.intro hrn (And.intro hr hbl))
 obtain ⟨b0, b1⟩ := zC2 hb1.box
 have lb := Z2 hb1.box
 clear Z6 hl hb hr hd hq h2 hl1 hb1 hrn hbl
 go_enter Tryz.func51, Tryz.ntmps51
 go_wp2_with fail
 (try rw [hr2])
 refine HBE.out.mono ?_
 rintro e w2 ⟨⟨z, rfl⟩, ⟨hj, hbr⟩, h2⟩
 obtain ⟨e0, e1, e2, e3⟩ := zC4 h2
 have ef := fun o => Z7 h2 o
 have l2 := Z2 h2
 have HX := zh (Z0g h2 (.int .i64 0) (.int .u64 0) (.int .u64 0) (.int .i64 z))
 have Zc : Hid (Z8 (.returned (.agg #[.int .i64 0, .int .u64 0, .int .u64 0, .int .i64 z])) (fourSet w2 r2 (.int .i64 0) (.int .u64 0) (.int .u64 0) (.int .i64 z))) := by
  rw [<- Zb.out]
  have hrn := HRN.out
  have ho := Z02 w2 r2 (.int .i64 0) (.int .u64 0) (.int .u64 0) (.int .i64 z)
  exact ⟨⟨_, _, _, rfl⟩, none, 0, (hj.turn (ho.mono (fun k _ e => Or.inr e)) (fun k e => by rcases e with e | e <;> omega)).mono (fun k e => Or.inl e), ⟨ho.get hbr.box (fun e => by have e' : rb = r2 := e; omega)⟩, hrn.2.1, Nat.zero_le _⟩
 unfold fourSet at HX Zc
 clear h2 hj hbr HBE b0 b1 lb
 go_wp2
 exact bodyPost_ret (Z00 Tryz.results51 _ _ r2 _ _ (0, 0) _ (by rfl) HX.out Tryz.underlying126 rfl Z1k) (by rfl) Zc.out
theorem Zam {w0 : Z01} {w : World} {sb rb ps hz N most : Nat} {s : St} (h : Z1o w0 w sb rb ps s) (hd : Z76 s hz N) (hp : ps < 1000000) (hm : 1 < most) (hmo : most <= 10000) :
  Calls Tryz.prog 16 #[ptrV rb, .int .i64 (most : Int)] w (fun e w' => (∃ z : Int, e = .returned (.int .i64 z)) /\ Z1o w0 w' sb rb (ps + 1) (Z0D s hz)) := by
 refine Z8S (m := 1) (sb := sb) ⟨h.cell0, (Z8V h hd).mono ?_⟩ hm hmo
 rintro e w' ⟨he, hj⟩
 exact ⟨⟨0, by decide, he⟩, hj.cell0, ZbW hj hp⟩
structure Z56 (c : Nat) (H : List (List (Option Tup))) (left : Nat) : Prop where
 fit : ∀ T ∈ H, Z0X T
 used : usedH H = c
 sum : H.length + left = 50
 nine : ∀ T ∈ H, ∀ s ∈ T, Z7M s
 pos : 0 < c -> 0 < H.length
theorem Z56.start : Z56 0 [] 50 := ⟨(fun T hT => by cases hT), rfl, rfl, (fun T hT => by cases hT), fun h => by omega⟩
theorem Zgv {T : List (Option Tup)} (h : ∀ s ∈ T, Z7M s) : Z0B T = T.length := by
 unfold Z0B
 rw [List.filter_eq_self.2 (fun s hs => by obtain ⟨v, rfl, _⟩ := h s hs; rfl)]
theorem Zan : ∀ {H : List (List (Option Tup))}, (∀ T ∈ H, ∀ s ∈ T, Z7M s) -> (∀ T ∈ H, 11 <= T.length) -> 11 * H.length <= usedH H
 | [], _, _ => Nat.le_refl _
 | T :: H, h1, h2 => by
  have ih := Zan (H := H) (fun U hU => h1 U (List.mem_cons_of_mem _ hU)) (fun U hU => h2 U (List.mem_cons_of_mem _ hU))
  have e1 := Zgv (h1 T (List.mem_cons_self ..))
  have e2 := h2 T (List.mem_cons_self ..)
  have e3 : usedH (T :: H) = Z0B T + usedH H := by unfold usedH; rw [List.map_cons, List.sum_cons]
  rw [e3, e1, List.length_cons]
  omega
theorem Z56.ins {c left row n : Nat} {H : List (List (Option Tup))} (h : Z56 c H left) (hc : c < 500) (hr : row <= 1000) :
  ∃ p q H' left', Z12 H left ⟨row, 1, 0, -1, -1, rowI n⟩ = ((p, q, 0), H', left') /\ Z56 (c + 1) H' left' := by
 have hrt := Z4i (r := row) (x := 1) (n := n) (by omega) (by omega)
 have hdl : (rowI n).length = 9 := Z0j n
 have hs := h.sum
 have hroom : 0 < left ∨ (Z1c H (rowI n).length).isSome = true := by
  rcases Nat.eq_zero_or_pos left with e | e
  ·right
   rcases hf : Z1c H (rowI n).length with _ | i
   ·exfalso
    have h11 : ∀ T ∈ H, 11 <= T.length := fun T hT => by
     rcases Nat.lt_or_ge T.length 11 with a | a
     ·have hrm := Za8 (h.nine T hT) (by omega)
      unfold Z1c at hf
      rw [List.findIdx?_eq_none_iff] at hf
      have := hf T hT
      rw [hdl] at this
      simp at this
      omega
     ·exact a
    have := Zan h.nine h11
    rw [h.used] at this
    omega
   ·rfl
  ·exact Or.inl e
 obtain ⟨p, q, H', left', h1, h2, _, h4⟩ := Zfw (left := left) h.fit hrt hroom
 refine ⟨p, q, H', left', h1, h2.fit, by rw [h2.used, h.used], by omega, ?_, fun _ => ?_⟩
 ·rcases hf : Z1c H (rowI n).length with _ | i
  ·rw [hf] at hroom
   obtain ⟨l, rfl⟩ : ∃ l, left = l + 1 := ⟨left - 1, by rcases hroom with x | x; omega; simp at x⟩
   rw [Z9K hrt hf] at h1
   have e : H' = H ++ [[some ⟨row, 1, 0, -1, -1, rowI n⟩]] := by
    have := congrArg (fun x => x.2.1) h1
    exact this.symm
   rw [e]
   intro T hT
   rcases List.mem_append.1 hT with a | a
   ·exact h.nine T a
   ·rw [List.mem_singleton] at a
    subst a
    intro s hs
    rw [List.mem_singleton] at hs
    exact ⟨_, hs, hdl⟩
  ·obtain ⟨T, hT, _⟩ := Z4e hf
   rw [Z9J hrt hf hT] at h1
   have e : H' = H.set i (Z1h T ⟨row, 1, 0, -1, -1, rowI n⟩) := by
    have := congrArg (fun x => x.2.1) h1
    exact this.symm
   rw [e]
   intro U hU
   rcases List.mem_or_eq_of_mem_set hU with a | a
   ·exact h.nine U a
   ·have hn := h.nine T (List.mem_of_getElem? hT)
    unfold Z1h at a
    rw [Z6y hn, if_pos rfl] at a
    subst a
    intro s hs
    rcases List.mem_append.1 hs with x | x
    ·exact hn s x
    ·rw [List.mem_singleton] at x
     exact ⟨_, x, hdl⟩
 ·rcases Nat.eq_zero_or_pos H'.length with e | e
  ·have hu := h2.used
   rw [List.eq_nil_of_length_eq_zero e] at hu
   have : usedH [] = 0 := rfl
   omega
  ·exact e
def stG (L : List Nat) (t : TE) (x : IE) (H : List (List (Option Tup))) (left last : Nat) (es : List Ent) : St := ⟨L, [t], [x], 2, left, upd (fun _ => none) 1 (some H), upd (fun _ => none) 2 (some es), fun _ => none, last⟩
def tabD : TE := { tabA with xmax := 2 }
def idxD : IE := { idxA with xmax := 2 }
theorem Z5g : ∀ (l : List Nat) (s : St), (l.foldl Z1X s).T = s.T /\ (l.foldl Z1X s).left = s.left
 | [], _ => ⟨rfl, rfl⟩
 | _ :: l, s => Z5g l (Z1X s _)
section
variable {w0 w : World} {sb : Nat} {K : Nat -> Prop} {H : List (List (Option Tup))} {L : List Nat} {t : TE} {x : IE} {left last c hz : Nat} {es : List Ent}
theorem Zao (hd : Z14 L hz t = true) (ht : t.id = 1) (hhz : hz = L.length + 1) (hL : L.length <= 10) (hs : H.length + left = 50) :
  Z76 (stG L t x H left last es) hz 0 /\ (Z0D (stG L t x H left last es) hz).left = 50 := by
 have e1 : Zn (stG L t x H left last es).L hz (stG L t x H left last es).T = [1] := by
  show Zn L hz [t] = [1]
  unfold Zn
  rw [List.filter_cons, if_pos hd, List.filter_nil, List.map_cons, List.map_nil, ht]
 have e2 : (Z0e (stG L t x H left last es) hz).T = [] := by
  show [t].filter (fun t => !Z14 L hz t) = []
  rw [List.filter_cons, if_neg (by rw [hd]; decide), List.filter_nil]
 have e3 : (Z0I (Z0e (stG L t x H left last es) hz) 1).left = 50 := by
  show left + ((upd (fun _ => none) 1 (some H) 1).getD []).length = 50
  have : upd (fun _ => none) 1 (some H) 1 = some H := by simp [upd]
  rw [this]
  show left + H.length = 50
  omega
 refine ⟨⟨⟨fun _ => hhz, ?_, ?_, by unfold U64; omega⟩, by show L.length < _; omega, ?_, by omega, by show 1 <= 1000; omega, by show 1 <= 1000; omega, by rw [e1]; decide, ?_, ?_, ?_⟩, ?_⟩
 ·rintro ⟨x, y, e⟩
  cases e
 ·intro x y e
  cases e
 ·intro x y e
  cases e
 ·rw [e1]
  intro id hid
  rw [List.mem_singleton] at hid
  subst hid
  exact ⟨H, by show upd (fun _ => none) 1 (some H) 1 = _; simp [upd]⟩
 ·intro k
  rw [e1]
  rcases k with _ | k
  ·show left <= 256
   omega
  ·have : ([1] : List Nat).take (k + 1) = [1] := by rw [List.take_of_length_le (by simp)]
   rw [this]
   show (Z0I (Z0e (stG L t x H left last es) hz) 1).left <= 256
   omega
 ·unfold Z0D
  rw [(Z5g _ _).1, e1]
  exact e2
 ·unfold Z0D
  rw [(Z5g _ _).2, e1]
  exact e3
theorem ZiH (h : Zz w0 w sb K (stE [] 50 0 none)) :
  Calls Tryz.prog 11 #[ptrV sb, .int .u64 1, .string ⟨#[105]⟩, .string ⟨#[116]⟩, .string ⟨#[97]⟩] w fun e w' => e = .returned (.int .i64 0) /\ Z0L w0 w sb K (stE [] 50 0 (some [])) w' := by
 obtain ⟨o, h1, h2, h3, h4⟩ := h
 have hz0 : ∀ k, k <= ([] : List (List (Option Tup))).length -> (ZO [] k).length <= 10000 := fun k hk => by
  obtain rfl : k = 0 := by simpa using hk
  exact Nat.zero_le _
 refine (Z7u (x := 1) (y := ZT [1] 1) (t := tabA) (nm := ⟨#[97]⟩) (N := 1) (H := []) h1 (by unfold U64; omega) rfl rfl rfl rfl Z2c rfl (by unfold U64; decide) (by show 1 < 1000000; omega) (by unfold U64; decide) Zdo Zdp (by show 1 < 1000000000; omega) (fun x y e => ?_) (by omega) hz0 (fun pg sl v hv => by rw [Z1i (by simp; omega)] at hv; cases hv)).mono ?_
 ·rcases Nat.lt_or_ge 1 x with a | a
  ·have e' : upd (fun _ => none) 1 (some (ZT [1] 1)) x = some y := e
   rw [show upd (fun _ => none) 1 (some (ZT [1] 1)) x = (none : Option Zo) by simp [upd]; omega] at e'
   cases e'
  ·exact a
 ·rintro e w' ⟨hz, rfl, hst⟩
  exact ⟨rfl, Z13 h1 h2 h3 h4 hst⟩
theorem ZhV {H' : List (List (Option Tup))} {left' : Nat} {p q : Int} {Sv : Nat -> Prop} {A3 : Option Addr} {c3 : Nat} (h : Zz w0 w sb K (stE H left c (some es))) (hs : Z56 c H left) (he : es.length <= c) (hc : c < 500) (hins : Z12 H left ⟨c + 1, 1, 0, -1, -1, rowI 1⟩ = ((p, q, 0), H', left')) (hv : Rd w Sv 4 A3 1 (intRow 1)) (hc3 : 1 <= c3) (hm3 : c3 <= maxLen) :
  Calls Tryz.prog 12 #[ptrV sb, .int .u64 1, .string ⟨#[116]⟩, .slice A3 1 c3] w (fun e w' => e = .returned (.int .i64 0) /\ Z0L w0 w sb K (stE H' left' (c + 1) (some (Z1j ⟨ZN 1, p, q⟩ es))) w') := by
 refine (Z7n (n := 1) (x := 1) (y := ZT [1] 1) (t := tabA) (i := 0) (nm := ⟨#[97]⟩) (name := ⟨#[116]⟩) h (by unfold U64; omega) rfl Z2c rfl rfl (by unfold U64; decide) (Z5O (fun es' e => by injection e with e; rw [<- e]; omega)) rfl (by show H.length + left <= 256; have := hs.sum; omega) (by omega) hv hc3 hm3 (by show c + 1 < _; omega) hins).mono ?_
 rintro e w' ⟨rfl, ht⟩
 rw [Z74] at ht
 exact ⟨rfl, ht⟩
theorem Zc9 (v : Nat) : ({ Z4g (stE H left last (some es)) 1 v with L := L } : St) = stG L tabA idxA H left last es := by
 unfold Z4g stG
 have e : upd (stE H left last (some es)).sn 1 none = fun _ => none := Zc4 (f := fun _ => none) (i := 1) rfl _
 rw [e]
 rfl
theorem ZiI (h : Zz w0 w sb K (stE H left last (some es))) :
  Calls Tryz.prog 20 #[ptrV sb, .int .u64 1] w fun e w' => (∃ v, e = .returned v) /\ Z0L w0 w sb K (stG [3] tabA idxA H left last es) w' := by
 refine (Zg4 (x := 1) h (by unfold U64; omega)).mono ?_
 rintro e w' ⟨rfl, ht⟩
 have e1 : Z4g (stE H left last (some es)) 1 3 = stG [3] tabA idxA H left last es := Zc9 (L := [3]) 3
 rw [e1] at ht
 exact ⟨⟨_, rfl⟩, ht⟩
theorem ZhW (h : Zz w0 w sb K (stE H left last (some es))) :
  Calls Tryz.prog 13 #[ptrV sb, .int .u64 1] w fun e w' => (∃ v, e = .returned v) /\ Z0L w0 w sb K (stG [2] tabA idxA H left last es) w' := by
 refine (Z5M (x := 1) h (by unfold U64; omega)).mono ?_
 rintro e w' ⟨rfl, ht⟩
 have e1 : Z4g (stE H left last (some es)) 1 2 = stG [2] tabA idxA H left last es := Zc9 (L := [2]) 2
 rw [e1] at ht
 exact ⟨⟨_, rfl⟩, ht⟩
theorem ZiJ (h : Zz w0 w sb K (stG [2] tabA idxA H left last es)) :
  Calls Tryz.prog 9 #[ptrV sb] w fun e w' => e = .returned (.tuple #[.int .u64 2, .int .i64 0]) /\ Z0L w0 w sb K { stG [2, 1] tabA idxA H left last es with sn := upd (fun _ => none) 2 (some (ZT [2, 1] 2)) } w' := by
 refine (Z6x h (by show 1 < _; omega)).mono ?_
 rintro e w' ⟨rfl, ht⟩
 exact ⟨rfl, ht⟩
theorem Zj2 (h : Zz w0 w sb K { stG [2, 1] tabA idxA H left last es with sn := upd (fun _ => none) 2 (some (ZT [2, 1] 2)) }) :
  Calls Tryz.prog 21 #[ptrV sb, .int .u64 2, .string ⟨#[116]⟩] w fun e w' => e = .returned (.int .i64 0) /\ Z0L w0 w sb K { stG [2, 1] tabD idxD H left last es with sn := upd (fun _ => none) 2 (some (ZT [2, 1] 2)) } w' := by
 refine (ZaM (x := 2) (i := 0) (y := ZT [2, 1] 2) (t := tabA) (name := ⟨#[116]⟩) h (by unfold U64; omega) rfl (by unfold U64; decide) (by show 1 <= 900; omega) (by show ([1] : List Nat).Nodup; decide) (by show ([2] : List Nat).Nodup; decide) (show Z0w [2, 1] (ZT [2, 1] 2) ⟨#[116]⟩ [tabA] = some 0 from Z8D (by decide)) rfl (by show Z40 [2, 1] (ZT [2, 1] 2) tabA [idxA] = true; decide +kernel)).mono ?_
 rintro e w' ⟨rfl, ht⟩
 refine ⟨rfl, ?_⟩
 have e1 : [idxA].map (Z4Z [2, 1] (ZT [2, 1] 2) tabA.id) = [idxD] := by
  show [Z4Z [2, 1] (ZT [2, 1] 2) tabA.id idxA] = [idxD]
  unfold Z4Z
  rw [if_pos (by decide +kernel)]
  rfl
 have e2 : Zc5 { stG [2, 1] tabA idxA H left last es with sn := upd (fun _ => none) 2 (some (ZT [2, 1] 2)) } 0 tabA (ZT [2, 1] 2) = { stG [2, 1] tabD idxD H left last es with sn := upd (fun _ => none) 2 (some (ZT [2, 1] 2)) } := by
  show ({ stG [2, 1] tabA idxA H left last es with sn := upd (fun _ => none) 2 (some (ZT [2, 1] 2)), T := [{ tabA with xmax := 2 }], I := [idxA].map (Z4Z [2, 1] (ZT [2, 1] 2) tabA.id) } : St) = _
  rw [e1]
  rfl
 rw [e2] at ht
 exact ht
theorem Zj3 (h : Zz w0 w sb K { stG [2, 1] tabD idxD H left last es with sn := upd (fun _ => none) 2 (some (ZT [2, 1] 2)) }) :
  Calls Tryz.prog 13 #[ptrV sb, .int .u64 2] w fun e w' => e = .returned (.int .i64 0) /\ Z0L w0 w sb K (stG [2, 2] tabD idxD H left last es) w' := by
 refine (Z5M (x := 2) h (by unfold U64; omega)).mono ?_
 rintro e w' ⟨rfl, ht⟩
 have e0 : Z24 [2, 1] 2 2 = (0, [2, 2]) := rfl
 have e2 : upd (upd (fun _ => none) 2 (some (ZT [2, 1] 2))) 2 none = fun _ => none := Zc4 (f := fun _ => none) (i := 2) rfl _
 have e1 : Z4g { stG [2, 1] tabD idxD H left last es with sn := upd (fun _ => none) 2 (some (ZT [2, 1] 2)) } 2 2 = stG [2, 2] tabD idxD H left last es := by
  show ({ stG [2, 1] tabD idxD H left last es with L := (Z24 [2, 1] 2 2).2, sn := upd (upd (fun _ => none) 2 (some (ZT [2, 1] 2))) 2 none } : St) = _
  rw [e0, e2]
  rfl
 rw [e1] at ht
 refine ⟨?_, ht⟩
 show Ending.returned (.int .i64 ((Z24 [2, 1] 2 2).1 : Int)) = _
 rw [e0]
 rfl
end
theorem ZeT (rows : Nat) (ab : Bool) (hrows : rows < 256) (w : World) :
  Calls Tryz.prog 5 #[.int .u8 (rows : Int), .bool ab] w fun e w' => e = .returned (.bool true) /\ Quiet w w' := by
 obtain ⟨Z8, Z6⟩ : ∃ Z8 : Ending -> World -> Prop, (fun e w' => e = .returned (.bool true) /\ Quiet w w') = Z8 := ⟨_, rfl⟩
 rw [Z6]
 have Zb := zh Z6
 clear Z6
 obtain ⟨k, hk⟩ : ∃ k : Nat, 1 + (rows : Int) % 60 = (k : Int) := ⟨1 + rows % 60, by omega⟩
 have hk8 : 1 <= k /\ k <= 60 := by omega
 have HK8 := zh hk8
 go_enter Tryz.func5, Tryz.ntmps5
 go_wp2_with fail
 refine (ZiG _).mono ?_
 rintro e w0 ⟨rfl, hq0⟩
 have HQ0 := zh hq0
 clear hq0
 go_wp2_with fail
 refine (Zdc 50 (by omega) _).mono ?_
 rintro e w1 ⟨sb, rfl, h1⟩
 have HNB := zh (Zak (Zw.start h1))
 clear h1
 go_wp2_with fail
 refine HNB.out.mono ?_
 rintro e w2 ⟨rb, rfl, h2⟩
 have H2 := zh h2.x.1
 clear h2 HNB
 have HBG : Hid (Calls Tryz.prog 9 #[ptrV sb] w2 (fun e w' => e = .returned (.tuple #[.int .u64 1, .int .i64 0]) /\ BrX w0 w' sb rb 0 (fun _ => False) (Z72 (st0 50)))) := by
  refine (Z6x H2.out.law (by decide)).mono ?_
  rintro e w' ⟨rfl, h⟩
  exact ⟨rfl, H2.out.to h⟩
 go_wp2_with fail
 refine HBG.out.mono ?_
 rintro e w3 ⟨rfl, h3⟩
 have H3 := zh h3
 clear h3 HBG H2
 go_wp2_with fail
 refine (Zi1 _).mono ?_
 rintro e w4 ⟨b3, rfl, hq3, hn3, hl3, hr3⟩
 have HMK : Hid (Calls Tryz.prog 10 #[ptrV sb, .int .u64 1, .string ⟨#[116]⟩, .slice (some ⟨b3, 0, none⟩) 1 1] w4 (fun e w' => e = .returned (.int .i64 0) /\ BrX w0 w' sb rb 0 (fun _ => False) (stE [] 50 0 none))) := by
  have hX := H3.out.quietly hq3
  refine (ZbC (x := 1) (y := ZT [1] 1) (name := ⟨#[116]⟩) (nm := ⟨#[97]⟩) (kd := 1) hX.law (by unfold U64; omega) rfl rfl rfl rfl (by decide) (by unfold U64; decide) Zdj Zdk ⟨by omega, by omega⟩ (hr3.mono (fun k e => Or.inr (Or.inr ⟨by omega, by omega⟩))) (by omega) (by unfold maxLen; omega)).mono ?_
  rintro e w' ⟨rfl, h⟩
  exact ⟨rfl, (hX.to h).mono (fun _ x => x.elim)⟩
 clear hq3 hn3 hl3 hr3
 go_wp2_with fail
 refine HMK.out.mono ?_
 rintro e w5 ⟨rfl, h5⟩
 have HIX : Hid (Calls Tryz.prog 11 #[ptrV sb, .int .u64 1, .string ⟨#[105]⟩, .string ⟨#[116]⟩, .string ⟨#[97]⟩] w5 (fun e w' => e = .returned (.int .i64 0) /\ BrX w0 w' sb rb 0 (fun _ => False) (stE [] 50 0 (some [])))) := by
  refine (ZiH h5.law).mono ?_
  rintro e w' ⟨rfl, h⟩
  exact ⟨rfl, h5.to h⟩
 clear h5 HMK H3
 go_wp2_with fail
 refine HIX.out.mono ?_
 rintro e w6 ⟨rfl, h6⟩
 have H6 := zh h6
 clear h6 HIX
 have hw0 : IntKind.i64.wrap (1 + (rows : Int) % 60) = (k : Int) := by rw [hk]; exact ZE _ (by omega) (by omega)
 go_wp2_with fail
 (try rw [hw0])
 (try rw [hk])
 go_loopw [43] (fun c wr => ∃ (len : Nat) (H : List (List (Option Tup))) (left : Nat) (es : List Ent), len <= k /\ c = .int .i64 (len : Int) /\ BrX w0 wr sb rb 0 (fun _ => False) (stE H left len (some es)) /\ Z56 len H left /\ es.length <= len) (fun c _ => k - (intOf c).toNat)
 case atStart => exact ⟨0, [], 50, [], Nat.zero_le _, rfl, H6.out, Z56.start, Nat.le_refl _⟩
 case round =>
  obtain ⟨len, H, left, es, hlen, rfl, hX, hH, he⟩ := hrel
  have HX := zh hX
  have HH := zh hH
  have HE := zh he
  clear hX hH he H6
  by_cases hlt : len < k
  ·obtain ⟨p, q, H', left', hins, hH'⟩ := HH.out.ins (row := len + 1) (n := 1) (by omega) (by omega)
   have HH' := zh hH'
   have HIN : Hid (∀ W, Quiet wr W -> ∀ bn, Rd W (fun k => k = bn) 4 (some ⟨bn, 0, none⟩) 1 (intRow 1) -> Calls Tryz.prog 12 #[ptrV sb, .int .u64 1, .string ⟨#[116]⟩, .slice (some ⟨bn, 0, none⟩) 1 1] W (fun e w' => e = .returned (.int .i64 0) /\ BrX w0 w' sb rb 0 (fun _ => False) (stE H' left' (len + 1) (some (Z1j ⟨ZN 1, p, q⟩ es))))) := fun W hq bn hr => by
    refine (ZhV (c3 := 1) (HX.out.same hq).law HH.out HE.out (by omega) hins hr (by omega) (by unfold maxLen; omega)).mono ?_
    rintro e w' ⟨rfl, h⟩
    exact ⟨rfl, (HX.out.same hq).to h⟩
   have hw1 : IntKind.i64.wrap ((len : Int) + 1) = ((len + 1 : Nat) : Int) := by rw [ZE _ (by omega) (by omega)]; rfl
   clear hins hH'
   go_wp2_with fail
   refine (ZaQ 1 _).mono ?_
   rintro e w7 ⟨b6, rfl, hq6, hn6, hl6, hr6⟩
   have HI2 := zh (HIN.out _ hq6 b6 hr6)
   clear hq6 hn6 hl6 hr6 HIN
   go_wp2_with fail
   refine HI2.out.mono ?_
   rintro e w8 ⟨rfl, h7⟩
   have H7 := zh h7
   have HES : Hid ((Z1j ⟨ZN 1, p, q⟩ es).length <= len + 1) := Nat.le_trans (ZcC _ _) (Nat.succ_le_succ HE.out)
   clear h7 HI2
   go_wp2
   go_roundw
   case rel => exact ⟨len + 1, H', left', _, by omega, by first | rfl | go_num, H7.out, HH'.out, HES.out⟩
   case measure => simp [intOf]; omega
  ·obtain rfl : k = len := by omega
   clear hlt hlen
   cases ab with
   | true =>
    have HAB := zh (ZiI HX.out.law)
    go_wp2_with fail
    refine HAB.out.mono ?_
    rintro e w8 ⟨⟨v8, rfl⟩, h8⟩
    have H8 := zh (HX.out.to h8)
    clear h8 HAB
    have HE1 : Hid (BrX w0 w8 sb rb 0 (fun _ => False) (stG [3] tabA idxA H left k es)) := H8
    have HDD := Zao (H := H) (left := left) (last := k) (es := es) (L := [3]) (t := tabA) (x := idxA) (hz := 2) (by decide +kernel) rfl rfl (by decide) HH.out.sum
    have HAD := zh HDD.1
    have HLF := zh HDD.2
    have HLE := zh (Z51 HE1.out.law)
    clear HDD
    go_wp2_with fail
    refine HLE.out.mono ?_
    rintro e wl ⟨rfl, hql⟩
    have HE2 : Hid (BrX w0 wl sb rb 0 (fun _ => False) (stG [3] tabA idxA H left k es)) := HE1.out.same hql
    have hleft : ((stG [3] tabA idxA H left k es).left : Int) < 50 := by
     show (left : Int) < 50
     have h1 := HH.out.sum
     have h2 := HH.out.pos (by omega)
     omega
    have HPA := zh (Zam HE2.out.idle HAD.out (by omega) (most := 1000) (by omega) (by omega))
    obtain ⟨s', hs'⟩ : ∃ s', Z0D (stG [3] tabA idxA H left k es) 2 = s' := ⟨_, rfl⟩
    have HNO : Hid (s'.T = []) := by
     show _ = _
     rw [<- hs']
     exact HAD.out.none_
    have HLF2 : Hid (s'.left = 50) := by
     show _ = _
     rw [<- hs']
     exact HLF.out
    rw [hs'] at HPA
    clear hql HE1 HLE HLF HAD hs'
    go_wp2_with fail
    refine HPA.out.mono ?_
    rintro e wp ⟨⟨zp, rfl⟩, hi⟩
    have HE3 : Hid (BrX w0 wp sb rb 1 (fun _ => False) s') := hi.x.1
    have HBK := zh (Z48 HE3.out.law HNO.out)
    clear hi HPA HE2
    go_wp2_with fail
    refine HBK.out.mono ?_
    rintro e wb ⟨rfl, hqb⟩
    have HE4 : Hid (BrX w0 wb sb rb 1 (fun _ => False) s') := HE3.out.same hqb
    have HL4 : Hid (Calls Tryz.prog 22 #[ptrV sb] wb (fun e w' => e = .returned (.int .i64 50) /\ Quiet wb w')) := by
     refine (Z51 HE4.out.law).mono ?_
     rintro e w' ⟨rfl, hq⟩
     rw [HLF2.out]
     exact ⟨rfl, hq⟩
    clear hqb HBK HE3
    go_wp2_with fail
    refine HL4.out.mono ?_
    rintro e wf ⟨rfl, hqf⟩
    have Zc : Hid (∀ W, Quiet wf W -> Z8 (.returned (.bool true)) W) := fun W hq => by
     rw [<- Zb.out]
     exact ⟨rfl, ((HQ0.out.trans HE4.out.law.quiet).trans hqf).trans hq⟩
    clear hqf HL4
    go_wp2
    exact Zc.out _ (Z0.refl _ _)
   | false =>
    have HAB := zh (ZhW HX.out.law)
    go_wp2_with fail
    refine HAB.out.mono ?_
    rintro e w8 ⟨⟨v8, rfl⟩, h8⟩
    have HX8 := zh (HX.out.to h8)
    have HBG := zh (ZiJ HX8.out.law)
    clear h8 HAB
    go_wp2_with fail
    refine HBG.out.mono ?_
    rintro e w9 ⟨rfl, h9⟩
    have HX9 := zh (HX8.out.to h9)
    have HDR := zh (Zj2 HX9.out.law)
    clear h9 HBG
    go_wp2_with fail
    refine HDR.out.mono ?_
    rintro e w10 ⟨rfl, h10⟩
    have HX10 := zh (HX9.out.to h10)
    have HOV := zh (Zj3 HX10.out.law)
    clear h10 HDR
    go_wp2_with fail
    refine HOV.out.mono ?_
    rintro e w11 ⟨rfl, h11⟩
    have H8 := zh (HX10.out.to h11)
    clear h11 HOV
    have HE1 : Hid (BrX w0 w11 sb rb 0 (fun _ => False) (stG [2, 2] tabD idxD H left k es)) := H8
    have HDD := Zao (H := H) (left := left) (last := k) (es := es) (L := [2, 2]) (t := tabD) (x := idxD) (hz := 3) (by decide +kernel) rfl rfl (by decide) HH.out.sum
    have HAD := zh HDD.1
    have HLF := zh HDD.2
    have HLE := zh (Z51 HE1.out.law)
    clear HDD
    go_wp2_with fail
    refine HLE.out.mono ?_
    rintro e wl ⟨rfl, hql⟩
    have HE2 : Hid (BrX w0 wl sb rb 0 (fun _ => False) (stG [2, 2] tabD idxD H left k es)) := HE1.out.same hql
    have hleft : ((stG [2, 2] tabD idxD H left k es).left : Int) < 50 := by
     show (left : Int) < 50
     have h1 := HH.out.sum
     have h2 := HH.out.pos (by omega)
     omega
    have HPA := zh (Zam HE2.out.idle HAD.out (by omega) (most := 1000) (by omega) (by omega))
    obtain ⟨s', hs'⟩ : ∃ s', Z0D (stG [2, 2] tabD idxD H left k es) 3 = s' := ⟨_, rfl⟩
    have HNO : Hid (s'.T = []) := by
     show _ = _
     rw [<- hs']
     exact HAD.out.none_
    have HLF2 : Hid (s'.left = 50) := by
     show _ = _
     rw [<- hs']
     exact HLF.out
    rw [hs'] at HPA
    clear hql HE1 HLE HLF HAD hs'
    go_wp2_with fail
    refine HPA.out.mono ?_
    rintro e wp ⟨⟨zp, rfl⟩, hi⟩
    have HE3 : Hid (BrX w0 wp sb rb 1 (fun _ => False) s') := hi.x.1
    have HBK := zh (Z48 HE3.out.law HNO.out)
    clear hi HPA HE2
    go_wp2_with fail
    refine HBK.out.mono ?_
    rintro e wb ⟨rfl, hqb⟩
    have HE4 : Hid (BrX w0 wb sb rb 1 (fun _ => False) s') := HE3.out.same hqb
    have HL4 : Hid (Calls Tryz.prog 22 #[ptrV sb] wb (fun e w' => e = .returned (.int .i64 50) /\ Quiet wb w')) := by
     refine (Z51 HE4.out.law).mono ?_
     rintro e w' ⟨rfl, hq⟩
     rw [HLF2.out]
     exact ⟨rfl, hq⟩
    clear hqb HBK HE3
    go_wp2_with fail
    refine HL4.out.mono ?_
    rintro e wf ⟨rfl, hqf⟩
    have Zc : Hid (∀ W, Quiet wf W -> Z8 (.returned (.bool true)) W) := fun W hq => by
     rw [<- Zb.out]
     exact ⟨rfl, ((HQ0.out.trans HE4.out.law.quiet).trans hqf).trans hq⟩
    clear hqf HL4
    go_wp2
    exact Zc.out _ (Z0.refl _ _)
end Go.Proofs.YtnidjfjkodingaaGreatDoor
namespace Go.Proofs.YtnidjfjkodingaaGreatDoor
open Go.ChangeShapes Go.WideShapes Go.ChangeAt Go.RowKit Go.Lap
theorem Z8W {H : Type} {enc : TypeId × Value -> H} {r : Reach} {base : Nat} {d0 d1 : DataW H} {p0 p1 : List MemPlace} (v0 v1 : Value) (W : World)
  (o0 : Value.okWide Tryz.prog W r base 5 v0) (h0 : DataW.Trod enc Tryz.prog W 0 (fun _ => true) true 5 v0 d0 p0)
  (o1 : Value.okWide Tryz.prog W r base 4 v1) (h1 : DataW.Trod enc Tryz.prog W 0 (fun _ => true) true 4 v1 d1 p1) :
  Calls Tryz.prog 5 #[v0, v1] W fun e w' => e = .returned (.bool true) /\ Below W.heap.size W w' := by
 obtain ⟨x, rfl, _, _, wx⟩ := open_int Tryz.underlying5 o0 h0
 have hx := bounds_u8 wx
 obtain ⟨n, rfl⟩ : ∃ n : Nat, x = n := ⟨x.toNat, by omega⟩
 obtain ⟨b, rfl, _⟩ := open_bool Tryz.underlying4 o1 h1
 refine (ZeT n b (by omega) W).mono fun e W' ⟨he, hq⟩ => ⟨he, hq.os, hq.tape, hq.output, hq.size, fun k hk => hq.block k hk (fun x => x)⟩
end Go.Proofs.YtnidjfjkodingaaGreatDoor
