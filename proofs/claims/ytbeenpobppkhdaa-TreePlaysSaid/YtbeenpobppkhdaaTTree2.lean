/- The contract of the tree's Insert. No condition. -/
import Derived.Test.YtbeenpobppkhdaaTTree
namespace Go.Proofs.Ytbeenpobppkhdaa
open Go.RowKit Go.Lap

theorem Quiet.alloc {w w' : World} (h : Quiet w w') (o : Obj) : Quiet w (w'.alloc o) := Only.alloc h o
theorem Quiet.drew {w w' : World} (h : Quiet w w') : Quiet w w'.drew := Only.drew h

def insPostT (w : World) (D : Nat → Prop) (tb : Nat) (es : List Ent) (e : Ent) (r : Ending) (w' : World) : Prop :=
  (e ∈ es ∧ r = .returned (.int .i64 7) ∧ Only D w w' ∧ TreeIs w' (fun k => D k ∨ w.heap.size ≤ k) tb es) ∨
  (e ∉ es ∧ r = .returned (.int .i64 0) ∧ Only D w w' ∧ TreeIs w' (fun k => D k ∨ w.heap.size ≤ k) tb (insE e es))

theorem TreeMid.is {w0 w : World} {D : Nat → Prop} {tb rb h : Nat} {F K : Nat → Prop} {xs : List EV} {cnt : Int} (hm : TreeMid w0 w D tb rb h F K xs cnt) (hc : cnt = (xs.length : Int)) (hr : Rising (ents xs)) : TreeIs w (fun k => D k ∨ w0.heap.size ≤ k) tb (ents xs) := by
  subst hc
  have hz := hm.only.size
  have := hm.own
  exact ⟨rb, h, F, K, xs, ⟨Only.refl _ _, hm.box, hm.node, fun k x => ⟨Or.inl (hm.subF k x).1, (hm.subF k x).2⟩, fun k x => ⟨Or.inl (hm.subK k x).1, (hm.subK k x).2⟩, Or.inl this.1, by omega⟩, rfl, hr⟩

theorem five (w : World) (a b c d e : Obj) : ((((((w.alloc a).alloc b).alloc c).alloc d).alloc e).heap[w.heap.size]? = some a) ∧ ((((((w.alloc a).alloc b).alloc c).alloc d).alloc e).heap[w.heap.size + 1]? = some b) ∧ ((((((w.alloc a).alloc b).alloc c).alloc d).alloc e).heap[w.heap.size + 1 + 1]? = some c) ∧ ((((((w.alloc a).alloc b).alloc c).alloc d).alloc e).heap[w.heap.size + 1 + 1 + 1]? = some d) ∧ ((((((w.alloc a).alloc b).alloc c).alloc d).alloc e).heap[w.heap.size + 1 + 1 + 1 + 1]? = some e) := by
  have h1 := alloc_new w a
  have h2 := two_new w a b
  have h3 := three_new w a b c
  have h4 := three_new (w.alloc a) b c d
  rw [World.size_alloc] at h4
  have h5 := three_new ((w.alloc a).alloc b) c d e
  rw [World.size_alloc, World.size_alloc] at h5
  exact ⟨alloc_old (alloc_old (alloc_old (alloc_old h1 _) _) _) _, alloc_old (alloc_old (alloc_old h2 _) _) _, alloc_old (alloc_old h3 _) _, alloc_old h4 _, h5⟩

set_option maxHeartbeats 8000000 in
set_option maxRecDepth 100000 in
theorem tree_insert (w : World) (D : Nat → Prop) (tb : Nat) (es : List Ent) (e : Ent) (A : Option Addr) (c : Nat) (S : Nat → Prop) (ht : TreeIs w D tb es) (hr : Rd w S 1 A e.key.length (bytesV e.key)) (hby : ∀ x ∈ e.key, x < 256) (hl : e.key.length ≤ 600) (hn : es.length ≤ 10000) :
    Calls Try.prog 12 #[ptrV tb, entV e A c] w (insPostT w D tb es e) := by
  obtain ⟨rb, h, F, K, xs, hm, hes, hris⟩ := ht
  subst hes
  have hxl : xs.length ≤ 10000 := by simpa using hn
  have hq0 : Quiet w (w.alloc (.cells #[.slice A e.key.length c, .int .i64 e.pg, .int .i64 e.sl] 34)) := (Only.refl _ _).alloc _
  have hm1 := hm.quietly hq0
  obtain ⟨c0, _, _⟩ := hm1.cells
  obtain ⟨t0, t1, t2⟩ := ent_cells (alloc_new w (.cells #[.slice A e.key.length c, .int .i64 e.pg, .int .i64 e.sl] 34))
  have HCO := Lib.hid (copyOf_any e A c S _ (hr.kept hq0.drew (fun _ _ x => x)) (by omega))
  have HBX := Lib.hid (alloc_new w (.cells #[.slice A e.key.length c, .int .i64 e.pg, .int .i64 e.sl] 34))
  have hzl : ∀ k, F k → k < w.heap.size := fun k x => (hm.subF k x).2.2
  have HINS : Hid (∀ (w2 : World) (A2 : Option Addr) (c2 : Nat), Quiet w w2 → Rd w2 (fun k => w.heap.size ≤ k ∧ k < w2.heap.size) 1 A2 e.key.length (bytesV e.key) →
      ∃ K', TreeMid w w2 D tb rb h F K' xs (xs.length : Int) ∧ Calls Try.prog 28 #[ptrV rb, entV e A2 c2] w2 (InsPost K' h w2 rb F xs ⟨e, A2, c2⟩)) := by
    intro w2 A2 c2 hq hrd
    have hz := hq.size
    have hm2 := (hm.quietly hq).keys (K' := fun k => K k ∨ (w.heap.size ≤ k ∧ k < w2.heap.size)) (fun k x => Or.inl x) (fun k x => by
      rcases x with x | x
      · exact Or.inl x
      · exact Or.inr ⟨x.1, x.2, fun y => by have := hzl k y; omega⟩)
    refine ⟨_, hm2, insert_ih _ h w2 rb F xs ⟨e, A2, c2⟩ hm2.node (fun k x => ⟨(hm2.subK k x).2.1, (hm2.subK k x).2.2.2⟩) ⟨hrd.mono (fun k x => Or.inr x), hby, by show e.key.length ≤ 1000; omega⟩ hris (by omega)⟩
  have HRI := Lib.hid hris
  have HQ0 := Lib.hid hq0
  obtain ⟨POST, hPOST⟩ : ∃ POST, insPostT w D tb (ents xs) e = POST := ⟨_, rfl⟩
  rw [hPOST]
  have HPOST := Lib.hid hPOST
  have hzt : Hid (∀ k, F k → k < w.heap.size ∧ k ≠ tb) := fun k x => ⟨(hm.subF k x).2.2, (hm.subF k x).2.1⟩
  have d6 : decide ((600 : Int) < (e.key.length : Int)) = false := decide_eq_false (by omega)
  have htl : tb < w.heap.size := hm.own.2
  clear hm hm1 hr hby hris hq0 hPOST hzl hn hl
  go_enter Try.func12, Try.ntmps12
  go_wp2_with fail
  go_region_held3 (fun w' => w'.cell? ⟨tb, 0, none⟩ = some (ptrV rb) ∧ w'.cell? ⟨w.heap.size, 0, none⟩ = some (.slice A e.key.length c) ∧ w'.cell? ⟨w.heap.size, 1, none⟩ = some (.int .i64 e.pg) ∧ w'.cell? ⟨w.heap.size, 2, none⟩ = some (.int .i64 e.sl))
    (first | go_keep | fail)
    (first
      | (go_at_call 29; go_must (refine HCO.out.mono ?_; rintro r w2 ⟨A2, c2, rfl, hq2, hrd2⟩; have k0 := hq2.cell c0 (fun x => x); have k1 := hq2.cell t0 (fun x => x); have k2 := hq2.cell t1 (fun x => x); have k3 := hq2.cell t2 (fun x => x); obtain ⟨K', hm2, hin2⟩ := HINS.out w2 A2 c2 (HQ0.out.drew.trans hq2) (hrd2.mono (fun k x => ⟨by have := HQ0.out.drew.size; omega, x.2⟩))))
      | (go_at_call 28; go_must (refine hin2.mono ?_; intro r w3 hp3; obtain ⟨ok, rfl, hp3⟩ : ∃ ok, r = .returned (.bool ok) ∧ InsPost K' h w2 rb F xs ⟨e, A2, c2⟩ (.returned (.bool ok)) w3 := (by rcases hp3 with ⟨a, rfl, b⟩ | ⟨a, rfl, b⟩; exact ⟨_, rfl, Or.inl ⟨a, rfl, b⟩⟩; exact ⟨_, rfl, Or.inr ⟨a, rfl, b⟩⟩); have ho3 : Only F w2 w3 := (by rcases hp3 with ⟨_, _, b, _⟩ | ⟨_, _, b, _⟩ <;> exact b); have j0 := ho3.cell k0 (fun x => (hzt.out _ x).2 rfl); have j1 := ho3.cell k1 (fun x => absurd (hzt.out _ x).1 (Nat.lt_irrefl _)); have j2 := ho3.cell k2 (fun x => absurd (hzt.out _ x).1 (Nat.lt_irrefl _)); have j3 := ho3.cell k3 (fun x => absurd (hzt.out _ x).1 (Nat.lt_irrefl _))))
      | fail)
  have HP3 := Lib.hid hp3
  have HM2 := Lib.hid hm2
  have HO3 := Lib.hid ho3
  clear hp3 hm2 hin2 ho3 hq2 hrd2 k0 k1 k2 k3 c0 t0 t1 t2 j1 j2 j3 HCO HBX HINS HQ0 hzt
  rcases HP3.out with ⟨hmem, hr3, _, hn3⟩ | ⟨hmem, hr3, _, hn3⟩
  · obtain rfl : ok = false := by injection hr3 with hr3; injection hr3
    have hm3 := HM2.out.turn HO3.out hn3 (fun k x => x) rfl
    have HR : Hid (POST (.returned (.int .i64 7)) w3) := by
      rw [← HPOST.out]
      exact Or.inl ⟨hmem, rfl, hm3.only, hm3.is rfl HRI.out⟩
    clear hm3 hn3 HP3 j0 HM2 HO3 hr3
    go_wp2
    exact HR.out
  · obtain rfl : ok = true := by injection hr3 with hr3; injection hr3
    have hm3 := HM2.out.turn HO3.out hn3 (fun k x => x) rfl
    obtain ⟨F3, HM3⟩ : ∃ F3, Hid (TreeMid w w3 D tb rb h F3 K' (insX ⟨e, A2, c2⟩ xs) (xs.length : Int)) := ⟨_, hm3⟩
    have HMEM := Lib.hid hmem
    obtain ⟨xs3, hxs3⟩ : ∃ xs3, insX ⟨e, A2, c2⟩ xs = xs3 := ⟨_, rfl⟩
    rw [hxs3] at HM3
    have HX3 := Lib.hid hxs3
    have hx3l : xs3.length = xs.length + 1 := by rw [← hxs3, insX_length]
    obtain ⟨c0, c1, cf⟩ := HM3.out.cells
    have hm4 := HM3.out.count ((xs.length : Int) + 1)
    have HM4 := Lib.hid hm4
    obtain ⟨d0, d1, df⟩ := hm4.cells
    have HSP := Lib.hid (split_any hm4.node (fun j hj hx => (hm4.subK j hj).2.1 hx) (by omega))
    have HIS : Hid (Rising (ents xs3) ∧ ents xs3 = insE e (ents xs)) := by
      have e1 : ents xs3 = insE e (ents xs) := by rw [← hxs3]; exact ents_insX _ _
      exact ⟨by rw [e1]; exact HRI.out.ins hmem, e1⟩
    clear hm3 hn3 HP3 j0 HM2 HO3 hr3 hmem hxs3 hm4 HM3
    go_wp2_with fail
    refine HSP.out.mono ?_
    rintro r w6 (⟨rfl, rfl⟩ | ⟨r, F1, F2, x1, x2, rfl, hc6⟩)
    · have HR : Hid (POST (.returned (.int .i64 0)) (w3.setCell ⟨tb, 1, none⟩ (.int .i64 ((xs.length : Int) + 1)))) := by
        rw [← HPOST.out]
        refine Or.inr ⟨HMEM.out, rfl, HM4.out.only, ?_⟩
        rw [← HIS.out.2]
        exact HM4.out.is (by omega) HIS.out.1
      clear HSP c0 c1 cf d0 d1 df HM4
      go_wp2
      exact HR.out
    · have HC6 := Lib.hid hc6
      have k6 : w6.cell? ⟨tb, 0, none⟩ = some (ptrV rb) := hc6.only.cell d0 (fun x => (HM4.out.subF tb x).2.1 rfl)
      have hb6 := hc6.only.get HM4.out.box (fun x => (HM4.out.subF tb x).2.1 rfl)
      have kf : ∀ o, w6.frozen? ⟨tb, o, none⟩ = false := fun o => frozen_of hb6 o
      have ht6 : tb < w6.heap.size := cell_lt k6
      have n0 : tb < w6.heap.size := ht6
      have ka1 : ∀ o1, (w6.alloc o1).cell? ⟨tb, 0, none⟩ = some (ptrV rb) := fun o1 => ((Only.refl (fun _ => False) w6).alloc o1).cell k6 (fun x => x)
      have ka2 : ∀ o1 o2, ((w6.alloc o1).alloc o2).cell? ⟨tb, 0, none⟩ = some (ptrV rb) := fun o1 o2 => ((Only.refl (fun _ => False) _).alloc o2).cell (ka1 o1) (fun x => x)
      have ka3 : ∀ o1 o2 o3, (((w6.alloc o1).alloc o2).alloc o3).cell? ⟨tb, 0, none⟩ = some (ptrV rb) := fun o1 o2 o3 => ((Only.refl (fun _ => False) _).alloc o3).cell (ka2 o1 o2) (fun x => x)
      have ka4 : ∀ o1 o2 o3 o4, ((((w6.alloc o1).alloc o2).alloc o3).alloc o4).cell? ⟨tb, 0, none⟩ = some (ptrV rb) := fun o1 o2 o3 o4 => ((Only.refl (fun _ => False) _).alloc o4).cell (ka3 o1 o2 o3) (fun x => x)
      have ka5 : ∀ o1 o2 o3 o4 o5, (((((w6.alloc o1).alloc o2).alloc o3).alloc o4).alloc o5).cell? ⟨tb, 0, none⟩ = some (ptrV rb) := fun o1 o2 o3 o4 o5 => ((Only.refl (fun _ => False) _).alloc o5).cell (ka4 o1 o2 o3 o4) (fun x => x)
      have fa5 : ∀ o1 o2 o3 o4 o5 o, (((((w6.alloc o1).alloc o2).alloc o3).alloc o4).alloc o5).frozen? ⟨tb, o, none⟩ = false := fun o1 o2 o3 o4 o5 o => frozen_of (alloc_old (alloc_old (alloc_old (alloc_old (alloc_old hb6 _) _) _) _) _) o
      have HL1 : Hid (∀ W : World, Quiet w6 W → Calls Try.prog 31 #[ptrV rb] W fun e w' => e = .returned (entV (hd x1).e (hd x1).A (hd x1).c) ∧ w' = W.alloc (.cells #[.slice (hd x1).A (hd x1).e.key.length (hd x1).c, .int .i64 (hd x1).e.pg, .int .i64 (hd x1).e.sl] 34)) :=
        fun W hq => least_exact (NodeAt.kept hq (fun _ _ x => x) hc6.n1 (fun _ _ x => x)) hc6.ne1
      have HL2 : Hid (∀ W : World, Quiet w6 W → Calls Try.prog 31 #[ptrV r] W fun e w' => e = .returned (entV (hd x2).e (hd x2).A (hd x2).c) ∧ w' = W.alloc (.cells #[.slice (hd x2).A (hd x2).e.key.length (hd x2).c, .int .i64 (hd x2).e.pg, .int .i64 (hd x2).e.sl] 34)) :=
        fun W hq => least_exact (NodeAt.kept hq (fun _ _ x => x) hc6.n2 (fun _ _ x => x)) hc6.ne2
      have Q0 : Hid (Quiet w6 w6) := Only.refl _ _
      clear hc6 hb6 HSP c0 c1 cf d0 d1 df
      go_upto_region 10 with fail
      go_cut [] (fun wx => ∃ nb F', TreeMid w wx D tb nb (h + 1) F' K' xs3 ((xs.length : Int) + 1))
      case first =>
        go_region_law (first
          | (go_simp; go_at_call_of 31 (ptrV rb); refine (HL1.out _ (by first | exact Q0.out.drew | exact (Q0.out.alloc _).drew | exact ((Q0.out.alloc _).alloc _).drew | exact (((Q0.out.alloc _).alloc _).alloc _).drew)).mono ?_; rintro r' w7 ⟨rfl, rfl⟩)
          | (go_simp; go_at_call_of 31 (ptrV r); refine (HL2.out _ (by first | exact Q0.out.drew | exact (Q0.out.alloc _).drew | exact ((Q0.out.alloc _).alloc _).drew | exact (((Q0.out.alloc _).alloc _).alloc _).drew)).mono ?_; rintro r' w7 ⟨rfl, rfl⟩)
          | fail)
        all_goals
          go_wp2_with fail
          go_meet
          first
            | exact ⟨_, HM4.out.root HC6.out (((((Q0.out.alloc _).alloc _).alloc _).alloc _).alloc _).drew (five w6 _ _ _ _ _).2.2.1 (five w6 _ _ _ _ _).2.2.2.1 (five w6 _ _ _ _ _).2.2.2.2 (by omega) (by omega) (by omega)⟩
            | exact ⟨_, HM4.out.root HC6.out (((((Q0.out.alloc _).alloc _).alloc _).alloc _).alloc _).drew (five w6 _ _ _ _ _).2.2.2.1 (five w6 _ _ _ _ _).1 (five w6 _ _ _ _ _).2.2.2.2 (by omega) (by omega) (by omega)⟩
            | exact ⟨_, HM4.out.root HC6.out (((((Q0.out.alloc _).alloc _).alloc _).alloc _).alloc _).drew (five w6 _ _ _ _ _).2.2.2.1 (five w6 _ _ _ _ _).2.1 (five w6 _ _ _ _ _).2.2.2.2 (by omega) (by omega) (by omega)⟩
            | exact ⟨_, HM4.out.root HC6.out (((((Q0.out.alloc _).alloc _).alloc _).alloc _).alloc _).drew (five w6 _ _ _ _ _).2.2.2.1 (five w6 _ _ _ _ _).2.2.1 (five w6 _ _ _ _ _).2.2.2.2 (by omega) (by omega) (by omega)⟩
            | fail
      case rest =>
        obtain ⟨nb, F', hm7⟩ := hcut
        have HR : Hid (POST (.returned (.int .i64 0)) wc) := by
          rw [← HPOST.out]
          refine Or.inr ⟨HMEM.out, rfl, hm7.only, ?_⟩
          rw [← HIS.out.2]
          exact hm7.is (by omega) HIS.out.1
        clear hm7 HM4 HC6 HL1 HL2 k6 kf ka1 ka2 ka3 ka4 ka5 fa5
        go_wp2
        exact HR.out

end Go.Proofs.Ytbeenpobppkhdaa
