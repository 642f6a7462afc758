/- The contract of build: a tree of entries. No condition. -/
import Derived.Test.YtbeenpobppkhdaaTForest
namespace Go.Proofs.Ytbeenpobppkhdaa
open Go.RowKit Go.Lap

theorem pair_at {w w' : World} {n k i : Nat} {v : Value} {A : Option Addr} {c : Nat} (h : w.ownsRow 0 86 2 v k (partsV n k)) (hv : v = .slice A k c) (hi : i < k) (hq : Only (fun _ => False) w w') : ∃ g, A = some ⟨g, 0, none⟩ ∧ w'.cell? ⟨g, i * 2, none⟩ = some (.int .i64 (cutAt n i : Int)) ∧ w'.cell? ⟨g, i * 2 + 1, none⟩ = some (.int .i64 (cutAt n (i + 1) : Int)) := by
  obtain ⟨h1, h2⟩ := partsV_get n hi
  rcases owns_cases h with ⟨_, e⟩ | ⟨g, c', e, _, _⟩
  · omega
  · subst e
    injection hv with e1 _ _
    subst e1
    refine ⟨g, rfl, ?_, ?_⟩
    · have := h.cells rfl (i * 2) _ h1
      rw [add_none, Nat.zero_add] at this
      exact hq.cell this (fun x => x)
    · have := h.cells rfl (i * 2 + 1) _ h2
      rw [add_none, Nat.zero_add] at this
      exact hq.cell this (fun x => x)

theorem part_rd {w : World} {S : Nat → Prop} {g o n a b : Nat} {xs : List EV} (h : Rd w S 3 (some ⟨g, o, none⟩) n (rowV xs)) (hab : a ≤ b) (hb : b ≤ n) : Rd w S 3 (some ⟨g, o + a * 3, none⟩) (b - a) (rowV ((xs.drop a).take (b - a))) := by
  have := (h.drop (k := a) (by omega)).takeK (k := b - a) (by omega)
  rw [rowV_take, rowV_drop]
  exact this

theorem part_rdK {w : World} {S : Nat → Prop} {g o n a b : Nat} {ks : List Kid} (h : Rd w S 1 (some ⟨g, o, none⟩) n (kptrs ks)) (hab : a ≤ b) (hb : b ≤ n) : Rd w S 1 (some ⟨g, o + a, none⟩) (b - a) (kptrs ((ks.drop a).take (b - a))) := by
  have := (h.drop (k := a) (by omega)).takeK (k := b - a) (by omega)
  rw [Nat.mul_one, Nat.mul_one] at this
  unfold kptrs at this ⊢
  rw [List.map_take, List.map_drop]
  exact this

def sliceLen : Value → Nat
  | .slice _ n _ => n
  | _ => 0

/-- One more leaf. -/
theorem Forest.leaf {K : Nat → Prop} {w w0 wr w2 w5 : World} {v v1 v5 : Value} {ks : List Kid} {ys : List EV} (hK : ∀ k, K k → k < w.heap.size) (hF : Forest K 0 w wr v ks) (hq : Quiet wr w0) (hn : NewRow w0 w2 34 3 v1 ys.length (rowV ys)) (hk : ∀ x ∈ ys, Keyd w K x) (hy : ys ≠ [])
    (hg : Grew ((w2.alloc (.cells #[v1, .slice none 0 0] 62)).alloc (.cells #[ptrV w2.heap.size] 59)) w5 59 1 v v5 (ks.length + 1) (kptrs ks ++ [ptrV w2.heap.size])) : ∃ F, Forest K 0 w w5 v5 (ks ++ [⟨w2.heap.size, F, ys⟩]) := by
  have z1 := hF.quiet.size
  have z2 := hq.size
  have z3 := hn.quiet.size
  have hq2 : Quiet wr w2 := hq.trans hn.quiet
  have hl := leaf_new hn (fun x hx => (hk x hx).quietly (hF.quiet.trans hq))
  refine ⟨_, hF.push hK ((hq2.alloc _).alloc _) ⟨hy, NodeAt.kept ((Only.refl (fun _ => False) _).alloc (.cells #[ptrV w2.heap.size] 59)) (fun _ _ x => x) hl (fun _ _ x => x)⟩ (fun k x => ?_) (fun y hy' k u x => ?_) hg⟩
  · rw [World.size_alloc, World.size_alloc]
    rcases x with x | x
    · exact ⟨by omega, by omega, fun e => by have := (hF.row.lt k e).2; omega⟩
    · obtain ⟨j, e1, e2⟩ := hn.loc
      rw [e1] at x
      injection x with x
      have := (hn.own.lt j e1).2
      exact ⟨by omega, by omega, fun e => by have := (hF.row.lt k e).2; omega⟩
  · have := (hF.sub y hy' k u).2.1
    rcases x with x | x
    · omega
    · obtain ⟨j, e1, e2⟩ := hn.loc
      rw [e1] at x
      injection x with x
      omega

set_option maxHeartbeats 8000000 in
set_option maxRecDepth 100000 in
theorem build_any (K S : Nat → Prop) (xs : List EV) (A : Option Addr) (n cap : Nat) (w : World) (hn : xs.length = n) (hr : Rd w S 3 A n (rowV xs)) (hk : ∀ x ∈ xs, Keyd w K x) (hK : ∀ k, K k → k < w.heap.size) (hc : n ≤ cap) (hcap : cap ≤ maxLen) (hl : n ≤ 40000) :
    Calls Try.prog 35 #[.slice A n cap] w (BuildPost K w xs) := by
  unfold maxLen at hcap
  have HN := Lib.hid hn
  have HR := Lib.hid hr
  have HK := Lib.hid hk
  have HKO := Lib.hid hK
  obtain ⟨m, hm⟩ : ∃ m, nparts n = m := ⟨_, rfl⟩
  have hml : m ≤ 40000 := by unfold nparts at hm; omega
  have HM := Lib.hid hm
  have HF0 := Lib.hid (trivial : True)
  have HP := Lib.hid (parts_any n w hl)
  obtain ⟨POST, hPOST⟩ : ∃ POST, BuildPost K w xs = POST := ⟨_, rfl⟩
  have HPOST := Lib.hid hPOST
  rw [hPOST]
  clear hn hr hk hK hm hPOST
  go_enter Try.func35, Try.ntmps35
  go_wp2_with fail
  refine HP.out.mono ?_
  rintro e w1 ⟨vp, rfl, hp⟩
  rw [HM.out] at hp
  obtain ⟨Ap, cp, hvp, hcp, hcpm, _⟩ := own_form hp.own
  subst hvp
  have HPA := Lib.hid hp
  have HKO1 : Hid (∀ k, K k → k < w1.heap.size) := fun k x => by have := HKO.out k x; have := hp.quiet.size; omega
  clear HP hp
  go_wp2_with fail
  go_loopw [16, 3, 5] (fun ci cv _ wr => ∃ (i : Nat) (v' : Value) (ks : List Kid), i ≤ m ∧ ci = .int .i64 (i : Int) ∧ v' = cv ∧ Forest K 0 w1 wr v' ks ∧ ks.length = i ∧ flat ks = xs.take (cutAt n i)) (fun ci _ _ _ => m - (intOf ci).toNat)
  case atStart => exact ⟨0, _, [], Nat.zero_le _, rfl, rfl, Forest.start (Only.refl _ _), rfl, by rw [cut_zero]; rfl⟩
  case round =>
    obtain ⟨i, v', ks, hi, rfl, rfl, hF, hkl, hfl⟩ := hrel
    clear HF0
    have HF := Lib.hid hF
    have HQI := Lib.hid hF.quiet
    have HFL := Lib.hid hfl
    have HKL := Lib.hid hkl
    obtain ⟨Av, cv', hvv, hcv, _, _⟩ := own_form hF.row
    rw [hkl] at hvv hcv
    subst hvv
    clear hF hfl hkl
    by_cases hlt : i < m
    · obtain ⟨a, ha⟩ : ∃ a, cutAt n i = a := ⟨_, rfl⟩
      obtain ⟨b, hb⟩ : ∃ b, cutAt n (i + 1) = b := ⟨_, rfl⟩
      have hn0 : 0 < n := by
        rcases Nat.eq_zero_or_pos n with z | z
        · subst z; have := HM.out; rw [nparts_zero] at this; omega
        · exact z
      have hab : a < b := by have := cut_one hn0 i; omega
      have hbn : b ≤ n := by rw [← hb]; exact cut_le (by have := HM.out; omega)
      obtain ⟨g, hA, p0, p1⟩ := pair_at HPA.out.own rfl hlt HQI.out
      rw [ha] at p0
      rw [hb] at p1
      subst hA
      have HAB := Lib.hid (And.intro ha hb)
      clear ha hb
      obtain ⟨gx, ox, hAx, _, _⟩ := HR.out.cells (by rw [rowV_length, HN.out]; omega)
      subst hAx
      obtain ⟨ys, hys⟩ : ∃ ys, (xs.drop a).take (b - a) = ys := ⟨_, rfl⟩
      have HYL : Hid (ys.length = b - a) := by show ys.length = b - a; rw [← hys, List.length_take, List.length_drop, HN.out]; omega
      have HYS := Lib.hid hys
      have HQA := Lib.hid (((Only.refl (fun _ => False) wr).alloc (.cells #[.int .i64 (a : Int), .int .i64 (b : Int)] 86)))
      have HCL := Lib.hid (clone_ent ⟨gx, ox + a * 3, none⟩ (b - a) (cap - a) _ _ _ ((part_rd (HR.out.kept (HPA.out.quiet.trans (HF.out.quiet.trans HQA.out)) (fun _ _ x => x)) (Nat.le_of_lt hab) hbn)) (one_row _) (by omega))
      rw [hys] at HCL
      clear hys
      go_wp2_with fail
      refine HCL.out.mono ?_
      rintro e w2 ⟨v1, rfl, hn1⟩
      obtain ⟨A1, c1, hv1, _, _, _⟩ := own_form hn1.own
      subst hv1
      have HN1 : Hid (NewRow (wr.alloc (.cells #[.int .i64 (a : Int), .int .i64 (b : Int)] 86)) w2 34 3 (.slice A1 (b - a) c1) ys.length (rowV ys)) := by rw [HYL.out]; exact hn1
      clear hn1 HCL p0 p1
      have HRD : Hid (Rd ((w2.alloc (.cells #[.slice A1 (b - a) c1, .slice none 0 0] 62)).alloc (.cells #[ptrV w2.heap.size] 59)) (fun _ => True) 1 (some ⟨w2.heap.size + 1, 0, none⟩) 1 [ptrV w2.heap.size]) := by
        have := Rd.new (w2.alloc (.cells #[.slice A1 (b - a) c1, .slice none 0 0] 62)) 1 1 [ptrV w2.heap.size] 59 (fun _ => True) rfl trivial
        rw [World.size_alloc] at this
        exact this
      have HRW := Lib.hid (owns_kept HF.out.row (((HQA.out.trans HN1.out.quiet).alloc (.cells #[.slice A1 (b - a) c1, .slice none 0 0] 62)).alloc (.cells #[ptrV w2.heap.size] 59)) (fun _ _ x => x))
      have hkl1 : ks.length ≤ 40000 := by have := HKL.out; omega
      go_wp2_with (at_builtin; refine app elem_node rfl (.tmp 20) (.tmp 30) rfl rfl HRW.out rfl HRD.out (one_ptr [w2.heap.size]) (by unfold maxLen; omega) (by omega) ?_)
      intro v5 w5 hg5
      have hyn : ys ≠ [] := fun e => by have := HYL.out; rw [e] at this; simp at this; omega
      have hkm : ∀ x ∈ ys, Keyd w1 K x := fun x hx => (HK.out x (List.mem_of_mem_drop (List.mem_of_mem_take (by rw [HYS.out]; exact hx)))).quietly HPA.out.quiet
      obtain ⟨F, hF5⟩ := HF.out.leaf HKO1.out HQA.out HN1.out hkm hyn hg5
      have HF5 := Lib.hid hF5
      have HFL5 : Hid (flat (ks ++ [⟨w2.heap.size, F, ys⟩]) = xs.take (cutAt n (i + 1))) := by
        rw [flat_snoc, HFL.out, HAB.out.1, HAB.out.2, ← HYS.out]
        exact take_part xs (Nat.le_of_lt hab)
      clear hg5 hF5 HRD HRW hyn hkm HF HFL HQI HQA HN1 hkl1
      go_wp2
      go_roundw
      case rel => exact ⟨i + 1, v5, _, by omega, by go_num, rfl, HF5.out, by rw [List.length_append, HKL.out]; rfl, HFL5.out⟩
      case measure => simp [intOf]; omega
    · obtain rfl : i = m := by omega
      have HFX : Hid (flat ks = xs) := by show flat ks = xs; rw [HFL.out, ← HM.out, cut_all, List.take_of_length_le (by rw [HN.out]; omega)]
      have HFS := Lib.hid HF.out
      clear HFL HQI
      by_cases hi0 : i = 0
      · subst hi0
        have hx0 : xs = [] := by
          have h1 := HKL.out
          have h2 : ks = [] := List.eq_nil_of_length_eq_zero h1
          rw [← HFX.out, h2]; rfl
        have HRES : Hid (POST (.returned (ptrV wr.heap.size)) (wr.alloc (.cells #[.slice none 0 0, .slice none 0 0] 62))) := by
          have hz1 := HPA.out.quiet.size
          have hz2 := HF.out.quiet.size
          rw [← HPOST.out]
          exact ⟨_, 0, fun k => k = wr.heap.size, rfl, (HPA.out.quiet.trans HF.out.quiet).alloc _, ⟨_, alloc_new wr _, (by rw [hx0]; exact World.ownsRow_nil _ _ _ _), (fun x hx => by rw [hx0] at hx; cases hx), rfl, (fun k e => by cases e)⟩, fun k e => by rw [World.size_alloc]; omega⟩
        go_wp2
        exact HRES.out
      · have hib : ((i : Int) == 0) = false := by simp; omega
        go_wp2_with fail
        go_loopw [3, 6, 8, 9, 11] (fun c3 _ _ _ _ wr => ∃ (h : Nat) (v' : Value) (ks : List Kid), v' = c3 ∧ Forest K h w1 wr v' ks ∧ 1 ≤ ks.length ∧ flat ks = xs) (fun c3 _ _ _ _ _ => sliceLen c3)
        case atStart => exact ⟨0, _, ks, rfl, HFS.out, by have := HKL.out; omega, HFX.out⟩
        case round =>
          obtain ⟨h, v', ks2, rfl, hF2, hk1, hfx⟩ := hrel
          obtain ⟨m2, hm2⟩ : ∃ m2, ks2.length = m2 := ⟨_, rfl⟩
          have hm2l : m2 ≤ n := by have := flat_le (fun x hx => (hF2.kid x hx).1); rw [hfx, HN.out] at this; omega
          obtain ⟨A2, c2, hv2, hc2, hc2m, _⟩ := own_form hF2.row
          rw [hm2] at hv2 hc2 hk1
          subst hv2
          have HF2 := Lib.hid hF2
          have HFX2 := Lib.hid hfx
          have HM2 := Lib.hid hm2
          clear hF2 hfx hm2 HF HFS HFX HKL
          by_cases hone : 1 < m2
          · obtain ⟨q2, hq2⟩ : ∃ q2, nparts m2 = q2 := ⟨_, rfl⟩
            have hq2l : q2 ≤ 40000 := by unfold nparts at hq2; omega
            have hq2m : q2 < m2 := by rw [← hq2]; exact nparts_lt hone
            have hq2p : 0 < q2 := by rw [← hq2]; exact nparts_pos (by omega)
            have HP2 := Lib.hid (parts_any m2 wr (by omega))
            have HQ2 := Lib.hid hq2
            clear hq2
            go_wp2_with fail
            refine HP2.out.mono ?_
            rintro e w3 ⟨vp2, rfl, hp2⟩
            rw [HQ2.out] at hp2
            obtain ⟨Ap2, cp2, hvp2, hcp2, hcpm2, _⟩ := own_form hp2.own
            subst hvp2
            have HPA2 := Lib.hid hp2
            have HB := Lib.hid (HF2.out.quietly hp2.quiet)
            clear HP2 hp2 HF2
            go_wp2_with fail
            go_loopw [45, 6, 8, 9, 11] (fun ci cv _ _ _ wr => ∃ (i : Nat) (v' : Value) (us : List Kid), i ≤ q2 ∧ ci = .int .i64 (i : Int) ∧ v' = cv ∧ Up K h w1 w3 wr v' ks2 us (cutAt m2 i) ∧ us.length = i) (fun ci _ _ _ _ _ => q2 - (intOf ci).toNat)
            case atStart => exact ⟨0, _, [], Nat.zero_le _, rfl, rfl, by rw [cut_zero]; exact Up.start HB.out, rfl⟩
            case round =>
              obtain ⟨j, v', us, hj, rfl, rfl, hU, hul⟩ := hrel
              have HU := Lib.hid hU
              have HUL := Lib.hid hul
              obtain ⟨Au, cu, hvu, hcu, _, _⟩ := own_form hU.up.row
              rw [hul] at hvu hcu
              subst hvu
              clear hU hul
              by_cases hjq : j < q2
              · obtain ⟨a, ha⟩ : ∃ a, cutAt m2 j = a := ⟨_, rfl⟩
                obtain ⟨b, hb⟩ : ∃ b, cutAt m2 (j + 1) = b := ⟨_, rfl⟩
                have hab : a + 2 ≤ b := by have := cut_two (show 2 ≤ m2 by omega) j; omega
                have hbn : b ≤ m2 := by rw [← hb]; exact cut_le (by have := HQ2.out; omega)
                obtain ⟨g, hA, p0, p1⟩ := pair_at HPA2.out.own rfl hjq HU.out.old
                rw [ha] at p0
                rw [hb] at p1
                subst hA
                rw [ha] at HU
                have HAB := Lib.hid hb
                clear ha hb
                obtain ⟨grp, hgrp⟩ : ∃ grp, (ks2.drop a).take (b - a) = grp := ⟨_, rfl⟩
                have HGL : Hid (grp.length = b - a) := by show grp.length = b - a; rw [← hgrp, List.length_take, List.length_drop, HM2.out]; omega
                have HGRP := Lib.hid hgrp
                have HQA := Lib.hid (((Only.refl (fun _ => False) wr).alloc (.cells #[.int .i64 (a : Int), .int .i64 (b : Int)] 86)))
                obtain ⟨A2', c2', hv2', _, _, hrd2⟩ := own_form HB.out.row
                injection hv2' with e1 e2 e3
                rw [← e1, HM2.out] at hrd2
                clear e1 e2 e3
                obtain ⟨g2, o2, hA2, _, _⟩ := hrd2.cells (by rw [kptrs, List.length_map, HM2.out]; omega)
                subst hA2
                have hrdg := part_rdK (hrd2.kept (HU.out.old.trans HQA.out) (fun _ _ x => x)) (show a ≤ b by omega) hbn
                rw [hgrp] at hrdg
                have HCL := Lib.hid (clone_node ⟨g2, o2 + a, none⟩ (b - a) (c2 - a) _ _ _ hrdg (one_kptrs _) (by omega))
                clear hgrp hrd2 hrdg
                go_wp2_with fail
                refine HCL.out.mono ?_
                rintro e w4 ⟨u, rfl, hn4⟩
                obtain ⟨A4, c4, hv4, _, _, _⟩ := own_form hn4.own
                subst hv4
                have HN4 : Hid (NewRow (wr.alloc (.cells #[.int .i64 (a : Int), .int .i64 (b : Int)] 86)) w4 59 1 (.slice A4 (b - a) c4) grp.length (kptrs grp)) := by rw [HGL.out]; exact hn4
                obtain ⟨g4, hA4⟩ : ∃ g4, A4 = some ⟨g4, 0, none⟩ := by
                  rcases owns_cases hn4.own with ⟨_, e⟩ | ⟨g4, c4', e, _, _⟩
                  · omega
                  · injection e with e1 _ _
                    exact ⟨g4, e1⟩
                subst hA4
                obtain ⟨l4, hl4⟩ : ∃ l4, b - a = l4 := ⟨_, rfl⟩
                rw [hl4] at HGL HN4
                have HL4 := Lib.hid hl4
                have hl4m : l4 ≤ 40000 := by omega
                rw [hl4]
                have HH0 := Lib.hid (Heads.start w4 (.slice (some ⟨g4, 0, none⟩) l4 c4) grp)
                have HUP : Hid (∀ (w5 w7 : World) (vl v7 : Value), Heads w4 w5 (.slice (some ⟨g4, 0, none⟩) l4 c4) vl grp l4 → Grew (w5.alloc (.cells #[ptrV w4.heap.size] 59)) w7 59 1 (.slice Au j cu) v7 (j + 1) (kptrs us ++ [ptrV w4.heap.size]) → ∃ F, Up K h w1 w3 w7 v7 ks2 (us ++ [⟨w4.heap.size, F, flat grp⟩]) b) := fun w5 w7 vl v7 hH hg => Up.push HKO1.out HB.out HU.out hab (by rw [HM2.out]; exact hbn) HGRP.out HQA.out HN4.out hH.quiet hH.box (by have := hH.row; rw [List.take_of_length_le (by rw [HGL.out]; exact Nat.le_refl _)] at this; exact this) hH.new (by rw [HUL.out]; exact hg)
                have HROWU : Hid (∀ w5 : World, Quiet w4 w5 → w5.ownsRow 0 59 1 (.slice Au j cu) us.length (kptrs us)) := fun w5 hq => owns_kept HU.out.up.row ((HQA.out.trans HN4.out.quiet).trans hq) (fun _ _ x => x)
                have HKIDS : Hid (∀ w5 : World, Quiet w4 w5 → ∀ x ∈ ks2, x.xs ≠ [] ∧ NodeAt K h w5 x.b x.F x.xs) := fun w5 hq x hx => ⟨(HB.out.kid x hx).1, NodeAt.kept (((HU.out.old.trans HQA.out).trans HN4.out.quiet).trans hq) (fun _ _ x => x) (HB.out.kid x hx).2 (fun _ _ x => x)⟩
                have HUROW : Hid (∀ w5 : World, Quiet w4 w5 → ∀ (t : Nat) (x : Kid), grp[t]? = some x → w5.cell? ⟨g4, t, none⟩ = some (ptrV x.b)) := fun w5 hq t x hx => by
                  have := (owns_kept HN4.out.own hq (fun _ _ x => x)).cells rfl t (ptrV x.b) (by rw [kptrs, List.getElem?_map, hx]; rfl)
                  rw [add_none, Nat.zero_add] at this
                  exact this
                have HUSL : Hid (us.length = j ∧ j ≤ 40000) := ⟨HUL.out, by omega⟩
                clear hn4 hl4 HCL p0 p1
                go_wp2_with fail
                go_loopw [63, 11] (fun ci _ wr => ∃ (t : Nat) (vl : Value), t ≤ l4 ∧ ci = .int .i64 (t : Int) ∧ Heads w4 wr (.slice (some ⟨g4, 0, none⟩) l4 c4) vl grp t) (fun ci _ _ => l4 - (intOf ci).toNat)
                case atStart => exact ⟨0, _, Nat.zero_le _, rfl, HH0.out⟩
                case round =>
                  obtain ⟨t, vl, ht, rfl, hH⟩ := hrel
                  clear HH0
                  have HH := Lib.hid hH
                  clear hH
                  by_cases htl : t < l4
                  · obtain ⟨x, hx⟩ : ∃ x, grp[t]? = some x := ⟨_, List.getElem?_eq_getElem (by have := HGL.out; omega)⟩
                    have hxk : x ∈ ks2 := List.mem_of_mem_drop (List.mem_of_mem_take (by have e := HGRP.out; rw [e]; exact List.mem_of_getElem? hx))
                    have r0 := HUROW.out wr HH.out.quiet t x hx
                    have hkid := HKIDS.out wr HH.out.quiet x hxk
                    have HLE : Hid (∀ W, Quiet wr W → Calls Try.prog 31 #[ptrV x.b] W fun e w' => e = .returned (entV (hd x.xs).e (hd x.xs).A (hd x.xs).c) ∧ Quiet W w') := fun W hW => least_any (NodeAt.kept hW (fun _ _ x => x) hkid.2 (fun _ _ x => x)) hkid.1
                    obtain ⟨Al, cl, hvl, _, _, _⟩ := own_form HH.out.row
                    have htk : (heads (grp.take t)).length = t := by rw [heads, List.length_map, List.length_take]; have := HGL.out; omega
                    rw [htk] at hvl
                    subst hvl
                    have HTK := Lib.hid htk
                    have hbx := HH.out.box
                    have b0 : wr.cell? ⟨w4.heap.size, 0, none⟩ = some (.slice Al t cl) := by rw [cell_of hbx]; rfl
                    have HNV : Hid (∀ k, (Value.slice Al t cl).ownBlock = some k → k ≠ w4.heap.size) := fun k e => by have := HH.out.new k e; omega
                    have HX := Lib.hid hx
                    have d0 : (0 : Int) ≤ (t : Int) := by omega
                    have d1 : (t : Int) < (l4 : Int) := by omega
                    have HROWT : Hid (wr.ownsRow 0 34 3 (.slice Al t cl) t (rowV (heads (grp.take t)))) := by have := HH.out.row; unfold RowAt at this; rw [HTK.out] at this; exact this
                    clear hx hxk hkid htk hbx
                    go_upto_region 18 with fail
                    go_region_law (first
                      | (go_simp; go_at_call 31; refine (HLE.out _ (Only.refl (fun _ => False) wr).drew).mono ?_; rintro e w6 ⟨rfl, hq6⟩; have k6 : w6.cell? ⟨w4.heap.size, 0, none⟩ = some (.slice Al t cl) := hq6.cell (by exact b0) (fun x => x); have hl6 : w4.heap.size < w6.heap.size := cell_lt k6; have hn6 : ¬ w4.heap.size = w6.heap.size := (by omega))
                      | (refine app_step elem_ent rfl (.tmp 71) (.tmp 74) rfl rfl (owns_kept (owns_kept (by exact HROWT.out) hq6 (fun _ _ x => x)) ((Only.refl (fun _ => False) w6).alloc _) (fun _ _ x => x)) rfl (Rd.new w6 3 1 (hd x.xs).cells 34 (fun _ => True) rfl trivial) (one_row [hd x.xs]) (by unfold maxLen; omega) (by omega) ?_; intro v5 w5 hg5; have hb5 := hg5.only.get (alloc_old (hq6.get (by exact HH.out.box) (fun x => x)) _) (fun e => HNV.out _ e rfl); obtain ⟨A5, c5, hv5, _, _, _⟩ := own_form hg5.own; subst hv5; have s1 : w5.cell? ⟨w4.heap.size, 0, none⟩ = some (.slice Al t cl) := (by rw [cell_of hb5]; rfl); have s2 := fun o => frozen_of hb5 o)
                      | fail)
                    all_goals
                      have HH5 := Lib.hid (HH.out.push HX.out (((Only.refl (fun _ => False) wr).drew.trans hq6).alloc (.cells #[.slice (hd x.xs).A (hd x.xs).e.key.length (hd x.xs).c, .int .i64 (hd x.xs).e.pg, .int .i64 (hd x.xs).e.sl] 34)) (by exact hg5))
                      clear hg5 hq6 s1 s2 hb5 k6 hl6 hn6 b0 r0
                      go_wp2
                      go_roundw
                      case rel => exact ⟨t + 1, _, by omega, by go_num, HH5.out⟩
                      case measure => simp [intOf]; omega
                  · obtain rfl : t = l4 := by omega
                    have hus := HUSL.out
                    have HRU := Lib.hid (owns_kept (HROWU.out wr HH.out.quiet) ((Only.refl (fun _ => False) wr).alloc (.cells #[ptrV w4.heap.size] 59)) (fun _ _ x => x))
                    go_wp2_with (at_builtin; refine app elem_node rfl (.tmp 79) (.tmp 81) rfl rfl HRU.out rfl (Rd.new wr 1 1 [ptrV w4.heap.size] 59 (fun _ => True) rfl trivial) (one_ptr [w4.heap.size]) (by unfold maxLen; omega) (by omega) ?_)
                    intro v7 w7 hg7
                    obtain ⟨F, hU7⟩ := HUP.out wr w7 vl v7 HH.out hg7
                    rw [← HAB.out] at hU7
                    have HU7 := Lib.hid hU7
                    have hul7 : (us ++ [(⟨w4.heap.size, F, flat grp⟩ : Kid)]).length = j + 1 := by rw [List.length_append, hus.1]; rfl
                    have HUL7 := Lib.hid hul7
                    clear hg7 hU7 hul7 HRU HUP HROWU HKIDS HUROW hus
                    go_wp2
                    go_roundw
                    case rel => exact ⟨j + 1, v7, _, by omega, by go_num, rfl, HU7.out, HUL7.out⟩
                    case measure => simp [intOf]; omega
              · obtain rfl : j = q2 := by omega
                have HRX : Hid (1 ≤ us.length ∧ flat us = xs) := by
                  refine ⟨by have := HUL.out; omega, ?_⟩
                  rw [HU.out.flt, ← HQ2.out, cut_all, List.take_of_length_le (by have := HM2.out; omega)]
                  exact HFX2.out
                go_wp2
                go_roundw
                case rel => exact ⟨h + 1, _, us, rfl, HU.out.up, HRX.out.1, HRX.out.2⟩
                case measure => show j < m2; omega
          · obtain rfl : m2 = 1 := by omega
            obtain ⟨x, hx⟩ : ∃ x, ks2 = [x] := List.length_eq_one_iff.1 HM2.out
            rcases owns_cases HF2.out.row with ⟨_, e⟩ | ⟨g2, c2', e, _, _⟩
            · rw [HM2.out] at e; omega
            · rw [HM2.out] at e
              injection e with e1 _ e3
              subst e1 e3
              have r0 : wr.cell? ⟨g2, 0, none⟩ = some (ptrV x.b) := by
                have := HF2.out.row.cells rfl 0 (ptrV x.b) (by rw [hx]; rfl)
                rw [add_none, Nat.zero_add] at this
                exact this
              have HRES : Hid (POST (.returned (ptrV x.b)) wr) := by
                have hz1 := HPA.out.quiet.size
                rw [← HPOST.out]
                refine ⟨x.b, h, x.F, rfl, HPA.out.quiet.trans HF2.out.quiet, ?_, fun k e => ?_⟩
                · have := (HF2.out.kid x (by rw [hx]; simp)).2
                  rw [← HFX2.out, hx]
                  simpa [flat] using this
                · have := HF2.out.sub x (by rw [hx]; simp) k e
                  omega
              clear hx
              go_wp2
              exact HRES.out

end Go.Proofs.Ytbeenpobppkhdaa
