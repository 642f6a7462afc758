/- PageStamps: a stamp changes a version's end and what came behind it, and nothing else. For every input. -/
import Derived.Test.YtbibmgcklilpmaaRef5b
import Derived.Test.YtbibmgcklilpmaaOpen2
import Derived.Laws.Rows
namespace Go.Proofs.Ytbibmgcklilpmaa
open Go.RowKit Go.Lap

/-- The law's two boxes: the version at w's first new block, the place behind it; the version's data in a row of its own. -/
structure SW (w W : World) (t : Tup) (A : Option Addr) (c : Nat) (pg sl : Int) : Prop where
  quiet : Quiet w W
  box : W.heap[w.heap.size]? = some (.cells #[.int .u64 t.row, .int .u64 t.xmin, .int .u64 t.xmax, .int .i64 t.pg, .int .i64 t.sl, .slice A t.data.length c] 54 (0, 0))
  tid : W.heap[w.heap.size + 1]? = some (.cells #[.int .i64 pg, .int .i64 sl] 51 (0, 0))
  data : W.ownsRow 0 5 1 (.slice A t.data.length c) t.data.length (bytesV t.data)
  far : ∀ k, (Value.slice A t.data.length c).ownBlock = some k → w.heap.size + 1 < k

theorem SW.kept {w W W' : World} {t : Tup} {A : Option Addr} {c : Nat} {pg sl : Int} {S : Nat → Prop} (h : SW w W t A c pg sl) (ho : Only S W W') (h0 : ∀ k, S k → w.heap.size + 1 < k) (hd : ∀ k, (Value.slice A t.data.length c).ownBlock = some k → ¬ S k) : SW w W' t A c pg sl :=
  ⟨h.quiet.trans' ho (fun k hk e => by have := h0 k e; omega), ho.get h.box (fun e => by have := h0 _ e; omega), ho.get h.tid (fun e => by have := h0 _ e; omega), owns_kept h.data ho hd, h.far⟩

theorem SW.rd {w W : World} {t : Tup} {A : Option Addr} {c : Nat} {pg sl : Int} (h : SW w W t A c pg sl) : Rd W (fun _ => True) 1 A t.data.length (bytesV t.data) := by
  obtain ⟨A', c', e, _, _, hr⟩ := own_form h.data
  injection e with e1 e2
  subst e1
  exact hr.mono (fun _ _ => trivial)

theorem SW.three_only {w W : World} {t : Tup} {A : Option Addr} {c : Nat} {pg sl : Int} (h : SW w W t A c pg sl) (x : Nat) (p q : Int) : Only (· = w.heap.size) W ((((W.setCell ⟨w.heap.size, 2, none⟩ (.int .u64 x)).setCell ⟨w.heap.size, 3, none⟩ (.int .i64 p)).setCell ⟨w.heap.size, 4, none⟩ (.int .i64 q)).drew) :=
  ((((Only.refl (· = w.heap.size) W).setCell (p := ⟨w.heap.size, 2, none⟩) (fun _ => rfl) _).setCell (p := ⟨w.heap.size, 3, none⟩) (fun _ => rfl) _).setCell (p := ⟨w.heap.size, 4, none⟩) (fun _ => rfl) _).drew

theorem SW.three {w W : World} {t : Tup} {A : Option Addr} {c : Nat} {pg sl : Int} (h : SW w W t A c pg sl) (x : Nat) (p q : Int) : SW w ((((W.setCell ⟨w.heap.size, 2, none⟩ (.int .u64 x)).setCell ⟨w.heap.size, 3, none⟩ (.int .i64 p)).setCell ⟨w.heap.size, 4, none⟩ (.int .i64 q)).drew) (t.stamp x p q) A c pg sl := by
  have ho := h.three_only x p q
  refine ⟨h.quiet.trans' ho (fun k hk e => by omega), ?_, ho.get h.tid (fun e => by omega), owns_kept h.data ho (fun k e x => ?_), h.far⟩
  · show ((((W.setCell ⟨w.heap.size, 2, none⟩ (.int .u64 x)).setCell ⟨w.heap.size, 3, none⟩ (.int .i64 p)).setCell ⟨w.heap.size, 4, none⟩ (.int .i64 q))).heap[w.heap.size]? = _
    rw [set_same (set_same (set_same h.box _ _) _ _) _ _]
    rfl
  · have := h.far k e; omega

theorem fresh_rd {w W : World} {A : Option Addr} {c : Nat} {l : List Nat} (h : Fresh w W (.slice A l.length c) l) : Rd W (fun _ => True) 1 A l.length (bytesV l) := by
  obtain ⟨A', c', e, _, _, hr⟩ := own_form h.own
  injection e with e1 e2
  subst e1
  exact hr.mono (fun _ _ => trivial)

theorem few_small (t : Tup) : t.few.data.length ≤ 230 := by simp [Tup.few]; omega

theorem ins_one (t : Tup) (h : t.rightB = true) : pInsT [] t = (0, 0, [some t]) := by
  have hl : t.data.length ≤ 200 := (of_decide_eq_true h).2.2.2.2
  have hr : ¬ roomT [] < t.data.length := by rw [show roomT [] = 474 from wakeA.1]; omega
  unfold pInsT
  rw [if_neg (by simp [h]), if_neg hr]
  rfl
theorem ins_bad (t : Tup) (h : t.rightB = false) : pInsT [] t = (0, 3, []) := by
  unfold pInsT
  rw [if_pos h]

theorem stamp_deny {u : Tup} {xmax : Nat} {pg sl : Int} (h : 1099511627776 < xmax ∨ farB pg sl = true) : pStampT [some u] 0 xmax pg sl = (3, [some u]) := by
  unfold pStampT
  rw [if_pos h]
theorem stamp_do {u : Tup} {xmax : Nat} {pg sl : Int} (h : ¬ 1099511627776 < xmax) (hf : farB pg sl = false) : pStampT [some u] 0 xmax pg sl = (0, [some (u.stamp xmax pg sl)]) := by
  unfold pStampT
  rw [if_neg (by simp [hf]; omega)]
  rfl

set_option maxHeartbeats 2000000 in
set_option maxRecDepth 100000 in
theorem pageStamps_any (t : Tup) (A : Option Addr) (cap xmax : Nat) (pg sl : Int) (w : World) (hd : Rd w (· < w.heap.size) 1 A t.data.length (bytesV t.data)) (hby : ∀ x ∈ t.data, x < 256) (hc : t.data.length ≤ cap) (hcap : cap ≤ maxLen) :
    Calls Try.prog 8 #[tupV t A cap, .int .u64 xmax, .agg #[.int .i64 pg, .int .i64 sl]] w fun e w' => e = .returned (.bool true) ∧ Below w.heap.size w w' := by
  unfold tupV
  have hq0 : Quiet w ((w.alloc (.cells #[.int .u64 t.row, .int .u64 t.xmin, .int .u64 t.xmax, .int .i64 t.pg, .int .i64 t.sl, .slice A t.data.length cap] 54)).alloc (.cells #[.int .i64 pg, .int .i64 sl] 51)) := ((Only.refl _ _).alloc _).alloc _
  have hbx0 := alloc_old (alloc_new w (.cells #[.int .u64 t.row, .int .u64 t.xmin, .int .u64 t.xmax, .int .i64 t.pg, .int .i64 t.sl, .slice A t.data.length cap] 54)) (.cells #[.int .i64 pg, .int .i64 sl] 51)
  have htd0 := two_new w (.cells #[.int .u64 t.row, .int .u64 t.xmin, .int .u64 t.xmax, .int .i64 t.pg, .int .i64 t.sl, .slice A t.data.length cap] 54) (.cells #[.int .i64 pg, .int .i64 sl] 51)
  have HBX0 := Lib.hid hbx0
  have HTD0 := Lib.hid htd0
  have HQ0 := Lib.hid hq0
  have HD := Lib.hid hd
  have HBY := Lib.hid hby
  clear hbx0 htd0 hq0 hd hby
  go_enter Try.func8, Try.ntmps8
  go_wp2_with fail
  refine (awake5 _).mono ?_
  rintro e w1 ⟨rfl, hq1⟩
  have hb1 := hq1.get HBX0.out (fun x => x)
  have HB1 := Lib.hid hb1
  have HT1 := Lib.hid (hq1.get HTD0.out (fun x => x))
  have HQ1 := Lib.hid (HQ0.out.trans hq1)
  have hz1 : w.heap.size + 1 < w1.heap.size := by have := hq1.size; simp at this; omega
  obtain ⟨c0, c1, c2, c3, c4, c5⟩ := box_cells hb1
  clear hb1 hq1
  go_wp2_with fail
  refine (few_any t A cap _ _ (HD.out.kept HQ1.out (fun _ _ x => x)) hc hcap).mono ?_
  rintro e w2 ⟨A', c', rfl, hfr⟩
  obtain ⟨u, Hu⟩ : ∃ u, Hid (t.few = u) := ⟨_, rfl⟩
  rw [Hu.out] at hfr ⊢
  have hl := few_small t
  have HUB : Hid (∀ x ∈ u.data, x < 256) := fun x hx => HBY.out x (by rw [← Hu.out] at hx; exact List.mem_of_mem_take hx)
  rw [Hu.out] at hl
  have hbx2 := hfr.quiet.get HB1.out (fun x => x)
  have htd2 := hfr.quiet.get HT1.out (fun x => x)
  have HS3 : Hid (SW w (sixSet w2 w.heap.size (.int .u64 u.row) (.int .u64 u.xmin) (.int .u64 u.xmax) (.int .i64 u.pg) (.int .i64 u.sl) (.slice A' u.data.length c')) u A' c' pg sl) := by
    have o6 := sixSet_only w2 w.heap.size (.int .u64 u.row) (.int .u64 u.xmin) (.int .u64 u.xmax) (.int .i64 u.pg) (.int .i64 u.sl) (.slice A' u.data.length c')
    refine ⟨(HQ1.out.trans hfr.quiet).trans' o6 (fun k hk e => by omega), sixSet_same hbx2 _ _ _ _ _ _, o6.get htd2 (fun e => by omega), owns_kept hfr.own o6 (fun k e x => ?_), fun k e => ?_⟩
    · have := hfr.new k e; omega
    · have := hfr.new k e; omega
  obtain ⟨k0, k1, k2, k3, k4, k5⟩ := box_cells hbx2
  have hfz := fun j => frozen_of hbx2 j
  clear hfr hbx2 htd2 c0 c1 c2 c3 c4 c5 HB1 HT1 HQ1 HBX0 HTD0 HQ0 HD HBY Hu
  unfold tupV
  go_wp2_with fail
  unfold sixSet at HS3
  generalize (((((w2.setCell ⟨w.heap.size, 0, none⟩ (.int .u64 u.row)).setCell ⟨w.heap.size, 1, none⟩ (.int .u64 u.xmin)).setCell ⟨w.heap.size, 2, none⟩ (.int .u64 u.xmax)).setCell ⟨w.heap.size, 3, none⟩ (.int .i64 u.pg)).setCell ⟨w.heap.size, 4, none⟩ (.int .i64 u.sl)).setCell ⟨w.heap.size, 5, none⟩ (.slice A' u.data.length c') = W3 at HS3 ⊢
  clear k0 k1 k2 k3 k4 k5 hfz
  refine (pageT_new _).mono ?_
  rintro e w4 ⟨rfl, hq4, hs4, hp4⟩
  have hz3 : w.heap.size + 1 < W3.heap.size := lt_of_get HS3.out.tid
  have HDN : Hid (∀ k, (Value.slice A' u.data.length c').ownBlock = some k → k ≠ W3.heap.size) := fun k e x => by have := (HS3.out.data.lt k e).2; omega
  have HS4 := Lib.hid (HS3.out.kept hq4 (fun _ x => x.elim) (fun _ _ x => x))
  have HP4 := Lib.hid hp4
  clear hq4 hs4 hp4 HS3
  generalize W3.heap.size = pb at HDN HP4 hz3 ⊢
  obtain ⟨c0, c1, c2, c3, c4, c5⟩ := box_cells HS4.out.box
  have HIN := Lib.hid (pageT_insert pb [] u A' c' _ w4 HP4.out HUB.out HS4.out.rd)
  unfold tupV at HIN
  rcases hrt : u.rightB with _ | _
  · rw [ins_bad u hrt] at HIN
    have HRR := Lib.hid (rright_any u A' c')
    rw [hrt] at HRR
    unfold tupV at HRR
    clear hrt
    go_wp2_with fail
    refine HIN.out.mono ?_
    rintro e w5 ⟨rfl, ho5, hp5⟩
    have HS5 := Lib.hid (HS4.out.kept ho5 (fun k e => by omega) (fun k e x => HDN.out k e x))
    clear ho5 hp5 HIN c0 c1 c2 c3 c4 c5
    obtain ⟨c0, c1, c2, c3, c4, c5⟩ := box_cells HS5.out.box
    go_wp2_with fail
    refine (HRR.out _).mono ?_
    rintro e w6 ⟨rfl, hq6⟩
    have HS6 := Lib.hid (HS5.out.kept hq6 (fun _ x => x.elim) (fun _ _ x => x))
    clear hq6
    go_wp2
    go_ret
    exact ⟨rfl, onward (Below.refl _ _) (Nat.le_refl _) HS6.out.quiet (fun _ x => x.elim)⟩
  · rw [ins_one u hrt] at HIN
    have HRT := Lib.hid hrt
    clear hrt
    go_wp2_with fail
    refine HIN.out.mono ?_
    rintro e w5 ⟨rfl, ho5, hp5⟩
    have HS5 := Lib.hid (HS4.out.kept ho5 (fun k e => by omega) (fun k e x => HDN.out k e x))
    have HP5 := Lib.hid hp5
    clear ho5 hp5 HIN c0 c1 c2 c3 c4 c5 HP4 HS4
    have t0 : w5.cell? ⟨w.heap.size + 1, 0, none⟩ = some (.int .i64 pg) := by rw [cell_of HS5.out.tid]; rfl
    have t1 : w5.cell? ⟨w.heap.size + 1, 1, none⟩ = some (.int .i64 sl) := by rw [cell_of HS5.out.tid]; rfl
    by_cases hx : 1099511627776 < xmax
    · have d1 : decide ((1099511627776:Int) < xmax) = true := decide_eq_true (by omega)
      have HST := Lib.hid (pageT_stamp pb [some u] 0 xmax pg sl w5 HP5.out)
      rw [stamp_deny (Or.inl hx)] at HST
      go_wp2_with fail
      refine HST.out.mono ?_
      rintro e w6 ⟨rfl, ho6, hp6⟩
      have HS7 := Lib.hid (HS5.out.kept ho6 (fun k e => by omega) (fun k e x => HDN.out k e x))
      have HP7 := Lib.hid hp6
      clear ho6 hp6 HST HP5 HS5 t0 t1
      have HVB := HUB
      have HGT := Lib.hid (pageT_get_some pb u [some u] 0 _ HP7.out rfl)
      go_wp2_with fail
      refine HGT.out.mono ?_
      rintro e w8 ⟨A8, c8, rfl, hf8⟩
      have HF8 := Lib.hid hf8
      have HS8 := Lib.hid (HS7.out.kept hf8.quiet (fun _ x => x.elim) (fun _ _ x => x))
      have HP8 := Lib.hid (HP7.out.kept hf8.quiet (fun x => x))
      clear hf8 HGT HS7 HP7
      obtain ⟨c0, c1, c2, c3, c4, c5⟩ := box_cells HS8.out.box
      have hl8 : w.heap.size < w8.heap.size := lt_of_get HS8.out.box
      have hn8 : w.heap.size ≠ w8.heap.size := by omega
      unfold tupV
      have HO : Hid (Quiet w8 (w8.alloc (.cells #[.int .u64 u.row, .int .u64 u.xmin, .int .u64 u.xmax, .int .i64 u.pg, .int .i64 u.sl, .slice A8 u.data.length c8] 54))) := (Only.refl _ _).alloc _
      have HSM := Lib.hid (rsame_any u u A8 A' c8 c' _ _ _ ((fresh_rd HF8.out).kept HO.out (fun _ _ x => x)) (HS8.out.rd.kept HO.out (fun _ _ x => x)) HVB.out HVB.out)
      rw [sameT_refl] at HSM
      unfold tupV at HSM
      go_wp2_with fail
      refine HSM.out.mono ?_
      rintro e w9 ⟨rfl, hq9⟩
      have HS9 := Lib.hid ((HS8.out.kept HO.out (fun _ x => x.elim) (fun _ _ x => x)).kept hq9 (fun _ x => x.elim) (fun _ _ x => x))
      have HP9 := Lib.hid ((HP8.out.kept HO.out (fun x => x)).kept hq9 (fun x => x))
      clear hq9 HSM HP8 HS8 HO HF8 c0 c1 c2 c3 c4 c5
      go_wp2_with fail
      refine (pageT_used pb _ _ HP9.out).mono ?_
      rintro e w10 ⟨rfl, n10, rfl⟩
      rw [show usedT [some u] = 1 from rfl]
      go_wp2
      go_ret
      exact ⟨rfl, onward (Below.refl _ _) (Nat.le_refl _) (HS9.out.quiet.trans (by exact (Only.refl _ _).drewN n10)) (fun _ x => x.elim)⟩
    · have d1 : decide ((1099511627776:Int) < xmax) = false := decide_eq_false (by omega)
      have HFR := Lib.hid (rfar_any pg sl)
      have HST := Lib.hid (pageT_stamp pb [some u] 0 xmax pg sl w5 HP5.out)
      rcases hf : farB pg sl with _ | _
      · rw [stamp_do (by omega) hf] at HST
        rw [hf] at HFR
        clear hf
        go_wp2_with fail
        refine HST.out.mono ?_
        rintro e w6 ⟨rfl, ho6, hp6⟩
        have HS6 := Lib.hid (HS5.out.kept ho6 (fun k e => by omega) (fun k e x => HDN.out k e x))
        have HP6 := Lib.hid hp6
        clear ho6 hp6 HST HP5 HS5 t0 t1
        have t0 : w6.cell? ⟨w.heap.size + 1, 0, none⟩ = some (.int .i64 pg) := by rw [cell_of HS6.out.tid]; rfl
        have t1 : w6.cell? ⟨w.heap.size + 1, 1, none⟩ = some (.int .i64 sl) := by rw [cell_of HS6.out.tid]; rfl
        go_wp2_with fail
        refine (HFR.out _).mono ?_
        rintro e w7 ⟨rfl, hq7⟩
        have HS7 := Lib.hid (HS6.out.kept hq7 (fun _ x => x.elim) (fun _ _ x => x))
        have HP7 := Lib.hid (HP6.out.kept hq7 (fun x => x))
        clear hq7 HFR HP6 HS6 t0 t1
        obtain ⟨c0, c1, c2, c3, c4, c5⟩ := box_cells HS7.out.box
        have hfz := fun j => frozen_of HS7.out.box j
        have t0 : w7.cell? ⟨w.heap.size + 1, 0, none⟩ = some (.int .i64 pg) := by rw [cell_of HS7.out.tid]; rfl
        have t1 : w7.cell? ⟨w.heap.size + 1, 1, none⟩ = some (.int .i64 sl) := by rw [cell_of HS7.out.tid]; rfl
        have hne : w.heap.size + 1 ≠ w.heap.size := by omega
        have hne' : w.heap.size ≠ w.heap.size + 1 := by omega
        go_wp2_with fail
        go_region
        have HS8 := Lib.hid (HS7.out.three xmax pg sl)
        have HP8 := Lib.hid (HP7.out.kept (HS7.out.three_only xmax pg sl) (fun e => by omega))
        have HVB : Hid (∀ x ∈ (u.stamp xmax pg sl).data, x < 256) := HUB
        clear HS7 HP7 c0 c1 c2 c3 c4 c5 t0 t1 hfz
        generalize ((((w7.setCell ⟨w.heap.size, 2, none⟩ (.int .u64 xmax)).setCell ⟨w.heap.size, 3, none⟩ (.int .i64 pg)).setCell ⟨w.heap.size, 4, none⟩ (.int .i64 sl)).drew) = W7 at HS8 HP8 ⊢
        have HDN' : Hid (∀ k, (Value.slice A' (u.stamp xmax pg sl).data.length c').ownBlock = some k → k ≠ pb) := HDN
        generalize u.stamp xmax pg sl = v at HS8 HP8 HVB HDN'
        have HS7 := HS8
        have HP7 := HP8
        clear HS8 HP8
        have HGT := Lib.hid (pageT_get_some pb v [some v] 0 _ HP7.out rfl)
        go_wp2_with fail
        refine HGT.out.mono ?_
        rintro e w8 ⟨A8, c8, rfl, hf8⟩
        have HF8 := Lib.hid hf8
        have HS8 := Lib.hid (HS7.out.kept hf8.quiet (fun _ x => x.elim) (fun _ _ x => x))
        have HP8 := Lib.hid (HP7.out.kept hf8.quiet (fun x => x))
        clear hf8 HGT HS7 HP7
        obtain ⟨c0, c1, c2, c3, c4, c5⟩ := box_cells HS8.out.box
        have hl8 : w.heap.size < w8.heap.size := lt_of_get HS8.out.box
        have hn8 : w.heap.size ≠ w8.heap.size := by omega
        unfold tupV
        have HO : Hid (Quiet w8 (w8.alloc (.cells #[.int .u64 v.row, .int .u64 v.xmin, .int .u64 v.xmax, .int .i64 v.pg, .int .i64 v.sl, .slice A8 v.data.length c8] 54))) := (Only.refl _ _).alloc _
        have HSM := Lib.hid (rsame_any v v A8 A' c8 c' _ _ _ ((fresh_rd HF8.out).kept HO.out (fun _ _ x => x)) (HS8.out.rd.kept HO.out (fun _ _ x => x)) HVB.out HVB.out)
        rw [sameT_refl] at HSM
        unfold tupV at HSM
        go_wp2_with fail
        refine HSM.out.mono ?_
        rintro e w9 ⟨rfl, hq9⟩
        have HS9 := Lib.hid ((HS8.out.kept HO.out (fun _ x => x.elim) (fun _ _ x => x)).kept hq9 (fun _ x => x.elim) (fun _ _ x => x))
        have HP9 := Lib.hid ((HP8.out.kept HO.out (fun x => x)).kept hq9 (fun x => x))
        clear hq9 HSM HP8 HS8 HO HF8 c0 c1 c2 c3 c4 c5
        go_wp2_with fail
        refine (pageT_used pb _ _ HP9.out).mono ?_
        rintro e w10 ⟨rfl, n10, rfl⟩
        rw [show usedT [some v] = 1 from rfl]
        go_wp2
        go_ret
        exact ⟨rfl, onward (Below.refl _ _) (Nat.le_refl _) (HS9.out.quiet.trans (by exact (Only.refl _ _).drewN n10)) (fun _ x => x.elim)⟩
      · rw [stamp_deny (Or.inr hf)] at HST
        rw [hf] at HFR
        clear hf
        go_wp2_with fail
        refine HST.out.mono ?_
        rintro e w6 ⟨rfl, ho6, hp6⟩
        have HS6 := Lib.hid (HS5.out.kept ho6 (fun k e => by omega) (fun k e x => HDN.out k e x))
        have HP6 := Lib.hid hp6
        clear ho6 hp6 HST HP5 HS5 t0 t1
        have t0 : w6.cell? ⟨w.heap.size + 1, 0, none⟩ = some (.int .i64 pg) := by rw [cell_of HS6.out.tid]; rfl
        have t1 : w6.cell? ⟨w.heap.size + 1, 1, none⟩ = some (.int .i64 sl) := by rw [cell_of HS6.out.tid]; rfl
        go_wp2_with fail
        refine (HFR.out _).mono ?_
        rintro e w7 ⟨rfl, hq7⟩
        have HS7 := Lib.hid (HS6.out.kept hq7 (fun _ x => x.elim) (fun _ _ x => x))
        have HP7 := Lib.hid (HP6.out.kept hq7 (fun x => x))
        clear hq7 HFR HP6 HS6 t0 t1
        have HVB := HUB
        have HGT := Lib.hid (pageT_get_some pb u [some u] 0 _ HP7.out rfl)
        go_wp2_with fail
        refine HGT.out.mono ?_
        rintro e w8 ⟨A8, c8, rfl, hf8⟩
        have HF8 := Lib.hid hf8
        have HS8 := Lib.hid (HS7.out.kept hf8.quiet (fun _ x => x.elim) (fun _ _ x => x))
        have HP8 := Lib.hid (HP7.out.kept hf8.quiet (fun x => x))
        clear hf8 HGT HS7 HP7
        obtain ⟨c0, c1, c2, c3, c4, c5⟩ := box_cells HS8.out.box
        have hl8 : w.heap.size < w8.heap.size := lt_of_get HS8.out.box
        have hn8 : w.heap.size ≠ w8.heap.size := by omega
        unfold tupV
        have HO : Hid (Quiet w8 (w8.alloc (.cells #[.int .u64 u.row, .int .u64 u.xmin, .int .u64 u.xmax, .int .i64 u.pg, .int .i64 u.sl, .slice A8 u.data.length c8] 54))) := (Only.refl _ _).alloc _
        have HSM := Lib.hid (rsame_any u u A8 A' c8 c' _ _ _ ((fresh_rd HF8.out).kept HO.out (fun _ _ x => x)) (HS8.out.rd.kept HO.out (fun _ _ x => x)) HVB.out HVB.out)
        rw [sameT_refl] at HSM
        unfold tupV at HSM
        go_wp2_with fail
        refine HSM.out.mono ?_
        rintro e w9 ⟨rfl, hq9⟩
        have HS9 := Lib.hid ((HS8.out.kept HO.out (fun _ x => x.elim) (fun _ _ x => x)).kept hq9 (fun _ x => x.elim) (fun _ _ x => x))
        have HP9 := Lib.hid ((HP8.out.kept HO.out (fun x => x)).kept hq9 (fun x => x))
        clear hq9 HSM HP8 HS8 HO HF8 c0 c1 c2 c3 c4 c5
        go_wp2_with fail
        refine (pageT_used pb _ _ HP9.out).mono ?_
        rintro e w10 ⟨rfl, n10, rfl⟩
        rw [show usedT [some u] = 1 from rfl]
        go_wp2
        go_ret
        exact ⟨rfl, onward (Below.refl _ _) (Nat.le_refl _) (HS9.out.quiet.trans (by exact (Only.refl _ _).drewN n10)) (fun _ x => x.elim)⟩

open Go.ChangeShapes Go.WideShapes in
set_option maxRecDepth 100000 in
theorem pageStamps_walk {H : Type} {enc : TypeId × Value → H} {r : Reach} {base : Nat} {d0 d1 d2 : DataW H} {p0 p1 p2 : List MemPlace} (v0 v1 v2 : Value) (W : World)
    (o0 : Value.okWide Try.prog W r base 54 v0) (h0 : DataW.Trod enc Try.prog W 0 (fun _ => true) true 54 v0 d0 p0) (o1 : Value.okWide Try.prog W r base 49 v1) (h1 : DataW.Trod enc Try.prog W 0 (fun _ => true) true 49 v1 d1 p1) (o2 : Value.okWide Try.prog W r base 51 v2) (h2 : DataW.Trod enc Try.prog W 0 (fun _ => true) true 51 v2 d2 p2) :
    Calls Try.prog 8 #[v0, v1, v2] W fun e w' => e = .returned (.bool true) ∧ Below W.heap.size W w' := by
  obtain ⟨t, A, cap, rfl, a1, a2, a3, a4⟩ := open_tup o0 h0
  obtain ⟨x, rfl, _, _, wx⟩ := open_int Try.underlying49 o1 h1
  obtain ⟨n, rfl⟩ := nat_u64 wx
  obtain ⟨pg, sl, rfl, _⟩ := open_tid o2 h2
  exact pageStamps_any t A cap n pg sl W a4 a3 a1 a2

end Go.Proofs.Ytbibmgcklilpmaa
