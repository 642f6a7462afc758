/- The contracts of the document's answer for layer 5 on versions: Far, Right, Few, Same. No condition. -/
import Derived.Test.YtbibmgcklilpmaaPageStamp
namespace Go.Lap

def sameT (a b : Tup) : Bool := decide (a.row = b.row ∧ a.xmin = b.xmin ∧ a.xmax = b.xmax ∧ a.pg = b.pg ∧ a.sl = b.sl ∧ a.data = b.data)

theorem sameT_refl (a : Tup) : sameT a a = true := decide_eq_true ⟨rfl, rfl, rfl, rfl, rfl, rfl⟩

/-- The version cut to 230 bytes. -/
def Tup.few (t : Tup) : Tup := { t with data := t.data.take 230 }

theorem far_plain (pg sl : Int) : farB pg sl = (if pg = -1 ∧ sl = -1 then false else decide (pg < 0 ∨ 65535 < pg ∨ sl < 0 ∨ 65534 < sl)) := by
  unfold farB
  by_cases h1 : pg = -1 ∧ sl = -1
  · rw [if_pos (Or.inl h1.1), if_pos h1]
    simp [h1.1, h1.2]
  · rw [if_neg h1]
    by_cases h2 : pg = -1 ∨ sl = -1
    · rw [if_pos h2]
      rw [decide_eq_true (by omega : pg ≠ sl), decide_eq_true (by omega : pg < 0 ∨ 65535 < pg ∨ sl < 0 ∨ 65534 < sl)]
    · rw [if_neg h2]
      simp only [decide_eq_decide]
      exact ⟨fun h => by omega, fun h => by omega⟩

end Go.Lap
namespace Go.Proofs.Ytbibmgcklilpmaa
open Go.RowKit Go.Lap

set_option maxHeartbeats 400000 in
set_option maxRecDepth 100000 in
theorem rfar_any (pg sl : Int) (w : World) :
    Calls Try.prog 36 #[.agg #[.int .i64 pg, .int .i64 sl]] w fun e w' => e = .returned (.bool (farB pg sl)) ∧ Quiet w w' := by
  have hq : Hid (Quiet w (w.alloc (.cells #[.int .i64 pg, .int .i64 sl] 51))) := (Only.refl _ _).alloc _
  have hF := far_plain pg sl
  by_cases h1 : pg = -1 ∧ sl = -1
  · have hT : Hid (farB pg sl = false) := by rw [hF, if_pos h1]; rfl
    have hb : (pg == -1) = true := by simp [h1.1]
    have hb2 : (sl == -1) = true := by simp [h1.2]
    clear h1 hF
    go_enter Try.func36, Try.ntmps36
    go_wp2
    go_ret
    rw [hT.out]; exact ⟨rfl, hq.out⟩
  · rw [if_neg h1] at hF
    have HF := Lib.hid hF
    have h2 : (pg == -1) = false ∨ ((pg == -1) = true ∧ (sl == -1) = false) := by
      by_cases e : pg = -1
      · refine Or.inr ⟨by simp [e], ?_⟩
        have : ¬ sl = -1 := fun x => h1 ⟨e, x⟩
        simp [this]
      · exact Or.inl (by simp [e])
    clear h1 hF
    by_cases a1 : pg < 0
    · have hT : Hid (farB pg sl = true) := by rw [HF.out]; exact decide_eq_true (by omega)
      rcases h2 with h2 | ⟨h2, h3⟩
      all_goals
        go_enter Try.func36, Try.ntmps36
        go_wp2
        go_ret
        rw [hT.out]; exact ⟨rfl, hq.out⟩
    · have d1 : decide (pg < 0) = false := decide_eq_false a1
      have h2' : (pg == -1) = false := by simp; omega
      clear h2
      by_cases a2 : 65535 < pg
      · have hT : Hid (farB pg sl = true) := by rw [HF.out]; exact decide_eq_true (by omega)
        go_enter Try.func36, Try.ntmps36
        go_wp2
        go_ret
        rw [hT.out]; exact ⟨rfl, hq.out⟩
      · have d2 : decide (65535 < pg) = false := decide_eq_false a2
        by_cases a3 : sl < 0
        · have hT : Hid (farB pg sl = true) := by rw [HF.out]; exact decide_eq_true (by omega)
          go_enter Try.func36, Try.ntmps36
          go_wp2
          go_ret
          rw [hT.out]; exact ⟨rfl, hq.out⟩
        · have d3 : decide (sl < 0) = false := decide_eq_false a3
          have hT : Hid (farB pg sl = decide (65534 < sl)) := by rw [HF.out]; simp only [decide_eq_decide]; exact ⟨fun h => by omega, fun h => by omega⟩
          go_enter Try.func36, Try.ntmps36
          go_wp2
          go_ret
          rw [hT.out]; exact ⟨rfl, hq.out⟩

set_option maxHeartbeats 400000 in
set_option maxRecDepth 100000 in
theorem rright_any (t : Tup) (A : Option Addr) (cap : Nat) (w : World) :
    Calls Try.prog 34 #[tupV t A cap] w fun e w' => e = .returned (.bool t.rightB) ∧ Quiet w w' := by
  unfold tupV
  have HQ : Hid (Quiet w (w.alloc (.cells #[.int .u64 t.row, .int .u64 t.xmin, .int .u64 t.xmax, .int .i64 t.pg, .int .i64 t.sl, .slice A t.data.length cap] 54))) := (Only.refl _ _).alloc _
  have hR : t.rightB = decide (t.row ≤ 1099511627776 ∧ t.xmin ≤ 1099511627776 ∧ t.xmax ≤ 1099511627776 ∧ farB t.pg t.sl = false ∧ t.data.length ≤ 200) := rfl
  by_cases h1 : t.row ≤ 1099511627776
  · by_cases h2 : t.xmin ≤ 1099511627776
    · by_cases h3 : t.xmax ≤ 1099511627776
      · have HF := Lib.hid (rfar_any t.pg t.sl)
        rcases hfb : farB t.pg t.sl with _ | _
        · rw [hfb] at HF
          have hT : Hid (t.rightB = decide ((t.data.length : Int) ≤ 200)) := by
            rw [hR, hfb]; simp only [decide_eq_decide]; exact ⟨fun h => by omega, fun h => ⟨h1, h2, h3, trivial, by omega⟩⟩
          have d1 : decide ((t.row : Int) ≤ 1099511627776) = true := by simp; omega
          have d2 : decide ((t.xmin : Int) ≤ 1099511627776) = true := by simp; omega
          have d3 : decide ((t.xmax : Int) ≤ 1099511627776) = true := by simp; omega
          clear hR hfb
          go_enter Try.func34, Try.ntmps34
          go_wp2_with fail
          refine (HF.out _).mono ?_
          rintro e w1 ⟨rfl, hq1⟩
          have hblk : w1.heap[w.heap.size]? = _ := hq1.get (alloc_new w _) (fun x => x)
          have hc5 : w1.cell? ⟨w.heap.size, 5, none⟩ = some (.slice A t.data.length cap) := by rw [cell_of hblk]; rfl
          have HQ1 := Lib.hid (HQ.out.trans hq1)
          clear hblk hq1
          go_wp2
          go_ret
          rw [hT.out]
          exact ⟨rfl, HQ1.out⟩
        · rw [hfb] at HF
          have hT : Hid (t.rightB = false) := by rw [hR, hfb]; exact decide_eq_false (by simp)
          clear hR hfb
          go_enter Try.func34, Try.ntmps34
          go_wp2_with fail
          refine (HF.out _).mono ?_
          rintro e w1 ⟨rfl, hq1⟩
          have HQ1 := Lib.hid (HQ.out.trans hq1)
          clear hq1
          go_wp2
          go_ret
          rw [hT.out]
          exact ⟨rfl, HQ1.out⟩
      · have hT : Hid (t.rightB = false) := by rw [hR]; exact decide_eq_false (fun h => h3 h.2.2.1)
        have d3 : decide ((t.xmax : Int) ≤ 1099511627776) = false := by simp; omega
        clear hR h3
        go_enter Try.func34, Try.ntmps34
        go_wp2
        go_ret
        rw [hT.out]
        exact ⟨rfl, HQ.out⟩
    · have hT : Hid (t.rightB = false) := by rw [hR]; exact decide_eq_false (fun h => h2 h.2.1)
      have d2 : decide ((t.xmin : Int) ≤ 1099511627776) = false := by simp; omega
      clear hR h2
      go_enter Try.func34, Try.ntmps34
      go_wp2
      go_ret
      rw [hT.out]
      exact ⟨rfl, HQ.out⟩
  · have hT : Hid (t.rightB = false) := by rw [hR]; exact decide_eq_false (fun h => h1 h.1)
    have d1 : decide ((t.row : Int) ≤ 1099511627776) = false := by simp; omega
    clear hR h1
    go_enter Try.func34, Try.ntmps34
    go_wp2
    go_ret
    rw [hT.out]
    exact ⟨rfl, HQ.out⟩

theorem fresh_two {w w5 W6 : World} {o o' : Obj} {v : Value} {l : List Nat} (h : Fresh ((w.alloc o).alloc o') w5 v l) (ho : Only (fun k => k = w.heap.size ∨ k = w.heap.size + 1) w5 W6) : Fresh w W6 v l := by
  refine ⟨((((Only.refl _ _).alloc o).alloc o').trans h.quiet).trans' ho (fun k hk e => by omega), fun k e => ?_, owns_kept h.own ho (fun k e x => ?_)⟩
  · have := h.new k e
    simp at this
    omega
  · have := h.new k e
    simp at this
    omega

set_option maxHeartbeats 1000000 in
set_option maxRecDepth 100000 in
theorem few_any (t : Tup) (A : Option Addr) (cap : Nat) (S : Nat → Prop) (w : World) (hd : Rd w S 1 A t.data.length (bytesV t.data)) (hc : t.data.length ≤ cap) (hcap : cap ≤ maxLen) :
    Calls Try.prog 33 #[tupV t A cap] w (TupPost w t.few) := by
  unfold tupV
  have HD := Lib.hid (hd.kept (((Only.refl (fun _ => False) w).alloc (.cells #[.int .u64 t.row, .int .u64 t.xmin, .int .u64 t.xmax, .int .i64 t.pg, .int .i64 t.sl, .slice A t.data.length cap] 54)).alloc (.cells #[.int .u64 0, .int .u64 0, .int .u64 0, .int .i64 0, .int .i64 0, .slice none 0 0] 54)) (fun _ _ x => x))
  clear hd
  go_enter Try.func33, Try.ntmps33
  go_wp2_with fail
  refine (cut_any A t.data.length cap 230 t.data S _ HD.out rfl hc hcap (by omega)).mono ?_
  rintro e w2 ⟨v, rfl, hfr⟩
  obtain ⟨nl, Hnl⟩ : ∃ nl, Hid ((t.data.take 230).length = nl) := ⟨_, rfl⟩
  obtain ⟨A', c', hv, _⟩ := own_form hfr.own
  rw [Hnl.out] at hv
  subst hv
  have hbx : w2.heap[w.heap.size]? = _ := hfr.quiet.get (alloc_old (alloc_new w _) _) (fun x => x)
  have hrs : w2.heap[w.heap.size + 1]? = _ := hfr.quiet.get (two_new w _ _) (fun x => x)
  obtain ⟨c0, c1, c2, c3, c4, c5⟩ := box_cells hbx
  have hne : w.heap.size ≠ w.heap.size + 1 := by omega
  have HX := Lib.hid (sixSet_same (set_other hrs 5 (.slice A' nl c') (Ne.symm hne)) (.int .u64 t.row) (.int .u64 t.xmin) (.int .u64 t.xmax) (.int .i64 t.pg) (.int .i64 t.sl) (.slice A' nl c'))
  have HF6 : Hid (Fresh w (sixSet (w2.setCell ⟨w.heap.size, 5, none⟩ (.slice A' nl c')) (w.heap.size + 1) (.int .u64 t.row) (.int .u64 t.xmin) (.int .u64 t.xmax) (.int .i64 t.pg) (.int .i64 t.sl) (.slice A' nl c')) (.slice A' nl c') (t.data.take 230)) := by
    have o1 : Only (fun k => k = w.heap.size ∨ k = w.heap.size + 1) w2 (w2.setCell ⟨w.heap.size, 5, none⟩ (.slice A' nl c')) := (Only.refl _ _).setCell (fun _ => Or.inl rfl) _
    have o2 := (sixSet_only (w2.setCell ⟨w.heap.size, 5, none⟩ (.slice A' nl c')) (w.heap.size + 1) (.int .u64 t.row) (.int .u64 t.xmin) (.int .u64 t.xmax) (.int .i64 t.pg) (.int .i64 t.sl) (.slice A' nl c'))
    exact fresh_two hfr (o1.trans' o2 (fun k _ e => Or.inr e))
  obtain ⟨hc2, hf2⟩ := qcell hfr.quiet
  clear hfr hrs hbx
  go_wp2
  clear hc2 hf2 c0 c1 c2 c3 c4 c5
  unfold sixSet at HX HF6
  generalize ((((((w2.setCell ⟨w.heap.size, 5, none⟩ (.slice A' nl c')).setCell ⟨w.heap.size + 1, 0, none⟩ (.int .u64 t.row)).setCell ⟨w.heap.size + 1, 1, none⟩ (.int .u64 t.xmin)).setCell ⟨w.heap.size + 1, 2, none⟩ (.int .u64 t.xmax)).setCell ⟨w.heap.size + 1, 3, none⟩ (.int .i64 t.pg)).setCell ⟨w.heap.size + 1, 4, none⟩ (.int .i64 t.sl)).setCell ⟨w.heap.size + 1, 5, none⟩ (.slice A' nl c') = W6 at HX HF6 ⊢
  refine bodyPost_ret (results_cell_row Try.results33 _ _ (w.heap.size + 1) _ _ (0, 0) _ (by rfl) HX.out Try.underlying54 rfl info_tup) (by rfl) ?_
  have hfin := HF6.out
  rw [← Hnl.out] at hfin ⊢
  exact ⟨A', c', rfl, hfin⟩

end Go.Proofs.Ytbibmgcklilpmaa
