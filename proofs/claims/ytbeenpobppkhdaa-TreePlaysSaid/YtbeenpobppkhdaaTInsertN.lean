/- The contract of slices.Insert of one element, at nodes. No condition. -/
import Derived.Test.YtbeenpobppkhdaaTInsertL
import Derived.Deep.RegionLawGrows
namespace Go.Proofs.Ytbeenpobppkhdaa
open Go.RowKit Go.Lap

theorem insertN_size : (Try.prog.info? 59).map (·.size) = some 1 := by kernel_rfl

set_option maxHeartbeats 1000000 in
set_option maxRecDepth 100000 in
/-- At the end. -/
theorem insertN_end (v : Value) (n vb : Nat) (xs news : List Value) (w : World) (hown : w.ownsRow 0 59 1 v n xs) (hnl : news.length = 1) (hnew : w.heap[vb]? = some (.cells news.toArray 59 (0, 0))) (h1 : ∀ u ∈ news, u.oneCell' = true) (hn : n ≤ 100000) :
    Calls Try.prog 42 #[v, .int .i64 (n : Int), .slice (some ⟨vb, 0, none⟩) 1 1] w fun e w' => ∃ v', e = .returned v' ∧ Grew w w' 59 1 v v' (n + 1) (xs ++ news) := by
  obtain ⟨A, cap, hv, hnc, hcm, _⟩ := own_form hown
  subst hv
  unfold maxLen at hcm
  have HO := Lib.hid hown
  have HR : Hid (Rd w (fun _ => True) 1 (some ⟨vb, 0, none⟩) 1 news) := ⟨by omega, fun _ => ⟨vb, 0, rfl, trivial, fun j u hu => by rw [cell_of hnew]; simpa using hu⟩⟩
  have H1 := Lib.hid h1
  clear hown hnew h1
  by_cases hc : cap = n
  · subst hc
    go_enter Try.func42, Try.ntmps42
    go_wp2_with (at_builtin; refine app elem_node rfl (.tmp 23) (.tmp 24) rfl rfl HO.out rfl HR.out H1.out (by unfold maxLen; omega) (by omega) ?_)
    intro v' w1 hg
    have HG := Lib.hid hg
    clear hg
    go_wp2
    go_ret
    exact ⟨v', rfl, HG.out⟩
  · go_enter Try.func42, Try.ntmps42
    go_wp2_with (at_builtin; refine app elem_node rfl (.tmp 23) (.tmp 24) rfl rfl HO.out rfl HR.out H1.out (by unfold maxLen; omega) (by omega) ?_)
    intro v' w1 hg
    have HG := Lib.hid hg
    clear hg
    go_wp2
    go_ret
    exact ⟨v', rfl, HG.out⟩

set_option maxHeartbeats 2000000 in
set_option maxRecDepth 100000 in
/-- In the midst, where there is no room. -/
theorem insertN_grow (g n i vb : Nat) (xs news : List Value) (w : World) (hown : w.ownsRow 0 59 1 (.slice (some ⟨g, 0, none⟩) n n) n xs) (hnl : news.length = 1) (hnew : w.heap[vb]? = some (.cells news.toArray 59 (0, 0))) (h1 : ∀ u ∈ news, u.oneCell' = true) (hx1 : ∀ u ∈ xs, u.oneCell' = true) (hn : n ≤ 100000) (hi : i < n) :
    Calls Try.prog 42 #[.slice (some ⟨g, 0, none⟩) n n, .int .i64 (i : Int), .slice (some ⟨vb, 0, none⟩) 1 1] w fun e w' => ∃ v', e = .returned v' ∧ Grew w w' 59 1 (.slice (some ⟨g, 0, none⟩) n n) v' (n + 1) (xs.take i ++ news ++ xs.drop i) := by
  have hxl := hown.1
  have hcell : ∀ j v, xs[j]? = some v → w.cell? ⟨g, j, none⟩ = some v := fun j v hj => by have := hown.cells rfl j v hj; rw [add_none, Nat.zero_add] at this; exact this
  have hgl : g < w.heap.size := (hown.lt g rfl).2
  have HC := Lib.hid hcell
  have HN := Lib.hid hnew
  have H1 := Lib.hid h1
  have HX := Lib.hid hx1
  have hin : ¬ ((i : Int) = (n : Int)) := by omega
  have hin2 : ¬ n = i := by omega
  have d0 : (0 : Int) ≤ (i : Int) := by omega
  have d1 : (i : Int) ≤ (n : Int) := by omega
  have d2 : (i : Int) ≤ (n : Int) + 1 := by omega
  clear hown hcell hnew h1 hx1
  go_enter Try.func42, Try.ntmps42
  go_wp2_with (at_builtin; refine zerosK elem_node Try.underlying3 rfl (.tmp 34) (.tmp 39) rfl (g := g) (off := 0) (i := i) (cap := n) (m := n + 1 - i) (olds := xs.take i) rfl rfl (by omega) (by omega) (by omega) (by rw [List.length_take]; omega) (fun j v hj => by
    rw [Nat.zero_add]
    rw [List.getElem?_take] at hj
    split at hj
    · exact HC.out j v hj
    · cases hj) (by omega) (by omega) ?_)
  intro w1 G ROW hG hGm hh1 hRs hRt hq1
  rw [show i + (n + 1 - i) = n + 1 by omega] at hG ⊢
  have HH1 := Lib.hid hh1
  have HQ1 := Lib.hid hq1
  have HRT := Lib.hid hRt
  have hvb1 : w1.heap[vb]? = _ := hq1.get HN.out (fun x => x)
  have HV1 := Lib.hid hvb1
  have hGi : ¬ G = i := by omega
  have hGi1 : ¬ G = i + 1 := by omega
  unfold maxLen at hGm
  clear hh1 hq1 hRt hvb1
  obtain ⟨w2, hcp1, hh2, ho2⟩ := run_copy_ex (P := Try.prog) w1 60 60 59 (k := 1) (g := w.heap.size) (at_ := i) (dLen := n + 1 - i) (dCap := G - i) (sLen := 1) (sCap := 1) (src := ⟨vb, 0, none⟩) (cs := news) (m := 1) Try.underlying60 insertN_size (Nat.min_eq_left (by omega)) HH1.out (by rw [hnl]) (fun j v hj => by rw [add_none, cell_of HV1.out, Nat.zero_add]; simpa using hj) (by rw [hnl, hRs]; omega) H1.out
  have HH2 := Lib.hid hh2
  have HO2 : Hid (Only (fun k => k = w.heap.size) w w2) := (HQ1.out.mono (T := fun k => k = w.heap.size) (fun _ _ x => x.elim)).trans' ho2 (fun k _ e => e)
  clear hh2 ho2 HH1 HV1
  obtain ⟨w3, hcp2, hh3, ho3⟩ := run_copy_ex (P := Try.prog) w2.drew 60 60 59 (k := 1) (g := w.heap.size) (at_ := (i + 1)) (dLen := n - i) (dCap := G - (i + 1)) (sLen := n - i) (sCap := n - i) (src := ⟨g, i, none⟩) (cs := xs.drop i) (m := n - i) Try.underlying60 insertN_size (Nat.min_self _) HH2.out (by rw [List.length_drop]; omega) (fun j v hj => by
    rw [add_none]
    rw [List.getElem?_drop] at hj
    exact HO2.out.cell (HC.out _ v hj) (by show ¬ g = w.heap.size; omega)) (by rw [laid_size (by rw [hnl, hRs]; omega), List.length_drop, hRs]; omega) (fun v hv => HX.out v (List.mem_of_mem_drop hv))
  have HH3 := Lib.hid hh3
  have HO3 : Hid (Only (fun k => k = w.heap.size) w w3) := HO2.out.drew.trans ho3
  clear hh3 ho3 HH2 HO2
  have dw : IntKind.i64.wrap ((i : Int) + 1) = (i : Int) + 1 := wrapI (by omega)
  have dt : ((i : Int) + 1).toNat = i + 1 := by omega
  have d3 : (0 : Int) ≤ (i : Int) + 1 := by omega
  have d4 : (i : Int) + 1 ≤ (n : Int) + 1 := by omega
  go_wp2_with fail
  go_region_held3 (fun _ => True) (first | trivial | fail) (fail)
  have HF : Hid (Grew w w3 59 1 (.slice (some ⟨g, 0, none⟩) n n) (.slice (some ⟨w.heap.size, 0, none⟩) (n + 1) G) (n + 1) (xs.take i ++ news ++ xs.drop i)) := by
    refine ⟨⟨?_, Or.inr ⟨w.heap.size, G, _, rfl, Nat.zero_le _, HH3.out, hG, by unfold maxLen; omega, ?_, ?_⟩⟩, HO3.out.mono (fun k hk e => by omega), Or.inr rfl⟩
    · simp only [List.length_append, List.length_take, List.length_drop, hnl]; omega
    · rw [laid_size (by rw [laid_size (by rw [hnl, hRs]; omega), List.length_drop, hRs]; omega), laid_size (by rw [hnl, hRs]; omega), hRs]; omega
    · exact laid_two1 (by omega) hnl (by omega) HRT.out (by rw [hRs]; omega)
  clear hcp1 hcp2 HH3 HO3
  go_wp2
  go_ret
  exact ⟨_, rfl, HF.out⟩

set_option maxHeartbeats 2000000 in
set_option maxRecDepth 100000 in
/-- In the midst, where there is room. -/
theorem insertN_shift (g n cap i vb : Nat) (xs news : List Value) (w : World) (hown : w.ownsRow 0 59 1 (.slice (some ⟨g, 0, none⟩) n cap) n xs) (hnl : news.length = 1) (hnew : w.heap[vb]? = some (.cells news.toArray 59 (0, 0))) (h1 : ∀ u ∈ news, u.oneCell' = true) (hx1 : ∀ u ∈ xs, u.oneCell' = true) (hn : n ≤ 100000) (hi : i < n) (hcap : n + 1 ≤ cap) (hvg : vb ≠ g) :
    Calls Try.prog 42 #[.slice (some ⟨g, 0, none⟩) n cap, .int .i64 (i : Int), .slice (some ⟨vb, 0, none⟩) 1 1] w fun e w' => ∃ v', e = .returned v' ∧ Grew w w' 59 1 (.slice (some ⟨g, 0, none⟩) n cap) v' (n + 1) (xs.take i ++ news ++ xs.drop i) := by
  have hxl := hown.1
  have hcell : ∀ j v, xs[j]? = some v → w.cell? ⟨g, j, none⟩ = some v := fun j v hj => by have := hown.cells rfl j v hj; rw [add_none, Nat.zero_add] at this; exact this
  obtain ⟨cur, hcur, hcs, hct, hcm⟩ : ∃ cur : Array Value, w.heap[g]? = some (.cells cur 59 (0, 0)) ∧ cur.size = cap ∧ cur.toList.take (n) = xs ∧ cap ≤ maxLen := by
    rcases hown.2 with ⟨e1, _⟩ | ⟨g', cap', cur, e1, _, hh, _, hm, h1, h2⟩
    · cases e1
    · injection e1 with e1 _ e3
      injection e1 with e1
      injection e1 with e1 _ _
      subst e1 e3
      exact ⟨cur, hh, by simpa using h1, by simpa using h2, hm⟩
  unfold maxLen at hcm
  have hov : ∀ lb cb, (callFunc 53 #[.slice (some ⟨vb, 0, none⟩) 1 1, .slice (some ⟨g, (i + 1), none⟩) lb cb]).run Try.prog w = .ok (.value (.bool false)) w := fun lb cb => by
    rw [run_callFunc_extern Try.func53 (by kernel_rfl) (by kernel_rfl) (by kernel_rfl) (e := Extern.SlicesOverlaps.overlaps #[60, 60] #[4]) (by kernel_rfl),
      Lib.run_overlaps_apart w 60 4 59 Try.underlying60 1 (fun w => by kernel_rfl) ⟨vb, 0, none⟩ ⟨g, (i + 1), none⟩ 1 1 lb cb hvg 59 59 news.toArray.size cur.size (by simp [World.shape?, hnew]) (by simp [World.shape?, hcur]) (by rw [hcs]; omega) (frozen_of hnew 0) (frozen_of hnew _)]
    rfl
  have hin : ¬ ((i : Int) = (n : Int)) := by omega
  have d0 : (0 : Int) ≤ (i : Int) := by omega
  have d1 : (i : Int) ≤ (n : Int) := by omega
  have d2 : (i : Int) ≤ (n : Int) + 1 := by omega
  have dw : IntKind.i64.wrap ((i : Int) + 1) = (i : Int) + 1 := wrapI (by omega)
  have dt : ((i : Int) + 1).toNat = i + 1 := by omega
  have d3 : (0 : Int) ≤ (i : Int) + 1 := by omega
  have d4 : (i : Int) + 1 ≤ (n : Int) + 1 := by omega
  have hci : ¬ cap = i := by omega
  have hci1 : ¬ cap = i + 1 := by omega
  obtain ⟨w2, hcp1, hh2, ho2⟩ := run_copy_ex (P := Try.prog) w.drew 60 60 59 (k := 1) (g := g) (at_ := (i + 1)) (dLen := n - i) (dCap := cap - (i + 1)) (sLen := n + 1 - i) (sCap := cap - i) (src := ⟨g, i, none⟩) (cs := xs.drop i) (m := n - i) Try.underlying60 insertN_size (Nat.min_eq_right (by omega)) (show w.drew.heap[g]? = _ from hcur) (by rw [List.length_drop]; omega) (fun j v hj => by
    rw [add_none]
    rw [List.getElem?_drop] at hj
    exact hcell _ v hj) (by rw [List.length_drop, hcs]; omega) (fun v hv => hx1 v (List.mem_of_mem_drop hv))
  have HO2 : Hid (Only (fun k => k = g) w w2) := ((Only.refl (fun k => k = g) w).drew).trans ho2
  obtain ⟨w3, hcp2, hh3, ho3⟩ := run_copy_ex (P := Try.prog) w2 60 60 59 (k := 1) (g := g) (at_ := i) (dLen := n + 1 - i) (dCap := cap - i) (sLen := 1) (sCap := 1) (src := ⟨vb, 0, none⟩) (cs := news) (m := 1) Try.underlying60 insertN_size (Nat.min_eq_left (by omega)) hh2 (by rw [hnl]) (fun j v hj => by rw [add_none, cell_of (HO2.out.get hnew hvg), Nat.zero_add]; simpa using hj) (by rw [hnl, laid_size (by rw [List.length_drop, hcs]; omega), hcs]; omega) h1
  have HF : Hid (Grew w w3 59 1 (.slice (some ⟨g, 0, none⟩) n cap) (.slice (some ⟨g, 0, none⟩) (n + 1) cap) (n + 1) (xs.take i ++ news ++ xs.drop i)) := by
    refine ⟨⟨?_, Or.inr ⟨g, cap, _, rfl, Nat.zero_le _, hh3, hcap, by unfold maxLen; omega, ?_, ?_⟩⟩, (HO2.out.trans ho3).mono (fun k hk e => by rw [e]; rfl), Or.inl rfl⟩
    · simp only [List.length_append, List.length_take, List.length_drop, hnl]; omega
    · rw [laid_size (by rw [hnl, laid_size (by rw [List.length_drop, hcs]; omega), hcs]; omega), laid_size (by rw [List.length_drop, hcs]; omega), hcs]; omega
    · exact laid_back1 (by omega) hnl (by omega) hct (by rw [hcs]; omega)
  clear hown hcell hcur hct hnew h1 hx1 hh2 ho2 hh3 ho3 HO2
  go_enter Try.func42, Try.ntmps42
  go_wp2_with fail
  go_region_held3 (fun _ => True) (first | trivial | fail) (fail)
  go_wp2
  go_ret
  exact ⟨_, rfl, HF.out⟩

/-- All ways. -/
theorem insertN_any (v : Value) (n i vb : Nat) (xs news : List Value) (w : World) (hown : w.ownsRow 0 59 1 v n xs) (hnl : news.length = 1) (hnew : w.heap[vb]? = some (.cells news.toArray 59 (0, 0))) (h1 : ∀ u ∈ news, u.oneCell' = true) (hx1 : ∀ u ∈ xs, u.oneCell' = true) (hn : n ≤ 100000) (hi : i ≤ n) (hvb : v.ownBlock ≠ some vb) :
    Calls Try.prog 42 #[v, .int .i64 (i : Int), .slice (some ⟨vb, 0, none⟩) 1 1] w fun e w' => ∃ v', e = .returned v' ∧ Grew w w' 59 1 v v' (n + 1) (xs.take i ++ news ++ xs.drop i) := by
  have hxl := hown.1
  by_cases hin : i = n
  · subst hin
    have := insertN_end v i vb xs news w hown hnl hnew h1 hn
    rw [List.take_of_length_le (by omega), List.drop_of_length_le (by omega), List.append_nil]
    exact this
  · rcases owns_cases hown with ⟨_, h0⟩ | ⟨g, cap, rfl, hnc, _⟩
    · omega
    · by_cases hc : cap = n
      · subst hc
        exact insertN_grow g cap i vb xs news w hown hnl hnew h1 hx1 hn (by omega)
      · exact insertN_shift g n cap i vb xs news w hown hnl hnew h1 hx1 hn (by omega) (by omega) (fun e => hvb (by rw [e]; rfl))

end Go.Proofs.Ytbeenpobppkhdaa
