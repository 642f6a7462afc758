/- The contract of a node's split, at a node over others; at every node. No condition. -/
import Derived.Test.YtbeenpobppkhdaaTSplit
namespace Go.Proofs.Ytbeenpobppkhdaa
open Go.RowKit Go.Lap

theorem ptr_rd {w : World} {u : Value} {g n c m : Nat} {ps : List Value} (h : w.ownsRow 0 59 1 u m ps) (e : u = .slice (some ⟨g, 0, none⟩) n c) : Rd w (· = g) 1 (some ⟨g, 0, none⟩) m ps := by
  subst e
  refine ⟨h.1, fun _ => ⟨g, 0, rfl, rfl, fun j u hu => ?_⟩⟩
  have := h.cells rfl j u hu
  rw [add_none] at this
  exact this

set_option maxHeartbeats 2000000 in
set_option maxRecDepth 100000 in
theorem split_inner {K F : Nat → Prop} {h : Nat} {w : World} {b : Nat} {v u : Value} {ks : List Kid} (hi : Inner (NodeAt K h) w b F v u ks) (hK : ∀ j, K j → ¬ F j) (hlim : ∀ x ∈ ks, ∀ j, x.F j → j < w.heap.size) (hn : ks.length ≤ 100000) :
    Calls Try.prog 30 #[ptrV b] w (SplitPost K (h + 1) w b F (flat ks)) := by
  have hhl : (heads ks).length = ks.length := by simp
  by_cases h8 : ks.length ≤ 8
  · exact (split_none b v u (heads ks) w hi.box hi.row (by omega)).mono (fun e w' h => Or.inl h)
  · obtain ⟨g, c, hv, hc, hcm⟩ : ∃ g c, v = .slice (some ⟨g, 0, none⟩) ks.length c ∧ ks.length ≤ c ∧ c ≤ maxLen := by
      rcases owns_cases hi.row with ⟨_, e⟩ | ⟨g, c, e, h1, h2⟩
      · omega
      · rw [hhl] at e h1
        exact ⟨g, c, e, h1, h2⟩
    obtain ⟨gu, cu, hu, hcu, hcum⟩ := hi.form
    obtain ⟨k, hk⟩ : ∃ k, ks.length / 2 = k := ⟨_, rfl⟩
    obtain ⟨n, hnn⟩ : ∃ n, ks.length = n := ⟨_, rfl⟩
    have hrd := row_rd hi.row hv
    rw [hhl, hnn] at hrd
    have hru := ptr_rd hi.kids hu
    rw [hnn] at hru hv hu hc hcu hk h8 hn
    have HHL := Lib.hid (hhl.trans hnn)
    have HPL : Hid ((kptrs ks).length = n) := by show _ = _; simp [hnn]
    have b0 : w.cell? ⟨b, 0, none⟩ = some (.slice (some ⟨g, 0, none⟩) n c) := by rw [cell_of hi.box, ← hv]; rfl
    have HI := Lib.hid hi
    have HV := Lib.hid hv
    have HK := Lib.hid hK
    have HLIM := Lib.hid hlim
    have HRD := Lib.hid hrd
    have HRU := Lib.hid hru
    have HD1 := Lib.hid (hrd.drop (k := k) (by omega))
    have hb := lt_of_get hi.box
    have hkk : 4 ≤ k ∧ k + 4 ≤ n := by omega
    have q0 : (0 : Int) ≤ (n : Int) / 2 := by omega
    have q1 : (n : Int) / 2 ≤ (n : Int) := by omega
    have q2 : ((n : Int) / 2).toNat = k := by omega
    have q3 : ¬ c = k := by omega
    have q4 : ¬ cu = k := by omega
    have d8 : decide ((n : Int) ≤ 8) = false := decide_eq_false (by omega)
    have hcm' : c ≤ 9223372036854775807 := by unfold maxLen at hcm; omega
    have hcum' : cu ≤ 9223372036854775807 := by unfold maxLen at hcum; omega
    have HC1 := Lib.hid (clone_ent ⟨g, 0 + k * 3, none⟩ (n - k) (c - k) _ (· = g) w HD1.out (fun u hu => one_row (heads ks) u (List.mem_of_mem_drop hu)) (by omega))
    rw [Nat.zero_add] at HC1
    have HBX : Hid (w.heap[b]? = some (.cells #[.slice (some ⟨g, 0, none⟩) n c, .slice (some ⟨gu, 0, none⟩) n cu] 62 (0, 0))) := by rw [← HV.out, ← hu]; exact hi.box
    have HNN := Lib.hid hnn
    have HUG : Hid (∀ j, u.ownBlock = some j → j = gu) := fun j e => by rw [hu] at e; injection e with e; exact e.symm
    have hgub : gu ≠ b := fun e => by
      obtain ⟨cc, hcc⟩ := own_blk hi.kids (k := gu) (by rw [hu]; rfl)
      exact ne_type hcc hi.box (by decide) e
    have hgul : gu < w.heap.size := (hi.kids.lt gu (by rw [hu]; rfl)).2
    clear hrd hru hK hlim hi hk hcm hcum hv hu hnn hhl
    go_enter Try.func30, Try.ntmps30
    go_wp2_with fail
    refine HC1.out.mono ?_
    rintro e w1 ⟨v2, rfl, h1⟩
    rw [← rowV_drop] at h1
    obtain ⟨A2, c2, hv2, _, _, _⟩ := own_form h1.own
    subst hv2
    have HN1 := Lib.hid h1
    have hq2 : Quiet w (w1.alloc (.cells #[.slice A2 (n - k) c2, .slice none 0 0] 62)) := h1.quiet.alloc _
    have hb2 := hq2.get HBX.out (fun x => x)
    have HB2 := Lib.hid hb2
    have HC2 := Lib.hid (clone_ent ⟨g, 0, none⟩ k c _ (· = g) _ ((HRD.out.takeK (k := k) (by omega)).kept hq2 (fun _ _ x => x)) (fun u hu => one_row (heads ks) u (List.mem_of_mem_take hu)) (by omega))
    have b0' : (w1.alloc (.cells #[.slice A2 (n - k) c2, .slice none 0 0] 62)).cell? ⟨b, 0, none⟩ = some (.slice (some ⟨g, 0, none⟩) n c) := hq2.cell b0 (fun x => x)
    clear h1 HC1 HD1 b0 hb2 hq2
    go_wp2_with fail
    refine HC2.out.mono ?_
    rintro e w3 ⟨v1, rfl, h3⟩
    rw [← rowV_take] at h3
    obtain ⟨A1, c1, hv1, _, _, _⟩ := own_form h3.own
    subst hv1
    have hb3 := h3.quiet.get HB2.out (fun x => x)
    have HCW := Lib.hid (cleftW_mk (ys := heads ks) HBX.out (by rw [HHL.out]; omega) (by rw [HHL.out]; exact HN1.out) h3)
    have b3 : w3.cell? ⟨b, 0, none⟩ = some (.slice (some ⟨g, 0, none⟩) n c) := h3.quiet.cell b0' (fun x => x)
    have f3 := fun o => frozen_of hb3 o
    clear h3 HC2 b0' hb3 HN1 HRD HB2
    have HLF := Lib.hid (leaf_any b _ _ _ _ _ HCW.out.box)
    go_wp2_with fail
    refine HLF.out.mono ?_
    rintro e w4 ⟨rfl, rfl⟩
    have hru4 := HRU.out.kept HCW.out.only (fun j e e' => hgub (e.symm.trans e'))
    have HRU4 := Lib.hid hru4
    have HC3 := Lib.hid (clone_node ⟨gu, 0 + k * 1, none⟩ (n - k) (cu - k) _ (· = gu) _ (hru4.drop (k := k) (by omega)) (fun u hu => one_kptrs ks u (List.mem_of_mem_drop hu)) (by omega))
    rw [Nat.zero_add, Nat.mul_one] at HC3
    have b1 : (w3.setCell ⟨b, 0, none⟩ (.slice A1 k c1)).cell? ⟨b, 1, none⟩ = some (.slice (some ⟨gu, 0, none⟩) n cu) := by rw [cell_of HCW.out.box]; rfl
    have hrn := HCW.out.new
    clear HLF b3 f3 hru4
    go_wp2_with fail
    refine HC3.out.mono ?_
    rintro e w5 ⟨u2, rfl, h5⟩
    obtain ⟨A5, c5, hu2, _, _, _⟩ := own_form h5.own
    subst hu2
    have hr5 := h5.quiet.get hrn (fun x => x)
    have z5 : w5.cell? ⟨w1.heap.size, 1, none⟩ = some (.slice none 0 0) := by rw [cell_of hr5]; rfl
    have f5 := fun o => frozen_of hr5 o
    have hb5 := h5.quiet.get HCW.out.box (fun x => x)
    have hs6 : Only (· = w1.heap.size) w5 (w5.setCell ⟨w1.heap.size, 1, none⟩ (.slice A5 (n - k) c5)) := (Only.refl (· = w1.heap.size) w5).setCell (p := ⟨w1.heap.size, 1, none⟩) (fun _ => rfl) _
    have hfr := HCW.out.fresh.1
    have hb6 := hs6.get hb5 (show ¬ b = w1.heap.size by omega)
    have b6 : (w5.setCell ⟨w1.heap.size, 1, none⟩ (.slice A5 (n - k) c5)).cell? ⟨b, 1, none⟩ = some (.slice (some ⟨gu, 0, none⟩) n cu) := by rw [cell_of hb6]; rfl
    have HB6 := Lib.hid hb6
    have HN5 : Hid (NewRow (w3.setCell ⟨b, 0, none⟩ (.slice A1 k c1)) w5 59 1 (.slice A5 (n - k) c5) ((kptrs ks).length - k) ((kptrs ks).drop k)) := by show NewRow _ _ _ _ _ _ _; rw [HPL.out]; exact h5
    have HC4 := Lib.hid (clone_node ⟨gu, 0, none⟩ k cu _ (· = gu) _ (((HRU4.out.takeK (k := k) (by omega)).kept h5.quiet (fun _ _ x => x)).kept hs6 (fun j e e' => by omega)) (fun u hu => one_kptrs ks u (List.mem_of_mem_take hu)) (by omega))
    rw [Nat.mul_one] at HC4
    clear h5 hr5 hb5 hs6 hb6 HC3 b1 hrn HRU4
    go_wp2_with fail
    refine HC4.out.mono ?_
    rintro e w7 ⟨u1, rfl, h7⟩
    obtain ⟨A7, c7, hu1, _, _, _⟩ := own_form h7.own
    subst hu1
    have hb7 := h7.quiet.get HB6.out (fun x => x)
    have z7 : w7.cell? ⟨b, 1, none⟩ = some (.slice (some ⟨gu, 0, none⟩) n cu) := by rw [cell_of hb7]; rfl
    have f7 := fun o => frozen_of hb7 o
    have HCI := Lib.hid (cleftI_mk (ps := kptrs ks) hb HCW.out HN5.out h7)
    have HR := Lib.hid (HCI.out.inner HI.out HK.out HLIM.out (by omega) (by have := HNN.out; omega))
    clear h7 hb7 HC4 HN5 HCW HCI b6 z5 f5 HB6
    go_wp2
    go_ret
    exact Or.inr ⟨_, _, _, _, _, rfl, HR.out⟩

theorem split_any {K F : Nat → Prop} {h : Nat} {w : World} {b : Nat} {xs : List EV} (hn : NodeAt K h w b F xs) (hK : ∀ j, K j → ¬ F j) (hl : xs.length ≤ 100000) :
    Calls Try.prog 30 #[ptrV b] w (SplitPost K h w b F xs) := by
  cases h with
  | zero => obtain ⟨v, hv⟩ := hn; exact split_leaf hv hK hl
  | succ h =>
    obtain ⟨v, u, ks, hi, e⟩ := hn.lim
    subst e
    have hkl : ks.length ≤ (flat ks).length := by
      have hk := hi.kid
      clear hi hl hn
      induction ks with
      | nil => simp
      | cons x ks ih =>
        have h1 := List.length_pos_iff.2 (hk x (by simp)).1
        have h2 := ih (fun y hy => hk y (by simp [hy]))
        rw [flat, List.flatMap_cons, List.length_append, List.length_cons]
        unfold flat at h2
        omega
    refine (split_inner hi (fun j hj x => hK j hj x.1) (fun x hx j hj => (hi.sub x hx j hj).1.2) (by omega)).mono ?_
    rintro e w' (x | ⟨r, F1, F2, x1, x2, rfl, hc⟩)
    · exact Or.inl x
    · exact Or.inr ⟨r, F1, F2, x1, x2, rfl, hc.all, hc.ne1, hc.ne2, hc.n1, hc.n2, hc.apart, fun j hj => (hc.sub1 j hj).imp (fun x => x.1) id, fun j hj => (hc.sub2 j hj).imp (fun x => x.1) id, hc.only.mono (fun j _ x => x.1)⟩

end Go.Proofs.Ytbeenpobppkhdaa
