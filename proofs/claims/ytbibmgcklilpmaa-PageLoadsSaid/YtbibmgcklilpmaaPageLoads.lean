/- PageLoads, the walk (over ref.Load's contract, which the proof gives). No condition. -/
import Derived.Test.YtbibmgcklilpmaaRefLoad0
import Derived.Test.YtbibmgcklilpmaaPageTwice
namespace Go.Proofs.Ytbibmgcklilpmaa
open Go.RowKit Go.Lap

def RLP (g : Nat → Nat) (w : World) (e : Ending) (w' : World) : Prop :=
  Quiet w w' ∧ ((PgOk g ∧ ∃ xb L st, e = .returned (.pointer (some ⟨xb, 0, none⟩)) ∧ Pg g L st ∧ RefPg w' xb (fun k => w.heap.size ≤ k) L st) ∨ (¬ PgOk g ∧ e = .returned (.pointer none)))

set_option maxHeartbeats 1000000 in
set_option maxRecDepth 100000 in
theorem ref_load_len (A : Option Addr) (n cap : Nat) (w : World) (h : n ≠ 512) :
    Calls Try.prog 62 #[.slice A n cap] w fun e w' => e = .returned (.pointer none) ∧ w = w' := by
  have d0 : ((n : Int) != 512) = true := by simp; omega
  go_enter Try.func62, Try.ntmps62
  go_wp2
  go_ret
  exact ⟨rfl, rfl⟩

theorem gOf_pgL {l : List Nat} (h : l.length = 512) : pgL (gOf l) = l := by
  unfold pgL gOf
  apply List.ext_getElem?
  intro i
  rw [List.getElem?_map]
  by_cases hi : i < 512
  · rw [List.getElem?_range hi, List.getElem?_eq_getElem (by omega)]
    simp only [Option.map_some, List.getD_eq_getElem?_getD]
    rw [List.getElem?_eq_getElem (by omega)]
    rfl
  · rw [List.getElem?_eq_none (by simp; omega), List.getElem?_eq_none (by omega)]
    rfl

set_option maxHeartbeats 4000000 in
set_option maxRecDepth 100000 in
theorem pageLoads_any (HRL0 : ∀ (b off cap : Nat) (g : Nat → Nat) (w : World), (∀ i, i < 512 → w.cell? ⟨b, off + i, none⟩ = some (.int .u8 (g i : Int))) → (∀ i, g i < 256) → 512 ≤ cap → Calls Try.prog 62 #[.slice (some ⟨b, off, none⟩) 512 cap] w (RLP g w))
    (A : Option Addr) (cap : Nat) (l : List Nat) (w : World) (hd : Rd w (· < w.heap.size) 1 A l.length (bytesV l)) (hlc : l.length ≤ cap) (hcm : cap ≤ maxLen) (hby : ∀ x ∈ l, x < 256) :
    Calls Try.prog 14 #[.slice A l.length cap] w fun e w' => e = .returned (.bool true) ∧ Below w.heap.size w w' := by
  have HRL := Lib.hid HRL0
  have HD := Lib.hid hd
  have HLC := Lib.hid hlc
  have HCM := Lib.hid hcm
  obtain ⟨ll, hll⟩ : ∃ ll, l.length = ll := ⟨_, rfl⟩
  have HCUT0 := Lib.hid (fun (W : World) (hq : Quiet w W) => cut_any A l.length cap 600 l _ W (hd.kept hq (fun _ _ x => x)) rfl hlc hcm (by omega))
  have HBY : Hid (∀ x ∈ l.take 600, x < 256) := Lib.hid (fun x hx => hby x (List.mem_of_mem_take hx))
  have HL2 : Hid ((l.take 600).length ≤ 600) := Lib.hid (by rw [List.length_take]; omega)
  generalize l.take 600 = l2 at HCUT0 HBY HL2
  rw [hll] at HCUT0 ⊢
  have HCUT := Lib.hid HCUT0.out
  obtain ⟨m, hm⟩ : ∃ m, l2.length = m := ⟨_, rfl⟩
  have HM := Lib.hid hm
  have hm6 : m ≤ 600 := by rw [← hm]; exact HL2.out
  clear hd hlc hcm hby hll hm HCUT0 HD HLC HCM HRL0
  go_enter Try.func14, Try.ntmps14
  go_wp2_with fail
  refine (awake5 _).mono ?_
  rintro e w1 ⟨rfl, hq1⟩
  have HQ1 := Lib.hid hq1
  clear hq1
  go_wp2_with fail
  refine (HCUT.out _ HQ1.out).mono ?_
  rintro e w2 ⟨v2, rfl, hf2⟩
  have HF2 := Lib.hid hf2
  obtain ⟨A2, c2, hv2, hc2, hcm2, _⟩ := own_form hf2.own
  rw [HM.out] at hv2 hc2
  subst hv2
  have hown2 := hf2.own
  rw [HM.out] at hown2
  have HOWN2 := Lib.hid hown2
  have HRD2 : Hid (Rd w2 (fun k => (Value.slice A2 m c2).ownBlock = some k) 1 A2 l2.length (bytesV l2)) := by
    obtain ⟨A', c', e, _, _, r⟩ := own_form hown2
    have e1 := (Value.slice.inj e).1
    rw [e1]
    exact Lib.hid (by rw [HM.out]; rw [← e1] at r ⊢; exact r)
  have HQ2 : Hid (Quiet w w2) := Lib.hid (HQ1.out.trans hf2.quiet)
  clear hf2 hown2 HQ1
  have HCP := Lib.hid (copy_any A2 c2 l2 _ w2 HRD2.out (by rw [HM.out]; omega))
  rw [HM.out] at HCP
  go_wp2_with fail
  refine HCP.out.mono ?_
  rintro e w3 ⟨v3, rfl, hf3⟩
  obtain ⟨A3, c3, hv3, hc3, hcm3, _⟩ := own_form hf3.own
  rw [HM.out] at hv3 hc3
  subst hv3
  have hown3 := hf3.own
  rw [HM.out] at hown3
  have HNEW3 := Lib.hid hf3.new
  have HQ3 : Hid (Quiet w w3) := Lib.hid (HQ2.out.trans hf3.quiet)
  have HRD3 : Hid (Rd w3 (fun k => (Value.slice A2 m c2).ownBlock = some k) 1 A2 l2.length (bytesV l2)) := Lib.hid (HRD2.out.kept hf3.quiet (fun _ _ x => x))
  have HB2 : Hid (∀ k, (Value.slice A2 m c2).ownBlock = some k → k < w2.heap.size) := Lib.hid (fun k e => by obtain ⟨z, hz⟩ := own_blk HOWN2.out e; exact lt_of_get hz)
  have HOT := Lib.hid (owns_kept hown3 ((Only.refl (fun _ => False) w3).alloc (.cells #[.int .u8 165] 5)) (fun _ _ x => x))
  clear hf3 hown3 HCP HRD2
  go_wp2_with (at_builtin; go_must (refine app elem_u8 rfl (.tmp 12) (.tmp 13) rfl rfl HOT.out rfl (Rd.one w3 (.int .u8 165) 5 (0, 0) (S := fun _ => True) trivial) (fun u hu => by simp at hu; rw [hu]; rfl) (by unfold maxLen; omega) (by omega) ?_))
  intro v5 w5 hg5
  obtain ⟨g5, c5, hv5, hmc, hcm5⟩ : ∃ g5 c5, v5 = .slice (some ⟨g5, 0, none⟩) (m + 1) c5 ∧ m + 1 ≤ c5 ∧ c5 ≤ maxLen := by
    rcases owns_cases hg5.own with ⟨_, e⟩ | ⟨g5, c5, e, h1, h2⟩
    · omega
    · exact ⟨g5, c5, e, h1, h2⟩
  subst hv5
  have HOWN5 : Hid (w5.ownsRow 0 5 1 (.slice (some ⟨g5, 0, none⟩) (m + 1) c5) (m + 1) (bytesV l2 ++ [.int .u8 165])) := Lib.hid hg5.own
  have HQ5 : Hid (Quiet w w5) := Lib.hid ((HQ3.out.alloc _).trans' hg5.only (fun k hk e => by have h1 := HNEW3.out k e; have h2 := HQ2.out.size; omega))
  have HRD5 : Hid (Rd w5 (fun k => (Value.slice A2 m c2).ownBlock = some k) 1 A2 l2.length (bytesV l2)) := Lib.hid ((HRD3.out.kept ((Only.refl (fun _ => False) w3).alloc (.cells #[.int .u8 165] 5)) (fun _ _ x => x)).kept hg5.only (fun k e x => by have h1 := HNEW3.out k x; have h2 := HB2.out k e; omega))
  have HRM5 : Hid (Rd w5 (· = g5) 1 (some ⟨g5, 0, none⟩) l2.length (bytesV l2)) := Lib.hid ⟨by simp [bytesV], fun _ => ⟨g5, 0, rfl, rfl, fun j u hu => by
    have hj : j < (bytesV l2).length := (List.getElem?_eq_some_iff.1 hu).1
    have := HOWN5.out.cells rfl j u (by rw [List.getElem?_append_left hj]; exact hu)
    rw [add_none] at this
    exact this⟩⟩
  have HC5 : Hid (w5.cell? ⟨g5, m, none⟩ = some (.int .u8 165)) := Lib.hid (by
    have := HOWN5.out.cells rfl m (.int .u8 165) (by rw [List.getElem?_append_right (by rw [bytes_len, HM.out]; exact Nat.le_refl _), bytes_len, HM.out, Nat.sub_self]; rfl)
    rw [add_none, Nat.zero_add] at this
    exact this)
  clear hg5 HOT HRD3
  unfold maxLen at hcm2 hcm5
  have f0 : (m : Int) ≤ (c5 : Int) := by omega
  have f1 : (m : Int) + 1 ≤ (c5 : Int) := by omega
  have f2 : (m : Int) < (m : Int) + 1 := by omega
  have f3 : (0 : Int) ≤ (m : Int) := by omega
  have HSM0 := Lib.hid (fun (W : World) (hq : Quiet w5 W) => same_any (some ⟨g5, 0, none⟩) A2 c5 c2 l2 l2 _ _ W (HRM5.out.kept hq (fun _ _ x => x)) (HRD5.out.kept hq (fun _ _ x => x)) HBY.out HBY.out)
  rw [HM.out] at HSM0
  simp only [decide_true] at HSM0
  have HSM := Lib.hid HSM0.out
  clear HSM0
  by_cases h512 : m = 512
  · subst h512
    have HPL := Lib.hid (page_load (some ⟨g5, 0, none⟩) c5 l2 _ w5 HM.out HBY.out HRM5.out)
    have HPGL := Lib.hid (gOf_pgL HM.out)
    have HGLT := Lib.hid (gOf_lt HBY.out)
    obtain ⟨b2, o2, hA2, _, hcl⟩ := gOf_cell HRD5.out (by rw [HM.out]; omega)
    subst hA2
    rw [HM.out] at hcl
    have HCL2 := Lib.hid hcl
    clear hcl
    generalize gOf l2 = g at HPL HPGL HGLT HCL2
    go_wp2_with fail
    refine HPL.out.mono ?_
    rintro e w6 ⟨hq6, hres⟩
    have HQ6 := Lib.hid hq6
    have HRL6 := Lib.hid (HRL.out b2 o2 c2 g w6 (fun i hi => hq6.cell (HCL2.out i hi) (fun x => x)) HGLT.out (by omega))
    have z0 := hq6.cell HC5.out (fun x => x)
    clear hq6
    rcases hres with ⟨hok, pb, rfl, hpb, hbk⟩ | ⟨hno, rfl⟩
    · have HOK := Lib.hid hok
      have HPB := Lib.hid hbk
      clear hok hbk hpb
      go_wp2_with fail
      refine HRL6.out.mono ?_
      rintro e w7 ⟨hq7, hres⟩
      rcases hres with ⟨_, xb, L, st, rfl, hpg, hrp⟩ | ⟨hno, _⟩
      · have HQ7 := Lib.hid (HQ6.out.trans hq7)
        have HPB7 := Lib.hid (HPB.out.kept hq7 (fun x => x))
        have HPA : Hid (PageAt w7 pb L st) := Lib.hid ⟨g, HPB7.out, hpg⟩
        have HRP := Lib.hid hrp
        have z1 := hq7.cell z0 (fun x => x)
        clear hq7 hpg hrp z0 HRL6 HPL
        go_wp2_with fail
        refine (HSM.out _ HQ7.out).mono ?_
        rintro e w8 ⟨rfl, rfl⟩
        go_wp2_with fail
        refine (page_bytes pb g _ HPB7.out).mono ?_
        rintro e w8 ⟨v8, rfl, hf8⟩
        rw [HPGL.out] at hf8
        obtain ⟨A8, c8, hv8, _, _, _⟩ := own_form hf8.own
        have hown8 := hf8.own
        rw [HM.out] at hv8
        subst hv8
        have HQ8 := Lib.hid (HQ7.out.trans hf8.quiet)
        have HPA8 := Lib.hid (HPA.out.kept hf8.quiet (fun x => x))
        have HRP8 := Lib.hid (HRP.out.kept hf8.quiet (fun _ _ x => x))
        have HSM8 : Hid (Calls Try.prog 63 #[.slice A8 512 c8, .slice (some ⟨b2, o2, none⟩) 512 c2] w8 fun e w' => e = .returned (.bool true) ∧ w8 = w') := by
          have hr8 : Rd w8 (fun k => (Value.slice A8 512 c8).ownBlock = some k) 1 A8 l2.length (bytesV l2) := by
            obtain ⟨A', c', e, _, _, r⟩ := own_form hown8
            rw [HM.out] at e
            have e1 := (Value.slice.inj e).1
            rw [← e1] at r
            exact r
          have := same_any A8 (some ⟨b2, o2, none⟩) c8 c2 l2 l2 _ _ w8 hr8 (HRD5.out.kept HQ8.out (fun _ _ x => x)) HBY.out HBY.out
          rw [HM.out] at this
          simp only [decide_true] at this
          exact Lib.hid this
        clear hf8 hown8 z1
        go_wp2_with fail
        refine HSM8.out.mono ?_
        rintro e w9 ⟨rfl, rfl⟩
        go_wp2_with fail
        refine (page_used pb st L _ HPA8.out).mono ?_
        rintro e w9 ⟨rfl, n9, h9⟩
        have hq9 : Quiet w8 w9 := by rw [h9]; exact (Only.refl _ _).drewN _
        have HQ9 := Lib.hid (HQ8.out.trans hq9)
        have HPA9 := Lib.hid (HPA8.out.kept hq9 (fun x => x))
        have HRP9 := Lib.hid (HRP8.out.kept hq9 (fun _ _ x => x))
        clear hq9 h9 HSM8
        obtain ⟨us, hus⟩ : ∃ us, usedOf L = us := ⟨_, rfl⟩
        have HUS9 := Lib.hid (rp_used HRP9.out)
        rw [hus] at HUS9 ⊢
        clear hus
        go_wp2_with fail
        refine HUS9.out.mono ?_
        rintro e w10 ⟨rfl, hq10⟩
        have HQ10 := Lib.hid (HQ9.out.trans hq10)
        have HPA10 := Lib.hid (HPA9.out.kept hq10 (fun x => x))
        have HRP10 := Lib.hid (HRP9.out.kept hq10 (fun _ _ x => x))
        clear hq10 HUS9
        have HRM := Lib.hid (page_room pb st L w10 HPA10.out)
        obtain ⟨ro, hro⟩ : ∃ ro, roomOf L = ro := ⟨_, rfl⟩
        rw [hro] at HRM
        go_wp2_with fail
        refine HRM.out.mono ?_
        rintro e w11 ⟨rfl, n11, h11⟩
        have hq11 : Quiet w10 w11 := by rw [h11]; exact (Only.refl _ _).drewN _
        have HQ11 := Lib.hid (HQ10.out.trans hq11)
        have HRR := Lib.hid (rp_room (HRP10.out.kept hq11 (fun _ _ x => x)))
        rw [hro] at HRR
        clear hq11 h11 hro HRM
        go_wp2_with fail
        refine HRR.out.mono ?_
        rintro e w12 ⟨rfl, hq12⟩
        have HQ12 := Lib.hid (HQ5.out.trans (HQ11.out.trans hq12))
        clear hq12 HRR
        go_wp2
        go_ret
        exact ⟨rfl, onward (Below.refl _ _) (Nat.le_refl _) HQ12.out (fun _ x => x.elim)⟩
      · exact absurd HOK.out hno
    · have HNO := Lib.hid hno
      clear hno
      go_wp2_with fail
      refine HRL6.out.mono ?_
      rintro e w7 ⟨hq7, hres⟩
      rcases hres with ⟨hok, _⟩ | ⟨_, rfl⟩
      · exact absurd hok HNO.out
      · have HQ7 := Lib.hid (HQ6.out.trans hq7)
        have z1 := hq7.cell z0 (fun x => x)
        clear hq7 z0 HRL6 HPL
        go_wp2_with fail
        refine (HSM.out _ HQ7.out).mono ?_
        rintro e w8 ⟨rfl, rfl⟩
        have HQ8 := Lib.hid (HQ5.out.trans HQ7.out)
        go_wp2
        go_ret
        exact ⟨rfl, onward (Below.refl _ _) (Nat.le_refl _) HQ8.out (fun _ x => x.elim)⟩
  · have HPL := Lib.hid (page_load_len (some ⟨g5, 0, none⟩) m c5 w5 h512)
    have HRL6 := Lib.hid (ref_load_len A2 m c2 w5 h512)
    have z0 := HC5.out
    clear h512
    go_wp2_with fail
    refine HPL.out.mono ?_
    rintro e w6 ⟨rfl, rfl⟩
    go_wp2_with fail
    refine HRL6.out.mono ?_
    rintro e w6 ⟨rfl, rfl⟩
    go_wp2_with fail
    refine (HSM.out _ (Only.refl _ _)).mono ?_
    rintro e w8 ⟨rfl, rfl⟩
    go_wp2
    go_ret
    exact ⟨rfl, onward (Below.refl _ _) (Nat.le_refl _) HQ5.out (fun _ x => x.elim)⟩

end Go.Proofs.Ytbibmgcklilpmaa
