/- TreePrunes: what is pruned is every entry of those places, whatever its key, and no other one. For every input. -/
import Derived.Test.YtbeenpobppkhdaaTPair
namespace Go.Lap
theorem cmpB_nil_r8 (k : List Nat) : 0 ≤ cmpB k [] := by rcases k with _ | ⟨a, k⟩ <;> simp [cmpB]

theorem scan_all8 (l : List Ent) : scanE [] [] l = l := by
  unfold scanE
  rw [List.filter_eq_self]
  intro e _
  unfold within
  rw [decide_eq_true (cmpB_nil_r8 e.key)]
  rfl

theorem prunE_twice (ps : List (Int × Int)) (es : List Ent) : prunE ps (prunE ps es) = prunE ps es := by
  unfold prunE
  rw [List.filter_filter]
  congr 1
  funext x
  simp

theorem prunE_none {ps : List (Int × Int)} {es : List Ent} {x : Ent} (h : x ∈ prunE ps es) {p : Int × Int} (hp : p ∈ ps) : ¬ (x.pg = p.1 ∧ x.sl = p.2) := by
  have h1 := (List.mem_filter.1 h).2
  intro ⟨z1, z2⟩
  have : (x.pg, x.sl) ∈ ps := by rw [z1, z2]; exact hp
  unfold isIn at h1
  rw [decide_eq_true this] at h1
  cases h1

theorem tidsV_take (l : List (Int × Int)) (f : Nat) : tidsV (l.take f) = (tidsV l).take (f * 2) := by
  induction l generalizing f with
  | nil => simp [tidsV]
  | cons p l ih =>
    rcases f with _ | f
    · simp [tidsV]
    · rw [List.take_succ_cons, tidsV_cons, ih, tidsV_cons, show (f + 1) * 2 = f * 2 + 1 + 1 by omega]; rfl
end Go.Lap
namespace Go.Proofs.Ytbeenpobppkhdaa
open Go.RowKit Go.Lap

theorem PairW.start {w W W1 : World} (hw : Quiet w W) (hq : Quiet W W1) (h0 : W1.heap[W.heap.size]? = some (.cells #[.slice none 0 0, .slice none 0 0] 62 (0, 0))) (h1 : W1.heap[W.heap.size + 1]? = some (.cells #[ptrV W.heap.size, .int .i64 0] 64 (0, 0))) :
    PairW w (W1.alloc (.cells #[.slice none 0 0] 45)) (fun _ => False) (W.heap.size + 1) W1.heap.size [] [] := by
  have hz := hw.size
  have hz' := hq.size
  have ha : Quiet W1 (W1.alloc (.cells #[.slice none 0 0] 45)) := (Only.refl _ _).alloc _
  refine ⟨(hw.trans hq).trans ha, ⟨fun k => W.heap.size ≤ k ∧ k < W1.heap.size, fun k => k = W1.heap.size, ((tree_new hq h0 h1).mono (D' := fun k => W.heap.size ≤ k ∧ k < W1.heap.size) (fun k x y => ⟨x, y⟩)).kept ha (fun _ _ x => x), ⟨_, [], ⟨alloc_new _ _, World.ownsRow_nil _ _ _ _, (fun x hx => by cases hx), rfl, (fun k e => by cases e)⟩, rfl, Rising.nil⟩, fun k x => ⟨by omega, by rw [World.size_alloc]; omega, fun y => y, by omega⟩, fun k x => ⟨by omega, by rw [World.size_alloc]; omega, fun y => y⟩⟩, fun k x => x.elim⟩

set_option maxHeartbeats 8000000 in
set_option maxRecDepth 100000 in
theorem treePrunes_any (A : Option Addr) (n cap : Nat) (A1 : Option Addr) (n1 cap1 : Nat) (ps0 : List (Int × Int)) (w : World) (h : EntsIn w w.heap.size A n) (hn : n ≤ cap) (hcap : cap ≤ maxLen) (hn1 : n1 ≤ cap1) (hcap1 : cap1 ≤ maxLen) (hpl0 : ps0.length = n1) (hwp0 : ∀ p ∈ ps0, Wf p) (hr0 : Rd w (· < w.heap.size) 2 A1 n1 (tidsV ps0)) :
    Calls Try.prog 6 #[.slice A n cap, .slice A1 n1 cap1] w fun e w' => e = .returned (.bool true) ∧ Below w.heap.size w w' := by
  unfold maxLen at hcap hcap1
  have HI := Lib.hid h
  obtain ⟨m, hm⟩ : ∃ m, min n1 30 = m := ⟨_, rfl⟩
  have hm1 : m ≤ n1 := by omega
  have hm2 : m ≤ 30 := by omega
  have em : min (n1 : Int) 30 = (m : Int) := by omega
  have dm0 : (0 : Int) ≤ (m : Int) := by omega
  have dm1 : (m : Int) ≤ (cap1 : Int) := by omega
  obtain ⟨ps, hps⟩ : ∃ ps, ps0.take m = ps := ⟨_, rfl⟩
  have HPL : Hid (ps.length = m) := by show ps.length = m; rw [← hps, List.length_take]; omega
  have HWP : Hid (∀ p ∈ ps, Wf p) := fun p hp => hwp0 p (by rw [← hps] at hp; exact List.mem_of_mem_take hp)
  have HRG : Hid (Rd w (· < w.heap.size) 2 A1 m (tidsV ps)) := by
    have := hr0.takeK (k := m) hm1
    rw [← tidsV_take, hps] at this
    exact this
  clear h hps hwp0 hr0 hpl0 hm
  go_enter Try.func6, Try.ntmps6
  go_wp2_with fail
  refine (awake8 _).mono ?_
  rintro e w1 ⟨rfl, hq1⟩
  have HQ1 := Lib.hid hq1
  clear hq1
  go_wp2_with fail
  refine (new_any w1).mono ?_
  rintro e w2 ⟨rfl, hq2, h20, h21⟩
  have HS2 := Lib.hid (PairW.start HQ1.out hq2 h20 h21)
  clear hq2 h20 h21 em dm0 dm1 HQ1
  go_wp2_with fail
  generalize w2.alloc (.cells #[.slice none 0 0] 45) = w3 at HS2 ⊢
  generalize w1.heap.size + 1 = tb at HS2 ⊢
  generalize w2.heap.size = xb at HS2 ⊢
  go_loopw [27, 7, 8] (fun c _ _ wr => ∃ (i : Nat) (es : List Ent), i ≤ n ∧ c = .int .i64 (i : Int) ∧ es.length ≤ i ∧ es.length ≤ 100 ∧ (∀ e ∈ es, Wf (e.pg, e.sl)) ∧ PairW w wr (fun _ => False) tb xb es es) (fun c _ _ _ => n - (intOf c).toNat)
  case atStart => exact ⟨0, [], Nat.zero_le _, rfl, Nat.le_refl _, Nat.zero_le _, (fun e he => by cases he), HS2.out⟩
  case round =>
    obtain ⟨i, es, hi, rfl, hel, hel1, hwe, hS⟩ := hrel
    clear HS2
    have HS := Lib.hid hS
    have HWE := Lib.hid hwe
    by_cases hlt : i < n
    · obtain ⟨b, off, key, pg, sl, A', cap', rfl, hb', hkc, hkm, hkb, hkr, hwf, c0, c1, c2⟩ := HI.out.kept (onward (Below.refl _ _) (Nat.le_refl _) hS.quiet (fun _ x => x.elim)) i hlt
      clear hS hwe
      by_cases h100 : i < 100
      · have hqa : Quiet wr (wr.alloc (.cells #[.slice A' key.length cap', .int .i64 pg, .int .i64 sl] 31)) := (Only.refl (fun _ => False) wr).alloc _
        obtain ⟨x0, x1, x2⟩ := rent_cells (alloc_new wr (.cells #[.slice A' key.length cap', .int .i64 pg, .int .i64 sl] 31))
        have HQA := Lib.hid hqa
        have HCU : Hid (∀ W, Only (fun k => w.heap.size ≤ k) wr W → Calls Try.prog 10 #[.slice A' key.length cap', .int .i64 100] W (FreshPost W (key.take 100))) := fun W hW => cut_any A' key.length cap' 100 key (· < w.heap.size) _ (hkr.kept hW (fun k x y => by omega)) rfl hkc hkm (by omega)
        have HKY : Hid (∀ x ∈ key, x < 256) := hkb
        have HWF : Hid (Wf (pg, sl)) := hwf
        have HSA : Hid (PairW w (wr.alloc (.cells #[.slice A' key.length cap', .int .i64 pg, .int .i64 sl] 31)) (fun k => k = wr.heap.size) tb xb es es) := HS.out.fresh hqa (fun k e => ⟨Or.inr (by omega), by rw [World.size_alloc]; omega⟩)
        obtain ⟨k5, hk5⟩ : ∃ k5, key.take 100 = k5 := ⟨_, rfl⟩
        have hk5l : k5.length ≤ 100 := by rw [← hk5, List.length_take]; omega
        have HK5B : Hid (∀ x ∈ k5, x < 256) := fun x hx => HKY.out x (by rw [← hk5] at hx; exact List.mem_of_mem_take hx)
        rw [hk5] at HCU
        have HSZ : Hid (w.heap.size ≤ wr.heap.size) := HS.out.quiet.size
        clear hkb hkr hkc hkm hqa hwf hk5
        go_wp2_with fail
        go_region_held3 (fun w' => w'.cell? ⟨wr.heap.size, 0, none⟩ = some (.slice A' key.length cap') ∧ w'.cell? ⟨wr.heap.size, 1, none⟩ = some (.int .i64 pg) ∧ w'.cell? ⟨wr.heap.size, 2, none⟩ = some (.int .i64 sl))
          (first | go_keep | exact ⟨z0, z1, z2⟩ | exact ⟨y0, y1, y2⟩ | fail)
          (first
            | (go_at_call 10; go_must (refine (HCU.out _ (HQA.out.drew.mono (fun _ _ x => x.elim))).mono ?_; rintro e w5 ⟨v5, rfl, hf5⟩; obtain ⟨A5, c5, hv5, _, _, hr5⟩ := own_form hf5.own; subst hv5; have y0 := hf5.quiet.cell x0 (fun x => x); have y1 := hf5.quiet.cell x1 (fun x => x); have y2 := hf5.quiet.cell x2 (fun x => x); have HP5 := Lib.hid ((HSA.out.quietly ((Only.refl (fun _ => False) _).drew)).quietly hf5.quiet); have HPUT := Lib.hid (HP5.out.insA ⟨k5, pg, sl⟩ (A := A5) (c := c5) _ hr5 HK5B.out (by show k5.length ≤ 600; omega) (by omega)); clear hf5 hr5))
            | (go_at_call 12; go_must (refine HPUT.out.mono ?_; rintro e w6 ⟨he6, hp6, ht6⟩; obtain ⟨zz, he6⟩ : ∃ zz, e = .returned (.int .i64 zz) := ⟨_, he6⟩; subst he6; have HP6 := Lib.hid hp6; have z0 := ht6.cell y0 (fun x => x.1 rfl); have z1 := ht6.cell y1 (fun x => x.1 rfl); have z2 := ht6.cell y2 (fun x => x.1 rfl); clear hp6 ht6))
            | fail)
        have HO6 : Hid (Only (fun k => w.heap.size ≤ k) wr w6) := ⟨HP6.out.quiet.os.trans HS.out.quiet.os.symm, HP6.out.quiet.tape.trans HS.out.quiet.tape.symm, HP6.out.quiet.output.trans HS.out.quiet.output.symm, by have := cell_lt z0; simp only at this; omega, fun k hk hnk => (HP6.out.quiet.block k (by omega) (fun x => x)).trans (HS.out.quiet.block k (by omega) (fun x => x)).symm⟩
        clear HPUT HP5 y0 y1 y2 x0 x1 x2 c0 c1 c2 HSA HQA
        go_wp2_with fail
        go_region_held3 (fun w' => w'.cell? ⟨wr.heap.size, 0, none⟩ = some (.slice A' key.length cap') ∧ w'.cell? ⟨wr.heap.size, 1, none⟩ = some (.int .i64 pg) ∧ w'.cell? ⟨wr.heap.size, 2, none⟩ = some (.int .i64 sl))
          (first | go_keep | exact ⟨v0, v1, v2⟩ | exact ⟨y0, y1, y2⟩ | fail)
          (first
            | (go_at_call 10; go_must (refine (HCU.out _ HO6.out.drew).mono ?_; rintro e w7 ⟨v7, rfl, hf7⟩; obtain ⟨A7, c7, hv7, _, _, hr7⟩ := own_form hf7.own; subst hv7; have y0 := hf7.quiet.cell z0 (fun x => x); have y1 := hf7.quiet.cell z1 (fun x => x); have y2 := hf7.quiet.cell z2 (fun x => x); have HP7 := Lib.hid ((HP6.out.quietly ((Only.refl (fun _ => False) _).drew)).quietly hf7.quiet); have HPUT := Lib.hid (HP7.out.insB ⟨k5, pg, sl⟩ (A := A7) (c := c7) _ hr7 HK5B.out (by show k5.length ≤ 600; omega) (by omega)); clear hf7 hr7))
            | (go_at_call 18; go_must (refine HPUT.out.mono ?_; rintro e w8 ⟨he8, hp8, ht8⟩; obtain ⟨zy, he8⟩ : ∃ zy, e = .returned (.int .i64 zy) := ⟨_, he8⟩; subst he8; have HP8 := Lib.hid hp8; have v0 := ht8.cell y0 (fun x => x.1 rfl); have v1 := ht8.cell y1 (fun x => x.1 rfl); have v2 := ht8.cell y2 (fun x => x.1 rfl); clear hp8 ht8))
            | fail)
        have hpl := putE_length ⟨k5, pg, sl⟩ es
        have HWE2 : Hid (∀ e ∈ putE ⟨k5, pg, sl⟩ es, Wf (e.pg, e.sl)) := fun e he => by
          rcases mem_putE.1 he with rfl | y
          · exact HWF.out
          · exact HWE.out e y
        have HS8 : Hid (PairW w w8 (fun _ => False) tb xb (putE ⟨k5, pg, sl⟩ es) (putE ⟨k5, pg, sl⟩ es)) := HP8.out.fresh (Only.refl _ _) (fun k x => x.elim)
        clear HPUT HP7 y0 y1 y2 z0 z1 z2 v0 v1 v2 HCU HO6 HP6 HP8 HS
        go_wp2
        go_roundw
        case rel => exact ⟨i + 1, _, by omega, by go_num, by omega, by omega, HWE2.out, HS8.out⟩
        case measure => simp [intOf]; omega
      · clear hkb hkr hkc hkm hwf
        have HX := Lib.hid (HS.out.quietly ((Only.refl (fun _ => False) wr).alloc (.cells #[.slice A' key.length cap', .int .i64 pg, .int .i64 sl] 31)))
        go_wp2
        go_roundw
        case rel => exact ⟨i + 1, es, by omega, by go_num, by omega, hel1, HWE.out, HX.out⟩
        case measure => simp [intOf]; omega
    · clear hS hwe
      have HLEN := Lib.hid HS.out.lenA
      have HPA := Lib.hid (HS.out.pruA ps (c := cap1) _ (HRG.out.kept HS.out.quiet (fun _ _ x => x)) HPL.out HWP.out HWE.out (by omega) (by omega))
      obtain ⟨le, hle⟩ : ∃ le, es.length = le := ⟨_, rfl⟩
      obtain ⟨fs, hfs⟩ : ∃ fs, prunE ps es = fs := ⟨_, rfl⟩
      obtain ⟨lf, hlf⟩ : ∃ lf, fs.length = lf := ⟨_, rfl⟩
      have hlf1 : lf ≤ le := by rw [← hlf, ← hfs, ← hle]; exact prunE_len ps es
      have HFS := Lib.hid hfs
      have HLF := Lib.hid hlf
      rw [hle] at HLEN
      rw [hfs, hle, hlf] at HPA
      rw [hle] at hel hel1
      have HLE := Lib.hid hle
      clear hfs hlf hle
      go_wp2_with fail
      refine HLEN.out.mono ?_
      rintro r w4 ⟨rfl, rfl⟩
      clear HLEN
      go_wp2_with fail
      refine HPA.out.mono ?_
      rintro r w5 ⟨rfl, hp5, _⟩
      have HP5 := Lib.hid hp5
      have HPB := Lib.hid (hp5.pruB ps (c := cap1) _ (HRG.out.kept hp5.quiet (fun _ _ x => x)) HPL.out (by omega) (by rw [HLE.out]; omega))
      rw [HFS.out, HLE.out, HLF.out] at HPB
      clear hp5 HPA HS
      go_wp2_with fail
      refine HPB.out.mono ?_
      rintro r w6 ⟨rfl, hp6, _⟩
      have HP6 := Lib.hid hp6
      have HLEN := Lib.hid hp6.lenA
      rw [HLF.out] at HLEN
      clear hp6 HPB HP5
      go_wp2_with fail
      refine HLEN.out.mono ?_
      rintro r w7 ⟨rfl, rfl⟩
      clear HLEN
      have HSC := Lib.hid (HP6.out.scanA [] [] none none 0 0 (fun _ => False) (fun _ => False) (Rd.nil _ _ _ _) (Rd.nil _ _ _ _) (by simp) (by simp) (fun _ x => x.elim) (fun _ x => x.elim) (by rw [HLF.out]; omega))
      rw [scan_all8] at HSC
      have e3 : (lf : Int) = (le : Int) - ((le : Int) - (lf : Int)) := by omega
      have HE3 := Lib.hid e3
      have e4 : ((lf : Int) != (le : Int) - ((le : Int) - (lf : Int))) = false := by rw [← e3]; simp
      clear e3
      go_wp2_with fail
      refine HSC.out.mono ?_
      rintro r w8 ⟨v8, zs, rfl, hz8, hg8⟩
      obtain ⟨A8, c8, hv8, _, _, hr8⟩ := own_form hg8.row
      have hzl : zs.length = lf := by have := congrArg List.length hz8; simp at this; rw [this, HLF.out]
      have HP8 := Lib.hid (HP6.out.quietly hg8.quiet)
      have HZ8 := Lib.hid hz8
      have HR8 := Lib.hid hr8
      have HZL := Lib.hid hzl
      rw [hzl] at hv8
      subst hv8
      clear hz8 hg8 hr8 hzl HSC HP6 e4
      go_wp2_with fail
      go_loopw [72, 12, 14] (fun c' _ _ wr' => ∃ j : Nat, j ≤ lf ∧ c' = .int .i64 (j : Int) ∧ Quiet w8 wr') (fun c' _ _ _ => lf - (intOf c').toNat)
      case atStart => exact ⟨0, Nat.zero_le _, rfl, Only.refl _ _⟩
      case round =>
        obtain ⟨j, hj, rfl, hqj⟩ := hrel
        have HQJ := Lib.hid hqj
        clear hqj
        by_cases hjm : j < lf
        · obtain ⟨x, hx⟩ : ∃ x, zs[j]? = some x := ⟨_, List.getElem?_eq_getElem (by have := HZL.out; omega)⟩
          have HXM : Hid (x.e ∈ prunE ps es) := by
            show x.e ∈ prunE ps es
            rw [HFS.out, ← HZ8.out]
            exact List.mem_map.2 ⟨x, List.mem_of_getElem? hx, rfl⟩
          obtain ⟨gg, off, hAg, r0, r1, r2⟩ := row_cells (HR8.out.kept HQJ.out (fun _ _ x => x)) hx
          subst hAg
          have HQA := Lib.hid (HQJ.out.alloc (.cells #[.slice x.A x.e.key.length x.c, .int .i64 x.e.pg, .int .i64 x.e.sl] 34))
          have HBX := Lib.hid (alloc_new wr (.cells #[.slice x.A x.e.key.length x.c, .int .i64 x.e.pg, .int .i64 x.e.sl] 34))
          have d0 : (0 : Int) ≤ (j : Int) := by omega
          have d1 : (j : Int) < (lf : Int) := by omega
          clear hx
          go_wp2_with fail
          clear r0 r1 r2
          generalize wr.alloc (.cells #[.slice x.A x.e.key.length x.c, .int .i64 x.e.pg, .int .i64 x.e.sl] 34) = wa at HQA HBX ⊢
          generalize wr.heap.size = eb at HBX ⊢
          go_loopw [78, 14] (fun c' _ wr' => ∃ q : Nat, q ≤ m ∧ c' = .int .i64 (q : Int) ∧ Quiet wa wr') (fun c' _ _ => m - (intOf c').toNat)
          case atStart => exact ⟨0, Nat.zero_le _, rfl, Only.refl _ _⟩
          case round =>
            obtain ⟨q, hq, rfl, hqq⟩ := hrel
            have HQQ := Lib.hid hqq
            clear hqq
            by_cases hqm : q < m
            · obtain ⟨p, hp⟩ : ∃ p, ps[q]? = some p := ⟨_, List.getElem?_eq_getElem (by have := HPL.out; omega)⟩
              obtain ⟨bp, offp, rfl, _, c0, c1⟩ := tid_cells ((((HRG.out.kept HP8.out.quiet (fun _ _ x => x))).kept HQA.out (fun _ _ x => x)).kept HQQ.out (fun _ _ x => x)) hp
              have hne := prunE_none HXM.out (List.mem_of_getElem? hp)
              have HQN := Lib.hid (HQQ.out.alloc (.cells #[.int .i64 p.1, .int .i64 p.2] 29))
              obtain ⟨f0, f1, f2⟩ := ent_cells (HQN.out.get HBX.out (fun x => x))
              have a0 : (wr.alloc (.cells #[.int .i64 p.1, .int .i64 p.2] 29)).cell? ⟨wr.heap.size, 0, none⟩ = some (.int .i64 p.1) := by rw [cell_of (alloc_new wr _)]; rfl
              have a1 : (wr.alloc (.cells #[.int .i64 p.1, .int .i64 p.2] 29)).cell? ⟨wr.heap.size, 1, none⟩ = some (.int .i64 p.2) := by rw [cell_of (alloc_new wr _)]; rfl
              have d2 : (0 : Int) ≤ (q : Int) := by omega
              have d3 : (q : Int) < (m : Int) := by omega
              clear hp
              by_cases g1 : x.e.pg = p.1
              · have p1 : (x.e.pg == p.1) = true := beq_iff_eq.2 g1
                have p2 : (x.e.sl == p.2) = false := beq_eq_false_iff_ne.2 (fun z => hne ⟨g1, z⟩)
                clear hne g1
                go_wp2
                go_roundw
                case rel => exact ⟨q + 1, by omega, by go_num, HQN.out⟩
                case measure => simp [intOf]; omega
              · have p1 : (x.e.pg == p.1) = false := beq_eq_false_iff_ne.2 g1
                clear hne g1
                go_wp2
                go_roundw
                case rel => exact ⟨q + 1, by omega, by go_num, HQN.out⟩
                case measure => simp [intOf]; omega
            · have HQN := Lib.hid (HQA.out.trans HQQ.out)
              go_wp2
              go_roundw
              case rel => exact ⟨j + 1, by omega, by go_num, HQN.out⟩
              case measure => simp [intOf]; omega
        · have HP9 := Lib.hid (HP8.out.quietly HQJ.out)
          have hlf2 : fs.length ≤ 100 := by rw [HLF.out]; omega
          have HLF2 := Lib.hid hlf2
          have HSA := Lib.hid (HP9.out.scanA [] [] none none 0 0 (fun _ => False) (fun _ => False) (Rd.nil _ _ _ _) (Rd.nil _ _ _ _) (by simp) (by simp) (fun _ x => x.elim) (fun _ x => x.elim) (by have := HLF2.out; omega))
          rw [scan_all8] at HSA
          clear hlf2
          go_wp2_with fail
          refine HSA.out.mono ?_
          rintro r w10 ⟨v10, zs10, rfl, hz10, hg10⟩
          have HG10 := Lib.hid hg10
          have HZ10 := Lib.hid hz10
          obtain ⟨A10, n10, c10, hv10⟩ := own_slice hg10.row
          subst hv10
          have HP10 := Lib.hid (HP9.out.quietly hg10.quiet)
          have HSB := Lib.hid (HP10.out.scanB [] [] none none 0 0 (fun _ => False) (fun _ => False) (Rd.nil _ _ _ _) (Rd.nil _ _ _ _) (by simp) (by simp) (by have := HLF2.out; omega))
          rw [scan_all8] at HSB
          clear hg10 hz10 HSA HP9
          go_wp2_with fail
          refine HSB.out.mono ?_
          rintro r w11 ⟨v11, ys11, rfl, hz11, hs11, hk11⟩
          obtain ⟨A11, n11, c11, hv11⟩ := own_slice hs11.row
          subst hv11
          have HP11 := Lib.hid (HP10.out.quietly hs11.quiet)
          have HSM := Lib.hid (same_got HG10.out HZ10.out hs11 hz11 hk11 (by have := HLF2.out; omega))
          clear hz11 hs11 hk11 HSB HP10
          go_wp2_with fail
          refine HSM.out.mono ?_
          rintro r w12 ⟨rfl, hq12⟩
          have HP12 := Lib.hid (HP11.out.quietly hq12)
          have HPA := Lib.hid (HP12.out.pruA ps (c := cap1) _ (HRG.out.kept HP12.out.quiet (fun _ _ x => x)) HPL.out HWP.out (fun e he => HWE.out e (by rw [← HFS.out] at he; exact (List.mem_filter.1 he).1)) (by omega) (by have := HLF2.out; omega))
          rw [← HFS.out, prunE_twice, HFS.out, HLF.out] at HPA
          have e5 : (lf : Int) - (lf : Int) = 0 := by omega
          rw [e5] at HPA
          clear hq12 HSM HP11 e5
          go_wp2_with fail
          refine HPA.out.mono ?_
          rintro r w13 ⟨rfl, hp13, _⟩
          have HRES : Hid (Below w.heap.size w w13) := onward (Below.refl _ _) (Nat.le_refl _) hp13.quiet (fun _ x => x.elim)
          clear hp13 HPA HP12
          go_wp2
          go_ret
          exact ⟨rfl, HRES.out⟩

open Go.ChangeShapes Go.WideShapes in
set_option maxRecDepth 100000 in
theorem treePrunes_walk {H : Type} {enc : TypeId × Value → H} {r : Reach} {base : Nat} {d0 d1 : DataW H} {p0 p1 : List MemPlace} (v0 v1 : Value) (W : World)
    (o0 : Value.okWide Try.prog W r base 22 v0) (h0 : DataW.Trod enc Try.prog W 0 (fun _ => true) true 22 v0 d0 p0) (o1 : Value.okWide Try.prog W r base 42 v1) (h1 : DataW.Trod enc Try.prog W 0 (fun _ => true) true 42 v1 d1 p1) :
    Calls Try.prog 6 #[v0, v1] W fun e w' => e = .returned (.bool true) ∧ Below W.heap.size W w' := by
  obtain ⟨A, n, cap, rfl, a1, a2, a3⟩ := open_ents o0 h0
  obtain ⟨A1, n1, cap1, ps, rfl, b1, b2, b3, b4, b5⟩ := open_tids o1 h1
  exact treePrunes_any A n cap A1 n1 cap1 ps W a3 a1 a2 b1 b2 b3 b4 b5

end Go.Proofs.Ytbeenpobppkhdaa
