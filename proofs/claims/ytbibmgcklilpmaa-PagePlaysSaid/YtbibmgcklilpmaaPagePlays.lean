/- PagePlays: every script has the document's answers. No condition. -/
import Derived.Test.YtbibmgcklilpmaaPageDo7
import Derived.Test.YtbibmgcklilpmaaPageBuild
namespace Go.Proofs.Ytbibmgcklilpmaa
open Go.RowKit Go.Lap

/-- What both tell, in whatever world behind W. -/
structure Twin (W : World) (P X : Option Nat) (S : Nat → Prop) (L : List Slot) (lb : List Nat) (r u : Int) : Prop where
  by1 : ∀ W', Quiet W W' → Calls Try.prog 64 #[.pointer (pt P)] W' (FreshPost W' lb)
  by2 : ∀ W', Quiet W W' → Calls Try.prog 72 #[.pointer (pt X)] W' (FreshPost W' lb)
  lt : ∀ x ∈ lb, x < 256
  ro1 : ∀ W', Quiet W W' → Calls Try.prog 66 #[.pointer (pt P)] W' fun e w' => e = .returned (.int .i64 r) ∧ Quiet W' w'
  ro2 : ∀ W', Quiet W W' → Calls Try.prog 67 #[.pointer (pt X)] W' fun e w' => e = .returned (.int .i64 r) ∧ Quiet W' w'
  us1 : ∀ W', Quiet W W' → Calls Try.prog 32 #[.pointer (pt P)] W' fun e w' => e = .returned (.int .i64 u) ∧ Quiet W' w'
  us2 : ∀ W', Quiet W W' → Calls Try.prog 65 #[.pointer (pt X)] W' fun e w' => e = .returned (.int .i64 u) ∧ Quiet W' w'
  sl : ∀ W', Quiet W W' → Calls Try.prog 69 #[.pointer (pt P)] W' fun e w' => e = .returned (.int .i64 (L.length : Int)) ∧ W' = w'
  gn1 : ∀ (i : Int) W', Quiet W W' → slotAt L i = none → Calls Try.prog 37 #[.pointer (pt P), .int .i64 i] W' (GetNone W')
  gn2 : ∀ (i : Int) W', Quiet W W' → slotAt L i = none → Calls Try.prog 73 #[.pointer (pt X), .int .i64 i] W' (GetNone W')
  gs1 : ∀ (i : Int) f t W', Quiet W W' → slotAt L i = some (f, t) → Calls Try.prog 37 #[.pointer (pt P), .int .i64 i] W' (GetSome W' t)
  gs2 : ∀ (i : Int) f t W', Quiet W W' → slotAt L i = some (f, t) → Calls Try.prog 73 #[.pointer (pt X), .int .i64 i] W' (RefGot W' S t)
  ok : ∀ (i : Int) f t, slotAt L i = some (f, t) → t.Ok
  len : L.length ≤ 127

theorem fresh_nil (w : World) : FreshPost w [] (.returned (.slice none 0 0)) w := ⟨_, rfl, Only.refl _ _, fun k e => (by cases e), World.ownsRow_nil _ _ _ _⟩

theorem slotAt_nil (i : Int) : slotAt [] i = none := by
  unfold slotAt
  split
  · rfl
  · simp

theorem twin {W : World} {P X : Option Nat} {S : Nat → Prop} {L : List Slot} {st : Nat} (h : BothAt W P X S L st L st) : ∃ lb r u, Twin W P X S L lb r u := by
  rcases h.sides with ⟨rfl, rfl, rfl, _⟩ | ⟨pb, xb, rfl, rfl, hpa, hrp⟩
  · refine ⟨[], -1, 0, ⟨fun W' _ => (page_bytes_nil W').mono ?_, fun W' _ => (rbytes_nil W').mono ?_, fun x hx => (by cases hx), fun W' _ => (page_room_nil W').mono ?_, fun W' _ => rp_room_nil W', fun W' _ => (page_used_nil W').mono ?_, fun W' _ => rp_used_nil W', fun W' _ => page_slots_nil W',
      fun i W' _ _ => page_get_nil i W', fun i W' _ _ => rp_get_nil i W', fun i f t W' _ hs => (by rw [slotAt_nil] at hs; cases hs), fun i f t W' _ hs => (by rw [slotAt_nil] at hs; cases hs), fun i f t hs => (by rw [slotAt_nil] at hs; cases hs), Nat.zero_le _⟩⟩
    · rintro e w' ⟨rfl, rfl⟩
      exact fresh_nil _
    · rintro e w' ⟨rfl, rfl⟩
      exact fresh_nil _
    · rintro e w' ⟨rfl, n, rfl⟩
      exact ⟨rfl, (Only.refl _ _).drewN n⟩
    · rintro e w' ⟨rfl, rfl⟩
      exact ⟨rfl, Only.refl _ _⟩
  · obtain ⟨g, hbk, hpg⟩ := hpa
    have hpa : PageAt W pb L st := ⟨g, hbk, hpg⟩
    refine ⟨pgL g, roomOf L, usedOf L, ⟨fun W' hq => page_bytes pb g W' (hbk.kept hq (fun x => x)), fun W' hq => rbytes_any (hrp.kept hq (fun _ _ x => x)) hpg, fun x hx => ?_, fun W' hq => (page_room pb st L W' (hpa.kept hq (fun x => x))).mono ?_, fun W' hq => rp_room (hrp.kept hq (fun _ _ x => x)),
      fun W' hq => (page_used pb st L W' (hpa.kept hq (fun x => x))).mono ?_, fun W' hq => rp_used (hrp.kept hq (fun _ _ x => x)), fun W' hq => page_slots pb st L W' (hpa.kept hq (fun x => x)),
      fun i W' hq hs => page_get_none pb st L i W' (hpa.kept hq (fun x => x)) hs, fun i W' hq hs => rp_get_none i (hrp.kept hq (fun _ _ x => x)) hs, fun i f t W' hq hs => page_get_some pb st f t L i W' (hpa.kept hq (fun x => x)) hs, fun i f t W' hq hs => rp_get_some i f t (hrp.kept hq (fun _ _ x => x)) hs, fun i f t hs => ?_, hpa.len⟩⟩
    · obtain ⟨j, _, rfl⟩ := List.mem_map.1 hx
      exact hpg.lt j
    · rintro e w' ⟨rfl, n, rfl⟩
      exact ⟨rfl, (Only.refl _ _).drewN n⟩
    · rintro e w' ⟨rfl, n, rfl⟩
      exact ⟨rfl, (Only.refl _ _).drewN n⟩
    · obtain ⟨k, _, _, hk⟩ := slotAt_some hs
      exact (hpg.ver k f t hk).2.2.1

/-- In PagePlays: the pages behind some calls. -/
structure PlW (w wr : World) (P X : Option Nat) : Prop where
  quiet : Quiet w wr
  ex : ∃ S L st, BothAt wr P X S L st L st ∧ LastSome L ∧ ∀ k, S k → w.heap.size ≤ k
  new : ∀ k, P = some k → w.heap.size ≤ k

theorem PlW.quietly {w wr wr' : World} {P X : Option Nat} (h : PlW w wr P X) (hq : Quiet wr wr') : PlW w wr' P X := by
  obtain ⟨S, L, st, h1, h2, h3⟩ := h.ex
  exact ⟨h.quiet.trans hq, ⟨S, L, st, h1.quietly hq, h2, h3⟩, h.new⟩

theorem same_zero (W : World) : Calls Try.prog 38 #[.agg #[.int .u64 0, .int .u64 0, .int .u64 0, .int .i64 0, .int .i64 0, .slice none 0 0], .agg #[.int .u64 0, .int .u64 0, .int .u64 0, .int .i64 0, .int .i64 0, .slice none 0 0]] W fun e w' => e = .returned (.bool true) ∧ Quiet W w' := by
  have := rsame_any ⟨0, 0, 0, 0, 0, []⟩ ⟨0, 0, 0, 0, 0, []⟩ none none 0 0 (fun _ => True) (fun _ => True) W (Rd.nil _ _ _ _) (Rd.nil _ _ _ _) (fun x hx => by cases hx) (fun x hx => by cases hx)
  rw [sameT_id] at this
  exact this

set_option maxHeartbeats 8000000 in
set_option maxRecDepth 100000 in
theorem pagePlays_any (nl : Bool) (A : Option Addr) (n cap : Nat) (w : World) (h : OpsIn5 w w.heap.size A n) (hn : n ≤ cap) (hcap : cap ≤ maxLen) :
    Calls Try.prog 17 #[.bool nl, .slice A n cap] w fun e w' => e = .returned (.bool true) ∧ Below w.heap.size w w' := by
  unfold maxLen at hcap
  have HI := Lib.hid h
  clear h
  go_enter Try.func17, Try.ntmps17
  go_wp2_with fail
  refine (awake5 _).mono ?_
  rintro e w0 ⟨rfl, hq0⟩
  have HQ0 := Lib.hid hq0
  clear hq0
  go_wp2_with fail
  refine (page_new w0).mono ?_
  rintro e w1 ⟨rfl, hq1, hs1, hp1⟩
  have HQ1 := Lib.hid (HQ0.out.trans hq1)
  have HP1 := Lib.hid hp1
  have HPL := Lib.hid hp1.lt
  have HZ0 := Lib.hid HQ0.out.size
  clear hq1 hs1 hp1
  generalize w0.heap.size = pb at HP1 HPL HZ0 ⊢
  go_wp2_with fail
  refine (rp_new w1).mono ?_
  rintro e w2 ⟨rfl, hq2, hr2⟩
  have HQ2 := Lib.hid (HQ1.out.trans hq2)
  have HP2 := Lib.hid (HP1.out.kept hq2 (fun x => x))
  have HR2 := Lib.hid hr2
  clear hq2 hr2
  have HZ1 := Lib.hid HQ1.out.size
  generalize w1.heap.size = xb at HR2 HZ1 HPL ⊢
  go_upto_if 21 with (fail)
  go_cut [5, 6] (fun s5 s6 wx => ∃ P X, s5 = .pointer (pt P) ∧ s6 = .pointer (pt X) ∧ PlW w wx P X)
  case first =>
    rcases nl with _ | _
    · go_wp2_with fail
      go_meet
      exact ⟨some pb, some xb, rfl, rfl, HQ2.out, ⟨fun k => xb ≤ k ∧ k < w2.heap.size, [], 512, ⟨fun k x => x.2, Or.inr ⟨pb, xb, rfl, rfl, HP2.out, HR2.out.limS, fun x => by have := HPL.out; omega⟩⟩, last_nil, fun k x => by have := HZ1.out; omega⟩, fun k e => by injection e with e; have := HZ0.out; omega⟩
    · go_wp2_with fail
      go_meet
      exact ⟨none, none, rfl, rfl, HQ2.out, ⟨fun _ => False, [], 512, ⟨fun k x => x.elim, Or.inl ⟨rfl, rfl, rfl, rfl⟩⟩, last_nil, fun k x => x.elim⟩, fun k e => by cases e⟩
  case rest =>
    obtain ⟨P0, X, rfl, rfl, hpl⟩ := hcut
    have HPL0 := Lib.hid hpl
    clear hpl HQ0 HQ1 HQ2 HP1 HP2 HR2 HZ0 HZ1 HPL
    go_wp2_with fail
    go_loopw [24, 5, 7, 8, 9, 10, 11, 12, 13, 14, 15, 16] (fun c c5 _ _ _ _ _ _ _ _ _ _ wr => ∃ (i : Nat) (P : Option Nat), i ≤ n ∧ c = .int .i64 (i : Int) ∧ c5 = .pointer (pt P) ∧ PlW w wr P X) (fun c _ _ _ _ _ _ _ _ _ _ _ _ => n - (intOf c).toNat)
    case atStart => exact ⟨0, P0, Nat.zero_le _, rfl, rfl, HPL0.out⟩
    case round =>
      obtain ⟨i, P, hi, rfl, rfl, hW⟩ := hrel
      have HW := Lib.hid hW
      clear hW HPL0
      by_cases hlt : i < n
      · obtain ⟨b, off, dn, z, t, A', cap', rfl, hop⟩ := HI.out.kept (onward (Below.refl _ _) (Nat.le_refl _) HW.out.quiet (fun _ x => x.elim)) i hlt
        obtain ⟨c0, c1, c2, c3, c4, c5, c6, c7⟩ := op5_cells hop.cells
        have HOP := Lib.hid hop
        have e0 : (0 : Int) ≤ (i : Int) := by omega
        have e1 : (i : Int) < (n : Int) := by omega
        have hbr : b < wr.heap.size := by have h1 := hop.lt; have h2 := HW.out.quiet.size; omega
        clear hop
        have hq1 : Quiet wr (wr.alloc (.cells #[.int .u8 (dn : Int), .int .i64 z, .int .u64 (t.row : Int), .int .u64 (t.xmin : Int), .int .u64 (t.xmax : Int), .int .i64 t.pg, .int .i64 t.sl, .slice A' t.data.length cap'] 119)) := (Only.refl _ _).alloc _
        have HW1 := Lib.hid (HW.out.quietly hq1)
        have HRD := Lib.hid (HOP.out.rd.kept hq1 (fun _ _ x => x))
        clear hq1
        by_cases h40 : i < 40
        · have d40 : ¬ (40 : Int) ≤ (i : Int) := by omega
          go_wp2_with fail
          generalize wr.alloc (.cells #[.int .u8 (dn : Int), .int .i64 z, .int .u64 (t.row : Int), .int .u64 (t.xmin : Int), .int .u64 (t.xmax : Int), .int .i64 t.pg, .int .i64 t.sl, .slice A' t.data.length cap'] 119) = wa at HW1 HRD ⊢
          generalize wr.heap.size = ba at hbr ⊢
          obtain ⟨S, L, st, hb, hls, hS⟩ := HW1.out.ex
          have HSS := Lib.hid hS
          refine (do_all dn z t A' cap' hb hls HOP.out.lo HRD.out (fun k x => ⟨fun y => by have := hS k y; omega, fun y => by have := HW1.out.new k y; omega⟩) HOP.out.lc HOP.out.cm HOP.out.bytes).mono ?_
          rintro e w3 ⟨P', rfl, ho3, ⟨S', L', st', hb3, hls3, hS3⟩, hP3⟩
          have HW3 : Hid (PlW w w3 P' X) := Lib.hid ⟨HW1.out.quiet.trans' ho3 (fun k hk x => by
            rcases x with x | x
            · have := HSS.out k x; omega
            · have := HW1.out.new k x; omega), ⟨S', L', st', hb3, hls3, fun k x => by
            rcases hS3 k x with y | y
            · exact HSS.out k y
            · have h1 := HW1.out.quiet.size; omega⟩, fun k e => by
            rcases hP3 k e with y | y
            · exact HW1.out.new k y
            · have h1 := HW1.out.quiet.size; omega⟩
          have HB3 := Lib.hid hb3
          obtain ⟨lb, ro, us, htw⟩ := twin hb3
          have HTW := Lib.hid htw
          clear hb hls hS ho3 hb3 hls3 hS3 hP3 htw HW1 HRD HW HOP HSS c0 c1 c2 c3 c4 c5 c6 c7
          go_wp2_with fail
          refine (HTW.out.by1 _ (Only.refl _ _)).mono ?_
          rintro e w4 ⟨v4, rfl, hf4⟩
          obtain ⟨A4, c4, hv4, _, _, r4⟩ := own_form hf4.own
          subst hv4
          have HQ4 := Lib.hid hf4.quiet
          have HR4 := Lib.hid r4
          clear hf4 r4
          go_wp2_with fail
          refine (HTW.out.by2 _ HQ4.out).mono ?_
          rintro e w5 ⟨v5, rfl, hf5⟩
          obtain ⟨A5, c5, hv5, _, _, r5⟩ := own_form hf5.own
          subst hv5
          have HQ5 := Lib.hid (HQ4.out.trans hf5.quiet)
          have HSM := Lib.hid (same_any A4 A5 c4 c5 lb lb _ _ w5 (HR4.out.kept hf5.quiet (fun _ _ x => x)) r5 HTW.out.lt HTW.out.lt)
          rw [decide_eq_true rfl] at HSM
          obtain ⟨m4, hm4⟩ : ∃ m4, lb.length = m4 := ⟨_, rfl⟩
          rw [hm4] at HSM ⊢
          clear hf5 r5 hm4 HR4
          go_wp2_with fail
          refine HSM.out.mono ?_
          rintro e w6 ⟨rfl, rfl⟩
          clear HSM
          go_wp2_with fail
          refine (HTW.out.ro1 _ HQ5.out).mono ?_
          rintro e w6 ⟨rfl, hq6⟩
          have HQ6 := Lib.hid (HQ5.out.trans hq6)
          clear hq6
          go_wp2_with fail
          refine (HTW.out.ro2 _ HQ6.out).mono ?_
          rintro e w7 ⟨rfl, hq7⟩
          have HQ7 := Lib.hid (HQ6.out.trans hq7)
          clear hq7
          go_wp2_with fail
          refine (HTW.out.us1 _ HQ7.out).mono ?_
          rintro e w8 ⟨rfl, hq8⟩
          have HQ8 := Lib.hid (HQ7.out.trans hq8)
          clear hq8
          go_wp2_with fail
          refine (HTW.out.us2 _ HQ8.out).mono ?_
          rintro e w9 ⟨rfl, hq9⟩
          have HQ9 := Lib.hid (HQ8.out.trans hq9)
          clear hq9
          have HM := Lib.hid HTW.out.len
          obtain ⟨m, hm⟩ : ∃ m, L'.length = m := ⟨_, rfl⟩
          have HMM := Lib.hid hm
          have hm127 : m ≤ 127 := by rw [← hm]; exact HM.out
          clear hm HM
          go_upto_if 64 with (fail)
          go_cut [11] (fun s11 wx => s11 = .int .i64 (m : Int) ∧ w9 = wx)
          case first =>
            rcases HB3.out.sides with ⟨rfl, rfl, rfl, _⟩ | ⟨pb, xb, rfl, rfl, hpa, hrp⟩
            · have hpt : pt none = none := rfl
              have hm0 : m = 0 := HMM.out.symm
              subst hm0
              rw [hpt]
              go_wp2_with fail
              go_meet
              exact ⟨rfl, rfl⟩
            · have hpt : pt (some xb) = some ⟨xb, 0, none⟩ := rfl
              rw [hpt]
              obtain ⟨v, rows, hp⟩ := hrp
              obtain ⟨Av, cv, hv, _, _, _⟩ := hp.form
              have c0 := HQ9.out.cell hp.cells.1 (fun x => x)
              rw [HMM.out] at hv
              subst hv
              clear hp hpa
              go_wp2_with fail
              go_meet
              exact ⟨rfl, rfl⟩
          case rest =>
            obtain ⟨rfl, rfl⟩ := hcut
            have HSL := Lib.hid (HTW.out.sl _ HQ9.out)
            rw [HMM.out] at HSL
            go_wp2_with fail
            refine HSL.out.mono ?_
            rintro e w10 ⟨rfl, rfl⟩
            clear HSL
            go_wp2_with fail
            go_loopw [12, 13, 14, 15, 16] (fun c _ _ _ _ wr' => ∃ s : Int, -1 ≤ s ∧ s ≤ m + 1 ∧ c = .int .i64 s ∧ Quiet w3 wr') (fun c _ _ _ _ _ => ((m : Int) + 1 - intOf c).toNat)
            case atStart => exact ⟨-1, by omega, by omega, rfl, HQ9.out⟩
            case round =>
              obtain ⟨s, hs1, hs2, rfl, hq⟩ := hrel
              have HQ := Lib.hid hq
              clear hq
              by_cases hsm : s ≤ m
              · rcases hsl : slotAt L' s with _ | ⟨f, tt⟩
                · have HG1 := Lib.hid (HTW.out.gn1 s _ HQ.out hsl)
                  have HG2 := Lib.hid (fun (W : World) (hq : Quiet w3 W) => HTW.out.gn2 s W hq hsl)
                  clear hsl
                  go_wp2_with fail
                  refine HG1.out.mono ?_
                  rintro e w11 ⟨rfl, hq11⟩
                  have hqa := hq11.alloc (.cells #[.int .u64 0, .int .u64 0, .int .u64 0, .int .i64 0, .int .i64 0, .slice none 0 0] 54)
                  have HQA := Lib.hid (HQ.out.trans hqa)
                  have HXA := Lib.hid (alloc_new w11 (.cells #[.int .u64 0, .int .u64 0, .int .u64 0, .int .i64 0, .int .i64 0, .slice none 0 0] 54))
                  clear hq11 hqa HG1
                  go_upto_region 23 with (fail)
                  generalize w11.alloc (.cells #[.int .u64 0, .int .u64 0, .int .u64 0, .int .i64 0, .int .i64 0, .slice none 0 0] 54) = wb at HQA HXA ⊢
                  generalize w11.heap.size = bb at HXA ⊢
                  go_wp2_with fail
                  refine (HG2.out _ HQA.out).mono ?_
                  rintro e w12 ⟨rfl, hq12⟩
                  have hqb := hq12.alloc (.cells #[.int .u64 0, .int .u64 0, .int .u64 0, .int .i64 0, .int .i64 0, .slice none 0 0] 54)
                  have HQB := Lib.hid (HQA.out.trans hqb)
                  obtain ⟨a0, a1, a2, a3, a4, a5⟩ := zero_cells (hqb.get HXA.out (fun x => x))
                  obtain ⟨b0, b1, b2, b3, b4, b5⟩ := zero_cells (alloc_new w12 (.cells #[.int .u64 0, .int .u64 0, .int .u64 0, .int .i64 0, .int .i64 0, .slice none 0 0] 54))
                  clear hq12 hqb HG2
                  go_upto_region 24 with (fail)
                  generalize w12.alloc (.cells #[.int .u64 0, .int .u64 0, .int .u64 0, .int .i64 0, .int .i64 0, .slice none 0 0] 54) = wd at HQB a0 a1 a2 a3 a4 a5 b0 b1 b2 b3 b4 b5 ⊢
                  generalize w12.heap.size = bd at b0 b1 b2 b3 b4 b5 ⊢
                  go_wp2_with fail
                  refine (same_zero _).mono ?_
                  rintro e w13 ⟨rfl, hq13⟩
                  have HQC := Lib.hid (HQB.out.trans hq13)
                  clear hq13
                  go_wp2
                  go_roundw
                  case rel => exact ⟨s + 1, by omega, by omega, by go_num, HQC.out⟩
                  case measure => simp [intOf]; omega
                · have HG1 := Lib.hid (HTW.out.gs1 s f tt _ HQ.out hsl)
                  have HG2 := Lib.hid (fun (W : World) (hq : Quiet w3 W) => HTW.out.gs2 s f tt W hq hsl)
                  have HOK := Lib.hid (HTW.out.ok s f tt hsl)
                  clear hsl
                  go_wp2_with fail
                  refine HG1.out.mono ?_
                  rintro e w11 ⟨A1, c1, rfl, hf11⟩
                  unfold tupV
                  have hq11 := hf11.quiet
                  have hqa := hq11.alloc (.cells #[.int .u64 (tt.row : Int), .int .u64 (tt.xmin : Int), .int .u64 (tt.xmax : Int), .int .i64 tt.pg, .int .i64 tt.sl, .slice A1 tt.data.length c1] 54)
                  have HQA := Lib.hid (HQ.out.trans hqa)
                  have HXA := Lib.hid (alloc_new w11 (.cells #[.int .u64 (tt.row : Int), .int .u64 (tt.xmin : Int), .int .u64 (tt.xmax : Int), .int .i64 tt.pg, .int .i64 tt.sl, .slice A1 tt.data.length c1] 54))
                  have HRA := Lib.hid (own_rd (owns_kept hf11.own ((Only.refl (fun _ => False) w11).alloc (.cells #[.int .u64 (tt.row : Int), .int .u64 (tt.xmin : Int), .int .u64 (tt.xmax : Int), .int .i64 tt.pg, .int .i64 tt.sl, .slice A1 tt.data.length c1] 54)) (fun _ _ x => x)))
                  clear hq11 hqa HG1 hf11
                  go_upto_region 23 with (fail)
                  generalize w11.alloc (.cells #[.int .u64 (tt.row : Int), .int .u64 (tt.xmin : Int), .int .u64 (tt.xmax : Int), .int .i64 tt.pg, .int .i64 tt.sl, .slice A1 tt.data.length c1] 54) = wb at HQA HXA HRA ⊢
                  generalize w11.heap.size = bb at HXA ⊢
                  go_wp2_with fail
                  refine (HG2.out _ HQA.out).mono ?_
                  rintro e w12 ⟨A2, c2, rfl, hq12, hdat⟩
                  unfold tupV
                  have hqb := hq12.alloc (.cells #[.int .u64 (tt.row : Int), .int .u64 (tt.xmin : Int), .int .u64 (tt.xmax : Int), .int .i64 tt.pg, .int .i64 tt.sl, .slice A2 tt.data.length c2] 54)
                  have HQB := Lib.hid (HQA.out.trans hqb)
                  have HRB := Lib.hid (HRA.out.kept hqb (fun _ _ x => x))
                  have HRD2 : Hid (Rd wb (fun k => (Value.slice A2 tt.data.length c2).ownBlock = some k) 1 A2 tt.data.length (bytesV tt.data)) := Lib.hid (by
                    obtain ⟨A', c', e, h1, _⟩ := hdat
                    exact own_rd h1)
                  have HRC := Lib.hid (HRD2.out.kept hqb (fun _ _ x => x))
                  obtain ⟨a0, a1, a2, a3, a4, a5⟩ := box_cells (hqb.get HXA.out (fun x => x))
                  obtain ⟨b0, b1, b2, b3, b4, b5⟩ := box_cells (alloc_new w12 (.cells #[.int .u64 (tt.row : Int), .int .u64 (tt.xmin : Int), .int .u64 (tt.xmax : Int), .int .i64 tt.pg, .int .i64 tt.sl, .slice A2 tt.data.length c2] 54))
                  clear hq12 hqb HG2 hdat HRA HRD2
                  go_upto_region 24 with (fail)
                  generalize w12.alloc (.cells #[.int .u64 (tt.row : Int), .int .u64 (tt.xmin : Int), .int .u64 (tt.xmax : Int), .int .i64 tt.pg, .int .i64 tt.sl, .slice A2 tt.data.length c2] 54) = wd at HQB HRB HRC a0 a1 a2 a3 a4 a5 b0 b1 b2 b3 b4 b5 ⊢
                  generalize w12.heap.size = bd at b0 b1 b2 b3 b4 b5 ⊢
                  have HSA := Lib.hid (rsame_any tt tt A1 A2 c1 c2 _ _ wd HRB.out HRC.out HOK.out.bytes HOK.out.bytes)
                  rw [sameT_id] at HSA
                  unfold tupV at HSA
                  go_wp2_with fail
                  refine HSA.out.mono ?_
                  rintro e w13 ⟨rfl, hq13⟩
                  have HQC := Lib.hid (HQB.out.trans hq13)
                  clear hq13 HSA
                  go_wp2
                  go_roundw
                  case rel => exact ⟨s + 1, by omega, by omega, by go_num, HQC.out⟩
                  case measure => simp [intOf]; omega
              · go_wp2
                go_roundw
                case rel => exact ⟨i + 1, P', by omega, by go_num, rfl, HW3.out.quietly HQ.out⟩
                case measure => simp [intOf]; omega
        · have d40 : (40 : Int) ≤ (i : Int) := by omega
          go_wp2
          go_ret
          exact ⟨rfl, onward (Below.refl _ _) (Nat.le_refl _) HW1.out.quiet (fun _ x => x.elim)⟩
      · go_wp2
        go_ret
        exact ⟨rfl, onward (Below.refl _ _) (Nat.le_refl _) HW.out.quiet (fun _ x => x.elim)⟩

open Go.ChangeShapes Go.WideShapes in
set_option maxRecDepth 100000 in
theorem pagePlays_walk {H : Type} {enc : TypeId × Value → H} {r : Reach} {base : Nat} {d0 d1 : DataW H} {p0 p1 : List MemPlace} (v0 v1 : Value) (W : World)
    (o0 : Value.okWide Try.prog W r base 4 v0) (h0 : DataW.Trod enc Try.prog W 0 (fun _ => true) true 4 v0 d0 p0) (o1 : Value.okWide Try.prog W r base 117 v1) (h1 : DataW.Trod enc Try.prog W 0 (fun _ => true) true 117 v1 d1 p1) :
    Calls Try.prog 17 #[v0, v1] W fun e w' => e = .returned (.bool true) ∧ Below W.heap.size W w' := by
  obtain ⟨nl, rfl, _⟩ := open_bool Try.underlying4 o0 h0
  obtain ⟨A, n, cap, rfl, a1, a2, a3⟩ := open_ops5 o1 h1
  exact pagePlays_any nl A n cap W a3 a1 a2

end Go.Proofs.Ytbibmgcklilpmaa
