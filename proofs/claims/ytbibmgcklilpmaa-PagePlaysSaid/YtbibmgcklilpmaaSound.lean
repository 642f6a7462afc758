/- The contract of page.sound. No condition. -/
import Derived.Test.YtbibmgcklilpmaaLoadWalk
import Derived.Test.YtbibmgcklilpmaaSortParts
namespace Go.Proofs.Ytbibmgcklilpmaa
open Go.RowKit Go.Lap

/-- The parts so far. -/
structure SndW (w wr : World) (v : Value) (P : List (Nat × Nat)) : Prop where
  quiet : Quiet w wr
  own : wr.ownsRow 0 171 2 v P.length (partsV P)
  new : ∀ k, v.ownBlock = some k → w.heap.size ≤ k

theorem SndW.quietly {w wr wr' : World} {v : Value} {P : List (Nat × Nat)} (h : SndW w wr v P) (hq : Quiet wr wr') : SndW w wr' v P :=
  ⟨h.quiet.trans hq, owns_kept h.own hq (fun _ _ x => x), h.new⟩

theorem SndW.push {w wr w4 : World} {v v' : Value} {P : List (Nat × Nat)} {p : Nat × Nat} (h : SndW w wr v P)
    (hg : Grew (wr.alloc (.cells #[.int .i64 (p.1 : Int), .int .i64 (p.2 : Int)] 171)) w4 171 2 v v' (P.length + 1) (partsV P ++ [.int .i64 (p.1 : Int), .int .i64 (p.2 : Int)])) : SndW w w4 v' (P ++ [p]) := by
  have q1 : Quiet wr (wr.alloc (.cells #[.int .i64 (p.1 : Int), .int .i64 (p.2 : Int)] 171)) := (Only.refl _ _).alloc _
  have hz := h.quiet.size
  refine ⟨(h.quiet.trans q1).trans' hg.only (fun k hk e => by have := h.new k e; omega), ?_, fun k e => ?_⟩
  · have := hg.own
    rw [List.length_append]
    show w4.ownsRow 0 _ 2 v' _ (partsV (P ++ [p]))
    unfold partsV at this ⊢
    rw [List.flatMap_append]
    exact this
  · rcases hg.loc with x | x
    · rw [x] at e; exact h.new k e
    · rw [x] at e; injection e with e; simp only [World.size_alloc] at e; omega

theorem elem_part : Elem Try.prog 169 171 2 16 := Elem.mk' (.agg #[.int .i64 0, .int .i64 0]) Try.underlying169 (by kernel_rfl) rfl (by decide)

theorem one_two {x y : Int} : ∀ u ∈ [Value.int .i64 x, .int .i64 y], u.oneCell' = true := by
  intro u hu
  simp at hu
  rcases hu with rfl | rfl <;> rfl

theorem partsG_len (g : Nat → Nat) (k : Nat) : (partsG g k).length ≤ k := by
  unfold partsG
  have := List.length_filterMap_le (fun s : Slot => s.map (fun p => (p.1, p.1 + p.2.size))) (slotsG g k)
  rw [slotsG_len] at this
  exact this

def SoundPost (g : Nat → Nat) (w : World) (e : Ending) (w' : World) : Prop := ∃ B : Bool, e = .returned (.bool B) ∧ (B = true ↔ PgOk g) ∧ Quiet w w'

theorem sound_no {g : Nat → Nat} {w w' : World} (h : ¬ PgOk g) (hq : Quiet w w') : SoundPost g w (.returned (.bool false)) w' := ⟨false, rfl, ⟨fun x => (by cases x), fun x => absurd x h⟩, hq⟩
theorem sound_yes {g : Nat → Nat} {w w' : World} (h : PgOk g) (hq : Quiet w w') : SoundPost g w (.returned (.bool true)) w' := ⟨true, rfl, ⟨fun _ => h, fun _ => rfl⟩, hq⟩

theorem part_none {g : Nat → Nat} {k : Nat} (h : fromG g k = 0 ∧ sizeG g k = 0) : partsG g (k + 1) = partsG g k := by
  rw [partsG_succ]
  unfold slotG
  rw [if_pos h]
  simp

theorem part_some {g : Nat → Nat} {k : Nat} (h : 30 ≤ sizeG g k) : partsG g (k + 1) = partsG g k ++ [(fromG g k, fromG g k + sizeG g k)] := by
  rw [partsG_succ]
  unfold slotG
  rw [if_neg (fun x => by omega)]
  simp only
  rw [tupG_size _ _ h]

theorem gapsOk_drop {g : Nat → Nat} {P : List (Nat × Nat)} {k a : Nat} {x : Nat × Nat} (h : P[k]? = some x) : gapsOk g a (P.drop k) ↔ a ≤ x.1 ∧ (∀ j, a ≤ j → j < x.1 → g j = 0) ∧ gapsOk g x.2 (P.drop (k + 1)) := by
  obtain ⟨hk, hx⟩ := List.getElem?_eq_some_iff.1 h
  rw [List.drop_eq_getElem_cons hk, hx]
  exact Iff.rfl

theorem parts_cell {w : World} {g m cp k : Nat} {P : List (Nat × Nat)} {x : Nat × Nat} (h : w.ownsRow 0 171 2 (.slice (some ⟨g, 0, none⟩) m cp) m (partsV P)) (hx : P[k]? = some x) :
    w.cell? ⟨g, k * 2, none⟩ = some (.int .i64 (x.1 : Int)) ∧ w.cell? ⟨g, k * 2 + 1, none⟩ = some (.int .i64 (x.2 : Int)) := by
  have hr : ∀ r ∈ P.map partV, r.length = 2 := fun r hr => by obtain ⟨y, _, rfl⟩ := List.mem_map.1 hr; rfl
  have h0 := flat_get hr (i := k) (j := 0) (r := partV x) (by rw [List.getElem?_map, hx]; rfl) (by omega)
  have h1 := flat_get hr (i := k) (j := 1) (r := partV x) (by rw [List.getElem?_map, hx]; rfl) (by omega)
  rw [← List.flatMap_def] at h0 h1
  have a := h.cells rfl _ _ h0
  have b := h.cells rfl _ _ h1
  rw [add_none, Nat.zero_add] at a b
  exact ⟨a, b⟩

set_option maxHeartbeats 4000000 in
set_option maxRecDepth 100000 in
theorem sound_any (b : Nat) (g : Nat → Nat) (w : World) (hb : Bk w b 512 pageT g) (hg : ∀ i, g i < 256) :
    Calls Try.prog 95 #[.pointer (some ⟨b, 0, none⟩)] w (SoundPost g w) := by
  have hn16 := num2_lt hg 0
  have hs16 := num2_lt hg 2
  have HB := Lib.hid hb
  have HG := Lib.hid hg
  obtain ⟨n, hn⟩ : ∃ n, leNum g 0 2 = n := ⟨_, rfl⟩
  obtain ⟨st, hst⟩ : ∃ st, leNum g 2 2 = st := ⟨_, rfl⟩
  have HCK := Lib.hid (pg_checks hg hn hst)
  have HCNT : Hid (∀ W : World, Bk W b 512 pageT g → Calls Try.prog 78 #[.pointer (some ⟨b, 0, none⟩)] W fun e w' => e = .returned (.int .i64 (n : Int)) ∧ W = w') := by
    intro W hW; have := count_any b g W hW hg; rw [hn] at this; exact this
  have HSTA : Hid (∀ W : World, Bk W b 512 pageT g → Calls Try.prog 79 #[.pointer (some ⟨b, 0, none⟩)] W fun e w' => e = .returned (.int .i64 (st : Int)) ∧ W = w') := by
    intro W hW; have := start_any b g W hW hg; rw [hst] at this; exact this
  rw [hn] at hn16
  rw [hst] at hs16
  clear hb hg hn hst
  go_enter Try.func95, Try.ntmps95
  go_wp2_with fail
  refine (HCNT.out _ HB.out).mono ?_
  rintro e w1 ⟨rfl, rfl⟩
  go_upto_region 2 with fail
  by_cases hA : 512 < st
  · have HNO : Hid (¬ PgOk g) := fun h => by have := (HCK.out.1 h).le; omega
    have d0 : (512 : Int) < (st : Int) := by omega
    go_wp2_with fail
    refine (HSTA.out _ HB.out).mono ?_
    rintro e w1 ⟨rfl, rfl⟩
    go_wp2
    go_ret
    exact sound_no HNO.out (Only.refl _ _)
  by_cases hB : st < 4 + 4 * n
  · have HNO : Hid (¬ PgOk g) := fun h => by have := (HCK.out.1 h).fit; omega
    have d0 : ¬ (512 : Int) < (st : Int) := by omega
    have d1 : (st : Int) < 4 + 4 * (n : Int) := by omega
    go_wp2_with fail
    refine (HSTA.out _ HB.out).mono ?_
    rintro e w1 ⟨rfl, rfl⟩
    go_wp2_with fail
    refine (HSTA.out _ HB.out).mono ?_
    rintro e w1 ⟨rfl, rfl⟩
    go_wp2
    go_ret
    exact sound_no HNO.out (Only.refl _ _)
  have d0 : ¬ (512 : Int) < (st : Int) := by omega
  have d1 : ¬ (st : Int) < 4 + 4 * (n : Int) := by omega
  have HKEY : Hid (∀ wv : World, Quiet w wv → (0 < n → sizeG g (n - 1) ≠ 0) → True) := fun _ _ _ => trivial
  by_cases hL : 0 < n ∧ sizeG g (n - 1) = 0
  · have HNO : Hid (¬ PgOk g) := fun h => (HCK.out.1 h).last hL.1 hL.2
    have hbat := fun (W : World) (hW : Bk W b 512 pageT g) => bytesAt_any b (n - 1) g W hW HG.out (by omega)
    rw [hL.2] at hbat
    obtain ⟨n1, rfl⟩ : ∃ n1, n = n1 + 1 := ⟨n - 1, by omega⟩
    rw [Nat.add_sub_cancel] at hbat
    have HBAT := Lib.hid hbat
    have HL := Lib.hid hL
    have hw1 : IntKind.i64.wrap (((n1 + 1 : Nat) : Int) - 1) = (n1 : Int) := by rw [IntKind.wrap_i64]; omega
    have hw2 : ((n1 : Int) + 1 - 1) = (n1 : Int) := by omega
    have d2 : (0 : Int) < ((n1 + 1 : Nat) : Int) := by omega
    clear hL hbat
    go_wp2_with fail
    refine (HSTA.out _ HB.out).mono ?_
    rintro e w1 ⟨rfl, rfl⟩
    go_wp2_with fail
    refine (HSTA.out _ HB.out).mono ?_
    rintro e w1 ⟨rfl, rfl⟩
    go_wp2_with fail
    refine (HCNT.out _ HB.out).mono ?_
    rintro e w1 ⟨rfl, rfl⟩
    go_wp2_with fail
    refine (HCNT.out _ HB.out).mono ?_
    rintro e w1 ⟨rfl, rfl⟩
    go_wp2_with fail
    refine (HBAT.out _ HB.out).mono ?_
    rintro e w1 ⟨rfl, hq1⟩
    have HQ1 := Lib.hid hq1
    clear hq1
    go_wp2
    go_ret
    exact sound_no HNO.out HQ1.out
  have HLST : Hid (0 < n → sizeG g (n - 1) ≠ 0) := Lib.hid (fun h0 h1 => hL ⟨h0, h1⟩)
  have HFIT : Hid (4 + 4 * n ≤ st ∧ st ≤ 512) := Lib.hid ⟨by omega, by omega⟩
  have HJ : Hid (∃ wj : World, Quiet w wj ∧ True) := Lib.hid ⟨w, Only.refl _ _, trivial⟩
  clear HKEY HJ
  go_cut [36] (fun s36 wx => s36 = .bool false ∧ Quiet w wx)
  case first =>
    by_cases h0 : 0 < n
    · have hbat := fun (W : World) (hW : Bk W b 512 pageT g) => bytesAt_any b (n - 1) g W hW HG.out (by omega)
      obtain ⟨z, hz⟩ : ∃ z, sizeG g (n - 1) = z := ⟨_, rfl⟩
      have hz0 : z ≠ 0 := by rw [← hz]; exact HLST.out h0
      rw [hz] at hbat
      obtain ⟨n1, rfl⟩ : ∃ n1, n = n1 + 1 := ⟨n - 1, by omega⟩
      rw [Nat.add_sub_cancel] at hbat
      have HBAT := Lib.hid hbat
      have e0 : ((z : Int) == 0) = false := by simp; omega
      have hw1 : IntKind.i64.wrap (((n1 + 1 : Nat) : Int) - 1) = (n1 : Int) := by rw [IntKind.wrap_i64]; omega
      have hw2 : ((n1 : Int) + 1 - 1) = (n1 : Int) := by omega
      have d2 : (0 : Int) < ((n1 + 1 : Nat) : Int) := by omega
      clear hbat hz hz0 HLST hL
      go_wp2_with fail
      refine (HSTA.out _ HB.out).mono ?_
      rintro e w1 ⟨rfl, rfl⟩
      go_wp2_with fail
      refine (HSTA.out _ HB.out).mono ?_
      rintro e w1 ⟨rfl, rfl⟩
      go_wp2_with fail
      refine (HCNT.out _ HB.out).mono ?_
      rintro e w1 ⟨rfl, rfl⟩
      go_wp2_with fail
      refine (HCNT.out _ HB.out).mono ?_
      rintro e w1 ⟨rfl, rfl⟩
      go_wp2_with fail
      refine (HBAT.out _ HB.out).mono ?_
      rintro e w1 ⟨rfl, hq1⟩
      have HQ1 := Lib.hid hq1
      clear hq1
      go_wp2_with fail
      go_meet
      exact ⟨congrArg Value.bool (by simp; omega), HQ1.out⟩
    · obtain rfl : n = 0 := by omega
      clear hL HLST
      go_wp2_with fail
      refine (HSTA.out _ HB.out).mono ?_
      rintro e w1 ⟨rfl, rfl⟩
      go_wp2_with fail
      refine (HSTA.out _ HB.out).mono ?_
      rintro e w1 ⟨rfl, rfl⟩
      go_wp2_with fail
      refine (HCNT.out _ HB.out).mono ?_
      rintro e w1 ⟨rfl, rfl⟩
      go_wp2_with fail
      go_meet
      exact ⟨congrArg Value.bool (by simp; omega), Only.refl _ _⟩
  case rest =>
    obtain ⟨rfl, hq2⟩ := hcut
    have HQ2 := Lib.hid hq2
    have HB2 := Lib.hid (HB.out.kept hq2 (fun x => x))
    clear hq2
    go_wp2_with fail
    refine (HCNT.out _ HB2.out).mono ?_
    rintro e w2 ⟨rfl, rfl⟩
    go_wp2_with fail
    go_loopw [39, 4, 5, 6, 7] (fun c v _ _ _ wr => ∃ k : Nat, k ≤ n ∧ c = .int .i64 (k : Int) ∧ SndW w wr v (partsG g k) ∧ ∀ i, i < k → GoodG g st i) (fun c _ _ _ _ _ => n - (intOf c).toNat)
    case atStart => exact ⟨0, Nat.zero_le _, rfl, ⟨HQ2.out, World.ownsRow_nil _ _ _ _, fun k e => by cases e⟩, fun i hi => by omega⟩
    case round =>
      obtain ⟨k, hk, rfl, hw, hgd⟩ := hrel
      have HW := Lib.hid hw
      have HGD := Lib.hid hgd
      have HB3 := Lib.hid (HB.out.kept hw.quiet (fun x => x))
      clear hw hgd
      by_cases hlt : k < n
      · have hat := at_any b k g wr HB3.out HG.out (by have := HFIT.out; omega)
        have hf16 := num2_lt HG.out (4 + 4 * k)
        have hz16 := num2_lt HG.out (4 + 4 * k + 2)
        have ez : leNum g (4 + 4 * k + 2) 2 = sizeG g k := by unfold sizeG; congr 1; omega
        have ef : leNum g (4 + 4 * k) 2 = fromG g k := rfl
        rw [ez, ef] at hat
        rw [ez] at hz16
        rw [ef] at hf16
        have HGOOD : Hid (¬ GoodG g st k → ¬ PgOk g) := Lib.hid (fun h1 h2 => h1 ((HCK.out.1 h2).good k hlt))
        have HPN := Lib.hid (@part_none g k)
        have HPS := Lib.hid (@part_some g k)
        have HUNP0 := Lib.hid (fun (W : World) (hW : Bk W b 512 pageT g) (h30 : 30 ≤ sizeG g k) (h512 : fromG g k + sizeG g k ≤ 512) => unpack_raw b (fromG g k) (512 - fromG g k) (tupG g (fromG g k) (sizeG g k)) g W hW HG.out (raw_tupG HG.out _ _) (by rw [tupG_size _ _ h30]; exact tupG_ver HG.out _ h30) (by rw [tupG_size _ _ h30]; exact h512) (by rw [tupG_len]; omega))
        have HLEN := Lib.hid (tupG_len g (fromG g k) (sizeG g k))
        obtain ⟨tt, htt⟩ : ∃ tt, tupG g (fromG g k) (sizeG g k) = tt := ⟨_, rfl⟩
        have HGD2 : Hid (GoodG g st k ↔ (fromG g k = 0 ∧ sizeG g k = 0) ∨ (30 ≤ sizeG g k ∧ st ≤ fromG g k ∧ fromG g k + sizeG g k ≤ 512 ∧ tt.rightB = true)) := by rw [← htt]; exact Lib.hid Iff.rfl
        rw [htt] at HUNP0 HLEN
        obtain ⟨f, hf⟩ : ∃ f, fromG g k = f := ⟨_, rfl⟩
        obtain ⟨sz, hsz⟩ : ∃ sz, sizeG g k = sz := ⟨_, rfl⟩
        rw [hf, hsz] at hat HPN HPS HUNP0 HGD2
        rw [hsz] at HLEN hz16
        rw [hf] at hf16
        clear ez ef hf hsz htt
        have HAT := Lib.hid hat
        clear hat
        go_wp2_with fail
        refine HAT.out.mono ?_
        rintro e w8 ⟨rfl, m8, hm8⟩
        have hq8 : Quiet wr w8 := by rw [hm8]; exact (Only.refl _ _).drewN _
        have HW8 := Lib.hid (HW.out.quietly hq8)
        have HB8 := Lib.hid (HB3.out.kept hq8 (fun x => x))
        clear hm8 hq8 HAT
        by_cases h00 : f = 0 ∧ sz = 0
        · have hwn := HW8.out
          rw [← HPN.out h00] at hwn
          have HWN := Lib.hid hwn
          clear hwn
          have HGN : Hid (GoodG g st k) := Lib.hid (HGD2.out.2 (Or.inl h00))
          obtain ⟨rfl, rfl⟩ := h00
          go_wp2
          go_roundw
          case rel => exact ⟨k + 1, by omega, by go_num, HWN.out, fun i hi => by
            rcases Nat.lt_or_ge i k with h | h
            · exact HGD.out i h
            · obtain rfl : i = k := by omega
              exact HGN.out⟩
          case measure => simp [intOf]; omega
        · have HNB : Hid (¬ (30 ≤ sz ∧ st ≤ f ∧ f + sz ≤ 512 ∧ tt.rightB = true) → ¬ PgOk g) := Lib.hid (fun h1 => HGOOD.out (fun h2 => by
            rcases HGD2.out.1 h2 with h3 | h3
            · exact h00 h3
            · exact h1 h3))
          by_cases c1 : sz < 30
          · have HNO := Lib.hid (HNB.out (fun h => by omega))
            have dz : (sz : Int) < 30 := by omega
            by_cases hz0 : sz = 0
            · have ef : ((f : Int) == 0) = false := by simp; omega
              subst hz0
              go_wp2
              go_ret
              exact sound_no HNO.out HW8.out.quiet
            · have ez : ((sz : Int) == 0) = false := by simp; omega
              go_wp2
              go_ret
              exact sound_no HNO.out HW8.out.quiet
          have ez : ((sz : Int) == 0) = false := by simp; omega
          have dz : ¬ (sz : Int) < 30 := by omega
          by_cases c2 : f < st
          · have HNO := Lib.hid (HNB.out (fun h => by omega))
            have df : (f : Int) < (st : Int) := by omega
            go_wp2_with fail
            refine (HSTA.out _ HB8.out).mono ?_
            rintro e w1 ⟨rfl, rfl⟩
            go_wp2
            go_ret
            exact sound_no HNO.out HW8.out.quiet
          have df : ¬ (f : Int) < (st : Int) := by omega
          by_cases c3 : 512 < f + sz
          · have HNO := Lib.hid (HNB.out (fun h => by omega))
            have dm : (512 : Int) < (f : Int) + (sz : Int) := by omega
            go_wp2_with fail
            refine (HSTA.out _ HB8.out).mono ?_
            rintro e w1 ⟨rfl, rfl⟩
            go_wp2
            go_ret
            exact sound_no HNO.out HW8.out.quiet
          have dm : ¬ (512 : Int) < (f : Int) + (sz : Int) := by omega
          have HUNP := Lib.hid (fun (W : World) (hW : Bk W b 512 pageT g) => HUNP0.out W hW (by omega) (by omega))
          have hsl := fun (W : World) => page_range b f (f + sz) (f : Int) ((f : Int) + (sz : Int)) rfl (by omega) (by omega) (by omega) (by omega) W
          rw [show f + sz - f = 30 + tt.data.length by have := HLEN.out; omega] at hsl
          have HRGT0 := Lib.hid (fun A c W => right_any tt A c W)
          unfold tupV at HRGT0
          rcases hr : tt.rightB with _ | _
          · have HNO := Lib.hid (HNB.out (fun h => by rw [hr] at h; exact absurd h.2.2.2 (by decide)))
            rw [hr] at HRGT0
            have HRGT := Lib.hid HRGT0.out
            clear hr HRGT0 HUNP0
            go_wp2_with fail
            refine (HSTA.out _ HB8.out).mono ?_
            rintro e w1 ⟨rfl, rfl⟩
            go_wp2_with fail
            refine (HUNP.out _ HB8.out).mono ?_
            rintro e w1 ⟨A1, c1, rfl, hf1⟩
            unfold tupV
            have HQ1 := Lib.hid hf1.quiet
            clear hf1
            go_wp2_with fail
            refine (HRGT.out A1 c1 _).mono ?_
            rintro e w2 ⟨rfl, hq2⟩
            have HQ2 := Lib.hid (HQ1.out.trans hq2)
            clear hq2
            go_wp2
            go_ret
            exact sound_no HNO.out (HW8.out.quiet.trans HQ2.out)
          · have HGN : Hid (GoodG g st k) := Lib.hid (HGD2.out.2 (Or.inr ⟨by omega, by omega, by omega, hr⟩))
            rw [hr] at HRGT0
            have HRGT := Lib.hid HRGT0.out
            clear hr HRGT0 HUNP0
            go_wp2_with fail
            refine (HSTA.out _ HB8.out).mono ?_
            rintro e w1 ⟨rfl, rfl⟩
            go_wp2_with fail
            refine (HUNP.out _ HB8.out).mono ?_
            rintro e w1 ⟨A1, c1, rfl, hf1⟩
            unfold tupV
            have HQ1 := Lib.hid hf1.quiet
            clear hf1
            go_wp2_with fail
            refine (HRGT.out A1 c1 _).mono ?_
            rintro e w2 ⟨rfl, hq2⟩
            have HQ2 := Lib.hid (HQ1.out.trans hq2)
            clear hq2
            have HW9 := Lib.hid (HW8.out.quietly HQ2.out)
            have hlen := partsG_len g k
            obtain ⟨m, hm⟩ : ∃ m, (partsG g k).length = m := ⟨_, rfl⟩
            rw [hm] at hlen
            have HOT := Lib.hid (owns_kept HW9.out.own ((Only.refl (fun _ => False) w2).alloc (.cells #[.int .i64 (f : Int), .int .i64 ((f : Int) + (sz : Int))] 171)) (fun _ _ x => x))
            rw [hm] at HOT
            have HM := Lib.hid hm
            clear hm
            go_wp2_with (at_builtin; go_must (refine app elem_part rfl (.tmp 81) (.tmp 87) rfl rfl HOT.out rfl (Rd.new w2 2 1 [.int .i64 (f : Int), .int .i64 ((f : Int) + (sz : Int))] _ (fun _ => True) rfl trivial) one_two (by unfold maxLen; omega) (by omega) ?_))
            intro v4 w4 hg4
            have HWN : Hid (SndW w w4 v4 (partsG g (k + 1))) := by
              rw [HPS.out (by omega)]
              refine HW9.out.push (p := (f, f + sz)) ?_
              rw [HM.out, show (((f, f + sz) : Nat × Nat).2 : Int) = (f : Int) + (sz : Int) by simp]
              exact hg4
            clear hg4
            go_wp2
            go_roundw
            case rel => exact ⟨k + 1, by omega, by go_num, HWN.out, fun i hi => by
              rcases Nat.lt_or_ge i k with h | h
              · exact HGD.out i h
              · obtain rfl : i = k := by omega
                exact HGN.out⟩
            case measure => simp [intOf]; omega
      · obtain rfl : k = n := by omega
        have HGDF : Hid (∀ i, i < k → GoodG g st i) := HGD
        have HSORT := Lib.hid (sort_parts _ (partsG g k) wr HW.out.own (fun p hp => by
          obtain ⟨i, f, t, hi, hsl, rfl⟩ := parts_mem hp
          obtain ⟨_, e⟩ := slotsG_some hsl
          obtain ⟨e2, _, _⟩ := slotG_some e.symm
          subst e2
          exact num2_lt HG.out _) (by have := partsG_len g k; omega))
        have hlen := partsG_len g k
        obtain ⟨m, hm⟩ : ∃ m, (partsG g k).length = m := ⟨_, rfl⟩
        rw [hm] at hlen HSORT
        have HM := Lib.hid hm
        clear hm
        go_wp2_with fail
        refine HSORT.out.mono ?_
        rintro e w4 ⟨rfl, P, hperm, hsorted, hown4, hon4⟩
        have HPL : Hid (P.length = m) := Lib.hid (by rw [hperm.length_eq, HM.out])
        have HQ4 : Hid (Quiet w w4) := HW.out.quiet.trans' hon4 (fun k2 hk2 e => by have := HW.out.new k2 e; omega)
        have HGAP : Hid (PgOk g ↔ gapsOk g (4 + 4 * k) (P ++ [(512, 512)])) := by
          have h3 := gaps_iff (g := g) (n := k) (st := st) HFIT.out.1 HFIT.out.2 HGDF.out hperm hsorted
          refine Lib.hid ⟨fun h => ?_, fun h => ?_⟩
          · have h4 := HCK.out.1 h
            exact h3.2 ⟨h4.apart, h4.zero⟩
          · have h4 := h3.1 h
            exact HCK.out.2 ⟨HFIT.out.2, HFIT.out.1, HLST.out, HGDF.out, h4.1, h4.2⟩
        have HBD : Hid (∀ x ∈ P ++ [(512, 512)], x.1 ≤ 512 ∧ x.2 ≤ 512) := Lib.hid (fun x hx => by
          rcases List.mem_append.1 hx with hx | hx
          · obtain ⟨i, f, t, hi, hsl, rfl⟩ := parts_mem (hperm.mem_iff.1 hx)
            obtain ⟨_, e⟩ := slotsG_some hsl
            obtain ⟨_, _, _, _, h5⟩ := slotG_good e.symm (HGDF.out i hi)
            show f ≤ 512 ∧ f + t.size ≤ 512
            omega
          · obtain rfl := List.mem_singleton.1 hx
            exact ⟨Nat.le_refl _, Nat.le_refl _⟩)
        have HNEW := Lib.hid HW.out.new
        have HOT := Lib.hid (owns_kept hown4 ((Only.refl (fun _ => False) w4).alloc (.cells #[.int .i64 512, .int .i64 512] 171)) (fun _ _ x => x))
        clear hperm hsorted hown4 hon4 HSORT HW HM
        go_wp2_with (at_builtin; go_must (refine app elem_part rfl (.tmp 93) (.tmp 95) rfl rfl HOT.out rfl (Rd.new w4 2 1 [.int .i64 512, .int .i64 512] _ (fun _ => True) rfl trivial) one_two (by unfold maxLen; omega) (by omega) ?_))
        intro v5 w5 hg5
        have HQ5 : Hid (Quiet w w5) := (HQ4.out.trans ((Only.refl _ _).alloc _)).trans' hg5.only (fun k2 hk2 e => by have := HNEW.out k2 e; omega)
        obtain ⟨g5, cp5, hv5⟩ : ∃ g5 cp5, v5 = .slice (some ⟨g5, 0, none⟩) (m + 1) cp5 := by
          rcases owns_cases hg5.own with ⟨_, e⟩ | ⟨g5, cp5, e, _, _⟩
          · omega
          · exact ⟨g5, cp5, e⟩
        subst hv5
        have HROW : Hid (w5.ownsRow 0 171 2 (.slice (some ⟨g5, 0, none⟩) (m + 1) cp5) (m + 1) (partsV (P ++ [(512, 512)]))) := by
          have := hg5.own
          unfold partsV at this ⊢
          rw [List.flatMap_append]
          exact Lib.hid this
        obtain ⟨PP, hPP⟩ : ∃ PP, P ++ [((512, 512) : Nat × Nat)] = PP := ⟨_, rfl⟩
        have HPPL : Hid (PP.length = m + 1) := by rw [← hPP, List.length_append, HPL.out]; exact Lib.hid rfl
        rw [hPP] at HROW HBD HGAP
        clear hg5 HOT hPP HPL
        go_wp2_with fail
        go_loopw [98, 8, 10] (fun c s8 _ wr' => ∃ q a : Nat, q ≤ m + 1 ∧ c = .int .i64 (q : Int) ∧ s8 = .int .i64 (a : Int) ∧ a ≤ 512 ∧ Quiet w5 wr' ∧ (gapsOk g (4 + 4 * k) PP ↔ gapsOk g a (PP.drop q))) (fun c _ _ _ => m + 1 - (intOf c).toNat)
        case atStart => exact ⟨0, 4 + 4 * k, Nat.zero_le _, rfl, by go_num, by have := HFIT.out; omega, Only.refl _ _, by rw [List.drop_zero]⟩
        case round =>
          obtain ⟨q, a, hq, rfl, rfl, ha, hqw, hgap⟩ := hrel
          have HQW := Lib.hid hqw
          have HGA := Lib.hid hgap
          clear hqw hgap
          by_cases hlq : q < m + 1
          · have hqp : q < PP.length := by rw [HPPL.out]; exact hlq
            obtain ⟨x0, x1, hx⟩ : ∃ x0 x1, PP[q]? = some (x0, x1) := ⟨PP[q].1, PP[q].2, List.getElem?_eq_getElem hqp⟩
            clear hqp
            have hxb := HBD.out _ (List.mem_of_getElem? hx)
            have HDR := Lib.hid (gapsOk_drop (g := g) (a := a) hx)
            obtain ⟨r0, r1⟩ := parts_cell (owns_kept HROW.out HQW.out (fun _ _ x => x)) hx
            have hx0 : x0 ≤ 512 := hxb.1
            have hx1 : x1 ≤ 512 := hxb.2
            have d2 : (0 : Int) ≤ (q : Int) := by omega
            have d3 : (q : Int) < ((m + 1 : Nat) : Int) := by omega
            simp only at r0 r1
            clear hx hxb
            go_upto_region 19 with (fail)
            have q8 : Quiet w5 (wr.alloc (.cells #[.int .i64 (x0 : Int), .int .i64 (x1 : Int)] 171)) := HQW.out.alloc _
            have HQ8 := Lib.hid q8
            have HB8 := Lib.hid (HB.out.kept (HQ5.out.trans q8) (fun x => x))
            have hbx := alloc_new wr (.cells #[.int .i64 (x0 : Int), .int .i64 (x1 : Int)] 171)
            have z0 : (wr.alloc (.cells #[.int .i64 (x0 : Int), .int .i64 (x1 : Int)] 171)).cell? ⟨wr.heap.size, 0, none⟩ = some (.int .i64 (x0 : Int)) := by rw [cell_of hbx]; rfl
            have z1 : (wr.alloc (.cells #[.int .i64 (x0 : Int), .int .i64 (x1 : Int)] 171)).cell? ⟨wr.heap.size, 1, none⟩ = some (.int .i64 (x1 : Int)) := by rw [cell_of hbx]; rfl
            clear hbx q8 r0 r1
            generalize wr.alloc (.cells #[.int .i64 (x0 : Int), .int .i64 (x1 : Int)] 171) = w8 at HQ8 HB8 z0 z1 ⊢
            generalize wr.heap.size = bx at z0 z1 ⊢
            by_cases hxa : x0 < a
            · have HNO : Hid (¬ PgOk g) := Lib.hid (fun h => by have := (HDR.out.1 (HGA.out.1 (HGAP.out.1 h))).1; simp only at this; omega)
              have da : (x0 : Int) < (a : Int) := by omega
              refine wp_region_held_drew (S := (fun w' => w'.cell? ⟨bx, 0, none⟩ = some (.int .i64 (x0 : Int)) ∧ w'.cell? ⟨bx, 1, none⟩ = some (.int .i64 (x1 : Int)) ∧ Bk w' b 512 pageT g)) (by kernel_rfl) (⟨z0, z1, HB8.out.kept (Only.refl (fun _ => False) w8).drew (fun x => x)⟩) (fun hHeld => ?_)
              simp only [List.size_toArray, List.length_cons, List.length_nil, Nat.reduceAdd]
              (refine wpAnyH_take (i := 0) (oi := ?_) (v := ?_) ?_ (by kernel_rfl) (by decide +kernel) (by decide +kernel) ?_ (Or.inl ⟨?_, ?_⟩) (by first | assumption | exact trivial) ?_; rotate_left 2; (focus (simp only [List.getElem?_toArray, List.getElem?_cons_zero, List.getElem?_cons_succ] <;> rfl)); (focus (exact fun _ _ _ h => h)); (focus rfl); (focus (intro w hSw; (try dsimp only at hSw); go_simp; (try with_reducible rfl); done)); (try simp only [Act.put, List.setIfInBounds_toArray, List.set_cons_zero, List.set_cons_succ]))
              (refine wpAnyH_take (i := 1) (oi := ?_) (v := ?_) ?_ (by kernel_rfl) (by decide +kernel) (by decide +kernel) ?_ (Or.inl ⟨?_, ?_⟩) (by first | assumption | exact trivial) ?_; rotate_left 2; (focus (simp only [List.getElem?_toArray, List.getElem?_cons_zero, List.getElem?_cons_succ] <;> rfl)); (focus (exact fun _ _ _ h => h)); (focus rfl); (focus (intro w hSw; (try dsimp only at hSw); go_simp; (try with_reducible rfl); done)); (try simp only [Act.put, List.setIfInBounds_toArray, List.set_cons_zero, List.set_cons_succ]))
              (refine wpAnyH_take (i := 2) (oi := ?_) (v := ?_) ?_ (by kernel_rfl) (by decide +kernel) (by decide +kernel) ?_ (Or.inl ⟨?_, ?_⟩) (by first | assumption | exact trivial) ?_; rotate_left 2; (focus (simp only [List.getElem?_toArray, List.getElem?_cons_zero, List.getElem?_cons_succ] <;> rfl)); (focus (exact fun _ _ _ h => h)); (focus rfl); (focus (intro w hSw; (try dsimp only at hSw); go_simp; (try with_reducible rfl); done)); (try simp only [Act.put, List.setIfInBounds_toArray, List.set_cons_zero, List.set_cons_succ]))
              (refine wpAnyH_take (i := 3) (oi := ?_) (v := ?_) ?_ (by kernel_rfl) (by decide +kernel) (by decide +kernel) ?_ (Or.inl ⟨?_, ?_⟩) (by first | assumption | exact trivial) ?_; rotate_left 2; (focus (simp only [List.getElem?_toArray, List.getElem?_cons_zero, List.getElem?_cons_succ] <;> rfl)); (focus (exact fun _ _ _ h => h)); (focus rfl); (focus (intro w hSw; (try dsimp only at hSw); go_simp; (try with_reducible rfl); done)); (try simp only [Act.put, List.setIfInBounds_toArray, List.set_cons_zero, List.set_cons_succ]))
              (refine wpAnyH_take (i := 4) (oi := ?_) (v := ?_) ?_ (by kernel_rfl) (by decide +kernel) (by decide +kernel) ?_ (Or.inl ⟨?_, ?_⟩) (by first | assumption | exact trivial) ?_; rotate_left 2; (focus (simp only [List.getElem?_toArray, List.getElem?_cons_zero, List.getElem?_cons_succ] <;> rfl)); (focus (exact fun _ _ _ h => h)); (focus rfl); (focus (intro w hSw; (try dsimp only at hSw); go_simp; (try with_reducible rfl); done)); (try simp only [Act.put, List.setIfInBounds_toArray, List.set_cons_zero, List.set_cons_succ]))
              (refine wpAnyH_take (i := 5) (oi := ?_) (v := undef) ?_ (by kernel_rfl) (by decide +kernel) (by decide +kernel) ?_ (Or.inr ⟨?_, rfl⟩) (by first | assumption | exact trivial) ?_; rotate_left 1; (focus (simp only [List.getElem?_toArray, List.getElem?_cons_zero, List.getElem?_cons_succ] <;> rfl)); (focus (exact fun _ _ _ h => h)); (focus rfl); (try simp only [Act.put, List.setIfInBounds_toArray, List.set_cons_zero, List.set_cons_succ]))
              (refine wpAnyH_take (i := 6) (oi := ?_) (v := undef) ?_ (by kernel_rfl) (by decide +kernel) (by decide +kernel) ?_ (Or.inr ⟨?_, rfl⟩) (by first | assumption | exact trivial) ?_; rotate_left 1; (focus (simp only [List.getElem?_toArray, List.getElem?_cons_zero, List.getElem?_cons_succ] <;> rfl)); (focus (exact fun _ _ _ h => h)); (focus rfl); (try simp only [Act.put, List.setIfInBounds_toArray, List.set_cons_zero, List.set_cons_succ]))
              (refine wpAnyH_take (i := 7) (oi := ?_) (v := undef) ?_ (by kernel_rfl) (by decide +kernel) (by decide +kernel) ?_ (Or.inr ⟨?_, rfl⟩) (by first | assumption | exact trivial) ?_; rotate_left 1; (focus (simp only [List.getElem?_toArray, List.getElem?_cons_zero, List.getElem?_cons_succ] <;> rfl)); (focus (exact fun _ _ _ h => h)); (focus rfl); (try simp only [Act.put, List.setIfInBounds_toArray, List.set_cons_zero, List.set_cons_succ]))
              (refine wpAnyH_take (i := 8) (oi := ?_) (v := undef) ?_ (by kernel_rfl) (by decide +kernel) (by decide +kernel) ?_ (Or.inr ⟨?_, rfl⟩) (by first | assumption | exact trivial) ?_; rotate_left 1; (focus (simp only [List.getElem?_toArray, List.getElem?_cons_zero, List.getElem?_cons_succ] <;> rfl)); (focus (exact fun _ _ _ h => h)); (focus rfl); (try simp only [Act.put, List.setIfInBounds_toArray, List.set_cons_zero, List.set_cons_succ]))
              (refine wpAnyH_take (i := 9) (oi := ?_) (v := undef) ?_ (by kernel_rfl) (by decide +kernel) (by decide +kernel) ?_ (Or.inr ⟨?_, rfl⟩) (by first | assumption | exact trivial) ?_; rotate_left 1; (focus (simp only [List.getElem?_toArray, List.getElem?_cons_zero, List.getElem?_cons_succ] <;> rfl)); (focus (exact fun _ _ _ h => h)); (focus rfl); (try simp only [Act.put, List.setIfInBounds_toArray, List.set_cons_zero, List.set_cons_succ]))
              (refine wpAnyH_take (i := 10) (oi := ?_) (v := undef) ?_ (by kernel_rfl) (by decide +kernel) (by decide +kernel) ?_ (Or.inr ⟨?_, rfl⟩) (by first | assumption | exact trivial) ?_; rotate_left 1; (focus (simp only [List.getElem?_toArray, List.getElem?_cons_zero, List.getElem?_cons_succ] <;> rfl)); (focus (exact fun _ _ _ h => h)); (focus rfl); (try simp only [Act.put, List.setIfInBounds_toArray, List.set_cons_zero, List.set_cons_succ]))
              (refine wpAnyH_take (i := 11) (oi := ?_) (v := undef) ?_ (by kernel_rfl) (by decide +kernel) (by decide +kernel) ?_ (Or.inr ⟨?_, rfl⟩) (by first | assumption | exact trivial) ?_; rotate_left 1; (focus (simp only [List.getElem?_toArray, List.getElem?_cons_zero, List.getElem?_cons_succ] <;> rfl)); (focus (exact fun _ _ _ h => h)); (focus rfl); (try simp only [Act.put, List.setIfInBounds_toArray, List.set_cons_zero, List.set_cons_succ]))
              (refine wpAnyH_take (i := 12) (oi := ?_) (v := undef) ?_ (by kernel_rfl) (by decide +kernel) (by decide +kernel) ?_ (Or.inr ⟨?_, rfl⟩) (by first | assumption | exact trivial) ?_; rotate_left 1; (focus (simp only [List.getElem?_toArray, List.getElem?_cons_zero, List.getElem?_cons_succ] <;> rfl)); (focus (exact fun _ _ _ h => h)); (focus rfl); (try simp only [Act.put, List.setIfInBounds_toArray, List.set_cons_zero, List.set_cons_succ]))
              (refine wpAnyH_take (i := 13) (oi := ?_) (v := ?_) ?_ (by kernel_rfl) (by decide +kernel) (by decide +kernel) ?_ (Or.inl ⟨?_, ?_⟩) (by first | assumption | exact trivial) ?_; rotate_left 2; (focus (simp only [List.getElem?_toArray, List.getElem?_cons_zero, List.getElem?_cons_succ] <;> rfl)); (focus (exact fun _ _ _ h => h)); (focus rfl); (focus (intro w hSw; (try dsimp only at hSw); go_simp; (try with_reducible rfl); done)); (try simp only [Act.put, List.setIfInBounds_toArray, List.set_cons_zero, List.set_cons_succ]))
              refine wpAnyH_done (by kernel_rfl) ?_ _
              clear hHeld
              go_wp2
              go_ret
              exact sound_no HNO.out (HQ5.out.trans HQ8.out.drew)
            · have da : ¬ (x0 : Int) < (a : Int) := by omega
              obtain ⟨l', hl1, hl2, hsl⟩ := page_range2 b a x0 (by omega) (by omega)
              have HL1 := Lib.hid hl1
              have HCON0 := Lib.hid (fun (W : World) (hW : Bk W b 512 pageT g) => contains_any b l' (x0 - a) (512 - a) g W hW hl2)
              clear hl1 hl2
              rcases hnz : nzB g l' (x0 - a) with _ | _
              · rw [hnz] at HCON0
                have HZ : Hid (∀ j, a ≤ j → j < x0 → g j = 0) := Lib.hid (fun j h1 h2 => by
                  have h3 := nzB_false.1 hnz (j - a) (by omega)
                  rw [HL1.out (by omega), show a + (j - a) = j by omega] at h3
                  exact h3)
                have HCON := Lib.hid HCON0.out
                clear hnz HCON0
                refine wp_region_held_drew (S := (fun w' => w'.cell? ⟨bx, 0, none⟩ = some (.int .i64 (x0 : Int)) ∧ w'.cell? ⟨bx, 1, none⟩ = some (.int .i64 (x1 : Int)) ∧ Bk w' b 512 pageT g)) (by kernel_rfl) (⟨z0, z1, HB8.out.kept (Only.refl (fun _ => False) w8).drew (fun x => x)⟩) (fun hHeld => ?_)
                simp only [List.size_toArray, List.length_cons, List.length_nil, Nat.reduceAdd]
                (refine wpAnyH_take (i := 0) (oi := ?_) (v := ?_) ?_ (by kernel_rfl) (by decide +kernel) (by decide +kernel) ?_ (Or.inl ⟨?_, ?_⟩) (by first | assumption | exact trivial) ?_; rotate_left 2; (focus (simp only [List.getElem?_toArray, List.getElem?_cons_zero, List.getElem?_cons_succ] <;> rfl)); (focus (exact fun _ _ _ h => h)); (focus rfl); (focus (intro w hSw; (try dsimp only at hSw); go_simp; (try with_reducible rfl); done)); (try simp only [Act.put, List.setIfInBounds_toArray, List.set_cons_zero, List.set_cons_succ]))
                (refine wpAnyH_take (i := 1) (oi := ?_) (v := ?_) ?_ (by kernel_rfl) (by decide +kernel) (by decide +kernel) ?_ (Or.inl ⟨?_, ?_⟩) (by first | assumption | exact trivial) ?_; rotate_left 2; (focus (simp only [List.getElem?_toArray, List.getElem?_cons_zero, List.getElem?_cons_succ] <;> rfl)); (focus (exact fun _ _ _ h => h)); (focus rfl); (focus (intro w hSw; (try dsimp only at hSw); go_simp; (try with_reducible rfl); done)); (try simp only [Act.put, List.setIfInBounds_toArray, List.set_cons_zero, List.set_cons_succ]))
                (refine wpAnyH_take (i := 2) (oi := ?_) (v := ?_) ?_ (by kernel_rfl) (by decide +kernel) (by decide +kernel) ?_ (Or.inl ⟨?_, ?_⟩) (by first | assumption | exact trivial) ?_; rotate_left 2; (focus (simp only [List.getElem?_toArray, List.getElem?_cons_zero, List.getElem?_cons_succ] <;> rfl)); (focus (exact fun _ _ _ h => h)); (focus rfl); (focus (intro w hSw; (try dsimp only at hSw); go_simp; (try with_reducible rfl); done)); (try simp only [Act.put, List.setIfInBounds_toArray, List.set_cons_zero, List.set_cons_succ]))
                (refine wpAnyH_take (i := 3) (oi := ?_) (v := ?_) ?_ (by kernel_rfl) (by decide +kernel) (by decide +kernel) ?_ (Or.inl ⟨?_, ?_⟩) (by first | assumption | exact trivial) ?_; rotate_left 2; (focus (simp only [List.getElem?_toArray, List.getElem?_cons_zero, List.getElem?_cons_succ] <;> rfl)); (focus (exact fun _ _ _ h => h)); (focus rfl); (focus (intro w hSw; (try dsimp only at hSw); go_simp; (try with_reducible rfl); done)); (try simp only [Act.put, List.setIfInBounds_toArray, List.set_cons_zero, List.set_cons_succ]))
                (refine wpAnyH_take (i := 4) (oi := ?_) (v := ?_) ?_ (by kernel_rfl) (by decide +kernel) (by decide +kernel) ?_ (Or.inl ⟨?_, ?_⟩) (by first | assumption | exact trivial) ?_; rotate_left 2; (focus (simp only [List.getElem?_toArray, List.getElem?_cons_zero, List.getElem?_cons_succ] <;> rfl)); (focus (exact fun _ _ _ h => h)); (focus rfl); (focus (intro w hSw; (try dsimp only at hSw); go_simp; (try with_reducible rfl); done)); (try simp only [Act.put, List.setIfInBounds_toArray, List.set_cons_zero, List.set_cons_succ]))
                (refine wpAnyH_take (i := 5) (oi := ?_) (v := ?_) ?_ (by kernel_rfl) (by decide +kernel) (by decide +kernel) ?_ (Or.inl ⟨?_, ?_⟩) (by first | assumption | exact trivial) ?_; rotate_left 2; (focus (simp only [List.getElem?_toArray, List.getElem?_cons_zero, List.getElem?_cons_succ] <;> rfl)); (focus (exact fun _ _ _ h => h)); (focus rfl); (focus (intro w hSw; (try dsimp only at hSw); go_simp; (try with_reducible rfl); done)); (try simp only [Act.put, List.setIfInBounds_toArray, List.set_cons_zero, List.set_cons_succ]))
                (refine wpAnyH_take (i := 6) (oi := ?_) (v := ?_) ?_ (by kernel_rfl) (by decide +kernel) (by decide +kernel) ?_ (Or.inl ⟨?_, ?_⟩) (by first | assumption | exact trivial) ?_; rotate_left 2; (focus (simp only [List.getElem?_toArray, List.getElem?_cons_zero, List.getElem?_cons_succ] <;> rfl)); (focus (exact fun _ _ _ h => h)); (focus rfl); (focus (intro w hSw; (try dsimp only at hSw); go_simp; (try with_reducible rfl); done)); (try simp only [Act.put, List.setIfInBounds_toArray, List.set_cons_zero, List.set_cons_succ]))
                (refine wpAnyH_take (i := 7) (oi := ?_) (v := ?_) ?_ (by kernel_rfl) (by decide +kernel) (by decide +kernel) ?_ (Or.inl ⟨?_, ?_⟩) (by first | assumption | exact trivial) ?_; rotate_left 2; (focus (simp only [List.getElem?_toArray, List.getElem?_cons_zero, List.getElem?_cons_succ] <;> rfl)); (focus (exact fun _ _ _ h => h)); (focus rfl); (focus (intro w hSw; (try dsimp only at hSw); go_simp; (try with_reducible rfl); done)); (try simp only [Act.put, List.setIfInBounds_toArray, List.set_cons_zero, List.set_cons_succ]))
                (refine wpAnyH_take (i := 8) (oi := ?_) (v := ?_) ?_ (by kernel_rfl) (by decide +kernel) (by decide +kernel) ?_ (Or.inl ⟨?_, ?_⟩) (by first | assumption | exact trivial) ?_; rotate_left 2; (focus (simp only [List.getElem?_toArray, List.getElem?_cons_zero, List.getElem?_cons_succ] <;> rfl)); (focus (exact fun _ _ _ h => h)); (focus rfl); (focus (intro w hSw; (try dsimp only at hSw); go_simp; (try with_reducible rfl); done)); (try simp only [Act.put, List.setIfInBounds_toArray, List.set_cons_zero, List.set_cons_succ]))
                (refine wpAnyH_take (i := 9) (oi := ?_) (v := ?_) ?_ (by kernel_rfl) (by decide +kernel) (by decide +kernel) ?_ (Or.inl ⟨?_, ?_⟩) (by first | assumption | exact trivial) ?_; rotate_left 2; (focus (simp only [List.getElem?_toArray, List.getElem?_cons_zero, List.getElem?_cons_succ] <;> rfl)); (focus (exact fun _ _ _ h => h)); (focus rfl); (focus (intro w hSw; (try dsimp only at hSw); go_simp; (try with_reducible rfl); done)); (try simp only [Act.put, List.setIfInBounds_toArray, List.set_cons_zero, List.set_cons_succ]))
                (refine wpAnyH_take (i := 10) (oi := ?_) (v := ?_) ?_ (by kernel_rfl) (by decide +kernel) (by decide +kernel) ?_ (Or.inl ⟨?_, ?_⟩) (by first | assumption | exact trivial) ?_; rotate_left 2; (focus (simp only [List.getElem?_toArray, List.getElem?_cons_zero, List.getElem?_cons_succ] <;> rfl)); (focus (exact fun _ _ _ h => h)); (focus rfl); (focus (intro w hSw; (try dsimp only at hSw); go_simp; (try with_reducible rfl); done)); (try simp only [Act.put, List.setIfInBounds_toArray, List.set_cons_zero, List.set_cons_succ]))
                (refine wpAnyH_take (i := 11) (oi := ?_) (v := ?_) ?_ (by kernel_rfl) (by decide +kernel) (by decide +kernel) ?_ (Or.inl ⟨?_, ?_⟩) (by first | assumption | exact trivial) ?_; rotate_left 2; (focus (simp only [List.getElem?_toArray, List.getElem?_cons_zero, List.getElem?_cons_succ] <;> rfl)); (focus (exact fun _ _ _ h => h)); (focus rfl); (focus (intro w hSw; (try dsimp only at hSw); go_simp; (try with_reducible rfl); done)); (try simp only [Act.put, List.setIfInBounds_toArray, List.set_cons_zero, List.set_cons_succ]))
                refine wpAnyH_ready (rs := [12]) (by kernel_rfl) (by simp) ?_
                refine AllReadyH.cons (o := ?_) ?_ ?_ AllReadyH.nil
                rotate_left 1
                (focus (simp only [List.getElem?_toArray, List.getElem?_cons_zero, List.getElem?_cons_succ] <;> rfl))
                intro K hK
                go_simp
                go_at_call 106
                refine (HCON.out _ hHeld.2.2).mono ?_
                rintro e w1 ⟨rfl, rfl⟩
                dsimp only
                refine hK.out _ _ ?_ (fun hHeld => ?_)
                · exact hHeld
                clear hK K
                (try simp only [Act.put, List.setIfInBounds_toArray, List.set_cons_zero, List.set_cons_succ])
                (refine wpAnyH_take (i := 13) (oi := ?_) (v := ?_) ?_ (by kernel_rfl) (by decide +kernel) (by decide +kernel) ?_ (Or.inl ⟨?_, ?_⟩) (by first | assumption | exact trivial) ?_; rotate_left 2; (focus (simp only [List.getElem?_toArray, List.getElem?_cons_zero, List.getElem?_cons_succ] <;> rfl)); (focus (exact fun _ _ _ h => h)); (focus rfl); (focus (intro w hSw; (try dsimp only at hSw); go_simp; (try with_reducible rfl); done)); (try simp only [Act.put, List.setIfInBounds_toArray, List.set_cons_zero, List.set_cons_succ]))
                refine wpAnyH_done (by kernel_rfl) ?_ _
                have y1 := hHeld.2.1
                clear hHeld
                go_wp2
                go_roundw
                case rel => exact ⟨q + 1, x1, by omega, by go_num, rfl, hx1, HQ8.out.drew, ⟨fun h => (HDR.out.1 (HGA.out.1 h)).2.2, fun h => HGA.out.2 (HDR.out.2 ⟨by simp only; omega, HZ.out, h⟩)⟩⟩
                case measure => simp [intOf]; omega
              · rw [hnz] at HCON0
                have HNO : Hid (¬ PgOk g) := Lib.hid (fun h => by
                  have h3 := (HDR.out.1 (HGA.out.1 (HGAP.out.1 h))).2.1
                  have h4 : nzB g l' (x0 - a) = false := nzB_false.2 (fun j hj => by
                    rw [HL1.out (by omega)]
                    exact h3 (a + j) (by omega) (by simp only; omega))
                  rw [h4] at hnz
                  cases hnz)
                have HCON := Lib.hid HCON0.out
                clear hnz HCON0
                refine wp_region_held_drew (S := (fun w' => w'.cell? ⟨bx, 0, none⟩ = some (.int .i64 (x0 : Int)) ∧ w'.cell? ⟨bx, 1, none⟩ = some (.int .i64 (x1 : Int)) ∧ Bk w' b 512 pageT g)) (by kernel_rfl) (⟨z0, z1, HB8.out.kept (Only.refl (fun _ => False) w8).drew (fun x => x)⟩) (fun hHeld => ?_)
                simp only [List.size_toArray, List.length_cons, List.length_nil, Nat.reduceAdd]
                (refine wpAnyH_take (i := 0) (oi := ?_) (v := ?_) ?_ (by kernel_rfl) (by decide +kernel) (by decide +kernel) ?_ (Or.inl ⟨?_, ?_⟩) (by first | assumption | exact trivial) ?_; rotate_left 2; (focus (simp only [List.getElem?_toArray, List.getElem?_cons_zero, List.getElem?_cons_succ] <;> rfl)); (focus (exact fun _ _ _ h => h)); (focus rfl); (focus (intro w hSw; (try dsimp only at hSw); go_simp; (try with_reducible rfl); done)); (try simp only [Act.put, List.setIfInBounds_toArray, List.set_cons_zero, List.set_cons_succ]))
                (refine wpAnyH_take (i := 1) (oi := ?_) (v := ?_) ?_ (by kernel_rfl) (by decide +kernel) (by decide +kernel) ?_ (Or.inl ⟨?_, ?_⟩) (by first | assumption | exact trivial) ?_; rotate_left 2; (focus (simp only [List.getElem?_toArray, List.getElem?_cons_zero, List.getElem?_cons_succ] <;> rfl)); (focus (exact fun _ _ _ h => h)); (focus rfl); (focus (intro w hSw; (try dsimp only at hSw); go_simp; (try with_reducible rfl); done)); (try simp only [Act.put, List.setIfInBounds_toArray, List.set_cons_zero, List.set_cons_succ]))
                (refine wpAnyH_take (i := 2) (oi := ?_) (v := ?_) ?_ (by kernel_rfl) (by decide +kernel) (by decide +kernel) ?_ (Or.inl ⟨?_, ?_⟩) (by first | assumption | exact trivial) ?_; rotate_left 2; (focus (simp only [List.getElem?_toArray, List.getElem?_cons_zero, List.getElem?_cons_succ] <;> rfl)); (focus (exact fun _ _ _ h => h)); (focus rfl); (focus (intro w hSw; (try dsimp only at hSw); go_simp; (try with_reducible rfl); done)); (try simp only [Act.put, List.setIfInBounds_toArray, List.set_cons_zero, List.set_cons_succ]))
                (refine wpAnyH_take (i := 3) (oi := ?_) (v := ?_) ?_ (by kernel_rfl) (by decide +kernel) (by decide +kernel) ?_ (Or.inl ⟨?_, ?_⟩) (by first | assumption | exact trivial) ?_; rotate_left 2; (focus (simp only [List.getElem?_toArray, List.getElem?_cons_zero, List.getElem?_cons_succ] <;> rfl)); (focus (exact fun _ _ _ h => h)); (focus rfl); (focus (intro w hSw; (try dsimp only at hSw); go_simp; (try with_reducible rfl); done)); (try simp only [Act.put, List.setIfInBounds_toArray, List.set_cons_zero, List.set_cons_succ]))
                (refine wpAnyH_take (i := 4) (oi := ?_) (v := ?_) ?_ (by kernel_rfl) (by decide +kernel) (by decide +kernel) ?_ (Or.inl ⟨?_, ?_⟩) (by first | assumption | exact trivial) ?_; rotate_left 2; (focus (simp only [List.getElem?_toArray, List.getElem?_cons_zero, List.getElem?_cons_succ] <;> rfl)); (focus (exact fun _ _ _ h => h)); (focus rfl); (focus (intro w hSw; (try dsimp only at hSw); go_simp; (try with_reducible rfl); done)); (try simp only [Act.put, List.setIfInBounds_toArray, List.set_cons_zero, List.set_cons_succ]))
                (refine wpAnyH_take (i := 5) (oi := ?_) (v := ?_) ?_ (by kernel_rfl) (by decide +kernel) (by decide +kernel) ?_ (Or.inl ⟨?_, ?_⟩) (by first | assumption | exact trivial) ?_; rotate_left 2; (focus (simp only [List.getElem?_toArray, List.getElem?_cons_zero, List.getElem?_cons_succ] <;> rfl)); (focus (exact fun _ _ _ h => h)); (focus rfl); (focus (intro w hSw; (try dsimp only at hSw); go_simp; (try with_reducible rfl); done)); (try simp only [Act.put, List.setIfInBounds_toArray, List.set_cons_zero, List.set_cons_succ]))
                (refine wpAnyH_take (i := 6) (oi := ?_) (v := ?_) ?_ (by kernel_rfl) (by decide +kernel) (by decide +kernel) ?_ (Or.inl ⟨?_, ?_⟩) (by first | assumption | exact trivial) ?_; rotate_left 2; (focus (simp only [List.getElem?_toArray, List.getElem?_cons_zero, List.getElem?_cons_succ] <;> rfl)); (focus (exact fun _ _ _ h => h)); (focus rfl); (focus (intro w hSw; (try dsimp only at hSw); go_simp; (try with_reducible rfl); done)); (try simp only [Act.put, List.setIfInBounds_toArray, List.set_cons_zero, List.set_cons_succ]))
                (refine wpAnyH_take (i := 7) (oi := ?_) (v := ?_) ?_ (by kernel_rfl) (by decide +kernel) (by decide +kernel) ?_ (Or.inl ⟨?_, ?_⟩) (by first | assumption | exact trivial) ?_; rotate_left 2; (focus (simp only [List.getElem?_toArray, List.getElem?_cons_zero, List.getElem?_cons_succ] <;> rfl)); (focus (exact fun _ _ _ h => h)); (focus rfl); (focus (intro w hSw; (try dsimp only at hSw); go_simp; (try with_reducible rfl); done)); (try simp only [Act.put, List.setIfInBounds_toArray, List.set_cons_zero, List.set_cons_succ]))
                (refine wpAnyH_take (i := 8) (oi := ?_) (v := ?_) ?_ (by kernel_rfl) (by decide +kernel) (by decide +kernel) ?_ (Or.inl ⟨?_, ?_⟩) (by first | assumption | exact trivial) ?_; rotate_left 2; (focus (simp only [List.getElem?_toArray, List.getElem?_cons_zero, List.getElem?_cons_succ] <;> rfl)); (focus (exact fun _ _ _ h => h)); (focus rfl); (focus (intro w hSw; (try dsimp only at hSw); go_simp; (try with_reducible rfl); done)); (try simp only [Act.put, List.setIfInBounds_toArray, List.set_cons_zero, List.set_cons_succ]))
                (refine wpAnyH_take (i := 9) (oi := ?_) (v := ?_) ?_ (by kernel_rfl) (by decide +kernel) (by decide +kernel) ?_ (Or.inl ⟨?_, ?_⟩) (by first | assumption | exact trivial) ?_; rotate_left 2; (focus (simp only [List.getElem?_toArray, List.getElem?_cons_zero, List.getElem?_cons_succ] <;> rfl)); (focus (exact fun _ _ _ h => h)); (focus rfl); (focus (intro w hSw; (try dsimp only at hSw); go_simp; (try with_reducible rfl); done)); (try simp only [Act.put, List.setIfInBounds_toArray, List.set_cons_zero, List.set_cons_succ]))
                (refine wpAnyH_take (i := 10) (oi := ?_) (v := ?_) ?_ (by kernel_rfl) (by decide +kernel) (by decide +kernel) ?_ (Or.inl ⟨?_, ?_⟩) (by first | assumption | exact trivial) ?_; rotate_left 2; (focus (simp only [List.getElem?_toArray, List.getElem?_cons_zero, List.getElem?_cons_succ] <;> rfl)); (focus (exact fun _ _ _ h => h)); (focus rfl); (focus (intro w hSw; (try dsimp only at hSw); go_simp; (try with_reducible rfl); done)); (try simp only [Act.put, List.setIfInBounds_toArray, List.set_cons_zero, List.set_cons_succ]))
                (refine wpAnyH_take (i := 11) (oi := ?_) (v := ?_) ?_ (by kernel_rfl) (by decide +kernel) (by decide +kernel) ?_ (Or.inl ⟨?_, ?_⟩) (by first | assumption | exact trivial) ?_; rotate_left 2; (focus (simp only [List.getElem?_toArray, List.getElem?_cons_zero, List.getElem?_cons_succ] <;> rfl)); (focus (exact fun _ _ _ h => h)); (focus rfl); (focus (intro w hSw; (try dsimp only at hSw); go_simp; (try with_reducible rfl); done)); (try simp only [Act.put, List.setIfInBounds_toArray, List.set_cons_zero, List.set_cons_succ]))
                refine wpAnyH_ready (rs := [12]) (by kernel_rfl) (by simp) ?_
                refine AllReadyH.cons (o := ?_) ?_ ?_ AllReadyH.nil
                rotate_left 1
                (focus (simp only [List.getElem?_toArray, List.getElem?_cons_zero, List.getElem?_cons_succ] <;> rfl))
                intro K hK
                go_simp
                go_at_call 106
                refine (HCON.out _ hHeld.2.2).mono ?_
                rintro e w1 ⟨rfl, rfl⟩
                dsimp only
                refine hK.out _ _ ?_ (fun hHeld => ?_)
                · exact hHeld
                clear hK K
                (try simp only [Act.put, List.setIfInBounds_toArray, List.set_cons_zero, List.set_cons_succ])
                (refine wpAnyH_take (i := 13) (oi := ?_) (v := ?_) ?_ (by kernel_rfl) (by decide +kernel) (by decide +kernel) ?_ (Or.inl ⟨?_, ?_⟩) (by first | assumption | exact trivial) ?_; rotate_left 2; (focus (simp only [List.getElem?_toArray, List.getElem?_cons_zero, List.getElem?_cons_succ] <;> rfl)); (focus (exact fun _ _ _ h => h)); (focus rfl); (focus (intro w hSw; (try dsimp only at hSw); go_simp; (try with_reducible rfl); done)); (try simp only [Act.put, List.setIfInBounds_toArray, List.set_cons_zero, List.set_cons_succ]))
                refine wpAnyH_done (by kernel_rfl) ?_ _
                clear hHeld
                go_wp2
                go_ret
                exact sound_no HNO.out (HQ5.out.trans HQ8.out.drew)
          · have HYES : Hid (PgOk g) := Lib.hid (HGAP.out.2 (HGA.out.2 (by rw [List.drop_of_length_le (by rw [HPPL.out]; omega)]; trivial)))
            go_wp2
            go_ret
            exact sound_yes HYES.out (HQ5.out.trans HQW.out)

end Go.Proofs.Ytbibmgcklilpmaa
