/- The document's Scan on its tree; are two rows of entries alike. No condition. -/
import Derived.Test.YtbeenpobppkhdaaTRef4
import Derived.Deep.QuietTactic
import Derived.BigQuiet
namespace Go.Lap
theorem scan_take {lo hi : List Nat} {es : List Ent} {i : Nat} {x : Ent} (h : es[i]? = some x) : scanE lo hi (es.take (i + 1)) = if within lo hi x = true then scanE lo hi (es.take i) ++ [x] else scanE lo hi (es.take i) := by
  rw [take_succ_get h]
  unfold scanE
  rw [List.filter_append]
  by_cases hx : within lo hi x = true
  · rw [if_pos hx, List.filter_cons_of_pos hx]; rfl
  · rw [if_neg hx, List.filter_cons_of_neg hx]; simp

theorem scan_len (lo hi : List Nat) (es : List Ent) : (scanE lo hi es).length ≤ es.length := List.length_filter_le _ _
end Go.Lap
namespace Go.Proofs.Ytbeenpobppkhdaa
open Go.RowKit Go.Lap

def RScanPost (w : World) (F : Nat → Prop) (l : List Ent) (e : Ending) (w' : World) : Prop := ∃ v zs, e = .returned v ∧ ents zs = l ∧ StayR w w' v zs ∧ ∀ z ∈ zs, Keyd w' F z

set_option maxHeartbeats 4000000 in
set_option maxRecDepth 100000 in
theorem ref_scan {w : World} {F : Nat → Prop} {xb : Nat} {es : List Ent} (lo hi : List Nat) (Al Ah : Option Addr) (cl ch : Nat) (Sl Sh : Nat → Prop) (ht : RefIs w F xb es) (hl : Rd w Sl 1 Al lo.length (bytesV lo)) (hh : Rd w Sh 1 Ah hi.length (bytesV hi)) (bl : ∀ x ∈ lo, x < 256) (bh : ∀ x ∈ hi, x < 256) (hn : es.length ≤ 10000) :
    Calls Try.prog 22 #[ptrV xb, .slice Al lo.length cl, .slice Ah hi.length ch] w (RScanPost w F (scanE lo hi es)) := by
  obtain ⟨v, xs, hm, hes, hris⟩ := ht
  subst hes
  obtain ⟨B, cv, hv, _, _, hrd⟩ := own_form hm.row
  subst hv
  obtain ⟨n, hnn⟩ : ∃ n, xs.length = n := ⟨_, rfl⟩
  have HN := Lib.hid hnn
  have hxl : n ≤ 10000 := by rw [← hnn]; simpa using hn
  have b0 : w.cell? ⟨xb, 0, none⟩ = some (.slice B n cv) := by rw [cell_of hm.box, hnn]; rfl
  have HM := Lib.hid hm
  have HRD := Lib.hid hrd
  have HL := Lib.hid hl
  have HH := Lib.hid hh
  have BL := Lib.hid bl
  have BH := Lib.hid bh
  obtain ⟨es, hes⟩ : ∃ es, ents xs = es := ⟨_, rfl⟩
  have HES := Lib.hid hes
  have hel : es.length = n := by rw [← hes, List.length_map, hnn]
  have HEL := Lib.hid hel
  obtain ⟨nh, hnh⟩ : ∃ nh, hi.length = nh := ⟨_, rfl⟩
  have HNH := Lib.hid hnh
  rw [hes, hnh]
  obtain ⟨POST, hPOST⟩ : ∃ POST, RScanPost w F (scanE lo hi es) = POST := ⟨_, rfl⟩
  rw [hPOST]
  have HPOST := Lib.hid hPOST
  clear hm hrd hl hh bl bh hes hPOST hn hel hnn hris hnh
  go_enter Try.func22, Try.ntmps22
  go_wp2_with fail
  go_loopw [17, 7, 9] (fun ci cv' _ wr => ∃ (i : Nat) (v' : Value) (zs : List EV), i ≤ n ∧ ci = .int .i64 (i : Int) ∧ v' = cv' ∧ StayR w wr v' zs ∧ ents zs = scanE lo hi (es.take i) ∧ ∀ z ∈ zs, z ∈ xs) (fun ci _ _ _ => n - (intOf ci).toNat)
  case atStart => exact ⟨0, _, [], Nat.zero_le _, rfl, rfl, ⟨Only.refl _ _, World.ownsRow_nil _ _ _ _, fun k e => by cases e⟩, rfl, fun z hz => by cases hz⟩
  case round =>
    obtain ⟨i, v', zs, hi', rfl, rfl, hW, hz, hsub⟩ := hrel
    have HW := Lib.hid hW
    have HZ := Lib.hid hz
    have HSUB := Lib.hid hsub
    obtain ⟨Av, cv', hvv, _, _, _⟩ := own_form hW.row
    obtain ⟨q, hq⟩ : ∃ q, zs.length = q := ⟨_, rfl⟩
    have hqn : q ≤ i := by
      have h1 := congrArg List.length hz
      rw [List.length_map, hq] at h1
      have h2 := scan_len lo hi (es.take i)
      rw [List.length_take] at h2
      omega
    have HQL := Lib.hid hq
    rw [hq] at hvv
    subst hvv
    clear hW hq hz hsub b0
    by_cases hlt : i < n
    · obtain ⟨x, hx⟩ : ∃ x, xs[i]? = some x := ⟨_, List.getElem?_eq_getElem (by have := HN.out; omega)⟩
      have hxe : es[i]? = some x.e := by rw [← HES.out, List.getElem?_map, hx]; rfl
      have HXM := Lib.hid (List.mem_of_getElem? hx)
      obtain ⟨b, off, rfl, r0, r1, r2⟩ := row_cells (HRD.out.kept HW.out.quiet (fun _ _ x => x)) hx
      have HST := Lib.hid (scan_take (lo := lo) (hi := hi) hxe)
      have HWA := Lib.hid (HW.out.quietly ((Only.refl (fun _ => False) wr).alloc (.cells #[.slice x.A x.e.key.length x.c, .int .i64 x.e.pg, .int .i64 x.e.sl] 31)))
      obtain ⟨x0, x1, x2⟩ := rent_cells (alloc_new wr (.cells #[.slice x.A x.e.key.length x.c, .int .i64 x.e.pg, .int .i64 x.e.sl] 31))
      have hkx := (HM.out.key x (List.mem_of_getElem? hx)).quietly HWA.out.quiet
      have HL1 := Lib.hid (less_any x.A Al x.c cl x.e.key lo _ _ _ hkx.rd (HL.out.kept HWA.out.quiet (fun _ _ x => x)) hkx.by_ BL.out)
      have HL2 := Lib.hid (less_any x.A Ah x.c ch x.e.key hi _ _ _ hkx.rd (HH.out.kept HWA.out.quiet (fun _ _ x => x)) hkx.by_ BH.out)
      rw [HNH.out] at HL2
      have HROW : Hid (((wr.alloc (.cells #[.slice x.A x.e.key.length x.c, .int .i64 x.e.pg, .int .i64 x.e.sl] 31)).alloc (.cells #[.slice x.A x.e.key.length x.c, .int .i64 x.e.pg, .int .i64 x.e.sl] 31)).ownsRow 0 31 3 (.slice Av q cv') q (rowV zs)) := by
        have := owns_kept HWA.out.row ((Only.refl (fun _ => False) _).alloc (.cells #[.slice x.A x.e.key.length x.c, .int .i64 x.e.pg, .int .i64 x.e.sl] 31)) (fun _ _ x => x)
        rw [HQL.out] at this
        exact this
      have HQ4 := Lib.hid ((Only.refl (fun _ => False) (wr.alloc (.cells #[.slice x.A x.e.key.length x.c, .int .i64 x.e.pg, .int .i64 x.e.sl] 31))).alloc (.cells #[.slice x.A x.e.key.length x.c, .int .i64 x.e.pg, .int .i64 x.e.sl] 31))
      have HRN : Hid (Rd ((wr.alloc (.cells #[.slice x.A x.e.key.length x.c, .int .i64 x.e.pg, .int .i64 x.e.sl] 31)).alloc (.cells #[.slice x.A x.e.key.length x.c, .int .i64 x.e.pg, .int .i64 x.e.sl] 31)) _ 3 (some ⟨wr.heap.size + 1, 0, none⟩) 1 x.cells) := rd_two wr _ x 31
      have HPUT : Hid (∀ v5 w5, Grew ((wr.alloc (.cells #[.slice x.A x.e.key.length x.c, .int .i64 x.e.pg, .int .i64 x.e.sl] 31)).alloc (.cells #[.slice x.A x.e.key.length x.c, .int .i64 x.e.pg, .int .i64 x.e.sl] 31)) w5 31 3 (.slice Av q cv') v5 (q + 1) (rowV zs ++ x.cells) → within lo hi x.e = true → StayR w w5 v5 (zs ++ [x]) ∧ ents (zs ++ [x]) = scanE lo hi (es.take (i + 1)) ∧ ∀ z ∈ zs ++ [x], z ∈ xs) := fun v5 w5 hg hwi => by
        refine ⟨HWA.out.push HQL.out HQ4.out hg, ?_, fun z hz => ?_⟩
        · rw [HST.out, if_pos hwi, ents_append, HZ.out]; rfl
        · rcases List.mem_append.1 hz with y | y
          · exact HSUB.out z y
          · simp at y; rw [y]; exact HXM.out
      have HNOT : Hid (¬ within lo hi x.e = true → ents zs = scanE lo hi (es.take (i + 1))) := fun hwi => by
        show ents zs = _
        rw [HST.out, if_neg hwi, HZ.out]
      have d0 : (0 : Int) ≤ (i : Int) := by omega
      have d1 : (i : Int) < (n : Int) := by omega
      clear hx hxe hkx
      go_wp2_with fail
      refine HL1.out.mono ?_
      rintro e w2 ⟨rfl, rfl⟩
      clear HL1
      by_cases h1 : cmpB x.e.key lo < 0
      · rw [decide_eq_true h1]
        have HNO := Lib.hid (HNOT.out (fun z => by unfold within at z; rw [decide_eq_false (show ¬ 0 ≤ cmpB x.e.key lo by omega)] at z; simp at z))
        clear h1 HPUT HNOT
        go_wp2
        go_roundw
        case rel => exact ⟨i + 1, _, zs, by omega, by go_num, rfl, HWA.out, HNO.out, HSUB.out⟩
        case measure => simp [intOf]; omega
      · rw [decide_eq_false h1]
        have hlo : decide (0 ≤ cmpB x.e.key lo) = true := decide_eq_true (by omega)
        rcases Nat.eq_zero_or_pos nh with h0 | h0
        · have h2 : hi = [] := List.eq_nil_of_length_eq_zero (by rw [HNH.out]; exact h0)
          have HWI : Hid (within lo hi x.e = true) := by show within lo hi x.e = true; unfold within; rw [hlo, decide_eq_true h2]; rfl
          clear h1 hlo h2 HNH
          subst h0
          go_wp2_with (first
            | (at_builtin; refine app elem_rent rfl (.tmp 37) (.tmp 39) rfl rfl HROW.out rfl HRN.out (one_row [x]) (by unfold maxLen; omega) (by omega) ?_)
            | fail)
          intro v5 w5 hg5
          have HP5 := Lib.hid (HPUT.out v5 w5 hg5 HWI.out)
          clear hg5 HPUT HNOT HROW HRN HQ4 HWA r0 r1 r2 x0 x1 x2 HL2
          go_wp2
          go_roundw
          case rel => exact ⟨i + 1, _, zs ++ [x], by omega, by go_num, rfl, HP5.out.1, HP5.out.2⟩
          case measure => simp [intOf]; omega
        · have h2 : ¬ hi = [] := fun z => by have := HNH.out; rw [z] at this; simp at this; omega
          have h4 : ((nh : Int) == 0) = false := beq_eq_false_iff_ne.2 (by omega)
          have hhi := decide_eq_false h2
          clear h1 h2
          go_wp2_with fail
          refine HL2.out.mono ?_
          rintro e w2 ⟨rfl, rfl⟩
          clear HL2
          by_cases h5 : cmpB x.e.key hi < 0
          · have HWI : Hid (within lo hi x.e = true) := by show within lo hi x.e = true; unfold within; rw [hlo, hhi, decide_eq_true h5]; rfl
            rw [decide_eq_true h5]
            clear h5 hlo hhi
            go_wp2_with (first
              | (at_builtin; refine app elem_rent rfl (.tmp 37) (.tmp 39) rfl rfl HROW.out rfl HRN.out (one_row [x]) (by unfold maxLen; omega) (by omega) ?_)
              | fail)
            intro v5 w5 hg5
            have HP5 := Lib.hid (HPUT.out v5 w5 hg5 HWI.out)
            clear hg5 HPUT HNOT HROW HRN HQ4 HWA r0 r1 r2 x0 x1 x2 h4
            go_wp2
            go_roundw
            case rel => exact ⟨i + 1, _, zs ++ [x], by omega, by go_num, rfl, HP5.out.1, HP5.out.2⟩
            case measure => simp [intOf]; omega
          · have HNO := Lib.hid (HNOT.out (fun z => by unfold within at z; rw [hlo, hhi, decide_eq_false h5] at z; simp at z))
            rw [decide_eq_false h5]
            clear h5 hlo hhi HPUT HNOT
            go_wp2
            go_roundw
            case rel => exact ⟨i + 1, _, zs, by omega, by go_num, rfl, HWA.out, HNO.out, HSUB.out⟩
            case measure => simp [intOf]; omega
    · have HRES : Hid (POST (.returned (.slice Av q cv')) wr) := by
        rw [← HPOST.out]
        refine ⟨_, zs, rfl, ?_, HW.out, fun z hz => ((HM.out.key z (HSUB.out z hz)).quietly HW.out.quiet).mono (fun k x => x.1)⟩
        have := HZ.out
        rw [List.take_of_length_le (by have := HEL.out; omega)] at this
        exact this
      go_wp2
      exact HRES.out

set_option maxHeartbeats 2000000 in
set_option maxRecDepth 100000 in
theorem same_rows {w : World} (A B : Option Addr) (n ca cb : Nat) (xs ys : List EV) (S S' K K' : Nat → Prop) (hx : Rd w S 3 A xs.length (rowV xs)) (hy : Rd w S' 3 B ys.length (rowV ys)) (hkx : ∀ x ∈ xs, Keyd w K x) (hky : ∀ y ∈ ys, Keyd w K' y) (he : ents xs = ents ys) (hn : xs.length = n) (hl : n ≤ 10000) :
    Calls Try.prog 21 #[.slice A n ca, .slice B n cb] w fun e w' => e = .returned (.bool true) ∧ Quiet w w' := by
  have HX := Lib.hid hx
  have HY := Lib.hid hy
  have HKX := Lib.hid hkx
  have HKY := Lib.hid hky
  have HE := Lib.hid he
  have HN := Lib.hid hn
  have hyl : ys.length = n := by have := congrArg List.length he; simp at this; omega
  have HYL := Lib.hid hyl
  clear hx hy hkx hky he hn hyl
  go_enter Try.func21, Try.ntmps21
  go_wp2_with fail
  go_loopw [13, 5] (fun ci _ wr => ∃ j : Nat, j ≤ n ∧ ci = .int .i64 (j : Int) ∧ Quiet w wr) (fun ci _ _ => n - (intOf ci).toNat)
  case atStart => exact ⟨0, Nat.zero_le _, rfl, Only.refl _ _⟩
  case round =>
    obtain ⟨j, hj, rfl, hq⟩ := hrel
    have HQ := Lib.hid hq
    clear hq
    by_cases hjn : j < n
    · obtain ⟨z, hz⟩ : ∃ z, xs[j]? = some z := ⟨_, List.getElem?_eq_getElem (by have := HN.out; omega)⟩
      obtain ⟨y, hy⟩ : ∃ y, ys[j]? = some y := ⟨_, List.getElem?_eq_getElem (by have := HYL.out; omega)⟩
      have hzy : z.e = y.e := by
        have := congrArg (fun l => l[j]?) HE.out
        simp only [ents, List.getElem?_map, hz, hy, Option.map_some, Option.some.injEq] at this
        exact this
      obtain ⟨gg, off, hAg, r0, r1, r2⟩ := row_cells (HX.out.kept HQ.out (fun _ _ x => x)) hz
      subst hAg
      obtain ⟨gi, ofi, hAi, s0, s1, s2⟩ := row_cells (HY.out.kept HQ.out (fun _ _ x => x)) hy
      subst hAi
      rw [← hzy] at s0 s1 s2
      have hk1 := (HKX.out z (List.mem_of_getElem? hz)).quietly HQ.out
      have hk2 := (HKY.out y (List.mem_of_getElem? hy)).quietly HQ.out
      rw [show y = ⟨z.e, y.A, y.c⟩ by rw [hzy]] at hk2
      have HSM : Hid (∀ m, Calls Try.prog 13 #[.slice z.A z.e.key.length z.c, .slice y.A z.e.key.length y.c] (wr.drewN m) fun e w' => e = .returned (.bool true) ∧ wr.drewN m = w') := fun m => by
        have := same_any z.A y.A z.c y.c z.e.key z.e.key _ _ _ (hk1.quietly ((Only.refl (fun _ => False) _).drewN m)).rd (hk2.quietly ((Only.refl (fun _ => False) _).drewN m)).rd hk1.by_ hk1.by_
        rw [decide_eq_true rfl] at this
        exact this
      have d0 : (0 : Int) ≤ (j : Int) := by omega
      have d1 : (j : Int) < (n : Int) := by omega
      clear hz hy hzy hk1 hk2
      go_wp2_with fail
      go_quiet ((go_at_call 13; exact quiet_left (HSM.out _)))
      go_wp2
      go_roundw
      case rel => exact ⟨j + 1, by omega, by go_num, HQ.out.drewN _⟩
      case measure => simp [intOf]; omega
    · go_wp2
      go_ret
      exact ⟨rfl, HQ.out⟩

end Go.Proofs.Ytbeenpobppkhdaa
