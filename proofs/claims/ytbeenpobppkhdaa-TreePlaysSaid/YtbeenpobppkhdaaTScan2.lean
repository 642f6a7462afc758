/- The contract of a node's scan, at a node over others; at every node. No condition. -/
import Derived.Test.YtbeenpobppkhdaaTScan
namespace Go.Lap
theorem ents_append (xs ys : List EV) : ents (xs ++ ys) = ents xs ++ ents ys := List.map_append

theorem flat_take {ks : List Kid} {i : Nat} {x : Kid} (h : ks[i]? = some x) : flat (ks.take (i + 1)) = flat (ks.take i) ++ x.xs := by
  rw [take_succ_get h, flat, List.flatMap_append]
  simp

/-- All of a kid stand ahead of the next one's first. -/
theorem next_keys {ks : List Kid} (hs : Rising (ents (flat ks))) {i : Nat} {x y : Kid} (hx : ks[i]? = some x) (hy : ks[i + 1]? = some y) {a : EV} (ha : a ∈ x.xs) (hne : y.xs ≠ []) : cmpB a.e.key (hd y.xs).e.key ≤ 0 := by
  have e : flat ks = flat (ks.take (i + 1)) ++ flat (ks.drop (i + 1)) := by rw [← List.flatMap_append, List.take_append_drop]
  rw [e] at hs
  unfold ents Rising at hs
  rw [List.map_append, List.pairwise_append] at hs
  refine cmpE_key (hs.2.2 _ (List.mem_map.2 ⟨a, ?_, rfl⟩) _ (List.mem_map.2 ⟨_, ?_, rfl⟩))
  · rw [flat_take hx]; exact List.mem_append_right _ ha
  · exact List.mem_flatMap.2 ⟨y, List.mem_of_getElem? (i := 0) (by rw [List.getElem?_drop]; exact hy), hd_mem hne⟩

/-- From a kid on no key is less than its first. -/
theorem from_keys {ks : List Kid} (hs : Rising (ents (flat ks))) {i : Nat} {x : Kid} (hx : ks[i]? = some x) (hne : x.xs ≠ []) {a : EV} (ha : a ∈ flat (ks.drop i)) : cmpB (hd x.xs).e.key a.e.key ≤ 0 := by
  have e : flat ks = flat (ks.take i) ++ flat (ks.drop i) := by rw [← List.flatMap_append, List.take_append_drop]
  rw [e] at hs
  unfold ents Rising at hs
  rw [List.map_append, List.pairwise_append] at hs
  have hd0 : (flat (ks.drop i))[0]? = some (hd x.xs) := by
    have hil := (List.getElem?_eq_some_iff.1 hx).1
    rw [List.drop_eq_getElem_cons hil, flat, List.flatMap_cons]
    have : ks[i] = x := by rw [List.getElem?_eq_getElem hil] at hx; injection hx
    rw [this, List.getElem?_append_left (List.length_pos_iff.2 hne)]
    exact hd_get hne
  obtain ⟨j, hj⟩ := List.mem_iff_getElem?.1 ha
  exact Rising.keys (l := ents (flat (ks.drop i))) hs.2.1 (Nat.zero_le j) (by rw [ents, List.getElem?_map, hd0]; rfl) (by rw [ents, List.getElem?_map, hj]; rfl)
end Go.Lap
namespace Go.Proofs.Ytbeenpobppkhdaa
open Go.RowKit Go.Lap

def ScanIH (K : Nat → Prop) (h : Nat) : Prop := ∀ (F Sl Sh : Nat → Prop) (lo hi : List Nat) (Al Ah : Option Addr) (cl ch : Nat) (w : World) (b : Nat) (xs ys : List EV) (v : Value), NodeAt K h w b F xs → Reads K w F v Sl Sh lo hi Al Ah → Rising (ents xs) → RowAt w v ys → ys.length + xs.length ≤ 40000 →
  Calls Try.prog 32 #[ptrV b, .slice Al lo.length cl, .slice Ah hi.length ch, v] w (ScanPost w v ys (scanE lo hi (ents xs)))

set_option maxHeartbeats 8000000 in
set_option maxRecDepth 100000 in
theorem scan_inner {K F Sl Sh : Nat → Prop} {lo hi : List Nat} {Al Ah : Option Addr} {cl ch h : Nat} {w : World} {b : Nat} {ks : List Kid} {ys : List EV} {v0 u0 v : Value} (hih : ScanIH K h) (hl : Inner (NodeAt K h) w b F v0 u0 ks) (hR : Reads K w F v Sl Sh lo hi Al Ah) (hs : Rising (ents (flat ks))) (hrow : RowAt w v ys) (hn : ys.length + (flat ks).length ≤ 40000) :
    Calls Try.prog 32 #[ptrV b, .slice Al lo.length cl, .slice Ah hi.length ch, v] w (ScanPost w v ys (scanE lo hi (ents (flat ks)))) := by
  have hhl : (heads ks).length = ks.length := by simp
  have h2 := hl.two
  obtain ⟨g, c0, hv0, hc0, _⟩ : ∃ g c, v0 = .slice (some ⟨g, 0, none⟩) ks.length c ∧ ks.length ≤ c ∧ c ≤ maxLen := by
    rcases owns_cases hl.row with ⟨_, e⟩ | ⟨g, c, e, h1, h2'⟩
    · omega
    · rw [hhl] at e h1
      exact ⟨g, c, e, h1, h2'⟩
  obtain ⟨gu, cu, hu0, hcu, _⟩ := hl.form
  obtain ⟨n, hnn⟩ : ∃ n, ks.length = n := ⟨_, rfl⟩
  obtain ⟨nh, hnh⟩ : ∃ nh, hi.length = nh := ⟨_, rfl⟩
  have hnk : n ≤ 40000 := by have := flat_le (fun x hx => (hl.kid x hx).1); omega
  rw [hnn] at hv0 hu0
  have b0 : w.cell? ⟨b, 0, none⟩ = some (.slice (some ⟨g, 0, none⟩) n c0) := by rw [cell_of hl.box, ← hv0]; rfl
  have HNN := Lib.hid hnn
  have HNH := Lib.hid hnh
  have HI := Lib.hid hl
  have HR := Lib.hid hR
  have HS := Lib.hid hs
  have HV0 := Lib.hid hv0
  have HU0 := Lib.hid hu0
  have HO0 := Lib.hid (OutW.start hrow)
  have HIH := Lib.hid hih
  have HN4 := Lib.hid hn
  rw [hnh]
  obtain ⟨POST, hPOST⟩ : ∃ POST, ScanPost w v ys (scanE lo hi (ents (flat ks))) = POST := ⟨_, rfl⟩
  rw [hPOST]
  have HPOST := Lib.hid hPOST
  clear hl hR hs hrow hnn hnh hPOST hv0 hu0 hn hc0 hcu hih hhl h2
  go_enter Try.func32, Try.ntmps32
  go_wp2_with fail
  clear b0
  go_loopw [16, 3, 9, 10] (fun ci cv _ _ wr => ∃ (i : Nat) (v' : Value) (zs : List EV), i ≤ n ∧ ci = .int .i64 (i : Int) ∧ cv = v' ∧ OutW w wr v v' ys zs ∧ ents zs = scanE lo hi (ents (flat (ks.take i))) ∧ zs.length ≤ (flat (ks.take i)).length) (fun ci _ _ _ _ => n - (intOf ci).toNat)
  case atStart => exact ⟨0, v, [], Nat.zero_le _, rfl, rfl, HO0.out, rfl, Nat.le_refl _⟩
  case round =>
    obtain ⟨i, v', zs, hi', rfl, rfl, hO, hz, hzl⟩ := hrel
    clear HO0
    have HO := Lib.hid hO
    have HZ := Lib.hid hz
    clear hz
    obtain ⟨Av, cv, hvv, hcv, hcvm, _⟩ := own_form hO.row
    obtain ⟨m, hm⟩ : ∃ m, (ys ++ zs).length = m := ⟨_, rfl⟩
    rw [hm] at hvv hcv
    have HM := Lib.hid hm
    subst hvv
    clear hO hm
    by_cases hlt : i < n
    · obtain ⟨x, hx⟩ : ∃ x, ks[i]? = some x := ⟨_, List.getElem?_eq_getElem (by have := HNN.out; omega)⟩
      have hxm : x ∈ ks := List.mem_of_getElem? hx
      have hxne := (HI.out.kid x hxm).1
      have hxh : (heads ks)[i]? = some (hd x.xs) := by rw [heads, List.getElem?_map, hx]; rfl
      have hlimv : ∀ k, v0.ownBlock = some k → v.ownBlock ≠ some k := fun k e => (HR.out.lim k (Or.inl (HI.out.foot.2.1 k e))).2
      have hlimu : ∀ k, u0.ownBlock = some k → v.ownBlock ≠ some k := fun k e => (HR.out.lim k (Or.inl (HI.out.foot.2.2 k e))).2
      have hrow0 := owns_kept HI.out.row HO.out.only hlimv
      rw [HV0.out] at hrow0
      obtain ⟨r0, r1, r2⟩ := row_at hrow0 hxh (Only.refl _ _)
      have hkx := (HI.out.kid x hxm).2.key _ (hd_mem hxne)
      have hq1 : Quiet wr (wr.alloc (.cells #[.slice (hd x.xs).A (hd x.xs).e.key.length (hd x.xs).c, .int .i64 (hd x.xs).e.pg, .int .i64 (hd x.xs).e.sl] 34)) := (Only.refl _ _).alloc _
      have hO1 := HO.out.quietly hq1
      have HO1 := Lib.hid hO1
      have HR1 := Lib.hid (HR.out.on hO1)
      have HK1 := Lib.hid (hkx.kept hO1.only (fun k z => (HR.out.lim k (Or.inr (Or.inl z))).2))
      have hbx := hO1.only.get HI.out.box (HR.out.lim b (Or.inl HI.out.foot.1)).2
      rw [HV0.out, HU0.out] at hbx
      have HLF := Lib.hid (leaf_any b _ _ _ _ _ hbx)
      have b0 : (wr.alloc (.cells #[.slice (hd x.xs).A (hd x.xs).e.key.length (hd x.xs).c, .int .i64 (hd x.xs).e.pg, .int .i64 (hd x.xs).e.sl] 34)).cell? ⟨b, 0, none⟩ = some (.slice (some ⟨g, 0, none⟩) n c0) := by rw [cell_of hbx]; rfl
      have b1 : (wr.alloc (.cells #[.slice (hd x.xs).A (hd x.xs).e.key.length (hd x.xs).c, .int .i64 (hd x.xs).e.pg, .int .i64 (hd x.xs).e.sl] 34)).cell? ⟨b, 1, none⟩ = some (.slice (some ⟨gu, 0, none⟩) n cu) := by rw [cell_of hbx]; rfl
      have hrow1 := owns_kept HI.out.row hO1.only hlimv
      rw [HV0.out] at hrow1
      have HROW1 := Lib.hid hrow1
      have hkids := owns_kept HI.out.kids hO1.only hlimu
      rw [HU0.out] at hkids
      have p1 : (wr.alloc (.cells #[.slice (hd x.xs).A (hd x.xs).e.key.length (hd x.xs).c, .int .i64 (hd x.xs).e.pg, .int .i64 (hd x.xs).e.sl] 34)).cell? ⟨gu, i, none⟩ = some (ptrV x.b) := by
        have := hkids.cells rfl i (ptrV x.b) (by rw [kptrs, List.getElem?_map, hx]; rfl)
        rw [add_none, Nat.zero_add] at this
        exact this
      obtain ⟨t0, t1, t2⟩ := ent_cells (alloc_new wr (.cells #[.slice (hd x.xs).A (hd x.xs).e.key.length (hd x.xs).c, .int .i64 (hd x.xs).e.pg, .int .i64 (hd x.xs).e.sl] 34))
      have HCH := Lib.hid (compare_any (hd x.xs).A Ah (hd x.xs).c ch (hd x.xs).e.key hi K Sh _ HK1.out.rd HR1.out.rh HK1.out.by_ HR1.out.bh)
      rw [HNH.out] at HCH
      have hFT := flat_take hx
      have hrx : Rising (ents x.xs) := by
        have e : flat ks = flat (ks.take (i + 1)) ++ flat (ks.drop (i + 1)) := by rw [← List.flatMap_append, List.take_append_drop]
        have hs := HS.out
        rw [e, hFT] at hs
        unfold ents Rising at hs
        rw [List.map_append, List.pairwise_append, List.map_append, List.pairwise_append] at hs
        exact hs.1.2.1
      have hft4 : (flat (ks.take (i + 1))).length ≤ (flat ks).length := by
        have e : flat ks = flat (ks.take (i + 1)) ++ flat (ks.drop (i + 1)) := by rw [← List.flatMap_append, List.take_append_drop]
        rw [e, List.length_append]; omega
      rw [hFT, List.length_append] at hft4
      have HFT := Lib.hid hFT
      have HSC := Lib.hid (HIH.out x.F Sl Sh lo hi Al Ah cl ch _ x.b x.xs (ys ++ zs) _ (Reads.node (HR.out.sub (fun k z => (HI.out.sub x hxm k z).1)) hO1 (HI.out.kid x hxm).2) (HR1.out.sub (fun k z => (HI.out.sub x hxm k z).1)) hrx hO1.row (by have := HN4.out; rw [List.length_append]; omega))
      rw [HNH.out] at HSC
      have HKI := Lib.hid hx
      have HXNE := Lib.hid hxne
      have d0 : (0 : Int) ≤ (i : Int) := by omega
      have d1 : (i : Int) < (n : Int) := by omega
      clear hx hxm hxne hxh hrow0 hkx hq1 hO1 hbx hrow1 hkids hFT hrx hft4
      by_cases hh0 : nh = 0
      · subst hh0
        go_wp2_with fail
        refine HLF.out.mono ?_
        rintro r w1 ⟨rfl, rfl⟩
        by_cases hlast : i + 1 < n
        · obtain ⟨y, hy⟩ : ∃ y, ks[i + 1]? = some y := ⟨_, List.getElem?_eq_getElem (by have := HNN.out; omega)⟩
          have hym : y ∈ ks := List.mem_of_getElem? hy
          have hyh : (heads ks)[i + 1]? = some (hd y.xs) := by rw [heads, List.getElem?_map, hy]; rfl
          obtain ⟨q0, _, _⟩ := row_at HROW1.out hyh (Only.refl _ _)
          have hky := (HI.out.kid y hym).2.key _ (hd_mem (HI.out.kid y hym).1)
          have HKY := Lib.hid (hky.kept HO1.out.only (fun k z => (HR.out.lim k (Or.inr (Or.inl z))).2))
          have HCL := Lib.hid (compare_any (hd y.xs).A Al (hd y.xs).c cl (hd y.xs).e.key lo K Sl _ HKY.out.rd HR1.out.rl HKY.out.by_ HR1.out.bl)
          have e0 : (0 : Int) ≤ (i : Int) + 1 := by omega
          have e1 : (i : Int) + 1 < (n : Int) := by omega
          have e2 : ((i : Int) + 1).toNat = i + 1 := by omega
          have HYM : Hid (∀ a ∈ x.xs, cmpB a.e.key (hd y.xs).e.key ≤ 0) := fun a ha => next_keys HS.out HKI.out hy ha (HI.out.kid y hym).1
          clear hy hym hyh hky
          go_wp2_with fail
          refine HCL.out.mono ?_
          rintro r w1 ⟨rfl, rfl⟩
          by_cases hlo : cmpB (hd y.xs).e.key lo < 0
          · have HLO := Lib.hid hlo
            clear HSC HLF HCH HCL t0 t1 t2 r0 r1 r2 q0 p1 b0 b1
            go_wp2
            go_roundw
            case rel => exact ⟨i + 1, _, zs, by omega, by go_num, rfl, HO1.out, by
              rw [HFT.out, ents_append, scanE_append, ← HZ.out, scanE_none (l := ents x.xs) (fun e he => ?_), List.append_nil]
              obtain ⟨a, ha, rfl⟩ := List.mem_map.1 he
              exact within_lo (cmpB_le_lt (HYM.out a ha) HLO.out), by rw [HFT.out, List.length_append]; omega⟩
            case measure => simp [intOf]; omega
          · have hlo' : 0 ≤ cmpB (hd y.xs).e.key lo := by omega
            go_wp2_with fail
            refine HSC.out.mono ?_
            rintro r w2 ⟨v2, zs2, rfl, hz2, hO2⟩
            have HO2 := Lib.hid (HO1.out.join hO2)
            have HZ2 := Lib.hid hz2
            have hzl2 : zs2.length ≤ x.xs.length := by
              have h1 : (ents zs2).length ≤ (ents x.xs).length := by rw [hz2]; exact List.length_filter_le _ _
              simpa using h1
            clear hO2 hz2 HSC HLF HCH t0 t1 t2 r0 r1 r2 q0 p1 b0 b1
            go_wp2
            go_roundw
            case rel => exact ⟨i + 1, v2, zs ++ zs2, by omega, by go_num, rfl, HO2.out, by rw [HFT.out, ents_append, ents_append, scanE_append, ← HZ.out, ← HZ2.out], by rw [HFT.out, List.length_append, List.length_append]; omega⟩
            case measure => simp [intOf]; omega
        · have e1 : ¬ (i : Int) + 1 < (n : Int) := by omega
          have q0 : True := trivial
          go_wp2_with fail
          refine HSC.out.mono ?_
          rintro r w2 ⟨v2, zs2, rfl, hz2, hO2⟩
          have HO2 := Lib.hid (HO1.out.join hO2)
          have HZ2 := Lib.hid hz2
          have hzl2 : zs2.length ≤ x.xs.length := by
            have h1 : (ents zs2).length ≤ (ents x.xs).length := by rw [hz2]; exact List.length_filter_le _ _
            simpa using h1
          clear hO2 hz2 HSC HLF HCH t0 t1 t2 r0 r1 r2 q0 p1 b0 b1
          go_wp2
          go_roundw
          case rel => exact ⟨i + 1, v2, zs ++ zs2, by omega, by go_num, rfl, HO2.out, by rw [HFT.out, ents_append, ents_append, scanE_append, ← HZ.out, ← HZ2.out], by rw [HFT.out, List.length_append, List.length_append]; omega⟩
          case measure => simp [intOf]; omega
      · have hh0' : (0 : Int) < (nh : Int) := by omega
        go_wp2_with fail
        refine HCH.out.mono ?_
        rintro r w1 ⟨rfl, rfl⟩
        by_cases hhi : cmpB (hd x.xs).e.key hi < 0
        · have hhi' : ¬ 0 ≤ cmpB (hd x.xs).e.key hi := by omega
          go_wp2_with fail
          refine HLF.out.mono ?_
          rintro r w1 ⟨rfl, rfl⟩
          by_cases hlast : i + 1 < n
          · obtain ⟨y, hy⟩ : ∃ y, ks[i + 1]? = some y := ⟨_, List.getElem?_eq_getElem (by have := HNN.out; omega)⟩
            have hym : y ∈ ks := List.mem_of_getElem? hy
            have hyh : (heads ks)[i + 1]? = some (hd y.xs) := by rw [heads, List.getElem?_map, hy]; rfl
            obtain ⟨q0, _, _⟩ := row_at HROW1.out hyh (Only.refl _ _)
            have hky := (HI.out.kid y hym).2.key _ (hd_mem (HI.out.kid y hym).1)
            have HKY := Lib.hid (hky.kept HO1.out.only (fun k z => (HR.out.lim k (Or.inr (Or.inl z))).2))
            have HCL := Lib.hid (compare_any (hd y.xs).A Al (hd y.xs).c cl (hd y.xs).e.key lo K Sl _ HKY.out.rd HR1.out.rl HKY.out.by_ HR1.out.bl)
            have e0 : (0 : Int) ≤ (i : Int) + 1 := by omega
            have e1 : (i : Int) + 1 < (n : Int) := by omega
            have e2 : ((i : Int) + 1).toNat = i + 1 := by omega
            have HYM : Hid (∀ a ∈ x.xs, cmpB a.e.key (hd y.xs).e.key ≤ 0) := fun a ha => next_keys HS.out HKI.out hy ha (HI.out.kid y hym).1
            clear hy hym hyh hky
            go_wp2_with fail
            refine HCL.out.mono ?_
            rintro r w1 ⟨rfl, rfl⟩
            by_cases hlo : cmpB (hd y.xs).e.key lo < 0
            · have HLO := Lib.hid hlo
              clear HSC HLF HCH HCL t0 t1 t2 r0 r1 r2 q0 p1 b0 b1
              go_wp2
              go_roundw
              case rel => exact ⟨i + 1, _, zs, by omega, by go_num, rfl, HO1.out, by
                rw [HFT.out, ents_append, scanE_append, ← HZ.out, scanE_none (l := ents x.xs) (fun e he => ?_), List.append_nil]
                obtain ⟨a, ha, rfl⟩ := List.mem_map.1 he
                exact within_lo (cmpB_le_lt (HYM.out a ha) HLO.out), by rw [HFT.out, List.length_append]; omega⟩
              case measure => simp [intOf]; omega
            · have hlo' : 0 ≤ cmpB (hd y.xs).e.key lo := by omega
              go_wp2_with fail
              refine HSC.out.mono ?_
              rintro r w2 ⟨v2, zs2, rfl, hz2, hO2⟩
              have HO2 := Lib.hid (HO1.out.join hO2)
              have HZ2 := Lib.hid hz2
              have hzl2 : zs2.length ≤ x.xs.length := by
                have h1 : (ents zs2).length ≤ (ents x.xs).length := by rw [hz2]; exact List.length_filter_le _ _
                simpa using h1
              clear hO2 hz2 HSC HLF HCH t0 t1 t2 r0 r1 r2 q0 p1 b0 b1
              go_wp2
              go_roundw
              case rel => exact ⟨i + 1, v2, zs ++ zs2, by omega, by go_num, rfl, HO2.out, by rw [HFT.out, ents_append, ents_append, scanE_append, ← HZ.out, ← HZ2.out], by rw [HFT.out, List.length_append, List.length_append]; omega⟩
              case measure => simp [intOf]; omega
          · have e1 : ¬ (i : Int) + 1 < (n : Int) := by omega
            have q0 : True := trivial
            go_wp2_with fail
            refine HSC.out.mono ?_
            rintro r w2 ⟨v2, zs2, rfl, hz2, hO2⟩
            have HO2 := Lib.hid (HO1.out.join hO2)
            have HZ2 := Lib.hid hz2
            have hzl2 : zs2.length ≤ x.xs.length := by
              have h1 : (ents zs2).length ≤ (ents x.xs).length := by rw [hz2]; exact List.length_filter_le _ _
              simpa using h1
            clear hO2 hz2 HSC HLF HCH t0 t1 t2 r0 r1 r2 q0 p1 b0 b1
            go_wp2
            go_roundw
            case rel => exact ⟨i + 1, v2, zs ++ zs2, by omega, by go_num, rfl, HO2.out, by rw [HFT.out, ents_append, ents_append, scanE_append, ← HZ.out, ← HZ2.out], by rw [HFT.out, List.length_append, List.length_append]; omega⟩
            case measure => simp [intOf]; omega
        · have hhi' : 0 ≤ cmpB (hd x.xs).e.key hi := by omega
          have HRES : Hid (POST (.returned (.slice Av m cv)) (wr.alloc (.cells #[.slice (hd x.xs).A (hd x.xs).e.key.length (hd x.xs).c, .int .i64 (hd x.xs).e.pg, .int .i64 (hd x.xs).e.sl] 34))) := by
            rw [← HPOST.out]
            refine ⟨_, zs, rfl, ?_, HO1.out⟩
            have e : flat ks = flat (ks.take i) ++ flat (ks.drop i) := by rw [← List.flatMap_append, List.take_append_drop]
            rw [HZ.out, e, ents_append, scanE_append, scanE_none (l := ents (flat (ks.drop i))) (fun e he => ?_), List.append_nil]
            obtain ⟨a, ha, rfl⟩ := List.mem_map.1 he
            have h1 := from_keys HS.out HKI.out HXNE.out ha
            exact within_hi (fun e0 => hh0 (by rw [← HNH.out, e0]; rfl)) (fun h2 => by have := cmpB_le_lt h1 h2; omega)
          clear HSC HLF HCH t0 t1 t2 r0 r1 r2 p1 b0 b1
          go_wp2
          exact HRES.out
    · have HRES : Hid (POST (.returned (.slice Av m cv)) wr) := by
        rw [← HPOST.out]
        refine ⟨_, zs, rfl, ?_, HO.out⟩
        rw [HZ.out, List.take_of_length_le (by have := HNN.out; omega)]
      go_wp2
      exact HRES.out

theorem scan_ih (K : Nat → Prop) (h : Nat) : ScanIH K h := by
  induction h with
  | zero =>
    intro F Sl Sh lo hi Al Ah cl ch w b xs ys v ⟨v0, hl⟩ hR hs hrow hn
    exact scan_leaf hl hR hs hrow hn
  | succ h ih =>
    intro F Sl Sh lo hi Al Ah cl ch w b xs ys v ⟨v0, u0, ks, hi', e⟩ hR hs hrow hn
    subst e
    exact scan_inner ih hi' hR hs hrow hn

end Go.Proofs.Ytbeenpobppkhdaa
