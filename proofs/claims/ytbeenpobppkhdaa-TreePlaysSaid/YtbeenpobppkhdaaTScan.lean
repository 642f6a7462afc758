/- The contract of a node's scan. No condition. -/
import Derived.Test.YtbeenpobppkhdaaTCopy
import Derived.Test.YtbeenpobppkhdaaTIns2
namespace Go.Lap

theorem scanE_append (lo hi : List Nat) (l m : List Ent) : scanE lo hi (l ++ m) = scanE lo hi l ++ scanE lo hi m := by simp [scanE]

theorem scanE_none {lo hi : List Nat} {l : List Ent} (h : ∀ e ∈ l, within lo hi e = false) : scanE lo hi l = [] := by
  unfold scanE
  rw [List.filter_eq_nil_iff]
  intro e he
  rw [h e he]
  simp

theorem within_hi {lo hi : List Nat} {e : Ent} (h0 : hi ≠ []) (h : ¬ cmpB e.key hi < 0) : within lo hi e = false := by
  unfold within
  rw [decide_eq_false h0, decide_eq_false h]
  simp

theorem within_lo {lo hi : List Nat} {e : Ent} (h : cmpB e.key lo < 0) : within lo hi e = false := by
  unfold within
  rw [decide_eq_false (show ¬ 0 ≤ cmpB e.key lo by omega)]
  simp

theorem within_yes {lo hi : List Nat} {e : Ent} (h : hi = [] ∨ cmpB e.key hi < 0) (h2 : 0 ≤ cmpB e.key lo) : within lo hi e = true := by
  unfold within
  rw [decide_eq_true h2]
  rcases h with h | h
  · rw [decide_eq_true h]; rfl
  · rw [decide_eq_true h]; simp

theorem Rising.keys {l : List Ent} (h : Rising l) {i j : Nat} {x y : Ent} (hij : i ≤ j) (hi : l[i]? = some x) (hj : l[j]? = some y) : cmpB x.key y.key ≤ 0 := by
  rcases Nat.lt_or_ge i j with z | z
  · exact cmpE_key (h.get z hi hj)
  · have : i = j := by omega
    subst this
    rw [hi] at hj
    injection hj with hj
    rw [hj, cmpB_self]
    omega

theorem take_succ_get {α : Type} {l : List α} {i : Nat} {x : α} (h : l[i]? = some x) : l.take (i + 1) = l.take i ++ [x] := by
  rw [List.take_add_one, h]; rfl

end Go.Lap
namespace Go.Proofs.Ytbeenpobppkhdaa
open Go.RowKit Go.Lap

/-- A row that grows: ys ahead, zs new ones, whose keys are new. -/
structure OutW (w0 w : World) (v0 v : Value) (ys zs : List EV) : Prop where
  only : Only (fun k => v0.ownBlock = some k) w0 w
  row : RowAt w v (ys ++ zs)
  loc : v.ownBlock = v0.ownBlock ∨ ∃ k, v.ownBlock = some k ∧ w0.heap.size ≤ k
  key : ∀ z ∈ zs, Keyd w (fun k => w0.heap.size ≤ k ∧ k < w.heap.size ∧ v.ownBlock ≠ some k) z

section
variable {w0 w w' : World} {v0 v : Value} {ys zs : List EV}

theorem OutW.start (h : RowAt w v ys) : OutW w w v v ys [] := ⟨Only.refl _ _, by rw [List.append_nil]; exact h, Or.inl rfl, fun z hz => by simp at hz⟩

theorem OutW.quietly (h : OutW w0 w v0 v ys zs) (hq : Quiet w w') : OutW w0 w' v0 v ys zs := by
  have hz := hq.size
  exact ⟨h.only.trans' hq (fun _ _ x => x.elim), owns_kept h.row hq (fun _ _ x => x), h.loc, fun z hz' => ((h.key z hz').quietly hq).mono (fun k x => ⟨x.1, by omega, x.2.2⟩)⟩

theorem OutW.join {v' : Value} {zs' : List EV} (h : OutW w0 w v0 v ys zs) (h' : OutW w w' v v' (ys ++ zs) zs') : OutW w0 w' v0 v' ys (zs ++ zs') := by
  have hz0 := h.only.size
  have hz := h'.only.size
  have hv : ∀ k, v.ownBlock = some k → v0.ownBlock = some k ∨ w0.heap.size ≤ k := fun k e => by
    rcases h.loc with x | ⟨j, x, y⟩
    · rw [x] at e; exact Or.inl e
    · rw [x] at e; injection e with e; exact Or.inr (by omega)
  refine ⟨h.only.trans' h'.only (fun k hk e => ?_), by rw [← List.append_assoc]; exact h'.row, ?_, fun z hz' => ?_⟩
  · rcases hv k e with x | x
    · exact x
    · omega
  · rcases h'.loc with x | ⟨j, x, y⟩
    · rw [x]; exact h.loc
    · exact Or.inr ⟨j, x, by omega⟩
  · rcases List.mem_append.1 hz' with x | x
    · refine ((h.key z x).kept h'.only (fun k y => y.2.2)).mono (fun k y => ⟨y.1, by omega, fun e => ?_⟩)
      rcases h'.loc with u | ⟨j, u, t⟩
      · rw [u] at e; exact y.2.2 e
      · rw [u] at e; injection e with e; omega
    · exact (h'.key z x).mono (fun k y => ⟨by omega, y.2.1, y.2.2⟩)

theorem OutW.push {w2 w5 : World} {v5 : Value} {z : EV} (h : OutW w0 w v0 v ys zs) (hq : Quiet w w2) (hk : Keyd w2 (fun k => w.heap.size ≤ k ∧ k < w2.heap.size) z)
    (hg : Grew (w2.alloc (.cells z.cells.toArray 34)) w5 34 3 v v5 ((ys ++ zs).length + 1) (rowV (ys ++ zs) ++ z.cells)) : OutW w0 w5 v0 v5 ys (zs ++ [z]) := by
  have hzq := hq.size
  have hzg := hg.only.size
  rw [World.size_alloc] at hzg
  have hvl : ∀ k, v.ownBlock = some k → k < w.heap.size := fun k e => (h.row.lt k e).2
  have hloc : v5.ownBlock = v.ownBlock ∨ v5.ownBlock = some (w2.heap.size + 1) := by have := hg.loc; rw [World.size_alloc] at this; exact this
  have hj : OutW w w5 v v5 (ys ++ zs) [z] := by
    refine ⟨((hq.mono (T := fun k => v.ownBlock = some k) (fun _ _ x => x.elim)).alloc _).trans' hg.only (fun k _ e => e), by unfold RowAt; rw [List.length_append, rowV_append, rowV_one]; exact hg.own, ?_, fun y hy => ?_⟩
    · rcases hloc with x | x
      · exact Or.inl x
      · exact Or.inr ⟨_, x, by omega⟩
    · simp at hy
      subst hy
      refine ((hk.quietly ((Only.refl (fun _ => False) w2).alloc _)).kept hg.only (fun k x e => by have := hvl k e; omega)).mono (fun k x => ⟨x.1, by omega, fun e => ?_⟩)
      rcases hloc with u | u
      · rw [u] at e; have := hvl k e; omega
      · rw [u] at e; injection e with e; omega
  exact h.join hj

/-- What is read while the row grows. -/
structure Reads (K : Nat → Prop) (w : World) (F : Nat → Prop) (v : Value) (Sl Sh : Nat → Prop) (lo hi : List Nat) (Al Ah : Option Addr) : Prop where
  rl : Rd w Sl 1 Al lo.length (bytesV lo)
  rh : Rd w Sh 1 Ah hi.length (bytesV hi)
  bl : ∀ x ∈ lo, x < 256
  bh : ∀ x ∈ hi, x < 256
  lim : ∀ k, F k ∨ K k ∨ Sl k ∨ Sh k → k < w.heap.size ∧ v.ownBlock ≠ some k

theorem Reads.on {K F Sl Sh : Nat → Prop} {lo hi : List Nat} {Al Ah : Option Addr} (h : Reads K w0 F v0 Sl Sh lo hi Al Ah) (ho : OutW w0 w v0 v ys zs) : Reads K w F v Sl Sh lo hi Al Ah := by
  have hz := ho.only.size
  refine ⟨h.rl.kept ho.only (fun k x => (h.lim k (Or.inr (Or.inr (Or.inl x)))).2), h.rh.kept ho.only (fun k x => (h.lim k (Or.inr (Or.inr (Or.inr x)))).2), h.bl, h.bh, fun k x => ⟨by have := (h.lim k x).1; omega, fun e => ?_⟩⟩
  rcases ho.loc with y | ⟨j, y, u⟩
  · rw [y] at e; exact (h.lim k x).2 e
  · rw [y] at e; injection e with e; have := (h.lim k x).1; omega

theorem Reads.sub {K F F' Sl Sh : Nat → Prop} {lo hi : List Nat} {Al Ah : Option Addr} (h : Reads K w F v Sl Sh lo hi Al Ah) (hf : ∀ k, F' k → F k) : Reads K w F' v Sl Sh lo hi Al Ah :=
  ⟨h.rl, h.rh, h.bl, h.bh, fun k x => h.lim k (x.imp (hf k) id)⟩

theorem Reads.node {K F Sl Sh : Nat → Prop} {lo hi : List Nat} {Al Ah : Option Addr} {hh b : Nat} {xs : List EV} (h : Reads K w0 F v0 Sl Sh lo hi Al Ah) (ho : OutW w0 w v0 v ys zs) (hn : NodeAt K hh w0 b F xs) : NodeAt K hh w b F xs :=
  NodeAt.kept ho.only (fun k x => (h.lim k (Or.inr (Or.inl x))).2) hn (fun k x => (h.lim k (Or.inl x)).2)
end

def ScanPost (w : World) (v : Value) (ys : List EV) (l : List Ent) (e : Ending) (w' : World) : Prop := ∃ v' zs, e = .returned v' ∧ ents zs = l ∧ OutW w w' v v' ys zs

set_option maxHeartbeats 4000000 in
set_option maxRecDepth 100000 in
theorem scan_leaf {K F Sl Sh : Nat → Prop} {lo hi : List Nat} {Al Ah : Option Addr} {cl ch : Nat} {w : World} {b : Nat} {xs ys : List EV} {v0 v : Value} (hl : Leaf K w b F xs v0) (hR : Reads K w F v Sl Sh lo hi Al Ah) (hs : Rising (ents xs)) (hrow : RowAt w v ys) (hn : ys.length + xs.length ≤ 40000) :
    Calls Try.prog 32 #[ptrV b, .slice Al lo.length cl, .slice Ah hi.length ch, v] w (ScanPost w v ys (scanE lo hi (ents xs))) := by
  obtain ⟨A0, c0, hv0, hc0, _, hrd⟩ := own_form hl.row
  have b0 : w.cell? ⟨b, 0, none⟩ = some (.slice A0 xs.length c0) := by rw [cell_of hl.box, ← hv0]; rfl
  obtain ⟨n, hnn⟩ : ∃ n, xs.length = n := ⟨_, rfl⟩
  obtain ⟨nh, hnh⟩ : ∃ nh, hi.length = nh := ⟨_, rfl⟩
  have HNN := Lib.hid hnn
  have HNH := Lib.hid hnh
  have HL := Lib.hid hl
  have HR := Lib.hid hR
  have HS := Lib.hid hs
  have HV0 := Lib.hid hv0
  have HO0 := Lib.hid (OutW.start hrow)
  have HRD := Lib.hid hrd
  have hy5 : ys.length + n ≤ 40000 := by omega
  rw [hnn] at b0
  rw [hnh]
  have hel : Hid ((ents xs).length = n) := by show _ = _; simpa using hnn
  obtain ⟨POST, hPOST⟩ : ∃ POST, ScanPost w v ys (scanE lo hi (ents xs)) = POST := ⟨_, rfl⟩
  rw [hPOST]
  have HPOST := Lib.hid hPOST
  clear hl hR hs hrow hrd hnn hnh hPOST hv0 hn hc0
  go_enter Try.func32, Try.ntmps32
  go_wp2_with fail
  clear b0
  go_loopw [16, 3, 9, 10] (fun ci cv _ _ wr => ∃ (i : Nat) (v' : Value) (zs : List EV), i ≤ n ∧ ci = .int .i64 (i : Int) ∧ cv = v' ∧ OutW w wr v v' ys zs ∧ ents zs = scanE lo hi ((ents xs).take i) ∧ zs.length ≤ i) (fun ci _ _ _ _ => n - (intOf ci).toNat)
  case atStart => exact ⟨0, v, [], Nat.zero_le _, rfl, rfl, HO0.out, rfl, Nat.le_refl _⟩
  case round =>
    obtain ⟨i, v', zs, hi', rfl, rfl, hO, hz, hzl⟩ := hrel
    clear HO0
    have HO := Lib.hid hO
    have HZ := Lib.hid hz
    clear hz
    obtain ⟨Av, cv, hvv, hcv, hcvm, _⟩ := own_form hO.row
    obtain ⟨m, hm⟩ : ∃ m, (ys ++ zs).length = m := ⟨_, rfl⟩
    rw [hm] at hvv hcv
    have hm4 : m ≤ 40000 := by rw [← hm, List.length_append]; omega
    have HM := Lib.hid hm
    subst hvv
    clear hO hm
    by_cases hlt : i < n
    · obtain ⟨x, hx⟩ : ∃ x, xs[i]? = some x := ⟨_, List.getElem?_eq_getElem (by have := HNN.out; omega)⟩
      have hxe : (ents xs)[i]? = some x.e := by rw [ents, List.getElem?_map, hx]; rfl
      have hvF : ∀ k, v0.ownBlock = some k → v.ownBlock ≠ some k := fun k e => (HR.out.lim k (Or.inl (HL.out.foot.2 k e))).2
      have hrd' := HRD.out.kept HO.out.only (fun k e => hvF k e)
      obtain ⟨g, off, hA0, r0, r1, r2⟩ := row_cells hrd' hx
      subst hA0
      have hkx : Keyd wr K x := (HL.out.key x (List.mem_of_getElem? hx)).kept HO.out.only (fun k y => (HR.out.lim k (Or.inr (Or.inl y))).2)
      have HKX := Lib.hid hkx
      have HXE := Lib.hid hxe
      have hq1 : Quiet wr (wr.alloc (.cells #[.slice x.A x.e.key.length x.c, .int .i64 x.e.pg, .int .i64 x.e.sl] 34)) := (Only.refl _ _).alloc _
      have HO1 := Lib.hid (HO.out.quietly hq1)
      have HR1 := Lib.hid (HR.out.on HO1.out)
      have HK1 := Lib.hid (hkx.quietly hq1)
      have HLF := Lib.hid (leaf_any b v0 none 0 0 _ (HO1.out.only.get HL.out.box (HR.out.lim b (Or.inl HL.out.foot.1)).2))
      obtain ⟨t0, t1, t2⟩ := ent_cells (alloc_new wr (.cells #[.slice x.A x.e.key.length x.c, .int .i64 x.e.pg, .int .i64 x.e.sl] 34))
      have HCL := Lib.hid (compare_any x.A Al x.c cl x.e.key lo K Sl _ HK1.out.rd HR1.out.rl HK1.out.by_ HR1.out.bl)
      have HCH := Lib.hid (compare_any x.A Ah x.c ch x.e.key hi K Sh _ HK1.out.rd HR1.out.rh HK1.out.by_ HR1.out.bh)
      rw [HNH.out] at HCH
      have HCO := Lib.hid (copyOf_any x.e x.A x.c K _ HK1.out.rd (by have := HK1.out.len; omega))
      have d0 : (0 : Int) ≤ (i : Int) := by omega
      have d1 : (i : Int) < (n : Int) := by omega
      have HTK := Lib.hid (take_succ_get hxe)
      clear hx hxe hrd' hkx hq1
      by_cases hh0 : nh = 0
      · subst hh0
        have HHI : Hid (hi = [] ∨ cmpB x.e.key hi < 0) := Or.inl (List.eq_nil_of_length_eq_zero HNH.out)
        go_wp2_with fail
        refine HLF.out.mono ?_
        rintro r w1 ⟨rfl, rfl⟩
        go_wp2_with fail
        refine HCL.out.mono ?_
        rintro r w1 ⟨rfl, rfl⟩
        by_cases hlo : 0 ≤ cmpB x.e.key lo
        · have HLO := Lib.hid hlo
          go_wp2_with fail
          refine HCO.out.mono ?_
          rintro r w2 ⟨A2, c2, rfl, hq2, hrd2⟩
          have HQ2 := Lib.hid hq2
          have HRD2 := Lib.hid hrd2
          have hrow2 := owns_kept (owns_kept HO1.out.row hq2 (fun _ _ x => x)) ((Only.refl (fun _ => False) w2).alloc (.cells #[.slice A2 x.e.key.length c2, .int .i64 x.e.pg, .int .i64 x.e.sl] 34)) (fun _ _ x => x)
          rw [HM.out] at hrow2
          have HROW2 := Lib.hid hrow2
          clear hq2 hrd2 hrow2 t0 t1 t2 r0 r1 r2 HLF HCL HCH HCO
          go_wp2_with (at_builtin; refine app elem_ent rfl (.tmp 38) (.tmp 41) rfl rfl HROW2.out rfl (Rd.new w2 3 1 [.slice A2 x.e.key.length c2, .int .i64 x.e.pg, .int .i64 x.e.sl] 34 (fun _ => True) rfl trivial) (one_row [⟨x.e, A2, c2⟩]) (by unfold maxLen; omega) (by omega) ?_)
          intro v5 w5 hg5
          have HO5 := Lib.hid (HO1.out.push (z := ⟨x.e, A2, c2⟩) HQ2.out ⟨HRD2.out, HK1.out.by_, HK1.out.len⟩ (by rw [HM.out]; exact hg5))
          clear hg5 HROW2 HQ2 HRD2
          go_wp2
          go_roundw
          case rel => exact ⟨i + 1, v5, zs ++ [⟨x.e, A2, c2⟩], by omega, by go_num, rfl, HO5.out, by
            rw [HTK.out, scanE_append, ← HZ.out, ents, List.map_append]
            congr 1
            show [x.e] = List.filter (within lo hi) [x.e]
            rw [List.filter_cons, if_pos (within_yes HHI.out HLO.out)]
            rfl, by simp; omega⟩
          case measure => simp [intOf]; omega
        · have HLO := Lib.hid hlo
          clear t0 t1 t2 r0 r1 r2 HLF HCL HCH HCO
          go_wp2
          go_roundw
          case rel => exact ⟨i + 1, _, zs, by omega, by go_num, rfl, HO1.out, by
            rw [HTK.out, scanE_append, ← HZ.out, scanE_none (fun e he => ?_), List.append_nil]
            simp at he
            subst he
            exact within_lo (by have := HLO.out; omega), by omega⟩
          case measure => simp [intOf]; omega
      · have hh0' : (0 : Int) < (nh : Int) := by omega
        go_wp2_with fail
        refine HCH.out.mono ?_
        rintro r w1 ⟨rfl, rfl⟩
        by_cases hhi : cmpB x.e.key hi < 0
        · have HHI : Hid (hi = [] ∨ cmpB x.e.key hi < 0) := Or.inr hhi
          have hhi' : ¬ 0 ≤ cmpB x.e.key hi := by omega
          go_wp2_with fail
          refine HLF.out.mono ?_
          rintro r w1 ⟨rfl, rfl⟩
          go_wp2_with fail
          refine HCL.out.mono ?_
          rintro r w1 ⟨rfl, rfl⟩
          by_cases hlo : 0 ≤ cmpB x.e.key lo
          · have HLO := Lib.hid hlo
            go_wp2_with fail
            refine HCO.out.mono ?_
            rintro r w2 ⟨A2, c2, rfl, hq2, hrd2⟩
            have HQ2 := Lib.hid hq2
            have HRD2 := Lib.hid hrd2
            have hrow2 := owns_kept (owns_kept HO1.out.row hq2 (fun _ _ x => x)) ((Only.refl (fun _ => False) w2).alloc (.cells #[.slice A2 x.e.key.length c2, .int .i64 x.e.pg, .int .i64 x.e.sl] 34)) (fun _ _ x => x)
            rw [HM.out] at hrow2
            have HROW2 := Lib.hid hrow2
            clear hq2 hrd2 hrow2 t0 t1 t2 r0 r1 r2 HLF HCL HCH HCO
            go_wp2_with (at_builtin; refine app elem_ent rfl (.tmp 38) (.tmp 41) rfl rfl HROW2.out rfl (Rd.new w2 3 1 [.slice A2 x.e.key.length c2, .int .i64 x.e.pg, .int .i64 x.e.sl] 34 (fun _ => True) rfl trivial) (one_row [⟨x.e, A2, c2⟩]) (by unfold maxLen; omega) (by omega) ?_)
            intro v5 w5 hg5
            have HO5 := Lib.hid (HO1.out.push (z := ⟨x.e, A2, c2⟩) HQ2.out ⟨HRD2.out, HK1.out.by_, HK1.out.len⟩ (by rw [HM.out]; exact hg5))
            clear hg5 HROW2 HQ2 HRD2
            go_wp2
            go_roundw
            case rel => exact ⟨i + 1, v5, zs ++ [⟨x.e, A2, c2⟩], by omega, by go_num, rfl, HO5.out, by
              rw [HTK.out, scanE_append, ← HZ.out, ents, List.map_append]
              congr 1
              show [x.e] = List.filter (within lo hi) [x.e]
              rw [List.filter_cons, if_pos (within_yes HHI.out HLO.out)]
              rfl, by simp; omega⟩
            case measure => simp [intOf]; omega
          · have HLO := Lib.hid hlo
            clear t0 t1 t2 r0 r1 r2 HLF HCL HCH HCO
            go_wp2
            go_roundw
            case rel => exact ⟨i + 1, _, zs, by omega, by go_num, rfl, HO1.out, by
              rw [HTK.out, scanE_append, ← HZ.out, scanE_none (fun e he => ?_), List.append_nil]
              simp at he
              subst he
              exact within_lo (by have := HLO.out; omega), by omega⟩
            case measure => simp [intOf]; omega
        · have hhi' : 0 ≤ cmpB x.e.key hi := by omega
          have HRES : Hid (POST (.returned (.slice Av m cv)) (wr.alloc (.cells #[.slice x.A x.e.key.length x.c, .int .i64 x.e.pg, .int .i64 x.e.sl] 34))) := by
            rw [← HPOST.out]
            refine ⟨_, zs, rfl, ?_, HO1.out⟩
            rw [HZ.out]
            conv => rhs; rw [← List.take_append_drop i (ents xs), scanE_append]
            rw [scanE_none (l := (ents xs).drop i) (fun e he => ?_), List.append_nil]
            obtain ⟨j, hj⟩ := List.mem_iff_getElem?.1 he
            rw [List.getElem?_drop] at hj
            have := HS.out.keys (show i ≤ i + j by omega) HXE.out hj
            exact within_hi (fun e0 => hh0 (by rw [← HNH.out, e0]; rfl)) (fun h2 => by have := cmpB_le_lt this h2; omega)
          clear t0 t1 t2 r0 r1 r2 HLF HCL HCH HCO
          go_wp2
          exact HRES.out
    · have HRES : Hid (POST (.returned (.slice Av m cv)) wr) := by
        rw [← HPOST.out]
        refine ⟨_, zs, rfl, ?_, HO.out⟩
        rw [HZ.out, List.take_of_length_le (by have := hel.out; omega)]
      go_wp2
      exact HRES.out

end Go.Proofs.Ytbeenpobppkhdaa
