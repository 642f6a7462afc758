/- HeapSteady: as many versions of one size as ever were there fit always, no page more is taken. For every input. -/
import Derived.Test.YtbibmgcklilpmaaHeapTids
import Derived.Test.YtbibmgcklilpmaaOpen2
import Derived.Test.YtbibmgcklilpmaaPageFills
namespace Go.Proofs.Ytbibmgcklilpmaa
open Go.RowKit Go.Lap

/-- The law's world: a heap, a version in its box, a row of places. -/
structure SteadyW (w wr : World) (hb pb tb db k : Nat) (v : Value) (H : List (List (Option Tup))) (left : Nat) (l : List (Int × Int)) : Prop where
  law : LawW w wr (fun j => j = tb ∨ j = db ∨ v.ownBlock = some j) hb pb H left
  box : wr.heap[tb]? = some (.cells #[.int .u64 1, .int .u64 1, .int .u64 0, .int .i64 (-1), .int .i64 (-1), .slice (some ⟨db, 0, none⟩) k 200] 54 (0, 0))
  data : Bk wr db 200 5 (fun _ => 0)
  row : TidsAt wr v l
  own : w.heap.size ≤ tb ∧ w.heap.size ≤ db ∧ (∀ j, v.ownBlock = some j → w.heap.size ≤ j)

section
variable {w wr w' : World} {hb pb tb db k : Nat} {v : Value} {H : List (List (Option Tup))} {left : Nat} {l : List (Int × Int)}

theorem SteadyW.turn {H' : List (List (Option Tup))} {left' : Nat} (h : SteadyW w wr hb pb tb db k v H left l) (ht : Turn w wr w' (fun j => j = tb ∨ j = db ∨ v.ownBlock = some j)) (hl : LawW w w' (fun j => j = tb ∨ j = db ∨ v.ownBlock = some j) hb pb H' left') : SteadyW w w' hb pb tb db k v H' left' l :=
  ⟨hl, ht.get h.box (fun x => x.1 (Or.inl rfl)), h.data.kept ht (fun x => x.1 (Or.inr (Or.inl rfl))), owns_kept h.row ht (fun j e x => x.1 (Or.inr (Or.inr e))), h.own⟩

theorem SteadyW.quietly (h : SteadyW w wr hb pb tb db k v H left l) (hq : Quiet wr w') : SteadyW w w' hb pb tb db k v H left l :=
  ⟨h.law.quietly hq, hq.get h.box (fun x => x), h.data.kept hq (fun x => x), owns_kept h.row hq (fun _ _ x => x), h.own⟩
theorem SteadyW.drewN (h : SteadyW w wr hb pb tb db k v H left l) (n : Nat) : SteadyW w (wr.drewN n) hb pb tb db k v H left l := h.quietly ((Only.refl _ _).drewN n)

theorem SteadyW.insert (h : SteadyW w wr hb pb tb db k v H left l) (hk : k ≤ 200) (hfit : ∀ T ∈ H, Fits T) (hgo : 0 < left ∨ (findH H k).isSome = true) :
    Calls Try.prog 43 #[.pointer (some ⟨hb, 0, none⟩), .agg #[.int .u64 1, .int .u64 1, .int .u64 0, .int .i64 (-1), .int .i64 (-1), .slice (some ⟨db, 0, none⟩) k 200]] wr fun e w' => ∃ pg sl H' left', e = .returned (.tuple #[.agg #[.int .i64 pg, .int .i64 sl], .int .i64 0]) ∧ SteadyW w w' hb pb tb db k v H' left' l ∧ InsAt H H' pg sl (tup0 k) ∧ ((findH H k).isSome = true → H'.length = H.length ∧ left' = left) ∧ H'.length + left' = H.length + left := by
  have hlen : (tup0 k).data.length = k := by simp [tup0]
  obtain ⟨pg, sl, H', left', e, hi, hs, hsum⟩ := hIns_goes (t := tup0 k) (left := left) hfit (tup0_right k hk) (by rw [hlen]; exact hgo)
  rw [hlen] at hs
  have := h.law.insert (tup0 k) (some ⟨db, 0, none⟩) 200 _ (tup0_bytes k) (tup0_rdN h.data hk) (fun j e => by rw [e]; exact Or.inr (Or.inl rfl))
  rw [tup0_vH, e] at this
  refine this.mono ?_
  rintro e w' ⟨rfl, ht, hl⟩
  exact ⟨pg, sl, H', left', rfl, h.turn ht hl, hi, hs, hsum⟩

theorem SteadyW.free (h : SteadyW w wr hb pb tb db k v H left l) (p : Int × Int) (hfit : ∀ T ∈ H, Fits T) (hg : hGet H p.1 p.2 = some (tup0 k)) :
    Calls Try.prog 47 #[.pointer (some ⟨hb, 0, none⟩), .agg #[.int .i64 p.1, .int .i64 p.2]] wr fun e w' => ∃ H', e = .returned (.int .i64 0) ∧ SteadyW w w' hb pb tb db k v H' left l ∧ FreeAt H H' p.1 p.2 (tup0 k) := by
  obtain ⟨H', e, hf⟩ := hFree_goes hfit hg
  have := h.law.free p.1 p.2
  rw [e] at this
  refine this.mono ?_
  rintro e w' ⟨rfl, ht, hl⟩
  exact ⟨H', rfl, h.turn ht hl, hf⟩

/-- One more place in the row. -/
theorem SteadyW.push {v' : Value} {p : Int × Int} {o : Obj} (h : SteadyW w wr hb pb tb db k v H left l) (hg : Grew ((wr.alloc o).alloc (.cells #[.int .i64 p.1, .int .i64 p.2] 51)) w' 51 2 v v' (l.length + 1) (tidsV l ++ tidsV [p])) : SteadyW w w' hb pb tb db k v' H left (l ++ [p]) := by
  have h1 := (h.quietly ((Only.refl (fun _ => False) wr).alloc o)).quietly ((Only.refl (fun _ => False) (wr.alloc o)).alloc (.cells #[.int .i64 p.1, .int .i64 p.2] 51))
  have hv : ∀ j, v.ownBlock = some j → j ≠ tb ∧ j ≠ db := fun j e => by
    obtain ⟨c, hc⟩ := own_blk h.row e
    exact ⟨ne_type hc h.box (by decide), ne_type hc h.data (by decide)⟩
  have hz := hg.only.size
  have hqs := h.law.quiet.size
  have htb := lt_of_get h1.box
  have hdb := h1.data.lt
  refine ⟨h1.law.mine hg.only (fun j e => ⟨Or.inr (Or.inr e), h.own.2.2 j e⟩) (fun j e => ?_), hg.only.get h1.box (fun e => (hv tb e).1 rfl), h1.data.kept hg.only (fun e => (hv db e).2 rfl), ?_, h.own.1, h.own.2.1, fun j e => ?_⟩
  · rcases e with e | e | e
    · exact ⟨Or.inl (Or.inl e), by omega⟩
    · exact ⟨Or.inl (Or.inr (Or.inl e)), by omega⟩
    · refine ⟨?_, (hg.own.lt j e).2⟩
      rcases hg.loc with x | x
      · rw [x] at e; exact Or.inl (Or.inr (Or.inr e))
      · rw [x] at e; injection e with e; exact Or.inr (by omega)
  · unfold TidsAt
    rw [List.length_append, tidsV_append]
    exact hg.own
  · rcases hg.loc with x | x
    · rw [x] at e; exact h.own.2.2 j e
    · rw [x] at e; injection e with e; simp at e; omega

/-- A place of the row is another one. -/
theorem SteadyW.over {g c n : Nat} (h : SteadyW w wr hb pb tb db k (.slice (some ⟨g, 0, none⟩) n c) H left l) (hn : l.length = n) (j : Nat) (q : Int × Int) :
    SteadyW w ((wr.setCell ⟨g, j * 2, none⟩ (.int .i64 q.1)).setCell ⟨g, j * 2 + 1, none⟩ (.int .i64 q.2)) hb pb tb db k (.slice (some ⟨g, 0, none⟩) n c) H left (l.set j q) := by
  subst hn
  have ho : Only (· = g) wr ((wr.setCell ⟨g, j * 2, none⟩ (.int .i64 q.1)).setCell ⟨g, j * 2 + 1, none⟩ (.int .i64 q.2)) := ((Only.refl (· = g) wr).setCell (p := ⟨g, j * 2, none⟩) (fun _ => rfl) _).setCell (p := ⟨g, j * 2 + 1, none⟩) (fun _ => rfl) _
  obtain ⟨d, hd⟩ := own_blk h.row (k := g) rfl
  exact ⟨h.law.mine ho (fun i e => by subst e; exact ⟨Or.inr (Or.inr rfl), h.own.2.2 i rfl⟩) (fun i e => ⟨Or.inl e, by have := h.law.kl i e; have := ho.size; omega⟩), ho.get h.box (ne_type h.box hd (by decide)), h.data.kept ho (ne_type h.data hd (by decide)), tids_set h.row j q, h.own⟩

end

theorem steady_cells {w wr : World} {hb pb tb db k : Nat} {v : Value} {H : List (List (Option Tup))} {left : Nat} {l : List (Int × Int)} (h : SteadyW w wr hb pb tb db k v H left l) :
    wr.cell? ⟨tb, 0, none⟩ = some (.int .u64 1) ∧ wr.cell? ⟨tb, 1, none⟩ = some (.int .u64 1) ∧ wr.cell? ⟨tb, 2, none⟩ = some (.int .u64 0) ∧ wr.cell? ⟨tb, 3, none⟩ = some (.int .i64 (-1)) ∧ wr.cell? ⟨tb, 4, none⟩ = some (.int .i64 (-1)) ∧ wr.cell? ⟨tb, 5, none⟩ = some (.slice (some ⟨db, 0, none⟩) k 200) :=
  ⟨by rw [cell_of h.box]; rfl, by rw [cell_of h.box]; rfl, by rw [cell_of h.box]; rfl, by rw [cell_of h.box]; rfl, by rw [cell_of h.box]; rfl, by rw [cell_of h.box]; rfl⟩

theorem steady_start {w w3 w4 : World} {hb pb db k : Nat} {left : Nat} (hl : LawW w w3 (fun _ => False) hb pb [] left) (hq : Quiet w3 w4) (hd : Bk w4 db 200 5 (fun _ => 0)) (hs : w3.heap.size ≤ db) :
    SteadyW w (w4.alloc (.cells #[.int .u64 1, .int .u64 1, .int .u64 0, .int .i64 (-1), .int .i64 (-1), .slice (some ⟨db, 0, none⟩) k 200] 54)) hb pb w4.heap.size db k (.slice none 0 0) [] left [] := by
  have ha : Quiet w3 (w4.alloc (.cells #[.int .u64 1, .int .u64 1, .int .u64 0, .int .i64 (-1), .int .i64 (-1), .slice (some ⟨db, 0, none⟩) k 200] 54)) := hq.alloc _
  have h3 := hq.size
  have h0 := hl.quiet.size
  have hdl := hd.lt
  refine ⟨hl.fresh ha (fun j e => ?_), alloc_new _ _, hd.kept ((Only.refl (fun _ => False) w4).alloc _) (fun x => x), World.ownsRow_nil _ _ _ _, by omega, by omega, fun j e => by cases e⟩
  rcases e with e | e | e
  · exact ⟨Or.inr (by omega), by rw [e]; simp⟩
  · exact ⟨Or.inr (by omega), by rw [e]; simp; omega⟩
  · cases e

set_option maxHeartbeats 2000000 in
set_option maxRecDepth 100000 in
theorem heapSteady_any (s m : Int) (A : Option Addr) (n cap : Nat) (w : World) (hs : 0 ≤ s ∧ s ≤ 255) (hm : 0 ≤ m ∧ m ≤ 255) (h : IntsIn .u8 w w.heap.size A n) (hn : n ≤ cap) (hcap : cap ≤ maxLen) :
    Calls Try.prog 10 #[.int .u8 s, .int .u8 m, .slice A n cap] w fun e w' => e = .returned (.bool true) ∧ Below w.heap.size w w' := by
  unfold maxLen at hcap
  have HI := Lib.hid h
  clear h
  obtain ⟨k, hk, hk2⟩ : ∃ k : Nat, s % 201 = k ∧ k ≤ 200 := ⟨(s % 201).toNat, by omega, by omega⟩
  obtain ⟨q, hq, hq2⟩ : ∃ q : Nat, m % 30 = q ∧ q ≤ 29 := ⟨(m % 30).toNat, by omega, by omega⟩
  go_enter Try.func10, Try.ntmps10
  go_wp2_with fail
  refine (awake7 _).mono ?_
  rintro e w1 ⟨rfl, hq1⟩
  have HQ1 := Lib.hid hq1
  clear hq1
  go_wp2_with fail
  refine (pool_new 256 (by omega) _).mono ?_
  rintro e w2 ⟨rfl, hq2', hp2⟩
  have HQ2 := Lib.hid (HQ1.out.trans hq2')
  have HP2 := Lib.hid hp2
  have hpb : w.heap.size ≤ w1.heap.size := HQ1.out.size
  clear hq2' hp2 HQ1
  generalize w1.heap.size = pb at HP2 hpb ⊢
  go_wp2_with fail
  refine (heap_new _ _).mono ?_
  rintro e w3 ⟨hb, rfl, hq3, hh3⟩
  have HL3 := Lib.hid (LawW.start (K := fun _ => False) HQ2.out HP2.out hpb (by omega) hq3 hh3 (fun _ x => x.elim))
  clear hq3 hh3 HQ2 HP2
  go_wp2_with fail
  refine (wide_any _).mono ?_
  rintro e w4 ⟨db, rfl, hq4, hd4, hs4⟩
  have HS4 := Lib.hid (steady_start (k := k) HL3.out hq4 hd4 hs4)
  clear hq4 hd4 hs4 HL3
  have hk3 : (k : Int) ≤ 200 := by omega
  have hk4 : (0 : Int) ≤ k := by omega
  go_wp2_with fail
  generalize w4.heap.size = tb at HS4 ⊢
  clear hk hq hs hm hk3 hk4
  go_loopw [42, 12, 13, 14] (fun c v _ _ wr => ∃ (i : Nat) (H : List (List (Option Tup))) (left : Nat) (l : List (Int × Int)), i ≤ 1 + q ∧ c = .int .i64 (i : Int) ∧ l.length = i ∧ SteadyW w wr hb pb tb db k v H left l ∧ Inv H (l.map (fun p => (p, tup0 k))) ∧ H.length ≤ i ∧ H.length + left = 256) (fun c _ _ _ _ => 1 + q - (intOf c).toNat)
  case atStart => exact ⟨0, [], 256, [], Nat.zero_le _, rfl, rfl, HS4.out, Inv.start, Nat.le_refl _, rfl⟩
  case round =>
    obtain ⟨i, H, left, l, hi, rfl, hll, hS, hV, hHl, hsum⟩ := hrel
    clear HS4
    have HS := Lib.hid hS
    have HV := Lib.hid hV
    by_cases hlt : i < 1 + q
    · obtain ⟨c0, c1, c2, c3, c4, c5⟩ := steady_cells hS
      have hlt' : (i : Int) < 1 + q := by omega
      clear hS hV
      go_wp2_with fail
      refine (HS.out.insert hk2 HV.out.fit (Or.inl (by omega))).mono ?_
      rintro e w5 ⟨pg, sl, H', left', rfl, hs5, hi5, _, hsum5⟩
      have HS5 := Lib.hid hs5
      have HI5 := Lib.hid hi5
      have hl5 := hi5.len
      clear hs5 hi5 HS c0 c1 c2 c3 c4 c5
      go_wp2_with (at_builtin; (refine app elem_tid rfl (.tmp 52) (.tmp 54) rfl rfl (owns_kept (owns_kept HS5.out.row ((Only.refl (fun _ => False) w5).alloc _) (fun _ _ x => x)) ((Only.refl (fun _ => False) (w5.alloc _)).alloc _) (fun _ _ x => x)) rfl (tids_new1 _ _ pg sl) (one_tids [(pg, sl)]) (by unfold maxLen; omega) (by omega) ?_))
      intro v' w6 hg
      have HS6 := Lib.hid (HS5.out.push (p := (pg, sl)) (by rw [hll]; exact hg))
      clear hg HS5
      go_wp2
      go_roundw
      case rel => exact ⟨i + 1, H', left', l ++ [(pg, sl)], by omega, by go_num, by simp [hll], HS6.out, by rw [List.map_append]; exact HV.out.ins HI5.out, by omega, by omega⟩
      case measure => simp [intOf]; omega
    · clear hS hV
      obtain rfl : i = 1 + q := by omega
      have HP := Lib.hid hsum
      obtain ⟨B, c, hv, hc, hcm, hform⟩ := tids_form HS.out.row
      obtain ⟨p0, hp0⟩ : ∃ p, l[0]? = some p := ⟨_, List.getElem?_eq_getElem (by omega)⟩
      obtain ⟨g, rfl, _⟩ := hform 0 p0 hp0
      rw [hll] at hv hc
      unfold maxLen at hcm
      subst hv
      clear hform hp0
      go_wp2_with fail
      refine (HS.out.law.pages).mono ?_
      rintro e w5 ⟨rfl, rfl⟩
      go_wp2_with fail
      obtain ⟨P, HPL⟩ : ∃ P : Nat, Hid (H.length = P) := ⟨_, rfl⟩
      rw [HPL.out]
      have HN : Hid (H.length ≤ P) := Nat.le_of_eq HPL.out
      go_loopw [61, 16, 17, 18, 19, 20] (fun c' _ _ _ _ _ wr => ∃ (j : Nat) (H : List (List (Option Tup))) (left : Nat) (l : List (Int × Int)), j ≤ n ∧ c' = .int .i64 (j : Int) ∧ l.length = 1 + q ∧ SteadyW w wr hb pb tb db k (.slice (some ⟨g, 0, none⟩) (1 + q) c) H left l ∧ Inv H (l.map (fun p => (p, tup0 k))) ∧ H.length = P ∧ H.length + left = 256) (fun c' _ _ _ _ _ _ => n - (intOf c').toNat)
      case atStart => exact ⟨0, H, left, l, Nat.zero_le _, rfl, hll, HS.out, HV.out, HPL.out, hsum⟩
      case round =>
        clear HS HV hll HPL HP hsum HN hHl
        obtain ⟨j, H, left, l, hj, rfl, hll, hS, hV, hHl, hsum⟩ := hrel
        have HS := Lib.hid hS
        have HV := Lib.hid hV
        by_cases hjn : j < n
        · obtain ⟨b, off, z, rfl, hb', hcz, wz⟩ := HI.out.kept (onward (Below.refl _ _) (Nat.le_refl _) hS.law.quiet (fun _ x => x.elim)) j hjn
          have hz := bounds_u8 wz
          by_cases h40 : j < 40
          · obtain ⟨kN, hkN, hltk⟩ : ∃ kN : Nat, z % (1 + (q : Int)) = kN ∧ kN < 1 + q := ⟨(z % (1 + (q : Int))).toNat, by have := Int.emod_nonneg z (show (1 + (q : Int)) ≠ 0 by omega); omega, by have := Int.emod_nonneg z (show (1 + (q : Int)) ≠ 0 by omega); have := Int.emod_lt_of_pos z (show (0 : Int) < 1 + q by omega); omega⟩
            obtain ⟨p, hp⟩ : ∃ p, l[kN]? = some p := ⟨_, List.getElem?_eq_getElem (by omega)⟩
            obtain ⟨r0, r1, rf⟩ := tids_at hS.row hp
            have hpm : (l.map (fun p => (p, tup0 k)))[kN]? = some (p, tup0 k) := by rw [List.getElem?_map, hp]; rfl
            have HPM := Lib.hid hpm
            have HFR := Lib.hid (hS.free p hV.fit (hV.got _ (List.mem_of_getElem? hpm)))
            have dk0 : (0 : Int) ≤ kN := by omega
            have dk1 : (kN : Int) < 1 + q := by omega
            have dq : ¬ (1 + (q : Int) = 0) := by omega
            clear hS hV wz hpm hp
            go_wp2_with fail
            refine HFR.out.mono ?_
            rintro e w5 ⟨H1, rfl, hs5, hf5⟩
            have HS5 := Lib.hid hs5
            have HF5 := Lib.hid hf5
            obtain ⟨c0, c1, c2, c3, c4, c5⟩ := steady_cells hs5
            clear hs5 hf5 HS HFR r0 r1 rf hcz
            go_wp2_with fail
            refine (HS5.out.insert hk2 HF5.out.fit (Or.inr (by have := HF5.out.room; simpa [tup0] using this))).mono ?_
            rintro e w6 ⟨pg, sl, H2, left2, rfl, hs6, hi6, hr6, hsum6⟩
            have h6 := hr6 (by have := HF5.out.room; simpa [tup0] using this)
            have hl6 : H2.length = P := by have := HF5.out.len; omega
            have HV6 := Lib.hid (HV.out.swap (q := (pg, sl)) HPM.out HF5.out hi6)
            have hleft : H2.length + left2 = 256 := by have := HF5.out.len; omega
            have HS7 := Lib.hid (hs6.quietly ((Only.refl (fun _ => False) w6).alloc (.cells #[.int .i64 pg, .int .i64 sl] 51)))
            have hgl : g < w6.heap.size := (hs6.row.lt g rfl).2
            clear hs6 hi6 hr6 h6 HS5 HF5 c0 c1 c2 c3 c4 c5 HV HPM
            go_wp2_with fail
            refine (HS7.out.law.pages).mono ?_
            rintro e w7 ⟨rfl, rfl⟩
            rw [hl6]
            have hu : (usedH H2 : Int) = 1 + q := by have := HV6.out.used; simp at this; omega
            go_wp2_with fail
            refine (HS7.out.law.used).mono ?_
            rintro e w7 ⟨rfl, n7, rfl⟩
            rw [hu]
            obtain ⟨p7, hp7⟩ : ∃ p, l[kN]? = some p := ⟨_, List.getElem?_eq_getElem (by omega)⟩
            obtain ⟨r0, r1, rf⟩ := tids_at HS7.out.row hp7
            clear hp7
            go_wp2
            go_roundw
            case rel => exact ⟨j + 1, H2, left2, l.set kN (pg, sl), by omega, by go_num, by simp [hll], (HS7.out.drewN n7).over hll kN (pg, sl), by rw [List.map_set]; exact HV6.out, hl6, hleft⟩
            case measure => simp [intOf]; omega
          · clear hS hV
            go_wp2_with fail
            refine (HS.out.law.drop).mono ?_
            rintro e w6 ⟨rfl, _, hl6⟩
            have HL6 := Lib.hid hl6
            rw [hHl, show left + P = 256 by omega] at HL6
            rw [hHl]
            clear hl6 HS
            go_wp2_with fail
            refine (HL6.out.poolLeft).mono ?_
            rintro e w7 ⟨rfl, rfl⟩
            go_wp2_with fail
            refine (HL6.out.used).mono ?_
            rintro e w7 ⟨rfl, n7, rfl⟩
            rw [show usedH [] = 0 from rfl]
            go_wp2
            go_ret
            exact ⟨rfl, onward (Below.refl _ _) (Nat.le_refl _) (HL6.out.drewN n7).quiet (fun _ x => x.elim)⟩
        · clear hS hV
          go_wp2_with fail
          refine (HS.out.law.drop).mono ?_
          rintro e w6 ⟨rfl, _, hl6⟩
          have HL6 := Lib.hid hl6
          rw [hHl, show left + P = 256 by omega] at HL6
          rw [hHl]
          clear hl6 HS
          go_wp2_with fail
          refine (HL6.out.poolLeft).mono ?_
          rintro e w7 ⟨rfl, rfl⟩
          go_wp2_with fail
          refine (HL6.out.used).mono ?_
          rintro e w7 ⟨rfl, n7, rfl⟩
          rw [show usedH [] = 0 from rfl]
          go_wp2
          go_ret
          exact ⟨rfl, onward (Below.refl _ _) (Nat.le_refl _) (HL6.out.drewN n7).quiet (fun _ x => x.elim)⟩

open Go.ChangeShapes Go.WideShapes in
set_option maxRecDepth 100000 in
theorem heapSteady_walk {H : Type} {enc : TypeId × Value → H} {r : Reach} {base : Nat} {d0 d1 d2 : DataW H} {p0 p1 p2 : List MemPlace} (v0 v1 v2 : Value) (W : World)
    (o0 : Value.okWide Try.prog W r base 5 v0) (h0 : DataW.Trod enc Try.prog W 0 (fun _ => true) true 5 v0 d0 p0) (o1 : Value.okWide Try.prog W r base 5 v1) (h1 : DataW.Trod enc Try.prog W 0 (fun _ => true) true 5 v1 d1 p1) (o2 : Value.okWide Try.prog W r base 48 v2) (h2 : DataW.Trod enc Try.prog W 0 (fun _ => true) true 48 v2 d2 p2) :
    Calls Try.prog 10 #[v0, v1, v2] W fun e w' => e = .returned (.bool true) ∧ Below W.heap.size W w' := by
  obtain ⟨x, rfl, _, _, wx⟩ := open_int Try.underlying5 o0 h0
  obtain ⟨y, rfl, _, _, wy⟩ := open_int Try.underlying5 o1 h1
  obtain ⟨A, n, cap, rfl, a1, a2, a3⟩ := open_slice_int Try.underlying48 Try.underlying5 cells_u8 o2 h2
  exact heapSteady_any x y A n cap W (bounds_u8 wx) (bounds_u8 wy) a3 a1 a2

end Go.Proofs.Ytbibmgcklilpmaa
