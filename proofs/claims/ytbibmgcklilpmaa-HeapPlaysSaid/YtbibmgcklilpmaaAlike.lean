/- The contract of heap.Page: where versions lie on a page; of the law's alike: a heap and the document's, of the same pages. No condition. -/
import Derived.Test.YtbibmgcklilpmaaChain
import Derived.Test.YtbibmgcklilpmaaRefHeap4
import Derived.Test.YtbibmgcklilpmaaHeapTwo
namespace Go.Lap

/-- The places on page pg whose slots are below k. -/
def placesTo (pg : Int) (T : List (Option Tup)) (k : Nat) : List (Int × Int) := (List.range k).filterMap (fun s : Nat => if ((T[s]?).join).isSome then some (pg, (s : Int)) else none)

theorem placesTo_none {pg : Int} {T : List (Option Tup)} {k : Nat} (h : (T[k]?).join = none) : placesTo pg T (k + 1) = placesTo pg T k := by
  unfold placesTo
  rw [List.range_succ, List.filterMap_append]
  simp [h]

theorem placesTo_some {pg : Int} {T : List (Option Tup)} {k : Nat} {t : Tup} (h : (T[k]?).join = some t) : placesTo pg T (k + 1) = placesTo pg T k ++ [(pg, (k : Int))] := by
  unfold placesTo
  rw [List.range_succ, List.filterMap_append]
  simp [h]

theorem placesTo_length (pg : Int) (T : List (Option Tup)) (k : Nat) : (placesTo pg T k).length ≤ k := by
  unfold placesTo
  exact Nat.le_trans (List.length_filterMap_le _ _) (by simp)

theorem mem_placesTo {pg : Int} {T : List (Option Tup)} {k : Nat} {p : Int × Int} (h : p ∈ placesTo pg T k) : p.1 = pg ∧ ∃ t, tupAt T p.2 = some t := by
  unfold placesTo at h
  rw [List.mem_filterMap] at h
  obtain ⟨s, _, hs⟩ := h
  split at hs
  · rename_i h2
    injection hs with hs
    subst hs
    obtain ⟨t, ht⟩ := Option.isSome_iff_exists.1 h2
    exact ⟨rfl, t, by rw [tupAt_nat]; exact ht⟩
  · cases hs

end Go.Lap
namespace Go.Proofs.Ytbibmgcklilpmaa
open Go.RowKit Go.Lap

/-- A row of places that grows. -/
structure TidsW (w wr : World) (v : Value) (l : List (Int × Int)) : Prop where
  quiet : Quiet w wr
  row : TidsAt wr v l
  own : ∀ k, v.ownBlock = some k → w.heap.size ≤ k

section
variable {w wr w' : World} {v : Value} {l : List (Int × Int)}
theorem TidsW.start (h : Quiet w wr) : TidsW w wr (.slice none 0 0) [] := ⟨h, World.ownsRow_nil _ _ _ _, (fun _ x => by cases x)⟩
theorem TidsW.quietly (h : TidsW w wr v l) (hq : Quiet wr w') : TidsW w w' v l := ⟨h.quiet.trans hq, owns_kept h.row hq (fun _ _ x => x), h.own⟩
theorem TidsW.step {w4 : World} {v' : Value} {p : Int × Int} (h : TidsW w wr v l) (hg : Grew (wr.alloc (.cells #[.int .i64 p.1, .int .i64 p.2] 51)) w4 51 2 v v' (l.length + 1) (tidsV l ++ tidsV [p])) : TidsW w w4 v' (l ++ [p]) := by
  have hsz := h.quiet.size
  refine ⟨(h.quiet.alloc _).trans' hg.only (fun k hk e => by have := h.own k e; omega), ?_, fun k e => ?_⟩
  · unfold TidsAt
    rw [List.length_append, tidsV_append]
    exact hg.own
  · rcases hg.loc with x | x
    · rw [x] at e; exact h.own k e
    · rw [x] at e; injection e with e; simp only [World.size_alloc] at e; omega
theorem TidsW.post (h : TidsW w wr v l) : ChainPost w l (.returned v) wr := ⟨v, rfl, h.quiet, h.own, h.row⟩
end

set_option maxHeartbeats 1000000 in
set_option maxRecDepth 100000 in
theorem plist_walk (h0 pp : Option Addr) (n : Int) (T : List (Option Tup)) (w : World) (hT : T.length ≤ 127)
    (hpg : ∀ W : World, Quiet w W → Calls Try.prog 87 #[.pointer h0, .int .i64 n] W fun e w' => e = .returned (.pointer pp) ∧ W = w')
    (hsl : ∀ W : World, Quiet w W → Calls Try.prog 69 #[.pointer pp] W fun e w' => e = .returned (.int .i64 (T.length : Int)) ∧ W = w')
    (hg0 : ∀ (W : World) (i : Int), Quiet w W → tupAt T i = none → Calls Try.prog 37 #[.pointer pp, .int .i64 i] W (GetNone W))
    (hg1 : ∀ (W : World) (i : Int) (t : Tup), Quiet w W → tupAt T i = some t → Calls Try.prog 37 #[.pointer pp, .int .i64 i] W (GetSome W t)) :
    Calls Try.prog 93 #[.pointer h0, .int .i64 n] w (ChainPost w (placesTo n T T.length)) := by
  have HPG := Lib.hid hpg
  have HSL := Lib.hid hsl
  have HG0 := Lib.hid hg0
  have HG1 := Lib.hid hg1
  obtain ⟨m, hm⟩ : ∃ m, T.length = m := ⟨_, rfl⟩
  rw [hm] at hT HSL ⊢
  have HM := Lib.hid hm
  clear hpg hsl hg0 hg1 hm
  go_enter Try.func93, Try.ntmps93
  go_wp2_with fail
  refine (HPG.out _ (Only.refl _ _)).mono ?_
  rintro e w1 ⟨rfl, rfl⟩
  go_wp2_with fail
  refine (HSL.out _ (Only.refl _ _)).mono ?_
  rintro e w1 ⟨rfl, rfl⟩
  go_wp2_with fail
  go_loopw [15, 5, 7, 8, 9] (fun c cv _ _ _ wr => ∃ (k : Nat) (v' : Value), k ≤ m ∧ c = .int .i64 (k : Int) ∧ cv = v' ∧ TidsW w wr v' (placesTo n T k)) (fun c _ _ _ _ _ => m - (intOf c).toNat)
  case atStart => exact ⟨0, _, Nat.zero_le _, rfl, rfl, TidsW.start (Only.refl _ _)⟩
  case round =>
    obtain ⟨k, v', hk, rfl, rfl, hW⟩ := hrel
    have HW := Lib.hid hW
    clear hW
    by_cases hlt : k < m
    · have hle := placesTo_length n T k
      rcases hg : tupAt T (k : Int) with _ | t
      · have HGT := Lib.hid (HG0.out wr (k : Int) HW.out.quiet hg)
        have HP := Lib.hid (placesTo_none (pg := n) (by rw [← tupAt_nat]; exact hg))
        clear hg
        go_wp2_with fail
        refine HGT.out.mono ?_
        rintro e w2 ⟨rfl, hq2⟩
        have HW2 := Lib.hid ((HW.out.quietly hq2).quietly ((Only.refl (fun _ => False) w2).alloc (.cells #[.int .u64 0, .int .u64 0, .int .u64 0, .int .i64 0, .int .i64 0, .slice none 0 0] 54)))
        clear hq2 HGT HW
        go_wp2
        go_roundw
        case rel => exact ⟨k + 1, _, by omega, by go_num, rfl, by rw [HP.out]; exact HW2.out⟩
        case measure => simp [intOf]; omega
      · have HGT := Lib.hid (HG1.out wr (k : Int) t HW.out.quiet hg)
        have HP := Lib.hid (placesTo_some (pg := n) (by rw [← tupAt_nat]; exact hg))
        obtain ⟨l, hl⟩ : ∃ l, placesTo n T k = l := ⟨_, rfl⟩
        rw [hl] at HP HW hle
        clear hg hl
        go_wp2_with fail
        refine HGT.out.mono ?_
        rintro e w2 ⟨A2, c2, rfl, hf2⟩
        unfold tupV
        have HW2 := Lib.hid ((HW.out.quietly hf2.quiet).quietly ((Only.refl (fun _ => False) w2).alloc (.cells #[.int .u64 (t.row : Int), .int .u64 (t.xmin : Int), .int .u64 (t.xmax : Int), .int .i64 t.pg, .int .i64 t.sl, .slice A2 t.data.length c2] 54)))
        clear hf2 HGT HW
        go_upto_region 8 with fail
        generalize w2.alloc (.cells #[.int .u64 (t.row : Int), .int .u64 (t.xmin : Int), .int .u64 (t.xmax : Int), .int .i64 t.pg, .int .i64 t.sl, .slice A2 t.data.length c2] 54) = wa at HW2 ⊢
        have HROW := Lib.hid (owns_kept HW2.out.row ((Only.refl (fun _ => False) wa).alloc (.cells #[.int .i64 n, .int .i64 (k : Int)] 51)) (fun _ _ x => x))
        go_wp2_with (at_builtin; refine app elem_tid rfl (.tmp 25) (.tmp 29) rfl rfl HROW.out rfl (tids_new _ (n, (k : Int))) (one_tids [(n, (k : Int))]) (by unfold maxLen; omega) (by omega) ?_)
        intro v4 w4 hg4
        have HST := Lib.hid (HW2.out.step (p := (n, (k : Int))) hg4)
        clear hg4 HROW
        go_wp2
        go_roundw
        case rel => exact ⟨k + 1, _, by omega, by go_num, rfl, by rw [HP.out]; exact HST.out⟩
        case measure => simp [intOf]; omega
    · obtain rfl : k = m := by omega
      go_wp2
      go_ret
      exact HW.out.post

theorem plist_out (h0 : Option Addr) (n : Int) (w : World) (hpg : ∀ W : World, Quiet w W → Calls Try.prog 87 #[.pointer h0, .int .i64 n] W fun e w' => e = .returned (.pointer none) ∧ W = w') :
    Calls Try.prog 93 #[.pointer h0, .int .i64 n] w (ChainPost w []) :=
  plist_walk h0 none n [] w (by simp) hpg (fun W _ => page_slots_nil W) (fun W i _ _ => page_get_nil i W) (fun W i t _ h => by rw [tupAt_nil] at h; cases h)

section
variable {w : World} {hb pb : Nat} {F : Nat → Prop} {H : List (List (Option Tup))}

theorem heap_plist_none (n : Int) (h : HeapIs w hb pb F H) (hn : n < 0 ∨ (H.length : Int) ≤ n) : Calls Try.prog 93 #[.pointer (some ⟨hb, 0, none⟩), .int .i64 n] w (ChainPost w []) := by
  obtain ⟨v, ps, rb, h⟩ := h
  exact plist_out _ n w (fun W hq => heap_page_none n (h.kept hq (fun _ _ x => x)) hn)

theorem heap_plist_nil (n : Int) (w : World) : Calls Try.prog 93 #[.pointer none, .int .i64 n] w (ChainPost w []) := plist_out _ n w (fun W _ => heap_page_nil n W)

theorem heap_plist (k : Nat) (T : List (Option Tup)) (h : HeapIs w hb pb F H) (hT : H[k]? = some T) : Calls Try.prog 93 #[.pointer (some ⟨hb, 0, none⟩), .int .i64 (k : Int)] w (ChainPost w (placesTo (k : Int) T T.length)) := by
  obtain ⟨v, ps, rb, h⟩ := h
  obtain ⟨p, hp, hpt⟩ := h.pg k T hT
  exact plist_walk _ (some ⟨p, 0, none⟩) k T w hpt.len (fun W hq => heap_page_some k p (h.kept hq (fun _ _ x => x)) hp) (fun W hq => pageT_slots p T W (hpt.kept hq (fun x => x))) (fun W i hq hi => pageT_get_none p T i W (hpt.kept hq (fun x => x)) hi) (fun W i t hq hi => pageT_get_some p t T i W (hpt.kept hq (fun x => x)) hi)
end
end Go.Proofs.Ytbibmgcklilpmaa
namespace Go.Lap

theorem tups_join (L : List Slot) (k : Nat) : ((tups L)[k]?).join = (L[k]?).join.map Prod.snd := by
  unfold tups
  rw [List.getElem?_map]
  rcases L[k]? with _ | _ | x <;> rfl

theorem sameT_self (t : Tup) : sameT t t = true := by
  unfold sameT
  simp

end Go.Lap
namespace Go.Proofs.Ytbibmgcklilpmaa
open Go.RowKit Go.Lap

theorem DatAt.rd {w : World} {S : Nat → Prop} {t : Tup} {A : Option Addr} {c : Nat} (h : DatAt w S t (.slice A t.data.length c)) : Rd w (fun k => (Value.slice A t.data.length c).ownBlock = some k) 1 A t.data.length (bytesV t.data) := by
  obtain ⟨A', c', e, hrow, _⟩ := h
  obtain ⟨A5, c5, e5, _, _, hrd⟩ := own_form hrow
  injection e5 with e5 _ _
  subst e5
  exact hrd

set_option maxHeartbeats 1000000 in
set_option maxRecDepth 100000 in
theorem alike_nil (w : World) :
    Calls Try.prog 57 #[.pointer none, .pointer none] w fun e w' => e = .returned (.bool true) ∧ Quiet w w' := by
  go_enter Try.func57, Try.ntmps57
  go_wp2_with fail
  refine (heap_pages_nil _).mono ?_
  rintro e w1 ⟨rfl, rfl⟩
  go_wp2_with fail
  refine (heap_used_nil _).mono ?_
  rintro e w1 ⟨rfl, rfl⟩
  go_wp2_with fail
  refine (rused_nil _).mono ?_
  rintro e w2 ⟨rfl, hq2⟩
  go_wp2_with fail
  refine (heap_plist_nil 0 _).mono ?_
  rintro e w3 ⟨v3, rfl, hq3, _, hr3⟩
  obtain ⟨A3, c3, hv3, _, _, _⟩ := tids_form hr3
  subst hv3
  clear hr3
  go_wp2_with fail
  refine (heap_plist_nil (-1) _).mono ?_
  rintro e w4 ⟨v4, rfl, hq4, _, hr4⟩
  obtain ⟨A4, c4, hv4, _, _, _⟩ := tids_form hr4
  subst hv4
  have HQ := Lib.hid ((hq2.trans hq3).trans hq4)
  clear hr4 hq2 hq3 hq4
  go_wp2_with fail
  go_loopw [48, 6, 7, 8, 9, 11, 12, 13, 14, 15] (fun c _ _ _ _ _ _ _ _ _ wr => c = .int .i64 0 ∧ Quiet w wr) (fun _ _ _ _ _ _ _ _ _ _ _ => 0)
  case atStart => exact ⟨rfl, HQ.out⟩
  case round =>
    obtain ⟨rfl, hq⟩ := hrel
    have HQ5 := Lib.hid hq
    clear hq
    go_wp2
    go_ret
    exact ⟨rfl, HQ5.out⟩

set_option maxHeartbeats 2000000 in
set_option maxRecDepth 100000 in
theorem alike_two {w : World} {hb pb xb qb : Nat} {F G : Nat → Prop} {H : List (List (Option Tup))} (h : HeapIs w hb pb F H) (hr : RHeapIs w xb qb G H) :
    Calls Try.prog 57 #[.pointer (some ⟨hb, 0, none⟩), .pointer (some ⟨xb, 0, none⟩)] w fun e w' => e = .returned (.bool true) ∧ Quiet w w' := by
  have h256 := h.most
  have HH := Lib.hid (fun W (hq : Quiet w W) => h.kept hq (fun _ _ x => x))
  have HR := Lib.hid (fun W (hq : Quiet w W) => hr.kept hq (fun _ _ x => x))
  obtain ⟨o, v, ps, hx⟩ := hr
  have HX := Lib.hid hx
  obtain ⟨A, c, rfl, hc, hm, hrow⟩ := hx.rowForm
  have HROW := Lib.hid hrow
  have HC := Lib.hid hx.cells
  obtain ⟨_, x1⟩ := hx.cells
  unfold maxLen at hm
  obtain ⟨n, hn⟩ : ∃ n, H.length = n := ⟨_, rfl⟩
  have HN := Lib.hid hn
  clear h hx hrow
  rw [hn] at hc h256 x1
  rw [hn] at HC
  obtain ⟨us, hus⟩ : ∃ us, usedH H = us := ⟨_, rfl⟩
  have HUS := Lib.hid hus
  clear hn hus
  go_enter Try.func57, Try.ntmps57
  have HPG := Lib.hid (heap_pages (HH.out w (Only.refl _ _)))
  rw [HN.out] at HPG
  go_wp2_with fail
  refine HPG.out.mono ?_
  rintro e w1 ⟨rfl, rfl⟩
  have HU1 := Lib.hid (heap_used (HH.out w (Only.refl _ _)))
  rw [HUS.out] at HU1
  clear HPG x1
  go_wp2_with fail
  refine HU1.out.mono ?_
  rintro e w1 ⟨rfl, m1, rfl⟩
  have HU2 := Lib.hid (rused_any (HR.out (w.drewN m1) ((Only.refl _ _).drewN _)) (by rw [HN.out]; exact h256))
  rw [HUS.out] at HU2
  clear HU1
  go_wp2_with fail
  refine HU2.out.mono ?_
  rintro e w2 ⟨rfl, hq2⟩
  have HQ2 : Hid (Quiet w w2) := ((Only.refl _ _).drewN m1).trans hq2
  clear HU2 hq2
  have HP3 := Lib.hid (heap_plist_none (n : Int) (HH.out w2 HQ2.out) (Or.inr (by rw [HN.out]; exact Int.le_refl _)))
  go_wp2_with fail
  refine HP3.out.mono ?_
  rintro e w3 ⟨v3, rfl, hq3, _, hr3⟩
  obtain ⟨A3, c3, hv3, _, _, _⟩ := tids_form hr3
  subst hv3
  have HQ3 := Lib.hid (HQ2.out.trans hq3)
  clear hr3 hq3 HP3
  have HP4 := Lib.hid (heap_plist_none (-1) (HH.out w3 HQ3.out) (Or.inl (by omega)))
  go_wp2_with fail
  refine HP4.out.mono ?_
  rintro e w4 ⟨v4, rfl, hq4, _, hr4⟩
  obtain ⟨A4, c4, hv4, _, _, _⟩ := tids_form hr4
  subst hv4
  have HQ4 := Lib.hid (HQ3.out.trans hq4)
  clear hr4 hq4 HP4
  go_wp2_with fail
  go_loopw [48, 6, 7, 8, 9, 11, 12, 13, 14, 15] (fun c _ _ _ _ _ _ _ _ _ wr => ∃ i : Nat, i ≤ n ∧ c = .int .i64 (i : Int) ∧ Quiet w wr) (fun c _ _ _ _ _ _ _ _ _ _ => n - (intOf c).toNat)
  case atStart => exact ⟨0, Nat.zero_le _, rfl, HQ4.out⟩
  case round =>
    obtain ⟨i, hi, rfl, hq⟩ := hrel
    have HQ := Lib.hid hq
    clear HQ2 HQ3 HQ4
    by_cases hlt : i < n
    · obtain ⟨T, hT⟩ : ∃ T, H[i]? = some T := ⟨_, List.getElem?_eq_getElem (by rw [HN.out]; exact hlt)⟩
      have HT := Lib.hid hT
      obtain ⟨p, hp, L, st, ⟨v5, rows, hpg⟩, hTL⟩ := HX.out.pg i T hT
      obtain ⟨g, rfl, hg⟩ := HROW.out i p hp
      obtain ⟨A5, c5, rfl, hc5, hm5, hform⟩ := hpg.form
      have y0 := hq.cell hpg.cells.1 (fun x => x)
      have HFORM := Lib.hid hform
      have x1 := hq.cell HC.out.2 (fun x => x)
      replace hg := hq.cell hg (fun x => x)
      have hlen : L.length ≤ 127 := by have := hpg.lim.1; omega
      have HTL := Lib.hid hTL
      obtain ⟨m, hm2⟩ : ∃ m, L.length = m := ⟨_, rfl⟩
      have HM := Lib.hid hm2
      rw [hm2] at y0 hc5 hlen
      unfold maxLen at hm5
      have d0 : (0 : Int) ≤ (i : Int) := by omega
      have d1 : (i : Int) < (n : Int) := by omega
      clear hT hp hpg hform hTL hm2 hq
      go_wp2_with fail
      have HW0 : Hid (TidsW w wr (.slice none 0 0) (placesTo (i : Int) T 0)) := TidsW.start HQ.out
      go_loopw [62, 7, 8, 9] (fun c cv _ _ wr => ∃ (s : Nat) (v' : Value), s ≤ m ∧ c = .int .i64 (s : Int) ∧ v' = cv ∧ TidsW w wr v' (placesTo (i : Int) T s)) (fun c _ _ _ _ => m - (intOf c).toNat)
      case atStart => exact ⟨0, _, Nat.zero_le _, rfl, rfl, HW0.out⟩
      case round =>
        obtain ⟨s, v', hs, rfl, rfl, hW⟩ := hrel
        have HW := Lib.hid hW
        clear HW0 hW
        by_cases hls : s < m
        · obtain ⟨x, hx⟩ : ∃ x, L[s]? = some x := ⟨_, List.getElem?_eq_getElem (by rw [HM.out]; exact hls)⟩
          obtain ⟨g5, d5, rfl, hrow5, hd5, hcs, _⟩ := HFORM.out s x hx
          have hj : ((T[s]?).join) = x.map Prod.snd := by rw [← HTL.out, tups_join, hx]; rfl
          have e0 : (0 : Int) ≤ (s : Int) := by omega
          have e1 : (s : Int) < (m : Int) := by omega
          have hle := placesTo_length (i : Int) T s
          rcases x with _ | ⟨f, t⟩
          · obtain ⟨k0, k1, k2, k3, k4, k5, k6, k7⟩ := cells_none (cells_on hcs HW.out.quiet (fun x => x))
            have HP := Lib.hid (placesTo_none (pg := (i : Int)) (show (T[s]?).join = none by rw [hj]; rfl))
            clear hcs hx hd5 hj hrow5
            go_wp2
            go_roundw
            case rel => exact ⟨s + 1, _, by omega, by go_num, rfl, by rw [HP.out]; exact HW.out.quietly ((Only.refl _ _).alloc _)⟩
            case measure => simp [intOf]; omega
          · obtain ⟨A6, c6, rfl, _⟩ := (hd5 f t rfl).1
            obtain ⟨k0, k1, k2, k3, k4, k5, k6, k7⟩ := cells_some (cells_on hcs HW.out.quiet (fun x => x))
            have HP := Lib.hid (placesTo_some (pg := (i : Int)) (show (T[s]?).join = some t by rw [hj]; rfl))
            obtain ⟨l, hl⟩ : ∃ l, placesTo (i : Int) T s = l := ⟨_, rfl⟩
            rw [hl] at HP HW hle
            clear hcs hx hd5 hj hrow5 hl
            have HW2 := Lib.hid (HW.out.quietly ((Only.refl (fun _ => False) wr).alloc (.cells #[.bool true, .int .u64 (t.row : Int), .int .u64 (t.xmin : Int), .int .u64 (t.xmax : Int), .int .i64 t.pg, .int .i64 t.sl, .slice A6 t.data.length c6, .int .i64 (f : Int)] 161)))
            go_upto_region 14 with fail
            generalize wr.alloc (.cells #[.bool true, .int .u64 (t.row : Int), .int .u64 (t.xmin : Int), .int .u64 (t.xmax : Int), .int .i64 t.pg, .int .i64 t.sl, .slice A6 t.data.length c6, .int .i64 (f : Int)] 161) = wa at HW2 ⊢
            have HRW := Lib.hid (owns_kept HW2.out.row ((Only.refl (fun _ => False) wa).alloc (.cells #[.int .i64 (i : Int), .int .i64 (s : Int)] 51)) (fun _ _ x => x))
            go_wp2_with (at_builtin; refine app elem_tid rfl (.tmp 69) (.tmp 73) rfl rfl HRW.out rfl (tids_new _ ((i : Int), (s : Int))) (one_tids [((i : Int), (s : Int))]) (by unfold maxLen; omega) (by omega) ?_)
            intro v6 w6 hg6
            have HST := Lib.hid (HW2.out.step (p := ((i : Int), (s : Int))) hg6)
            clear hg6 HRW k0 k1 k2 k3 k4 k5 k6 k7
            go_wp2
            go_roundw
            case rel => exact ⟨s + 1, _, by omega, by go_num, rfl, by rw [HP.out]; exact HST.out⟩
            case measure => simp [intOf]; omega
        · obtain rfl : s = m := by omega
          have HTM : Hid (T.length = s) := by show T.length = s; rw [← HTL.out, tups_length, HM.out]
          have HPL := Lib.hid (heap_plist i T (HH.out wr HW.out.quiet) HT.out)
          rw [HTM.out] at HPL
          have HMEM := Lib.hid (fun q (hq : q ∈ placesTo (i : Int) T s) => mem_placesTo hq)
          have hle := placesTo_length (i : Int) T s
          obtain ⟨l, hl⟩ : ∃ l, placesTo (i : Int) T s = l := ⟨_, rfl⟩
          rw [hl] at HPL HMEM HW hle
          clear hl
          go_wp2_with fail
          refine HPL.out.mono ?_
          rintro e w7 ⟨v7, rfl, hq7, _, hr7⟩
          have HW7 := Lib.hid (HW.out.quietly hq7)
          have HSP := Lib.hid (same_places v7 v' l l w7 hr7 HW7.out.row)
          rw [decide_eq_true rfl] at HSP
          clear hq7 hr7 HPL HW
          go_wp2_with fail
          refine HSP.out.mono ?_
          rintro e w8 ⟨rfl, m8, rfl⟩
          have HW8 := Lib.hid (HW7.out.quietly ((Only.refl (fun _ => False) w7).drewN m8))
          clear HSP HW7
          obtain ⟨A8, c8, hv8, hc8, hm8, _⟩ := tids_form HW8.out.row
          subst hv8
          unfold maxLen at hm8
          obtain ⟨q, hq⟩ : ∃ q, l.length = q := ⟨_, rfl⟩
          have HL := Lib.hid hq
          rw [hq] at hc8 hle HW8 ⊢
          clear hq
          go_wp2_with fail
          go_loopw [84, 11, 12, 13, 14, 15] (fun c _ _ _ _ _ wr => ∃ k : Nat, k ≤ q ∧ c = .int .i64 (k : Int) ∧ TidsW w wr (.slice A8 q c8) l) (fun c _ _ _ _ _ _ => q - (intOf c).toNat)
          case atStart => exact ⟨0, Nat.zero_le _, rfl, HW8.out⟩
          case round =>
            obtain ⟨k, hk, rfl, hW⟩ := hrel
            have HW := Lib.hid hW
            clear HW8 hW
            by_cases hlk : k < q
            · obtain ⟨p9, hp9⟩ : ∃ p9, l[k]? = some p9 := ⟨_, List.getElem?_eq_getElem (by rw [HL.out]; exact hlk)⟩
              obtain ⟨hp1, t, ht⟩ := HMEM.out p9 (List.mem_of_getElem? hp9)
              obtain ⟨p8, z⟩ := p9
              dsimp only at hp1 ht
              subst hp1
              obtain ⟨A9, c9, hv9, _, _, hf9⟩ := tids_form HW.out.row
              obtain ⟨g9, hA9, q0, q1⟩ := hf9 k _ hp9
              have hA8 : A8 = some ⟨g9, 0, none⟩ := by
                injection hv9 with e1 _ _
                rw [e1]; exact hA9
              subst hA8
              have HGT : Hid (hGet H (i : Int) z = some t) := by show hGet H (i : Int) z = some t; rw [hGet_in z HT.out]; exact ht
              have HOK := Lib.hid ((HH.out w (Only.refl _ _)).ok HGT.out)
              clear hv9 hA9 hf9 hp9 ht
              have e0 : (0 : Int) ≤ (k : Int) := by omega
              have e1 : (k : Int) < (q : Int) := by omega
              have HW1 := Lib.hid (HW.out.quietly ((Only.refl (fun _ => False) wr).alloc (.cells #[.int .i64 (i : Int), .int .i64 z] 51)))
              have HB1 := Lib.hid (alloc_new wr (.cells #[.int .i64 (i : Int), .int .i64 z] 51))
              have HG1 := Lib.hid (heap_get_some (i : Int) z t (HH.out _ HW1.out.quiet) HGT.out)
              go_upto_region 21 with fail
              generalize wr.alloc (.cells #[.int .i64 (i : Int), .int .i64 z] 51) = wa at HW1 HB1 HG1 ⊢
              generalize wr.heap.size = b1 at HB1 ⊢
              obtain ⟨r0, r1⟩ : wa.cell? ⟨b1, 0, none⟩ = some (.int .i64 (i : Int)) ∧ wa.cell? ⟨b1, 1, none⟩ = some (.int .i64 z) := ⟨by rw [cell_of HB1.out]; rfl, by rw [cell_of HB1.out]; rfl⟩
              clear q0 q1
              go_wp2_with fail
              refine HG1.out.mono ?_
              rintro e w2 ⟨A2, c2, rfl, hf2⟩
              unfold tupV
              have hqa : Quiet wa (w2.alloc (.cells #[.int .u64 (t.row : Int), .int .u64 (t.xmin : Int), .int .u64 (t.xmax : Int), .int .i64 t.pg, .int .i64 t.sl, .slice A2 t.data.length c2] 54)) := hf2.quiet.alloc _
              have HW2 := Lib.hid (HW1.out.quietly hqa)
              have HB2 := Lib.hid (hqa.get HB1.out (fun x => x))
              have HT2 := Lib.hid (alloc_new w2 (.cells #[.int .u64 (t.row : Int), .int .u64 (t.xmin : Int), .int .u64 (t.xmax : Int), .int .i64 t.pg, .int .i64 t.sl, .slice A2 t.data.length c2] 54))
              have HD2 := Lib.hid ((fresh_own hf2).kept ((Only.refl (fun _ => False) w2).alloc (.cells #[.int .u64 (t.row : Int), .int .u64 (t.xmin : Int), .int .u64 (t.xmax : Int), .int .i64 t.pg, .int .i64 t.sl, .slice A2 t.data.length c2] 54)) (fun _ _ x => x))
              clear hf2 hqa HG1 HW1 HB1 r0 r1
              go_upto_region 22 with fail
              generalize w2.alloc (.cells #[.int .u64 (t.row : Int), .int .u64 (t.xmin : Int), .int .u64 (t.xmax : Int), .int .i64 t.pg, .int .i64 t.sl, .slice A2 t.data.length c2] 54) = wb at HW2 HB2 HT2 HD2 ⊢
              generalize w2.heap.size = b2 at HT2 ⊢
              obtain ⟨r0, r1⟩ : wb.cell? ⟨b1, 0, none⟩ = some (.int .i64 (i : Int)) ∧ wb.cell? ⟨b1, 1, none⟩ = some (.int .i64 z) := ⟨by rw [cell_of HB2.out]; rfl, by rw [cell_of HB2.out]; rfl⟩
              have HG2 := Lib.hid (rget_some (i : Int) z t (HR.out _ HW2.out.quiet) HGT.out)
              go_wp2_with fail
              refine HG2.out.mono ?_
              rintro e w3 ⟨A3, c3, rfl, hq3, hd3⟩
              unfold tupV
              have hqb : Quiet wb (w3.alloc (.cells #[.int .u64 (t.row : Int), .int .u64 (t.xmin : Int), .int .u64 (t.xmax : Int), .int .i64 t.pg, .int .i64 t.sl, .slice A3 t.data.length c3] 54)) := hq3.alloc _
              have HW3 := Lib.hid (HW2.out.quietly hqb)
              have HT3 := Lib.hid (hqb.get HT2.out (fun x => x))
              have HT4 := Lib.hid (alloc_new w3 (.cells #[.int .u64 (t.row : Int), .int .u64 (t.xmin : Int), .int .u64 (t.xmax : Int), .int .i64 t.pg, .int .i64 t.sl, .slice A3 t.data.length c3] 54))
              have HD3 := Lib.hid (HD2.out.kept hqb (fun _ _ x => x))
              have hd4 := hd3.kept ((Only.refl (fun _ => False) w3).alloc (.cells #[.int .u64 (t.row : Int), .int .u64 (t.xmin : Int), .int .u64 (t.xmax : Int), .int .i64 t.pg, .int .i64 t.sl, .slice A3 t.data.length c3] 54)) (fun _ _ x => x)
              have HD4 := Lib.hid hd4.rd
              clear hd4 hd3 hq3 hqb HG2 HW2 HB2 HT2 HD2 r0 r1
              go_upto_region 23 with fail
              generalize w3.alloc (.cells #[.int .u64 (t.row : Int), .int .u64 (t.xmin : Int), .int .u64 (t.xmax : Int), .int .i64 t.pg, .int .i64 t.sl, .slice A3 t.data.length c3] 54) = wd at HW3 HT3 HT4 HD3 HD4 ⊢
              generalize w3.heap.size = b3 at HT4 ⊢
              obtain ⟨s0, s1, s2, s3, s4, s5⟩ := box_cells HT3.out
              obtain ⟨t0, t1, t2, t3, t4, t5⟩ := box_cells HT4.out
              have HSM := Lib.hid (rsame_any t t A2 A3 c2 c3 _ _ wd HD3.out HD4.out HOK.out.bytes HOK.out.bytes)
              rw [sameT_self] at HSM
              unfold tupV at HSM
              go_wp2_with fail
              refine HSM.out.mono ?_
              rintro e w5 ⟨rfl, hq5⟩
              have HW5 := Lib.hid (HW3.out.quietly hq5)
              clear hq5 s0 s1 s2 s3 s4 s5 t0 t1 t2 t3 t4 t5
              go_wp2
              go_roundw
              case rel => exact ⟨k + 1, by omega, by go_num, HW5.out⟩
              case measure => simp [intOf]; omega
            · obtain rfl : k = q := by omega
              go_wp2
              go_roundw
              case rel => exact ⟨i + 1, by omega, by go_num, HW.out.quiet⟩
              case measure => simp [intOf]; omega
    · go_wp2
      go_ret
      exact ⟨rfl, HQ.out⟩
end Go.Proofs.Ytbibmgcklilpmaa
