/- The contracts of package heap: Get, Stamp. No condition. -/
import Derived.Test.YtbibmgcklilpmaaHeapWalk3
namespace Go.Proofs.Ytbibmgcklilpmaa
open Go.RowKit Go.Lap

theorem zero_cells {w : World} {b : Nat} {t : TypeId} {fr : Nat × Nat} (h : w.heap[b]? = some (.cells #[.int .u64 0, .int .u64 0, .int .u64 0, .int .i64 0, .int .i64 0, .slice none 0 0] t fr)) :
    w.cell? ⟨b, 0, none⟩ = some (.int .u64 0) ∧ w.cell? ⟨b, 1, none⟩ = some (.int .u64 0) ∧ w.cell? ⟨b, 2, none⟩ = some (.int .u64 0) ∧ w.cell? ⟨b, 3, none⟩ = some (.int .i64 0) ∧ w.cell? ⟨b, 4, none⟩ = some (.int .i64 0) ∧ w.cell? ⟨b, 5, none⟩ = some (.slice none 0 0) :=
  ⟨by rw [cell_of h]; rfl, by rw [cell_of h]; rfl, by rw [cell_of h]; rfl, by rw [cell_of h]; rfl, by rw [cell_of h]; rfl, by rw [cell_of h]; rfl⟩

/-- In Get: the place in its box, the result in its own. -/
theorem get_start (w : World) (pg sl : Int) : Quiet w ((w.alloc (.cells #[.int .i64 pg, .int .i64 sl] 51)).alloc (.cells #[.int .u64 0, .int .u64 0, .int .u64 0, .int .i64 0, .int .i64 0, .slice none 0 0] 54)) ∧
    ((w.alloc (.cells #[.int .i64 pg, .int .i64 sl] 51)).alloc (.cells #[.int .u64 0, .int .u64 0, .int .u64 0, .int .i64 0, .int .i64 0, .slice none 0 0] 54)).heap[w.heap.size]? = some (.cells #[.int .i64 pg, .int .i64 sl] 51 (0, 0)) ∧
    ((w.alloc (.cells #[.int .i64 pg, .int .i64 sl] 51)).alloc (.cells #[.int .u64 0, .int .u64 0, .int .u64 0, .int .i64 0, .int .i64 0, .slice none 0 0] 54)).heap[w.heap.size + 1]? = some (.cells #[.int .u64 0, .int .u64 0, .int .u64 0, .int .i64 0, .int .i64 0, .slice none 0 0] 54 (0, 0)) :=
  ⟨((Only.refl _ _).alloc _).alloc _, alloc_old (alloc_new _ _) _, two_new _ _ _⟩

set_option maxHeartbeats 1000000 in
set_option maxRecDepth 100000 in
theorem heap_get_no (h0 pp : Option Addr) (pg sl : Int) (w : World) (hpg : ∀ W : World, Quiet w W → Calls Try.prog 87 #[.pointer h0, .int .i64 pg] W fun e w' => e = .returned (.pointer pp) ∧ W = w')
    (hgt : ∀ W : World, Quiet w W → Calls Try.prog 37 #[.pointer pp, .int .i64 sl] W (GetNone W)) :
    Calls Try.prog 49 #[.pointer h0, .agg #[.int .i64 pg, .int .i64 sl]] w (GetNone w) := by
  have HPG := Lib.hid hpg
  have HGT := Lib.hid hgt
  have H0 := Lib.hid (get_start w pg sl)
  clear hpg hgt
  go_enter Try.func49, Try.ntmps49
  go_wp2_with fail
  go_region_held3 (fun w' => w'.cell? ⟨w.heap.size, 0, none⟩ = some (.int .i64 pg) ∧ w'.cell? ⟨w.heap.size, 1, none⟩ = some (.int .i64 sl))
    (first | go_keep | exact tid_on (by exact H0.out.2.1) hq3 (fun x => x) | fail)
    (first
      | (go_at_call 87; go_must (refine (HPG.out _ (H0.out.1.drew)).mono ?_; rintro e w2 ⟨rfl, rfl⟩))
      | (go_at_call 37; go_must (refine (HGT.out _ (H0.out.1.drew)).mono ?_; rintro e w3 ⟨rfl, hq3⟩; have hr3 := hq3.get (by exact H0.out.2.2) (fun x => x); obtain ⟨z0, z1, z2, z3, z4, z5⟩ := zero_cells hr3; have zf := fun o => frozen_of hr3 o))
      | fail)
  have HX := Lib.hid (sixSet_same hr3 (.int .u64 0) (.int .u64 0) (.int .u64 0) (.int .i64 0) (.int .i64 0) (.slice none 0 0))
  have HQ : Hid (Quiet w (sixSet w3 (w.heap.size + 1) (.int .u64 0) (.int .u64 0) (.int .u64 0) (.int .i64 0) (.int .i64 0) (.slice none 0 0))) := (H0.out.1.drew.trans hq3).trans' (sixSet_only _ _ _ _ _ _ _ _) (fun k hk e => by omega)
  clear hq3 hr3 HPG HGT H0 z0 z1 z2 z3 z4 z5 zf
  unfold sixSet at HX HQ
  go_wp2
  generalize ((((((w3.setCell ⟨w.heap.size + 1, 0, none⟩ (.int .u64 0)).setCell ⟨w.heap.size + 1, 1, none⟩ (.int .u64 0)).setCell ⟨w.heap.size + 1, 2, none⟩ (.int .u64 0)).setCell ⟨w.heap.size + 1, 3, none⟩ (.int .i64 0)).setCell ⟨w.heap.size + 1, 4, none⟩ (.int .i64 0)).setCell ⟨w.heap.size + 1, 5, none⟩ (.slice none 0 0)) = W6 at HX HQ ⊢
  exact bodyPost_ret (results_cell_tmp Try.results49 _ _ (w.heap.size + 1) _ _ (0, 0) _ (by rfl) HX.out Try.underlying54 rfl info_tup) (by rfl) ⟨rfl, HQ.out⟩

theorem fresh_on1 {w W1 w5 W6 : World} {v : Value} {l : List Nat} (hq : Quiet w W1) (hs : w.heap.size + 1 < W1.heap.size) (h : Fresh W1 w5 v l) (ho : Only (· = w.heap.size + 1) w5 W6) : Fresh w W6 v l := by
  have hz := hq.size
  exact ⟨(hq.trans h.quiet).trans' ho (fun k hk e => by omega), fun k e => by have := h.new k e; omega, owns_kept h.own ho (fun k e x => by have := h.new k e; omega)⟩

set_option maxHeartbeats 1000000 in
set_option maxRecDepth 100000 in
theorem heap_get_yes (h0 pp : Option Addr) (pg sl : Int) (t : Tup) (w : World) (hpg : ∀ W : World, Quiet w W → Calls Try.prog 87 #[.pointer h0, .int .i64 pg] W fun e w' => e = .returned (.pointer pp) ∧ W = w')
    (hgt : ∀ W : World, Quiet w W → Calls Try.prog 37 #[.pointer pp, .int .i64 sl] W (GetSome W t)) :
    Calls Try.prog 49 #[.pointer h0, .agg #[.int .i64 pg, .int .i64 sl]] w (GetSome w t) := by
  have HPG := Lib.hid hpg
  have HGT := Lib.hid hgt
  have H0 := Lib.hid (get_start w pg sl)
  clear hpg hgt
  go_enter Try.func49, Try.ntmps49
  go_wp2_with fail
  go_region_held3 (fun w' => w'.cell? ⟨w.heap.size, 0, none⟩ = some (.int .i64 pg) ∧ w'.cell? ⟨w.heap.size, 1, none⟩ = some (.int .i64 sl))
    (first | go_keep | exact tid_on (by exact H0.out.2.1) hf3.quiet (fun x => x) | fail)
    (first
      | (go_at_call 87; go_must (refine (HPG.out _ (H0.out.1.drew)).mono ?_; rintro e w2 ⟨rfl, rfl⟩))
      | (go_at_call 37; go_must (refine (HGT.out _ (H0.out.1.drew)).mono ?_; rintro e w3 ⟨A3, c3, rfl, hf3⟩; unfold tupV; have hr3 := hf3.quiet.get (by exact H0.out.2.2) (fun x => x); obtain ⟨z0, z1, z2, z3, z4, z5⟩ := zero_cells hr3; have zf := fun o => frozen_of hr3 o))
      | fail)
  have HX := Lib.hid (sixSet_same hr3 (.int .u64 t.row) (.int .u64 t.xmin) (.int .u64 t.xmax) (.int .i64 t.pg) (.int .i64 t.sl) (.slice A3 t.data.length c3))
  have HQ := Lib.hid (fresh_on1 H0.out.1.drew (by show w.heap.size + 1 < ((w.alloc _).alloc _).heap.size; simp) hf3 (sixSet_only w3 (w.heap.size + 1) (.int .u64 t.row) (.int .u64 t.xmin) (.int .u64 t.xmax) (.int .i64 t.pg) (.int .i64 t.sl) (.slice A3 t.data.length c3)))
  clear hf3 hr3 HPG HGT H0 z0 z1 z2 z3 z4 z5 zf
  unfold sixSet at HX HQ
  go_wp2
  generalize ((((((w3.setCell ⟨w.heap.size + 1, 0, none⟩ (.int .u64 t.row)).setCell ⟨w.heap.size + 1, 1, none⟩ (.int .u64 t.xmin)).setCell ⟨w.heap.size + 1, 2, none⟩ (.int .u64 t.xmax)).setCell ⟨w.heap.size + 1, 3, none⟩ (.int .i64 t.pg)).setCell ⟨w.heap.size + 1, 4, none⟩ (.int .i64 t.sl)).setCell ⟨w.heap.size + 1, 5, none⟩ (.slice A3 t.data.length c3)) = W6 at HX HQ ⊢
  exact bodyPost_ret (results_cell_tmp Try.results49 _ _ (w.heap.size + 1) _ _ (0, 0) _ (by rfl) HX.out Try.underlying54 rfl info_tup) (by rfl) (getSome_mk HQ.out)

theorem heap_get_nil (pg sl : Int) (w : World) : Calls Try.prog 49 #[.pointer none, .agg #[.int .i64 pg, .int .i64 sl]] w (GetNone w) :=
  heap_get_no none none pg sl w (fun W _ => heap_page_nil pg W) (fun W _ => page_get_nil sl W)

section
variable {w : World} {hb pb : Nat} {F : Nat → Prop} {H : List (List (Option Tup))}

theorem heap_get_none (pg sl : Int) (h : HeapIs w hb pb F H) (hg : hGet H pg sl = none) : Calls Try.prog 49 #[.pointer (some ⟨hb, 0, none⟩), .agg #[.int .i64 pg, .int .i64 sl]] w (GetNone w) := by
  obtain ⟨v, ps, rb, h⟩ := h
  by_cases hn : pg < 0 ∨ (H.length : Int) ≤ pg
  · exact heap_get_no _ none pg sl w (fun W hq => heap_page_none pg (h.kept hq (fun _ _ x => x)) hn) (fun W _ => page_get_nil sl W)
  · obtain ⟨k, rfl⟩ := Int.eq_ofNat_of_zero_le (show 0 ≤ pg by omega)
    obtain ⟨T, hT⟩ : ∃ T, H[k]? = some T := ⟨_, List.getElem?_eq_getElem (show k < H.length by omega)⟩
    obtain ⟨p, hp, hpt⟩ := h.pg k T hT
    rw [hGet_in sl hT] at hg
    exact heap_get_no _ (some ⟨p, 0, none⟩) k sl w (fun W hq => heap_page_some k p (h.kept hq (fun _ _ x => x)) hp) (fun W hq => pageT_get_none p T sl W (hpt.kept hq (fun x => x)) hg)

theorem heap_get_some (pg sl : Int) (t : Tup) (h : HeapIs w hb pb F H) (hg : hGet H pg sl = some t) : Calls Try.prog 49 #[.pointer (some ⟨hb, 0, none⟩), .agg #[.int .i64 pg, .int .i64 sl]] w (GetSome w t) := by
  obtain ⟨v, ps, rb, h⟩ := h
  have hn : ¬ (pg < 0 ∨ (H.length : Int) ≤ pg) := fun x => by rw [hGet_out x] at hg; cases hg
  obtain ⟨k, rfl⟩ := Int.eq_ofNat_of_zero_le (show 0 ≤ pg by omega)
  obtain ⟨T, hT⟩ : ∃ T, H[k]? = some T := ⟨_, List.getElem?_eq_getElem (show k < H.length by omega)⟩
  obtain ⟨p, hp, hpt⟩ := h.pg k T hT
  rw [hGet_in sl hT] at hg
  exact heap_get_yes _ (some ⟨p, 0, none⟩) k sl t w (fun W hq => heap_page_some k p (h.kept hq (fun _ _ x => x)) hp) (fun W hq => pageT_get_some p t T sl W (hpt.kept hq (fun x => x)) hg)

set_option maxHeartbeats 400000 in
set_option maxRecDepth 100000 in
theorem heap_stamp_nil (pg sl : Int) (x : Nat) (npg nsl : Int) (w : World) :
    Calls Try.prog 50 #[.pointer none, .agg #[.int .i64 pg, .int .i64 sl], .int .u64 (x : Int), .agg #[.int .i64 npg, .int .i64 nsl]] w fun e w' => e = .returned (.int .i64 15) ∧ Quiet w w' := by
  go_enter Try.func50, Try.ntmps50
  go_wp2
  go_ret
  exact ⟨rfl, ((Only.refl _ _).alloc _).alloc _⟩

/-- In Stamp: both places in their boxes. -/
theorem stamp_start (w : World) (pg sl npg nsl : Int) : Quiet w ((w.alloc (.cells #[.int .i64 pg, .int .i64 sl] 51)).alloc (.cells #[.int .i64 npg, .int .i64 nsl] 51)) ∧
    ((w.alloc (.cells #[.int .i64 pg, .int .i64 sl] 51)).alloc (.cells #[.int .i64 npg, .int .i64 nsl] 51)).heap[w.heap.size]? = some (.cells #[.int .i64 pg, .int .i64 sl] 51 (0, 0)) ∧
    ((w.alloc (.cells #[.int .i64 pg, .int .i64 sl] 51)).alloc (.cells #[.int .i64 npg, .int .i64 nsl] 51)).heap[w.heap.size + 1]? = some (.cells #[.int .i64 npg, .int .i64 nsl] 51 (0, 0)) :=
  ⟨((Only.refl _ _).alloc _).alloc _, alloc_old (alloc_new _ _) _, two_new _ _ _⟩

set_option maxHeartbeats 400000 in
set_option maxRecDepth 100000 in
theorem heap_stamp_out (pg sl : Int) (x : Nat) (npg nsl : Int) (h : HeapIs w hb pb F H) (hn : pg < 0 ∨ (H.length : Int) ≤ pg) :
    Calls Try.prog 50 #[.pointer (some ⟨hb, 0, none⟩), .agg #[.int .i64 pg, .int .i64 sl], .int .u64 (x : Int), .agg #[.int .i64 npg, .int .i64 nsl]] w fun e w' => e = .returned (.int .i64 (pStampT [] sl x npg nsl).1) ∧ Quiet w w' := by
  obtain ⟨v, ps, rb, h⟩ := h
  have H0 := Lib.hid (stamp_start w pg sl npg nsl)
  have HPG := Lib.hid (heap_page_none pg (h.kept H0.out.1 (fun _ _ x => x)) hn)
  clear h hn
  go_enter Try.func50, Try.ntmps50
  go_wp2_with fail
  refine HPG.out.mono ?_
  rintro e w1 ⟨rfl, rfl⟩
  go_wp2_with fail
  refine (pageT_new _).mono ?_
  rintro e w2 ⟨rfl, hq2, hs2, hp2⟩
  have HQ2 := Lib.hid (H0.out.1.trans hq2)
  obtain ⟨t0, t1⟩ := tid_on H0.out.2.1 hq2 (fun x => x)
  obtain ⟨n0, n1⟩ := tid_on H0.out.2.2 hq2 (fun x => x)
  simp only [World.size_alloc] at hp2
  have HST := Lib.hid (pageT_stamp (w.heap.size + 1 + 1) [] sl x npg nsl w2 hp2)
  clear hq2 hs2 hp2 HPG H0
  go_wp2_with fail
  refine HST.out.mono ?_
  rintro e w3 ⟨rfl, ho3, hp3⟩
  go_wp2
  go_ret
  exact ⟨rfl, HQ2.out.trans' ho3 (fun k hk e => by omega)⟩

set_option maxHeartbeats 400000 in
set_option maxRecDepth 100000 in
theorem heap_stamp_in (k : Nat) (sl : Int) (x : Nat) (npg nsl : Int) (T : List (Option Tup)) (h : HeapIs w hb pb F H) (hT : H[k]? = some T) :
    Calls Try.prog 50 #[.pointer (some ⟨hb, 0, none⟩), .agg #[.int .i64 (k : Int), .int .i64 sl], .int .u64 (x : Int), .agg #[.int .i64 npg, .int .i64 nsl]] w fun e w' => e = .returned (.int .i64 (pStampT T sl x npg nsl).1) ∧ Only F w w' ∧ HeapIs w' hb pb F (H.set k (pStampT T sl x npg nsl).2) := by
  obtain ⟨v, ps, rb, h⟩ := h
  obtain ⟨p, hp, hpt⟩ := h.pg k T hT
  have hkl : k < H.length := (List.getElem?_eq_some_iff.1 hT).1
  have H0 := Lib.hid (stamp_start w k sl npg nsl)
  have hh1 := h.kept H0.out.1 (fun _ _ x => x)
  have HPG := Lib.hid (heap_page_some k p hh1 hp)
  have HST := Lib.hid (pageT_stamp p T sl x npg nsl _ (hpt.kept H0.out.1 (fun x => x)))
  have HH := Lib.hid hh1
  have HHP := Lib.hid hp
  have hR : (H.set k (pStampT T sl x npg nsl).2).map roomT = H.map roomT := by
    rw [List.map_set, pStamp_room]
    apply List.ext_getElem?
    intro j
    rw [List.getElem?_set]
    by_cases e : k = j
    · subst e
      rw [if_pos rfl, if_pos (by simpa using hkl), List.getElem?_map, hT]; rfl
    · rw [if_neg e]
  have HR := Lib.hid hR
  clear h hh1 hp hpt hT hR
  go_enter Try.func50, Try.ntmps50
  go_wp2_with fail
  refine HPG.out.mono ?_
  rintro e w1 ⟨rfl, rfl⟩
  go_wp2_with fail
  refine HST.out.mono ?_
  rintro e w3 ⟨rfl, ho3, hp3⟩
  have HH3 := Lib.hid (HH.out.turn HHP.out ho3 hp3)
  have HO3 : Hid (Only F w w3) := (H0.out.1.mono (T := F) (fun _ _ x => x.elim)).trans' ho3 (fun j _ e => by subst e; exact HH.out.foot.2.2.1 j (List.mem_of_getElem? HHP.out))
  clear ho3 hp3
  go_wp2
  go_ret
  exact ⟨rfl, HO3.out, _, _, _, by rw [HR.out]; exact HH3.out⟩

theorem heap_stamp (pg sl : Int) (x : Nat) (npg nsl : Int) (h : HeapIs w hb pb F H) :
    Calls Try.prog 50 #[.pointer (some ⟨hb, 0, none⟩), .agg #[.int .i64 pg, .int .i64 sl], .int .u64 (x : Int), .agg #[.int .i64 npg, .int .i64 nsl]] w fun e w' => e = .returned (.int .i64 (hStamp H pg sl x npg nsl).1) ∧ Only F w w' ∧ HeapIs w' hb pb F (hStamp H pg sl x npg nsl).2 := by
  by_cases hn : pg < 0 ∨ (H.length : Int) ≤ pg
  · have e : hStamp H pg sl x npg nsl = ((pStampT [] sl x npg nsl).1, H) := by unfold hStamp; rw [if_pos hn]
    rw [e]
    refine (heap_stamp_out pg sl x npg nsl h hn).mono ?_
    rintro e w' ⟨rfl, hq⟩
    exact ⟨rfl, hq.mono (fun _ _ x => x.elim), h.kept hq (fun _ _ x => x)⟩
  · obtain ⟨k, rfl⟩ := Int.eq_ofNat_of_zero_le (show 0 ≤ pg by omega)
    obtain ⟨T, hT⟩ : ∃ T, H[k]? = some T := ⟨_, List.getElem?_eq_getElem (show k < H.length by omega)⟩
    have e : hStamp H (k : Int) sl x npg nsl = ((pStampT T sl x npg nsl).1, H.set k (pStampT T sl x npg nsl).2) := by
      unfold hStamp
      rw [if_neg hn, Int.toNat_natCast, getD_of hT]
    rw [e]
    exact heap_stamp_in k sl x npg nsl T h hT
end

end Go.Proofs.Ytbibmgcklilpmaa
