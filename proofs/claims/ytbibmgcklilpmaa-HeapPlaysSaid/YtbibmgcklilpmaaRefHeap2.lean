/- The document's heap: Free, Stamp, Drop. No condition. -/
import Derived.Test.YtbibmgcklilpmaaRefHeap
namespace Go.Lap
theorem set_getD {α : Type} {H : List α} {k : Nat} {d : α} (h : H[k]? = some (H.getD k d)) : H.set k (H.getD k d) = H := by
  apply List.ext_getElem?
  intro j
  rw [List.getElem?_set]
  have hk := (List.getElem?_eq_some_iff.1 h).1
  by_cases e : k = j
  · subst e
    rw [if_pos rfl, if_pos hk, h]
  · rw [if_neg e]

theorem set_tups_some (L : List Slot) (i f : Nat) (t : Tup) : tups (L.set i (some (f, t))) = (tups L).set i (some t) := by
  unfold tups
  rw [List.map_set]
  rfl
end Go.Lap
namespace Go.Proofs.Ytbibmgcklilpmaa
open Go.RowKit Go.Lap

section
variable {w : World} {b : Nat} {S : Nat → Prop} {T : List (Option Tup)}

theorem rpT_stamp (i : Int) (x : Nat) (pg sl : Int) (h : RpT w b S T) :
    Calls Try.prog 88 #[.pointer (some ⟨b, 0, none⟩), .int .i64 i, .int .u64 (x : Int), .agg #[.int .i64 pg, .int .i64 sl]] w fun e w' => e = .returned (.int .i64 (pStampT T i x pg sl).1) ∧ Only S w w' ∧ RpT w' b S (pStampT T i x pg sl).2 := by
  by_cases hx : 1099511627776 < x ∨ farB pg sl = true
  · have e : pStampT T i x pg sl = (3, T) := by unfold pStampT; rw [if_pos hx]
    rw [e]
    refine (rp_stamp_form i x pg sl b w hx).mono ?_
    rintro e w' ⟨rfl, hq⟩
    exact ⟨rfl, hq.mono (fun _ _ x => x.elim), h.kept hq (fun _ _ x => x)⟩
  · have hx1 : x ≤ 1099511627776 := by omega
    have hx2 : farB pg sl = false := by rcases hf : farB pg sl with _ | _; rfl; exact absurd (Or.inr hf) hx
    obtain ⟨L, st, hL, rfl⟩ := h
    rcases hs : slotAt L i with _ | ⟨f, t⟩
    · have e : pStampT (tups L) i x pg sl = (15, tups L) := by unfold pStampT; rw [if_neg hx, slot_tups, hs]; rfl
      rw [e]
      refine (rp_stamp_none i x pg sl hL hx1 hx2 hs).mono ?_
      rintro e w' ⟨rfl, hq⟩
      exact ⟨rfl, hq.mono (fun _ _ x => x.elim), L, st, hL.kept hq (fun _ _ x => x), rfl⟩
    · have e : pStampT (tups L) i x pg sl = (0, (tups L).set i.toNat (some (t.stamp x pg sl))) := by unfold pStampT; rw [if_neg hx, slot_tups, hs]; rfl
      rw [e]
      refine (rp_stamp_some i x pg sl f t hL hx1 hx2 hs).mono ?_
      rintro e w' ⟨rfl, ho, hL'⟩
      exact ⟨rfl, ho, _, st, hL', set_tups_some L _ _ _⟩

theorem rpT_free (i : Int) (h : RpT w b S T) :
    Calls Try.prog 90 #[.pointer (some ⟨b, 0, none⟩), .int .i64 i] w fun e w' => e = .returned (.int .i64 (match tupAt T i with | none => 15 | some _ => 0)) ∧ Only S w w' ∧ RpT w' b S (match tupAt T i with | none => T | some _ => trimT (T.set i.toNat none)) := by
  obtain ⟨L, st, hL, rfl⟩ := h
  rw [slot_tups]
  rcases hs : slotAt L i with _ | ⟨f, t⟩
  · refine (rp_free_none i hL hs).mono ?_
    rintro e w' ⟨rfl, hq⟩
    exact ⟨rfl, hq.mono (fun _ _ x => x.elim), L, st, hL.kept hq (fun _ _ x => x), rfl⟩
  · refine (rp_free_some i f t hL hs).mono ?_
    rintro e w' ⟨rfl, ho, hL'⟩
    refine ⟨rfl, ho, _, st, hL', ?_⟩
    show tups _ = trimT _
    rw [← set_tups, trim_tups]
end

set_option maxHeartbeats 400000 in
set_option maxRecDepth 100000 in
theorem rfree_gen (h0 pp : Option Addr) (pg sl R : Int) (S : Nat → Prop) (POST : World → Prop) (w : World) (hpg : ∀ W : World, Quiet w W → Calls Try.prog 89 #[.pointer h0, .int .i64 pg] W fun e w' => e = .returned (.pointer pp) ∧ W = w')
    (hfr : ∀ W : World, Quiet w W → Calls Try.prog 90 #[.pointer pp, .int .i64 sl] W fun e w' => e = .returned (.int .i64 R) ∧ Only S W w' ∧ POST w') (hS : ∀ k, S k → k < w.heap.size) :
    Calls Try.prog 54 #[.pointer h0, .agg #[.int .i64 pg, .int .i64 sl]] w fun e w' => e = .returned (.int .i64 R) ∧ Only S w w' ∧ POST w' := by
  have HPG := Lib.hid hpg
  have HFR := Lib.hid hfr
  have HT := Lib.hid (alloc_new w (.cells #[.int .i64 pg, .int .i64 sl] 51))
  have HQ : Hid (Quiet w (w.alloc (.cells #[.int .i64 pg, .int .i64 sl] 51))) := (Only.refl _ _).alloc _
  have HS := Lib.hid hS
  clear hpg hfr hS
  go_enter Try.func54, Try.ntmps54
  go_wp2_with fail
  go_region_held3 (fun w' => w'.cell? ⟨w.heap.size, 0, none⟩ = some (.int .i64 pg) ∧ w'.cell? ⟨w.heap.size, 1, none⟩ = some (.int .i64 sl))
    (first | go_keep | exact tid_on (by exact HT.out) ho3 (fun x => by have := HS.out _ x; omega) | fail)
    (first
      | (go_at_call 89; go_must (refine (HPG.out _ (HQ.out.drew)).mono ?_; rintro e w2 ⟨rfl, rfl⟩))
      | (go_at_call 90; go_must (refine (HFR.out _ (HQ.out.drew)).mono ?_; rintro e w3 ⟨rfl, ho3, hpo⟩))
      | fail)
  have HO := Lib.hid (((HQ.out.drew).mono (T := S) (fun _ _ x => x.elim)).trans ho3)
  have HPO := Lib.hid hpo
  clear ho3 hpo
  go_wp2
  go_ret
  exact ⟨rfl, HO.out, HPO.out⟩

set_option maxHeartbeats 400000 in
set_option maxRecDepth 100000 in
theorem rstamp_nil (pg sl : Int) (x : Nat) (npg nsl : Int) (w : World) :
    Calls Try.prog 53 #[.pointer none, .agg #[.int .i64 pg, .int .i64 sl], .int .u64 (x : Int), .agg #[.int .i64 npg, .int .i64 nsl]] w fun e w' => e = .returned (.int .i64 15) ∧ Quiet w w' := by
  go_enter Try.func53, Try.ntmps53
  go_wp2
  go_ret
  exact ⟨rfl, ((Only.refl _ _).alloc _).alloc _⟩

set_option maxHeartbeats 400000 in
set_option maxRecDepth 100000 in
theorem rstamp_form (xb : Nat) (pg sl : Int) (x : Nat) (npg nsl : Int) (w : World) (hx : 1099511627776 < x ∨ farB npg nsl = true) :
    Calls Try.prog 53 #[.pointer (some ⟨xb, 0, none⟩), .agg #[.int .i64 pg, .int .i64 sl], .int .u64 (x : Int), .agg #[.int .i64 npg, .int .i64 nsl]] w fun e w' => e = .returned (.int .i64 3) ∧ Quiet w w' := by
  have H0 := Lib.hid (stamp_start w pg sl npg nsl)
  obtain ⟨t0, t1⟩ := tid_on H0.out.2.1 (Only.refl (fun _ => False) _) (fun x => x)
  obtain ⟨n0, n1⟩ := tid_on H0.out.2.2 (Only.refl (fun _ => False) _) (fun x => x)
  by_cases h1 : 1099511627776 < x
  · have d1 : decide ((1099511627776:Int) < x) = true := decide_eq_true (by omega)
    clear hx
    go_enter Try.func53, Try.ntmps53
    go_wp2
    go_ret
    exact ⟨rfl, ((Only.refl _ _).alloc _).alloc _⟩
  · have d1 : decide ((1099511627776:Int) < x) = false := decide_eq_false (by omega)
    have HFR := Lib.hid (rfar_any npg nsl)
    rw [show farB npg nsl = true by rcases hx with h | h; exact absurd h h1; exact h] at HFR
    clear hx
    go_enter Try.func53, Try.ntmps53
    go_wp2_with fail
    refine (HFR.out _).mono ?_
    rintro e w1 ⟨rfl, hq1⟩
    have HQ1 := Lib.hid (H0.out.1.trans hq1)
    clear hq1
    go_wp2
    go_ret
    exact ⟨rfl, HQ1.out⟩

set_option maxHeartbeats 1000000 in
set_option maxRecDepth 100000 in
theorem rstamp_gen (xb : Nat) (pp : Option Addr) (pg sl R : Int) (x : Nat) (npg nsl : Int) (S : Nat → Prop) (POST : World → Prop) (w : World) (hx : x ≤ 1099511627776) (hf : farB npg nsl = false) (hpg : ∀ W : World, Quiet w W → Calls Try.prog 89 #[.pointer (some ⟨xb, 0, none⟩), .int .i64 pg] W fun e w' => e = .returned (.pointer pp) ∧ W = w')
    (hst : ∀ W : World, Quiet w W → Calls Try.prog 88 #[.pointer pp, .int .i64 sl, .int .u64 (x : Int), .agg #[.int .i64 npg, .int .i64 nsl]] W fun e w' => e = .returned (.int .i64 R) ∧ Only S W w' ∧ POST w') (hS : ∀ k, S k → k < w.heap.size) :
    Calls Try.prog 53 #[.pointer (some ⟨xb, 0, none⟩), .agg #[.int .i64 pg, .int .i64 sl], .int .u64 (x : Int), .agg #[.int .i64 npg, .int .i64 nsl]] w fun e w' => e = .returned (.int .i64 R) ∧ Only S w w' ∧ POST w' := by
  have HPG := Lib.hid hpg
  have HST := Lib.hid hst
  have H0 := Lib.hid (stamp_start w pg sl npg nsl)
  have HS := Lib.hid hS
  have d1 : decide ((1099511627776:Int) < x) = false := decide_eq_false (by omega)
  have HFR := Lib.hid (rfar_any npg nsl)
  rw [hf] at HFR
  obtain ⟨n0, n1⟩ := tid_on H0.out.2.2 (Only.refl (fun _ => False) _) (fun x => x)
  clear hpg hst hS hf
  go_enter Try.func53, Try.ntmps53
  go_wp2_with fail
  refine (HFR.out _).mono ?_
  rintro e w1 ⟨rfl, hq1⟩
  have HQ1 := Lib.hid (H0.out.1.trans hq1)
  have HT1 := Lib.hid (hq1.get H0.out.2.1 (fun x => x))
  have HN1 := Lib.hid (hq1.get H0.out.2.2 (fun x => x))
  clear hq1 n0 n1 HFR H0
  obtain ⟨t0, t1⟩ := tid_on HT1.out (Only.refl (fun _ => False) _) (fun x => x)
  obtain ⟨n0, n1⟩ := tid_on HN1.out (Only.refl (fun _ => False) _) (fun x => x)
  go_wp2_with fail
  go_region_held3 (fun w' => w'.cell? ⟨w.heap.size, 0, none⟩ = some (.int .i64 pg) ∧ w'.cell? ⟨w.heap.size, 1, none⟩ = some (.int .i64 sl) ∧ w'.cell? ⟨w.heap.size + 1, 0, none⟩ = some (.int .i64 npg) ∧ w'.cell? ⟨w.heap.size + 1, 1, none⟩ = some (.int .i64 nsl))
    (first | go_keep | exact ⟨(tid_on (by exact HT1.out) ho3 (fun x => by have := HS.out _ x; omega)).1, (tid_on (by exact HT1.out) ho3 (fun x => by have := HS.out _ x; omega)).2, tid_on (by exact HN1.out) ho3 (fun x => by have := HS.out _ x; omega)⟩ | fail)
    (first
      | (go_at_call 89; go_must (refine (HPG.out _ (HQ1.out.drew)).mono ?_; rintro e w2 ⟨rfl, rfl⟩))
      | (go_at_call 88; go_must (refine (HST.out _ (HQ1.out.drew)).mono ?_; rintro e w3 ⟨rfl, ho3, hpo⟩))
      | fail)
  have HO := Lib.hid (((HQ1.out.drew).mono (T := S) (fun _ _ x => x.elim)).trans ho3)
  have HPO := Lib.hid hpo
  clear ho3 hpo
  go_wp2
  go_ret
  exact ⟨rfl, HO.out, HPO.out⟩

section
variable {w : World} {xb qb : Nat} {F : Nat → Prop} {H : List (List (Option Tup))}

theorem rfree_nil (pg sl : Int) (w : World) :
    Calls Try.prog 54 #[.pointer none, .agg #[.int .i64 pg, .int .i64 sl]] w fun e w' => e = .returned (.int .i64 15) ∧ Quiet w w' := by
  refine (rfree_gen none none pg sl 15 (fun _ => False) (fun _ => True) w (fun W _ => rpage_nil pg W) (fun W _ => ?_) (fun _ x => x.elim)).mono ?_
  · exact (rp_free_nil sl W).mono (fun e w' x => ⟨x.1, x.2, trivial⟩)
  · rintro e w' ⟨rfl, hq, _⟩
    exact ⟨rfl, hq⟩

theorem rfree_any (pg sl : Int) (h : RHeapIs w xb qb F H) :
    Calls Try.prog 54 #[.pointer (some ⟨xb, 0, none⟩), .agg #[.int .i64 pg, .int .i64 sl]] w fun e w' => e = .returned (.int .i64 (hFree H pg sl).1) ∧ Only F w w' ∧ RHeapIs w' xb qb (fun k => F k ∨ w.heap.size ≤ k) (hFree H pg sl).2 := by
  obtain ⟨o, v, ps, h⟩ := h
  by_cases hn : pg < 0 ∨ (H.length : Int) ≤ pg
  · have e : hFree H pg sl = (15, H) := by unfold hFree; rw [hGet_out hn]
    rw [e]
    refine (rfree_gen (some ⟨xb, 0, none⟩) none pg sl 15 (fun _ => False) (fun _ => True) w (fun W hq => rpage_none pg (h.kept hq (fun _ _ x => x)) hn) (fun W _ => ?_) (fun _ x => x.elim)).mono ?_
    · exact (rp_free_nil sl W).mono (fun e w' x => ⟨x.1, x.2, trivial⟩)
    · rintro e w' ⟨rfl, hq, _⟩
      exact ⟨rfl, hq.mono (fun _ _ x => x.elim), o, v, ps, (h.kept hq (fun _ _ x => x)).mono (fun _ x => Or.inl x)⟩
  · obtain ⟨k, rfl⟩ := Int.eq_ofNat_of_zero_le (show 0 ≤ pg by omega)
    have hT : H[k]? = some (H.getD k []) := by
      rw [List.getD_eq_getElem?_getD, List.getElem?_eq_getElem (show k < H.length by omega)]; rfl
    have h1 := h.lim
    obtain ⟨p, hp, hpt⟩ := h1.pg k _ hT
    have e : hFree H (k : Int) sl = ((match tupAt (H.getD k []) sl with | none => 15 | some _ => 0), H.set k (match tupAt (H.getD k []) sl with | none => H.getD k [] | some _ => trimT ((H.getD k []).set sl.toNat none))) := by
      unfold hFree
      rw [hGet_in sl hT]
      cases tupAt (H.getD k []) sl with
      | none => rw [set_getD hT]
      | some t => rfl
    rw [e]
    refine (rfree_gen (some ⟨xb, 0, none⟩) (some ⟨p, 0, none⟩) k sl _ (fun j => (F j ∧ j < w.heap.size) ∧ o j = k + 1) (fun w' => RpT w' p (fun j => (F j ∧ j < w.heap.size) ∧ o j = k + 1) _) w (fun W hq => rpage_some k p (h.kept hq (fun _ _ x => x)) hp) (fun W hq => rpT_free sl (hpt.kept hq (fun _ _ x => x))) (fun j x => x.1.2)).mono ?_
    rintro e w' ⟨rfl, ho, hp'⟩
    obtain ⟨o', h'⟩ := h1.turn hp ho (hp'.mono (fun _ x => Or.inl x))
    exact ⟨rfl, ho.mono (fun j _ x => x.1.1), o', v, ps, h'.mono (fun j x => x.elim (fun y => Or.inl y.1) Or.inr)⟩

theorem rstamp_any (pg sl : Int) (x : Nat) (npg nsl : Int) (h : RHeapIs w xb qb F H) :
    Calls Try.prog 53 #[.pointer (some ⟨xb, 0, none⟩), .agg #[.int .i64 pg, .int .i64 sl], .int .u64 (x : Int), .agg #[.int .i64 npg, .int .i64 nsl]] w fun e w' => e = .returned (.int .i64 (hStamp H pg sl x npg nsl).1) ∧ Only F w w' ∧ RHeapIs w' xb qb (fun k => F k ∨ w.heap.size ≤ k) (hStamp H pg sl x npg nsl).2 := by
  obtain ⟨o, v, ps, h⟩ := h
  by_cases hx : 1099511627776 < x ∨ farB npg nsl = true
  · have e1 : ∀ T i, pStampT T i x npg nsl = (3, T) := fun T i => by unfold pStampT; rw [if_pos hx]
    have e : hStamp H pg sl x npg nsl = (3, H) := by
      unfold hStamp
      by_cases hn : pg < 0 ∨ (H.length : Int) ≤ pg
      · rw [if_pos hn, e1]
      · obtain ⟨k, rfl⟩ := Int.eq_ofNat_of_zero_le (show 0 ≤ pg by omega)
        rw [if_neg hn, e1, Int.toNat_natCast]
        have hT : H[k]? = some (H.getD k []) := by
          rw [List.getD_eq_getElem?_getD, List.getElem?_eq_getElem (show k < H.length by omega)]; rfl
        rw [set_getD hT]
    rw [e]
    refine (rstamp_form xb pg sl x npg nsl w hx).mono ?_
    rintro e w' ⟨rfl, hq⟩
    exact ⟨rfl, hq.mono (fun _ _ x => x.elim), o, v, ps, (h.kept hq (fun _ _ x => x)).mono (fun _ x => Or.inl x)⟩
  · have hx1 : x ≤ 1099511627776 := by omega
    have hx2 : farB npg nsl = false := by rcases hf : farB npg nsl with _ | _; rfl; exact absurd (Or.inr hf) hx
    by_cases hn : pg < 0 ∨ (H.length : Int) ≤ pg
    · have e : hStamp H pg sl x npg nsl = (15, H) := by
        unfold hStamp
        rw [if_pos hn]
        unfold pStampT
        rw [if_neg hx, tupAt_nil]
      rw [e]
      refine (rstamp_gen xb none pg sl 15 x npg nsl (fun _ => False) (fun _ => True) w hx1 hx2 (fun W hq => rpage_none pg (h.kept hq (fun _ _ x => x)) hn) (fun W _ => ?_) (fun _ x => x.elim)).mono ?_
      · exact (rp_stamp_nil sl x npg nsl W).mono (fun e w' x => ⟨x.1, x.2, trivial⟩)
      · rintro e w' ⟨rfl, hq, _⟩
        exact ⟨rfl, hq.mono (fun _ _ x => x.elim), o, v, ps, (h.kept hq (fun _ _ x => x)).mono (fun _ x => Or.inl x)⟩
    · obtain ⟨k, rfl⟩ := Int.eq_ofNat_of_zero_le (show 0 ≤ pg by omega)
      obtain ⟨T, hT⟩ : ∃ T, H[k]? = some T := ⟨_, List.getElem?_eq_getElem (show k < H.length by omega)⟩
      have h1 := h.lim
      obtain ⟨p, hp, hpt⟩ := h1.pg k _ hT
      have e : hStamp H (k : Int) sl x npg nsl = ((pStampT T sl x npg nsl).1, H.set k (pStampT T sl x npg nsl).2) := by
        unfold hStamp
        rw [if_neg hn, Int.toNat_natCast, getD_of hT]
      rw [e]
      refine (rstamp_gen xb (some ⟨p, 0, none⟩) k sl _ x npg nsl (fun j => (F j ∧ j < w.heap.size) ∧ o j = k + 1) (fun w' => RpT w' p (fun j => (F j ∧ j < w.heap.size) ∧ o j = k + 1) _) w hx1 hx2 (fun W hq => rpage_some k p (h.kept hq (fun _ _ x => x)) hp) (fun W hq => rpT_stamp sl x npg nsl (hpt.kept hq (fun _ _ x => x))) (fun j x => x.1.2)).mono ?_
      rintro e w' ⟨rfl, ho, hp'⟩
      obtain ⟨o', h'⟩ := h1.turn hp ho (hp'.mono (fun _ x => Or.inl x))
      exact ⟨rfl, ho.mono (fun j _ x => x.1.1), o', v, ps, h'.mono (fun j x => x.elim (fun y => Or.inl y.1) Or.inr)⟩

set_option maxHeartbeats 400000 in
set_option maxRecDepth 100000 in
theorem rdrop_nil (w : World) :
    Calls Try.prog 55 #[.pointer none] w fun e w' => e = .returned (.int .i64 0) ∧ Quiet w w' := by
  go_enter Try.func55, Try.ntmps55
  go_wp2
  go_ret
  exact ⟨rfl, Only.refl _ _⟩

set_option maxHeartbeats 400000 in
set_option maxRecDepth 100000 in
theorem rdrop_any (n : Nat) (h : RHeapIs w xb qb F H) (hp : RPoolAt w qb n) (hn : n ≤ 256) (hl : H.length ≤ 256) :
    Calls Try.prog 55 #[.pointer (some ⟨xb, 0, none⟩)] w fun e w' => e = .returned (.int .i64 (H.length : Int)) ∧ Only (fun k => F k ∨ k = qb) w w' ∧ RPoolAt w' qb (n + H.length) ∧ RHeapIs w' xb qb (fun k => F k ∨ w.heap.size ≤ k) [] := by
  obtain ⟨o, v, ps, h⟩ := h
  have HH := Lib.hid h
  have HP := Lib.hid hp
  obtain ⟨A, c, rfl, hc, hm, hr⟩ := h.rowForm
  obtain ⟨c0, c1⟩ := h.cells
  have hpc := hp.cell
  have hpf := frozen_of hp 0
  have hbf := fun o => frozen_of h.box o
  have hne : ¬ xb = qb := ne_type h.box hp (by decide)
  have hne' : ¬ qb = xb := fun e => hne e.symm
  have o1 : Only (· = xb) w (w.setCell ⟨xb, 1, none⟩ (.slice none 0 0)) := (Only.refl (· = xb) w).setCell (p := ⟨xb, 1, none⟩) (fun _ => rfl) _
  have hp1 := hp.kept o1 (fun e => hne' e)
  have hp2 := hp1.set (z := (n : Int) + H.length) (m := n + H.length) (by omega)
  have o2 : Only (· = qb) (w.setCell ⟨xb, 1, none⟩ (.slice none 0 0)) ((w.setCell ⟨xb, 1, none⟩ (.slice none 0 0)).setCell ⟨qb, 0, none⟩ (.int .i64 ((n : Int) + H.length))) := (Only.refl (· = qb) _).setCell (p := ⟨qb, 0, none⟩) (fun _ => rfl) _
  have hb2 := o2.get (set_same h.box 1 (.slice none 0 0)) hne
  have HF : Hid (Only (fun k => F k ∨ k = qb) w ((w.setCell ⟨xb, 1, none⟩ (.slice none 0 0)).setCell ⟨qb, 0, none⟩ (.int .i64 ((n : Int) + H.length))) ∧ RPoolAt ((w.setCell ⟨xb, 1, none⟩ (.slice none 0 0)).setCell ⟨qb, 0, none⟩ (.int .i64 ((n : Int) + H.length))) qb (n + H.length) ∧
      RHeapIs ((w.setCell ⟨xb, 1, none⟩ (.slice none 0 0)).setCell ⟨qb, 0, none⟩ (.int .i64 ((n : Int) + H.length))) xb qb (fun k => F k ∨ w.heap.size ≤ k) []) := by
    refine ⟨(o1.mono (fun k _ e => by subst e; exact Or.inl h.foot.1.1)).trans' o2 (fun k _ e => Or.inr e), hp2, o, .slice none 0 0, [], ?_, World.ownsRow_nil _ _ _ _, fun i T hi => by simp at hi, ⟨Or.inl h.foot.1.1, h.foot.1.2⟩, fun k e => by cases e⟩
    exact hb2
  clear h hr hp o1 hp1 hp2 o2 hb2
  go_enter Try.func55, Try.ntmps55
  go_wp2
  go_ret
  exact ⟨rfl, HF.out⟩
end
end Go.Proofs.Ytbibmgcklilpmaa
