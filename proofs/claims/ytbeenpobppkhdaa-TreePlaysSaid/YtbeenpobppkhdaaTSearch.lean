/- The contract of slices.BinarySearchFunc at entries, by the tree's order. No condition. -/
import Derived.Test.YtbeenpobppkhdaaTRow
namespace Go.Proofs.Ytbeenpobppkhdaa
open Go.RowKit Go.Lap

/-- A key that reads. -/
structure Keyd (w : World) (K : Nat → Prop) (x : EV) : Prop where
  rd : Rd w K 1 x.A x.e.key.length (bytesV x.e.key)
  by_ : ∀ b ∈ x.e.key, b < 256
  len : x.e.key.length ≤ 1000

theorem Keyd.kept {w w' : World} {K S : Nat → Prop} {x : EV} (h : Keyd w K x) (ho : Only S w w') (hn : ∀ k, K k → ¬ S k) : Keyd w' K x := ⟨h.rd.kept ho hn, h.by_, h.len⟩
theorem Keyd.quietly {w w' : World} {K : Nat → Prop} {x : EV} (h : Keyd w K x) (ho : Quiet w w') : Keyd w' K x := h.kept ho (fun _ _ x => x)
theorem Keyd.mono {w : World} {K K' : Nat → Prop} {x : EV} (h : Keyd w K x) (hn : ∀ k, K k → K' k) : Keyd w K' x := ⟨h.rd.mono hn, h.by_, h.len⟩

theorem order_ev {w : World} {K K' : Nat → Prop} {x y : EV} (hx : Keyd w K x) (hy : Keyd w K' y) :
    Calls Try.prog 37 #[entV x.e x.A x.c, entV y.e y.A y.c] w fun e w' => e = .returned (.int .i64 (cmpE x.e y.e)) ∧ Quiet w w' :=
  order_any x.e y.e x.A y.A x.c y.c K K' w hx.rd hy.rd hx.by_ hy.by_

/-- The cells of the j-th entry of a row that reads. -/
theorem row_cells {w : World} {S : Nat → Prop} {A : Option Addr} {xs : List EV} {j : Nat} {x : EV} (h : Rd w S 3 A xs.length (rowV xs)) (hj : xs[j]? = some x) :
    ∃ b off, A = some ⟨b, off, none⟩ ∧ w.cell? ⟨b, off + j * 3, none⟩ = some (.slice x.A x.e.key.length x.c) ∧ w.cell? ⟨b, off + j * 3 + 1, none⟩ = some (.int .i64 x.e.pg) ∧ w.cell? ⟨b, off + j * 3 + 2, none⟩ = some (.int .i64 x.e.sl) := by
  have hl := (List.getElem?_eq_some_iff.1 hj).1
  obtain ⟨b, off, e, _, hc⟩ := h.cells (by rw [rowV_length]; omega)
  obtain ⟨h1, h2, h3⟩ := rowV_get hj
  exact ⟨b, off, e, hc _ _ h1, by rw [Nat.add_assoc]; exact hc _ _ h2, by rw [Nat.add_assoc]; exact hc _ _ h3⟩

theorem bs_split {es : List Ent} {t : Ent} (hs : Rising es) {h k : Nat} {x : Ent} (hx : es[h]? = some x) (hlt : cmpE x t < 0) (hk : k ≤ h) {y : Ent} (hy : es[k]? = some y) : cmpE y t < 0 := by
  rcases Nat.lt_or_ge k h with z | z
  · exact cmpE_trans (hs.get z hy hx) hlt
  · have : k = h := by omega
    subst this
    rw [hx] at hy
    injection hy with hy
    subst hy
    exact hlt

theorem bs_right {es : List Ent} {t : Ent} (hs : Rising es) {h k : Nat} {x : Ent} (hx : es[h]? = some x) (hlt : ¬ cmpE x t < 0) (hk : h ≤ k) {y : Ent} (hy : es[k]? = some y) : ¬ cmpE y t < 0 := by
  rcases Nat.lt_or_ge h k with z | z
  · intro hy2
    exact hlt (cmpE_trans (hs.get z hx hy) hy2)
  · have : k = h := by omega
    subst this
    rw [hx] at hy
    injection hy with hy
    subst hy
    exact hlt

set_option maxHeartbeats 1000000 in
set_option maxRecDepth 100000 in
theorem search_any (xs : List EV) (t : EV) (A : Option Addr) (cap : Nat) (S K K' : Nat → Prop) (w : World) (hr : Rd w S 3 A xs.length (rowV xs)) (hk : ∀ x ∈ xs, Keyd w K x) (ht : Keyd w K' t) (hs : Rising (xs.map (·.e))) (hl : xs.length ≤ 100000) :
    Calls Try.prog 36 #[.slice A xs.length cap, entV t.e t.A t.c, .func (.func 37) #[] #[]] w fun e w' => e = .returned (.tuple #[.int .i64 (posE t.e (xs.map (·.e)) : Int), .bool (decide (t.e ∈ xs.map (·.e)))]) ∧ Quiet w w' := by
  obtain ⟨n, hn⟩ : ∃ n, xs.length = n := ⟨_, rfl⟩
  have HN := Lib.hid hn
  have HR := Lib.hid hr
  have HK := Lib.hid hk
  have HT := Lib.hid ht
  have HS := Lib.hid hs
  rw [hn] at hl ⊢
  obtain ⟨es, hes⟩ : ∃ es, xs.map (·.e) = es := ⟨_, rfl⟩
  have HES := Lib.hid hes
  rw [hes] at HS ⊢
  have hel : es.length = n := by rw [← hes, List.length_map, hn]
  clear hr hk ht hs hn hes
  go_enter Try.func36, Try.ntmps36
  go_wp2_with fail
  go_loopw [9, 10, 11] (fun ci cj _ wr => ∃ (i j : Nat), i ≤ j ∧ j ≤ n ∧ ci = .int .i64 (i : Int) ∧ cj = .int .i64 (j : Int) ∧ Quiet w wr ∧ wr.heap[w.heap.size]? = some (.cells #[.slice t.A t.e.key.length t.c, .int .i64 t.e.pg, .int .i64 t.e.sl] 34 (0, 0)) ∧ (∀ k y, k < i → es[k]? = some y → cmpE y t.e < 0) ∧ (∀ k y, j ≤ k → es[k]? = some y → 0 ≤ cmpE y t.e)) (fun ci cj _ _ => (intOf cj).toNat - (intOf ci).toNat)
  case atStart => exact ⟨0, n, Nat.zero_le _, Nat.le_refl _, rfl, rfl, (Only.refl _ _).alloc _, alloc_new _ _, fun k y hk => by omega, fun k y hk hy => by have := (List.getElem?_eq_some_iff.1 hy).1; omega⟩
  case round =>
    obtain ⟨i, j, hij, hjn, rfl, rfl, hq, hb, hlo, hhi⟩ := hrel
    have HQ := Lib.hid hq
    have HB := Lib.hid hb
    have HLO := Lib.hid hlo
    have HHI := Lib.hid hhi
    clear hq hb hlo hhi
    by_cases hlt : i < j
    · obtain ⟨h, hh⟩ : ∃ h : Nat, (i + j) / 2 = h := ⟨_, rfl⟩
      have HH := Lib.hid hh
      have hih : i ≤ h ∧ h < j := by omega
      clear hh
      go_wp2_with fail
      rw [show ((i : Int) + (j : Int)) / 2 = (h : Int) by have := HH.out; omega]
      clear HH
      obtain ⟨x, hx⟩ : ∃ x, xs[h]? = some x := ⟨_, List.getElem?_eq_getElem (by have := HN.out; omega)⟩
      have hxe : es[h]? = some x.e := by rw [← HES.out, List.getElem?_map, hx]; rfl
      obtain ⟨b, off, rfl, r0, r1, r2⟩ := row_cells (HR.out.kept HQ.out (fun _ _ x => x)) hx
      have HORD := Lib.hid (order_ev ((HK.out x (List.mem_of_getElem? hx)).quietly HQ.out.drew) (HT.out.quietly HQ.out.drew))
      obtain ⟨t0, t1, t2⟩ := ent_cells HB.out
      have HX := Lib.hid hxe
      have d0 : (0 : Int) ≤ (h : Int) := by omega
      have d1 : (h : Int) < (n : Int) := by omega
      clear hx hxe
      by_cases hc : cmpE x.e t.e < 0
      · have HC := Lib.hid hc
        have hcd : decide (cmpE x.e t.e < 0) = true := decide_eq_true hc
        go_region_held3 (fun w' => w'.cell? ⟨b, off + h * 3, none⟩ = some (.slice x.A x.e.key.length x.c) ∧ w'.cell? ⟨b, off + h * 3 + 1, none⟩ = some (.int .i64 x.e.pg) ∧ w'.cell? ⟨b, off + h * 3 + 2, none⟩ = some (.int .i64 x.e.sl) ∧ w'.cell? ⟨w.heap.size, 0, none⟩ = some (.slice t.A t.e.key.length t.c) ∧ w'.cell? ⟨w.heap.size, 1, none⟩ = some (.int .i64 t.e.pg) ∧ w'.cell? ⟨w.heap.size, 2, none⟩ = some (.int .i64 t.e.sl))
          (first | go_keep | fail)
          (first
            | (go_at_call 37; go_must (refine HORD.out.mono ?_; rintro e w2 ⟨rfl, hq2⟩; have k0 := hq2.cell r0 (fun x => x); have k1 := hq2.cell r1 (fun x => x); have k2 := hq2.cell r2 (fun x => x); have k3 := hq2.cell t0 (fun x => x); have k4 := hq2.cell t1 (fun x => x); have k5 := hq2.cell t2 (fun x => x)))
            | fail)
        have HQ2 := Lib.hid (HQ.out.drew.trans hq2)
        have HB2 := Lib.hid (hq2.get HB.out (fun x => x))
        clear hq2 k0 k1 k2 k3 k4 k5 r0 r1 r2 t0 t1 t2 HORD HB HQ
        go_wp2
        go_roundw
        case rel => exact ⟨h + 1, j, by omega, by omega, by go_num, rfl, HQ2.out, HB2.out, fun k y hk hy => bs_split HS.out HX.out HC.out (by omega) hy, HHI.out⟩
        case measure => simp [intOf]; omega
      · have HC := Lib.hid hc
        have hcd : decide (cmpE x.e t.e < 0) = false := decide_eq_false hc
        go_region_held3 (fun w' => w'.cell? ⟨b, off + h * 3, none⟩ = some (.slice x.A x.e.key.length x.c) ∧ w'.cell? ⟨b, off + h * 3 + 1, none⟩ = some (.int .i64 x.e.pg) ∧ w'.cell? ⟨b, off + h * 3 + 2, none⟩ = some (.int .i64 x.e.sl) ∧ w'.cell? ⟨w.heap.size, 0, none⟩ = some (.slice t.A t.e.key.length t.c) ∧ w'.cell? ⟨w.heap.size, 1, none⟩ = some (.int .i64 t.e.pg) ∧ w'.cell? ⟨w.heap.size, 2, none⟩ = some (.int .i64 t.e.sl))
          (first | go_keep | fail)
          (first
            | (go_at_call 37; go_must (refine HORD.out.mono ?_; rintro e w2 ⟨rfl, hq2⟩; have k0 := hq2.cell r0 (fun x => x); have k1 := hq2.cell r1 (fun x => x); have k2 := hq2.cell r2 (fun x => x); have k3 := hq2.cell t0 (fun x => x); have k4 := hq2.cell t1 (fun x => x); have k5 := hq2.cell t2 (fun x => x)))
            | fail)
        have HQ2 := Lib.hid (HQ.out.drew.trans hq2)
        have HB2 := Lib.hid (hq2.get HB.out (fun x => x))
        clear hq2 k0 k1 k2 k3 k4 k5 r0 r1 r2 t0 t1 t2 HORD HB HQ
        go_wp2
        go_roundw
        case rel => exact ⟨i, h, by omega, by omega, rfl, rfl, HQ2.out, HB2.out, HLO.out, fun k y hk hy => by have := bs_right HS.out HX.out (show ¬ cmpE x.e t.e < 0 by have := HC.out; omega) hk hy; omega⟩
        case measure => simp [intOf]; omega
    · obtain rfl : i = j := by omega
      have hpos : i = posE t.e es := posE_char (by omega) HLO.out (fun y hy => by have := HHI.out i y (Nat.le_refl _) hy; omega)
      by_cases hin : i < n
      · obtain ⟨x, hx⟩ : ∃ x, xs[i]? = some x := ⟨_, List.getElem?_eq_getElem (by have := HN.out; omega)⟩
        have hxe : es[i]? = some x.e := by rw [← HES.out, List.getElem?_map, hx]; rfl
        obtain ⟨b, off, rfl, r0, r1, r2⟩ := row_cells (HR.out.kept HQ.out (fun _ _ x => x)) hx
        have HORD := Lib.hid (order_ev ((HK.out x (List.mem_of_getElem? hx)).quietly HQ.out.drew) (HT.out.quietly HQ.out.drew))
        obtain ⟨t0, t1, t2⟩ := ent_cells HB.out
        have HRES : Hid (decide (t.e ∈ es) = (cmpE x.e t.e == 0)) := by
          have h1 := posE_mem HS.out (e := t.e)
          rw [← hpos, hxe] at h1
          have h2 := cmpE_zero x.e t.e
          by_cases e : x.e = t.e
          · rw [decide_eq_true (h1.2 (by rw [e])), h2.2 e]; rfl
          · rw [decide_eq_false (fun z => e (by injection h1.1 z))]
            exact (beq_false_of_ne (fun z => e (h2.1 z))).symm
        have HPOS := Lib.hid hpos
        have d0 : (0 : Int) ≤ (i : Int) := by omega
        have d1 : (i : Int) < (n : Int) := by omega
        clear hx hxe hpos
        go_wp2_with fail
        go_region_held3 (fun w' => w'.cell? ⟨b, off + i * 3, none⟩ = some (.slice x.A x.e.key.length x.c) ∧ w'.cell? ⟨b, off + i * 3 + 1, none⟩ = some (.int .i64 x.e.pg) ∧ w'.cell? ⟨b, off + i * 3 + 2, none⟩ = some (.int .i64 x.e.sl) ∧ w'.cell? ⟨w.heap.size, 0, none⟩ = some (.slice t.A t.e.key.length t.c) ∧ w'.cell? ⟨w.heap.size, 1, none⟩ = some (.int .i64 t.e.pg) ∧ w'.cell? ⟨w.heap.size, 2, none⟩ = some (.int .i64 t.e.sl))
          (first | go_keep | fail)
          (first
            | (go_at_call 37; go_must (refine HORD.out.mono ?_; rintro e w2 ⟨rfl, hq2⟩; have k0 := hq2.cell r0 (fun x => x); have k1 := hq2.cell r1 (fun x => x); have k2 := hq2.cell r2 (fun x => x); have k3 := hq2.cell t0 (fun x => x); have k4 := hq2.cell t1 (fun x => x); have k5 := hq2.cell t2 (fun x => x)))
            | fail)
        have HQ2 := Lib.hid (HQ.out.drew.trans hq2)
        have HB2 := Lib.hid (hq2.get HB.out (fun x => x))
        clear hq2 k0 k1 k2 k3 k4 k5 r0 r1 r2 t0 t1 t2 HORD HB HQ
        go_wp2
        go_ret2
        rw [HRES.out, ← HPOS.out]
        exact ⟨rfl, HQ2.out⟩
      · obtain rfl : i = n := by omega
        have HRES : Hid (decide (t.e ∈ es) = false) := decide_eq_false (fun z => by
          have := (posE_mem HS.out).1 z
          rw [← hpos] at this
          have := (List.getElem?_eq_some_iff.1 this).1
          omega)
        have HPOS := Lib.hid hpos
        clear hpos
        go_wp2_with fail
        go_quiet (fail)
        go_wp2
        go_ret2
        rw [HRES.out, ← HPOS.out]
        exact ⟨rfl, HQ.out.drewN _⟩

end Go.Proofs.Ytbeenpobppkhdaa
