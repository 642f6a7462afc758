/- The document's tree in memory, and its functions less and place. No condition. -/
import Derived.Test.YtbeenpobppkhdaaTLaw
import Derived.Test.YtbeenpobppkhdaaTLess
namespace Go.Lap
/-- How many are less. -/
def cntE (e : Ent) (l : List Ent) : Nat := l.countP (fun x => decide (cmpE x e < 0))

theorem cntE_rising {e : Ent} : ∀ {l : List Ent}, Rising l → cntE e l = posE e l
  | [], _ => rfl
  | x :: l, h => by
    obtain ⟨h1, h2⟩ := List.pairwise_cons.1 h
    have ih := cntE_rising (e := e) h2
    unfold cntE at ih ⊢
    rw [posE_cons]
    by_cases hx : cmpE x e < 0
    · rw [if_pos hx, List.countP_cons_of_pos (p := fun x => decide (cmpE x e < 0)) (a := x) (decide_eq_true hx), ih]
    · rw [if_neg hx, List.countP_cons_of_neg (p := fun x => decide (cmpE x e < 0)) (a := x) (by simp [hx]), List.countP_eq_zero]
      intro y hy
      have := h1 y hy
      simp only [decide_eq_true_eq]
      intro z
      exact hx (cmpE_trans this z)

theorem cntE_take {e x : Ent} {l : List Ent} {i : Nat} (h : l[i]? = some x) : cntE e (l.take (i + 1)) = cntE e (l.take i) + (if cmpE x e < 0 then 1 else 0) := by
  unfold cntE
  rw [take_succ_get h, List.countP_append]
  congr 1
  by_cases hx : cmpE x e < 0
  · rw [if_pos hx, List.countP_cons_of_pos (p := fun x => decide (cmpE x e < 0)) (a := x) (decide_eq_true hx)]; rfl
  · rw [if_neg hx, List.countP_cons_of_neg (p := fun x => decide (cmpE x e < 0)) (a := x) (by simp [hx])]; rfl

theorem cntE_le (e : Ent) (l : List Ent) : cntE e l ≤ l.length := List.countP_le_length

/-- The one at its place is it, or it isn't there. -/
theorem at_place {e x : Ent} {l : List Ent} (h : Rising l) (hx : l[posE e l]? = some x) : decide (e ∈ l) = !decide (cmpE e x < 0) := by
  have h1 := posE_mem h (e := e)
  rw [hx] at h1
  have h2 := posE_at hx
  have h3 := cmpE_zero x e
  have h4 := cmpE_swap x e
  by_cases z : x = e
  · have := h3.2 z
    rw [decide_eq_true (h1.2 (by rw [z])), decide_eq_false (by omega)]
    rfl
  · have : ¬ cmpE x e = 0 := fun y => z (h3.1 y)
    rw [decide_eq_false (fun y => z (by injection h1.1 y)), decide_eq_true (by omega)]
    rfl

theorem no_place {e : Ent} {l : List Ent} (h : Rising l) (hx : l.length ≤ posE e l) : decide (e ∈ l) = false := by
  refine decide_eq_false (fun y => ?_)
  have := (List.getElem?_eq_some_iff.1 ((posE_mem h).1 y)).1
  omega

theorem lt_key {a b : Ent} (h : ¬ a.key = b.key) : decide (cmpE a b < 0) = decide (cmpB a.key b.key < 0) := by
  have := cmpE_lt a b
  simp only [h, false_and, or_false] at this
  exact decide_eq_decide.2 this

theorem lt_pg {a b : Ent} (h : a.key = b.key) (h' : ¬ a.pg = b.pg) : decide (cmpE a b < 0) = decide (a.pg < b.pg) := by
  have := cmpE_lt a b
  rw [(cmpB_zero _ _).2 h] at this
  simp only [h, h', false_and, or_false, true_and] at this
  refine decide_eq_decide.2 (this.trans ?_)
  constructor
  · rintro (x | x)
    · omega
    · exact x
  · exact Or.inr

theorem lt_sl {a b : Ent} (h : a.key = b.key) (h' : a.pg = b.pg) : decide (cmpE a b < 0) = decide (a.sl < b.sl) := by
  have := cmpE_lt a b
  rw [(cmpB_zero _ _).2 h] at this
  simp only [h, h', true_and] at this
  refine decide_eq_decide.2 (this.trans ?_)
  constructor
  · rintro (x | x | x)
    · omega
    · omega
    · exact x
  · exact fun x => Or.inr (Or.inr x)
end Go.Lap
namespace Go.Proofs.Ytbeenpobppkhdaa
open Go.RowKit Go.Lap

/-- A row of the document's entries. -/
abbrev RRow (w : World) (v : Value) (xs : List EV) : Prop := w.ownsRow 0 31 3 v xs.length (rowV xs)

/-- Block xb is the document's tree; F: its own blocks. -/
structure RefMid (w : World) (F : Nat → Prop) (xb : Nat) (v : Value) (xs : List EV) : Prop where
  box : w.heap[xb]? = some (.cells #[v] 45 (0, 0))
  row : RRow w v xs
  key : ∀ x ∈ xs, Keyd w (fun k => F k ∧ k ≠ xb) x
  sub : F xb ∧ ∀ k, v.ownBlock = some k → F k ∧ k ≠ xb

def RefIs (w : World) (F : Nat → Prop) (xb : Nat) (es : List Ent) : Prop := ∃ v xs, RefMid w F xb v xs ∧ ents xs = es ∧ Rising es

theorem RefMid.kept {w w' : World} {F S : Nat → Prop} {xb : Nat} {v : Value} {xs : List EV} (h : RefMid w F xb v xs) (ho : Only S w w') (hn : ∀ k, F k → ¬ S k) : RefMid w' F xb v xs :=
  ⟨ho.get h.box (hn xb h.sub.1), owns_kept h.row ho (fun k e => hn k (h.sub.2 k e).1), fun x hx => (h.key x hx).kept ho (fun k y => hn k y.1), h.sub⟩

theorem RefIs.kept {w w' : World} {F S : Nat → Prop} {xb : Nat} {es : List Ent} (h : RefIs w F xb es) (ho : Only S w w') (hn : ∀ k, F k → ¬ S k) : RefIs w' F xb es := by
  obtain ⟨v, xs, h1, h2, h3⟩ := h
  exact ⟨v, xs, h1.kept ho hn, h2, h3⟩

theorem RefMid.mono {w : World} {F G : Nat → Prop} {xb : Nat} {v : Value} {xs : List EV} (h : RefMid w F xb v xs) (hg : ∀ k, F k → k < w.heap.size → G k) : RefMid w G xb v xs :=
  ⟨h.box, h.row, fun x hx => by
    have hk := h.key x hx
    refine ⟨⟨hk.rd.len, fun hn => ?_⟩, hk.by_, hk.len⟩
    obtain ⟨b, off, e, hb, hc⟩ := hk.rd.cells hn
    obtain ⟨u, hu⟩ : ∃ u, (bytesV x.e.key)[0]? = some u := ⟨_, List.getElem?_eq_getElem hn⟩
    have hlt := cell_lt (hc 0 u hu)
    exact ⟨b, off, e, ⟨hg b hb.1 hlt, hb.2⟩, hc⟩, ⟨hg xb h.sub.1 (lt_of_get h.box), fun k e => ⟨hg k (h.sub.2 k e).1 (h.row.lt k e).2, (h.sub.2 k e).2⟩⟩⟩

theorem RefIs.mono {w : World} {F G : Nat → Prop} {xb : Nat} {es : List Ent} (h : RefIs w F xb es) (hg : ∀ k, F k → k < w.heap.size → G k) : RefIs w G xb es := by
  obtain ⟨v, xs, h1, h2, h3⟩ := h
  exact ⟨v, xs, h1.mono hg, h2, h3⟩

theorem rent_cells {w : World} {g : Nat} {A : Option Addr} {n c : Nat} {pg sl : Int} (h : w.heap[g]? = some (.cells #[.slice A n c, .int .i64 pg, .int .i64 sl] 31 (0, 0))) :
    w.cell? ⟨g, 0, none⟩ = some (.slice A n c) ∧ w.cell? ⟨g, 1, none⟩ = some (.int .i64 pg) ∧ w.cell? ⟨g, 2, none⟩ = some (.int .i64 sl) :=
  ⟨by rw [cell_of h]; rfl, by rw [cell_of h]; rfl, by rw [cell_of h]; rfl⟩

set_option maxHeartbeats 1000000 in
set_option maxRecDepth 100000 in
theorem rless_any (a b : Ent) (A B : Option Addr) (ca cb : Nat) (S S' : Nat → Prop) (w : World) (hr : Rd w S 1 A a.key.length (bytesV a.key)) (hr' : Rd w S' 1 B b.key.length (bytesV b.key)) (hb : ∀ x ∈ a.key, x < 256) (hb' : ∀ x ∈ b.key, x < 256) :
    Calls Try.prog 47 #[entV a A ca, entV b B cb] w fun e w' => e = .returned (.bool (decide (cmpE a b < 0))) ∧ Quiet w w' := by
  have hq0 : Quiet w ((w.alloc (.cells #[.slice A a.key.length ca, .int .i64 a.pg, .int .i64 a.sl] 31)).alloc (.cells #[.slice B b.key.length cb, .int .i64 b.pg, .int .i64 b.sl] 31)) := ((Only.refl _ _).alloc _).alloc _
  have HQ := Lib.hid hq0
  have HSM := Lib.hid (same_any A B ca cb a.key b.key S S' _ (hr.kept hq0 (fun _ _ x => x)) (hr'.kept hq0 (fun _ _ x => x)) hb hb')
  have HLE := Lib.hid (less_any A B ca cb a.key b.key S S' _ (hr.kept hq0 (fun _ _ x => x)) (hr'.kept hq0 (fun _ _ x => x)) hb hb')
  obtain ⟨a0, a1, a2⟩ := rent_cells (alloc_old (alloc_new w (.cells #[.slice A a.key.length ca, .int .i64 a.pg, .int .i64 a.sl] 31)) (.cells #[.slice B b.key.length cb, .int .i64 b.pg, .int .i64 b.sl] 31))
  obtain ⟨b0, b1, b2⟩ := rent_cells (two_new w (.cells #[.slice A a.key.length ca, .int .i64 a.pg, .int .i64 a.sl] 31) (.cells #[.slice B b.key.length cb, .int .i64 b.pg, .int .i64 b.sl] 31))
  obtain ⟨r, hres⟩ : ∃ r, decide (cmpE a b < 0) = r := ⟨_, rfl⟩
  rw [hres]
  have HRES := Lib.hid hres
  clear hr hr' hb hb' hq0 hres
  go_enter Try.func47, Try.ntmps47
  go_wp2_with fail
  refine HSM.out.mono ?_
  rintro e w1 ⟨rfl, rfl⟩
  clear HSM
  by_cases hk : a.key = b.key
  · rw [decide_eq_true hk]
    by_cases hp : a.pg = b.pg
    · have HX := Lib.hid ((lt_sl hk hp).symm.trans HRES.out)
      have p1 : (a.pg == b.pg) = true := beq_iff_eq.2 hp
      have p2 : (a.pg != b.pg) = false := by simp [hp]
      clear hk hp HLE
      go_wp2
      go_ret
      exact ⟨by rw [HX.out]; rfl, HQ.out⟩
    · have HX := Lib.hid ((lt_pg hk hp).symm.trans HRES.out)
      have p1 : (a.pg == b.pg) = false := beq_eq_false_iff_ne.2 hp
      have p2 : (a.pg != b.pg) = true := by simp [hp]
      clear hk hp HLE
      go_wp2
      go_ret
      exact ⟨by rw [HX.out]; rfl, HQ.out⟩
  · have HX := Lib.hid ((lt_key hk).symm.trans HRES.out)
    rw [decide_eq_false hk]
    clear hk
    go_wp2_with fail
    refine HLE.out.mono ?_
    rintro e w1 ⟨rfl, rfl⟩
    clear HLE
    go_wp2
    go_ret
    exact ⟨by rw [HX.out]; rfl, HQ.out⟩

theorem rless_ev {w : World} {K K' : Nat → Prop} {x y : EV} (hx : Keyd w K x) (hy : Keyd w K' y) :
    Calls Try.prog 47 #[entV x.e x.A x.c, entV y.e y.A y.c] w fun e w' => e = .returned (.bool (decide (cmpE x.e y.e < 0))) ∧ Quiet w w' :=
  rless_any x.e y.e x.A y.A x.c y.c K K' w hx.rd hy.rd hx.by_ hy.by_

set_option maxHeartbeats 2000000 in
set_option maxRecDepth 100000 in
theorem place_any {w : World} {F : Nat → Prop} {xb : Nat} {v : Value} {xs : List EV} (K' : Nat → Prop) (t : EV) (hm : RefMid w F xb v xs) (ht : Keyd w K' t) (hs : Rising (ents xs)) (hl : xs.length ≤ 10000) :
    Calls Try.prog 33 #[ptrV xb, entV t.e t.A t.c] w fun e w' => e = .returned (.tuple #[.int .i64 (posE t.e (ents xs) : Int), .bool (decide (t.e ∈ ents xs))]) ∧ Quiet w w' := by
  obtain ⟨A, c, hv, hc, hcm, hrd⟩ := own_form hm.row
  subst hv
  obtain ⟨n, hn⟩ : ∃ n, xs.length = n := ⟨_, rfl⟩
  have HN := Lib.hid hn
  have HM := Lib.hid hm
  have HRD := Lib.hid hrd
  have HT := Lib.hid ht
  have HS := Lib.hid hs
  obtain ⟨es, hes⟩ : ∃ es, ents xs = es := ⟨_, rfl⟩
  have HES := Lib.hid hes
  rw [hes] at HS ⊢
  have hel : es.length = n := by rw [← hes, List.length_map, hn]
  have HEL := Lib.hid hel
  obtain ⟨p, hp⟩ : ∃ p, posE t.e es = p := ⟨_, rfl⟩
  obtain ⟨bb, hbb⟩ : ∃ bb, decide (t.e ∈ es) = bb := ⟨_, rfl⟩
  have hpl : p ≤ n := by rw [← hp, ← hel]; exact posE_le _ _
  rw [hp, hbb]
  have HP := Lib.hid hp
  have HBB := Lib.hid hbb
  have b0 : (w.alloc (.cells #[.slice t.A t.e.key.length t.c, .int .i64 t.e.pg, .int .i64 t.e.sl] 31)).cell? ⟨xb, 0, none⟩ = some (.slice A n c) := by
    rw [cell_of (alloc_old hm.box _), hn]; rfl
  rw [hn] at hc hl
  clear hm hrd ht hs hes hn hel hp hbb
  go_enter Try.func33, Try.ntmps33
  go_wp2_with fail
  go_loopw [14, 6, 8] (fun ci cn _ wr => ∃ (i : Nat), i ≤ n ∧ ci = .int .i64 (i : Int) ∧ cn = .int .i64 (cntE t.e (es.take i) : Int) ∧ Quiet w wr ∧ wr.heap[w.heap.size]? = some (.cells #[.slice t.A t.e.key.length t.c, .int .i64 t.e.pg, .int .i64 t.e.sl] 31 (0, 0))) (fun ci _ _ _ => n - (intOf ci).toNat)
  case atStart => exact ⟨0, Nat.zero_le _, rfl, rfl, (Only.refl _ _).alloc _, alloc_new _ _⟩
  case round =>
    obtain ⟨i, hi, rfl, rfl, hq, hb⟩ := hrel
    have HQ := Lib.hid hq
    have HB := Lib.hid hb
    clear hq hb b0
    by_cases hlt : i < n
    · obtain ⟨x, hx⟩ : ∃ x, xs[i]? = some x := ⟨_, List.getElem?_eq_getElem (by have := HN.out; omega)⟩
      have hxe : es[i]? = some x.e := by rw [← HES.out, List.getElem?_map, hx]; rfl
      obtain ⟨b, off, rfl, r0, r1, r2⟩ := row_cells (HRD.out.kept HQ.out (fun _ _ x => x)) hx
      have hqa : Quiet w (wr.alloc (.cells #[.slice x.A x.e.key.length x.c, .int .i64 x.e.pg, .int .i64 x.e.sl] 31)) := HQ.out.alloc _
      have HQA := Lib.hid hqa
      obtain ⟨t0, t1, t2⟩ := rent_cells (alloc_old HB.out (.cells #[.slice x.A x.e.key.length x.c, .int .i64 x.e.pg, .int .i64 x.e.sl] 31))
      have HLE := Lib.hid (rless_ev ((HM.out.key x (List.mem_of_getElem? hx)).quietly hqa) (HT.out.quietly hqa))
      have HB2 := Lib.hid (alloc_old HB.out (.cells #[.slice x.A x.e.key.length x.c, .int .i64 x.e.pg, .int .i64 x.e.sl] 31))
      have HCT := Lib.hid (cntE_take (e := t.e) hxe)
      obtain ⟨cnt, hcnt⟩ : ∃ cnt, cntE t.e (es.take i) = cnt := ⟨_, rfl⟩
      have hcl : cnt ≤ 10000 := by rw [← hcnt]; have := cntE_le t.e (es.take i); rw [List.length_take] at this; omega
      rw [hcnt] at HCT ⊢
      have d0 : (0 : Int) ≤ (i : Int) := by omega
      have d1 : (i : Int) < (n : Int) := by omega
      clear hx hxe hqa hcnt
      go_wp2_with fail
      refine HLE.out.mono ?_
      rintro e w2 ⟨rfl, hq2⟩
      have HQ2 := Lib.hid (HQA.out.trans hq2)
      have HB3 := Lib.hid (hq2.get HB2.out (fun x => x))
      clear hq2 HLE HQA HB2 HB HQ r0 r1 r2 t0 t1 t2
      by_cases hc' : cmpE x.e t.e < 0
      · rw [decide_eq_true hc']
        rw [if_pos hc'] at HCT
        clear hc'
        go_wp2
        go_roundw
        case rel => exact ⟨i + 1, by omega, by go_num, by rw [HCT.out]; go_num, HQ2.out, HB3.out⟩
        case measure => simp [intOf]; omega
      · rw [decide_eq_false hc']
        rw [if_neg hc'] at HCT
        clear hc'
        go_wp2
        go_roundw
        case rel => exact ⟨i + 1, by omega, by go_num, by rw [HCT.out]; rfl, HQ2.out, HB3.out⟩
        case measure => simp [intOf]; omega
    · have hcn : cntE t.e (es.take i) = posE t.e es := by
        rw [List.take_of_length_le (by have := HEL.out; omega), cntE_rising HS.out]
      rw [hcn, HP.out]
      have b0 : wr.cell? ⟨xb, 0, none⟩ = some (.slice A n c) := by
        rw [cell_of (HQ.out.get HM.out.box (fun x => x)), HN.out]; rfl
      obtain ⟨t0, t1, t2⟩ := rent_cells HB.out
      by_cases hpn : p < n
      · obtain ⟨x, hx⟩ : ∃ x, xs[p]? = some x := ⟨_, List.getElem?_eq_getElem (by have := HN.out; omega)⟩
        have hxe : es[p]? = some x.e := by rw [← HES.out, List.getElem?_map, hx]; rfl
        have HX := Lib.hid ((at_place HS.out (e := t.e) (x := x.e) (by rw [HP.out]; exact hxe)).symm.trans HBB.out)
        obtain ⟨b, off, rfl, r0, r1, r2⟩ := row_cells (HRD.out.kept HQ.out (fun _ _ x => x)) hx
        have HLE := Lib.hid (rless_ev (HT.out.quietly HQ.out.drew) ((HM.out.key x (List.mem_of_getElem? hx)).quietly HQ.out.drew))
        have d0 : (0 : Int) ≤ (p : Int) := by omega
        have d1 : (p : Int) < (n : Int) := by omega
        clear hcn hx hxe
        go_wp2_with fail
        go_region_held3 (fun w' => w'.cell? ⟨xb, 0, none⟩ = some (.slice (some ⟨b, off, none⟩) n c) ∧ w'.cell? ⟨w.heap.size, 0, none⟩ = some (.slice t.A t.e.key.length t.c) ∧ w'.cell? ⟨w.heap.size, 1, none⟩ = some (.int .i64 t.e.pg) ∧ w'.cell? ⟨w.heap.size, 2, none⟩ = some (.int .i64 t.e.sl) ∧ w'.cell? ⟨b, off + p * 3, none⟩ = some (.slice x.A x.e.key.length x.c) ∧ w'.cell? ⟨b, off + p * 3 + 1, none⟩ = some (.int .i64 x.e.pg) ∧ w'.cell? ⟨b, off + p * 3 + 2, none⟩ = some (.int .i64 x.e.sl))
          (first | go_keep | fail)
          (first
            | (go_at_call 47; go_must (refine HLE.out.mono ?_; rintro e w2 ⟨rfl, hq2⟩; have k0 := hq2.cell b0 (fun x => x); have k1 := hq2.cell t0 (fun x => x); have k2 := hq2.cell t1 (fun x => x); have k3 := hq2.cell t2 (fun x => x); have k4 := hq2.cell r0 (fun x => x); have k5 := hq2.cell r1 (fun x => x); have k6 := hq2.cell r2 (fun x => x)))
            | fail)
        have HQ2 := Lib.hid (HQ.out.drew.trans hq2)
        clear hq2 HLE k0 k1 k2 k3 k4 k5 k6 b0 t0 t1 t2 r0 r1 r2
        go_wp2
        go_ret2
        rw [HX.out]
        exact ⟨rfl, HQ2.out⟩
      · obtain rfl : p = n := by omega
        have HX := Lib.hid ((no_place HS.out (e := t.e) (by rw [HEL.out, HP.out]; omega)).symm.trans HBB.out)
        clear hcn hpl
        go_wp2_with fail
        go_quiet (fail)
        go_wp2
        go_ret2
        rw [← HX.out]
        exact ⟨rfl, HQ.out.drewN _⟩

end Go.Proofs.Ytbeenpobppkhdaa
