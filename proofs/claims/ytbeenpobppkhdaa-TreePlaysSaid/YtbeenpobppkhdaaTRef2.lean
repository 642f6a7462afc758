/- The document's Insert on its tree. No condition. -/
import Derived.Test.YtbeenpobppkhdaaTRef
import Derived.Test.YtbeenpobppkhdaaTDel
import Derived.Test.YtbeenpobppkhdaaTCopy
import Derived.Test.YtbeenpobppkhdaaLast
namespace Go.Lap
theorem row_ins (xs : List EV) (e : EV) {i : Nat} (hi : posE e.e (ents xs) = i) : rowV (xs.take i) ++ e.cells ++ rowV (xs.drop i) = rowV (insX e xs) := by
  subst hi
  unfold insX
  rw [rowV_append, rowV_cons, List.append_assoc]
  rfl

theorem row_del (xs : List EV) (i : Nat) : rowV (xs.take i) ++ rowV (xs.drop (i + 1)) = rowV (xs.take i ++ xs.drop (i + 1)) := (rowV_append _ _).symm

/-- '[]T{}', wherever it lies. -/
theorem owns_empty_at {w : World} {e : TypeId} {size b : Nat} (h : w.heap[b]? = some (.cells #[] e (0, 0))) : w.ownsRow 0 e size (.slice (some ⟨b, 0, none⟩) 0 0) 0 [] :=
  ⟨by simp, Or.inr ⟨b, 0, #[], rfl, Nat.zero_le _, h, Nat.le_refl _, Nat.zero_le _, by simp, by simp⟩⟩
end Go.Lap
namespace Go.Proofs.Ytbeenpobppkhdaa
open Go.RowKit Go.Lap

theorem elem_rent : Elem Try.prog 22 31 3 40 := Elem.mk' (.agg #[.slice none 0 0, .int .i64 0, .int .i64 0]) Try.underlying22 (by kernel_rfl) rfl (by decide)

/-- The row is another one. -/
theorem RefMid.turn {w w' : World} {F : Nat → Prop} {xb : Nat} {v v' : Value} {xs ys : List EV} (h : RefMid w F xb v xs) (hq : Quiet w w') (hrow : RRow w' v' ys) (hnew : ∀ k, v'.ownBlock = some k → w.heap.size ≤ k) (hk : ∀ y ∈ ys, y ∈ xs ∨ Keyd w' (fun k => w.heap.size ≤ k) y) :
    RefMid (w'.setCell ⟨xb, 0, none⟩ v') (fun k => F k ∨ w.heap.size ≤ k) xb v' ys ∧ Only (· = xb) w (w'.setCell ⟨xb, 0, none⟩ v') := by
  have hs : Only (· = xb) w' (w'.setCell ⟨xb, 0, none⟩ v') := (Only.refl (· = xb) w').setCell (p := ⟨xb, 0, none⟩) (fun _ => rfl) _
  have hl := lt_of_get h.box
  refine ⟨⟨by rw [set_same (hq.get h.box (fun x => x))]; rfl, owns_kept hrow hs (fun k e x => by have := hnew k e; omega), fun y hy => ?_, Or.inl h.sub.1, fun k e => ⟨Or.inr (hnew k e), by have := hnew k e; omega⟩⟩, (hq.mono (T := (· = xb)) (fun _ _ x => x.elim)).trans hs⟩
  rcases hk y hy with z | z
  · exact (((h.key y z).quietly hq).kept hs (fun k x e => x.2 e)).mono (fun k x => ⟨Or.inl x.1, x.2⟩)
  · exact (z.kept hs (fun k x e => by omega)).mono (fun k x => ⟨Or.inr x, by omega⟩)

/-- An append beside: all that is older stays. -/
theorem grew_quiet {w W w5 : World} {e : TypeId} {size n : Nat} {v v5 : Value} {xs : List Value} (hq : Quiet w W) (hn : ∀ k, v.ownBlock = some k → w.heap.size ≤ k) (hg : Grew W w5 e size v v5 n xs) : Quiet w w5 ∧ ∀ k, v5.ownBlock = some k → w.heap.size ≤ k := by
  have hz := hq.size
  refine ⟨hq.trans' hg.only (fun k hk x => by have := hn k x; omega), fun k x => ?_⟩
  rcases hg.loc with y | y
  · rw [y] at x; exact hn k x
  · rw [y] at x; injection x with x; omega

/-- One entry by itself, beside another new block. -/
theorem rd_two (w : World) (X : Obj) (x : EV) (e : TypeId) : Rd ((w.alloc X).alloc (.cells #[.slice x.A x.e.key.length x.c, .int .i64 x.e.pg, .int .i64 x.e.sl] e)) (· = w.heap.size + 1) 3 (some ⟨w.heap.size + 1, 0, none⟩) 1 x.cells := by
  have := Rd.new (w.alloc X) 3 1 x.cells e (· = w.heap.size + 1) rfl (by rw [World.size_alloc])
  rw [World.size_alloc] at this
  exact this

theorem rd_one (w : World) (X : Obj) (x : EV) (e : TypeId) : Rd ((w.alloc (.cells #[.slice x.A x.e.key.length x.c, .int .i64 x.e.pg, .int .i64 x.e.sl] e)).alloc X) (· = w.heap.size) 3 (some ⟨w.heap.size, 0, none⟩) 1 x.cells :=
  (Rd.new w 3 1 x.cells e (· = w.heap.size) rfl rfl).kept ((Only.refl (fun _ => False) _).alloc X) (fun _ _ x => x)

theorem own_slice {w : World} {e : TypeId} {size n : Nat} {v : Value} {xs : List Value} (h : w.ownsRow 0 e size v n xs) : ∃ A m c, v = .slice A m c := by
  obtain ⟨A, c, e, _⟩ := own_form h
  exact ⟨A, _, c, e⟩

theorem own_at {b k n c : Nat} (h : (Value.slice (some ⟨b, 0, none⟩) n c).ownBlock = some k) : b = k := Option.some.inj h

/-- An append beside, as an equation. -/
theorem app_q {P : Program} {t e : TypeId} {size bytes : Nat} (E : Elem P t e size bytes) (ty : TypeId) {w W : World} {v : Value} {n m q c : Nat} {xs news : List Value} {S : Nat → Prop} {A : Option Addr} (hq : Quiet w W) (hown : W.ownsRow 0 e size v n xs) (hnew : ∀ k, v.ownBlock = some k → w.heap.size ≤ k) (hr : Rd W S size A m news) (h1 : ∀ u ∈ news, u.oneCell' = true) (hqq : n + m = q) (h63 : q ≤ maxLen) (hbytes : q * bytes ≤ 140737488355328) :
    ∃ A' c' w', (Builtin.append_ #[t, t] ty #[v, .slice A m c]).run P W = .ok (.slice A' q c') w' ∧ w'.ownsRow 0 e size (.slice A' q c') q (xs ++ news) ∧ Quiet w w' ∧ (∀ k, (Value.slice A' q c').ownBlock = some k → w.heap.size ≤ k) ∧ Only (fun k => v.ownBlock = some k) W w' := by
  subst hqq
  obtain ⟨v', w', hrun, hg⟩ := run_app (P := P) W E ty hown hr (c := c) h1 h63 hbytes
  obtain ⟨h2, h3⟩ := grew_quiet hq hnew hg
  obtain ⟨A', c', e', _⟩ := own_form hg.own
  subst e'
  exact ⟨A', c', w', hrun, hg.own, h2, h3, hg.only⟩

/-- The cells of a block, at a later world. -/
theorem tri_of {w w' : World} {g : Nat} {t : TypeId} {a b c : Value} (hq : Quiet w w') (h : w.heap[g]? = some (.cells #[a, b, c] t (0, 0))) : w'.cell? ⟨g, 0, none⟩ = some a ∧ w'.cell? ⟨g, 1, none⟩ = some b ∧ w'.cell? ⟨g, 2, none⟩ = some c := by
  have := hq.get h (fun x => x)
  exact ⟨by rw [cell_of this]; rfl, by rw [cell_of this]; rfl, by rw [cell_of this]; rfl⟩

def rinsPost (w : World) (F : Nat → Prop) (xb : Nat) (es : List Ent) (e : Ent) (r : Ending) (w' : World) : Prop :=
  (e ∈ es ∧ r = .returned (.int .i64 7) ∧ Quiet w w') ∨
  (e ∉ es ∧ r = .returned (.int .i64 0) ∧ Only (· = xb) w w' ∧ RefIs w' (fun k => F k ∨ w.heap.size ≤ k) xb (insE e es))

set_option maxHeartbeats 4000000 in
set_option maxRecDepth 100000 in
theorem ref_insert (w : World) (F : Nat → Prop) (xb : Nat) (es : List Ent) (e : Ent) (A : Option Addr) (c : Nat) (S : Nat → Prop) (ht : RefIs w F xb es) (hr : Rd w S 1 A e.key.length (bytesV e.key)) (hby : ∀ x ∈ e.key, x < 256) (hl : e.key.length ≤ 600) (hn : es.length ≤ 9999) :
    Calls Try.prog 18 #[ptrV xb, entV e A c] w (rinsPost w F xb es e) := by
  obtain ⟨v, xs, hm, hes, hris⟩ := ht
  subst hes
  have hxl : xs.length ≤ 9999 := by simpa using hn
  have hq0 : Quiet w (w.alloc (.cells #[.slice A e.key.length c, .int .i64 e.pg, .int .i64 e.sl] 31)) := (Only.refl _ _).alloc _
  obtain ⟨t0, t1, t2⟩ := rent_cells (alloc_new w (.cells #[.slice A e.key.length c, .int .i64 e.pg, .int .i64 e.sl] 31))
  have HBX := Lib.hid (alloc_new w (.cells #[.slice A e.key.length c, .int .i64 e.pg, .int .i64 e.sl] 31))
  have HPL := Lib.hid (place_any S ⟨e, A, c⟩ (hm.kept hq0 (fun _ _ x => x)) (⟨hr.kept hq0 (fun _ _ x => x), hby, by show e.key.length ≤ 1000; omega⟩) hris (by omega))
  obtain ⟨i, hi⟩ : ∃ i, posE e (ents xs) = i := ⟨_, rfl⟩
  have hil : i ≤ xs.length := by have := posE_le e (ents xs); rw [hi] at this; simpa using this
  have HI := Lib.hid hi
  rw [hi] at HPL
  have HM := Lib.hid hm
  have HRD := Lib.hid hr
  have HBY := Lib.hid hby
  have HRIS := Lib.hid hris
  have HQ0 := Lib.hid hq0
  have d6 : decide ((600 : Int) < (e.key.length : Int)) = false := decide_eq_false (by omega)
  obtain ⟨POST, hPOST⟩ : ∃ POST, rinsPost w F xb (ents xs) e = POST := ⟨_, rfl⟩
  rw [hPOST]
  have HPOST := Lib.hid hPOST
  clear hm hr hby hris hq0 hPOST hn hi
  go_enter Try.func18, Try.ntmps18
  go_wp2_with fail
  refine HPL.out.mono ?_
  rintro r w2 ⟨rfl, hq2⟩
  have HB2 := Lib.hid (hq2.get HBX.out (fun x => x))
  have HQ2 := Lib.hid (HQ0.out.trans hq2)
  obtain ⟨k0, k1, k2⟩ := rent_cells HB2.out
  have kf := fun o => frozen_of HB2.out o
  clear HPL HBX HQ0 t0 t1 t2
  by_cases hmem : e ∈ ents xs
  · rw [decide_eq_true hmem]
    have HR : Hid (POST (.returned (.int .i64 7)) w2) := by
      rw [← HPOST.out]
      exact Or.inl ⟨hmem, rfl, HQ2.out⟩
    clear hmem hq2
    go_wp2
    exact HR.out
  · rw [decide_eq_false hmem]
    have HMEM := Lib.hid hmem
    have HCO := Lib.hid (copy_any A c e.key S w2 (HRD.out.kept HQ2.out (fun _ _ x => x)) (by omega))
    clear hmem hq2
    go_wp2_with fail
    refine HCO.out.mono ?_
    rintro r w3 ⟨vk, rfl, hf3⟩
    have hb3 := hf3.quiet.get HB2.out (fun x => x)
    obtain ⟨Ak, ck, hvk, _, _, hrk⟩ := own_form hf3.own
    subst hvk
    have hw4 : Only (· = w.heap.size) w3 (w3.setCell ⟨w.heap.size, 0, none⟩ (.slice Ak e.key.length ck)) := (Only.refl (· = w.heap.size) w3).setCell (p := ⟨w.heap.size, 0, none⟩) (fun _ => rfl) _
    have hq4 : Quiet w (w3.setCell ⟨w.heap.size, 0, none⟩ (.slice Ak e.key.length ck)) := (HQ2.out.trans hf3.quiet).trans' hw4 (fun k hk x => by omega)
    have hb4 : (w3.setCell ⟨w.heap.size, 0, none⟩ (.slice Ak e.key.length ck)).heap[w.heap.size]? = some (.cells #[.slice Ak e.key.length ck, .int .i64 e.pg, .int .i64 e.sl] 31 (0, 0)) := by rw [set_same hb3]; rfl
    have hz2 := lt_of_get HB2.out
    have hk4 : Keyd (w3.setCell ⟨w.heap.size, 0, none⟩ (.slice Ak e.key.length ck)) (fun k => w.heap.size ≤ k) ⟨e, Ak, ck⟩ := ⟨(hrk.kept hw4 (fun k x y => by have := hf3.new k x; omega)).mono (fun k x => by have := hf3.new k x; omega), HBY.out, by show e.key.length ≤ 1000; omega⟩
    have kf3 := fun o => frozen_of hb3 o
    have j3 : w3.cell? ⟨w.heap.size, 0, none⟩ = some (.slice A e.key.length c) := by rw [cell_of hb3]; rfl
    have HQ4 := Lib.hid hq4
    have HB4 := Lib.hid hb4
    have HK4 := Lib.hid hk4
    clear hw4 hq4 hb4 hk4 hz2 hf3 hrk hb3 HCO HB2 HQ2 HBY HRD k0 k1 k2 kf
    go_upto_region 9 with fail
    clear kf3 j3
    generalize w3.setCell ⟨w.heap.size, 0, none⟩ (.slice Ak e.key.length ck) = w4 at HQ4 HB4 HK4 ⊢
    have HM4 := Lib.hid (HM.out.kept HQ4.out (fun _ _ x => x))
    obtain ⟨t0, t1, t2⟩ := rent_cells HB4.out
    have HNEW : Hid (∀ (b c0 : Nat), w4.heap.size ≤ b → ∀ k, (Value.slice (some ⟨b, 0, none⟩) 0 c0).ownBlock = some k → w4.heap.size ≤ k) := fun b c0 hb k x => by have := own_at x; omega
    rcases owns_cases HM4.out.row with ⟨hv, hx0⟩ | ⟨g, cv, hv, hc, hcm⟩
    · subst hv
      obtain rfl : i = 0 := by omega
      have HRT : Hid (Rd w4 (fun _ => False) 3 none 0 (rowV (xs.take 0))) := Rd.nil _ _ _ _
      have HRDR : Hid (Rd w4 (fun _ => False) 3 none 0 (rowV (xs.drop 0))) := by rw [List.eq_nil_of_length_eq_zero hx0]; exact Rd.nil _ _ _ _
      have b0 : w4.cell? ⟨xb, 0, none⟩ = some (.slice none 0 0) := by rw [cell_of HM4.out.box]; rfl
      have HX0 := Lib.hid hx0
      clear hx0
      have HS : Hid (∀ W, Quiet w4 W → (fun w' => w'.cell? ⟨xb, 0, none⟩ = some (.slice none 0 0) ∧ w'.cell? ⟨w.heap.size, 0, none⟩ = some (.slice Ak e.key.length ck) ∧ w'.cell? ⟨w.heap.size, 1, none⟩ = some (.int .i64 e.pg) ∧ w'.cell? ⟨w.heap.size, 2, none⟩ = some (.int .i64 e.sl)) W) := fun W hq => ⟨hq.cell b0 (fun x => x), hq.cell t0 (fun x => x), hq.cell t1 (fun x => x), hq.cell t2 (fun x => x)⟩
      refine wp_region_last (S := (fun w' => w'.cell? ⟨xb, 0, none⟩ = some (.slice none 0 0) ∧ w'.cell? ⟨w.heap.size, 0, none⟩ = some (.slice Ak e.key.length ck) ∧ w'.cell? ⟨w.heap.size, 1, none⟩ = some (.int .i64 e.pg) ∧ w'.cell? ⟨w.heap.size, 2, none⟩ = some (.int .i64 e.sl))) (by kernel_rfl) (by kernel_rfl) (by simp) (⟨b0, t0, t1, t2⟩) (fun hHeld => ?_)
      simp only [List.pop_toArray, List.dropLast, List.size_toArray, List.length_cons, List.length_nil, Nat.reduceAdd, Nat.reduceSub]
      (refine wpAnyH_take (i := 0) (oi := ?_) (v := ?_) ?_ (by kernel_rfl) (by decide +kernel) (by decide +kernel) ?_ (Or.inl ⟨?_, ?_⟩) (by assumption) ?_; rotate_left 2; (focus (simp only [List.getElem?_toArray, List.getElem?_cons_zero, List.getElem?_cons_succ] <;> rfl)); (focus (exact fun _ _ _ => last_panic (fun h => h))); (focus rfl); (focus (intro w hSw; (try dsimp only at hSw); go_simp; (try with_reducible rfl); done)); (try simp only [Act.put, List.setIfInBounds_toArray, List.set_cons_zero, List.set_cons_succ]))
      (refine wpAnyH_take (i := 2) (oi := ?_) (v := ?_) ?_ (by kernel_rfl) (by decide +kernel) (by decide +kernel) ?_ (Or.inl ⟨?_, ?_⟩) (by assumption) ?_; rotate_left 2; (focus (simp only [List.getElem?_toArray, List.getElem?_cons_zero, List.getElem?_cons_succ] <;> rfl)); (focus (exact fun _ _ _ => last_panic (fun h => h))); (focus rfl); (focus (intro w hSw; (try dsimp only at hSw); go_simp; (try with_reducible rfl); done)); (try simp only [Act.put, List.setIfInBounds_toArray, List.set_cons_zero, List.set_cons_succ]))
      (refine wpAnyH_take (i := 3) (oi := ?_) (v := ?_) ?_ (by kernel_rfl) (by decide +kernel) (by decide +kernel) ?_ (Or.inl ⟨?_, ?_⟩) (by assumption) ?_; rotate_left 2; (focus (simp only [List.getElem?_toArray, List.getElem?_cons_zero, List.getElem?_cons_succ] <;> rfl)); (focus (exact fun _ _ _ => last_panic (fun h => h))); (focus rfl); (focus (intro w hSw; (try dsimp only at hSw); go_simp; (try with_reducible rfl); done)); (try simp only [Act.put, List.setIfInBounds_toArray, List.set_cons_zero, List.set_cons_succ]))
      (refine wpAnyH_take (i := 4) (oi := ?_) (v := ?_) ?_ (by kernel_rfl) (by decide +kernel) (by decide +kernel) ?_ (Or.inl ⟨?_, ?_⟩) (by assumption) ?_; rotate_left 2; (focus (simp only [List.getElem?_toArray, List.getElem?_cons_zero, List.getElem?_cons_succ] <;> rfl)); (focus (exact fun _ _ _ => last_panic (fun h => h))); (focus rfl); (focus (intro w hSw; (try dsimp only at hSw); go_simp; (try with_reducible rfl); done)); (try simp only [Act.put, List.setIfInBounds_toArray, List.set_cons_zero, List.set_cons_succ]))
      (refine wpAnyH_take (i := 5) (oi := ?_) (v := ?_) ?_ (by kernel_rfl) (by decide +kernel) (by decide +kernel) ?_ (Or.inl ⟨?_, ?_⟩) (by assumption) ?_; rotate_left 2; (focus (simp only [List.getElem?_toArray, List.getElem?_cons_zero, List.getElem?_cons_succ] <;> rfl)); (focus (exact fun _ _ _ => last_panic (fun h => h))); (focus rfl); (focus (intro w hSw; (try dsimp only at hSw); go_simp; (try with_reducible rfl); done)); (try simp only [Act.put, List.setIfInBounds_toArray, List.set_cons_zero, List.set_cons_succ]))
      (refine wpAnyH_take (i := 6) (oi := ?_) (v := ?_) ?_ (by kernel_rfl) (by decide +kernel) (by decide +kernel) ?_ (Or.inl ⟨?_, ?_⟩) (by assumption) ?_; rotate_left 2; (focus (simp only [List.getElem?_toArray, List.getElem?_cons_zero, List.getElem?_cons_succ] <;> rfl)); (focus (exact fun _ _ _ => last_panic (fun h => h))); (focus rfl); (focus (intro w hSw; (try dsimp only at hSw); go_simp; (try with_reducible rfl); done)); (try simp only [Act.put, List.setIfInBounds_toArray, List.set_cons_zero, List.set_cons_succ]))
      (refine wpAnyH_take (i := 7) (oi := ?_) (v := ?_) ?_ (by kernel_rfl) (by decide +kernel) (by decide +kernel) ?_ (Or.inl ⟨?_, ?_⟩) (by assumption) ?_; rotate_left 2; (focus (simp only [List.getElem?_toArray, List.getElem?_cons_zero, List.getElem?_cons_succ] <;> rfl)); (focus (exact fun _ _ _ => last_panic (fun h => h))); (focus rfl); (focus (intro w hSw; (try dsimp only at hSw); go_simp; (try with_reducible rfl); done)); (try simp only [Act.put, List.setIfInBounds_toArray, List.set_cons_zero, List.set_cons_succ]))
      (refine wpAnyH_take (i := 9) (oi := ?_) (v := ?_) ?_ (by kernel_rfl) (by decide +kernel) (by decide +kernel) ?_ (Or.inl ⟨?_, ?_⟩) (by assumption) ?_; rotate_left 2; (focus (simp only [List.getElem?_toArray, List.getElem?_cons_zero, List.getElem?_cons_succ] <;> rfl)); (focus (exact fun _ _ _ => last_panic (fun h => h))); (focus rfl); (focus (intro w hSw; (try dsimp only at hSw); go_simp; (try with_reducible rfl); done)); (try simp only [Act.put, List.setIfInBounds_toArray, List.set_cons_zero, List.set_cons_succ]))
      (refine wpAnyH_take (i := 12) (oi := ?_) (v := ?_) ?_ (by kernel_rfl) (by decide +kernel) (by decide +kernel) ?_ (Or.inl ⟨?_, ?_⟩) (by assumption) ?_; rotate_left 2; (focus (simp only [List.getElem?_toArray, List.getElem?_cons_zero, List.getElem?_cons_succ] <;> rfl)); (focus (exact fun _ _ _ => last_panic (fun h => h))); (focus rfl); (focus (intro w hSw; (try dsimp only at hSw); go_simp; (try with_reducible rfl); done)); (try simp only [Act.put, List.setIfInBounds_toArray, List.set_cons_zero, List.set_cons_succ]))
      (refine wpAnyH_take (i := 13) (oi := ?_) (v := ?_) ?_ (by kernel_rfl) (by decide +kernel) (by decide +kernel) ?_ (Or.inl ⟨?_, ?_⟩) (by assumption) ?_; rotate_left 2; (focus (simp only [List.getElem?_toArray, List.getElem?_cons_zero, List.getElem?_cons_succ] <;> rfl)); (focus (exact fun _ _ _ => last_panic (fun h => h))); (focus rfl); (focus (intro w hSw; (try dsimp only at hSw); go_simp; (try with_reducible rfl); done)); (try simp only [Act.put, List.setIfInBounds_toArray, List.set_cons_zero, List.set_cons_succ]))
      (refine wpAnyH_take (i := 14) (oi := ?_) (v := ?_) ?_ (by kernel_rfl) (by decide +kernel) (by decide +kernel) ?_ (Or.inl ⟨?_, ?_⟩) (by assumption) ?_; rotate_left 2; (focus (simp only [List.getElem?_toArray, List.getElem?_cons_zero, List.getElem?_cons_succ] <;> rfl)); (focus (exact fun _ _ _ => last_panic (fun h => h))); (focus rfl); (focus (intro w hSw; (try dsimp only at hSw); go_simp; (try with_reducible rfl); done)); (try simp only [Act.put, List.setIfInBounds_toArray, List.set_cons_zero, List.set_cons_succ]))
      (refine wpAnyH_take (i := 15) (oi := ?_) (v := ?_) ?_ (by kernel_rfl) (by decide +kernel) (by decide +kernel) ?_ (Or.inl ⟨?_, ?_⟩) (by assumption) ?_; rotate_left 2; (focus (simp only [List.getElem?_toArray, List.getElem?_cons_zero, List.getElem?_cons_succ] <;> rfl)); (focus (exact fun _ _ _ => last_panic (fun h => h))); (focus rfl); (focus (intro w hSw; (try dsimp only at hSw); go_simp; (try with_reducible rfl); done)); (try simp only [Act.put, List.setIfInBounds_toArray, List.set_cons_zero, List.set_cons_succ]))
      (refine wpAnyH_take (i := 16) (oi := ?_) (v := ?_) ?_ (by kernel_rfl) (by decide +kernel) (by decide +kernel) ?_ (Or.inl ⟨?_, ?_⟩) (by assumption) ?_; rotate_left 2; (focus (simp only [List.getElem?_toArray, List.getElem?_cons_zero, List.getElem?_cons_succ] <;> rfl)); (focus (exact fun _ _ _ => last_panic (fun h => h))); (focus rfl); (focus (intro w hSw; (try dsimp only at hSw); go_simp; (try with_reducible rfl); done)); (try simp only [Act.put, List.setIfInBounds_toArray, List.set_cons_zero, List.set_cons_succ]))
      (refine wpAnyH_take (i := 17) (oi := ?_) (v := ?_) ?_ (by kernel_rfl) (by decide +kernel) (by decide +kernel) ?_ (Or.inl ⟨?_, ?_⟩) (by assumption) ?_; rotate_left 2; (focus (simp only [List.getElem?_toArray, List.getElem?_cons_zero, List.getElem?_cons_succ] <;> rfl)); (focus (exact fun _ _ _ => last_panic (fun h => h))); (focus rfl); (focus (intro w hSw; (try dsimp only at hSw); go_simp; (try with_reducible rfl); done)); (try simp only [Act.put, List.setIfInBounds_toArray, List.set_cons_zero, List.set_cons_succ]))
      refine wpAnyH_ready (rs := [1, 10]) (by kernel_rfl) (by simp) ?_
      refine AllReadyH.cons (o := ?_) ?_ ?_ ?_
      rotate_left 1
      (focus (simp only [List.getElem?_toArray, List.getElem?_cons_zero, List.getElem?_cons_succ] <;> rfl))
      · intro K hK
        go_simp
        refine hK.out _ _ ?_ (fun hHeld => ?_)
        · exact HS.out _ (((Only.refl (fun _ => False) w4)).alloc _).drew
        clear hK K
        (try simp only [Act.put, List.setIfInBounds_toArray, List.set_cons_zero, List.set_cons_succ])
        refine wpAnyH_ready (rs := [8, 10]) (by kernel_rfl) (by simp) ?_
        refine AllReadyH.cons (o := ?_) ?_ ?_ ?_
        rotate_left 1
        (focus (simp only [List.getElem?_toArray, List.getElem?_cons_zero, List.getElem?_cons_succ] <;> rfl))
        · intro K hK
          refine app_step elem_rent rfl (.tmp 25) (.tmp 31) rfl rfl (owns_empty_at (b := w4.heap.size) (alloc_new w4 _)) rfl (HRT.out.kept ((((Only.refl (fun _ => False) w4)).alloc (.cells #[] 31)).drew) (fun _ _ x => x)) (one_row _) (by unfold maxLen; omega) (by omega) ?_
          intro v5 w5 hg5
          obtain ⟨hq5, hn5⟩ := grew_quiet ((((Only.refl (fun _ => False) w4)).alloc (.cells #[] 31)).drew) (HNEW.out w4.heap.size _ (by omega)) hg5
          refine hK.out _ _ ?_ (fun hHeld => ?_)
          · exact HS.out _ hq5
          clear hK K
          (try simp only [Act.put, List.setIfInBounds_toArray, List.set_cons_zero, List.set_cons_succ])
          refine wpAnyH_ready (rs := [10]) (by kernel_rfl) (by simp) ?_
          refine AllReadyH.cons (o := ?_) ?_ ?_ ?_
          rotate_left 1
          (focus (simp only [List.getElem?_toArray, List.getElem?_cons_zero, List.getElem?_cons_succ] <;> rfl))
          · intro K hK
            go_simp
            refine hK.out _ _ ?_ (fun hHeld => ?_)
            · exact HS.out _ (hq5.alloc _)
            clear hK K
            (try simp only [Act.put, List.setIfInBounds_toArray, List.set_cons_zero, List.set_cons_succ])
            refine wpAnyH_ready (rs := [11]) (by kernel_rfl) (by simp) ?_
            refine AllReadyH.cons (o := ?_) ?_ ?_ ?_
            rotate_left 1
            (focus (simp only [List.getElem?_toArray, List.getElem?_cons_zero, List.getElem?_cons_succ] <;> rfl))
            · intro K hK
              refine app_step elem_rent rfl (.tmp 32) (.tmp 34) rfl rfl (owns_kept hg5.own ((Only.refl (fun _ => False) w5).alloc (.cells #[.slice Ak e.key.length ck, .int .i64 e.pg, .int .i64 e.sl] 31)) (fun _ _ x => x)) rfl (Rd.new w5 3 1 (EV.cells ⟨e, Ak, ck⟩) 31 (fun _ => True) rfl trivial) (one_row [⟨e, Ak, ck⟩]) (by unfold maxLen; omega) (by omega) ?_
              intro v6 w6 hg6
              obtain ⟨hq6, hn6⟩ := grew_quiet (hq5.alloc (.cells #[.slice Ak e.key.length ck, .int .i64 e.pg, .int .i64 e.sl] 31)) hn5 hg6
              refine hK.out _ _ ?_ (fun hHeld => ?_)
              · exact HS.out _ hq6
              clear hK K
              (try simp only [Act.put, List.setIfInBounds_toArray, List.set_cons_zero, List.set_cons_succ])
              refine wpAnyH_ready (rs := [18]) (by kernel_rfl) (by simp) ?_
              refine AllReadyH.cons (o := ?_) ?_ ?_ ?_
              rotate_left 1
              (focus (simp only [List.getElem?_toArray, List.getElem?_cons_zero, List.getElem?_cons_succ] <;> rfl))
              · intro K hK
                refine app_step elem_rent rfl (.tmp 35) (.tmp 41) rfl rfl hg6.own rfl (HRDR.out.kept hq6 (fun _ _ x => x)) (one_row _) (by unfold maxLen; omega) (by omega) ?_
                intro v7 w7 hg7
                obtain ⟨hq7, hn7⟩ := grew_quiet hq6 hn6 hg7
                refine hK.out _ _ ?_ (fun hHeld => ?_)
                · exact HS.out _ hq7
                clear hK K
                (try simp only [Act.put, List.setIfInBounds_toArray, List.set_cons_zero, List.set_cons_succ])
                (refine wpAnyH_take (i := 19) (oi := ?_) (v := ?_) ?_ (by kernel_rfl) (by decide +kernel) (by decide +kernel) ?_ (Or.inl ⟨?_, ?_⟩) (by assumption) ?_; rotate_left 2; (focus (simp only [List.getElem?_toArray, List.getElem?_cons_zero, List.getElem?_cons_succ] <;> rfl)); (focus (exact fun _ _ _ => last_panic (fun h => h))); (focus rfl); (focus (intro w hSw; (try dsimp only at hSw); go_simp; (try with_reducible rfl); done)); (try simp only [Act.put, List.setIfInBounds_toArray, List.set_cons_zero, List.set_cons_succ]))
                (refine wpAnyH_take (i := 20) (oi := ?_) (v := ?_) ?_ (by kernel_rfl) (by decide +kernel) (by decide +kernel) ?_ (Or.inl ⟨?_, ?_⟩) (by assumption) ?_; rotate_left 2; (focus (simp only [List.getElem?_toArray, List.getElem?_cons_zero, List.getElem?_cons_succ] <;> rfl)); (focus (exact fun _ _ _ => last_panic (fun h => h))); (focus rfl); (focus (intro w hSw; (try dsimp only at hSw); go_simp; (try with_reducible rfl); done)); (try simp only [Act.put, List.setIfInBounds_toArray, List.set_cons_zero, List.set_cons_succ]))
                obtain ⟨A7, n7, c7, hv7⟩ := own_slice hg7.own
                subst hv7
                have k7 : w7.cell? ⟨xb, 0, none⟩ = _ := (HS.out _ hq7).1
                have f7 := fun o => frozen_of (hq7.get HM4.out.box (fun x => x)) o
                refine wpAnyH_done (by kernel_rfl) ?_ _
                refine last_step (o := ?_) ?_ ?_
                rotate_left 1
                (focus (simp only [List.getElem?_toArray, List.getElem?_cons_zero, List.getElem?_cons_succ] <;> rfl))
                intro K hK
                go_simp
                refine hK.out _ _ ?_
                clear hK K
                have HRES : Hid (POST (.returned (.int .i64 0)) (w7.setCell ⟨xb, 0, none⟩ (.slice A7 n7 c7))) := by
                  have hrow : RRow w7 (.slice A7 n7 c7) (insX ⟨e, Ak, ck⟩ xs) := by
                    have := hg7.own
                    rw [List.nil_append, row_ins xs ⟨e, Ak, ck⟩ HI.out] at this
                    unfold RRow
                    rw [insX_length]
                    rw [HX0.out]
                    first | exact this | (rw [Nat.zero_add] at this; exact this)
                  have h8 := HM.out.turn (HQ4.out.trans hq7) hrow (fun k x => by have := hn7 k x; have := HQ4.out.size; omega) (fun y hy => by
                    rcases mem_insX hy with z | z
                    · subst z; exact Or.inr (HK4.out.quietly hq7)
                    · exact Or.inl z)
                  rw [← HPOST.out]
                  refine Or.inr ⟨HMEM.out, rfl, h8.2, _, _, h8.1, ?_, HRIS.out.ins HMEM.out⟩
                  rw [ents_insX]
                clear hg7 hq7 hn7 hg6 hq6 hn6 hg5 hq5 hn5 k7 f7 hHeld
                go_wp2
                exact HRES.out
              exact AllReadyH.nil
            exact AllReadyH.nil
          exact AllReadyH.nil
        refine AllReadyH.cons (o := ?_) ?_ ?_ ?_
        rotate_left 1
        (focus (simp only [List.getElem?_toArray, List.getElem?_cons_zero, List.getElem?_cons_succ] <;> rfl))
        · intro K hK
          go_simp
          refine hK.out _ _ ?_ (fun hHeld => ?_)
          · exact HS.out _ ((((Only.refl (fun _ => False) w4)).alloc _).alloc _).drew
          clear hK K
          (try simp only [Act.put, List.setIfInBounds_toArray, List.set_cons_zero, List.set_cons_succ])
          refine wpAnyH_ready (rs := [8]) (by kernel_rfl) (by simp) ?_
          refine AllReadyH.cons (o := ?_) ?_ ?_ ?_
          rotate_left 1
          (focus (simp only [List.getElem?_toArray, List.getElem?_cons_zero, List.getElem?_cons_succ] <;> rfl))
          · intro K hK
            refine app_step elem_rent rfl (.tmp 25) (.tmp 31) rfl rfl (owns_empty_at (b := w4.heap.size) (alloc_old (alloc_new w4 _) _)) rfl (HRT.out.kept (((((Only.refl (fun _ => False) w4)).alloc (.cells #[] 31)).alloc (.cells #[.slice Ak e.key.length ck, .int .i64 e.pg, .int .i64 e.sl] 31)).drew) (fun _ _ x => x)) (one_row _) (by unfold maxLen; omega) (by omega) ?_
            intro v5 w5 hg5
            obtain ⟨hq5, hn5⟩ := grew_quiet (((((Only.refl (fun _ => False) w4)).alloc (.cells #[] 31)).alloc (.cells #[.slice Ak e.key.length ck, .int .i64 e.pg, .int .i64 e.sl] 31)).drew) (HNEW.out w4.heap.size _ (by omega)) hg5
            have re5 := ((rd_two w4 (.cells #[] 31) ⟨e, Ak, ck⟩ 31).kept ((Only.refl (fun _ => False) _).drew) (fun _ _ x => x)).kept hg5.only (fun k x y => by have := own_at y; have z : k = w4.heap.size + 1 := x; omega)
            refine hK.out _ _ ?_ (fun hHeld => ?_)
            · exact HS.out _ hq5
            clear hK K
            (try simp only [Act.put, List.setIfInBounds_toArray, List.set_cons_zero, List.set_cons_succ])
            refine wpAnyH_ready (rs := [11]) (by kernel_rfl) (by simp) ?_
            refine AllReadyH.cons (o := ?_) ?_ ?_ ?_
            rotate_left 1
            (focus (simp only [List.getElem?_toArray, List.getElem?_cons_zero, List.getElem?_cons_succ] <;> rfl))
            · intro K hK
              refine app_step elem_rent rfl (.tmp 32) (.tmp 34) rfl rfl hg5.own rfl re5 (one_row [⟨e, Ak, ck⟩]) (by unfold maxLen; omega) (by omega) ?_
              intro v6 w6 hg6
              obtain ⟨hq6, hn6⟩ := grew_quiet (hq5) hn5 hg6
              refine hK.out _ _ ?_ (fun hHeld => ?_)
              · exact HS.out _ hq6
              clear hK K
              (try simp only [Act.put, List.setIfInBounds_toArray, List.set_cons_zero, List.set_cons_succ])
              refine wpAnyH_ready (rs := [18]) (by kernel_rfl) (by simp) ?_
              refine AllReadyH.cons (o := ?_) ?_ ?_ ?_
              rotate_left 1
              (focus (simp only [List.getElem?_toArray, List.getElem?_cons_zero, List.getElem?_cons_succ] <;> rfl))
              · intro K hK
                refine app_step elem_rent rfl (.tmp 35) (.tmp 41) rfl rfl hg6.own rfl (HRDR.out.kept hq6 (fun _ _ x => x)) (one_row _) (by unfold maxLen; omega) (by omega) ?_
                intro v7 w7 hg7
                obtain ⟨hq7, hn7⟩ := grew_quiet hq6 hn6 hg7
                refine hK.out _ _ ?_ (fun hHeld => ?_)
                · exact HS.out _ hq7
                clear hK K
                (try simp only [Act.put, List.setIfInBounds_toArray, List.set_cons_zero, List.set_cons_succ])
                (refine wpAnyH_take (i := 19) (oi := ?_) (v := ?_) ?_ (by kernel_rfl) (by decide +kernel) (by decide +kernel) ?_ (Or.inl ⟨?_, ?_⟩) (by assumption) ?_; rotate_left 2; (focus (simp only [List.getElem?_toArray, List.getElem?_cons_zero, List.getElem?_cons_succ] <;> rfl)); (focus (exact fun _ _ _ => last_panic (fun h => h))); (focus rfl); (focus (intro w hSw; (try dsimp only at hSw); go_simp; (try with_reducible rfl); done)); (try simp only [Act.put, List.setIfInBounds_toArray, List.set_cons_zero, List.set_cons_succ]))
                (refine wpAnyH_take (i := 20) (oi := ?_) (v := ?_) ?_ (by kernel_rfl) (by decide +kernel) (by decide +kernel) ?_ (Or.inl ⟨?_, ?_⟩) (by assumption) ?_; rotate_left 2; (focus (simp only [List.getElem?_toArray, List.getElem?_cons_zero, List.getElem?_cons_succ] <;> rfl)); (focus (exact fun _ _ _ => last_panic (fun h => h))); (focus rfl); (focus (intro w hSw; (try dsimp only at hSw); go_simp; (try with_reducible rfl); done)); (try simp only [Act.put, List.setIfInBounds_toArray, List.set_cons_zero, List.set_cons_succ]))
                obtain ⟨A7, n7, c7, hv7⟩ := own_slice hg7.own
                subst hv7
                have k7 : w7.cell? ⟨xb, 0, none⟩ = _ := (HS.out _ hq7).1
                have f7 := fun o => frozen_of (hq7.get HM4.out.box (fun x => x)) o
                refine wpAnyH_done (by kernel_rfl) ?_ _
                refine last_step (o := ?_) ?_ ?_
                rotate_left 1
                (focus (simp only [List.getElem?_toArray, List.getElem?_cons_zero, List.getElem?_cons_succ] <;> rfl))
                intro K hK
                go_simp
                refine hK.out _ _ ?_
                clear hK K
                have HRES : Hid (POST (.returned (.int .i64 0)) (w7.setCell ⟨xb, 0, none⟩ (.slice A7 n7 c7))) := by
                  have hrow : RRow w7 (.slice A7 n7 c7) (insX ⟨e, Ak, ck⟩ xs) := by
                    have := hg7.own
                    rw [List.nil_append, row_ins xs ⟨e, Ak, ck⟩ HI.out] at this
                    unfold RRow
                    rw [insX_length]
                    rw [HX0.out]
                    first | exact this | (rw [Nat.zero_add] at this; exact this)
                  have h8 := HM.out.turn (HQ4.out.trans hq7) hrow (fun k x => by have := hn7 k x; have := HQ4.out.size; omega) (fun y hy => by
                    rcases mem_insX hy with z | z
                    · subst z; exact Or.inr (HK4.out.quietly hq7)
                    · exact Or.inl z)
                  rw [← HPOST.out]
                  refine Or.inr ⟨HMEM.out, rfl, h8.2, _, _, h8.1, ?_, HRIS.out.ins HMEM.out⟩
                  rw [ents_insX]
                clear hg7 hq7 hn7 hg6 hq6 hn6 hg5 hq5 hn5 k7 f7 hHeld
                go_wp2
                exact HRES.out
              exact AllReadyH.nil
            exact AllReadyH.nil
          exact AllReadyH.nil
        exact AllReadyH.nil
      refine AllReadyH.cons (o := ?_) ?_ ?_ ?_
      rotate_left 1
      (focus (simp only [List.getElem?_toArray, List.getElem?_cons_zero, List.getElem?_cons_succ] <;> rfl))
      · intro K hK
        go_simp
        refine hK.out _ _ ?_ (fun hHeld => ?_)
        · exact HS.out _ (((Only.refl (fun _ => False) w4)).alloc _).drew
        clear hK K
        (try simp only [Act.put, List.setIfInBounds_toArray, List.set_cons_zero, List.set_cons_succ])
        refine wpAnyH_ready (rs := [1]) (by kernel_rfl) (by simp) ?_
        refine AllReadyH.cons (o := ?_) ?_ ?_ ?_
        rotate_left 1
        (focus (simp only [List.getElem?_toArray, List.getElem?_cons_zero, List.getElem?_cons_succ] <;> rfl))
        · intro K hK
          go_simp
          refine hK.out _ _ ?_ (fun hHeld => ?_)
          · exact HS.out _ ((((Only.refl (fun _ => False) w4)).alloc _).alloc _).drew
          clear hK K
          (try simp only [Act.put, List.setIfInBounds_toArray, List.set_cons_zero, List.set_cons_succ])
          refine wpAnyH_ready (rs := [8]) (by kernel_rfl) (by simp) ?_
          refine AllReadyH.cons (o := ?_) ?_ ?_ ?_
          rotate_left 1
          (focus (simp only [List.getElem?_toArray, List.getElem?_cons_zero, List.getElem?_cons_succ] <;> rfl))
          · intro K hK
            refine app_step elem_rent rfl (.tmp 25) (.tmp 31) rfl rfl (owns_empty_at (b := (w4.heap.size + 1)) (two_new w4 _ _)) rfl (HRT.out.kept (((((Only.refl (fun _ => False) w4)).alloc (.cells #[.slice Ak e.key.length ck, .int .i64 e.pg, .int .i64 e.sl] 31)).alloc (.cells #[] 31)).drew) (fun _ _ x => x)) (one_row _) (by unfold maxLen; omega) (by omega) ?_
            intro v5 w5 hg5
            obtain ⟨hq5, hn5⟩ := grew_quiet (((((Only.refl (fun _ => False) w4)).alloc (.cells #[.slice Ak e.key.length ck, .int .i64 e.pg, .int .i64 e.sl] 31)).alloc (.cells #[] 31)).drew) (HNEW.out (w4.heap.size + 1) _ (by omega)) hg5
            have re5 := ((rd_one w4 (.cells #[] 31) ⟨e, Ak, ck⟩ 31).kept ((Only.refl (fun _ => False) _).drew) (fun _ _ x => x)).kept hg5.only (fun k x y => by have := own_at y; have z : k = w4.heap.size := x; omega)
            refine hK.out _ _ ?_ (fun hHeld => ?_)
            · exact HS.out _ hq5
            clear hK K
            (try simp only [Act.put, List.setIfInBounds_toArray, List.set_cons_zero, List.set_cons_succ])
            refine wpAnyH_ready (rs := [11]) (by kernel_rfl) (by simp) ?_
            refine AllReadyH.cons (o := ?_) ?_ ?_ ?_
            rotate_left 1
            (focus (simp only [List.getElem?_toArray, List.getElem?_cons_zero, List.getElem?_cons_succ] <;> rfl))
            · intro K hK
              refine app_step elem_rent rfl (.tmp 32) (.tmp 34) rfl rfl hg5.own rfl re5 (one_row [⟨e, Ak, ck⟩]) (by unfold maxLen; omega) (by omega) ?_
              intro v6 w6 hg6
              obtain ⟨hq6, hn6⟩ := grew_quiet (hq5) hn5 hg6
              refine hK.out _ _ ?_ (fun hHeld => ?_)
              · exact HS.out _ hq6
              clear hK K
              (try simp only [Act.put, List.setIfInBounds_toArray, List.set_cons_zero, List.set_cons_succ])
              refine wpAnyH_ready (rs := [18]) (by kernel_rfl) (by simp) ?_
              refine AllReadyH.cons (o := ?_) ?_ ?_ ?_
              rotate_left 1
              (focus (simp only [List.getElem?_toArray, List.getElem?_cons_zero, List.getElem?_cons_succ] <;> rfl))
              · intro K hK
                refine app_step elem_rent rfl (.tmp 35) (.tmp 41) rfl rfl hg6.own rfl (HRDR.out.kept hq6 (fun _ _ x => x)) (one_row _) (by unfold maxLen; omega) (by omega) ?_
                intro v7 w7 hg7
                obtain ⟨hq7, hn7⟩ := grew_quiet hq6 hn6 hg7
                refine hK.out _ _ ?_ (fun hHeld => ?_)
                · exact HS.out _ hq7
                clear hK K
                (try simp only [Act.put, List.setIfInBounds_toArray, List.set_cons_zero, List.set_cons_succ])
                (refine wpAnyH_take (i := 19) (oi := ?_) (v := ?_) ?_ (by kernel_rfl) (by decide +kernel) (by decide +kernel) ?_ (Or.inl ⟨?_, ?_⟩) (by assumption) ?_; rotate_left 2; (focus (simp only [List.getElem?_toArray, List.getElem?_cons_zero, List.getElem?_cons_succ] <;> rfl)); (focus (exact fun _ _ _ => last_panic (fun h => h))); (focus rfl); (focus (intro w hSw; (try dsimp only at hSw); go_simp; (try with_reducible rfl); done)); (try simp only [Act.put, List.setIfInBounds_toArray, List.set_cons_zero, List.set_cons_succ]))
                (refine wpAnyH_take (i := 20) (oi := ?_) (v := ?_) ?_ (by kernel_rfl) (by decide +kernel) (by decide +kernel) ?_ (Or.inl ⟨?_, ?_⟩) (by assumption) ?_; rotate_left 2; (focus (simp only [List.getElem?_toArray, List.getElem?_cons_zero, List.getElem?_cons_succ] <;> rfl)); (focus (exact fun _ _ _ => last_panic (fun h => h))); (focus rfl); (focus (intro w hSw; (try dsimp only at hSw); go_simp; (try with_reducible rfl); done)); (try simp only [Act.put, List.setIfInBounds_toArray, List.set_cons_zero, List.set_cons_succ]))
                obtain ⟨A7, n7, c7, hv7⟩ := own_slice hg7.own
                subst hv7
                have k7 : w7.cell? ⟨xb, 0, none⟩ = _ := (HS.out _ hq7).1
                have f7 := fun o => frozen_of (hq7.get HM4.out.box (fun x => x)) o
                refine wpAnyH_done (by kernel_rfl) ?_ _
                refine last_step (o := ?_) ?_ ?_
                rotate_left 1
                (focus (simp only [List.getElem?_toArray, List.getElem?_cons_zero, List.getElem?_cons_succ] <;> rfl))
                intro K hK
                go_simp
                refine hK.out _ _ ?_
                clear hK K
                have HRES : Hid (POST (.returned (.int .i64 0)) (w7.setCell ⟨xb, 0, none⟩ (.slice A7 n7 c7))) := by
                  have hrow : RRow w7 (.slice A7 n7 c7) (insX ⟨e, Ak, ck⟩ xs) := by
                    have := hg7.own
                    rw [List.nil_append, row_ins xs ⟨e, Ak, ck⟩ HI.out] at this
                    unfold RRow
                    rw [insX_length]
                    rw [HX0.out]
                    first | exact this | (rw [Nat.zero_add] at this; exact this)
                  have h8 := HM.out.turn (HQ4.out.trans hq7) hrow (fun k x => by have := hn7 k x; have := HQ4.out.size; omega) (fun y hy => by
                    rcases mem_insX hy with z | z
                    · subst z; exact Or.inr (HK4.out.quietly hq7)
                    · exact Or.inl z)
                  rw [← HPOST.out]
                  refine Or.inr ⟨HMEM.out, rfl, h8.2, _, _, h8.1, ?_, HRIS.out.ins HMEM.out⟩
                  rw [ents_insX]
                clear hg7 hq7 hn7 hg6 hq6 hn6 hg5 hq5 hn5 k7 f7 hHeld
                go_wp2
                exact HRES.out
              exact AllReadyH.nil
            exact AllReadyH.nil
          exact AllReadyH.nil
        exact AllReadyH.nil
      exact AllReadyH.nil
    · subst hv
      obtain ⟨n, hn⟩ : ∃ n, xs.length = n := ⟨_, rfl⟩
      have b0 : w4.cell? ⟨xb, 0, none⟩ = some (.slice (some ⟨g, 0, none⟩) n cv) := by rw [cell_of HM4.out.box, hn]; rfl
      obtain ⟨A4, c4, e4, _, _, hrd⟩ := own_form HM4.out.row
      injection e4 with e4 e4b e4c
      subst e4 e4c
      clear e4b
      have hrt := hrd.takeK hil
      rw [← rowV_take] at hrt
      have HRT := Lib.hid hrt
      have had : Rd w4 (fun _ => True) 3 (if cv = i then some ⟨g, 0, none⟩ else some ⟨g, i * 3, none⟩) (n - i) (rowV (xs.drop i)) := by
        by_cases hci : cv = i
        · have h0 : xs.drop i = [] := List.drop_eq_nil_of_le (by omega)
          rw [h0, show n - i = 0 by omega]
          exact Rd.nil _ _ _ _
        · rw [if_neg hci]
          have := hrd.drop hil
          rw [Nat.zero_add, hn, ← rowV_drop] at this
          exact this.mono (fun _ _ => trivial)
      have HRDR := Lib.hid had
      have HN := Lib.hid hn
      rw [hn] at hc hil hxl
      have d0 : (0 : Int) ≤ (i : Int) := by omega
      have d1 : (i : Int) ≤ (n : Int) := by omega
      have d2 : (i : Int) ≤ (cv : Int) := by omega
      have d3 : (n : Int) ≤ (cv : Int) := by omega
      have d4 : (0 : Int) ≤ (n : Int) := by omega
      have d5 : i ≤ cv := by omega
      clear hn hrd had hrt
      have HS : Hid (∀ W, Quiet w4 W → (fun w' => w'.cell? ⟨xb, 0, none⟩ = some (.slice (some ⟨g, 0, none⟩) n cv) ∧ w'.cell? ⟨w.heap.size, 0, none⟩ = some (.slice Ak e.key.length ck) ∧ w'.cell? ⟨w.heap.size, 1, none⟩ = some (.int .i64 e.pg) ∧ w'.cell? ⟨w.heap.size, 2, none⟩ = some (.int .i64 e.sl)) W) := fun W hq => ⟨hq.cell b0 (fun x => x), hq.cell t0 (fun x => x), hq.cell t1 (fun x => x), hq.cell t2 (fun x => x)⟩
      refine wp_region_last (S := (fun w' => w'.cell? ⟨xb, 0, none⟩ = some (.slice (some ⟨g, 0, none⟩) n cv) ∧ w'.cell? ⟨w.heap.size, 0, none⟩ = some (.slice Ak e.key.length ck) ∧ w'.cell? ⟨w.heap.size, 1, none⟩ = some (.int .i64 e.pg) ∧ w'.cell? ⟨w.heap.size, 2, none⟩ = some (.int .i64 e.sl))) (by kernel_rfl) (by kernel_rfl) (by simp) (⟨b0, t0, t1, t2⟩) (fun hHeld => ?_)
      simp only [List.pop_toArray, List.dropLast, List.size_toArray, List.length_cons, List.length_nil, Nat.reduceAdd, Nat.reduceSub]
      (refine wpAnyH_take (i := 0) (oi := ?_) (v := ?_) ?_ (by kernel_rfl) (by decide +kernel) (by decide +kernel) ?_ (Or.inl ⟨?_, ?_⟩) (by assumption) ?_; rotate_left 2; (focus (simp only [List.getElem?_toArray, List.getElem?_cons_zero, List.getElem?_cons_succ] <;> rfl)); (focus (exact fun _ _ _ => last_panic (fun h => h))); (focus rfl); (focus (intro w hSw; (try dsimp only at hSw); go_simp; (try with_reducible rfl); done)); (try simp only [Act.put, List.setIfInBounds_toArray, List.set_cons_zero, List.set_cons_succ]))
      (refine wpAnyH_take (i := 2) (oi := ?_) (v := ?_) ?_ (by kernel_rfl) (by decide +kernel) (by decide +kernel) ?_ (Or.inl ⟨?_, ?_⟩) (by assumption) ?_; rotate_left 2; (focus (simp only [List.getElem?_toArray, List.getElem?_cons_zero, List.getElem?_cons_succ] <;> rfl)); (focus (exact fun _ _ _ => last_panic (fun h => h))); (focus rfl); (focus (intro w hSw; (try dsimp only at hSw); go_simp; (try with_reducible rfl); done)); (try simp only [Act.put, List.setIfInBounds_toArray, List.set_cons_zero, List.set_cons_succ]))
      (refine wpAnyH_take (i := 3) (oi := ?_) (v := ?_) ?_ (by kernel_rfl) (by decide +kernel) (by decide +kernel) ?_ (Or.inl ⟨?_, ?_⟩) (by assumption) ?_; rotate_left 2; (focus (simp only [List.getElem?_toArray, List.getElem?_cons_zero, List.getElem?_cons_succ] <;> rfl)); (focus (exact fun _ _ _ => last_panic (fun h => h))); (focus rfl); (focus (intro w hSw; (try dsimp only at hSw); go_simp; (try with_reducible rfl); done)); (try simp only [Act.put, List.setIfInBounds_toArray, List.set_cons_zero, List.set_cons_succ]))
      (refine wpAnyH_take (i := 4) (oi := ?_) (v := ?_) ?_ (by kernel_rfl) (by decide +kernel) (by decide +kernel) ?_ (Or.inl ⟨?_, ?_⟩) (by assumption) ?_; rotate_left 2; (focus (simp only [List.getElem?_toArray, List.getElem?_cons_zero, List.getElem?_cons_succ] <;> rfl)); (focus (exact fun _ _ _ => last_panic (fun h => h))); (focus rfl); (focus (intro w hSw; (try dsimp only at hSw); go_simp; (try with_reducible rfl); done)); (try simp only [Act.put, List.setIfInBounds_toArray, List.set_cons_zero, List.set_cons_succ]))
      (refine wpAnyH_take (i := 5) (oi := ?_) (v := ?_) ?_ (by kernel_rfl) (by decide +kernel) (by decide +kernel) ?_ (Or.inl ⟨?_, ?_⟩) (by assumption) ?_; rotate_left 2; (focus (simp only [List.getElem?_toArray, List.getElem?_cons_zero, List.getElem?_cons_succ] <;> rfl)); (focus (exact fun _ _ _ => last_panic (fun h => h))); (focus rfl); (focus (intro w hSw; (try dsimp only at hSw); go_simp; (try with_reducible rfl); done)); (try simp only [Act.put, List.setIfInBounds_toArray, List.set_cons_zero, List.set_cons_succ]))
      (refine wpAnyH_take (i := 6) (oi := ?_) (v := ?_) ?_ (by kernel_rfl) (by decide +kernel) (by decide +kernel) ?_ (Or.inl ⟨?_, ?_⟩) (by assumption) ?_; rotate_left 2; (focus (simp only [List.getElem?_toArray, List.getElem?_cons_zero, List.getElem?_cons_succ] <;> rfl)); (focus (exact fun _ _ _ => last_panic (fun h => h))); (focus rfl); (focus (intro w hSw; (try dsimp only at hSw); go_simp; (try with_reducible rfl); done)); (try simp only [Act.put, List.setIfInBounds_toArray, List.set_cons_zero, List.set_cons_succ]))
      (refine wpAnyH_take (i := 7) (oi := ?_) (v := ?_) ?_ (by kernel_rfl) (by decide +kernel) (by decide +kernel) ?_ (Or.inl ⟨?_, ?_⟩) (by assumption) ?_; rotate_left 2; (focus (simp only [List.getElem?_toArray, List.getElem?_cons_zero, List.getElem?_cons_succ] <;> rfl)); (focus (exact fun _ _ _ => last_panic (fun h => h))); (focus rfl); (focus (intro w hSw; (try dsimp only at hSw); go_simp; (try with_reducible rfl); done)); (try simp only [Act.put, List.setIfInBounds_toArray, List.set_cons_zero, List.set_cons_succ]))
      (refine wpAnyH_take (i := 9) (oi := ?_) (v := ?_) ?_ (by kernel_rfl) (by decide +kernel) (by decide +kernel) ?_ (Or.inl ⟨?_, ?_⟩) (by assumption) ?_; rotate_left 2; (focus (simp only [List.getElem?_toArray, List.getElem?_cons_zero, List.getElem?_cons_succ] <;> rfl)); (focus (exact fun _ _ _ => last_panic (fun h => h))); (focus rfl); (focus (intro w hSw; (try dsimp only at hSw); go_simp; (try with_reducible rfl); done)); (try simp only [Act.put, List.setIfInBounds_toArray, List.set_cons_zero, List.set_cons_succ]))
      (refine wpAnyH_take (i := 12) (oi := ?_) (v := ?_) ?_ (by kernel_rfl) (by decide +kernel) (by decide +kernel) ?_ (Or.inl ⟨?_, ?_⟩) (by assumption) ?_; rotate_left 2; (focus (simp only [List.getElem?_toArray, List.getElem?_cons_zero, List.getElem?_cons_succ] <;> rfl)); (focus (exact fun _ _ _ => last_panic (fun h => h))); (focus rfl); (focus (intro w hSw; (try dsimp only at hSw); go_simp; (try with_reducible rfl); done)); (try simp only [Act.put, List.setIfInBounds_toArray, List.set_cons_zero, List.set_cons_succ]))
      (refine wpAnyH_take (i := 13) (oi := ?_) (v := ?_) ?_ (by kernel_rfl) (by decide +kernel) (by decide +kernel) ?_ (Or.inl ⟨?_, ?_⟩) (by assumption) ?_; rotate_left 2; (focus (simp only [List.getElem?_toArray, List.getElem?_cons_zero, List.getElem?_cons_succ] <;> rfl)); (focus (exact fun _ _ _ => last_panic (fun h => h))); (focus rfl); (focus (intro w hSw; (try dsimp only at hSw); go_simp; (try with_reducible rfl); done)); (try simp only [Act.put, List.setIfInBounds_toArray, List.set_cons_zero, List.set_cons_succ]))
      (refine wpAnyH_take (i := 14) (oi := ?_) (v := ?_) ?_ (by kernel_rfl) (by decide +kernel) (by decide +kernel) ?_ (Or.inl ⟨?_, ?_⟩) (by assumption) ?_; rotate_left 2; (focus (simp only [List.getElem?_toArray, List.getElem?_cons_zero, List.getElem?_cons_succ] <;> rfl)); (focus (exact fun _ _ _ => last_panic (fun h => h))); (focus rfl); (focus (intro w hSw; (try dsimp only at hSw); go_simp; (try with_reducible rfl); done)); (try simp only [Act.put, List.setIfInBounds_toArray, List.set_cons_zero, List.set_cons_succ]))
      (refine wpAnyH_take (i := 15) (oi := ?_) (v := ?_) ?_ (by kernel_rfl) (by decide +kernel) (by decide +kernel) ?_ (Or.inl ⟨?_, ?_⟩) (by assumption) ?_; rotate_left 2; (focus (simp only [List.getElem?_toArray, List.getElem?_cons_zero, List.getElem?_cons_succ] <;> rfl)); (focus (exact fun _ _ _ => last_panic (fun h => h))); (focus rfl); (focus (intro w hSw; (try dsimp only at hSw); go_simp; (try with_reducible rfl); done)); (try simp only [Act.put, List.setIfInBounds_toArray, List.set_cons_zero, List.set_cons_succ]))
      (refine wpAnyH_take (i := 16) (oi := ?_) (v := ?_) ?_ (by kernel_rfl) (by decide +kernel) (by decide +kernel) ?_ (Or.inl ⟨?_, ?_⟩) (by assumption) ?_; rotate_left 2; (focus (simp only [List.getElem?_toArray, List.getElem?_cons_zero, List.getElem?_cons_succ] <;> rfl)); (focus (exact fun _ _ _ => last_panic (fun h => h))); (focus rfl); (focus (intro w hSw; (try dsimp only at hSw); go_simp; (try with_reducible rfl); done)); (try simp only [Act.put, List.setIfInBounds_toArray, List.set_cons_zero, List.set_cons_succ]))
      (refine wpAnyH_take (i := 17) (oi := ?_) (v := ?_) ?_ (by kernel_rfl) (by decide +kernel) (by decide +kernel) ?_ (Or.inl ⟨?_, ?_⟩) (by assumption) ?_; rotate_left 2; (focus (simp only [List.getElem?_toArray, List.getElem?_cons_zero, List.getElem?_cons_succ] <;> rfl)); (focus (exact fun _ _ _ => last_panic (fun h => h))); (focus rfl); (focus (intro w hSw; (try dsimp only at hSw); go_simp; (try with_reducible rfl); done)); (try simp only [Act.put, List.setIfInBounds_toArray, List.set_cons_zero, List.set_cons_succ]))
      refine wpAnyH_ready (rs := [1, 10]) (by kernel_rfl) (by simp) ?_
      refine AllReadyH.cons (o := ?_) ?_ ?_ ?_
      rotate_left 1
      (focus (simp only [List.getElem?_toArray, List.getElem?_cons_zero, List.getElem?_cons_succ] <;> rfl))
      · intro K hK
        go_simp
        refine hK.out _ _ ?_ (fun hHeld => ?_)
        · exact HS.out _ (((Only.refl (fun _ => False) w4)).alloc _).drew
        clear hK K
        (try simp only [Act.put, List.setIfInBounds_toArray, List.set_cons_zero, List.set_cons_succ])
        refine wpAnyH_ready (rs := [8, 10]) (by kernel_rfl) (by simp) ?_
        refine AllReadyH.cons (o := ?_) ?_ ?_ ?_
        rotate_left 1
        (focus (simp only [List.getElem?_toArray, List.getElem?_cons_zero, List.getElem?_cons_succ] <;> rfl))
        · intro K hK
          refine app_step elem_rent rfl (.tmp 25) (.tmp 31) rfl rfl (owns_empty_at (b := w4.heap.size) (alloc_new w4 _)) rfl (HRT.out.kept ((((Only.refl (fun _ => False) w4)).alloc (.cells #[] 31)).drew) (fun _ _ x => x)) (one_row _) (by unfold maxLen; omega) (by omega) ?_
          intro v5 w5 hg5
          obtain ⟨hq5, hn5⟩ := grew_quiet ((((Only.refl (fun _ => False) w4)).alloc (.cells #[] 31)).drew) (HNEW.out w4.heap.size _ (by omega)) hg5
          refine hK.out _ _ ?_ (fun hHeld => ?_)
          · exact HS.out _ hq5
          clear hK K
          (try simp only [Act.put, List.setIfInBounds_toArray, List.set_cons_zero, List.set_cons_succ])
          refine wpAnyH_ready (rs := [10]) (by kernel_rfl) (by simp) ?_
          refine AllReadyH.cons (o := ?_) ?_ ?_ ?_
          rotate_left 1
          (focus (simp only [List.getElem?_toArray, List.getElem?_cons_zero, List.getElem?_cons_succ] <;> rfl))
          · intro K hK
            go_simp
            refine hK.out _ _ ?_ (fun hHeld => ?_)
            · exact HS.out _ (hq5.alloc _)
            clear hK K
            (try simp only [Act.put, List.setIfInBounds_toArray, List.set_cons_zero, List.set_cons_succ])
            refine wpAnyH_ready (rs := [11]) (by kernel_rfl) (by simp) ?_
            refine AllReadyH.cons (o := ?_) ?_ ?_ ?_
            rotate_left 1
            (focus (simp only [List.getElem?_toArray, List.getElem?_cons_zero, List.getElem?_cons_succ] <;> rfl))
            · intro K hK
              refine app_step elem_rent rfl (.tmp 32) (.tmp 34) rfl rfl (owns_kept hg5.own ((Only.refl (fun _ => False) w5).alloc (.cells #[.slice Ak e.key.length ck, .int .i64 e.pg, .int .i64 e.sl] 31)) (fun _ _ x => x)) rfl (Rd.new w5 3 1 (EV.cells ⟨e, Ak, ck⟩) 31 (fun _ => True) rfl trivial) (one_row [⟨e, Ak, ck⟩]) (by unfold maxLen; omega) (by omega) ?_
              intro v6 w6 hg6
              obtain ⟨hq6, hn6⟩ := grew_quiet (hq5.alloc (.cells #[.slice Ak e.key.length ck, .int .i64 e.pg, .int .i64 e.sl] 31)) hn5 hg6
              refine hK.out _ _ ?_ (fun hHeld => ?_)
              · exact HS.out _ hq6
              clear hK K
              (try simp only [Act.put, List.setIfInBounds_toArray, List.set_cons_zero, List.set_cons_succ])
              refine wpAnyH_ready (rs := [18]) (by kernel_rfl) (by simp) ?_
              refine AllReadyH.cons (o := ?_) ?_ ?_ ?_
              rotate_left 1
              (focus (simp only [List.getElem?_toArray, List.getElem?_cons_zero, List.getElem?_cons_succ] <;> rfl))
              · intro K hK
                refine app_step elem_rent rfl (.tmp 35) (.tmp 41) rfl rfl hg6.own rfl (HRDR.out.kept hq6 (fun _ _ x => x)) (one_row _) (by unfold maxLen; omega) (by omega) ?_
                intro v7 w7 hg7
                obtain ⟨hq7, hn7⟩ := grew_quiet hq6 hn6 hg7
                refine hK.out _ _ ?_ (fun hHeld => ?_)
                · exact HS.out _ hq7
                clear hK K
                (try simp only [Act.put, List.setIfInBounds_toArray, List.set_cons_zero, List.set_cons_succ])
                (refine wpAnyH_take (i := 19) (oi := ?_) (v := ?_) ?_ (by kernel_rfl) (by decide +kernel) (by decide +kernel) ?_ (Or.inl ⟨?_, ?_⟩) (by assumption) ?_; rotate_left 2; (focus (simp only [List.getElem?_toArray, List.getElem?_cons_zero, List.getElem?_cons_succ] <;> rfl)); (focus (exact fun _ _ _ => last_panic (fun h => h))); (focus rfl); (focus (intro w hSw; (try dsimp only at hSw); go_simp; (try with_reducible rfl); done)); (try simp only [Act.put, List.setIfInBounds_toArray, List.set_cons_zero, List.set_cons_succ]))
                (refine wpAnyH_take (i := 20) (oi := ?_) (v := ?_) ?_ (by kernel_rfl) (by decide +kernel) (by decide +kernel) ?_ (Or.inl ⟨?_, ?_⟩) (by assumption) ?_; rotate_left 2; (focus (simp only [List.getElem?_toArray, List.getElem?_cons_zero, List.getElem?_cons_succ] <;> rfl)); (focus (exact fun _ _ _ => last_panic (fun h => h))); (focus rfl); (focus (intro w hSw; (try dsimp only at hSw); go_simp; (try with_reducible rfl); done)); (try simp only [Act.put, List.setIfInBounds_toArray, List.set_cons_zero, List.set_cons_succ]))
                obtain ⟨A7, n7, c7, hv7⟩ := own_slice hg7.own
                subst hv7
                have k7 : w7.cell? ⟨xb, 0, none⟩ = _ := (HS.out _ hq7).1
                have f7 := fun o => frozen_of (hq7.get HM4.out.box (fun x => x)) o
                refine wpAnyH_done (by kernel_rfl) ?_ _
                refine last_step (o := ?_) ?_ ?_
                rotate_left 1
                (focus (simp only [List.getElem?_toArray, List.getElem?_cons_zero, List.getElem?_cons_succ] <;> rfl))
                intro K hK
                go_simp
                refine hK.out _ _ ?_
                clear hK K
                have HRES : Hid (POST (.returned (.int .i64 0)) (w7.setCell ⟨xb, 0, none⟩ (.slice A7 n7 c7))) := by
                  have hrow : RRow w7 (.slice A7 n7 c7) (insX ⟨e, Ak, ck⟩ xs) := by
                    have := hg7.own
                    rw [List.nil_append, row_ins xs ⟨e, Ak, ck⟩ HI.out] at this
                    unfold RRow
                    rw [insX_length]
                    rw [HN.out, show n + 1 = i + 1 + (n - i) by omega]
                    first | exact this | (rw [Nat.zero_add] at this; exact this)
                  have h8 := HM.out.turn (HQ4.out.trans hq7) hrow (fun k x => by have := hn7 k x; have := HQ4.out.size; omega) (fun y hy => by
                    rcases mem_insX hy with z | z
                    · subst z; exact Or.inr (HK4.out.quietly hq7)
                    · exact Or.inl z)
                  rw [← HPOST.out]
                  refine Or.inr ⟨HMEM.out, rfl, h8.2, _, _, h8.1, ?_, HRIS.out.ins HMEM.out⟩
                  rw [ents_insX]
                clear hg7 hq7 hn7 hg6 hq6 hn6 hg5 hq5 hn5 k7 f7 hHeld
                go_wp2
                exact HRES.out
              exact AllReadyH.nil
            exact AllReadyH.nil
          exact AllReadyH.nil
        refine AllReadyH.cons (o := ?_) ?_ ?_ ?_
        rotate_left 1
        (focus (simp only [List.getElem?_toArray, List.getElem?_cons_zero, List.getElem?_cons_succ] <;> rfl))
        · intro K hK
          go_simp
          refine hK.out _ _ ?_ (fun hHeld => ?_)
          · exact HS.out _ ((((Only.refl (fun _ => False) w4)).alloc _).alloc _).drew
          clear hK K
          (try simp only [Act.put, List.setIfInBounds_toArray, List.set_cons_zero, List.set_cons_succ])
          refine wpAnyH_ready (rs := [8]) (by kernel_rfl) (by simp) ?_
          refine AllReadyH.cons (o := ?_) ?_ ?_ ?_
          rotate_left 1
          (focus (simp only [List.getElem?_toArray, List.getElem?_cons_zero, List.getElem?_cons_succ] <;> rfl))
          · intro K hK
            refine app_step elem_rent rfl (.tmp 25) (.tmp 31) rfl rfl (owns_empty_at (b := w4.heap.size) (alloc_old (alloc_new w4 _) _)) rfl (HRT.out.kept (((((Only.refl (fun _ => False) w4)).alloc (.cells #[] 31)).alloc (.cells #[.slice Ak e.key.length ck, .int .i64 e.pg, .int .i64 e.sl] 31)).drew) (fun _ _ x => x)) (one_row _) (by unfold maxLen; omega) (by omega) ?_
            intro v5 w5 hg5
            obtain ⟨hq5, hn5⟩ := grew_quiet (((((Only.refl (fun _ => False) w4)).alloc (.cells #[] 31)).alloc (.cells #[.slice Ak e.key.length ck, .int .i64 e.pg, .int .i64 e.sl] 31)).drew) (HNEW.out w4.heap.size _ (by omega)) hg5
            have re5 := ((rd_two w4 (.cells #[] 31) ⟨e, Ak, ck⟩ 31).kept ((Only.refl (fun _ => False) _).drew) (fun _ _ x => x)).kept hg5.only (fun k x y => by have := own_at y; have z : k = w4.heap.size + 1 := x; omega)
            refine hK.out _ _ ?_ (fun hHeld => ?_)
            · exact HS.out _ hq5
            clear hK K
            (try simp only [Act.put, List.setIfInBounds_toArray, List.set_cons_zero, List.set_cons_succ])
            refine wpAnyH_ready (rs := [11]) (by kernel_rfl) (by simp) ?_
            refine AllReadyH.cons (o := ?_) ?_ ?_ ?_
            rotate_left 1
            (focus (simp only [List.getElem?_toArray, List.getElem?_cons_zero, List.getElem?_cons_succ] <;> rfl))
            · intro K hK
              refine app_step elem_rent rfl (.tmp 32) (.tmp 34) rfl rfl hg5.own rfl re5 (one_row [⟨e, Ak, ck⟩]) (by unfold maxLen; omega) (by omega) ?_
              intro v6 w6 hg6
              obtain ⟨hq6, hn6⟩ := grew_quiet (hq5) hn5 hg6
              refine hK.out _ _ ?_ (fun hHeld => ?_)
              · exact HS.out _ hq6
              clear hK K
              (try simp only [Act.put, List.setIfInBounds_toArray, List.set_cons_zero, List.set_cons_succ])
              refine wpAnyH_ready (rs := [18]) (by kernel_rfl) (by simp) ?_
              refine AllReadyH.cons (o := ?_) ?_ ?_ ?_
              rotate_left 1
              (focus (simp only [List.getElem?_toArray, List.getElem?_cons_zero, List.getElem?_cons_succ] <;> rfl))
              · intro K hK
                refine app_step elem_rent rfl (.tmp 35) (.tmp 41) rfl rfl hg6.own rfl (HRDR.out.kept hq6 (fun _ _ x => x)) (one_row _) (by unfold maxLen; omega) (by omega) ?_
                intro v7 w7 hg7
                obtain ⟨hq7, hn7⟩ := grew_quiet hq6 hn6 hg7
                refine hK.out _ _ ?_ (fun hHeld => ?_)
                · exact HS.out _ hq7
                clear hK K
                (try simp only [Act.put, List.setIfInBounds_toArray, List.set_cons_zero, List.set_cons_succ])
                (refine wpAnyH_take (i := 19) (oi := ?_) (v := ?_) ?_ (by kernel_rfl) (by decide +kernel) (by decide +kernel) ?_ (Or.inl ⟨?_, ?_⟩) (by assumption) ?_; rotate_left 2; (focus (simp only [List.getElem?_toArray, List.getElem?_cons_zero, List.getElem?_cons_succ] <;> rfl)); (focus (exact fun _ _ _ => last_panic (fun h => h))); (focus rfl); (focus (intro w hSw; (try dsimp only at hSw); go_simp; (try with_reducible rfl); done)); (try simp only [Act.put, List.setIfInBounds_toArray, List.set_cons_zero, List.set_cons_succ]))
                (refine wpAnyH_take (i := 20) (oi := ?_) (v := ?_) ?_ (by kernel_rfl) (by decide +kernel) (by decide +kernel) ?_ (Or.inl ⟨?_, ?_⟩) (by assumption) ?_; rotate_left 2; (focus (simp only [List.getElem?_toArray, List.getElem?_cons_zero, List.getElem?_cons_succ] <;> rfl)); (focus (exact fun _ _ _ => last_panic (fun h => h))); (focus rfl); (focus (intro w hSw; (try dsimp only at hSw); go_simp; (try with_reducible rfl); done)); (try simp only [Act.put, List.setIfInBounds_toArray, List.set_cons_zero, List.set_cons_succ]))
                obtain ⟨A7, n7, c7, hv7⟩ := own_slice hg7.own
                subst hv7
                have k7 : w7.cell? ⟨xb, 0, none⟩ = _ := (HS.out _ hq7).1
                have f7 := fun o => frozen_of (hq7.get HM4.out.box (fun x => x)) o
                refine wpAnyH_done (by kernel_rfl) ?_ _
                refine last_step (o := ?_) ?_ ?_
                rotate_left 1
                (focus (simp only [List.getElem?_toArray, List.getElem?_cons_zero, List.getElem?_cons_succ] <;> rfl))
                intro K hK
                go_simp
                refine hK.out _ _ ?_
                clear hK K
                have HRES : Hid (POST (.returned (.int .i64 0)) (w7.setCell ⟨xb, 0, none⟩ (.slice A7 n7 c7))) := by
                  have hrow : RRow w7 (.slice A7 n7 c7) (insX ⟨e, Ak, ck⟩ xs) := by
                    have := hg7.own
                    rw [List.nil_append, row_ins xs ⟨e, Ak, ck⟩ HI.out] at this
                    unfold RRow
                    rw [insX_length]
                    rw [HN.out, show n + 1 = i + 1 + (n - i) by omega]
                    first | exact this | (rw [Nat.zero_add] at this; exact this)
                  have h8 := HM.out.turn (HQ4.out.trans hq7) hrow (fun k x => by have := hn7 k x; have := HQ4.out.size; omega) (fun y hy => by
                    rcases mem_insX hy with z | z
                    · subst z; exact Or.inr (HK4.out.quietly hq7)
                    · exact Or.inl z)
                  rw [← HPOST.out]
                  refine Or.inr ⟨HMEM.out, rfl, h8.2, _, _, h8.1, ?_, HRIS.out.ins HMEM.out⟩
                  rw [ents_insX]
                clear hg7 hq7 hn7 hg6 hq6 hn6 hg5 hq5 hn5 k7 f7 hHeld
                go_wp2
                exact HRES.out
              exact AllReadyH.nil
            exact AllReadyH.nil
          exact AllReadyH.nil
        exact AllReadyH.nil
      refine AllReadyH.cons (o := ?_) ?_ ?_ ?_
      rotate_left 1
      (focus (simp only [List.getElem?_toArray, List.getElem?_cons_zero, List.getElem?_cons_succ] <;> rfl))
      · intro K hK
        go_simp
        refine hK.out _ _ ?_ (fun hHeld => ?_)
        · exact HS.out _ (((Only.refl (fun _ => False) w4)).alloc _).drew
        clear hK K
        (try simp only [Act.put, List.setIfInBounds_toArray, List.set_cons_zero, List.set_cons_succ])
        refine wpAnyH_ready (rs := [1]) (by kernel_rfl) (by simp) ?_
        refine AllReadyH.cons (o := ?_) ?_ ?_ ?_
        rotate_left 1
        (focus (simp only [List.getElem?_toArray, List.getElem?_cons_zero, List.getElem?_cons_succ] <;> rfl))
        · intro K hK
          go_simp
          refine hK.out _ _ ?_ (fun hHeld => ?_)
          · exact HS.out _ ((((Only.refl (fun _ => False) w4)).alloc _).alloc _).drew
          clear hK K
          (try simp only [Act.put, List.setIfInBounds_toArray, List.set_cons_zero, List.set_cons_succ])
          refine wpAnyH_ready (rs := [8]) (by kernel_rfl) (by simp) ?_
          refine AllReadyH.cons (o := ?_) ?_ ?_ ?_
          rotate_left 1
          (focus (simp only [List.getElem?_toArray, List.getElem?_cons_zero, List.getElem?_cons_succ] <;> rfl))
          · intro K hK
            refine app_step elem_rent rfl (.tmp 25) (.tmp 31) rfl rfl (owns_empty_at (b := (w4.heap.size + 1)) (two_new w4 _ _)) rfl (HRT.out.kept (((((Only.refl (fun _ => False) w4)).alloc (.cells #[.slice Ak e.key.length ck, .int .i64 e.pg, .int .i64 e.sl] 31)).alloc (.cells #[] 31)).drew) (fun _ _ x => x)) (one_row _) (by unfold maxLen; omega) (by omega) ?_
            intro v5 w5 hg5
            obtain ⟨hq5, hn5⟩ := grew_quiet (((((Only.refl (fun _ => False) w4)).alloc (.cells #[.slice Ak e.key.length ck, .int .i64 e.pg, .int .i64 e.sl] 31)).alloc (.cells #[] 31)).drew) (HNEW.out (w4.heap.size + 1) _ (by omega)) hg5
            have re5 := ((rd_one w4 (.cells #[] 31) ⟨e, Ak, ck⟩ 31).kept ((Only.refl (fun _ => False) _).drew) (fun _ _ x => x)).kept hg5.only (fun k x y => by have := own_at y; have z : k = w4.heap.size := x; omega)
            refine hK.out _ _ ?_ (fun hHeld => ?_)
            · exact HS.out _ hq5
            clear hK K
            (try simp only [Act.put, List.setIfInBounds_toArray, List.set_cons_zero, List.set_cons_succ])
            refine wpAnyH_ready (rs := [11]) (by kernel_rfl) (by simp) ?_
            refine AllReadyH.cons (o := ?_) ?_ ?_ ?_
            rotate_left 1
            (focus (simp only [List.getElem?_toArray, List.getElem?_cons_zero, List.getElem?_cons_succ] <;> rfl))
            · intro K hK
              refine app_step elem_rent rfl (.tmp 32) (.tmp 34) rfl rfl hg5.own rfl re5 (one_row [⟨e, Ak, ck⟩]) (by unfold maxLen; omega) (by omega) ?_
              intro v6 w6 hg6
              obtain ⟨hq6, hn6⟩ := grew_quiet (hq5) hn5 hg6
              refine hK.out _ _ ?_ (fun hHeld => ?_)
              · exact HS.out _ hq6
              clear hK K
              (try simp only [Act.put, List.setIfInBounds_toArray, List.set_cons_zero, List.set_cons_succ])
              refine wpAnyH_ready (rs := [18]) (by kernel_rfl) (by simp) ?_
              refine AllReadyH.cons (o := ?_) ?_ ?_ ?_
              rotate_left 1
              (focus (simp only [List.getElem?_toArray, List.getElem?_cons_zero, List.getElem?_cons_succ] <;> rfl))
              · intro K hK
                refine app_step elem_rent rfl (.tmp 35) (.tmp 41) rfl rfl hg6.own rfl (HRDR.out.kept hq6 (fun _ _ x => x)) (one_row _) (by unfold maxLen; omega) (by omega) ?_
                intro v7 w7 hg7
                obtain ⟨hq7, hn7⟩ := grew_quiet hq6 hn6 hg7
                refine hK.out _ _ ?_ (fun hHeld => ?_)
                · exact HS.out _ hq7
                clear hK K
                (try simp only [Act.put, List.setIfInBounds_toArray, List.set_cons_zero, List.set_cons_succ])
                (refine wpAnyH_take (i := 19) (oi := ?_) (v := ?_) ?_ (by kernel_rfl) (by decide +kernel) (by decide +kernel) ?_ (Or.inl ⟨?_, ?_⟩) (by assumption) ?_; rotate_left 2; (focus (simp only [List.getElem?_toArray, List.getElem?_cons_zero, List.getElem?_cons_succ] <;> rfl)); (focus (exact fun _ _ _ => last_panic (fun h => h))); (focus rfl); (focus (intro w hSw; (try dsimp only at hSw); go_simp; (try with_reducible rfl); done)); (try simp only [Act.put, List.setIfInBounds_toArray, List.set_cons_zero, List.set_cons_succ]))
                (refine wpAnyH_take (i := 20) (oi := ?_) (v := ?_) ?_ (by kernel_rfl) (by decide +kernel) (by decide +kernel) ?_ (Or.inl ⟨?_, ?_⟩) (by assumption) ?_; rotate_left 2; (focus (simp only [List.getElem?_toArray, List.getElem?_cons_zero, List.getElem?_cons_succ] <;> rfl)); (focus (exact fun _ _ _ => last_panic (fun h => h))); (focus rfl); (focus (intro w hSw; (try dsimp only at hSw); go_simp; (try with_reducible rfl); done)); (try simp only [Act.put, List.setIfInBounds_toArray, List.set_cons_zero, List.set_cons_succ]))
                obtain ⟨A7, n7, c7, hv7⟩ := own_slice hg7.own
                subst hv7
                have k7 : w7.cell? ⟨xb, 0, none⟩ = _ := (HS.out _ hq7).1
                have f7 := fun o => frozen_of (hq7.get HM4.out.box (fun x => x)) o
                refine wpAnyH_done (by kernel_rfl) ?_ _
                refine last_step (o := ?_) ?_ ?_
                rotate_left 1
                (focus (simp only [List.getElem?_toArray, List.getElem?_cons_zero, List.getElem?_cons_succ] <;> rfl))
                intro K hK
                go_simp
                refine hK.out _ _ ?_
                clear hK K
                have HRES : Hid (POST (.returned (.int .i64 0)) (w7.setCell ⟨xb, 0, none⟩ (.slice A7 n7 c7))) := by
                  have hrow : RRow w7 (.slice A7 n7 c7) (insX ⟨e, Ak, ck⟩ xs) := by
                    have := hg7.own
                    rw [List.nil_append, row_ins xs ⟨e, Ak, ck⟩ HI.out] at this
                    unfold RRow
                    rw [insX_length]
                    rw [HN.out, show n + 1 = i + 1 + (n - i) by omega]
                    first | exact this | (rw [Nat.zero_add] at this; exact this)
                  have h8 := HM.out.turn (HQ4.out.trans hq7) hrow (fun k x => by have := hn7 k x; have := HQ4.out.size; omega) (fun y hy => by
                    rcases mem_insX hy with z | z
                    · subst z; exact Or.inr (HK4.out.quietly hq7)
                    · exact Or.inl z)
                  rw [← HPOST.out]
                  refine Or.inr ⟨HMEM.out, rfl, h8.2, _, _, h8.1, ?_, HRIS.out.ins HMEM.out⟩
                  rw [ents_insX]
                clear hg7 hq7 hn7 hg6 hq6 hn6 hg5 hq5 hn5 k7 f7 hHeld
                go_wp2
                exact HRES.out
              exact AllReadyH.nil
            exact AllReadyH.nil
          exact AllReadyH.nil
        exact AllReadyH.nil
      exact AllReadyH.nil

end Go.Proofs.Ytbeenpobppkhdaa
