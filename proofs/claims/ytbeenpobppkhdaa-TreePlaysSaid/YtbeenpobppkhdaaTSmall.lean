/- The contracts of the tree's small functions: leaf, least, below, copyOf, New. No condition. -/
import Derived.Test.YtbeenpobppkhdaaTNode
import Derived.Laws.Rows
namespace Go.Proofs.Ytbeenpobppkhdaa
open Go.RowKit Go.Lap

section
variable {P : Program}
theorem results_cell1 {fn : Func} {p : Tmp} {ty : TypeId} (h : fn.results = #[.cell p ty]) (tmps : Array Value) (w : World) (g : Nat) (t : TypeId) (cs : Array Value) (fr : Nat × Nat) (d : TypeDesc)
    (hp : tmps.getD p undef = .pointer (some ⟨g, 0, none⟩)) (hg : w.heap[g]? = some (.cells cs t fr))
    (hu : P.underlying ty = some d) (hd : (match d with | .struct _ | .array _ _ => true | _ => false) = true) (hi : (P.info? ty).map (·.size) = some cs.size) :
    (results fn tmps).run P w = .ok (.agg cs) w := by
  have hp' : tmps[p]?.getD undef = .pointer (some ⟨g, 0, none⟩) := by simpa using hp
  simp [results, h, hp', asAddr, run_loadVar_row w g t ty cs fr d hg hu hd hi]
end

theorem info_ent : (Try.prog.info? 34).map (·.size) = some 3 := by kernel_rfl

set_option maxRecDepth 100000 in
theorem leaf_any (b : Nat) (v : Value) (A : Option Addr) (n c : Nat) (w : World) (h : w.heap[b]? = some (.cells #[v, .slice A n c] 62 (0, 0))) :
    Calls Try.prog 39 #[ptrV b] w fun e w' => e = .returned (.bool A.isNone) ∧ w = w' := by
  have heq := fun (w : World) (a : Option Addr) (n c : Nat) => Lib.run_eql_slice_nil (P := Try.prog) w 60 _ a n c 0 0 Try.underlying60
  have c1 : w.cell? ⟨b, 1, none⟩ = some (.slice A n c) := by rw [cell_of h]; rfl
  clear h
  go_enter Try.func39, Try.ntmps39
  go_wp2
  go_ret
  exact ⟨rfl, rfl⟩

theorem Leaf.leaf {K F : Nat → Prop} {w : World} {b : Nat} {xs : List EV} {v : Value} (h : Leaf K w b F xs v) : Calls Try.prog 39 #[ptrV b] w fun e w' => e = .returned (.bool true) ∧ w = w' := leaf_any b v none 0 0 w h.box

/-- The row of kids, written out. -/
theorem Inner.form {N : World → Nat → (Nat → Prop) → List EV → Prop} {w : World} {b : Nat} {F : Nat → Prop} {v u : Value} {ks : List Kid} (h : Inner N w b F v u ks) : ∃ g c, u = .slice (some ⟨g, 0, none⟩) ks.length c ∧ ks.length ≤ c ∧ c ≤ maxLen := by
  obtain ⟨g, hg⟩ := h.some_
  rcases owns_cases h.kids with ⟨e, _⟩ | ⟨g', c, e, h1, h2⟩
  · rw [e] at hg; cases hg
  · exact ⟨g', c, e, h1, h2⟩

theorem Inner.leaf {N : World → Nat → (Nat → Prop) → List EV → Prop} {w : World} {b : Nat} {F : Nat → Prop} {v u : Value} {ks : List Kid} (h : Inner N w b F v u ks) : Calls Try.prog 39 #[ptrV b] w fun e w' => e = .returned (.bool false) ∧ w = w' := by
  obtain ⟨g, c, e, _⟩ := h.form
  have := h.box
  rw [e] at this
  exact leaf_any b v _ _ _ w this

/-- The row of a node's entries, or of its kids' first ones. -/
theorem NodeAt.row {K F : Nat → Prop} {h : Nat} {w : World} {b : Nat} {xs : List EV} (hn : NodeAt K h w b F xs) (hx : xs ≠ []) : ∃ v u ys, w.heap[b]? = some (.cells #[v, u] 62 (0, 0)) ∧ RowAt w v ys ∧ ys ≠ [] ∧ hd ys = hd xs := by
  cases h with
  | zero => obtain ⟨v, h⟩ := hn; exact ⟨v, _, xs, h.box, h.row, hx, rfl⟩
  | succ h =>
    obtain ⟨v, u, ks, h, e⟩ := hn
    have h2 := h.two
    rcases ks with _ | ⟨x, ks⟩
    · simp at h2
    · refine ⟨v, u, _, h.box, h.row, by simp, ?_⟩
      rw [e, flat, List.flatMap_cons, hd_append (h.kid x (by simp)).1]
      rfl

/-- The cells of an entry of an owned row, at a later world. -/
theorem row_at {w w' : World} {g n c : Nat} {xs : List EV} {j : Nat} {x : EV} (h : RowAt w (.slice (some ⟨g, 0, none⟩) n c) xs) (hj : xs[j]? = some x) (hq : Quiet w w') :
    w'.cell? ⟨g, j * 3, none⟩ = some (.slice x.A x.e.key.length x.c) ∧ w'.cell? ⟨g, j * 3 + 1, none⟩ = some (.int .i64 x.e.pg) ∧ w'.cell? ⟨g, j * 3 + 2, none⟩ = some (.int .i64 x.e.sl) := by
  obtain ⟨h1, h2, h3⟩ := rowV_get hj
  have key : ∀ k u, (rowV xs)[k]? = some u → w'.cell? ⟨g, k, none⟩ = some u := fun k u hu => by
    have := h.cells rfl k u hu
    rw [add_none, Nat.zero_add] at this
    exact hq.cell this (fun x => x)
  exact ⟨key _ _ h1, key _ _ h2, key _ _ h3⟩

set_option maxHeartbeats 400000 in
set_option maxRecDepth 100000 in
theorem least_exact {K F : Nat → Prop} {h : Nat} {w : World} {b : Nat} {xs : List EV} (hn : NodeAt K h w b F xs) (hx : xs ≠ []) :
    Calls Try.prog 31 #[ptrV b] w fun e w' => e = .returned (entV (hd xs).e (hd xs).A (hd xs).c) ∧ w' = w.alloc (.cells #[.slice (hd xs).A (hd xs).e.key.length (hd xs).c, .int .i64 (hd xs).e.pg, .int .i64 (hd xs).e.sl] 34) := by
  obtain ⟨v, u, ys, hbox, hrow, hys, he⟩ := hn.row hx
  rw [← he]
  have hl : 0 < ys.length := List.length_pos_iff.2 hys
  obtain ⟨g, c, rfl, hc, hcm⟩ : ∃ g c, v = .slice (some ⟨g, 0, none⟩) ys.length c ∧ ys.length ≤ c ∧ c ≤ maxLen := by
    rcases owns_cases hrow with ⟨_, e⟩ | ⟨g, c, e, h1, h2⟩
    · omega
    · exact ⟨g, c, e, h1, h2⟩
  obtain ⟨c0, c1, c2⟩ := row_at hrow (hd_get hys) (w' := w.alloc (.cells #[.slice none 0 0, .int .i64 0, .int .i64 0] 34)) ((Only.refl (fun _ => False) w).alloc _)
  rw [Nat.zero_mul] at c0 c1 c2
  rw [Nat.zero_add] at c1 c2
  have d0 : (0 : Int) < (ys.length : Int) := by omega
  have hb1 := alloc_old hbox (.cells #[.slice none 0 0, .int .i64 0, .int .i64 0] 34)
  have b0 : (w.alloc (.cells #[.slice none 0 0, .int .i64 0, .int .i64 0] 34)).cell? ⟨b, 0, none⟩ = some (.slice (some ⟨g, 0, none⟩) ys.length c) := by rw [cell_of hb1]; rfl
  generalize hd ys = y at *
  clear hn hx hbox hb1 hrow he hys
  go_enter Try.func31, Try.ntmps31
  go_wp2
  exact bodyPost_ret (results_cell1 Try.results31 _ _ w.heap.size _ _ (0, 0) _ (by rfl) (alloc_new w _) Try.underlying34 rfl info_ent) (by rfl) ⟨rfl, rfl⟩

theorem least_any {K F : Nat → Prop} {h : Nat} {w : World} {b : Nat} {xs : List EV} (hn : NodeAt K h w b F xs) (hx : xs ≠ []) :
    Calls Try.prog 31 #[ptrV b] w fun e w' => e = .returned (entV (hd xs).e (hd xs).A (hd xs).c) ∧ Quiet w w' :=
  (least_exact hn hx).mono fun _ _ ⟨he, hw⟩ => ⟨he, by rw [hw]; exact (Only.refl _ _).alloc _⟩

/-- The kid below which an entry stands. -/
def belowE (t : Ent) (es : List Ent) : Nat := if t ∈ es then posE t es else posE t es - 1

structure Below1 (t : Ent) (es : List Ent) (i : Nat) : Prop where
  lt : i < es.length
  left : i = 0 ∨ ∀ y, es[i]? = some y → ¬ cmpE t y < 0
  right : ∀ j y, i < j → es[j]? = some y → cmpE t y < 0

theorem below_spec {t : Ent} {es : List Ent} (hs : Rising es) (h0 : es ≠ []) : Below1 t es (belowE t es) := by
  have hl := List.length_pos_iff.2 h0
  have hp := posE_le t es
  unfold belowE
  by_cases hm : t ∈ es
  · rw [if_pos hm]
    have ht := (posE_mem hs).1 hm
    have hlt := (List.getElem?_eq_some_iff.1 ht).1
    refine ⟨hlt, Or.inr (fun y hy => ?_), fun j y hj hy => hs.get hj ht hy⟩
    rw [ht] at hy
    injection hy with hy
    rw [← hy, cmpE_self]
    omega
  · rw [if_neg hm]
    refine ⟨by omega, ?_, fun j y hj hy => posE_behind hs hm (j := j) (by omega) hy⟩
    · by_cases h1 : posE t es = 0
      · exact Or.inl (by omega)
      · right
        intro y hy h
        have := posE_before (e := t) (l := es) (j := posE t es - 1) (by omega) hy
        have := cmpE_trans h this
        rw [cmpE_self] at this
        omega

set_option maxHeartbeats 1000000 in
set_option maxRecDepth 100000 in
theorem below_any (b : Nat) (v u : Value) (ys : List EV) (t : EV) (K K' : Nat → Prop) (w : World) (hbox : w.heap[b]? = some (.cells #[v, u] 62 (0, 0))) (hrow : RowAt w v ys) (hk : ∀ x ∈ ys, Keyd w K x) (ht : Keyd w K' t) (hs : Rising (ents ys)) (hl : ys.length ≤ 100000) :
    Calls Try.prog 41 #[ptrV b, entV t.e t.A t.c] w fun e w' => e = .returned (.int .i64 (belowE t.e (ents ys) : Int)) ∧ Quiet w w' := by
  obtain ⟨A, c, rfl, hc, hcm, hrd⟩ := own_form hrow
  have hq0 : Quiet w (w.alloc (.cells #[.slice t.A t.e.key.length t.c, .int .i64 t.e.pg, .int .i64 t.e.sl] 34)) := (Only.refl _ _).alloc _
  have HQ0 := Lib.hid hq0
  have b0 : (w.alloc (.cells #[.slice t.A t.e.key.length t.c, .int .i64 t.e.pg, .int .i64 t.e.sl] 34)).cell? ⟨b, 0, none⟩ = some (.slice A ys.length c) := by rw [cell_of (hq0.get hbox (fun x => x))]; rfl
  obtain ⟨t0, t1, t2⟩ := ent_cells (alloc_new w (.cells #[.slice t.A t.e.key.length t.c, .int .i64 t.e.pg, .int .i64 t.e.sl] 34))
  have HSR := Lib.hid (search_any ys t A c _ K K' _ (hrd.kept hq0.drew (fun _ _ x => x)) (fun x hx => (hk x hx).quietly hq0.drew) (ht.quietly hq0.drew) hs hl)
  have hpl : posE t.e (ents ys) ≤ ys.length := by have := posE_le t.e (ents ys); simpa using this
  have HR : Hid (belowE t.e (ents ys) = if t.e ∈ ents ys then posE t.e (ents ys) else posE t.e (ents ys) - 1) := rfl
  generalize posE t.e (ents ys) = p at *
  generalize belowE t.e (ents ys) = r at *
  by_cases hm : t.e ∈ ents ys
  · rw [if_pos hm] at HR
    have HSR' := HSR.out
    rw [decide_eq_true hm] at HSR'
    have HS := Lib.hid HSR'
    clear hbox hrow hrd hk ht hs hq0 HSR HSR' hm
    go_enter Try.func41, Try.ntmps41
    go_wp2_with fail
    go_region_held3 (fun w' => w'.cell? ⟨b, 0, none⟩ = some (.slice A ys.length c) ∧ w'.cell? ⟨w.heap.size, 0, none⟩ = some (.slice t.A t.e.key.length t.c) ∧ w'.cell? ⟨w.heap.size, 1, none⟩ = some (.int .i64 t.e.pg) ∧ w'.cell? ⟨w.heap.size, 2, none⟩ = some (.int .i64 t.e.sl))
      (first | go_keep | fail)
      (first
        | (go_at_call 36; go_must (refine HS.out.mono ?_; rintro e w2 ⟨rfl, hq2⟩; have k0 := hq2.cell b0 (fun x => x); have k1 := hq2.cell t0 (fun x => x); have k2 := hq2.cell t1 (fun x => x); have k3 := hq2.cell t2 (fun x => x)))
        | fail)
    have HQ2 := Lib.hid (HQ0.out.drew.trans hq2)
    clear hq2 k0 k1 k2 k3 b0 t0 t1 t2 HS HQ0
    go_wp2
    go_ret
    rw [HR.out]
    exact ⟨rfl, HQ2.out⟩
  · rw [if_neg hm] at HR
    have HSR' := HSR.out
    rw [decide_eq_false hm] at HSR'
    have HS := Lib.hid HSR'
    clear hbox hrow hrd hk ht hs hq0 HSR HSR' hm
    go_enter Try.func41, Try.ntmps41
    go_wp2_with fail
    go_region_held3 (fun w' => w'.cell? ⟨b, 0, none⟩ = some (.slice A ys.length c) ∧ w'.cell? ⟨w.heap.size, 0, none⟩ = some (.slice t.A t.e.key.length t.c) ∧ w'.cell? ⟨w.heap.size, 1, none⟩ = some (.int .i64 t.e.pg) ∧ w'.cell? ⟨w.heap.size, 2, none⟩ = some (.int .i64 t.e.sl))
      (first | go_keep | fail)
      (first
        | (go_at_call 36; go_must (refine HS.out.mono ?_; rintro e w2 ⟨rfl, hq2⟩; have k0 := hq2.cell b0 (fun x => x); have k1 := hq2.cell t0 (fun x => x); have k2 := hq2.cell t1 (fun x => x); have k3 := hq2.cell t2 (fun x => x)))
        | fail)
    have HQ2 := Lib.hid (HQ0.out.drew.trans hq2)
    clear hq2 k0 k1 k2 k3 b0 t0 t1 t2 HS HQ0
    go_wp2
    go_ret
    rw [HR.out, show ((p - 1 : Nat) : Int) = max ((p : Int) - 1) 0 by omega]
    exact ⟨rfl, HQ2.out⟩

/-- A new entry, whose key is new. -/
def CopyPost (w : World) (e0 : Ent) (e : Ending) (w' : World) : Prop :=
  ∃ A c, e = .returned (entV e0 A c) ∧ Quiet w w' ∧ Rd w' (fun k => w.heap.size ≤ k ∧ k < w'.heap.size) 1 A e0.key.length (bytesV e0.key)

set_option maxRecDepth 100000 in
theorem new_any (w : World) : Calls Try.prog 11 #[] w fun e w' => e = .returned (ptrV (w.heap.size + 1)) ∧ Quiet w w' ∧ w'.heap[w.heap.size]? = some (.cells #[.slice none 0 0, .slice none 0 0] 62 (0, 0)) ∧ w'.heap[w.heap.size + 1]? = some (.cells #[ptrV w.heap.size, .int .i64 0] 64 (0, 0)) := by
  go_enter Try.func11, Try.ntmps11
  go_wp2
  go_ret
  exact ⟨rfl, ((Only.refl _ _).alloc _).alloc _, alloc_old (alloc_new _ _) _, two_new _ _ _⟩

end Go.Proofs.Ytbeenpobppkhdaa
