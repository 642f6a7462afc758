/- The contract of a node's split. No condition. -/
import Derived.Test.YtbeenpobppkhdaaTSmall
namespace Go.Proofs.Ytbeenpobppkhdaa
open Go.RowKit Go.Lap

/-- What split leaves. -/
structure Cleft (K : Nat → Prop) (h : Nat) (w w' : World) (b : Nat) (F : Nat → Prop) (xs : List EV) (r : Nat) (F1 F2 : Nat → Prop) (x1 x2 : List EV) : Prop where
  all : xs = x1 ++ x2
  ne1 : x1 ≠ []
  ne2 : x2 ≠ []
  n1 : NodeAt K h w' b F1 x1
  n2 : NodeAt K h w' r F2 x2
  apart : ∀ k, F1 k → ¬ F2 k
  sub1 : ∀ k, F1 k → F k ∨ w.heap.size ≤ k
  sub2 : ∀ k, F2 k → F k ∨ w.heap.size ≤ k
  only : Only F w w'

def SplitPost (K : Nat → Prop) (h : Nat) (w : World) (b : Nat) (F : Nat → Prop) (xs : List EV) (e : Ending) (w' : World) : Prop :=
  (e = .returned (.pointer none) ∧ w = w') ∨ ∃ r F1 F2 x1 x2, e = .returned (ptrV r) ∧ Cleft K h w w' b F xs r F1 F2 x1 x2

set_option maxRecDepth 100000 in
theorem split_none (b : Nat) (v u : Value) (ys : List EV) (w : World) (hbox : w.heap[b]? = some (.cells #[v, u] 62 (0, 0))) (hrow : RowAt w v ys) (hl : ys.length ≤ 8) :
    Calls Try.prog 30 #[ptrV b] w fun e w' => e = .returned (.pointer none) ∧ w = w' := by
  obtain ⟨A, c, rfl, hc, hcm, _⟩ := own_form hrow
  have b0 : w.cell? ⟨b, 0, none⟩ = some (.slice A ys.length c) := by rw [cell_of hbox]; rfl
  have d : decide ((ys.length : Int) ≤ 8) = true := decide_eq_true (by omega)
  clear hbox hrow
  go_enter Try.func30, Try.ntmps30
  go_wp2
  go_ret
  exact ⟨rfl, rfl⟩

theorem row_rd {w : World} {v : Value} {g n c : Nat} {ys : List EV} (h : RowAt w v ys) (e : v = .slice (some ⟨g, 0, none⟩) n c) : Rd w (· = g) 3 (some ⟨g, 0, none⟩) ys.length (rowV ys) := by
  subst e
  refine ⟨by rw [rowV_length], fun _ => ⟨g, 0, rfl, rfl, fun j u hu => ?_⟩⟩
  have := h.cells rfl j u hu
  rw [add_none] at this
  exact this

/-- The worlds of a split: the new row of the second half, the new node, the new row of the first. -/
structure CleftW (w w3 : World) (b r : Nat) (v1 v2 u : Value) (ys : List EV) (k : Nat) : Prop where
  only : Only (· = b) w (w3.setCell ⟨b, 0, none⟩ v1)
  box : (w3.setCell ⟨b, 0, none⟩ v1).heap[b]? = some (.cells #[v1, u] 62 (0, 0))
  new : (w3.setCell ⟨b, 0, none⟩ v1).heap[r]? = some (.cells #[v2, .slice none 0 0] 62 (0, 0))
  row1 : RowAt (w3.setCell ⟨b, 0, none⟩ v1) v1 (ys.take k)
  row2 : RowAt (w3.setCell ⟨b, 0, none⟩ v1) v2 (ys.drop k)
  fresh : w.heap.size ≤ r ∧ (∀ j, v1.ownBlock = some j → w.heap.size ≤ j ∧ j ≠ r ∧ v2.ownBlock ≠ some j) ∧ (∀ j, v2.ownBlock = some j → w.heap.size ≤ j ∧ j ≠ r)

theorem cleftW_mk {w w1 w3 : World} {b k : Nat} {v v1 v2 u : Value} {ys : List EV} (hbox : w.heap[b]? = some (.cells #[v, u] 62 (0, 0))) (hk : k ≤ ys.length)
    (h1 : NewRow w w1 34 3 v2 (ys.length - k) (rowV (ys.drop k))) (h3 : NewRow (w1.alloc (.cells #[v2, .slice none 0 0] 62)) w3 34 3 v1 k (rowV (ys.take k))) : CleftW w w3 b w1.heap.size v1 v2 u ys k := by
  have hb := lt_of_get hbox
  have hz1 := h1.quiet.size
  have hz3 := h3.quiet.size
  rw [World.size_alloc] at hz3
  obtain ⟨j1, e1, l1⟩ := h3.loc
  obtain ⟨j2, e2, l2⟩ := h1.loc
  rw [World.size_alloc] at l1
  have hj2 := (h1.own.lt j2 e2).2
  have hq : Quiet w w3 := (h1.quiet.alloc _).trans h3.quiet
  have hset : Only (· = b) w3 (w3.setCell ⟨b, 0, none⟩ v1) := (Only.refl (· = b) w3).setCell (p := ⟨b, 0, none⟩) (fun _ => rfl) _
  refine ⟨(hq.mono (T := (· = b)) (fun _ _ x => x.elim)).trans hset, ?_, ?_, ?_, ?_, hz1, fun j e => ?_, fun j e => ?_⟩
  · rw [set_same (hq.get hbox (fun x => x)) 0 v1]; rfl
  · exact hset.get (h3.quiet.get (alloc_new w1 _) (fun x => x)) (by show ¬ w1.heap.size = b; omega)
  · have hl : (ys.take k).length = k := by rw [List.length_take]; omega
    unfold RowAt
    rw [hl]
    exact owns_kept h3.own hset (fun j e x => by rw [e1] at e; injection e with e; omega)
  · have hl : (ys.drop k).length = ys.length - k := List.length_drop
    unfold RowAt
    rw [hl]
    exact owns_kept (owns_kept (owns_kept h1.own ((Only.refl (fun _ => False) w1).alloc _) (fun _ _ x => x)) h3.quiet (fun _ _ x => x)) hset (fun j e x => by rw [e2] at e; injection e with e; omega)
  · rw [e1] at e
    injection e with e
    exact ⟨by omega, by omega, fun x => by rw [e2] at x; injection x with x; omega⟩
  · rw [e2] at e
    injection e with e
    exact ⟨by omega, by omega⟩

theorem CleftW.leaf {K F : Nat → Prop} {w w3 : World} {b r k : Nat} {v v1 v2 : Value} {xs : List EV} (h : CleftW w w3 b r v1 v2 (.slice none 0 0) xs k) (hl : Leaf K w b F xs v) (hK : ∀ j, K j → ¬ F j) (hk0 : 0 < k) (hk : k < xs.length) :
    Cleft K 0 w (w3.setCell ⟨b, 0, none⟩ v1) b F xs r (fun j => j = b ∨ v1.ownBlock = some j) (fun j => j = r ∨ v2.ownBlock = some j) (xs.take k) (xs.drop k) := by
  have hb := lt_of_get hl.box
  have hkey : ∀ x ∈ xs, Keyd (w3.setCell ⟨b, 0, none⟩ v1) K x := fun x hx => (hl.key x hx).kept h.only (fun j hj e => hK j hj (by rw [e]; exact hl.foot.1))
  refine ⟨(List.take_append_drop k xs).symm, fun e => ?_, fun e => ?_, ⟨v1, h.box, h.row1, fun x hx => hkey x (List.mem_of_mem_take hx), Or.inl rfl, fun j e => Or.inr e⟩, ⟨v2, h.new, h.row2, fun x hx => hkey x (List.mem_of_mem_drop hx), Or.inl rfl, fun j e => Or.inr e⟩, fun j x y => ?_, fun j x => ?_, fun j x => ?_, h.only.mono (fun j _ e => by rw [e]; exact hl.foot.1)⟩
  · have := congrArg List.length e; rw [List.length_take, List.length_nil] at this; omega
  · have := congrArg List.length e; rw [List.length_drop, List.length_nil] at this; omega
  · have hf := h.fresh
    rcases x with x | x <;> rcases y with y | y
    · omega
    · have := (hf.2.2 j y).1; omega
    · exact (hf.2.1 j x).2.1 y
    · exact (hf.2.1 j x).2.2 y
  · rcases x with x | x
    · exact Or.inl (by rw [x]; exact hl.foot.1)
    · exact Or.inr (h.fresh.2.1 j x).1
  · rcases x with x | x
    · exact Or.inr (by rw [x]; exact h.fresh.1)
    · exact Or.inr (h.fresh.2.2 j x).1

set_option maxHeartbeats 1000000 in
set_option maxRecDepth 100000 in
theorem split_leaf {K F : Nat → Prop} {w : World} {b : Nat} {xs : List EV} {v : Value} (hl : Leaf K w b F xs v) (hK : ∀ j, K j → ¬ F j) (hn : xs.length ≤ 100000) :
    Calls Try.prog 30 #[ptrV b] w (SplitPost K 0 w b F xs) := by
  by_cases h8 : xs.length ≤ 8
  · exact (split_none b v _ xs w hl.box hl.row h8).mono (fun e w' h => Or.inl h)
  · obtain ⟨g, c, hv, hc, hcm⟩ : ∃ g c, v = .slice (some ⟨g, 0, none⟩) xs.length c ∧ xs.length ≤ c ∧ c ≤ maxLen := by
      rcases owns_cases hl.row with ⟨_, e⟩ | ⟨g, c, e, h1, h2⟩
      · omega
      · exact ⟨g, c, e, h1, h2⟩
    obtain ⟨k, hk⟩ : ∃ k, xs.length / 2 = k := ⟨_, rfl⟩
    have hrd := row_rd hl.row hv
    have b0 : w.cell? ⟨b, 0, none⟩ = some (.slice (some ⟨g, 0, none⟩) xs.length c) := by rw [cell_of hl.box, ← hv]; rfl
    have HL := Lib.hid hl
    have HV := Lib.hid hv
    have HK := Lib.hid hK
    have HRD := Lib.hid hrd
    have HD1 := Lib.hid (hrd.drop (k := k) (by omega))
    have hb := lt_of_get hl.box
    have hkk : 4 ≤ k ∧ k < xs.length := by omega
    have q0 : (0 : Int) ≤ (xs.length : Int) / 2 := by omega
    have q1 : (xs.length : Int) / 2 ≤ (xs.length : Int) := by omega
    have q2 : ((xs.length : Int) / 2).toNat = k := by omega
    have q3 : ¬ c = k := by omega
    have d8 : decide ((xs.length : Int) ≤ 8) = false := decide_eq_false (by omega)
    have hcm' : c ≤ 9223372036854775807 := by unfold maxLen at hcm; omega
    have HC1 := Lib.hid (clone_ent ⟨g, 0 + k * 3, none⟩ (xs.length - k) (c - k) _ (· = g) w HD1.out (fun u hu => one_row xs u (List.mem_of_mem_drop hu)) (by omega))
    rw [Nat.zero_add] at HC1
    clear hrd hK hl hk hcm hv
    go_enter Try.func30, Try.ntmps30
    have HBX : Hid (w.heap[b]? = some (.cells #[.slice (some ⟨g, 0, none⟩) xs.length c, .slice none 0 0] 62 (0, 0))) := by rw [← HV.out]; exact HL.out.box
    go_wp2_with fail
    refine HC1.out.mono ?_
    rintro e w1 ⟨v2, rfl, h1⟩
    rw [← rowV_drop] at h1
    obtain ⟨A2, c2, hv2, _, _, _⟩ := own_form h1.own
    subst hv2
    have HN1 := Lib.hid h1
    have hq2 : Quiet w (w1.alloc (.cells #[.slice A2 (xs.length - k) c2, .slice none 0 0] 62)) := h1.quiet.alloc _
    have hb2 := hq2.get HBX.out (fun x => x)
    have HB2 := Lib.hid hb2
    have HC2 := Lib.hid (clone_ent ⟨g, 0, none⟩ k c _ (· = g) _ ((HRD.out.takeK (k := k) (by omega)).kept hq2 (fun _ _ x => x)) (fun u hu => one_row xs u (List.mem_of_mem_take hu)) (by omega))
    have b0' : (w1.alloc (.cells #[.slice A2 (xs.length - k) c2, .slice none 0 0] 62)).cell? ⟨b, 0, none⟩ = some (.slice (some ⟨g, 0, none⟩) xs.length c) := hq2.cell b0 (fun x => x)
    clear h1 HC1 HD1 b0 hb2 hq2
    go_wp2_with fail
    refine HC2.out.mono ?_
    rintro e w3 ⟨v1, rfl, h3⟩
    rw [← rowV_take] at h3
    obtain ⟨A1, c1, hv1, _, _, _⟩ := own_form h3.own
    subst hv1
    have hb3 := h3.quiet.get HB2.out (fun x => x)
    have HCW := Lib.hid (cleftW_mk HBX.out (by omega) HN1.out h3)
    have b3 : w3.cell? ⟨b, 0, none⟩ = some (.slice (some ⟨g, 0, none⟩) xs.length c) := h3.quiet.cell b0' (fun x => x)
    have f3 := fun o => frozen_of hb3 o
    clear h3 HC2 b0' hb3 HN1 HRD HB2
    have HLF := Lib.hid (leaf_any b _ _ _ _ _ HCW.out.box)
    go_wp2_with fail
    refine HLF.out.mono ?_
    rintro e w4 ⟨rfl, rfl⟩
    have HR := Lib.hid (HCW.out.leaf HL.out HK.out (by omega) (by omega))
    clear HLF HCW b3 f3
    go_wp2
    go_ret
    exact Or.inr ⟨_, _, _, _, _, rfl, HR.out⟩

/-- The worlds of a split of a node over others. -/
structure CleftI (w w8 : World) (b r : Nat) (v1 v2 u1 u2 : Value) (ys : List EV) (ps : List Value) (k : Nat) : Prop where
  only : Only (· = b) w w8
  box1 : w8.heap[b]? = some (.cells #[v1, u1] 62 (0, 0))
  box2 : w8.heap[r]? = some (.cells #[v2, u2] 62 (0, 0))
  row1 : RowAt w8 v1 (ys.take k)
  row2 : RowAt w8 v2 (ys.drop k)
  kid1 : w8.ownsRow 0 59 1 u1 k (ps.take k)
  kid2 : w8.ownsRow 0 59 1 u2 (ps.length - k) (ps.drop k)
  some1 : ∃ g, u1.ownBlock = some g
  some2 : ∃ g, u2.ownBlock = some g
  fresh : w.heap.size ≤ r ∧ (∀ j, v1.ownBlock = some j → w.heap.size ≤ j ∧ j ≠ r ∧ v2.ownBlock ≠ some j ∧ u2.ownBlock ≠ some j) ∧ (∀ j, v2.ownBlock = some j → w.heap.size ≤ j ∧ j ≠ r) ∧ (∀ j, u1.ownBlock = some j → w.heap.size ≤ j ∧ j ≠ r ∧ v2.ownBlock ≠ some j ∧ u2.ownBlock ≠ some j) ∧ (∀ j, u2.ownBlock = some j → w.heap.size ≤ j ∧ j ≠ r)

theorem cleftI_mk {w w3 w5 w7 : World} {b r k : Nat} {v1 v2 u u1 u2 : Value} {ys : List EV} {ps : List Value} (hb : b < w.heap.size) (h : CleftW w w3 b r v1 v2 u ys k)
    (h5 : NewRow (w3.setCell ⟨b, 0, none⟩ v1) w5 59 1 u2 (ps.length - k) (ps.drop k)) (h7 : NewRow (w5.setCell ⟨r, 1, none⟩ u2) w7 59 1 u1 k (ps.take k)) :
    CleftI w (w7.setCell ⟨b, 1, none⟩ u1) b r v1 v2 u1 u2 ys ps k := by
  obtain ⟨hr, hf1, hf2⟩ := h.fresh
  have hz4 := h.only.size
  have hz5 := h5.quiet.size
  have hz7 := h7.quiet.size
  have hs6 : Only (· = r) w5 (w5.setCell ⟨r, 1, none⟩ u2) := (Only.refl (· = r) w5).setCell (p := ⟨r, 1, none⟩) (fun _ => rfl) _
  have hz6 := hs6.size
  have hs8 : Only (· = b) w7 (w7.setCell ⟨b, 1, none⟩ u1) := (Only.refl (· = b) w7).setCell (p := ⟨b, 1, none⟩) (fun _ => rfl) _
  obtain ⟨j1, e1, l1⟩ := h7.loc
  obtain ⟨j2, e2, l2⟩ := h5.loc
  have hj2 := (h5.own.lt j2 e2).2
  have hrl := lt_of_get h.new
  have hr5 := h5.quiet.get h.new (fun x => x)
  have hb5 := h5.quiet.get h.box (fun x => x)
  have hr6 := set_same hr5 1 u2
  have hb6 := hs6.get hb5 (show ¬ b = r by omega)
  have hr7 := h7.quiet.get hr6 (fun x => x)
  have hb7 := h7.quiet.get hb6 (fun x => x)
  have v1l : ∀ j, v1.ownBlock = some j → j < (w3.setCell ⟨b, 0, none⟩ v1).heap.size := fun j e => (h.row1.lt j e).2
  have v2l : ∀ j, v2.ownBlock = some j → j < (w3.setCell ⟨b, 0, none⟩ v1).heap.size := fun j e => (h.row2.lt j e).2
  have keep : ∀ {e : TypeId} {sz n : Nat} {v : Value} {xs : List Value}, (w3.setCell ⟨b, 0, none⟩ v1).ownsRow 0 e sz v n xs → (∀ j, v.ownBlock = some j → j ≠ r ∧ j ≠ b) → (w7.setCell ⟨b, 1, none⟩ u1).ownsRow 0 e sz v n xs := fun ho hn =>
    owns_kept (owns_kept (owns_kept (owns_kept ho h5.quiet (fun _ _ x => x)) hs6 (fun j e => (hn j e).1)) h7.quiet (fun _ _ x => x)) hs8 (fun j e => (hn j e).2)
  refine ⟨?_, ?_, ?_, keep h.row1 (fun j e => ⟨(hf1 j e).2.1, by have := (hf1 j e).1; omega⟩), keep h.row2 (fun j e => ⟨(hf2 j e).2, by have := (hf2 j e).1; omega⟩), ?_, ?_, ⟨j1, e1⟩, ⟨j2, e2⟩, hr, fun j e => ⟨(hf1 j e).1, (hf1 j e).2.1, (hf1 j e).2.2, fun x => ?_⟩, hf2, fun j e => ?_, fun j e => ?_⟩
  · exact (((h.only.trans' h5.quiet (fun _ _ x => x.elim)).trans' hs6 (fun k hk e => by omega)).trans' h7.quiet (fun _ _ x => x.elim)).trans hs8
  · rw [set_same hb7 1 u1]; rfl
  · have := hs8.get hr7 (show ¬ r = b by omega)
    rw [this]; rfl
  · exact owns_kept h7.own hs8 (fun j e x => by rw [e1] at e; injection e with e; omega)
  · exact owns_kept (owns_kept (owns_kept h5.own hs6 (fun j e x => by rw [e2] at e; injection e with e; omega)) h7.quiet (fun _ _ x => x)) hs8 (fun j e x => by rw [e2] at e; injection e with e; omega)
  · rw [e2] at x
    injection x with x
    have := v1l j e
    omega
  · rw [e1] at e
    injection e with e
    refine ⟨by omega, by omega, fun x => ?_, fun x => ?_⟩
    · have := v2l j x; omega
    · rw [e2] at x; injection x with x; omega
  · rw [e2] at e
    injection e with e
    exact ⟨by omega, by omega⟩

theorem CleftI.inner {K F : Nat → Prop} {h : Nat} {w w8 : World} {b r k : Nat} {v u v1 v2 u1 u2 : Value} {ks : List Kid} (hc : CleftI w w8 b r v1 v2 u1 u2 (heads ks) (kptrs ks) k) (hi : Inner (NodeAt K h) w b F v u ks) (hK : ∀ j, K j → ¬ F j) (hlim : ∀ x ∈ ks, ∀ j, x.F j → j < w.heap.size) (hk0 : 2 ≤ k) (hk : k + 2 ≤ ks.length) :
    Cleft K (h + 1) w w8 b F (flat ks) r (fun j => j = b ∨ v1.ownBlock = some j ∨ u1.ownBlock = some j ∨ ∃ x ∈ ks.take k, x.F j) (fun j => j = r ∨ v2.ownBlock = some j ∨ u2.ownBlock = some j ∨ ∃ x ∈ ks.drop k, x.F j) (flat (ks.take k)) (flat (ks.drop k)) := by
  obtain ⟨hr, hf1, hf2, hf3, hf4⟩ := hc.fresh
  have hb := lt_of_get hi.box
  have hkid : ∀ x ∈ ks, x.xs ≠ [] ∧ NodeAt K h w8 x.b x.F x.xs := fun x hx => ⟨(hi.kid x hx).1, NodeAt.kept hc.only (fun j hj e => hK j hj (by rw [e]; exact hi.foot.1)) (hi.kid x hx).2 (fun j hj e => (hi.sub x hx j hj).2.1 e)⟩
  have hkl : (kptrs ks).length = ks.length := by simp
  have hne : ∀ l : List Kid, (∀ x ∈ l, x ∈ ks) → l ≠ [] → flat l ≠ [] := fun l hl h0 e => by
    rcases l with _ | ⟨x, l⟩
    · exact h0 rfl
    · rw [flat, List.flatMap_cons] at e
      exact (hi.kid x (hl x (by simp))).1 (List.append_eq_nil_iff.1 e).1
  have hcross : ∀ x ∈ ks.take k, ∀ y ∈ ks.drop k, ∀ j, x.F j → ¬ y.F j := by
    have := hi.apart
    rw [← List.take_append_drop k ks, List.pairwise_append] at this
    exact this.2.2
  refine ⟨?_, hne _ (fun x hx => List.mem_of_mem_take hx) (fun e => ?_), hne _ (fun x hx => List.mem_of_mem_drop hx) (fun e => ?_), ⟨v1, u1, ks.take k, ⟨hc.box1, ?_, ?_, hc.some1, ?_, fun x hx => hkid x (List.mem_of_mem_take hx), fun x hx j hj => ?_, hi.apart.sublist (List.take_sublist _ _), Or.inl rfl, fun j e => Or.inr (Or.inl e), fun j e => Or.inr (Or.inr (Or.inl e))⟩, rfl⟩, ⟨v2, u2, ks.drop k, ⟨hc.box2, ?_, ?_, hc.some2, ?_, fun x hx => hkid x (List.mem_of_mem_drop hx), fun x hx j hj => ?_, hi.apart.sublist (List.drop_sublist _ _), Or.inl rfl, fun j e => Or.inr (Or.inl e), fun j e => Or.inr (Or.inr (Or.inl e))⟩, rfl⟩, fun j x y => ?_, fun j x => ?_, fun j x => ?_, hc.only.mono (fun j _ e => by rw [e]; exact hi.foot.1)⟩
  · rw [← List.flatMap_append, List.take_append_drop]
  · have := congrArg List.length e; rw [List.length_take, List.length_nil] at this; omega
  · have := congrArg List.length e; rw [List.length_drop, List.length_nil] at this; omega
  · rw [heads, List.map_take]; exact hc.row1
  · rw [kptrs, List.map_take, List.length_take, Nat.min_eq_left (by omega)]; exact hc.kid1
  · rw [List.length_take]; omega
  · have hx' := List.mem_of_mem_take hx
    have hl := hlim x hx' j hj
    exact ⟨Or.inr (Or.inr (Or.inr ⟨x, hx, hj⟩)), (hi.sub x hx' j hj).2.1, fun e => by have := (hf1 j e).1; omega, fun e => by have := (hf3 j e).1; omega⟩
  · rw [heads, List.map_drop]; exact hc.row2
  · rw [kptrs, List.map_drop, List.length_drop]; have := hc.kid2; rw [hkl] at this; exact this
  · rw [List.length_drop]; omega
  · have hx' := List.mem_of_mem_drop hx
    have hl := hlim x hx' j hj
    exact ⟨Or.inr (Or.inr (Or.inr ⟨x, hx, hj⟩)), by omega, fun e => by have := (hf2 j e).1; omega, fun e => by have := (hf4 j e).1; omega⟩
  · rcases x with x | x | x | ⟨x, hx, hxj⟩
    · rcases y with y | y | y | ⟨y, hy, hyj⟩
      · omega
      · have := (hf2 j y).1; omega
      · have := (hf4 j y).1; omega
      · exact (hi.sub y (List.mem_of_mem_drop hy) j hyj).2.1 x
    · rcases y with y | y | y | ⟨y, hy, hyj⟩
      · exact (hf1 j x).2.1 y
      · exact (hf1 j x).2.2.1 y
      · exact (hf1 j x).2.2.2 y
      · have := hlim y (List.mem_of_mem_drop hy) j hyj; have := (hf1 j x).1; omega
    · rcases y with y | y | y | ⟨y, hy, hyj⟩
      · exact (hf3 j x).2.1 y
      · exact (hf3 j x).2.2.1 y
      · exact (hf3 j x).2.2.2 y
      · have := hlim y (List.mem_of_mem_drop hy) j hyj; have := (hf3 j x).1; omega
    · have hl := hlim x (List.mem_of_mem_take hx) j hxj
      rcases y with y | y | y | ⟨y, hy, hyj⟩
      · omega
      · have := (hf2 j y).1; omega
      · have := (hf4 j y).1; omega
      · exact hcross x hx y hy j hxj hyj
  · rcases x with x | x | x | ⟨x, hx, hxj⟩
    · exact Or.inl (by rw [x]; exact hi.foot.1)
    · exact Or.inr (hf1 j x).1
    · exact Or.inr (hf3 j x).1
    · exact Or.inl (hi.sub x (List.mem_of_mem_take hx) j hxj).1
  · rcases x with x | x | x | ⟨x, hx, hxj⟩
    · exact Or.inr (by rw [x]; exact hr)
    · exact Or.inr (hf2 j x).1
    · exact Or.inr (hf4 j x).1
    · exact Or.inl (hi.sub x (List.mem_of_mem_drop hx) j hxj).1

end Go.Proofs.Ytbeenpobppkhdaa
