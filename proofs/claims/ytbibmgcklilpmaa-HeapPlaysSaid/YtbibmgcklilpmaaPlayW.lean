/- Two heaps of one pool and the document's, in a law's world; either may be nil. No condition. -/
import Derived.Test.YtbibmgcklilpmaaAlike
namespace Go.Lap

theorem mem_set_or {α : Type} {l : List α} {i : Nat} {x y : α} (h : y ∈ l.set i x) : y ∈ l ∨ y = x := List.mem_or_eq_of_mem_set h

end Go.Lap
namespace Go.Proofs.Ytbibmgcklilpmaa
open Go.RowKit Go.Lap

theorem used_most {H : List (List (Option Tup))} (hfit : ∀ T ∈ H, Fits T) (hl : H.length ≤ 256) : usedH H ≤ 1000000 := by
  have key : ∀ G : List (List (Option Tup)), (∀ T ∈ G, Fits T) → usedH G ≤ 127 * G.length := by
    intro G
    induction G with
    | nil => intro _; exact Nat.zero_le _
    | cons T G ih =>
      intro hG
      have h1 := ih (fun U hU => hG U (List.mem_cons_of_mem _ hU))
      have h2 : Fits T := hG T (List.mem_cons_self ..)
      unfold Fits at h2
      have h3 := usedT_le T
      unfold usedH at h1 ⊢
      rw [List.map_cons, List.sum_cons, List.length_cons]
      omega
  have := key H hfit
  omega

theorem hIns_fits {H : List (List (Option Tup))} (left : Nat) (t : Tup) (hfit : ∀ T ∈ H, Fits T) : ∀ T ∈ (hIns H left t).2.1, Fits T := by
  rcases hr : t.rightB with _ | _
  · unfold hIns
    rw [if_pos hr]
    exact hfit
  · rcases hf : findH H t.data.length with _ | i
    · rcases left with _ | left
      · unfold hIns
        rw [if_neg (by simp [hr]), hf]
        exact hfit
      · rw [hIns_none hr hf]
        exact (insAt_none hfit hr).fit
    · obtain ⟨T, hT, hrm⟩ := findH_some hf
      rw [hIns_some hr hf hT]
      exact (insAt_some hfit hT hrm).fit

theorem hFree_fits {H : List (List (Option Tup))} (pg sl : Int) (hfit : ∀ T ∈ H, Fits T) : ∀ T ∈ (hFree H pg sl).2, Fits T := by
  rcases hg : hGet H pg sl with _ | t
  · unfold hFree
    rw [hg]
    exact hfit
  · obtain ⟨H', he, hf⟩ := hFree_goes hfit hg
    rw [he]
    exact hf.fit

theorem pStamp_fits {T : List (Option Tup)} (i : Int) (x : Nat) (pg sl : Int) (h : Fits T) : Fits (pStampT T i x pg sl).2 := by
  unfold pStampT
  split
  · exact h
  · rcases ht : tupAt T i with _ | t
    · exact h
    · obtain ⟨s0, hs⟩ := tupAt_some ht
      have hsum := sum_set sizeT T i.toNat (some t) (some (t.stamp x pg sl)) hs
      have e : sizeT (some (t.stamp x pg sl)) = sizeT (some t) := rfl
      unfold Fits at h ⊢
      show 4 + 4 * (T.set i.toNat (some (t.stamp x pg sl))).length + ((T.set i.toNat (some (t.stamp x pg sl))).map sizeT).sum ≤ 512
      rw [List.length_set]
      omega

theorem hStamp_fits {H : List (List (Option Tup))} (pg sl : Int) (x : Nat) (npg nsl : Int) (hfit : ∀ T ∈ H, Fits T) : ∀ T ∈ (hStamp H pg sl x npg nsl).2, Fits T := by
  unfold hStamp
  split
  · exact hfit
  · rename_i hn
    intro T hT
    rcases mem_set_or hT with y | y
    · exact hfit T y
    · rw [y]
      obtain ⟨k, rfl⟩ := Int.eq_ofNat_of_zero_le (show 0 ≤ pg by omega)
      have hk : k < H.length := by omega
      refine pStamp_fits _ _ _ _ (hfit _ ?_)
      rw [Int.toNat_natCast, List.getD_eq_getElem?_getD, List.getElem?_eq_getElem hk]
      exact List.getElem_mem hk

theorem hStamp_length (H : List (List (Option Tup))) (pg sl : Int) (x : Nat) (npg nsl : Int) : (hStamp H pg sl x npg nsl).2.length = H.length := by
  unfold hStamp
  split
  · rfl
  · simp

def adr (o : Option Nat) : Option Addr := o.map (fun b => ⟨b, 0, none⟩)
def tf (b : Bool) : Nat := if b then 2 else 1
def tr (b : Bool) : Nat := if b then 4 else 3
def upd {α : Type} (f : Bool → α) (b : Bool) (x : α) : Bool → α := fun c => if c = b then x else f c
theorem upd_self {α : Type} (f : Bool → α) (b : Bool) : upd f b (f b) = f := by
  funext c
  unfold upd
  split
  · rename_i h; rw [h]
  · rfl
theorem upd_at {α : Type} (f : Bool → α) (b : Bool) (x : α) : upd f b x b = x := by unfold upd; rw [if_pos rfl]
theorem upd_ne {α : Type} (f : Bool → α) {b c : Bool} (x : α) (h : c ≠ b) : upd f b x c = f c := by unfold upd; rw [if_neg h]

abbrev HS := Bool → List (List (Option Tup))

/-- What Insert, Stamp, Free, Drop tell of a heap that may be nil. -/
def nIns (on : Bool) (H : List (List (Option Tup))) (left : Nat) (t : Tup) : (Int × Int × Int) × List (List (Option Tup)) × Nat := if on then hIns H left t else ((0, 0, 15), H, left)
def nStamp (on : Bool) (H : List (List (Option Tup))) (pg sl : Int) (x : Nat) (npg nsl : Int) : Int × List (List (Option Tup)) := if on then hStamp H pg sl x npg nsl else (15, H)
def nFree (on : Bool) (H : List (List (Option Tup))) (pg sl : Int) : Int × List (List (Option Tup)) := if on then hFree H pg sl else (15, H)
def nDrop (on : Bool) (H : List (List (Option Tup))) (left : Nat) : Int × List (List (Option Tup)) × Nat := if on then ((H.length : Int), [], left + H.length) else (0, H, left)

/-- One heap and the document's: both nil, or each of its own pages. -/
def Side (W : World) (ow : Nat → Nat) (pb qb : Nat) (h x : Option Nat) (b : Bool) (H X : List (List (Option Tup))) : Prop :=
  (h = none ∧ x = none ∧ H = [] ∧ X = []) ∨ ∃ hb xb, h = some hb ∧ x = some xb ∧ HeapIs W hb pb (fun k => ow k = tf b) H ∧ RHeapIs W xb qb (fun k => ow k = tr b) X

/-- Two heaps of one pool and the document's; the blocks of K are the law's own. -/
structure PlayW (w W : World) (K : Nat → Prop) (pb qb : Nat) (hs xs : Bool → Option Nat) (Hs : HS) (left : Nat) (Xs : HS) (rl : Nat) : Prop where
  quiet : Quiet w W
  ex : ∃ ow : Nat → Nat, (∀ b, Side W ow pb qb (hs b) (xs b) b (Hs b) (Xs b)) ∧ ow pb = 5 ∧ ow qb = 6 ∧ ∀ k, ow k ≠ 0 → w.heap.size ≤ k ∧ k < W.heap.size ∧ ¬ K k
  pool : PoolAt W pb left
  rpool : RPoolAt W qb rl
  sum : (Hs false).length + (Hs true).length + left ≤ 256
  rsum : (Xs false).length + (Xs true).length + rl ≤ 256
  kl : ∀ k, K k → k < W.heap.size
  fit : ∀ b T, T ∈ Hs b → Fits T
  rfit : ∀ b T, T ∈ Xs b → Fits T

theorem own_new (ow : Nat → Nat) (a b t : Nat) : ∃ OW : Nat → Nat, (∀ k, k < a → OW k = ow k) ∧ (∀ k, a ≤ k → k < b → OW k = t) ∧ ∀ k, b ≤ k → a ≤ k → OW k = 0 :=
  ⟨fun k => if k < a then ow k else if k < b then t else 0, fun k h => if_pos h, fun k h1 h2 => by
    show (if k < a then ow k else if k < b then t else 0) = t
    rw [if_neg (by omega), if_pos h2], fun k h1 h2 => by
    show (if k < a then ow k else if k < b then t else 0) = 0
    rw [if_neg (by omega), if_neg (by omega)]⟩

section
variable {w W W' : World} {K K' : Nat → Prop} {pb qb : Nat} {hs xs : Bool → Option Nat} {Hs Xs : HS} {left rl : Nat}

theorem Side.kept {ow : Nat → Nat} {S : Nat → Prop} {h x : Option Nat} {b : Bool} {H X : List (List (Option Tup))} (hd : Side W ow pb qb h x b H X) (ho : Only S W W') (h1 : ∀ k, ow k = tf b → ¬ S k) (h2 : ∀ k, ow k = tr b → ¬ S k) : Side W' ow pb qb h x b H X := by
  rcases hd with hd | ⟨hb, xb, e1, e2, h3, h4⟩
  · exact Or.inl hd
  · exact Or.inr ⟨hb, xb, e1, e2, h3.kept ho h1, h4.kept ho h2⟩

theorem PlayW.fresh (h : PlayW w W K pb qb hs xs Hs left Xs rl) (hq : Quiet W W') (hk : ∀ k, K' k → (K k ∨ W.heap.size ≤ k) ∧ k < W'.heap.size) : PlayW w W' K' pb qb hs xs Hs left Xs rl := by
  obtain ⟨ow, h1, h2, h3, h4⟩ := h.ex
  have hz := hq.size
  refine ⟨h.quiet.trans hq, ⟨ow, fun b => (h1 b).kept hq (fun _ _ x => x) (fun _ _ x => x), h2, h3, fun k x => ?_⟩, h.pool.kept hq (fun x => x), h.rpool.kept hq (fun x => x), h.sum, h.rsum, fun k x => (hk k x).2, h.fit, h.rfit⟩
  obtain ⟨a, b, c⟩ := h4 k x
  refine ⟨a, by omega, fun y => ?_⟩
  rcases (hk k y).1 with z | z
  · exact c z
  · omega

theorem PlayW.quietly (h : PlayW w W K pb qb hs xs Hs left Xs rl) (hq : Quiet W W') : PlayW w W' K pb qb hs xs Hs left Xs rl := h.fresh hq (fun k x => ⟨Or.inl x, by have := h.kl k x; have := hq.size; omega⟩)

/-- A heap turns. -/
theorem PlayW.onH {b : Bool} {hb : Nat} (h : PlayW w W K pb qb hs xs Hs left Xs rl) (e : hs b = some hb) :
    ∃ F, HeapIs W hb pb F (Hs b) ∧ (∀ k, F k → ¬ K k ∧ k ≠ pb ∧ k < W.heap.size) ∧ ¬ K pb ∧ ∀ (W' : World) (H' : List (List (Option Tup))) (left' : Nat), Only (fun k => F k ∨ k = pb) W W' → PoolAt W' pb left' → HeapIs W' hb pb (fun k => F k ∨ W.heap.size ≤ k) H' → H'.length + left' = (Hs b).length + left → (∀ T ∈ H', Fits T) →
      Turn w W W' K ∧ PlayW w W' K pb qb hs xs (upd Hs b H') left' Xs rl := by
  obtain ⟨ow, h1, h2, h3, h4⟩ := h.ex
  rcases h1 b with ⟨e0, _⟩ | ⟨hb', xb, e0, e1, hh, hx⟩
  · rw [e] at e0; cases e0
  rw [e] at e0
  injection e0 with e0
  subst e0
  have tne : tf b ≠ 0 ∧ tf b ≠ 5 ∧ tf b ≠ 6 := by unfold tf; split <;> simp
  have rne : tr b ≠ 0 ∧ tr b ≠ 5 ∧ tr b ≠ 6 ∧ tr b ≠ tf b := by unfold tr tf; split <;> simp
  have hK : ¬ K pb := (h4 pb (by rw [h2]; decide)).2.2
  refine ⟨fun k => ow k = tf b, hh, fun k x => ⟨(h4 k (by rw [x]; exact tne.1)).2.2, fun y => by rw [y, h2] at x; exact tne.2.1 x.symm, (h4 k (by rw [x]; exact tne.1)).2.1⟩, hK, fun W' H' left' ho hp hh' hsum hfit => ?_⟩
  have hz := ho.size
  have hqs := h.quiet.size
  have below : ∀ k, ow k ≠ 0 → k < W.heap.size := fun k x => (h4 k x).2.1
  have hpq : pb ≠ qb := fun e => by rw [e, h3] at h2; cases h2
  obtain ⟨OW, hold, hnew, hout⟩ := own_new ow W.heap.size W'.heap.size (tf b)
  refine ⟨ho.mono (fun k _ x => ?_), h.quiet.trans' ho (fun k hk x => ?_), ⟨OW, fun c => ?_, ?_, ?_, fun k x => ?_⟩, hp, h.rpool.kept ho (fun x => ?_), ?_, h.rsum, fun k x => by have := h.kl k x; omega, fun c T hT => ?_, h.rfit⟩
  · rcases x with x | x
    · exact ⟨(h4 k (by rw [x]; exact tne.1)).2.2, (h4 k (by rw [x]; exact tne.1)).1⟩
    · subst x; exact ⟨hK, (h4 k (by rw [h2]; decide)).1⟩
  · rcases x with x | x
    · have := (h4 k (by rw [x]; exact tne.1)).1; omega
    · subst x; have := (h4 k (by rw [h2]; decide)).1; omega
  · by_cases ec : c = b
    · subst ec
      refine Or.inr ⟨hb, xb, e, e1, ?_, ?_⟩
      · rw [upd_at]
        refine hh'.lim.mono (fun k x => ?_)
        obtain ⟨x, y⟩ := x
        rcases x with x | x
        · rw [hold k (below k (by rw [x]; exact tne.1))]; exact x
        · exact hnew k x y
      · refine (hx.kept ho (fun k x y => ?_)).mono (fun k x => by rw [hold k (below k (by rw [x]; exact rne.1))]; exact x)
        rcases y with y | y
        · exact rne.2.2.2 (by rw [← x, y])
        · rw [y, h2] at x; exact rne.2.1 x.symm
    · rw [upd_ne _ _ ec]
      have cne : tf c ≠ 0 ∧ tf c ≠ 5 ∧ tf c ≠ tf b ∧ tr c ≠ 0 ∧ tr c ≠ 5 ∧ tr c ≠ tf b := by
        revert ec
        cases b <;> cases c <;> decide
      rcases h1 c with hd | ⟨hb2, xb2, f1, f2, f3, f4⟩
      · exact Or.inl hd
      · refine Or.inr ⟨hb2, xb2, f1, f2, (f3.kept ho (fun k x y => ?_)).mono (fun k x => by rw [hold k (below k (by rw [x]; exact cne.1))]; exact x), (f4.kept ho (fun k x y => ?_)).mono (fun k x => by rw [hold k (below k (by rw [x]; exact cne.2.2.2.1))]; exact x)⟩
        · rcases y with y | y
          · exact cne.2.2.1 (by rw [← x, y])
          · rw [y, h2] at x; exact cne.2.1 x.symm
        · rcases y with y | y
          · exact cne.2.2.2.2.2 (by rw [← x, y])
          · rw [y, h2] at x; exact cne.2.2.2.2.1 x.symm
  · rw [hold pb h.pool.lt, h2]
  · rw [hold qb h.rpool.lt, h3]
  · by_cases y : k < W.heap.size
    · rw [hold k y] at x
      obtain ⟨p, q, r⟩ := h4 k x
      exact ⟨p, by omega, r⟩
    · by_cases z : k < W'.heap.size
      · exact ⟨by omega, z, fun u => y (h.kl k u)⟩
      · exact absurd (hout k (by omega) (by omega)) x
  · rcases x with x | x
    · rw [h3] at x; exact tne.2.2 x.symm
    · exact hpq x.symm
  · have h5 := h.sum
    cases b
    · rw [upd_at, upd_ne _ _ (by decide)]; omega
    · rw [upd_at, upd_ne _ _ (by decide)]; omega
  · by_cases ec : c = b
    · subst ec
      rw [upd_at] at hT
      exact hfit T hT
    · rw [upd_ne _ _ ec] at hT
      exact h.fit c T hT

/-- The document's heap turns. -/
theorem PlayW.onX {b : Bool} {xb : Nat} (h : PlayW w W K pb qb hs xs Hs left Xs rl) (e : xs b = some xb) :
    ∃ F, RHeapIs W xb qb F (Xs b) ∧ (∀ k, F k → ¬ K k ∧ k ≠ qb ∧ k < W.heap.size) ∧ ¬ K qb ∧ ∀ (W' : World) (H' : List (List (Option Tup))) (left' : Nat), Only (fun k => F k ∨ k = qb) W W' → RPoolAt W' qb left' → RHeapIs W' xb qb (fun k => F k ∨ W.heap.size ≤ k) H' → H'.length + left' = (Xs b).length + rl → (∀ T ∈ H', Fits T) →
      Turn w W W' K ∧ PlayW w W' K pb qb hs xs Hs left (upd Xs b H') left' := by
  obtain ⟨ow, h1, h2, h3, h4⟩ := h.ex
  rcases h1 b with ⟨_, e0, _⟩ | ⟨hb, xb', e1, e0, hx, hh⟩
  · rw [e] at e0; cases e0
  rw [e] at e0
  injection e0 with e0
  subst e0
  have tne : tr b ≠ 0 ∧ tr b ≠ 5 ∧ tr b ≠ 6 := by unfold tr; split <;> simp
  have rne : tf b ≠ 0 ∧ tf b ≠ 5 ∧ tf b ≠ 6 ∧ tf b ≠ tr b := by unfold tr tf; split <;> simp
  have hK : ¬ K qb := (h4 qb (by rw [h3]; decide)).2.2
  refine ⟨fun k => ow k = tr b, hh, fun k x => ⟨(h4 k (by rw [x]; exact tne.1)).2.2, fun y => by rw [y, h3] at x; exact tne.2.2 x.symm, (h4 k (by rw [x]; exact tne.1)).2.1⟩, hK, fun W' H' left' ho hp hh' hsum hfit => ?_⟩
  have hz := ho.size
  have hqs := h.quiet.size
  have below : ∀ k, ow k ≠ 0 → k < W.heap.size := fun k x => (h4 k x).2.1
  have hpq : pb ≠ qb := fun e => by rw [e, h3] at h2; cases h2
  obtain ⟨OW, hold, hnew, hout⟩ := own_new ow W.heap.size W'.heap.size (tr b)
  refine ⟨ho.mono (fun k _ x => ?_), h.quiet.trans' ho (fun k hk x => ?_), ⟨OW, fun c => ?_, ?_, ?_, fun k x => ?_⟩, h.pool.kept ho (fun x => ?_), hp, h.sum, ?_, fun k x => by have := h.kl k x; omega, h.fit, fun c T hT => ?_⟩
  · rcases x with x | x
    · exact ⟨(h4 k (by rw [x]; exact tne.1)).2.2, (h4 k (by rw [x]; exact tne.1)).1⟩
    · subst x; exact ⟨hK, (h4 k (by rw [h3]; decide)).1⟩
  · rcases x with x | x
    · have := (h4 k (by rw [x]; exact tne.1)).1; omega
    · subst x; have := (h4 k (by rw [h3]; decide)).1; omega
  · by_cases ec : c = b
    · subst ec
      refine Or.inr ⟨hb, xb, e1, e, ?_, ?_⟩
      · refine (hx.kept ho (fun k x y => ?_)).mono (fun k x => by rw [hold k (below k (by rw [x]; exact rne.1))]; exact x)
        rcases y with y | y
        · exact rne.2.2.2 (by rw [← x, y])
        · rw [y, h3] at x; exact rne.2.2.1 x.symm
      · rw [upd_at]
        refine hh'.lim.mono (fun k x => ?_)
        obtain ⟨x, y⟩ := x
        rcases x with x | x
        · rw [hold k (below k (by rw [x]; exact tne.1))]; exact x
        · exact hnew k x y
    · rw [upd_ne _ _ ec]
      have cne : tf c ≠ 0 ∧ tf c ≠ 6 ∧ tf c ≠ tr b ∧ tr c ≠ 0 ∧ tr c ≠ 6 ∧ tr c ≠ tr b := by
        revert ec
        cases b <;> cases c <;> decide
      rcases h1 c with hd | ⟨hb2, xb2, f1, f2, f3, f4⟩
      · exact Or.inl hd
      · refine Or.inr ⟨hb2, xb2, f1, f2, (f3.kept ho (fun k x y => ?_)).mono (fun k x => by rw [hold k (below k (by rw [x]; exact cne.1))]; exact x), (f4.kept ho (fun k x y => ?_)).mono (fun k x => by rw [hold k (below k (by rw [x]; exact cne.2.2.2.1))]; exact x)⟩
        · rcases y with y | y
          · exact cne.2.2.1 (by rw [← x, y])
          · rw [y, h3] at x; exact cne.2.1 x.symm
        · rcases y with y | y
          · exact cne.2.2.2.2.2 (by rw [← x, y])
          · rw [y, h3] at x; exact cne.2.2.2.2.1 x.symm
  · rw [hold pb h.pool.lt, h2]
  · rw [hold qb h.rpool.lt, h3]
  · by_cases y : k < W.heap.size
    · rw [hold k y] at x
      obtain ⟨p, q, r⟩ := h4 k x
      exact ⟨p, by omega, r⟩
    · by_cases z : k < W'.heap.size
      · exact ⟨by omega, z, fun u => y (h.kl k u)⟩
      · exact absurd (hout k (by omega) (by omega)) x
  · rcases x with x | x
    · rw [h2] at x; exact tne.2.1 x.symm
    · exact hpq x
  · have h5 := h.rsum
    cases b
    · rw [upd_at, upd_ne _ _ (by decide)]; omega
    · rw [upd_at, upd_ne _ _ (by decide)]; omega
  · by_cases ec : c = b
    · subst ec
      rw [upd_at] at hT
      exact hfit T hT
    · rw [upd_ne _ _ ec] at hT
      exact h.rfit c T hT

/-- Both nil, or both there. -/
theorem PlayW.sides (h : PlayW w W K pb qb hs xs Hs left Xs rl) (b : Bool) : (hs b = none ∧ xs b = none ∧ Hs b = [] ∧ Xs b = []) ∨ ∃ hb xb, hs b = some hb ∧ xs b = some xb := by
  obtain ⟨ow, h1, _⟩ := h.ex
  rcases h1 b with hd | ⟨hb, xb, e1, e2, _⟩
  · exact Or.inl hd
  · exact Or.inr ⟨hb, xb, e1, e2⟩

theorem PlayW.len (h : PlayW w W K pb qb hs xs Hs left Xs rl) (b : Bool) : (Hs b).length + left ≤ 256 ∧ (Xs b).length + rl ≤ 256 := by
  have h1 := h.sum
  have h2 := h.rsum
  cases b <;> exact ⟨by omega, by omega⟩

/-- Nothing turns. -/
theorem PlayW.still (h : PlayW w W K pb qb hs xs Hs left Xs rl) (hq : Quiet W W') (b c : Bool) : Turn w W W' K ∧ PlayW w W' K pb qb hs xs (upd Hs b (Hs b)) left (upd Xs c (Xs c)) rl := by
  rw [upd_self, upd_self]
  exact ⟨hq.mono (fun _ _ x => x.elim), h.quietly hq⟩

theorem PlayW.insH (b : Bool) (t : Tup) (A : Option Addr) (cap : Nat) (S : Nat → Prop) (h : PlayW w W K pb qb hs xs Hs left Xs rl) (hby : ∀ x ∈ t.data, x < 256) (hd : Rd W S 1 A t.data.length (bytesV t.data)) (hS : ∀ k, S k → K k) {r : (Int × Int × Int) × List (List (Option Tup)) × Nat} (hr : nIns (hs b).isSome (Hs b) left t = r) :
    Calls Try.prog 43 #[.pointer (adr (hs b)), tupV t A cap] W fun e w' => e = .returned (.tuple #[.agg #[.int .i64 r.1.1, .int .i64 r.1.2.1], .int .i64 r.1.2.2]) ∧ Turn w W w' K ∧ PlayW w w' K pb qb hs xs (upd Hs b r.2.1) r.2.2 Xs rl := by
  subst hr
  rcases h.sides b with ⟨e1, _, e3, _⟩ | ⟨hb, xb, e1, e2⟩
  · rw [e1]
    refine (heap_insert_nil t A cap W).mono ?_
    rintro e w' ⟨rfl, hq⟩
    have := h.still hq b b
    rw [upd_self Xs b] at this
    exact ⟨rfl, this⟩
  · obtain ⟨F, hh, hF, hK, key⟩ := h.onH e1
    rw [e1]
    refine (heap_insert left t A cap S hh h.pool (h.len b).1 hby hd (fun k hk => ⟨fun x => (hF k x).1 (hS k hk), fun e => hK (by rw [← e]; exact hS k hk)⟩)).mono ?_
    rintro e w' ⟨rfl, ho, hp, hh'⟩
    exact ⟨rfl, key w' _ _ ho hp hh' (hIns_sum _ _ _) (hIns_fits _ _ (h.fit b))⟩

theorem PlayW.insX (b : Bool) (t : Tup) (A : Option Addr) (cap : Nat) (S : Nat → Prop) (h : PlayW w W K pb qb hs xs Hs left Xs rl) (hby : ∀ x ∈ t.data, x < 256) (hd : Rd W S 1 A t.data.length (bytesV t.data)) (hS : ∀ k, S k → K k) {r : (Int × Int × Int) × List (List (Option Tup)) × Nat} (hr : nIns (hs b).isSome (Xs b) rl t = r) :
    Calls Try.prog 56 #[.pointer (adr (xs b)), tupV t A cap] W fun e w' => e = .returned (.tuple #[.agg #[.int .i64 r.1.1, .int .i64 r.1.2.1], .int .i64 r.1.2.2]) ∧ Turn w W w' K ∧ PlayW w w' K pb qb hs xs Hs left (upd Xs b r.2.1) r.2.2 := by
  subst hr
  rcases h.sides b with ⟨e1, e2, _, e3⟩ | ⟨hb, xb, e1, e2⟩
  · rw [e1, e2]
    refine (rins_nil t A cap W).mono ?_
    rintro e w' ⟨rfl, hq⟩
    have := h.still hq b b
    rw [upd_self Hs b] at this
    exact ⟨rfl, this⟩
  · obtain ⟨F, hh, hF, hK, key⟩ := h.onX e2
    rw [e1, e2]
    refine (rins_any rl t A cap S hh h.rpool (h.len b).2 (fun x => (hF qb x).2.1 rfl) hby hd (fun k hk => ⟨fun x => (hF k x).1 (hS k hk), fun e => hK (by rw [← e]; exact hS k hk)⟩)).mono ?_
    rintro e w' ⟨rfl, ho, hp, hh'⟩
    exact ⟨rfl, key w' _ _ ho hp hh' (hIns_sum _ _ _) (hIns_fits _ _ (h.rfit b))⟩

theorem PlayW.stampH (b : Bool) (pg sl : Int) (x : Nat) (npg nsl : Int) (h : PlayW w W K pb qb hs xs Hs left Xs rl) {r : Int × List (List (Option Tup))} (hr : nStamp (hs b).isSome (Hs b) pg sl x npg nsl = r) :
    Calls Try.prog 50 #[.pointer (adr (hs b)), .agg #[.int .i64 pg, .int .i64 sl], .int .u64 (x : Int), .agg #[.int .i64 npg, .int .i64 nsl]] W fun e w' => e = .returned (.int .i64 r.1) ∧ Turn w W w' K ∧ PlayW w w' K pb qb hs xs (upd Hs b r.2) left Xs rl := by
  subst hr
  rcases h.sides b with ⟨e1, _, e3, _⟩ | ⟨hb, xb, e1, e2⟩
  · rw [e1]
    refine (heap_stamp_nil pg sl x npg nsl W).mono ?_
    rintro e w' ⟨rfl, hq⟩
    have := h.still hq b b
    rw [upd_self Xs b] at this
    exact ⟨rfl, this⟩
  · obtain ⟨F, hh, hF, hK, key⟩ := h.onH e1
    rw [e1]
    refine (heap_stamp pg sl x npg nsl hh).mono ?_
    rintro e w' ⟨rfl, ho, hh'⟩
    exact ⟨rfl, key w' _ left (ho.mono (fun _ _ x => Or.inl x)) (h.pool.kept ho (fun x => (hF pb x).2.1 rfl)) (hh'.mono (fun _ x => Or.inl x)) (by show (hStamp _ _ _ _ _ _).2.length + left = _; rw [hStamp_length]) (hStamp_fits _ _ _ _ _ (h.fit b))⟩

theorem PlayW.stampX (b : Bool) (pg sl : Int) (x : Nat) (npg nsl : Int) (h : PlayW w W K pb qb hs xs Hs left Xs rl) {r : Int × List (List (Option Tup))} (hr : nStamp (hs b).isSome (Xs b) pg sl x npg nsl = r) :
    Calls Try.prog 53 #[.pointer (adr (xs b)), .agg #[.int .i64 pg, .int .i64 sl], .int .u64 (x : Int), .agg #[.int .i64 npg, .int .i64 nsl]] W fun e w' => e = .returned (.int .i64 r.1) ∧ Turn w W w' K ∧ PlayW w w' K pb qb hs xs Hs left (upd Xs b r.2) rl := by
  subst hr
  rcases h.sides b with ⟨e1, e2, _, e3⟩ | ⟨hb, xb, e1, e2⟩
  · rw [e1, e2]
    refine (rstamp_nil pg sl x npg nsl W).mono ?_
    rintro e w' ⟨rfl, hq⟩
    have := h.still hq b b
    rw [upd_self Hs b] at this
    exact ⟨rfl, this⟩
  · obtain ⟨F, hh, hF, hK, key⟩ := h.onX e2
    rw [e1, e2]
    refine (rstamp_any pg sl x npg nsl hh).mono ?_
    rintro e w' ⟨rfl, ho, hh'⟩
    exact ⟨rfl, key w' _ rl (ho.mono (fun _ _ x => Or.inl x)) (h.rpool.kept ho (fun x => (hF qb x).2.1 rfl)) hh' (by show (hStamp _ _ _ _ _ _).2.length + rl = _; rw [hStamp_length]) (hStamp_fits _ _ _ _ _ (h.rfit b))⟩

theorem PlayW.freeH (b : Bool) (pg sl : Int) (h : PlayW w W K pb qb hs xs Hs left Xs rl) {r : Int × List (List (Option Tup))} (hr : nFree (hs b).isSome (Hs b) pg sl = r) :
    Calls Try.prog 47 #[.pointer (adr (hs b)), .agg #[.int .i64 pg, .int .i64 sl]] W fun e w' => e = .returned (.int .i64 r.1) ∧ Turn w W w' K ∧ PlayW w w' K pb qb hs xs (upd Hs b r.2) left Xs rl := by
  subst hr
  rcases h.sides b with ⟨e1, _, e3, _⟩ | ⟨hb, xb, e1, e2⟩
  · rw [e1]
    refine (heap_free_nil pg sl W).mono ?_
    rintro e w' ⟨rfl, hq⟩
    have := h.still hq b b
    rw [upd_self Xs b] at this
    exact ⟨rfl, this⟩
  · obtain ⟨F, hh, hF, hK, key⟩ := h.onH e1
    rw [e1]
    refine (heap_free pg sl hh).mono ?_
    rintro e w' ⟨rfl, ho, hh'⟩
    exact ⟨rfl, key w' _ left (ho.mono (fun _ _ x => Or.inl x)) (h.pool.kept ho (fun x => (hF pb x).2.1 rfl)) (hh'.mono (fun _ x => Or.inl x)) (by show (hFree _ _ _).2.length + left = _; rw [hFree_length]) (hFree_fits _ _ (h.fit b))⟩

theorem PlayW.freeX (b : Bool) (pg sl : Int) (h : PlayW w W K pb qb hs xs Hs left Xs rl) {r : Int × List (List (Option Tup))} (hr : nFree (hs b).isSome (Xs b) pg sl = r) :
    Calls Try.prog 54 #[.pointer (adr (xs b)), .agg #[.int .i64 pg, .int .i64 sl]] W fun e w' => e = .returned (.int .i64 r.1) ∧ Turn w W w' K ∧ PlayW w w' K pb qb hs xs Hs left (upd Xs b r.2) rl := by
  subst hr
  rcases h.sides b with ⟨e1, e2, _, e3⟩ | ⟨hb, xb, e1, e2⟩
  · rw [e1, e2]
    refine (rfree_nil pg sl W).mono ?_
    rintro e w' ⟨rfl, hq⟩
    have := h.still hq b b
    rw [upd_self Hs b] at this
    exact ⟨rfl, this⟩
  · obtain ⟨F, hh, hF, hK, key⟩ := h.onX e2
    rw [e1, e2]
    refine (rfree_any pg sl hh).mono ?_
    rintro e w' ⟨rfl, ho, hh'⟩
    exact ⟨rfl, key w' _ rl (ho.mono (fun _ _ x => Or.inl x)) (h.rpool.kept ho (fun x => (hF qb x).2.1 rfl)) hh' (by show (hFree _ _ _).2.length + rl = _; rw [hFree_length]) (hFree_fits _ _ (h.rfit b))⟩

theorem PlayW.dropH (b : Bool) (h : PlayW w W K pb qb hs xs Hs left Xs rl) {r : Int × List (List (Option Tup)) × Nat} (hr : nDrop (hs b).isSome (Hs b) left = r) :
    Calls Try.prog 42 #[.pointer (adr (hs b))] W fun e w' => e = .returned (.int .i64 r.1) ∧ Turn w W w' K ∧ PlayW w w' K pb qb hs xs (upd Hs b r.2.1) r.2.2 Xs rl := by
  subst hr
  rcases h.sides b with ⟨e1, _, e3, _⟩ | ⟨hb, xb, e1, e2⟩
  · rw [e1]
    refine (heap_drop_nil W).mono ?_
    rintro e w' ⟨rfl, rfl⟩
    have := h.still (Only.refl (fun _ => False) W) b b
    rw [upd_self Xs b] at this
    exact ⟨rfl, this⟩
  · obtain ⟨F, hh, hF, hK, key⟩ := h.onH e1
    rw [e1]
    refine (heap_drop left hh h.pool (by have := (h.len b).1; omega)).mono ?_
    rintro e w' ⟨rfl, ho, hp, hh'⟩
    exact ⟨rfl, key w' _ _ ho hp hh' (by show 0 + (left + (Hs b).length) = _; omega) (fun T hT => by cases hT)⟩

theorem PlayW.dropX (b : Bool) (h : PlayW w W K pb qb hs xs Hs left Xs rl) {r : Int × List (List (Option Tup)) × Nat} (hr : nDrop (hs b).isSome (Xs b) rl = r) :
    Calls Try.prog 55 #[.pointer (adr (xs b))] W fun e w' => e = .returned (.int .i64 r.1) ∧ Turn w W w' K ∧ PlayW w w' K pb qb hs xs Hs left (upd Xs b r.2.1) r.2.2 := by
  subst hr
  rcases h.sides b with ⟨e1, e2, _, e3⟩ | ⟨hb, xb, e1, e2⟩
  · rw [e1, e2]
    refine (rdrop_nil W).mono ?_
    rintro e w' ⟨rfl, hq⟩
    have := h.still hq b b
    rw [upd_self Hs b] at this
    exact ⟨rfl, this⟩
  · obtain ⟨F, hh, hF, hK, key⟩ := h.onX e2
    rw [e1, e2]
    refine (rdrop_any rl hh h.rpool (by have := (h.len b).2; omega) (by have := (h.len b).2; omega)).mono ?_
    rintro e w' ⟨rfl, ho, hp, hh'⟩
    exact ⟨rfl, key w' _ _ ho hp hh' (by show 0 + (rl + (Xs b).length) = _; omega) (fun T hT => by cases hT)⟩

theorem PlayW.chainHeap (b : Bool) (p : Int × Int) (hp : Wf p) (h : PlayW w W K pb qb hs xs Hs left Xs rl) :
    Calls Try.prog 52 #[.pointer (adr (hs b)), .agg #[.int .i64 p.1, .int .i64 p.2]] W (ChainPost W (if (hs b).isSome then chainH (Hs b) p else [])) := by
  rcases h.sides b with ⟨e1, _, e3, _⟩ | ⟨hb, xb, e1, e2⟩
  · rw [e1]
    exact heap_chain_nil p hp W
  · obtain ⟨F, hh, _⟩ := h.onH e1
    rw [e1]
    exact heap_chain p hp hh (h.fit b) (used_most (h.fit b) (by have := (h.len b).1; omega))

theorem PlayW.chainX (b : Bool) (p : Int × Int) (h : PlayW w W K pb qb hs xs Hs left Xs rl) :
    Calls Try.prog 58 #[.pointer (adr (xs b)), .agg #[.int .i64 p.1, .int .i64 p.2]] W (ChainPost W (if (hs b).isSome then chainH (Xs b) p else [])) := by
  rcases h.sides b with ⟨e1, e2, _, e3⟩ | ⟨hb, xb, e1, e2⟩
  · rw [e1, e2]
    exact rchain_nil p W
  · obtain ⟨F, hh, _⟩ := h.onX e2
    rw [e1, e2]
    exact rchain_any p hh (by have := (h.len b).2; omega) (h.rfit b) (used_most (h.rfit b) (by have := (h.len b).2; omega))

theorem PlayW.alike (b : Bool) (h : PlayW w W K pb qb hs xs Hs left Hs rl) :
    Calls Try.prog 57 #[.pointer (adr (hs b)), .pointer (adr (xs b))] W fun e w' => e = .returned (.bool true) ∧ Quiet W w' := by
  rcases h.sides b with ⟨e1, e2, _, e3⟩ | ⟨hb, xb, e1, e2⟩
  · rw [e1, e2]
    exact alike_nil W
  · obtain ⟨F, hh, _⟩ := h.onH e1
    obtain ⟨G, hx, _⟩ := h.onX e2
    rw [e1, e2]
    exact alike_two hh hx

theorem PlayW.poolLeft (h : PlayW w W K pb qb hs xs Hs left Xs rl) :
    Calls Try.prog 45 #[.pointer (some ⟨pb, 0, none⟩)] W fun e w' => e = .returned (.int .i64 (left : Int)) ∧ W = w' := pool_left pb left W h.pool

end
end Go.Proofs.Ytbibmgcklilpmaa
