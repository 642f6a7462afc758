/- The contracts of the document's answer for layer 6: Set, Find, Get. No condition. -/
import Derived.Test.YtbibmgcklilpmaaRoomLaw
import Derived.OwnWalk
namespace Go.Proofs.Ytbibmgcklilpmaa
open Go.RowKit Go.Lap

theorem elem_int : Elem Try.prog 33 3 1 8 := Elem.mk' (.int .i64 0) Try.underlying33 (by kernel_rfl) rfl (by decide)

/-- Rooms, page by page, in block b; the row lies in a block of S. -/
structure RefAt (w : World) (b : Nat) (S : Nat → Prop) (l : List Int) : Prop where
  ex : ∃ v, w.heap[b]? = some (.cells #[v] 35 (0, 0)) ∧ w.ownsRow 0 3 1 v l.length (l.map (Value.int .i64)) ∧ (∀ k, v.ownBlock = some k → S k ∧ k ≠ b)

theorem RefAt.kept {S T : Nat → Prop} {w w' : World} {b : Nat} {l : List Int} (h : RefAt w b S l) (ho : Only T w w') (hb : ¬ T b) (hs : ∀ k, S k → ¬ T k) : RefAt w' b S l := by
  obtain ⟨v, h1, h2, h3⟩ := h
  exact ⟨v, ho.get h1 hb, owns_kept h2 ho (fun k e => hs k (h3 k e).1), h3⟩

theorem ref_set_nil (w : World) (p r : Int) :
    Calls Try.prog 23 #[.pointer none, .int .i64 p, .int .i64 r] w fun e w' => e = .returned (.int .i64 15) ∧ w = w' := by
  go_enter Try.func23, Try.ntmps23
  go_wp2
  go_ret
  exact ⟨rfl, rfl⟩

theorem ref_set_arg (b : Nat) (w : World) (p r : Int) (hp : p < 0 ∨ 255 < p) :
    Calls Try.prog 23 #[.pointer (some ⟨b, 0, none⟩), .int .i64 p, .int .i64 r] w fun e w' => e = .returned (.int .i64 1) ∧ w = w' := by
  rcases hp with hi | hi
  · go_enter Try.func23, Try.ntmps23
    go_wp2
    go_ret
    exact ⟨rfl, rfl⟩
  · have h0 : ¬ p < 0 := by omega
    go_enter Try.func23, Try.ntmps23
    go_wp2
    go_ret
    exact ⟨rfl, rfl⟩

set_option maxHeartbeats 400000 in
set_option maxRecDepth 100000 in
theorem ref_set_form (b : Nat) (S : Nat → Prop) (l : List Int) (w : World) (p : Nat) (r : Int) (hr : RefAt w b S l) (hp : l.length < p) (hp' : p < 256) :
    Calls Try.prog 23 #[.pointer (some ⟨b, 0, none⟩), .int .i64 p, .int .i64 r] w fun e w' => e = .returned (.int .i64 3) ∧ w = w' := by
  obtain ⟨v, h1, h2, h3⟩ := hr
  have hc : w.cell? ⟨b, 0, none⟩ = some v := by rw [cell_of h1]; rfl
  have hm : l.length ≤ maxLen := by unfold maxLen; omega
  rcases owns_cases h2 with ⟨rfl, hn⟩ | ⟨g, cap, rfl, hle, hcap⟩
  · clear h1 h2 h3
    have : 0 < p := by omega
    clear hn
    go_enter Try.func23, Try.ntmps23
    go_wp2
    go_ret
    exact ⟨rfl, rfl⟩
  · clear h1 h2 h3
    go_enter Try.func23, Try.ntmps23
    go_wp2
    go_ret
    exact ⟨rfl, rfl⟩

set_option maxHeartbeats 400000 in
set_option maxRecDepth 100000 in
/-- A page that there is. -/
theorem ref_set_old (b : Nat) (S : Nat → Prop) (l : List Int) (w : World) (p : Nat) (r c : Int) (hr : RefAt w b S l) (hp : p < l.length) (hp' : p < 256) (hc : c = min (max r (-1)) 512) :
    Calls Try.prog 23 #[.pointer (some ⟨b, 0, none⟩), .int .i64 p, .int .i64 r] w fun e w' => e = .returned (.int .i64 0) ∧ Only (fun k => k = b ∨ S k) w w' ∧ RefAt w' b S (l.set p c) := by
  obtain ⟨v, h1, h2, h3⟩ := hr
  have hce : w.cell? ⟨b, 0, none⟩ = some v := by rw [cell_of h1]; rfl
  rcases owns_cases h2 with ⟨rfl, hn⟩ | ⟨g, cap, rfl, hle, hcap⟩
  · omega
  · unfold maxLen at hcap
    have hf := h2.frozenAt p
    have ho := h2.cellAt p (by omega)
    have hx : (l.map (Value.int .i64))[p]? = some (.int .i64 (l[p]'hp)) := by simp [hp]
    rw [hx] at ho
    have hgb := (h3 g rfl).2
    have hSg := (h3 g rfl).1
    have HF : Hid (Only (fun k => k = b ∨ S k) w (w.setCell ⟨g, p, none⟩ (.int .i64 c)) ∧ RefAt (w.setCell ⟨g, p, none⟩ (.int .i64 c)) b S (l.set p c)) := by
      refine ⟨(Only.refl _ _).setCell (fun _ => Or.inr hSg) _, _, set_other h1 _ _ (fun e => hgb e.symm), ?_, h3⟩
      have := (h2.stored p (.int .i64 c)).1
      rw [List.length_set, List.map_set]
      exact this
    clear h1 h2 h3 hx hgb hSg
    have hne : ((p : Int) == l.length) = false := by simp; omega
    rcases Int.lt_or_le r (-1) with x | x
    · obtain rfl : c = -1 := by omega
      clear hc
      go_enter Try.func23, Try.ntmps23
      go_wp2
      go_ret
      exact ⟨rfl, HF.out⟩
    · rcases Int.lt_or_le 512 r with y | y
      · obtain rfl : c = 512 := by omega
        clear hc
        go_enter Try.func23, Try.ntmps23
        go_wp2
        go_ret
        exact ⟨rfl, HF.out⟩
      · obtain rfl : c = r := by omega
        clear hc
        go_enter Try.func23, Try.ntmps23
        go_wp2
        go_ret
        exact ⟨rfl, HF.out⟩

/-- What Set leaves: the row lies in a new block. -/
theorem RefAt.next {w w1 w2 : World} {b : Nat} {v1 : Value} {l : List Int} {c : Int} (hb : w.heap[b]? = some (.cells #[v1] 35 (0, 0))) (o1 o2 : Obj)
    {v : Value} {u u' : Value} (hv : v.ownBlock = some w.heap.size)
    {n1 : Nat} {xs1 : List Value} (g1 : Grew (w.alloc o1) w1 3 1 v u n1 xs1) (g2 : Grew (w1.alloc o2) w2 3 1 u u' (l.length + 1) (l.map (Value.int .i64) ++ [.int .i64 c])) :
    Only (fun k => k = b) w (w2.setCell ⟨b, 0, none⟩ u') ∧ RefAt (w2.setCell ⟨b, 0, none⟩ u') b (fun k => w.heap.size ≤ k) (l ++ [c]) := by
  have hbs := lt_of_get hb
  have hu : ∀ k, u.ownBlock = some k → w.heap.size ≤ k := by
    intro k e
    rcases g1.loc with x | x <;> rw [x] at e
    · rw [hv] at e; injection e with e; omega
    · injection e with e; simp at e; omega
  have hs1 : w.heap.size < w1.heap.size := by have := g1.only.size; simp at this; omega
  have hu' : ∀ k, u'.ownBlock = some k → w.heap.size ≤ k := by
    intro k e
    rcases g2.loc with x | x <;> rw [x] at e
    · exact hu k e
    · injection e with e; simp at e; omega
  have o1 : Only (fun k => k = b) w w1 := ((Only.refl _ w).alloc o1).trans' g1.only (fun k hk e => by rw [hv] at e; injection e with e; omega)
  have o2 : Only (fun k => k = b) w w2 := (o1.alloc o2).trans' g2.only (fun k hk e => by have := hu k e; omega)
  have hb2 : w2.heap[b]? = some (.cells #[v1] 35 (0, 0)) := by
    have e1 : w1.heap[b]? = some (.cells #[v1] 35 (0, 0)) := g1.only.get (alloc_old hb _) (fun e => by rw [hv] at e; injection e with e; omega)
    exact g2.only.get (alloc_old e1 _) (fun e => by have := hu b e; omega)
  refine ⟨o2.setCell (fun _ => rfl) _, u', ?_, ?_, fun k e => ⟨hu' k e, fun x => by have := hu' k e; omega⟩⟩
  · rw [set_same hb2]; rfl
  · have := g2.own
    rw [List.length_append, List.map_append, List.length_singleton]
    exact owns_kept this ((Only.refl (fun k => k = b) w2).setCell (fun _ => rfl) _) (fun k e x => by have := hu' k e; omega)

theorem cell_through {w w1 w2 : World} {b : Nat} {x : Obj} {v u u' : Value} {e : TypeId} {n m size : Nat} {xs ys : List Value} (hb : w.heap[b]? = some x) (o1 o2 : Obj) (hv : v.ownBlock = some w.heap.size)
    (g1 : Grew (w.alloc o1) w1 e size v u n xs) (g2 : Grew (w1.alloc o2) w2 e size u u' m ys) : w2.heap[b]? = some x := by
  have hbs := lt_of_get hb
  have e1 : w1.heap[b]? = some x := g1.only.get (alloc_old hb _) (fun e => by rw [hv] at e; injection e with e; omega)
  refine g2.only.get (alloc_old e1 _) (fun e => ?_)
  rcases g1.loc with x | x <;> rw [x] at e
  · rw [hv] at e; injection e with e; omega
  · injection e with e; simp at e; omega

set_option maxHeartbeats 400000 in
set_option maxRecDepth 100000 in
/-- A page that comes behind all. -/
theorem ref_set_next (b : Nat) (S : Nat → Prop) (l : List Int) (w : World) (p : Nat) (r c : Int) (hr : RefAt w b S l) (hp : p = l.length) (hp' : p < 256) (hc : c = min (max r (-1)) 512) :
    Calls Try.prog 23 #[.pointer (some ⟨b, 0, none⟩), .int .i64 p, .int .i64 r] w fun e w' => e = .returned (.int .i64 0) ∧ Only (fun k => k = b) w w' ∧ RefAt w' b (fun k => w.heap.size ≤ k) (l ++ [c]) := by
  obtain ⟨v, h1, h2, h3⟩ := hr
  have hcase : r < -1 ∧ c = -1 ∨ 512 < r ∧ c = 512 ∨ (¬ r < -1 ∧ ¬ 512 < r ∧ c = r) := by omega
  subst hp
  clear hc
  obtain ⟨A, cap, rfl, hle, hcap, hrd⟩ := own_form h2
  have hce : w.cell? ⟨b, 0, none⟩ = some (.slice A l.length cap) := by rw [cell_of h1]; rfl
  have hbs := lt_of_get h1
  have H1 := Lib.hid h1
  have HR := Lib.hid hrd
  clear h1 h2 h3 hrd
  unfold maxLen at hcap
  rcases hcase with ⟨x, rfl⟩ | ⟨x, rfl⟩ | ⟨x, y, rfl⟩
  all_goals
    go_enter Try.func23, Try.ntmps23
    go_wp2_with (at_builtin; refine app elem_int rfl (.tmp 34) (.tmp 38) rfl rfl (owns_empty w _ _) rfl (HR.out.kept ((Only.refl (fun _ => False) w).alloc _) (fun _ _ x => x)) one_int (by unfold maxLen; omega) (by omega) ?_)
    intro u1 w1 g1
    have G1 := Lib.hid g1
    clear g1
    go_wp2_with (at_builtin; refine app elem_int rfl (.tmp 39) (.tmp 41) rfl rfl (G1.out.own.alloc _) rfl (Rd.new w1 1 1 [.int .i64 _] _ (fun _ => True) rfl trivial) (by simp [Value.oneCell']) (by unfold maxLen; omega) (by omega) ?_)
    intro u2 w2 g2
    have hcb := cell_through H1.out _ _ rfl G1.out g2
    have hcb1 : w2.cell? ⟨b, 0, none⟩ = some (.slice A l.length cap) := by rw [cell_of hcb]; rfl
    have hfb := frozen_of hcb 0
    have HN := Lib.hid (RefAt.next H1.out _ _ rfl G1.out g2)
    obtain ⟨A2, c2, hu2, _⟩ := own_form g2.own
    clear g2 hcb
    subst hu2
    go_wp2
    go_ret
    exact ⟨rfl, HN.out⟩

end Go.Proofs.Ytbibmgcklilpmaa
