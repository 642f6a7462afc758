/- The contracts on slices of bytes: bytes.Clone, and the references' Copy, Cut, Same. No condition. -/
import Derived.Test.YtbibmgcklilpmaaPageLaw
import Derived.Laws.IdiomStrings
import Derived.Lib.BufferRead
import Derived.Lib.Strings
namespace Go.Lap
open Go.RowKit

def strOf (l : List Nat) : ByteArray := ⟨(l.map UInt8.ofNat).toArray⟩

theorem strOf_inj {l l' : List Nat} (h : ∀ x ∈ l, x < 256) (h' : ∀ x ∈ l', x < 256) (e : strOf l = strOf l') : l = l' := by
  unfold strOf at e
  injection e with e
  have e2 : l.map UInt8.ofNat = l'.map UInt8.ofNat := by
    have := congrArg Array.toList e
    simpa using this
  have back : ∀ m : List Nat, (∀ x ∈ m, x < 256) → (m.map UInt8.ofNat).map UInt8.toNat = m := by
    intro m hm
    rw [List.map_map]
    conv => rhs; rw [← List.map_id m]
    apply List.map_congr_left
    intro x hx
    have := hm x hx
    simp [Nat.mod_eq_of_lt this]
  rw [← back l h, ← back l' h', e2]

theorem strOf_eq {l l' : List Nat} (h : ∀ x ∈ l, x < 256) (h' : ∀ x ∈ l', x < 256) : ((strOf l).toList == (strOf l').toList) = decide (l = l') := by
  by_cases e : l = l'
  · subst e; simp
  · rw [decide_eq_false e]
    refine beq_eq_false_iff_ne.2 (fun x => e (strOf_inj h h' ?_))
    rw [Lib.toList_data, Lib.toList_data] at x
    unfold strOf at x ⊢
    simp at x
    simp [x]

theorem Rd.take {w : World} {S : Nat → Prop} {A : Option Addr} {n m : Nat} {xs : List Value} (h : Rd w S 1 A n xs) (hm : m ≤ n) : Rd w S 1 A m (xs.take m) := by
  have hl := h.len
  refine ⟨by simp; omega, fun h0 => ?_⟩
  obtain ⟨b, off, e, hb, hc⟩ := h.cells (by simp at h0; omega)
  exact ⟨b, off, e, hb, fun j u hu => hc j u (by rw [List.getElem?_take] at hu; split at hu <;> first | exact hu | cases hu)⟩

end Go.Lap
namespace Go.Proofs.Ytbibmgcklilpmaa
open Go.RowKit Go.Lap

/-- New bytes. -/
structure Fresh (w w' : World) (v : Value) (l : List Nat) : Prop where
  quiet : Quiet w w'
  new : ∀ k, v.ownBlock = some k → w.heap.size ≤ k
  own : w'.ownsRow 0 5 1 v l.length (bytesV l)

def FreshPost (w : World) (l : List Nat) (e : Ending) (w' : World) : Prop := ∃ v, e = .returned v ∧ Fresh w w' v l

theorem bytes_len (l : List Nat) : (bytesV l).length = l.length := by simp [bytesV]

theorem bytes_take (l : List Nat) (m : Nat) : bytesV (l.take m) = (bytesV l).take m := by simp [bytesV]

theorem fresh_app {w w1 : World} {l : List Nat} {v : Value} (hg : Grew (w.alloc (.cells #[] 5)) w1 5 1 (.slice (some ⟨w.heap.size, 0, none⟩) 0 0) v l.length (bytesV l)) : Fresh w w1 v l := by
  refine ⟨((Only.refl _ _).alloc _).trans' hg.only (fun k hk e => by simp [Value.ownBlock] at e; omega), fun k e => ?_, hg.own⟩
  rcases hg.loc with x | x <;> rw [x] at e
  · simp [Value.ownBlock] at e; omega
  · injection e with e; simp at e; omega

set_option maxHeartbeats 400000 in
set_option maxRecDepth 100000 in
theorem clone_any (A : Option Addr) (cap : Nat) (l : List Nat) (S : Nat → Prop) (w : World) (hr : Rd w S 1 A l.length (bytesV l)) (hl : l.length ≤ 100000) :
    Calls Try.prog 97 #[.slice A l.length cap] w (FreshPost w l) := by
  have heq := fun (w : World) (a : Option Addr) (n c : Nat) => Lib.run_eql_slice_nil (P := Try.prog) w 48 _ a n c 0 0 Try.underlying48
  rcases A with _ | ad
  · have hl0 : l = [] := by
      rcases l with _ | ⟨x, l⟩
      · rfl
      · obtain ⟨b, off, e, _⟩ := hr.cells (by simp [bytesV]); cases e
    have HF : Hid (FreshPost w l (.returned (.slice none 0 0)) w) := by
      subst hl0
      exact ⟨_, rfl, Only.refl _ _, by simp [Value.ownBlock], World.ownsRow_nil _ _ _ _⟩
    clear hl0 hr
    go_enter Try.func97, Try.ntmps97
    go_wp2
    go_ret
    exact HF.out
  · have HR := Lib.hid hr
    clear hr
    go_enter Try.func97, Try.ntmps97
    go_wp2_with (at_builtin; refine app elem_u8 rfl (.tmp 5) (.tmp 6) rfl rfl (owns_empty w _ _) rfl (HR.out.kept ((Only.refl (fun _ => False) w).alloc _) (fun _ _ x => x)) (one_bytes l) (by unfold maxLen; omega) (by omega) ?_)
    intro v w1 hg
    have HF := Lib.hid (fresh_app hg)
    clear hg
    go_wp2
    go_ret
    exact ⟨v, rfl, HF.out⟩

set_option maxHeartbeats 400000 in
set_option maxRecDepth 100000 in
theorem copy_any (A : Option Addr) (cap : Nat) (l : List Nat) (S : Nat → Prop) (w : World) (hr : Rd w S 1 A l.length (bytesV l)) (hl : l.length ≤ 100000) :
    Calls Try.prog 60 #[.slice A l.length cap] w (FreshPost w l) := by
  have HR := Lib.hid hr
  clear hr
  go_enter Try.func60, Try.ntmps60
  go_wp2_with (at_builtin; refine app elem_u8 rfl (.tmp 3) (.tmp 4) rfl rfl (owns_empty w _ _) rfl (HR.out.kept ((Only.refl (fun _ => False) w).alloc _) (fun _ _ x => x)) (one_bytes l) (by unfold maxLen; omega) (by omega) ?_)
  intro v w1 hg
  have HF := Lib.hid (fresh_app hg)
  clear hg
  go_wp2
  go_ret
  exact ⟨v, rfl, HF.out⟩

set_option maxHeartbeats 400000 in
set_option maxRecDepth 100000 in
theorem cut_any (A : Option Addr) (n cap m : Nat) (l : List Nat) (S : Nat → Prop) (w : World) (hr : Rd w S 1 A n (bytesV l)) (hn : n = l.length) (hc : n ≤ cap) (hcap : cap ≤ maxLen) (hm : m ≤ 100000) :
    Calls Try.prog 59 #[.slice A n cap, .int .i64 m] w (FreshPost w (l.take m)) := by
  unfold maxLen at hcap
  obtain ⟨k, hk⟩ : ∃ k : Nat, k = min n m := ⟨_, rfl⟩
  have HR : Hid (Rd w S 1 A k (bytesV (l.take m))) := by
    have := hr.take (m := k) (by omega)
    rw [bytes_take]
    have e : (bytesV l).take k = (bytesV l).take m := by
      rw [List.take_eq_take_iff, bytes_len]; omega
    rw [e] at this
    exact this
  have e1 : (min (n : Int) m).toNat = k := by omega
  have HL : Hid ((l.take m).length = k) := by rw [List.length_take]; show min m l.length = k; omega
  have hk2 : k ≤ m := by omega
  clear hr hk hn
  go_enter Try.func59, Try.ntmps59
  go_wp2_with (at_builtin; refine app elem_u8 rfl (.tmp 5) (.tmp 11) rfl rfl (owns_empty w _ _) rfl (HR.out.kept ((Only.refl (fun _ => False) w).alloc _) (fun _ _ x => x)) (one_bytes _) (by unfold maxLen; omega) (by omega) ?_)
  intro v w1 hg
  rw [← HL.out] at hg
  have HF := Lib.hid (fresh_app hg)
  clear hg
  go_wp2
  go_ret
  exact ⟨v, rfl, HF.out⟩

theorem conv_str (A : Option Addr) (cap : Nat) (l : List Nat) (S : Nat → Prop) (w : World) (hr : Rd w S 1 A l.length (bytesV l)) (hb : ∀ x ∈ l, x < 256) :
    (convert 48 9 (.slice A l.length cap)).run Try.prog w = .ok (.string (strOf l)) w := by
  have hlen : (l.map UInt8.ofNat).length = l.length := by simp
  by_cases h0 : 0 < l.length
  · obtain ⟨b, off, rfl, _, hc⟩ := hr.cells (by rw [bytes_len]; exact h0)
    have := run_convert_bytes_back (P := Try.prog) w 48 9 5 ⟨b, off, none⟩ cap (l.map UInt8.ofNat) Try.underlying48 Try.underlying5 Try.underlying9 (fun j hj => by
      rw [add_none]
      have hj' : j < l.length := by simpa using hj
      refine hc j _ ?_
      unfold bytesV
      rw [List.getElem?_map, List.getElem?_eq_getElem hj']
      have := hb l[j] (List.getElem_mem hj')
      simp [Nat.mod_eq_of_lt this])
    rw [hlen] at this
    exact this
  · have hl0 : l = [] := List.eq_nil_of_length_eq_zero (by omega)
    subst hl0
    rcases A with _ | ad
    · exact Lib.run_convert_nil_bytes (P := Try.prog) w 48 9 5 cap Try.underlying48 Try.underlying5 Try.underlying9
    · exact run_convert_bytes_back (P := Try.prog) w 48 9 5 ad cap [] Try.underlying48 Try.underlying5 Try.underlying9 (fun j hj => absurd hj (by simp))

set_option maxHeartbeats 400000 in
set_option maxRecDepth 100000 in
theorem same_any (A A' : Option Addr) (cap cap' : Nat) (l l' : List Nat) (S S' : Nat → Prop) (w : World) (hr : Rd w S 1 A l.length (bytesV l)) (hr' : Rd w S' 1 A' l'.length (bytesV l')) (hb : ∀ x ∈ l, x < 256) (hb' : ∀ x ∈ l', x < 256) :
    Calls Try.prog 63 #[.slice A l.length cap, .slice A' l'.length cap'] w fun e w' => e = .returned (.bool (decide (l = l'))) ∧ w = w' := by
  have h1 := conv_str A cap l S w hr hb
  have h2 := conv_str A' cap' l' S' w hr' hb'
  have h3 := Lib.hid (strOf_eq hb hb')
  clear hr hr' hb hb'
  generalize strOf l = s1 at h1 h3
  generalize strOf l' = s2 at h2 h3
  go_enter Try.func63, Try.ntmps63
  go_wp2
  go_ret
  rw [← h3.out]
  exact ⟨rfl, rfl⟩

end Go.Proofs.Ytbibmgcklilpmaa
