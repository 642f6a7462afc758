/- (out of TBytes) The contracts on slices of bytes: bytes.Clone, and the references' Copy, Cut, Same. No condition. -/
import Derived.Test.YtpopoaopohngbaaGreatDoorBase
import Derived.BigRegion
import Derived.BigQuiet
import Derived.Deep.QuietTactic
import Derived.Deep.LoopGhost
import Derived.Deep.RegionHeld3
import Derived.Deep.RegionWith
import Derived.Deep.DeepCutAuto
import Derived.Outline
import Derived.Laws.CopyRow
import Derived.Lib.SliceRun
import Derived.Laws.Externs
import Derived.Laws.IdiomStrings
import Derived.Lib.BufferRead
import Derived.Lib.Strings
set_option linter.unusedVariables false
set_option linter.unusedSimpArgs false
namespace Go.Lap
open Go.RowKit

/-- Nothing old has turned. -/
abbrev Quiet (w w' : World) : Prop := Only (fun _ => False) w w'

def bytesV (l : List Nat) : List Value := l.map (fun x : Nat => Value.int .u8 x)

theorem one_bytes (l : List Nat) : ∀ u ∈ bytesV l, u.oneCell' = true := by
  intro u hu
  obtain ⟨n, _, rfl⟩ := List.mem_map.1 hu
  rfl

theorem ne_type {w : World} {a b : Nat} {c1 c2 : Array Value} {t1 t2 : TypeId} {f1 f2 : Nat × Nat} (h1 : w.heap[a]? = some (.cells c1 t1 f1)) (h2 : w.heap[b]? = some (.cells c2 t2 f2)) (h : t1 ≠ t2) : a ≠ b := by
  intro e
  subst e
  rw [h1] at h2
  injection h2 with h2
  injection h2 with _ h3 _
  exact h h3

theorem snoc_get {α : Type} {M : List α} {s : α} {k : Nat} {x : α} (h : (M ++ [s])[k]? = some x) : (k < M.length ∧ M[k]? = some x) ∨ (k = M.length ∧ x = s) := by
  rw [List.getElem?_append] at h
  split at h
  · exact Or.inl ⟨by assumption, h⟩
  · rcases hk : k - M.length with _ | n
    · rw [hk] at h
      simp at h
      exact Or.inr ⟨by omega, h.symm⟩
    · rw [hk] at h
      simp at h

theorem own_blk {w : World} {e : TypeId} {size : Nat} {v : Value} {n : Nat} {xs : List Value} (h : w.ownsRow 0 e size v n xs) {k : Nat} (hk : v.ownBlock = some k) : ∃ c, w.heap[k]? = some (.cells c e (0, 0)) := by
  rcases h.2 with ⟨rfl, _⟩ | ⟨g, cap, cur, rfl, _, hh, _⟩
  · cases hk
  · obtain rfl : g = k := by injection hk
    exact ⟨_, hh⟩

abbrev ptrV (p : Nat) : Value := .pointer (some ⟨p, 0, none⟩)

theorem one_ptr (ps : List Nat) : ∀ u ∈ ps.map ptrV, u.oneCell' = true := by
  intro u hu
  obtain ⟨n, _, rfl⟩ := List.mem_map.1 hu
  rfl

theorem drewN_two (w : World) (k n : Nat) : (w.drewN k).drewN n = w.drewN (k + n) := by simp [World.drewN, Nat.add_assoc]

theorem wrapI {x : Int} (h : -9223372036854775808 ≤ x ∧ x < 9223372036854775808) : IntKind.i64.wrap x = x := by
  rw [IntKind.wrap_i64]
  omega

def strOf (l : List Nat) : ByteArray := ⟨(l.map UInt8.ofNat).toArray⟩

theorem strOf_inj {l l' : List Nat} (h : ∀ x ∈ l, x < 256) (h' : ∀ x ∈ l', x < 256) (e : strOf l = strOf l') : l = l' := by
  unfold strOf at e
  injection e with e
  have e2 : l.map UInt8.ofNat = l'.map UInt8.ofNat := by
    have := congrArg Array.toList e
    simpa using this
  have back : ∀ m : List Nat, (∀ x ∈ m, x < 256) → (m.map UInt8.ofNat).map UInt8.toNat = m := by
    intro m hm
    rw [List.map_map]
    conv => rhs; rw [← List.map_id m]
    apply List.map_congr_left
    intro x hx
    have := hm x hx
    simp [Nat.mod_eq_of_lt this]
  rw [← back l h, ← back l' h', e2]

theorem strOf_eq {l l' : List Nat} (h : ∀ x ∈ l, x < 256) (h' : ∀ x ∈ l', x < 256) : ((strOf l).toList == (strOf l').toList) = decide (l = l') := by
  by_cases e : l = l'
  · subst e; simp
  · rw [decide_eq_false e]
    refine beq_eq_false_iff_ne.2 (fun x => e (strOf_inj h h' ?_))
    rw [Lib.toList_data, Lib.toList_data] at x
    unfold strOf at x ⊢
    simp at x
    simp [x]

theorem Rd.take {w : World} {S : Nat → Prop} {A : Option Addr} {n m : Nat} {xs : List Value} (h : Rd w S 1 A n xs) (hm : m ≤ n) : Rd w S 1 A m (xs.take m) := by
  have hl := h.len
  refine ⟨by simp; omega, fun h0 => ?_⟩
  obtain ⟨b, off, e, hb, hc⟩ := h.cells (by simp at h0; omega)
  exact ⟨b, off, e, hb, fun j u hu => hc j u (by rw [List.getElem?_take] at hu; split at hu <;> first | exact hu | cases hu)⟩

end Go.Lap
namespace Go.Proofs.YtpopoaopohngbaaGreatDoor
open Go.RowKit Go.Lap

theorem elem_u8 : Elem Tryz.prog 26 5 1 1 := Elem.mk' (.int .u8 0) Tryz.underlying26 (by kernel_rfl) rfl (by decide)

/-- New bytes. -/
structure Fresh (w w' : World) (v : Value) (l : List Nat) : Prop where
  quiet : Quiet w w'
  new : ∀ k, v.ownBlock = some k → w.heap.size ≤ k
  own : w'.ownsRow 0 5 1 v l.length (bytesV l)

def FreshPost (w : World) (l : List Nat) (e : Ending) (w' : World) : Prop := ∃ v, e = .returned v ∧ Fresh w w' v l

theorem bytes_len (l : List Nat) : (bytesV l).length = l.length := by simp [bytesV]

theorem bytes_take (l : List Nat) (m : Nat) : bytesV (l.take m) = (bytesV l).take m := by simp [bytesV]

theorem fresh_app {w w1 : World} {l : List Nat} {v : Value} (hg : Grew (w.alloc (.cells #[] 5)) w1 5 1 (.slice (some ⟨w.heap.size, 0, none⟩) 0 0) v l.length (bytesV l)) : Fresh w w1 v l := by
  refine ⟨((Only.refl _ _).alloc _).trans' hg.only (fun k hk e => by simp [Value.ownBlock] at e; omega), fun k e => ?_, hg.own⟩
  rcases hg.loc with x | x <;> rw [x] at e
  · simp [Value.ownBlock] at e; omega
  · injection e with e; simp at e; omega

theorem conv_str (A : Option Addr) (cap : Nat) (l : List Nat) (S : Nat → Prop) (w : World) (hr : Rd w S 1 A l.length (bytesV l)) (hb : ∀ x ∈ l, x < 256) :
    (convert 26 9 (.slice A l.length cap)).run Tryz.prog w = .ok (.string (strOf l)) w := by
  have hlen : (l.map UInt8.ofNat).length = l.length := by simp
  by_cases h0 : 0 < l.length
  · obtain ⟨b, off, rfl, _, hc⟩ := hr.cells (by rw [bytes_len]; exact h0)
    have := run_convert_bytes_back (P := Tryz.prog) w 26 9 5 ⟨b, off, none⟩ cap (l.map UInt8.ofNat) Tryz.underlying26 Tryz.underlying5 Tryz.underlying9 (fun j hj => by
      rw [add_none]
      have hj' : j < l.length := by simpa using hj
      refine hc j _ ?_
      unfold bytesV
      rw [List.getElem?_map, List.getElem?_eq_getElem hj']
      have := hb l[j] (List.getElem_mem hj')
      simp [Nat.mod_eq_of_lt this])
    rw [hlen] at this
    exact this
  · have hl0 : l = [] := List.eq_nil_of_length_eq_zero (by omega)
    subst hl0
    rcases A with _ | ad
    · exact Lib.run_convert_nil_bytes (P := Tryz.prog) w 26 9 5 cap Tryz.underlying26 Tryz.underlying5 Tryz.underlying9
    · exact run_convert_bytes_back (P := Tryz.prog) w 26 9 5 ad cap [] Tryz.underlying26 Tryz.underlying5 Tryz.underlying9 (fun j hj => absurd hj (by simp))
end Go.Proofs.YtpopoaopohngbaaGreatDoor
