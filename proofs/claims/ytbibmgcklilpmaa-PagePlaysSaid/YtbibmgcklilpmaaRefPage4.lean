/- The document's page: Insert. No condition. -/
import Derived.Test.YtbibmgcklilpmaaRefPage3
import Derived.Deep.RegionLawGrows
namespace Go.Lap

/-- The least slot from k on that is free; or the next one behind all. -/
def freeFrom (L : List Slot) (k : Nat) : Nat := ((L.drop k).findIdx? (fun s => s.isNone)).elim L.length (· + k)

theorem freeFrom_end (L : List Slot) : freeFrom L L.length = L.length := by
  unfold freeFrom
  rw [List.drop_length]
  rfl

theorem freeFrom_zero (L : List Slot) : freeFrom L 0 = freeIdx L := by
  unfold freeFrom freeIdx
  rw [List.drop_zero]
  generalize List.findIdx? _ L = o
  cases o <;> rfl

theorem freeFrom_none {L : List Slot} {k : Nat} (h : L[k]? = some none) : freeFrom L k = k := by
  have hk : k < L.length := (List.getElem?_eq_some_iff.1 h).1
  unfold freeFrom
  rw [List.drop_eq_getElem_cons hk]
  rw [List.getElem?_eq_getElem hk] at h
  injection h with h
  rw [h, List.findIdx?_cons]
  simp

theorem freeFrom_some {L : List Slot} {k : Nat} {x : Nat × Tup} (h : L[k]? = some (some x)) : freeFrom L k = freeFrom L (k + 1) := by
  have hk : k < L.length := (List.getElem?_eq_some_iff.1 h).1
  unfold freeFrom
  rw [List.drop_eq_getElem_cons hk]
  rw [List.getElem?_eq_getElem hk] at h
  injection h with h
  rw [h, List.findIdx?_cons]
  simp only [Option.isNone_some, Bool.false_eq_true, if_false]
  generalize List.findIdx? _ (L.drop (k + 1)) = o
  cases o with
  | none => rfl
  | some i => show i + 1 + k = i + (k + 1); omega

end Go.Lap
namespace Go.Proofs.Ytbibmgcklilpmaa
open Go.RowKit Go.Lap

set_option maxHeartbeats 400000 in
set_option maxRecDepth 100000 in
theorem rp_insert_nil (t : Tup) (A : Option Addr) (cap : Nat) (w : World) :
    Calls Try.prog 91 #[.pointer none, tupV t A cap] w fun e w' => e = .returned (.tuple #[.int .i64 0, .int .i64 15]) ∧ Quiet w w' := by
  unfold tupV
  go_enter Try.func91, Try.ntmps91
  go_wp2
  go_ret2
  exact ⟨rfl, (Only.refl _ _).alloc _⟩

set_option maxHeartbeats 400000 in
set_option maxRecDepth 100000 in
theorem rp_insert_form (b : Nat) (t : Tup) (A : Option Addr) (cap : Nat) (w : World) (ht : t.rightB = false) :
    Calls Try.prog 91 #[.pointer (some ⟨b, 0, none⟩), tupV t A cap] w fun e w' => e = .returned (.tuple #[.int .i64 0, .int .i64 3]) ∧ Quiet w w' := by
  have HR := Lib.hid (rright_any t A cap)
  rw [ht] at HR
  unfold tupV at HR ⊢
  clear ht
  go_enter Try.func91, Try.ntmps91
  go_wp2_with fail
  refine (HR.out _).mono ?_
  rintro e w1 ⟨rfl, hq1⟩
  have HQ : Hid (Quiet w w1) := ((Only.refl _ _).alloc _).trans hq1
  clear hq1
  go_wp2
  go_ret2
  exact ⟨rfl, HQ.out⟩

section
variable {w : World} {b st : Nat} {S : Nat → Prop} {L : List Slot}

set_option maxHeartbeats 400000 in
set_option maxRecDepth 100000 in
theorem rp_insert_full (t : Tup) (A : Option Addr) (cap : Nat) (h : RefPg w b S L st) (ht : t.rightB = true) (hroom : roomOf L < t.data.length) :
    Calls Try.prog 91 #[.pointer (some ⟨b, 0, none⟩), tupV t A cap] w fun e w' => e = .returned (.tuple #[.int .i64 0, .int .i64 12]) ∧ Quiet w w' := by
  have HR := Lib.hid (rright_any t A cap)
  rw [ht] at HR
  have HH := Lib.hid h
  obtain ⟨R, hR⟩ : ∃ R, roomOf L = R := ⟨_, rfl⟩
  rw [hR] at hroom
  have HRM : Hid (∀ W : World, Quiet w W → Calls Try.prog 67 #[.pointer (some ⟨b, 0, none⟩)] W fun e w' => e = .returned (.int .i64 R) ∧ Quiet W w') := fun W hq => by rw [← hR]; exact rp_room (h.kept hq (fun _ _ x => x))
  unfold tupV at HR ⊢
  clear ht h hR
  go_enter Try.func91, Try.ntmps91
  go_wp2_with fail
  refine (HR.out _).mono ?_
  rintro e w1 ⟨rfl, hq1⟩
  have HQ : Hid (Quiet w w1) := ((Only.refl _ _).alloc _).trans hq1
  have HB := Lib.hid (hq1.get (alloc_new w _) (fun x => x))
  obtain ⟨c0, c1, c2, c3, c4, c5⟩ := box_cells HB.out
  clear hq1
  go_wp2_with fail
  go_region_held3 (fun w' => w'.cell? ⟨w.heap.size, 5, none⟩ = some (.slice A t.data.length cap))
    (first | go_keep | exact hq2.cell (by exact c5) (fun x => x) | fail)
    (first
      | (go_at_call 67; go_must (refine (HRM.out _ HQ.out.drew).mono ?_; rintro e w2 ⟨rfl, hq2⟩))
      | fail)
  have HQ2 := Lib.hid (HQ.out.drew.trans hq2)
  clear hq2
  go_wp2
  go_ret2
  exact ⟨rfl, HQ2.out⟩

end
end Go.Proofs.Ytbibmgcklilpmaa
