/- RoomLeast: no page ahead of the one that is found has so much room; if none is found none has. For every input. -/
import Derived.Test.YtbibmgcklilpmaaRoomAny
import Derived.Test.YtbibmgcklilpmaaOpen
import Derived.Outline
namespace Go.Proofs.Ytbibmgcklilpmaa
open Go.RowKit Go.Lap

/-- Rooms that came in, below block B. -/
def U16In (w : World) (B : Nat) (A : Option Addr) (n : Nat) : Prop :=
  ∀ k, k < n → ∃ b off z, A = some ⟨b, off, none⟩ ∧ b < B ∧ w.cell? ⟨b, off + k, none⟩ = some (.int .u16 z) ∧ (Lit.int .u16 z).wf = true

theorem U16In.kept {w w' : World} {B : Nat} {A : Option Addr} {n : Nat} (h : U16In w B A n) (hb : Below B w w') : U16In w' B A n := by
  intro k hk
  obtain ⟨b, off, z, e, h1, h2, h3⟩ := h k hk
  exact ⟨b, off, z, e, h1, by rw [hb.cell (p := ⟨b, _, none⟩) h1]; exact h2, h3⟩

theorem least_more {l : List Int} {r : Int} (h : ∀ x ∈ l, 0 ≤ x) (hr : 0 ≤ r) : ∀ x ∈ l ++ [clampR r], 0 ≤ x := by
  intro x hx
  rcases List.mem_append.1 hx with h1 | h1
  · exact h x h1
  · simp at h1; subst h1; unfold clampR; omega

/-- What Find tells: a page, and it has the room, and none ahead has; or none. -/
theorem least_find {l : List Int} (need : Int) (h : ∀ x ∈ l, 0 ≤ x) (hl : l.length ≤ 256) : ∃ (k : Nat) (ok : Bool), rFind l need = ((k : Int), ok) ∧ k ≤ l.length ∧ (∀ i, i < (if ok then k else l.length) → rGet l (i : Int) < need) ∧ (ok = true → need ≤ rGet l (k : Int)) := by
  have g : ∀ i (hi : i < l.length), l.length ≤ 256 → rGet l (i : Int) = l[i] := by
    intro i hi h256
    rw [show rGet l (i : Int) = rooms l i from if_neg (by omega)]
    simp [rooms, hi]
  rcases hf : l.findIdx? (fun r => decide (max need 0 ≤ r)) with _ | k
  · refine ⟨0, false, by simp only [rFind, hf]; rfl, Nat.zero_le _, fun i hi => ?_, fun x => by cases x⟩
    rw [List.findIdx?_eq_none_iff] at hf
    simp only [Bool.false_eq_true, if_false] at hi
    have h1 := hf l[i] (List.getElem_mem hi)
    have h2 := h l[i] (List.getElem_mem hi)
    rw [g i hi hl]
    have := of_decide_eq_false h1
    omega
  · refine ⟨k, true, by simp only [rFind, hf], ?_, fun i hi => ?_, fun _ => ?_⟩
    all_goals
      rw [List.findIdx?_eq_some_iff_getElem] at hf
      obtain ⟨hk, h1, h2⟩ := hf
    · omega
    · simp only [if_true] at hi
      have h3 := h2 i hi
      have h4 := h l[i] (List.getElem_mem (by omega))
      rw [g i (by omega) hl]
      simp at h3
      omega
    · rw [g k hk hl]
      have := of_decide_eq_true h1
      omega

theorem cells_u16 : Try.prog.cellsOf 44 = 1 := by kernel_rfl

set_option maxHeartbeats 1000000 in
set_option maxRecDepth 100000 in
theorem roomLeast_any (A : Option Addr) (n cap : Nat) (need : Int) (w : World) (h : U16In w w.heap.size A n) (hn : n ≤ cap) (hcap : cap ≤ maxLen) :
    Calls Try.prog 5 #[.slice A n cap, .int .i64 need] w fun e w' => e = .returned (.bool true) ∧ Below w.heap.size w w' := by
  unfold maxLen at hcap
  have H := Lib.hid h
  clear h
  go_enter Try.func5, Try.ntmps5
  go_wp2_with fail
  refine (awake6 _).mono ?_
  rintro e w0 ⟨rfl, hB0⟩
  go_wp2_with fail
  refine (room_make _).mono ?_
  rintro e w1 ⟨rfl, hB, hs, hr⟩
  have HB := Lib.hid (hB0.trans (hB.mono hB0.size))
  have Hz := Lib.hid hB0.size
  have HR := Lib.hid hr
  clear hr hB hs hB0
  go_wp2_with fail
  obtain ⟨m, e1, e2, hmn, hm⟩ : ∃ m : Nat, (min (n : Int) 256).toNat = m ∧ max (min (n : Int) 256) 0 = m ∧ m ≤ n ∧ m ≤ 256 := ⟨min n 256, by omega, by omega, by omega, by omega⟩
  rw [e1, e2]
  clear e1 e2
  go_loopw [21] (fun v wr => ∃ (k : Nat) (l : List Int), k ≤ m ∧ v = .int .i64 k ∧ l.length = k ∧ (∀ x ∈ l, 0 ≤ x) ∧ RoomIs wr w0.heap.size l ∧ Below w.heap.size w wr) (fun v _ => m - (intOf v).toNat)
  case atStart => exact ⟨0, [], Nat.zero_le _, rfl, rfl, by simp, HR.out, HB.out⟩
  case round =>
    obtain ⟨k, l, hk, rfl, hl, hall, hr, hB⟩ := hrel
    have HLl := Lib.hid hl
    have HA := Lib.hid hall
    have HR := Lib.hid hr
    have HB := Lib.hid hB
    by_cases hlt : k < m
    · obtain ⟨b, off, z, rfl, hb, hc, wz⟩ := H.out.kept HB.out k (by omega)
      have hz := bounds_u16 wz
      clear hl hall hr hB wz
      go_wp2_with fail
      refine (room_set_next _ l _ _ _ HR.out (by rw [HLl.out]) (by rw [HLl.out]; omega)).mono ?_
      rintro e w2 ⟨rfl, ho, hx⟩
      have HO := Lib.hid (onward HB.out HB.out.size ho (fun k e => by have := Hz.out; omega))
      have HX := Lib.hid hx
      clear ho hx
      go_wp2_with fail
      go_roundw
      case rel => exact ⟨k + 1, _, by omega, by go_num, by simp [HLl.out], least_more HA.out (by omega), HX.out, HO.out⟩
      case measure => simp [intOf]; omega
    · obtain rfl : k = m := by omega
      have hF := least_find need HA.out HR.out.most
      rw [HLl.out] at hF
      clear hl hall hr hB
      go_wp2_with fail
      refine (room_find _ l _ need HR.out).mono ?_
      rintro e w2 ⟨rfl, rfl⟩
      obtain ⟨at_, ok, hat, hf1, hf2, hf3⟩ := hF
      rw [hat]
      clear hat
      have HF2 := Lib.hid hf2
      have HF3 := Lib.hid hf3
      clear hf2 hf3
      cases ok
      · simp only [Bool.false_eq_true, if_false] at HF2
        go_wp2_with fail
        go_loop [45] (fun v => ∃ i : Nat, i ≤ k ∧ v = .int .i64 i) (fun v => k - (intOf v).toNat)
        case atStart => exact ⟨0, Nat.zero_le _, rfl⟩
        case round =>
          obtain ⟨i, hi, rfl⟩ := hrel
          by_cases hlt : i < k
          · have hg := HF2.out i hlt
            go_wp2_with fail
            refine (room_get _ l _ _ HR.out).mono ?_
            rintro e w3 ⟨rfl, rfl⟩
            go_wp2_with fail
            go_round
            case rel => exact ⟨i + 1, by omega, by go_num⟩
            case measure => simp [intOf]; omega
          · go_wp2_with fail
            refine (room_pages _ l _ HR.out).mono ?_
            rintro e w3 ⟨rfl, rfl⟩
            rw [HLl.out]
            go_wp2_with fail
            go_ret
            exact ⟨by simp, HB.out⟩
      · simp only [if_true] at HF2
        go_wp2_with fail
        go_loop [45] (fun v => ∃ i : Nat, i ≤ at_ ∧ v = .int .i64 i) (fun v => at_ - (intOf v).toNat)
        case atStart => exact ⟨0, Nat.zero_le _, rfl⟩
        case round =>
          obtain ⟨i, hi, rfl⟩ := hrel
          by_cases hlt : i < at_
          · have hg := HF2.out i hlt
            go_wp2_with fail
            refine (room_get _ l _ _ HR.out).mono ?_
            rintro e w3 ⟨rfl, rfl⟩
            go_wp2_with fail
            go_round
            case rel => exact ⟨i + 1, by omega, by go_num⟩
            case measure => simp [intOf]; omega
          · have hg := HF3.out trivial
            go_wp2_with fail
            refine (room_pages _ l _ HR.out).mono ?_
            rintro e w3 ⟨rfl, rfl⟩
            rw [HLl.out]
            go_wp2_with fail
            refine (room_get _ l _ _ HR.out).mono ?_
            rintro e w3 ⟨rfl, rfl⟩
            go_wp2_with fail
            go_ret
            exact ⟨by simp, HB.out⟩

open Go.ChangeShapes Go.WideShapes in
set_option maxRecDepth 100000 in
theorem roomLeast_walk {H : Type} {enc : TypeId × Value → H} {r : Reach} {base : Nat} {d0 d1 : DataW H} {p0 p1 : List MemPlace} (v0 v1 : Value) (W : World)
    (o0 : Value.okWide Try.prog W r base 43 v0) (h0 : DataW.Trod enc Try.prog W 0 (fun _ => true) true 43 v0 d0 p0) (o1 : Value.okWide Try.prog W r base 3 v1) (h1 : DataW.Trod enc Try.prog W 0 (fun _ => true) true 3 v1 d1 p1) :
    Calls Try.prog 5 #[v0, v1] W fun e w' => e = .returned (.bool true) ∧ Below W.heap.size W w' := by
  obtain ⟨x, rfl, _⟩ := open_int Try.underlying3 o1 h1
  obtain ⟨A, n, cap, rfl, a1, a2, a3⟩ := open_slice_int Try.underlying43 Try.underlying44 cells_u16 o0 h0
  exact roomLeast_any A n cap x W a3 a1 a2

end Go.Proofs.Ytbibmgcklilpmaa
