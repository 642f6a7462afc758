/- The contracts of package page: bytesOf, free, Room, Slots, Used. No condition. -/
import Derived.Test.YtbibmgcklilpmaaPageWalk2
namespace Go.Proofs.Ytbibmgcklilpmaa
open Go.RowKit Go.Lap

set_option maxHeartbeats 400000 in
set_option maxRecDepth 100000 in
theorem bytes_nil (i : Int) (w : World) :
    Calls Try.prog 82 #[.pointer none, .int .i64 i] w fun e w' => e = .returned (.slice none 0 0) ∧ ∃ n, w' = w.drewN n := by
  go_enter Try.func82, Try.ntmps82
  go_wp2
  go_ret
  exact ⟨rfl, 0, rfl⟩

set_option maxHeartbeats 400000 in
set_option maxRecDepth 100000 in
theorem bytes_none (b st : Nat) (L : List Slot) (i : Int) (w : World) (h : PageAt w b L st) (hi : slotAt L i = none) :
    Calls Try.prog 82 #[.pointer (some ⟨b, 0, none⟩), .int .i64 i] w fun e w' => e = .returned (.slice none 0 0) ∧ ∃ n, w' = w.drewN n := by
  have HP := Lib.hid h
  by_cases h0 : i < 0
  · clear hi h
    go_enter Try.func82, Try.ntmps82
    go_wp2
    go_ret
    exact ⟨rfl, 0, rfl⟩
  · obtain ⟨k, rfl⟩ := Int.eq_ofNat_of_zero_le (show 0 ≤ i by omega)
    have d0 : decide ((k : Int) < 0) = false := by simp
    rw [slotAt_nat] at hi
    have hl := h.len
    by_cases hk : k < L.length
    · have hs : L[k]? = some none := by
        rw [List.getElem?_eq_getElem hk] at hi ⊢
        have : L[k] = none := hi
        rw [this]
      obtain ⟨g, h1, h2⟩ := h
      have HA := Lib.hid (at_any b k g w h1 h2.lt (by omega))
      have hp := h2.ptr k none hs
      rw [show 6 + 4 * k = 4 + 4 * k + 2 by omega] at hp
      have Hp := Lib.hid hp
      clear hi hs hp h1 h2
      go_enter Try.func82, Try.ntmps82
      go_wp2_with fail
      refine (page_count b st L _ HP.out).mono ?_
      rintro e w1 ⟨rfl, rfl⟩
      go_wp2_with fail
      refine HA.out.mono ?_
      rintro e w1 ⟨rfl, n, rfl⟩
      rw [Hp.out.1, Hp.out.2]
      go_wp2
      go_ret
      exact ⟨rfl, n, rfl⟩
    · clear hi h
      go_enter Try.func82, Try.ntmps82
      go_wp2_with fail
      refine (page_count b st L _ HP.out).mono ?_
      rintro e w1 ⟨rfl, rfl⟩
      go_wp2
      go_ret
      exact ⟨rfl, 0, rfl⟩

set_option maxHeartbeats 400000 in
set_option maxRecDepth 100000 in
theorem bytes_some (b st f : Nat) (t : Tup) (L : List Slot) (i : Int) (w : World) (h : PageAt w b L st) (hi : slotAt L i = some (f, t)) :
    Calls Try.prog 82 #[.pointer (some ⟨b, 0, none⟩), .int .i64 i] w fun e w' => e = .returned (.slice (some ⟨b, f, none⟩) t.size (512 - f)) ∧ ∃ n, w' = w.drewN n := by
  have HP := Lib.hid h
  obtain ⟨k, rfl, hk, hs⟩ := slotAt_some hi
  have d0 : decide ((k : Int) < 0) = false := by simp
  have hl := h.len
  obtain ⟨g, h1, h2⟩ := h
  have HA := Lib.hid (at_any b k g w h1 h2.lt (by omega))
  have hp := h2.ptr k _ hs
  obtain ⟨v1, v2, v3, v4⟩ := h2.ver k f t hs
  rw [show 6 + 4 * k = 4 + 4 * k + 2 by omega] at hp
  have hp' : leNum g (4 + 4 * k) 2 = f ∧ leNum g (4 + 4 * k + 2) 2 = t.size := hp
  have Hp := Lib.hid hp'
  have hsz := Tup.size_pos t
  obtain ⟨z, hz⟩ : ∃ z, z = t.size := ⟨_, rfl⟩
  rw [← hz] at Hp hsz v2 ⊢
  have hsl := fun w => page_range b f (f + z) (f : Int) ((f : Int) + z) rfl (by omega) (by omega) (by omega) (by omega) w
  rw [Nat.add_sub_cancel_left] at hsl
  have hz0 : ((z : Int) == 0) = false := by simp; omega
  clear hi hs hp hp' h1 h2 v4 v3 hz
  go_enter Try.func82, Try.ntmps82
  go_wp2_with fail
  refine (page_count b st L _ HP.out).mono ?_
  rintro e w1 ⟨rfl, rfl⟩
  go_wp2_with fail
  refine HA.out.mono ?_
  rintro e w1 ⟨rfl, n, rfl⟩
  rw [Hp.out.1, Hp.out.2]
  go_wp2
  go_ret
  exact ⟨rfl, n, rfl⟩

theorem all_next {L : List Slot} {k f : Nat} {t : Tup} (h : ∀ j, j < k → ∀ s, L[j]? = some s → s ≠ none) (hk : L[k]? = some (some (f, t))) : ∀ j, j < k + 1 → ∀ s, L[j]? = some s → s ≠ none := by
  intro j hj s hs
  by_cases e : j = k
  · subst e; rw [hk] at hs; injection hs with hs; subst hs; simp
  · exact h j (by omega) s hs

set_option maxHeartbeats 400000 in
set_option maxRecDepth 100000 in
theorem page_free (b st : Nat) (L : List Slot) (w : World) (h : PageAt w b L st) :
    Calls Try.prog 76 #[.pointer (some ⟨b, 0, none⟩)] w fun e w' => e = .returned (.int .i64 (freeIdx L)) ∧ ∃ n, w' = w.drewN n := by
  have HP := Lib.hid h
  have hl := h.len
  clear h
  have heq := fun (w : World) (a : Option Addr) (n c : Nat) => Lib.run_eql_slice_nil (P := Try.prog) w 48 _ a n c 0 0 Try.underlying48
  go_enter Try.func76, Try.ntmps76
  go_wp2_with fail
  refine (page_count b st L _ (by exact HP.out)).mono ?_
  rintro e w1 ⟨rfl, rfl⟩
  go_wp2_with fail
  go_loopw [6] (fun v wr => ∃ k : Nat, k ≤ L.length ∧ v = .int .i64 k ∧ (∃ n, wr = w.drewN n) ∧ (∀ j, j < k → ∀ s, L[j]? = some s → s ≠ none)) (fun v _ => L.length - (intOf v).toNat)
  case atStart => exact ⟨0, Nat.zero_le _, rfl, ⟨0, rfl⟩, fun j hj => absurd hj (by omega)⟩
  case round =>
    obtain ⟨k, hk, rfl, ⟨m, rfl⟩, hall⟩ := hrel
    have HA := Lib.hid hall
    clear hall
    by_cases hlt : k < L.length
    · rcases hs : L[k]? with _ | s
      · rw [List.getElem?_eq_getElem hlt] at hs; cases hs
      · have HS := Lib.hid hs
        clear hs
        rcases s with _ | ⟨f, t⟩
        · have HE := Lib.hid (freeIdx_at HS.out HA.out)
          go_wp2_with fail
          refine (bytes_none b st L _ _ (by exact HP.out) (by rw [slotAt_nat, HS.out]; rfl)).mono ?_
          rintro e w1 ⟨rfl, n, rfl⟩
          go_wp2
          go_ret
          rw [HE.out]
          exact ⟨rfl, _, rfl⟩
        · go_wp2_with fail
          refine (bytes_some b st f t L _ _ (by exact HP.out) (by rw [slotAt_nat, HS.out]; rfl)).mono ?_
          rintro e w1 ⟨rfl, n, rfl⟩
          go_wp2
          go_roundw
          case rel => exact ⟨k + 1, by omega, by go_num, ⟨_, rfl⟩, all_next HA.out HS.out⟩
          case measure => simp [intOf]; omega
    · obtain rfl : k = L.length := by omega
      have HE := Lib.hid (freeIdx_none HA.out)
      go_wp2_with fail
      refine (page_count b st L _ (by exact HP.out)).mono ?_
      rintro e w1 ⟨rfl, rfl⟩
      go_wp2
      go_ret
      rw [HE.out]
      exact ⟨rfl, _, rfl⟩


theorem page_room_nil (w : World) :
    Calls Try.prog 66 #[.pointer none] w fun e w' => e = .returned (.int .i64 (-1)) ∧ ∃ n, w' = w.drewN n := by
  go_enter Try.func66, Try.ntmps66
  go_wp2
  go_ret
  exact ⟨rfl, 0, rfl⟩

theorem spent_bound {g : Nat → Nat} {L : List Slot} {st : Nat} (h : Pg g L st) : ∀ k, k ≤ L.length → spent (L.take k) ≤ 1000 * k
  | 0, _ => by simp [spent]
  | k + 1, hk => by
    have ih := spent_bound h k (by omega)
    have hs : L[k]? = some L[k] := List.getElem?_eq_getElem (by omega)
    rw [spent_take_succ L k _ hs]
    have : Slot.size L[k] ≤ 512 := by
      rcases hx : L[k] with _ | ⟨f, t⟩
      · simp [Slot.size]
      · rw [hx] at hs
        have := (h.ver k f t hs).2.1
        have : Slot.size (some (f, t)) = t.size := rfl
        omega
    omega

set_option maxHeartbeats 400000 in
set_option maxRecDepth 100000 in
theorem page_room (b st : Nat) (L : List Slot) (w : World) (h : PageAt w b L st) :
    Calls Try.prog 66 #[.pointer (some ⟨b, 0, none⟩)] w fun e w' => e = .returned (.int .i64 (roomOf L)) ∧ ∃ n, w' = w.drewN n := by
  have HP := Lib.hid h
  have hl := h.len
  have HSB : Hid (∀ k, k ≤ L.length → spent (L.take k) ≤ 1000 * k) := by
    obtain ⟨g, _, h2⟩ := h
    exact spent_bound h2
  clear h
  go_enter Try.func66, Try.ntmps66
  go_wp2_with fail
  refine (page_count b st L _ HP.out).mono ?_
  rintro e w1 ⟨rfl, rfl⟩
  go_wp2_with fail
  go_loopw [3, 9] (fun n v wr => ∃ k : Nat, k ≤ L.length ∧ v = .int .i64 k ∧ n = .int .i64 (478 - (spent (L.take k) : Int)) ∧ (∃ n, wr = w.drewN n)) (fun _ v _ => L.length - (intOf v).toNat)
  case atStart => exact ⟨0, Nat.zero_le _, rfl, by simp [spent], ⟨0, rfl⟩⟩
  case round =>
    obtain ⟨k, hk, rfl, rfl, ⟨m, rfl⟩⟩ := hrel
    have hsb := HSB.out k hk
    by_cases hlt : k < L.length
    · have hsb1 := HSB.out (k + 1) hlt
      rcases hs : L[k]? with _ | s
      · rw [List.getElem?_eq_getElem hlt] at hs; cases hs
      · have HN := Lib.hid (spent_take_succ L k s hs)
        have HS := Lib.hid hs
        clear hs
        rw [HN.out] at hsb1
        rcases s with _ | ⟨f, t⟩
        · go_wp2_with fail
          refine (bytes_none b st L _ _ (by exact HP.out) (by rw [slotAt_nat, HS.out]; rfl)).mono ?_
          rintro e w1 ⟨rfl, n, rfl⟩
          go_wp2
          go_roundw
          case rel => exact ⟨k + 1, by omega, by go_num, by rw [HN.out]; simp only [Slot.size]; congr 1; omega, ⟨_, rfl⟩⟩
          case measure => simp [intOf]; omega
        · obtain ⟨z, hz⟩ : ∃ z, z = t.size := ⟨_, rfl⟩
          have hz' : Slot.size (some (f, t)) = z := hz.symm
          rw [hz'] at hsb1 HN
          go_wp2_with fail
          refine (bytes_some b st f t L _ _ (by exact HP.out) (by rw [slotAt_nat, HS.out]; rfl)).mono ?_
          rintro e w1 ⟨rfl, n, rfl⟩
          rw [← hz]
          clear hz hz'
          go_wp2
          go_roundw
          case rel => exact ⟨k + 1, by omega, by go_num, by rw [HN.out]; congr 1; omega, ⟨_, rfl⟩⟩
          case measure => simp [intOf]; omega
    · obtain rfl : k = L.length := by omega
      have hfi := freeIdx_le L
      obtain ⟨fi, Hfi⟩ : ∃ fi, Hid (fi = freeIdx L) := ⟨_, rfl⟩
      obtain ⟨sp, Hsp⟩ : ∃ sp, Hid (sp = spent L) := ⟨_, rfl⟩
      rw [List.take_length, ← Hsp.out] at hsb
      rw [List.take_length, ← Hsp.out]
      have HR : Hid (roomOf L = max (478 - (sp : Int) - (if fi = L.length then 4 else 0)) (-1)) := by unfold roomOf; rw [Hsp.out, Hfi.out]; rfl
      go_wp2_with fail
      refine (page_free b st L _ (by exact HP.out)).mono ?_
      rintro e w1 ⟨rfl, n1, rfl⟩
      rw [← Hfi.out] at hfi
      rw [← Hfi.out]
      go_wp2_with fail
      refine (page_count b st L _ (by exact HP.out)).mono ?_
      rintro e w1 ⟨rfl, rfl⟩
      by_cases hfe : fi = L.length
      · have hb : ((fi : Int) == L.length) = true := by simp [hfe]
        rw [if_pos hfe] at HR
        clear hfe
        go_wp2
        go_ret
        rw [HR.out]
        exact ⟨rfl, _, rfl⟩
      · have hb : ((fi : Int) == L.length) = false := by simp; omega
        rw [if_neg hfe] at HR
        clear hfe
        go_wp2
        go_ret
        rw [HR.out]
        exact ⟨by simp, _, rfl⟩

theorem page_slots_nil (w : World) :
    Calls Try.prog 69 #[.pointer none] w fun e w' => e = .returned (.int .i64 0) ∧ w = w' := by
  go_enter Try.func69, Try.ntmps69
  go_wp2
  go_ret
  exact ⟨rfl, rfl⟩

theorem page_slots (b st : Nat) (L : List Slot) (w : World) (h : PageAt w b L st) :
    Calls Try.prog 69 #[.pointer (some ⟨b, 0, none⟩)] w fun e w' => e = .returned (.int .i64 L.length) ∧ w = w' := by
  have HP := Lib.hid h
  clear h
  go_enter Try.func69, Try.ntmps69
  go_wp2_with fail
  refine (page_count b st L _ HP.out).mono ?_
  rintro e w1 ⟨rfl, rfl⟩
  go_wp2
  go_ret
  exact ⟨rfl, rfl⟩

set_option maxHeartbeats 400000 in
set_option maxRecDepth 100000 in
theorem page_used (b st : Nat) (L : List Slot) (w : World) (h : PageAt w b L st) :
    Calls Try.prog 32 #[.pointer (some ⟨b, 0, none⟩)] w fun e w' => e = .returned (.int .i64 (usedOf L)) ∧ ∃ n, w' = w.drewN n := by
  have HP := Lib.hid h
  have hl := h.len
  clear h
  have heq := fun (w : World) (a : Option Addr) (n c : Nat) => run_neq_slice_nil_any (P := Try.prog) w 48 _ a n c 0 0 Try.underlying48
  go_enter Try.func32, Try.ntmps32
  go_wp2_with fail
  refine (page_slots b st L _ HP.out).mono ?_
  rintro e w1 ⟨rfl, rfl⟩
  go_wp2_with fail
  go_loopw [3, 7] (fun n v wr => ∃ k : Nat, k ≤ L.length ∧ v = .int .i64 k ∧ n = .int .i64 (usedOf (L.take k)) ∧ usedOf (L.take k) ≤ k ∧ (∃ n, wr = w.drewN n)) (fun _ v _ => L.length - (intOf v).toNat)
  case atStart => exact ⟨0, Nat.zero_le _, rfl, rfl, Nat.zero_le _, ⟨0, rfl⟩⟩
  case round =>
    obtain ⟨k, hk, rfl, rfl, hu, ⟨m, rfl⟩⟩ := hrel
    by_cases hlt : k < L.length
    · rcases hs : L[k]? with _ | s
      · rw [List.getElem?_eq_getElem hlt] at hs; cases hs
      · have HN := Lib.hid (usedOf_take_succ L k s hs)
        have HS := Lib.hid hs
        clear hs
        rcases s with _ | ⟨f, t⟩
        · go_wp2_with fail
          refine (bytes_none b st L _ _ (by exact HP.out) (by rw [slotAt_nat, HS.out]; rfl)).mono ?_
          rintro e w1 ⟨rfl, n, rfl⟩
          go_wp2
          go_roundw
          case rel => exact ⟨k + 1, by omega, by go_num, by rw [HN.out]; rfl, by rw [HN.out]; exact Nat.le_succ_of_le hu, ⟨_, rfl⟩⟩
          case measure => simp [intOf]; omega
        · go_wp2_with fail
          refine (bytes_some b st f t L _ _ (by exact HP.out) (by rw [slotAt_nat, HS.out]; rfl)).mono ?_
          rintro e w1 ⟨rfl, n, rfl⟩
          go_wp2
          go_roundw
          case rel => exact ⟨k + 1, by omega, by go_num, by rw [HN.out]; rfl, by rw [HN.out]; exact Nat.succ_le_succ hu, ⟨_, rfl⟩⟩
          case measure => simp [intOf]; omega
    · obtain rfl : k = L.length := by omega
      rw [List.take_length] at hu
      rw [List.take_length]
      go_wp2
      go_ret
      exact ⟨rfl, _, rfl⟩

end Go.Proofs.Ytbibmgcklilpmaa
