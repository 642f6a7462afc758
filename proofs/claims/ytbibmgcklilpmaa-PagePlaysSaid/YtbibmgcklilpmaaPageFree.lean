/- The contract of page.Free. No condition. -/
import Derived.Test.YtbibmgcklilpmaaPageWalk5
namespace Go.Lap
open Go.RowKit

/-- Slots at the end that are free are struck. -/
def trim (L : List Slot) : List Slot := (L.reverse.dropWhile (fun s => s.isNone)).reverse

theorem trim_nil : trim [] = [] := rfl
theorem trim_none (L : List Slot) : trim (L ++ [none]) = trim L := by simp [trim]
theorem trim_some (L : List Slot) (x : Nat × Tup) : trim (L ++ [some x]) = L ++ [some x] := by simp [trim]

/-- What is left is the first k slots, if all others are free and the last of these isn't. -/
theorem trim_take : ∀ (L : List Slot) (k : Nat), k ≤ L.length → (∀ j s, k ≤ j → L[j]? = some s → s = none) → (0 < k → ∃ x, L[k - 1]? = some (some x)) → trim L = L.take k := by
  intro L
  induction hn : L.length generalizing L with
  | zero =>
    intro k hk _ _
    have : L = [] := List.eq_nil_of_length_eq_zero hn
    subst this
    simp [trim]
  | succ n ih =>
    intro k hk h1 h2
    have hne : L ≠ [] := fun e => by subst e; simp at hn
    obtain ⟨M, s, rfl⟩ : ∃ M s, L = M ++ [s] := ⟨L.dropLast, L.getLast hne, (List.dropLast_concat_getLast hne).symm⟩
    have hM : M.length = n := by simpa using hn
    rcases Nat.lt_or_ge k (n + 1) with hlt | hge
    · have hs : s = none := h1 n s (by omega) (by rw [List.getElem?_append_right (by omega), hM]; simp)
      subst hs
      rw [trim_none, ih M hM k (by omega) (fun j s hj hs => h1 j s hj (by rw [List.getElem?_append_left (List.getElem?_eq_some_iff.1 hs).1]; exact hs)) (fun h0 => by
        obtain ⟨x, hx⟩ := h2 h0
        exact ⟨x, by rw [List.getElem?_append_left (by omega)] at hx; exact hx⟩)]
      rw [List.take_append_of_le_length (by omega)]
    · obtain rfl : k = n + 1 := by omega
      obtain ⟨x, hx⟩ := h2 (by omega)
      rw [show n + 1 - 1 = n by omega, List.getElem?_append_right (by omega), hM] at hx
      simp at hx
      subst hx
      rw [trim_some, List.take_of_length_le (by simp; omega)]

end Go.Lap
namespace Go.Proofs.Ytbibmgcklilpmaa
open Go.RowKit Go.Lap

theorem wrap_ptr (k : Nat) (h : k ≤ 127) : IntKind.i64.wrap (4 + IntKind.i64.wrap (4 * (k : Int))) = ((4 + 4 * k : Nat) : Int) := by
  rw [IntKind.wrap_i64, IntKind.wrap_i64]
  omega

theorem free_down {M : List Slot} {m : Nat} (h : ∀ j s, m ≤ j → M[j]? = some s → s = none) (h0 : 0 < m) (hm : M[m - 1]? = some none) : ∀ j s, m - 1 ≤ j → M[j]? = some s → s = none := by
  intro j s hj hs
  by_cases e : j = m - 1
  · subst e; rw [hm] at hs; injection hs with hs; exact hs.symm
  · exact h j s (by omega) hs

theorem free_last {M : List Slot} {m st : Nat} {g2 : Nat → Nat} (h : Pg g2 M st) (hm : m ≤ M.length) (ha : ∀ j s, m ≤ j → M[j]? = some s → s = none) (ht : trim M = M.take m) :
    Pg (putN (putN (layF g2 (4 + 4 * m) (4 + 4 * M.length - (4 + 4 * m)) (fun _ => 0)) 0 2 m) 2 2 st) (trim M) st := by
  have := h.trim hm ha
  unfold trimG at this
  rw [show 4 * (M.length - m) = 4 + 4 * M.length - (4 + 4 * m) by omega] at this
  rw [ht]
  exact this

theorem page_free_nil (i : Int) (w : World) :
    Calls Try.prog 31 #[.pointer none, .int .i64 i] w fun e w' => e = .returned (.int .i64 15) ∧ Quiet w w' := by
  have heq := fun (w : World) (a : Option Addr) (n c : Nat) => Lib.run_eql_slice_nil (P := Try.prog) w 48 _ a n c 0 0 Try.underlying48
  go_enter Try.func31, Try.ntmps31
  go_wp2_with fail
  refine (bytes_nil i _).mono ?_
  rintro e w1 ⟨rfl, n, rfl⟩
  go_wp2
  go_ret
  exact ⟨rfl, (Only.refl _ _).drewN n⟩

theorem page_free_none (b st : Nat) (L : List Slot) (i : Int) (w : World) (h : PageAt w b L st) (hi : slotAt L i = none) :
    Calls Try.prog 31 #[.pointer (some ⟨b, 0, none⟩), .int .i64 i] w fun e w' => e = .returned (.int .i64 15) ∧ Quiet w w' := by
  have heq := fun (w : World) (a : Option Addr) (n c : Nat) => Lib.run_eql_slice_nil (P := Try.prog) w 48 _ a n c 0 0 Try.underlying48
  have HI := Lib.hid hi
  have HP := Lib.hid h
  clear hi h
  go_enter Try.func31, Try.ntmps31
  go_wp2_with fail
  refine (bytes_none b st L i _ HP.out HI.out).mono ?_
  rintro e w1 ⟨rfl, n, rfl⟩
  go_wp2
  go_ret
  exact ⟨rfl, (Only.refl _ _).drewN n⟩

set_option maxHeartbeats 1000000 in
set_option maxRecDepth 100000 in
theorem page_free_some (b st f : Nat) (t : Tup) (L : List Slot) (i : Int) (w : World) (h : PageAt w b L st) (hi : slotAt L i = some (f, t)) :
    Calls Try.prog 31 #[.pointer (some ⟨b, 0, none⟩), .int .i64 i] w fun e w' => e = .returned (.int .i64 0) ∧ Only (· = b) w w' ∧ PageAt w' b (trim (L.set i.toNat none)) st := by
  have heq := fun (w : World) (a : Option Addr) (n c : Nat) => Lib.run_eql_slice_nil (P := Try.prog) w 48 _ a n c 0 0 Try.underlying48
  have HB := Lib.hid (bytes_some b st f t L i w h hi)
  obtain ⟨k, rfl, hk, hs⟩ := slotAt_some hi
  rw [Int.toNat_natCast]
  have hl := h.len
  obtain ⟨M, HM⟩ : ∃ M, Hid (M = L.set k none) := ⟨_, rfl⟩
  rw [← HM.out]
  obtain ⟨g, h1, h2⟩ := h
  have hfit := h2.fit
  have hle := h2.le
  obtain ⟨v1, v2, v3, v4⟩ := h2.ver k f t hs
  have HF := Lib.hid (h2.free hs)
  have HG := Lib.hid h1
  have hts := Tup.size_pos t
  clear hi hs h1 h2 v3 v4
  go_enter Try.func31, Try.ntmps31
  go_wp2_with fail
  refine HB.out.mono ?_
  rintro e w1 ⟨rfl, n, rfl⟩
  have hclr := fun ty => clear_run (w.drewN n) b 512 f t.size (512 - f) pageT g HG.out v2 ty
  go_wp2_with fail
  refine (point_any b k 0 0 _ _ (relaid_bk (by exact HG.out) _) (by omega) (by omega) (by omega)).mono ?_
  rintro e w2 ⟨rfl, ho, hb⟩
  have HO := Lib.hid (((Only.refl (· = b) w).drewN n).trans ((relaid_only _ _ _ _).trans ho))
  have HP : Hid (PageAt w2 b (L.set k none) st) := ⟨_, hb, by have := HF.out; unfold freeG at this; rw [show 6 + 4 * k = 4 + 4 * k + 2 by omega] at this; exact this⟩
  clear ho hb hclr HB HF HG
  rw [← HM.out] at HP
  clear HM
  have hl2 : M.length ≤ 127 := HP.out.len
  go_wp2_with fail
  refine (page_count b st M _ HP.out).mono ?_
  rintro e w3 ⟨rfl, rfl⟩
  go_wp2_with fail
  go_loopw [6] (fun v wr => ∃ m : Nat, m ≤ M.length ∧ v = .int .i64 m ∧ (∃ n, wr = w2.drewN n) ∧ (∀ j s, m ≤ j → M[j]? = some s → s = none)) (fun v _ => (intOf v).toNat)
  case atStart => exact ⟨M.length, Nat.le_refl _, rfl, ⟨0, rfl⟩, fun j s hj hs => absurd (List.getElem?_eq_some_iff.1 hs).1 (by omega)⟩
  case round =>
    obtain ⟨m, hm, rfl, ⟨n1, rfl⟩, hall⟩ := hrel
    have HA := Lib.hid hall
    clear hall
    obtain ⟨g2, hg2, hp2⟩ := HP.out
    have hfit2 := hp2.fit
    have HG2 := Lib.hid hg2
    have HP2 := Lib.hid hp2
    clear hg2 hp2
    by_cases h0 : 0 < m
    · have hb0 : decide ((0 : Int) < m) = true := by simp; omega
      rcases hs : M[m - 1]? with _ | s
      · rw [List.getElem?_eq_getElem (by omega)] at hs; cases hs
      · have HS := Lib.hid hs
        clear hs
        rcases s with _ | ⟨f', t'⟩
        · go_wp2_with fail
          refine (bytes_none b st M _ _ (by exact HP.out) (by rw [show ((m : Int) - 1) = ((m - 1 : Nat) : Int) by omega, slotAt_nat, HS.out]; rfl)).mono ?_
          rintro e w4 ⟨rfl, n2, rfl⟩
          go_wp2
          go_roundw
          case rel => exact ⟨m - 1, by omega, by go_num, ⟨_, rfl⟩, free_down HA.out h0 HS.out⟩
          case measure => simp [intOf]; omega
        · have HT := Lib.hid (trim_take M m hm HA.out (fun _ => ⟨_, HS.out⟩))
          have hm2 : 4 + 4 * m < 512 := by have := HP2.out.ver _ _ _ HS.out; have := Tup.size_pos t'; omega
          go_wp2_with fail
          refine (bytes_some b st f' t' M _ _ (by exact HP.out) (by rw [show ((m : Int) - 1) = ((m - 1 : Nat) : Int) by omega, slotAt_nat, HS.out]; rfl)).mono ?_
          rintro e w4 ⟨rfl, n2, rfl⟩
          go_wp2_with fail
          have hsl := fun W => page_range b (4 + 4 * m) (4 + 4 * M.length) _ _ (wrap_ptr m (by omega)) (wrap_ptr M.length (by omega)) (by omega) (by omega) (by omega) W
          have hclr := fun ty => clear_run (w2.drewN (n1 + n2 + 1)) b 512 (4 + 4 * m) (4 + 4 * M.length - (4 + 4 * m)) (512 - (4 + 4 * m)) pageT g2 HG2.out (by omega) ty
          go_region_held3 (fun _ => True) (trivial)
            (first | (go_at_call 78; go_must (refine (page_count b st M _ (by exact HP.out)).mono ?_; rintro e w4 ⟨rfl, rfl⟩)) | fail)
          clear hclr hsl
          have HG3 : Hid (Bk (relaid (w2.drewN (n1 + n2 + 1)) b 512 (layF g2 (4 + 4 * m) (4 + 4 * M.length - (4 + 4 * m)) (fun _ => 0))) b 512 pageT (layF g2 (4 + 4 * m) (4 + 4 * M.length - (4 + 4 * m)) (fun _ => 0))) := relaid_bk (by exact HG2.out) _
          have HO3 : Hid (Only (· = b) w (relaid (w2.drewN (n1 + n2 + 1)) b 512 (layF g2 (4 + 4 * m) (4 + 4 * M.length - (4 + 4 * m)) (fun _ => 0)))) := (HO.out.drewN _).trans (relaid_only _ _ _ _)
          have HF := Lib.hid (free_last HP2.out hm HA.out HT.out)
          generalize relaid (w2.drewN (n1 + n2 + 1)) b 512 (layF g2 (4 + 4 * m) (4 + 4 * M.length - (4 + 4 * m)) (fun _ => 0)) = w5 at HG3 HO3 ⊢
          have HL3 := Lib.hid (layF_lt HP2.out.lt (4 + 4 * m) (4 + 4 * M.length - (4 + 4 * m)) (f := fun _ => 0) (fun _ _ => by omega))
          have HS3 : Hid (leNum (layF g2 (4 + 4 * m) (4 + 4 * M.length - (4 + 4 * m)) (fun _ => 0)) 2 2 = st) := by rw [leNum_layF_out (by omega)]; exact HP2.out.st
          generalize layF g2 (4 + 4 * m) (4 + 4 * M.length - (4 + 4 * m)) (fun _ => 0) = g3 at HG3 HL3 HS3 HF
          go_wp2_with fail
          refine (start_any b g3 _ HG3.out HL3.out).mono ?_
          rintro e w6 ⟨rfl, rfl⟩
          rw [HS3.out]
          go_wp2_with fail
          refine (pset_any b m st g3 _ HG3.out (by omega) (by omega)).mono ?_
          rintro e w6 ⟨rfl, ho6, hb6⟩
          have HO6 := Lib.hid (HO3.out.trans ho6)
          have HB6 := Lib.hid hb6
          clear ho6 hb6
          go_wp2
          go_ret
          exact ⟨rfl, HO6.out, _, HB6.out, HF.out⟩
    · have hm0 : m = 0 := by omega
      have HT := Lib.hid (trim_take M m hm HA.out (fun h => absurd h h0))
      have hb0 : decide ((0 : Int) < m) = false := by simp; omega
      have hm2 : 4 + 4 * m < 512 := by omega
      clear hm0
      go_wp2_with fail
      have hsl := fun W => page_range b (4 + 4 * m) (4 + 4 * M.length) _ _ (wrap_ptr m (by omega)) (wrap_ptr M.length (by omega)) (by omega) (by omega) (by omega) W
      have hclr := fun ty => clear_run (w2.drewN (n1 + 1)) b 512 (4 + 4 * m) (4 + 4 * M.length - (4 + 4 * m)) (512 - (4 + 4 * m)) pageT g2 HG2.out (by omega) ty
      go_region_held3 (fun _ => True) (trivial)
        (first | (go_at_call 78; go_must (refine (page_count b st M _ (by exact HP.out)).mono ?_; rintro e w4 ⟨rfl, rfl⟩)) | fail)
      clear hclr hsl
      have HG3 : Hid (Bk (relaid (w2.drewN (n1 + 1)) b 512 (layF g2 (4 + 4 * m) (4 + 4 * M.length - (4 + 4 * m)) (fun _ => 0))) b 512 pageT (layF g2 (4 + 4 * m) (4 + 4 * M.length - (4 + 4 * m)) (fun _ => 0))) := relaid_bk (by exact HG2.out) _
      have HO3 : Hid (Only (· = b) w (relaid (w2.drewN (n1 + 1)) b 512 (layF g2 (4 + 4 * m) (4 + 4 * M.length - (4 + 4 * m)) (fun _ => 0)))) := (HO.out.drewN _).trans (relaid_only _ _ _ _)
      have HF := Lib.hid (free_last HP2.out hm HA.out HT.out)
      generalize relaid (w2.drewN (n1 + 1)) b 512 (layF g2 (4 + 4 * m) (4 + 4 * M.length - (4 + 4 * m)) (fun _ => 0)) = w5 at HG3 HO3 ⊢
      have HL3 := Lib.hid (layF_lt HP2.out.lt (4 + 4 * m) (4 + 4 * M.length - (4 + 4 * m)) (f := fun _ => 0) (fun _ _ => by omega))
      have HS3 : Hid (leNum (layF g2 (4 + 4 * m) (4 + 4 * M.length - (4 + 4 * m)) (fun _ => 0)) 2 2 = st) := by rw [leNum_layF_out (by omega)]; exact HP2.out.st
      generalize layF g2 (4 + 4 * m) (4 + 4 * M.length - (4 + 4 * m)) (fun _ => 0) = g3 at HG3 HL3 HS3 HF
      go_wp2_with fail
      refine (start_any b g3 _ HG3.out HL3.out).mono ?_
      rintro e w6 ⟨rfl, rfl⟩
      rw [HS3.out]
      go_wp2_with fail
      refine (pset_any b m st g3 _ HG3.out (by omega) (by omega)).mono ?_
      rintro e w6 ⟨rfl, ho6, hb6⟩
      have HO6 := Lib.hid (HO3.out.trans ho6)
      have HB6 := Lib.hid hb6
      clear ho6 hb6
      go_wp2
      go_ret
      exact ⟨rfl, HO6.out, _, HB6.out, HF.out⟩

end Go.Proofs.Ytbibmgcklilpmaa
