/- The contract of page.Insert. No condition. -/
import Derived.Test.YtbibmgcklilpmaaPageMove
namespace Go.Lap
open Go.RowKit

theorem spent_sum (L : List Slot) : spent L = 4 * L.length + sumS L := by
  induction L with
  | nil => rfl
  | cons s L ih =>
    have e1 : spent (s :: L) = 4 + Slot.size s + spent L := by simp [spent]
    have e2 : sumS (s :: L) = Slot.size s + sumS L := by simp [sumS]
    rw [e1, e2, ih, List.length_cons]
    omega

/-- The slots behind a version that is put. -/
def insCount (L : List Slot) : Nat := max L.length (freeIdx L + 1)

def insTo (L : List Slot) (st : Nat) (t : Tup) : List Slot × Nat :=
  if st < t.size + (4 + 4 * insCount L) then (insL (movTo L).1 (freeIdx L) (some ((movTo L).2 - t.size, t)), (movTo L).2 - t.size)
  else (insL L (freeIdx L) (some (st - t.size, t)), st - t.size)

def pIns (L : List Slot) (st : Nat) (t : Tup) : Int × Int × List Slot × Nat :=
  if t.rightB = false then (0, 3, L, st) else if roomOf L < t.data.length then (0, 12, L, st) else (freeIdx L, 0, (insTo L st t).1, (insTo L st t).2)

theorem room_fit {L : List Slot} {n : Nat} (h : ¬ roomOf L < n) : 4 + 4 * insCount L + sumS L + (30 + n) ≤ 512 := by
  unfold roomOf at h
  have h1 := spent_sum L
  have h2 := freeIdx_le L
  unfold insCount
  by_cases e : freeIdx L = L.length
  · rw [if_pos e] at h
    omega
  · rw [if_neg e] at h
    omega

theorem movTo_shape (L : List Slot) : (movTo L).1.map (fun s => s.isNone) = L.map (fun s => s.isNone) := by
  induction hn : L.length generalizing L with
  | zero =>
    have : L = [] := List.eq_nil_of_length_eq_zero hn
    subst this
    rfl
  | succ n ih =>
    have hne : L ≠ [] := fun e => by subst e; simp at hn
    obtain ⟨M, s, rfl⟩ : ∃ M s, L = M ++ [s] := ⟨L.dropLast, L.getLast hne, (List.dropLast_concat_getLast hne).symm⟩
    have hM : M.length = n := by simpa using hn
    rw [movTo_snoc, List.map_append, ← ih M hM]
    rcases s with _ | ⟨f, t⟩ <;> simp [movStep]

theorem movTo_length (L : List Slot) : (movTo L).1.length = L.length := by
  have := congrArg List.length (movTo_shape L)
  simpa using this

theorem movTo_free (L : List Slot) : ∀ s, (movTo L).1[freeIdx L]? = some s → s = none := by
  intro s hs
  have h1 : ((movTo L).1.map (fun s => s.isNone))[freeIdx L]? = some s.isNone := by rw [List.getElem?_map, hs]; rfl
  rw [movTo_shape, List.getElem?_map] at h1
  rcases hx : L[freeIdx L]? with _ | y
  · rw [hx] at h1; cases h1
  · have := freeIdx_free L y hx
    subst this
    rw [hx] at h1
    have h2 : some true = some s.isNone := h1
    injection h2 with h2
    cases s
    · rfl
    · cases h2

end Go.Lap
namespace Go.Proofs.Ytbibmgcklilpmaa
open Go.RowKit Go.Lap

theorem page_insert_nil (t : Tup) (A : Option Addr) (cap : Nat) (w : World) :
    Calls Try.prog 30 #[.pointer none, tupV t A cap] w fun e w' => e = .returned (.tuple #[.int .i64 0, .int .i64 15]) ∧ Quiet w w' := by
  unfold tupV
  go_enter Try.func30, Try.ntmps30
  go_wp2
  go_ret2
  exact ⟨rfl, (Only.refl _ _).alloc _⟩

theorem own_pos {w : World} {e : TypeId} {v : Value} {n : Nat} {xs : List Value} (h : w.ownsRow 0 e 1 v n xs) (hn : 0 < n) :
    ∃ g cap, v = .slice (some ⟨g, 0, none⟩) n cap ∧ n ≤ cap ∧ cap ≤ maxLen ∧ g < w.heap.size ∧ ∀ j u, xs[j]? = some u → w.cell? ⟨g, j, none⟩ = some u := by
  rcases h.2 with ⟨_, rfl⟩ | ⟨g, cap, cur, rfl, _, hh, r1, r2, _⟩
  · omega
  · exact ⟨g, cap, rfl, r1, r2, lt_of_get hh, fun j u hu => by have := h.cells rfl j u hu; rw [add_none, Nat.zero_add] at this; exact this⟩

theorem ins_final {w : World} {b st S1 z c fi : Nat} {L L1 : List Slot} {g4 : Nat → Nat} {t : Tup} (hp : Pg g4 L1 S1) (hl : L1.length = L.length) (ht : t.Ok) (hfi : freeIdx L = fi) (hfr : ∀ s, L1[freeIdx L]? = some s → s = none) (hz : t.size = z) (hc : insCount L = c)
    (hto : insTo L st t = (insL L1 fi (some (S1 - z, t)), S1 - z)) (hS : z + (4 + 4 * c) ≤ S1) (hb : Bk w b 512 pageT (putN (putN (layF (putN (putN g4 0 2 c) 2 2 (S1 - z)) (S1 - z) z t.ver) (4 + 4 * fi) 2 (S1 - z)) (4 + 4 * fi + 2) 2 z)) :
    PageAt w b (insTo L st t).1 (insTo L st t).2 := by
  subst hz hfi
  have hle := freeIdx_le L
  have hcc : max L1.length (freeIdx L + 1) = c := by rw [hl]; exact hc
  have := hp.insert (slot := freeIdx L) (t := t) (by omega) hfr ht (by rw [hcc]; omega)
  rw [hcc] at this
  unfold insG at this
  rw [show 6 + 4 * freeIdx L = 4 + 4 * freeIdx L + 2 by omega] at this
  rw [hto]
  exact ⟨_, hb, this⟩

/-- The version in its box. -/
def boxC (row xmin xmax : Nat) (pg sl : Int) (A : Option Addr) (n cap : Nat) : Array Value := #[.int .u64 row, .int .u64 xmin, .int .u64 xmax, .int .i64 pg, .int .i64 sl, .slice A n cap]

theorem box_cells {w : World} {k : Nat} {row xmin xmax : Nat} {pg sl : Int} {A : Option Addr} {n cap : Nat} {t : TypeId} {fr : Nat × Nat} (h : w.heap[k]? = some (.cells #[.int .u64 row, .int .u64 xmin, .int .u64 xmax, .int .i64 pg, .int .i64 sl, .slice A n cap] t fr)) :
    w.cell? ⟨k, 0, none⟩ = some (.int .u64 row) ∧ w.cell? ⟨k, 1, none⟩ = some (.int .u64 xmin) ∧ w.cell? ⟨k, 2, none⟩ = some (.int .u64 xmax) ∧ w.cell? ⟨k, 3, none⟩ = some (.int .i64 pg) ∧ w.cell? ⟨k, 4, none⟩ = some (.int .i64 sl) ∧ w.cell? ⟨k, 5, none⟩ = some (.slice A n cap) :=
  ⟨by rw [cell_of h]; rfl, by rw [cell_of h]; rfl, by rw [cell_of h]; rfl, by rw [cell_of h]; rfl, by rw [cell_of h]; rfl, by rw [cell_of h]; rfl⟩

set_option maxHeartbeats 1000000 in
set_option maxRecDepth 100000 in
theorem page_insert_ok (b st : Nat) (L : List Slot) (t : Tup) (A : Option Addr) (cap : Nat) (S : Nat → Prop) (w : World) (h : PageAt w b L st) (ht : t.Ok) (hd : Rd w S 1 A t.data.length (bytesV t.data)) (hroom : ¬ roomOf L < t.data.length) :
    Calls Try.prog 30 #[.pointer (some ⟨b, 0, none⟩), tupV t A cap] w fun e w' => e = .returned (.tuple #[.int .i64 (freeIdx L), .int .i64 0]) ∧ Only (· = b) w w' ∧ PageAt w' b (insTo L st t).1 (insTo L st t).2 := by
  have hbd := ht.bounds
  have hfit := room_fit hroom
  have hfi := freeIdx_le L
  have hl := h.len
  have hbl := h.lt
  have HD := Lib.hid hd
  have HP := Lib.hid h
  have HT := Lib.hid ht
  have HR := Lib.hid (right_any t A cap)
  rw [ht.right] at HR
  have HK : Hid (∀ W, Quiet w W → Calls Try.prog 77 #[tupV t A cap] W (PackPost W t)) := fun W x => pack_any t A cap S W ht (hd.kept x (fun _ _ x => x))
  have hroom' : ((t.data.length : Int)) ≤ roomOf L := by omega
  clear hd h ht hroom
  unfold tupV at HR HK ⊢
  obtain ⟨R, HRM⟩ : ∃ R, Hid (roomOf L = R) := ⟨_, rfl⟩
  rw [HRM.out] at hroom'
  obtain ⟨fi, HFI⟩ : ∃ fi, Hid (freeIdx L = fi) := ⟨_, rfl⟩
  rw [HFI.out] at hfi ⊢
  go_enter Try.func30, Try.ntmps30
  go_wp2_with fail
  refine (HR.out _).mono ?_
  rintro e w1 ⟨rfl, hq1⟩
  have hbox : w1.heap[w.heap.size]? = _ := hq1.get (alloc_new w _) (fun x => x)
  obtain ⟨c0, c1, c2, c3, c4, c5⟩ := box_cells hbox
  have HBX := Lib.hid hbox
  have HQ1 : Hid (Quiet w w1) := ((Only.refl _ _).alloc _).trans hq1
  have hsz1 : w.heap.size < w1.heap.size := by have := hq1.size; simp at this; omega
  have HP1 : Hid (PageAt w1 b L st) := HP.out.kept HQ1.out (fun x => x)
  have HROM : Hid (∀ n : Nat, Calls Try.prog 66 #[.pointer (some ⟨b, 0, none⟩)] (w1.drewN n) fun e w' => e = .returned (.int .i64 R) ∧ ∃ k, w' = (w1.drewN n).drewN k) := fun n => by have := page_room b st L (w1.drewN n) HP1.out; rw [HRM.out] at this; exact this
  have HFREE : Hid (∀ n : Nat, Calls Try.prog 76 #[.pointer (some ⟨b, 0, none⟩)] (w1.drewN n) fun e w' => e = .returned (.int .i64 fi) ∧ ∃ k, w' = (w1.drewN n).drewN k) := fun n => by have := page_free b st L (w1.drewN n) HP1.out; rw [HFI.out] at this; exact this
  clear hq1 hbox
  go_wp2_with fail
  go_quiet ((go_at_call 66; exact Calls.quiet_of (HROM.out _)))
  go_wp2_with fail
  go_region_held3 (fun w' => w'.cell? ⟨w.heap.size, 0, none⟩ = some (.int .u64 t.row) ∧ w'.cell? ⟨w.heap.size, 1, none⟩ = some (.int .u64 t.xmin) ∧ w'.cell? ⟨w.heap.size, 2, none⟩ = some (.int .u64 t.xmax) ∧ w'.cell? ⟨w.heap.size, 3, none⟩ = some (.int .i64 t.pg) ∧ w'.cell? ⟨w.heap.size, 4, none⟩ = some (.int .i64 t.sl) ∧ w'.cell? ⟨w.heap.size, 5, none⟩ = some (.slice A t.data.length cap))
    (first | go_keep | exact box_cells (HQ2.out.get HBX.out (fun x => x)) | fail)
    (first
      | (go_at_call 76; go_must ((with_reducible refine (HFREE.out _).mono ?_); rintro e w2 ⟨rfl, n3, rfl⟩))
      | (go_at_call 77; go_must ((with_reducible refine (HK.out _ (HQ1.out.drewN _)).mono ?_); rintro e w3 ⟨v, rfl, hq3, hv, hown⟩; have HQ2 := Lib.hid hq3; have HV := Lib.hid hv; have HOWN := Lib.hid hown; clear hq3 hv hown))
      | fail)
  obtain ⟨z, Hz⟩ : ∃ z, Hid (t.size = z) := ⟨_, rfl⟩
  have hz : z ≤ 30 + t.data.length ∧ 30 + t.data.length ≤ z := by rw [← Hz.out]; exact ⟨Nat.le_refl _, Nat.le_refl _⟩
  have hown := HOWN.out
  rw [Hz.out] at hown
  obtain ⟨gb, vc, hv, hvc, hvm, hvl, hvs⟩ := own_pos hown (by omega)
  have hgb : ¬ gb = b := by
    have := HV.out gb (by rw [hv]; rfl)
    have : w1.heap.size ≤ gb := this
    omega
  have HSRC : Hid (∀ j, j < z → w3.cell? ⟨gb, 0 + j, none⟩ = some (.int .u8 (t.ver j))) := fun j hj => by rw [Nat.zero_add]; exact hvs j _ (by simp [firstV, hj])
  have HP3 : Hid (PageAt w3 b L st) := PageAt.kept (S := fun _ => False) (w := w1.drewN (nq + 1 + n3)) HP1.out HQ2.out (fun x => x)
  have HO3 : Hid (Only (· = b) w w3) := (((HQ1.out.drewN _).trans HQ2.out).mono (fun _ _ x => x.elim))
  unfold maxLen at hvm
  subst hv
  obtain ⟨c, Hc⟩ : ∃ c, Hid (insCount L = c) := ⟨_, rfl⟩
  rw [Hc.out] at hfit
  have hcm : max (L.length : Int) ((fi : Int) + 1) = c := by have := Hc.out; unfold insCount at this; rw [HFI.out] at this; omega
  have hlc : L.length ≤ c ∧ fi < c := by omega
  have Hcm := Lib.hid hcm
  have hst := HP3.out
  obtain ⟨_, _, hpp⟩ := hst
  have hst1 := hpp.le
  clear hpp hcm hown hvs HOWN HV HQ2 HK HR HFREE HROM HBX c0 c1 c2 c3 c4 c5
  go_wp2_with fail
  refine (page_count b st L _ HP3.out).mono ?_
  rintro e w7 ⟨rfl, rfl⟩
  go_wp2_with fail
  rw [Hcm.out]
  refine (page_start b st L _ HP3.out).mono ?_
  rintro e w7 ⟨rfl, rfl⟩
  by_cases hmv : st < z + (4 + 4 * c)
  · have HTO : Hid (insTo L st t = (insL (movTo L).1 fi (some ((movTo L).2 - z, t)), (movTo L).2 - z)) := by unfold insTo; rw [Hc.out, Hz.out, HFI.out, if_pos hmv]; rfl
    have hd : decide ((st : Int) - z < 4 + 4 * c) = true := by simp; omega
    go_wp2_with fail
    refine (page_move b st L _ HP3.out (by omega) (by omega)).mono ?_
    rintro e w4 ⟨rfl, ho4, hp4⟩
    have HO4 := Lib.hid (HO3.out.trans ho4)
    have HSRC4 : Hid (∀ j, j < z → w4.cell? ⟨gb, 0 + j, none⟩ = some (.int .u8 (t.ver j))) := fun j hj => ho4.cell (HSRC.out j hj) hgb
    have HL1 := Lib.hid (movTo_length L)
    have HFR := Lib.hid (movTo_free L)
    have hat := movTo_at L
    obtain ⟨L1, HLL⟩ : ∃ L1, Hid ((movTo L).1 = L1) := ⟨_, rfl⟩
    obtain ⟨S1, HSS⟩ : ∃ S1, Hid ((movTo L).2 = S1) := ⟨_, rfl⟩
    rw [HLL.out, HSS.out] at hp4 HTO
    rw [HLL.out] at HL1 HFR
    rw [HSS.out] at hat
    have HP4 := Lib.hid hp4
    have hS : z + (4 + 4 * c) ≤ S1 := by omega
    clear hat ho4 hp4 HP3 HSRC HLL HSS
    go_wp2_with fail
    refine (page_start b S1 L1 _ HP4.out).mono ?_
    rintro e w8 ⟨rfl, rfl⟩
    obtain ⟨g4, hg4, hp4⟩ := HP4.out
    have HG4 := Lib.hid hg4
    have HPG4 := Lib.hid hp4
    have hst4 := hp4.le
    clear hg4 hp4
    have hsl := fun W => page_from b (S1 - z) ((S1 : Int) - z) (by omega) (by omega) W
    go_wp2_with fail
    rw [show ((S1 : Int) - (z : Int)) = ((S1 - z : Nat) : Int) by omega] at hsl ⊢
    refine (pset_any b c (S1 - z) g4 _ HG4.out (by omega) (by omega)).mono ?_
    rintro e w5 ⟨rfl, ho5, hb5⟩
    have HO5 := Lib.hid (HO4.out.trans ho5)
    have HB5 := Lib.hid hb5
    have HSRC5 : Hid (∀ j, j < z → w5.cell? ⟨gb, 0 + j, none⟩ = some (.int .u8 (t.ver j))) := fun j hj => ho5.cell (HSRC4.out j hj) hgb
    clear ho5 hb5
    have hcp := fun ty => copy_run w5 b 512 (S1 - z) (512 - (S1 - z)) (512 - (S1 - z)) pageT _ HB5.out gb 0 z vc t.ver HSRC5.out (by omega) (by omega) ty
    go_wp2_with fail
    refine (point_any b fi (S1 - z) z _ _ (relaid_bk (by exact HB5.out) _) (by omega) (by omega) (by omega)).mono ?_
    rintro e w6 ⟨rfl, ho6, hb6⟩
    have HX : Hid (Only (· = b) w w6 ∧ PageAt w6 b (insTo L st t).1 (insTo L st t).2) := ⟨HO5.out.trans ((relaid_only _ _ _ _).trans ho6), ins_final HPG4.out HL1.out HT.out HFI.out HFR.out Hz.out Hc.out HTO.out (by omega) hb6⟩
    clear ho6 hb6 hcp hsl
    go_wp2
    go_ret2
    exact ⟨rfl, HX.out⟩
  · have HTO : Hid (insTo L st t = (insL L fi (some (st - z, t)), st - z)) := by unfold insTo; rw [Hc.out, Hz.out, HFI.out, if_neg hmv]; rfl
    have hd : decide ((st : Int) - z < 4 + 4 * c) = false := by simp; omega
    have HO4 := HO3
    have HSRC4 := HSRC
    have HFR := Lib.hid (freeIdx_free L)
    have HP4 := HP3
    have hS : z + (4 + 4 * c) ≤ st := by omega
    clear HP3 HSRC
    go_wp2_with fail
    refine (page_start b st L _ HP4.out).mono ?_
    rintro e w8 ⟨rfl, rfl⟩
    obtain ⟨g4, hg4, hp4⟩ := HP4.out
    have HG4 := Lib.hid hg4
    have HPG4 := Lib.hid hp4
    have hst4 := hp4.le
    clear hg4 hp4
    have hsl := fun W => page_from b (st - z) ((st : Int) - z) (by omega) (by omega) W
    go_wp2_with fail
    rw [show ((st : Int) - (z : Int)) = ((st - z : Nat) : Int) by omega] at hsl ⊢
    refine (pset_any b c (st - z) g4 _ HG4.out (by omega) (by omega)).mono ?_
    rintro e w5 ⟨rfl, ho5, hb5⟩
    have HO5 := Lib.hid (HO4.out.trans ho5)
    have HB5 := Lib.hid hb5
    have HSRC5 : Hid (∀ j, j < z → w5.cell? ⟨gb, 0 + j, none⟩ = some (.int .u8 (t.ver j))) := fun j hj => ho5.cell (HSRC4.out j hj) hgb
    clear ho5 hb5
    have hcp := fun ty => copy_run w5 b 512 (st - z) (512 - (st - z)) (512 - (st - z)) pageT _ HB5.out gb 0 z vc t.ver HSRC5.out (by omega) (by omega) ty
    go_wp2_with fail
    refine (point_any b fi (st - z) z _ _ (relaid_bk (by exact HB5.out) _) (by omega) (by omega) (by omega)).mono ?_
    rintro e w6 ⟨rfl, ho6, hb6⟩
    have HX : Hid (Only (· = b) w w6 ∧ PageAt w6 b (insTo L st t).1 (insTo L st t).2) := ⟨HO5.out.trans ((relaid_only _ _ _ _).trans ho6), ins_final HPG4.out rfl HT.out HFI.out HFR.out Hz.out Hc.out HTO.out (by omega) hb6⟩
    clear ho6 hb6 hcp hsl
    go_wp2
    go_ret2
    exact ⟨rfl, HX.out⟩


set_option maxHeartbeats 1000000 in
set_option maxRecDepth 100000 in
theorem page_insert_form (b : Nat) (t : Tup) (A : Option Addr) (cap : Nat) (w : World) (ht : t.rightB = false) :
    Calls Try.prog 30 #[.pointer (some ⟨b, 0, none⟩), tupV t A cap] w fun e w' => e = .returned (.tuple #[.int .i64 0, .int .i64 3]) ∧ Quiet w w' := by
  have HR := Lib.hid (right_any t A cap)
  rw [ht] at HR
  unfold tupV at HR ⊢
  clear ht
  go_enter Try.func30, Try.ntmps30
  go_wp2_with fail
  refine (HR.out _).mono ?_
  rintro e w1 ⟨rfl, hq1⟩
  have HQ1 : Hid (Quiet w w1) := ((Only.refl _ _).alloc _).trans hq1
  clear hq1
  go_wp2
  go_ret2
  exact ⟨rfl, HQ1.out⟩

set_option maxHeartbeats 1000000 in
set_option maxRecDepth 100000 in
theorem page_insert_full (b st : Nat) (L : List Slot) (t : Tup) (A : Option Addr) (cap : Nat) (w : World) (h : PageAt w b L st) (ht : t.rightB = true) (hroom : roomOf L < t.data.length) :
    Calls Try.prog 30 #[.pointer (some ⟨b, 0, none⟩), tupV t A cap] w fun e w' => e = .returned (.tuple #[.int .i64 0, .int .i64 12]) ∧ Quiet w w' := by
  have HR := Lib.hid (right_any t A cap)
  rw [ht] at HR
  have HP := Lib.hid h
  unfold tupV at HR ⊢
  clear ht h
  obtain ⟨R, HRM⟩ : ∃ R, Hid (roomOf L = R) := ⟨_, rfl⟩
  rw [HRM.out] at hroom
  go_enter Try.func30, Try.ntmps30
  go_wp2_with fail
  refine (HR.out _).mono ?_
  rintro e w1 ⟨rfl, hq1⟩
  have hbox : w1.heap[w.heap.size]? = _ := hq1.get (alloc_new w _) (fun x => x)
  obtain ⟨c0, c1, c2, c3, c4, c5⟩ := box_cells hbox
  have HQ1 : Hid (Quiet w w1) := ((Only.refl _ _).alloc _).trans hq1
  have HP1 : Hid (PageAt w1 b L st) := HP.out.kept HQ1.out (fun x => x)
  have HROM : Hid (∀ n : Nat, Calls Try.prog 66 #[.pointer (some ⟨b, 0, none⟩)] (w1.drewN n) fun e w' => e = .returned (.int .i64 R) ∧ ∃ k, w' = (w1.drewN n).drewN k) := fun n => by have := page_room b st L (w1.drewN n) HP1.out; rw [HRM.out] at this; exact this
  clear hq1 hbox c0 c1 c2 c3 c4
  go_wp2_with fail
  go_quiet ((go_at_call 66; exact Calls.quiet_of (HROM.out _)))
  go_wp2
  go_ret2
  exact ⟨rfl, HQ1.out.drewN _⟩

/-- Insert, whole. -/
theorem page_insert (b st : Nat) (L : List Slot) (t : Tup) (A : Option Addr) (cap : Nat) (S : Nat → Prop) (w : World) (h : PageAt w b L st) (hby : ∀ x ∈ t.data, x < 256) (hd : Rd w S 1 A t.data.length (bytesV t.data)) :
    Calls Try.prog 30 #[.pointer (some ⟨b, 0, none⟩), tupV t A cap] w fun e w' => e = .returned (.tuple #[.int .i64 (pIns L st t).1, .int .i64 (pIns L st t).2.1]) ∧ Only (· = b) w w' ∧ PageAt w' b (pIns L st t).2.2.1 (pIns L st t).2.2.2 := by
  rcases ht : t.rightB with _ | _
  · refine (page_insert_form b t A cap w ht).mono ?_
    rintro e w' ⟨rfl, hq⟩
    rw [show pIns L st t = (0, 3, L, st) from if_pos ht]
    exact ⟨rfl, hq.mono (fun _ _ x => x.elim), h.kept hq (fun x => x)⟩
  · by_cases hr : roomOf L < t.data.length
    · refine (page_insert_full b st L t A cap w h ht hr).mono ?_
      rintro e w' ⟨rfl, hq⟩
      rw [show pIns L st t = (0, 12, L, st) by unfold pIns; rw [if_neg (by simp [ht]), if_pos hr]]
      exact ⟨rfl, hq.mono (fun _ _ x => x.elim), h.kept hq (fun x => x)⟩
    · refine (page_insert_ok b st L t A cap S w h ⟨ht, hby⟩ hd hr).mono ?_
      rintro e w' ⟨rfl, ho, hp⟩
      rw [show pIns L st t = ((freeIdx L : Int), 0, (insTo L st t).1, (insTo L st t).2) by unfold pIns; rw [if_neg (by simp [ht]), if_neg hr]]
      exact ⟨rfl, ho, hp⟩

end Go.Proofs.Ytbibmgcklilpmaa
