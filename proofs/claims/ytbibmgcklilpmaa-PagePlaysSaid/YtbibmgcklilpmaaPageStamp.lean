/- The contract of page.Stamp. No condition. -/
import Derived.Test.YtbibmgcklilpmaaPageGet2
namespace Go.Lap

/-- What Stamp tells, and the versions behind it. -/
def pStampT (T : List (Option Tup)) (i : Int) (xmax : Nat) (pg sl : Int) : Int × List (Option Tup) :=
  if 1099511627776 < xmax ∨ farB pg sl = true then (3, T) else
    match tupAt T i with
    | none => (15, T)
    | some t => (0, T.set i.toNat (some (t.stamp xmax pg sl)))

end Go.Lap
namespace Go.Proofs.Ytbibmgcklilpmaa
open Go.RowKit Go.Lap

theorem page_stamp_nil (i : Int) (xmax : Nat) (pg sl : Int) (w : World) :
    Calls Try.prog 35 #[.pointer none, .int .i64 i, .int .u64 xmax, .agg #[.int .i64 pg, .int .i64 sl]] w fun e w' => e = .returned (.int .i64 15) ∧ Quiet w w' := by
  go_enter Try.func35, Try.ntmps35
  go_wp2_with fail
  refine (bytes_nil i _).mono ?_
  rintro e w1 ⟨rfl, n, rfl⟩
  go_wp2
  go_ret
  exact ⟨rfl, ((Only.refl _ _).alloc _).drewN n⟩

/-- 'bytesOf' at any slot, told by what comes of it. -/
theorem bytes_any (b st : Nat) (L : List Slot) (i : Int) (w : World) (h : PageAt w b L st) : ∃ A n c, (∀ m : Nat, Calls Try.prog 82 #[.pointer (some ⟨b, 0, none⟩), .int .i64 i] (w.drewN m) fun e w' => e = .returned (.slice A n c) ∧ ∃ k, w' = (w.drewN m).drewN k) ∧ (A.isNone = (slotAt L i).isNone) := by
  rcases hs : slotAt L i with _ | ⟨f, t⟩
  · exact ⟨none, 0, 0, fun m => bytes_none b st L i _ h hs, rfl⟩
  · exact ⟨_, _, _, fun m => bytes_some b st f t L i _ h hs, rfl⟩

set_option maxHeartbeats 400000 in
set_option maxRecDepth 100000 in
theorem page_stamp_form (b st : Nat) (L : List Slot) (i : Int) (xmax : Nat) (pg sl : Int) (w : World) (h : PageAt w b L st) (hx : 1099511627776 < xmax ∨ farB pg sl = true) :
    Calls Try.prog 35 #[.pointer (some ⟨b, 0, none⟩), .int .i64 i, .int .u64 xmax, .agg #[.int .i64 pg, .int .i64 sl]] w fun e w' => e = .returned (.int .i64 3) ∧ Quiet w w' := by
  have HP := Lib.hid (h.kept ((Only.refl (fun _ => False) w).alloc (.cells #[.int .i64 pg, .int .i64 sl] 51)) (fun x => x))
  obtain ⟨A, n, c, hA, _⟩ := bytes_any b st L i _ HP.out
  have HA := Lib.hid (hA 0)
  have HF := Lib.hid (far_any pg sl)
  have hx' : 1099511627776 < xmax ∨ (¬ 1099511627776 < xmax ∧ farB pg sl = true) := by
    by_cases h1 : 1099511627776 < xmax
    · exact Or.inl h1
    · exact Or.inr ⟨h1, hx.resolve_left h1⟩
  clear h hA hx
  rcases hx' with h1 | ⟨h1, h2⟩
  · go_enter Try.func35, Try.ntmps35
    go_wp2_with fail
    refine HA.out.mono ?_
    rintro e w1 ⟨rfl, k, rfl⟩
    go_wp2
    go_ret
    exact ⟨rfl, ((Only.refl _ _).alloc _).drewN _⟩
  · rw [h2] at HF
    have d1 : decide ((1099511627776 : Int) < xmax) = false := by simp; omega
    clear h2
    go_enter Try.func35, Try.ntmps35
    go_wp2_with fail
    refine HA.out.mono ?_
    rintro e w1 ⟨rfl, k, rfl⟩
    go_wp2_with fail
    refine (HF.out _).mono ?_
    rintro e w2 ⟨rfl, hq⟩
    have HQ : Hid (Quiet w w2) := (((Only.refl (fun _ => False) w).alloc _).drewN _).trans hq
    clear hq
    go_wp2
    go_ret
    exact ⟨rfl, HQ.out⟩

set_option maxHeartbeats 400000 in
set_option maxRecDepth 100000 in
theorem page_stamp_none (b st : Nat) (L : List Slot) (i : Int) (xmax : Nat) (pg sl : Int) (w : World) (h : PageAt w b L st) (hx : xmax ≤ 1099511627776) (hf : farB pg sl = false) (hi : slotAt L i = none) :
    Calls Try.prog 35 #[.pointer (some ⟨b, 0, none⟩), .int .i64 i, .int .u64 xmax, .agg #[.int .i64 pg, .int .i64 sl]] w fun e w' => e = .returned (.int .i64 15) ∧ Quiet w w' := by
  have heq := fun (w : World) (a : Option Addr) (n c : Nat) => Lib.run_eql_slice_nil (P := Try.prog) w 48 _ a n c 0 0 Try.underlying48
  have HP := Lib.hid (h.kept ((Only.refl (fun _ => False) w).alloc (.cells #[.int .i64 pg, .int .i64 sl] 51)) (fun x => x))
  have HI := Lib.hid hi
  have HF := Lib.hid (far_any pg sl)
  rw [hf] at HF
  have d1 : decide ((1099511627776 : Int) < xmax) = false := by simp; omega
  clear h hi hf
  go_enter Try.func35, Try.ntmps35
  go_wp2_with fail
  refine (bytes_none b st L i _ HP.out HI.out).mono ?_
  rintro e w1 ⟨rfl, k, rfl⟩
  go_wp2_with fail
  refine (HF.out _).mono ?_
  rintro e w2 ⟨rfl, hq⟩
  have HQ : Hid (Quiet w w2) := (((Only.refl (fun _ => False) w).alloc _).drewN _).trans hq
  clear hq
  go_wp2
  go_ret
  exact ⟨rfl, HQ.out⟩

/-- In Stamp: the page's bytes under way, the place in its box. -/
structure StampW (w W : World) (b : Nat) (pg sl : Int) (g : Nat → Nat) : Prop where
  only : Only (· = b) w W
  box : W.heap[w.heap.size]? = some (.cells #[.int .i64 pg, .int .i64 sl] 51 (0, 0))
  bk : Bk W b 512 pageT g

theorem StampW.drew {w W : World} {b : Nat} {pg sl : Int} {g : Nat → Nat} (h : StampW w W b pg sl g) : StampW w W.drew b pg sl g := ⟨h.only.drew, h.box, h.bk⟩
theorem StampW.put {w W W' : World} {b : Nat} {pg sl : Int} {g g' : Nat → Nat} (h : StampW w W b pg sl g) (hb : b < w.heap.size) (ho : Only (· = b) W W') (hk : Bk W' b 512 pageT g') : StampW w W' b pg sl g' :=
  ⟨h.only.trans ho, ho.get h.box (fun e => by omega), hk⟩
theorem StampW.cell0 {w W : World} {b : Nat} {pg sl : Int} {g : Nat → Nat} (h : StampW w W b pg sl g) : W.cell? ⟨w.heap.size, 0, none⟩ = some (.int .i64 pg) := by rw [cell_of h.box]; rfl
theorem StampW.cell1 {w W : World} {b : Nat} {pg sl : Int} {g : Nat → Nat} (h : StampW w W b pg sl g) : W.cell? ⟨w.heap.size, 1, none⟩ = some (.int .i64 sl) := by rw [cell_of h.box]; rfl

set_option maxHeartbeats 1000000 in
set_option maxRecDepth 100000 in
theorem page_stamp_some (b st f : Nat) (t : Tup) (L : List Slot) (i : Int) (xmax : Nat) (pg sl : Int) (w : World) (h : PageAt w b L st) (hx : xmax ≤ 1099511627776) (hf : farB pg sl = false) (hi : slotAt L i = some (f, t)) :
    Calls Try.prog 35 #[.pointer (some ⟨b, 0, none⟩), .int .i64 i, .int .u64 xmax, .agg #[.int .i64 pg, .int .i64 sl]] w fun e w' => e = .returned (.int .i64 0) ∧ Only (· = b) w w' ∧ PageAt w' b (L.set i.toNat (some (f, t.stamp xmax pg sl))) st := by
  have heq := fun (w : World) (a : Option Addr) (n c : Nat) => Lib.run_eql_slice_nil (P := Try.prog) w 48 _ a n c 0 0 Try.underlying48
  have hq0 : Quiet w (w.alloc (.cells #[.int .i64 pg, .int .i64 sl] 51)) := (Only.refl (fun _ => False) w).alloc (.cells #[.int .i64 pg, .int .i64 sl] 51)
  have HP := Lib.hid (h.kept hq0 (fun x => x))
  have hbl := h.lt
  have HF := Lib.hid (far_any pg sl)
  rw [hf] at HF
  have hfb := Tup.far_bounds hf
  have d1 : decide ((1099511627776 : Int) < xmax) = false := by simp; omega
  obtain ⟨k, rfl, hk, hs⟩ := slotAt_some hi
  rw [Int.toNat_natCast]
  have HBY := Lib.hid (bytes_some b st f t L k _ HP.out hi)
  obtain ⟨g, hg, hp⟩ := HP.out
  have HST := Lib.hid (hp.stamp hs hx hf)
  obtain ⟨v1, v2, v3, v4⟩ := hp.ver k f t hs
  have hts := Tup.size_pos t
  obtain ⟨z, Hz⟩ : ∃ z, Hid (t.size = z) := ⟨_, rfl⟩
  rw [Hz.out] at v2 hts HBY
  obtain ⟨C, HC⟩ : ∃ C, Hid (512 - f = C) := ⟨_, rfl⟩
  have hC : z ≤ C := by rw [← HC.out]; show z ≤ 512 - f; omega
  rw [HC.out] at HBY
  have b3 : (24 : Int) ≤ C := by omega
  have b4 : (28 : Int) ≤ C := by omega
  have b5 : (30 : Int) ≤ C := by omega
  have n2 : ¬ C = 16 := by omega
  have n3 : ¬ C = 24 := by omega
  have n4 : ¬ C = 28 := by omega
  have HG := Lib.hid hg
  clear h hi hf hg hp hs v3 v4 hq0 HP
  go_enter Try.func35, Try.ntmps35
  go_wp2_with fail
  refine HBY.out.mono ?_
  rintro e w1 ⟨rfl, n1, rfl⟩
  go_wp2_with fail
  refine (HF.out _).mono ?_
  rintro e w2 ⟨rfl, hq⟩
  have H2 : Hid (StampW w w2 b pg sl g) := ⟨((((Only.refl (fun _ => False) w).alloc _).drewN _).trans hq).mono (fun _ _ x => x.elim), hq.get (alloc_new w _) (fun x => x), Bk.kept (S := fun _ => False) (w := (w.alloc (.cells #[.int .i64 pg, .int .i64 sl] 51)).drewN n1) HG.out hq (fun x => x)⟩
  clear hq HF HBY
  go_wp2_with fail
  refine (put_any b 512 (f + 16) 8 _ xmax pageT g _ H2.out.bk (by omega) (by omega) (by omega) (by omega)).mono ?_
  rintro e w3 ⟨rfl, ho, hb⟩
  have H3 := Lib.hid (H2.out.put hbl ho hb)
  clear ho hb H2
  have c0 := H3.out.cell0
  go_wp2_with fail
  go_region_held3 (fun w' => w'.cell? ⟨w.heap.size, 0, none⟩ = some (.int .i64 pg)) (first | go_keep | exact H4.out.cell0 | fail)
    (first | (go_at_call 84; go_must ((with_reducible refine (put_eq b 512 (f + 24) 4 _ (pg + 1).toNat _ pageT _ _ H3.out.drew.bk (by omega) (by omega) (by omega) (wrap_next pg (by omega) (by omega)) (by omega)).mono ?_); rintro e w4 ⟨rfl, ho, hb⟩; have H4 := Lib.hid (H3.out.drew.put hbl ho hb); clear ho hb)) | fail)
  clear c0 H3
  go_wp2_with fail
  have c1 := H4.out.cell1
  go_region_held3 (fun w' => w'.cell? ⟨w.heap.size, 1, none⟩ = some (.int .i64 sl)) (first | go_keep | exact H5.out.cell1 | fail)
    (first | (go_at_call 84; go_must ((with_reducible refine (put_eq b 512 (f + 28) 2 _ (sl + 1).toNat _ pageT _ _ H4.out.drew.bk (by omega) (by omega) (by omega) (wrap_next sl (by omega) (by omega)) (by omega)).mono ?_); rintro e w5 ⟨rfl, ho, hb⟩; have H5 := Lib.hid (H4.out.drew.put hbl ho hb); clear ho hb)) | fail)
  go_wp2
  go_ret
  exact ⟨rfl, H5.out.only, _, H5.out.bk, HST.out⟩

theorem set_tups_some (L : List Slot) (i f : Nat) (t : Tup) : tups (L.set i (some (f, t))) = (tups L).set i (some t) := by
  unfold tups
  rw [List.map_set]; rfl

theorem pageT_stamp (b : Nat) (T : List (Option Tup)) (i : Int) (xmax : Nat) (pg sl : Int) (w : World) (h : PageT w b T) :
    Calls Try.prog 35 #[.pointer (some ⟨b, 0, none⟩), .int .i64 i, .int .u64 xmax, .agg #[.int .i64 pg, .int .i64 sl]] w fun e w' => e = .returned (.int .i64 (pStampT T i xmax pg sl).1) ∧ Only (· = b) w w' ∧ PageT w' b (pStampT T i xmax pg sl).2 := by
  obtain ⟨L, st, h1, rfl⟩ := h
  by_cases hx : 1099511627776 < xmax ∨ farB pg sl = true
  · rw [show pStampT (tups L) i xmax pg sl = (3, tups L) from if_pos hx]
    refine (page_stamp_form b st L i xmax pg sl w h1 hx).mono ?_
    rintro e w' ⟨rfl, hq⟩
    exact ⟨rfl, hq.mono (fun _ _ x => x.elim), L, st, h1.kept hq (fun x => x), rfl⟩
  · have hx1 : xmax ≤ 1099511627776 := by
      rcases Nat.lt_or_ge 1099511627776 xmax with x | x
      · exact absurd (Or.inl x) hx
      · exact x
    have hx2 : farB pg sl = false := by
      rcases hh : farB pg sl with _ | _
      · rfl
      · exact absurd (Or.inr hh) hx
    unfold pStampT
    rw [if_neg hx, slot_tups]
    rcases hs : slotAt L i with _ | ⟨f, t⟩
    · refine (page_stamp_none b st L i xmax pg sl w h1 hx1 hx2 hs).mono ?_
      rintro e w' ⟨rfl, hq⟩
      exact ⟨rfl, hq.mono (fun _ _ x => x.elim), L, st, h1.kept hq (fun x => x), rfl⟩
    · refine (page_stamp_some b st f t L i xmax pg sl w h1 hx1 hx2 hs).mono ?_
      rintro e w' ⟨rfl, ho, hp⟩
      exact ⟨rfl, ho, _, _, hp, set_tups_some _ _ _ _⟩

theorem pageT_get_none (b : Nat) (T : List (Option Tup)) (i : Int) (w : World) (h : PageT w b T) (hi : tupAt T i = none) : Calls Try.prog 37 #[.pointer (some ⟨b, 0, none⟩), .int .i64 i] w (GetNone w) := by
  obtain ⟨L, st, h1, rfl⟩ := h
  rw [slot_tups] at hi
  refine page_get_none b st L i w h1 ?_
  rcases hs : slotAt L i with _ | x
  · rfl
  · rw [hs] at hi; cases hi

theorem pageT_get_some (b : Nat) (t : Tup) (T : List (Option Tup)) (i : Int) (w : World) (h : PageT w b T) (hi : tupAt T i = some t) : Calls Try.prog 37 #[.pointer (some ⟨b, 0, none⟩), .int .i64 i] w (GetSome w t) := by
  obtain ⟨L, st, h1, rfl⟩ := h
  rw [slot_tups] at hi
  rcases hs : slotAt L i with _ | ⟨f, t'⟩
  · rw [hs] at hi; cases hi
  · rw [hs] at hi
    have : t' = t := by injection hi
    subst this
    exact page_get_some b st f t' L i w h1 hs

end Go.Proofs.Ytbibmgcklilpmaa
