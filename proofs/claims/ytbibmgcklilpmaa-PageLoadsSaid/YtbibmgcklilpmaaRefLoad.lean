/- The contract of ref.Load, of any bytes. No condition. -/
import Derived.Test.YtbibmgcklilpmaaRefLoad0
import Derived.Test.YtbibmgcklilpmaaBoxed
import Derived.Test.YtbibmgcklilpmaaRefPage5
namespace Go.Proofs.Ytbibmgcklilpmaa
open Go.RowKit Go.Lap

theorem wrap_u64 (n : Nat) (h : n < 18446744073709551616) : IntKind.u64.wrap (n : Int) = (n : Int) := by
  simp [IntKind.wrap, IntKind.bits, IntKind.signed]
  omega

def RLoadPost (g : Nat → Nat) (w : World) (e : Ending) (w' : World) : Prop :=
  Quiet w w' ∧ ((PgOk g ∧ ∃ xb L st, e = .returned (.pointer (some ⟨xb, 0, none⟩)) ∧ Pg g L st ∧ RefPg w' xb (fun k => w.heap.size ≤ k) L st) ∨ (¬ PgOk g ∧ e = .returned (.pointer none)))

theorem rload_no {g : Nat → Nat} {w w' : World} (h : ¬ PgOk g) (hq : Quiet w w') : RLoadPost g w (.returned (.pointer none)) w' := ⟨hq, Or.inr ⟨h, rfl⟩⟩

theorem row_eq (a x r : Nat) (ha : a < 256 ^ 7) (hx : x < 256) (hr : r = a + 72057594037927936 * x) : IntKind.u64.wrap (IntKind.u64.wrap (a : Int) + IntKind.u64.wrap (IntKind.u64.wrap (x : Int) * 72057594037927936)) = (r : Int) := by
  have h1 : IntKind.u64.wrap (a : Int) = (a : Int) := wrap_u64 a (by omega)
  have h2 : IntKind.u64.wrap (x : Int) = (x : Int) := wrap_u64 x (by omega)
  have h3 : IntKind.u64.wrap ((x : Int) * 72057594037927936) = ((x * 72057594037927936 : Nat) : Int) := by
    have := wrap_u64 (x * 72057594037927936) (by omega)
    rw [← this]
    congr 1
  rw [h1, h2, h3]
  have := wrap_u64 (a + x * 72057594037927936) (by omega)
  rw [show (a : Int) + ((x * 72057594037927936 : Nat) : Int) = ((a + x * 72057594037927936 : Nat) : Int) by omega, this, hr]
  omega

/-- While it is loaded. -/
structure LdW (w wr : World) (ob xb : Nat) (o : Nat → Bool) (L : List Slot) (st : Nat) : Prop where
  quiet : Quiet w wr
  own : wr.heap[ob]? = some (.cells (tab 512 (boolF o)) 4 (0, 0))
  page : ∃ v rows, RefPgAt wr xb (fun k => w.heap.size ≤ k ∧ k ≠ ob) L st v rows
  ne : w.heap.size ≤ ob

theorem LdW.quietly {w wr wr' : World} {ob xb st : Nat} {o : Nat → Bool} {L : List Slot} (h : LdW w wr ob xb o L st) (hq : Quiet wr wr') : LdW w wr' ob xb o L st := by
  obtain ⟨v, rows, hp⟩ := h.page
  exact ⟨h.quiet.trans hq, hq.get h.own (fun x => x), ⟨v, rows, hp.kept hq (fun _ _ x => x)⟩, h.ne⟩

theorem LdW.mark {w wr : World} {ob xb st i : Nat} {o o' : Nat → Bool} {L : List Slot} (h : LdW w wr ob xb o L st) (ho : ∀ j, o' j = (decide (j = i) || o j)) : LdW w (wr.setCell ⟨ob, i, none⟩ (.bool true)) ob xb o' L st := by
  obtain ⟨v, rows, hp⟩ := h.page
  have hon : Only (· = ob) wr (wr.setCell ⟨ob, i, none⟩ (.bool true)) := (Only.refl (· = ob) wr).setCell (p := ⟨ob, i, none⟩) (fun _ => rfl) _
  refine ⟨h.quiet.trans' hon (fun k hk e => by have := h.ne; omega), ?_, ⟨v, rows, hp.kept hon (fun k x e => x.2 e)⟩, h.ne⟩
  rw [set_same h.own, tab_set]
  refine congrArg (fun c => some (Obj.cells c 4 (0, 0))) (tab_ext (fun j _ => ?_))
  unfold boolF
  rw [ho j]
  by_cases hj : j = i
  · simp [hj]
  · simp [hj]

theorem LdW.ext {w wr : World} {ob xb st : Nat} {o o' : Nat → Bool} {L : List Slot} (h : LdW w wr ob xb o L st) (ho : ∀ j, o j = o' j) : LdW w wr ob xb o' L st := by
  have : o = o' := funext ho
  rw [← this]
  exact h

theorem LdW.push {w W w1 w5 : World} {ob xb st : Nat} {o : Nat → Bool} {L : List Slot} {v v' d : Value} {rows : List (List Value)} {s : Slot} (h : LdW w W ob xb o L st) (hp : RefPgAt W xb (fun k => w.heap.size ≤ k ∧ k ≠ ob) L st v rows) (hq : Quiet W w1)
    (hd : ∀ f t, s = some (f, t) → DatAt w1 (fun k => w.heap.size ≤ k ∧ k ≠ ob) t d ∧ t.Ok ∧ f ≤ 512) (hl : 4 + 4 * (L.length + 1) ≤ 512)
    (hg : Grew w1 w5 161 8 v v' (L.length + 1) (rows.flatten ++ slotV s d)) : LdW w (w5.setCell ⟨xb, 0, none⟩ v') ob xb o (L ++ [s]) st := by
  have hob := lt_of_get h.own
  have hz := hq.size
  have hw := h.quiet.size
  have hon : Only (· = xb) w5 (w5.setCell ⟨xb, 0, none⟩ v') := (Only.refl (· = xb) w5).setCell (p := ⟨xb, 0, none⟩) (fun _ => rfl) _
  refine ⟨((h.quiet.trans hq).trans' hg.only (fun k hk e => by have := (hp.foot.2 k e).1; omega)).trans' hon (fun k hk e => by have := hp.foot.1.1; omega), ?_, ⟨v', _, hp.push hq hd hl ⟨by omega, by omega⟩ hg⟩, h.ne⟩
  exact hon.get (hg.only.get (hq.get h.own (fun x => x)) (fun e => (hp.foot.2 _ e).2 rfl)) (fun e => hp.foot.1.2 e.symm)

theorem LdW.cell {w wr : World} {ob xb st i : Nat} {o : Nat → Bool} {L : List Slot} (h : LdW w wr ob xb o L st) (hi : i < 512) : wr.cell? ⟨ob, i, none⟩ = some (.bool (o i)) := by
  rw [cell_of h.own, tab_get hi]
  rfl

set_option maxHeartbeats 8000000 in
set_option maxRecDepth 100000 in
theorem ref_load (b off cap : Nat) (g : Nat → Nat) (w : World) (hc : ∀ i, i < 512 → w.cell? ⟨b, off + i, none⟩ = some (.int .u8 (g i : Int))) (hg : ∀ i, g i < 256) (hcap : 512 ≤ cap) :
    Calls Try.prog 62 #[.slice (some ⟨b, off, none⟩) 512 cap] w (RLoadPost g w) := by
  have hn16 := num2_lt hg 0
  have hs16 := num2_lt hg 2
  have HCC := Lib.hid hc
  have HG := Lib.hid hg
  obtain ⟨n, hn⟩ : ∃ n, leNum g 0 2 = n := ⟨_, rfl⟩
  obtain ⟨st, hst⟩ : ∃ st, leNum g 2 2 = st := ⟨_, rfl⟩
  have HCK := Lib.hid (pg_checks hg hn hst)
  have HGET0 : Hid (∀ (p n c : Nat) (W : World), Quiet w W → p + n ≤ 512 → n ≤ 7 → Calls Try.prog 96 #[.slice (some ⟨b, off + p, none⟩) n c] W fun e w' => e = .returned (.int .i64 (leNum g p n)) ∧ W = w') := Lib.hid (fun p n c W hq h1 h2 =>
    rget_num b (off + p) n c g p W (fun j hj => by rw [Nat.add_assoc]; exact hq.cell (hc (p + j) (by omega)) (fun x => x)) hg h2)
  have hsl := fun (l h : Nat) (h1 : l ≤ h) (h2 : h ≤ cap) (h3 : l < cap) (W : World) => bytes_range b off 512 cap l h h1 h2 h3 W
  have HSL := Lib.hid hsl
  have HGETA : Hid (∀ (c : Nat) (W : World), Quiet w W → Calls Try.prog 96 #[.slice (some ⟨b, off, none⟩) 2 c] W fun e w' => e = .returned (.int .i64 (n : Int)) ∧ W = w') := Lib.hid (fun c W hq => by
    have := HGET0.out 0 2 c W hq (by omega) (by omega)
    rw [hn] at this
    exact this)
  have HGETB : Hid (∀ (c : Nat) (W : World), Quiet w W → Calls Try.prog 96 #[.slice (some ⟨b, off + 2, none⟩) 2 c] W fun e w' => e = .returned (.int .i64 (st : Int)) ∧ W = w') := Lib.hid (fun c W hq => by
    have := HGET0.out 2 2 c W hq (by omega) (by omega)
    rw [hst] at this
    exact this)
  have HX := trivial
  rw [hn] at hn16
  rw [hst] at hs16
  have hmk := make_bools
  have c2 : ¬ cap = 2 := by omega
  have c3 : (2 : Int) ≤ (cap : Int) := by omega
  have c4 : (4 : Int) ≤ (cap : Int) := by omega
  have HEQN := Lib.hid hn
  have HEQS := Lib.hid hst
  clear hc hg hn hst hsl
  go_enter Try.func62, Try.ntmps62
  go_upto_region 3 with (fail)
  refine wp_region_held_drew (S := (fun w' => Quiet w w')) (by kernel_rfl) ((Only.refl (fun _ => False) w).drew) (fun hHeld => ?_)
  simp only [List.size_toArray, List.length_cons, List.length_nil, Nat.reduceAdd]
  (refine wpAnyH_take (i := 0) (oi := ?_) (v := ?_) ?_ (by kernel_rfl) (by decide +kernel) (by decide +kernel) ?_ (Or.inl ⟨?_, ?_⟩) (by first | assumption | exact trivial) ?_; rotate_left 2; (focus (simp only [List.getElem?_toArray, List.getElem?_cons_zero, List.getElem?_cons_succ] <;> rfl)); (focus (exact fun _ _ _ h => h)); (focus rfl); (focus (intro w hSw; (try dsimp only at hSw); go_simp; (try with_reducible rfl); done)); (try simp only [Act.put, List.setIfInBounds_toArray, List.set_cons_zero, List.set_cons_succ]))
  (refine wpAnyH_take (i := 1) (oi := ?_) (v := ?_) ?_ (by kernel_rfl) (by decide +kernel) (by decide +kernel) ?_ (Or.inl ⟨?_, ?_⟩) (by first | assumption | exact trivial) ?_; rotate_left 2; (focus (simp only [List.getElem?_toArray, List.getElem?_cons_zero, List.getElem?_cons_succ] <;> rfl)); (focus (exact fun _ _ _ h => h)); (focus rfl); (focus (intro w hSw; (try dsimp only at hSw); go_simp; (try with_reducible rfl); done)); (try simp only [Act.put, List.setIfInBounds_toArray, List.set_cons_zero, List.set_cons_succ]))
  (refine wpAnyH_take (i := 3) (oi := ?_) (v := ?_) ?_ (by kernel_rfl) (by decide +kernel) (by decide +kernel) ?_ (Or.inl ⟨?_, ?_⟩) (by first | assumption | exact trivial) ?_; rotate_left 2; (focus (simp only [List.getElem?_toArray, List.getElem?_cons_zero, List.getElem?_cons_succ] <;> rfl)); (focus (exact fun _ _ _ h => h)); (focus rfl); (focus (intro w hSw; (try dsimp only at hSw); go_simp; (try with_reducible rfl); done)); (try simp only [Act.put, List.setIfInBounds_toArray, List.set_cons_zero, List.set_cons_succ]))
  (refine wpAnyH_take (i := 4) (oi := ?_) (v := ?_) ?_ (by kernel_rfl) (by decide +kernel) (by decide +kernel) ?_ (Or.inl ⟨?_, ?_⟩) (by first | assumption | exact trivial) ?_; rotate_left 2; (focus (simp only [List.getElem?_toArray, List.getElem?_cons_zero, List.getElem?_cons_succ] <;> rfl)); (focus (exact fun _ _ _ h => h)); (focus rfl); (focus (intro w hSw; (try dsimp only at hSw); go_simp; (try with_reducible rfl); done)); (try simp only [Act.put, List.setIfInBounds_toArray, List.set_cons_zero, List.set_cons_succ]))
  refine wpAnyH_ready (rs := [2]) (by kernel_rfl) (by simp) ?_
  refine AllReadyH.cons (o := ?_) ?_ ?_ AllReadyH.nil
  rotate_left 1
  (focus (simp only [List.getElem?_toArray, List.getElem?_cons_zero, List.getElem?_cons_succ] <;> rfl))
  intro K hK
  go_simp
  go_at_call 96
  refine (HGETA.out _ _ hHeld).mono ?_
  rintro e w1 ⟨rfl, rfl⟩
  dsimp only
  refine hK.out _ _ ?_ (fun hHeld => ?_)
  · exact hHeld
  clear hK K
  (try simp only [Act.put, List.setIfInBounds_toArray, List.set_cons_zero, List.set_cons_succ])
  refine wpAnyH_ready (rs := [5]) (by kernel_rfl) (by simp) ?_
  refine AllReadyH.cons (o := ?_) ?_ ?_ AllReadyH.nil
  rotate_left 1
  (focus (simp only [List.getElem?_toArray, List.getElem?_cons_zero, List.getElem?_cons_succ] <;> rfl))
  intro K hK
  go_simp
  go_at_call 96
  refine (HGETB.out _ _ hHeld).mono ?_
  rintro e w1 ⟨rfl, rfl⟩
  have HQ1 := Lib.hid hHeld
  dsimp only
  refine hK.out _ _ ?_ (fun hHeld => ?_)
  · exact hHeld
  clear hK K
  (try simp only [Act.put, List.setIfInBounds_toArray, List.set_cons_zero, List.set_cons_succ])
  refine wpAnyH_ready (rs := [6]) (by kernel_rfl) (by simp) ?_
  refine AllReadyH.cons (o := ?_) ?_ ?_ AllReadyH.nil
  rotate_left 1
  (focus (simp only [List.getElem?_toArray, List.getElem?_cons_zero, List.getElem?_cons_succ] <;> rfl))
  intro K hK
  go_simp
  refine hK.out _ _ ?_ (fun hHeld => ?_)
  · exact hHeld
  clear hK K
  (try simp only [Act.put, List.setIfInBounds_toArray, List.set_cons_zero, List.set_cons_succ])
  refine wpAnyH_ready (rs := [7]) (by kernel_rfl) (by simp) ?_
  refine AllReadyH.cons (o := ?_) ?_ ?_ AllReadyH.nil
  rotate_left 1
  (focus (simp only [List.getElem?_toArray, List.getElem?_cons_zero, List.getElem?_cons_succ] <;> rfl))
  intro K hK
  go_simp
  refine hK.out _ _ ?_ (fun hHeld => ?_)
  · exact hHeld
  clear hK K
  (try simp only [Act.put, List.setIfInBounds_toArray, List.set_cons_zero, List.set_cons_succ])
  refine wpAnyH_done (by kernel_rfl) ?_ _
  clear hHeld
  obtain ⟨w2, hw2⟩ : ∃ w2, w.drew = w2 := ⟨_, rfl⟩
  rw [hw2] at HQ1 ⊢
  clear hw2
  by_cases hA : 512 < st
  · have HNO : Hid (¬ PgOk g) := Lib.hid (fun h => by have := (HCK.out.1 h).le; omega)
    have d0 : (512 : Int) < (st : Int) := by omega
    go_wp2
    go_ret
    exact rload_no HNO.out HQ1.out
  have d0 : ¬ (512 : Int) < (st : Int) := by omega
  by_cases hB : st < 4 + 4 * n
  · have HNO : Hid (¬ PgOk g) := Lib.hid (fun h => by have := (HCK.out.1 h).fit; omega)
    have d1 : (st : Int) < 4 + 4 * (n : Int) := by omega
    go_wp2
    go_ret
    exact rload_no HNO.out HQ1.out
  have d1 : ¬ (st : Int) < 4 + 4 * (n : Int) := by omega
  have HFIT : Hid (4 + 4 * n ≤ st ∧ st ≤ 512) := Lib.hid ⟨by omega, by omega⟩
  have HW0 : Hid (LdW w ((w2.alloc (.cells #[.slice none 0 0, .int .i64 (st : Int)] 131)).alloc (.cells (tab 512 (boolF (fun _ => false))) 4)) (w2.heap.size + 1) w2.heap.size (fun _ => false) [] st) := by
    have hz := HQ1.out.size
    refine Lib.hid ⟨(HQ1.out.alloc _).alloc _, two_new _ _ _, ⟨.slice none 0 0, [], ⟨alloc_old (alloc_new _ _) _, World.ownsRow_nil _ _ _ _, rfl, fun i s hi => by simp at hi, ⟨⟨hz, by omega⟩, fun k e => by cases e⟩, ⟨by simp, HFIT.out.2⟩⟩⟩, by omega⟩
  go_wp2_with fail
  generalize (w2.alloc (.cells #[.slice none 0 0, .int .i64 (st : Int)] 131)).alloc (.cells (tab 512 (boolF (fun _ => false))) 4) = w3 at HW0 ⊢
  generalize w2.heap.size + 1 = ob at HW0 ⊢
  generalize w2.heap.size = xb at HW0 ⊢
  clear hmk hA hB c2 c3 c4
  go_loopw [41, 7] (fun c _ wr => ∃ i : Nat, i ≤ 4 + 4 * n ∧ c = .int .i64 (i : Int) ∧ LdW w wr ob xb (fun j => decide (j < i)) [] st) (fun c _ _ => 4 + 4 * n - (intOf c).toNat)
  case atStart => exact ⟨0, Nat.zero_le _, rfl, HW0.out.ext (fun j => by simp)⟩
  case round =>
    obtain ⟨i, hi, rfl, hw⟩ := hrel
    have HW := Lib.hid hw
    clear hw HW0
    by_cases hlt : i < 4 + 4 * n
    · have z0 := HW.out.cell (i := i) (by have := HFIT.out; omega)
      have zf := fun o => frozen_of HW.out.own o
      have d2 : (i : Int) < 4 + 4 * (n : Int) := by omega
      have d3 : (i : Int) < 512 := by have := HFIT.out; omega
      have d4 : (0 : Int) ≤ (i : Int) := by omega
      have HN : Hid (LdW w (wr.setCell ⟨ob, i, none⟩ (.bool true)) ob xb (fun j => decide (j < i + 1)) [] st) := Lib.hid (HW.out.mark (fun j => by
        by_cases h1 : j = i
        · simp [h1]
        · by_cases h2 : j < i
          · simp [h2, show j < i + 1 by omega]
          · simp [h1, h2, show ¬ j < i + 1 by omega]))
      go_wp2
      go_roundw
      case rel => exact ⟨i + 1, by omega, by go_num, HN.out⟩
      case measure => simp [intOf]; omega
    · obtain rfl : i = 4 + 4 * n := by omega
      have d2 : ¬ ((4 + 4 * n : Nat) : Int) < 4 + 4 * (n : Int) := by omega
      have HWA : Hid (LdW w wr ob xb (ownG g n 0) (slotsG g 0) st) := Lib.hid (HW.out.ext (fun j => (ownG_zero g n j).symm))
      clear HW
      go_wp2_with fail
      clear d2
      go_loopw [49, 8, 9, 10, 11, 12, 13] (fun c _ _ _ _ _ _ wr => ∃ k : Nat, k ≤ n ∧ c = .int .i64 (k : Int) ∧ LdW w wr ob xb (ownG g n k) (slotsG g k) st ∧ (∀ i, i < k → GoodG g st i) ∧ (slotsG g k).Pairwise Go.Lap.Apart) (fun c _ _ _ _ _ _ _ => n - (intOf c).toNat)
      case atStart => exact ⟨0, Nat.zero_le _, rfl, HWA.out, fun i hi => by omega, List.Pairwise.nil⟩
      case round =>
        obtain ⟨k, hk, rfl, hw, hgd, hap⟩ := hrel
        have HW := Lib.hid hw
        have HGD := Lib.hid hgd
        have HAP := Lib.hid hap
        clear hw hgd hap HWA
        by_cases hlt : k < n
        · have HFT := HFIT.out
          have hf16 : fromG g k < 65536 := num2_lt HG.out _
          have hz16 : sizeG g k < 65536 := num2_lt HG.out _
          have HGOOD : Hid (¬ GoodG g st k → ¬ PgOk g) := Lib.hid (fun h1 h2 => h1 ((HCK.out.1 h2).good k hlt))
          have HAPN : Hid (¬ (slotsG g n).Pairwise Go.Lap.Apart → ¬ PgOk g) := Lib.hid (fun h1 h2 => h1 (HCK.out.1 h2).apart)
          have hgf : ∀ (c : Nat) (W : World), Quiet w W → Calls Try.prog 96 #[.slice (some ⟨b, off + (4 + 4 * k), none⟩) 2 c] W fun e w' => e = .returned (.int .i64 (fromG g k : Int)) ∧ W = w' := fun c W hq => HGET0.out (4 + 4 * k) 2 c W hq (by omega) (by omega)
          have hgz : ∀ (c : Nat) (W : World), Quiet w W → Calls Try.prog 96 #[.slice (some ⟨b, off + (6 + 4 * k), none⟩) 2 c] W fun e w' => e = .returned (.int .i64 (sizeG g k : Int)) ∧ W = w' := fun c W hq => HGET0.out (6 + 4 * k) 2 c W hq (by omega) (by omega)
          have hs1 := fun (W : World) => HSL.out (4 + 4 * k) (6 + 4 * k) (by omega) (by omega) (by omega) W
          rw [show ((4 + 4 * k : Nat) : Int) = 4 + 4 * (k : Int) by omega, show ((6 + 4 * k : Nat) : Int) = 6 + 4 * (k : Int) by omega, show 6 + 4 * k - (4 + 4 * k) = 2 by omega] at hs1
          have hs2 := fun (W : World) => HSL.out (6 + 4 * k) (8 + 4 * k) (by omega) (by omega) (by omega) W
          rw [show ((6 + 4 * k : Nat) : Int) = 6 + 4 * (k : Int) by omega, show ((8 + 4 * k : Nat) : Int) = 8 + 4 * (k : Int) by omega, show 8 + 4 * k - (6 + 4 * k) = 2 by omega] at hs2
          have hw0 : IntKind.i64.wrap (4 * (k : Int)) = 4 * (k : Int) := by rw [IntKind.wrap_i64]; omega
          have hw1 : IntKind.i64.wrap (4 + 4 * (k : Int)) = 4 + 4 * (k : Int) := by rw [IntKind.wrap_i64]; omega
          have hw2 : IntKind.i64.wrap (6 + 4 * (k : Int)) = 6 + 4 * (k : Int) := by rw [IntKind.wrap_i64]; omega
          have hw3 : IntKind.i64.wrap (8 + 4 * (k : Int)) = 8 + 4 * (k : Int) := by rw [IntKind.wrap_i64]; omega
          have HSG : Hid (slotG g k = if fromG g k = 0 ∧ sizeG g k = 0 then none else some (fromG g k, tupG g (fromG g k) (sizeG g k))) := Lib.hid rfl
          have HSZ : Hid (30 ≤ sizeG g k → (tupG g (fromG g k) (sizeG g k)).size = sizeG g k) := Lib.hid (fun h => tupG_size _ _ h)
          have HTL := Lib.hid (tupG_len g (fromG g k) (sizeG g k))
          have HTB := Lib.hid (tupG_bytes HG.out (fromG g k) (sizeG g k))
          have HRAW := Lib.hid (raw_tupG HG.out (fromG g k) (sizeG g k))
          have HTD : Hid ((tupG g (fromG g k) (sizeG g k)).data = (List.range (sizeG g k - 30)).map (fun j => g (fromG g k + 30 + j))) := Lib.hid rfl
          have HGD2 : Hid (GoodG g st k ↔ (fromG g k = 0 ∧ sizeG g k = 0) ∨ (30 ≤ sizeG g k ∧ st ≤ fromG g k ∧ fromG g k + sizeG g k ≤ 512 ∧ (tupG g (fromG g k) (sizeG g k)).rightB = true)) := Lib.hid Iff.rfl
          obtain ⟨tt, htt⟩ : ∃ tt, tupG g (fromG g k) (sizeG g k) = tt := ⟨_, rfl⟩
          rw [htt] at HSG HSZ HTL HTB HRAW HTD HGD2
          obtain ⟨f, hf⟩ : ∃ f, fromG g k = f := ⟨_, rfl⟩
          obtain ⟨sz, hsz⟩ : ∃ sz, sizeG g k = sz := ⟨_, rfl⟩
          rw [hf] at hgf HSG HRAW HGD2 hf16 HTD
          rw [hsz] at hgz HSG HSZ HTL HGD2 hz16 HTD
          have HGF := Lib.hid hgf
          have HGZ := Lib.hid hgz
          clear htt hf hsz hgf hgz
          go_upto_region 16 with (fail)
          refine wp_region_held_drew (S := (fun w' => Quiet w w')) (by kernel_rfl) (HW.out.quiet.drew) (fun hHeld => ?_)
          simp only [List.size_toArray, List.length_cons, List.length_nil, Nat.reduceAdd]
          (refine wpAnyH_take (i := 0) (oi := ?_) (v := ?_) ?_ (by kernel_rfl) (by decide +kernel) (by decide +kernel) ?_ (Or.inl ⟨?_, ?_⟩) (by first | assumption | exact trivial) ?_; rotate_left 2; (focus (simp only [List.getElem?_toArray, List.getElem?_cons_zero, List.getElem?_cons_succ] <;> rfl)); (focus (exact fun _ _ _ h => h)); (focus rfl); (focus (intro w hSw; (try dsimp only at hSw); go_simp; (try with_reducible rfl); done)); (try simp only [Act.put, List.setIfInBounds_toArray, List.set_cons_zero, List.set_cons_succ]))
          (refine wpAnyH_take (i := 1) (oi := ?_) (v := ?_) ?_ (by kernel_rfl) (by decide +kernel) (by decide +kernel) ?_ (Or.inl ⟨?_, ?_⟩) (by first | assumption | exact trivial) ?_; rotate_left 2; (focus (simp only [List.getElem?_toArray, List.getElem?_cons_zero, List.getElem?_cons_succ] <;> rfl)); (focus (exact fun _ _ _ h => h)); (focus rfl); (focus (intro w hSw; (try dsimp only at hSw); go_simp; (try with_reducible rfl); done)); (try simp only [Act.put, List.setIfInBounds_toArray, List.set_cons_zero, List.set_cons_succ]))
          (refine wpAnyH_take (i := 2) (oi := ?_) (v := ?_) ?_ (by kernel_rfl) (by decide +kernel) (by decide +kernel) ?_ (Or.inl ⟨?_, ?_⟩) (by first | assumption | exact trivial) ?_; rotate_left 2; (focus (simp only [List.getElem?_toArray, List.getElem?_cons_zero, List.getElem?_cons_succ] <;> rfl)); (focus (exact fun _ _ _ h => h)); (focus rfl); (focus (intro w hSw; (try dsimp only at hSw); go_simp; (try with_reducible rfl); done)); (try simp only [Act.put, List.setIfInBounds_toArray, List.set_cons_zero, List.set_cons_succ]))
          (refine wpAnyH_take (i := 3) (oi := ?_) (v := ?_) ?_ (by kernel_rfl) (by decide +kernel) (by decide +kernel) ?_ (Or.inl ⟨?_, ?_⟩) (by first | assumption | exact trivial) ?_; rotate_left 2; (focus (simp only [List.getElem?_toArray, List.getElem?_cons_zero, List.getElem?_cons_succ] <;> rfl)); (focus (exact fun _ _ _ h => h)); (focus rfl); (focus (intro w hSw; (try dsimp only at hSw); go_simp; (try with_reducible rfl); done)); (try simp only [Act.put, List.setIfInBounds_toArray, List.set_cons_zero, List.set_cons_succ]))
          (refine wpAnyH_take (i := 4) (oi := ?_) (v := ?_) ?_ (by kernel_rfl) (by decide +kernel) (by decide +kernel) ?_ (Or.inl ⟨?_, ?_⟩) (by first | assumption | exact trivial) ?_; rotate_left 2; (focus (simp only [List.getElem?_toArray, List.getElem?_cons_zero, List.getElem?_cons_succ] <;> rfl)); (focus (exact fun _ _ _ h => h)); (focus rfl); (focus (intro w hSw; (try dsimp only at hSw); go_simp; (try with_reducible rfl); done)); (try simp only [Act.put, List.setIfInBounds_toArray, List.set_cons_zero, List.set_cons_succ]))
          (refine wpAnyH_take (i := 5) (oi := ?_) (v := ?_) ?_ (by kernel_rfl) (by decide +kernel) (by decide +kernel) ?_ (Or.inl ⟨?_, ?_⟩) (by first | assumption | exact trivial) ?_; rotate_left 2; (focus (simp only [List.getElem?_toArray, List.getElem?_cons_zero, List.getElem?_cons_succ] <;> rfl)); (focus (exact fun _ _ _ h => h)); (focus rfl); (focus (intro w hSw; (try dsimp only at hSw); go_simp; (try with_reducible rfl); done)); (try simp only [Act.put, List.setIfInBounds_toArray, List.set_cons_zero, List.set_cons_succ]))
          (refine wpAnyH_take (i := 6) (oi := ?_) (v := ?_) ?_ (by kernel_rfl) (by decide +kernel) (by decide +kernel) ?_ (Or.inl ⟨?_, ?_⟩) (by first | assumption | exact trivial) ?_; rotate_left 2; (focus (simp only [List.getElem?_toArray, List.getElem?_cons_zero, List.getElem?_cons_succ] <;> rfl)); (focus (exact fun _ _ _ h => h)); (focus rfl); (focus (intro w hSw; (try dsimp only at hSw); go_simp; (try with_reducible rfl); done)); (try simp only [Act.put, List.setIfInBounds_toArray, List.set_cons_zero, List.set_cons_succ]))
          (refine wpAnyH_take (i := 7) (oi := ?_) (v := ?_) ?_ (by kernel_rfl) (by decide +kernel) (by decide +kernel) ?_ (Or.inl ⟨?_, ?_⟩) (by first | assumption | exact trivial) ?_; rotate_left 2; (focus (simp only [List.getElem?_toArray, List.getElem?_cons_zero, List.getElem?_cons_succ] <;> rfl)); (focus (exact fun _ _ _ h => h)); (focus rfl); (focus (intro w hSw; (try dsimp only at hSw); go_simp; (try with_reducible rfl); done)); (try simp only [Act.put, List.setIfInBounds_toArray, List.set_cons_zero, List.set_cons_succ]))
          (refine wpAnyH_take (i := 9) (oi := ?_) (v := ?_) ?_ (by kernel_rfl) (by decide +kernel) (by decide +kernel) ?_ (Or.inl ⟨?_, ?_⟩) (by first | assumption | exact trivial) ?_; rotate_left 2; (focus (simp only [List.getElem?_toArray, List.getElem?_cons_zero, List.getElem?_cons_succ] <;> rfl)); (focus (exact fun _ _ _ h => h)); (focus rfl); (focus (intro w hSw; (try dsimp only at hSw); go_simp; (try with_reducible rfl); done)); (try simp only [Act.put, List.setIfInBounds_toArray, List.set_cons_zero, List.set_cons_succ]))
          (refine wpAnyH_take (i := 10) (oi := ?_) (v := ?_) ?_ (by kernel_rfl) (by decide +kernel) (by decide +kernel) ?_ (Or.inl ⟨?_, ?_⟩) (by first | assumption | exact trivial) ?_; rotate_left 2; (focus (simp only [List.getElem?_toArray, List.getElem?_cons_zero, List.getElem?_cons_succ] <;> rfl)); (focus (exact fun _ _ _ h => h)); (focus rfl); (focus (intro w hSw; (try dsimp only at hSw); go_simp; (try with_reducible rfl); done)); (try simp only [Act.put, List.setIfInBounds_toArray, List.set_cons_zero, List.set_cons_succ]))
          (refine wpAnyH_take (i := 11) (oi := ?_) (v := ?_) ?_ (by kernel_rfl) (by decide +kernel) (by decide +kernel) ?_ (Or.inl ⟨?_, ?_⟩) (by first | assumption | exact trivial) ?_; rotate_left 2; (focus (simp only [List.getElem?_toArray, List.getElem?_cons_zero, List.getElem?_cons_succ] <;> rfl)); (focus (exact fun _ _ _ h => h)); (focus rfl); (focus (intro w hSw; (try dsimp only at hSw); go_simp; (try with_reducible rfl); done)); (try simp only [Act.put, List.setIfInBounds_toArray, List.set_cons_zero, List.set_cons_succ]))
          (refine wpAnyH_take (i := 12) (oi := ?_) (v := ?_) ?_ (by kernel_rfl) (by decide +kernel) (by decide +kernel) ?_ (Or.inl ⟨?_, ?_⟩) (by first | assumption | exact trivial) ?_; rotate_left 2; (focus (simp only [List.getElem?_toArray, List.getElem?_cons_zero, List.getElem?_cons_succ] <;> rfl)); (focus (exact fun _ _ _ h => h)); (focus rfl); (focus (intro w hSw; (try dsimp only at hSw); go_simp; (try with_reducible rfl); done)); (try simp only [Act.put, List.setIfInBounds_toArray, List.set_cons_zero, List.set_cons_succ]))
          (refine wpAnyH_take (i := 13) (oi := ?_) (v := ?_) ?_ (by kernel_rfl) (by decide +kernel) (by decide +kernel) ?_ (Or.inl ⟨?_, ?_⟩) (by first | assumption | exact trivial) ?_; rotate_left 2; (focus (simp only [List.getElem?_toArray, List.getElem?_cons_zero, List.getElem?_cons_succ] <;> rfl)); (focus (exact fun _ _ _ h => h)); (focus rfl); (focus (intro w hSw; (try dsimp only at hSw); go_simp; (try with_reducible rfl); done)); (try simp only [Act.put, List.setIfInBounds_toArray, List.set_cons_zero, List.set_cons_succ]))
          (refine wpAnyH_take (i := 14) (oi := ?_) (v := ?_) ?_ (by kernel_rfl) (by decide +kernel) (by decide +kernel) ?_ (Or.inl ⟨?_, ?_⟩) (by first | assumption | exact trivial) ?_; rotate_left 2; (focus (simp only [List.getElem?_toArray, List.getElem?_cons_zero, List.getElem?_cons_succ] <;> rfl)); (focus (exact fun _ _ _ h => h)); (focus rfl); (focus (intro w hSw; (try dsimp only at hSw); go_simp; (try with_reducible rfl); done)); (try simp only [Act.put, List.setIfInBounds_toArray, List.set_cons_zero, List.set_cons_succ]))
          (refine wpAnyH_take (i := 15) (oi := ?_) (v := ?_) ?_ (by kernel_rfl) (by decide +kernel) (by decide +kernel) ?_ (Or.inl ⟨?_, ?_⟩) (by first | assumption | exact trivial) ?_; rotate_left 2; (focus (simp only [List.getElem?_toArray, List.getElem?_cons_zero, List.getElem?_cons_succ] <;> rfl)); (focus (exact fun _ _ _ h => h)); (focus rfl); (focus (intro w hSw; (try dsimp only at hSw); go_simp; (try with_reducible rfl); done)); (try simp only [Act.put, List.setIfInBounds_toArray, List.set_cons_zero, List.set_cons_succ]))
          (refine wpAnyH_take (i := 16) (oi := ?_) (v := ?_) ?_ (by kernel_rfl) (by decide +kernel) (by decide +kernel) ?_ (Or.inl ⟨?_, ?_⟩) (by first | assumption | exact trivial) ?_; rotate_left 2; (focus (simp only [List.getElem?_toArray, List.getElem?_cons_zero, List.getElem?_cons_succ] <;> rfl)); (focus (exact fun _ _ _ h => h)); (focus rfl); (focus (intro w hSw; (try dsimp only at hSw); go_simp; (try with_reducible rfl); done)); (try simp only [Act.put, List.setIfInBounds_toArray, List.set_cons_zero, List.set_cons_succ]))
          refine wpAnyH_ready (rs := [8]) (by kernel_rfl) (by simp) ?_
          refine AllReadyH.cons (o := ?_) ?_ ?_ AllReadyH.nil
          rotate_left 1
          (focus (simp only [List.getElem?_toArray, List.getElem?_cons_zero, List.getElem?_cons_succ] <;> rfl))
          intro K hK
          go_simp
          go_at_call 96
          refine (HGF.out _ _ hHeld).mono ?_
          rintro e w1 ⟨rfl, rfl⟩
          dsimp only
          refine hK.out _ _ ?_ (fun hHeld => ?_)
          · exact hHeld
          clear hK K
          (try simp only [Act.put, List.setIfInBounds_toArray, List.set_cons_zero, List.set_cons_succ])
          refine wpAnyH_ready (rs := [17]) (by kernel_rfl) (by simp) ?_
          refine AllReadyH.cons (o := ?_) ?_ ?_ AllReadyH.nil
          rotate_left 1
          (focus (simp only [List.getElem?_toArray, List.getElem?_cons_zero, List.getElem?_cons_succ] <;> rfl))
          intro K hK
          go_simp
          go_at_call 96
          refine (HGZ.out _ _ hHeld).mono ?_
          rintro e w1 ⟨rfl, rfl⟩
          dsimp only
          refine hK.out _ _ ?_ (fun hHeld => ?_)
          · exact hHeld
          clear hK K
          (try simp only [Act.put, List.setIfInBounds_toArray, List.set_cons_zero, List.set_cons_succ])
          refine wpAnyH_ready (rs := [18]) (by kernel_rfl) (by simp) ?_
          refine AllReadyH.cons (o := ?_) ?_ ?_ AllReadyH.nil
          rotate_left 1
          (focus (simp only [List.getElem?_toArray, List.getElem?_cons_zero, List.getElem?_cons_succ] <;> rfl))
          intro K hK
          go_simp
          refine hK.out _ _ ?_ (fun hHeld => ?_)
          · exact hHeld
          clear hK K
          (try simp only [Act.put, List.setIfInBounds_toArray, List.set_cons_zero, List.set_cons_succ])
          refine wpAnyH_ready (rs := [19]) (by kernel_rfl) (by simp) ?_
          refine AllReadyH.cons (o := ?_) ?_ ?_ AllReadyH.nil
          rotate_left 1
          (focus (simp only [List.getElem?_toArray, List.getElem?_cons_zero, List.getElem?_cons_succ] <;> rfl))
          intro K hK
          go_simp
          refine hK.out _ _ ?_ (fun hHeld => ?_)
          · exact hHeld
          clear hK K
          (try simp only [Act.put, List.setIfInBounds_toArray, List.set_cons_zero, List.set_cons_succ])
          refine wpAnyH_done (by kernel_rfl) ?_ _
          have HW1 := Lib.hid (HW.out.quietly (Only.refl (fun _ => False) wr).drew)
          clear hHeld hw0 hw1 hw2 hw3 hs1 hs2 HW
          obtain ⟨w4, hw4⟩ : ∃ w4, wr.drew = w4 := ⟨_, rfl⟩
          rw [hw4] at HW1 ⊢
          clear hw4
          by_cases h00 : f = 0 ∧ sz = 0
          · have HSN : Hid (slotG g k = none) := Lib.hid (by rw [HSG.out, if_pos h00])
            have HGN : Hid (GoodG g st k) := Lib.hid (HGD2.out.2 (Or.inl h00))
            obtain ⟨v, rows, hpg⟩ := HW1.out.page
            have HPG := Lib.hid hpg
            have z0 := hpg.cells.1
            have HROW := Lib.hid (owns_kept hpg.row ((Only.refl (fun _ => False) w4).alloc (.cells #[.bool false, .int .u64 0, .int .u64 0, .int .u64 0, .int .i64 0, .int .i64 0, .slice none 0 0, .int .i64 0] 161)) (fun _ _ x => x))
            rw [slotsG_len] at HROW
            obtain ⟨rfl, rfl⟩ := h00
            clear hpg
            go_wp2_with (at_builtin; go_must (refine app elem_slot rfl (.tmp 80) (.tmp 82) rfl rfl HROW.out rfl (zero_slot w4) one_slot (by unfold maxLen; omega) (by omega) ?_))
            intro v5 w5 hg5
            obtain ⟨A5, c5, hv5, _, _, _⟩ := own_form hg5.own
            subst hv5
            have HN : Hid (LdW w (w5.setCell ⟨xb, 0, none⟩ (.slice A5 (k + 1) c5)) ob xb (ownG g n (k + 1)) (slotsG g (k + 1)) st) := Lib.hid (by
              rw [slotsG_succ, HSN.out]
              refine (HW1.out.push (s := none) (d := .slice none 0 0) HPG.out ((Only.refl _ _).alloc _) (fun f t e => by cases e) (by rw [slotsG_len]; omega) (by rw [slotsG_len]; exact hg5)).ext (fun j => (ownG_none HSN.out j).symm))
            have hne : ∀ x, v.ownBlock = some x → ¬ x = xb := fun x e => by obtain ⟨y, hy⟩ := own_blk HPG.out.row e; exact ne_type hy HPG.out.blk (by decide)
            have hxb5 := hg5.only.get (((Only.refl (fun _ => False) w4).alloc _).get HPG.out.blk (fun x => x)) (fun e => hne _ e rfl)
            have k0 : w5.cell? ⟨xb, 0, none⟩ = some v := by rw [cell_of hxb5]; rfl
            have kf := fun o => frozen_of hxb5 o
            clear hg5 hne hxb5
            go_wp2
            go_roundw
            case rel => exact ⟨k + 1, by omega, by go_num, HN.out, fun i hi => by
              rcases Nat.lt_or_ge i k with h | h
              · exact HGD.out i h
              · obtain rfl : i = k := by omega
                exact HGN.out, yes_none HSN.out HAP.out⟩
            case measure => simp [intOf]; omega
          · have HNB : Hid (¬ (30 ≤ sz ∧ st ≤ f ∧ f + sz ≤ 512 ∧ tt.rightB = true) → ¬ PgOk g) := Lib.hid (fun h1 => HGOOD.out (fun h2 => by
              rcases HGD2.out.1 h2 with h3 | h3
              · exact h00 h3
              · exact h1 h3))
            by_cases c1 : sz < 30
            · have HNO := Lib.hid (HNB.out (fun h => by omega))
              have dz : (sz : Int) < 30 := by omega
              by_cases hf0 : f = 0
              · have ez : ((sz : Int) == 0) = false := by simp; omega
                subst hf0
                go_wp2
                go_ret
                exact rload_no HNO.out HW1.out.quiet
              · have ef : ((f : Int) == 0) = false := by simp; omega
                go_wp2
                go_ret
                exact rload_no HNO.out HW1.out.quiet
            have dz : ¬ (sz : Int) < 30 := by omega
            by_cases c2 : f < st
            · have HNO := Lib.hid (HNB.out (fun h => by omega))
              have df : (f : Int) < (st : Int) := by omega
              by_cases hf0 : f = 0
              · have ez : ((sz : Int) == 0) = false := by simp; omega
                subst hf0
                go_wp2
                go_ret
                exact rload_no HNO.out HW1.out.quiet
              · have ef : ((f : Int) == 0) = false := by simp; omega
                go_wp2
                go_ret
                exact rload_no HNO.out HW1.out.quiet
            have df : ¬ (f : Int) < (st : Int) := by omega
            have ef : ((f : Int) == 0) = false := by simp; omega
            by_cases c3 : 512 < f + sz
            · have HNO := Lib.hid (HNB.out (fun h => by omega))
              have dm : (512 : Int) < (f : Int) + (sz : Int) := by omega
              go_wp2
              go_ret
              exact rload_no HNO.out HW1.out.quiet
            have dm : ¬ (512 : Int) < (f : Int) + (sz : Int) := by omega
            have HSS : Hid (slotG g k = some (f, tt)) := Lib.hid (by rw [HSG.out, if_neg h00])
            have HTS : Hid (tt.size = sz) := Lib.hid (HSZ.out (by omega))
            have HWB : Hid (LdW w w4 ob xb (fun j => ownG g n k j || decide (f ≤ j ∧ j < f)) (slotsG g k) st) := Lib.hid (HW1.out.ext (fun j => by simp [show ¬ (f ≤ j ∧ j < f) by omega]))
            clear HW1
            go_wp2_with fail
            go_loopw [11] (fun c wr' => ∃ x : Nat, f ≤ x ∧ x ≤ f + sz ∧ c = .int .i64 (x : Int) ∧ LdW w wr' ob xb (fun j => ownG g n k j || decide (f ≤ j ∧ j < x)) (slotsG g k) st ∧ ∀ y, f ≤ y → y < x → covB (slotsG g k) y = false) (fun c _ => f + sz - (intOf c).toNat)
            case atStart => exact ⟨f, Nat.le_refl _, by omega, rfl, HWB.out, fun y h1 h2 => by omega⟩
            case round =>
              obtain ⟨x, hx1, hx2, rfl, hw, hcv⟩ := hrel
              have HW := Lib.hid hw
              have HCV := Lib.hid hcv
              clear hw hcv HWB
              by_cases hlx : x < f + sz
              · have z0 := HW.out.cell (i := x) (by omega)
                rw [show (ownG g n k x || decide (f ≤ x ∧ x < x)) = covB (slotsG g k) x by unfold ownG; simp [show ¬ x < 4 + 4 * n by omega]] at z0
                have zf := fun o => frozen_of HW.out.own o
                have e1 : (x : Int) < (f : Int) + (sz : Int) := by omega
                have e2 : (0 : Int) ≤ (x : Int) := by omega
                have e3 : (x : Int) < 512 := by omega
                rcases hcx : covB (slotsG g k) x with _ | _
                · rw [hcx] at z0
                  have HN : Hid (LdW w (wr.setCell ⟨ob, x, none⟩ (.bool true)) ob xb (fun j => ownG g n k j || decide (f ≤ j ∧ j < x + 1)) (slotsG g k) st) := Lib.hid (HW.out.mark (fun j => by
                    by_cases h1 : j = x
                    · simp [h1, hx1]
                    · by_cases h2 : f ≤ j ∧ j < x
                      · simp [h2, show j < x + 1 by omega]
                      · simp [h1, h2, show ¬ (f ≤ j ∧ j < x + 1) by omega]))
                  have HCX := Lib.hid hcx
                  clear hcx
                  go_wp2
                  go_roundw
                  case rel => exact ⟨x + 1, by omega, by omega, by go_num, HN.out, fun y h1 h2 => by
                    rcases Nat.lt_or_ge y x with h | h
                    · exact HCV.out y h1 h
                    · obtain rfl : y = x := by omega
                      exact HCX.out⟩
                  case measure => simp [intOf]; omega
                · rw [hcx] at z0
                  have HNO : Hid (¬ PgOk g) := Lib.hid (HAPN.out (no_apart hlt HSS.out hx1 (by rw [HTS.out]; exact hlx) hcx))
                  clear hcx
                  go_wp2
                  go_ret
                  exact rload_no HNO.out HW.out.quiet
              · obtain rfl : x = f + sz := by omega
                have HWC : Hid (LdW w wr ob xb (ownG g n (k + 1)) (slotsG g k) st) := Lib.hid (HW.out.ext (fun j => by rw [ownG_some HSS.out, HTS.out]))
                have HAP2 : Hid ((slotsG g (k + 1)).Pairwise Go.Lap.Apart) := Lib.hid (yes_apart HSS.out (fun i f t h => by have := t.size_pos; omega) HAP.out (fun y h1 h2 => HCV.out y h1 (by rw [HTS.out] at h2; exact h2)))
                have e1 : ¬ ((f + sz : Nat) : Int) < (f : Int) + (sz : Int) := by omega
                clear HW HCV
                have hs3 := fun (W : World) => HSL.out f (f + sz) (by omega) (by omega) (by omega) W
                rw [show ((f + sz : Nat) : Int) = (f : Int) + (sz : Int) by omega, show f + sz - f = sz by omega] at hs3
                go_upto_region 28 with (fail)
                clear e1 hs3
                have hvc : sz ≤ cap - f := by omega
                have hcl : ∀ j, j < sz → wr.cell? ⟨b, off + f + j, none⟩ = some (.int .u8 (g (f + j) : Int)) := fun j hj => by
                  rw [Nat.add_assoc]
                  exact HWC.out.quiet.cell (HCC.out (f + j) (by omega)) (fun x => x)
                generalize off + f = vo at hcl ⊢
                generalize cap - f = vc at hvc ⊢
                have HCL := Lib.hid hcl
                obtain ⟨w8, hw8⟩ : ∃ w8, wr = w8 := ⟨_, rfl⟩
                rw [hw8] at HWC HCL ⊢
                clear hw8 hcl
                have HS : Hid (∀ W : World, Quiet w8 W → (fun w' => Quiet w8 w' ∧ w'.cell? ⟨b, vo + 7, none⟩ = some (.int .u8 (g (f + 7) : Int)) ∧ w'.cell? ⟨b, vo + 15, none⟩ = some (.int .u8 (g (f + 15) : Int)) ∧ w'.cell? ⟨b, vo + 23, none⟩ = some (.int .u8 (g (f + 23) : Int))) W) := Lib.hid (fun W hq => ⟨hq, hq.cell (HCL.out 7 (by omega)) (fun x => x), hq.cell (HCL.out 15 (by omega)) (fun x => x), hq.cell (HCL.out 23 (by omega)) (fun x => x)⟩)
                have HG28 : Hid (∀ (p m c : Nat) (W : World), Quiet w8 W → p + m ≤ sz → m ≤ 7 → Calls Try.prog 96 #[.slice (some ⟨b, vo + p, none⟩) m c] W fun e w' => e = .returned (.int .i64 (leNum g (f + p) m)) ∧ W = w') := Lib.hid (fun p m c W hq h1 h2 =>
                  rget_num b (vo + p) m c g (f + p) W (fun j hj => by rw [Nat.add_assoc, Nat.add_assoc]; exact hq.cell (HCL.out (p + j) (by omega)) (fun x => x)) HG.out h2)
                obtain ⟨g7, hg7⟩ : ∃ y, g (f + 7) = y := ⟨_, rfl⟩
                obtain ⟨g15, hg15⟩ : ∃ y, g (f + 15) = y := ⟨_, rfl⟩
                obtain ⟨g23, hg23⟩ : ∃ y, g (f + 23) = y := ⟨_, rfl⟩
                have b7 : g7 < 256 := by rw [← hg7]; exact HG.out _
                have b15 : g15 < 256 := by rw [← hg15]; exact HG.out _
                have b23 : g23 < 256 := by rw [← hg23]; exact HG.out _
                have i7 : (7 : Int) < (sz : Int) := by omega
                have i15 : (15 : Int) < (sz : Int) := by omega
                have i23 : (23 : Int) < (sz : Int) := by omega
                have b1 : (7 : Int) ≤ (vc : Int) := by omega
                have b2 : (15 : Int) ≤ (vc : Int) := by omega
                have b3 : (23 : Int) ≤ (vc : Int) := by omega
                have b4 : (28 : Int) ≤ (vc : Int) := by omega
                have b5 : (30 : Int) ≤ (vc : Int) := by omega
                have n1 : ¬ vc = 8 := by omega
                have n2 : ¬ vc = 16 := by omega
                have n3 : ¬ vc = 24 := by omega
                have n4 : ¬ vc = 28 := by omega
                obtain ⟨fo, hs30, HDO⟩ : ∃ fo, (∀ W : World, (Instr.slice 48 (.slice (some ⟨b, vo, none⟩) sz vc) (some (.int .i64 30)) none none).run Try.prog W = .ok (.slice (some ⟨b, fo, none⟩) (sz - 30) (vc - 30)) W) ∧ Hid (Rd w8 (· = b) 1 (some ⟨b, fo, none⟩) tt.data.length (bytesV tt.data)) := by
                  have hdl := HTL.out
                  by_cases h30 : vc = 30
                  · subst h30
                    have hz30 : sz = 30 := by omega
                    subst hz30
                    have hd0 : tt.data = [] := List.eq_nil_of_length_eq_zero (by omega)
                    exact ⟨vo, fun W => slice30' b vo 0 W, Lib.hid (by rw [hd0]; exact Rd.nil _ _ _ _)⟩
                  · refine ⟨vo + 30, fun W => ?_, Lib.hid ⟨by simp [bytesV], fun _ => ⟨b, vo + 30, rfl, rfl, fun j u hu => ?_⟩⟩⟩
                    · have := slice30 b vo (sz - 30) vc h30 W
                      rw [show 30 + (sz - 30) = sz by omega] at this
                      exact this
                    · unfold bytesV at hu
                      rw [HTD.out, List.map_map, List.getElem?_map] at hu
                      have hj : j < sz - 30 := by
                        rcases Nat.lt_or_ge j (sz - 30) with h | h
                        · exact h
                        · rw [List.getElem?_eq_none (by simpa using h)] at hu; cases hu
                      rw [List.getElem?_range hj] at hu
                      have := HCL.out (30 + j) (by omega)
                      rw [← Nat.add_assoc, ← Nat.add_assoc] at this
                      rw [this]
                      exact hu
                have HCP : Hid (∀ W : World, Quiet w8 W → Calls Try.prog 60 #[.slice (some ⟨b, fo, none⟩) (sz - 30) (vc - 30)] W (FreshPost W tt.data)) := Lib.hid (fun W hq => by
                  have := copy_any (some ⟨b, fo, none⟩) (vc - 30) tt.data (· = b) W (HDO.out.kept hq (fun _ _ x => x)) (by rw [HTL.out]; omega)
                  rw [HTL.out] at this
                  exact this)
                have HE0 := Lib.hid (row_eq (leNum g f 7) (g (f + 7)) tt.row (leNum_lt HG.out 7 f) (HG.out _) (by rw [← HRAW.out.read.1]; exact leNum_eight g f))
                have HE1 := Lib.hid (row_eq (leNum g (f + 8) 7) (g (f + 15)) tt.xmin (leNum_lt HG.out 7 _) (HG.out _) (by rw [← HRAW.out.read.2.1]; exact leNum_eight g (f + 8)))
                have HE2 := Lib.hid (row_eq (leNum g (f + 16) 7) (g (f + 23)) tt.xmax (leNum_lt HG.out 7 _) (HG.out _) (by rw [← HRAW.out.read.2.2.1]; exact leNum_eight g (f + 16)))
                have HE3 : Hid (IntKind.i64.wrap ((leNum g (f + 24) 4 : Int) - 1) = tt.pg) := Lib.hid (by
                  have h1 := HRAW.out.read.2.2.2.1
                  have h2 := HRAW.out.bd
                  rw [h1, IntKind.wrap_i64]
                  omega)
                have HE4 : Hid (IntKind.i64.wrap ((leNum g (f + 28) 2 : Int) - 1) = tt.sl) := Lib.hid (by
                  have h1 := HRAW.out.read.2.2.2.2
                  have h2 := HRAW.out.bd
                  rw [h1, IntKind.wrap_i64]
                  omega)
                rw [hg7] at HE0
                rw [hg15] at HE1
                rw [hg23] at HE2
                rw [hg7, hg15, hg23] at HS
                have HG7 := Lib.hid hg7
                have HG15 := Lib.hid hg15
                have HG23 := Lib.hid hg23
                clear hg7 hg15 hg23
                go_cut [13] (fun s13 wx => ∃ bx A5 c5, s13 = .pointer (some ⟨bx, 0, none⟩) ∧ Quiet w8 wx ∧ wx.heap[bx]? = some (.cells #[.int .u64 (tt.row : Int), .int .u64 (tt.xmin : Int), .int .u64 (tt.xmax : Int), .int .i64 tt.pg, .int .i64 tt.sl, .slice A5 tt.data.length c5] 54 (0, 0)) ∧ wx.ownsRow 0 5 1 (.slice A5 tt.data.length c5) tt.data.length (bytesV tt.data) ∧ ∀ k, (Value.slice A5 tt.data.length c5).ownBlock = some k → w8.heap.size ≤ k)
                case first =>
                  refine wp_region_held_drew (S := (fun w' => Quiet w8 w' ∧ w'.cell? ⟨b, vo + 7, none⟩ = some (.int .u8 (g7 : Int)) ∧ w'.cell? ⟨b, vo + 15, none⟩ = some (.int .u8 (g15 : Int)) ∧ w'.cell? ⟨b, vo + 23, none⟩ = some (.int .u8 (g23 : Int)))) (by kernel_rfl) (HS.out _ ((Only.refl (fun _ => False) w8).drew)) (fun hHeld => ?_)
                  simp only [List.size_toArray, List.length_cons, List.length_nil, Nat.reduceAdd]
                  (refine wpAnyH_take (i := 0) (oi := ?_) (v := ?_) ?_ (by kernel_rfl) (by decide +kernel) (by decide +kernel) ?_ (Or.inl ⟨?_, ?_⟩) (by first | assumption | exact trivial) ?_; rotate_left 2; (focus (simp only [List.getElem?_toArray, List.getElem?_cons_zero, List.getElem?_cons_succ] <;> rfl)); (focus (exact fun _ _ _ h => h)); (focus rfl); (focus (intro w hSw; (try dsimp only at hSw); go_simp; (try with_reducible rfl); done)); (try simp only [Act.put, List.setIfInBounds_toArray, List.set_cons_zero, List.set_cons_succ]))
                  (refine wpAnyH_take (i := 1) (oi := ?_) (v := ?_) ?_ (by kernel_rfl) (by decide +kernel) (by decide +kernel) ?_ (Or.inl ⟨?_, ?_⟩) (by first | assumption | exact trivial) ?_; rotate_left 2; (focus (simp only [List.getElem?_toArray, List.getElem?_cons_zero, List.getElem?_cons_succ] <;> rfl)); (focus (exact fun _ _ _ h => h)); (focus rfl); (focus (intro w hSw; (try dsimp only at hSw); go_simp; (try with_reducible rfl); done)); (try simp only [Act.put, List.setIfInBounds_toArray, List.set_cons_zero, List.set_cons_succ]))
                  (refine wpAnyH_take (i := 4) (oi := ?_) (v := ?_) ?_ (by kernel_rfl) (by decide +kernel) (by decide +kernel) ?_ (Or.inl ⟨?_, ?_⟩) (by first | assumption | exact trivial) ?_; rotate_left 2; (focus (simp only [List.getElem?_toArray, List.getElem?_cons_zero, List.getElem?_cons_succ] <;> rfl)); (focus (exact fun _ _ _ h => h)); (focus rfl); (focus (intro w hSw; (try dsimp only at hSw); go_simp; (try with_reducible rfl); done)); (try simp only [Act.put, List.setIfInBounds_toArray, List.set_cons_zero, List.set_cons_succ]))
                  (refine wpAnyH_take (i := 5) (oi := ?_) (v := ?_) ?_ (by kernel_rfl) (by decide +kernel) (by decide +kernel) ?_ (Or.inl ⟨?_, ?_⟩) (by first | assumption | exact trivial) ?_; rotate_left 2; (focus (simp only [List.getElem?_toArray, List.getElem?_cons_zero, List.getElem?_cons_succ] <;> rfl)); (focus (exact fun _ _ _ h => h)); (focus rfl); (focus (intro w hSw; (try dsimp only at hSw); go_simp; (try with_reducible rfl); done)); (try simp only [Act.put, List.setIfInBounds_toArray, List.set_cons_zero, List.set_cons_succ]))
                  (refine wpAnyH_take (i := 6) (oi := ?_) (v := ?_) ?_ (by kernel_rfl) (by decide +kernel) (by decide +kernel) ?_ (Or.inl ⟨?_, ?_⟩) (by first | assumption | exact trivial) ?_; rotate_left 2; (focus (simp only [List.getElem?_toArray, List.getElem?_cons_zero, List.getElem?_cons_succ] <;> rfl)); (focus (exact fun _ _ _ h => h)); (focus rfl); (focus (intro w hSw; (try dsimp only at hSw); go_simp; (try with_reducible rfl); done)); (try simp only [Act.put, List.setIfInBounds_toArray, List.set_cons_zero, List.set_cons_succ]))
                  (refine wpAnyH_take (i := 7) (oi := ?_) (v := ?_) ?_ (by kernel_rfl) (by decide +kernel) (by decide +kernel) ?_ (Or.inl ⟨?_, ?_⟩) (by first | assumption | exact trivial) ?_; rotate_left 2; (focus (simp only [List.getElem?_toArray, List.getElem?_cons_zero, List.getElem?_cons_succ] <;> rfl)); (focus (exact fun _ _ _ h => h)); (focus rfl); (focus (intro w hSw; (try dsimp only at hSw); go_simp; (try with_reducible rfl); done)); (try simp only [Act.put, List.setIfInBounds_toArray, List.set_cons_zero, List.set_cons_succ]))
                  (refine wpAnyH_take (i := 8) (oi := ?_) (v := ?_) ?_ (by kernel_rfl) (by decide +kernel) (by decide +kernel) ?_ (Or.inl ⟨?_, ?_⟩) (by first | assumption | exact trivial) ?_; rotate_left 2; (focus (simp only [List.getElem?_toArray, List.getElem?_cons_zero, List.getElem?_cons_succ] <;> rfl)); (focus (exact fun _ _ _ h => h)); (focus rfl); (focus (intro w hSw; (try dsimp only at hSw); go_simp; (try with_reducible rfl); done)); (try simp only [Act.put, List.setIfInBounds_toArray, List.set_cons_zero, List.set_cons_succ]))
                  (refine wpAnyH_take (i := 10) (oi := ?_) (v := ?_) ?_ (by kernel_rfl) (by decide +kernel) (by decide +kernel) ?_ (Or.inl ⟨?_, ?_⟩) (by first | assumption | exact trivial) ?_; rotate_left 2; (focus (simp only [List.getElem?_toArray, List.getElem?_cons_zero, List.getElem?_cons_succ] <;> rfl)); (focus (exact fun _ _ _ h => h)); (focus rfl); (focus (intro w hSw; (try dsimp only at hSw); go_simp; (try with_reducible rfl); done)); (try simp only [Act.put, List.setIfInBounds_toArray, List.set_cons_zero, List.set_cons_succ]))
                  (refine wpAnyH_take (i := 11) (oi := ?_) (v := ?_) ?_ (by kernel_rfl) (by decide +kernel) (by decide +kernel) ?_ (Or.inl ⟨?_, ?_⟩) (by first | assumption | exact trivial) ?_; rotate_left 2; (focus (simp only [List.getElem?_toArray, List.getElem?_cons_zero, List.getElem?_cons_succ] <;> rfl)); (focus (exact fun _ _ _ h => h)); (focus rfl); (focus (intro w hSw; (try dsimp only at hSw); go_simp; (try with_reducible rfl); done)); (try simp only [Act.put, List.setIfInBounds_toArray, List.set_cons_zero, List.set_cons_succ]))
                  (refine wpAnyH_take (i := 14) (oi := ?_) (v := ?_) ?_ (by kernel_rfl) (by decide +kernel) (by decide +kernel) ?_ (Or.inl ⟨?_, ?_⟩) (by first | assumption | exact trivial) ?_; rotate_left 2; (focus (simp only [List.getElem?_toArray, List.getElem?_cons_zero, List.getElem?_cons_succ] <;> rfl)); (focus (exact fun _ _ _ h => h)); (focus rfl); (focus (intro w hSw; (try dsimp only at hSw); go_simp; (try with_reducible rfl); done)); (try simp only [Act.put, List.setIfInBounds_toArray, List.set_cons_zero, List.set_cons_succ]))
                  (refine wpAnyH_take (i := 15) (oi := ?_) (v := ?_) ?_ (by kernel_rfl) (by decide +kernel) (by decide +kernel) ?_ (Or.inl ⟨?_, ?_⟩) (by first | assumption | exact trivial) ?_; rotate_left 2; (focus (simp only [List.getElem?_toArray, List.getElem?_cons_zero, List.getElem?_cons_succ] <;> rfl)); (focus (exact fun _ _ _ h => h)); (focus rfl); (focus (intro w hSw; (try dsimp only at hSw); go_simp; (try with_reducible rfl); done)); (try simp only [Act.put, List.setIfInBounds_toArray, List.set_cons_zero, List.set_cons_succ]))
                  (refine wpAnyH_take (i := 16) (oi := ?_) (v := ?_) ?_ (by kernel_rfl) (by decide +kernel) (by decide +kernel) ?_ (Or.inl ⟨?_, ?_⟩) (by first | assumption | exact trivial) ?_; rotate_left 2; (focus (simp only [List.getElem?_toArray, List.getElem?_cons_zero, List.getElem?_cons_succ] <;> rfl)); (focus (exact fun _ _ _ h => h)); (focus rfl); (focus (intro w hSw; (try dsimp only at hSw); go_simp; (try with_reducible rfl); done)); (try simp only [Act.put, List.setIfInBounds_toArray, List.set_cons_zero, List.set_cons_succ]))
                  (refine wpAnyH_take (i := 17) (oi := ?_) (v := ?_) ?_ (by kernel_rfl) (by decide +kernel) (by decide +kernel) ?_ (Or.inl ⟨?_, ?_⟩) (by first | assumption | exact trivial) ?_; rotate_left 2; (focus (simp only [List.getElem?_toArray, List.getElem?_cons_zero, List.getElem?_cons_succ] <;> rfl)); (focus (exact fun _ _ _ h => h)); (focus rfl); (focus (intro w hSw; (try dsimp only at hSw); go_simp; (try with_reducible rfl); done)); (try simp only [Act.put, List.setIfInBounds_toArray, List.set_cons_zero, List.set_cons_succ]))
                  (refine wpAnyH_take (i := 18) (oi := ?_) (v := ?_) ?_ (by kernel_rfl) (by decide +kernel) (by decide +kernel) ?_ (Or.inl ⟨?_, ?_⟩) (by first | assumption | exact trivial) ?_; rotate_left 2; (focus (simp only [List.getElem?_toArray, List.getElem?_cons_zero, List.getElem?_cons_succ] <;> rfl)); (focus (exact fun _ _ _ h => h)); (focus rfl); (focus (intro w hSw; (try dsimp only at hSw); go_simp; (try with_reducible rfl); done)); (try simp only [Act.put, List.setIfInBounds_toArray, List.set_cons_zero, List.set_cons_succ]))
                  (refine wpAnyH_take (i := 20) (oi := ?_) (v := ?_) ?_ (by kernel_rfl) (by decide +kernel) (by decide +kernel) ?_ (Or.inl ⟨?_, ?_⟩) (by first | assumption | exact trivial) ?_; rotate_left 2; (focus (simp only [List.getElem?_toArray, List.getElem?_cons_zero, List.getElem?_cons_succ] <;> rfl)); (focus (exact fun _ _ _ h => h)); (focus rfl); (focus (intro w hSw; (try dsimp only at hSw); go_simp; (try with_reducible rfl); done)); (try simp only [Act.put, List.setIfInBounds_toArray, List.set_cons_zero, List.set_cons_succ]))
                  (refine wpAnyH_take (i := 21) (oi := ?_) (v := ?_) ?_ (by kernel_rfl) (by decide +kernel) (by decide +kernel) ?_ (Or.inl ⟨?_, ?_⟩) (by first | assumption | exact trivial) ?_; rotate_left 2; (focus (simp only [List.getElem?_toArray, List.getElem?_cons_zero, List.getElem?_cons_succ] <;> rfl)); (focus (exact fun _ _ _ h => h)); (focus rfl); (focus (intro w hSw; (try dsimp only at hSw); go_simp; (try with_reducible rfl); done)); (try simp only [Act.put, List.setIfInBounds_toArray, List.set_cons_zero, List.set_cons_succ]))
                  (refine wpAnyH_take (i := 24) (oi := ?_) (v := ?_) ?_ (by kernel_rfl) (by decide +kernel) (by decide +kernel) ?_ (Or.inl ⟨?_, ?_⟩) (by first | assumption | exact trivial) ?_; rotate_left 2; (focus (simp only [List.getElem?_toArray, List.getElem?_cons_zero, List.getElem?_cons_succ] <;> rfl)); (focus (exact fun _ _ _ h => h)); (focus rfl); (focus (intro w hSw; (try dsimp only at hSw); go_simp; (try with_reducible rfl); done)); (try simp only [Act.put, List.setIfInBounds_toArray, List.set_cons_zero, List.set_cons_succ]))
                  (refine wpAnyH_take (i := 25) (oi := ?_) (v := ?_) ?_ (by kernel_rfl) (by decide +kernel) (by decide +kernel) ?_ (Or.inl ⟨?_, ?_⟩) (by first | assumption | exact trivial) ?_; rotate_left 2; (focus (simp only [List.getElem?_toArray, List.getElem?_cons_zero, List.getElem?_cons_succ] <;> rfl)); (focus (exact fun _ _ _ h => h)); (focus rfl); (focus (intro w hSw; (try dsimp only at hSw); go_simp; (try with_reducible rfl); done)); (try simp only [Act.put, List.setIfInBounds_toArray, List.set_cons_zero, List.set_cons_succ]))
                  (refine wpAnyH_take (i := 26) (oi := ?_) (v := ?_) ?_ (by kernel_rfl) (by decide +kernel) (by decide +kernel) ?_ (Or.inl ⟨?_, ?_⟩) (by first | assumption | exact trivial) ?_; rotate_left 2; (focus (simp only [List.getElem?_toArray, List.getElem?_cons_zero, List.getElem?_cons_succ] <;> rfl)); (focus (exact fun _ _ _ h => h)); (focus rfl); (focus (intro w hSw; (try dsimp only at hSw); go_simp; (try with_reducible rfl); done)); (try simp only [Act.put, List.setIfInBounds_toArray, List.set_cons_zero, List.set_cons_succ]))
                  (refine wpAnyH_take (i := 27) (oi := ?_) (v := ?_) ?_ (by kernel_rfl) (by decide +kernel) (by decide +kernel) ?_ (Or.inl ⟨?_, ?_⟩) (by first | assumption | exact trivial) ?_; rotate_left 2; (focus (simp only [List.getElem?_toArray, List.getElem?_cons_zero, List.getElem?_cons_succ] <;> rfl)); (focus (exact fun _ _ _ h => h)); (focus rfl); (focus (intro w hSw; (try dsimp only at hSw); go_simp; (try with_reducible rfl); done)); (try simp only [Act.put, List.setIfInBounds_toArray, List.set_cons_zero, List.set_cons_succ]))
                  (refine wpAnyH_take (i := 28) (oi := ?_) (v := ?_) ?_ (by kernel_rfl) (by decide +kernel) (by decide +kernel) ?_ (Or.inl ⟨?_, ?_⟩) (by first | assumption | exact trivial) ?_; rotate_left 2; (focus (simp only [List.getElem?_toArray, List.getElem?_cons_zero, List.getElem?_cons_succ] <;> rfl)); (focus (exact fun _ _ _ h => h)); (focus rfl); (focus (intro w hSw; (try dsimp only at hSw); go_simp; (try with_reducible rfl); done)); (try simp only [Act.put, List.setIfInBounds_toArray, List.set_cons_zero, List.set_cons_succ]))
                  (refine wpAnyH_take (i := 30) (oi := ?_) (v := ?_) ?_ (by kernel_rfl) (by decide +kernel) (by decide +kernel) ?_ (Or.inl ⟨?_, ?_⟩) (by first | assumption | exact trivial) ?_; rotate_left 2; (focus (simp only [List.getElem?_toArray, List.getElem?_cons_zero, List.getElem?_cons_succ] <;> rfl)); (focus (exact fun _ _ _ h => h)); (focus rfl); (focus (intro w hSw; (try dsimp only at hSw); go_simp; (try with_reducible rfl); done)); (try simp only [Act.put, List.setIfInBounds_toArray, List.set_cons_zero, List.set_cons_succ]))
                  (refine wpAnyH_take (i := 31) (oi := ?_) (v := ?_) ?_ (by kernel_rfl) (by decide +kernel) (by decide +kernel) ?_ (Or.inl ⟨?_, ?_⟩) (by first | assumption | exact trivial) ?_; rotate_left 2; (focus (simp only [List.getElem?_toArray, List.getElem?_cons_zero, List.getElem?_cons_succ] <;> rfl)); (focus (exact fun _ _ _ h => h)); (focus rfl); (focus (intro w hSw; (try dsimp only at hSw); go_simp; (try with_reducible rfl); done)); (try simp only [Act.put, List.setIfInBounds_toArray, List.set_cons_zero, List.set_cons_succ]))
                  (refine wpAnyH_take (i := 34) (oi := ?_) (v := ?_) ?_ (by kernel_rfl) (by decide +kernel) (by decide +kernel) ?_ (Or.inl ⟨?_, ?_⟩) (by first | assumption | exact trivial) ?_; rotate_left 2; (focus (simp only [List.getElem?_toArray, List.getElem?_cons_zero, List.getElem?_cons_succ] <;> rfl)); (focus (exact fun _ _ _ h => h)); (focus rfl); (focus (intro w hSw; (try dsimp only at hSw); go_simp; (try with_reducible rfl); done)); (try simp only [Act.put, List.setIfInBounds_toArray, List.set_cons_zero, List.set_cons_succ]))
                  (refine wpAnyH_take (i := 35) (oi := ?_) (v := ?_) ?_ (by kernel_rfl) (by decide +kernel) (by decide +kernel) ?_ (Or.inl ⟨?_, ?_⟩) (by first | assumption | exact trivial) ?_; rotate_left 2; (focus (simp only [List.getElem?_toArray, List.getElem?_cons_zero, List.getElem?_cons_succ] <;> rfl)); (focus (exact fun _ _ _ h => h)); (focus rfl); (focus (intro w hSw; (try dsimp only at hSw); go_simp; (try with_reducible rfl); done)); (try simp only [Act.put, List.setIfInBounds_toArray, List.set_cons_zero, List.set_cons_succ]))
                  (refine wpAnyH_take (i := 39) (oi := ?_) (v := ?_) ?_ (by kernel_rfl) (by decide +kernel) (by decide +kernel) ?_ (Or.inl ⟨?_, ?_⟩) (by first | assumption | exact trivial) ?_; rotate_left 2; (focus (simp only [List.getElem?_toArray, List.getElem?_cons_zero, List.getElem?_cons_succ] <;> rfl)); (focus (exact fun _ _ _ h => h)); (focus rfl); (focus (intro w hSw; (try dsimp only at hSw); go_simp; (try with_reducible rfl); done)); (try simp only [Act.put, List.setIfInBounds_toArray, List.set_cons_zero, List.set_cons_succ]))
                  (refine wpAnyH_take (i := 40) (oi := ?_) (v := ?_) ?_ (by kernel_rfl) (by decide +kernel) (by decide +kernel) ?_ (Or.inl ⟨?_, ?_⟩) (by first | assumption | exact trivial) ?_; rotate_left 2; (focus (simp only [List.getElem?_toArray, List.getElem?_cons_zero, List.getElem?_cons_succ] <;> rfl)); (focus (exact fun _ _ _ h => h)); (focus rfl); (focus (intro w hSw; (try dsimp only at hSw); go_simp; (try with_reducible rfl); done)); (try simp only [Act.put, List.setIfInBounds_toArray, List.set_cons_zero, List.set_cons_succ]))
                  refine wpAnyH_ready (rs := [2, 43]) (by kernel_rfl) (by simp) ?_
                  refine AllReadyH.cons (o := ?_) ?_ ?_ ?_
                  rotate_left 1
                  (focus (simp only [List.getElem?_toArray, List.getElem?_cons_zero, List.getElem?_cons_succ] <;> rfl))
                  · intro K hK
                    go_simp
                    go_at_call 96
                    refine (HG28.out 0 7 _ _ ((Only.refl (fun _ => False) w8).drew) (by omega) (by omega)).mono ?_
                    rintro e w1 ⟨rfl, rfl⟩
                    dsimp only
                    refine hK.out _ _ ?_ (fun hHeld => ?_)
                    · exact HS.out _ ((Only.refl (fun _ => False) w8).drew)
                    clear hK K
                    (try simp only [Act.put, List.setIfInBounds_toArray, List.set_cons_zero, List.set_cons_succ])
                    (refine wpAnyH_take (i := 3) (oi := ?_) (v := ?_) ?_ (by kernel_rfl) (by decide +kernel) (by decide +kernel) ?_ (Or.inl ⟨?_, ?_⟩) (by first | assumption | exact trivial) ?_; rotate_left 2; (focus (simp only [List.getElem?_toArray, List.getElem?_cons_zero, List.getElem?_cons_succ] <;> rfl)); (focus (exact fun _ _ _ h => h)); (focus rfl); (focus (intro w hSw; (try dsimp only at hSw); go_simp; (try with_reducible rfl); done)); (try simp only [Act.put, List.setIfInBounds_toArray, List.set_cons_zero, List.set_cons_succ]))
                    (refine wpAnyH_take (i := 9) (oi := ?_) (v := ?_) ?_ (by kernel_rfl) (by decide +kernel) (by decide +kernel) ?_ (Or.inl ⟨?_, ?_⟩) (by first | assumption | exact trivial) ?_; rotate_left 2; (focus (simp only [List.getElem?_toArray, List.getElem?_cons_zero, List.getElem?_cons_succ] <;> rfl)); (focus (exact fun _ _ _ h => h)); (focus rfl); (focus (intro w hSw; (try dsimp only at hSw); go_simp; (try with_reducible rfl); done)); (try simp only [Act.put, List.setIfInBounds_toArray, List.set_cons_zero, List.set_cons_succ]))
                    refine wpAnyH_ready (rs := [12, 43]) (by kernel_rfl) (by simp) ?_
                    refine AllReadyH.cons (o := ?_) ?_ ?_ ?_
                    rotate_left 1
                    (focus (simp only [List.getElem?_toArray, List.getElem?_cons_zero, List.getElem?_cons_succ] <;> rfl))
                    · intro K hK
                      go_simp
                      go_at_call 96
                      refine (HG28.out 8 7 _ _ ((Only.refl (fun _ => False) w8).drew) (by omega) (by omega)).mono ?_
                      rintro e w1 ⟨rfl, rfl⟩
                      dsimp only
                      refine hK.out _ _ ?_ (fun hHeld => ?_)
                      · exact HS.out _ ((Only.refl (fun _ => False) w8).drew)
                      clear hK K
                      (try simp only [Act.put, List.setIfInBounds_toArray, List.set_cons_zero, List.set_cons_succ])
                      (refine wpAnyH_take (i := 13) (oi := ?_) (v := ?_) ?_ (by kernel_rfl) (by decide +kernel) (by decide +kernel) ?_ (Or.inl ⟨?_, ?_⟩) (by first | assumption | exact trivial) ?_; rotate_left 2; (focus (simp only [List.getElem?_toArray, List.getElem?_cons_zero, List.getElem?_cons_succ] <;> rfl)); (focus (exact fun _ _ _ h => h)); (focus rfl); (focus (intro w hSw; (try dsimp only at hSw); go_simp; (try with_reducible rfl); done)); (try simp only [Act.put, List.setIfInBounds_toArray, List.set_cons_zero, List.set_cons_succ]))
                      (refine wpAnyH_take (i := 19) (oi := ?_) (v := ?_) ?_ (by kernel_rfl) (by decide +kernel) (by decide +kernel) ?_ (Or.inl ⟨?_, ?_⟩) (by first | assumption | exact trivial) ?_; rotate_left 2; (focus (simp only [List.getElem?_toArray, List.getElem?_cons_zero, List.getElem?_cons_succ] <;> rfl)); (focus (exact fun _ _ _ h => h)); (focus rfl); (focus (intro w hSw; (try dsimp only at hSw); go_simp; (try with_reducible rfl); done)); (try simp only [Act.put, List.setIfInBounds_toArray, List.set_cons_zero, List.set_cons_succ]))
                      refine wpAnyH_ready (rs := [22, 43]) (by kernel_rfl) (by simp) ?_
                      refine AllReadyH.cons (o := ?_) ?_ ?_ ?_
                      rotate_left 1
                      (focus (simp only [List.getElem?_toArray, List.getElem?_cons_zero, List.getElem?_cons_succ] <;> rfl))
                      · intro K hK
                        go_simp
                        go_at_call 96
                        refine (HG28.out 16 7 _ _ ((Only.refl (fun _ => False) w8).drew) (by omega) (by omega)).mono ?_
                        rintro e w1 ⟨rfl, rfl⟩
                        dsimp only
                        refine hK.out _ _ ?_ (fun hHeld => ?_)
                        · exact HS.out _ ((Only.refl (fun _ => False) w8).drew)
                        clear hK K
                        (try simp only [Act.put, List.setIfInBounds_toArray, List.set_cons_zero, List.set_cons_succ])
                        (refine wpAnyH_take (i := 23) (oi := ?_) (v := ?_) ?_ (by kernel_rfl) (by decide +kernel) (by decide +kernel) ?_ (Or.inl ⟨?_, ?_⟩) (by first | assumption | exact trivial) ?_; rotate_left 2; (focus (simp only [List.getElem?_toArray, List.getElem?_cons_zero, List.getElem?_cons_succ] <;> rfl)); (focus (exact fun _ _ _ h => h)); (focus rfl); (focus (intro w hSw; (try dsimp only at hSw); go_simp; (try with_reducible rfl); done)); (try simp only [Act.put, List.setIfInBounds_toArray, List.set_cons_zero, List.set_cons_succ]))
                        (refine wpAnyH_take (i := 29) (oi := ?_) (v := ?_) ?_ (by kernel_rfl) (by decide +kernel) (by decide +kernel) ?_ (Or.inl ⟨?_, ?_⟩) (by first | assumption | exact trivial) ?_; rotate_left 2; (focus (simp only [List.getElem?_toArray, List.getElem?_cons_zero, List.getElem?_cons_succ] <;> rfl)); (focus (exact fun _ _ _ h => h)); (focus rfl); (focus (intro w hSw; (try dsimp only at hSw); go_simp; (try with_reducible rfl); done)); (try simp only [Act.put, List.setIfInBounds_toArray, List.set_cons_zero, List.set_cons_succ]))
                        refine wpAnyH_ready (rs := [32, 43]) (by kernel_rfl) (by simp) ?_
                        refine AllReadyH.cons (o := ?_) ?_ ?_ ?_
                        rotate_left 1
                        (focus (simp only [List.getElem?_toArray, List.getElem?_cons_zero, List.getElem?_cons_succ] <;> rfl))
                        · intro K hK
                          go_simp
                          go_at_call 96
                          refine (HG28.out 24 4 _ _ ((Only.refl (fun _ => False) w8).drew) (by omega) (by omega)).mono ?_
                          rintro e w1 ⟨rfl, rfl⟩
                          dsimp only
                          refine hK.out _ _ ?_ (fun hHeld => ?_)
                          · exact HS.out _ ((Only.refl (fun _ => False) w8).drew)
                          clear hK K
                          (try simp only [Act.put, List.setIfInBounds_toArray, List.set_cons_zero, List.set_cons_succ])
                          (refine wpAnyH_take (i := 33) (oi := ?_) (v := ?_) ?_ (by kernel_rfl) (by decide +kernel) (by decide +kernel) ?_ (Or.inl ⟨?_, ?_⟩) (by first | assumption | exact trivial) ?_; rotate_left 2; (focus (simp only [List.getElem?_toArray, List.getElem?_cons_zero, List.getElem?_cons_succ] <;> rfl)); (focus (exact fun _ _ _ h => h)); (focus rfl); (focus (intro w hSw; (try dsimp only at hSw); go_simp; (try with_reducible rfl); done)); (try simp only [Act.put, List.setIfInBounds_toArray, List.set_cons_zero, List.set_cons_succ]))
                          refine wpAnyH_ready (rs := [36, 43]) (by kernel_rfl) (by simp) ?_
                          refine AllReadyH.cons (o := ?_) ?_ ?_ ?_
                          rotate_left 1
                          (focus (simp only [List.getElem?_toArray, List.getElem?_cons_zero, List.getElem?_cons_succ] <;> rfl))
                          · intro K hK
                            go_simp
                            go_at_call 96
                            refine (HG28.out 28 2 _ _ ((Only.refl (fun _ => False) w8).drew) (by omega) (by omega)).mono ?_
                            rintro e w1 ⟨rfl, rfl⟩
                            dsimp only
                            refine hK.out _ _ ?_ (fun hHeld => ?_)
                            · exact HS.out _ ((Only.refl (fun _ => False) w8).drew)
                            clear hK K
                            (try simp only [Act.put, List.setIfInBounds_toArray, List.set_cons_zero, List.set_cons_succ])
                            (refine wpAnyH_take (i := 37) (oi := ?_) (v := ?_) ?_ (by kernel_rfl) (by decide +kernel) (by decide +kernel) ?_ (Or.inl ⟨?_, ?_⟩) (by first | assumption | exact trivial) ?_; rotate_left 2; (focus (simp only [List.getElem?_toArray, List.getElem?_cons_zero, List.getElem?_cons_succ] <;> rfl)); (focus (exact fun _ _ _ h => h)); (focus rfl); (focus (intro w hSw; (try dsimp only at hSw); go_simp; (try with_reducible rfl); done)); (try simp only [Act.put, List.setIfInBounds_toArray, List.set_cons_zero, List.set_cons_succ]))
                            (refine wpAnyH_take (i := 38) (oi := ?_) (v := ?_) ?_ (by kernel_rfl) (by decide +kernel) (by decide +kernel) ?_ (Or.inl ⟨?_, ?_⟩) (by first | assumption | exact trivial) ?_; rotate_left 2; (focus (simp only [List.getElem?_toArray, List.getElem?_cons_zero, List.getElem?_cons_succ] <;> rfl)); (focus (exact fun _ _ _ h => h)); (focus rfl); (focus (intro w hSw; (try dsimp only at hSw); go_simp; (try with_reducible rfl); done)); (try simp only [Act.put, List.setIfInBounds_toArray, List.set_cons_zero, List.set_cons_succ]))
                            refine wpAnyH_ready (rs := [41, 43]) (by kernel_rfl) (by simp) ?_
                            refine AllReadyH.cons (o := ?_) ?_ ?_ ?_
                            rotate_left 1
                            (focus (simp only [List.getElem?_toArray, List.getElem?_cons_zero, List.getElem?_cons_succ] <;> rfl))
                            · intro K hK
                              go_simp
                              go_at_call 60
                              refine (HCP.out _ ((Only.refl (fun _ => False) w8).drew)).mono ?_
                              rintro e wc ⟨vd, rfl, hfr⟩
                              obtain ⟨Ad, cd, hvd, _, _, _⟩ := own_form hfr.own
                              subst hvd
                              dsimp only
                              refine hK.out _ _ ?_ (fun hHeld => ?_)
                              · exact HS.out _ (((Only.refl (fun _ => False) w8).drew).trans hfr.quiet)
                              clear hK K
                              (try simp only [Act.put, List.setIfInBounds_toArray, List.set_cons_zero, List.set_cons_succ])
                              (refine wpAnyH_take (i := 42) (oi := ?_) (v := ?_) ?_ (by kernel_rfl) (by decide +kernel) (by decide +kernel) ?_ (Or.inl ⟨?_, ?_⟩) (by first | assumption | exact trivial) ?_; rotate_left 2; (focus (simp only [List.getElem?_toArray, List.getElem?_cons_zero, List.getElem?_cons_succ] <;> rfl)); (focus (exact fun _ _ _ h => h)); (focus rfl); (focus (intro w hSw; (try dsimp only at hSw); go_simp; (try with_reducible rfl); done)); (try simp only [Act.put, List.setIfInBounds_toArray, List.set_cons_zero, List.set_cons_succ]))
                              refine wpAnyH_ready (rs := [43]) (by kernel_rfl) (by simp) ?_
                              refine AllReadyH.cons (o := ?_) ?_ ?_ ?_
                              rotate_left 1
                              (focus (simp only [List.getElem?_toArray, List.getElem?_cons_zero, List.getElem?_cons_succ] <;> rfl))
                              · intro K hK
                                go_simp
                                refine hK.out _ _ ?_ (fun hHeld => ?_)
                                · exact HS.out _ ((((Only.refl (fun _ => False) w8).drew).trans hfr.quiet).alloc (.cells #[.int .u64 0, .int .u64 0, .int .u64 0, .int .i64 0, .int .i64 0, .slice none 0 0] 54))
                                clear hK K
                                (try simp only [Act.put, List.setIfInBounds_toArray, List.set_cons_zero, List.set_cons_succ])
                                rw [HE0.out, HE1.out, HE2.out, HE3.out, HE4.out]
                                have HQF : Hid (Quiet w8 (wc.alloc (.cells #[.int .u64 (tt.row : Int), .int .u64 (tt.xmin : Int), .int .u64 (tt.xmax : Int), .int .i64 tt.pg, .int .i64 tt.sl, .slice Ad tt.data.length cd] 54))) := Lib.hid ((((Only.refl (fun _ => False) w8).drew).trans hfr.quiet).alloc _)
                                refine wpAnyH_ready (rs := [44]) (by kernel_rfl) (by simp) ?_
                                refine AllReadyH.cons (o := ?_) ?_ ?_ AllReadyH.nil
                                rotate_left 1
                                (focus (simp only [List.getElem?_toArray, List.getElem?_cons_zero, List.getElem?_cons_succ] <;> rfl))
                                intro K hK
                                go_simp
                                refine hK.out _ _ ?_ (fun hHeld => ?_)
                                · exact HS.out _ HQF.out
                                clear hK K hHeld
                                (try simp only [Act.put, List.setIfInBounds_toArray, List.set_cons_zero, List.set_cons_succ])
                                refine wpAnyH_done (by kernel_rfl) ?_ _
                                go_wp2_with fail
                                go_meet
                                exact ⟨_, Ad, cd, rfl, HQF.out, alloc_new _ _, owns_kept hfr.own ((Only.refl (fun _ => False) wc).alloc (.cells #[.int .u64 (tt.row : Int), .int .u64 (tt.xmin : Int), .int .u64 (tt.xmax : Int), .int .i64 tt.pg, .int .i64 tt.sl, .slice Ad tt.data.length cd] 54)) (fun _ _ x => x), fun k e => by have := hfr.new k e; simp at this; omega⟩
                              exact AllReadyH.nil
                            refine AllReadyH.cons (o := ?_) ?_ ?_ ?_
                            rotate_left 1
                            (focus (simp only [List.getElem?_toArray, List.getElem?_cons_zero, List.getElem?_cons_succ] <;> rfl))
                            · intro K hK
                              go_simp
                              refine hK.out _ _ ?_ (fun hHeld => ?_)
                              · exact HS.out _ (((Only.refl (fun _ => False) w8).drew).alloc (.cells #[.int .u64 0, .int .u64 0, .int .u64 0, .int .i64 0, .int .i64 0, .slice none 0 0] 54))
                              clear hK K
                              (try simp only [Act.put, List.setIfInBounds_toArray, List.set_cons_zero, List.set_cons_succ])
                              refine wpAnyH_ready (rs := [41]) (by kernel_rfl) (by simp) ?_
                              refine AllReadyH.cons (o := ?_) ?_ ?_ ?_
                              rotate_left 1
                              (focus (simp only [List.getElem?_toArray, List.getElem?_cons_zero, List.getElem?_cons_succ] <;> rfl))
                              · intro K hK
                                go_simp
                                go_at_call 60
                                refine (HCP.out _ (((Only.refl (fun _ => False) w8).drew).alloc (.cells #[.int .u64 0, .int .u64 0, .int .u64 0, .int .i64 0, .int .i64 0, .slice none 0 0] 54))).mono ?_
                                rintro e wc ⟨vd, rfl, hfr⟩
                                obtain ⟨Ad, cd, hvd, _, _, _⟩ := own_form hfr.own
                                subst hvd
                                dsimp only
                                refine hK.out _ _ ?_ (fun hHeld => ?_)
                                · exact HS.out _ ((((Only.refl (fun _ => False) w8).drew).alloc (.cells #[.int .u64 0, .int .u64 0, .int .u64 0, .int .i64 0, .int .i64 0, .slice none 0 0] 54)).trans hfr.quiet)
                                clear hK K
                                (try simp only [Act.put, List.setIfInBounds_toArray, List.set_cons_zero, List.set_cons_succ])
                                (refine wpAnyH_take (i := 42) (oi := ?_) (v := ?_) ?_ (by kernel_rfl) (by decide +kernel) (by decide +kernel) ?_ (Or.inl ⟨?_, ?_⟩) (by first | assumption | exact trivial) ?_; rotate_left 2; (focus (simp only [List.getElem?_toArray, List.getElem?_cons_zero, List.getElem?_cons_succ] <;> rfl)); (focus (exact fun _ _ _ h => h)); (focus rfl); (focus (intro w hSw; (try dsimp only at hSw); go_simp; (try with_reducible rfl); done)); (try simp only [Act.put, List.setIfInBounds_toArray, List.set_cons_zero, List.set_cons_succ]))
                                rw [HE0.out, HE1.out, HE2.out, HE3.out, HE4.out]
                                have hbx : wc.heap[w8.heap.size]? = _ := hfr.quiet.get (alloc_new w8.drew (.cells #[.int .u64 0, .int .u64 0, .int .u64 0, .int .i64 0, .int .i64 0, .slice none 0 0] 54)) (fun x => x)
                                obtain ⟨k0, k1, k2, k3, k4, k5⟩ := zero_cells hbx
                                have kf := fun o => frozen_of hbx o
                                have HQF : Hid (Quiet w8 (sixSet wc w8.heap.size (.int .u64 (tt.row : Int)) (.int .u64 (tt.xmin : Int)) (.int .u64 (tt.xmax : Int)) (.int .i64 tt.pg) (.int .i64 tt.sl) (.slice Ad tt.data.length cd))) := Lib.hid (((((Only.refl (fun _ => False) w8).drew).alloc (.cells #[.int .u64 0, .int .u64 0, .int .u64 0, .int .i64 0, .int .i64 0, .slice none 0 0] 54)).trans hfr.quiet).trans' (sixSet_only wc w8.heap.size (.int .u64 (tt.row : Int)) (.int .u64 (tt.xmin : Int)) (.int .u64 (tt.xmax : Int)) (.int .i64 tt.pg) (.int .i64 tt.sl) (.slice Ad tt.data.length cd)) (fun k hk e => by omega))
                                refine wpAnyH_ready (rs := [44]) (by kernel_rfl) (by simp) ?_
                                refine AllReadyH.cons (o := ?_) ?_ ?_ AllReadyH.nil
                                rotate_left 1
                                (focus (simp only [List.getElem?_toArray, List.getElem?_cons_zero, List.getElem?_cons_succ] <;> rfl))
                                intro K hK
                                go_simp
                                refine hK.out _ _ ?_ (fun hHeld => ?_)
                                · exact HS.out _ HQF.out
                                clear hK K hHeld
                                (try simp only [Act.put, List.setIfInBounds_toArray, List.set_cons_zero, List.set_cons_succ])
                                refine wpAnyH_done (by kernel_rfl) ?_ _
                                go_wp2_with fail
                                go_meet
                                exact ⟨_, Ad, cd, rfl, HQF.out, sixSet_same hbx _ _ _ _ _ _, owns_kept hfr.own (sixSet_only _ _ _ _ _ _ _ _) (fun k e x => by have := hfr.new k e; simp at this; omega), fun k e => by have := hfr.new k e; simp at this; omega⟩
                              exact AllReadyH.nil
                            exact AllReadyH.nil
                          refine AllReadyH.cons (o := ?_) ?_ ?_ ?_
                          rotate_left 1
                          (focus (simp only [List.getElem?_toArray, List.getElem?_cons_zero, List.getElem?_cons_succ] <;> rfl))
                          · intro K hK
                            go_simp
                            refine hK.out _ _ ?_ (fun hHeld => ?_)
                            · exact HS.out _ (((Only.refl (fun _ => False) w8).drew).alloc (.cells #[.int .u64 0, .int .u64 0, .int .u64 0, .int .i64 0, .int .i64 0, .slice none 0 0] 54))
                            clear hK K
                            (try simp only [Act.put, List.setIfInBounds_toArray, List.set_cons_zero, List.set_cons_succ])
                            refine wpAnyH_ready (rs := [36]) (by kernel_rfl) (by simp) ?_
                            refine AllReadyH.cons (o := ?_) ?_ ?_ ?_
                            rotate_left 1
                            (focus (simp only [List.getElem?_toArray, List.getElem?_cons_zero, List.getElem?_cons_succ] <;> rfl))
                            · intro K hK
                              go_simp
                              go_at_call 96
                              refine (HG28.out 28 2 _ _ (((Only.refl (fun _ => False) w8).drew).alloc (.cells #[.int .u64 0, .int .u64 0, .int .u64 0, .int .i64 0, .int .i64 0, .slice none 0 0] 54)) (by omega) (by omega)).mono ?_
                              rintro e w1 ⟨rfl, rfl⟩
                              dsimp only
                              refine hK.out _ _ ?_ (fun hHeld => ?_)
                              · exact HS.out _ (((Only.refl (fun _ => False) w8).drew).alloc (.cells #[.int .u64 0, .int .u64 0, .int .u64 0, .int .i64 0, .int .i64 0, .slice none 0 0] 54))
                              clear hK K
                              (try simp only [Act.put, List.setIfInBounds_toArray, List.set_cons_zero, List.set_cons_succ])
                              (refine wpAnyH_take (i := 37) (oi := ?_) (v := ?_) ?_ (by kernel_rfl) (by decide +kernel) (by decide +kernel) ?_ (Or.inl ⟨?_, ?_⟩) (by first | assumption | exact trivial) ?_; rotate_left 2; (focus (simp only [List.getElem?_toArray, List.getElem?_cons_zero, List.getElem?_cons_succ] <;> rfl)); (focus (exact fun _ _ _ h => h)); (focus rfl); (focus (intro w hSw; (try dsimp only at hSw); go_simp; (try with_reducible rfl); done)); (try simp only [Act.put, List.setIfInBounds_toArray, List.set_cons_zero, List.set_cons_succ]))
                              (refine wpAnyH_take (i := 38) (oi := ?_) (v := ?_) ?_ (by kernel_rfl) (by decide +kernel) (by decide +kernel) ?_ (Or.inl ⟨?_, ?_⟩) (by first | assumption | exact trivial) ?_; rotate_left 2; (focus (simp only [List.getElem?_toArray, List.getElem?_cons_zero, List.getElem?_cons_succ] <;> rfl)); (focus (exact fun _ _ _ h => h)); (focus rfl); (focus (intro w hSw; (try dsimp only at hSw); go_simp; (try with_reducible rfl); done)); (try simp only [Act.put, List.setIfInBounds_toArray, List.set_cons_zero, List.set_cons_succ]))
                              refine wpAnyH_ready (rs := [41]) (by kernel_rfl) (by simp) ?_
                              refine AllReadyH.cons (o := ?_) ?_ ?_ ?_
                              rotate_left 1
                              (focus (simp only [List.getElem?_toArray, List.getElem?_cons_zero, List.getElem?_cons_succ] <;> rfl))
                              · intro K hK
                                go_simp
                                go_at_call 60
                                refine (HCP.out _ (((Only.refl (fun _ => False) w8).drew).alloc (.cells #[.int .u64 0, .int .u64 0, .int .u64 0, .int .i64 0, .int .i64 0, .slice none 0 0] 54))).mono ?_
                                rintro e wc ⟨vd, rfl, hfr⟩
                                obtain ⟨Ad, cd, hvd, _, _, _⟩ := own_form hfr.own
                                subst hvd
                                dsimp only
                                refine hK.out _ _ ?_ (fun hHeld => ?_)
                                · exact HS.out _ ((((Only.refl (fun _ => False) w8).drew).alloc (.cells #[.int .u64 0, .int .u64 0, .int .u64 0, .int .i64 0, .int .i64 0, .slice none 0 0] 54)).trans hfr.quiet)
                                clear hK K
                                (try simp only [Act.put, List.setIfInBounds_toArray, List.set_cons_zero, List.set_cons_succ])
                                (refine wpAnyH_take (i := 42) (oi := ?_) (v := ?_) ?_ (by kernel_rfl) (by decide +kernel) (by decide +kernel) ?_ (Or.inl ⟨?_, ?_⟩) (by first | assumption | exact trivial) ?_; rotate_left 2; (focus (simp only [List.getElem?_toArray, List.getElem?_cons_zero, List.getElem?_cons_succ] <;> rfl)); (focus (exact fun _ _ _ h => h)); (focus rfl); (focus (intro w hSw; (try dsimp only at hSw); go_simp; (try with_reducible rfl); done)); (try simp only [Act.put, List.setIfInBounds_toArray, List.set_cons_zero, List.set_cons_succ]))
                                rw [HE0.out, HE1.out, HE2.out, HE3.out, HE4.out]
                                have hbx : wc.heap[w8.heap.size]? = _ := hfr.quiet.get (alloc_new w8.drew (.cells #[.int .u64 0, .int .u64 0, .int .u64 0, .int .i64 0, .int .i64 0, .slice none 0 0] 54)) (fun x => x)
                                obtain ⟨k0, k1, k2, k3, k4, k5⟩ := zero_cells hbx
                                have kf := fun o => frozen_of hbx o
                                have HQF : Hid (Quiet w8 (sixSet wc w8.heap.size (.int .u64 (tt.row : Int)) (.int .u64 (tt.xmin : Int)) (.int .u64 (tt.xmax : Int)) (.int .i64 tt.pg) (.int .i64 tt.sl) (.slice Ad tt.data.length cd))) := Lib.hid (((((Only.refl (fun _ => False) w8).drew).alloc (.cells #[.int .u64 0, .int .u64 0, .int .u64 0, .int .i64 0, .int .i64 0, .slice none 0 0] 54)).trans hfr.quiet).trans' (sixSet_only wc w8.heap.size (.int .u64 (tt.row : Int)) (.int .u64 (tt.xmin : Int)) (.int .u64 (tt.xmax : Int)) (.int .i64 tt.pg) (.int .i64 tt.sl) (.slice Ad tt.data.length cd)) (fun k hk e => by omega))
                                refine wpAnyH_ready (rs := [44]) (by kernel_rfl) (by simp) ?_
                                refine AllReadyH.cons (o := ?_) ?_ ?_ AllReadyH.nil
                                rotate_left 1
                                (focus (simp only [List.getElem?_toArray, List.getElem?_cons_zero, List.getElem?_cons_succ] <;> rfl))
                                intro K hK
                                go_simp
                                refine hK.out _ _ ?_ (fun hHeld => ?_)
                                · exact HS.out _ HQF.out
                                clear hK K hHeld
                                (try simp only [Act.put, List.setIfInBounds_toArray, List.set_cons_zero, List.set_cons_succ])
                                refine wpAnyH_done (by kernel_rfl) ?_ _
                                go_wp2_with fail
                                go_meet
                                exact ⟨_, Ad, cd, rfl, HQF.out, sixSet_same hbx _ _ _ _ _ _, owns_kept hfr.own (sixSet_only _ _ _ _ _ _ _ _) (fun k e x => by have := hfr.new k e; simp at this; omega), fun k e => by have := hfr.new k e; simp at this; omega⟩
                              exact AllReadyH.nil
                            exact AllReadyH.nil
                          exact AllReadyH.nil
                        refine AllReadyH.cons (o := ?_) ?_ ?_ ?_
                        rotate_left 1
                        (focus (simp only [List.getElem?_toArray, List.getElem?_cons_zero, List.getElem?_cons_succ] <;> rfl))
                        · intro K hK
                          go_simp
                          refine hK.out _ _ ?_ (fun hHeld => ?_)
                          · exact HS.out _ (((Only.refl (fun _ => False) w8).drew).alloc (.cells #[.int .u64 0, .int .u64 0, .int .u64 0, .int .i64 0, .int .i64 0, .slice none 0 0] 54))
                          clear hK K
                          (try simp only [Act.put, List.setIfInBounds_toArray, List.set_cons_zero, List.set_cons_succ])
                          refine wpAnyH_ready (rs := [32]) (by kernel_rfl) (by simp) ?_
                          refine AllReadyH.cons (o := ?_) ?_ ?_ ?_
                          rotate_left 1
                          (focus (simp only [List.getElem?_toArray, List.getElem?_cons_zero, List.getElem?_cons_succ] <;> rfl))
                          · intro K hK
                            go_simp
                            go_at_call 96
                            refine (HG28.out 24 4 _ _ (((Only.refl (fun _ => False) w8).drew).alloc (.cells #[.int .u64 0, .int .u64 0, .int .u64 0, .int .i64 0, .int .i64 0, .slice none 0 0] 54)) (by omega) (by omega)).mono ?_
                            rintro e w1 ⟨rfl, rfl⟩
                            dsimp only
                            refine hK.out _ _ ?_ (fun hHeld => ?_)
                            · exact HS.out _ (((Only.refl (fun _ => False) w8).drew).alloc (.cells #[.int .u64 0, .int .u64 0, .int .u64 0, .int .i64 0, .int .i64 0, .slice none 0 0] 54))
                            clear hK K
                            (try simp only [Act.put, List.setIfInBounds_toArray, List.set_cons_zero, List.set_cons_succ])
                            (refine wpAnyH_take (i := 33) (oi := ?_) (v := ?_) ?_ (by kernel_rfl) (by decide +kernel) (by decide +kernel) ?_ (Or.inl ⟨?_, ?_⟩) (by first | assumption | exact trivial) ?_; rotate_left 2; (focus (simp only [List.getElem?_toArray, List.getElem?_cons_zero, List.getElem?_cons_succ] <;> rfl)); (focus (exact fun _ _ _ h => h)); (focus rfl); (focus (intro w hSw; (try dsimp only at hSw); go_simp; (try with_reducible rfl); done)); (try simp only [Act.put, List.setIfInBounds_toArray, List.set_cons_zero, List.set_cons_succ]))
                            refine wpAnyH_ready (rs := [36]) (by kernel_rfl) (by simp) ?_
                            refine AllReadyH.cons (o := ?_) ?_ ?_ ?_
                            rotate_left 1
                            (focus (simp only [List.getElem?_toArray, List.getElem?_cons_zero, List.getElem?_cons_succ] <;> rfl))
                            · intro K hK
                              go_simp
                              go_at_call 96
                              refine (HG28.out 28 2 _ _ (((Only.refl (fun _ => False) w8).drew).alloc (.cells #[.int .u64 0, .int .u64 0, .int .u64 0, .int .i64 0, .int .i64 0, .slice none 0 0] 54)) (by omega) (by omega)).mono ?_
                              rintro e w1 ⟨rfl, rfl⟩
                              dsimp only
                              refine hK.out _ _ ?_ (fun hHeld => ?_)
                              · exact HS.out _ (((Only.refl (fun _ => False) w8).drew).alloc (.cells #[.int .u64 0, .int .u64 0, .int .u64 0, .int .i64 0, .int .i64 0, .slice none 0 0] 54))
                              clear hK K
                              (try simp only [Act.put, List.setIfInBounds_toArray, List.set_cons_zero, List.set_cons_succ])
                              (refine wpAnyH_take (i := 37) (oi := ?_) (v := ?_) ?_ (by kernel_rfl) (by decide +kernel) (by decide +kernel) ?_ (Or.inl ⟨?_, ?_⟩) (by first | assumption | exact trivial) ?_; rotate_left 2; (focus (simp only [List.getElem?_toArray, List.getElem?_cons_zero, List.getElem?_cons_succ] <;> rfl)); (focus (exact fun _ _ _ h => h)); (focus rfl); (focus (intro w hSw; (try dsimp only at hSw); go_simp; (try with_reducible rfl); done)); (try simp only [Act.put, List.setIfInBounds_toArray, List.set_cons_zero, List.set_cons_succ]))
                              (refine wpAnyH_take (i := 38) (oi := ?_) (v := ?_) ?_ (by kernel_rfl) (by decide +kernel) (by decide +kernel) ?_ (Or.inl ⟨?_, ?_⟩) (by first | assumption | exact trivial) ?_; rotate_left 2; (focus (simp only [List.getElem?_toArray, List.getElem?_cons_zero, List.getElem?_cons_succ] <;> rfl)); (focus (exact fun _ _ _ h => h)); (focus rfl); (focus (intro w hSw; (try dsimp only at hSw); go_simp; (try with_reducible rfl); done)); (try simp only [Act.put, List.setIfInBounds_toArray, List.set_cons_zero, List.set_cons_succ]))
                              refine wpAnyH_ready (rs := [41]) (by kernel_rfl) (by simp) ?_
                              refine AllReadyH.cons (o := ?_) ?_ ?_ ?_
                              rotate_left 1
                              (focus (simp only [List.getElem?_toArray, List.getElem?_cons_zero, List.getElem?_cons_succ] <;> rfl))
                              · intro K hK
                                go_simp
                                go_at_call 60
                                refine (HCP.out _ (((Only.refl (fun _ => False) w8).drew).alloc (.cells #[.int .u64 0, .int .u64 0, .int .u64 0, .int .i64 0, .int .i64 0, .slice none 0 0] 54))).mono ?_
                                rintro e wc ⟨vd, rfl, hfr⟩
                                obtain ⟨Ad, cd, hvd, _, _, _⟩ := own_form hfr.own
                                subst hvd
                                dsimp only
                                refine hK.out _ _ ?_ (fun hHeld => ?_)
                                · exact HS.out _ ((((Only.refl (fun _ => False) w8).drew).alloc (.cells #[.int .u64 0, .int .u64 0, .int .u64 0, .int .i64 0, .int .i64 0, .slice none 0 0] 54)).trans hfr.quiet)
                                clear hK K
                                (try simp only [Act.put, List.setIfInBounds_toArray, List.set_cons_zero, List.set_cons_succ])
                                (refine wpAnyH_take (i := 42) (oi := ?_) (v := ?_) ?_ (by kernel_rfl) (by decide +kernel) (by decide +kernel) ?_ (Or.inl ⟨?_, ?_⟩) (by first | assumption | exact trivial) ?_; rotate_left 2; (focus (simp only [List.getElem?_toArray, List.getElem?_cons_zero, List.getElem?_cons_succ] <;> rfl)); (focus (exact fun _ _ _ h => h)); (focus rfl); (focus (intro w hSw; (try dsimp only at hSw); go_simp; (try with_reducible rfl); done)); (try simp only [Act.put, List.setIfInBounds_toArray, List.set_cons_zero, List.set_cons_succ]))
                                rw [HE0.out, HE1.out, HE2.out, HE3.out, HE4.out]
                                have hbx : wc.heap[w8.heap.size]? = _ := hfr.quiet.get (alloc_new w8.drew (.cells #[.int .u64 0, .int .u64 0, .int .u64 0, .int .i64 0, .int .i64 0, .slice none 0 0] 54)) (fun x => x)
                                obtain ⟨k0, k1, k2, k3, k4, k5⟩ := zero_cells hbx
                                have kf := fun o => frozen_of hbx o
                                have HQF : Hid (Quiet w8 (sixSet wc w8.heap.size (.int .u64 (tt.row : Int)) (.int .u64 (tt.xmin : Int)) (.int .u64 (tt.xmax : Int)) (.int .i64 tt.pg) (.int .i64 tt.sl) (.slice Ad tt.data.length cd))) := Lib.hid (((((Only.refl (fun _ => False) w8).drew).alloc (.cells #[.int .u64 0, .int .u64 0, .int .u64 0, .int .i64 0, .int .i64 0, .slice none 0 0] 54)).trans hfr.quiet).trans' (sixSet_only wc w8.heap.size (.int .u64 (tt.row : Int)) (.int .u64 (tt.xmin : Int)) (.int .u64 (tt.xmax : Int)) (.int .i64 tt.pg) (.int .i64 tt.sl) (.slice Ad tt.data.length cd)) (fun k hk e => by omega))
                                refine wpAnyH_ready (rs := [44]) (by kernel_rfl) (by simp) ?_
                                refine AllReadyH.cons (o := ?_) ?_ ?_ AllReadyH.nil
                                rotate_left 1
                                (focus (simp only [List.getElem?_toArray, List.getElem?_cons_zero, List.getElem?_cons_succ] <;> rfl))
                                intro K hK
                                go_simp
                                refine hK.out _ _ ?_ (fun hHeld => ?_)
                                · exact HS.out _ HQF.out
                                clear hK K hHeld
                                (try simp only [Act.put, List.setIfInBounds_toArray, List.set_cons_zero, List.set_cons_succ])
                                refine wpAnyH_done (by kernel_rfl) ?_ _
                                go_wp2_with fail
                                go_meet
                                exact ⟨_, Ad, cd, rfl, HQF.out, sixSet_same hbx _ _ _ _ _ _, owns_kept hfr.own (sixSet_only _ _ _ _ _ _ _ _) (fun k e x => by have := hfr.new k e; simp at this; omega), fun k e => by have := hfr.new k e; simp at this; omega⟩
                              exact AllReadyH.nil
                            exact AllReadyH.nil
                          exact AllReadyH.nil
                        exact AllReadyH.nil
                      refine AllReadyH.cons (o := ?_) ?_ ?_ ?_
                      rotate_left 1
                      (focus (simp only [List.getElem?_toArray, List.getElem?_cons_zero, List.getElem?_cons_succ] <;> rfl))
                      · intro K hK
                        go_simp
                        refine hK.out _ _ ?_ (fun hHeld => ?_)
                        · exact HS.out _ (((Only.refl (fun _ => False) w8).drew).alloc (.cells #[.int .u64 0, .int .u64 0, .int .u64 0, .int .i64 0, .int .i64 0, .slice none 0 0] 54))
                        clear hK K
                        (try simp only [Act.put, List.setIfInBounds_toArray, List.set_cons_zero, List.set_cons_succ])
                        refine wpAnyH_ready (rs := [22]) (by kernel_rfl) (by simp) ?_
                        refine AllReadyH.cons (o := ?_) ?_ ?_ ?_
                        rotate_left 1
                        (focus (simp only [List.getElem?_toArray, List.getElem?_cons_zero, List.getElem?_cons_succ] <;> rfl))
                        · intro K hK
                          go_simp
                          go_at_call 96
                          refine (HG28.out 16 7 _ _ (((Only.refl (fun _ => False) w8).drew).alloc (.cells #[.int .u64 0, .int .u64 0, .int .u64 0, .int .i64 0, .int .i64 0, .slice none 0 0] 54)) (by omega) (by omega)).mono ?_
                          rintro e w1 ⟨rfl, rfl⟩
                          dsimp only
                          refine hK.out _ _ ?_ (fun hHeld => ?_)
                          · exact HS.out _ (((Only.refl (fun _ => False) w8).drew).alloc (.cells #[.int .u64 0, .int .u64 0, .int .u64 0, .int .i64 0, .int .i64 0, .slice none 0 0] 54))
                          clear hK K
                          (try simp only [Act.put, List.setIfInBounds_toArray, List.set_cons_zero, List.set_cons_succ])
                          (refine wpAnyH_take (i := 23) (oi := ?_) (v := ?_) ?_ (by kernel_rfl) (by decide +kernel) (by decide +kernel) ?_ (Or.inl ⟨?_, ?_⟩) (by first | assumption | exact trivial) ?_; rotate_left 2; (focus (simp only [List.getElem?_toArray, List.getElem?_cons_zero, List.getElem?_cons_succ] <;> rfl)); (focus (exact fun _ _ _ h => h)); (focus rfl); (focus (intro w hSw; (try dsimp only at hSw); go_simp; (try with_reducible rfl); done)); (try simp only [Act.put, List.setIfInBounds_toArray, List.set_cons_zero, List.set_cons_succ]))
                          (refine wpAnyH_take (i := 29) (oi := ?_) (v := ?_) ?_ (by kernel_rfl) (by decide +kernel) (by decide +kernel) ?_ (Or.inl ⟨?_, ?_⟩) (by first | assumption | exact trivial) ?_; rotate_left 2; (focus (simp only [List.getElem?_toArray, List.getElem?_cons_zero, List.getElem?_cons_succ] <;> rfl)); (focus (exact fun _ _ _ h => h)); (focus rfl); (focus (intro w hSw; (try dsimp only at hSw); go_simp; (try with_reducible rfl); done)); (try simp only [Act.put, List.setIfInBounds_toArray, List.set_cons_zero, List.set_cons_succ]))
                          refine wpAnyH_ready (rs := [32]) (by kernel_rfl) (by simp) ?_
                          refine AllReadyH.cons (o := ?_) ?_ ?_ ?_
                          rotate_left 1
                          (focus (simp only [List.getElem?_toArray, List.getElem?_cons_zero, List.getElem?_cons_succ] <;> rfl))
                          · intro K hK
                            go_simp
                            go_at_call 96
                            refine (HG28.out 24 4 _ _ (((Only.refl (fun _ => False) w8).drew).alloc (.cells #[.int .u64 0, .int .u64 0, .int .u64 0, .int .i64 0, .int .i64 0, .slice none 0 0] 54)) (by omega) (by omega)).mono ?_
                            rintro e w1 ⟨rfl, rfl⟩
                            dsimp only
                            refine hK.out _ _ ?_ (fun hHeld => ?_)
                            · exact HS.out _ (((Only.refl (fun _ => False) w8).drew).alloc (.cells #[.int .u64 0, .int .u64 0, .int .u64 0, .int .i64 0, .int .i64 0, .slice none 0 0] 54))
                            clear hK K
                            (try simp only [Act.put, List.setIfInBounds_toArray, List.set_cons_zero, List.set_cons_succ])
                            (refine wpAnyH_take (i := 33) (oi := ?_) (v := ?_) ?_ (by kernel_rfl) (by decide +kernel) (by decide +kernel) ?_ (Or.inl ⟨?_, ?_⟩) (by first | assumption | exact trivial) ?_; rotate_left 2; (focus (simp only [List.getElem?_toArray, List.getElem?_cons_zero, List.getElem?_cons_succ] <;> rfl)); (focus (exact fun _ _ _ h => h)); (focus rfl); (focus (intro w hSw; (try dsimp only at hSw); go_simp; (try with_reducible rfl); done)); (try simp only [Act.put, List.setIfInBounds_toArray, List.set_cons_zero, List.set_cons_succ]))
                            refine wpAnyH_ready (rs := [36]) (by kernel_rfl) (by simp) ?_
                            refine AllReadyH.cons (o := ?_) ?_ ?_ ?_
                            rotate_left 1
                            (focus (simp only [List.getElem?_toArray, List.getElem?_cons_zero, List.getElem?_cons_succ] <;> rfl))
                            · intro K hK
                              go_simp
                              go_at_call 96
                              refine (HG28.out 28 2 _ _ (((Only.refl (fun _ => False) w8).drew).alloc (.cells #[.int .u64 0, .int .u64 0, .int .u64 0, .int .i64 0, .int .i64 0, .slice none 0 0] 54)) (by omega) (by omega)).mono ?_
                              rintro e w1 ⟨rfl, rfl⟩
                              dsimp only
                              refine hK.out _ _ ?_ (fun hHeld => ?_)
                              · exact HS.out _ (((Only.refl (fun _ => False) w8).drew).alloc (.cells #[.int .u64 0, .int .u64 0, .int .u64 0, .int .i64 0, .int .i64 0, .slice none 0 0] 54))
                              clear hK K
                              (try simp only [Act.put, List.setIfInBounds_toArray, List.set_cons_zero, List.set_cons_succ])
                              (refine wpAnyH_take (i := 37) (oi := ?_) (v := ?_) ?_ (by kernel_rfl) (by decide +kernel) (by decide +kernel) ?_ (Or.inl ⟨?_, ?_⟩) (by first | assumption | exact trivial) ?_; rotate_left 2; (focus (simp only [List.getElem?_toArray, List.getElem?_cons_zero, List.getElem?_cons_succ] <;> rfl)); (focus (exact fun _ _ _ h => h)); (focus rfl); (focus (intro w hSw; (try dsimp only at hSw); go_simp; (try with_reducible rfl); done)); (try simp only [Act.put, List.setIfInBounds_toArray, List.set_cons_zero, List.set_cons_succ]))
                              (refine wpAnyH_take (i := 38) (oi := ?_) (v := ?_) ?_ (by kernel_rfl) (by decide +kernel) (by decide +kernel) ?_ (Or.inl ⟨?_, ?_⟩) (by first | assumption | exact trivial) ?_; rotate_left 2; (focus (simp only [List.getElem?_toArray, List.getElem?_cons_zero, List.getElem?_cons_succ] <;> rfl)); (focus (exact fun _ _ _ h => h)); (focus rfl); (focus (intro w hSw; (try dsimp only at hSw); go_simp; (try with_reducible rfl); done)); (try simp only [Act.put, List.setIfInBounds_toArray, List.set_cons_zero, List.set_cons_succ]))
                              refine wpAnyH_ready (rs := [41]) (by kernel_rfl) (by simp) ?_
                              refine AllReadyH.cons (o := ?_) ?_ ?_ ?_
                              rotate_left 1
                              (focus (simp only [List.getElem?_toArray, List.getElem?_cons_zero, List.getElem?_cons_succ] <;> rfl))
                              · intro K hK
                                go_simp
                                go_at_call 60
                                refine (HCP.out _ (((Only.refl (fun _ => False) w8).drew).alloc (.cells #[.int .u64 0, .int .u64 0, .int .u64 0, .int .i64 0, .int .i64 0, .slice none 0 0] 54))).mono ?_
                                rintro e wc ⟨vd, rfl, hfr⟩
                                obtain ⟨Ad, cd, hvd, _, _, _⟩ := own_form hfr.own
                                subst hvd
                                dsimp only
                                refine hK.out _ _ ?_ (fun hHeld => ?_)
                                · exact HS.out _ ((((Only.refl (fun _ => False) w8).drew).alloc (.cells #[.int .u64 0, .int .u64 0, .int .u64 0, .int .i64 0, .int .i64 0, .slice none 0 0] 54)).trans hfr.quiet)
                                clear hK K
                                (try simp only [Act.put, List.setIfInBounds_toArray, List.set_cons_zero, List.set_cons_succ])
                                (refine wpAnyH_take (i := 42) (oi := ?_) (v := ?_) ?_ (by kernel_rfl) (by decide +kernel) (by decide +kernel) ?_ (Or.inl ⟨?_, ?_⟩) (by first | assumption | exact trivial) ?_; rotate_left 2; (focus (simp only [List.getElem?_toArray, List.getElem?_cons_zero, List.getElem?_cons_succ] <;> rfl)); (focus (exact fun _ _ _ h => h)); (focus rfl); (focus (intro w hSw; (try dsimp only at hSw); go_simp; (try with_reducible rfl); done)); (try simp only [Act.put, List.setIfInBounds_toArray, List.set_cons_zero, List.set_cons_succ]))
                                rw [HE0.out, HE1.out, HE2.out, HE3.out, HE4.out]
                                have hbx : wc.heap[w8.heap.size]? = _ := hfr.quiet.get (alloc_new w8.drew (.cells #[.int .u64 0, .int .u64 0, .int .u64 0, .int .i64 0, .int .i64 0, .slice none 0 0] 54)) (fun x => x)
                                obtain ⟨k0, k1, k2, k3, k4, k5⟩ := zero_cells hbx
                                have kf := fun o => frozen_of hbx o
                                have HQF : Hid (Quiet w8 (sixSet wc w8.heap.size (.int .u64 (tt.row : Int)) (.int .u64 (tt.xmin : Int)) (.int .u64 (tt.xmax : Int)) (.int .i64 tt.pg) (.int .i64 tt.sl) (.slice Ad tt.data.length cd))) := Lib.hid (((((Only.refl (fun _ => False) w8).drew).alloc (.cells #[.int .u64 0, .int .u64 0, .int .u64 0, .int .i64 0, .int .i64 0, .slice none 0 0] 54)).trans hfr.quiet).trans' (sixSet_only wc w8.heap.size (.int .u64 (tt.row : Int)) (.int .u64 (tt.xmin : Int)) (.int .u64 (tt.xmax : Int)) (.int .i64 tt.pg) (.int .i64 tt.sl) (.slice Ad tt.data.length cd)) (fun k hk e => by omega))
                                refine wpAnyH_ready (rs := [44]) (by kernel_rfl) (by simp) ?_
                                refine AllReadyH.cons (o := ?_) ?_ ?_ AllReadyH.nil
                                rotate_left 1
                                (focus (simp only [List.getElem?_toArray, List.getElem?_cons_zero, List.getElem?_cons_succ] <;> rfl))
                                intro K hK
                                go_simp
                                refine hK.out _ _ ?_ (fun hHeld => ?_)
                                · exact HS.out _ HQF.out
                                clear hK K hHeld
                                (try simp only [Act.put, List.setIfInBounds_toArray, List.set_cons_zero, List.set_cons_succ])
                                refine wpAnyH_done (by kernel_rfl) ?_ _
                                go_wp2_with fail
                                go_meet
                                exact ⟨_, Ad, cd, rfl, HQF.out, sixSet_same hbx _ _ _ _ _ _, owns_kept hfr.own (sixSet_only _ _ _ _ _ _ _ _) (fun k e x => by have := hfr.new k e; simp at this; omega), fun k e => by have := hfr.new k e; simp at this; omega⟩
                              exact AllReadyH.nil
                            exact AllReadyH.nil
                          exact AllReadyH.nil
                        exact AllReadyH.nil
                      exact AllReadyH.nil
                    refine AllReadyH.cons (o := ?_) ?_ ?_ ?_
                    rotate_left 1
                    (focus (simp only [List.getElem?_toArray, List.getElem?_cons_zero, List.getElem?_cons_succ] <;> rfl))
                    · intro K hK
                      go_simp
                      refine hK.out _ _ ?_ (fun hHeld => ?_)
                      · exact HS.out _ (((Only.refl (fun _ => False) w8).drew).alloc (.cells #[.int .u64 0, .int .u64 0, .int .u64 0, .int .i64 0, .int .i64 0, .slice none 0 0] 54))
                      clear hK K
                      (try simp only [Act.put, List.setIfInBounds_toArray, List.set_cons_zero, List.set_cons_succ])
                      refine wpAnyH_ready (rs := [12]) (by kernel_rfl) (by simp) ?_
                      refine AllReadyH.cons (o := ?_) ?_ ?_ ?_
                      rotate_left 1
                      (focus (simp only [List.getElem?_toArray, List.getElem?_cons_zero, List.getElem?_cons_succ] <;> rfl))
                      · intro K hK
                        go_simp
                        go_at_call 96
                        refine (HG28.out 8 7 _ _ (((Only.refl (fun _ => False) w8).drew).alloc (.cells #[.int .u64 0, .int .u64 0, .int .u64 0, .int .i64 0, .int .i64 0, .slice none 0 0] 54)) (by omega) (by omega)).mono ?_
                        rintro e w1 ⟨rfl, rfl⟩
                        dsimp only
                        refine hK.out _ _ ?_ (fun hHeld => ?_)
                        · exact HS.out _ (((Only.refl (fun _ => False) w8).drew).alloc (.cells #[.int .u64 0, .int .u64 0, .int .u64 0, .int .i64 0, .int .i64 0, .slice none 0 0] 54))
                        clear hK K
                        (try simp only [Act.put, List.setIfInBounds_toArray, List.set_cons_zero, List.set_cons_succ])
                        (refine wpAnyH_take (i := 13) (oi := ?_) (v := ?_) ?_ (by kernel_rfl) (by decide +kernel) (by decide +kernel) ?_ (Or.inl ⟨?_, ?_⟩) (by first | assumption | exact trivial) ?_; rotate_left 2; (focus (simp only [List.getElem?_toArray, List.getElem?_cons_zero, List.getElem?_cons_succ] <;> rfl)); (focus (exact fun _ _ _ h => h)); (focus rfl); (focus (intro w hSw; (try dsimp only at hSw); go_simp; (try with_reducible rfl); done)); (try simp only [Act.put, List.setIfInBounds_toArray, List.set_cons_zero, List.set_cons_succ]))
                        (refine wpAnyH_take (i := 19) (oi := ?_) (v := ?_) ?_ (by kernel_rfl) (by decide +kernel) (by decide +kernel) ?_ (Or.inl ⟨?_, ?_⟩) (by first | assumption | exact trivial) ?_; rotate_left 2; (focus (simp only [List.getElem?_toArray, List.getElem?_cons_zero, List.getElem?_cons_succ] <;> rfl)); (focus (exact fun _ _ _ h => h)); (focus rfl); (focus (intro w hSw; (try dsimp only at hSw); go_simp; (try with_reducible rfl); done)); (try simp only [Act.put, List.setIfInBounds_toArray, List.set_cons_zero, List.set_cons_succ]))
                        refine wpAnyH_ready (rs := [22]) (by kernel_rfl) (by simp) ?_
                        refine AllReadyH.cons (o := ?_) ?_ ?_ ?_
                        rotate_left 1
                        (focus (simp only [List.getElem?_toArray, List.getElem?_cons_zero, List.getElem?_cons_succ] <;> rfl))
                        · intro K hK
                          go_simp
                          go_at_call 96
                          refine (HG28.out 16 7 _ _ (((Only.refl (fun _ => False) w8).drew).alloc (.cells #[.int .u64 0, .int .u64 0, .int .u64 0, .int .i64 0, .int .i64 0, .slice none 0 0] 54)) (by omega) (by omega)).mono ?_
                          rintro e w1 ⟨rfl, rfl⟩
                          dsimp only
                          refine hK.out _ _ ?_ (fun hHeld => ?_)
                          · exact HS.out _ (((Only.refl (fun _ => False) w8).drew).alloc (.cells #[.int .u64 0, .int .u64 0, .int .u64 0, .int .i64 0, .int .i64 0, .slice none 0 0] 54))
                          clear hK K
                          (try simp only [Act.put, List.setIfInBounds_toArray, List.set_cons_zero, List.set_cons_succ])
                          (refine wpAnyH_take (i := 23) (oi := ?_) (v := ?_) ?_ (by kernel_rfl) (by decide +kernel) (by decide +kernel) ?_ (Or.inl ⟨?_, ?_⟩) (by first | assumption | exact trivial) ?_; rotate_left 2; (focus (simp only [List.getElem?_toArray, List.getElem?_cons_zero, List.getElem?_cons_succ] <;> rfl)); (focus (exact fun _ _ _ h => h)); (focus rfl); (focus (intro w hSw; (try dsimp only at hSw); go_simp; (try with_reducible rfl); done)); (try simp only [Act.put, List.setIfInBounds_toArray, List.set_cons_zero, List.set_cons_succ]))
                          (refine wpAnyH_take (i := 29) (oi := ?_) (v := ?_) ?_ (by kernel_rfl) (by decide +kernel) (by decide +kernel) ?_ (Or.inl ⟨?_, ?_⟩) (by first | assumption | exact trivial) ?_; rotate_left 2; (focus (simp only [List.getElem?_toArray, List.getElem?_cons_zero, List.getElem?_cons_succ] <;> rfl)); (focus (exact fun _ _ _ h => h)); (focus rfl); (focus (intro w hSw; (try dsimp only at hSw); go_simp; (try with_reducible rfl); done)); (try simp only [Act.put, List.setIfInBounds_toArray, List.set_cons_zero, List.set_cons_succ]))
                          refine wpAnyH_ready (rs := [32]) (by kernel_rfl) (by simp) ?_
                          refine AllReadyH.cons (o := ?_) ?_ ?_ ?_
                          rotate_left 1
                          (focus (simp only [List.getElem?_toArray, List.getElem?_cons_zero, List.getElem?_cons_succ] <;> rfl))
                          · intro K hK
                            go_simp
                            go_at_call 96
                            refine (HG28.out 24 4 _ _ (((Only.refl (fun _ => False) w8).drew).alloc (.cells #[.int .u64 0, .int .u64 0, .int .u64 0, .int .i64 0, .int .i64 0, .slice none 0 0] 54)) (by omega) (by omega)).mono ?_
                            rintro e w1 ⟨rfl, rfl⟩
                            dsimp only
                            refine hK.out _ _ ?_ (fun hHeld => ?_)
                            · exact HS.out _ (((Only.refl (fun _ => False) w8).drew).alloc (.cells #[.int .u64 0, .int .u64 0, .int .u64 0, .int .i64 0, .int .i64 0, .slice none 0 0] 54))
                            clear hK K
                            (try simp only [Act.put, List.setIfInBounds_toArray, List.set_cons_zero, List.set_cons_succ])
                            (refine wpAnyH_take (i := 33) (oi := ?_) (v := ?_) ?_ (by kernel_rfl) (by decide +kernel) (by decide +kernel) ?_ (Or.inl ⟨?_, ?_⟩) (by first | assumption | exact trivial) ?_; rotate_left 2; (focus (simp only [List.getElem?_toArray, List.getElem?_cons_zero, List.getElem?_cons_succ] <;> rfl)); (focus (exact fun _ _ _ h => h)); (focus rfl); (focus (intro w hSw; (try dsimp only at hSw); go_simp; (try with_reducible rfl); done)); (try simp only [Act.put, List.setIfInBounds_toArray, List.set_cons_zero, List.set_cons_succ]))
                            refine wpAnyH_ready (rs := [36]) (by kernel_rfl) (by simp) ?_
                            refine AllReadyH.cons (o := ?_) ?_ ?_ ?_
                            rotate_left 1
                            (focus (simp only [List.getElem?_toArray, List.getElem?_cons_zero, List.getElem?_cons_succ] <;> rfl))
                            · intro K hK
                              go_simp
                              go_at_call 96
                              refine (HG28.out 28 2 _ _ (((Only.refl (fun _ => False) w8).drew).alloc (.cells #[.int .u64 0, .int .u64 0, .int .u64 0, .int .i64 0, .int .i64 0, .slice none 0 0] 54)) (by omega) (by omega)).mono ?_
                              rintro e w1 ⟨rfl, rfl⟩
                              dsimp only
                              refine hK.out _ _ ?_ (fun hHeld => ?_)
                              · exact HS.out _ (((Only.refl (fun _ => False) w8).drew).alloc (.cells #[.int .u64 0, .int .u64 0, .int .u64 0, .int .i64 0, .int .i64 0, .slice none 0 0] 54))
                              clear hK K
                              (try simp only [Act.put, List.setIfInBounds_toArray, List.set_cons_zero, List.set_cons_succ])
                              (refine wpAnyH_take (i := 37) (oi := ?_) (v := ?_) ?_ (by kernel_rfl) (by decide +kernel) (by decide +kernel) ?_ (Or.inl ⟨?_, ?_⟩) (by first | assumption | exact trivial) ?_; rotate_left 2; (focus (simp only [List.getElem?_toArray, List.getElem?_cons_zero, List.getElem?_cons_succ] <;> rfl)); (focus (exact fun _ _ _ h => h)); (focus rfl); (focus (intro w hSw; (try dsimp only at hSw); go_simp; (try with_reducible rfl); done)); (try simp only [Act.put, List.setIfInBounds_toArray, List.set_cons_zero, List.set_cons_succ]))
                              (refine wpAnyH_take (i := 38) (oi := ?_) (v := ?_) ?_ (by kernel_rfl) (by decide +kernel) (by decide +kernel) ?_ (Or.inl ⟨?_, ?_⟩) (by first | assumption | exact trivial) ?_; rotate_left 2; (focus (simp only [List.getElem?_toArray, List.getElem?_cons_zero, List.getElem?_cons_succ] <;> rfl)); (focus (exact fun _ _ _ h => h)); (focus rfl); (focus (intro w hSw; (try dsimp only at hSw); go_simp; (try with_reducible rfl); done)); (try simp only [Act.put, List.setIfInBounds_toArray, List.set_cons_zero, List.set_cons_succ]))
                              refine wpAnyH_ready (rs := [41]) (by kernel_rfl) (by simp) ?_
                              refine AllReadyH.cons (o := ?_) ?_ ?_ ?_
                              rotate_left 1
                              (focus (simp only [List.getElem?_toArray, List.getElem?_cons_zero, List.getElem?_cons_succ] <;> rfl))
                              · intro K hK
                                go_simp
                                go_at_call 60
                                refine (HCP.out _ (((Only.refl (fun _ => False) w8).drew).alloc (.cells #[.int .u64 0, .int .u64 0, .int .u64 0, .int .i64 0, .int .i64 0, .slice none 0 0] 54))).mono ?_
                                rintro e wc ⟨vd, rfl, hfr⟩
                                obtain ⟨Ad, cd, hvd, _, _, _⟩ := own_form hfr.own
                                subst hvd
                                dsimp only
                                refine hK.out _ _ ?_ (fun hHeld => ?_)
                                · exact HS.out _ ((((Only.refl (fun _ => False) w8).drew).alloc (.cells #[.int .u64 0, .int .u64 0, .int .u64 0, .int .i64 0, .int .i64 0, .slice none 0 0] 54)).trans hfr.quiet)
                                clear hK K
                                (try simp only [Act.put, List.setIfInBounds_toArray, List.set_cons_zero, List.set_cons_succ])
                                (refine wpAnyH_take (i := 42) (oi := ?_) (v := ?_) ?_ (by kernel_rfl) (by decide +kernel) (by decide +kernel) ?_ (Or.inl ⟨?_, ?_⟩) (by first | assumption | exact trivial) ?_; rotate_left 2; (focus (simp only [List.getElem?_toArray, List.getElem?_cons_zero, List.getElem?_cons_succ] <;> rfl)); (focus (exact fun _ _ _ h => h)); (focus rfl); (focus (intro w hSw; (try dsimp only at hSw); go_simp; (try with_reducible rfl); done)); (try simp only [Act.put, List.setIfInBounds_toArray, List.set_cons_zero, List.set_cons_succ]))
                                rw [HE0.out, HE1.out, HE2.out, HE3.out, HE4.out]
                                have hbx : wc.heap[w8.heap.size]? = _ := hfr.quiet.get (alloc_new w8.drew (.cells #[.int .u64 0, .int .u64 0, .int .u64 0, .int .i64 0, .int .i64 0, .slice none 0 0] 54)) (fun x => x)
                                obtain ⟨k0, k1, k2, k3, k4, k5⟩ := zero_cells hbx
                                have kf := fun o => frozen_of hbx o
                                have HQF : Hid (Quiet w8 (sixSet wc w8.heap.size (.int .u64 (tt.row : Int)) (.int .u64 (tt.xmin : Int)) (.int .u64 (tt.xmax : Int)) (.int .i64 tt.pg) (.int .i64 tt.sl) (.slice Ad tt.data.length cd))) := Lib.hid (((((Only.refl (fun _ => False) w8).drew).alloc (.cells #[.int .u64 0, .int .u64 0, .int .u64 0, .int .i64 0, .int .i64 0, .slice none 0 0] 54)).trans hfr.quiet).trans' (sixSet_only wc w8.heap.size (.int .u64 (tt.row : Int)) (.int .u64 (tt.xmin : Int)) (.int .u64 (tt.xmax : Int)) (.int .i64 tt.pg) (.int .i64 tt.sl) (.slice Ad tt.data.length cd)) (fun k hk e => by omega))
                                refine wpAnyH_ready (rs := [44]) (by kernel_rfl) (by simp) ?_
                                refine AllReadyH.cons (o := ?_) ?_ ?_ AllReadyH.nil
                                rotate_left 1
                                (focus (simp only [List.getElem?_toArray, List.getElem?_cons_zero, List.getElem?_cons_succ] <;> rfl))
                                intro K hK
                                go_simp
                                refine hK.out _ _ ?_ (fun hHeld => ?_)
                                · exact HS.out _ HQF.out
                                clear hK K hHeld
                                (try simp only [Act.put, List.setIfInBounds_toArray, List.set_cons_zero, List.set_cons_succ])
                                refine wpAnyH_done (by kernel_rfl) ?_ _
                                go_wp2_with fail
                                go_meet
                                exact ⟨_, Ad, cd, rfl, HQF.out, sixSet_same hbx _ _ _ _ _ _, owns_kept hfr.own (sixSet_only _ _ _ _ _ _ _ _) (fun k e x => by have := hfr.new k e; simp at this; omega), fun k e => by have := hfr.new k e; simp at this; omega⟩
                              exact AllReadyH.nil
                            exact AllReadyH.nil
                          exact AllReadyH.nil
                        exact AllReadyH.nil
                      exact AllReadyH.nil
                    exact AllReadyH.nil
                  refine AllReadyH.cons (o := ?_) ?_ ?_ ?_
                  rotate_left 1
                  (focus (simp only [List.getElem?_toArray, List.getElem?_cons_zero, List.getElem?_cons_succ] <;> rfl))
                  · intro K hK
                    go_simp
                    refine hK.out _ _ ?_ (fun hHeld => ?_)
                    · exact HS.out _ (((Only.refl (fun _ => False) w8).drew).alloc (.cells #[.int .u64 0, .int .u64 0, .int .u64 0, .int .i64 0, .int .i64 0, .slice none 0 0] 54))
                    clear hK K
                    (try simp only [Act.put, List.setIfInBounds_toArray, List.set_cons_zero, List.set_cons_succ])
                    refine wpAnyH_ready (rs := [2]) (by kernel_rfl) (by simp) ?_
                    refine AllReadyH.cons (o := ?_) ?_ ?_ ?_
                    rotate_left 1
                    (focus (simp only [List.getElem?_toArray, List.getElem?_cons_zero, List.getElem?_cons_succ] <;> rfl))
                    · intro K hK
                      go_simp
                      go_at_call 96
                      refine (HG28.out 0 7 _ _ (((Only.refl (fun _ => False) w8).drew).alloc (.cells #[.int .u64 0, .int .u64 0, .int .u64 0, .int .i64 0, .int .i64 0, .slice none 0 0] 54)) (by omega) (by omega)).mono ?_
                      rintro e w1 ⟨rfl, rfl⟩
                      dsimp only
                      refine hK.out _ _ ?_ (fun hHeld => ?_)
                      · exact HS.out _ (((Only.refl (fun _ => False) w8).drew).alloc (.cells #[.int .u64 0, .int .u64 0, .int .u64 0, .int .i64 0, .int .i64 0, .slice none 0 0] 54))
                      clear hK K
                      (try simp only [Act.put, List.setIfInBounds_toArray, List.set_cons_zero, List.set_cons_succ])
                      (refine wpAnyH_take (i := 3) (oi := ?_) (v := ?_) ?_ (by kernel_rfl) (by decide +kernel) (by decide +kernel) ?_ (Or.inl ⟨?_, ?_⟩) (by first | assumption | exact trivial) ?_; rotate_left 2; (focus (simp only [List.getElem?_toArray, List.getElem?_cons_zero, List.getElem?_cons_succ] <;> rfl)); (focus (exact fun _ _ _ h => h)); (focus rfl); (focus (intro w hSw; (try dsimp only at hSw); go_simp; (try with_reducible rfl); done)); (try simp only [Act.put, List.setIfInBounds_toArray, List.set_cons_zero, List.set_cons_succ]))
                      (refine wpAnyH_take (i := 9) (oi := ?_) (v := ?_) ?_ (by kernel_rfl) (by decide +kernel) (by decide +kernel) ?_ (Or.inl ⟨?_, ?_⟩) (by first | assumption | exact trivial) ?_; rotate_left 2; (focus (simp only [List.getElem?_toArray, List.getElem?_cons_zero, List.getElem?_cons_succ] <;> rfl)); (focus (exact fun _ _ _ h => h)); (focus rfl); (focus (intro w hSw; (try dsimp only at hSw); go_simp; (try with_reducible rfl); done)); (try simp only [Act.put, List.setIfInBounds_toArray, List.set_cons_zero, List.set_cons_succ]))
                      refine wpAnyH_ready (rs := [12]) (by kernel_rfl) (by simp) ?_
                      refine AllReadyH.cons (o := ?_) ?_ ?_ ?_
                      rotate_left 1
                      (focus (simp only [List.getElem?_toArray, List.getElem?_cons_zero, List.getElem?_cons_succ] <;> rfl))
                      · intro K hK
                        go_simp
                        go_at_call 96
                        refine (HG28.out 8 7 _ _ (((Only.refl (fun _ => False) w8).drew).alloc (.cells #[.int .u64 0, .int .u64 0, .int .u64 0, .int .i64 0, .int .i64 0, .slice none 0 0] 54)) (by omega) (by omega)).mono ?_
                        rintro e w1 ⟨rfl, rfl⟩
                        dsimp only
                        refine hK.out _ _ ?_ (fun hHeld => ?_)
                        · exact HS.out _ (((Only.refl (fun _ => False) w8).drew).alloc (.cells #[.int .u64 0, .int .u64 0, .int .u64 0, .int .i64 0, .int .i64 0, .slice none 0 0] 54))
                        clear hK K
                        (try simp only [Act.put, List.setIfInBounds_toArray, List.set_cons_zero, List.set_cons_succ])
                        (refine wpAnyH_take (i := 13) (oi := ?_) (v := ?_) ?_ (by kernel_rfl) (by decide +kernel) (by decide +kernel) ?_ (Or.inl ⟨?_, ?_⟩) (by first | assumption | exact trivial) ?_; rotate_left 2; (focus (simp only [List.getElem?_toArray, List.getElem?_cons_zero, List.getElem?_cons_succ] <;> rfl)); (focus (exact fun _ _ _ h => h)); (focus rfl); (focus (intro w hSw; (try dsimp only at hSw); go_simp; (try with_reducible rfl); done)); (try simp only [Act.put, List.setIfInBounds_toArray, List.set_cons_zero, List.set_cons_succ]))
                        (refine wpAnyH_take (i := 19) (oi := ?_) (v := ?_) ?_ (by kernel_rfl) (by decide +kernel) (by decide +kernel) ?_ (Or.inl ⟨?_, ?_⟩) (by first | assumption | exact trivial) ?_; rotate_left 2; (focus (simp only [List.getElem?_toArray, List.getElem?_cons_zero, List.getElem?_cons_succ] <;> rfl)); (focus (exact fun _ _ _ h => h)); (focus rfl); (focus (intro w hSw; (try dsimp only at hSw); go_simp; (try with_reducible rfl); done)); (try simp only [Act.put, List.setIfInBounds_toArray, List.set_cons_zero, List.set_cons_succ]))
                        refine wpAnyH_ready (rs := [22]) (by kernel_rfl) (by simp) ?_
                        refine AllReadyH.cons (o := ?_) ?_ ?_ ?_
                        rotate_left 1
                        (focus (simp only [List.getElem?_toArray, List.getElem?_cons_zero, List.getElem?_cons_succ] <;> rfl))
                        · intro K hK
                          go_simp
                          go_at_call 96
                          refine (HG28.out 16 7 _ _ (((Only.refl (fun _ => False) w8).drew).alloc (.cells #[.int .u64 0, .int .u64 0, .int .u64 0, .int .i64 0, .int .i64 0, .slice none 0 0] 54)) (by omega) (by omega)).mono ?_
                          rintro e w1 ⟨rfl, rfl⟩
                          dsimp only
                          refine hK.out _ _ ?_ (fun hHeld => ?_)
                          · exact HS.out _ (((Only.refl (fun _ => False) w8).drew).alloc (.cells #[.int .u64 0, .int .u64 0, .int .u64 0, .int .i64 0, .int .i64 0, .slice none 0 0] 54))
                          clear hK K
                          (try simp only [Act.put, List.setIfInBounds_toArray, List.set_cons_zero, List.set_cons_succ])
                          (refine wpAnyH_take (i := 23) (oi := ?_) (v := ?_) ?_ (by kernel_rfl) (by decide +kernel) (by decide +kernel) ?_ (Or.inl ⟨?_, ?_⟩) (by first | assumption | exact trivial) ?_; rotate_left 2; (focus (simp only [List.getElem?_toArray, List.getElem?_cons_zero, List.getElem?_cons_succ] <;> rfl)); (focus (exact fun _ _ _ h => h)); (focus rfl); (focus (intro w hSw; (try dsimp only at hSw); go_simp; (try with_reducible rfl); done)); (try simp only [Act.put, List.setIfInBounds_toArray, List.set_cons_zero, List.set_cons_succ]))
                          (refine wpAnyH_take (i := 29) (oi := ?_) (v := ?_) ?_ (by kernel_rfl) (by decide +kernel) (by decide +kernel) ?_ (Or.inl ⟨?_, ?_⟩) (by first | assumption | exact trivial) ?_; rotate_left 2; (focus (simp only [List.getElem?_toArray, List.getElem?_cons_zero, List.getElem?_cons_succ] <;> rfl)); (focus (exact fun _ _ _ h => h)); (focus rfl); (focus (intro w hSw; (try dsimp only at hSw); go_simp; (try with_reducible rfl); done)); (try simp only [Act.put, List.setIfInBounds_toArray, List.set_cons_zero, List.set_cons_succ]))
                          refine wpAnyH_ready (rs := [32]) (by kernel_rfl) (by simp) ?_
                          refine AllReadyH.cons (o := ?_) ?_ ?_ ?_
                          rotate_left 1
                          (focus (simp only [List.getElem?_toArray, List.getElem?_cons_zero, List.getElem?_cons_succ] <;> rfl))
                          · intro K hK
                            go_simp
                            go_at_call 96
                            refine (HG28.out 24 4 _ _ (((Only.refl (fun _ => False) w8).drew).alloc (.cells #[.int .u64 0, .int .u64 0, .int .u64 0, .int .i64 0, .int .i64 0, .slice none 0 0] 54)) (by omega) (by omega)).mono ?_
                            rintro e w1 ⟨rfl, rfl⟩
                            dsimp only
                            refine hK.out _ _ ?_ (fun hHeld => ?_)
                            · exact HS.out _ (((Only.refl (fun _ => False) w8).drew).alloc (.cells #[.int .u64 0, .int .u64 0, .int .u64 0, .int .i64 0, .int .i64 0, .slice none 0 0] 54))
                            clear hK K
                            (try simp only [Act.put, List.setIfInBounds_toArray, List.set_cons_zero, List.set_cons_succ])
                            (refine wpAnyH_take (i := 33) (oi := ?_) (v := ?_) ?_ (by kernel_rfl) (by decide +kernel) (by decide +kernel) ?_ (Or.inl ⟨?_, ?_⟩) (by first | assumption | exact trivial) ?_; rotate_left 2; (focus (simp only [List.getElem?_toArray, List.getElem?_cons_zero, List.getElem?_cons_succ] <;> rfl)); (focus (exact fun _ _ _ h => h)); (focus rfl); (focus (intro w hSw; (try dsimp only at hSw); go_simp; (try with_reducible rfl); done)); (try simp only [Act.put, List.setIfInBounds_toArray, List.set_cons_zero, List.set_cons_succ]))
                            refine wpAnyH_ready (rs := [36]) (by kernel_rfl) (by simp) ?_
                            refine AllReadyH.cons (o := ?_) ?_ ?_ ?_
                            rotate_left 1
                            (focus (simp only [List.getElem?_toArray, List.getElem?_cons_zero, List.getElem?_cons_succ] <;> rfl))
                            · intro K hK
                              go_simp
                              go_at_call 96
                              refine (HG28.out 28 2 _ _ (((Only.refl (fun _ => False) w8).drew).alloc (.cells #[.int .u64 0, .int .u64 0, .int .u64 0, .int .i64 0, .int .i64 0, .slice none 0 0] 54)) (by omega) (by omega)).mono ?_
                              rintro e w1 ⟨rfl, rfl⟩
                              dsimp only
                              refine hK.out _ _ ?_ (fun hHeld => ?_)
                              · exact HS.out _ (((Only.refl (fun _ => False) w8).drew).alloc (.cells #[.int .u64 0, .int .u64 0, .int .u64 0, .int .i64 0, .int .i64 0, .slice none 0 0] 54))
                              clear hK K
                              (try simp only [Act.put, List.setIfInBounds_toArray, List.set_cons_zero, List.set_cons_succ])
                              (refine wpAnyH_take (i := 37) (oi := ?_) (v := ?_) ?_ (by kernel_rfl) (by decide +kernel) (by decide +kernel) ?_ (Or.inl ⟨?_, ?_⟩) (by first | assumption | exact trivial) ?_; rotate_left 2; (focus (simp only [List.getElem?_toArray, List.getElem?_cons_zero, List.getElem?_cons_succ] <;> rfl)); (focus (exact fun _ _ _ h => h)); (focus rfl); (focus (intro w hSw; (try dsimp only at hSw); go_simp; (try with_reducible rfl); done)); (try simp only [Act.put, List.setIfInBounds_toArray, List.set_cons_zero, List.set_cons_succ]))
                              (refine wpAnyH_take (i := 38) (oi := ?_) (v := ?_) ?_ (by kernel_rfl) (by decide +kernel) (by decide +kernel) ?_ (Or.inl ⟨?_, ?_⟩) (by first | assumption | exact trivial) ?_; rotate_left 2; (focus (simp only [List.getElem?_toArray, List.getElem?_cons_zero, List.getElem?_cons_succ] <;> rfl)); (focus (exact fun _ _ _ h => h)); (focus rfl); (focus (intro w hSw; (try dsimp only at hSw); go_simp; (try with_reducible rfl); done)); (try simp only [Act.put, List.setIfInBounds_toArray, List.set_cons_zero, List.set_cons_succ]))
                              refine wpAnyH_ready (rs := [41]) (by kernel_rfl) (by simp) ?_
                              refine AllReadyH.cons (o := ?_) ?_ ?_ ?_
                              rotate_left 1
                              (focus (simp only [List.getElem?_toArray, List.getElem?_cons_zero, List.getElem?_cons_succ] <;> rfl))
                              · intro K hK
                                go_simp
                                go_at_call 60
                                refine (HCP.out _ (((Only.refl (fun _ => False) w8).drew).alloc (.cells #[.int .u64 0, .int .u64 0, .int .u64 0, .int .i64 0, .int .i64 0, .slice none 0 0] 54))).mono ?_
                                rintro e wc ⟨vd, rfl, hfr⟩
                                obtain ⟨Ad, cd, hvd, _, _, _⟩ := own_form hfr.own
                                subst hvd
                                dsimp only
                                refine hK.out _ _ ?_ (fun hHeld => ?_)
                                · exact HS.out _ ((((Only.refl (fun _ => False) w8).drew).alloc (.cells #[.int .u64 0, .int .u64 0, .int .u64 0, .int .i64 0, .int .i64 0, .slice none 0 0] 54)).trans hfr.quiet)
                                clear hK K
                                (try simp only [Act.put, List.setIfInBounds_toArray, List.set_cons_zero, List.set_cons_succ])
                                (refine wpAnyH_take (i := 42) (oi := ?_) (v := ?_) ?_ (by kernel_rfl) (by decide +kernel) (by decide +kernel) ?_ (Or.inl ⟨?_, ?_⟩) (by first | assumption | exact trivial) ?_; rotate_left 2; (focus (simp only [List.getElem?_toArray, List.getElem?_cons_zero, List.getElem?_cons_succ] <;> rfl)); (focus (exact fun _ _ _ h => h)); (focus rfl); (focus (intro w hSw; (try dsimp only at hSw); go_simp; (try with_reducible rfl); done)); (try simp only [Act.put, List.setIfInBounds_toArray, List.set_cons_zero, List.set_cons_succ]))
                                rw [HE0.out, HE1.out, HE2.out, HE3.out, HE4.out]
                                have hbx : wc.heap[w8.heap.size]? = _ := hfr.quiet.get (alloc_new w8.drew (.cells #[.int .u64 0, .int .u64 0, .int .u64 0, .int .i64 0, .int .i64 0, .slice none 0 0] 54)) (fun x => x)
                                obtain ⟨k0, k1, k2, k3, k4, k5⟩ := zero_cells hbx
                                have kf := fun o => frozen_of hbx o
                                have HQF : Hid (Quiet w8 (sixSet wc w8.heap.size (.int .u64 (tt.row : Int)) (.int .u64 (tt.xmin : Int)) (.int .u64 (tt.xmax : Int)) (.int .i64 tt.pg) (.int .i64 tt.sl) (.slice Ad tt.data.length cd))) := Lib.hid (((((Only.refl (fun _ => False) w8).drew).alloc (.cells #[.int .u64 0, .int .u64 0, .int .u64 0, .int .i64 0, .int .i64 0, .slice none 0 0] 54)).trans hfr.quiet).trans' (sixSet_only wc w8.heap.size (.int .u64 (tt.row : Int)) (.int .u64 (tt.xmin : Int)) (.int .u64 (tt.xmax : Int)) (.int .i64 tt.pg) (.int .i64 tt.sl) (.slice Ad tt.data.length cd)) (fun k hk e => by omega))
                                refine wpAnyH_ready (rs := [44]) (by kernel_rfl) (by simp) ?_
                                refine AllReadyH.cons (o := ?_) ?_ ?_ AllReadyH.nil
                                rotate_left 1
                                (focus (simp only [List.getElem?_toArray, List.getElem?_cons_zero, List.getElem?_cons_succ] <;> rfl))
                                intro K hK
                                go_simp
                                refine hK.out _ _ ?_ (fun hHeld => ?_)
                                · exact HS.out _ HQF.out
                                clear hK K hHeld
                                (try simp only [Act.put, List.setIfInBounds_toArray, List.set_cons_zero, List.set_cons_succ])
                                refine wpAnyH_done (by kernel_rfl) ?_ _
                                go_wp2_with fail
                                go_meet
                                exact ⟨_, Ad, cd, rfl, HQF.out, sixSet_same hbx _ _ _ _ _ _, owns_kept hfr.own (sixSet_only _ _ _ _ _ _ _ _) (fun k e x => by have := hfr.new k e; simp at this; omega), fun k e => by have := hfr.new k e; simp at this; omega⟩
                              exact AllReadyH.nil
                            exact AllReadyH.nil
                          exact AllReadyH.nil
                        exact AllReadyH.nil
                      exact AllReadyH.nil
                    exact AllReadyH.nil
                  exact AllReadyH.nil
                case rest =>
                  obtain ⟨bx, A5, c5, rfl, hq9, hbx, hown, hnew⟩ := hcut
                  have HWD := Lib.hid (HWC.out.quietly hq9)
                  have HBX := Lib.hid hbx
                  have HOWN := Lib.hid hown
                  have HNEW := Lib.hid hnew
                  have HOB := Lib.hid (lt_of_get HWC.out.own)
                  have HW8Z := Lib.hid HWC.out.quiet.size
                  obtain ⟨k0, k1, k2, k3, k4, k5⟩ := box_cells hbx
                  have HRG0 := Lib.hid (fun (W : World) => rright_any tt A5 c5 W)
                  unfold tupV at HRG0
                  clear hq9 hbx hown hnew HE0 HE1 HE2 HE3 HE4 HS HG28 HCP HDO hs30 b7 b15 b23 i7 i15 i23 b1 b2 b3 b4 b5 n1 n2 n3 n4 HCL HWC
                  rcases hr : tt.rightB with _ | _
                  · have HNO := Lib.hid (HNB.out (fun h => by rw [hr] at h; exact absurd h.2.2.2 (by decide)))
                    rw [hr] at HRG0
                    have HRG := Lib.hid HRG0.out
                    clear hr HRG0
                    go_wp2_with fail
                    refine (HRG.out _).mono ?_
                    rintro e w9 ⟨rfl, hq9⟩
                    have HQ9 := Lib.hid (HWD.out.quiet.trans hq9)
                    clear hq9
                    go_wp2
                    go_ret
                    exact rload_no HNO.out HQ9.out
                  · have HGN : Hid (GoodG g st k) := Lib.hid (HGD2.out.2 (Or.inr ⟨by omega, by omega, by omega, hr⟩))
                    have HOK : Hid tt.Ok := Lib.hid ⟨hr, HTB.out⟩
                    rw [hr] at HRG0
                    have HRG := Lib.hid HRG0.out
                    clear hr HRG0
                    go_wp2_with fail
                    refine (HRG.out _).mono ?_
                    rintro e w9 ⟨rfl, hq9⟩
                    have HW9 := Lib.hid (HWD.out.quietly hq9)
                    have HBX9 := Lib.hid (hq9.get HBX.out (fun x => x))
                    have HOWN9 := Lib.hid (owns_kept HOWN.out hq9 (fun _ _ x => x))
                    clear hq9 k0 k1 k2 k3 k4 k5 HWD HBX HOWN
                    go_upto_region 31 with (fail)
                    obtain ⟨v, rows, hpg⟩ := HW9.out.page
                    have HPG := Lib.hid hpg
                    have HROW : Hid (w9.ownsRow 0 161 8 v k rows.flatten) := Lib.hid (by have := hpg.row; rw [slotsG_len] at this; exact this)
                    have HS : Hid (∀ W : World, Quiet w9 W → (fun w' => w'.cell? ⟨xb, 0, none⟩ = some v ∧ w'.cell? ⟨bx, 0, none⟩ = some (.int .u64 (tt.row : Int)) ∧ w'.cell? ⟨bx, 1, none⟩ = some (.int .u64 (tt.xmin : Int)) ∧ w'.cell? ⟨bx, 2, none⟩ = some (.int .u64 (tt.xmax : Int)) ∧ w'.cell? ⟨bx, 3, none⟩ = some (.int .i64 tt.pg) ∧ w'.cell? ⟨bx, 4, none⟩ = some (.int .i64 tt.sl) ∧ w'.cell? ⟨bx, 5, none⟩ = some (.slice A5 tt.data.length c5)) W) := Lib.hid (fun W hq => by
                      obtain ⟨k0, k1, k2, k3, k4, k5⟩ := box_cells (hq.get HBX9.out (fun x => x))
                      exact ⟨hq.cell HPG.out.cells.1 (fun x => x), k0, k1, k2, k3, k4, k5⟩)
                    clear hpg
                    refine wp_region_last (S := (fun w' => w'.cell? ⟨xb, 0, none⟩ = some v ∧ w'.cell? ⟨bx, 0, none⟩ = some (.int .u64 (tt.row : Int)) ∧ w'.cell? ⟨bx, 1, none⟩ = some (.int .u64 (tt.xmin : Int)) ∧ w'.cell? ⟨bx, 2, none⟩ = some (.int .u64 (tt.xmax : Int)) ∧ w'.cell? ⟨bx, 3, none⟩ = some (.int .i64 tt.pg) ∧ w'.cell? ⟨bx, 4, none⟩ = some (.int .i64 tt.sl) ∧ w'.cell? ⟨bx, 5, none⟩ = some (.slice A5 tt.data.length c5))) (by kernel_rfl) (by kernel_rfl) (by simp) (HS.out _ ((Only.refl (fun _ => False) w9).drew)) (fun hHeld => ?_)
                    simp only [List.pop_toArray, List.dropLast, List.size_toArray, List.length_cons, List.length_nil, Nat.reduceAdd, Nat.reduceSub]
                    (refine wpAnyH_take (i := 0) (oi := ?_) (v := ?_) ?_ (by kernel_rfl) (by decide +kernel) (by decide +kernel) ?_ (Or.inl ⟨?_, ?_⟩) (by assumption) ?_; rotate_left 2; (focus (simp only [List.getElem?_toArray, List.getElem?_cons_zero, List.getElem?_cons_succ] <;> rfl)); (focus (exact fun _ _ _ => last_panic (fun h => h))); (focus rfl); (focus (intro w hSw; (try dsimp only at hSw); go_simp; (try with_reducible rfl); done)); (try simp only [Act.put, List.setIfInBounds_toArray, List.set_cons_zero, List.set_cons_succ]))
                    (refine wpAnyH_take (i := 1) (oi := ?_) (v := ?_) ?_ (by kernel_rfl) (by decide +kernel) (by decide +kernel) ?_ (Or.inl ⟨?_, ?_⟩) (by assumption) ?_; rotate_left 2; (focus (simp only [List.getElem?_toArray, List.getElem?_cons_zero, List.getElem?_cons_succ] <;> rfl)); (focus (exact fun _ _ _ => last_panic (fun h => h))); (focus rfl); (focus (intro w hSw; (try dsimp only at hSw); go_simp; (try with_reducible rfl); done)); (try simp only [Act.put, List.setIfInBounds_toArray, List.set_cons_zero, List.set_cons_succ]))
                    (refine wpAnyH_take (i := 2) (oi := ?_) (v := ?_) ?_ (by kernel_rfl) (by decide +kernel) (by decide +kernel) ?_ (Or.inl ⟨?_, ?_⟩) (by assumption) ?_; rotate_left 2; (focus (simp only [List.getElem?_toArray, List.getElem?_cons_zero, List.getElem?_cons_succ] <;> rfl)); (focus (exact fun _ _ _ => last_panic (fun h => h))); (focus rfl); (focus (intro w hSw; (try dsimp only at hSw); go_simp; (try with_reducible rfl); done)); (try simp only [Act.put, List.setIfInBounds_toArray, List.set_cons_zero, List.set_cons_succ]))
                    (refine wpAnyH_take (i := 3) (oi := ?_) (v := ?_) ?_ (by kernel_rfl) (by decide +kernel) (by decide +kernel) ?_ (Or.inl ⟨?_, ?_⟩) (by assumption) ?_; rotate_left 2; (focus (simp only [List.getElem?_toArray, List.getElem?_cons_zero, List.getElem?_cons_succ] <;> rfl)); (focus (exact fun _ _ _ => last_panic (fun h => h))); (focus rfl); (focus (intro w hSw; (try dsimp only at hSw); go_simp; (try with_reducible rfl); done)); (try simp only [Act.put, List.setIfInBounds_toArray, List.set_cons_zero, List.set_cons_succ]))
                    (refine wpAnyH_take (i := 4) (oi := ?_) (v := ?_) ?_ (by kernel_rfl) (by decide +kernel) (by decide +kernel) ?_ (Or.inl ⟨?_, ?_⟩) (by assumption) ?_; rotate_left 2; (focus (simp only [List.getElem?_toArray, List.getElem?_cons_zero, List.getElem?_cons_succ] <;> rfl)); (focus (exact fun _ _ _ => last_panic (fun h => h))); (focus rfl); (focus (intro w hSw; (try dsimp only at hSw); go_simp; (try with_reducible rfl); done)); (try simp only [Act.put, List.setIfInBounds_toArray, List.set_cons_zero, List.set_cons_succ]))
                    (refine wpAnyH_take (i := 5) (oi := ?_) (v := ?_) ?_ (by kernel_rfl) (by decide +kernel) (by decide +kernel) ?_ (Or.inl ⟨?_, ?_⟩) (by assumption) ?_; rotate_left 2; (focus (simp only [List.getElem?_toArray, List.getElem?_cons_zero, List.getElem?_cons_succ] <;> rfl)); (focus (exact fun _ _ _ => last_panic (fun h => h))); (focus rfl); (focus (intro w hSw; (try dsimp only at hSw); go_simp; (try with_reducible rfl); done)); (try simp only [Act.put, List.setIfInBounds_toArray, List.set_cons_zero, List.set_cons_succ]))
                    (refine wpAnyH_take (i := 6) (oi := ?_) (v := ?_) ?_ (by kernel_rfl) (by decide +kernel) (by decide +kernel) ?_ (Or.inl ⟨?_, ?_⟩) (by assumption) ?_; rotate_left 2; (focus (simp only [List.getElem?_toArray, List.getElem?_cons_zero, List.getElem?_cons_succ] <;> rfl)); (focus (exact fun _ _ _ => last_panic (fun h => h))); (focus rfl); (focus (intro w hSw; (try dsimp only at hSw); go_simp; (try with_reducible rfl); done)); (try simp only [Act.put, List.setIfInBounds_toArray, List.set_cons_zero, List.set_cons_succ]))
                    (refine wpAnyH_take (i := 7) (oi := ?_) (v := ?_) ?_ (by kernel_rfl) (by decide +kernel) (by decide +kernel) ?_ (Or.inl ⟨?_, ?_⟩) (by assumption) ?_; rotate_left 2; (focus (simp only [List.getElem?_toArray, List.getElem?_cons_zero, List.getElem?_cons_succ] <;> rfl)); (focus (exact fun _ _ _ => last_panic (fun h => h))); (focus rfl); (focus (intro w hSw; (try dsimp only at hSw); go_simp; (try with_reducible rfl); done)); (try simp only [Act.put, List.setIfInBounds_toArray, List.set_cons_zero, List.set_cons_succ]))
                    refine wpAnyH_ready (rs := [8]) (by kernel_rfl) (by simp) ?_
                    refine AllReadyH.cons (o := ?_) ?_ ?_ ?_
                    rotate_left 1
                    (focus (simp only [List.getElem?_toArray, List.getElem?_cons_zero, List.getElem?_cons_succ] <;> rfl))
                    · intro K hK
                      go_simp
                      refine hK.out _ _ ?_ (fun hHeld => ?_)
                      · exact HS.out _ (((Only.refl (fun _ => False) w9).drew).alloc (.cells #[.bool true, .int .u64 (tt.row : Int), .int .u64 (tt.xmin : Int), .int .u64 (tt.xmax : Int), .int .i64 tt.pg, .int .i64 tt.sl, .slice A5 tt.data.length c5, .int .i64 (f : Int)] 161))
                      clear hK K
                      (try simp only [Act.put, List.setIfInBounds_toArray, List.set_cons_zero, List.set_cons_succ])
                      refine wpAnyH_ready (rs := [9]) (by kernel_rfl) (by simp) ?_
                      refine AllReadyH.cons (o := ?_) ?_ ?_ ?_
                      rotate_left 1
                      (focus (simp only [List.getElem?_toArray, List.getElem?_cons_zero, List.getElem?_cons_succ] <;> rfl))
                      · intro K hK
                        refine app_step elem_slot rfl (.tmp 170) (.tmp 174) rfl rfl (owns_kept HROW.out (((Only.refl (fun _ => False) w9).drew).alloc (.cells #[.bool true, .int .u64 (tt.row : Int), .int .u64 (tt.xmin : Int), .int .u64 (tt.xmax : Int), .int .i64 tt.pg, .int .i64 tt.sl, .slice A5 tt.data.length c5, .int .i64 (f : Int)] 161)) (fun _ _ x => x)) rfl (Rd.new w9.drew 8 1 (slotV (some (f, tt)) (.slice A5 tt.data.length c5)) 161 (fun _ => True) rfl trivial) (one_slotV (some (f, tt)) (d := .slice A5 tt.data.length c5) rfl) (by unfold maxLen; omega) (by omega) ?_
                        intro v5 w5 hg5
                        obtain ⟨A6, c6, hv6, _, _, _⟩ := own_form hg5.own
                        subst hv6
                        have hne : ∀ x, v.ownBlock = some x → ¬ x = xb := fun x e => by obtain ⟨y, hy⟩ := own_blk HPG.out.row e; exact ne_type hy HPG.out.blk (by decide)
                        have hxb5 := hg5.only.get ((((Only.refl (fun _ => False) w9).drew).alloc (.cells #[.bool true, .int .u64 (tt.row : Int), .int .u64 (tt.xmin : Int), .int .u64 (tt.xmax : Int), .int .i64 tt.pg, .int .i64 tt.sl, .slice A5 tt.data.length c5, .int .i64 (f : Int)] 161)).get HPG.out.blk (fun x => x)) (fun e => hne _ e rfl)
                        have hbx5 := hg5.only.get ((((Only.refl (fun _ => False) w9).drew).alloc (.cells #[.bool true, .int .u64 (tt.row : Int), .int .u64 (tt.xmin : Int), .int .u64 (tt.xmax : Int), .int .i64 tt.pg, .int .i64 tt.sl, .slice A5 tt.data.length c5, .int .i64 (f : Int)] 161)).get HBX9.out (fun x => x)) (fun e => by obtain ⟨y, hy⟩ := own_blk HPG.out.row e; exact ne_type hy HBX9.out (by decide) rfl)
                        have k0 : w5.cell? ⟨xb, 0, none⟩ = some v := by rw [cell_of hxb5]; rfl
                        have kf := fun o => frozen_of hxb5 o
                        refine hK.out _ _ ?_ (fun hHeld => ?_)
                        · exact (by obtain ⟨a0, a1, a2, a3, a4, a5⟩ := box_cells hbx5; exact ⟨k0, a0, a1, a2, a3, a4, a5⟩)
                        clear hK K
                        (try simp only [Act.put, List.setIfInBounds_toArray, List.set_cons_zero, List.set_cons_succ])
                        (refine wpAnyH_take (i := 10) (oi := ?_) (v := ?_) ?_ (by kernel_rfl) (by decide +kernel) (by decide +kernel) ?_ (Or.inl ⟨?_, ?_⟩) (by assumption) ?_; rotate_left 2; (focus (simp only [List.getElem?_toArray, List.getElem?_cons_zero, List.getElem?_cons_succ] <;> rfl)); (focus (exact fun _ _ _ => last_panic (fun h => h))); (focus rfl); (focus (intro w hSw; (try dsimp only at hSw); go_simp; (try with_reducible rfl); done)); (try simp only [Act.put, List.setIfInBounds_toArray, List.set_cons_zero, List.set_cons_succ]))
                        (refine wpAnyH_take (i := 11) (oi := ?_) (v := ?_) ?_ (by kernel_rfl) (by decide +kernel) (by decide +kernel) ?_ (Or.inl ⟨?_, ?_⟩) (by assumption) ?_; rotate_left 2; (focus (simp only [List.getElem?_toArray, List.getElem?_cons_zero, List.getElem?_cons_succ] <;> rfl)); (focus (exact fun _ _ _ => last_panic (fun h => h))); (focus rfl); (focus (intro w hSw; (try dsimp only at hSw); go_simp; (try with_reducible rfl); done)); (try simp only [Act.put, List.setIfInBounds_toArray, List.set_cons_zero, List.set_cons_succ]))
                        refine wpAnyH_done (by kernel_rfl) ?_ _
                        refine last_step (o := ?_) ?_ ?_
                        rotate_left 1
                        (focus (simp only [List.getElem?_toArray, List.getElem?_cons_zero, List.getElem?_cons_succ] <;> rfl))
                        intro K hK
                        go_simp
                        refine hK.out _ _ ?_
                        clear hK K
                        have HN : Hid (LdW w (w5.setCell ⟨xb, 0, none⟩ (.slice A6 (k + 1) c6)) ob xb (ownG g n (k + 1)) (slotsG g (k + 1)) st) := Lib.hid (by
                          rw [slotsG_succ, HSS.out]
                          refine HW9.out.push (s := some (f, tt)) (d := .slice A5 tt.data.length c5) HPG.out (((Only.refl (fun _ => False) w9).drew).alloc (.cells #[.bool true, .int .u64 (tt.row : Int), .int .u64 (tt.xmin : Int), .int .u64 (tt.xmax : Int), .int .i64 tt.pg, .int .i64 tt.sl, .slice A5 tt.data.length c5, .int .i64 (f : Int)] 161)) (fun f' t' e => by
                            injection e with e
                            injection e with e1 e2
                            subst e1 e2
                            exact ⟨⟨A5, c5, rfl, owns_kept HOWN9.out (((Only.refl (fun _ => False) w9).drew).alloc (.cells #[.bool true, .int .u64 (tt.row : Int), .int .u64 (tt.xmin : Int), .int .u64 (tt.xmax : Int), .int .i64 tt.pg, .int .i64 tt.sl, .slice A5 tt.data.length c5, .int .i64 (f : Int)] 161)) (fun _ _ x => x), fun k2 e => by have h1 := HNEW.out k2 e; have h2 := HOB.out; have h3 := HW8Z.out; omega⟩, HOK.out, by omega⟩) (by rw [slotsG_len]; omega) (by rw [slotsG_len]; exact hg5))
                        clear hg5 hxb5 k0 kf hHeld
                        go_wp2
                        go_roundw
                        case rel => exact ⟨k + 1, by omega, by go_num, HN.out, fun i hi => by
                          rcases Nat.lt_or_ge i k with h | h
                          · exact HGD.out i h
                          · obtain rfl : i = k := by omega
                            exact HGN.out, HAP2.out⟩
                        case measure => simp [intOf]; omega
                      exact AllReadyH.nil
                    exact AllReadyH.nil
        · obtain rfl : k = n := by omega
          have HFT := HFIT.out
          obtain ⟨v, rows, hpg⟩ := HW.out.page
          have HPG := Lib.hid hpg
          have hlen : (slotsG g k).length = k := slotsG_len g k
          have z0 := hpg.cells.1
          obtain ⟨A, c, hv, hc1, hc2, hform⟩ := hpg.form
          rw [hlen] at hv
          subst hv
          have HFORM := Lib.hid hform
          clear hpg hform hlen
          by_cases hlast : 0 < k ∧ slotG g (k - 1) = none
          · have HNO : Hid (¬ PgOk g) := Lib.hid (fun h => by
              have h1 := (HCK.out.1 h).last hlast.1
              have h2 := hlast.2
              unfold slotG at h2
              split at h2
              · rename_i h3; exact h1 h3.2
              · cases h2)
            obtain ⟨k1, rfl⟩ : ∃ k1, k = k1 + 1 := ⟨k - 1, by omega⟩
            obtain ⟨gb, d, hA, hrow, _, hcell, _⟩ := HFORM.out k1 none (by rw [slotsG_get (by omega)]; have := hlast.2; rw [Nat.add_sub_cancel] at this; rw [this])
            subst hA
            have z1 : wr.cell? ⟨gb, k1 * 8, none⟩ = some (.bool false) := hcell 0 _ rfl
            have e1 : (((k1 + 1 : Nat) : Int) - 1) = (k1 : Int) := by omega
            have e2 : (0 : Int) < ((k1 + 1 : Nat) : Int) := by omega
            have e3 : (k1 : Int) < ((k1 + 1 : Nat) : Int) := by omega
            have e4 : (0 : Int) ≤ (k1 : Int) := by omega
            clear hlast hcell hrow
            go_wp2
            go_ret
            exact rload_no HNO.out HW.out.quiet
          · have HLAST : Hid (0 < k → sizeG g (k - 1) ≠ 0) := Lib.hid (fun h0 h1 => by
              have hgd := HGD.out (k - 1) (by omega)
              rcases hgd with h2 | h2
              · exact hlast ⟨h0, by unfold slotG; rw [if_pos h2]⟩
              · omega)
            go_upto_region 33 with (fail)
            go_cut [192] (fun s192 wx => s192 = .bool false ∧ wr = wx)
            case first =>
              by_cases h0 : 0 < k
              · obtain ⟨k1, rfl⟩ : ∃ k1, k = k1 + 1 := ⟨k - 1, by omega⟩
                rcases hsl : slotG g k1 with _ | ⟨f, t⟩
                · exact absurd ⟨by omega, by rw [Nat.add_sub_cancel]; exact hsl⟩ hlast
                · obtain ⟨gb, d, hA, hrow, _, hcell, _⟩ := HFORM.out k1 (some (f, t)) (by rw [slotsG_get (by omega), hsl])
                  subst hA
                  have z1 : wr.cell? ⟨gb, k1 * 8, none⟩ = some (.bool true) := hcell 0 _ rfl
                  have e1 : (((k1 + 1 : Nat) : Int) - 1) = (k1 : Int) := by omega
                  have e2 : (0 : Int) < ((k1 + 1 : Nat) : Int) := by omega
                  have e3 : (k1 : Int) < ((k1 + 1 : Nat) : Int) := by omega
                  have e4 : (0 : Int) ≤ (k1 : Int) := by omega
                  clear hlast hcell hrow hsl
                  go_wp2_with fail
                  go_meet
                  exact ⟨rfl, rfl⟩
              · obtain rfl : k = 0 := by omega
                clear hlast
                go_wp2_with fail
                go_meet
                exact ⟨rfl, rfl⟩
            case rest =>
              obtain ⟨rfl, rfl⟩ := hcut
              clear hlast z0
              go_wp2_with fail
              go_loop [195, 14, 15] (fun c _ _ => ∃ j : Nat, j ≤ 512 ∧ c = .int .i64 (j : Int) ∧ ∀ y, y < j → g y ≠ 0 → ownG g k k y = true) (fun c _ _ => 512 - (intOf c).toNat)
              case atStart => exact ⟨0, Nat.zero_le _, rfl, fun y hy => by omega⟩
              case round =>
                obtain ⟨j, hj, rfl, hz⟩ := hrel
                have HZ := Lib.hid hz
                clear hz
                by_cases hlj : j < 512
                · have y0 : wr.cell? ⟨b, off + j, none⟩ = _ := HW.out.quiet.cell (HCC.out j hlj) (fun x => x)
                  have y1 := HW.out.cell (i := j) hlj
                  have e1 : (j : Int) < 512 := by omega
                  have e2 : (0 : Int) ≤ (j : Int) := by omega
                  by_cases h0 : g j = 0
                  · have HH := Lib.hid h0
                    rw [h0] at y0
                    clear h0
                    go_wp2
                    go_round
                    case rel => exact ⟨j + 1, by omega, by go_num, fun y hy h1 => by
                      rcases Nat.lt_or_ge y j with h | h
                      · exact HZ.out y h h1
                      · obtain rfl : y = j := by omega
                        exact absurd HH.out h1⟩
                    case measure => simp [intOf]; omega
                  · have e0 : ((g j : Int) != 0) = true := by simp; omega
                    rcases ho : ownG g k k j with _ | _
                    · have HNO : Hid (¬ PgOk g) := Lib.hid (fun h => by
                        have h1 := HCK.out.1 h
                        unfold ownG at ho
                        rw [Bool.or_eq_false_iff] at ho
                        have h2 := of_decide_eq_false ho.1
                        exact h0 (h1.zero j (by omega) hlj (covB_false.1 ho.2)))
                      rw [ho] at y1
                      clear ho h0
                      generalize g j = gj at y0 e0
                      go_wp2
                      go_ret
                      exact rload_no HNO.out HW.out.quiet
                    · rw [ho] at y1
                      have HO := Lib.hid ho
                      clear ho h0
                      generalize hgj : g j = gj at y0 e0
                      clear hgj
                      go_wp2
                      go_round
                      case rel => exact ⟨j + 1, by omega, by go_num, fun y hy h1 => by
                        rcases Nat.lt_or_ge y j with h | h
                        · exact HZ.out y h h1
                        · obtain rfl : y = j := by omega
                          exact HO.out⟩
                      case measure => simp [intOf]; omega
                · have HCKS : Hid (Checks g k st) := Lib.hid ⟨HFT.2, HFT.1, HLAST.out, HGD.out, HAP.out, fun x h1 h2 h3 => by
                    by_cases h4 : g x = 0
                    · exact h4
                    · have h5 := HZ.out x (by omega) h4
                      unfold ownG at h5
                      rw [covB_false.2 h3, Bool.or_false] at h5
                      have := of_decide_eq_true h5
                      omega⟩
                  have HYES : Hid (PgOk g) := Lib.hid (HCK.out.2 HCKS.out)
                  have HPGS : Hid (Pg g (slotsG g k) st) := Lib.hid (by
                    obtain ⟨L, st', h, _⟩ := HYES.out
                    have e1 := HEQN.out
                    have e2 := h.cnt
                    rw [e1] at e2
                    have e3 := h.st
                    rw [HEQS.out] at e3
                    have e4 := pg_slots h
                    rw [← e2] at e4
                    rw [← e4, e3]
                    exact h)
                  go_wp2
                  go_ret
                  exact ⟨HW.out.quiet, Or.inl ⟨HYES.out, _, _, _, rfl, HPGS.out, _, _, HPG.out.mono (fun k x => x.1)⟩⟩

end Go.Proofs.Ytbibmgcklilpmaa
