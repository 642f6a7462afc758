/- HeapFree: what was freed is gone, all others are where they were. For every input. -/
import Derived.Test.YtbibmgcklilpmaaHeapTids
import Derived.Test.YtbibmgcklilpmaaHeapWalk4
import Derived.Test.YtbibmgcklilpmaaOpen2
import Derived.Test.YtbibmgcklilpmaaPageFills
namespace Go.Proofs.Ytbibmgcklilpmaa
open Go.RowKit Go.Lap

/-- The version that is put at a time. -/
def tupI (i k : Nat) : Tup := { row := i, xmin := 1, xmax := 0, pg := -1, sl := -1, data := List.replicate k 0 }

theorem tupI_right {i k : Nat} (hi : i ≤ 1000) (hk : k ≤ 200) : (tupI i k).rightB = true := by
  have h0 := tup0_right k hk
  obtain ⟨a, b, c, d, e⟩ := of_decide_eq_true h0
  exact decide_eq_true ⟨by show i ≤ _; omega, b, c, d, e⟩

theorem tupI_bytes (i k : Nat) : ∀ x ∈ (tupI i k).data, x < 256 := tup0_bytes k
theorem tupI_v (i k : Nat) (A : Option Addr) (cap : Nat) : tupV (tupI i k) A cap = .agg #[.int .u64 (i : Int), .int .u64 1, .int .u64 0, .int .i64 (-1), .int .i64 (-1), .slice A k cap] := by
  unfold tupV
  rw [show (tupI i k).data.length = k by simp [tupI]]
  rfl

/-- The law's world: a heap, a row of places. -/
structure RowW (w wr : World) (hb pb : Nat) (v : Value) (H : List (List (Option Tup))) (left : Nat) (l : List (Int × Int)) : Prop where
  law : LawW w wr (fun j => v.ownBlock = some j) hb pb H left
  row : TidsAt wr v l
  own : ∀ j, v.ownBlock = some j → w.heap.size ≤ j

section
variable {w wr w' : World} {hb pb : Nat} {v : Value} {H : List (List (Option Tup))} {left : Nat} {l : List (Int × Int)}

theorem RowW.turn {H' : List (List (Option Tup))} {left' : Nat} (h : RowW w wr hb pb v H left l) (ht : Turn w wr w' (fun j => v.ownBlock = some j)) (hl : LawW w w' (fun j => v.ownBlock = some j) hb pb H' left') : RowW w w' hb pb v H' left' l :=
  ⟨hl, owns_kept h.row ht (fun j e x => x.1 e), h.own⟩

theorem RowW.quietly (h : RowW w wr hb pb v H left l) (hq : Quiet wr w') : RowW w w' hb pb v H left l :=
  ⟨h.law.quietly hq, owns_kept h.row hq (fun _ _ x => x), h.own⟩
theorem RowW.drewN (h : RowW w wr hb pb v H left l) (n : Nat) : RowW w (wr.drewN n) hb pb v H left l := h.quietly ((Only.refl _ _).drewN n)

theorem RowW.put (h : RowW w wr hb pb v H left l) (t : Tup) {A : Option Addr} {cap : Nat} {S : Nat → Prop} (hq : Quiet wr w') (hd : Rd w' S 1 A t.data.length (bytesV t.data)) (hS : ∀ k, S k → wr.heap.size ≤ k ∧ k < w'.heap.size) (hby : ∀ x ∈ t.data, x < 256) (hr : t.rightB = true) (hfit : ∀ T ∈ H, Fits T) (hgo : 0 < left ∨ (findH H t.data.length).isSome = true) :
    Calls Try.prog 43 #[.pointer (some ⟨hb, 0, none⟩), tupV t A cap] w' fun e w2 => ∃ pg sl H' left', e = .returned (.tuple #[.agg #[.int .i64 pg, .int .i64 sl], .int .i64 0]) ∧ RowW w w2 hb pb v H' left' l ∧ InsAt H H' pg sl t ∧ H'.length + left' = H.length + left := by
  obtain ⟨pg, sl, H', left', e, hi, _, hsum⟩ := hIns_goes (left := left) hfit hr hgo
  have hz := hq.size
  have hl := h.law.fresh (K' := fun j => v.ownBlock = some j ∨ S j) hq (fun j x => by
    rcases x with x | x
    · exact ⟨Or.inl x, by have := h.law.kl j x; omega⟩
    · exact ⟨Or.inr (hS j x).1, (hS j x).2⟩)
  have := hl.insert t A cap S hby hd (fun j x => Or.inr x)
  rw [e] at this
  refine this.mono ?_
  rintro e w2 ⟨rfl, ht, hl2⟩
  exact ⟨pg, sl, H', left', rfl, ⟨hl2.fresh (Only.refl _ _) (fun j x => ⟨Or.inl (Or.inl x), hl2.kl j (Or.inl x)⟩), owns_kept (owns_kept h.row hq (fun _ _ x => x)) ht (fun j e x => x.1 (Or.inl e)), h.own⟩, hi, hsum⟩

theorem RowW.free {t : Tup} (h : RowW w wr hb pb v H left l) (p : Int × Int) (hfit : ∀ T ∈ H, Fits T) (hg : hGet H p.1 p.2 = some t) :
    Calls Try.prog 47 #[.pointer (some ⟨hb, 0, none⟩), .agg #[.int .i64 p.1, .int .i64 p.2]] wr fun e w' => ∃ H', e = .returned (.int .i64 0) ∧ RowW w w' hb pb v H' left l ∧ FreeAt H H' p.1 p.2 t := by
  obtain ⟨H', e, hf⟩ := hFree_goes hfit hg
  have := h.law.free p.1 p.2
  rw [e] at this
  refine this.mono ?_
  rintro e w' ⟨rfl, ht, hl⟩
  exact ⟨H', rfl, h.turn ht hl, hf⟩

theorem RowW.freeNone (h : RowW w wr hb pb v H left l) (p : Int × Int) (hg : hGet H p.1 p.2 = none) :
    Calls Try.prog 47 #[.pointer (some ⟨hb, 0, none⟩), .agg #[.int .i64 p.1, .int .i64 p.2]] wr fun e w' => e = .returned (.int .i64 15) ∧ RowW w w' hb pb v H left l := by
  have := h.law.free p.1 p.2
  rw [show hFree H p.1 p.2 = (15, H) by unfold hFree; rw [hg]] at this
  refine this.mono ?_
  rintro e w' ⟨rfl, ht, hl⟩
  exact ⟨rfl, h.turn ht hl⟩

theorem RowW.get_none (h : RowW w wr hb pb v H left l) (pg sl : Int) (hg : hGet H pg sl = none) : Calls Try.prog 49 #[.pointer (some ⟨hb, 0, none⟩), .agg #[.int .i64 pg, .int .i64 sl]] wr (GetNone wr) := by
  obtain ⟨F, hf, _⟩ := h.law.ex
  exact heap_get_none pg sl hf hg
theorem RowW.get_some {t : Tup} (h : RowW w wr hb pb v H left l) (pg sl : Int) (hg : hGet H pg sl = some t) : Calls Try.prog 49 #[.pointer (some ⟨hb, 0, none⟩), .agg #[.int .i64 pg, .int .i64 sl]] wr (GetSome wr t) := by
  obtain ⟨F, hf, _⟩ := h.law.ex
  exact heap_get_some pg sl t hf hg

/-- One more place in the row. -/
theorem RowW.push {v' : Value} {p : Int × Int} {o : Obj} (h : RowW w wr hb pb v H left l) (hg : Grew ((wr.alloc o).alloc (.cells #[.int .i64 p.1, .int .i64 p.2] 51)) w' 51 2 v v' (l.length + 1) (tidsV l ++ tidsV [p])) : RowW w w' hb pb v' H left (l ++ [p]) := by
  have h1 := (h.quietly ((Only.refl (fun _ => False) wr).alloc o)).quietly ((Only.refl (fun _ => False) (wr.alloc o)).alloc (.cells #[.int .i64 p.1, .int .i64 p.2] 51))
  have hqs := h.law.quiet.size
  refine ⟨h1.law.mine hg.only (fun j e => ⟨e, h.own j e⟩) (fun j e => ?_), ?_, fun j e => ?_⟩
  · refine ⟨?_, (hg.own.lt j e).2⟩
    rcases hg.loc with x | x
    · rw [x] at e; exact Or.inl e
    · rw [x] at e; injection e with e; exact Or.inr (by omega)
  · unfold TidsAt
    rw [List.length_append, tidsV_append]
    exact hg.own
  · rcases hg.loc with x | x
    · rw [x] at e; exact h.own j e
    · rw [x] at e; injection e with e; simp at e; omega
end

/-- Each version bears its number. -/
def Rowed (ts : List ((Int × Int) × Tup)) : Prop := ∀ (j : Nat) (x : (Int × Int) × Tup), ts[j]? = some x → x.2.row = j

theorem Rowed.push {ts : List ((Int × Int) × Tup)} {p : Int × Int} {i k : Nat} (h : Rowed ts) (hl : ts.length = i) : Rowed (ts ++ [(p, tupI i k)]) := by
  intro j x hx
  rcases snoc_get hx with ⟨_, h1⟩ | ⟨h1, h2⟩
  · exact h j x h1
  · rw [h2, h1, hl]; rfl

/-- New bytes, all nothing. -/
theorem zero_rd (w : World) (i k : Nat) : Rd (w.alloc (.cells (tab k (byteF (fun _ => 0))) 5)) (· = w.heap.size) 1 (some ⟨w.heap.size, 0, none⟩) (tupI i k).data.length (bytesV (tupI i k).data) :=
  tup0_rdN (alloc_new w _) (Nat.le_refl k)

set_option maxHeartbeats 2000000 in
set_option maxRecDepth 100000 in
theorem heapFree_any (s : Int) (A : Option Addr) (n cap : Nat) (w : World) (hs : 0 ≤ s ∧ s ≤ 255) (h : IntsIn .u8 w w.heap.size A n) (hn : n ≤ cap) (hcap : cap ≤ maxLen) :
    Calls Try.prog 11 #[.slice A n cap, .int .u8 s] w fun e w' => e = .returned (.bool true) ∧ Below w.heap.size w w' := by
  unfold maxLen at hcap
  have HI := Lib.hid h
  clear h
  go_enter Try.func11, Try.ntmps11
  go_wp2_with fail
  refine (awake7 _).mono ?_
  rintro e w1 ⟨rfl, hq1⟩
  have HQ1 := Lib.hid hq1
  clear hq1
  go_wp2_with fail
  refine (pool_new 256 (by omega) _).mono ?_
  rintro e w2 ⟨rfl, hq2', hp2⟩
  have HQ2 := Lib.hid (HQ1.out.trans hq2')
  have HP2 := Lib.hid hp2
  have hpb : w.heap.size ≤ w1.heap.size := HQ1.out.size
  clear hq2' hp2 HQ1
  generalize w1.heap.size = pb at HP2 hpb ⊢
  go_wp2_with fail
  refine (heap_new _ _).mono ?_
  rintro e w3 ⟨hb, rfl, hq3, hh3⟩
  have HS4 : Hid (RowW w w3 hb pb (.slice none 0 0) [] 256 []) := ⟨LawW.start HQ2.out HP2.out hpb (by omega) hq3 hh3 (fun _ x => by cases x), World.ownsRow_nil _ _ _ _, fun _ x => by cases x⟩
  clear hq3 hh3 HQ2 HP2
  go_wp2_with fail
  go_loopw [28, 8, 9, 10, 11, 12] (fun c v _ _ _ _ wr => ∃ (i : Nat) (H : List (List (Option Tup))) (left : Nat) (ts : List ((Int × Int) × Tup)), i ≤ n ∧ i ≤ 30 ∧ c = .int .i64 (i : Int) ∧ ts.length = i ∧ RowW w wr hb pb v H left (ts.map (·.1)) ∧ Inv H ts ∧ Rowed ts ∧ H.length ≤ i ∧ H.length + left = 256) (fun c _ _ _ _ _ _ => n - (intOf c).toNat)
  case atStart => exact ⟨0, [], 256, [], Nat.zero_le _, Nat.zero_le _, rfl, rfl, HS4.out, Inv.start, (fun j x hx => by simp at hx), Nat.le_refl _, rfl⟩
  case round =>
    obtain ⟨i, H, left, ts, hi, hi30, rfl, hll, hS, hV, hrow, hHl, hsum⟩ := hrel
    clear HS4
    have HS := Lib.hid hS
    have HV := Lib.hid hV
    have HRW := Lib.hid hrow
    clear hrow
    by_cases hlt : i < n
    · obtain ⟨b, off, z, rfl, hb', hcz, wz⟩ := HI.out.kept (onward (Below.refl _ _) (Nat.le_refl _) hS.law.quiet (fun _ x => x.elim)) i hlt
      have hz := bounds_u8 wz
      clear hS hV wz
      by_cases h30 : i < 30
      · obtain ⟨k, hk, hk2⟩ : ∃ k : Nat, z % 201 = k ∧ k ≤ 200 := ⟨(z % 201).toNat, by omega, by omega⟩
        have hmk := fun W => make_u8 k (by omega) W
        have HPUT := Lib.hid (HS.out.put (tupI i k) (A := some ⟨wr.heap.size, 0, none⟩) (cap := k) (w' := wr.alloc (.cells (tab k (byteF (fun _ => 0))) 5)) ((Only.refl _ _).alloc _) (zero_rd wr i k) (fun j e => by rw [e]; simp) (tupI_bytes i k) (tupI_right (by omega) hk2) HV.out.fit (Or.inl (by omega)))
        rw [tupI_v] at HPUT
        go_wp2_with fail
        refine HPUT.out.mono ?_
        rintro e w5 ⟨pg, sl, H', left', rfl, hs5, hi5, hsum5⟩
        have HS5 := Lib.hid hs5
        have HI5 := Lib.hid hi5
        have hl5 := hi5.len
        clear hs5 hi5 HS HPUT hcz hmk
        have hlm : (ts.map (·.1)).length = i := by simpa using hll
        have hrow5 := HS5.out.row
        rw [TidsAt, hlm] at hrow5
        have HROW := Lib.hid hrow5
        clear hrow5
        go_wp2_with (at_builtin; refine app elem_tid rfl (.tmp 50) (.tmp 52) rfl rfl (owns_kept (owns_kept HROW.out ((Only.refl (fun _ => False) w5).alloc _) (fun _ _ x => x)) ((Only.refl (fun _ => False) (w5.alloc _)).alloc _) (fun _ _ x => x)) rfl (tids_new1 _ _ pg sl) (one_tids [(pg, sl)]) (by unfold maxLen; omega) (by omega) ?_)
        intro v' w6 hg
        have HS6 := Lib.hid (HS5.out.push (p := (pg, sl)) (by rw [hlm]; exact hg))
        clear hg HS5 HROW
        go_wp2
        go_roundw
        case rel => exact ⟨i + 1, H', left', ts ++ [((pg, sl), tupI i k)], by omega, by omega, by go_num, by simp [hll], by rw [List.map_append]; exact HS6.out, HV.out.ins HI5.out, HRW.out.push hll, by omega, by omega⟩
        case measure => simp [intOf]; omega
      · obtain ⟨B, c, hv, hc, hcm, hform⟩ := tids_form HS.out.row
        have hlm : (ts.map (·.1)).length = i := by simpa using hll
        rw [hlm] at hv hc
        subst hv
        unfold maxLen at hcm
        clear hHl hsum
        have hz0 : ¬ i = 0 := by omega
        obtain ⟨kN, hkN, hltk⟩ : ∃ kN : Nat, s % (i : Int) = kN ∧ kN < i := ⟨(s % (i : Int)).toNat, by have := Int.emod_nonneg s (show (i : Int) ≠ 0 by omega); omega, by have := Int.emod_nonneg s (show (i : Int) ≠ 0 by omega); have := Int.emod_lt_of_pos s (show (0 : Int) < i by omega); omega⟩
        obtain ⟨x, hx⟩ : ∃ x, ts[kN]? = some x := ⟨_, List.getElem?_eq_getElem (by omega)⟩
        have hxm : (ts.map (·.1))[kN]? = some x.1 := by rw [List.getElem?_map, hx]; rfl
        obtain ⟨g, rfl, _⟩ := hform kN x.1 hxm
        obtain ⟨r0, r1, rf⟩ := tids_at HS.out.row hxm
        have HX := Lib.hid hx
        have HXM := Lib.hid hxm
        have HFR := Lib.hid (HS.out.free x.1 HV.out.fit (HV.out.got x (List.mem_of_getElem? hx)))
        have dk0 : (0 : Int) ≤ kN := by omega
        have dk1 : (kN : Int) < i := by omega
        have dq : ¬ ((i : Int) = 0) := by omega
        clear hform hx hxm rf
        go_wp2_with fail
        refine HFR.out.mono ?_
        rintro e w5 ⟨H1, rfl, hs5, hf5⟩
        have HS5 := Lib.hid hs5
        have HF5 := Lib.hid hf5
        clear hs5 hf5 HS HFR r0 r1
        obtain ⟨r0, r1, rf⟩ := tids_at HS5.out.row HXM.out
        have HFN := Lib.hid (HS5.out.freeNone x.1 (by rw [HF5.out.get, if_pos ⟨rfl, rfl⟩]))
        clear rf
        go_wp2_with fail
        refine HFN.out.mono ?_
        rintro e w6 ⟨rfl, hs6⟩
        have HS6 := Lib.hid hs6
        clear hs6 HS5 HFN r0 r1
        go_wp2_with fail
        clear hkN hs dq HXM
        have HL : Hid (usedH H1 + 1 = i) := by have h1 := HF5.out.used; have h2 := HV.out.used; show usedH H1 + 1 = i; omega
        go_loopw [84, 14, 15, 16, 17] (fun c' _ _ _ _ wr => ∃ j : Nat, j ≤ i ∧ c' = .int .i64 (j : Int) ∧ RowW w wr hb pb (.slice (some ⟨g, 0, none⟩) i c) H1 left (ts.map (·.1))) (fun c' _ _ _ _ _ => i - (intOf c').toNat)
        case atStart => exact ⟨0, Nat.zero_le _, rfl, HS6.out⟩
        case round =>
          obtain ⟨j, hj, rfl, hS7⟩ := hrel
          clear HS6
          by_cases hji : j < i
          · obtain ⟨y, hy⟩ : ∃ y, ts[j]? = some y := ⟨_, List.getElem?_eq_getElem (by omega)⟩
            have hym : (ts.map (·.1))[j]? = some y.1 := by rw [List.getElem?_map, hy]; rfl
            obtain ⟨r0, r1, rf⟩ := tids_at hS7.row hym
            have hry := HRW.out j y hy
            have HS8 := Lib.hid (hS7.quietly ((Only.refl (fun _ => False) wr).alloc (.cells #[.int .i64 y.1.1, .int .i64 y.1.2] 51)))
            by_cases hjk : j = kN
            · subst hjk
              obtain rfl : x = y := by rw [HX.out] at hy; injection hy
              have HG := Lib.hid (HS8.out.get_none x.1.1 x.1.2 (by rw [HF5.out.get, if_pos ⟨rfl, rfl⟩]))
              clear rf hym hy hS7 hry
              go_wp2_with fail
              refine HG.out.mono ?_
              rintro e w8 ⟨rfl, hq8⟩
              have HS9 := Lib.hid ((HS8.out.quietly hq8).quietly ((Only.refl (fun _ => False) w8).alloc (.cells #[.int .u64 0, .int .u64 0, .int .u64 0, .int .i64 0, .int .i64 0, .slice none 0 0] 54)))
              clear hq8 HG HS8 r0 r1
              go_wp2
              go_roundw
              case rel => exact ⟨j + 1, by omega, by go_num, HS9.out⟩
              case measure => simp [intOf]; omega
            · have HG := Lib.hid (HS8.out.get_some y.1.1 y.1.2 (HV.out.others HF5.out HX.out hy hjk))
              have hjk' : ¬ (j : Int) = kN := by omega
              have hj30 : j < 30 := by omega
              have hjb : ((j : Int) != (kN : Int)) = true := by simp; omega
              have hjb2 : ((j : Int) == (kN : Int)) = false := by simp; omega
              clear rf hym hy hS7
              go_wp2_with fail
              refine HG.out.mono ?_
              rintro e w8 ⟨A8, c8, rfl, hf8⟩
              unfold tupV
              rw [hry]
              have HS9 := Lib.hid ((HS8.out.quietly hf8.quiet).quietly ((Only.refl (fun _ => False) w8).alloc (.cells #[.int .u64 (j : Int), .int .u64 (y.2.xmin : Int), .int .u64 (y.2.xmax : Int), .int .i64 y.2.pg, .int .i64 y.2.sl, .slice A8 y.2.data.length c8] 54)))
              clear hf8 HG HS8 r0 r1 hry
              go_wp2
              go_roundw
              case rel => exact ⟨j + 1, by omega, by go_num, HS9.out⟩
              case measure => simp [intOf]; omega
          · have HS8 := Lib.hid hS7
            clear hS7
            go_wp2_with fail
            refine (HS8.out.law.used).mono ?_
            rintro e w9 ⟨rfl, n9, rfl⟩
            rw [show ((usedH H1 : Nat) : Int) = (i : Int) - 1 by have := HL.out; omega]
            go_wp2
            go_ret
            exact ⟨by simp, onward (Below.refl _ _) (Nat.le_refl _) (HS8.out.law.drewN n9).quiet (fun _ x => x.elim)⟩
    · clear hS hV
      obtain ⟨B, c, hv, hc, hcm, hform⟩ := tids_form HS.out.row
      have hlm : (ts.map (·.1)).length = i := by simpa using hll
      rw [hlm] at hv hc
      subst hv
      unfold maxLen at hcm
      clear hHl hsum
      by_cases hz0 : i = 0
      · subst hz0
        clear hform
        go_wp2_with fail
        refine (HS.out.law.used).mono ?_
        rintro e w7 ⟨rfl, n7, rfl⟩
        rw [HV.out.used, hll]
        go_wp2
        go_ret
        exact ⟨rfl, onward (Below.refl _ _) (Nat.le_refl _) (HS.out.law.drewN n7).quiet (fun _ x => x.elim)⟩
      · obtain ⟨kN, hkN, hltk⟩ : ∃ kN : Nat, s % (i : Int) = kN ∧ kN < i := ⟨(s % (i : Int)).toNat, by have := Int.emod_nonneg s (show (i : Int) ≠ 0 by omega); omega, by have := Int.emod_nonneg s (show (i : Int) ≠ 0 by omega); have := Int.emod_lt_of_pos s (show (0 : Int) < i by omega); omega⟩
        obtain ⟨x, hx⟩ : ∃ x, ts[kN]? = some x := ⟨_, List.getElem?_eq_getElem (by omega)⟩
        have hxm : (ts.map (·.1))[kN]? = some x.1 := by rw [List.getElem?_map, hx]; rfl
        obtain ⟨g, rfl, _⟩ := hform kN x.1 hxm
        obtain ⟨r0, r1, rf⟩ := tids_at HS.out.row hxm
        have HX := Lib.hid hx
        have HXM := Lib.hid hxm
        have HFR := Lib.hid (HS.out.free x.1 HV.out.fit (HV.out.got x (List.mem_of_getElem? hx)))
        have dk0 : (0 : Int) ≤ kN := by omega
        have dk1 : (kN : Int) < i := by omega
        have dq : ¬ ((i : Int) = 0) := by omega
        clear hform hx hxm rf
        go_wp2_with fail
        refine HFR.out.mono ?_
        rintro e w5 ⟨H1, rfl, hs5, hf5⟩
        have HS5 := Lib.hid hs5
        have HF5 := Lib.hid hf5
        clear hs5 hf5 HS HFR r0 r1
        obtain ⟨r0, r1, rf⟩ := tids_at HS5.out.row HXM.out
        have HFN := Lib.hid (HS5.out.freeNone x.1 (by rw [HF5.out.get, if_pos ⟨rfl, rfl⟩]))
        clear rf
        go_wp2_with fail
        refine HFN.out.mono ?_
        rintro e w6 ⟨rfl, hs6⟩
        have HS6 := Lib.hid hs6
        clear hs6 HS5 HFN r0 r1
        go_wp2_with fail
        clear hkN hs dq HXM
        have HL : Hid (usedH H1 + 1 = i) := by have h1 := HF5.out.used; have h2 := HV.out.used; show usedH H1 + 1 = i; omega
        go_loopw [84, 14, 15, 16, 17] (fun c' _ _ _ _ wr => ∃ j : Nat, j ≤ i ∧ c' = .int .i64 (j : Int) ∧ RowW w wr hb pb (.slice (some ⟨g, 0, none⟩) i c) H1 left (ts.map (·.1))) (fun c' _ _ _ _ _ => i - (intOf c').toNat)
        case atStart => exact ⟨0, Nat.zero_le _, rfl, HS6.out⟩
        case round =>
          obtain ⟨j, hj, rfl, hS7⟩ := hrel
          clear HS6
          by_cases hji : j < i
          · obtain ⟨y, hy⟩ : ∃ y, ts[j]? = some y := ⟨_, List.getElem?_eq_getElem (by omega)⟩
            have hym : (ts.map (·.1))[j]? = some y.1 := by rw [List.getElem?_map, hy]; rfl
            obtain ⟨r0, r1, rf⟩ := tids_at hS7.row hym
            have hry := HRW.out j y hy
            have HS8 := Lib.hid (hS7.quietly ((Only.refl (fun _ => False) wr).alloc (.cells #[.int .i64 y.1.1, .int .i64 y.1.2] 51)))
            by_cases hjk : j = kN
            · subst hjk
              obtain rfl : x = y := by rw [HX.out] at hy; injection hy
              have HG := Lib.hid (HS8.out.get_none x.1.1 x.1.2 (by rw [HF5.out.get, if_pos ⟨rfl, rfl⟩]))
              clear rf hym hy hS7 hry
              go_wp2_with fail
              refine HG.out.mono ?_
              rintro e w8 ⟨rfl, hq8⟩
              have HS9 := Lib.hid ((HS8.out.quietly hq8).quietly ((Only.refl (fun _ => False) w8).alloc (.cells #[.int .u64 0, .int .u64 0, .int .u64 0, .int .i64 0, .int .i64 0, .slice none 0 0] 54)))
              clear hq8 HG HS8 r0 r1
              go_wp2
              go_roundw
              case rel => exact ⟨j + 1, by omega, by go_num, HS9.out⟩
              case measure => simp [intOf]; omega
            · have HG := Lib.hid (HS8.out.get_some y.1.1 y.1.2 (HV.out.others HF5.out HX.out hy hjk))
              have hjk' : ¬ (j : Int) = kN := by omega
              have hj30 : j < 30 := by omega
              have hjb : ((j : Int) != (kN : Int)) = true := by simp; omega
              have hjb2 : ((j : Int) == (kN : Int)) = false := by simp; omega
              clear rf hym hy hS7
              go_wp2_with fail
              refine HG.out.mono ?_
              rintro e w8 ⟨A8, c8, rfl, hf8⟩
              unfold tupV
              rw [hry]
              have HS9 := Lib.hid ((HS8.out.quietly hf8.quiet).quietly ((Only.refl (fun _ => False) w8).alloc (.cells #[.int .u64 (j : Int), .int .u64 (y.2.xmin : Int), .int .u64 (y.2.xmax : Int), .int .i64 y.2.pg, .int .i64 y.2.sl, .slice A8 y.2.data.length c8] 54)))
              clear hf8 HG HS8 r0 r1 hry
              go_wp2
              go_roundw
              case rel => exact ⟨j + 1, by omega, by go_num, HS9.out⟩
              case measure => simp [intOf]; omega
          · have HS8 := Lib.hid hS7
            clear hS7
            go_wp2_with fail
            refine (HS8.out.law.used).mono ?_
            rintro e w9 ⟨rfl, n9, rfl⟩
            rw [show ((usedH H1 : Nat) : Int) = (i : Int) - 1 by have := HL.out; omega]
            go_wp2
            go_ret
            exact ⟨by simp, onward (Below.refl _ _) (Nat.le_refl _) (HS8.out.law.drewN n9).quiet (fun _ x => x.elim)⟩

open Go.ChangeShapes Go.WideShapes in
set_option maxRecDepth 100000 in
theorem heapFree_walk {H : Type} {enc : TypeId × Value → H} {r : Reach} {base : Nat} {d0 d1 : DataW H} {p0 p1 : List MemPlace} (v0 v1 : Value) (W : World)
    (o0 : Value.okWide Try.prog W r base 48 v0) (h0 : DataW.Trod enc Try.prog W 0 (fun _ => true) true 48 v0 d0 p0) (o1 : Value.okWide Try.prog W r base 5 v1) (h1 : DataW.Trod enc Try.prog W 0 (fun _ => true) true 5 v1 d1 p1) :
    Calls Try.prog 11 #[v0, v1] W fun e w' => e = .returned (.bool true) ∧ Below W.heap.size W w' := by
  obtain ⟨A, n, cap, rfl, a1, a2, a3⟩ := open_slice_int Try.underlying48 Try.underlying5 cells_u8 o0 h0
  obtain ⟨y, rfl, _, _, wy⟩ := open_int Try.underlying5 o1 h1
  exact heapFree_any y A n cap W (bounds_u8 wy) a3 a1 a2

end Go.Proofs.Ytbibmgcklilpmaa
