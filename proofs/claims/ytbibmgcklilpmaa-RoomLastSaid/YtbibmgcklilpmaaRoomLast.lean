/- RoomLast: the room that was set last is a page's, whatever was set of others. For every input. -/
import Derived.Test.YtbibmgcklilpmaaRoomPlays
import Derived.Maps.RangeWalk
import Derived.Maps.OwnSet
import Derived.Maps.Ext
namespace Go.Proofs.Ytbibmgcklilpmaa
open Go.RowKit Go.Lap Go.Maps

theorem keyed_int : Keyed Try.prog 3 := int_keyed Try.underlying3

/-- The map tells the rooms. -/
structure Tells (D : DataW Unit) (l : List Int) : Prop where
  tidy : Tidy D
  size : Maps.size D = l.length
  has : ∀ x : Int, Maps.has D (.int .i64 x) = decide (0 ≤ x ∧ x < l.length)
  at_ : ∀ (x c : Int), (∀ zd, D.atKey (.int .i64 x) zd = .lit (.int .i64 c)) → rGet l x = c

theorem Tells.empty : Tells (.map []) [] := by
  refine ⟨tidy_empty, rfl, fun x => ?_, fun x c h => ?_⟩
  · symm
    show decide _ = false
    simp
  · have := h .nil
    simp [DataW.atKey] at this

theorem isKey_int (x : Int) : WideAt.IsKeyLit (.int .i64 x) := trivial

theorem Tells.put {D : DataW Unit} {l : List Int} (h : Tells D l) (hl : l.length ≤ 256) {p c : Int} (h0 : 0 ≤ p) (h1 : p ≤ l.length) (h2 : p < 256) : Tells (D.put (.int .i64 p) (.lit (.int .i64 c))) (setL l p.toNat c) := by
  obtain ⟨k, rfl⟩ := Int.eq_ofNat_of_zero_le h0
  rw [Int.toNat_natCast]
  have hlen := setL_length l k c (by omega)
  refine ⟨h.tidy.put (isKey_int _) _, ?_, fun x => ?_, fun x y hx => ?_⟩
  · rw [size_put h.tidy, h.has, h.size, hlen]
    by_cases e : k < l.length
    · rw [if_pos (by simp; omega)]; omega
    · rw [if_neg (by simp; omega)]; omega
  · by_cases e : x = k
    · subst e
      rw [has_put_same h.tidy.isMap (isKey_int _), hlen]
      symm; simp; omega
    · rw [has_put_other (by simpa using e), h.has, hlen]
      simp only [decide_eq_decide]
      omega
  · by_cases e : x = k
    · subst e
      have := hx .nil
      rw [atKey_put_same h.tidy.isMap (isKey_int _)] at this
      simp at this
      subst this
      rw [show rGet (setL l k c) (k : Int) = rooms (setL l k c) k from if_neg (by omega), ← upd_rooms _ _ _ (by omega), upd_same]
    · have hx' := h.at_ x y (fun zd => by rw [← hx zd, atKey_put_other (by simpa using e)])
      rw [← hx']
      by_cases hr : x < 0 ∨ 256 ≤ x
      · rw [rGet, if_pos hr, rGet, if_pos hr]
      · rw [rGet, if_neg hr, rGet, if_neg hr, ← upd_rooms _ _ _ (by omega), upd_other _ _ (by omega)]

theorem rSet_cases (l : List Int) (p r : Int) : ((rSet l p r).1 = 0 ∧ 0 ≤ p ∧ p ≤ l.length ∧ p < 256 ∧ (rSet l p r).2 = setL l p.toNat (clampR r)) ∨ ((rSet l p r).1 ≠ 0 ∧ (rSet l p r).2 = l) := by
  by_cases h1 : p < 0 ∨ 256 ≤ p
  · rw [rSet_arg h1]; exact Or.inr ⟨by simp, rfl⟩
  · by_cases h2 : (l.length : Int) < p
    · rw [rSet_form h1 h2]; exact Or.inr ⟨by simp, rfl⟩
    · rw [rSet_in h1 h2]; exact Or.inl ⟨rfl, by omega, by omega, by omega, rfl⟩

structure LastW (w wr : World) (b m n : Nat) (D : DataW Unit) (l : List Int) : Prop where
  below : Below w.heap.size w wr
  hb : w.heap.size ≤ b ∧ b < m ∧ m < wr.heap.size
  room : RoomIs wr b l
  own : wr.ownsMap Try.prog 3 (plainElem Try.prog 3) m n D
  tells : Tells D l

theorem LastW.kept {w wr w' : World} {b m n : Nat} {D : DataW Unit} {l : List Int} (h : LastW w wr b m n D l) {S : Nat → Prop} (ho : Only S wr w') (hs : ∀ k, S k → m < k) : LastW w w' b m n D l :=
  ⟨onward h.below h.below.size ho (fun k e => by have := hs k e; have := h.hb; omega), by have := h.hb; have := ho.size; omega, h.room.kept ho (fun e => by have := hs _ e; have := h.hb; omega), by
    obtain ⟨es, clock, h1, r⟩ := h.own
    exact ⟨es, clock, ho.get h1 (fun e => by have := hs _ e; omega), r⟩, h.tells⟩

/-- Between the room's set and the map's. -/
structure LastM (w wr : World) (b m n : Nat) (D : DataW Unit) (l : List Int) : Prop where
  below : Below w.heap.size w wr
  hb : w.heap.size ≤ b ∧ b < m ∧ m < wr.heap.size
  room : RoomIs wr b l
  own : wr.ownsMap Try.prog 3 (plainElem Try.prog 3) m n D

theorem LastW.half {w wr w' : World} {b m n : Nat} {D : DataW Unit} {l l' : List Int} (h : LastW w wr b m n D l) (ho : Only (· = b) wr w') (hr : RoomIs w' b l') : LastM w w' b m n D l' :=
  ⟨onward h.below h.below.size ho (fun k e => by have := h.hb; omega), by have := h.hb; have := ho.size; omega, hr, by
    obtain ⟨es, clock, h1, r⟩ := h.own
    exact ⟨es, clock, ho.get h1 (fun e => by have := h.hb; omega), r⟩⟩

theorem LastM.same {w wr : World} {b m n : Nat} {D : DataW Unit} {l : List Int} (h : LastM w wr b m n D l) (ht : Tells D l) : LastW w wr b m (n + 1) D l :=
  ⟨h.below, h.hb, h.room, h.own.mono (Nat.le_succ _), ht⟩

theorem LastM.whole {w wr w' : World} {b m n : Nat} {D D' : DataW Unit} {l : List Int} (h : LastM w wr b m n D l) (hg : wr.grownBy w' (some m)) (ho : w'.ownsMap Try.prog 3 (plainElem Try.prog 3) m (n + 1) D') (ht : Tells D' l) : LastW w w' b m (n + 1) D' l :=
  have ho' : Only (· = m) wr w' := (Only.refl _ _).byMap hg (fun _ => rfl)
  ⟨onward h.below h.below.size ho' (fun k e => by have := h.hb; omega), by have := h.hb; have := ho'.size; omega, h.room.kept ho' (fun e => by have := h.hb; omega), ho, ht⟩

theorem LastW.set {w wr w' : World} {b m n : Nat} {D : DataW Unit} {l l' : List Int} (h : LastW w wr b m n D l) (ho : Only (· = b) wr w') (hr : RoomIs w' b l') (ht : Tells D l') : LastW w w' b m n D l' :=
  ⟨onward h.below h.below.size ho (fun k e => by have := h.hb; omega), by have := h.hb; have := ho.size; omega, hr, by
    obtain ⟨es, clock, h1, r⟩ := h.own
    exact ⟨es, clock, ho.get h1 (fun e => by have := h.hb; omega), r⟩, ht⟩

set_option maxHeartbeats 1000000 in
set_option maxRecDepth 100000 in
theorem roomLast_any (A : Option Addr) (n cap : Nat) (w : World) (h : OpsIn w w.heap.size A n) (hn : n ≤ cap) (hcap : cap ≤ maxLen) :
    Calls Try.prog 6 #[.slice A n cap] w fun e w' => e = .returned (.bool true) ∧ Below w.heap.size w w' := by
  unfold maxLen at hcap
  have H := Lib.hid h
  clear h
  have hmm := @run_makeMap Try.prog
  go_enter Try.func6, Try.ntmps6
  go_wp2_with fail
  refine (awake6 _).mono ?_
  rintro e w0 ⟨rfl, hB0⟩
  go_wp2_with fail
  refine (room_make _).mono ?_
  rintro e w1 ⟨rfl, hB, hs, hr⟩
  have HS : Hid (LastW w (w1.alloc (.map #[] 0)) w0.heap.size w1.heap.size 0 (.map []) []) := by
    refine ⟨(hB0.trans (hB.mono hB0.size)).alloc (by have := hB0.size; omega) _, ⟨hB0.size, hs, by simp⟩, hr.kept ((Only.refl (fun _ => False) w1).alloc _) (fun x => x), World.ownsMap_made _ _ _ _, Tells.empty⟩
  clear hB0 hB hs hr
  go_wp2_with fail
  go_loopw [15, 6] (fun v _ wr => ∃ (k : Nat) (l : List Int) (D : DataW Unit), k ≤ n ∧ v = .int .i64 k ∧ LastW w wr w0.heap.size w1.heap.size k D l) (fun v _ _ => n - (intOf v).toNat)
  case atStart => exact ⟨0, [], _, Nat.zero_le _, rfl, HS.out⟩
  case round =>
    obtain ⟨k, l, D, hk, rfl, hW⟩ := hrel
    have HW := Lib.hid hW
    clear HS
    by_cases hlt : k < n
    · obtain ⟨b, off, p, r, d, rfl, hb, c1, c2, c3⟩ := H.out.kept hW.below k hlt
      clear hW
      by_cases h3 : k < 200
      · have HA : Hid (LastW w (wr.alloc (.cells #[.int .i64 p, .int .i64 r, .int .i64 d] 37)) w0.heap.size w1.heap.size k D l) := HW.out.kept ((Only.refl (fun _ => False) _).alloc _) (fun _ x => x.elim)
        have hz : w0.heap.size < wr.heap.size ∧ w1.heap.size < wr.heap.size := by have := HW.out.hb; omega
        go_wp2_with fail
        refine (room_set _ l _ p r HA.out.room).mono ?_
        rintro e w2 ⟨rfl, ho, hx⟩
        have HO := Lib.hid ho
        have HX := Lib.hid hx
        have hop : w2.heap[wr.heap.size]? = _ := ho.get (alloc_new _ _) (fun e => by omega)
        have q1 : w2.cell? ⟨wr.heap.size, 0, none⟩ = some (.int .i64 p) := by rw [cell_of hop]; rfl
        have q2 : w2.cell? ⟨wr.heap.size, 1, none⟩ = some (.int .i64 r) := by rw [cell_of hop]; rfl
        clear ho hx hop
        have HC := Lib.hid (rSet_cases l p r)
        obtain ⟨code, Hcode⟩ : ∃ c, Hid ((rSet l p r).1 = c) := ⟨_, rfl⟩
        obtain ⟨l', Hl'⟩ : ∃ c, Hid ((rSet l p r).2 = c) := ⟨_, rfl⟩
        rw [Hcode.out, Hl'.out] at HC
        rw [Hl'.out] at HX
        rw [Hcode.out]
        clear Hcode Hl'
        rcases HC.out with ⟨h0, hp0, hp1, hp2, hl'⟩ | ⟨h0, hl'⟩
        · have hd : (code == 0) = true := by simp [h0]
          have HT := Lib.hid (hl' ▸ HW.out.tells.put HW.out.room.most (c := clampR r) hp0 hp1 hp2)
          have HM : Hid (LastM w w2 w0.heap.size w1.heap.size k D l') := HA.out.half HO.out HX.out
          have hcl : -1 ≤ clampR r ∧ clampR r ≤ 512 := by unfold clampR; omega
          clear h0 hl' HC
          go_wp2_with (first | (at_mapUpdate; refine wpList_mapUpdate_own _ rfl _ _ _ 46 rfl 3 3 keyed_int Try.underlying46 _ w1.heap.size k _ rfl HM.out.own (by unfold maxLen; omega) _ _ _ rfl rfl (keyOf_int_mk Try.underlying3 (WalkArith.wf_i64 (by omega))) _ [] (plainElem_int Try.underlying3 (WalkArith.wf_i64 (by omega))) ?_) | fail)
          intro w3 hown hgr
          have HL : Hid (LastW w w3 w0.heap.size w1.heap.size (k + 1) (D.put (.int .i64 p) (.lit (.int .i64 (clampR r)))) l') := HM.out.whole hgr hown HT.out
          obtain ⟨D', HD'⟩ : ∃ D', Hid (D' = D.put (.int .i64 p) (.lit (.int .i64 (clampR r)))) := ⟨_, rfl⟩
          rw [← HD'.out] at HL
          clear HD' HT HM hown hgr
          go_wp2_with (first | (at_range; refine wpList_range_own _ rfl _ 46 rfl 3 3 keyed_int Try.underlying46 _ w1.heap.size (k + 1) _ rfl HL.out.own ?_; intro w4 hrg0 hg0 hs0) | fail)
          go_frame
          have HR0 := Lib.hid hrg0
          have HL4 : Hid (LastW w w4 w0.heap.size w1.heap.size (k + 1) D' l') := HL.out.kept (S := fun _ => False) ((Only.refl _ _).grown hg0 (fun k e => by cases e)) (fun _ x => x.elim)
          have hb4 : w1.heap.size < w3.heap.size := HL.out.hb.2.2
          clear hrg0 hg0 hs0 HL
          go_loopw [7] (fun _ wx => ∃ (left : Lit → Bool) (cnt : Nat), wx.ranges Try.prog 3 (plainElem Try.prog 3) w1.heap.size w3.heap.size (k + 1) D' left cnt ∧ LastW w wx w0.heap.size w1.heap.size (k + 1) D' l') (fun _ wx => wx.rangeLeft w1.heap.size w3.heap.size)
          case atStart => exact ⟨_, _, HR0.out, HL4.out⟩
          case round =>
            obtain ⟨left, cnt, hrg, hLx⟩ := hrel
            have HRG := Lib.hid hrg
            have HLX := Lib.hid hLx
            clear hrg hLx HL4 HR0
            go_wp2_with (first | (at_next; refine wpList_next_ranges_ii _ rfl _ rfl 3 3 .i64 .i64 keyed_int Try.underlying3 Try.underlying3 w1.heap.size w3.heap.size (k + 1) _ _ _ rfl HRG.out ?_ ?_) | fail)
            · intro _ _
              go_wp2
              go_roundw
              case rel => exact ⟨k + 1, l', D', by omega, by go_num, HLX.out⟩
              case measure => simp [intOf]; omega
            · intro x c w5 cnt1 hwx hwc hlx hat hrg1 hlt1 hg1 hs1 hen
              have HL5 : Hid (LastW w w5 w0.heap.size w1.heap.size (k + 1) D' l') := HLX.out.kept (S := (· = w3.heap.size)) ((Only.refl _ _).byMap hg1 (fun _ => rfl)) (fun k e => by omega)
              have HG := Lib.hid (HLX.out.tells.at_ x c hat)
              have HRG1 := Lib.hid hrg1
              clear hwx hwc hlx hat hrg1 hg1 hs1
              go_wp2_with fail
              refine (room_get _ l' _ x HL5.out.room).mono ?_
              rintro e w6 ⟨rfl, rfl⟩
              rw [HG.out]
              go_wp2
              go_roundw
              case rel => exact ⟨_, cnt1, HRG1.out, HL5.out⟩
              case measure => rw [HRG1.out.left_eq, HRG.out.left_eq]; exact hlt1
        · have hd : (code == 0) = false := by simp [h0]
          have HL : Hid (LastW w w2 w0.heap.size w1.heap.size (k + 1) D l') := ((HA.out.half HO.out HX.out).same (hl' ▸ HW.out.tells))
          clear h0 hl' HC
          go_wp2_with (first | (at_range; refine wpList_range_own _ rfl _ 46 rfl 3 3 keyed_int Try.underlying46 _ w1.heap.size (k + 1) _ rfl HL.out.own ?_; intro w4 hrg0 hg0 hs0) | fail)
          go_frame
          have HR0 := Lib.hid hrg0
          have HL4 : Hid (LastW w w4 w0.heap.size w1.heap.size (k + 1) D l') := HL.out.kept (S := fun _ => False) ((Only.refl _ _).grown hg0 (fun k e => by cases e)) (fun _ x => x.elim)
          have hb4 : w1.heap.size < w2.heap.size := HL.out.hb.2.2
          clear hrg0 hg0 hs0 HL
          go_loopw [7] (fun _ wx => ∃ (left : Lit → Bool) (cnt : Nat), wx.ranges Try.prog 3 (plainElem Try.prog 3) w1.heap.size w2.heap.size (k + 1) D left cnt ∧ LastW w wx w0.heap.size w1.heap.size (k + 1) D l') (fun _ wx => wx.rangeLeft w1.heap.size w2.heap.size)
          case atStart => exact ⟨_, _, HR0.out, HL4.out⟩
          case round =>
            obtain ⟨left, cnt, hrg, hLx⟩ := hrel
            have HRG := Lib.hid hrg
            have HLX := Lib.hid hLx
            clear hrg hLx HL4 HR0
            go_wp2_with (first | (at_next; refine wpList_next_ranges_ii _ rfl _ rfl 3 3 .i64 .i64 keyed_int Try.underlying3 Try.underlying3 w1.heap.size w2.heap.size (k + 1) _ _ _ rfl HRG.out ?_ ?_) | fail)
            · intro _ _
              go_wp2
              go_roundw
              case rel => exact ⟨k + 1, l', D, by omega, by go_num, HLX.out⟩
              case measure => simp [intOf]; omega
            · intro x c w5 cnt1 hwx hwc hlx hat hrg1 hlt1 hg1 hs1 hen
              have HL5 : Hid (LastW w w5 w0.heap.size w1.heap.size (k + 1) D l') := HLX.out.kept (S := (· = w2.heap.size)) ((Only.refl _ _).byMap hg1 (fun _ => rfl)) (fun k e => by omega)
              have HG := Lib.hid (HLX.out.tells.at_ x c hat)
              have HRG1 := Lib.hid hrg1
              clear hwx hwc hlx hat hrg1 hg1 hs1
              go_wp2_with fail
              refine (room_get _ l' _ x HL5.out.room).mono ?_
              rintro e w6 ⟨rfl, rfl⟩
              rw [HG.out]
              go_wp2
              go_roundw
              case rel => exact ⟨_, cnt1, HRG1.out, HL5.out⟩
              case measure => rw [HRG1.out.left_eq, HRG.out.left_eq]; exact hlt1
      · have HA : Hid (LastW w (wr.alloc (.cells #[.int .i64 p, .int .i64 r, .int .i64 d] 37)) w0.heap.size w1.heap.size k D l) := HW.out.kept ((Only.refl (fun _ => False) _).alloc _) (fun _ x => x.elim)
        go_wp2_with fail
        refine (room_pages _ l _ HA.out.room).mono ?_
        rintro e w3 ⟨rfl, rfl⟩
        have hsz := HW.out.tells.size
        go_wp2_with (first | (at_len; refine wpList_len_own _ rfl _ 46 rfl 3 3 Try.underlying46 _ w1.heap.size k _ rfl HA.out.own ?_) | fail)
        go_ret
        exact ⟨by simp [hsz], HA.out.below⟩
    · clear hW
      go_wp2_with fail
      refine (room_pages _ l _ HW.out.room).mono ?_
      rintro e w3 ⟨rfl, rfl⟩
      have hsz := HW.out.tells.size
      go_wp2_with (first | (at_len; refine wpList_len_own _ rfl _ 46 rfl 3 3 Try.underlying46 _ w1.heap.size k _ rfl HW.out.own ?_) | fail)
      go_wp2
      go_ret
      exact ⟨by simp [hsz], HW.out.below⟩

open Go.ChangeShapes Go.WideShapes in
set_option maxRecDepth 100000 in
theorem roomLast_walk {H : Type} {enc : TypeId × Value → H} {r : Reach} {base : Nat} {d0 : DataW H} {p0 : List MemPlace} (v0 : Value) (W : World)
    (o0 : Value.okWide Try.prog W r base 31 v0) (h0 : DataW.Trod enc Try.prog W 0 (fun _ => true) true 31 v0 d0 p0) :
    Calls Try.prog 6 #[v0] W fun e w' => e = .returned (.bool true) ∧ Below W.heap.size W w' := by
  obtain ⟨A, n, cap, rfl, a1, a2, a3⟩ := open_ops o0 h0
  exact roomLast_any A n cap W a3 a1 a2

end Go.Proofs.Ytbibmgcklilpmaa
