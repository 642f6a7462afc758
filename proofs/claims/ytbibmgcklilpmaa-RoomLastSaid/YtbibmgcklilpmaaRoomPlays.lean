/- RoomPlays: every script of rooms that are set has the document's pages. For every input. -/
import Derived.Test.YtbibmgcklilpmaaRoomAny
import Derived.Test.YtbibmgcklilpmaaOpen
import Derived.Deep.RegionHeld3
import Derived.Outline
namespace Go.Proofs.Ytbibmgcklilpmaa
open Go.RowKit Go.Lap

theorem cells_int : Try.prog.cellsOf 3 = 1 := by kernel_rfl

/-- A script of n calls, each three numbers, below block B. -/
def OpsIn (w : World) (B : Nat) (A : Option Addr) (n : Nat) : Prop :=
  ∀ k, k < n → ∃ b off p r d, A = some ⟨b, off, none⟩ ∧ b < B ∧ w.cell? ⟨b, off + k * 3, none⟩ = some (.int .i64 p) ∧ w.cell? ⟨b, off + k * 3 + 1, none⟩ = some (.int .i64 r) ∧ w.cell? ⟨b, off + k * 3 + 2, none⟩ = some (.int .i64 d)

theorem OpsIn.kept {w w' : World} {B : Nat} {A : Option Addr} {n : Nat} (h : OpsIn w B A n) (hb : Below B w w') : OpsIn w' B A n := by
  intro k hk
  obtain ⟨b, off, p, r, d, e, h1, h2, h3, h4⟩ := h k hk
  exact ⟨b, off, p, r, d, e, h1, by rw [hb.cell (p := ⟨b, _, none⟩) h1]; exact h2, by rw [hb.cell (p := ⟨b, _, none⟩) h1]; exact h3, by rw [hb.cell (p := ⟨b, _, none⟩) h1]; exact h4⟩

structure PlaysW (w wr : World) (b x : Nat) (l : List Int) : Prop where
  below : Below w.heap.size w wr
  hb : w.heap.size ≤ b ∧ b < x ∧ x < wr.heap.size
  room : RoomIs wr b l
  ref : RefAt wr x (fun k => x < k ∧ k < wr.heap.size) l

/-- Behind what turns none of the two. -/
theorem PlaysW.kept {w wr w' : World} {b x : Nat} {l : List Int} (h : PlaysW w wr b x l) (ho : Only (fun _ => False) wr w') : PlaysW w w' b x l :=
  ⟨onward h.below h.below.size ho (fun _ x => x.elim), by have := h.hb; have := ho.size; omega, h.room.kept ho (fun x => x), (h.ref.kept ho (fun x => x) (fun _ _ x => x)).mono (fun k e => by have := ho.size; omega)⟩
theorem PlaysW.drew {w wr : World} {b x : Nat} {l : List Int} (h : PlaysW w wr b x l) : PlaysW w wr.drew b x l := h.kept (Only.refl _ _).drew
theorem PlaysW.drewN {w wr : World} {b x : Nat} {l : List Int} (h : PlaysW w wr b x l) (n : Nat) : PlaysW w (wr.drewN n) b x l := h.kept ((Only.refl _ _).drewN n)
theorem PlaysW.alloc {w wr : World} {b x : Nat} {l : List Int} (h : PlaysW w wr b x l) (o : Obj) : PlaysW w (wr.alloc o) b x l := h.kept ((Only.refl _ _).alloc _)

/-- Behind both Sets, the call told in a block of its own. -/
theorem PlaysW.both {w wr w1 w2 : World} {o : Obj} {b x : Nat} {l l' : List Int} (h : PlaysW w wr b x l) (o1 : Only (· = b) (wr.alloc o).drew w1) (r1 : RoomIs w1 b l') (o2 : Only (fun k => k = x ∨ x < k ∧ k < wr.heap.size) w1 w2) (r2 : RefAt w2 x (fun k => (x < k ∧ k < wr.heap.size) ∨ w1.heap.size ≤ k) l') : PlaysW w w2 b x l' := by
  have hs : wr.heap.size < w1.heap.size := by have := o1.size; simp at this; omega
  have h0 := h.hb
  refine ⟨onward (onward (h.alloc o).drew.below (h.alloc o).drew.below.size o1 (fun k e => by omega)) (Nat.le_trans (h.alloc o).drew.below.size o1.size) o2 (fun k e => by omega), by have := o2.size; omega, r1.kept o2 (fun e => by omega), r2.lt.mono (fun k e => ?_)⟩
  obtain ⟨e1 | e1, e2⟩ := e <;> omega

/-- What the second Set finds. -/
theorem PlaysW.second {w wr w1 : World} {o : Obj} {b x : Nat} {l : List Int} (h : PlaysW w wr b x l) (o1 : Only (· = b) (wr.alloc o).drew w1) : RefAt w1 x (fun k => x < k ∧ k < wr.heap.size) l := by
  have h0 := h.hb
  exact (h.ref.kept ((Only.refl (fun _ => False) _).alloc o).drew (fun x => x) (fun _ _ x => x)).kept o1 (fun e => by omega) (fun k e => by omega)

/-- The call's own block, behind the first Set and behind both. -/
theorem op_first {w1 wr : World} {b : Nat} {t : TypeId} {p r d : Value} (o1 : Only (· = b) (wr.alloc (.cells #[p, r, d] t)).drew w1) (hb : b < wr.heap.size) : w1.heap[wr.heap.size]? = some (.cells #[p, r, d] t (0, 0)) :=
  o1.get (alloc_new _ _) (fun e => by omega)
theorem op_both {w1 w2 wr : World} {b x : Nat} {t : TypeId} {p r d : Value} (o1 : Only (· = b) (wr.alloc (.cells #[p, r, d] t)).drew w1) (o2 : Only (fun k => k = x ∨ x < k ∧ k < wr.heap.size) w1 w2) (hb : b < wr.heap.size ∧ x < wr.heap.size) : w2.heap[wr.heap.size]? = some (.cells #[p, r, d] t (0, 0)) :=
  o2.get (op_first o1 hb.1) (fun e => by omega)
theorem op_two {w1 : World} {g : Nat} {t : TypeId} {p r d : Value} (h : w1.heap[g]? = some (.cells #[p, r, d] t (0, 0))) : w1.cell? ⟨g, 0, none⟩ = some p ∧ w1.cell? ⟨g, 1, none⟩ = some r :=
  ⟨by rw [cell_of h]; rfl, by rw [cell_of h]; rfl⟩

set_option maxHeartbeats 1000000 in
set_option maxRecDepth 100000 in
theorem roomPlays_yes (A : Option Addr) (n cap : Nat) (w : World) (h : OpsIn w w.heap.size A n) (hn : n ≤ cap) (hcap : cap ≤ maxLen) :
    Calls Try.prog 4 #[.bool false, .slice A n cap] w fun e w' => e = .returned (.bool true) ∧ Below w.heap.size w w' := by
  unfold maxLen at hcap
  have H := Lib.hid h
  clear h
  go_enter Try.func4, Try.ntmps4
  go_wp2_with fail
  refine (awake6 _).mono ?_
  rintro e w0 ⟨rfl, hB0⟩
  go_wp2_with fail
  refine (room_make _).mono ?_
  rintro e w1 ⟨rfl, hB, hs, hr⟩
  have HS : Hid (PlaysW w (w1.alloc (.cells #[.slice none 0 0] 35)) w0.heap.size w1.heap.size []) := by
    refine ⟨(hB0.trans (hB.mono hB0.size)).alloc (by have := hB0.size; omega) _, ⟨hB0.size, hs, by simp⟩, hr.kept ((Only.refl (fun _ => False) w1).alloc _) (fun x => x), ⟨_, alloc_new _ _, World.ownsRow_nil _ _ _ _, by simp [Value.ownBlock]⟩⟩
  clear hB0 hB hs hr
  go_wp2_with fail
  go_loopw [21, 8] (fun v _ wr => ∃ (k : Nat) (l : List Int), k ≤ n ∧ v = .int .i64 k ∧ PlaysW w wr w0.heap.size w1.heap.size l) (fun v _ _ => n - (intOf v).toNat)
  case atStart => exact ⟨0, [], Nat.zero_le _, rfl, HS.out⟩
  case round =>
    obtain ⟨k, l, hk, rfl, hW⟩ := hrel
    by_cases hlt : k < n
    · obtain ⟨b, off, p, r, d, rfl, hb, c1, c2, c3⟩ := H.out.kept hW.below k hlt
      have HW := Lib.hid hW
      clear hW HS
      by_cases h3 : k < 300
      · have HA : Hid (PlaysW w (wr.alloc (.cells #[.int .i64 p, .int .i64 r, .int .i64 d] 37)) w0.heap.size w1.heap.size l) := HW.out.alloc _
        have hz : w0.heap.size < wr.heap.size ∧ w1.heap.size < wr.heap.size := by have := HW.out.hb; omega
        go_wp2_with fail
        go_region_held3 (fun w' => w'.cell? ⟨wr.heap.size, 0, none⟩ = some (.int .i64 p) ∧ w'.cell? ⟨wr.heap.size, 1, none⟩ = some (.int .i64 r))
          (first | go_keep | exact op_two (op_first ho hz.1) | exact op_two (op_both ho ho3 hz) | fail)
          (first
            | (go_at_call 20; go_must (refine (room_set _ l _ p r HA.out.drew.room).mono ?_; rintro e w2 ⟨rfl, ho, hx⟩))
            | (go_at_call 23; go_must (refine (ref_set _ _ l _ p r (HW.out.second ho)).mono ?_; rintro e w3 ⟨rfl, ho3, hx3⟩))
            | fail)
        have HP := Lib.hid (HW.out.both ho hx ho3 hx3)
        have hop := op_both ho ho3 hz
        have q1 : w3.cell? ⟨wr.heap.size, 0, none⟩ = some (.int .i64 p) := by rw [cell_of hop]; rfl
        have q3 : w3.cell? ⟨wr.heap.size, 2, none⟩ = some (.int .i64 d) := by rw [cell_of hop]; rfl
        have hl := HP.out.room.most
        obtain ⟨l', HL⟩ : ∃ l', Hid (l' = (rSet l p r).2) := ⟨_, rfl⟩
        rw [← HL.out] at HP hl
        clear ho hx ho3 hx3 hop HL HA HW
        go_wp2_with fail
        refine (room_find _ l' _ d HP.out.room).mono ?_
        rintro e w4 ⟨rfl, rfl⟩
        go_wp2_with fail
        refine (ref_find _ _ l' _ d HP.out.ref hl).mono ?_
        rintro e w4 ⟨rfl, rfl⟩
        go_wp2_with fail
        go_quiet ((first | (go_at_call 25; exact quiet_left (room_get _ l' _ _ (HP.out.drewN _).room)) | (go_at_call 26; exact quiet_left (ref_get _ _ l' _ _ (HP.out.drewN _).ref hl)) | fail))
        obtain ⟨A', cap', hce⟩ := HP.out.ref.cell
        go_wp2_with fail
        go_quiet ((go_at_call 21; exact quiet_add_left (room_pages _ l' _ (HP.out.drewN _).room)))
        go_wp2
        go_roundw
        case rel => exact ⟨k + 1, l', by omega, by go_num, HP.out.drewN _⟩
        case measure => simp [intOf]; omega
      · go_wp2
        go_ret
        exact ⟨rfl, HW.out.below.alloc (by have := HW.out.hb; omega) _⟩
    · have HW := Lib.hid hW
      clear hW
      go_wp2
      go_ret
      exact ⟨rfl, HW.out.below⟩

set_option maxHeartbeats 1000000 in
set_option maxRecDepth 100000 in
theorem roomPlays_no (A : Option Addr) (n cap : Nat) (w : World) (h : OpsIn w w.heap.size A n) (hn : n ≤ cap) (hcap : cap ≤ maxLen) :
    Calls Try.prog 4 #[.bool true, .slice A n cap] w fun e w' => e = .returned (.bool true) ∧ Below w.heap.size w w' := by
  unfold maxLen at hcap
  have H := Lib.hid h
  clear h
  go_enter Try.func4, Try.ntmps4
  go_wp2_with fail
  refine (awake6 _).mono ?_
  rintro e w0 ⟨rfl, hB0⟩
  go_wp2_with fail
  refine (room_make _).mono ?_
  rintro e w1 ⟨rfl, hB, hs, hr⟩
  have HS : Hid (Below w.heap.size w (w1.alloc (.cells #[.slice none 0 0] 35))) := (hB0.trans (hB.mono hB0.size)).alloc (by have := hB0.size; omega) _
  clear hB0 hB hs hr
  go_wp2_with fail
  go_loopw [21, 8] (fun v _ wr => ∃ (k : Nat), k ≤ n ∧ v = .int .i64 k ∧ Below w.heap.size w wr) (fun v _ _ => n - (intOf v).toNat)
  case atStart => exact ⟨0, Nat.zero_le _, rfl, HS.out⟩
  case round =>
    obtain ⟨k, hk, rfl, hW⟩ := hrel
    by_cases hlt : k < n
    · obtain ⟨b, off, p, r, d, rfl, hb, c1, c2, c3⟩ := H.out.kept hW k hlt
      have HW := Lib.hid hW
      clear hW HS
      by_cases h3 : k < 300
      · go_wp2_with fail
        go_quiet ((first | (go_at_call 20; exact quiet_left (room_set_nil _ _ _)) | (go_at_call 23; exact quiet_left (ref_set_nil _ _ _)) | fail))
        go_wp2_with fail
        refine (room_find_nil _ d).mono ?_
        rintro e w4 ⟨rfl, rfl⟩
        go_wp2_with fail
        refine (ref_find_nil _ d).mono ?_
        rintro e w4 ⟨rfl, rfl⟩
        go_wp2_with fail
        go_quiet ((first | (go_at_call 25; exact quiet_add_left (room_get_nil _ _)) | (go_at_call 26; exact quiet_add_left (ref_get_nil _ _)) | fail))
        go_wp2_with fail
        go_quiet ((go_at_call 21; exact quiet_add_left (room_pages_nil _)))
        go_wp2
        go_roundw
        case rel => exact ⟨k + 1, by omega, by go_num, below_drewN (HW.out.alloc HW.out.size _) _⟩
        case measure => simp [intOf]; omega
      · go_wp2
        go_ret
        exact ⟨rfl, HW.out.alloc HW.out.size _⟩
    · have HW := Lib.hid hW
      clear hW
      go_wp2
      go_ret
      exact ⟨rfl, HW.out⟩

theorem roomPlays_any (none : Bool) (A : Option Addr) (n cap : Nat) (w : World) (h : OpsIn w w.heap.size A n) (hn : n ≤ cap) (hcap : cap ≤ maxLen) :
    Calls Try.prog 4 #[.bool none, .slice A n cap] w fun e w' => e = .returned (.bool true) ∧ Below w.heap.size w w' := by
  cases none
  · exact roomPlays_yes A n cap w h hn hcap
  · exact roomPlays_no A n cap w h hn hcap

theorem cells_op6 : Try.prog.cellsOf 37 = 3 := by kernel_rfl

open Go.ChangeShapes Go.WideShapes in
set_option maxRecDepth 100000 in
/-- A script that came in. -/
theorem open_ops {H : Type} {enc : TypeId × Value → H} {W : World} {r : Reach} {base : Nat} {v : Value} {d : DataW H} {p : List MemPlace} (hv : Value.okWide Try.prog W r base 31 v) (h : DataW.Trod enc Try.prog W 0 (fun _ => true) true 31 v d p) :
    ∃ A n cap, v = .slice A n cap ∧ n ≤ cap ∧ cap ≤ maxLen ∧ OpsIn W W.heap.size A n := by
  obtain ⟨A, n, cap, hvv, h1, h2, h3⟩ := open_slice_of Try.underlying31 cells_op6 (by omega) hv h
  refine ⟨A, n, cap, hvv, h1, h2, fun i hi => ?_⟩
  obtain ⟨b, off, hA, hb, cs, m, x, hl, hc, htr⟩ := h3 i hi
  obtain ⟨z0, e0, _⟩ := open_field_int Try.underlying37 htr 0 3 0 .i64 rfl cells_int Try.underlying3
  obtain ⟨z1, e1, _⟩ := open_field_int Try.underlying37 htr 1 3 1 .i64 rfl cells_int Try.underlying3
  obtain ⟨z2, e2, _⟩ := open_field_int Try.underlying37 htr 2 3 2 .i64 rfl cells_int Try.underlying3
  exact ⟨b, off, z0, z1, z2, hA, hb, (hc 0 (by omega)).trans e0, (hc 1 (by omega)).trans e1, (hc 2 (by omega)).trans e2⟩

open Go.ChangeShapes Go.WideShapes in
set_option maxRecDepth 100000 in
theorem roomPlays_walk {H : Type} {enc : TypeId × Value → H} {r : Reach} {base : Nat} {d0 d1 : DataW H} {p0 p1 : List MemPlace} (v0 v1 : Value) (W : World)
    (o0 : Value.okWide Try.prog W r base 4 v0) (h0 : DataW.Trod enc Try.prog W 0 (fun _ => true) true 4 v0 d0 p0) (o1 : Value.okWide Try.prog W r base 31 v1) (h1 : DataW.Trod enc Try.prog W 0 (fun _ => true) true 31 v1 d1 p1) :
    Calls Try.prog 4 #[v0, v1] W fun e w' => e = .returned (.bool true) ∧ Below W.heap.size W w' := by
  obtain ⟨x, rfl, _⟩ := open_bool Try.underlying4 o0 h0
  obtain ⟨A, n, cap, rfl, a1, a2, a3⟩ := open_ops o1 h1
  exact roomPlays_any x A n cap W a3 a1 a2

end Go.Proofs.Ytbibmgcklilpmaa
