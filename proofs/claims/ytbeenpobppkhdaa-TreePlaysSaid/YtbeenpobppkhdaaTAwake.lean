/- The document's example of a tree, as the laws run it first. No condition. -/
import Derived.Test.YtbeenpobppkhdaaTLaw
import Derived.Laws.IdiomStrings
namespace Go.Proofs.Ytbeenpobppkhdaa
open Go.RowKit Go.Lap

theorem conv_one (W : World) (c : UInt8) : ∃ W2 G, (convert 9 23 (.string ⟨#[c]⟩)).run Try.prog W = .ok (.slice (some ⟨W.heap.size, 0, none⟩) 1 G) W2 ∧ Quiet W W2 ∧ W2.cell? ⟨W.heap.size, 0, none⟩ = some (.int .u8 (c.toNat : Int)) ∧ W2.heap.size = W.heap.size + 1 := by
  have h := run_bytes_of_string (P := Try.prog) W 9 23 5 ⟨#[c]⟩ Try.underlying9 Try.underlying23 Try.underlying5
  refine ⟨_, _, h, ((Only.refl _ _).drew).alloc _, ?_, by simp⟩
  have := alloc_new W.drew (.cells (bytesRow ⟨#[c]⟩ (grownCap W (ByteArray.size ⟨#[c]⟩) 0 5)) 5 ((bytesRow ⟨#[c]⟩ (grownCap W (ByteArray.size ⟨#[c]⟩) 0 5)).size, (bytesRow ⟨#[c]⟩ (grownCap W (ByteArray.size ⟨#[c]⟩) 0 5)).size + 1))
  refine (cell_of (b := W.heap.size) this 0).trans ?_
  unfold bytesRow
  rw [Array.getElem?_append_left (by simp)]
  simp

/-- What entry tells. -/
def EntryPost (w : World) (e0 : Ent) (e : Ending) (w' : World) : Prop :=
  ∃ A c, e = .returned (entV e0 A c) ∧ Quiet w w' ∧ Rd w' (fun k => w.heap.size ≤ k ∧ k < w'.heap.size) 1 A e0.key.length (bytesV e0.key)

set_option maxHeartbeats 1000000 in
set_option maxRecDepth 100000 in
theorem entry_any (c : UInt8) (slot : Int) (w : World) :
    Calls Try.prog 27 #[.string ⟨#[c]⟩, .int .i64 slot] w (EntryPost w ⟨[c.toNat], 0, slot⟩) := by
  obtain ⟨W2, G, hrun, hq, hc, hsz⟩ := conv_one (w.alloc (.cells #[.slice none 0 0, .int .i64 0, .int .i64 0] 34)) c
  rw [World.size_alloc] at hrun hc hsz
  have hr2 := hq.get (alloc_new w (.cells #[.slice none 0 0, .int .i64 0, .int .i64 0] 34)) (fun x => x)
  obtain ⟨z0, z1, z2⟩ := ent_cells hr2
  have zf := fun o => frozen_of hr2 o
  have HX := Lib.hid (triSet_same hr2 (.slice (some ⟨w.heap.size + 1, 0, none⟩) 1 G) (.int .i64 0) (.int .i64 slot))
  have HP : Hid (EntryPost w ⟨[c.toNat], 0, slot⟩ (.returned (.agg #[.slice (some ⟨w.heap.size + 1, 0, none⟩) 1 G, .int .i64 0, .int .i64 slot])) (triSet W2 w.heap.size (.slice (some ⟨w.heap.size + 1, 0, none⟩) 1 G) (.int .i64 0) (.int .i64 slot))) := by
    have ho := triSet_only W2 w.heap.size (.slice (some ⟨w.heap.size + 1, 0, none⟩) 1 G) (.int .i64 0) (.int .i64 slot)
    have hz := ho.size
    have hq0 : Quiet w W2 := ((Only.refl (fun _ => False) w).alloc _).trans hq
    refine ⟨_, _, rfl, hq0.trans' ho (fun k hk e => by omega), ⟨rfl, fun _ => ⟨w.heap.size + 1, 0, rfl, ⟨by omega, by omega⟩, fun j u hu => ?_⟩⟩⟩
    rcases j with _ | j
    · have : u = .int .u8 (c.toNat : Int) := by
        unfold bytesV at hu
        simp at hu
        exact hu.symm
      rw [this]
      exact ho.cell hc (by show ¬ w.heap.size + 1 = w.heap.size; omega)
    · unfold bytesV at hu
      simp at hu
  clear hq hc hsz hr2
  unfold triSet at HX HP
  go_enter Try.func27, Try.ntmps27
  go_wp2
  generalize (((W2.setCell ⟨w.heap.size, 0, none⟩ (.slice (some ⟨w.heap.size + 1, 0, none⟩) 1 G)).setCell ⟨w.heap.size, 1, none⟩ (.int .i64 0)).setCell ⟨w.heap.size, 2, none⟩ (.int .i64 slot)) = W6 at HX HP ⊢
  exact bodyPost_ret (results_cell1 Try.results27 _ _ w.heap.size _ _ (0, 0) _ (by rfl) HX.out Try.underlying34 rfl info_ent) (by rfl) HP.out

theorem wakeE : putE ⟨[98], 0, 1⟩ [] = [⟨[98], 0, 1⟩] ∧ putE ⟨[97], 0, 2⟩ [⟨[98], 0, 1⟩] = [⟨[97], 0, 2⟩, ⟨[98], 0, 1⟩] ∧ putE ⟨[98], 0, 0⟩ [⟨[97], 0, 2⟩, ⟨[98], 0, 1⟩] = [⟨[97], 0, 2⟩, ⟨[98], 0, 0⟩, ⟨[98], 0, 1⟩] ∧ scanE [] [] [⟨[97], 0, 2⟩, ⟨[98], 0, 0⟩, ⟨[98], 0, 1⟩] = [⟨[97], 0, 2⟩, ⟨[98], 0, 0⟩, ⟨[98], 0, 1⟩] := by
  refine ⟨by decide +kernel, by decide +kernel, by decide +kernel, by decide +kernel⟩

theorem got_three {w w' : World} {v : Value} {zs : List EV} {a b c : Ent} (h : GotW w w' v zs) (hz : ents zs = [a, b, c]) : ∃ g cp, v = .slice (some ⟨g, 0, none⟩) 3 cp ∧ w'.cell? ⟨g, 2, none⟩ = some (.int .i64 a.sl) ∧ w'.cell? ⟨g, 5, none⟩ = some (.int .i64 b.sl) ∧ w'.cell? ⟨g, 8, none⟩ = some (.int .i64 c.sl) := by
  match zs, hz with
  | [x, y, z], hz =>
    simp [ents] at hz
    obtain ⟨rfl, rfl, rfl⟩ := hz
    have hrow := h.row
    rcases owns_cases hrow with ⟨_, e⟩ | ⟨g, cp, e, _, _⟩
    · simp at e
    · subst e
      refine ⟨g, cp, rfl, ?_, ?_, ?_⟩
      · exact (row_at (j := 0) hrow rfl (Only.refl _ _)).2.2
      · exact (row_at (j := 1) hrow rfl (Only.refl _ _)).2.2
      · exact (row_at (j := 2) hrow rfl (Only.refl _ _)).2.2

set_option maxHeartbeats 2000000 in
set_option maxRecDepth 100000 in
theorem awake8 (w : World) : Calls Try.prog 9 #[] w fun e w' => e = .returned (.bool true) ∧ Quiet w w' := by
  go_enter Try.func9, Try.ntmps9
  go_wp2_with fail
  refine (new_any w).mono ?_
  rintro e w1 ⟨rfl, hq1, h0, h1⟩
  have HT1 := Lib.hid (TreeW.start (J := fun _ => False) (Only.refl _ _) hq1 h0 h1 (fun _ x => x.elim))
  clear hq1 h0 h1
  generalize w.heap.size + 1 = tb at HT1 ⊢
  go_wp2_with fail
  refine (entry_any 98 1 _).mono ?_
  rintro e w2 ⟨A2, c2, rfl, hq2, hr2⟩
  have HT2 := Lib.hid (HT1.out.quietly hq2)
  have HI2 := Lib.hid (HT2.out.insert ⟨[98], 0, 1⟩ A2 c2 _ hr2 (by decide) (by decide) (by decide))
  rw [wakeE.1] at HI2
  clear hq2 hr2 HT1
  go_wp2_with fail
  refine HI2.out.mono ?_
  rintro e w3 ⟨rfl, ht3, hT3⟩
  have HT3 := Lib.hid hT3
  clear ht3 hT3 HT2 HI2
  go_wp2_with fail
  refine (entry_any 97 2 _).mono ?_
  rintro e w4 ⟨A4, c4, rfl, hq4, hr4⟩
  have HT4 := Lib.hid (HT3.out.quietly hq4)
  have HI4 := Lib.hid (HT4.out.insert ⟨[97], 0, 2⟩ A4 c4 _ hr4 (by decide) (by decide) (by decide))
  rw [wakeE.2.1] at HI4
  clear hq4 hr4 HT3
  go_wp2_with fail
  refine HI4.out.mono ?_
  rintro e w5 ⟨rfl, ht5, hT5⟩
  have HT5 := Lib.hid hT5
  clear ht5 hT5 HT4 HI4
  go_wp2_with fail
  refine (entry_any 98 0 _).mono ?_
  rintro e w6 ⟨A6, c6, rfl, hq6, hr6⟩
  have HT6 := Lib.hid (HT5.out.quietly hq6)
  have HI6 := Lib.hid (HT6.out.insert ⟨[98], 0, 0⟩ A6 c6 _ hr6 (by decide) (by decide) (by decide))
  rw [wakeE.2.2.1] at HI6
  clear hq6 hr6 HT5
  go_wp2_with fail
  refine HI6.out.mono ?_
  rintro e w7 ⟨rfl, ht7, hT7⟩
  have HT7 := Lib.hid hT7
  clear ht7 hT7 HT6 HI6
  have HS := Lib.hid (HT7.out.scan [] [] none none 0 0 (fun _ => False) (fun _ => False) (Rd.nil _ _ _ _) (Rd.nil _ _ _ _) (by simp) (by simp) (fun _ x => x.elim) (fun _ x => x.elim) (by decide))
  rw [wakeE.2.2.2] at HS
  go_wp2_with fail
  refine HS.out.mono ?_
  rintro e w8 ⟨v8, zs, rfl, hz8, hg8⟩
  obtain ⟨g, cp, rfl, r0, r1, r2⟩ := got_three hg8 hz8
  have HQ8 := Lib.hid (HT7.out.quiet.trans hg8.quiet)
  clear hz8 hg8 HS HT7
  go_wp2
  go_ret
  exact ⟨rfl, HQ8.out⟩

end Go.Proofs.Ytbeenpobppkhdaa
