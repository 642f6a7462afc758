/- The reference's Few, and slices.Clone of texts. No condition. -/
import Derived.Test.YtahfajdmhnjkeaaGreatDoorYList
import Derived.Lib.Strings
import Derived.Lib.BufferRead
import Derived.Laws.IdiomStrings
namespace Go.Proofs.YtahfajdmhnjkeaaGreatDoor
open Go.RowKit Go.Lap

theorem elem_str : Elem Tryz.prog 26 9 1 16 := Elem.mk' (.string ⟨#[]⟩) Tryz.underlying26 (by kernel_rfl) rfl (by decide)
theorem elem_strs : Elem Tryz.prog 22 26 1 24 := Elem.mk' (.slice none 0 0) Tryz.underlying22 (by kernel_rfl) rfl (by decide)

set_option maxHeartbeats 1000000 in
set_option maxRecDepth 100000 in
theorem clone_strs (A : Option Addr) (n c : Nat) (ys : List ByteArray) (w : World) (hr : Rd w (fun _ => True) 1 A n (strsV ys)) (hn : n ≤ 1000) :
    Calls Tryz.prog 18 #[.slice A n c] w (fun e w' => (∃ A' n' c', e = .returned (.slice A' n' c')) ∧ Only (fun _ => False) w w') := by
  have heq := fun (w : World) (a : Option Addr) (n c : Nat) => Lib.run_eql_slice_nil (P := Tryz.prog) w 26 _ a n c 0 0 Tryz.underlying26
  rcases A with _ | ad
  · clear hr
    go_enter Tryz.func18, Tryz.ntmps18
    go_wp2
    go_ret
    exact ⟨⟨_, _, _, rfl⟩, Only.refl _ _⟩
  · have HR := Lib.hid hr
    clear hr
    go_enter Tryz.func18, Tryz.ntmps18
    go_wp2_with (at_builtin; refine app elem_str rfl (.tmp 5) (.tmp 6) rfl rfl (owns_empty w _ _) rfl (HR.out.kept ((Only.refl (fun _ => False) w).alloc _) (fun _ _ x => x)) (strs_one ys) (by unfold maxLen; omega) (by omega) ?_)
    intro v w1 hg
    have HQ : Hid (Only (fun _ => False) w w1) := ((Only.refl _ _).alloc _).trans' hg.only (fun k hk e => by simp [Value.ownBlock] at e; omega)
    obtain ⟨A', c', rfl, _⟩ := own_form hg.own
    clear hg heq
    go_wp2
    go_ret
    exact ⟨⟨_, _, _, rfl⟩, HQ.out⟩

def FewPost (w : World) (e : Ending) (w' : World) : Prop := ∃ v k xs, e = .returned v ∧ k ≤ 9 ∧ Lots 26 w w' v k xs

set_option maxHeartbeats 2000000 in
set_option maxRecDepth 100000 in
theorem few_any (A : Option Addr) (n cap : Nat) (w : World) (h : Lists w A n maxLen) (hn : n ≤ cap) (hcap : cap ≤ maxLen) :
    Calls Tryz.prog 11 #[.slice A n cap, .int .i64 9, .int .i64 3] w (FewPost w) := by
  have H := Lib.hid h
  clear h
  unfold maxLen at hcap
  go_enter Tryz.func11, Tryz.ntmps11
  go_wp2_with fail
  go_loopw [15, 7] (fun i o wr => ∃ (k : Nat) (v : Value) (xs : List Value), k ≤ n ∧ k ≤ 9 ∧ i = .int .i64 (k : Int) ∧ o = v ∧ Lots 26 w wr v k xs) (fun i _ _ => n - (intOf i).toNat)
  case atStart => exact ⟨0, _, [], Nat.zero_le _, Nat.zero_le _, rfl, rfl, Lots.start (Only.refl _ _)⟩
  case round =>
    obtain ⟨k, v, xs, hk, hk9, rfl, rfl, hL⟩ := hrel
    by_cases hlt : k < n
    · obtain ⟨b, off, A', n', c', ys, rfl, hcell, hrd, hnc, hcm, hys, _⟩ := (H.out.kept hL.quiet) k hlt
      have HL := Lib.hid hL
      have HRD := Lib.hid hrd
      have HYS := Lib.hid hys
      have lb := cell_lt hcell
      dsimp only at lb
      unfold maxLen at hcm
      clear hL hrd hys
      by_cases h9 : k = 9
      · subst h9
        have HF : Hid (FewPost w (.returned u7) wr) := ⟨_, _, xs, rfl, Nat.le_refl _, HL.out⟩
        go_wp2_with fail
        go_ret
        exact HF.out
      · have hk8 : k < 9 := by omega
        go_wp2_with fail
        generalize wr = w5 at *
        go_loopw [25, 10] (fun j m wi => ∃ (q : Nat) (vm : Value) (km : Nat) (zs : List ByteArray), q ≤ n' ∧ j = .int .i64 (q : Int) ∧ m = vm ∧ wi.ownsRow 0 9 1 vm km (strsV zs) ∧ km ≤ q ∧ km ≤ 3 ∧ (∀ y ∈ zs, y.size ≤ maxLen) ∧ (∀ b, vm.ownBlock = some b → w5.heap.size ≤ b) ∧ Only (fun _ => False) w5 wi) (fun j _ _ => n' - (intOf j).toNat)
        case atStart => exact ⟨0, _, 0, [], Nat.zero_le _, rfl, rfl, World.ownsRow_nil _ _ _ _, Nat.le_refl _, Nat.zero_le _, (fun y hy => (List.not_mem_nil hy).elim), (fun b e => by cases e), Only.refl _ _⟩
        case round =>
          obtain ⟨q, vm, km, zs, hq, rfl, rfl, hown, hkm, hk3, hzs, hnew, hqi⟩ := hrel
          by_cases hlq : q < n'
          · obtain ⟨b2, off2, y, rfl, hym, hyc⟩ := strs_get (HRD.out.kept hqi (fun _ _ x => x)) hlq
            have hysz := HYS.out y hym
            unfold maxLen at hysz
            have HOWN := Lib.hid hown
            have HZS := Lib.hid hzs
            have HNEW := Lib.hid hnew
            have HQI := Lib.hid hqi
            have lb2 := cell_lt hyc
            dsimp only at lb2
            clear hown hzs hnew hqi hym hcell lb
            by_cases h3 : q < 3
            · obtain ⟨y', hy'⟩ : ∃ y', y.extract 0 (min (y.size : Int) 160).toNat = y' := ⟨_, rfl⟩
              have hys' : y'.size ≤ maxLen := by
                rw [← hy', ByteArray.size_extract]
                unfold maxLen
                omega
              have HY := Lib.hid hy'
              have HYS' := Lib.hid hys'
              have HRN : Hid (Rd (wr.alloc (.cells #[.string (y.extract 0 (min (y.size : Int) 160).toNat)] 9)) (fun _ => True) 1 (some ⟨wr.heap.size, 0, none⟩) 1 (strsV [y'])) := by
                rw [hy']
                exact Rd.new wr 1 1 (strsV [y']) _ _ rfl trivial
              have HON := Lib.hid (owns_kept HOWN.out ((Only.refl (fun _ => False) wr).alloc (.cells #[.string (y.extract 0 (min (y.size : Int) 160).toNat)] 9)) (fun _ _ x => x))
              clear hy' hys' HOWN
              go_wp2_with (at_builtin; refine app elem_str rfl (.tmp 33) (.tmp 39) rfl rfl HON.out rfl HRN.out (strs_one [y']) (by unfold maxLen; omega) (by omega) ?_)
              intro v4 w4 hg4
              have hz := HQI.out.size
              have hlt4 : ∀ j, u10.ownBlock = some j → j < wr.heap.size + 1 := fun j e => by have := (HON.out.lt j e).2; rw [World.size_alloc] at this; exact this
              have HQ4 : Hid (Only (fun _ => False) w5 w4) := (HQI.out.alloc _).trans' hg4.only (fun j hj e => by have := HNEW.out j e; omega)
              have HN4 : Hid (∀ j, v4.ownBlock = some j → w5.heap.size ≤ j) := fun j e => by
                rcases hg4.loc with x | x
                · rw [x] at e; exact HNEW.out j e
                · rw [x] at e; injection e with e; simp only [World.size_alloc] at e; omega
              have HZ4 : Hid (∀ z ∈ zs ++ [y'], z.size ≤ maxLen) := fun z hz => by
                rcases List.mem_append.1 hz with x | x
                · exact HZS.out z x
                · rw [List.mem_singleton] at x; rw [x]; exact HYS'.out
              have HO4 : Hid (w4.ownsRow 0 9 1 v4 (km + 1) (strsV (zs ++ [y']))) := by
                have := hg4.own
                rw [show strsV (zs ++ [y']) = strsV zs ++ strsV [y'] by simp [strsV]]
                exact this
              clear hg4 HON HRN
              go_wp2
              go_roundw
              case rel => exact ⟨q + 1, _, km + 1, zs ++ [y'], by omega, by go_num, rfl, HO4.out, by omega, by omega, HZ4.out, HN4.out, HQ4.out⟩
              case measure => simp [intOf]; omega
            · go_wp2_with fail
              go_roundw
              case rel => exact ⟨q + 1, _, km, zs, by omega, by go_num, rfl, HOWN.out, by omega, hk3, HZS.out, HNEW.out, HQI.out⟩
              case measure => simp [intOf]; omega
          · obtain rfl : q = n' := by omega
            obtain ⟨Am, cm, hvm, _⟩ := own_form hown
            subst hvm
            have HZS := Lib.hid hzs
            have HOWN := Lib.hid hown
            have HNEW := Lib.hid hnew
            have HQI := Lib.hid hqi
            have HRN : Hid (Rd (wr.alloc (.cells #[.slice Am km cm] 26)) (fun _ => True) 1 (some ⟨wr.heap.size, 0, none⟩) 1 [.slice Am km cm]) := Rd.new wr 1 1 [.slice Am km cm] _ _ rfl trivial
            have HON := Lib.hid (owns_kept (HL.out.quietly hqi).row ((Only.refl (fun _ => False) wr).alloc (.cells #[.slice Am km cm] 26)) (fun _ _ x => x))
            have HONE : Hid (∀ u ∈ [Value.slice Am km cm], u.oneCell' = true) := fun u hu => by rw [List.mem_singleton] at hu; subst hu; rfl
            clear hown hzs hnew hqi hcell lb
            go_wp2_with (at_builtin; refine app elem_strs rfl (.tmp 42) (.tmp 44) rfl rfl HON.out rfl HRN.out HONE.out (by unfold maxLen; omega) (by omega) ?_)
            intro v4 w4 hg4
            have HP := Lib.hid (HL.out.push HQI.out HOWN.out HNEW.out hk3 HZS.out hg4)
            clear hg4 HRN HON HONE
            go_wp2
            go_roundw
            case rel => exact ⟨k + 1, _, _, by omega, by omega, by go_num, rfl, HP.out⟩
            case measure => simp [intOf]; omega
    · obtain rfl : k = n := by omega
      have HF : Hid (FewPost w (.returned u7) wr) := ⟨_, _, xs, rfl, hk9, hL⟩
      clear hL
      go_wp2_with fail
      go_ret
      exact HF.out
end Go.Proofs.YtahfajdmhnjkeaaGreatDoor
