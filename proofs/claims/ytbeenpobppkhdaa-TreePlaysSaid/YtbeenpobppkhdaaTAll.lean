/- The contract of a node's all: every entry, in order. No condition. -/
import Derived.Test.YtbeenpobppkhdaaTScan2
namespace Go.Proofs.Ytbeenpobppkhdaa
open Go.RowKit Go.Lap

/-- A row that grows: ys ahead, xs behind. -/
structure AllW (w0 w : World) (v0 v : Value) (ys xs : List EV) : Prop where
  only : Only (fun k => v0.ownBlock = some k) w0 w
  row : RowAt w v (ys ++ xs)
  loc : v.ownBlock = v0.ownBlock ∨ ∃ k, v.ownBlock = some k ∧ w0.heap.size ≤ k

theorem AllW.start {w : World} {v : Value} {ys : List EV} (h : RowAt w v ys) : AllW w w v v ys [] := ⟨Only.refl _ _, by rw [List.append_nil]; exact h, Or.inl rfl⟩

theorem AllW.join {w0 w w' : World} {v0 v v' : Value} {ys xs zs : List EV} (h : AllW w0 w v0 v ys xs) (h' : AllW w w' v v' (ys ++ xs) zs) : AllW w0 w' v0 v' ys (xs ++ zs) := by
  have hz0 := h.only.size
  refine ⟨h.only.trans' h'.only (fun k hk e => ?_), by rw [← List.append_assoc]; exact h'.row, ?_⟩
  · rcases h.loc with x | ⟨j, x, y⟩
    · rw [x] at e; exact e
    · rw [x] at e; injection e with e; omega
  · rcases h'.loc with x | ⟨j, x, y⟩
    · rw [x]; exact h.loc
    · exact Or.inr ⟨j, x, by omega⟩

def AllPost (w : World) (v : Value) (ys xs : List EV) (e : Ending) (w' : World) : Prop := ∃ v', e = .returned v' ∧ AllW w w' v v' ys xs

set_option maxHeartbeats 1000000 in
set_option maxRecDepth 100000 in
theorem all_leaf {K F : Nat → Prop} {w : World} {b : Nat} {xs ys : List EV} {v0 v : Value} (hl : Leaf K w b F xs v0) (hrow : RowAt w v ys) (hn : ys.length + xs.length ≤ 40000) :
    Calls Try.prog 34 #[ptrV b, v] w (AllPost w v ys xs) := by
  obtain ⟨A0, c0, hv0, _, _, hr0⟩ := own_form hl.row
  obtain ⟨Av, cv, hvv, _, _, _⟩ := own_form hrow
  have hbox := hl.box
  rw [hv0] at hbox
  have b0 : w.cell? ⟨b, 0, none⟩ = some (.slice A0 xs.length c0) := by rw [cell_of hbox]; rfl
  have HLF := Lib.hid (leaf_any b _ none 0 0 _ hbox)
  have HR0 := Lib.hid hr0
  have HROW := Lib.hid hrow
  obtain ⟨POST, hPOST⟩ : ∃ POST, AllPost w v ys xs = POST := ⟨_, rfl⟩
  have HPOST := Lib.hid hPOST
  rw [hPOST]
  subst hvv
  clear hl hrow hbox hr0 hv0 hPOST
  go_enter Try.func34, Try.ntmps34
  go_wp2_with fail
  refine HLF.out.mono ?_
  rintro r w1 ⟨rfl, rfl⟩
  clear HLF
  go_wp2_with (at_builtin; refine app elem_ent rfl (.tmp 9) (.tmp 13) rfl rfl HROW.out rfl HR0.out (one_row xs) (by unfold maxLen; omega) (by omega) ?_)
  intro v5 w5 hg
  have HR : Hid (POST (.returned v5) w5) := by
    rw [← HPOST.out]
    refine ⟨v5, rfl, hg.only, ?_, ?_⟩
    · unfold RowAt
      rw [rowV_append, List.length_append]
      exact hg.own
    · rcases hg.loc with x | x
      · exact Or.inl x
      · exact Or.inr ⟨_, x, Nat.le_refl _⟩
  clear hg HR0 HROW b0
  go_wp2
  exact HR.out

def AllIH (K : Nat → Prop) (h : Nat) : Prop := ∀ (F : Nat → Prop) (w : World) (b : Nat) (xs ys : List EV) (v : Value), NodeAt K h w b F xs → (∀ k, F k ∨ K k → k < w.heap.size ∧ v.ownBlock ≠ some k) → RowAt w v ys → ys.length + xs.length ≤ 40000 →
  Calls Try.prog 34 #[ptrV b, v] w (AllPost w v ys xs)

set_option maxHeartbeats 2000000 in
set_option maxRecDepth 100000 in
theorem all_inner {K F : Nat → Prop} {h : Nat} {w : World} {b : Nat} {ks : List Kid} {ys : List EV} {v0 u0 v : Value} (hih : AllIH K h) (hl : Inner (NodeAt K h) w b F v0 u0 ks) (hR : ∀ k, F k ∨ K k → k < w.heap.size ∧ v.ownBlock ≠ some k) (hrow : RowAt w v ys) (hn : ys.length + (flat ks).length ≤ 40000) :
    Calls Try.prog 34 #[ptrV b, v] w (AllPost w v ys (flat ks)) := by
  obtain ⟨gu, cu, hu0, hcu, _⟩ := hl.form
  obtain ⟨n, hnn⟩ : ∃ n, ks.length = n := ⟨_, rfl⟩
  have hnk : n ≤ 40000 := by have := flat_le (fun x hx => (hl.kid x hx).1); omega
  have hbox := hl.box
  rw [hnn] at hu0
  rw [hu0] at hbox
  have b1 : w.cell? ⟨b, 1, none⟩ = some (.slice (some ⟨gu, 0, none⟩) n cu) := by rw [cell_of hbox]; rfl
  have HLF := Lib.hid (leaf_any b _ _ _ _ _ hbox)
  have HNN := Lib.hid hnn
  have HI := Lib.hid hl
  have HR := Lib.hid hR
  have HU0 := Lib.hid hu0
  have HO0 := Lib.hid (AllW.start hrow)
  have HIH := Lib.hid hih
  have HN4 := Lib.hid hn
  obtain ⟨POST, hPOST⟩ : ∃ POST, AllPost w v ys (flat ks) = POST := ⟨_, rfl⟩
  have HPOST := Lib.hid hPOST
  rw [hPOST]
  clear hl hR hrow hnn hPOST hu0 hn hcu hih hbox
  go_enter Try.func34, Try.ntmps34
  go_wp2_with fail
  refine HLF.out.mono ?_
  rintro r w1 ⟨rfl, rfl⟩
  clear HLF
  go_wp2_with fail
  clear b1
  go_loopw [20, 1, 6] (fun ci cv _ wr => ∃ (i : Nat) (v' : Value), i ≤ n ∧ ci = .int .i64 (i : Int) ∧ v' = cv ∧ AllW w wr v v' ys (flat (ks.take i))) (fun ci _ _ _ => n - (intOf ci).toNat)
  case atStart => exact ⟨0, v, Nat.zero_le _, rfl, rfl, HO0.out⟩
  case round =>
    obtain ⟨i, v', hi', rfl, rfl, hO⟩ := hrel
    clear HO0
    have HO := Lib.hid hO
    obtain ⟨Av, cv', hvv, _, _, _⟩ := own_form hO.row
    obtain ⟨m, hm⟩ : ∃ m, (ys ++ flat (ks.take i)).length = m := ⟨_, rfl⟩
    rw [hm] at hvv
    subst hvv
    clear hm
    by_cases hlt : i < n
    · obtain ⟨x, hx⟩ : ∃ x, ks[i]? = some x := ⟨_, List.getElem?_eq_getElem (by have := HNN.out; omega)⟩
      have hxm : x ∈ ks := List.mem_of_getElem? hx
      have hkids := owns_kept HI.out.kids hO.only (fun k e => (HR.out k (Or.inl (HI.out.foot.2.2 k e))).2)
      rw [HU0.out] at hkids
      have p1 : wr.cell? ⟨gu, i, none⟩ = some (ptrV x.b) := by
        have := hkids.cells rfl i (ptrV x.b) (by rw [kptrs, List.getElem?_map, hx]; rfl)
        rw [add_none, Nat.zero_add] at this
        exact this
      have hft : (flat (ks.take (i + 1))).length ≤ (flat ks).length := by
        have e : flat ks = flat (ks.take (i + 1)) ++ flat (ks.drop (i + 1)) := by rw [← List.flatMap_append, List.take_append_drop]
        rw [e, List.length_append]; omega
      rw [flat_take hx, List.length_append] at hft
      have hz := hO.only.size
      have HC := Lib.hid (HIH.out (fun k => x.F k ∧ k < w.heap.size) wr x.b x.xs (ys ++ flat (ks.take i)) _ (NodeAt.kept hO.only (fun k z => (HR.out k (Or.inr z)).2) ((HI.out.kid x hxm).2.lim) (fun k z => (HR.out k (Or.inl (HI.out.sub x hxm k z.1).1)).2)) (fun k z => by
        have hk : k < w.heap.size ∧ v.ownBlock ≠ some k := by
          rcases z with z | z
          · exact HR.out k (Or.inl (HI.out.sub x hxm k z.1).1)
          · exact HR.out k (Or.inr z)
        refine ⟨by omega, fun e => ?_⟩
        rcases hO.loc with y | ⟨j, y, t⟩
        · rw [y] at e; exact hk.2 e
        · rw [y] at e; injection e with e; omega) hO.row (by have := HN4.out; rw [List.length_append]; omega))
      have HFT := Lib.hid (flat_take hx)
      have d0 : (0 : Int) ≤ (i : Int) := by omega
      have d1 : (i : Int) < (n : Int) := by omega
      clear hx hxm hkids hft hz hO
      go_wp2_with fail
      refine HC.out.mono ?_
      rintro r w2 ⟨v2, rfl, hO2⟩
      have HO2 := Lib.hid (HO.out.join hO2)
      rw [← HFT.out] at HO2
      clear hO2 HC p1
      go_wp2
      go_roundw
      case rel => exact ⟨i + 1, v2, by omega, by go_num, rfl, HO2.out⟩
      case measure => simp [intOf]; omega
    · have HRES : Hid (POST (.returned (.slice Av m cv')) wr) := by
        rw [← HPOST.out]
        refine ⟨_, rfl, ?_⟩
        rw [List.take_of_length_le (by have := HNN.out; omega)] at hO
        exact hO
      clear hO
      go_wp2
      exact HRES.out

theorem all_ih (K : Nat → Prop) (h : Nat) : AllIH K h := by
  induction h with
  | zero =>
    intro F w b xs ys v ⟨v0, hl⟩ hR hrow hn
    exact all_leaf hl hrow hn
  | succ h ih =>
    intro F w b xs ys v ⟨v0, u0, ks, hi', e⟩ hR hrow hn
    subst e
    exact all_inner ih hi' hR hrow hn

end Go.Proofs.Ytbeenpobppkhdaa
