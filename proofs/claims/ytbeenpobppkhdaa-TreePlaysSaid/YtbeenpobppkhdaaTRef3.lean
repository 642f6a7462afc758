/- The document's Delete, Prune and Scan on its tree. No condition. -/
import Derived.Test.YtbeenpobppkhdaaTRef2
import Derived.Test.YtbeenpobppkhdaaTPrune
namespace Go.Proofs.Ytbeenpobppkhdaa
open Go.RowKit Go.Lap

def rdelPost (w : World) (F : Nat → Prop) (xb : Nat) (es : List Ent) (e : Ent) (r : Ending) (w' : World) : Prop :=
  (e ∉ es ∧ r = .returned (.int .i64 15) ∧ Quiet w w') ∨
  (e ∈ es ∧ r = .returned (.int .i64 0) ∧ Only (· = xb) w w' ∧ RefIs w' (fun k => F k ∨ w.heap.size ≤ k) xb (delE e es))

set_option maxHeartbeats 4000000 in
set_option maxRecDepth 100000 in
theorem ref_delete (w : World) (F : Nat → Prop) (xb : Nat) (es : List Ent) (e : Ent) (A : Option Addr) (c : Nat) (S : Nat → Prop) (ht : RefIs w F xb es) (hr : Rd w S 1 A e.key.length (bytesV e.key)) (hby : ∀ x ∈ e.key, x < 256) (hl : e.key.length ≤ 1000) (hn : es.length ≤ 10000) :
    Calls Try.prog 24 #[ptrV xb, entV e A c] w (rdelPost w F xb es e) := by
  obtain ⟨v, xs, hm, hes, hris⟩ := ht
  subst hes
  have hxl : xs.length ≤ 10000 := by simpa using hn
  have hq0 : Quiet w (w.alloc (.cells #[.slice A e.key.length c, .int .i64 e.pg, .int .i64 e.sl] 31)) := (Only.refl _ _).alloc _
  obtain ⟨t0, t1, t2⟩ := rent_cells (alloc_new w (.cells #[.slice A e.key.length c, .int .i64 e.pg, .int .i64 e.sl] 31))
  have HPL := Lib.hid (place_any S ⟨e, A, c⟩ (hm.kept hq0 (fun _ _ x => x)) (⟨hr.kept hq0 (fun _ _ x => x), hby, hl⟩) hris (by omega))
  obtain ⟨i, hi⟩ : ∃ i, posE e (ents xs) = i := ⟨_, rfl⟩
  have HI := Lib.hid hi
  rw [hi] at HPL
  have HM := Lib.hid hm
  have HRIS := Lib.hid hris
  have HQ0 := Lib.hid hq0
  obtain ⟨POST, hPOST⟩ : ∃ POST, rdelPost w F xb (ents xs) e = POST := ⟨_, rfl⟩
  rw [hPOST]
  have HPOST := Lib.hid hPOST
  clear hm hr hby hris hq0 hPOST hn hi
  go_enter Try.func24, Try.ntmps24
  go_wp2_with fail
  refine HPL.out.mono ?_
  rintro r w2 ⟨rfl, hq2⟩
  have HQ2 := Lib.hid (HQ0.out.trans hq2)
  clear HPL HQ0 t0 t1 t2
  by_cases hmem : e ∈ ents xs
  · rw [decide_eq_true hmem]
    have HMEM := Lib.hid hmem
    have hil : i < xs.length := by
      have := (List.getElem?_eq_some_iff.1 ((posE_mem HRIS.out).1 hmem)).1
      rw [HI.out] at this
      simpa using this
    have HM2 := Lib.hid (HM.out.kept HQ2.out (fun _ _ x => x))
    clear hmem hq2
    have HNEW : Hid (∀ (b c0 : Nat), w2.heap.size ≤ b → ∀ k, (Value.slice (some ⟨b, 0, none⟩) 0 c0).ownBlock = some k → w2.heap.size ≤ k) := fun b c0 hb k x => by have := own_at x; omega
    rcases owns_cases HM2.out.row with ⟨hv, hx0⟩ | ⟨g, cv, hv, hc, hcm⟩
    · omega
    · subst hv
      obtain ⟨n, hn⟩ : ∃ n, xs.length = n := ⟨_, rfl⟩
      have b0 : w2.cell? ⟨xb, 0, none⟩ = some (.slice (some ⟨g, 0, none⟩) n cv) := by rw [cell_of HM2.out.box, hn]; rfl
      obtain ⟨A4, c4, e4, _, _, hrd⟩ := own_form HM2.out.row
      injection e4 with e4 e4b e4c
      subst e4 e4c
      clear e4b
      have hrt := hrd.takeK (k := i) (by omega)
      rw [← rowV_take] at hrt
      have HRT := Lib.hid hrt
      have had : Rd w2 (fun _ => True) 3 (if cv = i + 1 then some ⟨g, 0, none⟩ else some ⟨g, (i + 1) * 3, none⟩) (n - (i + 1)) (rowV (xs.drop (i + 1))) := by
        by_cases hci : cv = i + 1
        · have h0 : xs.drop (i + 1) = [] := List.drop_eq_nil_of_le (by omega)
          rw [h0, show n - (i + 1) = 0 by omega]
          exact Rd.nil _ _ _ _
        · rw [if_neg hci]
          have := hrd.drop (k := i + 1) (by omega)
          rw [Nat.zero_add, hn, ← rowV_drop] at this
          exact this.mono (fun _ _ => trivial)
      have HRDR := Lib.hid had
      have HN := Lib.hid hn
      rw [hn] at hc hil hxl
      have d0 : (0 : Int) ≤ (i : Int) := by omega
      have d1 : (i : Int) ≤ (n : Int) := by omega
      have d2 : (i : Int) ≤ (cv : Int) := by omega
      have d3 : (n : Int) ≤ (cv : Int) := by omega
      have d4 : (0 : Int) ≤ (n : Int) := by omega
      have d5 : i ≤ cv := by omega
      have d6 : (0 : Int) ≤ (i : Int) + 1 := by omega
      have d7 : (i : Int) + 1 ≤ (n : Int) := by omega
      have d8 : ((i : Int) + 1).toNat = i + 1 := by omega
      have d9 : IntKind.i64.wrap ((i : Int) + 1) = (i : Int) + 1 := wrapI (by omega)
      have d10 : i + 1 ≤ n := by omega
      clear hn hrd had hrt
      go_upto_region 6 with fail
      have HS : Hid (∀ W, Quiet w2 W → (fun w' => w'.cell? ⟨xb, 0, none⟩ = some (.slice (some ⟨g, 0, none⟩) n cv)) W) := fun W hq => hq.cell b0 (fun x => x)
      refine wp_region_last (S := (fun w' => w'.cell? ⟨xb, 0, none⟩ = some (.slice (some ⟨g, 0, none⟩) n cv))) (by kernel_rfl) (by kernel_rfl) (by simp) (b0) (fun hHeld => ?_)
      simp only [List.pop_toArray, List.dropLast, List.size_toArray, List.length_cons, List.length_nil, Nat.reduceAdd, Nat.reduceSub]
      (refine wpAnyH_take (i := 0) (oi := ?_) (v := ?_) ?_ (by kernel_rfl) (by decide +kernel) (by decide +kernel) ?_ (Or.inl ⟨?_, ?_⟩) (by assumption) ?_; rotate_left 2; (focus (simp only [List.getElem?_toArray, List.getElem?_cons_zero, List.getElem?_cons_succ] <;> rfl)); (focus (exact fun _ _ _ => last_panic (fun h => h))); (focus rfl); (focus (intro w hSw; (try dsimp only at hSw); go_simp; (try with_reducible rfl); done)); (try simp only [Act.put, List.setIfInBounds_toArray, List.set_cons_zero, List.set_cons_succ]))
      (refine wpAnyH_take (i := 2) (oi := ?_) (v := ?_) ?_ (by kernel_rfl) (by decide +kernel) (by decide +kernel) ?_ (Or.inl ⟨?_, ?_⟩) (by assumption) ?_; rotate_left 2; (focus (simp only [List.getElem?_toArray, List.getElem?_cons_zero, List.getElem?_cons_succ] <;> rfl)); (focus (exact fun _ _ _ => last_panic (fun h => h))); (focus rfl); (focus (intro w hSw; (try dsimp only at hSw); go_simp; (try with_reducible rfl); done)); (try simp only [Act.put, List.setIfInBounds_toArray, List.set_cons_zero, List.set_cons_succ]))
      (refine wpAnyH_take (i := 3) (oi := ?_) (v := ?_) ?_ (by kernel_rfl) (by decide +kernel) (by decide +kernel) ?_ (Or.inl ⟨?_, ?_⟩) (by assumption) ?_; rotate_left 2; (focus (simp only [List.getElem?_toArray, List.getElem?_cons_zero, List.getElem?_cons_succ] <;> rfl)); (focus (exact fun _ _ _ => last_panic (fun h => h))); (focus rfl); (focus (intro w hSw; (try dsimp only at hSw); go_simp; (try with_reducible rfl); done)); (try simp only [Act.put, List.setIfInBounds_toArray, List.set_cons_zero, List.set_cons_succ]))
      (refine wpAnyH_take (i := 4) (oi := ?_) (v := ?_) ?_ (by kernel_rfl) (by decide +kernel) (by decide +kernel) ?_ (Or.inl ⟨?_, ?_⟩) (by assumption) ?_; rotate_left 2; (focus (simp only [List.getElem?_toArray, List.getElem?_cons_zero, List.getElem?_cons_succ] <;> rfl)); (focus (exact fun _ _ _ => last_panic (fun h => h))); (focus rfl); (focus (intro w hSw; (try dsimp only at hSw); go_simp; (try with_reducible rfl); done)); (try simp only [Act.put, List.setIfInBounds_toArray, List.set_cons_zero, List.set_cons_succ]))
      (refine wpAnyH_take (i := 5) (oi := ?_) (v := ?_) ?_ (by kernel_rfl) (by decide +kernel) (by decide +kernel) ?_ (Or.inl ⟨?_, ?_⟩) (by assumption) ?_; rotate_left 2; (focus (simp only [List.getElem?_toArray, List.getElem?_cons_zero, List.getElem?_cons_succ] <;> rfl)); (focus (exact fun _ _ _ => last_panic (fun h => h))); (focus rfl); (focus (intro w hSw; (try dsimp only at hSw); go_simp; (try with_reducible rfl); done)); (try simp only [Act.put, List.setIfInBounds_toArray, List.set_cons_zero, List.set_cons_succ]))
      (refine wpAnyH_take (i := 6) (oi := ?_) (v := ?_) ?_ (by kernel_rfl) (by decide +kernel) (by decide +kernel) ?_ (Or.inl ⟨?_, ?_⟩) (by assumption) ?_; rotate_left 2; (focus (simp only [List.getElem?_toArray, List.getElem?_cons_zero, List.getElem?_cons_succ] <;> rfl)); (focus (exact fun _ _ _ => last_panic (fun h => h))); (focus rfl); (focus (intro w hSw; (try dsimp only at hSw); go_simp; (try with_reducible rfl); done)); (try simp only [Act.put, List.setIfInBounds_toArray, List.set_cons_zero, List.set_cons_succ]))
      (refine wpAnyH_take (i := 7) (oi := ?_) (v := ?_) ?_ (by kernel_rfl) (by decide +kernel) (by decide +kernel) ?_ (Or.inl ⟨?_, ?_⟩) (by assumption) ?_; rotate_left 2; (focus (simp only [List.getElem?_toArray, List.getElem?_cons_zero, List.getElem?_cons_succ] <;> rfl)); (focus (exact fun _ _ _ => last_panic (fun h => h))); (focus rfl); (focus (intro w hSw; (try dsimp only at hSw); go_simp; (try with_reducible rfl); done)); (try simp only [Act.put, List.setIfInBounds_toArray, List.set_cons_zero, List.set_cons_succ]))
      (refine wpAnyH_take (i := 9) (oi := ?_) (v := ?_) ?_ (by kernel_rfl) (by decide +kernel) (by decide +kernel) ?_ (Or.inl ⟨?_, ?_⟩) (by assumption) ?_; rotate_left 2; (focus (simp only [List.getElem?_toArray, List.getElem?_cons_zero, List.getElem?_cons_succ] <;> rfl)); (focus (exact fun _ _ _ => last_panic (fun h => h))); (focus rfl); (focus (intro w hSw; (try dsimp only at hSw); go_simp; (try with_reducible rfl); done)); (try simp only [Act.put, List.setIfInBounds_toArray, List.set_cons_zero, List.set_cons_succ]))
      (refine wpAnyH_take (i := 10) (oi := ?_) (v := ?_) ?_ (by kernel_rfl) (by decide +kernel) (by decide +kernel) ?_ (Or.inl ⟨?_, ?_⟩) (by assumption) ?_; rotate_left 2; (focus (simp only [List.getElem?_toArray, List.getElem?_cons_zero, List.getElem?_cons_succ] <;> rfl)); (focus (exact fun _ _ _ => last_panic (fun h => h))); (focus rfl); (focus (intro w hSw; (try dsimp only at hSw); go_simp; (try with_reducible rfl); done)); (try simp only [Act.put, List.setIfInBounds_toArray, List.set_cons_zero, List.set_cons_succ]))
      (refine wpAnyH_take (i := 11) (oi := ?_) (v := ?_) ?_ (by kernel_rfl) (by decide +kernel) (by decide +kernel) ?_ (Or.inl ⟨?_, ?_⟩) (by assumption) ?_; rotate_left 2; (focus (simp only [List.getElem?_toArray, List.getElem?_cons_zero, List.getElem?_cons_succ] <;> rfl)); (focus (exact fun _ _ _ => last_panic (fun h => h))); (focus rfl); (focus (intro w hSw; (try dsimp only at hSw); go_simp; (try with_reducible rfl); done)); (try simp only [Act.put, List.setIfInBounds_toArray, List.set_cons_zero, List.set_cons_succ]))
      (refine wpAnyH_take (i := 12) (oi := ?_) (v := ?_) ?_ (by kernel_rfl) (by decide +kernel) (by decide +kernel) ?_ (Or.inl ⟨?_, ?_⟩) (by assumption) ?_; rotate_left 2; (focus (simp only [List.getElem?_toArray, List.getElem?_cons_zero, List.getElem?_cons_succ] <;> rfl)); (focus (exact fun _ _ _ => last_panic (fun h => h))); (focus rfl); (focus (intro w hSw; (try dsimp only at hSw); go_simp; (try with_reducible rfl); done)); (try simp only [Act.put, List.setIfInBounds_toArray, List.set_cons_zero, List.set_cons_succ]))
      (refine wpAnyH_take (i := 13) (oi := ?_) (v := ?_) ?_ (by kernel_rfl) (by decide +kernel) (by decide +kernel) ?_ (Or.inl ⟨?_, ?_⟩) (by assumption) ?_; rotate_left 2; (focus (simp only [List.getElem?_toArray, List.getElem?_cons_zero, List.getElem?_cons_succ] <;> rfl)); (focus (exact fun _ _ _ => last_panic (fun h => h))); (focus rfl); (focus (intro w hSw; (try dsimp only at hSw); go_simp; (try with_reducible rfl); done)); (try simp only [Act.put, List.setIfInBounds_toArray, List.set_cons_zero, List.set_cons_succ]))
      (refine wpAnyH_take (i := 14) (oi := ?_) (v := ?_) ?_ (by kernel_rfl) (by decide +kernel) (by decide +kernel) ?_ (Or.inl ⟨?_, ?_⟩) (by assumption) ?_; rotate_left 2; (focus (simp only [List.getElem?_toArray, List.getElem?_cons_zero, List.getElem?_cons_succ] <;> rfl)); (focus (exact fun _ _ _ => last_panic (fun h => h))); (focus rfl); (focus (intro w hSw; (try dsimp only at hSw); go_simp; (try with_reducible rfl); done)); (try simp only [Act.put, List.setIfInBounds_toArray, List.set_cons_zero, List.set_cons_succ]))
      (refine wpAnyH_take (i := 15) (oi := ?_) (v := ?_) ?_ (by kernel_rfl) (by decide +kernel) (by decide +kernel) ?_ (Or.inl ⟨?_, ?_⟩) (by assumption) ?_; rotate_left 2; (focus (simp only [List.getElem?_toArray, List.getElem?_cons_zero, List.getElem?_cons_succ] <;> rfl)); (focus (exact fun _ _ _ => last_panic (fun h => h))); (focus rfl); (focus (intro w hSw; (try dsimp only at hSw); go_simp; (try with_reducible rfl); done)); (try simp only [Act.put, List.setIfInBounds_toArray, List.set_cons_zero, List.set_cons_succ]))
      refine wpAnyH_ready (rs := [1]) (by kernel_rfl) (by simp) ?_
      refine AllReadyH.cons (o := ?_) ?_ ?_ ?_
      rotate_left 1
      (focus (simp only [List.getElem?_toArray, List.getElem?_cons_zero, List.getElem?_cons_succ] <;> rfl))
      · intro K hK
        go_simp
        refine hK.out _ _ ?_ (fun hHeld => ?_)
        · exact HS.out _ (((Only.refl (fun _ => False) w2)).alloc _).drew
        clear hK K
        (try simp only [Act.put, List.setIfInBounds_toArray, List.set_cons_zero, List.set_cons_succ])
        refine wpAnyH_ready (rs := [8]) (by kernel_rfl) (by simp) ?_
        refine AllReadyH.cons (o := ?_) ?_ ?_ ?_
        rotate_left 1
        (focus (simp only [List.getElem?_toArray, List.getElem?_cons_zero, List.getElem?_cons_succ] <;> rfl))
        · intro K hK
          refine app_step elem_rent rfl (.tmp 18) (.tmp 24) rfl rfl (owns_empty_at (b := w2.heap.size) (alloc_new w2 _)) rfl (HRT.out.kept ((((Only.refl (fun _ => False) w2)).alloc (.cells #[] 31)).drew) (fun _ _ x => x)) (one_row _) (by unfold maxLen; omega) (by omega) ?_
          intro v5 w5 hg5
          obtain ⟨hq5, hn5⟩ := grew_quiet ((((Only.refl (fun _ => False) w2)).alloc (.cells #[] 31)).drew) (HNEW.out w2.heap.size _ (by omega)) hg5
          refine hK.out _ _ ?_ (fun hHeld => ?_)
          · exact HS.out _ hq5
          clear hK K
          (try simp only [Act.put, List.setIfInBounds_toArray, List.set_cons_zero, List.set_cons_succ])
          refine wpAnyH_ready (rs := [16]) (by kernel_rfl) (by simp) ?_
          refine AllReadyH.cons (o := ?_) ?_ ?_ ?_
          rotate_left 1
          (focus (simp only [List.getElem?_toArray, List.getElem?_cons_zero, List.getElem?_cons_succ] <;> rfl))
          · intro K hK
            refine app_step elem_rent rfl (.tmp 25) (.tmp 32) rfl rfl hg5.own rfl (HRDR.out.kept hq5 (fun _ _ x => x)) (one_row _) (by unfold maxLen; omega) (by omega) ?_
            intro v6 w6 hg6
            obtain ⟨hq6, hn6⟩ := grew_quiet hq5 hn5 hg6
            refine hK.out _ _ ?_ (fun hHeld => ?_)
            · exact HS.out _ hq6
            clear hK K
            (try simp only [Act.put, List.setIfInBounds_toArray, List.set_cons_zero, List.set_cons_succ])
            (refine wpAnyH_take (i := 17) (oi := ?_) (v := ?_) ?_ (by kernel_rfl) (by decide +kernel) (by decide +kernel) ?_ (Or.inl ⟨?_, ?_⟩) (by assumption) ?_; rotate_left 2; (focus (simp only [List.getElem?_toArray, List.getElem?_cons_zero, List.getElem?_cons_succ] <;> rfl)); (focus (exact fun _ _ _ => last_panic (fun h => h))); (focus rfl); (focus (intro w hSw; (try dsimp only at hSw); go_simp; (try with_reducible rfl); done)); (try simp only [Act.put, List.setIfInBounds_toArray, List.set_cons_zero, List.set_cons_succ]))
            (refine wpAnyH_take (i := 18) (oi := ?_) (v := ?_) ?_ (by kernel_rfl) (by decide +kernel) (by decide +kernel) ?_ (Or.inl ⟨?_, ?_⟩) (by assumption) ?_; rotate_left 2; (focus (simp only [List.getElem?_toArray, List.getElem?_cons_zero, List.getElem?_cons_succ] <;> rfl)); (focus (exact fun _ _ _ => last_panic (fun h => h))); (focus rfl); (focus (intro w hSw; (try dsimp only at hSw); go_simp; (try with_reducible rfl); done)); (try simp only [Act.put, List.setIfInBounds_toArray, List.set_cons_zero, List.set_cons_succ]))
            obtain ⟨A7, n7, c7, hv7⟩ := own_slice hg6.own
            subst hv7
            have k7 : w6.cell? ⟨xb, 0, none⟩ = _ := HS.out _ hq6
            have f7 := fun o => frozen_of (hq6.get HM2.out.box (fun x => x)) o
            refine wpAnyH_done (by kernel_rfl) ?_ _
            refine last_step (o := ?_) ?_ ?_
            rotate_left 1
            (focus (simp only [List.getElem?_toArray, List.getElem?_cons_zero, List.getElem?_cons_succ] <;> rfl))
            intro K hK
            go_simp
            refine hK.out _ _ ?_
            clear hK K
            have HRES : Hid (POST (.returned (.int .i64 0)) (w6.setCell ⟨xb, 0, none⟩ (.slice A7 n7 c7))) := by
              have hrow : RRow w6 (.slice A7 n7 c7) (xs.take i ++ xs.drop (i + 1)) := by
                have := hg6.own
                rw [List.nil_append, row_del xs i] at this
                unfold RRow
                rw [show (xs.take i ++ xs.drop (i + 1)).length = 0 + i + (n - (i + 1)) by rw [List.length_append, List.length_take, List.length_drop, HN.out]; omega]
                exact this
              have h8 := HM2.out.turn hq6 hrow (fun k x => hn6 k x) (fun y hy => by
                rcases List.mem_append.1 hy with z | z
                · exact Or.inl (List.mem_of_mem_take z)
                · exact Or.inl (List.mem_of_mem_drop z))
              rw [← HPOST.out]
              have hz := HQ2.out.size
              refine Or.inr ⟨HMEM.out, rfl, (HQ2.out.mono (T := (· = xb)) (fun _ _ x => x.elim)).trans h8.2, _, _, h8.1.mono (fun k x _ => ?_), ?_, HRIS.out.del⟩
              · rcases x with x | x
                · exact Or.inl x
                · exact Or.inr (by omega)
              · rw [ents_del]
                unfold delE
                rw [HI.out]
            clear hg6 hq6 hn6 hg5 hq5 hn5 k7 f7 hHeld
            go_wp2
            exact HRES.out
          exact AllReadyH.nil
        exact AllReadyH.nil
      exact AllReadyH.nil
  · rw [decide_eq_false hmem]
    have HR : Hid (POST (.returned (.int .i64 15)) w2) := by
      rw [← HPOST.out]
      exact Or.inl ⟨hmem, rfl, HQ2.out⟩
    clear hmem hq2
    go_wp2
    exact HR.out

end Go.Proofs.Ytbeenpobppkhdaa
