/- number of the empty text: it is none. No condition. -/
import Derived.Test.YtpopoaopohngbaaGreatDoorShBytes
import Derived.Test.YtpopoaopohngbaaGreatDoorLast
set_option linter.unusedVariables false
set_option linter.unusedSimpArgs false
namespace Go.Proofs.YtpopoaopohngbaaGreatDoor
open Go.RowKit Go.Lap

/-- strconv.ErrSyntax's cell is there. -/
def ErrThere (w : World) : Prop := ∃ (t : TypeId) (x : Value), w.cell? ⟨1, 0, none⟩ = some (.iface t x)
theorem ErrThere.kept {w w' : World} (h : ErrThere w) (hq : Quiet w w') : ErrThere w' := by
  obtain ⟨t, v, h1⟩ := h
  exact ⟨t, v, hq.cell h1 (fun x => x)⟩

set_option maxHeartbeats 1000000 in
set_option maxRecDepth 100000 in
theorem parseInt_empty (w : World) :
    Calls Tryz.prog 79 #[.string ⟨#[]⟩, .int .i64 10, .int .i64 0] w fun e w' => e = .returned (.tuple #[.int .i64 0, .iface 169 (.int .i64 2)]) ∧ w = w' := by
  go_enter Tryz.func79, Tryz.ntmps79
  go_wp2
  go_ret2
  exact ⟨rfl, rfl⟩
set_option maxHeartbeats 1000000 in
set_option maxRecDepth 100000 in
theorem atoi_in_empty (w : World) :
    Calls Tryz.prog 54 #[.string ⟨#[]⟩] w fun e w' => e = .returned (.tuple #[.int .i64 0, .iface 169 (.int .i64 2)]) ∧ w = w' := by
  go_enter Tryz.func54, Tryz.ntmps54
  go_wp2_with fail
  refine (parseInt_empty _).mono ?_
  rintro e w' ⟨rfl, rfl⟩
  go_wp2
  go_ret2
  exact ⟨rfl, rfl⟩
set_option maxHeartbeats 1000000 in
set_option maxRecDepth 100000 in
theorem clone_empty (w : World) : Calls Tryz.prog 110 #[.string ⟨#[]⟩] w fun e w' => e = .returned (.string ⟨#[]⟩) ∧ w = w' := by
  go_enter Tryz.func110, Tryz.ntmps110
  go_wp2
  go_ret
  exact ⟨rfl, rfl⟩
/-- an error's value -/
def ErrPost (w : World) (e : Ending) (w' : World) : Prop := (∃ b : Nat, e = .returned (.pointer (some ⟨b, 0, none⟩))) ∧ Quiet w w'
set_option maxHeartbeats 1000000 in
set_option maxRecDepth 100000 in
theorem syntax_empty {w : World} (fn : ByteArray) (h : ErrThere w) : Calls Tryz.prog 80 #[.string fn, .string ⟨#[]⟩] w (ErrPost w) := by
  obtain ⟨t, v, hv⟩ := h
  go_enter Tryz.func80, Tryz.ntmps80
  go_upto_region 1 with fail
  refine wp_region_held_drew (S := (fun w' => w'.cell? ⟨1, 0, none⟩ = some (.iface t v))) (by kernel_rfl) (((Only.refl (fun _ => False) w).drew).cell hv (fun x => x)) (fun hHeld => ?_)
  simp only [List.size_toArray, List.length_cons, List.length_nil, Nat.reduceAdd]
  have q0 : Quiet w w.drew := (Only.refl _ _).drew
  generalize w.drew = d0 at q0 hHeld ⊢
  (refine wpAnyH_take (i := 0) (oi := ?_) (v := ?_) ?_ (by kernel_rfl) (by decide +kernel) (by decide +kernel) ?_ (Or.inl ⟨?_, ?_⟩) (by first | assumption | exact trivial) ?_; rotate_left 2; (focus (simp only [List.getElem?_toArray, List.getElem?_cons_zero, List.getElem?_cons_succ] <;> rfl)); (focus (exact fun _ _ _ h => h)); (focus rfl); (focus (intro w hSw; (try dsimp only at hSw); go_simp; (try with_reducible rfl); done)); (try simp only [Act.put, List.setIfInBounds_toArray, List.set_cons_zero, List.set_cons_succ]))
  (refine wpAnyH_take (i := 1) (oi := ?_) (v := ?_) ?_ (by kernel_rfl) (by decide +kernel) (by decide +kernel) ?_ (Or.inl ⟨?_, ?_⟩) (by first | assumption | exact trivial) ?_; rotate_left 2; (focus (simp only [List.getElem?_toArray, List.getElem?_cons_zero, List.getElem?_cons_succ] <;> rfl)); (focus (exact fun _ _ _ h => h)); (focus rfl); (focus (intro w hSw; (try dsimp only at hSw); go_simp; (try with_reducible rfl); done)); (try simp only [Act.put, List.setIfInBounds_toArray, List.set_cons_zero, List.set_cons_succ]))
  (refine wpAnyH_take (i := 3) (oi := ?_) (v := ?_) ?_ (by kernel_rfl) (by decide +kernel) (by decide +kernel) ?_ (Or.inl ⟨?_, ?_⟩) (by first | assumption | exact trivial) ?_; rotate_left 2; (focus (simp only [List.getElem?_toArray, List.getElem?_cons_zero, List.getElem?_cons_succ] <;> rfl)); (focus (exact fun _ _ _ h => h)); (focus rfl); (focus (intro w hSw; (try dsimp only at hSw); go_simp; (try with_reducible rfl); done)); (try simp only [Act.put, List.setIfInBounds_toArray, List.set_cons_zero, List.set_cons_succ]))
  refine wpAnyH_ready (rs := [2]) (by kernel_rfl) (by simp) ?_
  refine AllReadyH.cons (o := ?_) ?_ ?_ AllReadyH.nil
  rotate_left 1
  (focus (simp only [List.getElem?_toArray, List.getElem?_cons_zero, List.getElem?_cons_succ] <;> rfl))
  intro K hK
  go_simp
  go_at_call 110
  refine (clone_empty _).mono ?_
  rintro e d2 ⟨rfl, rfl⟩
  refine hK.out _ _ ?_ (fun hHeld => ?_)
  · exact hHeld
  clear hK K
  (try simp only [Act.put, List.setIfInBounds_toArray, List.set_cons_zero, List.set_cons_succ])
  (refine wpAnyH_take (i := 4) (oi := ?_) (v := ?_) ?_ (by kernel_rfl) (by decide +kernel) (by decide +kernel) ?_ (Or.inl ⟨?_, ?_⟩) (by first | assumption | exact trivial) ?_; rotate_left 2; (focus (simp only [List.getElem?_toArray, List.getElem?_cons_zero, List.getElem?_cons_succ] <;> rfl)); (focus (exact fun _ _ _ h => h)); (focus rfl); (focus (intro w hSw; (try dsimp only at hSw); go_simp; (try with_reducible rfl); done)); (try simp only [Act.put, List.setIfInBounds_toArray, List.set_cons_zero, List.set_cons_succ]))
  refine wpAnyH_ready (rs := [5]) (by kernel_rfl) (by simp) ?_
  refine AllReadyH.cons (o := ?_) ?_ ?_ AllReadyH.nil
  rotate_left 1
  (focus (simp only [List.getElem?_toArray, List.getElem?_cons_zero, List.getElem?_cons_succ] <;> rfl))
  intro K hK
  go_simp
  refine hK.out _ _ ?_ (fun hHeld => ?_)
  · exact (q0.alloc _).cell hv (fun x => x)
  clear hK K
  (try simp only [Act.put, List.setIfInBounds_toArray, List.set_cons_zero, List.set_cons_succ])
  have HEND : Hid (ErrPost w (.returned (.pointer (some ⟨d0.heap.size, 0, none⟩))) (d0.alloc (.cells #[.string fn, .string ⟨#[]⟩, .iface t v] 218))) := ⟨⟨_, rfl⟩, q0.alloc _⟩
  (refine wpAnyH_take (i := 6) (oi := ?_) (v := ?_) ?_ (by kernel_rfl) (by decide +kernel) (by decide +kernel) ?_ (Or.inl ⟨?_, ?_⟩) (by first | assumption | exact trivial) ?_; rotate_left 2; (focus (simp only [List.getElem?_toArray, List.getElem?_cons_zero, List.getElem?_cons_succ] <;> rfl)); (focus (exact fun _ _ _ h => h)); (focus rfl); (focus (intro w hSw; (try dsimp only at hSw); go_simp; (try with_reducible rfl); done)); (try simp only [Act.put, List.setIfInBounds_toArray, List.set_cons_zero, List.set_cons_succ]))
  refine wpAnyH_done (by kernel_rfl) ?_ _
  go_wp2
  go_ret
  exact HEND.out
theorem err2_eq (W : World) : (binOp .eql 37 (.iface 169 (.int .i64 2)) (.iface 169 (.int .i64 2))).run Tryz.prog W = .ok (.bool true) W := by kernel_rfl
set_option maxHeartbeats 1000000 in
set_option maxRecDepth 100000 in
theorem toError_empty {w : World} (fn : ByteArray) (h : ErrThere w) : Calls Tryz.prog 55 #[.string fn, .string ⟨#[]⟩, .int .i64 0, .int .i64 0, .iface 169 (.int .i64 2)] w fun e w' => (∃ b : Nat, e = .returned (.iface 172 (.pointer (some ⟨b, 0, none⟩)))) ∧ Quiet w w' := by
  have HS := Lib.hid (syntax_empty fn h)
  go_enter Tryz.func55, Tryz.ntmps55
  go_wp2
  rw [err2_eq]
  simp only [Result.andThen]
  rw [Oper.upon_value]
  go_wp2_with fail
  refine HS.out.mono ?_
  rintro e w' ⟨⟨b, rfl⟩, hq⟩
  have HQ := Lib.hid hq
  clear hq
  go_wp2
  go_ret
  exact ⟨⟨b, rfl⟩, HQ.out⟩
set_option maxHeartbeats 1000000 in
set_option maxRecDepth 100000 in
theorem atoi_empty {w : World} (h : ErrThere w) : Calls Tryz.prog 36 #[.string ⟨#[]⟩] w fun e w' => (∃ b : Nat, e = .returned (.tuple #[.int .i64 0, .iface 172 (.pointer (some ⟨b, 0, none⟩))])) ∧ Quiet w w' := by
  have HS := Lib.hid (toError_empty ⟨#[65, 116, 111, 105]⟩ h)
  go_enter Tryz.func36, Tryz.ntmps36
  go_wp2_with fail
  refine (atoi_in_empty _).mono ?_
  rintro e w' ⟨rfl, rfl⟩
  go_wp2_with fail
  refine HS.out.mono ?_
  rintro e w' ⟨⟨b, rfl⟩, hq⟩
  have HQ := Lib.hid hq
  clear hq
  go_wp2
  go_ret2
  exact ⟨⟨b, rfl⟩, HQ.out⟩
set_option maxHeartbeats 1000000 in
set_option maxRecDepth 100000 in
theorem number_empty {w : World} (h : ErrThere w) : Calls Tryz.prog 16 #[.string ⟨#[]⟩] w fun e w' => e = .returned (.tuple #[.int .i64 0, .bool false]) ∧ Quiet w w' := by
  have HS := Lib.hid (atoi_empty h)
  go_enter Tryz.func16, Tryz.ntmps16
  go_wp2_with fail
  refine HS.out.mono ?_
  rintro e w' ⟨⟨b, rfl⟩, hq⟩
  have HQ := Lib.hid hq
  clear hq
  go_wp2
  go_ret2
  exact ⟨rfl, HQ.out⟩
end Go.Proofs.YtpopoaopohngbaaGreatDoor
