/- The document's pack and Bytes. No condition. -/
import Derived.Test.YtbibmgcklilpmaaRefBytes
import Derived.Test.YtbibmgcklilpmaaLast
namespace Go.Proofs.Ytbibmgcklilpmaa
open Go.RowKit Go.Lap

section
variable {w W W2 W3 : World} {v v3 : Value} {l l2 : List Nat} {n m : Nat}

theorem fresh_own (h : Fresh w W v l) (hn : l.length = n) : W.ownsRow 0 5 1 v n (bytesV l) := by rw [← hn]; exact h.own

theorem fresh_rd {A : Option Addr} {c : Nat} (h : Fresh w W (.slice A n c) l) (hn : l.length = n) : Rd W (fun k => (Value.slice A n c).ownBlock = some k) 1 A n (bytesV l) := by
  obtain ⟨A', c', e, _, _, r⟩ := own_form (fresh_own h hn)
  have e1 := (Value.slice.inj e).1
  rw [← e1] at r
  exact r

theorem Fresh.undrew (h : Fresh w.drew W v l) : Fresh w W v l := ⟨((Only.refl _ _).drew).trans h.quiet, h.new, h.own⟩

theorem Fresh.app (h : Fresh w W v l) (hq : Quiet W W2) (hn : l.length = n) (hm : l2.length = m) (hg : Grew W2 W3 5 1 v v3 (n + m) (bytesV l ++ bytesV l2)) : Fresh w W3 v3 (l ++ l2) := by
  refine ⟨(h.quiet.trans hq).trans' hg.only (fun k2 hk2 e => by have := h.new k2 e; omega), fun k2 e => ?_, ?_⟩
  · rcases hg.loc with x | x
    · rw [x] at e; exact h.new k2 e
    · rw [x] at e; injection e with e; have := h.quiet.size; have := hq.size; omega
  · rw [List.length_append, hn, hm, bytesV_append]
    exact hg.own
end

set_option maxHeartbeats 2000000 in
set_option maxRecDepth 100000 in
theorem rpack_any (t : Tup) (A : Option Addr) (cap : Nat) (S : Nat → Prop) (w : World) (ht : t.Ok) (hd : Rd w S 1 A t.data.length (bytesV t.data)) :
    Calls Try.prog 100 #[tupV t A cap] w (FreshPost w (verL t)) := by
  unfold tupV
  have hbd := ht.bounds
  have HQ0 : Hid (Quiet w (w.alloc (.cells #[.int .u64 (t.row : Int), .int .u64 (t.xmin : Int), .int .u64 (t.xmax : Int), .int .i64 t.pg, .int .i64 t.sl, .slice A t.data.length cap] 54))) := Lib.hid ((Only.refl _ _).alloc _)
  have HBX := Lib.hid (alloc_new w (.cells #[.int .u64 (t.row : Int), .int .u64 (t.xmin : Int), .int .u64 (t.xmax : Int), .int .i64 t.pg, .int .i64 t.sl, .slice A t.data.length cap] 54))
  have HD := Lib.hid (hd.kept HQ0.out (fun _ _ x => x))
  clear hd ht
  go_enter Try.func100, Try.ntmps100
  go_upto_region 1 with (fail)
  generalize w.alloc (.cells #[.int .u64 (t.row : Int), .int .u64 (t.xmin : Int), .int .u64 (t.xmax : Int), .int .i64 t.pg, .int .i64 t.sl, .slice A t.data.length cap] 54) = w1 at HQ0 HBX HD ⊢
  generalize w.heap.size = bt at HBX ⊢
  have HS : Hid (∀ W : World, Quiet w1 W → (fun w' => w'.cell? ⟨bt, 0, none⟩ = some (.int .u64 (t.row : Int)) ∧ w'.cell? ⟨bt, 1, none⟩ = some (.int .u64 (t.xmin : Int))) W) := Lib.hid (fun W hq => by
    obtain ⟨a0, a1, a2, a3, a4, a5⟩ := box_cells (hq.get HBX.out (fun x => x))
    exact ⟨a0, a1⟩)
  refine wp_region_held_drew (S := (fun w' => w'.cell? ⟨bt, 0, none⟩ = some (.int .u64 (t.row : Int)) ∧ w'.cell? ⟨bt, 1, none⟩ = some (.int .u64 (t.xmin : Int)))) (by kernel_rfl) (HS.out _ (Only.refl (fun _ => False) w1).drew) (fun hHeld => ?_)
  simp only [List.size_toArray, List.length_cons, List.length_nil, Nat.reduceAdd]
  (refine wpAnyH_take (i := 0) (oi := ?_) (v := ?_) ?_ (by kernel_rfl) (by decide +kernel) (by decide +kernel) ?_ (Or.inl ⟨?_, ?_⟩) (by first | assumption | exact trivial) ?_; rotate_left 2; (focus (simp only [List.getElem?_toArray, List.getElem?_cons_zero, List.getElem?_cons_succ] <;> rfl)); (focus (exact fun _ _ _ h => h)); (focus rfl); (focus (intro w hSw; (try dsimp only at hSw); go_simp; (try with_reducible rfl); done)); (try simp only [Act.put, List.setIfInBounds_toArray, List.set_cons_zero, List.set_cons_succ]))
  (refine wpAnyH_take (i := 1) (oi := ?_) (v := ?_) ?_ (by kernel_rfl) (by decide +kernel) (by decide +kernel) ?_ (Or.inl ⟨?_, ?_⟩) (by first | assumption | exact trivial) ?_; rotate_left 2; (focus (simp only [List.getElem?_toArray, List.getElem?_cons_zero, List.getElem?_cons_succ] <;> rfl)); (focus (exact fun _ _ _ h => h)); (focus rfl); (focus (intro w hSw; (try dsimp only at hSw); go_simp; (try with_reducible rfl); done)); (try simp only [Act.put, List.setIfInBounds_toArray, List.set_cons_zero, List.set_cons_succ]))
  (refine wpAnyH_take (i := 3) (oi := ?_) (v := ?_) ?_ (by kernel_rfl) (by decide +kernel) (by decide +kernel) ?_ (Or.inl ⟨?_, ?_⟩) (by first | assumption | exact trivial) ?_; rotate_left 2; (focus (simp only [List.getElem?_toArray, List.getElem?_cons_zero, List.getElem?_cons_succ] <;> rfl)); (focus (exact fun _ _ _ h => h)); (focus rfl); (focus (intro w hSw; (try dsimp only at hSw); go_simp; (try with_reducible rfl); done)); (try simp only [Act.put, List.setIfInBounds_toArray, List.set_cons_zero, List.set_cons_succ]))
  (refine wpAnyH_take (i := 4) (oi := ?_) (v := ?_) ?_ (by kernel_rfl) (by decide +kernel) (by decide +kernel) ?_ (Or.inl ⟨?_, ?_⟩) (by first | assumption | exact trivial) ?_; rotate_left 2; (focus (simp only [List.getElem?_toArray, List.getElem?_cons_zero, List.getElem?_cons_succ] <;> rfl)); (focus (exact fun _ _ _ h => h)); (focus rfl); (focus (intro w hSw; (try dsimp only at hSw); go_simp; (try with_reducible rfl); done)); (try simp only [Act.put, List.setIfInBounds_toArray, List.set_cons_zero, List.set_cons_succ]))
  refine wpAnyH_ready (rs := [2]) (by kernel_rfl) (by simp) ?_
  refine AllReadyH.cons (o := ?_) ?_ ?_ AllReadyH.nil
  rotate_left 1
  (focus (simp only [List.getElem?_toArray, List.getElem?_cons_zero, List.getElem?_cons_succ] <;> rfl))
  intro K hK
  go_simp
  go_at_call 99
  refine (few_bytes t.row 8 _ (by omega) (by omega)).mono ?_
  rintro e w2 ⟨v2, rfl, hf2⟩
  obtain ⟨A2, c2, hv2, _, _, _⟩ := own_form hf2.own
  rw [leB_len] at hv2
  subst hv2
  have hq2 := ((Only.refl (fun _ => False) w1).drew).trans hf2.quiet
  dsimp only
  refine hK.out _ _ ?_ (fun hHeld => ?_)
  · exact HS.out _ hq2
  clear hK K
  (try simp only [Act.put, List.setIfInBounds_toArray, List.set_cons_zero, List.set_cons_succ])
  refine wpAnyH_ready (rs := [5]) (by kernel_rfl) (by simp) ?_
  refine AllReadyH.cons (o := ?_) ?_ ?_ AllReadyH.nil
  rotate_left 1
  (focus (simp only [List.getElem?_toArray, List.getElem?_cons_zero, List.getElem?_cons_succ] <;> rfl))
  intro K hK
  go_simp
  go_at_call 99
  refine (few_bytes t.xmin 8 _ (by omega) (by omega)).mono ?_
  rintro e w3 ⟨v3, rfl, hf3⟩
  obtain ⟨A3, c3, hv3, _, _, _⟩ := own_form hf3.own
  rw [leB_len] at hv3
  subst hv3
  have hq3 := hq2.trans hf3.quiet
  dsimp only
  refine hK.out _ _ ?_ (fun hHeld => ?_)
  · exact HS.out _ hq3
  clear hK K
  (try simp only [Act.put, List.setIfInBounds_toArray, List.set_cons_zero, List.set_cons_succ])
  refine wpAnyH_ready (rs := [6]) (by kernel_rfl) (by simp) ?_
  refine AllReadyH.cons (o := ?_) ?_ ?_ AllReadyH.nil
  rotate_left 1
  (focus (simp only [List.getElem?_toArray, List.getElem?_cons_zero, List.getElem?_cons_succ] <;> rfl))
  intro K hK
  refine app_step elem_u8 rfl (.tmp 6) (.tmp 9) rfl rfl (owns_kept (fresh_own hf2 (leB_len _ _)) hf3.quiet (fun _ _ x => x)) rfl (fresh_rd hf3 (leB_len _ _)) (one_bytes _) (by unfold maxLen; omega) (by omega) ?_
  intro v4 w4 hg4
  have HF4 := Lib.hid ((Fresh.undrew hf2).app (n := 8) (m := 8) hf3.quiet (leB_len _ _) (leB_len _ _) hg4)
  refine hK.out _ _ ?_ (fun hHeld => ?_)
  · exact HS.out _ HF4.out.quiet
  clear hK K
  (try simp only [Act.put, List.setIfInBounds_toArray, List.set_cons_zero, List.set_cons_succ])
  refine wpAnyH_ready (rs := [7]) (by kernel_rfl) (by simp) ?_
  refine AllReadyH.cons (o := ?_) ?_ ?_ AllReadyH.nil
  rotate_left 1
  (focus (simp only [List.getElem?_toArray, List.getElem?_cons_zero, List.getElem?_cons_succ] <;> rfl))
  intro K hK
  go_simp
  refine hK.out _ _ ?_ (fun hHeld => ?_)
  · exact HS.out _ HF4.out.quiet
  clear hK K
  (try simp only [Act.put, List.setIfInBounds_toArray, List.set_cons_zero, List.set_cons_succ])
  refine wpAnyH_done (by kernel_rfl) ?_ _
  clear hHeld hf2 hf3 hg4 hq2 hq3 HS
  have hl4 : (leB t.row 8 ++ leB t.xmin 8).length = 16 := by rw [List.length_append, leB_len, leB_len]
  generalize hL4 : leB t.row 8 ++ leB t.xmin 8 = L4 at HF4 hl4
  have HL4 := Lib.hid hL4
  obtain ⟨A4, c4, hv4, _, _, _⟩ := own_form HF4.out.own
  rw [hl4] at hv4
  subst hv4
  have HLN4 := Lib.hid hl4
  obtain ⟨b0, b1, b2, b3, b4, b5⟩ := box_cells (HF4.out.quiet.get HBX.out (fun x => x))
  clear hL4 hl4
  go_wp2_with fail
  refine (few_bytes t.xmax 8 _ (by omega) (by omega)).mono ?_
  rintro e w5 ⟨v5, rfl, hf5⟩
  obtain ⟨A5, c5, hv5, _, _, _⟩ := own_form hf5.own
  rw [leB_len] at hv5
  subst hv5
  have HF5 := Lib.hid hf5
  have HO5 := Lib.hid (owns_kept (fresh_own HF4.out HLN4.out) hf5.quiet (fun _ _ x => x))
  have HR5 := Lib.hid (fresh_rd hf5 (leB_len _ _))
  clear hf5 b0 b1 b2 b3 b4 b5
  go_wp2_with (at_builtin; go_must (refine app elem_u8 rfl (.tmp 11) (.tmp 14) rfl rfl HO5.out rfl HR5.out (one_bytes _) (by unfold maxLen; omega) (by omega) ?_))
  intro v6 w6 hg6
  have HF6 := Lib.hid (HF4.out.app (n := 16) (m := 8) HF5.out.quiet HLN4.out (leB_len _ _) hg6)
  have hl6 : (L4 ++ leB t.xmax 8).length = 24 := by rw [List.length_append, leB_len, HLN4.out]
  generalize hL6 : L4 ++ leB t.xmax 8 = L6 at HF6 hl6
  have HL6 := Lib.hid hL6
  obtain ⟨A6, c6, hv6, _, _, _⟩ := own_form HF6.out.own
  rw [hl6] at hv6
  subst hv6
  have HLN6 := Lib.hid hl6
  obtain ⟨b0, b1, b2, b3, b4, b5⟩ := box_cells (HF6.out.quiet.get HBX.out (fun x => x))
  obtain ⟨pn, hpn⟩ : ∃ pn, (t.pg + 1).toNat = pn := ⟨_, rfl⟩
  have hw1 : IntKind.u64.wrap (t.pg + 1) = (pn : Int) := by
    have := wrap_next t.pg (by omega) (by omega)
    rw [IntKind.wrap_i64] at this
    rw [← hpn, ← this]
    congr 1
    omega
  have HPN := Lib.hid hpn
  clear hL6 hl6 hg6 HF4 HF5 HO5 HR5 hpn
  go_wp2_with fail
  refine (few_bytes pn 4 _ (by have := HPN.out; omega) (by omega)).mono ?_
  rintro e w7 ⟨v7, rfl, hf7⟩
  obtain ⟨A7, c7, hv7, _, _, _⟩ := own_form hf7.own
  rw [leB_len] at hv7
  subst hv7
  have HF7 := Lib.hid hf7
  have HO7 := Lib.hid (owns_kept (fresh_own HF6.out HLN6.out) hf7.quiet (fun _ _ x => x))
  have HR7 := Lib.hid (fresh_rd hf7 (leB_len _ _))
  clear hf7 b0 b1 b2 b3 b4 b5 hw1
  go_wp2_with (at_builtin; go_must (refine app elem_u8 rfl (.tmp 16) (.tmp 22) rfl rfl HO7.out rfl HR7.out (one_bytes _) (by unfold maxLen; omega) (by omega) ?_))
  intro v8 w8 hg8
  have HF8 := Lib.hid (HF6.out.app (n := 24) (m := 4) HF7.out.quiet HLN6.out (leB_len _ _) hg8)
  have hl8 : (L6 ++ leB pn 4).length = 28 := by rw [List.length_append, leB_len, HLN6.out]
  generalize hL8 : L6 ++ leB pn 4 = L8 at HF8 hl8
  have HL8 := Lib.hid hL8
  obtain ⟨A8, c8, hv8, _, _, _⟩ := own_form HF8.out.own
  rw [hl8] at hv8
  subst hv8
  have HLN8 := Lib.hid hl8
  obtain ⟨b0, b1, b2, b3, b4, b5⟩ := box_cells (HF8.out.quiet.get HBX.out (fun x => x))
  obtain ⟨sn, hsn⟩ : ∃ sn, (t.sl + 1).toNat = sn := ⟨_, rfl⟩
  have hw2 : IntKind.u64.wrap (t.sl + 1) = (sn : Int) := by
    have := wrap_next t.sl (by omega) (by omega)
    rw [IntKind.wrap_i64] at this
    rw [← hsn, ← this]
    congr 1
    omega
  have HSN := Lib.hid hsn
  clear hL8 hl8 hg8 HF6 HF7 HO7 HR7 hsn
  go_wp2_with fail
  refine (few_bytes sn 2 _ (by have := HSN.out; omega) (by omega)).mono ?_
  rintro e w9 ⟨v9, rfl, hf9⟩
  obtain ⟨A9, c9, hv9, _, _, _⟩ := own_form hf9.own
  rw [leB_len] at hv9
  subst hv9
  have HF9 := Lib.hid hf9
  have HO9 := Lib.hid (owns_kept (fresh_own HF8.out HLN8.out) hf9.quiet (fun _ _ x => x))
  have HR9 := Lib.hid (fresh_rd hf9 (leB_len _ _))
  clear hf9 b0 b1 b2 b3 b4 b5 hw2
  go_wp2_with (at_builtin; go_must (refine app elem_u8 rfl (.tmp 24) (.tmp 30) rfl rfl HO9.out rfl HR9.out (one_bytes _) (by unfold maxLen; omega) (by omega) ?_))
  intro v10 w10 hg10
  have HF10 := Lib.hid (HF8.out.app (n := 28) (m := 2) HF9.out.quiet HLN8.out (leB_len _ _) hg10)
  have hl10 : (L8 ++ leB sn 2).length = 30 := by rw [List.length_append, leB_len, HLN8.out]
  generalize hL10 : L8 ++ leB sn 2 = L10 at HF10 hl10
  have HL10 := Lib.hid hL10
  obtain ⟨A10, c10, hv10, _, _, _⟩ := own_form HF10.out.own
  rw [hl10] at hv10
  subst hv10
  have HLN10 := Lib.hid hl10
  obtain ⟨b0, b1, b2, b3, b4, b5⟩ := box_cells (HF10.out.quiet.get HBX.out (fun x => x))
  have HRD := Lib.hid (HD.out.kept HF10.out.quiet (fun _ _ x => x))
  have HO10 := Lib.hid (fresh_own HF10.out HLN10.out)
  clear hL10 hl10 hg10 HF8 HF9 HO9 HR9
  go_wp2_with (at_builtin; go_must (refine app elem_u8 rfl (.tmp 32) (.tmp 34) rfl rfl HO10.out rfl HRD.out (one_bytes _) (by unfold maxLen; omega) (by omega) ?_))
  intro v11 w11 hg11
  have HF11 := Lib.hid (HF10.out.app (n := 30) (m := t.data.length) (Only.refl _ _) HLN10.out rfl hg11)
  have HFIN : Hid (Fresh w w11 v11 (verL t)) := Lib.hid (by
    have h := HF11.out
    have hz := HQ0.out.size
    have e : L10 ++ t.data = verL t := by
      unfold verL
      rw [HPN.out, HSN.out, ← HL10.out, ← HL8.out, ← HL6.out, ← HL4.out]
    rw [e] at h
    exact ⟨HQ0.out.trans h.quiet, fun k e => by have := h.new k e; omega, h.own⟩)
  clear hg11 HF11 HO10 HRD b0 b1 b2 b3 b4 b5
  go_wp2
  go_ret
  exact ⟨_, rfl, HFIN.out⟩

end Go.Proofs.Ytbibmgcklilpmaa
