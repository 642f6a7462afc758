/- TreePlays: every script of entries that come and go has the document's entries. For every input. -/
import Derived.Test.YtbeenpobppkhdaaTPlayNil
namespace Go.Lap
/-- What reads lies in memory. -/
theorem Rd.lim {w : World} {S : Nat → Prop} {size n : Nat} {A : Option Addr} {xs : List Value} (h : Rd w S size A n xs) : Rd w (fun k => k < w.heap.size) size A n xs :=
  ⟨h.len, fun hn => by
    obtain ⟨b, off, e, _, hc⟩ := h.cells hn
    obtain ⟨u, hu⟩ : ∃ u, xs[0]? = some u := ⟨_, List.getElem?_eq_getElem hn⟩
    exact ⟨b, off, e, cell_lt (hc 0 u hu), hc⟩⟩
end Go.Lap
namespace Go.Proofs.Ytbeenpobppkhdaa
open Go.RowKit Go.Lap

set_option maxHeartbeats 16000000 in
set_option maxRecDepth 100000 in
theorem treePlays_two (A : Option Addr) (n cap : Nat) (k2 k3 : List Nat) (A2 A3 : Option Addr) (cap2 cap3 : Nat) (w : World) (h : OpsIn w w.heap.size A n) (hn : n ≤ cap) (hcap : cap ≤ maxLen) (hk1 : k2.length ≤ cap2) (hk2 : cap2 ≤ maxLen) (hkb : ∀ x ∈ k2, x < 256) (hkr : Rd w (· < w.heap.size) 1 A2 k2.length (bytesV k2)) (hm1 : k3.length ≤ cap3) (hm2 : cap3 ≤ maxLen) (hmb : ∀ x ∈ k3, x < 256) (hmr : Rd w (· < w.heap.size) 1 A3 k3.length (bytesV k3)) :
    Calls Try.prog 8 #[.bool false, .slice A n cap, .slice A2 k2.length cap2, .slice A3 k3.length cap3] w fun e w' => e = .returned (.bool true) ∧ Below w.heap.size w w' := by
  unfold maxLen at hcap
  have HI := Lib.hid h
  have HCF := Lib.hid (fun (W : World) (hq : Quiet w W) => cut_any A2 k2.length cap2 60 k2 (· < w.heap.size) W (hkr.kept hq (fun _ _ x => x)) rfl hk1 hk2 (by omega))
  have HCT := Lib.hid (fun (W : World) (hq : Quiet w W) => cut_any A3 k3.length cap3 60 k3 (· < w.heap.size) W (hmr.kept hq (fun _ _ x => x)) rfl hm1 hm2 (by omega))
  have HBF : Hid (∀ x ∈ k2.take 60, x < 256) := fun x hx => hkb x (List.mem_of_mem_take hx)
  have HBT : Hid (∀ x ∈ k3.take 60, x < 256) := fun x hx => hmb x (List.mem_of_mem_take hx)
  clear h hk1 hk2 hkr hm1 hm2 hmr hkb hmb
  go_enter Try.func8, Try.ntmps8
  go_wp2_with fail
  refine (awake8 _).mono ?_
  rintro e w1 ⟨rfl, hq1⟩
  have HQ1 := Lib.hid hq1
  clear hq1
  go_wp2_with fail
  refine (HCF.out w1 HQ1.out).mono ?_
  rintro e w2 ⟨v2, rfl, hf2⟩
  have HQ2 := Lib.hid (HQ1.out.trans hf2.quiet)
  obtain ⟨fl, hfl⟩ : ∃ fl, k2.take 60 = fl := ⟨_, rfl⟩
  rw [hfl] at hf2 HBF
  obtain ⟨Af, cf, hvf, _, _, hrf⟩ := own_form hf2.own
  subst hvf
  have HRF := Lib.hid hrf
  clear hf2 hrf hfl
  go_wp2_with fail
  refine (HCT.out w2 HQ2.out).mono ?_
  rintro e w3 ⟨v3, rfl, hf3⟩
  have HQ3 := Lib.hid (HQ2.out.trans hf3.quiet)
  obtain ⟨tl, htl⟩ : ∃ tl, k3.take 60 = tl := ⟨_, rfl⟩
  rw [htl] at hf3 HBT
  obtain ⟨At, ct, hvt, _, _, hrt⟩ := own_form hf3.own
  subst hvt
  have HRF3 := Lib.hid ((HRF.out.kept hf3.quiet (fun _ _ x => x)).mono (T := fun _ => True) (fun _ _ => trivial))
  have HRT3 := Lib.hid (hrt.mono (T := fun _ => True) (fun _ _ => trivial))
  clear hf3 HCF HCT hrt htl HRF
  go_wp2_with fail
  refine (new_any w3).mono ?_
  rintro e w4 ⟨rfl, hq4, h40, h41⟩
  have HS0 := Lib.hid (PairW.start (Only.refl (fun _ => False) w3) hq4 h40 h41)
  clear hq4 h40 h41
  go_wp2_with fail
  generalize w4.alloc (.cells #[.slice none 0 0] 45) = w5 at HS0 ⊢
  generalize w3.heap.size + 1 = tb at HS0 ⊢
  generalize w4.heap.size = xb at HS0 ⊢
  go_loopw [30, 11, 12, 13, 14, 15, 16, 17] (fun c _ _ _ _ _ _ _ wr => ∃ (i : Nat) (es : List Ent), i ≤ n ∧ i ≤ 200 ∧ c = .int .i64 (i : Int) ∧ es.length ≤ i ∧ (∀ e ∈ es, Wf (e.pg, e.sl)) ∧ PairW w3 wr (fun _ => False) tb xb es es) (fun c _ _ _ _ _ _ _ _ => n - (intOf c).toNat)
  case atStart => exact ⟨0, [], Nat.zero_le _, Nat.zero_le _, rfl, Nat.le_refl _, (fun e he => by cases he), HS0.out⟩
  case round =>
    obtain ⟨i, es, hi, hi2, rfl, hel, hwe, hS⟩ := hrel
    have HPW := Lib.hid hS
    have HWE := Lib.hid hwe
    have HQ : Hid (Quiet w wr) := HQ3.out.trans hS.quiet
    have hq := HQ.out
    clear HS0 hS hwe
    by_cases hlt : i < n
    · obtain ⟨b, off, o, rfl, hb, hok, c0, c1, c2, c3, c4⟩ := HI.out.kept (onward (Below.refl _ _) (Nat.le_refl _) hq (fun _ x => x.elim)) i hlt
      clear hq
      have HQA := Lib.hid (HQ.out.alloc (.cells #[.int .u8 (o.d : Int), .slice o.A o.key.length o.cap, .int .i64 o.pg, .int .i64 o.sl, .slice o.B o.m o.c2] 55))
      have HBO := Lib.hid (alloc_new wr (.cells #[.int .u8 (o.d : Int), .slice o.A o.key.length o.cap, .int .i64 o.pg, .int .i64 o.sl, .slice o.B o.m o.c2] 55))
      have HOA := Lib.hid (hok.kept ((Only.refl (fun _ => False) wr).alloc (.cells #[.int .u8 (o.d : Int), .slice o.A o.key.length o.cap, .int .i64 o.pg, .int .i64 o.sl, .slice o.B o.m o.c2] 55)) (fun _ x => x.elim))
      have HQR := Lib.hid ((Only.refl (fun _ => False) wr).alloc (.cells #[.int .u8 (o.d : Int), .slice o.A o.key.length o.cap, .int .i64 o.pg, .int .i64 o.sl, .slice o.B o.m o.c2] 55))
      have HWF := Lib.hid hok.wf
      have d0 : (0 : Int) ≤ (i : Int) := by omega
      have d1 : (i : Int) < (n : Int) := by omega
      clear hok
      obtain ⟨s0, hs0⟩ : ∃ s0, wr.heap.size = s0 := ⟨_, rfl⟩
      have HSZ : Hid (w3.heap.size ≤ s0) := by show w3.heap.size ≤ s0; rw [← hs0]; exact HPW.out.quiet.size
      have HS00 := Lib.hid hs0
      clear hs0
      by_cases h200 : i < 200
      · go_upto_region 11 with fail
        clear c0 c1 c2 c3 c4
        generalize wr.alloc (.cells #[.int .u8 (o.d : Int), .slice o.A o.key.length o.cap, .int .i64 o.pg, .int .i64 o.sl, .slice o.B o.m o.c2] 55) = wa at HQA HBO HOA HQR ⊢
        generalize wr.heap.size = ob at HBO ⊢
        obtain ⟨k5, hk5⟩ : ∃ k5, o.key.take 610 = k5 := ⟨_, rfl⟩
        have hk5l : k5.length ≤ 610 := by rw [← hk5, List.length_take]; omega
        have HK5B : Hid (∀ x ∈ k5, x < 256) := fun x hx => HOA.out.kb x (by rw [← hk5] at hx; exact List.mem_of_mem_take hx)
        have HCU : Hid (∀ W, Quiet wa W → Calls Try.prog 10 #[.slice o.A o.key.length o.cap, .int .i64 610] W (FreshPost W k5)) := fun W hq => by
          have := cut_any o.A o.key.length o.cap 610 o.key _ W (HOA.out.kr.kept hq (fun _ _ x => x)) rfl HOA.out.kc HOA.out.km (by omega)
          rw [hk5] at this
          exact this
        obtain ⟨o0, o1, o2, o3, o4⟩ := op_cells HBO.out
        have hob := lt_of_get HBO.out
        clear hk5
        go_cut [13] (fun s13 wx => ∃ bx A5 c5, s13 = ptrV bx ∧ EBox wa wx bx 31 k5 o.pg o.sl A5 c5)
        case first =>
          have HS : Hid (∀ W', Quiet wa W' → (fun w' => w'.cell? ⟨ob, 1, none⟩ = some (.slice o.A o.key.length o.cap) ∧ w'.cell? ⟨ob, 2, none⟩ = some (.int .i64 o.pg) ∧ w'.cell? ⟨ob, 3, none⟩ = some (.int .i64 o.sl)) W') := fun W' hq => ⟨hq.cell o1 (fun x => x), hq.cell o2 (fun x => x), hq.cell o3 (fun x => x)⟩
          refine wp_region_last (S := (fun w' => w'.cell? ⟨ob, 1, none⟩ = some (.slice o.A o.key.length o.cap) ∧ w'.cell? ⟨ob, 2, none⟩ = some (.int .i64 o.pg) ∧ w'.cell? ⟨ob, 3, none⟩ = some (.int .i64 o.sl))) (by kernel_rfl) (by kernel_rfl) (by simp) (⟨o1, o2, o3⟩) (fun hHeld => ?_)
          simp only [List.pop_toArray, List.dropLast, List.size_toArray, List.length_cons, List.length_nil, Nat.reduceAdd, Nat.reduceSub]
          (refine wpAnyH_take (i := 0) (oi := ?_) (v := ?_) ?_ (by kernel_rfl) (by decide +kernel) (by decide +kernel) ?_ (Or.inl ⟨?_, ?_⟩) (by assumption) ?_; rotate_left 2; (focus (simp only [List.getElem?_toArray, List.getElem?_cons_zero, List.getElem?_cons_succ] <;> rfl)); (focus (exact fun _ _ _ => last_panic (fun h => h))); (focus rfl); (focus (intro w hSw; (try dsimp only at hSw); go_simp; (try with_reducible rfl); done)); (try simp only [Act.put, List.setIfInBounds_toArray, List.set_cons_zero, List.set_cons_succ]))
          (refine wpAnyH_take (i := 1) (oi := ?_) (v := ?_) ?_ (by kernel_rfl) (by decide +kernel) (by decide +kernel) ?_ (Or.inl ⟨?_, ?_⟩) (by assumption) ?_; rotate_left 2; (focus (simp only [List.getElem?_toArray, List.getElem?_cons_zero, List.getElem?_cons_succ] <;> rfl)); (focus (exact fun _ _ _ => last_panic (fun h => h))); (focus rfl); (focus (intro w hSw; (try dsimp only at hSw); go_simp; (try with_reducible rfl); done)); (try simp only [Act.put, List.setIfInBounds_toArray, List.set_cons_zero, List.set_cons_succ]))
          (refine wpAnyH_take (i := 2) (oi := ?_) (v := ?_) ?_ (by kernel_rfl) (by decide +kernel) (by decide +kernel) ?_ (Or.inl ⟨?_, ?_⟩) (by assumption) ?_; rotate_left 2; (focus (simp only [List.getElem?_toArray, List.getElem?_cons_zero, List.getElem?_cons_succ] <;> rfl)); (focus (exact fun _ _ _ => last_panic (fun h => h))); (focus rfl); (focus (intro w hSw; (try dsimp only at hSw); go_simp; (try with_reducible rfl); done)); (try simp only [Act.put, List.setIfInBounds_toArray, List.set_cons_zero, List.set_cons_succ]))
          (refine wpAnyH_take (i := 4) (oi := ?_) (v := ?_) ?_ (by kernel_rfl) (by decide +kernel) (by decide +kernel) ?_ (Or.inl ⟨?_, ?_⟩) (by assumption) ?_; rotate_left 2; (focus (simp only [List.getElem?_toArray, List.getElem?_cons_zero, List.getElem?_cons_succ] <;> rfl)); (focus (exact fun _ _ _ => last_panic (fun h => h))); (focus rfl); (focus (intro w hSw; (try dsimp only at hSw); go_simp; (try with_reducible rfl); done)); (try simp only [Act.put, List.setIfInBounds_toArray, List.set_cons_zero, List.set_cons_succ]))
          (refine wpAnyH_take (i := 5) (oi := ?_) (v := ?_) ?_ (by kernel_rfl) (by decide +kernel) (by decide +kernel) ?_ (Or.inl ⟨?_, ?_⟩) (by assumption) ?_; rotate_left 2; (focus (simp only [List.getElem?_toArray, List.getElem?_cons_zero, List.getElem?_cons_succ] <;> rfl)); (focus (exact fun _ _ _ => last_panic (fun h => h))); (focus rfl); (focus (intro w hSw; (try dsimp only at hSw); go_simp; (try with_reducible rfl); done)); (try simp only [Act.put, List.setIfInBounds_toArray, List.set_cons_zero, List.set_cons_succ]))
          (refine wpAnyH_take (i := 6) (oi := ?_) (v := ?_) ?_ (by kernel_rfl) (by decide +kernel) (by decide +kernel) ?_ (Or.inl ⟨?_, ?_⟩) (by assumption) ?_; rotate_left 2; (focus (simp only [List.getElem?_toArray, List.getElem?_cons_zero, List.getElem?_cons_succ] <;> rfl)); (focus (exact fun _ _ _ => last_panic (fun h => h))); (focus rfl); (focus (intro w hSw; (try dsimp only at hSw); go_simp; (try with_reducible rfl); done)); (try simp only [Act.put, List.setIfInBounds_toArray, List.set_cons_zero, List.set_cons_succ]))
          refine wpAnyH_ready (rs := [3, 8]) (by kernel_rfl) (by simp) ?_
          refine AllReadyH.cons (o := ?_) ?_ ?_ ?_
          rotate_left 1
          (focus (simp only [List.getElem?_toArray, List.getElem?_cons_zero, List.getElem?_cons_succ] <;> rfl))
          · intro K hK
            go_simp
            go_at_call 10
            refine (HCU.out _ ((Only.refl (fun _ => False) wa).drew)).mono ?_
            rintro e w5 ⟨v5, rfl, hf5⟩
            obtain ⟨A5, c5, hv5, _, _, _⟩ := own_form hf5.own
            subst hv5
            have hq5 : Quiet wa w5 := ((Only.refl (fun _ => False) wa).drew).trans hf5.quiet
            dsimp only
            refine hK.out _ _ ?_ (fun hHeld => ?_)
            · exact HS.out _ hq5
            clear hK K
            (try simp only [Act.put, List.setIfInBounds_toArray, List.set_cons_zero, List.set_cons_succ])
            (refine wpAnyH_take (i := 7) (oi := ?_) (v := ?_) ?_ (by kernel_rfl) (by decide +kernel) (by decide +kernel) ?_ (Or.inl ⟨?_, ?_⟩) (by assumption) ?_; rotate_left 2; (focus (simp only [List.getElem?_toArray, List.getElem?_cons_zero, List.getElem?_cons_succ] <;> rfl)); (focus (exact fun _ _ _ => last_panic (fun h => h))); (focus rfl); (focus (intro w hSw; (try dsimp only at hSw); go_simp; (try with_reducible rfl); done)); (try simp only [Act.put, List.setIfInBounds_toArray, List.set_cons_zero, List.set_cons_succ]))
            refine wpAnyH_ready (rs := [8]) (by kernel_rfl) (by simp) ?_
            refine AllReadyH.cons (o := ?_) ?_ ?_ ?_
            rotate_left 1
            (focus (simp only [List.getElem?_toArray, List.getElem?_cons_zero, List.getElem?_cons_succ] <;> rfl))
            · intro K hK
              go_simp
              refine hK.out _ _ ?_ (fun hHeld => ?_)
              · exact HS.out _ (hq5.alloc _)
              clear hK K
              (try simp only [Act.put, List.setIfInBounds_toArray, List.set_cons_zero, List.set_cons_succ])
              refine wpAnyH_done (by kernel_rfl) ?_ _
              refine last_step (o := ?_) ?_ ?_
              rotate_left 1
              (focus (simp only [List.getElem?_toArray, List.getElem?_cons_zero, List.getElem?_cons_succ] <;> rfl))
              intro K hK
              go_simp
              refine hK.out _ _ ?_
              clear hK K
              go_wp2_with fail
              go_meet
              exact ⟨_, _, _, rfl, EBox.a (Fresh.undrew hf5) _ _ _⟩
            exact AllReadyH.nil
          refine AllReadyH.cons (o := ?_) ?_ ?_ ?_
          rotate_left 1
          (focus (simp only [List.getElem?_toArray, List.getElem?_cons_zero, List.getElem?_cons_succ] <;> rfl))
          · intro K hK
            go_simp
            refine hK.out _ _ ?_ (fun hHeld => ?_)
            · exact HS.out _ (((Only.refl (fun _ => False) wa).alloc (.cells #[.slice none 0 0, .int .i64 0, .int .i64 0] 31)).drew)
            clear hK K
            (try simp only [Act.put, List.setIfInBounds_toArray, List.set_cons_zero, List.set_cons_succ])
            refine wpAnyH_ready (rs := [3]) (by kernel_rfl) (by simp) ?_
            refine AllReadyH.cons (o := ?_) ?_ ?_ ?_
            rotate_left 1
            (focus (simp only [List.getElem?_toArray, List.getElem?_cons_zero, List.getElem?_cons_succ] <;> rfl))
            · intro K hK
              go_simp
              go_at_call 10
              refine (HCU.out _ (((Only.refl (fun _ => False) wa).alloc (.cells #[.slice none 0 0, .int .i64 0, .int .i64 0] 31)).drew)).mono ?_
              rintro e w5 ⟨v5, rfl, hf5⟩
              obtain ⟨A5, c5, hv5, _, _, _⟩ := own_form hf5.own
              subst hv5
              have hq5 : Quiet wa w5 := (((Only.refl (fun _ => False) wa).alloc (.cells #[.slice none 0 0, .int .i64 0, .int .i64 0] 31)).drew).trans hf5.quiet
              dsimp only
              refine hK.out _ _ ?_ (fun hHeld => ?_)
              · exact HS.out _ hq5
              clear hK K
              (try simp only [Act.put, List.setIfInBounds_toArray, List.set_cons_zero, List.set_cons_succ])
              (refine wpAnyH_take (i := 7) (oi := ?_) (v := ?_) ?_ (by kernel_rfl) (by decide +kernel) (by decide +kernel) ?_ (Or.inl ⟨?_, ?_⟩) (by assumption) ?_; rotate_left 2; (focus (simp only [List.getElem?_toArray, List.getElem?_cons_zero, List.getElem?_cons_succ] <;> rfl)); (focus (exact fun _ _ _ => last_panic (fun h => h))); (focus rfl); (focus (intro w hSw; (try dsimp only at hSw); go_simp; (try with_reducible rfl); done)); (try simp only [Act.put, List.setIfInBounds_toArray, List.set_cons_zero, List.set_cons_succ]))
              have hzb := hf5.quiet.get (alloc_new wa (.cells #[.slice none 0 0, .int .i64 0, .int .i64 0] 31)) (fun x => x)
              have z0 : w5.cell? ⟨wa.heap.size, 0, none⟩ = some (.slice none 0 0) := (by rw [cell_of hzb]; rfl)
              have z1 : w5.cell? ⟨wa.heap.size, 1, none⟩ = some (.int .i64 0) := (by rw [cell_of hzb]; rfl)
              have z2 : w5.cell? ⟨wa.heap.size, 2, none⟩ = some (.int .i64 0) := (by rw [cell_of hzb]; rfl)
              have zf := fun o => frozen_of hzb o
              refine wpAnyH_done (by kernel_rfl) ?_ _
              refine last_step (o := ?_) ?_ ?_
              rotate_left 1
              (focus (simp only [List.getElem?_toArray, List.getElem?_cons_zero, List.getElem?_cons_succ] <;> rfl))
              intro K hK
              go_simp
              refine hK.out _ _ ?_
              clear hK K
              go_wp2_with fail
              go_meet
              exact ⟨_, _, _, rfl, EBox.b (Fresh.undrew hf5) _ _⟩
            exact AllReadyH.nil
          exact AllReadyH.nil
        case rest =>
          obtain ⟨ba, Aa, ca, rfl, hboxa⟩ := hcut
          have HEA := Lib.hid hboxa
          obtain ⟨q0, q1, q2, q3, q4⟩ := op_cells (hboxa.quiet.get HBO.out (fun x => x))
          have hobc : ob < wc.heap.size := by have := hboxa.quiet.size; omega
          have HCV : Hid (∀ W, Quiet wc W → Calls Try.prog 10 #[.slice o.A o.key.length o.cap, .int .i64 610] W (FreshPost W k5)) := fun W hq => HCU.out W (HEA.out.quiet.trans hq)
          clear hboxa o0 o1 o2 o3 o4
          go_upto_region 12 with fail
          generalize wc = wd at HEA q0 q1 q2 q3 q4 hobc HCV ⊢
          go_cut [14] (fun s14 wx => ∃ bx A5 c5, s14 = ptrV bx ∧ EBox wd wx bx 34 k5 o.pg o.sl A5 c5)
          case first =>
            have HS : Hid (∀ W', Quiet wd W' → (fun w' => w'.cell? ⟨ob, 1, none⟩ = some (.slice o.A o.key.length o.cap) ∧ w'.cell? ⟨ob, 2, none⟩ = some (.int .i64 o.pg) ∧ w'.cell? ⟨ob, 3, none⟩ = some (.int .i64 o.sl)) W') := fun W' hq => ⟨hq.cell q1 (fun x => x), hq.cell q2 (fun x => x), hq.cell q3 (fun x => x)⟩
            refine wp_region_last (S := (fun w' => w'.cell? ⟨ob, 1, none⟩ = some (.slice o.A o.key.length o.cap) ∧ w'.cell? ⟨ob, 2, none⟩ = some (.int .i64 o.pg) ∧ w'.cell? ⟨ob, 3, none⟩ = some (.int .i64 o.sl))) (by kernel_rfl) (by kernel_rfl) (by simp) (⟨q1, q2, q3⟩) (fun hHeld => ?_)
            simp only [List.pop_toArray, List.dropLast, List.size_toArray, List.length_cons, List.length_nil, Nat.reduceAdd, Nat.reduceSub]
            (refine wpAnyH_take (i := 0) (oi := ?_) (v := ?_) ?_ (by kernel_rfl) (by decide +kernel) (by decide +kernel) ?_ (Or.inl ⟨?_, ?_⟩) (by assumption) ?_; rotate_left 2; (focus (simp only [List.getElem?_toArray, List.getElem?_cons_zero, List.getElem?_cons_succ] <;> rfl)); (focus (exact fun _ _ _ => last_panic (fun h => h))); (focus rfl); (focus (intro w hSw; (try dsimp only at hSw); go_simp; (try with_reducible rfl); done)); (try simp only [Act.put, List.setIfInBounds_toArray, List.set_cons_zero, List.set_cons_succ]))
            (refine wpAnyH_take (i := 1) (oi := ?_) (v := ?_) ?_ (by kernel_rfl) (by decide +kernel) (by decide +kernel) ?_ (Or.inl ⟨?_, ?_⟩) (by assumption) ?_; rotate_left 2; (focus (simp only [List.getElem?_toArray, List.getElem?_cons_zero, List.getElem?_cons_succ] <;> rfl)); (focus (exact fun _ _ _ => last_panic (fun h => h))); (focus rfl); (focus (intro w hSw; (try dsimp only at hSw); go_simp; (try with_reducible rfl); done)); (try simp only [Act.put, List.setIfInBounds_toArray, List.set_cons_zero, List.set_cons_succ]))
            (refine wpAnyH_take (i := 2) (oi := ?_) (v := ?_) ?_ (by kernel_rfl) (by decide +kernel) (by decide +kernel) ?_ (Or.inl ⟨?_, ?_⟩) (by assumption) ?_; rotate_left 2; (focus (simp only [List.getElem?_toArray, List.getElem?_cons_zero, List.getElem?_cons_succ] <;> rfl)); (focus (exact fun _ _ _ => last_panic (fun h => h))); (focus rfl); (focus (intro w hSw; (try dsimp only at hSw); go_simp; (try with_reducible rfl); done)); (try simp only [Act.put, List.setIfInBounds_toArray, List.set_cons_zero, List.set_cons_succ]))
            (refine wpAnyH_take (i := 4) (oi := ?_) (v := ?_) ?_ (by kernel_rfl) (by decide +kernel) (by decide +kernel) ?_ (Or.inl ⟨?_, ?_⟩) (by assumption) ?_; rotate_left 2; (focus (simp only [List.getElem?_toArray, List.getElem?_cons_zero, List.getElem?_cons_succ] <;> rfl)); (focus (exact fun _ _ _ => last_panic (fun h => h))); (focus rfl); (focus (intro w hSw; (try dsimp only at hSw); go_simp; (try with_reducible rfl); done)); (try simp only [Act.put, List.setIfInBounds_toArray, List.set_cons_zero, List.set_cons_succ]))
            (refine wpAnyH_take (i := 5) (oi := ?_) (v := ?_) ?_ (by kernel_rfl) (by decide +kernel) (by decide +kernel) ?_ (Or.inl ⟨?_, ?_⟩) (by assumption) ?_; rotate_left 2; (focus (simp only [List.getElem?_toArray, List.getElem?_cons_zero, List.getElem?_cons_succ] <;> rfl)); (focus (exact fun _ _ _ => last_panic (fun h => h))); (focus rfl); (focus (intro w hSw; (try dsimp only at hSw); go_simp; (try with_reducible rfl); done)); (try simp only [Act.put, List.setIfInBounds_toArray, List.set_cons_zero, List.set_cons_succ]))
            (refine wpAnyH_take (i := 6) (oi := ?_) (v := ?_) ?_ (by kernel_rfl) (by decide +kernel) (by decide +kernel) ?_ (Or.inl ⟨?_, ?_⟩) (by assumption) ?_; rotate_left 2; (focus (simp only [List.getElem?_toArray, List.getElem?_cons_zero, List.getElem?_cons_succ] <;> rfl)); (focus (exact fun _ _ _ => last_panic (fun h => h))); (focus rfl); (focus (intro w hSw; (try dsimp only at hSw); go_simp; (try with_reducible rfl); done)); (try simp only [Act.put, List.setIfInBounds_toArray, List.set_cons_zero, List.set_cons_succ]))
            refine wpAnyH_ready (rs := [3, 8]) (by kernel_rfl) (by simp) ?_
            refine AllReadyH.cons (o := ?_) ?_ ?_ ?_
            rotate_left 1
            (focus (simp only [List.getElem?_toArray, List.getElem?_cons_zero, List.getElem?_cons_succ] <;> rfl))
            · intro K hK
              go_simp
              go_at_call 10
              refine (HCV.out _ ((Only.refl (fun _ => False) wd).drew)).mono ?_
              rintro e w5 ⟨v5, rfl, hf5⟩
              obtain ⟨A5, c5, hv5, _, _, _⟩ := own_form hf5.own
              subst hv5
              have hq5 : Quiet wd w5 := ((Only.refl (fun _ => False) wd).drew).trans hf5.quiet
              dsimp only
              refine hK.out _ _ ?_ (fun hHeld => ?_)
              · exact HS.out _ hq5
              clear hK K
              (try simp only [Act.put, List.setIfInBounds_toArray, List.set_cons_zero, List.set_cons_succ])
              (refine wpAnyH_take (i := 7) (oi := ?_) (v := ?_) ?_ (by kernel_rfl) (by decide +kernel) (by decide +kernel) ?_ (Or.inl ⟨?_, ?_⟩) (by assumption) ?_; rotate_left 2; (focus (simp only [List.getElem?_toArray, List.getElem?_cons_zero, List.getElem?_cons_succ] <;> rfl)); (focus (exact fun _ _ _ => last_panic (fun h => h))); (focus rfl); (focus (intro w hSw; (try dsimp only at hSw); go_simp; (try with_reducible rfl); done)); (try simp only [Act.put, List.setIfInBounds_toArray, List.set_cons_zero, List.set_cons_succ]))
              refine wpAnyH_ready (rs := [8]) (by kernel_rfl) (by simp) ?_
              refine AllReadyH.cons (o := ?_) ?_ ?_ ?_
              rotate_left 1
              (focus (simp only [List.getElem?_toArray, List.getElem?_cons_zero, List.getElem?_cons_succ] <;> rfl))
              · intro K hK
                go_simp
                refine hK.out _ _ ?_ (fun hHeld => ?_)
                · exact HS.out _ (hq5.alloc _)
                clear hK K
                (try simp only [Act.put, List.setIfInBounds_toArray, List.set_cons_zero, List.set_cons_succ])
                refine wpAnyH_done (by kernel_rfl) ?_ _
                refine last_step (o := ?_) ?_ ?_
                rotate_left 1
                (focus (simp only [List.getElem?_toArray, List.getElem?_cons_zero, List.getElem?_cons_succ] <;> rfl))
                intro K hK
                go_simp
                refine hK.out _ _ ?_
                clear hK K
                go_wp2_with fail
                go_meet
                exact ⟨_, _, _, rfl, EBox.a (Fresh.undrew hf5) _ _ _⟩
              exact AllReadyH.nil
            refine AllReadyH.cons (o := ?_) ?_ ?_ ?_
            rotate_left 1
            (focus (simp only [List.getElem?_toArray, List.getElem?_cons_zero, List.getElem?_cons_succ] <;> rfl))
            · intro K hK
              go_simp
              refine hK.out _ _ ?_ (fun hHeld => ?_)
              · exact HS.out _ (((Only.refl (fun _ => False) wd).alloc (.cells #[.slice none 0 0, .int .i64 0, .int .i64 0] 34)).drew)
              clear hK K
              (try simp only [Act.put, List.setIfInBounds_toArray, List.set_cons_zero, List.set_cons_succ])
              refine wpAnyH_ready (rs := [3]) (by kernel_rfl) (by simp) ?_
              refine AllReadyH.cons (o := ?_) ?_ ?_ ?_
              rotate_left 1
              (focus (simp only [List.getElem?_toArray, List.getElem?_cons_zero, List.getElem?_cons_succ] <;> rfl))
              · intro K hK
                go_simp
                go_at_call 10
                refine (HCV.out _ (((Only.refl (fun _ => False) wd).alloc (.cells #[.slice none 0 0, .int .i64 0, .int .i64 0] 34)).drew)).mono ?_
                rintro e w5 ⟨v5, rfl, hf5⟩
                obtain ⟨A5, c5, hv5, _, _, _⟩ := own_form hf5.own
                subst hv5
                have hq5 : Quiet wd w5 := (((Only.refl (fun _ => False) wd).alloc (.cells #[.slice none 0 0, .int .i64 0, .int .i64 0] 34)).drew).trans hf5.quiet
                dsimp only
                refine hK.out _ _ ?_ (fun hHeld => ?_)
                · exact HS.out _ hq5
                clear hK K
                (try simp only [Act.put, List.setIfInBounds_toArray, List.set_cons_zero, List.set_cons_succ])
                (refine wpAnyH_take (i := 7) (oi := ?_) (v := ?_) ?_ (by kernel_rfl) (by decide +kernel) (by decide +kernel) ?_ (Or.inl ⟨?_, ?_⟩) (by assumption) ?_; rotate_left 2; (focus (simp only [List.getElem?_toArray, List.getElem?_cons_zero, List.getElem?_cons_succ] <;> rfl)); (focus (exact fun _ _ _ => last_panic (fun h => h))); (focus rfl); (focus (intro w hSw; (try dsimp only at hSw); go_simp; (try with_reducible rfl); done)); (try simp only [Act.put, List.setIfInBounds_toArray, List.set_cons_zero, List.set_cons_succ]))
                have hzb := hf5.quiet.get (alloc_new wd (.cells #[.slice none 0 0, .int .i64 0, .int .i64 0] 34)) (fun x => x)
                have z0 : w5.cell? ⟨wd.heap.size, 0, none⟩ = some (.slice none 0 0) := (by rw [cell_of hzb]; rfl)
                have z1 : w5.cell? ⟨wd.heap.size, 1, none⟩ = some (.int .i64 0) := (by rw [cell_of hzb]; rfl)
                have z2 : w5.cell? ⟨wd.heap.size, 2, none⟩ = some (.int .i64 0) := (by rw [cell_of hzb]; rfl)
                have zf := fun o => frozen_of hzb o
                refine wpAnyH_done (by kernel_rfl) ?_ _
                refine last_step (o := ?_) ?_ ?_
                rotate_left 1
                (focus (simp only [List.getElem?_toArray, List.getElem?_cons_zero, List.getElem?_cons_succ] <;> rfl))
                intro K hK
                go_simp
                refine hK.out _ _ ?_
                clear hK K
                go_wp2_with fail
                go_meet
                exact ⟨_, _, _, rfl, EBox.b (Fresh.undrew hf5) _ _⟩
              exact AllReadyH.nil
            exact AllReadyH.nil
          case rest =>
            obtain ⟨bb, Ab, cb, rfl, hboxb⟩ := hcut
            have HEB := Lib.hid hboxb
            have hboxb' := hboxb
            obtain ⟨o0, o1, o2, o3, o4⟩ := op_cells (hboxb.quiet.get (HEA.out.quiet.get HBO.out (fun x => x)) (fun x => x))
            clear hboxb q0 q1 q2 q3 q4 hobc HCV HCU
            have HQD := Lib.hid (HQR.out.trans (HEA.out.quiet.trans HEB.out.quiet))
            have HPJ : Hid (PairW w3 wc (fun k => s0 ≤ k ∧ k < wc.heap.size) tb xb es es) := HPW.out.fresh HQD.out (fun k x => ⟨Or.inr (by rw [HS00.out]; exact x.1), x.2⟩)
            have HJB : Hid (s0 ≤ bb ∧ bb < wc.heap.size) := ⟨by have h1 := HEB.out.new; have h2 := HEA.out.quiet.size; have h3 := HQR.out.size; have h4 := HS00.out; omega, lt_of_get HEB.out.box⟩
            have HJA : Hid (s0 ≤ ba ∧ ba < wc.heap.size) := ⟨by have h1 := HEA.out.new; have h3 := HQR.out.size; have h4 := HS00.out; omega, by have h1 := lt_of_get HEA.out.box; have h2 := HEB.out.quiet.size; omega⟩
            have HJK : Hid (∀ k, (Value.slice Ab k5.length cb).ownBlock = some k → s0 ≤ k ∧ k < wc.heap.size) := fun k e => ⟨by have h1 := (HEB.out.rnew k e).1; have h2 := HEA.out.quiet.size; have h3 := HQR.out.size; have h4 := HS00.out; omega, (HEB.out.row.lt k e).2⟩
            have HJL : Hid (∀ k, (Value.slice Aa k5.length ca).ownBlock = some k → s0 ≤ k ∧ k < wc.heap.size) := fun k e => ⟨by have h1 := (HEA.out.rnew k e).1; have h3 := HQR.out.size; have h4 := HS00.out; omega, by have h1 := (HEA.out.row.lt k e).2; have h2 := HEB.out.quiet.size; omega⟩
            have HS : Hid (∀ W, Only (fun k => ¬ (s0 ≤ k ∧ k < wc.heap.size) ∧ w3.heap.size ≤ k) wc W → (fun w' => w'.cell? ⟨ba, 0, none⟩ = some (.slice Aa k5.length ca) ∧ w'.cell? ⟨ba, 1, none⟩ = some (.int .i64 o.pg) ∧ w'.cell? ⟨ba, 2, none⟩ = some (.int .i64 o.sl) ∧ w'.cell? ⟨bb, 0, none⟩ = some (.slice Ab k5.length cb) ∧ w'.cell? ⟨bb, 1, none⟩ = some (.int .i64 o.pg) ∧ w'.cell? ⟨bb, 2, none⟩ = some (.int .i64 o.sl)) W) := fun W ho => by
              obtain ⟨a0, a1, a2⟩ := rent_cells (ho.get (HEB.out.quiet.get HEA.out.box (fun x => x)) (fun x => x.1 HJA.out))
              obtain ⟨b0, b1, b2⟩ := ent_cells (ho.get HEB.out.box (fun x => x.1 HJB.out))
              exact ⟨a0, a1, a2, b0, b1, b2⟩
            have HKA : Hid (∀ W, Only (fun k => ¬ (s0 ≤ k ∧ k < wc.heap.size) ∧ w3.heap.size ≤ k) wc W → Rd W (fun k => (Value.slice Aa k5.length ca).ownBlock = some k) 1 Aa k5.length (bytesV k5)) := fun W ho => by
              obtain ⟨A9, c9, e9, _, _, hr9⟩ := own_form (owns_kept (owns_kept HEA.out.row HEB.out.quiet (fun _ _ x => x)) ho (fun k e x => x.1 (HJL.out k e)))
              injection e9 with e9 _ _
              subst e9
              exact hr9
            have HKB : Hid (∀ W, Only (fun k => ¬ (s0 ≤ k ∧ k < wc.heap.size) ∧ w3.heap.size ≤ k) wc W → Rd W (fun k => (Value.slice Ab k5.length cb).ownBlock = some k) 1 Ab k5.length (bytesV k5)) := fun W ho => by
              obtain ⟨A9, c9, e9, _, _, hr9⟩ := own_form (owns_kept HEB.out.row ho (fun k e x => x.1 (HJK.out k e)))
              injection e9 with e9 _ _
              subst e9
              exact hr9
            obtain ⟨r8, hr8⟩ : ∃ r8, o.d % 8 = r8 := ⟨_, rfl⟩
            have ht8 : (o.d : Int).tmod 8 = (r8 : Int) := by rw [Int.tmod_eq_emod_of_nonneg (by omega)]; omega
            have hw8 : IntKind.u8.wrap (r8 : Int) = (r8 : Int) := wrap8 r8 (by omega)
            go_upto_block 2 with (fail)
            go_cut [15, 16, 17] (fun s15 s16 s17 wx => s15 = .bool true ∧ ∃ es2 : List Ent, es2.length ≤ i + 1 ∧ (∀ e ∈ es2, Wf (e.pg, e.sl)) ∧ PairW w3 wx (fun _ => False) tb xb es2 es2)
            case first =>
              generalize wc = wd at HS HKA HKB HPJ HJB HJA HJK HJL HQD o0 o1 o2 o3 o4 HEB ⊢
              by_cases h6 : r8 = 6
              · subst h6
                obtain ⟨zz, hzz⟩ : ∃ zz : Int, (if (⟨k5, o.pg, o.sl⟩ : Ent) ∈ es then (0 : Int) else 15) = zz := ⟨_, rfl⟩
                obtain ⟨es2, hes2⟩ : ∃ es2, (if (⟨k5, o.pg, o.sl⟩ : Ent) ∈ es then delE ⟨k5, o.pg, o.sl⟩ es else es) = es2 := ⟨_, rfl⟩
                have HES2 : Hid (es2.length ≤ i + 1 ∧ ∀ e ∈ es2, Wf (e.pg, e.sl)) := by
                  show es2.length ≤ i + 1 ∧ ∀ e ∈ es2, Wf (e.pg, e.sl)
                  rw [← hes2]
                  by_cases hm : (⟨k5, o.pg, o.sl⟩ : Ent) ∈ es
                  · rw [if_pos hm]
                    exact ⟨by have := delE_length HPJ.out.rising.1 hm; omega, fun e he => HWE.out e ((mem_delE HPJ.out.rising.1 hm).1 he).1⟩
                  · rw [if_neg hm]
                    exact ⟨by omega, HWE.out⟩
                have HDA := Lib.hid ((HPJ.out.quietly (Only.refl (fun _ => False) wd).drew).delA ⟨k5, o.pg, o.sl⟩ (A := Ab) (c := cb) _ (HKB.out _ ((Only.refl (fun _ => False) wd).drew.mono (fun _ _ x => x.elim))) HK5B.out (by show k5.length ≤ 1000; omega) (by omega))
                rw [hzz, hes2] at HDA
                go_upto_region 22 with fail
                refine wp_region_held_drew (S := (fun w' => w'.cell? ⟨ba, 0, none⟩ = some (.slice Aa k5.length ca) ∧ w'.cell? ⟨ba, 1, none⟩ = some (.int .i64 o.pg) ∧ w'.cell? ⟨ba, 2, none⟩ = some (.int .i64 o.sl) ∧ w'.cell? ⟨bb, 0, none⟩ = some (.slice Ab k5.length cb) ∧ w'.cell? ⟨bb, 1, none⟩ = some (.int .i64 o.pg) ∧ w'.cell? ⟨bb, 2, none⟩ = some (.int .i64 o.sl))) (by kernel_rfl) (HS.out _ ((Only.refl (fun _ => False) wd).drew.mono (fun _ _ x => x.elim))) (fun hHeld => ?_)
                simp only [List.size_toArray, List.length_cons, List.length_nil, Nat.reduceAdd]
                (refine wpAnyH_take (i := 0) (oi := ?_) (v := ?_) ?_ (by kernel_rfl) (by decide +kernel) (by decide +kernel) ?_ (Or.inl ⟨?_, ?_⟩) (by first | assumption | exact trivial) ?_; rotate_left 2; (focus (simp only [List.getElem?_toArray, List.getElem?_cons_zero, List.getElem?_cons_succ] <;> rfl)); (focus (exact fun _ _ _ h => h)); (focus rfl); (focus (intro w hSw; (try dsimp only at hSw); go_simp; (try with_reducible rfl); done)); (try simp only [Act.put, List.setIfInBounds_toArray, List.set_cons_zero, List.set_cons_succ]))
                (refine wpAnyH_take (i := 1) (oi := ?_) (v := ?_) ?_ (by kernel_rfl) (by decide +kernel) (by decide +kernel) ?_ (Or.inl ⟨?_, ?_⟩) (by first | assumption | exact trivial) ?_; rotate_left 2; (focus (simp only [List.getElem?_toArray, List.getElem?_cons_zero, List.getElem?_cons_succ] <;> rfl)); (focus (exact fun _ _ _ h => h)); (focus rfl); (focus (intro w hSw; (try dsimp only at hSw); go_simp; (try with_reducible rfl); done)); (try simp only [Act.put, List.setIfInBounds_toArray, List.set_cons_zero, List.set_cons_succ]))
                (refine wpAnyH_take (i := 3) (oi := ?_) (v := ?_) ?_ (by kernel_rfl) (by decide +kernel) (by decide +kernel) ?_ (Or.inl ⟨?_, ?_⟩) (by first | assumption | exact trivial) ?_; rotate_left 2; (focus (simp only [List.getElem?_toArray, List.getElem?_cons_zero, List.getElem?_cons_succ] <;> rfl)); (focus (exact fun _ _ _ h => h)); (focus rfl); (focus (intro w hSw; (try dsimp only at hSw); go_simp; (try with_reducible rfl); done)); (try simp only [Act.put, List.setIfInBounds_toArray, List.set_cons_zero, List.set_cons_succ]))
                (refine wpAnyH_take (i := 4) (oi := ?_) (v := ?_) ?_ (by kernel_rfl) (by decide +kernel) (by decide +kernel) ?_ (Or.inl ⟨?_, ?_⟩) (by first | assumption | exact trivial) ?_; rotate_left 2; (focus (simp only [List.getElem?_toArray, List.getElem?_cons_zero, List.getElem?_cons_succ] <;> rfl)); (focus (exact fun _ _ _ h => h)); (focus rfl); (focus (intro w hSw; (try dsimp only at hSw); go_simp; (try with_reducible rfl); done)); (try simp only [Act.put, List.setIfInBounds_toArray, List.set_cons_zero, List.set_cons_succ]))
                refine wpAnyH_ready (rs := [2]) (by kernel_rfl) (by simp) ?_
                refine AllReadyH.cons (o := ?_) ?_ ?_ AllReadyH.nil
                rotate_left 1
                (focus (simp only [List.getElem?_toArray, List.getElem?_cons_zero, List.getElem?_cons_succ] <;> rfl))
                intro K hK
                go_simp
                go_at_call 23
                refine (HDA.out).mono ?_
                rintro e w6 ⟨rfl, hp6, ht6⟩
                have HT6 := Lib.hid ((Only.refl (fun k => ¬ (s0 ≤ k ∧ k < wd.heap.size) ∧ w3.heap.size ≤ k) wd).drew.trans ht6)
                have HP6 := Lib.hid hp6
                have HDB := Lib.hid (HP6.out.delB ⟨k5, o.pg, o.sl⟩ (A := Aa) (c := ca) _ (HKA.out _ HT6.out) HK5B.out (by show k5.length ≤ 1000; omega) (by omega))
                rw [hzz, hes2] at HDB
                clear hp6 ht6
                dsimp only
                refine hK.out _ _ ?_ (fun hHeld => ?_)
                · exact HS.out _ HT6.out
                clear hK K
                (try simp only [Act.put, List.setIfInBounds_toArray, List.set_cons_zero, List.set_cons_succ])
                refine wpAnyH_ready (rs := [5]) (by kernel_rfl) (by simp) ?_
                refine AllReadyH.cons (o := ?_) ?_ ?_ AllReadyH.nil
                rotate_left 1
                (focus (simp only [List.getElem?_toArray, List.getElem?_cons_zero, List.getElem?_cons_succ] <;> rfl))
                intro K hK
                go_simp
                go_at_call 24
                refine (HDB.out).mono ?_
                rintro e w7 ⟨rfl, hp7, ht7⟩
                have HT7 := Lib.hid (HT6.out.trans ht7)
                have HP7 := Lib.hid hp7
                clear hp7 ht7 HDB
                dsimp only
                refine hK.out _ _ ?_ (fun hHeld => ?_)
                · exact HS.out _ HT7.out
                clear hK K
                (try simp only [Act.put, List.setIfInBounds_toArray, List.set_cons_zero, List.set_cons_succ])
                (refine wpAnyH_take (i := 6) (oi := ?_) (v := ?_) ?_ (by kernel_rfl) (by decide +kernel) (by decide +kernel) ?_ (Or.inl ⟨?_, ?_⟩) (by first | assumption | exact trivial) ?_; rotate_left 2; (focus (simp only [List.getElem?_toArray, List.getElem?_cons_zero, List.getElem?_cons_succ] <;> rfl)); (focus (exact fun _ _ _ h => h)); (focus rfl); (focus (intro w hSw; (try dsimp only at hSw); go_simp; (try with_reducible rfl); done)); (try simp only [Act.put, List.setIfInBounds_toArray, List.set_cons_zero, List.set_cons_succ]))
                refine wpAnyH_ready (rs := [7]) (by kernel_rfl) (by simp) ?_
                refine AllReadyH.cons (o := ?_) ?_ ?_ AllReadyH.nil
                rotate_left 1
                (focus (simp only [List.getElem?_toArray, List.getElem?_cons_zero, List.getElem?_cons_succ] <;> rfl))
                intro K hK
                go_simp
                refine hK.out _ _ ?_ (fun hHeld => ?_)
                · exact HS.out _ HT7.out
                clear hK K
                (try simp only [Act.put, List.setIfInBounds_toArray, List.set_cons_zero, List.set_cons_succ])
                refine wpAnyH_done (by kernel_rfl) ?_ _
                go_wp2_with fail
                go_meet
                exact ⟨rfl, es2, HES2.out.1, HES2.out.2, HP7.out.fresh (Only.refl _ _) (fun k x => x.elim)⟩
              · have d6 : ((r8 : Int) == 6) = false := beq_eq_false_iff_ne.2 (by omega)
                by_cases h7 : r8 = 7
                · subst h7
                  clear d6
                  obtain ⟨mm, hmm⟩ : ∃ mm, min o.m 30 = mm := ⟨_, rfl⟩
                  have hmm1 : mm ≤ o.m := by omega
                  have hmc := HOA.out.mc
                  have hcm := HOA.out.cm
                  have em : min (o.m : Int) 30 = (mm : Int) := by omega
                  have dm0 : (0 : Int) ≤ (mm : Int) := by omega
                  have dm1 : (mm : Int) ≤ (o.c2 : Int) := by omega
                  obtain ⟨ps, hps⟩ : ∃ ps, o.ps.take mm = ps := ⟨_, rfl⟩
                  have HPS : Hid (ps.length = mm ∧ ∀ p ∈ ps, Wf p) := by
                    show ps.length = mm ∧ ∀ p ∈ ps, Wf p
                    rw [← hps]
                    exact ⟨by rw [List.length_take, HOA.out.pl]; omega, fun p hp => HOA.out.pw p (List.mem_of_mem_take hp)⟩
                  have HRT : Hid (Rd (wd.alloc (.cells #[] 29)) (· < w.heap.size) 2 o.B mm (tidsV ps)) := by
                    have := (HOA.out.pr.kept ((HEA.out.quiet.trans HEB.out.quiet).alloc (.cells #[] 29)) (fun _ _ x => x)).takeK hmm1
                    rw [← tidsV_take, hps] at this
                    exact this
                  have p4 : (wd.alloc (.cells #[] 29)).cell? ⟨ob, 4, none⟩ = some (.slice o.B o.m o.c2) := ((Only.refl (fun _ => False) wd).alloc _).cell o4 (fun x => x)
                  have hm30 : mm ≤ 30 := by omega
                  clear hmm hps
                  unfold maxLen at hcm
                  go_wp2_with (first
                    | (at_builtin; refine app elem_tid rfl (.tmp 95) (.tmp 102) rfl rfl (owns_empty wd _ _) rfl HRT.out (one_tids _) (by unfold maxLen; omega) (by omega) ?_)
                    | fail)
                  intro v6 w6 hg6
                  have hq6 := grew_quiet ((Only.refl (fun _ => False) wd).alloc _) (fun k x => by have := own_at x; omega) hg6
                  obtain ⟨A6, c6, hv6, _, _, hr6⟩ := own_form hg6.own
                  subst hv6
                  have HP6 : Hid (PairW w3 w6 (fun k => s0 ≤ k ∧ k < w6.heap.size) tb xb es es) := HPJ.out.fresh hq6.1 (fun k x => ⟨by
                    by_cases y : k < wd.heap.size
                    · exact Or.inl ⟨x.1, y⟩
                    · exact Or.inr (by omega), x.2⟩)
                  have HB6 : Hid (∀ k, (Value.slice A6 mm c6).ownBlock = some k → s0 ≤ k ∧ k < w6.heap.size) := fun k e => ⟨by have h1 := hq6.2 k e; have h2 := HQD.out.size; have h3 := HS00.out; omega, (hg6.own.lt k e).2⟩
                  have HR6 := Lib.hid hr6
                  have HPA := Lib.hid (HP6.out.pruA ps (A := A6) (m := mm) (c := c6) _ HR6.out HPS.out.1 HPS.out.2 HWE.out (by omega) (by omega))
                  obtain ⟨es2, hes2⟩ : ∃ es2, prunE ps es = es2 := ⟨_, rfl⟩
                  have HES2 : Hid (es2.length ≤ i + 1 ∧ ∀ e ∈ es2, Wf (e.pg, e.sl)) := by
                    show es2.length ≤ i + 1 ∧ ∀ e ∈ es2, Wf (e.pg, e.sl)
                    rw [← hes2]
                    exact ⟨by have := prunE_len ps es; omega, fun e he => HWE.out e (List.mem_filter.1 he).1⟩
                  obtain ⟨zz, hzz⟩ : ∃ zz : Int, (es.length : Int) - ((prunE ps es).length : Int) = zz := ⟨_, rfl⟩
                  rw [hzz, hes2] at HPA
                  clear hg6 HRT p4 em dm0 dm1 hq6 hr6
                  go_wp2_with fail
                  refine HPA.out.mono ?_
                  rintro e w7 ⟨rfl, hp7, ht7⟩
                  have hr7 := HR6.out.kept ht7 (fun k e x => x.1 (HB6.out k e))
                  have HPB := Lib.hid (hp7.pruB ps (A := A6) (m := mm) (c := c6) _ hr7 HPS.out.1 (by omega) (by omega))
                  rw [hzz, hes2] at HPB
                  clear hp7 ht7 hr7 HPA
                  go_wp2_with fail
                  refine HPB.out.mono ?_
                  rintro e w8 ⟨rfl, hp8, ht8⟩
                  have HP8 : Hid (PairW w3 w8 (fun _ => False) tb xb es2 es2) := hp8.fresh (Only.refl _ _) (fun k x => x.elim)
                  clear hp8 ht8 HPB
                  go_wp2_with fail
                  go_meet
                  exact ⟨rfl, es2, HES2.out.1, HES2.out.2, HP8.out⟩
                · have d7 : ((r8 : Int) == 7) = false := beq_eq_false_iff_ne.2 (by omega)
                  have HSM : Hid (∀ W, Only (fun k => ¬ (s0 ≤ k ∧ k < wd.heap.size) ∧ w3.heap.size ≤ k) wd W → Calls Try.prog 13 #[.slice Ab k5.length cb, .slice Aa k5.length ca] W fun e w' => e = .returned (.bool true) ∧ W = w') := fun W ho => by
                    have := same_any Ab Aa cb ca k5 k5 _ _ W (HKB.out W ho) (HKA.out W ho) HK5B.out HK5B.out
                    rw [decide_eq_true rfl] at this
                    exact this
                  by_cases hlong : 600 < k5.length
                  · have HLA : Hid (∀ W, Quiet wd W → Calls Try.prog 12 #[ptrV tb, entV ⟨k5, o.pg, o.sl⟩ Ab cb] W fun r w' => r = .returned (.int .i64 2) ∧ Quiet W w') := fun W hq => by
                      obtain ⟨D, F, h1, _⟩ := (HPJ.out.quietly hq).ex
                      exact tree_insert_long W D tb es ⟨k5, o.pg, o.sl⟩ Ab cb h1 hlong
                    obtain ⟨es2, hes2⟩ : ∃ es2, es = es2 := ⟨_, rfl⟩
                    subst hes2
                    have HES2 : Hid (es.length ≤ i + 1 ∧ ∀ e ∈ es, Wf (e.pg, e.sl)) := ⟨by omega, HWE.out⟩
                    go_upto_region 15 with fail
                    refine wp_region_held_drew (S := (fun w' => w'.cell? ⟨ba, 0, none⟩ = some (.slice Aa k5.length ca) ∧ w'.cell? ⟨ba, 1, none⟩ = some (.int .i64 o.pg) ∧ w'.cell? ⟨ba, 2, none⟩ = some (.int .i64 o.sl) ∧ w'.cell? ⟨bb, 0, none⟩ = some (.slice Ab k5.length cb) ∧ w'.cell? ⟨bb, 1, none⟩ = some (.int .i64 o.pg) ∧ w'.cell? ⟨bb, 2, none⟩ = some (.int .i64 o.sl))) (by kernel_rfl) (HS.out _ ((Only.refl (fun _ => False) wd).drew.mono (fun _ _ x => x.elim))) (fun hHeld => ?_)
                    simp only [List.size_toArray, List.length_cons, List.length_nil, Nat.reduceAdd]
                    (refine wpAnyH_take (i := 0) (oi := ?_) (v := ?_) ?_ (by kernel_rfl) (by decide +kernel) (by decide +kernel) ?_ (Or.inl ⟨?_, ?_⟩) (by first | assumption | exact trivial) ?_; rotate_left 2; (focus (simp only [List.getElem?_toArray, List.getElem?_cons_zero, List.getElem?_cons_succ] <;> rfl)); (focus (exact fun _ _ _ h => h)); (focus rfl); (focus (intro w hSw; (try dsimp only at hSw); go_simp; (try with_reducible rfl); done)); (try simp only [Act.put, List.setIfInBounds_toArray, List.set_cons_zero, List.set_cons_succ]))
                    (refine wpAnyH_take (i := 1) (oi := ?_) (v := ?_) ?_ (by kernel_rfl) (by decide +kernel) (by decide +kernel) ?_ (Or.inl ⟨?_, ?_⟩) (by first | assumption | exact trivial) ?_; rotate_left 2; (focus (simp only [List.getElem?_toArray, List.getElem?_cons_zero, List.getElem?_cons_succ] <;> rfl)); (focus (exact fun _ _ _ h => h)); (focus rfl); (focus (intro w hSw; (try dsimp only at hSw); go_simp; (try with_reducible rfl); done)); (try simp only [Act.put, List.setIfInBounds_toArray, List.set_cons_zero, List.set_cons_succ]))
                    (refine wpAnyH_take (i := 3) (oi := ?_) (v := ?_) ?_ (by kernel_rfl) (by decide +kernel) (by decide +kernel) ?_ (Or.inl ⟨?_, ?_⟩) (by first | assumption | exact trivial) ?_; rotate_left 2; (focus (simp only [List.getElem?_toArray, List.getElem?_cons_zero, List.getElem?_cons_succ] <;> rfl)); (focus (exact fun _ _ _ h => h)); (focus rfl); (focus (intro w hSw; (try dsimp only at hSw); go_simp; (try with_reducible rfl); done)); (try simp only [Act.put, List.setIfInBounds_toArray, List.set_cons_zero, List.set_cons_succ]))
                    (refine wpAnyH_take (i := 4) (oi := ?_) (v := ?_) ?_ (by kernel_rfl) (by decide +kernel) (by decide +kernel) ?_ (Or.inl ⟨?_, ?_⟩) (by first | assumption | exact trivial) ?_; rotate_left 2; (focus (simp only [List.getElem?_toArray, List.getElem?_cons_zero, List.getElem?_cons_succ] <;> rfl)); (focus (exact fun _ _ _ h => h)); (focus rfl); (focus (intro w hSw; (try dsimp only at hSw); go_simp; (try with_reducible rfl); done)); (try simp only [Act.put, List.setIfInBounds_toArray, List.set_cons_zero, List.set_cons_succ]))
                    refine wpAnyH_ready (rs := [2]) (by kernel_rfl) (by simp) ?_
                    refine AllReadyH.cons (o := ?_) ?_ ?_ AllReadyH.nil
                    rotate_left 1
                    (focus (simp only [List.getElem?_toArray, List.getElem?_cons_zero, List.getElem?_cons_succ] <;> rfl))
                    intro K hK
                    go_simp
                    go_at_call 12
                    refine (HLA.out _ (Only.refl (fun _ => False) wd).drew).mono ?_
                    rintro e w6 ⟨rfl, hq6⟩
                    have HQ6 := Lib.hid ((Only.refl (fun _ => False) wd).drew.trans hq6)
                    have HT6 : Hid (Only (fun k => ¬ (s0 ≤ k ∧ k < wd.heap.size) ∧ w3.heap.size ≤ k) wd w6) := HQ6.out.mono (fun _ _ x => x.elim)
                    clear hq6
                    dsimp only
                    refine hK.out _ _ ?_ (fun hHeld => ?_)
                    · exact HS.out _ HT6.out
                    clear hK K
                    (try simp only [Act.put, List.setIfInBounds_toArray, List.set_cons_zero, List.set_cons_succ])
                    refine wpAnyH_ready (rs := [5]) (by kernel_rfl) (by simp) ?_
                    refine AllReadyH.cons (o := ?_) ?_ ?_ AllReadyH.nil
                    rotate_left 1
                    (focus (simp only [List.getElem?_toArray, List.getElem?_cons_zero, List.getElem?_cons_succ] <;> rfl))
                    intro K hK
                    go_simp
                    go_at_call 18
                    refine (ref_insert_long _ xb ⟨k5, o.pg, o.sl⟩ Aa ca hlong).mono ?_
                    rintro e w7 ⟨rfl, hq7⟩
                    have HQ7 := Lib.hid (HQ6.out.trans hq7)
                    have HT7 : Hid (Only (fun k => ¬ (s0 ≤ k ∧ k < wd.heap.size) ∧ w3.heap.size ≤ k) wd w7) := HQ7.out.mono (fun _ _ x => x.elim)
                    have HP7 := Lib.hid (HPJ.out.quietly HQ7.out)
                    clear hq7
                    dsimp only
                    refine hK.out _ _ ?_ (fun hHeld => ?_)
                    · exact HS.out _ HT7.out
                    clear hK K
                    (try simp only [Act.put, List.setIfInBounds_toArray, List.set_cons_zero, List.set_cons_succ])
                    (refine wpAnyH_take (i := 6) (oi := ?_) (v := ?_) ?_ (by kernel_rfl) (by decide +kernel) (by decide +kernel) ?_ (Or.inl ⟨?_, ?_⟩) (by first | assumption | exact trivial) ?_; rotate_left 2; (focus (simp only [List.getElem?_toArray, List.getElem?_cons_zero, List.getElem?_cons_succ] <;> rfl)); (focus (exact fun _ _ _ h => h)); (focus rfl); (focus (intro w hSw; (try dsimp only at hSw); go_simp; (try with_reducible rfl); done)); (try simp only [Act.put, List.setIfInBounds_toArray, List.set_cons_zero, List.set_cons_succ]))
                    (refine wpAnyH_take (i := 7) (oi := ?_) (v := ?_) ?_ (by kernel_rfl) (by decide +kernel) (by decide +kernel) ?_ (Or.inl ⟨?_, ?_⟩) (by first | assumption | exact trivial) ?_; rotate_left 2; (focus (simp only [List.getElem?_toArray, List.getElem?_cons_zero, List.getElem?_cons_succ] <;> rfl)); (focus (exact fun _ _ _ h => h)); (focus rfl); (focus (intro w hSw; (try dsimp only at hSw); go_simp; (try with_reducible rfl); done)); (try simp only [Act.put, List.setIfInBounds_toArray, List.set_cons_zero, List.set_cons_succ]))
                    (refine wpAnyH_take (i := 8) (oi := ?_) (v := ?_) ?_ (by kernel_rfl) (by decide +kernel) (by decide +kernel) ?_ (Or.inl ⟨?_, ?_⟩) (by first | assumption | exact trivial) ?_; rotate_left 2; (focus (simp only [List.getElem?_toArray, List.getElem?_cons_zero, List.getElem?_cons_succ] <;> rfl)); (focus (exact fun _ _ _ h => h)); (focus rfl); (focus (intro w hSw; (try dsimp only at hSw); go_simp; (try with_reducible rfl); done)); (try simp only [Act.put, List.setIfInBounds_toArray, List.set_cons_zero, List.set_cons_succ]))
                    (refine wpAnyH_take (i := 9) (oi := ?_) (v := ?_) ?_ (by kernel_rfl) (by decide +kernel) (by decide +kernel) ?_ (Or.inl ⟨?_, ?_⟩) (by first | assumption | exact trivial) ?_; rotate_left 2; (focus (simp only [List.getElem?_toArray, List.getElem?_cons_zero, List.getElem?_cons_succ] <;> rfl)); (focus (exact fun _ _ _ h => h)); (focus rfl); (focus (intro w hSw; (try dsimp only at hSw); go_simp; (try with_reducible rfl); done)); (try simp only [Act.put, List.setIfInBounds_toArray, List.set_cons_zero, List.set_cons_succ]))
                    (refine wpAnyH_take (i := 10) (oi := ?_) (v := ?_) ?_ (by kernel_rfl) (by decide +kernel) (by decide +kernel) ?_ (Or.inl ⟨?_, ?_⟩) (by first | assumption | exact trivial) ?_; rotate_left 2; (focus (simp only [List.getElem?_toArray, List.getElem?_cons_zero, List.getElem?_cons_succ] <;> rfl)); (focus (exact fun _ _ _ h => h)); (focus rfl); (focus (intro w hSw; (try dsimp only at hSw); go_simp; (try with_reducible rfl); done)); (try simp only [Act.put, List.setIfInBounds_toArray, List.set_cons_zero, List.set_cons_succ]))
                    (refine wpAnyH_take (i := 11) (oi := ?_) (v := ?_) ?_ (by kernel_rfl) (by decide +kernel) (by decide +kernel) ?_ (Or.inl ⟨?_, ?_⟩) (by first | assumption | exact trivial) ?_; rotate_left 2; (focus (simp only [List.getElem?_toArray, List.getElem?_cons_zero, List.getElem?_cons_succ] <;> rfl)); (focus (exact fun _ _ _ h => h)); (focus rfl); (focus (intro w hSw; (try dsimp only at hSw); go_simp; (try with_reducible rfl); done)); (try simp only [Act.put, List.setIfInBounds_toArray, List.set_cons_zero, List.set_cons_succ]))
                    refine wpAnyH_ready (rs := [12]) (by kernel_rfl) (by simp) ?_
                    refine AllReadyH.cons (o := ?_) ?_ ?_ AllReadyH.nil
                    rotate_left 1
                    (focus (simp only [List.getElem?_toArray, List.getElem?_cons_zero, List.getElem?_cons_succ] <;> rfl))
                    intro K hK
                    go_simp
                    go_at_call 13
                    refine (HSM.out _ HT7.out).mono ?_
                    rintro e w8 ⟨rfl, rfl⟩
                    dsimp only
                    refine hK.out _ _ ?_ (fun hHeld => ?_)
                    · exact HS.out _ HT7.out
                    clear hK K
                    (try simp only [Act.put, List.setIfInBounds_toArray, List.set_cons_zero, List.set_cons_succ])
                    (refine wpAnyH_take (i := 13) (oi := ?_) (v := ?_) ?_ (by kernel_rfl) (by decide +kernel) (by decide +kernel) ?_ (Or.inl ⟨?_, ?_⟩) (by first | assumption | exact trivial) ?_; rotate_left 2; (focus (simp only [List.getElem?_toArray, List.getElem?_cons_zero, List.getElem?_cons_succ] <;> rfl)); (focus (exact fun _ _ _ h => h)); (focus rfl); (focus (intro w hSw; (try dsimp only at hSw); go_simp; (try with_reducible rfl); done)); (try simp only [Act.put, List.setIfInBounds_toArray, List.set_cons_zero, List.set_cons_succ]))
                    refine wpAnyH_ready (rs := [14]) (by kernel_rfl) (by simp) ?_
                    refine AllReadyH.cons (o := ?_) ?_ ?_ AllReadyH.nil
                    rotate_left 1
                    (focus (simp only [List.getElem?_toArray, List.getElem?_cons_zero, List.getElem?_cons_succ] <;> rfl))
                    intro K hK
                    go_simp
                    refine hK.out _ _ ?_ (fun hHeld => ?_)
                    · exact HS.out _ HT7.out
                    clear hK K
                    (try simp only [Act.put, List.setIfInBounds_toArray, List.set_cons_zero, List.set_cons_succ])
                    refine wpAnyH_done (by kernel_rfl) ?_ _
                    obtain ⟨y0, y1, y2⟩ := ent_cells (HT7.out.get HEB.out.box (fun x => x.1 (HJB.out)))
                    go_wp2_with fail
                    go_loopw [73, 17] (fun cq _ wr' => ∃ (q : Nat) (xs : List Value), q ≤ k5.length ∧ cq = .int .i64 (q : Int) ∧ (∀ x ∈ xs, ∃ z : Int, x = .int .u8 z) ∧ wr'.ownsRow 0 5 1 (.slice Ab k5.length cb) k5.length xs ∧ Only (fun k => (Value.slice Ab k5.length cb).ownBlock = some k) w7 wr') (fun cq _ _ => k5.length - (intOf cq).toNat)
                    case atStart => exact ⟨0, bytesV k5, Nat.zero_le _, rfl, (fun x hx => by obtain ⟨z, _, rfl⟩ := List.mem_map.1 hx; exact ⟨z, rfl⟩), owns_kept HEB.out.row HT7.out (fun k e x => x.1 (HJK.out k e)), Only.refl _ _⟩
                    case round =>
                      obtain ⟨q, xs, hq, rfl, hxs, hown, hon⟩ := hrel
                      have HXS := Lib.hid hxs
                      have HOWN := Lib.hid hown
                      have HON := Lib.hid hon
                      have z0 : wr.cell? ⟨bb, 0, none⟩ = some (.slice Ab k5.length cb) := hon.cell y0 (fun e => (HEB.out.rnew bb e).2 rfl)
                      clear hxs hon
                      by_cases hqk : q < k5.length
                      · rcases owns_cases hown with ⟨_, z⟩ | ⟨g, cp, hv, _, _⟩
                        · omega
                        · injection hv with e1 _ e3
                          subst e1 e3
                          obtain ⟨x, hx⟩ : ∃ x, xs[q]? = some x := ⟨_, List.getElem?_eq_getElem (by have := hown.1; omega)⟩
                          obtain ⟨zv, rfl⟩ := HXS.out x (List.mem_of_getElem? hx)
                          have r0 : wr.cell? ⟨g, q, none⟩ = some (.int .u8 zv) := by
                            have := hown.cells rfl q _ hx
                            rw [add_none, Nat.zero_add] at this
                            exact this
                          have rf : wr.frozen? ⟨g, q, none⟩ = false := by
                            obtain ⟨_, h2⟩ := hown
                            rcases h2 with ⟨z, _⟩ | ⟨g', cap, cur, hv', _, hh, _⟩
                            · cases z
                            · injection hv' with e1' _ _
                              injection e1' with e1'
                              injection e1' with e1' _ _
                              subst e1'
                              exact frozen_of hh q
                          have d0 : (0 : Int) ≤ (q : Int) := by omega
                          have d1 : (q : Int) < (k5.length : Int) := by omega
                          clear hown hx
                          go_wp2_with fail
                          go_roundw
                          case rel => exact ⟨q + 1, xs.set q (.int .u8 (bits BinOp.xor IntKind.u8 zv 1)), by omega, by go_num, (fun x hx => by
                            rcases List.mem_or_eq_of_mem_set hx with y | y
                            · exact HXS.out x y
                            · exact ⟨_, y⟩), owns_set HOWN.out hqk _, HON.out.setCell (p := ⟨g, q, none⟩) (fun _ => rfl) _⟩
                          case measure => simp [intOf]; omega
                      · have HFIN : Hid (PairW w3 wr (fun _ => False) tb xb es es) := HP7.out.mine HON.out (fun k e => ⟨HJK.out k e, by have h1 := (HJK.out k e).1; have := HSZ.out; omega⟩) (fun k x => x.elim)
                        clear hown
                        go_wp2_with fail
                        go_meet
                        exact ⟨rfl, es, HES2.out.1, HES2.out.2, HFIN.out⟩
                  · obtain ⟨zz, hzz⟩ : ∃ zz : Int, (if (⟨k5, o.pg, o.sl⟩ : Ent) ∈ es then (7 : Int) else 0) = zz := ⟨_, rfl⟩
                    obtain ⟨es2, hes2⟩ : ∃ es2, putE ⟨k5, o.pg, o.sl⟩ es = es2 := ⟨_, rfl⟩
                    have HES2 : Hid (es2.length ≤ i + 1 ∧ ∀ e ∈ es2, Wf (e.pg, e.sl)) := by
                      show es2.length ≤ i + 1 ∧ ∀ e ∈ es2, Wf (e.pg, e.sl)
                      rw [← hes2]
                      refine ⟨by have := putE_length ⟨k5, o.pg, o.sl⟩ es; omega, fun e he => ?_⟩
                      rcases mem_putE.1 he with rfl | y
                      · exact HWF.out
                      · exact HWE.out e y
                    have HDA := Lib.hid ((HPJ.out.quietly (Only.refl (fun _ => False) wd).drew).insA ⟨k5, o.pg, o.sl⟩ (A := Ab) (c := cb) _ (HKB.out _ ((Only.refl (fun _ => False) wd).drew.mono (fun _ _ x => x.elim))) HK5B.out (by show k5.length ≤ 600; omega) (by omega))
                    rw [hzz, hes2] at HDA
                    go_upto_region 15 with fail
                    refine wp_region_held_drew (S := (fun w' => w'.cell? ⟨ba, 0, none⟩ = some (.slice Aa k5.length ca) ∧ w'.cell? ⟨ba, 1, none⟩ = some (.int .i64 o.pg) ∧ w'.cell? ⟨ba, 2, none⟩ = some (.int .i64 o.sl) ∧ w'.cell? ⟨bb, 0, none⟩ = some (.slice Ab k5.length cb) ∧ w'.cell? ⟨bb, 1, none⟩ = some (.int .i64 o.pg) ∧ w'.cell? ⟨bb, 2, none⟩ = some (.int .i64 o.sl))) (by kernel_rfl) (HS.out _ ((Only.refl (fun _ => False) wd).drew.mono (fun _ _ x => x.elim))) (fun hHeld => ?_)
                    simp only [List.size_toArray, List.length_cons, List.length_nil, Nat.reduceAdd]
                    (refine wpAnyH_take (i := 0) (oi := ?_) (v := ?_) ?_ (by kernel_rfl) (by decide +kernel) (by decide +kernel) ?_ (Or.inl ⟨?_, ?_⟩) (by first | assumption | exact trivial) ?_; rotate_left 2; (focus (simp only [List.getElem?_toArray, List.getElem?_cons_zero, List.getElem?_cons_succ] <;> rfl)); (focus (exact fun _ _ _ h => h)); (focus rfl); (focus (intro w hSw; (try dsimp only at hSw); go_simp; (try with_reducible rfl); done)); (try simp only [Act.put, List.setIfInBounds_toArray, List.set_cons_zero, List.set_cons_succ]))
                    (refine wpAnyH_take (i := 1) (oi := ?_) (v := ?_) ?_ (by kernel_rfl) (by decide +kernel) (by decide +kernel) ?_ (Or.inl ⟨?_, ?_⟩) (by first | assumption | exact trivial) ?_; rotate_left 2; (focus (simp only [List.getElem?_toArray, List.getElem?_cons_zero, List.getElem?_cons_succ] <;> rfl)); (focus (exact fun _ _ _ h => h)); (focus rfl); (focus (intro w hSw; (try dsimp only at hSw); go_simp; (try with_reducible rfl); done)); (try simp only [Act.put, List.setIfInBounds_toArray, List.set_cons_zero, List.set_cons_succ]))
                    (refine wpAnyH_take (i := 3) (oi := ?_) (v := ?_) ?_ (by kernel_rfl) (by decide +kernel) (by decide +kernel) ?_ (Or.inl ⟨?_, ?_⟩) (by first | assumption | exact trivial) ?_; rotate_left 2; (focus (simp only [List.getElem?_toArray, List.getElem?_cons_zero, List.getElem?_cons_succ] <;> rfl)); (focus (exact fun _ _ _ h => h)); (focus rfl); (focus (intro w hSw; (try dsimp only at hSw); go_simp; (try with_reducible rfl); done)); (try simp only [Act.put, List.setIfInBounds_toArray, List.set_cons_zero, List.set_cons_succ]))
                    (refine wpAnyH_take (i := 4) (oi := ?_) (v := ?_) ?_ (by kernel_rfl) (by decide +kernel) (by decide +kernel) ?_ (Or.inl ⟨?_, ?_⟩) (by first | assumption | exact trivial) ?_; rotate_left 2; (focus (simp only [List.getElem?_toArray, List.getElem?_cons_zero, List.getElem?_cons_succ] <;> rfl)); (focus (exact fun _ _ _ h => h)); (focus rfl); (focus (intro w hSw; (try dsimp only at hSw); go_simp; (try with_reducible rfl); done)); (try simp only [Act.put, List.setIfInBounds_toArray, List.set_cons_zero, List.set_cons_succ]))
                    refine wpAnyH_ready (rs := [2]) (by kernel_rfl) (by simp) ?_
                    refine AllReadyH.cons (o := ?_) ?_ ?_ AllReadyH.nil
                    rotate_left 1
                    (focus (simp only [List.getElem?_toArray, List.getElem?_cons_zero, List.getElem?_cons_succ] <;> rfl))
                    intro K hK
                    go_simp
                    go_at_call 12
                    refine (HDA.out).mono ?_
                    rintro e w6 ⟨rfl, hp6, ht6⟩
                    have HT6 := Lib.hid ((Only.refl (fun k => ¬ (s0 ≤ k ∧ k < wd.heap.size) ∧ w3.heap.size ≤ k) wd).drew.trans ht6)
                    have HP6 := Lib.hid hp6
                    have HDB := Lib.hid (HP6.out.insB ⟨k5, o.pg, o.sl⟩ (A := Aa) (c := ca) _ (HKA.out _ HT6.out) HK5B.out (by show k5.length ≤ 600; omega) (by omega))
                    rw [hzz, hes2] at HDB
                    clear hp6 ht6
                    dsimp only
                    refine hK.out _ _ ?_ (fun hHeld => ?_)
                    · exact HS.out _ HT6.out
                    clear hK K
                    (try simp only [Act.put, List.setIfInBounds_toArray, List.set_cons_zero, List.set_cons_succ])
                    refine wpAnyH_ready (rs := [5]) (by kernel_rfl) (by simp) ?_
                    refine AllReadyH.cons (o := ?_) ?_ ?_ AllReadyH.nil
                    rotate_left 1
                    (focus (simp only [List.getElem?_toArray, List.getElem?_cons_zero, List.getElem?_cons_succ] <;> rfl))
                    intro K hK
                    go_simp
                    go_at_call 18
                    refine (HDB.out).mono ?_
                    rintro e w7 ⟨rfl, hp7, ht7⟩
                    have HT7 := Lib.hid (HT6.out.trans ht7)
                    have HP7 := Lib.hid hp7
                    clear hp7 ht7 HDB
                    dsimp only
                    refine hK.out _ _ ?_ (fun hHeld => ?_)
                    · exact HS.out _ HT7.out
                    clear hK K
                    (try simp only [Act.put, List.setIfInBounds_toArray, List.set_cons_zero, List.set_cons_succ])
                    (refine wpAnyH_take (i := 6) (oi := ?_) (v := ?_) ?_ (by kernel_rfl) (by decide +kernel) (by decide +kernel) ?_ (Or.inl ⟨?_, ?_⟩) (by first | assumption | exact trivial) ?_; rotate_left 2; (focus (simp only [List.getElem?_toArray, List.getElem?_cons_zero, List.getElem?_cons_succ] <;> rfl)); (focus (exact fun _ _ _ h => h)); (focus rfl); (focus (intro w hSw; (try dsimp only at hSw); go_simp; (try with_reducible rfl); done)); (try simp only [Act.put, List.setIfInBounds_toArray, List.set_cons_zero, List.set_cons_succ]))
                    (refine wpAnyH_take (i := 7) (oi := ?_) (v := ?_) ?_ (by kernel_rfl) (by decide +kernel) (by decide +kernel) ?_ (Or.inl ⟨?_, ?_⟩) (by first | assumption | exact trivial) ?_; rotate_left 2; (focus (simp only [List.getElem?_toArray, List.getElem?_cons_zero, List.getElem?_cons_succ] <;> rfl)); (focus (exact fun _ _ _ h => h)); (focus rfl); (focus (intro w hSw; (try dsimp only at hSw); go_simp; (try with_reducible rfl); done)); (try simp only [Act.put, List.setIfInBounds_toArray, List.set_cons_zero, List.set_cons_succ]))
                    (refine wpAnyH_take (i := 8) (oi := ?_) (v := ?_) ?_ (by kernel_rfl) (by decide +kernel) (by decide +kernel) ?_ (Or.inl ⟨?_, ?_⟩) (by first | assumption | exact trivial) ?_; rotate_left 2; (focus (simp only [List.getElem?_toArray, List.getElem?_cons_zero, List.getElem?_cons_succ] <;> rfl)); (focus (exact fun _ _ _ h => h)); (focus rfl); (focus (intro w hSw; (try dsimp only at hSw); go_simp; (try with_reducible rfl); done)); (try simp only [Act.put, List.setIfInBounds_toArray, List.set_cons_zero, List.set_cons_succ]))
                    (refine wpAnyH_take (i := 9) (oi := ?_) (v := ?_) ?_ (by kernel_rfl) (by decide +kernel) (by decide +kernel) ?_ (Or.inl ⟨?_, ?_⟩) (by first | assumption | exact trivial) ?_; rotate_left 2; (focus (simp only [List.getElem?_toArray, List.getElem?_cons_zero, List.getElem?_cons_succ] <;> rfl)); (focus (exact fun _ _ _ h => h)); (focus rfl); (focus (intro w hSw; (try dsimp only at hSw); go_simp; (try with_reducible rfl); done)); (try simp only [Act.put, List.setIfInBounds_toArray, List.set_cons_zero, List.set_cons_succ]))
                    (refine wpAnyH_take (i := 10) (oi := ?_) (v := ?_) ?_ (by kernel_rfl) (by decide +kernel) (by decide +kernel) ?_ (Or.inl ⟨?_, ?_⟩) (by first | assumption | exact trivial) ?_; rotate_left 2; (focus (simp only [List.getElem?_toArray, List.getElem?_cons_zero, List.getElem?_cons_succ] <;> rfl)); (focus (exact fun _ _ _ h => h)); (focus rfl); (focus (intro w hSw; (try dsimp only at hSw); go_simp; (try with_reducible rfl); done)); (try simp only [Act.put, List.setIfInBounds_toArray, List.set_cons_zero, List.set_cons_succ]))
                    (refine wpAnyH_take (i := 11) (oi := ?_) (v := ?_) ?_ (by kernel_rfl) (by decide +kernel) (by decide +kernel) ?_ (Or.inl ⟨?_, ?_⟩) (by first | assumption | exact trivial) ?_; rotate_left 2; (focus (simp only [List.getElem?_toArray, List.getElem?_cons_zero, List.getElem?_cons_succ] <;> rfl)); (focus (exact fun _ _ _ h => h)); (focus rfl); (focus (intro w hSw; (try dsimp only at hSw); go_simp; (try with_reducible rfl); done)); (try simp only [Act.put, List.setIfInBounds_toArray, List.set_cons_zero, List.set_cons_succ]))
                    refine wpAnyH_ready (rs := [12]) (by kernel_rfl) (by simp) ?_
                    refine AllReadyH.cons (o := ?_) ?_ ?_ AllReadyH.nil
                    rotate_left 1
                    (focus (simp only [List.getElem?_toArray, List.getElem?_cons_zero, List.getElem?_cons_succ] <;> rfl))
                    intro K hK
                    go_simp
                    go_at_call 13
                    refine (HSM.out _ HT7.out).mono ?_
                    rintro e w8 ⟨rfl, rfl⟩
                    dsimp only
                    refine hK.out _ _ ?_ (fun hHeld => ?_)
                    · exact HS.out _ HT7.out
                    clear hK K
                    (try simp only [Act.put, List.setIfInBounds_toArray, List.set_cons_zero, List.set_cons_succ])
                    (refine wpAnyH_take (i := 13) (oi := ?_) (v := ?_) ?_ (by kernel_rfl) (by decide +kernel) (by decide +kernel) ?_ (Or.inl ⟨?_, ?_⟩) (by first | assumption | exact trivial) ?_; rotate_left 2; (focus (simp only [List.getElem?_toArray, List.getElem?_cons_zero, List.getElem?_cons_succ] <;> rfl)); (focus (exact fun _ _ _ h => h)); (focus rfl); (focus (intro w hSw; (try dsimp only at hSw); go_simp; (try with_reducible rfl); done)); (try simp only [Act.put, List.setIfInBounds_toArray, List.set_cons_zero, List.set_cons_succ]))
                    refine wpAnyH_ready (rs := [14]) (by kernel_rfl) (by simp) ?_
                    refine AllReadyH.cons (o := ?_) ?_ ?_ AllReadyH.nil
                    rotate_left 1
                    (focus (simp only [List.getElem?_toArray, List.getElem?_cons_zero, List.getElem?_cons_succ] <;> rfl))
                    intro K hK
                    go_simp
                    refine hK.out _ _ ?_ (fun hHeld => ?_)
                    · exact HS.out _ HT7.out
                    clear hK K
                    (try simp only [Act.put, List.setIfInBounds_toArray, List.set_cons_zero, List.set_cons_succ])
                    refine wpAnyH_done (by kernel_rfl) ?_ _
                    obtain ⟨y0, y1, y2⟩ := ent_cells (HT7.out.get HEB.out.box (fun x => x.1 (HJB.out)))
                    go_wp2_with fail
                    go_loopw [73, 17] (fun cq _ wr' => ∃ (q : Nat) (xs : List Value), q ≤ k5.length ∧ cq = .int .i64 (q : Int) ∧ (∀ x ∈ xs, ∃ z : Int, x = .int .u8 z) ∧ wr'.ownsRow 0 5 1 (.slice Ab k5.length cb) k5.length xs ∧ Only (fun k => (Value.slice Ab k5.length cb).ownBlock = some k) w7 wr') (fun cq _ _ => k5.length - (intOf cq).toNat)
                    case atStart => exact ⟨0, bytesV k5, Nat.zero_le _, rfl, (fun x hx => by obtain ⟨z, _, rfl⟩ := List.mem_map.1 hx; exact ⟨z, rfl⟩), owns_kept HEB.out.row HT7.out (fun k e x => x.1 (HJK.out k e)), Only.refl _ _⟩
                    case round =>
                      obtain ⟨q, xs, hq, rfl, hxs, hown, hon⟩ := hrel
                      have HXS := Lib.hid hxs
                      have HOWN := Lib.hid hown
                      have HON := Lib.hid hon
                      have z0 : wr.cell? ⟨bb, 0, none⟩ = some (.slice Ab k5.length cb) := hon.cell y0 (fun e => (HEB.out.rnew bb e).2 rfl)
                      clear hxs hon
                      by_cases hqk : q < k5.length
                      · rcases owns_cases hown with ⟨_, z⟩ | ⟨g, cp, hv, _, _⟩
                        · omega
                        · injection hv with e1 _ e3
                          subst e1 e3
                          obtain ⟨x, hx⟩ : ∃ x, xs[q]? = some x := ⟨_, List.getElem?_eq_getElem (by have := hown.1; omega)⟩
                          obtain ⟨zv, rfl⟩ := HXS.out x (List.mem_of_getElem? hx)
                          have r0 : wr.cell? ⟨g, q, none⟩ = some (.int .u8 zv) := by
                            have := hown.cells rfl q _ hx
                            rw [add_none, Nat.zero_add] at this
                            exact this
                          have rf : wr.frozen? ⟨g, q, none⟩ = false := by
                            obtain ⟨_, h2⟩ := hown
                            rcases h2 with ⟨z, _⟩ | ⟨g', cap, cur, hv', _, hh, _⟩
                            · cases z
                            · injection hv' with e1' _ _
                              injection e1' with e1'
                              injection e1' with e1' _ _
                              subst e1'
                              exact frozen_of hh q
                          have d0 : (0 : Int) ≤ (q : Int) := by omega
                          have d1 : (q : Int) < (k5.length : Int) := by omega
                          clear hown hx
                          go_wp2_with fail
                          go_roundw
                          case rel => exact ⟨q + 1, xs.set q (.int .u8 (bits BinOp.xor IntKind.u8 zv 1)), by omega, by go_num, (fun x hx => by
                            rcases List.mem_or_eq_of_mem_set hx with y | y
                            · exact HXS.out x y
                            · exact ⟨_, y⟩), owns_set HOWN.out hqk _, HON.out.setCell (p := ⟨g, q, none⟩) (fun _ => rfl) _⟩
                          case measure => simp [intOf]; omega
                      · have HFIN : Hid (PairW w3 wr (fun _ => False) tb xb es2 es2) := HP7.out.mine HON.out (fun k e => ⟨HJK.out k e, by have h1 := (HJK.out k e).1; have := HSZ.out; omega⟩) (fun k x => x.elim)
                        clear hown
                        go_wp2_with fail
                        go_meet
                        exact ⟨rfl, es2, HES2.out.1, HES2.out.2, HFIN.out⟩
            case rest =>
              obtain ⟨rfl, es2, hel2, hwe2, hp2⟩ := hcut
              have HP := Lib.hid hp2
              have HWE2 := Lib.hid hwe2
              obtain ⟨nx, hnx⟩ : ∃ nx, es2.length = nx := ⟨_, rfl⟩
              have hnl : nx ≤ 201 := by omega
              obtain ⟨Bx, cx, hbx⟩ : ∃ Bx cx, wc.heap[xb]? = some (.cells #[.slice Bx nx cx] 45 (0, 0)) := by
                obtain ⟨D, F, _, ⟨v, xs, hm, he, _⟩, _⟩ := hp2.ex
                obtain ⟨Bx, cx, hv, _⟩ := own_form hm.row
                refine ⟨Bx, cx, ?_⟩
                have h1 : xs.length = nx := by rw [← hnx, ← he, List.length_map]
                rw [← h1, ← hv]
                exact hm.box
              have HSX : Hid (∀ W, Quiet wc W → W.cell? ⟨xb, 0, none⟩ = some (.slice Bx nx cx)) := fun W hq => by rw [cell_of (hq.get hbx (fun x => x))]; rfl
              have HSC : Hid (∀ W, Quiet wc W → Calls Try.prog 14 #[ptrV tb, .slice Af fl.length cf, .slice At tl.length ct] W (GotPost W (scanE fl tl es2))) := fun W hq => by
                have hp := HP.out.quietly hq
                exact hp.scanA fl tl Af At cf ct (fun k => k < W.heap.size) (fun k => k < W.heap.size) ((HRF3.out.kept hp.quiet (fun _ _ x => x)).lim) ((HRT3.out.kept hp.quiet (fun _ _ x => x)).lim) HBF.out HBT.out (fun k x => x) (fun k x => x) (by omega)
              have HSD : Hid (∀ W, Quiet wc W → Calls Try.prog 22 #[ptrV xb, .slice Af fl.length cf, .slice At tl.length ct] W (RGotPost W (scanE fl tl es2))) := fun W hq => by
                have hp := HP.out.quietly hq
                exact hp.scanB fl tl Af At cf ct _ _ (HRF3.out.kept hp.quiet (fun _ _ x => x)) (HRT3.out.kept hp.quiet (fun _ _ x => x)) HBF.out HBT.out (by omega)
              have HLN : Hid (∀ W, Quiet wc W → Calls Try.prog 16 #[ptrV tb] W fun e w' => e = .returned (.int .i64 (nx : Int)) ∧ W = w') := fun W hq => by
                have := (HP.out.quietly hq).lenA
                rw [hnx] at this
                exact this
              have HHT : Hid (∀ W, Quiet wc W → Calls Try.prog 25 #[ptrV tb] W fun e w' => ∃ h : Nat, e = .returned (.int .i64 (h : Int)) ∧ 1 ≤ h ∧ h ≤ hvs nx ∧ W = w') := fun W hq => by
                obtain ⟨D, F, h1, _⟩ := (HP.out.quietly hq).ex
                have := tree_height h1 (by omega)
                rw [hnx] at this
                exact this
              have HNX := Lib.hid hnx
              clear hp2 hwe2 hbx HS HKA HKB HPJ HJB HJA HJK HJL HQD HEB HEA o0 o1 o2 o3 o4 hboxb'
              go_upto_region 26 with fail
              refine wp_region_held_drew (S := (fun w' => w'.cell? ⟨xb, 0, none⟩ = some (.slice Bx nx cx))) (by kernel_rfl) (HSX.out _ ((Only.refl (fun _ => False) wc).drew)) (fun hHeld => ?_)
              simp only [List.size_toArray, List.length_cons, List.length_nil, Nat.reduceAdd]
              (refine wpAnyH_take (i := 0) (oi := ?_) (v := ?_) ?_ (by kernel_rfl) (by decide +kernel) (by decide +kernel) ?_ (Or.inl ⟨?_, ?_⟩) (by first | assumption | exact trivial) ?_; rotate_left 2; (focus (simp only [List.getElem?_toArray, List.getElem?_cons_zero, List.getElem?_cons_succ] <;> rfl)); (focus (exact fun _ _ _ h => h)); (focus rfl); (focus (intro w hSw; (try dsimp only at hSw); go_simp; (try with_reducible rfl); done)); (try simp only [Act.put, List.setIfInBounds_toArray, List.set_cons_zero, List.set_cons_succ]))
              (refine wpAnyH_take (i := 1) (oi := ?_) (v := ?_) ?_ (by kernel_rfl) (by decide +kernel) (by decide +kernel) ?_ (Or.inl ⟨?_, ?_⟩) (by first | assumption | exact trivial) ?_; rotate_left 2; (focus (simp only [List.getElem?_toArray, List.getElem?_cons_zero, List.getElem?_cons_succ] <;> rfl)); (focus (exact fun _ _ _ h => h)); (focus rfl); (focus (intro w hSw; (try dsimp only at hSw); go_simp; (try with_reducible rfl); done)); (try simp only [Act.put, List.setIfInBounds_toArray, List.set_cons_zero, List.set_cons_succ]))
              (refine wpAnyH_take (i := 2) (oi := ?_) (v := ?_) ?_ (by kernel_rfl) (by decide +kernel) (by decide +kernel) ?_ (Or.inl ⟨?_, ?_⟩) (by first | assumption | exact trivial) ?_; rotate_left 2; (focus (simp only [List.getElem?_toArray, List.getElem?_cons_zero, List.getElem?_cons_succ] <;> rfl)); (focus (exact fun _ _ _ h => h)); (focus rfl); (focus (intro w hSw; (try dsimp only at hSw); go_simp; (try with_reducible rfl); done)); (try simp only [Act.put, List.setIfInBounds_toArray, List.set_cons_zero, List.set_cons_succ]))
              (refine wpAnyH_take (i := 3) (oi := ?_) (v := ?_) ?_ (by kernel_rfl) (by decide +kernel) (by decide +kernel) ?_ (Or.inl ⟨?_, ?_⟩) (by first | assumption | exact trivial) ?_; rotate_left 2; (focus (simp only [List.getElem?_toArray, List.getElem?_cons_zero, List.getElem?_cons_succ] <;> rfl)); (focus (exact fun _ _ _ h => h)); (focus rfl); (focus (intro w hSw; (try dsimp only at hSw); go_simp; (try with_reducible rfl); done)); (try simp only [Act.put, List.setIfInBounds_toArray, List.set_cons_zero, List.set_cons_succ]))
              (refine wpAnyH_take (i := 4) (oi := ?_) (v := ?_) ?_ (by kernel_rfl) (by decide +kernel) (by decide +kernel) ?_ (Or.inl ⟨?_, ?_⟩) (by first | assumption | exact trivial) ?_; rotate_left 2; (focus (simp only [List.getElem?_toArray, List.getElem?_cons_zero, List.getElem?_cons_succ] <;> rfl)); (focus (exact fun _ _ _ h => h)); (focus rfl); (focus (intro w hSw; (try dsimp only at hSw); go_simp; (try with_reducible rfl); done)); (try simp only [Act.put, List.setIfInBounds_toArray, List.set_cons_zero, List.set_cons_succ]))
              (refine wpAnyH_take (i := 5) (oi := ?_) (v := ?_) ?_ (by kernel_rfl) (by decide +kernel) (by decide +kernel) ?_ (Or.inl ⟨?_, ?_⟩) (by first | assumption | exact trivial) ?_; rotate_left 2; (focus (simp only [List.getElem?_toArray, List.getElem?_cons_zero, List.getElem?_cons_succ] <;> rfl)); (focus (exact fun _ _ _ h => h)); (focus rfl); (focus (intro w hSw; (try dsimp only at hSw); go_simp; (try with_reducible rfl); done)); (try simp only [Act.put, List.setIfInBounds_toArray, List.set_cons_zero, List.set_cons_succ]))
              (refine wpAnyH_take (i := 7) (oi := ?_) (v := ?_) ?_ (by kernel_rfl) (by decide +kernel) (by decide +kernel) ?_ (Or.inl ⟨?_, ?_⟩) (by first | assumption | exact trivial) ?_; rotate_left 2; (focus (simp only [List.getElem?_toArray, List.getElem?_cons_zero, List.getElem?_cons_succ] <;> rfl)); (focus (exact fun _ _ _ h => h)); (focus rfl); (focus (intro w hSw; (try dsimp only at hSw); go_simp; (try with_reducible rfl); done)); (try simp only [Act.put, List.setIfInBounds_toArray, List.set_cons_zero, List.set_cons_succ]))
              (refine wpAnyH_take (i := 8) (oi := ?_) (v := ?_) ?_ (by kernel_rfl) (by decide +kernel) (by decide +kernel) ?_ (Or.inl ⟨?_, ?_⟩) (by first | assumption | exact trivial) ?_; rotate_left 2; (focus (simp only [List.getElem?_toArray, List.getElem?_cons_zero, List.getElem?_cons_succ] <;> rfl)); (focus (exact fun _ _ _ h => h)); (focus rfl); (focus (intro w hSw; (try dsimp only at hSw); go_simp; (try with_reducible rfl); done)); (try simp only [Act.put, List.setIfInBounds_toArray, List.set_cons_zero, List.set_cons_succ]))
              (refine wpAnyH_take (i := 9) (oi := ?_) (v := ?_) ?_ (by kernel_rfl) (by decide +kernel) (by decide +kernel) ?_ (Or.inl ⟨?_, ?_⟩) (by first | assumption | exact trivial) ?_; rotate_left 2; (focus (simp only [List.getElem?_toArray, List.getElem?_cons_zero, List.getElem?_cons_succ] <;> rfl)); (focus (exact fun _ _ _ h => h)); (focus rfl); (focus (intro w hSw; (try dsimp only at hSw); go_simp; (try with_reducible rfl); done)); (try simp only [Act.put, List.setIfInBounds_toArray, List.set_cons_zero, List.set_cons_succ]))
              refine wpAnyH_ready (rs := [6]) (by kernel_rfl) (by simp) ?_
              refine AllReadyH.cons (o := ?_) ?_ ?_ AllReadyH.nil
              rotate_left 1
              (focus (simp only [List.getElem?_toArray, List.getElem?_cons_zero, List.getElem?_cons_succ] <;> rfl))
              intro K hK
              go_simp
              go_at_call 14
              refine (HSC.out _ (Only.refl (fun _ => False) wc).drew).mono ?_
              rintro e w6 ⟨v6, zs6, rfl, hz6, hg6⟩
              have HG6 := Lib.hid hg6
              have HZ6 := Lib.hid hz6
              obtain ⟨A6, n6, c6, hv6⟩ := own_slice hg6.row
              subst hv6
              have HQ6 := Lib.hid ((Only.refl (fun _ => False) wc).drew.trans hg6.quiet)
              clear hg6 hz6
              dsimp only
              refine hK.out _ _ ?_ (fun hHeld => ?_)
              · exact HSX.out _ HQ6.out
              clear hK K
              (try simp only [Act.put, List.setIfInBounds_toArray, List.set_cons_zero, List.set_cons_succ])
              refine wpAnyH_ready (rs := [10]) (by kernel_rfl) (by simp) ?_
              refine AllReadyH.cons (o := ?_) ?_ ?_ AllReadyH.nil
              rotate_left 1
              (focus (simp only [List.getElem?_toArray, List.getElem?_cons_zero, List.getElem?_cons_succ] <;> rfl))
              intro K hK
              go_simp
              go_at_call 22
              refine (HSD.out _ HQ6.out).mono ?_
              rintro e w7 ⟨v7, ys7, rfl, hz7, hs7, hk7⟩
              obtain ⟨A7, n7, c7, hv7⟩ := own_slice hs7.row
              subst hv7
              have HSM := Lib.hid (same_got HG6.out HZ6.out hs7 hz7 hk7 (by have := scan_len fl tl es2; omega))
              have HQ7 := Lib.hid (HQ6.out.trans hs7.quiet)
              clear hs7 hz7 hk7 HG6 HZ6
              dsimp only
              refine hK.out _ _ ?_ (fun hHeld => ?_)
              · exact HSX.out _ HQ7.out
              clear hK K
              (try simp only [Act.put, List.setIfInBounds_toArray, List.set_cons_zero, List.set_cons_succ])
              refine wpAnyH_ready (rs := [11]) (by kernel_rfl) (by simp) ?_
              refine AllReadyH.cons (o := ?_) ?_ ?_ AllReadyH.nil
              rotate_left 1
              (focus (simp only [List.getElem?_toArray, List.getElem?_cons_zero, List.getElem?_cons_succ] <;> rfl))
              intro K hK
              go_simp
              go_at_call 21
              refine (HSM.out).mono ?_
              rintro e w8 ⟨rfl, hq8⟩
              have HQ8 := Lib.hid (HQ7.out.trans hq8)
              clear hq8 HSM
              dsimp only
              refine hK.out _ _ ?_ (fun hHeld => ?_)
              · exact HSX.out _ HQ8.out
              clear hK K
              (try simp only [Act.put, List.setIfInBounds_toArray, List.set_cons_zero, List.set_cons_succ])
              (refine wpAnyH_take (i := 12) (oi := ?_) (v := ?_) ?_ (by kernel_rfl) (by decide +kernel) (by decide +kernel) ?_ (Or.inl ⟨?_, ?_⟩) (by first | assumption | exact trivial) ?_; rotate_left 2; (focus (simp only [List.getElem?_toArray, List.getElem?_cons_zero, List.getElem?_cons_succ] <;> rfl)); (focus (exact fun _ _ _ h => h)); (focus rfl); (focus (intro w hSw; (try dsimp only at hSw); go_simp; (try with_reducible rfl); done)); (try simp only [Act.put, List.setIfInBounds_toArray, List.set_cons_zero, List.set_cons_succ]))
              (refine wpAnyH_take (i := 13) (oi := ?_) (v := ?_) ?_ (by kernel_rfl) (by decide +kernel) (by decide +kernel) ?_ (Or.inl ⟨?_, ?_⟩) (by first | assumption | exact trivial) ?_; rotate_left 2; (focus (simp only [List.getElem?_toArray, List.getElem?_cons_zero, List.getElem?_cons_succ] <;> rfl)); (focus (exact fun _ _ _ h => h)); (focus rfl); (focus (intro w hSw; (try dsimp only at hSw); go_simp; (try with_reducible rfl); done)); (try simp only [Act.put, List.setIfInBounds_toArray, List.set_cons_zero, List.set_cons_succ]))
              (refine wpAnyH_take (i := 14) (oi := ?_) (v := ?_) ?_ (by kernel_rfl) (by decide +kernel) (by decide +kernel) ?_ (Or.inl ⟨?_, ?_⟩) (by first | assumption | exact trivial) ?_; rotate_left 2; (focus (simp only [List.getElem?_toArray, List.getElem?_cons_zero, List.getElem?_cons_succ] <;> rfl)); (focus (exact fun _ _ _ h => h)); (focus rfl); (focus (intro w hSw; (try dsimp only at hSw); go_simp; (try with_reducible rfl); done)); (try simp only [Act.put, List.setIfInBounds_toArray, List.set_cons_zero, List.set_cons_succ]))
              (refine wpAnyH_take (i := 15) (oi := ?_) (v := ?_) ?_ (by kernel_rfl) (by decide +kernel) (by decide +kernel) ?_ (Or.inl ⟨?_, ?_⟩) (by first | assumption | exact trivial) ?_; rotate_left 2; (focus (simp only [List.getElem?_toArray, List.getElem?_cons_zero, List.getElem?_cons_succ] <;> rfl)); (focus (exact fun _ _ _ h => h)); (focus rfl); (focus (intro w hSw; (try dsimp only at hSw); go_simp; (try with_reducible rfl); done)); (try simp only [Act.put, List.setIfInBounds_toArray, List.set_cons_zero, List.set_cons_succ]))
              (refine wpAnyH_take (i := 16) (oi := ?_) (v := ?_) ?_ (by kernel_rfl) (by decide +kernel) (by decide +kernel) ?_ (Or.inl ⟨?_, ?_⟩) (by first | assumption | exact trivial) ?_; rotate_left 2; (focus (simp only [List.getElem?_toArray, List.getElem?_cons_zero, List.getElem?_cons_succ] <;> rfl)); (focus (exact fun _ _ _ h => h)); (focus rfl); (focus (intro w hSw; (try dsimp only at hSw); go_simp; (try with_reducible rfl); done)); (try simp only [Act.put, List.setIfInBounds_toArray, List.set_cons_zero, List.set_cons_succ]))
              (refine wpAnyH_take (i := 17) (oi := ?_) (v := ?_) ?_ (by kernel_rfl) (by decide +kernel) (by decide +kernel) ?_ (Or.inl ⟨?_, ?_⟩) (by first | assumption | exact trivial) ?_; rotate_left 2; (focus (simp only [List.getElem?_toArray, List.getElem?_cons_zero, List.getElem?_cons_succ] <;> rfl)); (focus (exact fun _ _ _ h => h)); (focus rfl); (focus (intro w hSw; (try dsimp only at hSw); go_simp; (try with_reducible rfl); done)); (try simp only [Act.put, List.setIfInBounds_toArray, List.set_cons_zero, List.set_cons_succ]))
              (refine wpAnyH_take (i := 18) (oi := ?_) (v := ?_) ?_ (by kernel_rfl) (by decide +kernel) (by decide +kernel) ?_ (Or.inl ⟨?_, ?_⟩) (by first | assumption | exact trivial) ?_; rotate_left 2; (focus (simp only [List.getElem?_toArray, List.getElem?_cons_zero, List.getElem?_cons_succ] <;> rfl)); (focus (exact fun _ _ _ h => h)); (focus rfl); (focus (intro w hSw; (try dsimp only at hSw); go_simp; (try with_reducible rfl); done)); (try simp only [Act.put, List.setIfInBounds_toArray, List.set_cons_zero, List.set_cons_succ]))
              (refine wpAnyH_take (i := 20) (oi := ?_) (v := ?_) ?_ (by kernel_rfl) (by decide +kernel) (by decide +kernel) ?_ (Or.inl ⟨?_, ?_⟩) (by first | assumption | exact trivial) ?_; rotate_left 2; (focus (simp only [List.getElem?_toArray, List.getElem?_cons_zero, List.getElem?_cons_succ] <;> rfl)); (focus (exact fun _ _ _ h => h)); (focus rfl); (focus (intro w hSw; (try dsimp only at hSw); go_simp; (try with_reducible rfl); done)); (try simp only [Act.put, List.setIfInBounds_toArray, List.set_cons_zero, List.set_cons_succ]))
              (refine wpAnyH_take (i := 21) (oi := ?_) (v := ?_) ?_ (by kernel_rfl) (by decide +kernel) (by decide +kernel) ?_ (Or.inl ⟨?_, ?_⟩) (by first | assumption | exact trivial) ?_; rotate_left 2; (focus (simp only [List.getElem?_toArray, List.getElem?_cons_zero, List.getElem?_cons_succ] <;> rfl)); (focus (exact fun _ _ _ h => h)); (focus rfl); (focus (intro w hSw; (try dsimp only at hSw); go_simp; (try with_reducible rfl); done)); (try simp only [Act.put, List.setIfInBounds_toArray, List.set_cons_zero, List.set_cons_succ]))
              (refine wpAnyH_take (i := 22) (oi := ?_) (v := ?_) ?_ (by kernel_rfl) (by decide +kernel) (by decide +kernel) ?_ (Or.inl ⟨?_, ?_⟩) (by first | assumption | exact trivial) ?_; rotate_left 2; (focus (simp only [List.getElem?_toArray, List.getElem?_cons_zero, List.getElem?_cons_succ] <;> rfl)); (focus (exact fun _ _ _ h => h)); (focus rfl); (focus (intro w hSw; (try dsimp only at hSw); go_simp; (try with_reducible rfl); done)); (try simp only [Act.put, List.setIfInBounds_toArray, List.set_cons_zero, List.set_cons_succ]))
              (refine wpAnyH_take (i := 23) (oi := ?_) (v := ?_) ?_ (by kernel_rfl) (by decide +kernel) (by decide +kernel) ?_ (Or.inl ⟨?_, ?_⟩) (by first | assumption | exact trivial) ?_; rotate_left 2; (focus (simp only [List.getElem?_toArray, List.getElem?_cons_zero, List.getElem?_cons_succ] <;> rfl)); (focus (exact fun _ _ _ h => h)); (focus rfl); (focus (intro w hSw; (try dsimp only at hSw); go_simp; (try with_reducible rfl); done)); (try simp only [Act.put, List.setIfInBounds_toArray, List.set_cons_zero, List.set_cons_succ]))
              (refine wpAnyH_take (i := 24) (oi := ?_) (v := ?_) ?_ (by kernel_rfl) (by decide +kernel) (by decide +kernel) ?_ (Or.inl ⟨?_, ?_⟩) (by first | assumption | exact trivial) ?_; rotate_left 2; (focus (simp only [List.getElem?_toArray, List.getElem?_cons_zero, List.getElem?_cons_succ] <;> rfl)); (focus (exact fun _ _ _ h => h)); (focus rfl); (focus (intro w hSw; (try dsimp only at hSw); go_simp; (try with_reducible rfl); done)); (try simp only [Act.put, List.setIfInBounds_toArray, List.set_cons_zero, List.set_cons_succ]))
              refine wpAnyH_ready (rs := [19]) (by kernel_rfl) (by simp) ?_
              refine AllReadyH.cons (o := ?_) ?_ ?_ AllReadyH.nil
              rotate_left 1
              (focus (simp only [List.getElem?_toArray, List.getElem?_cons_zero, List.getElem?_cons_succ] <;> rfl))
              intro K hK
              go_simp
              go_at_call 16
              refine (HLN.out _ HQ8.out).mono ?_
              rintro e w9 ⟨rfl, rfl⟩
              dsimp only
              refine hK.out _ _ ?_ (fun hHeld => ?_)
              · exact HSX.out _ HQ8.out
              clear hK K
              (try simp only [Act.put, List.setIfInBounds_toArray, List.set_cons_zero, List.set_cons_succ])
              (refine wpAnyH_take (i := 25) (oi := ?_) (v := ?_) ?_ (by kernel_rfl) (by decide +kernel) (by decide +kernel) ?_ (Or.inl ⟨?_, ?_⟩) (by first | assumption | exact trivial) ?_; rotate_left 2; (focus (simp only [List.getElem?_toArray, List.getElem?_cons_zero, List.getElem?_cons_succ] <;> rfl)); (focus (exact fun _ _ _ h => h)); (focus rfl); (focus (intro w hSw; (try dsimp only at hSw); go_simp; (try with_reducible rfl); done)); (try simp only [Act.put, List.setIfInBounds_toArray, List.set_cons_zero, List.set_cons_succ]))
              (refine wpAnyH_take (i := 26) (oi := ?_) (v := ?_) ?_ (by kernel_rfl) (by decide +kernel) (by decide +kernel) ?_ (Or.inl ⟨?_, ?_⟩) (by first | assumption | exact trivial) ?_; rotate_left 2; (focus (simp only [List.getElem?_toArray, List.getElem?_cons_zero, List.getElem?_cons_succ] <;> rfl)); (focus (exact fun _ _ _ h => h)); (focus rfl); (focus (intro w hSw; (try dsimp only at hSw); go_simp; (try with_reducible rfl); done)); (try simp only [Act.put, List.setIfInBounds_toArray, List.set_cons_zero, List.set_cons_succ]))
              (refine wpAnyH_take (i := 27) (oi := ?_) (v := ?_) ?_ (by kernel_rfl) (by decide +kernel) (by decide +kernel) ?_ (Or.inl ⟨?_, ?_⟩) (by first | assumption | exact trivial) ?_; rotate_left 2; (focus (simp only [List.getElem?_toArray, List.getElem?_cons_zero, List.getElem?_cons_succ] <;> rfl)); (focus (exact fun _ _ _ h => h)); (focus rfl); (focus (intro w hSw; (try dsimp only at hSw); go_simp; (try with_reducible rfl); done)); (try simp only [Act.put, List.setIfInBounds_toArray, List.set_cons_zero, List.set_cons_succ]))
              refine wpAnyH_ready (rs := [28]) (by kernel_rfl) (by simp) ?_
              refine AllReadyH.cons (o := ?_) ?_ ?_ AllReadyH.nil
              rotate_left 1
              (focus (simp only [List.getElem?_toArray, List.getElem?_cons_zero, List.getElem?_cons_succ] <;> rfl))
              intro K hK
              go_simp
              go_at_call 25
              refine (HHT.out _ HQ8.out).mono ?_
              rintro e w9 ⟨h1, rfl, h11, h12, rfl⟩
              have e11 : decide ((h1 : Int) < 1) = false := decide_eq_false (by omega)
              dsimp only
              refine hK.out _ _ ?_ (fun hHeld => ?_)
              · exact HSX.out _ HQ8.out
              clear hK K
              (try simp only [Act.put, List.setIfInBounds_toArray, List.set_cons_zero, List.set_cons_succ])
              (refine wpAnyH_take (i := 29) (oi := ?_) (v := ?_) ?_ (by kernel_rfl) (by decide +kernel) (by decide +kernel) ?_ (Or.inl ⟨?_, ?_⟩) (by first | assumption | exact trivial) ?_; rotate_left 2; (focus (simp only [List.getElem?_toArray, List.getElem?_cons_zero, List.getElem?_cons_succ] <;> rfl)); (focus (exact fun _ _ _ h => h)); (focus rfl); (focus (intro w hSw; (try dsimp only at hSw); go_simp; (try with_reducible rfl); done)); (try simp only [Act.put, List.setIfInBounds_toArray, List.set_cons_zero, List.set_cons_succ]))
              (refine wpAnyH_take (i := 30) (oi := ?_) (v := ?_) ?_ (by kernel_rfl) (by decide +kernel) (by decide +kernel) ?_ (Or.inl ⟨?_, ?_⟩) (by first | assumption | exact trivial) ?_; rotate_left 2; (focus (simp only [List.getElem?_toArray, List.getElem?_cons_zero, List.getElem?_cons_succ] <;> rfl)); (focus (exact fun _ _ _ h => h)); (focus rfl); (focus (intro w hSw; (try dsimp only at hSw); go_simp; (try with_reducible rfl); done)); (try simp only [Act.put, List.setIfInBounds_toArray, List.set_cons_zero, List.set_cons_succ]))
              (refine wpAnyH_take (i := 31) (oi := ?_) (v := ?_) ?_ (by kernel_rfl) (by decide +kernel) (by decide +kernel) ?_ (Or.inl ⟨?_, ?_⟩) (by first | assumption | exact trivial) ?_; rotate_left 2; (focus (simp only [List.getElem?_toArray, List.getElem?_cons_zero, List.getElem?_cons_succ] <;> rfl)); (focus (exact fun _ _ _ h => h)); (focus rfl); (focus (intro w hSw; (try dsimp only at hSw); go_simp; (try with_reducible rfl); done)); (try simp only [Act.put, List.setIfInBounds_toArray, List.set_cons_zero, List.set_cons_succ]))
              (refine wpAnyH_take (i := 32) (oi := ?_) (v := ?_) ?_ (by kernel_rfl) (by decide +kernel) (by decide +kernel) ?_ (Or.inl ⟨?_, ?_⟩) (by first | assumption | exact trivial) ?_; rotate_left 2; (focus (simp only [List.getElem?_toArray, List.getElem?_cons_zero, List.getElem?_cons_succ] <;> rfl)); (focus (exact fun _ _ _ h => h)); (focus rfl); (focus (intro w hSw; (try dsimp only at hSw); go_simp; (try with_reducible rfl); done)); (try simp only [Act.put, List.setIfInBounds_toArray, List.set_cons_zero, List.set_cons_succ]))
              (refine wpAnyH_take (i := 34) (oi := ?_) (v := ?_) ?_ (by kernel_rfl) (by decide +kernel) (by decide +kernel) ?_ (Or.inl ⟨?_, ?_⟩) (by first | assumption | exact trivial) ?_; rotate_left 2; (focus (simp only [List.getElem?_toArray, List.getElem?_cons_zero, List.getElem?_cons_succ] <;> rfl)); (focus (exact fun _ _ _ h => h)); (focus rfl); (focus (intro w hSw; (try dsimp only at hSw); go_simp; (try with_reducible rfl); done)); (try simp only [Act.put, List.setIfInBounds_toArray, List.set_cons_zero, List.set_cons_succ]))
              (refine wpAnyH_take (i := 35) (oi := ?_) (v := ?_) ?_ (by kernel_rfl) (by decide +kernel) (by decide +kernel) ?_ (Or.inl ⟨?_, ?_⟩) (by first | assumption | exact trivial) ?_; rotate_left 2; (focus (simp only [List.getElem?_toArray, List.getElem?_cons_zero, List.getElem?_cons_succ] <;> rfl)); (focus (exact fun _ _ _ h => h)); (focus rfl); (focus (intro w hSw; (try dsimp only at hSw); go_simp; (try with_reducible rfl); done)); (try simp only [Act.put, List.setIfInBounds_toArray, List.set_cons_zero, List.set_cons_succ]))
              (refine wpAnyH_take (i := 36) (oi := ?_) (v := ?_) ?_ (by kernel_rfl) (by decide +kernel) (by decide +kernel) ?_ (Or.inl ⟨?_, ?_⟩) (by first | assumption | exact trivial) ?_; rotate_left 2; (focus (simp only [List.getElem?_toArray, List.getElem?_cons_zero, List.getElem?_cons_succ] <;> rfl)); (focus (exact fun _ _ _ h => h)); (focus rfl); (focus (intro w hSw; (try dsimp only at hSw); go_simp; (try with_reducible rfl); done)); (try simp only [Act.put, List.setIfInBounds_toArray, List.set_cons_zero, List.set_cons_succ]))
              (refine wpAnyH_take (i := 37) (oi := ?_) (v := ?_) ?_ (by kernel_rfl) (by decide +kernel) (by decide +kernel) ?_ (Or.inl ⟨?_, ?_⟩) (by first | assumption | exact trivial) ?_; rotate_left 2; (focus (simp only [List.getElem?_toArray, List.getElem?_cons_zero, List.getElem?_cons_succ] <;> rfl)); (focus (exact fun _ _ _ h => h)); (focus rfl); (focus (intro w hSw; (try dsimp only at hSw); go_simp; (try with_reducible rfl); done)); (try simp only [Act.put, List.setIfInBounds_toArray, List.set_cons_zero, List.set_cons_succ]))
              (refine wpAnyH_take (i := 38) (oi := ?_) (v := ?_) ?_ (by kernel_rfl) (by decide +kernel) (by decide +kernel) ?_ (Or.inl ⟨?_, ?_⟩) (by first | assumption | exact trivial) ?_; rotate_left 2; (focus (simp only [List.getElem?_toArray, List.getElem?_cons_zero, List.getElem?_cons_succ] <;> rfl)); (focus (exact fun _ _ _ h => h)); (focus rfl); (focus (intro w hSw; (try dsimp only at hSw); go_simp; (try with_reducible rfl); done)); (try simp only [Act.put, List.setIfInBounds_toArray, List.set_cons_zero, List.set_cons_succ]))
              refine wpAnyH_ready (rs := [33]) (by kernel_rfl) (by simp) ?_
              refine AllReadyH.cons (o := ?_) ?_ ?_ AllReadyH.nil
              rotate_left 1
              (focus (simp only [List.getElem?_toArray, List.getElem?_cons_zero, List.getElem?_cons_succ] <;> rfl))
              intro K hK
              go_simp
              go_at_call 25
              refine (HHT.out _ HQ8.out).mono ?_
              rintro e w9 ⟨h2, rfl, h21, h22, rfl⟩
              have e22 : decide ((hvs nx : Int) < (h2 : Int)) = false := decide_eq_false (by omega)
              have e23 : ¬ hvs nx < h2 := by omega
              have e24 : h2 ≤ hvs nx := h22
              dsimp only
              refine hK.out _ _ ?_ (fun hHeld => ?_)
              · exact HSX.out _ HQ8.out
              clear hK K
              (try simp only [Act.put, List.setIfInBounds_toArray, List.set_cons_zero, List.set_cons_succ])
              refine wpAnyH_ready (rs := [39]) (by kernel_rfl) (by simp) ?_
              refine AllReadyH.cons (o := ?_) ?_ ?_ AllReadyH.nil
              rotate_left 1
              (focus (simp only [List.getElem?_toArray, List.getElem?_cons_zero, List.getElem?_cons_succ] <;> rfl))
              intro K hK
              go_simp
              go_at_call 26
              refine (halves_any nx _ (by omega)).mono ?_
              rintro e w9 ⟨rfl, rfl⟩
              dsimp only
              refine hK.out _ _ ?_ (fun hHeld => ?_)
              · exact HSX.out _ HQ8.out
              clear hK K
              (try simp only [Act.put, List.setIfInBounds_toArray, List.set_cons_zero, List.set_cons_succ])
              (refine wpAnyH_take (i := 40) (oi := ?_) (v := ?_) ?_ (by kernel_rfl) (by decide +kernel) (by decide +kernel) ?_ (Or.inl ⟨?_, ?_⟩) (by first | assumption | exact trivial) ?_; rotate_left 2; (focus (simp only [List.getElem?_toArray, List.getElem?_cons_zero, List.getElem?_cons_succ] <;> rfl)); (focus (exact fun _ _ _ h => h)); (focus rfl); (focus (intro w hSw; (try dsimp only at hSw); go_simp; (try with_reducible rfl); done)); (try simp only [Act.put, List.setIfInBounds_toArray, List.set_cons_zero, List.set_cons_succ]))
              (refine wpAnyH_take (i := 41) (oi := ?_) (v := ?_) ?_ (by kernel_rfl) (by decide +kernel) (by decide +kernel) ?_ (Or.inl ⟨?_, ?_⟩) (by first | assumption | exact trivial) ?_; rotate_left 2; (focus (simp only [List.getElem?_toArray, List.getElem?_cons_zero, List.getElem?_cons_succ] <;> rfl)); (focus (exact fun _ _ _ h => h)); (focus rfl); (focus (intro w hSw; (try dsimp only at hSw); go_simp; (try with_reducible rfl); done)); (try simp only [Act.put, List.setIfInBounds_toArray, List.set_cons_zero, List.set_cons_succ]))
              (refine wpAnyH_take (i := 42) (oi := ?_) (v := ?_) ?_ (by kernel_rfl) (by decide +kernel) (by decide +kernel) ?_ (Or.inl ⟨?_, ?_⟩) (by first | assumption | exact trivial) ?_; rotate_left 2; (focus (simp only [List.getElem?_toArray, List.getElem?_cons_zero, List.getElem?_cons_succ] <;> rfl)); (focus (exact fun _ _ _ h => h)); (focus rfl); (focus (intro w hSw; (try dsimp only at hSw); go_simp; (try with_reducible rfl); done)); (try simp only [Act.put, List.setIfInBounds_toArray, List.set_cons_zero, List.set_cons_succ]))
              (refine wpAnyH_take (i := 43) (oi := ?_) (v := ?_) ?_ (by kernel_rfl) (by decide +kernel) (by decide +kernel) ?_ (Or.inl ⟨?_, ?_⟩) (by first | assumption | exact trivial) ?_; rotate_left 2; (focus (simp only [List.getElem?_toArray, List.getElem?_cons_zero, List.getElem?_cons_succ] <;> rfl)); (focus (exact fun _ _ _ h => h)); (focus rfl); (focus (intro w hSw; (try dsimp only at hSw); go_simp; (try with_reducible rfl); done)); (try simp only [Act.put, List.setIfInBounds_toArray, List.set_cons_zero, List.set_cons_succ]))
              (refine wpAnyH_take (i := 44) (oi := ?_) (v := ?_) ?_ (by kernel_rfl) (by decide +kernel) (by decide +kernel) ?_ (Or.inl ⟨?_, ?_⟩) (by first | assumption | exact trivial) ?_; rotate_left 2; (focus (simp only [List.getElem?_toArray, List.getElem?_cons_zero, List.getElem?_cons_succ] <;> rfl)); (focus (exact fun _ _ _ h => h)); (focus rfl); (focus (intro w hSw; (try dsimp only at hSw); go_simp; (try with_reducible rfl); done)); (try simp only [Act.put, List.setIfInBounds_toArray, List.set_cons_zero, List.set_cons_succ]))
              (refine wpAnyH_take (i := 45) (oi := ?_) (v := ?_) ?_ (by kernel_rfl) (by decide +kernel) (by decide +kernel) ?_ (Or.inl ⟨?_, ?_⟩) (by first | assumption | exact trivial) ?_; rotate_left 2; (focus (simp only [List.getElem?_toArray, List.getElem?_cons_zero, List.getElem?_cons_succ] <;> rfl)); (focus (exact fun _ _ _ h => h)); (focus rfl); (focus (intro w hSw; (try dsimp only at hSw); go_simp; (try with_reducible rfl); done)); (try simp only [Act.put, List.setIfInBounds_toArray, List.set_cons_zero, List.set_cons_succ]))
              (refine wpAnyH_take (i := 46) (oi := ?_) (v := ?_) ?_ (by kernel_rfl) (by decide +kernel) (by decide +kernel) ?_ (Or.inl ⟨?_, ?_⟩) (by first | assumption | exact trivial) ?_; rotate_left 2; (focus (simp only [List.getElem?_toArray, List.getElem?_cons_zero, List.getElem?_cons_succ] <;> rfl)); (focus (exact fun _ _ _ h => h)); (focus rfl); (focus (intro w hSw; (try dsimp only at hSw); go_simp; (try with_reducible rfl); done)); (try simp only [Act.put, List.setIfInBounds_toArray, List.set_cons_zero, List.set_cons_succ]))
              (refine wpAnyH_take (i := 47) (oi := ?_) (v := ?_) ?_ (by kernel_rfl) (by decide +kernel) (by decide +kernel) ?_ (Or.inl ⟨?_, ?_⟩) (by first | assumption | exact trivial) ?_; rotate_left 2; (focus (simp only [List.getElem?_toArray, List.getElem?_cons_zero, List.getElem?_cons_succ] <;> rfl)); (focus (exact fun _ _ _ h => h)); (focus rfl); (focus (intro w hSw; (try dsimp only at hSw); go_simp; (try with_reducible rfl); done)); (try simp only [Act.put, List.setIfInBounds_toArray, List.set_cons_zero, List.set_cons_succ]))
              (refine wpAnyH_take (i := 48) (oi := ?_) (v := undef) ?_ (by kernel_rfl) (by decide +kernel) (by decide +kernel) ?_ (Or.inr ⟨?_, rfl⟩) (by first | assumption | exact trivial) ?_; rotate_left 1; (focus (simp only [List.getElem?_toArray, List.getElem?_cons_zero, List.getElem?_cons_succ] <;> rfl)); (focus (exact fun _ _ _ h => h)); (focus rfl); (try simp only [Act.put, List.setIfInBounds_toArray, List.set_cons_zero, List.set_cons_succ]))
              (refine wpAnyH_take (i := 49) (oi := ?_) (v := undef) ?_ (by kernel_rfl) (by decide +kernel) (by decide +kernel) ?_ (Or.inr ⟨?_, rfl⟩) (by first | assumption | exact trivial) ?_; rotate_left 1; (focus (simp only [List.getElem?_toArray, List.getElem?_cons_zero, List.getElem?_cons_succ] <;> rfl)); (focus (exact fun _ _ _ h => h)); (focus rfl); (try simp only [Act.put, List.setIfInBounds_toArray, List.set_cons_zero, List.set_cons_succ]))
              (refine wpAnyH_take (i := 50) (oi := ?_) (v := undef) ?_ (by kernel_rfl) (by decide +kernel) (by decide +kernel) ?_ (Or.inr ⟨?_, rfl⟩) (by first | assumption | exact trivial) ?_; rotate_left 1; (focus (simp only [List.getElem?_toArray, List.getElem?_cons_zero, List.getElem?_cons_succ] <;> rfl)); (focus (exact fun _ _ _ h => h)); (focus rfl); (try simp only [Act.put, List.setIfInBounds_toArray, List.set_cons_zero, List.set_cons_succ]))
              (refine wpAnyH_take (i := 51) (oi := ?_) (v := undef) ?_ (by kernel_rfl) (by decide +kernel) (by decide +kernel) ?_ (Or.inr ⟨?_, rfl⟩) (by first | assumption | exact trivial) ?_; rotate_left 1; (focus (simp only [List.getElem?_toArray, List.getElem?_cons_zero, List.getElem?_cons_succ] <;> rfl)); (focus (exact fun _ _ _ h => h)); (focus rfl); (try simp only [Act.put, List.setIfInBounds_toArray, List.set_cons_zero, List.set_cons_succ]))
              (refine wpAnyH_take (i := 52) (oi := ?_) (v := undef) ?_ (by kernel_rfl) (by decide +kernel) (by decide +kernel) ?_ (Or.inr ⟨?_, rfl⟩) (by first | assumption | exact trivial) ?_; rotate_left 1; (focus (simp only [List.getElem?_toArray, List.getElem?_cons_zero, List.getElem?_cons_succ] <;> rfl)); (focus (exact fun _ _ _ h => h)); (focus rfl); (try simp only [Act.put, List.setIfInBounds_toArray, List.set_cons_zero, List.set_cons_succ]))
              (refine wpAnyH_take (i := 53) (oi := ?_) (v := undef) ?_ (by kernel_rfl) (by decide +kernel) (by decide +kernel) ?_ (Or.inr ⟨?_, rfl⟩) (by first | assumption | exact trivial) ?_; rotate_left 1; (focus (simp only [List.getElem?_toArray, List.getElem?_cons_zero, List.getElem?_cons_succ] <;> rfl)); (focus (exact fun _ _ _ h => h)); (focus rfl); (try simp only [Act.put, List.setIfInBounds_toArray, List.set_cons_zero, List.set_cons_succ]))
              (refine wpAnyH_take (i := 54) (oi := ?_) (v := ?_) ?_ (by kernel_rfl) (by decide +kernel) (by decide +kernel) ?_ (Or.inl ⟨?_, ?_⟩) (by first | assumption | exact trivial) ?_; rotate_left 2; (focus (simp only [List.getElem?_toArray, List.getElem?_cons_zero, List.getElem?_cons_succ] <;> rfl)); (focus (exact fun _ _ _ h => h)); (focus rfl); (focus (intro w hSw; (try dsimp only at hSw); go_simp; (try with_reducible rfl); done)); (try simp only [Act.put, List.setIfInBounds_toArray, List.set_cons_zero, List.set_cons_succ]))
              (refine wpAnyH_take (i := 55) (oi := ?_) (v := ?_) ?_ (by kernel_rfl) (by decide +kernel) (by decide +kernel) ?_ (Or.inl ⟨?_, ?_⟩) (by first | assumption | exact trivial) ?_; rotate_left 2; (focus (simp only [List.getElem?_toArray, List.getElem?_cons_zero, List.getElem?_cons_succ] <;> rfl)); (focus (exact fun _ _ _ h => h)); (focus rfl); (focus (intro w hSw; (try dsimp only at hSw); go_simp; (try with_reducible rfl); done)); (try simp only [Act.put, List.setIfInBounds_toArray, List.set_cons_zero, List.set_cons_succ]))
              refine wpAnyH_done (by kernel_rfl) ?_ _
              have HPY := Lib.hid (HP.out.quietly HQ8.out)
              clear HSC HSD HLN HHT HSX
              go_wp2_with fail
              go_roundw
              case rel => exact ⟨i + 1, es2, by omega, by omega, by go_num, by have := HNX.out; omega, HWE2.out, HPY.out⟩
              case measure => simp [intOf]; omega
      · clear HBO HOA
        have HPF := Lib.hid (HPW.out.quietly HQR.out)
        have HSA := Lib.hid (HPF.out.scanA [] [] none none 0 0 (fun _ => False) (fun _ => False) (Rd.nil _ _ _ _) (Rd.nil _ _ _ _) (by simp) (by simp) (fun _ x => x.elim) (fun _ x => x.elim) (by omega))
        go_wp2_with fail
        refine HSA.out.mono ?_
        rintro r w10 ⟨v10, zs10, rfl, hz10, hg10⟩
        have HG10 := Lib.hid hg10
        have HZ10 := Lib.hid hz10
        obtain ⟨A10, n10, c10, hv10⟩ := own_slice hg10.row
        subst hv10
        have HP10 := Lib.hid (HPF.out.quietly hg10.quiet)
        have HSB := Lib.hid (HP10.out.scanB [] [] none none 0 0 (fun _ => False) (fun _ => False) (Rd.nil _ _ _ _) (Rd.nil _ _ _ _) (by simp) (by simp) (by omega))
        clear hg10 hz10 HSA HPF
        go_wp2_with fail
        refine HSB.out.mono ?_
        rintro r w11 ⟨v11, ys11, rfl, hz11, hs11, hk11⟩
        obtain ⟨A11, n11, c11, hv11⟩ := own_slice hs11.row
        subst hv11
        have HP11 := Lib.hid (HP10.out.quietly hs11.quiet)
        have HSM := Lib.hid (same_got HG10.out HZ10.out hs11 hz11 hk11 (by have := scan_len [] [] es; omega))
        clear hz11 hs11 hk11 HSB HP10
        go_wp2_with fail
        refine HSM.out.mono ?_
        rintro r w12 ⟨rfl, hq12⟩
        have HRES : Hid (Below w.heap.size w w12) := onward (Below.refl _ _) (Nat.le_refl _) ((HQ3.out.trans HP11.out.quiet).trans hq12) (fun _ x => x.elim)
        clear hq12 HSM HP11
        go_wp2
        go_ret
        exact ⟨rfl, HRES.out⟩
    · clear hq
      have HPF := HPW
      have HSA := Lib.hid (HPF.out.scanA [] [] none none 0 0 (fun _ => False) (fun _ => False) (Rd.nil _ _ _ _) (Rd.nil _ _ _ _) (by simp) (by simp) (fun _ x => x.elim) (fun _ x => x.elim) (by omega))
      go_wp2_with fail
      refine HSA.out.mono ?_
      rintro r w10 ⟨v10, zs10, rfl, hz10, hg10⟩
      have HG10 := Lib.hid hg10
      have HZ10 := Lib.hid hz10
      obtain ⟨A10, n10, c10, hv10⟩ := own_slice hg10.row
      subst hv10
      have HP10 := Lib.hid (HPF.out.quietly hg10.quiet)
      have HSB := Lib.hid (HP10.out.scanB [] [] none none 0 0 (fun _ => False) (fun _ => False) (Rd.nil _ _ _ _) (Rd.nil _ _ _ _) (by simp) (by simp) (by omega))
      clear hg10 hz10 HSA HPF
      go_wp2_with fail
      refine HSB.out.mono ?_
      rintro r w11 ⟨v11, ys11, rfl, hz11, hs11, hk11⟩
      obtain ⟨A11, n11, c11, hv11⟩ := own_slice hs11.row
      subst hv11
      have HP11 := Lib.hid (HP10.out.quietly hs11.quiet)
      have HSM := Lib.hid (same_got HG10.out HZ10.out hs11 hz11 hk11 (by have := scan_len [] [] es; omega))
      clear hz11 hs11 hk11 HSB HP10
      go_wp2_with fail
      refine HSM.out.mono ?_
      rintro r w12 ⟨rfl, hq12⟩
      have HRES : Hid (Below w.heap.size w w12) := onward (Below.refl _ _) (Nat.le_refl _) ((HQ3.out.trans HP11.out.quiet).trans hq12) (fun _ x => x.elim)
      clear hq12 HSM HP11
      go_wp2
      go_ret
      exact ⟨rfl, HRES.out⟩

open Go.ChangeShapes Go.WideShapes in
set_option maxRecDepth 100000 in
theorem treePlays_walk {H : Type} {enc : TypeId × Value → H} {r : Reach} {base : Nat} {d0 d1 d2 d3 : DataW H} {p0 p1 p2 p3 : List MemPlace} (v0 v1 v2 v3 : Value) (W : World)
    (o0 : Value.okWide Try.prog W r base 4 v0) (h0 : DataW.Trod enc Try.prog W 0 (fun _ => true) true 4 v0 d0 p0) (o1 : Value.okWide Try.prog W r base 53 v1) (h1 : DataW.Trod enc Try.prog W 0 (fun _ => true) true 53 v1 d1 p1)
    (o2 : Value.okWide Try.prog W r base 23 v2) (h2 : DataW.Trod enc Try.prog W 0 (fun _ => true) true 23 v2 d2 p2) (o3 : Value.okWide Try.prog W r base 23 v3) (h3 : DataW.Trod enc Try.prog W 0 (fun _ => true) true 23 v3 d3 p3) :
    Calls Try.prog 8 #[v0, v1, v2, v3] W fun e w' => e = .returned (.bool true) ∧ Below W.heap.size W w' := by
  obtain ⟨b, rfl⟩ := okWide_bool Try.underlying4 o0
  obtain ⟨A, n, cap, rfl, a1, a2, a3⟩ := open_ops o1 h1
  obtain ⟨l, A2, cap2, rfl, b1, b2, b3, b4⟩ := open_bytes o2 h2
  obtain ⟨m, A3, cap3, rfl, c1, c2, c3, c4⟩ := open_bytes o3 h3
  cases b with
  | true => exact treePlays_nil A n cap l m A2 A3 cap2 cap3 W a3 a1 a2 b1 b2 b4 c1 c2 c4
  | false => exact treePlays_two A n cap l m A2 A3 cap2 cap3 W a3 a1 a2 b1 b2 b3 b4 c1 c2 c3 c4

end Go.Proofs.Ytbeenpobppkhdaa
