/- TreePlays of a nil tree. No condition. -/
import Derived.Test.YtbeenpobppkhdaaTPlay2
import Derived.Test.YtbeenpobppkhdaaTreePrunes
import Derived.Deep.CutBlock
namespace Go.Proofs.Ytbeenpobppkhdaa
open Go.RowKit Go.Lap

theorem elem_tid : Elem Try.prog 42 29 2 16 := Elem.mk' (.agg #[.int .i64 0, .int .i64 0]) Try.underlying42 (by kernel_rfl) rfl (by decide)

theorem one_tids (l : List (Int × Int)) : ∀ u ∈ tidsV l, u.oneCell' = true := by
  induction l with
  | nil => intro u h; cases h
  | cons p l ih =>
    intro u h
    rw [tidsV_cons] at h
    rcases List.mem_cons.1 h with rfl | h
    · rfl
    · rcases List.mem_cons.1 h with rfl | h
      · rfl
      · exact ih u h

/-- One cell of an owned row is another one. -/
theorem owns_set {w : World} {e : TypeId} {g n c q : Nat} {xs : List Value} (h : w.ownsRow 0 e 1 (.slice (some ⟨g, 0, none⟩) n c) n xs) (hq : q < n) (u : Value) : (w.setCell ⟨g, q, none⟩ u).ownsRow 0 e 1 (.slice (some ⟨g, 0, none⟩) n c) n (xs.set q u) := by
  obtain ⟨h1, h2⟩ := h
  rcases h2 with ⟨z, _⟩ | ⟨g', cap, cur, hv, hg, hh, r1, r2, r3, r4⟩
  · cases z
  · injection hv with e1 _ e3
    injection e1 with e1
    injection e1 with e1 _ _
    subst e1 e3
    refine ⟨by simpa using h1, Or.inr ⟨g, c, cur.setIfInBounds q u, rfl, hg, set_same hh q u, r1, r2, by simpa using r3, ?_⟩⟩
    rw [Array.toList_setIfInBounds, Nat.mul_one, List.take_set]
    rw [Nat.mul_one] at r4
    rw [r4]

theorem same_nil (w : World) : Calls Try.prog 21 #[.slice none 0 0, .slice none 0 0] w fun e w' => e = .returned (.bool true) ∧ Quiet w w' :=
  same_rows (w := w) none none 0 0 0 [] [] (fun _ => False) (fun _ => False) (fun _ => False) (fun _ => False) (Rd.nil _ _ _ _) (Rd.nil _ _ _ _) (fun x hx => by cases hx) (fun x hx => by cases hx) rfl rfl (by omega)

theorem wrap8 : ∀ q : Nat, q < 8 → IntKind.u8.wrap (q : Int) = (q : Int) := by decide

theorem Fresh.undrew {w w' : World} {v : Value} {l : List Nat} (h : Fresh w.drew w' v l) : Fresh w w' v l := ⟨(Only.refl (fun _ => False) w).drew.trans h.quiet, h.new, h.own⟩

theorem op_cells {w : World} {g : Nat} {o : OpV} (h : w.heap[g]? = some (.cells #[.int .u8 (o.d : Int), .slice o.A o.key.length o.cap, .int .i64 o.pg, .int .i64 o.sl, .slice o.B o.m o.c2] 55 (0, 0))) :
    w.cell? ⟨g, 0, none⟩ = some (.int .u8 (o.d : Int)) ∧ w.cell? ⟨g, 1, none⟩ = some (.slice o.A o.key.length o.cap) ∧ w.cell? ⟨g, 2, none⟩ = some (.int .i64 o.pg) ∧ w.cell? ⟨g, 3, none⟩ = some (.int .i64 o.sl) ∧ w.cell? ⟨g, 4, none⟩ = some (.slice o.B o.m o.c2) :=
  ⟨by rw [cell_of h]; rfl, by rw [cell_of h]; rfl, by rw [cell_of h]; rfl, by rw [cell_of h]; rfl, by rw [cell_of h]; rfl⟩

set_option maxHeartbeats 8000000 in
set_option maxRecDepth 100000 in
theorem treePlays_nil (A : Option Addr) (n cap : Nat) (k2 k3 : List Nat) (A2 A3 : Option Addr) (cap2 cap3 : Nat) (w : World) (h : OpsIn w w.heap.size A n) (hn : n ≤ cap) (hcap : cap ≤ maxLen) (hk1 : k2.length ≤ cap2) (hk2 : cap2 ≤ maxLen) (hkr : Rd w (· < w.heap.size) 1 A2 k2.length (bytesV k2)) (hm1 : k3.length ≤ cap3) (hm2 : cap3 ≤ maxLen) (hmr : Rd w (· < w.heap.size) 1 A3 k3.length (bytesV k3)) :
    Calls Try.prog 8 #[.bool true, .slice A n cap, .slice A2 k2.length cap2, .slice A3 k3.length cap3] w fun e w' => e = .returned (.bool true) ∧ Below w.heap.size w w' := by
  unfold maxLen at hcap
  have HI := Lib.hid h
  have HCF := Lib.hid (fun (W : World) (hq : Quiet w W) => cut_any A2 k2.length cap2 60 k2 (· < w.heap.size) W (hkr.kept hq (fun _ _ x => x)) rfl hk1 hk2 (by omega))
  have HCT := Lib.hid (fun (W : World) (hq : Quiet w W) => cut_any A3 k3.length cap3 60 k3 (· < w.heap.size) W (hmr.kept hq (fun _ _ x => x)) rfl hm1 hm2 (by omega))
  clear h hk1 hk2 hkr hm1 hm2 hmr
  go_enter Try.func8, Try.ntmps8
  go_wp2_with fail
  refine (awake8 _).mono ?_
  rintro e w1 ⟨rfl, hq1⟩
  have HQ1 := Lib.hid hq1
  clear hq1
  go_wp2_with fail
  refine (HCF.out w1 HQ1.out).mono ?_
  rintro e w2 ⟨v2, rfl, hf2⟩
  have HQ2 := Lib.hid (HQ1.out.trans hf2.quiet)
  obtain ⟨Af, nf, cf, hvf⟩ := own_slice hf2.own
  subst hvf
  clear hf2
  go_wp2_with fail
  refine (HCT.out w2 HQ2.out).mono ?_
  rintro e w3 ⟨v3, rfl, hf3⟩
  have HQ3 := Lib.hid (HQ2.out.trans hf3.quiet)
  obtain ⟨At, nt, ct, hvt⟩ := own_slice hf3.own
  subst hvt
  clear hf3 HCF HCT
  go_wp2_with fail
  refine (new_any w3).mono ?_
  rintro e w4 ⟨rfl, hq4, h40, h41⟩
  have HQ4 := Lib.hid (HQ3.out.trans (hq4.alloc (.cells #[.slice none 0 0] 45)))
  clear hq4 h40 h41
  go_wp2_with fail
  generalize w4.alloc (.cells #[.slice none 0 0] 45) = w5 at HQ4 ⊢
  go_loopw [30, 11, 12, 13, 14, 15, 16, 17] (fun c _ _ _ _ _ _ _ wr => ∃ (i : Nat), i ≤ n ∧ c = .int .i64 (i : Int) ∧ Quiet w wr) (fun c _ _ _ _ _ _ _ _ => n - (intOf c).toNat)
  case atStart => exact ⟨0, Nat.zero_le _, rfl, HQ4.out⟩
  case round =>
    obtain ⟨i, hi, rfl, hq⟩ := hrel
    have HQ := Lib.hid hq
    clear HQ4
    by_cases hlt : i < n
    · obtain ⟨b, off, o, rfl, hb, hok, c0, c1, c2, c3, c4⟩ := HI.out.kept (onward (Below.refl _ _) (Nat.le_refl _) hq (fun _ x => x.elim)) i hlt
      clear hq
      have HOK := Lib.hid hok
      have HQA := Lib.hid (HQ.out.alloc (.cells #[.int .u8 (o.d : Int), .slice o.A o.key.length o.cap, .int .i64 o.pg, .int .i64 o.sl, .slice o.B o.m o.c2] 55))
      have HBO := Lib.hid (alloc_new wr (.cells #[.int .u8 (o.d : Int), .slice o.A o.key.length o.cap, .int .i64 o.pg, .int .i64 o.sl, .slice o.B o.m o.c2] 55))
      have HOA := Lib.hid (hok.kept ((Only.refl (fun _ => False) wr).alloc (.cells #[.int .u8 (o.d : Int), .slice o.A o.key.length o.cap, .int .i64 o.pg, .int .i64 o.sl, .slice o.B o.m o.c2] 55)) (fun _ x => x.elim))
      have d0 : (0 : Int) ≤ (i : Int) := by omega
      have d1 : (i : Int) < (n : Int) := by omega
      clear hok
      by_cases h200 : i < 200
      · go_upto_region 11 with fail
        clear c0 c1 c2 c3 c4
        generalize wr.alloc (.cells #[.int .u8 (o.d : Int), .slice o.A o.key.length o.cap, .int .i64 o.pg, .int .i64 o.sl, .slice o.B o.m o.c2] 55) = wa at HQA HBO HOA ⊢
        generalize wr.heap.size = ob at HBO ⊢
        obtain ⟨k5, hk5⟩ : ∃ k5, o.key.take 610 = k5 := ⟨_, rfl⟩
        have hk5l : k5.length ≤ 610 := by rw [← hk5, List.length_take]; omega
        have HK5B : Hid (∀ x ∈ k5, x < 256) := fun x hx => HOA.out.kb x (by rw [← hk5] at hx; exact List.mem_of_mem_take hx)
        have HCU : Hid (∀ W, Quiet wa W → Calls Try.prog 10 #[.slice o.A o.key.length o.cap, .int .i64 610] W (FreshPost W k5)) := fun W hq => by
          have := cut_any o.A o.key.length o.cap 610 o.key _ W (HOA.out.kr.kept hq (fun _ _ x => x)) rfl HOA.out.kc HOA.out.km (by omega)
          rw [hk5] at this
          exact this
        obtain ⟨o0, o1, o2, o3, o4⟩ := op_cells HBO.out
        have hob := lt_of_get HBO.out
        clear hk5
        go_cut [13] (fun s13 wx => ∃ bx A5 c5, s13 = ptrV bx ∧ EBox wa wx bx 31 k5 o.pg o.sl A5 c5)
        case first =>
          have HS : Hid (∀ W', Quiet wa W' → (fun w' => w'.cell? ⟨ob, 1, none⟩ = some (.slice o.A o.key.length o.cap) ∧ w'.cell? ⟨ob, 2, none⟩ = some (.int .i64 o.pg) ∧ w'.cell? ⟨ob, 3, none⟩ = some (.int .i64 o.sl)) W') := fun W' hq => ⟨hq.cell o1 (fun x => x), hq.cell o2 (fun x => x), hq.cell o3 (fun x => x)⟩
          refine wp_region_last (S := (fun w' => w'.cell? ⟨ob, 1, none⟩ = some (.slice o.A o.key.length o.cap) ∧ w'.cell? ⟨ob, 2, none⟩ = some (.int .i64 o.pg) ∧ w'.cell? ⟨ob, 3, none⟩ = some (.int .i64 o.sl))) (by kernel_rfl) (by kernel_rfl) (by simp) (⟨o1, o2, o3⟩) (fun hHeld => ?_)
          simp only [List.pop_toArray, List.dropLast, List.size_toArray, List.length_cons, List.length_nil, Nat.reduceAdd, Nat.reduceSub]
          (refine wpAnyH_take (i := 0) (oi := ?_) (v := ?_) ?_ (by kernel_rfl) (by decide +kernel) (by decide +kernel) ?_ (Or.inl ⟨?_, ?_⟩) (by assumption) ?_; rotate_left 2; (focus (simp only [List.getElem?_toArray, List.getElem?_cons_zero, List.getElem?_cons_succ] <;> rfl)); (focus (exact fun _ _ _ => last_panic (fun h => h))); (focus rfl); (focus (intro w hSw; (try dsimp only at hSw); go_simp; (try with_reducible rfl); done)); (try simp only [Act.put, List.setIfInBounds_toArray, List.set_cons_zero, List.set_cons_succ]))
          (refine wpAnyH_take (i := 1) (oi := ?_) (v := ?_) ?_ (by kernel_rfl) (by decide +kernel) (by decide +kernel) ?_ (Or.inl ⟨?_, ?_⟩) (by assumption) ?_; rotate_left 2; (focus (simp only [List.getElem?_toArray, List.getElem?_cons_zero, List.getElem?_cons_succ] <;> rfl)); (focus (exact fun _ _ _ => last_panic (fun h => h))); (focus rfl); (focus (intro w hSw; (try dsimp only at hSw); go_simp; (try with_reducible rfl); done)); (try simp only [Act.put, List.setIfInBounds_toArray, List.set_cons_zero, List.set_cons_succ]))
          (refine wpAnyH_take (i := 2) (oi := ?_) (v := ?_) ?_ (by kernel_rfl) (by decide +kernel) (by decide +kernel) ?_ (Or.inl ⟨?_, ?_⟩) (by assumption) ?_; rotate_left 2; (focus (simp only [List.getElem?_toArray, List.getElem?_cons_zero, List.getElem?_cons_succ] <;> rfl)); (focus (exact fun _ _ _ => last_panic (fun h => h))); (focus rfl); (focus (intro w hSw; (try dsimp only at hSw); go_simp; (try with_reducible rfl); done)); (try simp only [Act.put, List.setIfInBounds_toArray, List.set_cons_zero, List.set_cons_succ]))
          (refine wpAnyH_take (i := 4) (oi := ?_) (v := ?_) ?_ (by kernel_rfl) (by decide +kernel) (by decide +kernel) ?_ (Or.inl ⟨?_, ?_⟩) (by assumption) ?_; rotate_left 2; (focus (simp only [List.getElem?_toArray, List.getElem?_cons_zero, List.getElem?_cons_succ] <;> rfl)); (focus (exact fun _ _ _ => last_panic (fun h => h))); (focus rfl); (focus (intro w hSw; (try dsimp only at hSw); go_simp; (try with_reducible rfl); done)); (try simp only [Act.put, List.setIfInBounds_toArray, List.set_cons_zero, List.set_cons_succ]))
          (refine wpAnyH_take (i := 5) (oi := ?_) (v := ?_) ?_ (by kernel_rfl) (by decide +kernel) (by decide +kernel) ?_ (Or.inl ⟨?_, ?_⟩) (by assumption) ?_; rotate_left 2; (focus (simp only [List.getElem?_toArray, List.getElem?_cons_zero, List.getElem?_cons_succ] <;> rfl)); (focus (exact fun _ _ _ => last_panic (fun h => h))); (focus rfl); (focus (intro w hSw; (try dsimp only at hSw); go_simp; (try with_reducible rfl); done)); (try simp only [Act.put, List.setIfInBounds_toArray, List.set_cons_zero, List.set_cons_succ]))
          (refine wpAnyH_take (i := 6) (oi := ?_) (v := ?_) ?_ (by kernel_rfl) (by decide +kernel) (by decide +kernel) ?_ (Or.inl ⟨?_, ?_⟩) (by assumption) ?_; rotate_left 2; (focus (simp only [List.getElem?_toArray, List.getElem?_cons_zero, List.getElem?_cons_succ] <;> rfl)); (focus (exact fun _ _ _ => last_panic (fun h => h))); (focus rfl); (focus (intro w hSw; (try dsimp only at hSw); go_simp; (try with_reducible rfl); done)); (try simp only [Act.put, List.setIfInBounds_toArray, List.set_cons_zero, List.set_cons_succ]))
          refine wpAnyH_ready (rs := [3, 8]) (by kernel_rfl) (by simp) ?_
          refine AllReadyH.cons (o := ?_) ?_ ?_ ?_
          rotate_left 1
          (focus (simp only [List.getElem?_toArray, List.getElem?_cons_zero, List.getElem?_cons_succ] <;> rfl))
          · intro K hK
            go_simp
            go_at_call 10
            refine (HCU.out _ ((Only.refl (fun _ => False) wa).drew)).mono ?_
            rintro e w5 ⟨v5, rfl, hf5⟩
            obtain ⟨A5, c5, hv5, _, _, _⟩ := own_form hf5.own
            subst hv5
            have hq5 : Quiet wa w5 := ((Only.refl (fun _ => False) wa).drew).trans hf5.quiet
            dsimp only
            refine hK.out _ _ ?_ (fun hHeld => ?_)
            · exact HS.out _ hq5
            clear hK K
            (try simp only [Act.put, List.setIfInBounds_toArray, List.set_cons_zero, List.set_cons_succ])
            (refine wpAnyH_take (i := 7) (oi := ?_) (v := ?_) ?_ (by kernel_rfl) (by decide +kernel) (by decide +kernel) ?_ (Or.inl ⟨?_, ?_⟩) (by assumption) ?_; rotate_left 2; (focus (simp only [List.getElem?_toArray, List.getElem?_cons_zero, List.getElem?_cons_succ] <;> rfl)); (focus (exact fun _ _ _ => last_panic (fun h => h))); (focus rfl); (focus (intro w hSw; (try dsimp only at hSw); go_simp; (try with_reducible rfl); done)); (try simp only [Act.put, List.setIfInBounds_toArray, List.set_cons_zero, List.set_cons_succ]))
            refine wpAnyH_ready (rs := [8]) (by kernel_rfl) (by simp) ?_
            refine AllReadyH.cons (o := ?_) ?_ ?_ ?_
            rotate_left 1
            (focus (simp only [List.getElem?_toArray, List.getElem?_cons_zero, List.getElem?_cons_succ] <;> rfl))
            · intro K hK
              go_simp
              refine hK.out _ _ ?_ (fun hHeld => ?_)
              · exact HS.out _ (hq5.alloc _)
              clear hK K
              (try simp only [Act.put, List.setIfInBounds_toArray, List.set_cons_zero, List.set_cons_succ])
              refine wpAnyH_done (by kernel_rfl) ?_ _
              refine last_step (o := ?_) ?_ ?_
              rotate_left 1
              (focus (simp only [List.getElem?_toArray, List.getElem?_cons_zero, List.getElem?_cons_succ] <;> rfl))
              intro K hK
              go_simp
              refine hK.out _ _ ?_
              clear hK K
              go_wp2_with fail
              go_meet
              exact ⟨_, _, _, rfl, EBox.a (Fresh.undrew hf5) _ _ _⟩
            exact AllReadyH.nil
          refine AllReadyH.cons (o := ?_) ?_ ?_ ?_
          rotate_left 1
          (focus (simp only [List.getElem?_toArray, List.getElem?_cons_zero, List.getElem?_cons_succ] <;> rfl))
          · intro K hK
            go_simp
            refine hK.out _ _ ?_ (fun hHeld => ?_)
            · exact HS.out _ (((Only.refl (fun _ => False) wa).alloc (.cells #[.slice none 0 0, .int .i64 0, .int .i64 0] 31)).drew)
            clear hK K
            (try simp only [Act.put, List.setIfInBounds_toArray, List.set_cons_zero, List.set_cons_succ])
            refine wpAnyH_ready (rs := [3]) (by kernel_rfl) (by simp) ?_
            refine AllReadyH.cons (o := ?_) ?_ ?_ ?_
            rotate_left 1
            (focus (simp only [List.getElem?_toArray, List.getElem?_cons_zero, List.getElem?_cons_succ] <;> rfl))
            · intro K hK
              go_simp
              go_at_call 10
              refine (HCU.out _ (((Only.refl (fun _ => False) wa).alloc (.cells #[.slice none 0 0, .int .i64 0, .int .i64 0] 31)).drew)).mono ?_
              rintro e w5 ⟨v5, rfl, hf5⟩
              obtain ⟨A5, c5, hv5, _, _, _⟩ := own_form hf5.own
              subst hv5
              have hq5 : Quiet wa w5 := (((Only.refl (fun _ => False) wa).alloc (.cells #[.slice none 0 0, .int .i64 0, .int .i64 0] 31)).drew).trans hf5.quiet
              dsimp only
              refine hK.out _ _ ?_ (fun hHeld => ?_)
              · exact HS.out _ hq5
              clear hK K
              (try simp only [Act.put, List.setIfInBounds_toArray, List.set_cons_zero, List.set_cons_succ])
              (refine wpAnyH_take (i := 7) (oi := ?_) (v := ?_) ?_ (by kernel_rfl) (by decide +kernel) (by decide +kernel) ?_ (Or.inl ⟨?_, ?_⟩) (by assumption) ?_; rotate_left 2; (focus (simp only [List.getElem?_toArray, List.getElem?_cons_zero, List.getElem?_cons_succ] <;> rfl)); (focus (exact fun _ _ _ => last_panic (fun h => h))); (focus rfl); (focus (intro w hSw; (try dsimp only at hSw); go_simp; (try with_reducible rfl); done)); (try simp only [Act.put, List.setIfInBounds_toArray, List.set_cons_zero, List.set_cons_succ]))
              have hzb := hf5.quiet.get (alloc_new wa (.cells #[.slice none 0 0, .int .i64 0, .int .i64 0] 31)) (fun x => x)
              have z0 : w5.cell? ⟨wa.heap.size, 0, none⟩ = some (.slice none 0 0) := (by rw [cell_of hzb]; rfl)
              have z1 : w5.cell? ⟨wa.heap.size, 1, none⟩ = some (.int .i64 0) := (by rw [cell_of hzb]; rfl)
              have z2 : w5.cell? ⟨wa.heap.size, 2, none⟩ = some (.int .i64 0) := (by rw [cell_of hzb]; rfl)
              have zf := fun o => frozen_of hzb o
              refine wpAnyH_done (by kernel_rfl) ?_ _
              refine last_step (o := ?_) ?_ ?_
              rotate_left 1
              (focus (simp only [List.getElem?_toArray, List.getElem?_cons_zero, List.getElem?_cons_succ] <;> rfl))
              intro K hK
              go_simp
              refine hK.out _ _ ?_
              clear hK K
              go_wp2_with fail
              go_meet
              exact ⟨_, _, _, rfl, EBox.b (Fresh.undrew hf5) _ _⟩
            exact AllReadyH.nil
          exact AllReadyH.nil
        case rest =>
          obtain ⟨ba, Aa, ca, rfl, hboxa⟩ := hcut
          have HEA := Lib.hid hboxa
          obtain ⟨q0, q1, q2, q3, q4⟩ := op_cells (hboxa.quiet.get HBO.out (fun x => x))
          have hobc : ob < wc.heap.size := by have := hboxa.quiet.size; omega
          have HCV : Hid (∀ W, Quiet wc W → Calls Try.prog 10 #[.slice o.A o.key.length o.cap, .int .i64 610] W (FreshPost W k5)) := fun W hq => HCU.out W (HEA.out.quiet.trans hq)
          clear hboxa o0 o1 o2 o3 o4
          go_upto_region 12 with fail
          generalize wc = wd at HEA q0 q1 q2 q3 q4 hobc HCV ⊢
          go_cut [14] (fun s14 wx => ∃ bx A5 c5, s14 = ptrV bx ∧ EBox wd wx bx 34 k5 o.pg o.sl A5 c5)
          case first =>
            have HS : Hid (∀ W', Quiet wd W' → (fun w' => w'.cell? ⟨ob, 1, none⟩ = some (.slice o.A o.key.length o.cap) ∧ w'.cell? ⟨ob, 2, none⟩ = some (.int .i64 o.pg) ∧ w'.cell? ⟨ob, 3, none⟩ = some (.int .i64 o.sl)) W') := fun W' hq => ⟨hq.cell q1 (fun x => x), hq.cell q2 (fun x => x), hq.cell q3 (fun x => x)⟩
            refine wp_region_last (S := (fun w' => w'.cell? ⟨ob, 1, none⟩ = some (.slice o.A o.key.length o.cap) ∧ w'.cell? ⟨ob, 2, none⟩ = some (.int .i64 o.pg) ∧ w'.cell? ⟨ob, 3, none⟩ = some (.int .i64 o.sl))) (by kernel_rfl) (by kernel_rfl) (by simp) (⟨q1, q2, q3⟩) (fun hHeld => ?_)
            simp only [List.pop_toArray, List.dropLast, List.size_toArray, List.length_cons, List.length_nil, Nat.reduceAdd, Nat.reduceSub]
            (refine wpAnyH_take (i := 0) (oi := ?_) (v := ?_) ?_ (by kernel_rfl) (by decide +kernel) (by decide +kernel) ?_ (Or.inl ⟨?_, ?_⟩) (by assumption) ?_; rotate_left 2; (focus (simp only [List.getElem?_toArray, List.getElem?_cons_zero, List.getElem?_cons_succ] <;> rfl)); (focus (exact fun _ _ _ => last_panic (fun h => h))); (focus rfl); (focus (intro w hSw; (try dsimp only at hSw); go_simp; (try with_reducible rfl); done)); (try simp only [Act.put, List.setIfInBounds_toArray, List.set_cons_zero, List.set_cons_succ]))
            (refine wpAnyH_take (i := 1) (oi := ?_) (v := ?_) ?_ (by kernel_rfl) (by decide +kernel) (by decide +kernel) ?_ (Or.inl ⟨?_, ?_⟩) (by assumption) ?_; rotate_left 2; (focus (simp only [List.getElem?_toArray, List.getElem?_cons_zero, List.getElem?_cons_succ] <;> rfl)); (focus (exact fun _ _ _ => last_panic (fun h => h))); (focus rfl); (focus (intro w hSw; (try dsimp only at hSw); go_simp; (try with_reducible rfl); done)); (try simp only [Act.put, List.setIfInBounds_toArray, List.set_cons_zero, List.set_cons_succ]))
            (refine wpAnyH_take (i := 2) (oi := ?_) (v := ?_) ?_ (by kernel_rfl) (by decide +kernel) (by decide +kernel) ?_ (Or.inl ⟨?_, ?_⟩) (by assumption) ?_; rotate_left 2; (focus (simp only [List.getElem?_toArray, List.getElem?_cons_zero, List.getElem?_cons_succ] <;> rfl)); (focus (exact fun _ _ _ => last_panic (fun h => h))); (focus rfl); (focus (intro w hSw; (try dsimp only at hSw); go_simp; (try with_reducible rfl); done)); (try simp only [Act.put, List.setIfInBounds_toArray, List.set_cons_zero, List.set_cons_succ]))
            (refine wpAnyH_take (i := 4) (oi := ?_) (v := ?_) ?_ (by kernel_rfl) (by decide +kernel) (by decide +kernel) ?_ (Or.inl ⟨?_, ?_⟩) (by assumption) ?_; rotate_left 2; (focus (simp only [List.getElem?_toArray, List.getElem?_cons_zero, List.getElem?_cons_succ] <;> rfl)); (focus (exact fun _ _ _ => last_panic (fun h => h))); (focus rfl); (focus (intro w hSw; (try dsimp only at hSw); go_simp; (try with_reducible rfl); done)); (try simp only [Act.put, List.setIfInBounds_toArray, List.set_cons_zero, List.set_cons_succ]))
            (refine wpAnyH_take (i := 5) (oi := ?_) (v := ?_) ?_ (by kernel_rfl) (by decide +kernel) (by decide +kernel) ?_ (Or.inl ⟨?_, ?_⟩) (by assumption) ?_; rotate_left 2; (focus (simp only [List.getElem?_toArray, List.getElem?_cons_zero, List.getElem?_cons_succ] <;> rfl)); (focus (exact fun _ _ _ => last_panic (fun h => h))); (focus rfl); (focus (intro w hSw; (try dsimp only at hSw); go_simp; (try with_reducible rfl); done)); (try simp only [Act.put, List.setIfInBounds_toArray, List.set_cons_zero, List.set_cons_succ]))
            (refine wpAnyH_take (i := 6) (oi := ?_) (v := ?_) ?_ (by kernel_rfl) (by decide +kernel) (by decide +kernel) ?_ (Or.inl ⟨?_, ?_⟩) (by assumption) ?_; rotate_left 2; (focus (simp only [List.getElem?_toArray, List.getElem?_cons_zero, List.getElem?_cons_succ] <;> rfl)); (focus (exact fun _ _ _ => last_panic (fun h => h))); (focus rfl); (focus (intro w hSw; (try dsimp only at hSw); go_simp; (try with_reducible rfl); done)); (try simp only [Act.put, List.setIfInBounds_toArray, List.set_cons_zero, List.set_cons_succ]))
            refine wpAnyH_ready (rs := [3, 8]) (by kernel_rfl) (by simp) ?_
            refine AllReadyH.cons (o := ?_) ?_ ?_ ?_
            rotate_left 1
            (focus (simp only [List.getElem?_toArray, List.getElem?_cons_zero, List.getElem?_cons_succ] <;> rfl))
            · intro K hK
              go_simp
              go_at_call 10
              refine (HCV.out _ ((Only.refl (fun _ => False) wd).drew)).mono ?_
              rintro e w5 ⟨v5, rfl, hf5⟩
              obtain ⟨A5, c5, hv5, _, _, _⟩ := own_form hf5.own
              subst hv5
              have hq5 : Quiet wd w5 := ((Only.refl (fun _ => False) wd).drew).trans hf5.quiet
              dsimp only
              refine hK.out _ _ ?_ (fun hHeld => ?_)
              · exact HS.out _ hq5
              clear hK K
              (try simp only [Act.put, List.setIfInBounds_toArray, List.set_cons_zero, List.set_cons_succ])
              (refine wpAnyH_take (i := 7) (oi := ?_) (v := ?_) ?_ (by kernel_rfl) (by decide +kernel) (by decide +kernel) ?_ (Or.inl ⟨?_, ?_⟩) (by assumption) ?_; rotate_left 2; (focus (simp only [List.getElem?_toArray, List.getElem?_cons_zero, List.getElem?_cons_succ] <;> rfl)); (focus (exact fun _ _ _ => last_panic (fun h => h))); (focus rfl); (focus (intro w hSw; (try dsimp only at hSw); go_simp; (try with_reducible rfl); done)); (try simp only [Act.put, List.setIfInBounds_toArray, List.set_cons_zero, List.set_cons_succ]))
              refine wpAnyH_ready (rs := [8]) (by kernel_rfl) (by simp) ?_
              refine AllReadyH.cons (o := ?_) ?_ ?_ ?_
              rotate_left 1
              (focus (simp only [List.getElem?_toArray, List.getElem?_cons_zero, List.getElem?_cons_succ] <;> rfl))
              · intro K hK
                go_simp
                refine hK.out _ _ ?_ (fun hHeld => ?_)
                · exact HS.out _ (hq5.alloc _)
                clear hK K
                (try simp only [Act.put, List.setIfInBounds_toArray, List.set_cons_zero, List.set_cons_succ])
                refine wpAnyH_done (by kernel_rfl) ?_ _
                refine last_step (o := ?_) ?_ ?_
                rotate_left 1
                (focus (simp only [List.getElem?_toArray, List.getElem?_cons_zero, List.getElem?_cons_succ] <;> rfl))
                intro K hK
                go_simp
                refine hK.out _ _ ?_
                clear hK K
                go_wp2_with fail
                go_meet
                exact ⟨_, _, _, rfl, EBox.a (Fresh.undrew hf5) _ _ _⟩
              exact AllReadyH.nil
            refine AllReadyH.cons (o := ?_) ?_ ?_ ?_
            rotate_left 1
            (focus (simp only [List.getElem?_toArray, List.getElem?_cons_zero, List.getElem?_cons_succ] <;> rfl))
            · intro K hK
              go_simp
              refine hK.out _ _ ?_ (fun hHeld => ?_)
              · exact HS.out _ (((Only.refl (fun _ => False) wd).alloc (.cells #[.slice none 0 0, .int .i64 0, .int .i64 0] 34)).drew)
              clear hK K
              (try simp only [Act.put, List.setIfInBounds_toArray, List.set_cons_zero, List.set_cons_succ])
              refine wpAnyH_ready (rs := [3]) (by kernel_rfl) (by simp) ?_
              refine AllReadyH.cons (o := ?_) ?_ ?_ ?_
              rotate_left 1
              (focus (simp only [List.getElem?_toArray, List.getElem?_cons_zero, List.getElem?_cons_succ] <;> rfl))
              · intro K hK
                go_simp
                go_at_call 10
                refine (HCV.out _ (((Only.refl (fun _ => False) wd).alloc (.cells #[.slice none 0 0, .int .i64 0, .int .i64 0] 34)).drew)).mono ?_
                rintro e w5 ⟨v5, rfl, hf5⟩
                obtain ⟨A5, c5, hv5, _, _, _⟩ := own_form hf5.own
                subst hv5
                have hq5 : Quiet wd w5 := (((Only.refl (fun _ => False) wd).alloc (.cells #[.slice none 0 0, .int .i64 0, .int .i64 0] 34)).drew).trans hf5.quiet
                dsimp only
                refine hK.out _ _ ?_ (fun hHeld => ?_)
                · exact HS.out _ hq5
                clear hK K
                (try simp only [Act.put, List.setIfInBounds_toArray, List.set_cons_zero, List.set_cons_succ])
                (refine wpAnyH_take (i := 7) (oi := ?_) (v := ?_) ?_ (by kernel_rfl) (by decide +kernel) (by decide +kernel) ?_ (Or.inl ⟨?_, ?_⟩) (by assumption) ?_; rotate_left 2; (focus (simp only [List.getElem?_toArray, List.getElem?_cons_zero, List.getElem?_cons_succ] <;> rfl)); (focus (exact fun _ _ _ => last_panic (fun h => h))); (focus rfl); (focus (intro w hSw; (try dsimp only at hSw); go_simp; (try with_reducible rfl); done)); (try simp only [Act.put, List.setIfInBounds_toArray, List.set_cons_zero, List.set_cons_succ]))
                have hzb := hf5.quiet.get (alloc_new wd (.cells #[.slice none 0 0, .int .i64 0, .int .i64 0] 34)) (fun x => x)
                have z0 : w5.cell? ⟨wd.heap.size, 0, none⟩ = some (.slice none 0 0) := (by rw [cell_of hzb]; rfl)
                have z1 : w5.cell? ⟨wd.heap.size, 1, none⟩ = some (.int .i64 0) := (by rw [cell_of hzb]; rfl)
                have z2 : w5.cell? ⟨wd.heap.size, 2, none⟩ = some (.int .i64 0) := (by rw [cell_of hzb]; rfl)
                have zf := fun o => frozen_of hzb o
                refine wpAnyH_done (by kernel_rfl) ?_ _
                refine last_step (o := ?_) ?_ ?_
                rotate_left 1
                (focus (simp only [List.getElem?_toArray, List.getElem?_cons_zero, List.getElem?_cons_succ] <;> rfl))
                intro K hK
                go_simp
                refine hK.out _ _ ?_
                clear hK K
                go_wp2_with fail
                go_meet
                exact ⟨_, _, _, rfl, EBox.b (Fresh.undrew hf5) _ _⟩
              exact AllReadyH.nil
            exact AllReadyH.nil
          case rest =>
            obtain ⟨bb, Ab, cb, rfl, hboxb⟩ := hcut
            have HEB := Lib.hid hboxb
            have hboxb' := hboxb
            obtain ⟨o0, o1, o2, o3, o4⟩ := op_cells (hboxb.quiet.get (HEA.out.quiet.get HBO.out (fun x => x)) (fun x => x))
            clear hboxb q0 q1 q2 q3 q4 hobc HCV HCU
            have HS : Hid (∀ W, Quiet wc W → (fun w' => w'.cell? ⟨ba, 0, none⟩ = some (.slice Aa k5.length ca) ∧ w'.cell? ⟨ba, 1, none⟩ = some (.int .i64 o.pg) ∧ w'.cell? ⟨ba, 2, none⟩ = some (.int .i64 o.sl) ∧ w'.cell? ⟨bb, 0, none⟩ = some (.slice Ab k5.length cb) ∧ w'.cell? ⟨bb, 1, none⟩ = some (.int .i64 o.pg) ∧ w'.cell? ⟨bb, 2, none⟩ = some (.int .i64 o.sl)) W) := fun W hq => by
              obtain ⟨a0, a1, a2⟩ := rent_cells ((hboxb'.quiet.trans hq).get HEA.out.box (fun x => x))
              obtain ⟨b0, b1, b2⟩ := ent_cells (hq.get HEB.out.box (fun x => x))
              exact ⟨a0, a1, a2, b0, b1, b2⟩
            obtain ⟨r8, hr8⟩ : ∃ r8, o.d % 8 = r8 := ⟨_, rfl⟩
            have ht8 : (o.d : Int).tmod 8 = (r8 : Int) := by rw [Int.tmod_eq_emod_of_nonneg (by omega)]; omega
            have hw8 : IntKind.u8.wrap (r8 : Int) = (r8 : Int) := wrap8 r8 (by omega)
            have HQW := Lib.hid (HQA.out.trans (HEA.out.quiet.trans HEB.out.quiet))
            go_upto_block 2 with (fail)
            go_cut [15, 16, 17] (fun s15 s16 s17 wx => s15 = .bool true ∧ Quiet w wx)
            case first =>
              generalize wc = wd at HS HQW o0 o1 o2 o3 o4 HEB ⊢
              by_cases h6 : r8 = 6
              · subst h6
                go_upto_region 22 with fail
                refine wp_region_held_drew (S := (fun w' => w'.cell? ⟨ba, 0, none⟩ = some (.slice Aa k5.length ca) ∧ w'.cell? ⟨ba, 1, none⟩ = some (.int .i64 o.pg) ∧ w'.cell? ⟨ba, 2, none⟩ = some (.int .i64 o.sl) ∧ w'.cell? ⟨bb, 0, none⟩ = some (.slice Ab k5.length cb) ∧ w'.cell? ⟨bb, 1, none⟩ = some (.int .i64 o.pg) ∧ w'.cell? ⟨bb, 2, none⟩ = some (.int .i64 o.sl))) (by kernel_rfl) (HS.out _ ((Only.refl (fun _ => False) wd).drew)) (fun hHeld => ?_)
                simp only [List.size_toArray, List.length_cons, List.length_nil, Nat.reduceAdd]
                (refine wpAnyH_take (i := 0) (oi := ?_) (v := ?_) ?_ (by kernel_rfl) (by decide +kernel) (by decide +kernel) ?_ (Or.inl ⟨?_, ?_⟩) (by assumption) ?_; rotate_left 2; (focus (simp only [List.getElem?_toArray, List.getElem?_cons_zero, List.getElem?_cons_succ] <;> rfl)); (focus (exact fun _ _ _ h => h)); (focus rfl); (focus (intro w hSw; (try dsimp only at hSw); go_simp; (try with_reducible rfl); done)); (try simp only [Act.put, List.setIfInBounds_toArray, List.set_cons_zero, List.set_cons_succ]))
                (refine wpAnyH_take (i := 1) (oi := ?_) (v := ?_) ?_ (by kernel_rfl) (by decide +kernel) (by decide +kernel) ?_ (Or.inl ⟨?_, ?_⟩) (by assumption) ?_; rotate_left 2; (focus (simp only [List.getElem?_toArray, List.getElem?_cons_zero, List.getElem?_cons_succ] <;> rfl)); (focus (exact fun _ _ _ h => h)); (focus rfl); (focus (intro w hSw; (try dsimp only at hSw); go_simp; (try with_reducible rfl); done)); (try simp only [Act.put, List.setIfInBounds_toArray, List.set_cons_zero, List.set_cons_succ]))
                (refine wpAnyH_take (i := 3) (oi := ?_) (v := ?_) ?_ (by kernel_rfl) (by decide +kernel) (by decide +kernel) ?_ (Or.inl ⟨?_, ?_⟩) (by assumption) ?_; rotate_left 2; (focus (simp only [List.getElem?_toArray, List.getElem?_cons_zero, List.getElem?_cons_succ] <;> rfl)); (focus (exact fun _ _ _ h => h)); (focus rfl); (focus (intro w hSw; (try dsimp only at hSw); go_simp; (try with_reducible rfl); done)); (try simp only [Act.put, List.setIfInBounds_toArray, List.set_cons_zero, List.set_cons_succ]))
                (refine wpAnyH_take (i := 4) (oi := ?_) (v := ?_) ?_ (by kernel_rfl) (by decide +kernel) (by decide +kernel) ?_ (Or.inl ⟨?_, ?_⟩) (by assumption) ?_; rotate_left 2; (focus (simp only [List.getElem?_toArray, List.getElem?_cons_zero, List.getElem?_cons_succ] <;> rfl)); (focus (exact fun _ _ _ h => h)); (focus rfl); (focus (intro w hSw; (try dsimp only at hSw); go_simp; (try with_reducible rfl); done)); (try simp only [Act.put, List.setIfInBounds_toArray, List.set_cons_zero, List.set_cons_succ]))
                refine wpAnyH_ready (rs := [2]) (by kernel_rfl) (by simp) ?_
                refine AllReadyH.cons (o := ?_) ?_ ?_ AllReadyH.nil
                rotate_left 1
                (focus (simp only [List.getElem?_toArray, List.getElem?_cons_zero, List.getElem?_cons_succ] <;> rfl))
                intro K hK
                go_simp
                go_at_call 23
                refine (tree_delete_nil _ ⟨k5, o.pg, o.sl⟩ Ab cb).mono ?_
                rintro e w6 ⟨rfl, hq6⟩
                have HQ6 := Lib.hid ((Only.refl (fun _ => False) wd).drew.trans hq6)
                clear hq6
                dsimp only
                refine hK.out _ _ ?_ (fun hHeld => ?_)
                · exact HS.out _ HQ6.out
                clear hK K
                (try simp only [Act.put, List.setIfInBounds_toArray, List.set_cons_zero, List.set_cons_succ])
                refine wpAnyH_ready (rs := [5]) (by kernel_rfl) (by simp) ?_
                refine AllReadyH.cons (o := ?_) ?_ ?_ AllReadyH.nil
                rotate_left 1
                (focus (simp only [List.getElem?_toArray, List.getElem?_cons_zero, List.getElem?_cons_succ] <;> rfl))
                intro K hK
                go_simp
                go_at_call 24
                refine (ref_delete_nil _ ⟨k5, o.pg, o.sl⟩ Aa ca).mono ?_
                rintro e w7 ⟨rfl, hq7⟩
                have HQ7 := Lib.hid (HQ6.out.trans hq7)
                clear hq7
                dsimp only
                refine hK.out _ _ ?_ (fun hHeld => ?_)
                · exact HS.out _ HQ7.out
                clear hK K
                (try simp only [Act.put, List.setIfInBounds_toArray, List.set_cons_zero, List.set_cons_succ])
                (refine wpAnyH_take (i := 6) (oi := ?_) (v := ?_) ?_ (by kernel_rfl) (by decide +kernel) (by decide +kernel) ?_ (Or.inl ⟨?_, ?_⟩) (by assumption) ?_; rotate_left 2; (focus (simp only [List.getElem?_toArray, List.getElem?_cons_zero, List.getElem?_cons_succ] <;> rfl)); (focus (exact fun _ _ _ h => h)); (focus rfl); (focus (intro w hSw; (try dsimp only at hSw); go_simp; (try with_reducible rfl); done)); (try simp only [Act.put, List.setIfInBounds_toArray, List.set_cons_zero, List.set_cons_succ]))
                refine wpAnyH_ready (rs := [7]) (by kernel_rfl) (by simp) ?_
                refine AllReadyH.cons (o := ?_) ?_ ?_ AllReadyH.nil
                rotate_left 1
                (focus (simp only [List.getElem?_toArray, List.getElem?_cons_zero, List.getElem?_cons_succ] <;> rfl))
                intro K hK
                go_simp
                refine hK.out _ _ ?_ (fun hHeld => ?_)
                · exact HS.out _ HQ7.out
                clear hK K
                (try simp only [Act.put, List.setIfInBounds_toArray, List.set_cons_zero, List.set_cons_succ])
                refine wpAnyH_done (by kernel_rfl) ?_ _
                go_wp2_with fail
                go_meet
                exact ⟨rfl, HQW.out.trans HQ7.out⟩
              · have d6 : ((r8 : Int) == 6) = false := beq_eq_false_iff_ne.2 (by omega)
                by_cases h7 : r8 = 7
                · subst h7
                  clear d6
                  obtain ⟨mm, hmm⟩ : ∃ mm, min o.m 30 = mm := ⟨_, rfl⟩
                  have hmm1 : mm ≤ o.m := by omega
                  have hmc := HOA.out.mc
                  have hcm := HOA.out.cm
                  have em : min (o.m : Int) 30 = (mm : Int) := by omega
                  have dm0 : (0 : Int) ≤ (mm : Int) := by omega
                  have dm1 : (mm : Int) ≤ (o.c2 : Int) := by omega
                  have HRT : Hid (Rd (wd.alloc (.cells #[] 29)) (· < w.heap.size) 2 o.B mm (tidsV (o.ps.take mm))) := by
                    have := (HOA.out.pr.kept ((HEA.out.quiet.trans HEB.out.quiet).alloc (.cells #[] 29)) (fun _ _ x => x)).takeK hmm1
                    rw [← tidsV_take] at this
                    exact this
                  have p4 : (wd.alloc (.cells #[] 29)).cell? ⟨ob, 4, none⟩ = some (.slice o.B o.m o.c2) := ((Only.refl (fun _ => False) wd).alloc _).cell o4 (fun x => x)
                  have hm30 : mm ≤ 30 := by omega
                  clear hmm
                  unfold maxLen at hcm
                  go_wp2_with (first
                    | (at_builtin; refine app elem_tid rfl (.tmp 95) (.tmp 102) rfl rfl (owns_empty wd _ _) rfl HRT.out (one_tids _) (by unfold maxLen; omega) (by omega) ?_)
                    | fail)
                  intro v6 w6 hg6
                  obtain ⟨A6, n6, c6, hv6⟩ := own_slice hg6.own
                  subst hv6
                  have HQ6 : Hid (Quiet wd w6) := (grew_quiet ((Only.refl (fun _ => False) wd).alloc _) (fun k x => by have := own_at x; omega) hg6).1
                  clear hg6 HRT p4 em dm0 dm1
                  go_wp2_with fail
                  refine (tree_prune_nil _ _).mono ?_
                  rintro e w7 ⟨rfl, rfl⟩
                  go_wp2_with fail
                  refine (ref_prune_nil _ _).mono ?_
                  rintro e w7 ⟨rfl, rfl⟩
                  go_wp2_with fail
                  go_meet
                  exact ⟨rfl, HQW.out.trans HQ6.out⟩
                · have d7 : ((r8 : Int) == 7) = false := beq_eq_false_iff_ne.2 (by omega)
                  have HSM : Hid (∀ W, Quiet wd W → Calls Try.prog 13 #[.slice Ab k5.length cb, .slice Aa k5.length ca] W fun e w' => e = .returned (.bool true) ∧ W = w') := fun W hq => by
                    obtain ⟨A8, c8, e8, _, _, hr8⟩ := own_form (owns_kept HEB.out.row hq (fun _ _ x => x))
                    obtain ⟨A9, c9, e9, _, _, hr9⟩ := own_form (owns_kept HEA.out.row (HEB.out.quiet.trans hq) (fun _ _ x => x))
                    injection e8 with e8 _ _
                    injection e9 with e9 _ _
                    subst e8 e9
                    have := same_any Ab Aa cb ca k5 k5 _ _ W hr8 hr9 HK5B.out HK5B.out
                    rw [decide_eq_true rfl] at this
                    exact this
                  go_upto_region 15 with fail
                  refine wp_region_held_drew (S := (fun w' => w'.cell? ⟨ba, 0, none⟩ = some (.slice Aa k5.length ca) ∧ w'.cell? ⟨ba, 1, none⟩ = some (.int .i64 o.pg) ∧ w'.cell? ⟨ba, 2, none⟩ = some (.int .i64 o.sl) ∧ w'.cell? ⟨bb, 0, none⟩ = some (.slice Ab k5.length cb) ∧ w'.cell? ⟨bb, 1, none⟩ = some (.int .i64 o.pg) ∧ w'.cell? ⟨bb, 2, none⟩ = some (.int .i64 o.sl))) (by kernel_rfl) (HS.out _ ((Only.refl (fun _ => False) wd).drew)) (fun hHeld => ?_)
                  simp only [List.size_toArray, List.length_cons, List.length_nil, Nat.reduceAdd]
                  (refine wpAnyH_take (i := 0) (oi := ?_) (v := ?_) ?_ (by kernel_rfl) (by decide +kernel) (by decide +kernel) ?_ (Or.inl ⟨?_, ?_⟩) (by assumption) ?_; rotate_left 2; (focus (simp only [List.getElem?_toArray, List.getElem?_cons_zero, List.getElem?_cons_succ] <;> rfl)); (focus (exact fun _ _ _ h => h)); (focus rfl); (focus (intro w hSw; (try dsimp only at hSw); go_simp; (try with_reducible rfl); done)); (try simp only [Act.put, List.setIfInBounds_toArray, List.set_cons_zero, List.set_cons_succ]))
                  (refine wpAnyH_take (i := 1) (oi := ?_) (v := ?_) ?_ (by kernel_rfl) (by decide +kernel) (by decide +kernel) ?_ (Or.inl ⟨?_, ?_⟩) (by assumption) ?_; rotate_left 2; (focus (simp only [List.getElem?_toArray, List.getElem?_cons_zero, List.getElem?_cons_succ] <;> rfl)); (focus (exact fun _ _ _ h => h)); (focus rfl); (focus (intro w hSw; (try dsimp only at hSw); go_simp; (try with_reducible rfl); done)); (try simp only [Act.put, List.setIfInBounds_toArray, List.set_cons_zero, List.set_cons_succ]))
                  (refine wpAnyH_take (i := 3) (oi := ?_) (v := ?_) ?_ (by kernel_rfl) (by decide +kernel) (by decide +kernel) ?_ (Or.inl ⟨?_, ?_⟩) (by assumption) ?_; rotate_left 2; (focus (simp only [List.getElem?_toArray, List.getElem?_cons_zero, List.getElem?_cons_succ] <;> rfl)); (focus (exact fun _ _ _ h => h)); (focus rfl); (focus (intro w hSw; (try dsimp only at hSw); go_simp; (try with_reducible rfl); done)); (try simp only [Act.put, List.setIfInBounds_toArray, List.set_cons_zero, List.set_cons_succ]))
                  (refine wpAnyH_take (i := 4) (oi := ?_) (v := ?_) ?_ (by kernel_rfl) (by decide +kernel) (by decide +kernel) ?_ (Or.inl ⟨?_, ?_⟩) (by assumption) ?_; rotate_left 2; (focus (simp only [List.getElem?_toArray, List.getElem?_cons_zero, List.getElem?_cons_succ] <;> rfl)); (focus (exact fun _ _ _ h => h)); (focus rfl); (focus (intro w hSw; (try dsimp only at hSw); go_simp; (try with_reducible rfl); done)); (try simp only [Act.put, List.setIfInBounds_toArray, List.set_cons_zero, List.set_cons_succ]))
                  refine wpAnyH_ready (rs := [2]) (by kernel_rfl) (by simp) ?_
                  refine AllReadyH.cons (o := ?_) ?_ ?_ AllReadyH.nil
                  rotate_left 1
                  (focus (simp only [List.getElem?_toArray, List.getElem?_cons_zero, List.getElem?_cons_succ] <;> rfl))
                  intro K hK
                  go_simp
                  go_at_call 12
                  refine (tree_insert_nil _ ⟨k5, o.pg, o.sl⟩ Ab cb).mono ?_
                  rintro e w6 ⟨rfl, hq6⟩
                  have HQ6 := Lib.hid ((Only.refl (fun _ => False) wd).drew.trans hq6)
                  clear hq6
                  dsimp only
                  refine hK.out _ _ ?_ (fun hHeld => ?_)
                  · exact HS.out _ HQ6.out
                  clear hK K
                  (try simp only [Act.put, List.setIfInBounds_toArray, List.set_cons_zero, List.set_cons_succ])
                  refine wpAnyH_ready (rs := [5]) (by kernel_rfl) (by simp) ?_
                  refine AllReadyH.cons (o := ?_) ?_ ?_ AllReadyH.nil
                  rotate_left 1
                  (focus (simp only [List.getElem?_toArray, List.getElem?_cons_zero, List.getElem?_cons_succ] <;> rfl))
                  intro K hK
                  go_simp
                  go_at_call 18
                  refine (ref_insert_nil _ ⟨k5, o.pg, o.sl⟩ Aa ca).mono ?_
                  rintro e w7 ⟨rfl, hq7⟩
                  have HQ7 := Lib.hid (HQ6.out.trans hq7)
                  clear hq7
                  dsimp only
                  refine hK.out _ _ ?_ (fun hHeld => ?_)
                  · exact HS.out _ HQ7.out
                  clear hK K
                  (try simp only [Act.put, List.setIfInBounds_toArray, List.set_cons_zero, List.set_cons_succ])
                  (refine wpAnyH_take (i := 6) (oi := ?_) (v := ?_) ?_ (by kernel_rfl) (by decide +kernel) (by decide +kernel) ?_ (Or.inl ⟨?_, ?_⟩) (by assumption) ?_; rotate_left 2; (focus (simp only [List.getElem?_toArray, List.getElem?_cons_zero, List.getElem?_cons_succ] <;> rfl)); (focus (exact fun _ _ _ h => h)); (focus rfl); (focus (intro w hSw; (try dsimp only at hSw); go_simp; (try with_reducible rfl); done)); (try simp only [Act.put, List.setIfInBounds_toArray, List.set_cons_zero, List.set_cons_succ]))
                  (refine wpAnyH_take (i := 7) (oi := ?_) (v := ?_) ?_ (by kernel_rfl) (by decide +kernel) (by decide +kernel) ?_ (Or.inl ⟨?_, ?_⟩) (by assumption) ?_; rotate_left 2; (focus (simp only [List.getElem?_toArray, List.getElem?_cons_zero, List.getElem?_cons_succ] <;> rfl)); (focus (exact fun _ _ _ h => h)); (focus rfl); (focus (intro w hSw; (try dsimp only at hSw); go_simp; (try with_reducible rfl); done)); (try simp only [Act.put, List.setIfInBounds_toArray, List.set_cons_zero, List.set_cons_succ]))
                  (refine wpAnyH_take (i := 8) (oi := ?_) (v := ?_) ?_ (by kernel_rfl) (by decide +kernel) (by decide +kernel) ?_ (Or.inl ⟨?_, ?_⟩) (by assumption) ?_; rotate_left 2; (focus (simp only [List.getElem?_toArray, List.getElem?_cons_zero, List.getElem?_cons_succ] <;> rfl)); (focus (exact fun _ _ _ h => h)); (focus rfl); (focus (intro w hSw; (try dsimp only at hSw); go_simp; (try with_reducible rfl); done)); (try simp only [Act.put, List.setIfInBounds_toArray, List.set_cons_zero, List.set_cons_succ]))
                  (refine wpAnyH_take (i := 9) (oi := ?_) (v := ?_) ?_ (by kernel_rfl) (by decide +kernel) (by decide +kernel) ?_ (Or.inl ⟨?_, ?_⟩) (by assumption) ?_; rotate_left 2; (focus (simp only [List.getElem?_toArray, List.getElem?_cons_zero, List.getElem?_cons_succ] <;> rfl)); (focus (exact fun _ _ _ h => h)); (focus rfl); (focus (intro w hSw; (try dsimp only at hSw); go_simp; (try with_reducible rfl); done)); (try simp only [Act.put, List.setIfInBounds_toArray, List.set_cons_zero, List.set_cons_succ]))
                  (refine wpAnyH_take (i := 10) (oi := ?_) (v := ?_) ?_ (by kernel_rfl) (by decide +kernel) (by decide +kernel) ?_ (Or.inl ⟨?_, ?_⟩) (by assumption) ?_; rotate_left 2; (focus (simp only [List.getElem?_toArray, List.getElem?_cons_zero, List.getElem?_cons_succ] <;> rfl)); (focus (exact fun _ _ _ h => h)); (focus rfl); (focus (intro w hSw; (try dsimp only at hSw); go_simp; (try with_reducible rfl); done)); (try simp only [Act.put, List.setIfInBounds_toArray, List.set_cons_zero, List.set_cons_succ]))
                  (refine wpAnyH_take (i := 11) (oi := ?_) (v := ?_) ?_ (by kernel_rfl) (by decide +kernel) (by decide +kernel) ?_ (Or.inl ⟨?_, ?_⟩) (by assumption) ?_; rotate_left 2; (focus (simp only [List.getElem?_toArray, List.getElem?_cons_zero, List.getElem?_cons_succ] <;> rfl)); (focus (exact fun _ _ _ h => h)); (focus rfl); (focus (intro w hSw; (try dsimp only at hSw); go_simp; (try with_reducible rfl); done)); (try simp only [Act.put, List.setIfInBounds_toArray, List.set_cons_zero, List.set_cons_succ]))
                  refine wpAnyH_ready (rs := [12]) (by kernel_rfl) (by simp) ?_
                  refine AllReadyH.cons (o := ?_) ?_ ?_ AllReadyH.nil
                  rotate_left 1
                  (focus (simp only [List.getElem?_toArray, List.getElem?_cons_zero, List.getElem?_cons_succ] <;> rfl))
                  intro K hK
                  go_simp
                  go_at_call 13
                  refine (HSM.out _ HQ7.out).mono ?_
                  rintro e w8 ⟨rfl, rfl⟩
                  dsimp only
                  refine hK.out _ _ ?_ (fun hHeld => ?_)
                  · exact HS.out _ HQ7.out
                  clear hK K
                  (try simp only [Act.put, List.setIfInBounds_toArray, List.set_cons_zero, List.set_cons_succ])
                  (refine wpAnyH_take (i := 13) (oi := ?_) (v := ?_) ?_ (by kernel_rfl) (by decide +kernel) (by decide +kernel) ?_ (Or.inl ⟨?_, ?_⟩) (by assumption) ?_; rotate_left 2; (focus (simp only [List.getElem?_toArray, List.getElem?_cons_zero, List.getElem?_cons_succ] <;> rfl)); (focus (exact fun _ _ _ h => h)); (focus rfl); (focus (intro w hSw; (try dsimp only at hSw); go_simp; (try with_reducible rfl); done)); (try simp only [Act.put, List.setIfInBounds_toArray, List.set_cons_zero, List.set_cons_succ]))
                  refine wpAnyH_ready (rs := [14]) (by kernel_rfl) (by simp) ?_
                  refine AllReadyH.cons (o := ?_) ?_ ?_ AllReadyH.nil
                  rotate_left 1
                  (focus (simp only [List.getElem?_toArray, List.getElem?_cons_zero, List.getElem?_cons_succ] <;> rfl))
                  intro K hK
                  go_simp
                  refine hK.out _ _ ?_ (fun hHeld => ?_)
                  · exact HS.out _ HQ7.out
                  clear hK K
                  (try simp only [Act.put, List.setIfInBounds_toArray, List.set_cons_zero, List.set_cons_succ])
                  refine wpAnyH_done (by kernel_rfl) ?_ _
                  obtain ⟨y0, y1, y2⟩ := ent_cells ((HQ7.out).get HEB.out.box (fun x => x))
                  go_wp2_with fail
                  go_loopw [73, 17] (fun cq _ wr' => ∃ (q : Nat) (xs : List Value), q ≤ k5.length ∧ cq = .int .i64 (q : Int) ∧ (∀ x ∈ xs, ∃ z : Int, x = .int .u8 z) ∧ wr'.ownsRow 0 5 1 (.slice Ab k5.length cb) k5.length xs ∧ Only (fun k => (Value.slice Ab k5.length cb).ownBlock = some k) w7 wr') (fun cq _ _ => k5.length - (intOf cq).toNat)
                  case atStart => exact ⟨0, bytesV k5, Nat.zero_le _, rfl, (fun x hx => by obtain ⟨z, _, rfl⟩ := List.mem_map.1 hx; exact ⟨z, rfl⟩), owns_kept HEB.out.row HQ7.out (fun _ _ x => x), Only.refl _ _⟩
                  case round =>
                    obtain ⟨q, xs, hq, rfl, hxs, hown, hon⟩ := hrel
                    have HXS := Lib.hid hxs
                    have HOWN := Lib.hid hown
                    have HON := Lib.hid hon
                    have z0 : wr.cell? ⟨bb, 0, none⟩ = some (.slice Ab k5.length cb) := hon.cell y0 (fun e => (HEB.out.rnew bb e).2 rfl)
                    clear hxs hon
                    by_cases hqk : q < k5.length
                    · rcases owns_cases hown with ⟨_, z⟩ | ⟨g, cp, hv, _, _⟩
                      · omega
                      · injection hv with e1 _ e3
                        subst e1 e3
                        obtain ⟨x, hx⟩ : ∃ x, xs[q]? = some x := ⟨_, List.getElem?_eq_getElem (by have := hown.1; omega)⟩
                        obtain ⟨zv, rfl⟩ := HXS.out x (List.mem_of_getElem? hx)
                        have r0 : wr.cell? ⟨g, q, none⟩ = some (.int .u8 zv) := by
                          have := hown.cells rfl q _ hx
                          rw [add_none, Nat.zero_add] at this
                          exact this
                        have rf : wr.frozen? ⟨g, q, none⟩ = false := by
                          obtain ⟨_, h2⟩ := hown
                          rcases h2 with ⟨z, _⟩ | ⟨g', cap, cur, hv', _, hh, _⟩
                          · cases z
                          · injection hv' with e1' _ _
                            injection e1' with e1'
                            injection e1' with e1' _ _
                            subst e1'
                            exact frozen_of hh q
                        have d0 : (0 : Int) ≤ (q : Int) := by omega
                        have d1 : (q : Int) < (k5.length : Int) := by omega
                        clear hown hx
                        go_wp2_with fail
                        go_roundw
                        case rel => exact ⟨q + 1, xs.set q (.int .u8 (bits BinOp.xor IntKind.u8 zv 1)), by omega, by go_num, (fun x hx => by
                          rcases List.mem_or_eq_of_mem_set hx with y | y
                          · exact HXS.out x y
                          · exact ⟨_, y⟩), owns_set HOWN.out hqk _, HON.out.setCell (p := ⟨g, q, none⟩) (fun _ => rfl) _⟩
                        case measure => simp [intOf]; omega
                    · clear hown
                      go_wp2_with fail
                      go_meet
                      exact ⟨rfl, (HQW.out.trans HQ7.out).trans' HON.out (fun k hk e => by have h1 := (HEB.out.rnew k e).1; have h2 := HQA.out.size; have h3 := HEA.out.quiet.size; omega)⟩
            case rest =>
              obtain ⟨rfl, hqx⟩ := hcut
              have HQX := Lib.hid hqx
              clear hqx HS HQW HEB HEA o0 o1 o2 o3 o4 hboxb'
              go_upto_region 26 with fail
              refine wp_region_held_drew (S := (fun _ => True)) (by kernel_rfl) (trivial) (fun hHeld => ?_)
              simp only [List.size_toArray, List.length_cons, List.length_nil, Nat.reduceAdd]
              (refine wpAnyH_take (i := 0) (oi := ?_) (v := ?_) ?_ (by kernel_rfl) (by decide +kernel) (by decide +kernel) ?_ (Or.inl ⟨?_, ?_⟩) (by first | assumption | exact trivial) ?_; rotate_left 2; (focus (simp only [List.getElem?_toArray, List.getElem?_cons_zero, List.getElem?_cons_succ] <;> rfl)); (focus (exact fun _ _ _ h => h)); (focus rfl); (focus (intro w hSw; (try dsimp only at hSw); go_simp; (try with_reducible rfl); done)); (try simp only [Act.put, List.setIfInBounds_toArray, List.set_cons_zero, List.set_cons_succ]))
              (refine wpAnyH_take (i := 1) (oi := ?_) (v := ?_) ?_ (by kernel_rfl) (by decide +kernel) (by decide +kernel) ?_ (Or.inl ⟨?_, ?_⟩) (by first | assumption | exact trivial) ?_; rotate_left 2; (focus (simp only [List.getElem?_toArray, List.getElem?_cons_zero, List.getElem?_cons_succ] <;> rfl)); (focus (exact fun _ _ _ h => h)); (focus rfl); (focus (intro w hSw; (try dsimp only at hSw); go_simp; (try with_reducible rfl); done)); (try simp only [Act.put, List.setIfInBounds_toArray, List.set_cons_zero, List.set_cons_succ]))
              (refine wpAnyH_take (i := 2) (oi := ?_) (v := ?_) ?_ (by kernel_rfl) (by decide +kernel) (by decide +kernel) ?_ (Or.inl ⟨?_, ?_⟩) (by first | assumption | exact trivial) ?_; rotate_left 2; (focus (simp only [List.getElem?_toArray, List.getElem?_cons_zero, List.getElem?_cons_succ] <;> rfl)); (focus (exact fun _ _ _ h => h)); (focus rfl); (focus (intro w hSw; (try dsimp only at hSw); go_simp; (try with_reducible rfl); done)); (try simp only [Act.put, List.setIfInBounds_toArray, List.set_cons_zero, List.set_cons_succ]))
              (refine wpAnyH_take (i := 3) (oi := ?_) (v := ?_) ?_ (by kernel_rfl) (by decide +kernel) (by decide +kernel) ?_ (Or.inl ⟨?_, ?_⟩) (by first | assumption | exact trivial) ?_; rotate_left 2; (focus (simp only [List.getElem?_toArray, List.getElem?_cons_zero, List.getElem?_cons_succ] <;> rfl)); (focus (exact fun _ _ _ h => h)); (focus rfl); (focus (intro w hSw; (try dsimp only at hSw); go_simp; (try with_reducible rfl); done)); (try simp only [Act.put, List.setIfInBounds_toArray, List.set_cons_zero, List.set_cons_succ]))
              (refine wpAnyH_take (i := 4) (oi := ?_) (v := ?_) ?_ (by kernel_rfl) (by decide +kernel) (by decide +kernel) ?_ (Or.inl ⟨?_, ?_⟩) (by first | assumption | exact trivial) ?_; rotate_left 2; (focus (simp only [List.getElem?_toArray, List.getElem?_cons_zero, List.getElem?_cons_succ] <;> rfl)); (focus (exact fun _ _ _ h => h)); (focus rfl); (focus (intro w hSw; (try dsimp only at hSw); go_simp; (try with_reducible rfl); done)); (try simp only [Act.put, List.setIfInBounds_toArray, List.set_cons_zero, List.set_cons_succ]))
              (refine wpAnyH_take (i := 5) (oi := ?_) (v := ?_) ?_ (by kernel_rfl) (by decide +kernel) (by decide +kernel) ?_ (Or.inl ⟨?_, ?_⟩) (by first | assumption | exact trivial) ?_; rotate_left 2; (focus (simp only [List.getElem?_toArray, List.getElem?_cons_zero, List.getElem?_cons_succ] <;> rfl)); (focus (exact fun _ _ _ h => h)); (focus rfl); (focus (intro w hSw; (try dsimp only at hSw); go_simp; (try with_reducible rfl); done)); (try simp only [Act.put, List.setIfInBounds_toArray, List.set_cons_zero, List.set_cons_succ]))
              (refine wpAnyH_take (i := 7) (oi := ?_) (v := ?_) ?_ (by kernel_rfl) (by decide +kernel) (by decide +kernel) ?_ (Or.inl ⟨?_, ?_⟩) (by first | assumption | exact trivial) ?_; rotate_left 2; (focus (simp only [List.getElem?_toArray, List.getElem?_cons_zero, List.getElem?_cons_succ] <;> rfl)); (focus (exact fun _ _ _ h => h)); (focus rfl); (focus (intro w hSw; (try dsimp only at hSw); go_simp; (try with_reducible rfl); done)); (try simp only [Act.put, List.setIfInBounds_toArray, List.set_cons_zero, List.set_cons_succ]))
              (refine wpAnyH_take (i := 8) (oi := ?_) (v := ?_) ?_ (by kernel_rfl) (by decide +kernel) (by decide +kernel) ?_ (Or.inl ⟨?_, ?_⟩) (by first | assumption | exact trivial) ?_; rotate_left 2; (focus (simp only [List.getElem?_toArray, List.getElem?_cons_zero, List.getElem?_cons_succ] <;> rfl)); (focus (exact fun _ _ _ h => h)); (focus rfl); (focus (intro w hSw; (try dsimp only at hSw); go_simp; (try with_reducible rfl); done)); (try simp only [Act.put, List.setIfInBounds_toArray, List.set_cons_zero, List.set_cons_succ]))
              (refine wpAnyH_take (i := 9) (oi := ?_) (v := ?_) ?_ (by kernel_rfl) (by decide +kernel) (by decide +kernel) ?_ (Or.inl ⟨?_, ?_⟩) (by first | assumption | exact trivial) ?_; rotate_left 2; (focus (simp only [List.getElem?_toArray, List.getElem?_cons_zero, List.getElem?_cons_succ] <;> rfl)); (focus (exact fun _ _ _ h => h)); (focus rfl); (focus (intro w hSw; (try dsimp only at hSw); go_simp; (try with_reducible rfl); done)); (try simp only [Act.put, List.setIfInBounds_toArray, List.set_cons_zero, List.set_cons_succ]))
              refine wpAnyH_ready (rs := [6]) (by kernel_rfl) (by simp) ?_
              refine AllReadyH.cons (o := ?_) ?_ ?_ AllReadyH.nil
              rotate_left 1
              (focus (simp only [List.getElem?_toArray, List.getElem?_cons_zero, List.getElem?_cons_succ] <;> rfl))
              intro K hK
              go_simp
              go_at_call 14
              refine (tree_scan_nil _ _ _).mono ?_
              rintro e w6 ⟨rfl, rfl⟩
              dsimp only
              refine hK.out _ _ ?_ (fun hHeld => ?_)
              · exact trivial
              clear hK K
              (try simp only [Act.put, List.setIfInBounds_toArray, List.set_cons_zero, List.set_cons_succ])
              refine wpAnyH_ready (rs := [10]) (by kernel_rfl) (by simp) ?_
              refine AllReadyH.cons (o := ?_) ?_ ?_ AllReadyH.nil
              rotate_left 1
              (focus (simp only [List.getElem?_toArray, List.getElem?_cons_zero, List.getElem?_cons_succ] <;> rfl))
              intro K hK
              go_simp
              go_at_call 22
              refine (ref_scan_nil _ _ _).mono ?_
              rintro e w7 ⟨rfl, rfl⟩
              dsimp only
              refine hK.out _ _ ?_ (fun hHeld => ?_)
              · exact trivial
              clear hK K
              (try simp only [Act.put, List.setIfInBounds_toArray, List.set_cons_zero, List.set_cons_succ])
              refine wpAnyH_ready (rs := [11]) (by kernel_rfl) (by simp) ?_
              refine AllReadyH.cons (o := ?_) ?_ ?_ AllReadyH.nil
              rotate_left 1
              (focus (simp only [List.getElem?_toArray, List.getElem?_cons_zero, List.getElem?_cons_succ] <;> rfl))
              intro K hK
              go_simp
              go_at_call 21
              refine (same_nil _).mono ?_
              rintro e w8 ⟨rfl, hq8⟩
              have HQ8 := Lib.hid hq8
              clear hq8
              dsimp only
              refine hK.out _ _ ?_ (fun hHeld => ?_)
              · exact trivial
              clear hK K
              (try simp only [Act.put, List.setIfInBounds_toArray, List.set_cons_zero, List.set_cons_succ])
              (refine wpAnyH_take (i := 12) (oi := ?_) (v := ?_) ?_ (by kernel_rfl) (by decide +kernel) (by decide +kernel) ?_ (Or.inl ⟨?_, ?_⟩) (by first | assumption | exact trivial) ?_; rotate_left 2; (focus (simp only [List.getElem?_toArray, List.getElem?_cons_zero, List.getElem?_cons_succ] <;> rfl)); (focus (exact fun _ _ _ h => h)); (focus rfl); (focus (intro w hSw; (try dsimp only at hSw); go_simp; (try with_reducible rfl); done)); (try simp only [Act.put, List.setIfInBounds_toArray, List.set_cons_zero, List.set_cons_succ]))
              (refine wpAnyH_take (i := 13) (oi := ?_) (v := ?_) ?_ (by kernel_rfl) (by decide +kernel) (by decide +kernel) ?_ (Or.inl ⟨?_, ?_⟩) (by first | assumption | exact trivial) ?_; rotate_left 2; (focus (simp only [List.getElem?_toArray, List.getElem?_cons_zero, List.getElem?_cons_succ] <;> rfl)); (focus (exact fun _ _ _ h => h)); (focus rfl); (focus (intro w hSw; (try dsimp only at hSw); go_simp; (try with_reducible rfl); done)); (try simp only [Act.put, List.setIfInBounds_toArray, List.set_cons_zero, List.set_cons_succ]))
              (refine wpAnyH_take (i := 14) (oi := ?_) (v := ?_) ?_ (by kernel_rfl) (by decide +kernel) (by decide +kernel) ?_ (Or.inl ⟨?_, ?_⟩) (by first | assumption | exact trivial) ?_; rotate_left 2; (focus (simp only [List.getElem?_toArray, List.getElem?_cons_zero, List.getElem?_cons_succ] <;> rfl)); (focus (exact fun _ _ _ h => h)); (focus rfl); (focus (intro w hSw; (try dsimp only at hSw); go_simp; (try with_reducible rfl); done)); (try simp only [Act.put, List.setIfInBounds_toArray, List.set_cons_zero, List.set_cons_succ]))
              (refine wpAnyH_take (i := 15) (oi := ?_) (v := ?_) ?_ (by kernel_rfl) (by decide +kernel) (by decide +kernel) ?_ (Or.inl ⟨?_, ?_⟩) (by first | assumption | exact trivial) ?_; rotate_left 2; (focus (simp only [List.getElem?_toArray, List.getElem?_cons_zero, List.getElem?_cons_succ] <;> rfl)); (focus (exact fun _ _ _ h => h)); (focus rfl); (focus (intro w hSw; (try dsimp only at hSw); go_simp; (try with_reducible rfl); done)); (try simp only [Act.put, List.setIfInBounds_toArray, List.set_cons_zero, List.set_cons_succ]))
              (refine wpAnyH_take (i := 16) (oi := ?_) (v := ?_) ?_ (by kernel_rfl) (by decide +kernel) (by decide +kernel) ?_ (Or.inl ⟨?_, ?_⟩) (by first | assumption | exact trivial) ?_; rotate_left 2; (focus (simp only [List.getElem?_toArray, List.getElem?_cons_zero, List.getElem?_cons_succ] <;> rfl)); (focus (exact fun _ _ _ h => h)); (focus rfl); (focus (intro w hSw; (try dsimp only at hSw); go_simp; (try with_reducible rfl); done)); (try simp only [Act.put, List.setIfInBounds_toArray, List.set_cons_zero, List.set_cons_succ]))
              (refine wpAnyH_take (i := 17) (oi := ?_) (v := ?_) ?_ (by kernel_rfl) (by decide +kernel) (by decide +kernel) ?_ (Or.inl ⟨?_, ?_⟩) (by first | assumption | exact trivial) ?_; rotate_left 2; (focus (simp only [List.getElem?_toArray, List.getElem?_cons_zero, List.getElem?_cons_succ] <;> rfl)); (focus (exact fun _ _ _ h => h)); (focus rfl); (focus (intro w hSw; (try dsimp only at hSw); go_simp; (try with_reducible rfl); done)); (try simp only [Act.put, List.setIfInBounds_toArray, List.set_cons_zero, List.set_cons_succ]))
              (refine wpAnyH_take (i := 18) (oi := ?_) (v := undef) ?_ (by kernel_rfl) (by decide +kernel) (by decide +kernel) ?_ (Or.inr ⟨?_, rfl⟩) (by first | assumption | exact trivial) ?_; rotate_left 1; (focus (simp only [List.getElem?_toArray, List.getElem?_cons_zero, List.getElem?_cons_succ] <;> rfl)); (focus (exact fun _ _ _ h => h)); (focus rfl); (try simp only [Act.put, List.setIfInBounds_toArray, List.set_cons_zero, List.set_cons_succ]))
              (refine wpAnyH_take (i := 19) (oi := ?_) (v := undef) ?_ (by kernel_rfl) (by decide +kernel) (by decide +kernel) ?_ (Or.inr ⟨?_, rfl⟩) (by first | assumption | exact trivial) ?_; rotate_left 1; (focus (simp only [List.getElem?_toArray, List.getElem?_cons_zero, List.getElem?_cons_succ] <;> rfl)); (focus (exact fun _ _ _ h => h)); (focus rfl); (try simp only [Act.put, List.setIfInBounds_toArray, List.set_cons_zero, List.set_cons_succ]))
              (refine wpAnyH_take (i := 20) (oi := ?_) (v := undef) ?_ (by kernel_rfl) (by decide +kernel) (by decide +kernel) ?_ (Or.inr ⟨?_, rfl⟩) (by first | assumption | exact trivial) ?_; rotate_left 1; (focus (simp only [List.getElem?_toArray, List.getElem?_cons_zero, List.getElem?_cons_succ] <;> rfl)); (focus (exact fun _ _ _ h => h)); (focus rfl); (try simp only [Act.put, List.setIfInBounds_toArray, List.set_cons_zero, List.set_cons_succ]))
              (refine wpAnyH_take (i := 21) (oi := ?_) (v := undef) ?_ (by kernel_rfl) (by decide +kernel) (by decide +kernel) ?_ (Or.inr ⟨?_, rfl⟩) (by first | assumption | exact trivial) ?_; rotate_left 1; (focus (simp only [List.getElem?_toArray, List.getElem?_cons_zero, List.getElem?_cons_succ] <;> rfl)); (focus (exact fun _ _ _ h => h)); (focus rfl); (try simp only [Act.put, List.setIfInBounds_toArray, List.set_cons_zero, List.set_cons_succ]))
              (refine wpAnyH_take (i := 22) (oi := ?_) (v := undef) ?_ (by kernel_rfl) (by decide +kernel) (by decide +kernel) ?_ (Or.inr ⟨?_, rfl⟩) (by first | assumption | exact trivial) ?_; rotate_left 1; (focus (simp only [List.getElem?_toArray, List.getElem?_cons_zero, List.getElem?_cons_succ] <;> rfl)); (focus (exact fun _ _ _ h => h)); (focus rfl); (try simp only [Act.put, List.setIfInBounds_toArray, List.set_cons_zero, List.set_cons_succ]))
              (refine wpAnyH_take (i := 23) (oi := ?_) (v := undef) ?_ (by kernel_rfl) (by decide +kernel) (by decide +kernel) ?_ (Or.inr ⟨?_, rfl⟩) (by first | assumption | exact trivial) ?_; rotate_left 1; (focus (simp only [List.getElem?_toArray, List.getElem?_cons_zero, List.getElem?_cons_succ] <;> rfl)); (focus (exact fun _ _ _ h => h)); (focus rfl); (try simp only [Act.put, List.setIfInBounds_toArray, List.set_cons_zero, List.set_cons_succ]))
              (refine wpAnyH_take (i := 24) (oi := ?_) (v := undef) ?_ (by kernel_rfl) (by decide +kernel) (by decide +kernel) ?_ (Or.inr ⟨?_, rfl⟩) (by first | assumption | exact trivial) ?_; rotate_left 1; (focus (simp only [List.getElem?_toArray, List.getElem?_cons_zero, List.getElem?_cons_succ] <;> rfl)); (focus (exact fun _ _ _ h => h)); (focus rfl); (try simp only [Act.put, List.setIfInBounds_toArray, List.set_cons_zero, List.set_cons_succ]))
              (refine wpAnyH_take (i := 25) (oi := ?_) (v := undef) ?_ (by kernel_rfl) (by decide +kernel) (by decide +kernel) ?_ (Or.inr ⟨?_, rfl⟩) (by first | assumption | exact trivial) ?_; rotate_left 1; (focus (simp only [List.getElem?_toArray, List.getElem?_cons_zero, List.getElem?_cons_succ] <;> rfl)); (focus (exact fun _ _ _ h => h)); (focus rfl); (try simp only [Act.put, List.setIfInBounds_toArray, List.set_cons_zero, List.set_cons_succ]))
              (refine wpAnyH_take (i := 26) (oi := ?_) (v := undef) ?_ (by kernel_rfl) (by decide +kernel) (by decide +kernel) ?_ (Or.inr ⟨?_, rfl⟩) (by first | assumption | exact trivial) ?_; rotate_left 1; (focus (simp only [List.getElem?_toArray, List.getElem?_cons_zero, List.getElem?_cons_succ] <;> rfl)); (focus (exact fun _ _ _ h => h)); (focus rfl); (try simp only [Act.put, List.setIfInBounds_toArray, List.set_cons_zero, List.set_cons_succ]))
              (refine wpAnyH_take (i := 27) (oi := ?_) (v := undef) ?_ (by kernel_rfl) (by decide +kernel) (by decide +kernel) ?_ (Or.inr ⟨?_, rfl⟩) (by first | assumption | exact trivial) ?_; rotate_left 1; (focus (simp only [List.getElem?_toArray, List.getElem?_cons_zero, List.getElem?_cons_succ] <;> rfl)); (focus (exact fun _ _ _ h => h)); (focus rfl); (try simp only [Act.put, List.setIfInBounds_toArray, List.set_cons_zero, List.set_cons_succ]))
              (refine wpAnyH_take (i := 28) (oi := ?_) (v := undef) ?_ (by kernel_rfl) (by decide +kernel) (by decide +kernel) ?_ (Or.inr ⟨?_, rfl⟩) (by first | assumption | exact trivial) ?_; rotate_left 1; (focus (simp only [List.getElem?_toArray, List.getElem?_cons_zero, List.getElem?_cons_succ] <;> rfl)); (focus (exact fun _ _ _ h => h)); (focus rfl); (try simp only [Act.put, List.setIfInBounds_toArray, List.set_cons_zero, List.set_cons_succ]))
              (refine wpAnyH_take (i := 29) (oi := ?_) (v := undef) ?_ (by kernel_rfl) (by decide +kernel) (by decide +kernel) ?_ (Or.inr ⟨?_, rfl⟩) (by first | assumption | exact trivial) ?_; rotate_left 1; (focus (simp only [List.getElem?_toArray, List.getElem?_cons_zero, List.getElem?_cons_succ] <;> rfl)); (focus (exact fun _ _ _ h => h)); (focus rfl); (try simp only [Act.put, List.setIfInBounds_toArray, List.set_cons_zero, List.set_cons_succ]))
              (refine wpAnyH_take (i := 30) (oi := ?_) (v := undef) ?_ (by kernel_rfl) (by decide +kernel) (by decide +kernel) ?_ (Or.inr ⟨?_, rfl⟩) (by first | assumption | exact trivial) ?_; rotate_left 1; (focus (simp only [List.getElem?_toArray, List.getElem?_cons_zero, List.getElem?_cons_succ] <;> rfl)); (focus (exact fun _ _ _ h => h)); (focus rfl); (try simp only [Act.put, List.setIfInBounds_toArray, List.set_cons_zero, List.set_cons_succ]))
              (refine wpAnyH_take (i := 31) (oi := ?_) (v := undef) ?_ (by kernel_rfl) (by decide +kernel) (by decide +kernel) ?_ (Or.inr ⟨?_, rfl⟩) (by first | assumption | exact trivial) ?_; rotate_left 1; (focus (simp only [List.getElem?_toArray, List.getElem?_cons_zero, List.getElem?_cons_succ] <;> rfl)); (focus (exact fun _ _ _ h => h)); (focus rfl); (try simp only [Act.put, List.setIfInBounds_toArray, List.set_cons_zero, List.set_cons_succ]))
              (refine wpAnyH_take (i := 32) (oi := ?_) (v := undef) ?_ (by kernel_rfl) (by decide +kernel) (by decide +kernel) ?_ (Or.inr ⟨?_, rfl⟩) (by first | assumption | exact trivial) ?_; rotate_left 1; (focus (simp only [List.getElem?_toArray, List.getElem?_cons_zero, List.getElem?_cons_succ] <;> rfl)); (focus (exact fun _ _ _ h => h)); (focus rfl); (try simp only [Act.put, List.setIfInBounds_toArray, List.set_cons_zero, List.set_cons_succ]))
              (refine wpAnyH_take (i := 33) (oi := ?_) (v := undef) ?_ (by kernel_rfl) (by decide +kernel) (by decide +kernel) ?_ (Or.inr ⟨?_, rfl⟩) (by first | assumption | exact trivial) ?_; rotate_left 1; (focus (simp only [List.getElem?_toArray, List.getElem?_cons_zero, List.getElem?_cons_succ] <;> rfl)); (focus (exact fun _ _ _ h => h)); (focus rfl); (try simp only [Act.put, List.setIfInBounds_toArray, List.set_cons_zero, List.set_cons_succ]))
              (refine wpAnyH_take (i := 34) (oi := ?_) (v := undef) ?_ (by kernel_rfl) (by decide +kernel) (by decide +kernel) ?_ (Or.inr ⟨?_, rfl⟩) (by first | assumption | exact trivial) ?_; rotate_left 1; (focus (simp only [List.getElem?_toArray, List.getElem?_cons_zero, List.getElem?_cons_succ] <;> rfl)); (focus (exact fun _ _ _ h => h)); (focus rfl); (try simp only [Act.put, List.setIfInBounds_toArray, List.set_cons_zero, List.set_cons_succ]))
              (refine wpAnyH_take (i := 35) (oi := ?_) (v := undef) ?_ (by kernel_rfl) (by decide +kernel) (by decide +kernel) ?_ (Or.inr ⟨?_, rfl⟩) (by first | assumption | exact trivial) ?_; rotate_left 1; (focus (simp only [List.getElem?_toArray, List.getElem?_cons_zero, List.getElem?_cons_succ] <;> rfl)); (focus (exact fun _ _ _ h => h)); (focus rfl); (try simp only [Act.put, List.setIfInBounds_toArray, List.set_cons_zero, List.set_cons_succ]))
              (refine wpAnyH_take (i := 36) (oi := ?_) (v := undef) ?_ (by kernel_rfl) (by decide +kernel) (by decide +kernel) ?_ (Or.inr ⟨?_, rfl⟩) (by first | assumption | exact trivial) ?_; rotate_left 1; (focus (simp only [List.getElem?_toArray, List.getElem?_cons_zero, List.getElem?_cons_succ] <;> rfl)); (focus (exact fun _ _ _ h => h)); (focus rfl); (try simp only [Act.put, List.setIfInBounds_toArray, List.set_cons_zero, List.set_cons_succ]))
              (refine wpAnyH_take (i := 37) (oi := ?_) (v := undef) ?_ (by kernel_rfl) (by decide +kernel) (by decide +kernel) ?_ (Or.inr ⟨?_, rfl⟩) (by first | assumption | exact trivial) ?_; rotate_left 1; (focus (simp only [List.getElem?_toArray, List.getElem?_cons_zero, List.getElem?_cons_succ] <;> rfl)); (focus (exact fun _ _ _ h => h)); (focus rfl); (try simp only [Act.put, List.setIfInBounds_toArray, List.set_cons_zero, List.set_cons_succ]))
              (refine wpAnyH_take (i := 38) (oi := ?_) (v := undef) ?_ (by kernel_rfl) (by decide +kernel) (by decide +kernel) ?_ (Or.inr ⟨?_, rfl⟩) (by first | assumption | exact trivial) ?_; rotate_left 1; (focus (simp only [List.getElem?_toArray, List.getElem?_cons_zero, List.getElem?_cons_succ] <;> rfl)); (focus (exact fun _ _ _ h => h)); (focus rfl); (try simp only [Act.put, List.setIfInBounds_toArray, List.set_cons_zero, List.set_cons_succ]))
              (refine wpAnyH_take (i := 39) (oi := ?_) (v := undef) ?_ (by kernel_rfl) (by decide +kernel) (by decide +kernel) ?_ (Or.inr ⟨?_, rfl⟩) (by first | assumption | exact trivial) ?_; rotate_left 1; (focus (simp only [List.getElem?_toArray, List.getElem?_cons_zero, List.getElem?_cons_succ] <;> rfl)); (focus (exact fun _ _ _ h => h)); (focus rfl); (try simp only [Act.put, List.setIfInBounds_toArray, List.set_cons_zero, List.set_cons_succ]))
              (refine wpAnyH_take (i := 40) (oi := ?_) (v := undef) ?_ (by kernel_rfl) (by decide +kernel) (by decide +kernel) ?_ (Or.inr ⟨?_, rfl⟩) (by first | assumption | exact trivial) ?_; rotate_left 1; (focus (simp only [List.getElem?_toArray, List.getElem?_cons_zero, List.getElem?_cons_succ] <;> rfl)); (focus (exact fun _ _ _ h => h)); (focus rfl); (try simp only [Act.put, List.setIfInBounds_toArray, List.set_cons_zero, List.set_cons_succ]))
              (refine wpAnyH_take (i := 41) (oi := ?_) (v := undef) ?_ (by kernel_rfl) (by decide +kernel) (by decide +kernel) ?_ (Or.inr ⟨?_, rfl⟩) (by first | assumption | exact trivial) ?_; rotate_left 1; (focus (simp only [List.getElem?_toArray, List.getElem?_cons_zero, List.getElem?_cons_succ] <;> rfl)); (focus (exact fun _ _ _ h => h)); (focus rfl); (try simp only [Act.put, List.setIfInBounds_toArray, List.set_cons_zero, List.set_cons_succ]))
              (refine wpAnyH_take (i := 42) (oi := ?_) (v := ?_) ?_ (by kernel_rfl) (by decide +kernel) (by decide +kernel) ?_ (Or.inl ⟨?_, ?_⟩) (by first | assumption | exact trivial) ?_; rotate_left 2; (focus (simp only [List.getElem?_toArray, List.getElem?_cons_zero, List.getElem?_cons_succ] <;> rfl)); (focus (exact fun _ _ _ h => h)); (focus rfl); (focus (intro w hSw; (try dsimp only at hSw); go_simp; (try with_reducible rfl); done)); (try simp only [Act.put, List.setIfInBounds_toArray, List.set_cons_zero, List.set_cons_succ]))
              (refine wpAnyH_take (i := 43) (oi := ?_) (v := ?_) ?_ (by kernel_rfl) (by decide +kernel) (by decide +kernel) ?_ (Or.inl ⟨?_, ?_⟩) (by first | assumption | exact trivial) ?_; rotate_left 2; (focus (simp only [List.getElem?_toArray, List.getElem?_cons_zero, List.getElem?_cons_succ] <;> rfl)); (focus (exact fun _ _ _ h => h)); (focus rfl); (focus (intro w hSw; (try dsimp only at hSw); go_simp; (try with_reducible rfl); done)); (try simp only [Act.put, List.setIfInBounds_toArray, List.set_cons_zero, List.set_cons_succ]))
              (refine wpAnyH_take (i := 44) (oi := ?_) (v := ?_) ?_ (by kernel_rfl) (by decide +kernel) (by decide +kernel) ?_ (Or.inl ⟨?_, ?_⟩) (by first | assumption | exact trivial) ?_; rotate_left 2; (focus (simp only [List.getElem?_toArray, List.getElem?_cons_zero, List.getElem?_cons_succ] <;> rfl)); (focus (exact fun _ _ _ h => h)); (focus rfl); (focus (intro w hSw; (try dsimp only at hSw); go_simp; (try with_reducible rfl); done)); (try simp only [Act.put, List.setIfInBounds_toArray, List.set_cons_zero, List.set_cons_succ]))
              (refine wpAnyH_take (i := 45) (oi := ?_) (v := ?_) ?_ (by kernel_rfl) (by decide +kernel) (by decide +kernel) ?_ (Or.inl ⟨?_, ?_⟩) (by first | assumption | exact trivial) ?_; rotate_left 2; (focus (simp only [List.getElem?_toArray, List.getElem?_cons_zero, List.getElem?_cons_succ] <;> rfl)); (focus (exact fun _ _ _ h => h)); (focus rfl); (focus (intro w hSw; (try dsimp only at hSw); go_simp; (try with_reducible rfl); done)); (try simp only [Act.put, List.setIfInBounds_toArray, List.set_cons_zero, List.set_cons_succ]))
              (refine wpAnyH_take (i := 46) (oi := ?_) (v := ?_) ?_ (by kernel_rfl) (by decide +kernel) (by decide +kernel) ?_ (Or.inl ⟨?_, ?_⟩) (by first | assumption | exact trivial) ?_; rotate_left 2; (focus (simp only [List.getElem?_toArray, List.getElem?_cons_zero, List.getElem?_cons_succ] <;> rfl)); (focus (exact fun _ _ _ h => h)); (focus rfl); (focus (intro w hSw; (try dsimp only at hSw); go_simp; (try with_reducible rfl); done)); (try simp only [Act.put, List.setIfInBounds_toArray, List.set_cons_zero, List.set_cons_succ]))
              (refine wpAnyH_take (i := 47) (oi := ?_) (v := ?_) ?_ (by kernel_rfl) (by decide +kernel) (by decide +kernel) ?_ (Or.inl ⟨?_, ?_⟩) (by first | assumption | exact trivial) ?_; rotate_left 2; (focus (simp only [List.getElem?_toArray, List.getElem?_cons_zero, List.getElem?_cons_succ] <;> rfl)); (focus (exact fun _ _ _ h => h)); (focus rfl); (focus (intro w hSw; (try dsimp only at hSw); go_simp; (try with_reducible rfl); done)); (try simp only [Act.put, List.setIfInBounds_toArray, List.set_cons_zero, List.set_cons_succ]))
              (refine wpAnyH_take (i := 48) (oi := ?_) (v := ?_) ?_ (by kernel_rfl) (by decide +kernel) (by decide +kernel) ?_ (Or.inl ⟨?_, ?_⟩) (by first | assumption | exact trivial) ?_; rotate_left 2; (focus (simp only [List.getElem?_toArray, List.getElem?_cons_zero, List.getElem?_cons_succ] <;> rfl)); (focus (exact fun _ _ _ h => h)); (focus rfl); (focus (intro w hSw; (try dsimp only at hSw); go_simp; (try with_reducible rfl); done)); (try simp only [Act.put, List.setIfInBounds_toArray, List.set_cons_zero, List.set_cons_succ]))
              (refine wpAnyH_take (i := 50) (oi := ?_) (v := ?_) ?_ (by kernel_rfl) (by decide +kernel) (by decide +kernel) ?_ (Or.inl ⟨?_, ?_⟩) (by first | assumption | exact trivial) ?_; rotate_left 2; (focus (simp only [List.getElem?_toArray, List.getElem?_cons_zero, List.getElem?_cons_succ] <;> rfl)); (focus (exact fun _ _ _ h => h)); (focus rfl); (focus (intro w hSw; (try dsimp only at hSw); go_simp; (try with_reducible rfl); done)); (try simp only [Act.put, List.setIfInBounds_toArray, List.set_cons_zero, List.set_cons_succ]))
              refine wpAnyH_ready (rs := [49]) (by kernel_rfl) (by simp) ?_
              refine AllReadyH.cons (o := ?_) ?_ ?_ AllReadyH.nil
              rotate_left 1
              (focus (simp only [List.getElem?_toArray, List.getElem?_cons_zero, List.getElem?_cons_succ] <;> rfl))
              intro K hK
              go_simp
              go_at_call 16
              refine (tree_len_nil _).mono ?_
              rintro e w9 ⟨rfl, rfl⟩
              dsimp only
              refine hK.out _ _ ?_ (fun hHeld => ?_)
              · exact trivial
              clear hK K
              (try simp only [Act.put, List.setIfInBounds_toArray, List.set_cons_zero, List.set_cons_succ])
              refine wpAnyH_ready (rs := [51]) (by kernel_rfl) (by simp) ?_
              refine AllReadyH.cons (o := ?_) ?_ ?_ AllReadyH.nil
              rotate_left 1
              (focus (simp only [List.getElem?_toArray, List.getElem?_cons_zero, List.getElem?_cons_succ] <;> rfl))
              intro K hK
              go_simp
              go_at_call 25
              refine (tree_height_nil _).mono ?_
              rintro e w9 ⟨rfl, rfl⟩
              dsimp only
              refine hK.out _ _ ?_ (fun hHeld => ?_)
              · exact trivial
              clear hK K
              (try simp only [Act.put, List.setIfInBounds_toArray, List.set_cons_zero, List.set_cons_succ])
              (refine wpAnyH_take (i := 52) (oi := ?_) (v := ?_) ?_ (by kernel_rfl) (by decide +kernel) (by decide +kernel) ?_ (Or.inl ⟨?_, ?_⟩) (by first | assumption | exact trivial) ?_; rotate_left 2; (focus (simp only [List.getElem?_toArray, List.getElem?_cons_zero, List.getElem?_cons_succ] <;> rfl)); (focus (exact fun _ _ _ h => h)); (focus rfl); (focus (intro w hSw; (try dsimp only at hSw); go_simp; (try with_reducible rfl); done)); (try simp only [Act.put, List.setIfInBounds_toArray, List.set_cons_zero, List.set_cons_succ]))
              (refine wpAnyH_take (i := 53) (oi := ?_) (v := ?_) ?_ (by kernel_rfl) (by decide +kernel) (by decide +kernel) ?_ (Or.inl ⟨?_, ?_⟩) (by first | assumption | exact trivial) ?_; rotate_left 2; (focus (simp only [List.getElem?_toArray, List.getElem?_cons_zero, List.getElem?_cons_succ] <;> rfl)); (focus (exact fun _ _ _ h => h)); (focus rfl); (focus (intro w hSw; (try dsimp only at hSw); go_simp; (try with_reducible rfl); done)); (try simp only [Act.put, List.setIfInBounds_toArray, List.set_cons_zero, List.set_cons_succ]))
              (refine wpAnyH_take (i := 54) (oi := ?_) (v := ?_) ?_ (by kernel_rfl) (by decide +kernel) (by decide +kernel) ?_ (Or.inl ⟨?_, ?_⟩) (by first | assumption | exact trivial) ?_; rotate_left 2; (focus (simp only [List.getElem?_toArray, List.getElem?_cons_zero, List.getElem?_cons_succ] <;> rfl)); (focus (exact fun _ _ _ h => h)); (focus rfl); (focus (intro w hSw; (try dsimp only at hSw); go_simp; (try with_reducible rfl); done)); (try simp only [Act.put, List.setIfInBounds_toArray, List.set_cons_zero, List.set_cons_succ]))
              (refine wpAnyH_take (i := 55) (oi := ?_) (v := ?_) ?_ (by kernel_rfl) (by decide +kernel) (by decide +kernel) ?_ (Or.inl ⟨?_, ?_⟩) (by first | assumption | exact trivial) ?_; rotate_left 2; (focus (simp only [List.getElem?_toArray, List.getElem?_cons_zero, List.getElem?_cons_succ] <;> rfl)); (focus (exact fun _ _ _ h => h)); (focus rfl); (focus (intro w hSw; (try dsimp only at hSw); go_simp; (try with_reducible rfl); done)); (try simp only [Act.put, List.setIfInBounds_toArray, List.set_cons_zero, List.set_cons_succ]))
              refine wpAnyH_done (by kernel_rfl) ?_ _
              have HQY := Lib.hid (HQX.out.trans ((Only.refl (fun _ => False) wc).drew.trans HQ8.out))
              go_wp2_with fail
              go_roundw
              case rel => exact ⟨i + 1, by omega, by go_num, HQY.out⟩
              case measure => simp [intOf]; omega
      · clear HOK HBO HOA
        go_wp2_with fail
        refine (tree_scan_nil _ _ _).mono ?_
        rintro e w6 ⟨rfl, rfl⟩
        go_wp2_with fail
        refine (ref_scan_nil _ _ _).mono ?_
        rintro e w7 ⟨rfl, rfl⟩
        go_wp2_with fail
        refine (same_nil _).mono ?_
        rintro e w8 ⟨rfl, hq8⟩
        have HRES : Hid (Below w.heap.size w w8) := onward (Below.refl _ _) (Nat.le_refl _) (HQA.out.trans hq8) (fun _ x => x.elim)
        clear hq8
        go_wp2
        go_ret
        exact ⟨rfl, HRES.out⟩
    · clear hq
      go_wp2_with fail
      refine (tree_scan_nil _ _ _).mono ?_
      rintro e w6 ⟨rfl, rfl⟩
      go_wp2_with fail
      refine (ref_scan_nil _ _ _).mono ?_
      rintro e w7 ⟨rfl, rfl⟩
      go_wp2_with fail
      refine (same_nil _).mono ?_
      rintro e w8 ⟨rfl, hq8⟩
      have HRES : Hid (Below w.heap.size w w8) := onward (Below.refl _ _) (Nat.le_refl _) (HQ.out.trans hq8) (fun _ x => x.elim)
      clear hq8
      go_wp2
      go_ret
      exact ⟨rfl, HRES.out⟩

end Go.Proofs.Ytbeenpobppkhdaa
