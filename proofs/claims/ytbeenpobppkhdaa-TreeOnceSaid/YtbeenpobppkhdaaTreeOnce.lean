/- TreeOnce: an entry is there once. For every input. -/
import Derived.Test.YtbeenpobppkhdaaTAwake
import Derived.Test.YtbeenpobppkhdaaTOpen
import Derived.Deep.QuietTactic
import Derived.BigQuiet
import Derived.Test.YtbeenpobppkhdaaTDel
namespace Go.Lap
theorem putE_in {e : Ent} {l : List Ent} (h : e ∈ l) : putE e l = l := by unfold putE; rw [if_pos h]
theorem putE_out {e : Ent} {l : List Ent} (h : e ∉ l) : putE e l = insE e l := by unfold putE; rw [if_neg h]

theorem once_plain (e0 L o : Ent) (hL : ¬ L = e0) (hLo : ¬ L = o) : ∃ es1 es3 es4 es5, putE e0 [] = es1 ∧ e0 ∈ es1 ∧ es1.length ≤ 10 ∧ L ∉ es1 ∧ putE L es1 = es3 ∧ es3.length ≤ 10 ∧ (o ∈ es3 ↔ o = e0) ∧ putE o es3 = es4 ∧ es4.length ≤ 10 ∧ e0 ∈ es4 ∧ delE e0 es4 = es5 ∧ es5.length ≤ 10 ∧ e0 ∉ es5 ∧ L ∈ es5 ∧ es5.length = (if o = e0 then 1 else 2) := by
  have h1 : putE e0 [] = [e0] := putE_out (by simp)
  have h2 : L ∉ [e0] := by simp [hL]
  have r1 : Rising [e0] := List.pairwise_singleton _ _
  have h3 := putE_out h2
  have l3 : (putE L [e0]).length = 2 := by rw [h3, insE_length]; rfl
  have r3 : Rising (putE L [e0]) := r1.put
  have m3 : ∀ x, x ∈ putE L [e0] ↔ x = L ∨ x = e0 := fun x => by rw [mem_putE]; simp
  have m4 : ∀ x, x ∈ putE o (putE L [e0]) ↔ x = o ∨ x = L ∨ x = e0 := fun x => by rw [mem_putE, m3]
  have r4 : Rising (putE o (putE L [e0])) := r3.put
  have ho : o ∈ putE L [e0] ↔ o = e0 := by
    rw [m3]
    constructor
    · rintro (h | h)
      · exact absurd h.symm hLo
      · exact h
    · exact Or.inr
  have l4 : (putE o (putE L [e0])).length = (if o = e0 then 2 else 3) := by
    by_cases h : o = e0
    · rw [putE_in (ho.2 h), l3, if_pos h]
    · rw [putE_out (fun z => h (ho.1 z)), insE_length, l3, if_neg h]
  have e4 : e0 ∈ putE o (putE L [e0]) := (m4 _).2 (Or.inr (Or.inr rfl))
  have l5 := delE_length r4 e4
  have l5' : (delE e0 (putE o (putE L [e0]))).length = (if o = e0 then 1 else 2) := by
    rw [l4] at l5
    split at l5 <;> split <;> first | omega | contradiction
  refine ⟨_, _, _, _, h1, by simp, by simp, h2, rfl, by omega, ho, rfl, by rw [l4]; split <;> omega, e4, rfl, by rw [l5']; split <;> omega, fun z => ((mem_delE r4 e4).1 z).2 rfl, (mem_delE r4 e4).2 ⟨(m4 _).2 (Or.inr (Or.inl rfl)), hL⟩, l5'⟩
end Go.Lap
namespace Go.Proofs.Ytbeenpobppkhdaa
open Go.RowKit Go.Lap

section
variable {w W W' : World} {J J' : Nat → Prop} {tb : Nat} {es : List Ent}

theorem TreeW.delete (e : Ent) (A : Option Addr) (c : Nat) (S : Nat → Prop) (h : TreeW w W J tb es) (hr : Rd W S 1 A e.key.length (bytesV e.key)) (hby : ∀ x ∈ e.key, x < 256) (hl : e.key.length ≤ 1000) (hn : es.length ≤ 10000) :
    Calls Try.prog 23 #[ptrV tb, entV e A c] W fun r w' => r = .returned (.int .i64 (if e ∈ es then 0 else 15)) ∧ TurnT w W w' J ∧ TreeW w w' J tb (if e ∈ es then delE e es else es) := by
  obtain ⟨D, ht, hD⟩ := h.ex
  have hzw := h.quiet.size
  refine (tree_delete W D tb es e A c S ht hr hby hl hn).mono ?_
  have key : ∀ (w' : World) (es' : List Ent), Only D W w' → TreeIs w' (fun k => D k ∨ W.heap.size ≤ k) tb es' → TurnT w W w' J ∧ TreeW w w' J tb es' := by
    intro w' es' ho hti
    have hz := ho.size
    refine ⟨ho.mono (fun k _ x => ⟨(hD k x).2.2, (hD k x).1⟩), h.quiet.trans' ho (fun k hk x => by have := hD k x; omega), ⟨_, hti.mono (D' := fun k => (D k ∨ W.heap.size ≤ k) ∧ k < w'.heap.size) (fun k x y => ⟨x, y⟩), fun k x => ?_⟩, fun k x => by have := h.jl k x; omega⟩
    rcases x.1 with y | y
    · exact ⟨(hD k y).1, x.2, (hD k y).2.2⟩
    · exact ⟨by omega, x.2, fun z => by have := h.jl k z; omega⟩
  rintro r w' (⟨hm, rfl, ho, hti⟩ | ⟨hm, rfl, ho, hti⟩)
  · have := key w' _ ho hti
    rw [if_neg hm, if_neg hm]
    exact ⟨rfl, this⟩
  · have := key w' _ ho hti
    rw [if_pos hm, if_pos hm]
    exact ⟨rfl, this⟩
end

set_option maxHeartbeats 1000000 in
set_option maxRecDepth 100000 in
theorem treeOnce_any (k0 m0 : List Nat) (A0 A3 : Option Addr) (cap0 cap3 : Nat) (pa sa po so : Int) (w : World) (hk1 : k0.length ≤ cap0) (hk2 : cap0 ≤ maxLen) (hkb : ∀ x ∈ k0, x < 256) (hkr : Rd w (· < w.heap.size) 1 A0 k0.length (bytesV k0)) (hm1 : m0.length ≤ cap3) (hm2 : cap3 ≤ maxLen) (hmb : ∀ x ∈ m0, x < 256) (hmr : Rd w (· < w.heap.size) 1 A3 m0.length (bytesV m0)) :
    Calls Try.prog 7 #[.slice A0 k0.length cap0, .agg #[.int .i64 pa, .int .i64 sa], .agg #[.int .i64 po, .int .i64 so], .slice A3 m0.length cap3] w fun e w' => e = .returned (.bool true) ∧ Below w.heap.size w w' := by
  have HKB := Lib.hid hkb
  have HKR := Lib.hid hkr
  have HK12 := Lib.hid (And.intro hk1 hk2)
  have HMB := Lib.hid hmb
  have HMR := Lib.hid hmr
  have HM12 := Lib.hid (And.intro hm1 hm2)
  have HB0 : Hid (∀ W, Quiet ((w.alloc (.cells #[.int .i64 pa, .int .i64 sa] 29)).alloc (.cells #[.int .i64 po, .int .i64 so] 29)) W → W.heap[w.heap.size]? = some (.cells #[.int .i64 pa, .int .i64 sa] 29 (0, 0)) ∧ W.heap[w.heap.size + 1]? = some (.cells #[.int .i64 po, .int .i64 so] 29 (0, 0)) ∧ Quiet w W) := fun W hq =>
    ⟨hq.get (alloc_old (alloc_new w _) _) (fun x => x), hq.get (two_new w _ _) (fun x => x), (((Only.refl _ _).alloc _).alloc _).trans hq⟩
  clear hkb hkr hk1 hk2 hmb hmr hm1 hm2
  go_enter Try.func7, Try.ntmps7
  go_wp2_with fail
  refine (awake8 _).mono ?_
  rintro e w1 ⟨rfl, hq1⟩
  have HB1 := Lib.hid (HB0.out w1 hq1)
  have HCU := Lib.hid (cut_any A0 k0.length cap0 60 k0 (· < w.heap.size) w1 (HKR.out.kept HB1.out.2.2 (fun _ _ x => x)) rfl HK12.out.1 HK12.out.2 (by omega))
  clear hq1 HB0
  go_wp2_with fail
  refine HCU.out.mono ?_
  rintro e w2 ⟨vk, rfl, hf2⟩
  obtain ⟨kl, hkl⟩ : ∃ kl, k0.take 60 = kl := ⟨_, rfl⟩
  rw [hkl] at hf2
  have hkl4 : kl.length ≤ 60 := by rw [← hkl, List.length_take]; omega
  have HKLB : Hid (∀ x ∈ kl, x < 256) := fun x hx => HKB.out x (by rw [← hkl] at hx; exact List.mem_of_mem_take hx)
  obtain ⟨Ak, ck, hvk, _, _, hrk⟩ := own_form hf2.own
  subst hvk
  have HRK := Lib.hid hrk
  have HQ2 := Lib.hid hf2.quiet
  have HCO := Lib.hid (copy_any Ak ck kl _ w2 HRK.out (by omega))
  clear hf2 hrk hkl HCU HKR HKB HK12
  go_wp2_with fail
  refine HCO.out.mono ?_
  rintro e w3 ⟨vl, rfl, hf3⟩
  have HF3 := Lib.hid hf3
  have HQ3 := Lib.hid (HQ2.out.trans hf3.quiet)
  have HCV := Lib.hid (cut_any A3 m0.length cap3 20 m0 (· < w.heap.size) w3 (HMR.out.kept (HB1.out.2.2.trans HQ3.out) (fun _ _ x => x)) rfl HM12.out.1 HM12.out.2 (by omega))
  clear hf3 HCO
  go_wp2_with fail
  refine HCV.out.mono ?_
  rintro e w4 ⟨vm, rfl, hf4⟩
  obtain ⟨ml, hml⟩ : ∃ ml, m0.take 20 = ml := ⟨_, rfl⟩
  rw [hml] at hf4
  have hml4 : ml.length ≤ 20 := by rw [← hml, List.length_take]; omega
  have HMLB : Hid (∀ x ∈ ml, x < 256) := fun x hx => HMB.out x (by rw [← hml] at hx; exact List.mem_of_mem_take hx)
  obtain ⟨Am, cm, hvm, _, _, _⟩ := own_form hf4.own
  subst hvm
  have HF4 := Lib.hid hf4
  have HROWM := Lib.hid (owns_kept hf4.own ((Only.refl (fun _ => False) w4).alloc (.cells #[.int .u8 1] 5)) (fun _ _ x => x))
  clear hf4 hml HCV HMR HMB HM12
  go_wp2_with (at_builtin; refine app elem_u8 rfl (.tmp 21) (.tmp 22) rfl rfl HROWM.out rfl (Rd.new w4 1 1 [.int .u8 1] 5 (fun _ => True) rfl trivial) (one_bytes [1]) (by unfold maxLen; omega) (by omega) ?_)
  intro v5 w5 hg5
  have hnb : Quiet w3 w5 ∧ ∀ k, v5.ownBlock = some k → w3.heap.size ≤ k := by
    have h1 := HF4.out.quiet.size
    refine ⟨(HF4.out.quiet.alloc _).trans' hg5.only (fun k hk e => by have := HF4.out.new k e; omega), fun k e => ?_⟩
    rcases hg5.loc with x | x
    · rw [x] at e; exact HF4.out.new k e
    · rw [x] at e; injection e with e; rw [World.size_alloc] at e; omega
  obtain ⟨nl, hnl⟩ : ∃ nl, ml ++ [1] = nl := ⟨_, rfl⟩
  have hn5 : w5.ownsRow 0 5 1 v5 nl.length (bytesV nl) := by
    rw [← hnl, show bytesV (ml ++ [1]) = bytesV ml ++ [.int .u8 1] by simp [bytesV], List.length_append]
    exact hg5.own
  have hnl4 : nl.length ≤ 21 := by rw [← hnl, List.length_append]; simp; omega
  have HNLB : Hid (∀ x ∈ nl, x < 256) := fun x hx => by
    rw [← hnl] at hx
    rcases List.mem_append.1 hx with y | y
    · exact HMLB.out x y
    · simp at y; omega
  have HNE : Hid (nl ≠ []) := by show nl ≠ []; rw [← hnl]; exact List.append_ne_nil_of_right_ne_nil _ (List.cons_ne_nil _ _)
  obtain ⟨A5, c5, hv5, _, _, hr5⟩ := own_form hn5
  subst hv5
  have HR5 := Lib.hid hr5
  have HQ5 := Lib.hid hnb.1
  have HRL := Lib.hid (owns_kept HF3.out.own hnb.1 (fun _ _ x => x))
  clear hg5 hnb hn5 hnl hr5 HROWM HF4 HMLB
  go_wp2_with (at_builtin; refine app elem_u8 rfl (.tmp 19) (.tmp 23) rfl rfl HRL.out rfl HR5.out (one_bytes nl) (by unfold maxLen; omega) (by omega) ?_)
  intro v6 w6 hg6
  have hq6 : Quiet w2 w6 := (HF3.out.quiet.trans HQ5.out).trans' hg6.only (fun k hk e => by have := HF3.out.new k e; have := HF3.out.quiet.size; omega)
  obtain ⟨ll, hll⟩ : ∃ ll, kl ++ nl = ll := ⟨_, rfl⟩
  have hn6 : w6.ownsRow 0 5 1 v6 ll.length (bytesV ll) := by
    rw [← hll, show bytesV (kl ++ nl) = bytesV kl ++ bytesV nl by simp [bytesV], List.length_append]
    exact hg6.own
  have hll4 : ll.length ≤ 90 := by rw [← hll, List.length_append]; omega
  have HLLB : Hid (∀ x ∈ ll, x < 256) := fun x hx => by
    rw [← hll] at hx
    rcases List.mem_append.1 hx with y | y
    · exact HKLB.out x y
    · exact HNLB.out x y
  have HLK : Hid (¬ ll = kl) := by
    show ¬ ll = kl
    rw [← hll]
    intro e
    have := congrArg List.length e
    rw [List.length_append] at this
    exact HNE.out (List.eq_nil_of_length_eq_zero (by omega))
  obtain ⟨A6, c6, hv6, _, _, hr6⟩ := own_form hn6
  subst hv6
  have HR6 := Lib.hid hr6
  have HRK6 := Lib.hid (HRK.out.kept hq6 (fun _ _ x => x))
  have HB6 : Hid (w6.heap[w.heap.size]? = some (.cells #[.int .i64 pa, .int .i64 sa] 29 (0, 0)) ∧ w6.heap[w.heap.size + 1]? = some (.cells #[.int .i64 po, .int .i64 so] 29 (0, 0)) ∧ Quiet w w6) :=
    ⟨(HQ2.out.trans hq6).get HB1.out.1 (fun x => x), (HQ2.out.trans hq6).get HB1.out.2.1 (fun x => x), (HB1.out.2.2.trans HQ2.out).trans hq6⟩
  clear hg6 hq6 hn6 hll hr6 HRL HR5 HQ5 HRK HNLB HNE HF3 HQ2 HQ3 HB1 hnl4 hml4
  go_wp2_with fail
  refine (new_any w6).mono ?_
  rintro e w7 ⟨rfl, hq7, h70, h71⟩
  have hT7 : TreeW w6 w7 (fun _ => False) (w6.heap.size + 1) [] := TreeW.start (Only.refl _ _) hq7 h70 h71 (fun k x => x.elim)
  have HT : Hid (TreeW w6 (w7.alloc (.cells #[.slice Ak kl.length ck, .int .i64 pa, .int .i64 sa] 34)) (fun k => k = w7.heap.size) (w6.heap.size + 1) []) :=
    hT7.fresh ((Only.refl _ _).alloc _) (fun k x => ⟨Or.inr (by omega), by rw [World.size_alloc]; omega⟩)
  have HEB := Lib.hid (alloc_new w7 (.cells #[.slice Ak kl.length ck, .int .i64 pa, .int .i64 sa] 34))
  obtain ⟨a0, a1⟩ : w7.cell? ⟨w.heap.size, 0, none⟩ = some (.int .i64 pa) ∧ w7.cell? ⟨w.heap.size, 1, none⟩ = some (.int .i64 sa) := by
    have := hq7.get HB6.out.1 (fun x => x)
    exact ⟨by rw [cell_of this]; rfl, by rw [cell_of this]; rfl⟩
  clear hT7 hq7 h70 h71
  generalize w6.heap.size + 1 = tb at HT ⊢
  obtain ⟨es1, es3, es4, es5, p1, p2, p3, p4, p5, p6, p7, p8, p9, p10, p11, p12, p13, p14, p15⟩ := once_plain ⟨kl, pa, sa⟩ ⟨ll, pa, sa⟩ ⟨kl, po, so⟩ (fun e => HLK.out (congrArg Ent.key e)) (fun e => HLK.out (congrArg Ent.key e))
  have P1 := Lib.hid p1
  have P2 := Lib.hid p2
  have P4 := Lib.hid p4
  have P5 := Lib.hid p5
  have P7 := Lib.hid p7
  have P8 := Lib.hid p8
  have P10 := Lib.hid p10
  have P11 := Lib.hid p11
  have P13 := Lib.hid p13
  have P14 := Lib.hid p14
  have P15 := Lib.hid p15
  clear p1 p2 p4 p5 p7 p8 p10 p11 p13 p14 p15
  have HE0 := fun (W : World) (hq : Quiet w6 W) => HRK6.out.kept hq (fun _ _ x => x)
  have HE1 := fun (W : World) (hq : Quiet w6 W) => HR6.out.kept hq (fun _ _ x => x)
  have HEK := Lib.hid HE0
  have HEL := Lib.hid HE1
  clear HE0 HE1
  have HI1 : Hid (∀ W, Quiet (w7.alloc (.cells #[.slice Ak kl.length ck, .int .i64 pa, .int .i64 sa] 34)) W → Calls Try.prog 12 #[ptrV tb, entV ⟨kl, pa, sa⟩ Ak ck] W fun r w' => r = .returned (.int .i64 0) ∧ TreeW w6 w' (fun k => k = w7.heap.size) tb es1 ∧ w'.heap[w7.heap.size]? = some (.cells #[.slice Ak kl.length ck, .int .i64 pa, .int .i64 sa] 34 (0, 0))) := fun W hq => by
    have hT := HT.out.quietly hq
    refine (hT.insert ⟨kl, pa, sa⟩ Ak ck _ (HEK.out W hT.quiet) HKLB.out (by show kl.length ≤ 600; omega) (by simp)).mono ?_
    rintro r w' ⟨rfl, ht, hT'⟩
    rw [if_neg (by simp)]
    rw [P1.out] at hT'
    exact ⟨rfl, hT', ht.get (hq.get HEB.out (fun x => x)) (fun x => x.1 rfl)⟩
  have HI2 : Hid (∀ W, TreeW w6 W (fun k => k = w7.heap.size) tb es1 → W.heap[w7.heap.size]? = some (.cells #[.slice Ak kl.length ck, .int .i64 pa, .int .i64 sa] 34 (0, 0)) → Calls Try.prog 12 #[ptrV tb, entV ⟨kl, pa, sa⟩ Ak ck] W fun r w' => r = .returned (.int .i64 7) ∧ TreeW w6 w' (fun k => k = w7.heap.size) tb es1 ∧ w'.heap[w7.heap.size]? = some (.cells #[.slice Ak kl.length ck, .int .i64 pa, .int .i64 sa] 34 (0, 0))) := fun W hT hb => by
    refine (hT.insert ⟨kl, pa, sa⟩ Ak ck _ (HEK.out W hT.quiet) HKLB.out (by show kl.length ≤ 600; omega) (by omega)).mono ?_
    rintro r w' ⟨rfl, ht, hT'⟩
    rw [if_pos P2.out]
    rw [putE_in P2.out] at hT'
    exact ⟨rfl, hT', ht.get hb (fun x => x.1 rfl)⟩
  have HI3 : Hid (∀ W, TreeW w6 W (fun k => k = w7.heap.size) tb es1 → W.heap[w7.heap.size]? = some (.cells #[.slice Ak kl.length ck, .int .i64 pa, .int .i64 sa] 34 (0, 0)) → Calls Try.prog 12 #[ptrV tb, entV ⟨ll, pa, sa⟩ A6 c6] W fun r w' => r = .returned (.int .i64 0) ∧ TreeW w6 w' (fun k => k = w7.heap.size) tb es3 ∧ w'.heap[w7.heap.size]? = some (.cells #[.slice Ak kl.length ck, .int .i64 pa, .int .i64 sa] 34 (0, 0))) := fun W hT hb => by
    refine (hT.insert ⟨ll, pa, sa⟩ A6 c6 _ (HEL.out W hT.quiet) HLLB.out (by show ll.length ≤ 600; omega) (by omega)).mono ?_
    rintro r w' ⟨rfl, ht, hT'⟩
    rw [if_neg P4.out]
    rw [P5.out] at hT'
    exact ⟨rfl, hT', ht.get hb (fun x => x.1 rfl)⟩
  have HBX : Hid (∀ W, Quiet w6 W → W.cell? ⟨w.heap.size, 0, none⟩ = some (.int .i64 pa) ∧ W.cell? ⟨w.heap.size, 1, none⟩ = some (.int .i64 sa) ∧ W.cell? ⟨w.heap.size + 1, 0, none⟩ = some (.int .i64 po) ∧ W.cell? ⟨w.heap.size + 1, 1, none⟩ = some (.int .i64 so)) := fun W hq =>
    ⟨by rw [cell_of (hq.get HB6.out.1 (fun x => x))]; rfl, by rw [cell_of (hq.get HB6.out.1 (fun x => x))]; rfl, by rw [cell_of (hq.get HB6.out.2.1 (fun x => x))]; rfl, by rw [cell_of (hq.get HB6.out.2.1 (fun x => x))]; rfl⟩
  obtain ⟨x0, x1, x2⟩ := ent_cells HEB.out
  obtain ⟨y0, y1, _, _⟩ := HBX.out _ HT.out.quiet
  go_wp2_with fail
  refine (HI1.out _ (Only.refl _ _)).mono ?_
  rintro e w9 ⟨rfl, hT9, hb9⟩
  obtain ⟨u0, u1, u2⟩ := ent_cells hb9
  obtain ⟨v0, v1, _, _⟩ := HBX.out _ hT9.quiet
  have HI2' := Lib.hid (HI2.out _ hT9 hb9)
  clear hT9 hb9 x0 x1 x2 y0 y1 a0 a1 HI1 HI2 HEB
  go_wp2_with fail
  refine HI2'.out.mono ?_
  rintro e w10 ⟨rfl, hT10, hb10⟩
  obtain ⟨x0, x1, x2⟩ := ent_cells hb10
  obtain ⟨y0, y1, _, _⟩ := HBX.out _ hT10.quiet
  have HI3' := Lib.hid (HI3.out _ hT10 hb10)
  clear hT10 hb10 u0 u1 u2 v0 v1 HI2' HI3
  go_wp2_with fail
  refine HI3'.out.mono ?_
  rintro e w11 ⟨rfl, hT11, hb11⟩
  obtain ⟨_, _, v0, v1⟩ := HBX.out _ hT11.quiet
  have HT11 := Lib.hid hT11
  have HB11 := Lib.hid hb11
  have HI4 := Lib.hid (hT11.insert ⟨kl, po, so⟩ Ak ck _ (HEK.out _ hT11.quiet) HKLB.out (by show kl.length ≤ 600; omega) (by omega))
  rw [P8.out] at HI4
  clear hT11 hb11 x0 x1 x2 y0 y1 HI3'
  go_wp2_with fail
  refine HI4.out.mono ?_
  rintro e w12 ⟨rfl, ht12, hT12⟩
  have HT12 := Lib.hid hT12
  have hb12 := ht12.get HB11.out (fun x => x.1 rfl)
  have HB12 := Lib.hid hb12
  obtain ⟨x0, x1, x2⟩ := ent_cells hb12
  obtain ⟨y0, y1, y2, y3⟩ := HBX.out _ hT12.quiet
  have HD1 := Lib.hid (hT12.delete ⟨kl, pa, sa⟩ Ak ck _ (HEK.out _ hT12.quiet) HKLB.out (by show kl.length ≤ 1000; omega) (by omega))
  rw [if_pos P10.out, if_pos P10.out, P11.out] at HD1
  clear ht12 hT12 hb12 v0 v1 HI4 HT11 HB11
  by_cases hat : (⟨kl, po, so⟩ : Ent) = ⟨kl, pa, sa⟩
  · have h7 := P7.out.2 hat
    rw [if_pos h7]
    have h15 := P15.out
    rw [if_pos hat] at h15
    injection hat with _ h1 h2
    clear h7
    go_wp2_with fail
    refine HD1.out.mono ?_
    rintro e w13 ⟨rfl, ht13, hT13⟩
    have hb13 := ht13.get HB12.out (fun x => x.1 rfl)
    obtain ⟨u0, u1, u2⟩ := ent_cells hb13
    have HD2 := Lib.hid (hT13.delete ⟨kl, pa, sa⟩ Ak ck _ (HEK.out _ hT13.quiet) HKLB.out (by show kl.length ≤ 1000; omega) (by omega))
    rw [if_neg P13.out, if_neg P13.out] at HD2
    clear ht13 hT13 hb13 x0 x1 x2 y0 y1 y2 y3 HD1 HB12 HT12
    go_wp2_with fail
    refine HD2.out.mono ?_
    rintro e w14 ⟨rfl, ht14, hT14⟩
    have HT14 := Lib.hid hT14
    obtain ⟨y0, y1, y2, y3⟩ := HBX.out _ hT14.quiet
    have HLEN := Lib.hid hT14.len
    rw [h15] at HLEN
    have HD3 := Lib.hid (hT14.delete ⟨ll, pa, sa⟩ A6 c6 _ (HEL.out _ hT14.quiet) HLLB.out (by show ll.length ≤ 1000; omega) (by omega))
    rw [if_pos P14.out, if_pos P14.out] at HD3
    clear ht14 hT14 u0 u1 u2 HD2 h15
    go_wp2_with fail
    refine HLEN.out.mono ?_
    rintro e w15 ⟨rfl, rfl⟩
    clear HLEN
    go_wp2_with fail
    refine HD3.out.mono ?_
    rintro e w16 ⟨rfl, ht16, hT16⟩
    have HR : Hid (Below w.heap.size w w16) := onward (Below.refl _ _) (Nat.le_refl _) (HB6.out.2.2.trans hT16.quiet) (fun _ x => x.elim)
    clear ht16 hT16 HD3 y0 y1 y2 y3
    go_wp2
    go_ret
    exact ⟨rfl, HR.out⟩
  · have h7 : ¬ (⟨kl, po, so⟩ : Ent) ∈ es3 := fun z => hat (P7.out.1 z)
    rw [if_neg h7]
    have h15 := P15.out
    rw [if_neg hat] at h15
    have hne : ¬ (pa = po ∧ sa = so) := fun z => hat (by rw [z.1, z.2])
    clear h7 hat
    by_cases hp : pa = po
    · have hs : (sa == so) = false := beq_eq_false_iff_ne.2 (fun z => hne ⟨hp, z⟩)
      have hp' : (pa == po) = true := beq_iff_eq.2 hp
      clear hne hp
      go_wp2_with fail
      refine HD1.out.mono ?_
      rintro e w13 ⟨rfl, ht13, hT13⟩
      have hb13 := ht13.get HB12.out (fun x => x.1 rfl)
      obtain ⟨u0, u1, u2⟩ := ent_cells hb13
      have HD2 := Lib.hid (hT13.delete ⟨kl, pa, sa⟩ Ak ck _ (HEK.out _ hT13.quiet) HKLB.out (by show kl.length ≤ 1000; omega) (by omega))
      rw [if_neg P13.out, if_neg P13.out] at HD2
      clear ht13 hT13 hb13 x0 x1 x2 y0 y1 y2 y3 HD1 HB12 HT12
      go_wp2_with fail
      refine HD2.out.mono ?_
      rintro e w14 ⟨rfl, ht14, hT14⟩
      have HT14 := Lib.hid hT14
      obtain ⟨y0, y1, y2, y3⟩ := HBX.out _ hT14.quiet
      have HLEN := Lib.hid hT14.len
      rw [h15] at HLEN
      have HD3 := Lib.hid (hT14.delete ⟨ll, pa, sa⟩ A6 c6 _ (HEL.out _ hT14.quiet) HLLB.out (by show ll.length ≤ 1000; omega) (by omega))
      rw [if_pos P14.out, if_pos P14.out] at HD3
      clear ht14 hT14 u0 u1 u2 HD2 h15
      go_wp2_with fail
      refine HLEN.out.mono ?_
      rintro e w15 ⟨rfl, rfl⟩
      clear HLEN
      go_wp2_with fail
      refine HD3.out.mono ?_
      rintro e w16 ⟨rfl, ht16, hT16⟩
      have HR : Hid (Below w.heap.size w w16) := onward (Below.refl _ _) (Nat.le_refl _) (HB6.out.2.2.trans hT16.quiet) (fun _ x => x.elim)
      clear ht16 hT16 HD3 y0 y1 y2 y3
      go_wp2
      go_ret
      exact ⟨rfl, HR.out⟩
    · have hp' : (pa == po) = false := beq_eq_false_iff_ne.2 hp
      clear hne hp
      go_wp2_with fail
      refine HD1.out.mono ?_
      rintro e w13 ⟨rfl, ht13, hT13⟩
      have hb13 := ht13.get HB12.out (fun x => x.1 rfl)
      obtain ⟨u0, u1, u2⟩ := ent_cells hb13
      have HD2 := Lib.hid (hT13.delete ⟨kl, pa, sa⟩ Ak ck _ (HEK.out _ hT13.quiet) HKLB.out (by show kl.length ≤ 1000; omega) (by omega))
      rw [if_neg P13.out, if_neg P13.out] at HD2
      clear ht13 hT13 hb13 x0 x1 x2 y0 y1 y2 y3 HD1 HB12 HT12
      go_wp2_with fail
      refine HD2.out.mono ?_
      rintro e w14 ⟨rfl, ht14, hT14⟩
      have HT14 := Lib.hid hT14
      obtain ⟨y0, y1, y2, y3⟩ := HBX.out _ hT14.quiet
      have HLEN := Lib.hid hT14.len
      rw [h15] at HLEN
      have HD3 := Lib.hid (hT14.delete ⟨ll, pa, sa⟩ A6 c6 _ (HEL.out _ hT14.quiet) HLLB.out (by show ll.length ≤ 1000; omega) (by omega))
      rw [if_pos P14.out, if_pos P14.out] at HD3
      clear ht14 hT14 u0 u1 u2 HD2 h15
      go_wp2_with fail
      refine HLEN.out.mono ?_
      rintro e w15 ⟨rfl, rfl⟩
      clear HLEN
      go_wp2_with fail
      refine HD3.out.mono ?_
      rintro e w16 ⟨rfl, ht16, hT16⟩
      have HR : Hid (Below w.heap.size w w16) := onward (Below.refl _ _) (Nat.le_refl _) (HB6.out.2.2.trans hT16.quiet) (fun _ x => x.elim)
      clear ht16 hT16 HD3 y0 y1 y2 y3
      go_wp2
      go_ret
      exact ⟨rfl, HR.out⟩

open Go.ChangeShapes Go.WideShapes in
set_option maxRecDepth 100000 in
theorem treeOnce_walk {H : Type} {enc : TypeId × Value → H} {r : Reach} {base : Nat} {d0 d1 d2 d3 : DataW H} {p0 p1 p2 p3 : List MemPlace} (v0 v1 v2 v3 : Value) (W : World)
    (o0 : Value.okWide Try.prog W r base 23 v0) (h0 : DataW.Trod enc Try.prog W 0 (fun _ => true) true 23 v0 d0 p0) (o1 : Value.okWide Try.prog W r base 29 v1) (h1 : DataW.Trod enc Try.prog W 0 (fun _ => true) true 29 v1 d1 p1)
    (o2 : Value.okWide Try.prog W r base 29 v2) (h2 : DataW.Trod enc Try.prog W 0 (fun _ => true) true 29 v2 d2 p2) (o3 : Value.okWide Try.prog W r base 23 v3) (h3 : DataW.Trod enc Try.prog W 0 (fun _ => true) true 23 v3 d3 p3) :
    Calls Try.prog 7 #[v0, v1, v2, v3] W fun e w' => e = .returned (.bool true) ∧ Below W.heap.size W w' := by
  obtain ⟨l, A0, cap0, rfl, a1, a2, a3, a4⟩ := open_bytes o0 h0
  obtain ⟨pa, sa, rfl, _, _⟩ := open_tid o1 h1
  obtain ⟨po, so, rfl, _, _⟩ := open_tid o2 h2
  obtain ⟨m, A3, cap3, rfl, b1, b2, b3, b4⟩ := open_bytes o3 h3
  exact treeOnce_any l m A0 A3 cap0 cap3 pa sa po so W a1 a2 a3 a4 b1 b2 b3 b4

end Go.Proofs.Ytbeenpobppkhdaa
