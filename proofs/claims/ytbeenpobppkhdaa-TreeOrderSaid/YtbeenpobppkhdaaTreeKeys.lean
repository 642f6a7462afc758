/- TreeKeys: all entries of a key, and no other ones, stand from it on, up to the least key that is greater. For every input. -/
import Derived.Test.YtbeenpobppkhdaaTAwake
import Derived.Test.YtbeenpobppkhdaaTOpen
namespace Go.Lap

/-- From a key on, up to the least greater one, stands that key alone. -/
theorem only_key : ∀ (k l : List Nat), (0 ≤ cmpB k l ∧ cmpB k (l ++ [0]) < 0) ↔ k = l
  | [], [] => by simp [cmpB]
  | [], b :: l => by simp [cmpB]
  | a :: k, [] => by
    constructor
    · rintro ⟨_, h⟩
      rcases k with _ | ⟨b, k⟩ <;> simp [cmpB] at h <;> split at h <;> omega
    · intro h; cases h
  | a :: k, b :: l => by
    have ih := only_key k l
    have e1 : cmpB (a :: k) (b :: l) = if a < b then -1 else if b < a then 1 else cmpB k l := rfl
    have e2 : cmpB (a :: k) (b :: l ++ [0]) = if a < b then -1 else if b < a then 1 else cmpB k (l ++ [0]) := rfl
    rw [e1, e2, List.cons.injEq]
    by_cases h1 : a < b
    · rw [if_pos h1, if_pos h1]
      constructor
      · rintro ⟨h, _⟩; omega
      · rintro ⟨h, _⟩; omega
    · rw [if_neg h1, if_neg h1]
      by_cases h2 : b < a
      · rw [if_pos h2, if_pos h2]
        constructor
        · rintro ⟨_, h⟩; omega
        · rintro ⟨h, _⟩; omega
      · rw [if_neg h2, if_neg h2, ih]
        constructor
        · exact fun h => ⟨by omega, h⟩
        · exact fun h => h.2

theorem within_key (l : List Nat) (e : Ent) : within l (l ++ [0]) e = decide (e.key = l) := by
  have h := only_key e.key l
  unfold within
  rw [decide_eq_false (show ¬ l ++ [0] = [] by simp), Bool.false_or]
  by_cases x : e.key = l
  · have := h.2 x
    rw [decide_eq_true x, decide_eq_true this.1, decide_eq_true this.2]
    rfl
  · rw [decide_eq_false x]
    by_cases y : 0 ≤ cmpB e.key l
    · rw [decide_eq_true y, decide_eq_false (fun z => x (h.1 ⟨y, z⟩))]
      rfl
    · rw [decide_eq_false y]
      rfl

/-- How many have a key. -/
def keyed (l : List Nat) (es : List Ent) : Nat := es.countP (fun e => decide (e.key = l))

theorem keyed_put {l : List Nat} {e : Ent} {es : List Ent} (h : e ∉ es) : keyed l (putE e es) = keyed l es + (if e.key = l then 1 else 0) := by
  unfold putE
  rw [if_neg h, insE_eq]
  unfold keyed
  rw [List.countP_append, List.countP_cons]
  have : es.countP (fun e => decide (e.key = l)) = (es.take (posE e es)).countP (fun e => decide (e.key = l)) + (es.drop (posE e es)).countP (fun e => decide (e.key = l)) := by
    rw [← List.countP_append, List.take_append_drop]
  rw [this]
  by_cases x : e.key = l
  · simp [x]; omega
  · simp [x]

theorem scan_keyed (l : List Nat) (es : List Ent) : (scanE l (l ++ [0]) es).length = keyed l es := by
  unfold scanE keyed
  rw [List.countP_eq_length_filter]
  congr 1
  apply List.filter_congr
  intro e _
  exact within_key l e

theorem keyed_le (l : List Nat) (es : List Ent) : keyed l es ≤ es.length := List.countP_le_length
end Go.Lap
namespace Go.Proofs.Ytbeenpobppkhdaa
open Go.RowKit Go.Lap

/-- The law's world: a tree, a key. -/
structure KeysW (w wr : World) (tb : Nat) (es : List Ent) (vk : Value) (kl : List Nat) : Prop where
  tree : TreeW w wr (fun k => vk.ownBlock = some k) tb es
  own : wr.ownsRow 0 5 1 vk kl.length (bytesV kl)
  new : ∀ k, vk.ownBlock = some k → w.heap.size ≤ k

section
variable {w wr w' : World} {tb : Nat} {es : List Ent} {vk : Value} {kl : List Nat}
theorem KeysW.quietly (h : KeysW w wr tb es vk kl) (hq : Quiet wr w') : KeysW w w' tb es vk kl := ⟨h.tree.quietly hq, owns_kept h.own hq (fun _ _ x => x), h.new⟩

theorem KeysW.rd (h : KeysW w wr tb es vk kl) : ∀ A n c, vk = .slice A n c → Rd wr (fun k => vk.ownBlock = some k) 1 A kl.length (bytesV kl) := fun A n c e => by
  obtain ⟨A', c', e', _, _, hr⟩ := own_form h.own
  rw [e'] at e
  injection e with e1 _ _
  rw [← e1]
  exact hr

/-- One more entry, whose key lies in a new row. -/
theorem KeysW.put (h : KeysW w wr tb es vk kl) (e : Ent) {A : Option Addr} {c : Nat} {w2 : World} (hq : Quiet wr w2) (hf : Fresh wr w2 (.slice A e.key.length c) e.key) (hby : ∀ x ∈ e.key, x < 256) (hl : e.key.length ≤ 600) (hn : es.length ≤ 10000) :
    Calls Try.prog 12 #[ptrV tb, entV e A c] w2 fun r w' => r = .returned (.int .i64 (if e ∈ es then 7 else 0)) ∧ KeysW w w' tb (putE e es) vk kl ∧ Rd w' (fun k => (Value.slice A e.key.length c).ownBlock = some k) 1 A e.key.length (bytesV e.key) := by
  obtain ⟨A', c', e', _, _, hr⟩ := own_form hf.own
  injection e' with e1 _ e2
  subst e1 e2
  have hz := hq.size
  have ht := h.tree.fresh (J' := fun k => vk.ownBlock = some k ∨ (Value.slice A e.key.length c).ownBlock = some k) hq (fun k x => by
    rcases x with x | x
    · exact ⟨Or.inl x, by have := h.tree.jl k x; omega⟩
    · exact ⟨Or.inr (hf.new k x), (hf.own.lt k x).2⟩)
  refine (ht.insert e A c _ hr hby hl hn).mono ?_
  rintro r w' ⟨rfl, htn, htw⟩
  refine ⟨rfl, ⟨htw.fresh (Only.refl _ _) (fun k x => ⟨Or.inl (Or.inl x), htw.jl k (Or.inl x)⟩), owns_kept (owns_kept h.own hq (fun _ _ x => x)) htn (fun k x y => y.1 (Or.inl x)), h.new⟩, hr.kept htn (fun k x y => y.1 (Or.inr x))⟩
end

set_option maxHeartbeats 4000000 in
set_option maxRecDepth 100000 in
theorem treeKeys_any (A : Option Addr) (n cap : Nat) (k0 : List Nat) (A1 : Option Addr) (cap1 : Nat) (w : World) (h : EntsIn w w.heap.size A n) (hn : n ≤ cap) (hcap : cap ≤ maxLen) (hk1 : k0.length ≤ cap1) (hk2 : cap1 ≤ maxLen) (hkb : ∀ x ∈ k0, x < 256) (hkr : Rd w (· < w.heap.size) 1 A1 k0.length (bytesV k0)) :
    Calls Try.prog 3 #[.slice A n cap, .slice A1 k0.length cap1] w fun e w' => e = .returned (.bool true) ∧ Below w.heap.size w w' := by
  unfold maxLen at hcap
  have HI := Lib.hid h
  have HKB := Lib.hid hkb
  have HKR := Lib.hid hkr
  have HK12 := Lib.hid (And.intro hk1 hk2)
  clear h hkb hkr hk1 hk2
  go_enter Try.func3, Try.ntmps3
  go_wp2_with fail
  refine (awake8 _).mono ?_
  rintro e w1 ⟨rfl, hq1⟩
  have HQ1 := Lib.hid hq1
  have HCU := Lib.hid (cut_any A1 k0.length cap1 40 k0 (· < w.heap.size) w1 (HKR.out.kept hq1 (fun _ _ x => x)) rfl HK12.out.1 HK12.out.2 (by omega))
  clear hq1
  go_wp2_with fail
  refine HCU.out.mono ?_
  rintro e w2 ⟨vk, rfl, hf2⟩
  obtain ⟨kl, hkl⟩ : ∃ kl, k0.take 40 = kl := ⟨_, rfl⟩
  rw [hkl] at hf2
  have hkl4 : kl.length ≤ 40 := by rw [← hkl, List.length_take]; omega
  have HKLB : Hid (∀ x ∈ kl, x < 256) := fun x hx => HKB.out x (by rw [← hkl] at hx; exact List.mem_of_mem_take hx)
  obtain ⟨Ak, ck, hvk, _, _, _⟩ := own_form hf2.own
  subst hvk
  have HF2 := Lib.hid hf2
  have HQ2 := Lib.hid (HQ1.out.trans hf2.quiet)
  clear hf2 hkl HCU HKR HKB HK12
  go_wp2_with fail
  refine (new_any w2).mono ?_
  rintro e w3 ⟨rfl, hq3, h30, h31⟩
  have HS3 : Hid (KeysW w w3 (w2.heap.size + 1) [] (.slice Ak kl.length ck) kl) :=
    ⟨TreeW.start HQ2.out hq3 h30 h31 (fun k x => (HF2.out.own.lt k x).2), owns_kept HF2.out.own hq3 (fun _ _ x => x), fun k x => by have := HF2.out.new k x; have := HQ1.out.size; omega⟩
  clear hq3 h30 h31 HF2 HQ2 HQ1
  generalize w2.heap.size + 1 = tb at HS3 ⊢
  go_wp2_with fail
  go_loopw [20, 6, 7, 8, 9] (fun c cn _ _ _ wr => ∃ (i : Nat) (es : List Ent), i ≤ n ∧ i ≤ 100 ∧ c = .int .i64 (i : Int) ∧ cn = .int .i64 (keyed kl es : Int) ∧ es.length ≤ i ∧ KeysW w wr tb es (.slice Ak kl.length ck) kl) (fun c _ _ _ _ _ => n - (intOf c).toNat)
  case atStart => exact ⟨0, [], Nat.zero_le _, Nat.zero_le _, rfl, rfl, Nat.le_refl _, HS3.out⟩
  case round =>
    obtain ⟨i, es, hi, hi100, rfl, rfl, hel, hS⟩ := hrel
    clear HS3
    have HS := Lib.hid hS
    by_cases hlt : i < n
    · obtain ⟨b, off, key, pg, sl, A', cap', rfl, hb', hkc, hkm, hkb, hkr, _, c0, c1, c2⟩ := HI.out.kept (onward (Below.refl _ _) (Nat.le_refl _) hS.tree.quiet (fun _ x => x.elim)) i hlt
      clear hS
      have HS1 := Lib.hid (HS.out.quietly ((Only.refl (fun _ => False) wr).alloc (.cells #[.slice A' key.length cap', .int .i64 pg, .int .i64 sl] 31)))
      have HBX := Lib.hid (alloc_new wr (.cells #[.slice A' key.length cap', .int .i64 pg, .int .i64 sl] 31))
      obtain ⟨x0, x1, x2⟩ := ent_cells HBX.out
      by_cases h100 : i < 100
      · have HCU := Lib.hid (cut_any A' key.length cap' 100 key (· < w.heap.size) _ (hkr.kept ((Only.refl (fun _ => False) wr).alloc (.cells #[.slice A' key.length cap', .int .i64 pg, .int .i64 sl] 31)) (fun _ _ x => x)) rfl hkc hkm (by omega))
        have HKY : Hid (∀ x ∈ key, x < 256) := hkb
        clear hkb hkr hkc hkm
        go_wp2_with fail
        refine HCU.out.mono ?_
        rintro e w5 ⟨v5, rfl, hf5⟩
        obtain ⟨k5, hk5⟩ : ∃ k5, key.take 100 = k5 := ⟨_, rfl⟩
        rw [hk5] at hf5
        have hk5l : k5.length ≤ 100 := by rw [← hk5, List.length_take]; omega
        have HK5B : Hid (∀ x ∈ k5, x < 256) := fun x hx => HKY.out x (by rw [← hk5] at hx; exact List.mem_of_mem_take hx)
        obtain ⟨A5, c5, hv5, _, _, _⟩ := own_form hf5.own
        subst hv5
        have HPUT := Lib.hid (HS1.out.put ⟨k5, pg, sl⟩ (A := A5) (c := c5) hf5.quiet hf5 HK5B.out (by show k5.length ≤ 600; omega) (by omega))
        have y1 := hf5.quiet.cell x1 (fun x => x)
        have y2 := hf5.quiet.cell x2 (fun x => x)
        clear hf5 hk5 HCU HS HS1 HBX x0 x1 x2 c0 c1 c2
        go_wp2_with fail
        refine HPUT.out.mono ?_
        rintro e w6 ⟨rfl, hs6, hr6⟩
        have HS6 := Lib.hid hs6
        have HSM := Lib.hid (same_any A5 Ak c5 ck k5 kl _ _ w6 hr6 (hs6.rd Ak kl.length ck rfl) HK5B.out HKLB.out)
        have hpl := putE_length ⟨k5, pg, sl⟩ es
        clear hs6 hr6 HPUT y1 y2
        by_cases hmem : (⟨k5, pg, sl⟩ : Ent) ∈ es
        · rw [if_pos hmem]
          have hpe : putE ⟨k5, pg, sl⟩ es = es := by unfold putE; rw [if_pos hmem]
          rw [hpe] at HS6
          clear hmem hpe hpl HSM
          go_wp2
          go_roundw
          case rel => exact ⟨i + 1, es, by omega, by omega, by go_num, rfl, by omega, HS6.out⟩
          case measure => simp [intOf]; omega
        · rw [if_neg hmem]
          have HKE := Lib.hid (keyed_put (l := kl) hmem)
          clear hmem
          generalize putE ⟨k5, pg, sl⟩ es = es' at HS6 HKE hpl
          have hkle := keyed_le kl es
          by_cases hsame : k5 = kl
          · rw [decide_eq_true hsame] at HSM
            rw [if_pos hsame] at HKE
            clear hsame
            go_wp2_with fail
            refine HSM.out.mono ?_
            rintro e w7 ⟨rfl, rfl⟩
            go_wp2
            go_roundw
            case rel => exact ⟨i + 1, es', by omega, by omega, by go_num, by rw [HKE.out]; go_num, by omega, HS6.out⟩
            case measure => simp [intOf]; omega
          · rw [decide_eq_false hsame] at HSM
            rw [if_neg hsame] at HKE
            clear hsame
            go_wp2_with fail
            refine HSM.out.mono ?_
            rintro e w7 ⟨rfl, rfl⟩
            go_wp2
            go_roundw
            case rel => exact ⟨i + 1, es', by omega, by omega, by go_num, by rw [HKE.out, Nat.add_zero], by omega, HS6.out⟩
            case measure => simp [intOf]; omega
      · have HX := HS1
        clear hkb hkr hkc hkm HS HBX
        obtain ⟨m, hm⟩ : ∃ m, keyed kl es = m := ⟨_, rfl⟩
        rw [hm]
        have HMK := Lib.hid hm
        clear hm
        have HCP := Lib.hid (copy_any Ak ck kl _ _ (HX.out.rd Ak kl.length ck rfl) (by omega))
        go_wp2_with fail
        refine HCP.out.mono ?_
        rintro r wa ⟨va, rfl, hfa⟩
        obtain ⟨Aa, ca, hva, _, _, _⟩ := own_form hfa.own
        subst hva
        have HFA := Lib.hid hfa
        have HROWA := Lib.hid (owns_kept hfa.own ((Only.refl (fun _ => False) wa).alloc (.cells #[.int .u8 0] 5)) (fun _ _ x => x))
        clear hfa HCP
        go_wp2_with (at_builtin; refine app elem_u8 rfl (.tmp 48) (.tmp 49) rfl rfl HROWA.out rfl (Rd.new wa 1 1 [.int .u8 0] 5 (fun _ => True) rfl trivial) (one_bytes [0]) (by unfold maxLen; omega) (by omega) ?_)
        intro vb wb hgb
        have hqb : Quiet (wr.alloc (.cells #[.slice A' key.length cap', .int .i64 pg, .int .i64 sl] 31)) wb := (HFA.out.quiet.alloc _).trans' hgb.only (fun k hk e => by have := HFA.out.new k e; omega)
        have HXB := Lib.hid (HX.out.quietly hqb)
        have elen : (kl ++ [0]).length = kl.length + 1 := by simp
        have hob : wb.ownsRow 0 5 1 vb (kl ++ [0]).length (bytesV (kl ++ [0])) := by
          rw [elen, show bytesV (kl ++ [0]) = bytesV kl ++ [.int .u8 0] by simp [bytesV]]
          exact hgb.own
        obtain ⟨Ab, cb, hvb, _, _, hrb⟩ := own_form hob
        have HSC := Lib.hid (HXB.out.tree.scan kl (kl ++ [0]) Ak Ab ck cb _ _ (HXB.out.rd Ak kl.length ck rfl) hrb HKLB.out (fun x hx => by
          rcases List.mem_append.1 hx with y | y
          · exact HKLB.out x y
          · simp at y; omega) (fun k x => (HXB.out.own.lt k x).2) (fun k x => (hob.lt k x).2) (by omega))
        rw [elen] at hvb HSC
        subst hvb
        clear hgb hqb hob hrb elen HROWA HFA HX
        go_wp2_with fail
        refine HSC.out.mono ?_
        rintro r wg ⟨vg, zs, rfl, hzs, hg⟩
        have hzm : zs.length = m := by
          have h1 := congrArg List.length hzs
          rw [scan_keyed, HMK.out] at h1
          simpa using h1
        have HKZ : Hid (∀ z ∈ zs, z.e.key = kl) := fun z hz => by
          have h1 : z.e ∈ ents zs := List.mem_map.2 ⟨z, hz, rfl⟩
          rw [hzs] at h1
          have h2 := (List.mem_filter.1 h1).2
          rw [within_key] at h2
          exact of_decide_eq_true h2
        obtain ⟨Ag, cg, hvg, hcg, hcgm, hrg⟩ := own_form hg.row
        subst hvg
        have HG := Lib.hid hg
        have HRG := Lib.hid hrg
        have HZM := Lib.hid hzm
        rw [hzm] at hcg ⊢
        have hmk40 : m ≤ 100 := by have := keyed_le kl es; have := HMK.out; omega
        have HXG := Lib.hid (HXB.out.quietly hg.quiet)
        clear hg hrg hzs hzm HSC HXB
        go_wp2_with fail
        go_loopw [54, 12] (fun c' _ wr' => ∃ j : Nat, j ≤ m ∧ c' = .int .i64 (j : Int) ∧ Quiet wg wr') (fun c' _ _ => m - (intOf c').toNat)
        case atStart => exact ⟨0, Nat.zero_le _, rfl, Only.refl _ _⟩
        case round =>
          obtain ⟨j, hj, rfl, hqj⟩ := hrel
          have HQJ := Lib.hid hqj
          clear hqj
          by_cases hjm : j < m
          · obtain ⟨z, hz⟩ : ∃ z, zs[j]? = some z := ⟨_, List.getElem?_eq_getElem (by have := HZM.out; omega)⟩
            obtain ⟨gg, off, hAg, r0, r1, r2⟩ := row_cells (HRG.out.kept HQJ.out (fun _ _ x => x)) hz
            subst hAg
            have hkz := HKZ.out z (List.mem_of_getElem? hz)
            have hkd := (HG.out.key z (List.mem_of_getElem? hz)).quietly (HQJ.out.alloc (.cells #[.slice z.A z.e.key.length z.c, .int .i64 z.e.pg, .int .i64 z.e.sl] 34))
            have HSM := Lib.hid (same_any z.A Ak z.c ck z.e.key kl _ _ _ hkd.rd ((HXG.out.quietly (HQJ.out.alloc (.cells #[.slice z.A z.e.key.length z.c, .int .i64 z.e.pg, .int .i64 z.e.sl] 34))).rd Ak kl.length ck rfl) hkd.by_ HKLB.out)
            rw [decide_eq_true hkz] at HSM
            have d0 : (0 : Int) ≤ (j : Int) := by omega
            have d1 : (j : Int) < (m : Int) := by omega
            have HQA := Lib.hid (HQJ.out.alloc (.cells #[.slice z.A z.e.key.length z.c, .int .i64 z.e.pg, .int .i64 z.e.sl] 34))
            clear hz hkz hkd
            go_wp2_with fail
            refine HSM.out.mono ?_
            rintro r wh ⟨rfl, rfl⟩
            clear HSM r0 r1 r2
            go_wp2
            go_roundw
            case rel => exact ⟨j + 1, by omega, by go_num, HQA.out⟩
            case measure => simp [intOf]; omega
          · go_wp2
            go_ret
            exact ⟨by simp, onward (Below.refl _ _) (Nat.le_refl _) (HXG.out.quietly HQJ.out).tree.quiet (fun _ x => x.elim)⟩
    · have HX := HS
      clear hS
      obtain ⟨m, hm⟩ : ∃ m, keyed kl es = m := ⟨_, rfl⟩
      rw [hm]
      have HMK := Lib.hid hm
      clear hm
      have HCP := Lib.hid (copy_any Ak ck kl _ _ (HX.out.rd Ak kl.length ck rfl) (by omega))
      go_wp2_with fail
      refine HCP.out.mono ?_
      rintro r wa ⟨va, rfl, hfa⟩
      obtain ⟨Aa, ca, hva, _, _, _⟩ := own_form hfa.own
      subst hva
      have HFA := Lib.hid hfa
      have HROWA := Lib.hid (owns_kept hfa.own ((Only.refl (fun _ => False) wa).alloc (.cells #[.int .u8 0] 5)) (fun _ _ x => x))
      clear hfa HCP
      go_wp2_with (at_builtin; refine app elem_u8 rfl (.tmp 48) (.tmp 49) rfl rfl HROWA.out rfl (Rd.new wa 1 1 [.int .u8 0] 5 (fun _ => True) rfl trivial) (one_bytes [0]) (by unfold maxLen; omega) (by omega) ?_)
      intro vb wb hgb
      have hqb : Quiet (wr) wb := (HFA.out.quiet.alloc _).trans' hgb.only (fun k hk e => by have := HFA.out.new k e; omega)
      have HXB := Lib.hid (HX.out.quietly hqb)
      have elen : (kl ++ [0]).length = kl.length + 1 := by simp
      have hob : wb.ownsRow 0 5 1 vb (kl ++ [0]).length (bytesV (kl ++ [0])) := by
        rw [elen, show bytesV (kl ++ [0]) = bytesV kl ++ [.int .u8 0] by simp [bytesV]]
        exact hgb.own
      obtain ⟨Ab, cb, hvb, _, _, hrb⟩ := own_form hob
      have HSC := Lib.hid (HXB.out.tree.scan kl (kl ++ [0]) Ak Ab ck cb _ _ (HXB.out.rd Ak kl.length ck rfl) hrb HKLB.out (fun x hx => by
        rcases List.mem_append.1 hx with y | y
        · exact HKLB.out x y
        · simp at y; omega) (fun k x => (HXB.out.own.lt k x).2) (fun k x => (hob.lt k x).2) (by omega))
      rw [elen] at hvb HSC
      subst hvb
      clear hgb hqb hob hrb elen HROWA HFA HX
      go_wp2_with fail
      refine HSC.out.mono ?_
      rintro r wg ⟨vg, zs, rfl, hzs, hg⟩
      have hzm : zs.length = m := by
        have h1 := congrArg List.length hzs
        rw [scan_keyed, HMK.out] at h1
        simpa using h1
      have HKZ : Hid (∀ z ∈ zs, z.e.key = kl) := fun z hz => by
        have h1 : z.e ∈ ents zs := List.mem_map.2 ⟨z, hz, rfl⟩
        rw [hzs] at h1
        have h2 := (List.mem_filter.1 h1).2
        rw [within_key] at h2
        exact of_decide_eq_true h2
      obtain ⟨Ag, cg, hvg, hcg, hcgm, hrg⟩ := own_form hg.row
      subst hvg
      have HG := Lib.hid hg
      have HRG := Lib.hid hrg
      have HZM := Lib.hid hzm
      rw [hzm] at hcg ⊢
      have hmk40 : m ≤ 100 := by have := keyed_le kl es; have := HMK.out; omega
      have HXG := Lib.hid (HXB.out.quietly hg.quiet)
      clear hg hrg hzs hzm HSC HXB
      go_wp2_with fail
      go_loopw [54, 12] (fun c' _ wr' => ∃ j : Nat, j ≤ m ∧ c' = .int .i64 (j : Int) ∧ Quiet wg wr') (fun c' _ _ => m - (intOf c').toNat)
      case atStart => exact ⟨0, Nat.zero_le _, rfl, Only.refl _ _⟩
      case round =>
        obtain ⟨j, hj, rfl, hqj⟩ := hrel
        have HQJ := Lib.hid hqj
        clear hqj
        by_cases hjm : j < m
        · obtain ⟨z, hz⟩ : ∃ z, zs[j]? = some z := ⟨_, List.getElem?_eq_getElem (by have := HZM.out; omega)⟩
          obtain ⟨gg, off, hAg, r0, r1, r2⟩ := row_cells (HRG.out.kept HQJ.out (fun _ _ x => x)) hz
          subst hAg
          have hkz := HKZ.out z (List.mem_of_getElem? hz)
          have hkd := (HG.out.key z (List.mem_of_getElem? hz)).quietly (HQJ.out.alloc (.cells #[.slice z.A z.e.key.length z.c, .int .i64 z.e.pg, .int .i64 z.e.sl] 34))
          have HSM := Lib.hid (same_any z.A Ak z.c ck z.e.key kl _ _ _ hkd.rd ((HXG.out.quietly (HQJ.out.alloc (.cells #[.slice z.A z.e.key.length z.c, .int .i64 z.e.pg, .int .i64 z.e.sl] 34))).rd Ak kl.length ck rfl) hkd.by_ HKLB.out)
          rw [decide_eq_true hkz] at HSM
          have d0 : (0 : Int) ≤ (j : Int) := by omega
          have d1 : (j : Int) < (m : Int) := by omega
          have HQA := Lib.hid (HQJ.out.alloc (.cells #[.slice z.A z.e.key.length z.c, .int .i64 z.e.pg, .int .i64 z.e.sl] 34))
          clear hz hkz hkd
          go_wp2_with fail
          refine HSM.out.mono ?_
          rintro r wh ⟨rfl, rfl⟩
          clear HSM r0 r1 r2
          go_wp2
          go_roundw
          case rel => exact ⟨j + 1, by omega, by go_num, HQA.out⟩
          case measure => simp [intOf]; omega
        · go_wp2
          go_ret
          exact ⟨by simp, onward (Below.refl _ _) (Nat.le_refl _) (HXG.out.quietly HQJ.out).tree.quiet (fun _ x => x.elim)⟩

open Go.ChangeShapes Go.WideShapes in
set_option maxRecDepth 100000 in
theorem treeKeys_walk {H : Type} {enc : TypeId × Value → H} {r : Reach} {base : Nat} {d0 d1 : DataW H} {p0 p1 : List MemPlace} (v0 v1 : Value) (W : World)
    (o0 : Value.okWide Try.prog W r base 22 v0) (h0 : DataW.Trod enc Try.prog W 0 (fun _ => true) true 22 v0 d0 p0) (o1 : Value.okWide Try.prog W r base 23 v1) (h1 : DataW.Trod enc Try.prog W 0 (fun _ => true) true 23 v1 d1 p1) :
    Calls Try.prog 3 #[v0, v1] W fun e w' => e = .returned (.bool true) ∧ Below W.heap.size W w' := by
  obtain ⟨A, n, cap, rfl, a1, a2, a3⟩ := open_ents o0 h0
  obtain ⟨l, A1, cap1, rfl, b1, b2, b3, b4⟩ := open_bytes o1 h1
  exact treeKeys_any A n cap l A1 cap1 W a3 a1 a2 b1 b2 b3 b4

end Go.Proofs.Ytbeenpobppkhdaa
