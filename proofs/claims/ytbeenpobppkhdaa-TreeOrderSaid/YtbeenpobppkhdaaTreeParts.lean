/- TreeParts: what is gone through up to a key, and from there on, is all. For every input. -/
import Derived.Test.YtbeenpobppkhdaaTreeKeys
import Derived.Deep.QuietTactic
import Derived.BigQuiet
namespace Go.Lap

theorem cmpB_nil_r (k : List Nat) : 0 ≤ cmpB k [] := by rcases k with _ | ⟨a, k⟩ <;> simp [cmpB]

theorem within_nil (e : Ent) : within [] [] e = true := by
  unfold within
  rw [decide_eq_true (cmpB_nil_r e.key)]
  rfl

theorem scan_all (l : List Ent) : scanE [] [] l = l := by
  unfold scanE
  rw [List.filter_eq_self]
  exact fun e _ => within_nil e

theorem parts_of : ∀ {l : List Ent} {k : List Nat}, Rising l → k ≠ [] → scanE [] k l ++ scanE k [] l = l
  | [], k, _, _ => rfl
  | e :: l, k, hr, hk => by
    obtain ⟨h1, h2⟩ := List.pairwise_cons.1 hr
    have ih := parts_of h2 hk
    have w1 : ∀ x : Ent, within [] k x = decide (cmpB x.key k < 0) := fun x => by
      unfold within
      rw [decide_eq_true (cmpB_nil_r x.key), decide_eq_false hk]
      rfl
    have w2 : ∀ x : Ent, within k [] x = decide (0 ≤ cmpB x.key k) := fun x => by
      unfold within
      rw [decide_eq_true (rfl : ([] : List Nat) = [])]
      simp
    unfold scanE at ih ⊢
    by_cases h : cmpB e.key k < 0
    · rw [List.filter_cons_of_pos (by rw [w1]; exact decide_eq_true h), List.filter_cons_of_neg (by rw [w2]; simp; omega), List.cons_append, ih]
    · have hall : ∀ x ∈ e :: l, 0 ≤ cmpB x.key k := by
        intro x hx
        rcases List.mem_cons.1 hx with rfl | hx
        · omega
        · have := cmpE_key (h1 x hx)
          by_cases y : 0 ≤ cmpB x.key k
          · exact y
          · exact absurd (cmpB_le_lt this (by omega)) h
      rw [List.filter_eq_nil_iff.2 (fun x hx => by rw [w1]; have := hall x hx; simp; omega), List.filter_eq_self.2 (fun x hx => by rw [w2]; exact decide_eq_true (hall x hx))]
      rfl
end Go.Lap
namespace Go.Proofs.Ytbeenpobppkhdaa
open Go.RowKit Go.Lap

section
variable {w wr w' : World} {tb : Nat} {es : List Ent} {vk : Value} {kl : List Nat}

/-- One more entry; the blocks of Q, that are newer, stay. -/
theorem KeysW.put2 (h : KeysW w wr tb es vk kl) (e : Ent) {A : Option Addr} {c : Nat} {w2 : World} (Q S : Nat → Prop) (hq : Quiet wr w2) (hQ : ∀ k, Q k → wr.heap.size ≤ k ∧ k < w2.heap.size) (hr : Rd w2 S 1 A e.key.length (bytesV e.key)) (hby : ∀ x ∈ e.key, x < 256) (hl : e.key.length ≤ 600) (hn : es.length ≤ 10000) :
    Calls Try.prog 12 #[ptrV tb, entV e A c] w2 fun r w' => (∃ z, r = .returned (.int .i64 z)) ∧ KeysW w w' tb (putE e es) vk kl ∧ Only (fun k => ¬ Q k) w2 w' := by
  have hz := hq.size
  have ht := h.tree.fresh (J' := fun k => vk.ownBlock = some k ∨ Q k) hq (fun k x => by
    rcases x with x | x
    · exact ⟨Or.inl x, by have := h.tree.jl k x; omega⟩
    · exact ⟨Or.inr (hQ k x).1, (hQ k x).2⟩)
  refine (ht.insert e A c _ hr hby hl hn).mono ?_
  rintro r w' ⟨rfl, htn, htw⟩
  refine ⟨⟨_, rfl⟩, ⟨htw.fresh (Only.refl _ _) (fun k x => ⟨Or.inl (Or.inl x), htw.jl k (Or.inl x)⟩), owns_kept (owns_kept h.own hq (fun _ _ x => x)) htn (fun k x y => y.1 (Or.inl x)), h.new⟩, htn.mono (fun k _ x y => x.1 (Or.inr y))⟩
end

/-- Two rows of entries one behind the other, a third beside them. -/
theorem parts_join {w0 wg wh wi wk : World} {vg vh vi vk : Value} {zs ys xs : List EV} (hg : GotW w0 wg vg zs) (hh : GotW wg wh vh ys) (hi : GotW wh wi vi xs) (hk : Grew wi wk 34 3 vg vk (zs.length + ys.length) (rowV zs ++ rowV ys)) :
    RowAt wk vk (zs ++ ys) ∧ RowAt wk vi xs ∧ (∀ z ∈ zs ++ ys, Keyd wk (fun _ => True) z) ∧ (∀ x ∈ xs, Keyd wk (fun _ => True) x) ∧ Only (fun k => w0.heap.size ≤ k) wi wk := by
  have hgl : ∀ k, vg.ownBlock = some k → k < wg.heap.size := fun k e => (hg.row.lt k e).2
  have h1 := hh.quiet.size
  have h2 := hi.quiet.size
  refine ⟨?_, owns_kept hi.row hk.only (fun k e x => ?_), fun z hz => ?_, fun x hx => ?_, hk.only.mono (fun k _ e => hg.new k e)⟩
  · have := hk.own
    rw [← rowV_append, ← List.length_append] at this
    exact this
  · have := hi.new k e
    have := hgl k x
    omega
  · rcases List.mem_append.1 hz with y | y
    · exact ((((hg.key z y).quietly hh.quiet).quietly hi.quiet).kept hk.only (fun k a b => a.2.2 b)).mono (fun _ _ => trivial)
    · exact (((hh.key z y).quietly hi.quiet).kept hk.only (fun k a b => by have := hgl k b; omega)).mono (fun _ _ => trivial)
  · exact ((hi.key x hx).kept hk.only (fun k a b => by have := hgl k b; omega)).mono (fun _ _ => trivial)

set_option maxHeartbeats 4000000 in
set_option maxRecDepth 100000 in
theorem treeParts_any (A : Option Addr) (n cap : Nat) (k0 : List Nat) (A1 : Option Addr) (cap1 : Nat) (w : World) (h : EntsIn w w.heap.size A n) (hn : n ≤ cap) (hcap : cap ≤ maxLen) (hk1 : k0.length ≤ cap1) (hk2 : cap1 ≤ maxLen) (hkb : ∀ x ∈ k0, x < 256) (hkr : Rd w (· < w.heap.size) 1 A1 k0.length (bytesV k0)) :
    Calls Try.prog 5 #[.slice A n cap, .slice A1 k0.length cap1] w fun e w' => e = .returned (.bool true) ∧ Below w.heap.size w w' := by
  unfold maxLen at hcap
  have HI := Lib.hid h
  have HKB := Lib.hid hkb
  have HKR := Lib.hid hkr
  have HK12 := Lib.hid (And.intro hk1 hk2)
  clear h hkb hkr hk1 hk2
  go_enter Try.func5, Try.ntmps5
  go_wp2_with fail
  refine (awake8 _).mono ?_
  rintro e w1 ⟨rfl, hq1⟩
  have HQ1 := Lib.hid hq1
  have HCU := Lib.hid (cut_any A1 k0.length cap1 60 k0 (· < w.heap.size) w1 (HKR.out.kept hq1 (fun _ _ x => x)) rfl HK12.out.1 HK12.out.2 (by omega))
  clear hq1
  go_wp2_with fail
  refine HCU.out.mono ?_
  rintro e w2 ⟨vk, rfl, hf2⟩
  obtain ⟨kl, hkl⟩ : ∃ kl, k0.take 60 = kl := ⟨_, rfl⟩
  rw [hkl] at hf2
  have hkl4 : kl.length ≤ 60 := by rw [← hkl, List.length_take]; omega
  have HKLB : Hid (∀ x ∈ kl, x < 256) := fun x hx => HKB.out x (by rw [← hkl] at hx; exact List.mem_of_mem_take hx)
  obtain ⟨Ak, ck, hvk, _, _, _⟩ := own_form hf2.own
  subst hvk
  have HROWA := Lib.hid (owns_kept hf2.own ((Only.refl (fun _ => False) w2).alloc (.cells #[.int .u8 1] 5)) (fun _ _ x => x))
  have HF2 := Lib.hid hf2
  clear hf2 hkl HCU HKR HKB HK12
  go_wp2_with (at_builtin; refine app elem_u8 rfl (.tmp 16) (.tmp 17) rfl rfl HROWA.out rfl (Rd.new w2 1 1 [.int .u8 1] 5 (fun _ => True) rfl trivial) (one_bytes [1]) (by unfold maxLen; omega) (by omega) ?_)
  intro vb wb hgb
  have hqb : Quiet w wb := ((HQ1.out.trans HF2.out.quiet).alloc _).trans' hgb.only (fun k hk e => by have := HF2.out.new k e; have := HQ1.out.size; omega)
  have elen : (kl ++ [1]).length = kl.length + 1 := by simp
  have hob : wb.ownsRow 0 5 1 vb (kl ++ [1]).length (bytesV (kl ++ [1])) := by
    rw [elen, show bytesV (kl ++ [1]) = bytesV kl ++ [.int .u8 1] by simp [bytesV]]
    exact hgb.own
  have hnb : ∀ k, vb.ownBlock = some k → w.heap.size ≤ k := fun k e => by
    have h1 := HQ1.out.size
    have h2 := HF2.out.quiet.size
    rcases hgb.loc with x | x
    · rw [x] at e; have := HF2.out.new k e; omega
    · rw [x] at e; injection e with e; rw [World.size_alloc] at e; omega
  obtain ⟨al, hal⟩ : ∃ al, kl ++ [1] = al := ⟨_, rfl⟩
  have halb : ∀ x ∈ al, x < 256 := by
    rw [← hal]
    intro x hx
    rcases List.mem_append.1 hx with y | y
    · exact HKLB.out x y
    · simp at y; omega
  have haln : al ≠ [] := by rw [← hal]; simp
  have hal1 : al.length ≤ 61 := by rw [← hal, elen]; omega
  rw [hal] at hob
  obtain ⟨Ab, cb, hvb, _, _, _⟩ := own_form hob
  subst hvb
  have HOB := Lib.hid hob
  have HQB := Lib.hid hqb
  have HNB := Lib.hid hnb
  have HALB := Lib.hid halb
  have HALN := Lib.hid haln
  clear hgb hqb hob hnb halb haln elen hal HROWA HF2 HKLB HQ1 hkl4
  go_wp2_with fail
  refine (new_any wb).mono ?_
  rintro e w3 ⟨rfl, hq3, h30, h31⟩
  have HS3 : Hid (KeysW w w3 (wb.heap.size + 1) [] (.slice Ab al.length cb) al) :=
    ⟨TreeW.start HQB.out hq3 h30 h31 (fun k x => (HOB.out.lt k x).2), owns_kept HOB.out hq3 (fun _ _ x => x), HNB.out⟩
  clear hq3 h30 h31 HOB HQB HNB
  generalize wb.heap.size + 1 = tb at HS3 ⊢
  go_wp2_with fail
  go_loopw [22, 6, 7] (fun c _ _ wr => ∃ (i : Nat) (es : List Ent), i ≤ n ∧ c = .int .i64 (i : Int) ∧ es.length ≤ i ∧ es.length ≤ 100 ∧ KeysW w wr tb es (.slice Ab al.length cb) al) (fun c _ _ _ => n - (intOf c).toNat)
  case atStart => exact ⟨0, [], Nat.zero_le _, rfl, Nat.le_refl _, Nat.zero_le _, HS3.out⟩
  case round =>
    obtain ⟨i, es, hi, rfl, hel, hel1, hS⟩ := hrel
    clear HS3
    have HS := Lib.hid hS
    by_cases hlt : i < n
    · obtain ⟨b, off, key, pg, sl, A', cap', rfl, hb', hkc, hkm, hkb, hkr, _, c0, c1, c2⟩ := HI.out.kept (onward (Below.refl _ _) (Nat.le_refl _) hS.tree.quiet (fun _ x => x.elim)) i hlt
      clear hS
      by_cases h100 : i < 100
      · have hqa : Quiet wr (wr.alloc (.cells #[.slice A' key.length cap', .int .i64 pg, .int .i64 sl] 31)) := (Only.refl (fun _ => False) wr).alloc _
        have HBX := Lib.hid (alloc_new wr (.cells #[.slice A' key.length cap', .int .i64 pg, .int .i64 sl] 31))
        obtain ⟨x0, x1, x2⟩ := ent_cells HBX.out
        have HQA := Lib.hid hqa
        have HCU : Hid (∀ W, Quiet wr W → Calls Try.prog 10 #[.slice A' key.length cap', .int .i64 100] W (FreshPost W (key.take 100))) := fun W hW => cut_any A' key.length cap' 100 key (· < w.heap.size) _ (hkr.kept hW (fun _ _ x => x)) rfl hkc hkm (by omega)
        have HKY : Hid (∀ x ∈ key, x < 256) := hkb
        clear hkb hkr hkc hkm hqa
        go_wp2_with fail
        go_region_held3 (fun w' => w'.cell? ⟨wr.heap.size, 0, none⟩ = some (.slice A' key.length cap') ∧ w'.cell? ⟨wr.heap.size, 1, none⟩ = some (.int .i64 pg) ∧ w'.cell? ⟨wr.heap.size, 2, none⟩ = some (.int .i64 sl))
          (first | go_keep | exact ⟨z0, z1, z2⟩ | exact ⟨y0, y1, y2⟩ | fail)
          (first
            | (go_at_call 10; go_must (refine (HCU.out _ HQA.out.drew).mono ?_; rintro e w5 ⟨v5, rfl, hf5⟩; obtain ⟨k5, hk5⟩ : ∃ k5, key.take 100 = k5 := ⟨_, rfl⟩; rw [hk5] at hf5; have hk5l : k5.length ≤ 100 := (by rw [← hk5, List.length_take]; omega); have HK5B : Hid (∀ x ∈ k5, x < 256) := (fun x hx => HKY.out x (by rw [← hk5] at hx; exact List.mem_of_mem_take hx)); obtain ⟨A5, c5, hv5, _, _, hr5⟩ := own_form hf5.own; subst hv5; have HQ5 := Lib.hid (HQA.out.drew.trans hf5.quiet); have y0 := hf5.quiet.cell x0 (fun x => x); have y1 := hf5.quiet.cell x1 (fun x => x); have y2 := hf5.quiet.cell x2 (fun x => x); have HPUT := Lib.hid (HS.out.put2 ⟨k5, pg, sl⟩ (A := A5) (c := c5) (fun k => k = wr.heap.size) _ HQ5.out (fun k e => ⟨by omega, by have := cell_lt y0; simp only at this; omega⟩) hr5 HK5B.out (by show k5.length ≤ 600; omega) (by omega)); clear hf5 hr5 hk5))
            | (go_at_call 12; go_must (refine HPUT.out.mono ?_; rintro e w6 ⟨⟨z6, rfl⟩, hs6, ho6⟩; have HS6 := Lib.hid hs6; have z0 := ho6.cell y0 (fun x => x rfl); have z1 := ho6.cell y1 (fun x => x rfl); have z2 := ho6.cell y2 (fun x => x rfl); clear hs6 ho6))
            | fail)
        have hpl := putE_length ⟨k5, pg, sl⟩ es
        clear HPUT y0 y1 y2 z0 z1 z2 x0 x1 x2 c0 c1 c2 HCU HBX HQA HQ5 HS
        go_wp2
        go_roundw
        case rel => exact ⟨i + 1, _, by omega, by go_num, by omega, by omega, HS6.out⟩
        case measure => simp [intOf]; omega
      · clear hkb hkr hkc hkm
        have HX := Lib.hid (HS.out.quietly ((Only.refl (fun _ => False) wr).alloc (.cells #[.slice A' key.length cap', .int .i64 pg, .int .i64 sl] 31)))
        go_wp2
        go_roundw
        case rel => exact ⟨i + 1, es, by omega, by go_num, by omega, hel1, HX.out⟩
        case measure => simp [intOf]; omega
    · clear hS
      have HRI := Lib.hid HS.out.tree.rising
      have HSA := Lib.hid (HS.out.tree.scan [] al none Ab 0 cb (fun _ => False) _ (Rd.nil _ _ _ _) (HS.out.rd Ab al.length cb rfl) (by simp) HALB.out (fun _ x => x.elim) (fun k x => (HS.out.own.lt k x).2) (by omega))
      go_wp2_with fail
      refine HSA.out.mono ?_
      rintro r wg ⟨vg, zs, rfl, hzs, hg⟩
      have HG := Lib.hid hg
      have HSG := Lib.hid (HS.out.quietly hg.quiet)
      have HZS := Lib.hid hzs
      have HSB := Lib.hid (HSG.out.tree.scan al [] Ab none cb 0 _ (fun _ => False) (HSG.out.rd Ab al.length cb rfl) (Rd.nil _ _ _ _) HALB.out (by simp) (fun k x => (HSG.out.own.lt k x).2) (fun _ x => x.elim) (by omega))
      clear hg hzs HSA
      go_wp2_with fail
      refine HSB.out.mono ?_
      rintro r wh ⟨vh, ys, rfl, hys, hh⟩
      have HH := Lib.hid hh
      have HSH := Lib.hid (HSG.out.quietly hh.quiet)
      have HYS := Lib.hid hys
      have HSC := Lib.hid (HSH.out.tree.scan [] [] none none 0 0 (fun _ => False) (fun _ => False) (Rd.nil _ _ _ _) (Rd.nil _ _ _ _) (by simp) (by simp) (fun _ x => x.elim) (fun _ x => x.elim) (by omega))
      clear hh hys HSB HSG
      go_wp2_with fail
      refine HSC.out.mono ?_
      rintro r wi ⟨vi, xs, rfl, hxs, hii⟩
      rw [scan_all] at hxs
      have hall : ents (zs ++ ys) = ents xs := by rw [ents_append, HZS.out, HYS.out, hxs, parts_of HRI.out HALN.out]
      have HALL := Lib.hid hall
      have hlx : xs.length = es.length := by have := congrArg List.length hxs; simpa using this
      have hlz : zs.length + ys.length = xs.length := by have := congrArg List.length hall; simpa using this
      have HII := Lib.hid hii
      have HSI := Lib.hid (HSH.out.quietly hii.quiet)
      obtain ⟨Ag, cg, hvg, hcg, hcgm, hrg⟩ := own_form HG.out.row
      obtain ⟨Ah, ch, hvh, hch, hchm, hrh⟩ := own_form HH.out.row
      obtain ⟨Ai, ci, hvi, hci, hcim, hri⟩ := own_form hii.row
      have HLEN := Lib.hid HSI.out.tree.len
      subst hvg hvh hvi
      obtain ⟨lz, hlz0⟩ : ∃ m, zs.length = m := ⟨_, rfl⟩
      obtain ⟨ly, hly0⟩ : ∃ m, ys.length = m := ⟨_, rfl⟩
      obtain ⟨lx, hlx0⟩ : ∃ m, xs.length = m := ⟨_, rfl⟩
      obtain ⟨le, hle0⟩ : ∃ m, es.length = m := ⟨_, rfl⟩
      rw [hle0] at HLEN
      rw [hlz0, hly0, hlx0]
      have hgr : wi.ownsRow 0 34 3 (.slice Ag lz cg) lz (rowV zs) := by rw [← hlz0]; exact owns_kept (owns_kept HG.out.row HH.out.quiet (fun _ _ x => x)) hii.quiet (fun _ _ x => x)
      have hhr : Rd wi (fun k => (Value.slice Ah ly ch).ownBlock = some k) 3 Ah ly (rowV ys) := by rw [← hly0]; exact hrh.kept hii.quiet (fun _ _ x => x)
      have HGR := Lib.hid hgr
      have HHR := Lib.hid hhr
      have HL0 := Lib.hid (And.intro hlz0 (And.intro hly0 (And.intro hlx0 hle0)))
      have e1 : (lz : Int) + (ly : Int) = (lx : Int) := by omega
      have e2 : lx = le := by omega
      have hle1 : le ≤ 100 := by omega
      have hly1 : ly ≤ 100 := by omega
      have hlz1 : lz ≤ 100 := by omega
      rw [hlz0] at hcg
      rw [hly0] at hch
      rw [hlx0] at hci
      subst e2
      clear hii hxs hall hlx hlz hrg hrh hri hgr hhr HSC hlz0 hly0 hlx0 hle0 hel hel1 HSH
      go_wp2_with fail
      refine HLEN.out.mono ?_
      rintro r wj ⟨rfl, rfl⟩
      clear HLEN e1
      go_wp2_with (at_builtin; refine app elem_ent rfl (.tmp 61) (.tmp 62) rfl rfl HGR.out rfl HHR.out (one_row ys) (by unfold maxLen; omega) (by omega) ?_)
      intro vk wk hgk
      obtain ⟨g1, g2, g3, g4, g5⟩ := parts_join HG.out HH.out HII.out (vk := vk) (wk := wk) (by rw [HL0.out.1, HL0.out.2.1]; exact hgk)
      obtain ⟨Ak, ck, hvk, hck, hckm, hrk⟩ := own_form g1
      obtain ⟨Ai', ci', hvi', _, _, hri⟩ := own_form g2
      injection hvi' with e3 _ _
      subst e3
      have hlen : (zs ++ ys).length = lx := by have := congrArg List.length HALL.out; rw [← HL0.out.2.2.1]; simpa using this
      rw [hlen] at hvk hck
      have hsum : lz + ly = lx := by rw [← hlen, List.length_append, HL0.out.1, HL0.out.2.1]
      subst hvk
      have HRK := Lib.hid hrk
      have HRI2 := Lib.hid hri
      have HK3 := Lib.hid g3
      have HK4 := Lib.hid g4
      have HLEN := Lib.hid hlen
      have HQK : Hid (Quiet w wk) := HSI.out.tree.quiet.trans' g5 (fun k hk x => by have := HS.out.tree.quiet.size; omega)
      clear hgk g1 g2 g3 g4 g5 hrk hri hlen hsum HGR HHR HSI HG HH HII HS HZS HYS HRI
      go_wp2_with fail
      go_loopw [65, 11, 12] (fun c' _ _ wr' => ∃ j : Nat, j ≤ lx ∧ c' = .int .i64 (j : Int) ∧ Quiet wk wr') (fun c' _ _ _ => lx - (intOf c').toNat)
      case atStart => exact ⟨0, Nat.zero_le _, rfl, Only.refl _ _⟩
      case round =>
        obtain ⟨j, hj, rfl, hqj⟩ := hrel
        have HQJ := Lib.hid hqj
        clear hqj
        by_cases hjm : j < lx
        · obtain ⟨z, hz⟩ : ∃ z, (zs ++ ys)[j]? = some z := ⟨_, List.getElem?_eq_getElem (by have := HLEN.out; omega)⟩
          obtain ⟨y, hy⟩ : ∃ y, xs[j]? = some y := ⟨_, List.getElem?_eq_getElem (by have := HL0.out.2.2.1; omega)⟩
          have hzy : z.e = y.e := by
            have := congrArg (fun l => l[j]?) HALL.out
            simp only [ents, List.getElem?_map, hz, hy, Option.map_some, Option.some.injEq] at this
            exact this
          obtain ⟨gg, off, hAg, r0, r1, r2⟩ := row_cells (HRK.out.kept HQJ.out (fun _ _ x => x)) hz
          subst hAg
          obtain ⟨gi, ofi, hAi, s0, s1, s2⟩ := row_cells (HRI2.out.kept (HQJ.out.alloc (.cells #[.slice z.A z.e.key.length z.c, .int .i64 z.e.pg, .int .i64 z.e.sl] 34)) (fun _ _ x => x)) hy
          subst hAi
          rw [← hzy] at s0 s1 s2
          have HQA := Lib.hid (HQJ.out.alloc (.cells #[.slice z.A z.e.key.length z.c, .int .i64 z.e.pg, .int .i64 z.e.sl] 34))
          have hk1 := (HK3.out z (List.mem_of_getElem? hz)).quietly HQA.out
          have hk2 := (HK4.out y (List.mem_of_getElem? hy)).quietly HQA.out
          rw [show y = ⟨z.e, y.A, y.c⟩ by rw [hzy]] at hk2
          obtain ⟨x0, x1, x2⟩ := ent_cells (alloc_new wr (.cells #[.slice z.A z.e.key.length z.c, .int .i64 z.e.pg, .int .i64 z.e.sl] 34))
          have HSM : Hid (∀ m, Calls Try.prog 13 #[.slice z.A z.e.key.length z.c, .slice y.A z.e.key.length y.c] ((wr.alloc (.cells #[.slice z.A z.e.key.length z.c, .int .i64 z.e.pg, .int .i64 z.e.sl] 34)).drewN m) fun e w' => e = .returned (.bool true) ∧ (wr.alloc (.cells #[.slice z.A z.e.key.length z.c, .int .i64 z.e.pg, .int .i64 z.e.sl] 34)).drewN m = w') := fun m => by
            have := same_any z.A y.A z.c y.c z.e.key z.e.key _ _ _ (hk1.quietly ((Only.refl (fun _ => False) _).drewN m)).rd (hk2.quietly ((Only.refl (fun _ => False) _).drewN m)).rd hk1.by_ hk1.by_
            rw [decide_eq_true rfl] at this
            exact this
          have d0 : (0 : Int) ≤ (j : Int) := by omega
          have d1 : (j : Int) < (lx : Int) := by omega
          clear hz hy hzy hk1 hk2
          go_wp2_with fail
          go_quiet ((go_at_call 13; exact quiet_left (HSM.out _)))
          go_wp2
          go_roundw
          case rel => exact ⟨j + 1, by omega, by go_num, HQA.out.drewN _⟩
          case measure => simp [intOf]; omega
        · go_wp2
          go_ret
          exact ⟨by simp, onward (Below.refl _ _) (Nat.le_refl _) (HQK.out.trans HQJ.out) (fun _ x => x.elim)⟩

open Go.ChangeShapes Go.WideShapes in
set_option maxRecDepth 100000 in
theorem treeParts_walk {H : Type} {enc : TypeId × Value → H} {r : Reach} {base : Nat} {d0 d1 : DataW H} {p0 p1 : List MemPlace} (v0 v1 : Value) (W : World)
    (o0 : Value.okWide Try.prog W r base 22 v0) (h0 : DataW.Trod enc Try.prog W 0 (fun _ => true) true 22 v0 d0 p0) (o1 : Value.okWide Try.prog W r base 23 v1) (h1 : DataW.Trod enc Try.prog W 0 (fun _ => true) true 23 v1 d1 p1) :
    Calls Try.prog 5 #[v0, v1] W fun e w' => e = .returned (.bool true) ∧ Below W.heap.size W w' := by
  obtain ⟨A, n, cap, rfl, a1, a2, a3⟩ := open_ents o0 h0
  obtain ⟨l, A1, cap1, rfl, b1, b2, b3, b4⟩ := open_bytes o1 h1
  exact treeParts_any A n cap l A1 cap1 W a3 a1 a2 b1 b2 b3 b4

end Go.Proofs.Ytbeenpobppkhdaa
