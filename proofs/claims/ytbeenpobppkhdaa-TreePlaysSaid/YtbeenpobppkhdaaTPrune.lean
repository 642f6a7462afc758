/- The contract of the tree's Prune. No condition. -/
import Derived.Test.YtbeenpobppkhdaaTDel
import Derived.Test.YtbeenpobppkhdaaSeen
namespace Go.Lap
/-- The cells of a row of places. -/
def tidsV (ps : List (Int × Int)) : List Value := ps.flatMap (fun p => [.int .i64 p.1, .int .i64 p.2])

theorem tidsV_cons (p : Int × Int) (ps : List (Int × Int)) : tidsV (p :: ps) = .int .i64 p.1 :: .int .i64 p.2 :: tidsV ps := rfl

theorem tidsV_length (ps : List (Int × Int)) : (tidsV ps).length = ps.length * 2 := by
  induction ps with
  | nil => rfl
  | cons p ps ih => rw [tidsV_cons]; simp only [List.length_cons, ih]; omega

theorem tidsV_get {ps : List (Int × Int)} {j : Nat} {p : Int × Int} (h : ps[j]? = some p) : (tidsV ps)[j * 2]? = some (.int .i64 p.1) ∧ (tidsV ps)[j * 2 + 1]? = some (.int .i64 p.2) := by
  induction ps generalizing j with
  | nil => simp at h
  | cons q ps ih =>
    rcases j with _ | j
    · simp at h
      subst h
      exact ⟨rfl, rfl⟩
    · obtain ⟨h1, h2⟩ := ih (j := j) (by simpa using h)
      rw [tidsV_cons, show (j + 1) * 2 = j * 2 + 1 + 1 by omega, List.getElem?_cons_succ, List.getElem?_cons_succ, List.getElem?_cons_succ, List.getElem?_cons_succ]
      exact ⟨h1, h2⟩

/-- The cells of a place of a row that reads. -/
theorem tid_cells {w : World} {S : Nat → Prop} {A : Option Addr} {n i : Nat} {ps : List (Int × Int)} {p : Int × Int} (h : Rd w S 2 A n (tidsV ps)) (hi : ps[i]? = some p) :
    ∃ b off, A = some ⟨b, off, none⟩ ∧ S b ∧ w.cell? ⟨b, off + i * 2, none⟩ = some (.int .i64 p.1) ∧ w.cell? ⟨b, off + i * 2 + 1, none⟩ = some (.int .i64 p.2) := by
  obtain ⟨h1, h2⟩ := tidsV_get hi
  have hl := (List.getElem?_eq_some_iff.1 h1).1
  obtain ⟨b, off, e, hs, hc⟩ := h.cells (by omega)
  exact ⟨b, off, e, hs, hc _ _ h1, by have := hc _ _ h2; rw [← Nat.add_assoc] at this; exact this⟩

/-- Is an entry at one of these places? -/
def isIn (ps : List (Int × Int)) (x : Ent) : Bool := decide ((x.pg, x.sl) ∈ ps)

/-- Without the entries of these places. -/
def prunE (ps : List (Int × Int)) (es : List Ent) : List Ent := es.filter (fun x => !isIn ps x)
def prunX (ps : List (Int × Int)) (xs : List EV) : List EV := xs.filter (fun x => !isIn ps x.e)

theorem ents_prunX (ps : List (Int × Int)) (xs : List EV) : ents (prunX ps xs) = prunE ps (ents xs) := by
  unfold ents prunE prunX
  rw [List.filter_map]
  rfl

theorem prunX_len (ps : List (Int × Int)) (xs : List EV) : (prunX ps xs).length ≤ xs.length := List.length_filter_le _ _
theorem prunE_len (ps : List (Int × Int)) (es : List Ent) : (prunE ps es).length ≤ es.length := List.length_filter_le _ _

theorem prunX_in {ps : List (Int × Int)} {x : EV} (xs : List EV) (h : isIn ps x.e = true) : prunX ps (xs ++ [x]) = prunX ps xs := by
  unfold prunX
  rw [List.filter_append, List.filter_cons_of_neg (by simp [h])]
  simp

theorem prunX_out {ps : List (Int × Int)} {x : EV} (xs : List EV) (h : isIn ps x.e = false) : prunX ps (xs ++ [x]) = prunX ps xs ++ [x] := by
  unfold prunX
  rw [List.filter_append, List.filter_cons_of_pos (by simp [h])]
  rfl

theorem prunX_same {ps : List (Int × Int)} {xs : List EV} (h : xs.length ≤ (prunX ps xs).length) : prunX ps xs = xs := by
  unfold prunX at h ⊢
  rw [List.filter_eq_self]
  rw [← List.length_filter_eq_length_iff]
  exact Nat.le_antisymm (List.length_filter_le _ _) h

theorem Rising.prune {es : List Ent} (h : Rising es) (ps : List (Int × Int)) : Rising (prunE ps es) := List.Pairwise.filter _ h

theorem mem_prunX {ps : List (Int × Int)} {xs : List EV} {x : EV} (h : x ∈ prunX ps xs) : x ∈ xs := (List.mem_filter.1 h).1
end Go.Lap
namespace Go.Proofs.Ytbeenpobppkhdaa
open Go.RowKit Go.Lap

/-- What stays, on its way. -/
structure StayW (w2 wr : World) (v : Value) (ys : List EV) : Prop where
  quiet : Quiet w2 wr
  row : RowAt wr v ys
  new : ∀ k, v.ownBlock = some k → w2.heap.size ≤ k

theorem StayW.quietly {w2 wr w' : World} {v : Value} {ys : List EV} (h : StayW w2 wr v ys) (hq : Quiet wr w') : StayW w2 w' v ys := ⟨h.quiet.trans hq, owns_kept h.row hq (fun _ _ x => x), h.new⟩

theorem StayW.push {w2 wr wa w5 : World} {v v5 : Value} {ys : List EV} {x : EV} {m : Nat} (h : StayW w2 wr v ys) (hm : ys.length = m) (hq : Quiet wr wa) (hg : Grew wa w5 34 3 v v5 (m + 1) (rowV ys ++ x.cells)) : StayW w2 w5 v5 (ys ++ [x]) := by
  have h1 := h.quiet.size
  have h2 := hq.size
  refine ⟨(h.quiet.trans hq).trans' hg.only (fun k hk e => by have := h.new k e; omega), ?_, fun k e => ?_⟩
  · unfold RowAt
    rw [rowV_append, rowV_one, List.length_append, hm]
    exact hg.own
  · rcases hg.loc with y | y
    · rw [y] at e; exact h.new k e
    · rw [y] at e; injection e with e; omega

def prunePostT (w : World) (D : Nat → Prop) (tb : Nat) (es : List Ent) (ps : List (Int × Int)) (r : Ending) (w' : World) : Prop :=
  r = .returned (.int .i64 ((es.length : Int) - ((prunE ps es).length : Int))) ∧ Only D w w' ∧ TreeIs w' (fun k => D k ∨ w.heap.size ≤ k) tb (prunE ps es)

set_option maxHeartbeats 4000000 in
set_option maxRecDepth 100000 in
theorem tree_prune (w : World) (D : Nat → Prop) (tb : Nat) (es : List Ent) (ps : List (Int × Int)) (A : Option Addr) (m c : Nat) (S : Nat → Prop) (ht : TreeIs w D tb es) (hr : Rd w S 2 A m (tidsV ps)) (hpl : ps.length = m) (hwp : ∀ p ∈ ps, Wf p) (hwe : ∀ e ∈ es, Wf (e.pg, e.sl)) (hm : m ≤ 10000) (hn : es.length ≤ 10000) :
    Calls Try.prog 19 #[ptrV tb, .slice A m c] w (prunePostT w D tb es ps) := by
  obtain ⟨rb, h, F, K, xs, hmid, hes, hris⟩ := ht
  subst hes
  have hxl : xs.length ≤ 10000 := by simpa using hn
  have HMID := Lib.hid hmid
  have HRIS := Lib.hid hris
  have HR := Lib.hid hr
  have HPL := Lib.hid hpl
  have HWP := Lib.hid hwp
  have HWE : Hid (∀ x ∈ xs, Wf (x.e.pg, x.e.sl)) := fun x hx => hwe x.e (List.mem_map.2 ⟨x, hx, rfl⟩)
  have hex : (ents xs).length = xs.length := by simp
  have HS0 : Hid (SeenAt (w.alloc (.map #[] 0)) w.heap.size []) := seen_made w
  have HQ0 : Hid (Quiet w (w.alloc (.map #[] 0))) := (Only.refl _ _).alloc _
  obtain ⟨POST, hPOST⟩ : ∃ POST, prunePostT w D tb (ents xs) ps = POST := ⟨_, rfl⟩
  rw [hPOST]
  have HPOST := Lib.hid hPOST
  have HEX := Lib.hid hex
  have hmm := @run_makeMap Try.prog
  clear hmid hris hr hpl hwp hwe hPOST hn hex
  go_enter Try.func19, Try.ntmps19
  go_wp2_with fail
  go_loopw [17, 7] (fun ci _ wr => ∃ i : Nat, i ≤ m ∧ ci = .int .i64 (i : Int) ∧ Quiet w wr ∧ SeenAt wr w.heap.size (ps.take i)) (fun ci _ _ => m - (intOf ci).toNat)
  case atStart => exact ⟨0, Nat.zero_le _, rfl, HQ0.out, HS0.out⟩
  case round =>
    obtain ⟨i, hi, rfl, hq, hs⟩ := hrel
    clear HS0 HQ0
    have HQ := Lib.hid hq
    have HS := Lib.hid hs
    clear hq hs
    by_cases hlt : i < m
    · obtain ⟨p, hp⟩ : ∃ p, ps[i]? = some p := ⟨_, List.getElem?_eq_getElem (by have := HPL.out; omega)⟩
      obtain ⟨b, off, rfl, _, c0, c1⟩ := tid_cells (HR.out.kept HQ.out (fun _ _ x => x)) hp
      have HP := Lib.hid hp
      have HWF := Lib.hid (HWP.out p (List.mem_of_getElem? hp))
      have HSA := Lib.hid (HS.out.kept ((Only.refl (fun _ => False) wr).alloc (.cells #[.int .i64 p.1, .int .i64 p.2] 29)) (fun x => x))
      have HPT : Hid (ps.take i ++ [p] = ps.take (i + 1)) := (take_succ_get hp).symm
      have hpl : (ps.take i).length < maxLen := by unfold maxLen; rw [List.length_take]; omega
      have HLL := Lib.hid hpl
      have d0 : (0 : Int) ≤ (i : Int) := by omega
      have d1 : (i : Int) < (m : Int) := by omega
      clear hp hpl
      go_wp2_with (first | (at_mapUpdate; refine seen_put rfl _ _ _ rfl rfl rfl rfl HSA.out HWF.out HLL.out ?_) | fail)
      intro w3 hs3 ho3
      have HQ3 : Hid (Quiet w w3) := (HQ.out.alloc _).trans' ho3 (fun k hk e => by omega)
      rw [HPT.out] at hs3
      have HS3 := Lib.hid hs3
      clear hs3 ho3 c0 c1 HSA HS HPT
      go_wp2
      go_roundw
      case rel => exact ⟨i + 1, by omega, by go_num, HQ3.out, HS3.out⟩
      case measure => simp [intOf]; omega
    · have hsl : ps.take i = ps := List.take_of_length_le (by have := HPL.out; omega)
      have HSE : Hid (SeenAt wr w.heap.size ps) := by have := HS.out; rw [hsl] at this; exact this
      have HM1 := Lib.hid (HMID.out.quietly HQ.out)
      obtain ⟨c0, c1, cf⟩ := HM1.out.cells
      have HALL := Lib.hid (all_ih K h F _ rb xs [] (.slice none 0 0) HM1.out.node (fun k x => ⟨by
        rcases x with x | x
        · exact (HM1.out.subF k x).2.2
        · exact (HM1.out.subK k x).2.2.2, fun z => by cases z⟩) (World.ownsRow_nil _ _ _ _) (by simp; omega))
      clear hsl HS
      go_wp2_with fail
      refine HALL.out.mono ?_
      rintro r w2 ⟨v2, rfl, ho2⟩
      have hq2 : Quiet wr w2 := ho2.only.mono (fun k _ e => by cases e)
      have hrow2 := ho2.row
      rw [List.nil_append] at hrow2
      obtain ⟨n, hnn⟩ : ∃ n, xs.length = n := ⟨_, rfl⟩
      have HN := Lib.hid hnn
      obtain ⟨A2, c2, hv2, hc2, hcm2, hr2⟩ := own_form hrow2
      rw [hnn] at hv2 hc2 hxl
      have HR2 := Lib.hid hr2
      have HM2 := Lib.hid (HM1.out.quietly hq2)
      have HSE2 := Lib.hid (HSE.out.kept hq2 (fun x => x))
      have HKEY := Lib.hid HM2.out.node.key
      subst hv2
      clear ho2 hq2 hrow2 hr2 hnn HALL HM1 HSE c0 c1 cf HMID
      go_wp2_with fail
      go_loopw [30, 8, 10] (fun ci cv _ wr => ∃ (j : Nat) (v' : Value), j ≤ n ∧ ci = .int .i64 (j : Int) ∧ v' = cv ∧ StayW w2 wr v' (prunX ps (xs.take j))) (fun ci _ _ _ => n - (intOf ci).toNat)
      case atStart => exact ⟨0, _, Nat.zero_le _, rfl, rfl, Only.refl _ _, World.ownsRow_nil _ _ _ _, fun k e => by cases e⟩
      case round =>
        obtain ⟨j, v', hj, rfl, rfl, hW⟩ := hrel
        have HW := Lib.hid hW
        obtain ⟨Av, cv', hvv, _, _, _⟩ := own_form hW.row
        obtain ⟨q, hq⟩ : ∃ q, (prunX ps (xs.take j)).length = q := ⟨_, rfl⟩
        have hqn : q ≤ j := by have := prunX_len ps (xs.take j); rw [List.length_take] at this; omega
        have HQL := Lib.hid hq
        rw [hq] at hvv
        subst hvv
        clear hW hq
        by_cases hjn : j < n
        · obtain ⟨x, hx⟩ : ∃ x, xs[j]? = some x := ⟨_, List.getElem?_eq_getElem (by have := HN.out; omega)⟩
          obtain ⟨b, off, rfl, r0, r1, r2⟩ := row_cells (HR2.out.kept HW.out.quiet (fun _ _ x => x)) hx
          have HWA := Lib.hid (HW.out.quietly ((Only.refl (fun _ => False) wr).alloc (.cells #[.slice x.A x.e.key.length x.c, .int .i64 x.e.pg, .int .i64 x.e.sl] 34)))
          have HSE3 := Lib.hid (HSE2.out.kept HWA.out.quiet (fun x => x))
          have HWF := Lib.hid (HWE.out x (List.mem_of_getElem? hx))
          have HTS := Lib.hid (take_succ_get hx)
          obtain ⟨x0, x1, x2⟩ := ent_cells (alloc_new wr (.cells #[.slice x.A x.e.key.length x.c, .int .i64 x.e.pg, .int .i64 x.e.sl] 34))
          have d0 : (0 : Int) ≤ (j : Int) := by omega
          have d1 : (j : Int) < (n : Int) := by omega
          clear hx
          by_cases hin : isIn ps x.e = true
          · have HP : Hid (prunX ps (xs.take (j + 1)) = prunX ps (xs.take j)) := by
              show prunX ps (xs.take (j + 1)) = prunX ps (xs.take j)
              rw [HTS.out, prunX_in _ hin]
            have hin' : decide ((x.e.pg, x.e.sl) ∈ ps) = true := hin
            have HIN := Lib.hid hin'
            clear hin hin'
            go_wp2_with (first | (at_lookup; refine seen_look rfl _ _ rfl rfl rfl HSE3.out HWF.out HIN.out ?_) | fail)
            go_wp2
            go_roundw
            case rel => exact ⟨j + 1, _, by omega, by go_num, rfl, by rw [HP.out]; exact HWA.out⟩
            case measure => simp [intOf]; omega
          · have hin0 : isIn ps x.e = false := by simpa using hin
            have HP : Hid (prunX ps (xs.take (j + 1)) = prunX ps (xs.take j) ++ [x]) := by
              show prunX ps (xs.take (j + 1)) = prunX ps (xs.take j) ++ [x]
              rw [HTS.out, prunX_out _ hin0]
            have hin' : decide ((x.e.pg, x.e.sl) ∈ ps) = false := hin0
            have HIN := Lib.hid hin'
            have HROW : Hid (((wr.alloc (.cells #[.slice x.A x.e.key.length x.c, .int .i64 x.e.pg, .int .i64 x.e.sl] 34)).alloc (.cells #[.slice x.A x.e.key.length x.c, .int .i64 x.e.pg, .int .i64 x.e.sl] 34)).ownsRow 0 34 3 (.slice Av q cv') q (rowV (prunX ps (xs.take j)))) := by
              have := owns_kept HWA.out.row ((Only.refl (fun _ => False) _).alloc (.cells #[.slice x.A x.e.key.length x.c, .int .i64 x.e.pg, .int .i64 x.e.sl] 34)) (fun _ _ x => x)
              rw [HQL.out] at this
              exact this
            have HQ4 := Lib.hid ((Only.refl (fun _ => False) (wr.alloc (.cells #[.slice x.A x.e.key.length x.c, .int .i64 x.e.pg, .int .i64 x.e.sl] 34))).alloc (.cells #[.slice x.A x.e.key.length x.c, .int .i64 x.e.pg, .int .i64 x.e.sl] 34))
            have HRN : Hid (Rd ((wr.alloc (.cells #[.slice x.A x.e.key.length x.c, .int .i64 x.e.pg, .int .i64 x.e.sl] 34)).alloc (.cells #[.slice x.A x.e.key.length x.c, .int .i64 x.e.pg, .int .i64 x.e.sl] 34)) (fun _ => True) 3 (some ⟨wr.heap.size + 1, 0, none⟩) 1 x.cells) := by
              have := Rd.new (wr.alloc (.cells #[.slice x.A x.e.key.length x.c, .int .i64 x.e.pg, .int .i64 x.e.sl] 34)) 3 1 x.cells 34 (fun _ => True) rfl trivial
              rw [World.size_alloc] at this
              exact this
            clear hin hin0 hin'
            go_wp2_with (first
              | (at_lookup; refine seen_look rfl _ _ rfl rfl rfl HSE3.out HWF.out HIN.out ?_)
              | (at_builtin; refine app elem_ent rfl (.tmp 39) (.tmp 41) rfl rfl HROW.out rfl HRN.out (one_row [x]) (by unfold maxLen; omega) (by omega) ?_)
              | fail)
            intro v5 w5 hg5
            have hW5 := HWA.out.push HQL.out HQ4.out hg5
            rw [← HP.out] at hW5
            have HW5 := Lib.hid hW5
            clear hg5 hW5 HROW HQ4 HWA r0 r1 r2 x0 x1 x2
            go_wp2
            go_roundw
            case rel => exact ⟨j + 1, _, by omega, by go_num, rfl, HW5.out⟩
            case measure => simp [intOf]; omega
        · have hsx : xs.take j = xs := List.take_of_length_le (by have := HN.out; omega)
          have hW := HW.out
          have hQL := HQL.out
          rw [hsx] at hW hQL
          have HM3 := Lib.hid (HM2.out.quietly hW.quiet)
          obtain ⟨c0, c1, cf⟩ := HM3.out.cells
          rw [HN.out] at c1
          by_cases hqn2 : q < n
          · have hkey3 : ∀ y ∈ prunX ps xs, Keyd wr K y := fun y hy => (HKEY.out y (mem_prunX hy)).quietly hW.quiet
            obtain ⟨A4, c4, hv4, hc4, hcm4, hrd4⟩ := own_form hW.row
            rw [hQL] at hv4 hc4 hrd4
            injection hv4 with e1 _ e3
            subst e1 e3
            have HB := Lib.hid (build_any K _ (prunX ps xs) Av q cv' wr hQL hrd4 hkey3 (fun k x => (HM3.out.subK k x).2.2.2) hc4 hcm4 (by omega))
            have HPL2 := Lib.hid hQL
            have d0 : ((0 : Int) < (n : Int) - (q : Int)) := by omega
            clear hsx hW hQL hkey3 hc4 hcm4 hrd4 HQL HW
            go_wp2_with fail
            refine HB.out.mono ?_
            rintro r w5 ⟨rb5, h5, F5, rfl, hq5, hn5, hF5⟩
            obtain ⟨k0, k1, kf⟩ := (HM3.out.quietly hq5).cells
            have HRES : Hid (POST (.returned (.int .i64 ((n : Int) - (q : Int)))) ((w5.setCell ⟨tb, 0, none⟩ (ptrV rb5)).setCell ⟨tb, 1, none⟩ (.int .i64 (q : Int)))) := by
              have h6 := HM3.out.built hq5 hn5 hF5 (c' := (q : Int)) (by rw [HPL2.out])
              rw [← HPOST.out]
              have h7 : (prunE ps (ents xs)).length = q := by rw [← ents_prunX, List.length_map, HPL2.out]
              refine ⟨by rw [HEX.out, HN.out, h7], h6.only, ?_⟩
              have := h6.is (by rw [HPL2.out]) (by rw [ents_prunX]; exact HRIS.out.prune ps)
              rw [ents_prunX] at this
              exact this
            clear hn5 hF5 hq5 HB HM3 c0 c1 cf
            go_wp2
            exact HRES.out
          · have hsame := prunX_same (ps := ps) (xs := xs) (by rw [hQL, HN.out]; omega)
            have HRES : Hid (POST (.returned (.int .i64 ((n : Int) - (q : Int)))) wr) := by
              rw [← HPOST.out]
              have h7 : (prunE ps (ents xs)).length = q := by rw [← ents_prunX, List.length_map, hQL]
              refine ⟨by rw [HEX.out, HN.out, h7], HM3.out.only, ?_⟩
              rw [← ents_prunX, hsame]
              exact HM3.out.is rfl HRIS.out
            have d0 : ¬ ((0 : Int) < (n : Int) - (q : Int)) := by omega
            clear hsx hW hQL hsame HQL HW
            go_wp2
            exact HRES.out

end Go.Proofs.Ytbeenpobppkhdaa
