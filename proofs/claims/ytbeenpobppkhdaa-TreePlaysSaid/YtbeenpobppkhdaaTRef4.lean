/- The document's Prune and Scan on its tree. No condition. -/
import Derived.Test.YtbeenpobppkhdaaTRef3
namespace Go.Lap
theorem in_take {ps : List (Int × Int)} {i : Nat} {p q : Int × Int} (h : ps[i]? = some p) : decide (q ∈ ps.take (i + 1)) = (decide (q ∈ ps.take i) || (decide (p.1 = q.1) && decide (p.2 = q.2))) := by
  rw [take_succ_get h]
  have e : (q ∈ ps.take i ++ [p]) ↔ (q ∈ ps.take i ∨ (p.1 = q.1 ∧ p.2 = q.2)) := by
    rw [List.mem_append, List.mem_singleton]
    constructor
    · rintro (x | x)
      · exact Or.inl x
      · subst x; exact Or.inr ⟨rfl, rfl⟩
    · rintro (x | ⟨x, y⟩)
      · exact Or.inl x
      · exact Or.inr (Prod.ext x.symm y.symm)
  by_cases a : q ∈ ps.take i <;> by_cases b : p.1 = q.1 <;> by_cases c : p.2 = q.2 <;> simp [e, a, b, c]
end Go.Lap
namespace Go.Proofs.Ytbeenpobppkhdaa
open Go.RowKit Go.Lap

/-- What stays of the document's, on its way. -/
structure StayR (w2 wr : World) (v : Value) (ys : List EV) : Prop where
  quiet : Quiet w2 wr
  row : RRow wr v ys
  new : ∀ k, v.ownBlock = some k → w2.heap.size ≤ k

theorem StayR.quietly {w2 wr w' : World} {v : Value} {ys : List EV} (h : StayR w2 wr v ys) (hq : Quiet wr w') : StayR w2 w' v ys := ⟨h.quiet.trans hq, owns_kept h.row hq (fun _ _ x => x), h.new⟩

theorem StayR.push {w2 wr wa w5 : World} {v v5 : Value} {ys : List EV} {x : EV} {m : Nat} (h : StayR w2 wr v ys) (hm : ys.length = m) (hq : Quiet wr wa) (hg : Grew wa w5 31 3 v v5 (m + 1) (rowV ys ++ x.cells)) : StayR w2 w5 v5 (ys ++ [x]) := by
  have h1 := h.quiet.size
  have h2 := hq.size
  refine ⟨(h.quiet.trans hq).trans' hg.only (fun k hk e => by have := h.new k e; omega), ?_, fun k e => ?_⟩
  · unfold RRow
    rw [rowV_append, rowV_one, List.length_append, hm]
    exact hg.own
  · rcases hg.loc with y | y
    · rw [y] at e; exact h.new k e
    · rw [y] at e; injection e with e; omega

def rprunePost (w : World) (F : Nat → Prop) (xb : Nat) (es : List Ent) (ps : List (Int × Int)) (r : Ending) (w' : World) : Prop :=
  r = .returned (.int .i64 ((es.length : Int) - ((prunE ps es).length : Int))) ∧ Only (· = xb) w w' ∧ RefIs w' (fun k => F k ∨ w.heap.size ≤ k) xb (prunE ps es)

set_option maxHeartbeats 4000000 in
set_option maxRecDepth 100000 in
theorem ref_prune (w : World) (F : Nat → Prop) (xb : Nat) (es : List Ent) (ps : List (Int × Int)) (A : Option Addr) (m c : Nat) (S : Nat → Prop) (ht : RefIs w F xb es) (hr : Rd w S 2 A m (tidsV ps)) (hpl : ps.length = m) (hm : m ≤ 10000) (hn : es.length ≤ 10000) :
    Calls Try.prog 20 #[ptrV xb, .slice A m c] w (rprunePost w F xb es ps) := by
  obtain ⟨v, xs, hmid, hes, hris⟩ := ht
  subst hes
  obtain ⟨B, cv, hv, _, _, hrd⟩ := own_form hmid.row
  subst hv
  obtain ⟨n, hnn⟩ : ∃ n, xs.length = n := ⟨_, rfl⟩
  have HN := Lib.hid hnn
  have hxl : n ≤ 10000 := by rw [← hnn]; simpa using hn
  have b0 : w.cell? ⟨xb, 0, none⟩ = some (.slice B n cv) := by rw [cell_of hmid.box, hnn]; rfl
  have HMID := Lib.hid hmid
  have HRIS := Lib.hid hris
  have HRD := Lib.hid hrd
  have HR := Lib.hid hr
  have HPL := Lib.hid hpl
  have hex : (ents xs).length = n := by simp [hnn]
  have HEX := Lib.hid hex
  obtain ⟨POST, hPOST⟩ : ∃ POST, rprunePost w F xb (ents xs) ps = POST := ⟨_, rfl⟩
  rw [hPOST]
  have HPOST := Lib.hid hPOST
  clear hmid hris hrd hr hpl hPOST hn hex hnn
  go_enter Try.func20, Try.ntmps20
  go_wp2_with fail
  go_loopw [19, 5, 7, 8, 10] (fun ci cv' _ _ _ wr => ∃ (j : Nat) (v' : Value), j ≤ n ∧ ci = .int .i64 (j : Int) ∧ v' = cv' ∧ StayR w wr v' (prunX ps (xs.take j))) (fun ci _ _ _ _ _ => n - (intOf ci).toNat)
  case atStart => exact ⟨0, _, Nat.zero_le _, rfl, rfl, Only.refl _ _, World.ownsRow_nil _ _ _ _, fun k e => by cases e⟩
  case round =>
    obtain ⟨j, v', hj, rfl, rfl, hW⟩ := hrel
    have HW := Lib.hid hW
    obtain ⟨Av, cv', hvv, _, _, _⟩ := own_form hW.row
    obtain ⟨q, hq⟩ : ∃ q, (prunX ps (xs.take j)).length = q := ⟨_, rfl⟩
    have hqn : q ≤ j := by have := prunX_len ps (xs.take j); rw [List.length_take] at this; omega
    have HQL := Lib.hid hq
    rw [hq] at hvv
    subst hvv
    clear hW hq b0
    by_cases hjn : j < n
    · obtain ⟨x, hx⟩ : ∃ x, xs[j]? = some x := ⟨_, List.getElem?_eq_getElem (by have := HN.out; omega)⟩
      obtain ⟨b, off, rfl, r0, r1, r2⟩ := row_cells (HRD.out.kept HW.out.quiet (fun _ _ x => x)) hx
      have HWA := Lib.hid (HW.out.quietly ((Only.refl (fun _ => False) wr).alloc (.cells #[.slice x.A x.e.key.length x.c, .int .i64 x.e.pg, .int .i64 x.e.sl] 31)))
      have HTS := Lib.hid (take_succ_get hx)
      have HBX := Lib.hid (alloc_new wr (.cells #[.slice x.A x.e.key.length x.c, .int .i64 x.e.pg, .int .i64 x.e.sl] 31))
      have d0 : (0 : Int) ≤ (j : Int) := by omega
      have d1 : (j : Int) < (n : Int) := by omega
      clear hx
      go_wp2_with fail
      clear r0 r1 r2 HW
      generalize wr.alloc (.cells #[.slice x.A x.e.key.length x.c, .int .i64 x.e.pg, .int .i64 x.e.sl] 31) = wa at HWA HBX ⊢
      generalize wr.heap.size = eb at HBX ⊢
      go_loopw [25, 8, 10] (fun ci cg _ wr' => ∃ (i : Nat), i ≤ m ∧ ci = .int .i64 (i : Int) ∧ cg = .bool (decide ((x.e.pg, x.e.sl) ∈ ps.take i)) ∧ Quiet wa wr') (fun ci _ _ _ => m - (intOf ci).toNat)
      case atStart => exact ⟨0, Nat.zero_le _, rfl, by simp, Only.refl _ _⟩
      case round =>
        obtain ⟨i, hi, rfl, rfl, hqi⟩ := hrel
        have HQI := Lib.hid hqi
        clear hqi
        by_cases him : i < m
        · obtain ⟨p, hp⟩ : ∃ p, ps[i]? = some p := ⟨_, List.getElem?_eq_getElem (by have := HPL.out; omega)⟩
          obtain ⟨bp, offp, rfl, _, c0, c1⟩ := tid_cells ((HR.out.kept HWA.out.quiet (fun _ _ x => x)).kept HQI.out (fun _ _ x => x)) hp
          have HIT := Lib.hid (in_take (q := (x.e.pg, x.e.sl)) hp)
          obtain ⟨bb, hbb⟩ : ∃ bb, decide ((x.e.pg, x.e.sl) ∈ ps.take i) = bb := ⟨_, rfl⟩
          rw [hbb] at HIT ⊢
          have HQA := Lib.hid (HQI.out.alloc (.cells #[.int .i64 p.1, .int .i64 p.2] 29))
          obtain ⟨e0, e1, e2⟩ := rent_cells (HQA.out.get HBX.out (fun x => x))
          have a0 : (wr.alloc (.cells #[.int .i64 p.1, .int .i64 p.2] 29)).cell? ⟨wr.heap.size, 0, none⟩ = some (.int .i64 p.1) := by rw [cell_of (alloc_new wr _)]; rfl
          have a1 : (wr.alloc (.cells #[.int .i64 p.1, .int .i64 p.2] 29)).cell? ⟨wr.heap.size, 1, none⟩ = some (.int .i64 p.2) := by rw [cell_of (alloc_new wr _)]; rfl
          have d2 : (0 : Int) ≤ (i : Int) := by omega
          have d3 : (i : Int) < (m : Int) := by omega
          clear hp hbb
          by_cases g1 : p.1 = x.e.pg
          · have p1 : (p.1 == x.e.pg) = true := beq_iff_eq.2 g1
            by_cases g2 : p.2 = x.e.sl
            · have p2 : (p.2 == x.e.sl) = true := beq_iff_eq.2 g2
              have HGO : Hid (Value.bool true = .bool (decide ((x.e.pg, x.e.sl) ∈ ps.take (i + 1)))) := by
                show Value.bool true = .bool _
                rw [HIT.out, decide_eq_true (show p.1 = (x.e.pg, x.e.sl).1 from g1), decide_eq_true (show p.2 = (x.e.pg, x.e.sl).2 from g2)]; simp
              clear g1 g2
              cases bb
              all_goals
                go_wp2
                go_roundw
                case rel => exact ⟨i + 1, by omega, by go_num, HGO.out, HQA.out⟩
                case measure => simp [intOf]; omega
            · have p2 : (p.2 == x.e.sl) = false := beq_eq_false_iff_ne.2 g2
              have HGO : Hid (Value.bool bb = .bool (decide ((x.e.pg, x.e.sl) ∈ ps.take (i + 1)))) := by
                show Value.bool bb = .bool _
                rw [HIT.out, decide_eq_false (show ¬ p.2 = (x.e.pg, x.e.sl).2 from g2)]; simp
              clear g1 g2
              cases bb
              all_goals
                go_wp2
                go_roundw
                case rel => exact ⟨i + 1, by omega, by go_num, HGO.out, HQA.out⟩
                case measure => simp [intOf]; omega
          · have p1 : (p.1 == x.e.pg) = false := beq_eq_false_iff_ne.2 g1
            have HGO : Hid (Value.bool bb = .bool (decide ((x.e.pg, x.e.sl) ∈ ps.take (i + 1)))) := by
              show Value.bool bb = .bool _
              rw [HIT.out, decide_eq_false (show ¬ p.1 = (x.e.pg, x.e.sl).1 from g1)]; simp
            clear g1
            cases bb
            all_goals
              go_wp2
              go_roundw
              case rel => exact ⟨i + 1, by omega, by go_num, HGO.out, HQA.out⟩
              case measure => simp [intOf]; omega
        · have hsl : ps.take i = ps := List.take_of_length_le (by have := HPL.out; omega)
          rw [hsl]
          have HWI := Lib.hid (HWA.out.quietly HQI.out)
          obtain ⟨e0, e1, e2⟩ := rent_cells (HQI.out.get HBX.out (fun x => x))
          by_cases hin : isIn ps x.e = true
          · have HP : Hid (prunX ps (xs.take (j + 1)) = prunX ps (xs.take j)) := by
              show prunX ps (xs.take (j + 1)) = prunX ps (xs.take j)
              rw [HTS.out, prunX_in _ hin]
            rw [show decide ((x.e.pg, x.e.sl) ∈ ps) = true from hin]
            clear hin hsl
            go_wp2
            go_roundw
            case rel => exact ⟨j + 1, _, by omega, by go_num, rfl, by rw [HP.out]; exact HWI.out⟩
            case measure => simp [intOf]; omega
          · have hin0 : isIn ps x.e = false := by simpa using hin
            have HP : Hid (prunX ps (xs.take (j + 1)) = prunX ps (xs.take j) ++ [x]) := by
              show prunX ps (xs.take (j + 1)) = prunX ps (xs.take j) ++ [x]
              rw [HTS.out, prunX_out _ hin0]
            rw [show decide ((x.e.pg, x.e.sl) ∈ ps) = false from hin0]
            have HROW : Hid ((wr.alloc (.cells #[.slice x.A x.e.key.length x.c, .int .i64 x.e.pg, .int .i64 x.e.sl] 31)).ownsRow 0 31 3 (.slice Av q cv') q (rowV (prunX ps (xs.take j)))) := by
              have := owns_kept HWI.out.row ((Only.refl (fun _ => False) wr).alloc (.cells #[.slice x.A x.e.key.length x.c, .int .i64 x.e.pg, .int .i64 x.e.sl] 31)) (fun _ _ x => x)
              rw [HQL.out] at this
              exact this
            have HQ4 := Lib.hid ((Only.refl (fun _ => False) wr).alloc (.cells #[.slice x.A x.e.key.length x.c, .int .i64 x.e.pg, .int .i64 x.e.sl] 31))
            have HRN : Hid (Rd (wr.alloc (.cells #[.slice x.A x.e.key.length x.c, .int .i64 x.e.pg, .int .i64 x.e.sl] 31)) (fun _ => True) 3 (some ⟨wr.heap.size, 0, none⟩) 1 x.cells) := Rd.new wr 3 1 x.cells 31 (fun _ => True) rfl trivial
            clear hin hin0 hsl
            go_wp2_with (first
              | (at_builtin; refine app elem_rent rfl (.tmp 49) (.tmp 51) rfl rfl HROW.out rfl HRN.out (one_row [x]) (by unfold maxLen; omega) (by omega) ?_)
              | fail)
            intro v5 w5 hg5
            have hW5 := HWI.out.push HQL.out HQ4.out hg5
            rw [← HP.out] at hW5
            have HW5 := Lib.hid hW5
            clear hg5 hW5 HROW HQ4 HWI HRN e0 e1 e2
            go_wp2
            go_roundw
            case rel => exact ⟨j + 1, _, by omega, by go_num, rfl, HW5.out⟩
            case measure => simp [intOf]; omega
    · have hsx : xs.take j = xs := List.take_of_length_le (by have := HN.out; omega)
      have hW := HW.out
      have hQL := HQL.out
      rw [hsx] at hW hQL
      have HM3 := Lib.hid (HMID.out.kept hW.quiet (fun _ _ x => x))
      have b0 : wr.cell? ⟨xb, 0, none⟩ = some (.slice B n cv) := by rw [cell_of HM3.out.box, HN.out]; rfl
      have bf := fun o => frozen_of HM3.out.box o
      have HRES : Hid (POST (.returned (.int .i64 ((n : Int) - (q : Int)))) (wr.setCell ⟨xb, 0, none⟩ (.slice Av q cv'))) := by
        have h8 := HMID.out.turn hW.quiet hW.row hW.new (fun y hy => Or.inl (mem_prunX hy))
        rw [← HPOST.out]
        have h7 : (prunE ps (ents xs)).length = q := by rw [← ents_prunX, List.length_map, hQL]
        refine ⟨by rw [HEX.out, h7], h8.2, _, _, h8.1, ents_prunX ps xs, HRIS.out.prune ps⟩
      clear hsx hW hQL HQL HW
      go_wp2
      exact HRES.out

end Go.Proofs.Ytbeenpobppkhdaa
