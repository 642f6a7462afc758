/- The document's heap: Chain. No condition. -/
import Derived.Test.YtbibmgcklilpmaaRefHeap3
import Derived.Test.YtbibmgcklilpmaaChain
namespace Go.Proofs.Ytbibmgcklilpmaa
open Go.RowKit Go.Lap

/-- As many as there are have been told: there is none more. -/
theorem ChainAt.full {H : List (List (Option Tup))} {p0 p : Int × Int} {out : List (Int × Int)} (h : ChainAt H p0 out p) (hfit : ∀ T ∈ H, Fits T) (hl : out.length = usedH H) : chainH H p0 = out := by
  by_cases hp : p ∈ out
  · exact h.seen hp
  · rcases hg : hGet H p.1 p.2 with _ | t
    · exact h.gone hg
    · have := (h.step hfit hp hg).le hfit
      simp at this
      omega

/-- In the midst of Chain: where the place lies, the row. -/
structure RChainW (w wr : World) (v : Value) (out : List (Int × Int)) (p : Int × Int) : Prop where
  quiet : Quiet w wr
  box : wr.heap[w.heap.size]? = some (.cells #[.int .i64 p.1, .int .i64 p.2] 51 (0, 0))
  row : TidsAt wr v out
  own : ∀ k, v.ownBlock = some k → w.heap.size < k

section
variable {w wr w' : World} {v : Value} {out : List (Int × Int)} {p : Int × Int}
theorem RChainW.quietly (h : RChainW w wr v out p) (hq : Quiet wr w') : RChainW w w' v out p :=
  ⟨h.quiet.trans hq, hq.get h.box (fun x => x), owns_kept h.row hq (fun _ _ x => x), h.own⟩

theorem RChainW.step {w4 : World} {v' : Value} {q : Int × Int} (h : RChainW w wr v out p)
    (hg : Grew (wr.alloc (.cells #[.int .i64 p.1, .int .i64 p.2] 51)) w4 51 2 v v' (out.length + 1) (tidsV out ++ tidsV [p])) :
    RChainW w ((w4.setCell ⟨w.heap.size, 0, none⟩ (.int .i64 q.1)).setCell ⟨w.heap.size, 1, none⟩ (.int .i64 q.2)) v' (out ++ [p]) q ∧ w4.heap[w.heap.size]? = some (.cells #[.int .i64 p.1, .int .i64 p.2] 51 (0, 0)) := by
  have hown := h.own
  have hb := hg.only.get (alloc_old h.box (.cells #[.int .i64 p.1, .int .i64 p.2] 51)) (fun e => by have := hown _ e; omega)
  have hsz := lt_of_get h.box
  have hset : Only (· = w.heap.size) w4 ((w4.setCell ⟨w.heap.size, 0, none⟩ (.int .i64 q.1)).setCell ⟨w.heap.size, 1, none⟩ (.int .i64 q.2)) := ((Only.refl (· = w.heap.size) w4).setCell (p := ⟨w.heap.size, 0, none⟩) (fun _ => rfl) _).setCell (p := ⟨w.heap.size, 1, none⟩) (fun _ => rfl) _
  have hown' : ∀ k, v'.ownBlock = some k → w.heap.size < k := fun k e => by
    rcases hg.loc with x | x
    · rw [x] at e; exact hown k e
    · rw [x] at e; injection e with e; simp only [World.size_alloc] at e; omega
  refine ⟨⟨?_, ?_, ?_, hown'⟩, hb⟩
  · exact ((h.quiet.alloc _).trans' hg.only (fun k hk e => by have := hown k e; omega)).trans' hset (fun k hk e => by omega)
  · rw [set_same (set_same hb 0 _) 1 _]; rfl
  · unfold TidsAt
    rw [List.length_append, tidsV_append]
    exact owns_kept hg.own hset (fun k e x => by have := hown' k e; omega)
end

set_option maxHeartbeats 1000000 in
set_option maxRecDepth 100000 in
theorem rchain_walk (h0 : Option Addr) (H : List (List (Option Tup))) (p0 : Int × Int) (S : Nat → Prop) (w : World) (hfit : ∀ T ∈ H, Fits T) (hl : usedH H ≤ 1000000)
    (hus : ∀ W : World, Quiet w W → Calls Try.prog 92 #[.pointer h0] W fun e w' => e = .returned (.int .i64 (usedH H : Int)) ∧ Quiet W w')
    (hg0 : ∀ (W : World) (p : Int × Int), Quiet w W → hGet H p.1 p.2 = none → Calls Try.prog 94 #[.pointer h0, .agg #[.int .i64 p.1, .int .i64 p.2]] W (GetNone W))
    (hg1 : ∀ (W : World) (p : Int × Int) (t : Tup), Quiet w W → hGet H p.1 p.2 = some t → Calls Try.prog 94 #[.pointer h0, .agg #[.int .i64 p.1, .int .i64 p.2]] W (RGot W S t)) :
    Calls Try.prog 58 #[.pointer h0, .agg #[.int .i64 p0.1, .int .i64 p0.2]] w (ChainPost w (chainH H p0)) := by
  have HUS := Lib.hid hus
  have HG0 := Lib.hid hg0
  have HG1 := Lib.hid hg1
  have HF := Lib.hid hfit
  have HQ0 : Hid (Quiet w (w.alloc (.cells #[.int .i64 p0.1, .int .i64 p0.2] 51))) := (Only.refl _ _).alloc _
  have hb0 := alloc_new w (.cells #[.int .i64 p0.1, .int .i64 p0.2] 51)
  have HB0 := Lib.hid hb0
  obtain ⟨U, hU⟩ : ∃ U, usedH H = U := ⟨_, rfl⟩
  have HU := Lib.hid hU
  rw [hU] at hl HUS
  clear hus hg0 hg1 hfit hb0 hU
  go_enter Try.func58, Try.ntmps58
  go_wp2_with fail
  refine (HUS.out _ HQ0.out).mono ?_
  rintro e w1 ⟨rfl, hq1⟩
  have HS : Hid (RChainW w w1 (.slice none 0 0) [] p0) := ⟨HQ0.out.trans hq1, hq1.get HB0.out (fun x => x), World.ownsRow_nil _ _ _ _, (fun _ x => by cases x)⟩
  clear hq1 HQ0 HB0 HUS
  go_wp2_with fail
  go_loopw [12, 5, 6, 7, 9] (fun c cv _ _ _ wr => ∃ (k : Nat) (v' : Value) (out : List (Int × Int)) (p : Int × Int), k ≤ U ∧ c = .int .i64 (k : Int) ∧ cv = v' ∧ out.length = k ∧ RChainW w wr v' out p ∧ ChainAt H p0 out p) (fun c _ _ _ _ _ => U - (intOf c).toNat)
  case atStart => exact ⟨0, _, [], p0, Nat.zero_le _, rfl, rfl, rfl, HS.out, ChainAt.start H p0⟩
  case round =>
    obtain ⟨k, v', out, p, hk, rfl, rfl, hlen, hW, hC⟩ := hrel
    have HW := Lib.hid hW
    have HC := Lib.hid hC
    have HLEN := Lib.hid hlen
    obtain ⟨c0, c1⟩ : wr.cell? ⟨w.heap.size, 0, none⟩ = some (.int .i64 p.1) ∧ wr.cell? ⟨w.heap.size, 1, none⟩ = some (.int .i64 p.2) := ⟨by rw [cell_of hW.box]; rfl, by rw [cell_of hW.box]; rfl⟩
    clear hW hC HS
    by_cases hlt : k < U
    · rcases hg : hGet H p.1 p.2 with _ | t
      · have HGT := Lib.hid (HG0.out wr p HW.out.quiet hg)
        have HEQ := Lib.hid (HC.out.gone hg)
        clear hg hlen
        go_wp2_with fail
        refine HGT.out.mono ?_
        rintro e w2 ⟨rfl, hq2⟩
        have HW2 := Lib.hid ((HW.out.quietly hq2).quietly ((Only.refl (fun _ => False) w2).alloc (.cells #[.int .u64 0, .int .u64 0, .int .u64 0, .int .i64 0, .int .i64 0, .slice none 0 0] 54)))
        clear hq2 HGT HW c0 c1
        go_wp2
        go_ret
        exact ⟨_, rfl, HW2.out.quiet, fun k e => by have := HW2.out.own k e; omega, by rw [HEQ.out]; exact HW2.out.row⟩
      · have HGT := Lib.hid (HG1.out wr p t HW.out.quiet hg)
        have HGG := Lib.hid hg
        clear hg
        go_wp2_with fail
        refine HGT.out.mono ?_
        rintro e w2 ⟨A2, c2, rfl, hq2, hd2⟩
        unfold tupV
        have HW2 := Lib.hid ((HW.out.quietly hq2).quietly ((Only.refl (fun _ => False) w2).alloc (.cells #[.int .u64 (t.row : Int), .int .u64 (t.xmin : Int), .int .u64 (t.xmax : Int), .int .i64 t.pg, .int .i64 t.sl, .slice A2 t.data.length c2] 54)))
        have hT2 := alloc_new w2 (.cells #[.int .u64 (t.row : Int), .int .u64 (t.xmin : Int), .int .u64 (t.xmax : Int), .int .i64 t.pg, .int .i64 t.sl, .slice A2 t.data.length c2] 54)
        have HT2 := Lib.hid hT2
        clear hd2 HGT HW c0 c1 hT2 hq2
        obtain ⟨A, c, hv, hc, hcm, hf⟩ := tids_form HW2.out.row
        rw [hlen] at hv hc
        subst hv
        unfold maxLen at hcm
        have HF2 := Lib.hid hf
        clear hf hlen
        go_upto_region 6 with fail
        generalize w2.alloc (.cells #[.int .u64 (t.row : Int), .int .u64 (t.xmin : Int), .int .u64 (t.xmax : Int), .int .i64 t.pg, .int .i64 t.sl, .slice A2 t.data.length c2] 54) = wa at HW2 HT2 HF2 ⊢
        generalize w2.heap.size = tb at HT2 ⊢
        go_wp2_with fail
        go_loopw [24, 9] (fun c' _ wr' => ∃ j : Nat, j ≤ k ∧ c' = .int .i64 (j : Int) ∧ Quiet wa wr' ∧ ∀ i, i < j → out[i]? ≠ some p) (fun c' _ _ => k - (intOf c').toNat)
        case atStart => exact ⟨0, Nat.zero_le _, rfl, Only.refl _ _, fun i hi => by omega⟩
        case round =>
          obtain ⟨j, hj, rfl, hq, hne⟩ := hrel
          have HQ := Lib.hid hq
          have HNE := Lib.hid hne
          have hbw := hq.get HW2.out.box (fun x => x)
          obtain ⟨c0, c1⟩ : wr.cell? ⟨w.heap.size, 0, none⟩ = some (.int .i64 p.1) ∧ wr.cell? ⟨w.heap.size, 1, none⟩ = some (.int .i64 p.2) := ⟨by rw [cell_of hbw]; rfl, by rw [cell_of hbw]; rfl⟩
          clear hne
          by_cases hlj : j < k
          · obtain ⟨q, hqq⟩ : ∃ q, out[j]? = some q := ⟨_, List.getElem?_eq_getElem (by have := HLEN.out; omega)⟩
            obtain ⟨g, rfl, q0, q1⟩ := HF2.out j q hqq
            replace q0 := hq.cell q0 (fun x => x)
            replace q1 := hq.cell q1 (fun x => x)
            have HQQ := Lib.hid hqq
            have hbl := lt_of_get hbw
            have hbn : ¬ w.heap.size = wr.heap.size := by omega
            clear hqq hq hbw
            have HIN : Hid (q = p → p ∈ out) := fun e => by rw [← e]; exact List.mem_of_getElem? HQQ.out
            have HO := fun x y => Lib.hid (HW2.out.quietly (HQ.out.alloc (.cells #[.int .i64 x, .int .i64 y] 51)))
            have HNX : Hid (q ≠ p → ∀ i, i < j + 1 → out[i]? ≠ some p) := fun e i hi x => by
              rcases Nat.lt_or_ge i j with y | y
              · exact HNE.out i y x
              · obtain rfl : i = j := by omega
                rw [HQQ.out] at x
                injection x with x
                exact e x
            by_cases e0 : q.1 = p.1
            · have d0 : (q.1 == p.1) = true := by simp [e0]
              by_cases e1 : q.2 = p.2
              · have d1 : (q.2 == p.2) = true := by simp [e1]
                have HEQ := Lib.hid (HC.out.seen (HIN.out (Prod.ext e0 e1)))
                clear e0 e1
                go_wp2
                go_ret
                exact ⟨_, rfl, (HO _ _).out.quiet, fun k e => by have := (HO q.1 q.2).out.own k e; omega, by rw [HEQ.out]; exact (HO _ _).out.row⟩
              · have d1 : (q.2 == p.2) = false := by simp [e1]
                have HN2 := Lib.hid (HNX.out (fun e => e1 (by rw [e])))
                clear e0 e1
                go_wp2
                go_roundw
                case rel => exact ⟨j + 1, by omega, by go_num, HQ.out.alloc _, HN2.out⟩
                case measure => simp [intOf]; omega
            · have d0 : (q.1 == p.1) = false := by simp [e0]
              have HN2 := Lib.hid (HNX.out (fun e => e0 (by rw [e])))
              clear e0
              go_wp2
              go_roundw
              case rel => exact ⟨j + 1, by omega, by go_num, HQ.out.alloc _, HN2.out⟩
              case measure => simp [intOf]; omega
          · obtain rfl : j = k := by omega
            have HPN : Hid (p ∉ out) := fun hin => by
              obtain ⟨i, hi⟩ := List.mem_iff_getElem?.1 hin
              exact HNE.out i (by have := (List.getElem?_eq_some_iff.1 hi).1; have := HLEN.out; omega) hi
            have HWR := Lib.hid (HW2.out.quietly HQ.out)
            have HTR := Lib.hid (HQ.out.get HT2.out (fun x => x))
            have HROW := Lib.hid (owns_kept HWR.out.row ((Only.refl (fun _ => False) wr).alloc (.cells #[.int .i64 p.1, .int .i64 p.2] 51)) (fun _ _ x => x))
            rw [HLEN.out] at HROW
            clear hq hbw HT2
            go_wp2_with (at_builtin; refine app elem_tid rfl (.tmp 42) (.tmp 44) rfl rfl HROW.out rfl (tids_new _ p) (one_tids [p]) (by unfold maxLen; omega) (by omega) ?_)
            intro v4 w4 hg4
            have hg4' : Grew (wr.alloc (.cells #[.int .i64 p.1, .int .i64 p.2] 51)) w4 51 2 (.slice A j c) v4 (out.length + 1) (tidsV out ++ tidsV [p]) := by rw [HLEN.out]; exact hg4
            have HST := Lib.hid (HWR.out.step (q := (t.pg, t.sl)) hg4')
            have ht4 := hg4.only.get (alloc_old HTR.out (.cells #[.int .i64 p.1, .int .i64 p.2] 51)) (fun e => by
              obtain ⟨d, hd⟩ := own_blk HWR.out.row e
              exact absurd rfl (ne_type hd HTR.out (by decide)))
            have hb4 := HST.out.2
            clear c0 c1 hg4' hg4 HROW
            obtain ⟨c0, c1⟩ : w4.cell? ⟨w.heap.size, 0, none⟩ = some (.int .i64 p.1) ∧ w4.cell? ⟨w.heap.size, 1, none⟩ = some (.int .i64 p.2) := ⟨by rw [cell_of hb4]; rfl, by rw [cell_of hb4]; rfl⟩
            obtain ⟨d0, d1⟩ : w4.cell? ⟨tb, 3, none⟩ = some (.int .i64 t.pg) ∧ w4.cell? ⟨tb, 4, none⟩ = some (.int .i64 t.sl) := ⟨by rw [cell_of ht4]; rfl, by rw [cell_of ht4]; rfl⟩
            have fz := fun o => frozen_of hb4 o
            clear hb4 ht4
            go_wp2
            go_roundw
            case rel => exact ⟨j + 1, _, out ++ [p], (t.pg, t.sl), by omega, by go_num, rfl, by simp [HLEN.out], HST.out.1, HC.out.step HF.out HPN.out HGG.out⟩
            case measure => simp [intOf]; omega
    · obtain rfl : k = U := by omega
      have HEQ := Lib.hid (HC.out.full HF.out (by rw [HU.out]; exact hlen))
      clear hlen
      go_wp2
      go_ret
      exact ⟨_, rfl, HW.out.quiet, fun k e => by have := HW.out.own k e; omega, by rw [HEQ.out]; exact HW.out.row⟩

theorem rchain_any {w : World} {xb qb : Nat} {F : Nat → Prop} {H : List (List (Option Tup))} (p : Int × Int) (h : RHeapIs w xb qb F H) (h256 : H.length ≤ 256) (hfit : ∀ T ∈ H, Fits T) (hl : usedH H ≤ 1000000) :
    Calls Try.prog 58 #[.pointer (some ⟨xb, 0, none⟩), .agg #[.int .i64 p.1, .int .i64 p.2]] w (ChainPost w (chainH H p)) :=
  rchain_walk _ H p F w hfit hl (fun W hq => rused_any (h.kept hq (fun _ _ x => x)) h256) (fun W q hq hg => rget_none q.1 q.2 (h.kept hq (fun _ _ x => x)) hg) (fun W q t hq hg => rget_some q.1 q.2 t (h.kept hq (fun _ _ x => x)) hg)

theorem rchain_nil (p : Int × Int) (w : World) :
    Calls Try.prog 58 #[.pointer none, .agg #[.int .i64 p.1, .int .i64 p.2]] w (ChainPost w []) := by
  have e : chainH [] p = [] := by
    unfold chainH
    rw [chainP_succ]
    have : hGet [] p.1 p.2 = none := hGet_out (by simp; omega)
    rw [this]
    simp
  rw [← e]
  exact rchain_walk none [] p (fun _ => False) w (fun T hT => by simp at hT) (by show usedH [] ≤ _; exact Nat.zero_le _) (fun W _ => rused_nil W) (fun W q _ _ => rget_nil q.1 q.2 W) (fun W q t _ hg => by rw [hGet_out (by simp; omega)] at hg; cases hg)

end Go.Proofs.Ytbibmgcklilpmaa
